/- The contracts of fields.sixteen and fields.plain: a sixteenth's digit, and what a name or a value says, through a strings.Builder. -/
import Derived.Test.YtmddmlmmmgbejaaDoorHandA
import Derived.Deep.LoopGhost
import Derived.Deep.QuietTactic
import Derived.BigQuiet
import Derived.WideLaws
namespace Go.Proofs.YtmddmlmmmgbejaaDoor.Hand
open Go.RowKit Go.Proofs.YtmddmlmmmgbejaaDoorW.PrintWords Go.Proofs.YtmddmlmmmgbejaaDoorW.PrintLast Go.Proofs.YtmddmlmmmgbejaaDoorW.PrintMore
set_option linter.unusedVariables false
set_option linter.unusedSimpArgs false

/-- A great letter, made small. -/
def lowV (c : Int) : Int := if 65 ≤ c ∧ c ≤ 70 then Go.bits .or .u8 c 32 else c
def hexS : ByteArray := ⟨#[48, 49, 50, 51, 52, 53, 54, 55, 56, 57, 97, 98, 99, 100, 101, 102]⟩
def sixteenV (c : Int) : Int := Lib.indexByte hexS.data.toList (lowV c).toNat.toUInt8
set_option maxHeartbeats 1000000 in
theorem sixteen_calls (c : Int) (w : World) :
    Calls Tryd.prog 27 #[.int .u8 c] w fun e w' => e = .returned (.int .i64 (sixteenV c)) ∧ ∃ n, w' = w.drewN n := by
  have HI := fun x => Aside0.mk (Tryd.strings_IndexByte hexS x w)
  unfold hexS at HI
  by_cases c1 : 65 ≤ c
  · by_cases c2 : c ≤ 70
    · have d1 : decide (65 ≤ c) = true := decide_eq_true c1
      have d2 : decide (c ≤ 70) = true := decide_eq_true c2
      have e : lowV c = Go.bits .or .u8 c 32 := if_pos ⟨c1, c2⟩
      have HE := Aside0.mk e
      clear c1 c2 e
      go_enter Tryd.func27, Tryd.ntmps27
      go_wp2_with (go_at_call 30; (refine ((HI _).out).mono ?_); rintro e w' ⟨rfl, rfl⟩)
      go_ret
      exact ⟨by unfold sixteenV; rw [HE.out]; rfl, ⟨0, rfl⟩⟩
    · have d1 : decide (65 ≤ c) = true := decide_eq_true c1
      have d2 : decide (c ≤ 70) = false := decide_eq_false c2
      have e : lowV c = c := if_neg (fun h => c2 h.2)
      have HE := Aside0.mk e
      clear c1 c2 e
      go_enter Tryd.func27, Tryd.ntmps27
      go_wp2_with (go_at_call 30; (refine ((HI _).out).mono ?_); rintro e w' ⟨rfl, rfl⟩)
      go_ret
      exact ⟨by unfold sixteenV; rw [HE.out]; rfl, ⟨0, rfl⟩⟩
  · have d1 : decide (65 ≤ c) = false := decide_eq_false c1
    have e : lowV c = c := if_neg (fun h => c1 h.1)
    have HE := Aside0.mk e
    clear c1 e
    go_enter Tryd.func27, Tryd.ntmps27
    go_wp2_with (go_at_call 30; (refine ((HI _).out).mono ?_); rintro e w' ⟨rfl, rfl⟩)
    go_ret
    exact ⟨by unfold sixteenV; rw [HE.out]; rfl, ⟨0, rfl⟩⟩

theorem cells_snoc (acc : List UInt8) (V : Int) (h0 : 0 ≤ V) (h1 : V ≤ 255) : Lib.byteCells acc ++ [.int .u8 V] = Lib.byteCells (acc ++ [V.toNat.toUInt8]) := by
  obtain ⟨n, rfl⟩ := Int.eq_ofNat_of_zero_le h0
  have e : (n.toUInt8).toNat = n := by
    rw [show n.toUInt8 = UInt8.ofNat n from rfl, UInt8.toNat_ofNat']
    omega
  unfold Lib.byteCells
  rw [List.map_append]
  simp [e]
theorem cells_len (acc : List UInt8) : (Lib.byteCells acc).length = acc.length := by unfold Lib.byteCells; rw [List.length_map]
/-- A builder of the call's own, at block B, that holds these bytes. -/
abbrev Bld (B : Nat) (acc : List UInt8) (w : World) : Prop := Lib.IsBuilder 53 5 B B (Lib.byteCells acc) w
theorem Bld_lt {B : Nat} {acc : List UInt8} {w : World} (h : Bld B acc w) : B ≤ w.heap.size := by
  rcases h with h | h <;> exact Nat.le_of_lt h.lt
theorem put_byte (B : Nat) (acc : List UInt8) (V : Int) (w0 w : World) (h : Bld B acc w) (hb : Below B w0 w) (hl : acc.length ≤ 140737488351232) (h0 : 0 ≤ V) (h1 : V ≤ 255) :
    Calls Tryd.prog 26 #[.pointer (some ⟨B, 0, none⟩), .int .u8 V] w fun e w' => e = .returned .nilIface ∧ (Aside0 (Bld B (acc ++ [V.toNat.toUInt8]) w') ∧ Aside0 (Below B w0 w')) := by
  refine (Builder_WriteByte B B (Lib.byteCells acc) V w h (by rw [cells_len]; omega) (Bld_lt h)).mono ?_
  rintro e w' ⟨rfl, hB, hw⟩
  rw [cells_snoc acc V h0 h1] at hB
  exact ⟨rfl, ⟨.inr hB⟩, ⟨hb.trans hw⟩⟩

def plainGo (s : ByteArray) : Nat → Int → List UInt8 → Option (ByteArray × Bool)
  | 0, _, _ => none
  | k + 1, x, acc => if x < (s.size : Int) then (if 0 ≤ x then (if acc.length ≤ 140737488351232 then
      (if bt s x = 43 then plainGo s k (wrap64 (x + 1)) (acc ++ [(32 : Int).toNat.toUInt8])
       else (if bt s x = 37 then
         (if (s.size : Int) ≤ wrap64 (x + 2) then some (⟨#[]⟩, false)
          else (if 0 ≤ wrap64 (x + 1) then (if wrap64 (x + 1) < (s.size : Int) then (if 0 ≤ wrap64 (x + 2) then
             (if sixteenV (bt s (wrap64 (x + 1))) < 0 then some (⟨#[]⟩, false) else (if sixteenV (bt s (wrap64 (x + 2))) < 0 then some (⟨#[]⟩, false)
              else plainGo s k (wrap64 (wrap64 (x + 2) + 1)) (acc ++ [(Go.bits .or .i64 (wrap64 (sixteenV (bt s (wrap64 (x + 1))) * 16)) (sixteenV (bt s (wrap64 (x + 2)))) % 256).toNat.toUInt8]))) else none) else none) else none))
       else plainGo s k (wrap64 (x + 1)) (acc ++ [(bt s x).toNat.toUInt8]))) else none) else none) else some (⟨acc.toArray⟩, true)
def fields_plain.f (k : Nat) (a0 : ByteArray) : Option (ByteArray × Bool) := plainGo a0 k 0 []
set_option maxHeartbeats 4000000 in
set_option maxRecDepth 100000 in
theorem fields_plain.calls (k : Nat) (a0 : ByteArray) (r1 : ByteArray) (r2 : Bool) (w : World) (h : fields_plain.f k a0 = some (r1, r2)) :
    Calls Tryd.prog 19 #[.string a0] w fun e w' => e = .returned (.tuple #[.string r1, .bool r2]) ∧ Below w.heap.size w w' := by
  have HF := Aside0.mk (show Bld w.heap.size [] (w.alloc (.cells #[.pointer none, .slice none 0 0] 53)) from Lib.fresh_isBuilder 53 5 w)
  have HB0 := Aside0.mk ((Below.refl w.heap.size w).alloc (Nat.le_refl _) (.cells #[.pointer none, .slice none 0 0] 53))
  have HA := Aside0.mk (show plainGo a0 k 0 [] = some (r1, r2) from h)
  clear h
  go_enter Tryd.func19, Tryd.ntmps19
  go_wp2
  go_loopg [5] k (fun kq v5 w' => ∃ (x : Int) (acc : List UInt8), v5 = .int .i64 x ∧ Aside0 (plainGo a0 kq x acc = some (r1, r2)) ∧ Aside0 (kq ≤ k) ∧ Aside0 (Bld w.heap.size acc w') ∧ Aside0 (Below w.heap.size w w'))
  case atStart => exact ⟨0, [], rfl, HA, ⟨Nat.le_refl _⟩, HF, HB0⟩
  case round =>
    clear HA HF HB0
    obtain ⟨x, acc, rfl, HA, HK, HBl, HB⟩ := hrel
    cases gk with
    | zero => exact absurd HA.out (by simp [plainGo])
    | succ k1 =>
      have H := HA.out
      clear HA
      simp only [plainGo] at H
      by_cases c1 : x < (a0.size : Int)
      · rw [if_pos c1] at H
        have d1 : decide (x < (a0.size : Int)) = true := decide_eq_true c1
        by_cases c2 : 0 ≤ x
        · rw [if_pos c2] at H
          have d2 : decide (0 ≤ x) = true := decide_eq_true c2
          have hx4 := bt_at a0 x
          have hr4 := bt_range a0 x
          have p4 := eq_true c2
          have q4 := eq_true c1
          clear c1 c2
          by_cases c3 : acc.length ≤ 140737488351232
          · rw [if_pos c3] at H
            have HPut := fun (V : Int) (h0 : 0 ≤ V) (h1 : V ≤ 255) (wc : World) (hh : Bld w.heap.size acc wc) (hb : Below w.heap.size w wc) => Aside0.mk (put_byte w.heap.size acc V w wc hh hb c3 h0 h1)
            clear c3
            by_cases c5 : bt a0 x = 43
            · rw [if_pos c5] at H
              have c5b0 : (bt a0 x == 43) = true := beq_iff_eq.mpr c5
              clear c5 hr4
              have H' := Aside0.mk H
              clear H
              go_wp2_with (go_at_call 26; (refine ((HPut 32 (by omega) (by omega) _ HBl.out HB.out).out).mono ?_); rintro e w' ⟨rfl, HBl2, HB2⟩)
              go_roundg k1
              case measure => have := HK.out; omega
              case rel => exact ⟨_, _, rfl, H', ⟨by have := HK.out; omega⟩, HBl2, HB2⟩
            · rw [if_neg c5] at H
              have c5b0 : (bt a0 x == 43) = false := beq_eq_false_iff_ne.mpr c5
              clear c5
              by_cases c6 : bt a0 x = 37
              · rw [if_pos c6] at H
                have c6b0 : (bt a0 x == 37) = true := beq_iff_eq.mpr c6
                clear c6 hr4
                obtain ⟨x2, hx2⟩ : ∃ x2 : Int, x2 = wrap64 (x + 2) := ⟨_, rfl⟩
                obtain ⟨x1, hx1⟩ : ∃ x1 : Int, x1 = wrap64 (x + 1) := ⟨_, rfl⟩
                rw [← hx2, ← hx1] at H
                have hx2w : IntKind.i64.wrap (x + 2) = x2 := (i64_w _).trans hx2.symm
                have hx1w : IntKind.i64.wrap (x + 1) = x1 := (i64_w _).trans hx1.symm
                clear hx2 hx1
                by_cases e1 : (a0.size : Int) ≤ x2
                · rw [if_pos e1] at H
                  have e1b : decide ((a0.size : Int) ≤ x2) = true := decide_eq_true e1
                  clear e1
                  simp only [Option.some.injEq, Prod.mk.injEq] at H
                  obtain ⟨rfl, rfl⟩ := H
                  go_wp2
                  go_ret2
                  exact ⟨rfl, by first | exact HB.out | (apply pw_below_drewN; exact HB.out)⟩
                · rw [if_neg e1] at H
                  have e1b : decide ((a0.size : Int) ≤ x2) = false := decide_eq_false e1
                  have q6 : (x2 < (a0.size : Int)) = True := eq_true (by omega)
                  clear e1
                  by_cases e2 : 0 ≤ x1
                  · rw [if_pos e2] at H
                    have p5 := eq_true e2
                    clear e2
                    by_cases e3 : x1 < (a0.size : Int)
                    · rw [if_pos e3] at H
                      have q5 := eq_true e3
                      clear e3
                      by_cases e4 : 0 ≤ x2
                      · rw [if_pos e4] at H
                        have p6 := eq_true e4
                        clear e4
                        have hx5 := bt_at a0 x1
                        have hx6 := bt_at a0 x2
                        have HX := fun (c : Int) (wc : World) => Aside0.mk (sixteen_calls c wc)
                        by_cases f1 : sixteenV (bt a0 x1) < 0
                        · rw [if_pos f1] at H
                          have f1b : decide (sixteenV (bt a0 x1) < 0) = true := decide_eq_true f1
                          clear f1
                          simp only [Option.some.injEq, Prod.mk.injEq] at H
                          obtain ⟨rfl, rfl⟩ := H
                          go_wp2_with (go_at_call 27; (refine ((HX _ _).out).mono ?_); rintro e w' ⟨rfl, ⟨nd, rfl⟩⟩)
                          repeat (go_quiet (first | (go_at_call 27; (refine ((HX _ _).out).mono ?_); rintro e w' ⟨rfl, ⟨nd, rfl⟩⟩; (try first | exact ⟨rfl, _, World.drewN_drewN _ _ _⟩ | exact ⟨rfl, _, Eq.trans (World.drewN_drewN _ _ _) (congrArg (World.drewN _) (Nat.add_assoc _ _ _))⟩))); try go_wp2)
                          go_ret2
                          exact ⟨rfl, by first | exact HB.out | (apply pw_below_drewN; exact HB.out)⟩
                        · rw [if_neg f1] at H
                          have f1b : decide (sixteenV (bt a0 x1) < 0) = false := decide_eq_false f1
                          clear f1
                          by_cases f2 : sixteenV (bt a0 x2) < 0
                          · rw [if_pos f2] at H
                            have f2b : decide (sixteenV (bt a0 x2) < 0) = true := decide_eq_true f2
                            clear f2
                            simp only [Option.some.injEq, Prod.mk.injEq] at H
                            obtain ⟨rfl, rfl⟩ := H
                            go_wp2_with (go_at_call 27; (refine ((HX _ _).out).mono ?_); rintro e w' ⟨rfl, ⟨nd, rfl⟩⟩)
                            repeat (go_quiet (first | (go_at_call 27; (refine ((HX _ _).out).mono ?_); rintro e w' ⟨rfl, ⟨nd, rfl⟩⟩; (try first | exact ⟨rfl, _, World.drewN_drewN _ _ _⟩ | exact ⟨rfl, _, Eq.trans (World.drewN_drewN _ _ _) (congrArg (World.drewN _) (Nat.add_assoc _ _ _))⟩))); try go_wp2)
                            go_ret2
                            exact ⟨rfl, by first | exact HB.out | (apply pw_below_drewN; exact HB.out)⟩
                          · rw [if_neg f2] at H
                            have f2b : decide (sixteenV (bt a0 x2) < 0) = false := decide_eq_false f2
                            clear f2
                            have H' := Aside0.mk H
                            clear H
                            go_wp2_with (go_at_call 27; (refine ((HX _ _).out).mono ?_); rintro e w' ⟨rfl, ⟨nd, rfl⟩⟩)
                            repeat (go_quiet (first | (go_at_call 27; (refine ((HX _ _).out).mono ?_); rintro e w' ⟨rfl, ⟨nd, rfl⟩⟩; (try first | exact ⟨rfl, _, World.drewN_drewN _ _ _⟩ | exact ⟨rfl, _, Eq.trans (World.drewN_drewN _ _ _) (congrArg (World.drewN _) (Nat.add_assoc _ _ _))⟩))); try go_wp2_with (go_at_call 26; (refine ((HPut _ ?p0 ?p1 _ ?p2 ?p3).out).mono ?_); (case p0 => omega); (case p1 => omega); (case p2 => exact HBl.out); (case p3 => first | exact HB.out | (apply pw_below_drewN; exact HB.out)); rintro e w' ⟨rfl, HBl2, HB2⟩))
                            go_roundg k1
                            case measure => have := HK.out; omega
                            case rel => exact ⟨_, _, rfl, H', ⟨by have := HK.out; omega⟩, HBl2, HB2⟩
                      · rw [if_neg e4] at H
                        cases H
                    · rw [if_neg e3] at H
                      cases H
                  · rw [if_neg e2] at H
                    cases H
              · rw [if_neg c6] at H
                have c6b0 : (bt a0 x == 37) = false := beq_eq_false_iff_ne.mpr c6
                clear c6
                have H' := Aside0.mk H
                clear H
                have HR := Aside0.mk hr4
                clear hr4
                go_wp2_with (go_at_call 26; (refine ((HPut (bt a0 x) HR.out.1 HR.out.2 _ HBl.out HB.out).out).mono ?_); rintro e w' ⟨rfl, HBl2, HB2⟩)
                go_roundg k1
                case measure => have := HK.out; omega
                case rel => exact ⟨_, _, rfl, H', ⟨by have := HK.out; omega⟩, HBl2, HB2⟩
          · rw [if_neg c3] at H
            cases H
        · rw [if_neg c2] at H
          cases H
      · rw [if_neg c1] at H
        have d1 : decide (x < (a0.size : Int)) = false := decide_eq_false c1
        clear c1
        simp only [Option.some.injEq, Prod.mk.injEq] at H
        obtain ⟨rfl, rfl⟩ := H
        have HS := fun (wc : World) (hh : Bld w.heap.size acc wc) => Aside0.mk (Tryd.Builder_String_any w.heap.size w.heap.size acc wc hh (Bld_lt hh))
        go_wp2_with (go_at_call 28; (refine ((HS _ HBl.out).out).mono ?_); rintro e w' ⟨rfl, HB2⟩)
        go_ret2
        exact ⟨rfl, HB.out.trans HB2⟩
end Go.Proofs.YtmddmlmmmgbejaaDoor.Hand
