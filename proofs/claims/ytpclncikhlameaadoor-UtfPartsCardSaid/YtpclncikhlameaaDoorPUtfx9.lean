-- Written by a program of this session (a turned copy of the print): the machine's side.
import Derived.Test.YtpclncikhlameaaDoorPUtfx0
import Derived.Test.YtpclncikhlameaaDoorPUtfx1
import Derived.Test.YtpclncikhlameaaDoorPUtfx2
namespace Go.Proofs.YtpclncikhlameaaDoor.PUtf
open Go.RowKit Go.Proofs.YtpclncikhlameaaDoorW.PrintWords Go.Proofs.YtpclncikhlameaaDoorW.PrintLast Go.Proofs.YtpclncikhlameaaDoorW.PrintMore Go.Proofs.YtpclncikhlameaaDoor.Hand
attribute [local go_sem] max2_int min2_int max_two min_two max_three min_three max_four min_four   -- for this text's walks alone
set_option linter.unusedVariables false
set_option linter.unusedSimpArgs false

/-! ### pennantlaw01_UtfBack: function 5 -/
mutual
def pennantlaw01_UtfBack.j0 : Nat → ByteArray → ByteArray → Bool → Option (Bool)
  | 0, _, _, _ => none
  | k + 1, x0, x1, x32 => if x32 = true then (some true) else ((utf_Wide.f k x0).bind fun bt279 => (if bt279.2.2 = 0 then ((utf_Narrow.f k bt279.1).bind fun bt282 => (if bt282.2 = 0 then (if bt282.1.toList = x0.toList then (if bt279.2.1 = 0 then (if ((bt279.1.size : Int) % 2) = 0 then (pennantlaw01_UtfBack.j1 k x1) else (some false)) else (some false)) else (some false)) else (some false))) else ((utf_Next.f k x0 bt279.2.1).bind fun bt284 => (if bt284.2.2 = true then (some false) else (if bt279.1.toList = ([] : List UInt8) then (if bt279.2.2 = 10 then (pennantlaw01_UtfBack.j1 k x1) else (some false)) else (some false))))))
def pennantlaw01_UtfBack.j1 : Nat → ByteArray → Option (Bool)
  | 0, _ => none
  | k + 1, x1 => (utf_Narrow.f k x1).bind fun bt287 => (if bt287.2 = 0 then ((utf_Wide.f k bt287.1).bind fun bt289 => (if bt289.2.2 = 0 then ((utf_Length.f bt289.1).bind fun t292 => ((utf_Length.f x1).bind fun t293 => (pennantlaw01_UtfBack.j2 k x1 bt289.1 (t292 != t293)))) else (pennantlaw01_UtfBack.j2 k x1 bt289.1 true))) else (if bt287.1.toList = ([] : List UInt8) then (some (((x1.size : Int) % 2) == 1)) else (some false)))
def pennantlaw01_UtfBack.j2 : Nat → ByteArray → ByteArray → Bool → Option (Bool)
  | 0, _, _, _ => none
  | k + 1, x1, x15, x108 => if x108 = true then (some false) else (pennantlaw01_UtfBack.l0 k x1 x15 0)
def pennantlaw01_UtfBack.l0 : Nat → ByteArray → ByteArray → Int → Option (Bool)
  | 0, _, _, _ => none
  | k + 1, x1, x15, x18 => (utf_Length.f x1).bind fun t294 => (if x18 < t294 then ((utf_At.f x1 x18).bind fun bt295 => ((utf_At.f x15 x18).bind fun bt297 => (if bt295.1 = bt297.1 then (pennantlaw01_UtfBack.l0 k x1 x15 (wrap64 (x18 + 1))) else (if bt297.1 = 65533 then (if bt295.1 < 55296 then (some false) else (if bt295.1 > 57343 then (some false) else (pennantlaw01_UtfBack.l0 k x1 x15 (wrap64 (x18 + 1))))) else (some false))))) else (some true))
end
def pennantlaw01_UtfBack.f (k : Nat) (a0 : ByteArray) (a1 : ByteArray) : Option (Bool) := (pennantlaw01_awake.f k).bind fun t278 => (if t278 = true then (if (a0.size : Int) > 4000 then (pennantlaw01_UtfBack.j0 k a0 a1 true) else (pennantlaw01_UtfBack.j0 k a0 a1 (decide ((a1.size : Int) > 4000)))) else (some false))
theorem pennantlaw01_UtfBack.mono_l : ∀ k, (∀ y0 y1 y2, LeO (pennantlaw01_UtfBack.j0 k y0 y1 y2) (pennantlaw01_UtfBack.j0 (k + 1) y0 y1 y2)) ∧ (∀ y0, LeO (pennantlaw01_UtfBack.j1 k y0) (pennantlaw01_UtfBack.j1 (k + 1) y0)) ∧ (∀ y0 y1 y2, LeO (pennantlaw01_UtfBack.j2 k y0 y1 y2) (pennantlaw01_UtfBack.j2 (k + 1) y0 y1 y2)) ∧ (∀ y0 y1 y2, LeO (pennantlaw01_UtfBack.l0 k y0 y1 y2) (pennantlaw01_UtfBack.l0 (k + 1) y0 y1 y2))
  | 0 => ⟨fun _ _ _ r h => by simp [pennantlaw01_UtfBack.j0] at h, fun _ r h => by simp [pennantlaw01_UtfBack.j1] at h, fun _ _ _ r h => by simp [pennantlaw01_UtfBack.j2] at h, fun _ _ _ r h => by simp [pennantlaw01_UtfBack.l0] at h⟩
  | k + 1 => by
    obtain ⟨ih0, ih1, ih2, ih3⟩ := pennantlaw01_UtfBack.mono_l k
    refine ⟨?_, ?_, ?_, ?_⟩
    · intro y0 y1 y2
      unfold pennantlaw01_UtfBack.j0
      repeat' first
      | (with_reducible exact ih0 _ _ _)
      | (with_reducible exact ih1 _)
      | (with_reducible exact ih2 _ _ _)
      | (with_reducible exact ih3 _ _ _)
      | (with_reducible exact pennantlaw01_awake.mono _)
      | (with_reducible exact utf_Narrow.mono _ _)
      | (with_reducible exact utf_Next.mono _ _ _)
      | (with_reducible exact utf_Wide.mono _ _)
      | (with_reducible exact LeO.refl _)
      | (with_reducible exact LeO.none _)
      | (with_reducible refine LeO.ite ?_ ?_)
      | (with_reducible refine LeO.bind ?_ (fun _ => ?_))
      | exact ih0 _ _ _
      | exact ih1 _
      | exact ih2 _ _ _
      | exact ih3 _ _ _
      | exact pennantlaw01_awake.mono _
      | exact utf_Narrow.mono _ _
      | exact utf_Next.mono _ _ _
      | exact utf_Wide.mono _ _
      | exact LeO.none _
      | refine LeO.ite ?_ ?_
      | refine LeO.bind ?_ (fun _ => ?_)
    · intro y0
      unfold pennantlaw01_UtfBack.j1
      repeat' first
      | (with_reducible exact ih0 _ _ _)
      | (with_reducible exact ih1 _)
      | (with_reducible exact ih2 _ _ _)
      | (with_reducible exact ih3 _ _ _)
      | (with_reducible exact pennantlaw01_awake.mono _)
      | (with_reducible exact utf_Narrow.mono _ _)
      | (with_reducible exact utf_Next.mono _ _ _)
      | (with_reducible exact utf_Wide.mono _ _)
      | (with_reducible exact LeO.refl _)
      | (with_reducible exact LeO.none _)
      | (with_reducible refine LeO.ite ?_ ?_)
      | (with_reducible refine LeO.bind ?_ (fun _ => ?_))
      | exact ih0 _ _ _
      | exact ih1 _
      | exact ih2 _ _ _
      | exact ih3 _ _ _
      | exact pennantlaw01_awake.mono _
      | exact utf_Narrow.mono _ _
      | exact utf_Next.mono _ _ _
      | exact utf_Wide.mono _ _
      | exact LeO.none _
      | refine LeO.ite ?_ ?_
      | refine LeO.bind ?_ (fun _ => ?_)
    · intro y0 y1 y2
      unfold pennantlaw01_UtfBack.j2
      repeat' first
      | (with_reducible exact ih0 _ _ _)
      | (with_reducible exact ih1 _)
      | (with_reducible exact ih2 _ _ _)
      | (with_reducible exact ih3 _ _ _)
      | (with_reducible exact pennantlaw01_awake.mono _)
      | (with_reducible exact utf_Narrow.mono _ _)
      | (with_reducible exact utf_Next.mono _ _ _)
      | (with_reducible exact utf_Wide.mono _ _)
      | (with_reducible exact LeO.refl _)
      | (with_reducible exact LeO.none _)
      | (with_reducible refine LeO.ite ?_ ?_)
      | (with_reducible refine LeO.bind ?_ (fun _ => ?_))
      | exact ih0 _ _ _
      | exact ih1 _
      | exact ih2 _ _ _
      | exact ih3 _ _ _
      | exact pennantlaw01_awake.mono _
      | exact utf_Narrow.mono _ _
      | exact utf_Next.mono _ _ _
      | exact utf_Wide.mono _ _
      | exact LeO.none _
      | refine LeO.ite ?_ ?_
      | refine LeO.bind ?_ (fun _ => ?_)
    · intro y0 y1 y2
      unfold pennantlaw01_UtfBack.l0
      repeat' first
      | (with_reducible exact ih0 _ _ _)
      | (with_reducible exact ih1 _)
      | (with_reducible exact ih2 _ _ _)
      | (with_reducible exact ih3 _ _ _)
      | (with_reducible exact pennantlaw01_awake.mono _)
      | (with_reducible exact utf_Narrow.mono _ _)
      | (with_reducible exact utf_Next.mono _ _ _)
      | (with_reducible exact utf_Wide.mono _ _)
      | (with_reducible exact LeO.refl _)
      | (with_reducible exact LeO.none _)
      | (with_reducible refine LeO.ite ?_ ?_)
      | (with_reducible refine LeO.bind ?_ (fun _ => ?_))
      | exact ih0 _ _ _
      | exact ih1 _
      | exact ih2 _ _ _
      | exact ih3 _ _ _
      | exact pennantlaw01_awake.mono _
      | exact utf_Narrow.mono _ _
      | exact utf_Next.mono _ _ _
      | exact utf_Wide.mono _ _
      | exact LeO.none _
      | refine LeO.ite ?_ ?_
      | refine LeO.bind ?_ (fun _ => ?_)
theorem pennantlaw01_UtfBack.mono : ∀ a0 a1 k, LeO (pennantlaw01_UtfBack.f k a0 a1) (pennantlaw01_UtfBack.f (k + 1) a0 a1) := by
  intro a0 a1 k
  obtain ⟨ih0, ih1, ih2, ih3⟩ := pennantlaw01_UtfBack.mono_l k
  unfold pennantlaw01_UtfBack.f
  repeat' first
      | (with_reducible exact ih0 _ _ _)
      | (with_reducible exact ih1 _)
      | (with_reducible exact ih2 _ _ _)
      | (with_reducible exact ih3 _ _ _)
      | (with_reducible exact pennantlaw01_awake.mono _)
      | (with_reducible exact utf_Narrow.mono _ _)
      | (with_reducible exact utf_Next.mono _ _ _)
      | (with_reducible exact utf_Wide.mono _ _)
      | (with_reducible exact LeO.refl _)
      | (with_reducible exact LeO.none _)
      | (with_reducible refine LeO.ite ?_ ?_)
      | (with_reducible refine LeO.bind ?_ (fun _ => ?_))
      | exact ih0 _ _ _
      | exact ih1 _
      | exact ih2 _ _ _
      | exact ih3 _ _ _
      | exact pennantlaw01_awake.mono _
      | exact utf_Narrow.mono _ _
      | exact utf_Next.mono _ _ _
      | exact utf_Wide.mono _ _
      | exact LeO.none _
      | refine LeO.ite ?_ ?_
      | refine LeO.bind ?_ (fun _ => ?_)
set_option maxHeartbeats 8000000 in
set_option maxRecDepth 100000 in
theorem pennantlaw01_UtfBack.calls (k : Nat) (a0 : ByteArray) (a1 : ByteArray) (r : Bool) (w : World) (hT_ : Tabs w) (h : pennantlaw01_UtfBack.f k a0 a1 = some r) :
    Calls Tryd.prog 5 #[.string a0, .string a1] w fun e w' => e = .returned (.bool r) ∧ Below w.heap.size w w' := by
  have HT_ := Aside0.mk hT_
  clear hT_
  have HB := Aside0.mk (Below.refl w.heap.size w)
  have H : ((pennantlaw01_awake.f k).bind fun t278 => (if t278 = true then (if (a0.size : Int) > 4000 then (pennantlaw01_UtfBack.j0 k a0 a1 true) else (pennantlaw01_UtfBack.j0 k a0 a1 (decide ((a1.size : Int) > 4000)))) else (some false))) = some r := h
  clear h
  replace H := Option.bind_eq_some_iff.mp H
  obtain ⟨t278, A30, H⟩ := H
  replace H : (if t278 = true then (if (a0.size : Int) > 4000 then (pennantlaw01_UtfBack.j0 k a0 a1 true) else (pennantlaw01_UtfBack.j0 k a0 a1 (decide ((a1.size : Int) > 4000)))) else (some false)) = some r := H
  have A3 := Aside0.mk A30
  clear A30
  by_cases c4 : t278 = true
  · subst c4
    have H1 : (if (a0.size : Int) > 4000 then (pennantlaw01_UtfBack.j0 k a0 a1 true) else (pennantlaw01_UtfBack.j0 k a0 a1 (decide ((a1.size : Int) > 4000)))) = some r := by rw [if_pos rfl] at H; exact H
    clear H
    have H := H1
    clear H1
    have HC5 := Aside0.mk H
    clear H
    go_enter Tryd.func5, Tryd.ntmps5
    go_upto_region 3 with (first | ((with_reducible refine gate_callee (f := 11) rfl ?_); refine goesL_ (some 23) rfl rfl Tryd.func11 (by kernel_rfl) rfl #[] rfl (by (try simp only [List.map_toArray, List.map_cons, List.map_nil]); first | done | rfl | (simp only [List.length_drop, List.length_take]; rfl)) ?_; (with_reducible refine (pennantlaw01_awake.calls k  true _ ?side1 A3.out).mono ?_); (case side1 => exact Tabs_below HT_.out (by repeat (first | (with_reducible first | exact HB.out | apply below_alloc | apply pw_below_drewN | apply below_drew1) | exact HB.out))); rintro e w6 ⟨rfl, hb⟩; refine ⟨_, rfl, ?_⟩; have n0_ := Aside0.mk (below_step (by repeat (first | (with_reducible first | exact HB.out | apply below_alloc | apply pw_below_drewN | apply below_drew1) | exact HB.out)) hb); clear HB; have HB := n0_; clear n0_; (try clear hb); (try clear hb2); (try clear hk); (try clear hi)))
    (try simp only [Act.put, List.setIfInBounds_toArray, List.set_cons_zero, List.set_cons_succ])
    go_cut [32] (fun v32 wc => ∃ (kq : Nat) (x32_4 : Bool), v32 = .bool x32_4 ∧ Aside0 (pennantlaw01_UtfBack.j0 kq a0 a1 x32_4 = some r) ∧ Aside0 (kq ≤ k) ∧ Aside0 (Below w.heap.size w wc))
    case first =>
      have H := HC5.out
      clear HC5
      by_cases c7 : (a0.size : Int) > 4000
      · rw [if_pos c7] at H
        have c7b0 : decide (4000 < (a0.size : Int)) = true := decide_eq_true c7
        have c7b1 : decide (4000 < a0.size) = true := decide_eq_true (by omega)
        clear c7
        (first | rw [c7b0] | (simp only [i64_w, i32_w]; rw [c7b0]) | skip)
        have H' := Aside0.mk H
        clear H
        go_wp2
        go_meet
        case rel => exact ⟨_, (true), (by first | rfl | (simp; done) | (simp [*]; done)), H', ⟨by first | omega | exact Nat.le_refl _⟩, ⟨by repeat (first | (with_reducible first | exact HB.out | apply below_alloc | apply pw_below_drewN | apply below_drew1) | exact HB.out)⟩⟩
      · rw [if_neg c7] at H
        have c7b0 : decide (4000 < (a0.size : Int)) = false := decide_eq_false c7
        have c7b1 : decide (4000 < a0.size) = false := decide_eq_false (by omega)
        clear c7
        (first | rw [c7b0] | (simp only [i64_w, i32_w]; rw [c7b0]) | skip)
        have H' := Aside0.mk H
        clear H
        go_wp2
        go_meet
        case rel => exact ⟨_, (decide ((a1.size : Int) > 4000)), (by first | rfl | (simp; done) | (simp [*]; done)), H', ⟨by first | omega | exact Nat.le_refl _⟩, ⟨by repeat (first | (with_reducible first | exact HB.out | apply below_alloc | apply pw_below_drewN | apply below_drew1) | exact HB.out)⟩⟩
    case rest =>
      clear HC5
      try clear c1
      try clear p2
      try clear c4
      try clear c5
      try clear c7
      try clear c7b0
      try clear c7b1
      obtain ⟨kq, x32_4, rfl, HA, HJ4, HB⟩ := hcut
      cases kq with
      | zero => exact absurd HA.out (by simp [pennantlaw01_UtfBack.j0])
      | succ kj4 =>
        have H := HA.out
        clear HA
        simp only [pennantlaw01_UtfBack.j0] at H
        by_cases c8 : x32_4 = true
        · subst c8
          have H1 : (some true) = some r := by rw [if_pos rfl] at H; exact H
          clear H
          have H := H1
          clear H1
          obtain rfl := Option.some.inj H
          go_wp2
          go_ret
          exact ⟨by first | rfl | (simp [errW_none, errW_some] <;> rfl) | (simp [*, errW_none, errW_some] <;> rfl), by repeat (first | (with_reducible first | exact HB.out | apply below_alloc | apply pw_below_drewN | apply below_drew1) | exact HB.out)⟩
        · replace c8 := Bool.eq_false_iff.mpr c8
          subst c8
          have H1 : ((utf_Wide.f kj4 a0).bind fun bt279 => (if bt279.2.2 = 0 then ((utf_Narrow.f kj4 bt279.1).bind fun bt282 => (if bt282.2 = 0 then (if bt282.1.toList = a0.toList then (if bt279.2.1 = 0 then (if ((bt279.1.size : Int) % 2) = 0 then (pennantlaw01_UtfBack.j1 kj4 a1) else (some false)) else (some false)) else (some false)) else (some false))) else ((utf_Next.f kj4 a0 bt279.2.1).bind fun bt284 => (if bt284.2.2 = true then (some false) else (if bt279.1.toList = ([] : List UInt8) then (if bt279.2.2 = 10 then (pennantlaw01_UtfBack.j1 kj4 a1) else (some false)) else (some false)))))) = some r := by rw [if_neg (show ¬ (false = true) by decide)] at H; exact H
          clear H
          have H := H1
          clear H1
          replace H := Option.bind_eq_some_iff.mp H
          obtain ⟨⟨t279, t280, t281⟩, A90, H⟩ := H
          replace H : (if t281 = 0 then ((utf_Narrow.f kj4 t279).bind fun bt282 => (if bt282.2 = 0 then (if bt282.1.toList = a0.toList then (if t280 = 0 then (if ((t279.size : Int) % 2) = 0 then (pennantlaw01_UtfBack.j1 kj4 a1) else (some false)) else (some false)) else (some false)) else (some false))) else ((utf_Next.f kj4 a0 t280).bind fun bt284 => (if bt284.2.2 = true then (some false) else (if t279.toList = ([] : List UInt8) then (if t281 = 10 then (pennantlaw01_UtfBack.j1 kj4 a1) else (some false)) else (some false))))) = some r := H
          have A9 := Aside0.mk A90
          clear A90
          have HC10 := Aside0.mk H
          clear H
          go_upto_if 40 with (first | ((with_reducible refine gate_callee (f := 12) rfl ?_); refine goesL_ (some 35) rfl rfl Tryd.func12 (by kernel_rfl) rfl #[.string a0] rfl (by (try simp only [List.map_toArray, List.map_cons, List.map_nil]); first | done | rfl | (simp only [List.length_drop, List.length_take]; rfl)) ?_; (with_reducible refine (utf_Wide.calls kj4 a0 t279 t280 t281 _ ?side1 A9.out).mono ?_); (case side1 => exact Tabs_below HT_.out (by repeat (first | (with_reducible first | exact HB.out | apply below_alloc | apply pw_below_drewN | apply below_drew1) | exact HB.out))); rintro e w11 ⟨rfl, hb⟩; refine ⟨_, rfl, ?_⟩; have n0_ := Aside0.mk (below_step (by repeat (first | (with_reducible first | exact HB.out | apply below_alloc | apply pw_below_drewN | apply below_drew1) | exact HB.out)) hb); clear HB; have HB := n0_; clear n0_; (try clear hb); (try clear hb2); (try clear hk); (try clear hi)))
          (try simp only [Act.put, List.setIfInBounds_toArray, List.set_cons_zero, List.set_cons_succ])
          go_cut [] (fun wc => ∃ (kq : Nat), Aside0 (pennantlaw01_UtfBack.j1 kq a1 = some r) ∧ Aside0 (kq ≤ kj4) ∧ Aside0 (Below w.heap.size w wc))
          case first =>
            have H := HC10.out
            clear HC10
            by_cases c12 : t281 = 0
            · rw [if_pos c12] at H
              have c12b0 : (t281 == 0) = true := beq_iff_eq.mpr c12
              have c12b1 : (t281 != 0) = false := bne_eq_false_iff_eq.mpr c12
              clear c12
              (first | rw [c12b0] | (simp only [i64_w, i32_w]; rw [c12b0]) | skip)
              replace H := Option.bind_eq_some_iff.mp H
              obtain ⟨⟨t282, t283⟩, A130, H⟩ := H
              replace H : (if t283 = 0 then (if t282.toList = a0.toList then (if t280 = 0 then (if ((t279.size : Int) % 2) = 0 then (pennantlaw01_UtfBack.j1 kj4 a1) else (some false)) else (some false)) else (some false)) else (some false)) = some r := H
              have A13 := Aside0.mk A130
              clear A130
              by_cases c14 : t283 = 0
              · rw [if_pos c14] at H
                have c14b0 : (t283 == 0) = true := beq_iff_eq.mpr c14
                have c14b1 : (t283 != 0) = false := bne_eq_false_iff_eq.mpr c14
                clear c14
                by_cases c15 : t282.toList = a0.toList
                · rw [if_pos c15] at H
                  have c15b0 : (t282.toList == a0.toList) = true := beq_iff_eq.mpr c15
                  have c15b1 : (t282.toList != a0.toList) = false := bne_eq_false_iff_eq.mpr c15
                  clear c15
                  by_cases c16 : t280 = 0
                  · rw [if_pos c16] at H
                    have c16b0 : (t280 == 0) = true := beq_iff_eq.mpr c16
                    have c16b1 : (t280 != 0) = false := bne_eq_false_iff_eq.mpr c16
                    clear c16
                    by_cases c17 : ((t279.size : Int) % 2) = 0
                    · rw [if_pos c17] at H
                      have c17b0 : (((t279.size : Int) % 2) == 0) = true := beq_iff_eq.mpr c17
                      have c17b1 : (((t279.size : Int) % 2) != 0) = false := bne_eq_false_iff_eq.mpr c17
                      clear c17
                      have H' := Aside0.mk H
                      clear H
                      go_wp2_with (first | ((with_reducible refine gate_callee (f := 14) rfl ?_); refine goesL_ (some 43) rfl rfl Tryd.func14 (by kernel_rfl) rfl #[.string t279] rfl (by (try simp only [List.map_toArray, List.map_cons, List.map_nil]); first | done | rfl | (simp only [List.length_drop, List.length_take]; rfl)) ?_; (with_reducible refine (utf_Narrow.calls kj4 t279 t282 t283 _ A13.out).mono ?_); rintro e w18 ⟨rfl, hb⟩; refine ⟨_, rfl, ?_⟩; have n0_ := Aside0.mk (below_step (by repeat (first | (with_reducible first | exact HB.out | apply below_alloc | apply pw_below_drewN | apply below_drew1) | exact HB.out)) hb); clear HB; have HB := n0_; clear n0_; (try clear hb); (try clear hb2); (try clear hk); (try clear hi)))
                      go_meet
                      case rel => exact ⟨_, H', ⟨by have := HJ4.out; first | omega | exact Nat.le_refl _⟩, ⟨by repeat (first | (with_reducible first | exact HB.out | apply below_alloc | apply pw_below_drewN | apply below_drew1) | exact HB.out)⟩⟩
                    · rw [if_neg c17] at H
                      have c17b0 : (((t279.size : Int) % 2) == 0) = false := beq_eq_false_iff_ne.mpr c17
                      have c17b1 : (((t279.size : Int) % 2) != 0) = true := bne_iff_ne.mpr c17
                      obtain rfl := Option.some.inj H
                      go_wp2_with (first | ((with_reducible refine gate_callee (f := 14) rfl ?_); refine goesL_ (some 43) rfl rfl Tryd.func14 (by kernel_rfl) rfl #[.string t279] rfl (by (try simp only [List.map_toArray, List.map_cons, List.map_nil]); first | done | rfl | (simp only [List.length_drop, List.length_take]; rfl)) ?_; (with_reducible refine (utf_Narrow.calls kj4 t279 t282 t283 _ A13.out).mono ?_); rintro e w19 ⟨rfl, hb⟩; refine ⟨_, rfl, ?_⟩; have n0_ := Aside0.mk (below_step (by repeat (first | (with_reducible first | exact HB.out | apply below_alloc | apply pw_below_drewN | apply below_drew1) | exact HB.out)) hb); clear HB; have HB := n0_; clear n0_; (try clear hb); (try clear hb2); (try clear hk); (try clear hi)))
                      go_ret
                      exact ⟨by first | rfl | (simp [errW_none, errW_some] <;> rfl) | (simp [*, errW_none, errW_some] <;> rfl), by repeat (first | (with_reducible first | exact HB.out | apply below_alloc | apply pw_below_drewN | apply below_drew1) | exact HB.out)⟩
                  · rw [if_neg c16] at H
                    have c16b0 : (t280 == 0) = false := beq_eq_false_iff_ne.mpr c16
                    have c16b1 : (t280 != 0) = true := bne_iff_ne.mpr c16
                    obtain rfl := Option.some.inj H
                    go_wp2_with (first | ((with_reducible refine gate_callee (f := 14) rfl ?_); refine goesL_ (some 43) rfl rfl Tryd.func14 (by kernel_rfl) rfl #[.string t279] rfl (by (try simp only [List.map_toArray, List.map_cons, List.map_nil]); first | done | rfl | (simp only [List.length_drop, List.length_take]; rfl)) ?_; (with_reducible refine (utf_Narrow.calls kj4 t279 t282 t283 _ A13.out).mono ?_); rintro e w20 ⟨rfl, hb⟩; refine ⟨_, rfl, ?_⟩; have n0_ := Aside0.mk (below_step (by repeat (first | (with_reducible first | exact HB.out | apply below_alloc | apply pw_below_drewN | apply below_drew1) | exact HB.out)) hb); clear HB; have HB := n0_; clear n0_; (try clear hb); (try clear hb2); (try clear hk); (try clear hi)))
                    go_ret
                    exact ⟨by first | rfl | (simp [errW_none, errW_some] <;> rfl) | (simp [*, errW_none, errW_some] <;> rfl), by repeat (first | (with_reducible first | exact HB.out | apply below_alloc | apply pw_below_drewN | apply below_drew1) | exact HB.out)⟩
                · rw [if_neg c15] at H
                  have c15b0 : (t282.toList == a0.toList) = false := beq_eq_false_iff_ne.mpr c15
                  have c15b1 : (t282.toList != a0.toList) = true := bne_iff_ne.mpr c15
                  obtain rfl := Option.some.inj H
                  go_wp2_with (first | ((with_reducible refine gate_callee (f := 14) rfl ?_); refine goesL_ (some 43) rfl rfl Tryd.func14 (by kernel_rfl) rfl #[.string t279] rfl (by (try simp only [List.map_toArray, List.map_cons, List.map_nil]); first | done | rfl | (simp only [List.length_drop, List.length_take]; rfl)) ?_; (with_reducible refine (utf_Narrow.calls kj4 t279 t282 t283 _ A13.out).mono ?_); rintro e w21 ⟨rfl, hb⟩; refine ⟨_, rfl, ?_⟩; have n0_ := Aside0.mk (below_step (by repeat (first | (with_reducible first | exact HB.out | apply below_alloc | apply pw_below_drewN | apply below_drew1) | exact HB.out)) hb); clear HB; have HB := n0_; clear n0_; (try clear hb); (try clear hb2); (try clear hk); (try clear hi)))
                  go_ret
                  exact ⟨by first | rfl | (simp [errW_none, errW_some] <;> rfl) | (simp [*, errW_none, errW_some] <;> rfl), by repeat (first | (with_reducible first | exact HB.out | apply below_alloc | apply pw_below_drewN | apply below_drew1) | exact HB.out)⟩
              · rw [if_neg c14] at H
                have c14b0 : (t283 == 0) = false := beq_eq_false_iff_ne.mpr c14
                have c14b1 : (t283 != 0) = true := bne_iff_ne.mpr c14
                obtain rfl := Option.some.inj H
                go_wp2_with (first | ((with_reducible refine gate_callee (f := 14) rfl ?_); refine goesL_ (some 43) rfl rfl Tryd.func14 (by kernel_rfl) rfl #[.string t279] rfl (by (try simp only [List.map_toArray, List.map_cons, List.map_nil]); first | done | rfl | (simp only [List.length_drop, List.length_take]; rfl)) ?_; (with_reducible refine (utf_Narrow.calls kj4 t279 t282 t283 _ A13.out).mono ?_); rintro e w22 ⟨rfl, hb⟩; refine ⟨_, rfl, ?_⟩; have n0_ := Aside0.mk (below_step (by repeat (first | (with_reducible first | exact HB.out | apply below_alloc | apply pw_below_drewN | apply below_drew1) | exact HB.out)) hb); clear HB; have HB := n0_; clear n0_; (try clear hb); (try clear hb2); (try clear hk); (try clear hi)))
                go_ret
                exact ⟨by first | rfl | (simp [errW_none, errW_some] <;> rfl) | (simp [*, errW_none, errW_some] <;> rfl), by repeat (first | (with_reducible first | exact HB.out | apply below_alloc | apply pw_below_drewN | apply below_drew1) | exact HB.out)⟩
            · rw [if_neg c12] at H
              have c12b0 : (t281 == 0) = false := beq_eq_false_iff_ne.mpr c12
              have c12b1 : (t281 != 0) = true := bne_iff_ne.mpr c12
              (first | rw [c12b0] | (simp only [i64_w, i32_w]; rw [c12b0]) | skip)
              replace H := Option.bind_eq_some_iff.mp H
              obtain ⟨⟨t284, t285, t286⟩, A230, H⟩ := H
              replace H : (if t286 = true then (some false) else (if t279.toList = ([] : List UInt8) then (if t281 = 10 then (pennantlaw01_UtfBack.j1 kj4 a1) else (some false)) else (some false))) = some r := H
              have A23 := Aside0.mk A230
              clear A230
              by_cases c24 : t286 = true
              · subst c24
                have H1 : (some false) = some r := by rw [if_pos rfl] at H; exact H
                clear H
                have H := H1
                clear H1
                obtain rfl := Option.some.inj H
                go_wp2_with (first | ((with_reducible refine gate_callee (f := 16) rfl ?_); refine goesL_ (some 66) rfl rfl Tryd.func16 (by kernel_rfl) rfl #[.string a0, .int .i64 t280] rfl (by (try simp only [List.map_toArray, List.map_cons, List.map_nil]); first | done | rfl | (simp only [List.length_drop, List.length_take]; rfl)) ?_; (with_reducible refine (utf_Next.calls kj4 a0 t280 t284 t285 true _ ?side1 A23.out).mono ?_); (case side1 => exact Tabs_below HT_.out (by repeat (first | (with_reducible first | exact HB.out | apply below_alloc | apply pw_below_drewN | apply below_drew1) | exact HB.out))); rintro e w25 ⟨rfl, hb⟩; refine ⟨_, rfl, ?_⟩; have n0_ := Aside0.mk (below_step (by repeat (first | (with_reducible first | exact HB.out | apply below_alloc | apply pw_below_drewN | apply below_drew1) | exact HB.out)) hb); clear HB; have HB := n0_; clear n0_; (try clear hb); (try clear hb2); (try clear hk); (try clear hi)))
                go_ret
                exact ⟨by first | rfl | (simp [errW_none, errW_some] <;> rfl) | (simp [*, errW_none, errW_some] <;> rfl), by repeat (first | (with_reducible first | exact HB.out | apply below_alloc | apply pw_below_drewN | apply below_drew1) | exact HB.out)⟩
              · replace c24 := Bool.eq_false_iff.mpr c24
                subst c24
                have H1 : (if t279.toList = ([] : List UInt8) then (if t281 = 10 then (pennantlaw01_UtfBack.j1 kj4 a1) else (some false)) else (some false)) = some r := by rw [if_neg (show ¬ (false = true) by decide)] at H; exact H
                clear H
                have H := H1
                clear H1
                by_cases c26 : t279.toList = ([] : List UInt8)
                · rw [if_pos c26] at H
                  have c26b0 : (t279.toList == ([] : List UInt8)) = true := beq_iff_eq.mpr c26
                  have c26b1 : (t279.toList != ([] : List UInt8)) = false := bne_eq_false_iff_eq.mpr c26
                  clear c26
                  by_cases c27 : t281 = 10
                  · rw [if_pos c27] at H
                    have c27b0 : (t281 == 10) = true := beq_iff_eq.mpr c27
                    have c27b1 : (t281 != 10) = false := bne_eq_false_iff_eq.mpr c27
                    clear c27
                    have H' := Aside0.mk H
                    clear H
                    go_wp2_with (first | ((with_reducible refine gate_callee (f := 16) rfl ?_); refine goesL_ (some 66) rfl rfl Tryd.func16 (by kernel_rfl) rfl #[.string a0, .int .i64 t280] rfl (by (try simp only [List.map_toArray, List.map_cons, List.map_nil]); first | done | rfl | (simp only [List.length_drop, List.length_take]; rfl)) ?_; (with_reducible refine (utf_Next.calls kj4 a0 t280 t284 t285 false _ ?side1 A23.out).mono ?_); (case side1 => exact Tabs_below HT_.out (by repeat (first | (with_reducible first | exact HB.out | apply below_alloc | apply pw_below_drewN | apply below_drew1) | exact HB.out))); rintro e w28 ⟨rfl, hb⟩; refine ⟨_, rfl, ?_⟩; have n0_ := Aside0.mk (below_step (by repeat (first | (with_reducible first | exact HB.out | apply below_alloc | apply pw_below_drewN | apply below_drew1) | exact HB.out)) hb); clear HB; have HB := n0_; clear n0_; (try clear hb); (try clear hb2); (try clear hk); (try clear hi)))
                    go_meet
                    case rel => exact ⟨_, H', ⟨by have := HJ4.out; first | omega | exact Nat.le_refl _⟩, ⟨by repeat (first | (with_reducible first | exact HB.out | apply below_alloc | apply pw_below_drewN | apply below_drew1) | exact HB.out)⟩⟩
                  · rw [if_neg c27] at H
                    have c27b0 : (t281 == 10) = false := beq_eq_false_iff_ne.mpr c27
                    have c27b1 : (t281 != 10) = true := bne_iff_ne.mpr c27
                    obtain rfl := Option.some.inj H
                    go_wp2_with (first | ((with_reducible refine gate_callee (f := 16) rfl ?_); refine goesL_ (some 66) rfl rfl Tryd.func16 (by kernel_rfl) rfl #[.string a0, .int .i64 t280] rfl (by (try simp only [List.map_toArray, List.map_cons, List.map_nil]); first | done | rfl | (simp only [List.length_drop, List.length_take]; rfl)) ?_; (with_reducible refine (utf_Next.calls kj4 a0 t280 t284 t285 false _ ?side1 A23.out).mono ?_); (case side1 => exact Tabs_below HT_.out (by repeat (first | (with_reducible first | exact HB.out | apply below_alloc | apply pw_below_drewN | apply below_drew1) | exact HB.out))); rintro e w29 ⟨rfl, hb⟩; refine ⟨_, rfl, ?_⟩; have n0_ := Aside0.mk (below_step (by repeat (first | (with_reducible first | exact HB.out | apply below_alloc | apply pw_below_drewN | apply below_drew1) | exact HB.out)) hb); clear HB; have HB := n0_; clear n0_; (try clear hb); (try clear hb2); (try clear hk); (try clear hi)))
                    go_ret
                    exact ⟨by first | rfl | (simp [errW_none, errW_some] <;> rfl) | (simp [*, errW_none, errW_some] <;> rfl), by repeat (first | (with_reducible first | exact HB.out | apply below_alloc | apply pw_below_drewN | apply below_drew1) | exact HB.out)⟩
                · rw [if_neg c26] at H
                  have c26b0 : (t279.toList == ([] : List UInt8)) = false := beq_eq_false_iff_ne.mpr c26
                  have c26b1 : (t279.toList != ([] : List UInt8)) = true := bne_iff_ne.mpr c26
                  obtain rfl := Option.some.inj H
                  go_wp2_with (first | ((with_reducible refine gate_callee (f := 16) rfl ?_); refine goesL_ (some 66) rfl rfl Tryd.func16 (by kernel_rfl) rfl #[.string a0, .int .i64 t280] rfl (by (try simp only [List.map_toArray, List.map_cons, List.map_nil]); first | done | rfl | (simp only [List.length_drop, List.length_take]; rfl)) ?_; (with_reducible refine (utf_Next.calls kj4 a0 t280 t284 t285 false _ ?side1 A23.out).mono ?_); (case side1 => exact Tabs_below HT_.out (by repeat (first | (with_reducible first | exact HB.out | apply below_alloc | apply pw_below_drewN | apply below_drew1) | exact HB.out))); rintro e w30 ⟨rfl, hb⟩; refine ⟨_, rfl, ?_⟩; have n0_ := Aside0.mk (below_step (by repeat (first | (with_reducible first | exact HB.out | apply below_alloc | apply pw_below_drewN | apply below_drew1) | exact HB.out)) hb); clear HB; have HB := n0_; clear n0_; (try clear hb); (try clear hb2); (try clear hk); (try clear hi)))
                  go_ret
                  exact ⟨by first | rfl | (simp [errW_none, errW_some] <;> rfl) | (simp [*, errW_none, errW_some] <;> rfl), by repeat (first | (with_reducible first | exact HB.out | apply below_alloc | apply pw_below_drewN | apply below_drew1) | exact HB.out)⟩
          case rest =>
            clear HC10
            try clear c1
            try clear c2
            try clear p2
            try clear c4
            try clear c5
            try clear c7
            try clear c7b0
            try clear c7b1
            try clear c8
            try clear c11
            try clear c12
            try clear c12b0
            try clear c12b1
            try clear c14
            try clear c14b0
            try clear c14b1
            try clear c15
            try clear c15b0
            try clear c15b1
            try clear c16
            try clear c16b0
            try clear c16b1
            try clear c17
            try clear c17b0
            try clear c17b1
            try clear c24
            try clear c26
            try clear c26b0
            try clear c26b1
            try clear c27
            try clear c27b0
            try clear c27b1
            try clear p2
            obtain ⟨kq, HA, HJ9, HB⟩ := hcut
            cases kq with
            | zero => exact absurd HA.out (by simp [pennantlaw01_UtfBack.j1])
            | succ kj9 =>
              have H := HA.out
              clear HA
              simp only [pennantlaw01_UtfBack.j1] at H
              replace H := Option.bind_eq_some_iff.mp H
              obtain ⟨⟨t287, t288⟩, A310, H⟩ := H
              replace H : (if t288 = 0 then ((utf_Wide.f kj9 t287).bind fun bt289 => (if bt289.2.2 = 0 then ((utf_Length.f bt289.1).bind fun t292 => ((utf_Length.f a1).bind fun t293 => (pennantlaw01_UtfBack.j2 kj9 a1 bt289.1 (t292 != t293)))) else (pennantlaw01_UtfBack.j2 kj9 a1 bt289.1 true))) else (if t287.toList = ([] : List UInt8) then (some (((a1.size : Int) % 2) == 1)) else (some false))) = some r := H
              have A31 := Aside0.mk A310
              clear A310
              by_cases c32 : t288 = 0
              · rw [if_pos c32] at H
                have c32b0 : (t288 == 0) = true := beq_iff_eq.mpr c32
                have c32b1 : (t288 != 0) = false := bne_eq_false_iff_eq.mpr c32
                clear c32
                replace H := Option.bind_eq_some_iff.mp H
                obtain ⟨⟨t289, t290, t291⟩, A330, H⟩ := H
                replace H : (if t291 = 0 then ((utf_Length.f t289).bind fun t292 => ((utf_Length.f a1).bind fun t293 => (pennantlaw01_UtfBack.j2 kj9 a1 t289 (t292 != t293)))) else (pennantlaw01_UtfBack.j2 kj9 a1 t289 true)) = some r := H
                have A33 := Aside0.mk A330
                clear A330
                have HC34 := Aside0.mk H
                clear H
                go_upto_region 17 with (first | ((with_reducible refine gate_callee (f := 14) rfl ?_); refine goesL_ (some 81) rfl rfl Tryd.func14 (by kernel_rfl) rfl #[.string a1] rfl (by (try simp only [List.map_toArray, List.map_cons, List.map_nil]); first | done | rfl | (simp only [List.length_drop, List.length_take]; rfl)) ?_; (with_reducible refine (utf_Narrow.calls kj9 a1 t287 t288 _ A31.out).mono ?_); rintro e w35 ⟨rfl, hb⟩; refine ⟨_, rfl, ?_⟩; have n0_ := Aside0.mk (below_step (by repeat (first | (with_reducible first | exact HB.out | apply below_alloc | apply pw_below_drewN | apply below_drew1) | exact HB.out)) hb); clear HB; have HB := n0_; clear n0_; (try clear hb); (try clear hb2); (try clear hk); (try clear hi)) | ((with_reducible refine gate_callee (f := 12) rfl ?_); refine goesL_ (some 96) rfl rfl Tryd.func12 (by kernel_rfl) rfl #[.string t287] rfl (by (try simp only [List.map_toArray, List.map_cons, List.map_nil]); first | done | rfl | (simp only [List.length_drop, List.length_take]; rfl)) ?_; (with_reducible refine (utf_Wide.calls kj9 t287 t289 t290 t291 _ ?side1 A33.out).mono ?_); (case side1 => exact Tabs_below HT_.out (by repeat (first | (with_reducible first | exact HB.out | apply below_alloc | apply pw_below_drewN | apply below_drew1) | exact HB.out))); rintro e w36 ⟨rfl, hb⟩; refine ⟨_, rfl, ?_⟩; have n0_ := Aside0.mk (below_step (by repeat (first | (with_reducible first | exact HB.out | apply below_alloc | apply pw_below_drewN | apply below_drew1) | exact HB.out)) hb); clear HB; have HB := n0_; clear n0_; (try clear hb); (try clear hb2); (try clear hk); (try clear hi)))
                (try simp only [Act.put, List.setIfInBounds_toArray, List.set_cons_zero, List.set_cons_succ])
                go_cut [108] (fun v108 wc => ∃ (kq : Nat) (x108_33 : Bool), v108 = .bool x108_33 ∧ Aside0 (pennantlaw01_UtfBack.j2 kq a1 t289 x108_33 = some r) ∧ Aside0 (kq ≤ kj9) ∧ Aside0 (Below w.heap.size w wc))
                case first =>
                  have H := HC34.out
                  clear HC34
                  by_cases c37 : t291 = 0
                  · rw [if_pos c37] at H
                    have c37b0 : (t291 == 0) = true := beq_iff_eq.mpr c37
                    have c37b1 : (t291 != 0) = false := bne_eq_false_iff_eq.mpr c37
                    clear c37
                    (first | rw [c37b0] | (simp only [i64_w, i32_w]; rw [c37b0]) | skip)
                    replace H := Option.bind_eq_some_iff.mp H
                    obtain ⟨t292, A380, H⟩ := H
                    replace H : ((utf_Length.f a1).bind fun t293 => (pennantlaw01_UtfBack.j2 kj9 a1 t289 (t292 != t293))) = some r := H
                    have A38 := Aside0.mk A380
                    clear A380
                    replace H := Option.bind_eq_some_iff.mp H
                    obtain ⟨t293, A390, H⟩ := H
                    replace H : (pennantlaw01_UtfBack.j2 kj9 a1 t289 (t292 != t293)) = some r := H
                    have A39 := Aside0.mk A390
                    clear A390
                    have H' := Aside0.mk H
                    clear H
                    go_wp2_with (first | (go_at_call 18; (with_reducible refine (utf_Length.calls t289 t292 _ A38.out).mono ?_); rintro e w' ⟨rfl, ⟨nd, rfl⟩⟩) | (go_at_call 18; (with_reducible refine (utf_Length.calls a1 t293 _ A39.out).mono ?_); rintro e w' ⟨rfl, ⟨nd, rfl⟩⟩))
                    go_meet
                    case rel => exact ⟨_, ((t292 != t293)), (by first | rfl | (simp; done) | (simp [*]; done)), H', ⟨by have := HJ4.out; have := HJ9.out; first | omega | exact Nat.le_refl _⟩, ⟨by repeat (first | (with_reducible first | exact HB.out | apply below_alloc | apply pw_below_drewN | apply below_drew1) | exact HB.out)⟩⟩
                  · rw [if_neg c37] at H
                    have c37b0 : (t291 == 0) = false := beq_eq_false_iff_ne.mpr c37
                    have c37b1 : (t291 != 0) = true := bne_iff_ne.mpr c37
                    (first | rw [c37b0] | (simp only [i64_w, i32_w]; rw [c37b0]) | skip)
                    have H' := Aside0.mk H
                    clear H
                    go_wp2
                    go_meet
                    case rel => exact ⟨_, (true), (by first | rfl | (simp; done) | (simp [*]; done)), H', ⟨by have := HJ4.out; have := HJ9.out; first | omega | exact Nat.le_refl _⟩, ⟨by repeat (first | (with_reducible first | exact HB.out | apply below_alloc | apply pw_below_drewN | apply below_drew1) | exact HB.out)⟩⟩
                case rest =>
                  clear HC34
                  try clear c1
                  try clear c2
                  try clear p2
                  try clear c3
                  try clear c4
                  try clear c5
                  try clear c7
                  try clear c7b0
                  try clear c7b1
                  try clear c8
                  try clear c11
                  try clear c12
                  try clear c12b0
                  try clear c12b1
                  try clear c14
                  try clear c14b0
                  try clear c14b1
                  try clear c15
                  try clear c15b0
                  try clear c15b1
                  try clear c16
                  try clear c16b0
                  try clear c16b1
                  try clear c17
                  try clear c17b0
                  try clear c17b1
                  try clear c24
                  try clear c26
                  try clear c26b0
                  try clear c26b1
                  try clear c27
                  try clear c27b0
                  try clear c27b1
                  try clear c32
                  try clear c32b0
                  try clear c32b1
                  try clear c37
                  try clear c37b0
                  try clear c37b1
                  try clear p2
                  obtain ⟨kq, x108_33, rfl, HA, HJ33, HB⟩ := hcut
                  cases kq with
                  | zero => exact absurd HA.out (by simp [pennantlaw01_UtfBack.j2])
                  | succ kj33 =>
                    have H := HA.out
                    clear HA
                    simp only [pennantlaw01_UtfBack.j2] at H
                    by_cases c40 : x108_33 = true
                    · subst c40
                      have H1 : (some false) = some r := by rw [if_pos rfl] at H; exact H
                      clear H
                      have H := H1
                      clear H1
                      obtain rfl := Option.some.inj H
                      go_wp2
                      go_ret
                      exact ⟨by first | rfl | (simp [errW_none, errW_some] <;> rfl) | (simp [*, errW_none, errW_some] <;> rfl), by repeat (first | (with_reducible first | exact HB.out | apply below_alloc | apply pw_below_drewN | apply below_drew1) | exact HB.out)⟩
                    · replace c40 := Bool.eq_false_iff.mpr c40
                      subst c40
                      have H1 : (pennantlaw01_UtfBack.l0 kj33 a1 t289 0) = some r := by rw [if_neg (show ¬ (false = true) by decide)] at H; exact H
                      clear H
                      have H := H1
                      clear H1
                      have H' := Aside0.mk H
                      clear H
                      go_wp2
                      go_loopg [18] kj33 (fun kq v18 w' => ∃ (x18_4 : Int), v18 = .int .i64 x18_4 ∧ Aside0 (pennantlaw01_UtfBack.l0 kq a1 t289 x18_4 = some r) ∧ Aside0 (kq ≤ kj33) ∧ Aside0 (Below w.heap.size w w'))
                      case atStart => exact ⟨(0), (by first | rfl | (simp; done) | (simp [*]; done)), H', ⟨Nat.le_refl _⟩, ⟨by repeat (first | (with_reducible first | exact HB.out | apply below_alloc | apply pw_below_drewN | apply below_drew1) | exact HB.out)⟩⟩
                      case round =>
                        clear H'
                        try clear c1
                        try clear c2
                        try clear p2
                        try clear c3
                        try clear c4
                        try clear c5
                        try clear c7
                        try clear c7b0
                        try clear c7b1
                        try clear c8
                        try clear c11
                        try clear c12
                        try clear c12b0
                        try clear c12b1
                        try clear c14
                        try clear c14b0
                        try clear c14b1
                        try clear c15
                        try clear c15b0
                        try clear c15b1
                        try clear c16
                        try clear c16b0
                        try clear c16b1
                        try clear c17
                        try clear c17b0
                        try clear c17b1
                        try clear c24
                        try clear c26
                        try clear c26b0
                        try clear c26b1
                        try clear c27
                        try clear c27b0
                        try clear c27b1
                        try clear c32
                        try clear c32b0
                        try clear c32b1
                        try clear c37
                        try clear c37b0
                        try clear c37b1
                        try clear c40
                        try clear p2
                        obtain ⟨x18_4, rfl, HA, HK4, HB⟩ := hrel
                        cases gk with
                        | zero => exact absurd HA.out (by simp [pennantlaw01_UtfBack.l0])
                        | succ k4 =>
                          have H := HA.out
                          clear HA
                          simp only [pennantlaw01_UtfBack.l0] at H
                          replace H := Option.bind_eq_some_iff.mp H
                          obtain ⟨t294, A410, H⟩ := H
                          replace H : (if x18_4 < t294 then ((utf_At.f a1 x18_4).bind fun bt295 => ((utf_At.f t289 x18_4).bind fun bt297 => (if bt295.1 = bt297.1 then (pennantlaw01_UtfBack.l0 k4 a1 t289 (wrap64 (x18_4 + 1))) else (if bt297.1 = 65533 then (if bt295.1 < 55296 then (some false) else (if bt295.1 > 57343 then (some false) else (pennantlaw01_UtfBack.l0 k4 a1 t289 (wrap64 (x18_4 + 1))))) else (some false))))) else (some true)) = some r := H
                          have A41 := Aside0.mk A410
                          clear A410
                          by_cases c42 : x18_4 < t294
                          · rw [if_pos c42] at H
                            have c42b0 : decide (x18_4 < t294) = true := decide_eq_true c42
                            clear c42
                            replace H := Option.bind_eq_some_iff.mp H
                            obtain ⟨⟨t295, t296⟩, A430, H⟩ := H
                            replace H : ((utf_At.f t289 x18_4).bind fun bt297 => (if t295 = bt297.1 then (pennantlaw01_UtfBack.l0 k4 a1 t289 (wrap64 (x18_4 + 1))) else (if bt297.1 = 65533 then (if t295 < 55296 then (some false) else (if t295 > 57343 then (some false) else (pennantlaw01_UtfBack.l0 k4 a1 t289 (wrap64 (x18_4 + 1))))) else (some false)))) = some r := H
                            have A43 := Aside0.mk A430
                            clear A430
                            replace H := Option.bind_eq_some_iff.mp H
                            obtain ⟨⟨t297, t298⟩, A440, H⟩ := H
                            replace H : (if t295 = t297 then (pennantlaw01_UtfBack.l0 k4 a1 t289 (wrap64 (x18_4 + 1))) else (if t297 = 65533 then (if t295 < 55296 then (some false) else (if t295 > 57343 then (some false) else (pennantlaw01_UtfBack.l0 k4 a1 t289 (wrap64 (x18_4 + 1))))) else (some false))) = some r := H
                            have A44 := Aside0.mk A440
                            clear A440
                            by_cases c45 : t295 = t297
                            · rw [if_pos c45] at H
                              have c45b0 : (t295 == t297) = true := beq_iff_eq.mpr c45
                              have c45b1 : (t295 != t297) = false := bne_eq_false_iff_eq.mpr c45
                              clear c45
                              have H' := Aside0.mk H
                              clear H
                              go_wp2_with (first | ((with_reducible refine gate_callee (f := 18) rfl ?_); refine goesL_ (some 111) rfl rfl Tryd.func18 (by kernel_rfl) rfl #[.string a1] rfl (by (try simp only [List.map_toArray, List.map_cons, List.map_nil]); first | done | rfl | (simp only [List.length_drop, List.length_take]; rfl)) ?_; (with_reducible refine (utf_Length.calls a1 t294 _ A41.out).mono ?_); rintro e w' ⟨rfl, ⟨nd, rfl⟩⟩; refine ⟨_, rfl, ?_⟩) | ((with_reducible refine gate_callee (f := 19) rfl ?_); refine goesL_ (some 118) rfl rfl Tryd.func19 (by kernel_rfl) rfl #[.string a1, .int .i64 x18_4] rfl (by (try simp only [List.map_toArray, List.map_cons, List.map_nil]); first | done | rfl | (simp only [List.length_drop, List.length_take]; rfl)) ?_; (with_reducible refine (utf_At.calls a1 x18_4 t295 t296 _ A43.out).mono ?_); rintro e w' ⟨rfl, ⟨nd, rfl⟩⟩; refine ⟨_, rfl, ?_⟩) | ((with_reducible refine gate_callee (f := 19) rfl ?_); refine goesL_ (some 124) rfl rfl Tryd.func19 (by kernel_rfl) rfl #[.string t289, .int .i64 x18_4] rfl (by (try simp only [List.map_toArray, List.map_cons, List.map_nil]); first | done | rfl | (simp only [List.length_drop, List.length_take]; rfl)) ?_; (with_reducible refine (utf_At.calls t289 x18_4 t297 t298 _ A44.out).mono ?_); rintro e w' ⟨rfl, ⟨nd, rfl⟩⟩; refine ⟨_, rfl, ?_⟩))
                              go_roundg k4
                              case measure => have := HJ4.out; have := HJ9.out; have := HJ33.out; have := HK4.out; omega
                              case rel => exact ⟨(wrap64 (x18_4 + 1)), (by first | rfl | (simp; done) | (simp [*]; done)), H', ⟨by have := HJ4.out; have := HJ9.out; have := HJ33.out; have := HK4.out; omega⟩, ⟨by repeat (first | (with_reducible first | exact HB.out | apply below_alloc | apply pw_below_drewN | apply below_drew1) | exact HB.out)⟩⟩
                            · rw [if_neg c45] at H
                              have c45b0 : (t295 == t297) = false := beq_eq_false_iff_ne.mpr c45
                              have c45b1 : (t295 != t297) = true := bne_iff_ne.mpr c45
                              by_cases c46 : t297 = 65533
                              · rw [if_pos c46] at H
                                have c46b0 : (t297 == 65533) = true := beq_iff_eq.mpr c46
                                have c46b1 : (t297 != 65533) = false := bne_eq_false_iff_eq.mpr c46
                                clear c46
                                by_cases c47 : t295 < 55296
                                · rw [if_pos c47] at H
                                  have c47b0 : decide (t295 < 55296) = true := decide_eq_true c47
                                  clear c47
                                  obtain rfl := Option.some.inj H
                                  go_wp2_with (first | ((with_reducible refine gate_callee (f := 18) rfl ?_); refine goesL_ (some 111) rfl rfl Tryd.func18 (by kernel_rfl) rfl #[.string a1] rfl (by (try simp only [List.map_toArray, List.map_cons, List.map_nil]); first | done | rfl | (simp only [List.length_drop, List.length_take]; rfl)) ?_; (with_reducible refine (utf_Length.calls a1 t294 _ A41.out).mono ?_); rintro e w' ⟨rfl, ⟨nd, rfl⟩⟩; refine ⟨_, rfl, ?_⟩) | ((with_reducible refine gate_callee (f := 19) rfl ?_); refine goesL_ (some 118) rfl rfl Tryd.func19 (by kernel_rfl) rfl #[.string a1, .int .i64 x18_4] rfl (by (try simp only [List.map_toArray, List.map_cons, List.map_nil]); first | done | rfl | (simp only [List.length_drop, List.length_take]; rfl)) ?_; (with_reducible refine (utf_At.calls a1 x18_4 t295 t296 _ A43.out).mono ?_); rintro e w' ⟨rfl, ⟨nd, rfl⟩⟩; refine ⟨_, rfl, ?_⟩) | ((with_reducible refine gate_callee (f := 19) rfl ?_); refine goesL_ (some 124) rfl rfl Tryd.func19 (by kernel_rfl) rfl #[.string t289, .int .i64 x18_4] rfl (by (try simp only [List.map_toArray, List.map_cons, List.map_nil]); first | done | rfl | (simp only [List.length_drop, List.length_take]; rfl)) ?_; (with_reducible refine (utf_At.calls t289 x18_4 t297 t298 _ A44.out).mono ?_); rintro e w' ⟨rfl, ⟨nd, rfl⟩⟩; refine ⟨_, rfl, ?_⟩))
                                  go_ret
                                  exact ⟨by first | rfl | (simp [errW_none, errW_some] <;> rfl) | (simp [*, errW_none, errW_some] <;> rfl), by repeat (first | (with_reducible first | exact HB.out | apply below_alloc | apply pw_below_drewN | apply below_drew1) | exact HB.out)⟩
                                · rw [if_neg c47] at H
                                  have c47b0 : decide (t295 < 55296) = false := decide_eq_false c47
                                  clear c47
                                  by_cases c48 : t295 > 57343
                                  · rw [if_pos c48] at H
                                    have c48b0 : decide (57343 < t295) = true := decide_eq_true c48
                                    clear c48
                                    obtain rfl := Option.some.inj H
                                    go_wp2_with (first | ((with_reducible refine gate_callee (f := 18) rfl ?_); refine goesL_ (some 111) rfl rfl Tryd.func18 (by kernel_rfl) rfl #[.string a1] rfl (by (try simp only [List.map_toArray, List.map_cons, List.map_nil]); first | done | rfl | (simp only [List.length_drop, List.length_take]; rfl)) ?_; (with_reducible refine (utf_Length.calls a1 t294 _ A41.out).mono ?_); rintro e w' ⟨rfl, ⟨nd, rfl⟩⟩; refine ⟨_, rfl, ?_⟩) | ((with_reducible refine gate_callee (f := 19) rfl ?_); refine goesL_ (some 118) rfl rfl Tryd.func19 (by kernel_rfl) rfl #[.string a1, .int .i64 x18_4] rfl (by (try simp only [List.map_toArray, List.map_cons, List.map_nil]); first | done | rfl | (simp only [List.length_drop, List.length_take]; rfl)) ?_; (with_reducible refine (utf_At.calls a1 x18_4 t295 t296 _ A43.out).mono ?_); rintro e w' ⟨rfl, ⟨nd, rfl⟩⟩; refine ⟨_, rfl, ?_⟩) | ((with_reducible refine gate_callee (f := 19) rfl ?_); refine goesL_ (some 124) rfl rfl Tryd.func19 (by kernel_rfl) rfl #[.string t289, .int .i64 x18_4] rfl (by (try simp only [List.map_toArray, List.map_cons, List.map_nil]); first | done | rfl | (simp only [List.length_drop, List.length_take]; rfl)) ?_; (with_reducible refine (utf_At.calls t289 x18_4 t297 t298 _ A44.out).mono ?_); rintro e w' ⟨rfl, ⟨nd, rfl⟩⟩; refine ⟨_, rfl, ?_⟩))
                                    go_ret
                                    exact ⟨by first | rfl | (simp [errW_none, errW_some] <;> rfl) | (simp [*, errW_none, errW_some] <;> rfl), by repeat (first | (with_reducible first | exact HB.out | apply below_alloc | apply pw_below_drewN | apply below_drew1) | exact HB.out)⟩
                                  · rw [if_neg c48] at H
                                    have c48b0 : decide (57343 < t295) = false := decide_eq_false c48
                                    clear c48
                                    have H' := Aside0.mk H
                                    clear H
                                    go_wp2_with (first | ((with_reducible refine gate_callee (f := 18) rfl ?_); refine goesL_ (some 111) rfl rfl Tryd.func18 (by kernel_rfl) rfl #[.string a1] rfl (by (try simp only [List.map_toArray, List.map_cons, List.map_nil]); first | done | rfl | (simp only [List.length_drop, List.length_take]; rfl)) ?_; (with_reducible refine (utf_Length.calls a1 t294 _ A41.out).mono ?_); rintro e w' ⟨rfl, ⟨nd, rfl⟩⟩; refine ⟨_, rfl, ?_⟩) | ((with_reducible refine gate_callee (f := 19) rfl ?_); refine goesL_ (some 118) rfl rfl Tryd.func19 (by kernel_rfl) rfl #[.string a1, .int .i64 x18_4] rfl (by (try simp only [List.map_toArray, List.map_cons, List.map_nil]); first | done | rfl | (simp only [List.length_drop, List.length_take]; rfl)) ?_; (with_reducible refine (utf_At.calls a1 x18_4 t295 t296 _ A43.out).mono ?_); rintro e w' ⟨rfl, ⟨nd, rfl⟩⟩; refine ⟨_, rfl, ?_⟩) | ((with_reducible refine gate_callee (f := 19) rfl ?_); refine goesL_ (some 124) rfl rfl Tryd.func19 (by kernel_rfl) rfl #[.string t289, .int .i64 x18_4] rfl (by (try simp only [List.map_toArray, List.map_cons, List.map_nil]); first | done | rfl | (simp only [List.length_drop, List.length_take]; rfl)) ?_; (with_reducible refine (utf_At.calls t289 x18_4 t297 t298 _ A44.out).mono ?_); rintro e w' ⟨rfl, ⟨nd, rfl⟩⟩; refine ⟨_, rfl, ?_⟩))
                                    go_roundg k4
                                    case measure => have := HJ4.out; have := HJ9.out; have := HJ33.out; have := HK4.out; omega
                                    case rel => exact ⟨(wrap64 (x18_4 + 1)), (by first | rfl | (simp; done) | (simp [*]; done)), H', ⟨by have := HJ4.out; have := HJ9.out; have := HJ33.out; have := HK4.out; omega⟩, ⟨by repeat (first | (with_reducible first | exact HB.out | apply below_alloc | apply pw_below_drewN | apply below_drew1) | exact HB.out)⟩⟩
                              · rw [if_neg c46] at H
                                have c46b0 : (t297 == 65533) = false := beq_eq_false_iff_ne.mpr c46
                                have c46b1 : (t297 != 65533) = true := bne_iff_ne.mpr c46
                                obtain rfl := Option.some.inj H
                                go_wp2_with (first | ((with_reducible refine gate_callee (f := 18) rfl ?_); refine goesL_ (some 111) rfl rfl Tryd.func18 (by kernel_rfl) rfl #[.string a1] rfl (by (try simp only [List.map_toArray, List.map_cons, List.map_nil]); first | done | rfl | (simp only [List.length_drop, List.length_take]; rfl)) ?_; (with_reducible refine (utf_Length.calls a1 t294 _ A41.out).mono ?_); rintro e w' ⟨rfl, ⟨nd, rfl⟩⟩; refine ⟨_, rfl, ?_⟩) | ((with_reducible refine gate_callee (f := 19) rfl ?_); refine goesL_ (some 118) rfl rfl Tryd.func19 (by kernel_rfl) rfl #[.string a1, .int .i64 x18_4] rfl (by (try simp only [List.map_toArray, List.map_cons, List.map_nil]); first | done | rfl | (simp only [List.length_drop, List.length_take]; rfl)) ?_; (with_reducible refine (utf_At.calls a1 x18_4 t295 t296 _ A43.out).mono ?_); rintro e w' ⟨rfl, ⟨nd, rfl⟩⟩; refine ⟨_, rfl, ?_⟩) | ((with_reducible refine gate_callee (f := 19) rfl ?_); refine goesL_ (some 124) rfl rfl Tryd.func19 (by kernel_rfl) rfl #[.string t289, .int .i64 x18_4] rfl (by (try simp only [List.map_toArray, List.map_cons, List.map_nil]); first | done | rfl | (simp only [List.length_drop, List.length_take]; rfl)) ?_; (with_reducible refine (utf_At.calls t289 x18_4 t297 t298 _ A44.out).mono ?_); rintro e w' ⟨rfl, ⟨nd, rfl⟩⟩; refine ⟨_, rfl, ?_⟩))
                                go_ret
                                exact ⟨by first | rfl | (simp [errW_none, errW_some] <;> rfl) | (simp [*, errW_none, errW_some] <;> rfl), by repeat (first | (with_reducible first | exact HB.out | apply below_alloc | apply pw_below_drewN | apply below_drew1) | exact HB.out)⟩
                          · rw [if_neg c42] at H
                            have c42b0 : decide (x18_4 < t294) = false := decide_eq_false c42
                            clear c42
                            obtain rfl := Option.some.inj H
                            go_wp2_with (first | ((with_reducible refine gate_callee (f := 18) rfl ?_); refine goesL_ (some 111) rfl rfl Tryd.func18 (by kernel_rfl) rfl #[.string a1] rfl (by (try simp only [List.map_toArray, List.map_cons, List.map_nil]); first | done | rfl | (simp only [List.length_drop, List.length_take]; rfl)) ?_; (with_reducible refine (utf_Length.calls a1 t294 _ A41.out).mono ?_); rintro e w' ⟨rfl, ⟨nd, rfl⟩⟩; refine ⟨_, rfl, ?_⟩))
                            go_ret
                            exact ⟨by first | rfl | (simp [errW_none, errW_some] <;> rfl) | (simp [*, errW_none, errW_some] <;> rfl), by repeat (first | (with_reducible first | exact HB.out | apply below_alloc | apply pw_below_drewN | apply below_drew1) | exact HB.out)⟩
              · rw [if_neg c32] at H
                have c32b0 : (t288 == 0) = false := beq_eq_false_iff_ne.mpr c32
                have c32b1 : (t288 != 0) = true := bne_iff_ne.mpr c32
                by_cases c49 : t287.toList = ([] : List UInt8)
                · rw [if_pos c49] at H
                  have c49b0 : (t287.toList == ([] : List UInt8)) = true := beq_iff_eq.mpr c49
                  have c49b1 : (t287.toList != ([] : List UInt8)) = false := bne_eq_false_iff_eq.mpr c49
                  clear c49
                  obtain rfl := Option.some.inj H
                  go_wp2_with (first | ((with_reducible refine gate_callee (f := 14) rfl ?_); refine goesL_ (some 81) rfl rfl Tryd.func14 (by kernel_rfl) rfl #[.string a1] rfl (by (try simp only [List.map_toArray, List.map_cons, List.map_nil]); first | done | rfl | (simp only [List.length_drop, List.length_take]; rfl)) ?_; (with_reducible refine (utf_Narrow.calls kj9 a1 t287 t288 _ A31.out).mono ?_); rintro e w50 ⟨rfl, hb⟩; refine ⟨_, rfl, ?_⟩; have n0_ := Aside0.mk (below_step (by repeat (first | (with_reducible first | exact HB.out | apply below_alloc | apply pw_below_drewN | apply below_drew1) | exact HB.out)) hb); clear HB; have HB := n0_; clear n0_; (try clear hb); (try clear hb2); (try clear hk); (try clear hi)))
                  go_ret
                  exact ⟨by first | rfl | (simp [errW_none, errW_some] <;> rfl) | (simp [*, errW_none, errW_some] <;> rfl), by repeat (first | (with_reducible first | exact HB.out | apply below_alloc | apply pw_below_drewN | apply below_drew1) | exact HB.out)⟩
                · rw [if_neg c49] at H
                  have c49b0 : (t287.toList == ([] : List UInt8)) = false := beq_eq_false_iff_ne.mpr c49
                  have c49b1 : (t287.toList != ([] : List UInt8)) = true := bne_iff_ne.mpr c49
                  obtain rfl := Option.some.inj H
                  go_wp2_with (first | ((with_reducible refine gate_callee (f := 14) rfl ?_); refine goesL_ (some 81) rfl rfl Tryd.func14 (by kernel_rfl) rfl #[.string a1] rfl (by (try simp only [List.map_toArray, List.map_cons, List.map_nil]); first | done | rfl | (simp only [List.length_drop, List.length_take]; rfl)) ?_; (with_reducible refine (utf_Narrow.calls kj9 a1 t287 t288 _ A31.out).mono ?_); rintro e w51 ⟨rfl, hb⟩; refine ⟨_, rfl, ?_⟩; have n0_ := Aside0.mk (below_step (by repeat (first | (with_reducible first | exact HB.out | apply below_alloc | apply pw_below_drewN | apply below_drew1) | exact HB.out)) hb); clear HB; have HB := n0_; clear n0_; (try clear hb); (try clear hb2); (try clear hk); (try clear hi)))
                  go_ret
                  exact ⟨by first | rfl | (simp [errW_none, errW_some] <;> rfl) | (simp [*, errW_none, errW_some] <;> rfl), by repeat (first | (with_reducible first | exact HB.out | apply below_alloc | apply pw_below_drewN | apply below_drew1) | exact HB.out)⟩
  · replace c4 := Bool.eq_false_iff.mpr c4
    subst c4
    have H1 : (some false) = some r := by rw [if_neg (show ¬ (false = true) by decide)] at H; exact H
    clear H
    have H := H1
    clear H1
    obtain rfl := Option.some.inj H
    go_enter Tryd.func5, Tryd.ntmps5
    go_wp2_with (first | ((with_reducible refine gate_callee (f := 11) rfl ?_); refine goesL_ (some 23) rfl rfl Tryd.func11 (by kernel_rfl) rfl #[] rfl (by (try simp only [List.map_toArray, List.map_cons, List.map_nil]); first | done | rfl | (simp only [List.length_drop, List.length_take]; rfl)) ?_; (with_reducible refine (pennantlaw01_awake.calls k  false _ ?side1 A3.out).mono ?_); (case side1 => exact Tabs_below HT_.out (by repeat (first | (with_reducible first | exact HB.out | apply below_alloc | apply pw_below_drewN | apply below_drew1) | exact HB.out))); rintro e w52 ⟨rfl, hb⟩; refine ⟨_, rfl, ?_⟩; have n0_ := Aside0.mk (below_step (by repeat (first | (with_reducible first | exact HB.out | apply below_alloc | apply pw_below_drewN | apply below_drew1) | exact HB.out)) hb); clear HB; have HB := n0_; clear n0_; (try clear hb); (try clear hb2); (try clear hk); (try clear hi)))
    go_ret
    exact ⟨by first | rfl | (simp [errW_none, errW_some] <;> rfl) | (simp [*, errW_none, errW_some] <;> rfl), by repeat (first | (with_reducible first | exact HB.out | apply below_alloc | apply pw_below_drewN | apply below_drew1) | exact HB.out)⟩

/-- THE ONE PURE STATEMENT of pennantlaw01_UtfBack: yours. -/
def pennantlaw01_UtfBack.Pure : Prop := ∀ (a0 : ByteArray) (a1 : ByteArray), a0.size ≤ 140737488351232 → a1.size ≤ 140737488351232 → ∃ k, pennantlaw01_UtfBack.f k a0 a1 = some true
theorem pennantlaw01_UtfBack.walk (P : pennantlaw01_UtfBack.Pure) (a0 : ByteArray) (a1 : ByteArray) (w : World) (hT_ : Tabs w) (w0 : a0.size ≤ 140737488351232) (w1 : a1.size ≤ 140737488351232) :
    Calls Tryd.prog 5 #[.string a0, .string a1] w fun e w' => e = .returned (.bool true) ∧ Below w.heap.size w w' := by
  obtain ⟨k, h⟩ := P a0 a1 w0 w1
  refine (pennantlaw01_UtfBack.calls k a0 a1 true w hT_ h).mono ?_
  rintro e w' ⟨rfl, hd⟩
  exact ⟨rfl, hd⟩

end Go.Proofs.YtpclncikhlameaaDoor.PUtf
