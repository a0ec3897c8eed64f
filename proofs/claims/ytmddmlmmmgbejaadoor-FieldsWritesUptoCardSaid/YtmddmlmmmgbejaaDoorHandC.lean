/- The contract of fields.coded: a name or a value as it is written, through a strings.Builder. -/
import Derived.Test.YtmddmlmmmgbejaaDoorHandB
import Derived.StillTailTactics
namespace Go.Proofs.YtmddmlmmmgbejaaDoor.Hand
open Go.RowKit Go.Proofs.YtmddmlmmmgbejaaDoorW.PrintWords Go.Proofs.YtmddmlmmmgbejaaDoorW.PrintLast Go.Proofs.YtmddmlmmmgbejaaDoorW.PrintMore
set_option linter.unusedVariables false
set_option linter.unusedSimpArgs false

def markS : ByteArray := ⟨#[42, 45, 46, 95]⟩
def hexU : ByteArray := ⟨#[48, 49, 50, 51, 52, 53, 54, 55, 56, 57, 65, 66, 67, 68, 69, 70]⟩
/-- A byte that is written as it is. -/
def safeP (c : Int) : Prop := (97 ≤ c ∧ c ≤ 122) ∨ (65 ≤ c ∧ c ≤ 90) ∨ (48 ≤ c ∧ c ≤ 57) ∨ 0 ≤ Lib.indexByte markS.data.toList c.toNat.toUInt8
instance (c : Int) : Decidable (safeP c) := by unfold safeP; infer_instance
def hexS3 (c : Int) : ByteArray := ((⟨#[37]⟩ : ByteArray) ++ hexU.extract (c / 16).toNat (c / 16 + 1).toNat) ++ hexU.extract (Go.bits .and .u8 c 15).toNat (Go.bits .and .u8 c 15 + 1).toNat
/-- The bytes that stand for one. -/
def codeB (c : Int) : List UInt8 := if safeP c then [c.toNat.toUInt8] else if c = 32 then [(43 : Int).toNat.toUInt8] else (hexS3 c).data.toList
def codedGo (s : ByteArray) : Nat → Int → List UInt8 → Option ByteArray
  | 0, _, _ => none
  | k + 1, x, acc => if x < (s.size : Int) then (if 0 ≤ x then (if acc.length ≤ 140737488351232 then codedGo s k (wrap64 (x + 1)) (acc ++ codeB (bt s x)) else none) else none) else some ⟨acc.toArray⟩
def fields_coded.f (k : Nat) (a0 : ByteArray) : Option ByteArray := codedGo a0 k 0 []
theorem put_str (B : Nat) (acc : List UInt8) (s : ByteArray) (w0 w : World) (h : Bld B acc w) (hb : Below B w0 w) (hl : acc.length ≤ 140737488351232) (h0 : s.size ≤ 4000) :
    Calls Tryd.prog 31 #[.pointer (some ⟨B, 0, none⟩), .string s] w fun e w' => e = .returned (.tuple #[.int .i64 s.size, .nilIface]) ∧ (Aside0 (Bld B (acc ++ s.data.toList) w') ∧ Aside0 (Below B w0 w')) := by
  refine (Builder_WriteString B B (Lib.byteCells acc) s w h (by rw [cells_len]; omega) (Bld_lt h)).mono ?_
  rintro e w' ⟨rfl, hB, hw⟩
  refine ⟨rfl, ⟨.inr ?_⟩, ⟨hb.trans hw⟩⟩
  have e : Lib.byteCells acc ++ Lib.strCells s = Lib.byteCells (acc ++ s.data.toList) := by unfold Lib.byteCells Lib.strCells; rw [List.map_append]
  rw [e] at hB
  exact hB
theorem u8_fit (x : Int) (h0 : 0 ≤ x) (h1 : x ≤ 255) : IntKind.u8.wrap x = x := by
  have h : IntKind.u8.wrap x = x % 256 := rfl
  rw [h]; omega
theorem hexS3_len (c : Int) : (hexS3 c).size ≤ 4000 := by
  unfold hexS3
  have h : hexU.size = 16 := rfl
  rw [ByteArray.size_append, ByteArray.size_append, ByteArray.size_extract, ByteArray.size_extract, h]
  have h1 : (⟨#[37]⟩ : ByteArray).size = 1 := rfl
  rw [h1]
  omega
set_option maxRecDepth 100000 in
theorem and15_fin : ∀ x : Fin 256, Go.bits .and .u8 ((x.val : Nat) : Int) 15 = ((x.val % 16 : Nat) : Int) := by decide
theorem and15 (c : Int) (h0 : 0 ≤ c) (h1 : c ≤ 255) : 0 ≤ Go.bits .and .u8 c 15 ∧ Go.bits .and .u8 c 15 ≤ 15 := by
  obtain ⟨n, rfl⟩ := Int.eq_ofNat_of_zero_le h0
  have h := and15_fin ⟨n, by omega⟩
  simp only at h
  rw [h]
  omega
set_option maxHeartbeats 4000000 in
set_option maxRecDepth 100000 in
theorem fields_coded.calls (k : Nat) (a0 : ByteArray) (r : ByteArray) (w : World) (h : fields_coded.f k a0 = some r) :
    Calls Tryd.prog 21 #[.string a0] w fun e w' => e = .returned (.string r) ∧ Below w.heap.size w w' := by
  have HF := Aside0.mk (show Bld w.heap.size [] (w.alloc (.cells #[.pointer none, .slice none 0 0] 53)) from Lib.fresh_isBuilder 53 5 w)
  have HB0 := Aside0.mk ((Below.refl w.heap.size w).alloc (Nat.le_refl _) (.cells #[.pointer none, .slice none 0 0] 53))
  have HA := Aside0.mk (show codedGo a0 k 0 [] = some r from h)
  clear h
  go_enter Tryd.func21, Tryd.ntmps21
  go_wp2
  go_loopg [8] k (fun kq v8 w' => ∃ (x : Int) (acc : List UInt8), v8 = .int .i64 x ∧ Aside0 (codedGo a0 kq x acc = some r) ∧ Aside0 (kq ≤ k) ∧ Aside0 (Bld w.heap.size acc w') ∧ Aside0 (Below w.heap.size w w'))
  case atStart => exact ⟨0, [], rfl, HA, ⟨Nat.le_refl _⟩, HF, HB0⟩
  case round =>
    clear HA HF HB0
    obtain ⟨x, acc, rfl, HA, HK, HBl, HB⟩ := hrel
    cases gk with
    | zero => exact absurd HA.out (by simp [codedGo])
    | succ k1 =>
      have H := HA.out
      clear HA
      simp only [codedGo] at H
      by_cases c1 : x < (a0.size : Int)
      · rw [if_pos c1] at H
        have d1 : decide (x < (a0.size : Int)) = true := decide_eq_true c1
        by_cases c2 : 0 ≤ x
        · rw [if_pos c2] at H
          have d2 : decide (0 ≤ x) = true := decide_eq_true c2
          have hx4 := bt_at a0 x
          have hr4 := bt_range a0 x
          have p4 := eq_true c2
          have q4 := eq_true c1
          clear c1 c2
          by_cases c3 : acc.length ≤ 140737488351232
          · rw [if_pos c3] at H
            have HPut := fun (V : Int) (h0 : 0 ≤ V) (h1 : V ≤ 255) (wc : World) (hh : Bld w.heap.size acc wc) (hb : Below w.heap.size w wc) => Aside0.mk (put_byte w.heap.size acc V w wc hh hb c3 h0 h1)
            have HStr := fun (s : ByteArray) (h0 : s.size ≤ 4000) (wc : World) (hh : Bld w.heap.size acc wc) (hb : Below w.heap.size w wc) => Aside0.mk (put_str w.heap.size acc s w wc hh hb c3 h0)
            clear c3
            have HI := fun (c : Int) (wc : World) => Aside0.mk (Tryd.strings_IndexByte markS c wc)
            generalize bt a0 x = c at *
            have HR := Aside0.mk hr4
            clear hr4
            have h32 : ¬ safeP 32 := by decide
            -- the byte as it is
            have HSafe := fun (hs : safeP c) => (show codeB c = [c.toNat.toUInt8] from if_pos hs)
            unfold markS at HI
            have gr := HR.out
            by_cases g0 : c ≤ 47
            · have ga97 : decide (97 ≤ c) = false := by first | exact decide_eq_true (by omega) | exact decide_eq_false (by omega)
              have gb122 : decide (c ≤ 122) = true := by first | exact decide_eq_true (by omega) | exact decide_eq_false (by omega)
              have ga65 : decide (65 ≤ c) = false := by first | exact decide_eq_true (by omega) | exact decide_eq_false (by omega)
              have gb90 : decide (c ≤ 90) = true := by first | exact decide_eq_true (by omega) | exact decide_eq_false (by omega)
              have ga48 : decide (48 ≤ c) = false := by first | exact decide_eq_true (by omega) | exact decide_eq_false (by omega)
              have gb57 : decide (c ≤ 57) = true := by first | exact decide_eq_true (by omega) | exact decide_eq_false (by omega)
              by_cases i0 : 0 ≤ Lib.indexByte markS.data.toList c.toNat.toUInt8
              · have hi : decide (0 ≤ Lib.indexByte ([42, 45, 46, 95] : List UInt8) (UInt8.ofNat c.toNat)) = true := decide_eq_true i0
                rw [HSafe (.inr (.inr (.inr i0)))] at H
                have H' := Aside0.mk H
                clear H HSafe gr i0 HStr
                go_wp2_with (first | (go_at_call 26; (refine ((HPut c HR.out.1 HR.out.2 _ ?p2 ?p3).out).mono ?_); (case p2 => exact HBl.out); (case p3 => exact HB.out); rintro e w' ⟨rfl, HBl2, HB2⟩) | (go_at_call 30; (refine ((HI _ _).out).mono ?_); rintro e w' ⟨rfl, rfl⟩))
                go_roundg k1
                case measure => have := HK.out; omega
                case rel => exact ⟨_, _, rfl, H', ⟨by have := HK.out; omega⟩, HBl2, HB2⟩
              · have hi : decide (0 ≤ Lib.indexByte ([42, 45, 46, 95] : List UInt8) (UInt8.ofNat c.toNat)) = false := decide_eq_false i0
                have hns : ¬ safeP c := by unfold safeP; omega
                by_cases s0 : c = 32
                · rw [show codeB c = [(43 : Int).toNat.toUInt8] from (if_neg hns).trans (if_pos s0)] at H
                  have s1 : (c == 32) = true := beq_iff_eq.mpr s0
                  have H' := Aside0.mk H
                  clear H HSafe gr i0 hns s0 HStr
                  go_wp2_with (first | (go_at_call 26; (refine ((HPut 43 (by omega) (by omega) _ ?p2 ?p3).out).mono ?_); (case p2 => exact HBl.out); (case p3 => exact HB.out); rintro e w' ⟨rfl, HBl2, HB2⟩) | (go_at_call 30; (refine ((HI _ _).out).mono ?_); rintro e w' ⟨rfl, rfl⟩))
                  go_roundg k1
                  case measure => have := HK.out; omega
                  case rel => exact ⟨_, _, rfl, H', ⟨by have := HK.out; omega⟩, HBl2, HB2⟩
                · have s1 : (c == 32) = false := beq_eq_false_iff_ne.mpr s0
                  rw [show codeB c = (hexS3 c).data.toList from (if_neg hns).trans (if_neg s0)] at H
                  have hL3 := hexS3_len c
                  obtain ⟨S, hS⟩ : ∃ S, hexS3 c = S := ⟨_, rfl⟩
                  rw [hS] at H hL3
                  have hS' : ((⟨#[37]⟩ : ByteArray) ++ (⟨#[48, 49, 50, 51, 52, 53, 54, 55, 56, 57, 65, 66, 67, 68, 69, 70]⟩ : ByteArray).extract (c / 16).toNat (c / 16 + 1).toNat) ++ (⟨#[48, 49, 50, 51, 52, 53, 54, 55, 56, 57, 65, 66, 67, 68, 69, 70]⟩ : ByteArray).extract (Go.bits .and .u8 c 15).toNat (Go.bits .and .u8 c 15 + 1).toNat = S := hS
                  clear hS
                  have HL3 := Aside0.mk hL3
                  clear hL3
                  have H' := Aside0.mk H
                  have b0 : 0 ≤ c / 16 := by have := HR.out; omega
                  have b1 : c / 16 ≤ 15 := by have := HR.out; omega
                  have b2 := (and15 c HR.out.1 HR.out.2).1
                  have b3 := (and15 c HR.out.1 HR.out.2).2
                  clear H HSafe gr i0 hns s0 HPut
                  have hw1 : IntKind.u8.wrap (c / 16 + 1) = c / 16 + 1 := u8_fit _ (by omega) (by omega)
                  have hw2 : IntKind.u8.wrap (Go.bits .and .u8 c 15 + 1) = Go.bits .and .u8 c 15 + 1 := u8_fit _ (by omega) (by omega)
                  have hz : (⟨#[48, 49, 50, 51, 52, 53, 54, 55, 56, 57, 65, 66, 67, 68, 69, 70]⟩ : ByteArray).size = 16 := rfl
                  have t0 := eq_true b0
                  have t1 : (c / 16 ≤ c / 16 + 1) = True := eq_true (by omega)
                  have t2 : (c / 16 + 1 ≤ 16) = True := eq_true (by omega)
                  have t3 := eq_true b2
                  have t4 : (Go.bits .and .u8 c 15 ≤ Go.bits .and .u8 c 15 + 1) = True := eq_true (by omega)
                  have t5 : (Go.bits .and .u8 c 15 + 1 ≤ 16) = True := eq_true (by omega)
                  have z1 : (9223372036854775807 < 1 + ((c / 16 + 1).toNat - (c / 16).toNat)) = False := eq_false (by omega)
                  have z2 : (9223372036854775807 < 1 + ((c / 16 + 1).toNat - (c / 16).toNat) + ((Go.bits .and .u8 c 15 + 1).toNat - (Go.bits .and .u8 c 15).toNat)) = False := eq_false (by omega)
                  clear b0 b1 b2 b3
                  go_wp2_with (first | (go_at_call 30; (refine ((HI _ _).out).mono ?_); rintro e w' ⟨rfl, rfl⟩))
                  go_still_tail 14, (by kernel_rfl)
                  have HBd := Aside0.mk (show Bld w.heap.size acc (World.drew w') from HBl.out)
                  have HBe := Aside0.mk (below_drew1 HB.out)
                  change wpList _ _ _ _ _ (World.drew w')
                  generalize World.drew w' = w2 at HBd HBe ⊢
                  clear HBl HB
                  go_wp2_with (go_at_call 31; (refine ((HStr _ HL3.out w2 HBd.out HBe.out).out).mono ?_); rintro e w3 ⟨rfl, HBl2, HB2⟩)
                  go_roundg k1
                  case measure => have := HK.out; omega
                  case rel => exact ⟨_, _, rfl, H', ⟨by have := HK.out; omega⟩, HBl2, HB2⟩
            · skip
              by_cases g1 : c ≤ 57
              · have ga97 : decide (97 ≤ c) = false := by first | exact decide_eq_true (by omega) | exact decide_eq_false (by omega)
                have gb122 : decide (c ≤ 122) = true := by first | exact decide_eq_true (by omega) | exact decide_eq_false (by omega)
                have ga65 : decide (65 ≤ c) = false := by first | exact decide_eq_true (by omega) | exact decide_eq_false (by omega)
                have gb90 : decide (c ≤ 90) = true := by first | exact decide_eq_true (by omega) | exact decide_eq_false (by omega)
                have ga48 : decide (48 ≤ c) = true := by first | exact decide_eq_true (by omega) | exact decide_eq_false (by omega)
                have gb57 : decide (c ≤ 57) = true := by first | exact decide_eq_true (by omega) | exact decide_eq_false (by omega)
                rw [HSafe (.inr (.inr (.inl ⟨by omega, by omega⟩)))] at H
                have H' := Aside0.mk H
                clear H HSafe gr HStr
                go_wp2_with (first | (go_at_call 26; (refine ((HPut c HR.out.1 HR.out.2 _ ?p2 ?p3).out).mono ?_); (case p2 => exact HBl.out); (case p3 => exact HB.out); rintro e w' ⟨rfl, HBl2, HB2⟩) | (go_at_call 30; (refine ((HI _ _).out).mono ?_); rintro e w' ⟨rfl, rfl⟩))
                go_roundg k1
                case measure => have := HK.out; omega
                case rel => exact ⟨_, _, rfl, H', ⟨by have := HK.out; omega⟩, HBl2, HB2⟩
              · skip
                by_cases g2 : c ≤ 64
                · have ga97 : decide (97 ≤ c) = false := by first | exact decide_eq_true (by omega) | exact decide_eq_false (by omega)
                  have gb122 : decide (c ≤ 122) = true := by first | exact decide_eq_true (by omega) | exact decide_eq_false (by omega)
                  have ga65 : decide (65 ≤ c) = false := by first | exact decide_eq_true (by omega) | exact decide_eq_false (by omega)
                  have gb90 : decide (c ≤ 90) = true := by first | exact decide_eq_true (by omega) | exact decide_eq_false (by omega)
                  have ga48 : decide (48 ≤ c) = true := by first | exact decide_eq_true (by omega) | exact decide_eq_false (by omega)
                  have gb57 : decide (c ≤ 57) = false := by first | exact decide_eq_true (by omega) | exact decide_eq_false (by omega)
                  by_cases i0 : 0 ≤ Lib.indexByte markS.data.toList c.toNat.toUInt8
                  · have hi : decide (0 ≤ Lib.indexByte ([42, 45, 46, 95] : List UInt8) (UInt8.ofNat c.toNat)) = true := decide_eq_true i0
                    rw [HSafe (.inr (.inr (.inr i0)))] at H
                    have H' := Aside0.mk H
                    clear H HSafe gr i0 HStr
                    go_wp2_with (first | (go_at_call 26; (refine ((HPut c HR.out.1 HR.out.2 _ ?p2 ?p3).out).mono ?_); (case p2 => exact HBl.out); (case p3 => exact HB.out); rintro e w' ⟨rfl, HBl2, HB2⟩) | (go_at_call 30; (refine ((HI _ _).out).mono ?_); rintro e w' ⟨rfl, rfl⟩))
                    go_roundg k1
                    case measure => have := HK.out; omega
                    case rel => exact ⟨_, _, rfl, H', ⟨by have := HK.out; omega⟩, HBl2, HB2⟩
                  · have hi : decide (0 ≤ Lib.indexByte ([42, 45, 46, 95] : List UInt8) (UInt8.ofNat c.toNat)) = false := decide_eq_false i0
                    have hns : ¬ safeP c := by unfold safeP; omega
                    have s0 : ¬ c = 32 := by omega
                    have s1 : (c == 32) = false := beq_eq_false_iff_ne.mpr s0
                    rw [show codeB c = (hexS3 c).data.toList from (if_neg hns).trans (if_neg s0)] at H
                    have hL3 := hexS3_len c
                    obtain ⟨S, hS⟩ : ∃ S, hexS3 c = S := ⟨_, rfl⟩
                    rw [hS] at H hL3
                    have hS' : ((⟨#[37]⟩ : ByteArray) ++ (⟨#[48, 49, 50, 51, 52, 53, 54, 55, 56, 57, 65, 66, 67, 68, 69, 70]⟩ : ByteArray).extract (c / 16).toNat (c / 16 + 1).toNat) ++ (⟨#[48, 49, 50, 51, 52, 53, 54, 55, 56, 57, 65, 66, 67, 68, 69, 70]⟩ : ByteArray).extract (Go.bits .and .u8 c 15).toNat (Go.bits .and .u8 c 15 + 1).toNat = S := hS
                    clear hS
                    have HL3 := Aside0.mk hL3
                    clear hL3
                    have H' := Aside0.mk H
                    have b0 : 0 ≤ c / 16 := by have := HR.out; omega
                    have b1 : c / 16 ≤ 15 := by have := HR.out; omega
                    have b2 := (and15 c HR.out.1 HR.out.2).1
                    have b3 := (and15 c HR.out.1 HR.out.2).2
                    clear H HSafe gr i0 hns s0 HPut
                    have hw1 : IntKind.u8.wrap (c / 16 + 1) = c / 16 + 1 := u8_fit _ (by omega) (by omega)
                    have hw2 : IntKind.u8.wrap (Go.bits .and .u8 c 15 + 1) = Go.bits .and .u8 c 15 + 1 := u8_fit _ (by omega) (by omega)
                    have hz : (⟨#[48, 49, 50, 51, 52, 53, 54, 55, 56, 57, 65, 66, 67, 68, 69, 70]⟩ : ByteArray).size = 16 := rfl
                    have t0 := eq_true b0
                    have t1 : (c / 16 ≤ c / 16 + 1) = True := eq_true (by omega)
                    have t2 : (c / 16 + 1 ≤ 16) = True := eq_true (by omega)
                    have t3 := eq_true b2
                    have t4 : (Go.bits .and .u8 c 15 ≤ Go.bits .and .u8 c 15 + 1) = True := eq_true (by omega)
                    have t5 : (Go.bits .and .u8 c 15 + 1 ≤ 16) = True := eq_true (by omega)
                    have z1 : (9223372036854775807 < 1 + ((c / 16 + 1).toNat - (c / 16).toNat)) = False := eq_false (by omega)
                    have z2 : (9223372036854775807 < 1 + ((c / 16 + 1).toNat - (c / 16).toNat) + ((Go.bits .and .u8 c 15 + 1).toNat - (Go.bits .and .u8 c 15).toNat)) = False := eq_false (by omega)
                    clear b0 b1 b2 b3
                    go_wp2_with (first | (go_at_call 30; (refine ((HI _ _).out).mono ?_); rintro e w' ⟨rfl, rfl⟩))
                    go_still_tail 14, (by kernel_rfl)
                    have HBd := Aside0.mk (show Bld w.heap.size acc (World.drew w') from HBl.out)
                    have HBe := Aside0.mk (below_drew1 HB.out)
                    change wpList _ _ _ _ _ (World.drew w')
                    generalize World.drew w' = w2 at HBd HBe ⊢
                    clear HBl HB
                    go_wp2_with (go_at_call 31; (refine ((HStr _ HL3.out w2 HBd.out HBe.out).out).mono ?_); rintro e w3 ⟨rfl, HBl2, HB2⟩)
                    go_roundg k1
                    case measure => have := HK.out; omega
                    case rel => exact ⟨_, _, rfl, H', ⟨by have := HK.out; omega⟩, HBl2, HB2⟩
                · skip
                  by_cases g3 : c ≤ 90
                  · have ga97 : decide (97 ≤ c) = false := by first | exact decide_eq_true (by omega) | exact decide_eq_false (by omega)
                    have gb122 : decide (c ≤ 122) = true := by first | exact decide_eq_true (by omega) | exact decide_eq_false (by omega)
                    have ga65 : decide (65 ≤ c) = true := by first | exact decide_eq_true (by omega) | exact decide_eq_false (by omega)
                    have gb90 : decide (c ≤ 90) = true := by first | exact decide_eq_true (by omega) | exact decide_eq_false (by omega)
                    have ga48 : decide (48 ≤ c) = true := by first | exact decide_eq_true (by omega) | exact decide_eq_false (by omega)
                    have gb57 : decide (c ≤ 57) = false := by first | exact decide_eq_true (by omega) | exact decide_eq_false (by omega)
                    rw [HSafe (.inr (.inl ⟨by omega, by omega⟩))] at H
                    have H' := Aside0.mk H
                    clear H HSafe gr HStr
                    go_wp2_with (first | (go_at_call 26; (refine ((HPut c HR.out.1 HR.out.2 _ ?p2 ?p3).out).mono ?_); (case p2 => exact HBl.out); (case p3 => exact HB.out); rintro e w' ⟨rfl, HBl2, HB2⟩) | (go_at_call 30; (refine ((HI _ _).out).mono ?_); rintro e w' ⟨rfl, rfl⟩))
                    go_roundg k1
                    case measure => have := HK.out; omega
                    case rel => exact ⟨_, _, rfl, H', ⟨by have := HK.out; omega⟩, HBl2, HB2⟩
                  · skip
                    by_cases g4 : c ≤ 96
                    · have ga97 : decide (97 ≤ c) = false := by first | exact decide_eq_true (by omega) | exact decide_eq_false (by omega)
                      have gb122 : decide (c ≤ 122) = true := by first | exact decide_eq_true (by omega) | exact decide_eq_false (by omega)
                      have ga65 : decide (65 ≤ c) = true := by first | exact decide_eq_true (by omega) | exact decide_eq_false (by omega)
                      have gb90 : decide (c ≤ 90) = false := by first | exact decide_eq_true (by omega) | exact decide_eq_false (by omega)
                      have ga48 : decide (48 ≤ c) = true := by first | exact decide_eq_true (by omega) | exact decide_eq_false (by omega)
                      have gb57 : decide (c ≤ 57) = false := by first | exact decide_eq_true (by omega) | exact decide_eq_false (by omega)
                      by_cases i0 : 0 ≤ Lib.indexByte markS.data.toList c.toNat.toUInt8
                      · have hi : decide (0 ≤ Lib.indexByte ([42, 45, 46, 95] : List UInt8) (UInt8.ofNat c.toNat)) = true := decide_eq_true i0
                        rw [HSafe (.inr (.inr (.inr i0)))] at H
                        have H' := Aside0.mk H
                        clear H HSafe gr i0 HStr
                        go_wp2_with (first | (go_at_call 26; (refine ((HPut c HR.out.1 HR.out.2 _ ?p2 ?p3).out).mono ?_); (case p2 => exact HBl.out); (case p3 => exact HB.out); rintro e w' ⟨rfl, HBl2, HB2⟩) | (go_at_call 30; (refine ((HI _ _).out).mono ?_); rintro e w' ⟨rfl, rfl⟩))
                        go_roundg k1
                        case measure => have := HK.out; omega
                        case rel => exact ⟨_, _, rfl, H', ⟨by have := HK.out; omega⟩, HBl2, HB2⟩
                      · have hi : decide (0 ≤ Lib.indexByte ([42, 45, 46, 95] : List UInt8) (UInt8.ofNat c.toNat)) = false := decide_eq_false i0
                        have hns : ¬ safeP c := by unfold safeP; omega
                        have s0 : ¬ c = 32 := by omega
                        have s1 : (c == 32) = false := beq_eq_false_iff_ne.mpr s0
                        rw [show codeB c = (hexS3 c).data.toList from (if_neg hns).trans (if_neg s0)] at H
                        have hL3 := hexS3_len c
                        obtain ⟨S, hS⟩ : ∃ S, hexS3 c = S := ⟨_, rfl⟩
                        rw [hS] at H hL3
                        have hS' : ((⟨#[37]⟩ : ByteArray) ++ (⟨#[48, 49, 50, 51, 52, 53, 54, 55, 56, 57, 65, 66, 67, 68, 69, 70]⟩ : ByteArray).extract (c / 16).toNat (c / 16 + 1).toNat) ++ (⟨#[48, 49, 50, 51, 52, 53, 54, 55, 56, 57, 65, 66, 67, 68, 69, 70]⟩ : ByteArray).extract (Go.bits .and .u8 c 15).toNat (Go.bits .and .u8 c 15 + 1).toNat = S := hS
                        clear hS
                        have HL3 := Aside0.mk hL3
                        clear hL3
                        have H' := Aside0.mk H
                        have b0 : 0 ≤ c / 16 := by have := HR.out; omega
                        have b1 : c / 16 ≤ 15 := by have := HR.out; omega
                        have b2 := (and15 c HR.out.1 HR.out.2).1
                        have b3 := (and15 c HR.out.1 HR.out.2).2
                        clear H HSafe gr i0 hns s0 HPut
                        have hw1 : IntKind.u8.wrap (c / 16 + 1) = c / 16 + 1 := u8_fit _ (by omega) (by omega)
                        have hw2 : IntKind.u8.wrap (Go.bits .and .u8 c 15 + 1) = Go.bits .and .u8 c 15 + 1 := u8_fit _ (by omega) (by omega)
                        have hz : (⟨#[48, 49, 50, 51, 52, 53, 54, 55, 56, 57, 65, 66, 67, 68, 69, 70]⟩ : ByteArray).size = 16 := rfl
                        have t0 := eq_true b0
                        have t1 : (c / 16 ≤ c / 16 + 1) = True := eq_true (by omega)
                        have t2 : (c / 16 + 1 ≤ 16) = True := eq_true (by omega)
                        have t3 := eq_true b2
                        have t4 : (Go.bits .and .u8 c 15 ≤ Go.bits .and .u8 c 15 + 1) = True := eq_true (by omega)
                        have t5 : (Go.bits .and .u8 c 15 + 1 ≤ 16) = True := eq_true (by omega)
                        have z1 : (9223372036854775807 < 1 + ((c / 16 + 1).toNat - (c / 16).toNat)) = False := eq_false (by omega)
                        have z2 : (9223372036854775807 < 1 + ((c / 16 + 1).toNat - (c / 16).toNat) + ((Go.bits .and .u8 c 15 + 1).toNat - (Go.bits .and .u8 c 15).toNat)) = False := eq_false (by omega)
                        clear b0 b1 b2 b3
                        go_wp2_with (first | (go_at_call 30; (refine ((HI _ _).out).mono ?_); rintro e w' ⟨rfl, rfl⟩))
                        go_still_tail 14, (by kernel_rfl)
                        have HBd := Aside0.mk (show Bld w.heap.size acc (World.drew w') from HBl.out)
                        have HBe := Aside0.mk (below_drew1 HB.out)
                        change wpList _ _ _ _ _ (World.drew w')
                        generalize World.drew w' = w2 at HBd HBe ⊢
                        clear HBl HB
                        go_wp2_with (go_at_call 31; (refine ((HStr _ HL3.out w2 HBd.out HBe.out).out).mono ?_); rintro e w3 ⟨rfl, HBl2, HB2⟩)
                        go_roundg k1
                        case measure => have := HK.out; omega
                        case rel => exact ⟨_, _, rfl, H', ⟨by have := HK.out; omega⟩, HBl2, HB2⟩
                    · skip
                      by_cases g5 : c ≤ 122
                      · have ga97 : decide (97 ≤ c) = true := by first | exact decide_eq_true (by omega) | exact decide_eq_false (by omega)
                        have gb122 : decide (c ≤ 122) = true := by first | exact decide_eq_true (by omega) | exact decide_eq_false (by omega)
                        have ga65 : decide (65 ≤ c) = true := by first | exact decide_eq_true (by omega) | exact decide_eq_false (by omega)
                        have gb90 : decide (c ≤ 90) = false := by first | exact decide_eq_true (by omega) | exact decide_eq_false (by omega)
                        have ga48 : decide (48 ≤ c) = true := by first | exact decide_eq_true (by omega) | exact decide_eq_false (by omega)
                        have gb57 : decide (c ≤ 57) = false := by first | exact decide_eq_true (by omega) | exact decide_eq_false (by omega)
                        rw [HSafe (.inl ⟨by omega, by omega⟩)] at H
                        have H' := Aside0.mk H
                        clear H HSafe gr HStr
                        go_wp2_with (first | (go_at_call 26; (refine ((HPut c HR.out.1 HR.out.2 _ ?p2 ?p3).out).mono ?_); (case p2 => exact HBl.out); (case p3 => exact HB.out); rintro e w' ⟨rfl, HBl2, HB2⟩) | (go_at_call 30; (refine ((HI _ _).out).mono ?_); rintro e w' ⟨rfl, rfl⟩))
                        go_roundg k1
                        case measure => have := HK.out; omega
                        case rel => exact ⟨_, _, rfl, H', ⟨by have := HK.out; omega⟩, HBl2, HB2⟩
                      · skip
                        have ga97 : decide (97 ≤ c) = true := by first | exact decide_eq_true (by omega) | exact decide_eq_false (by omega)
                        have gb122 : decide (c ≤ 122) = false := by first | exact decide_eq_true (by omega) | exact decide_eq_false (by omega)
                        have ga65 : decide (65 ≤ c) = true := by first | exact decide_eq_true (by omega) | exact decide_eq_false (by omega)
                        have gb90 : decide (c ≤ 90) = false := by first | exact decide_eq_true (by omega) | exact decide_eq_false (by omega)
                        have ga48 : decide (48 ≤ c) = true := by first | exact decide_eq_true (by omega) | exact decide_eq_false (by omega)
                        have gb57 : decide (c ≤ 57) = false := by first | exact decide_eq_true (by omega) | exact decide_eq_false (by omega)
                        by_cases i0 : 0 ≤ Lib.indexByte markS.data.toList c.toNat.toUInt8
                        · have hi : decide (0 ≤ Lib.indexByte ([42, 45, 46, 95] : List UInt8) (UInt8.ofNat c.toNat)) = true := decide_eq_true i0
                          rw [HSafe (.inr (.inr (.inr i0)))] at H
                          have H' := Aside0.mk H
                          clear H HSafe gr i0 HStr
                          go_wp2_with (first | (go_at_call 26; (refine ((HPut c HR.out.1 HR.out.2 _ ?p2 ?p3).out).mono ?_); (case p2 => exact HBl.out); (case p3 => exact HB.out); rintro e w' ⟨rfl, HBl2, HB2⟩) | (go_at_call 30; (refine ((HI _ _).out).mono ?_); rintro e w' ⟨rfl, rfl⟩))
                          go_roundg k1
                          case measure => have := HK.out; omega
                          case rel => exact ⟨_, _, rfl, H', ⟨by have := HK.out; omega⟩, HBl2, HB2⟩
                        · have hi : decide (0 ≤ Lib.indexByte ([42, 45, 46, 95] : List UInt8) (UInt8.ofNat c.toNat)) = false := decide_eq_false i0
                          have hns : ¬ safeP c := by unfold safeP; omega
                          have s0 : ¬ c = 32 := by omega
                          have s1 : (c == 32) = false := beq_eq_false_iff_ne.mpr s0
                          rw [show codeB c = (hexS3 c).data.toList from (if_neg hns).trans (if_neg s0)] at H
                          have hL3 := hexS3_len c
                          obtain ⟨S, hS⟩ : ∃ S, hexS3 c = S := ⟨_, rfl⟩
                          rw [hS] at H hL3
                          have hS' : ((⟨#[37]⟩ : ByteArray) ++ (⟨#[48, 49, 50, 51, 52, 53, 54, 55, 56, 57, 65, 66, 67, 68, 69, 70]⟩ : ByteArray).extract (c / 16).toNat (c / 16 + 1).toNat) ++ (⟨#[48, 49, 50, 51, 52, 53, 54, 55, 56, 57, 65, 66, 67, 68, 69, 70]⟩ : ByteArray).extract (Go.bits .and .u8 c 15).toNat (Go.bits .and .u8 c 15 + 1).toNat = S := hS
                          clear hS
                          have HL3 := Aside0.mk hL3
                          clear hL3
                          have H' := Aside0.mk H
                          have b0 : 0 ≤ c / 16 := by have := HR.out; omega
                          have b1 : c / 16 ≤ 15 := by have := HR.out; omega
                          have b2 := (and15 c HR.out.1 HR.out.2).1
                          have b3 := (and15 c HR.out.1 HR.out.2).2
                          clear H HSafe gr i0 hns s0 HPut
                          have hw1 : IntKind.u8.wrap (c / 16 + 1) = c / 16 + 1 := u8_fit _ (by omega) (by omega)
                          have hw2 : IntKind.u8.wrap (Go.bits .and .u8 c 15 + 1) = Go.bits .and .u8 c 15 + 1 := u8_fit _ (by omega) (by omega)
                          have hz : (⟨#[48, 49, 50, 51, 52, 53, 54, 55, 56, 57, 65, 66, 67, 68, 69, 70]⟩ : ByteArray).size = 16 := rfl
                          have t0 := eq_true b0
                          have t1 : (c / 16 ≤ c / 16 + 1) = True := eq_true (by omega)
                          have t2 : (c / 16 + 1 ≤ 16) = True := eq_true (by omega)
                          have t3 := eq_true b2
                          have t4 : (Go.bits .and .u8 c 15 ≤ Go.bits .and .u8 c 15 + 1) = True := eq_true (by omega)
                          have t5 : (Go.bits .and .u8 c 15 + 1 ≤ 16) = True := eq_true (by omega)
                          have z1 : (9223372036854775807 < 1 + ((c / 16 + 1).toNat - (c / 16).toNat)) = False := eq_false (by omega)
                          have z2 : (9223372036854775807 < 1 + ((c / 16 + 1).toNat - (c / 16).toNat) + ((Go.bits .and .u8 c 15 + 1).toNat - (Go.bits .and .u8 c 15).toNat)) = False := eq_false (by omega)
                          clear b0 b1 b2 b3
                          go_wp2_with (first | (go_at_call 30; (refine ((HI _ _).out).mono ?_); rintro e w' ⟨rfl, rfl⟩))
                          go_still_tail 14, (by kernel_rfl)
                          have HBd := Aside0.mk (show Bld w.heap.size acc (World.drew w') from HBl.out)
                          have HBe := Aside0.mk (below_drew1 HB.out)
                          change wpList _ _ _ _ _ (World.drew w')
                          generalize World.drew w' = w2 at HBd HBe ⊢
                          clear HBl HB
                          go_wp2_with (go_at_call 31; (refine ((HStr _ HL3.out w2 HBd.out HBe.out).out).mono ?_); rintro e w3 ⟨rfl, HBl2, HB2⟩)
                          go_roundg k1
                          case measure => have := HK.out; omega
                          case rel => exact ⟨_, _, rfl, H', ⟨by have := HK.out; omega⟩, HBl2, HB2⟩
          · rw [if_neg c3] at H
            cases H
        · rw [if_neg c2] at H
          cases H
      · rw [if_neg c1] at H
        have d1 : decide (x < (a0.size : Int)) = false := decide_eq_false c1
        clear c1
        simp only [Option.some.injEq] at H
        subst H
        have HS := fun (wc : World) (hh : Bld w.heap.size acc wc) => Aside0.mk (Tryd.Builder_String_any w.heap.size w.heap.size acc wc hh (Bld_lt hh))
        go_wp2_with (go_at_call 28; (refine ((HS _ HBl.out).out).mono ?_); rintro e w' ⟨rfl, HB2⟩)
        go_ret
        exact ⟨rfl, HB.out.trans HB2⟩
end Go.Proofs.YtmddmlmmmgbejaaDoor.Hand
