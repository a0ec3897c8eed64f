-- Written by a program of this session (a turned copy of the print): the machine's side.
import Derived.Test.YtpclncikhlameaaDoorPUtfx0
import Derived.Test.YtpclncikhlameaaDoorPUtfx3
import Derived.Test.YtpclncikhlameaaDoorPUtfx5
namespace Go.Proofs.YtpclncikhlameaaDoor.PUtf
open Go.RowKit Go.Proofs.YtpclncikhlameaaDoorW.PrintWords Go.Proofs.YtpclncikhlameaaDoorW.PrintLast Go.Proofs.YtpclncikhlameaaDoorW.PrintMore Go.Proofs.YtpclncikhlameaaDoor.Hand
attribute [local go_sem] max2_int min2_int max_two min_two max_three min_three max_four min_four   -- for this text's walks alone
set_option linter.unusedVariables false
set_option linter.unusedSimpArgs false

/-! ### pennantref01_Case: function 27 -/
mutual
def pennantref01_Case.l0 : Nat → ByteArray → Bool → ByteArray → Int → Option (ByteArray)
  | 0, _, _, _, _ => none
  | k + 1, x0, x1, x5, x6 => (pennantref01_Length.f x0).bind fun t250 => (if x6 < t250 then ((pennantref01_At.f x0 x6).bind fun t251 => (if x1 = true then (if t251 ≥ 97 then (pennantref01_Case.j1 k x0 x1 x5 x6 t251 (decide (t251 ≤ 122))) else (pennantref01_Case.j1 k x0 x1 x5 x6 t251 false)) else (pennantref01_Case.j1 k x0 x1 x5 x6 t251 false))) else (some x5))
def pennantref01_Case.j1 : Nat → ByteArray → Bool → ByteArray → Int → Int → Bool → Option (ByteArray)
  | 0, _, _, _, _, _, _ => none
  | k + 1, x0, x1, x5, x6, x7, x25 => if x25 = true then ((pennantref01_Unit.f (wrap64 (x7 - 32))).bind fun t252 => (if x5.size + t252.size ≤ 9223372036854775807 then (pennantref01_Case.l0 k x0 x1 (x5 ++ t252) (wrap64 (x6 + 1))) else (none))) else (if x1 = true then ((pennantref01_Unit.f x7).bind fun t253 => (if x5.size + t253.size ≤ 9223372036854775807 then (pennantref01_Case.l0 k x0 x1 (x5 ++ t253) (wrap64 (x6 + 1))) else (none))) else (if x7 ≥ 65 then (if x7 ≤ 90 then ((pennantref01_Unit.f (wrap64 (x7 + 32))).bind fun t254 => (if x5.size + t254.size ≤ 9223372036854775807 then (pennantref01_Case.l0 k x0 x1 (x5 ++ t254) (wrap64 (x6 + 1))) else (none))) else ((pennantref01_Unit.f x7).bind fun t255 => (if x5.size + t255.size ≤ 9223372036854775807 then (pennantref01_Case.l0 k x0 x1 (x5 ++ t255) (wrap64 (x6 + 1))) else (none)))) else ((pennantref01_Unit.f x7).bind fun t256 => (if x5.size + t256.size ≤ 9223372036854775807 then (pennantref01_Case.l0 k x0 x1 (x5 ++ t256) (wrap64 (x6 + 1))) else (none)))))
end
def pennantref01_Case.f (k : Nat) (a0 : ByteArray) (a1 : Bool) : Option (ByteArray) := pennantref01_Case.l0 k a0 a1 (⟨#[]⟩ : ByteArray) 0
theorem pennantref01_Case.mono_l : ∀ k, (∀ y0 y1 y2 y3, LeO (pennantref01_Case.l0 k y0 y1 y2 y3) (pennantref01_Case.l0 (k + 1) y0 y1 y2 y3)) ∧ (∀ y0 y1 y2 y3 y4 y5, LeO (pennantref01_Case.j1 k y0 y1 y2 y3 y4 y5) (pennantref01_Case.j1 (k + 1) y0 y1 y2 y3 y4 y5))
  | 0 => ⟨fun _ _ _ _ r h => by simp [pennantref01_Case.l0] at h, fun _ _ _ _ _ _ r h => by simp [pennantref01_Case.j1] at h⟩
  | k + 1 => by
    obtain ⟨ih0, ih1⟩ := pennantref01_Case.mono_l k
    refine ⟨?_, ?_⟩
    · intro y0 y1 y2 y3
      unfold pennantref01_Case.l0
      repeat' first
      | (with_reducible exact ih0 _ _ _ _)
      | (with_reducible exact ih1 _ _ _ _ _ _)
      | (with_reducible exact LeO.refl _)
      | (with_reducible exact LeO.none _)
      | (with_reducible refine LeO.ite ?_ ?_)
      | (with_reducible refine LeO.bind ?_ (fun _ => ?_))
      | exact ih0 _ _ _ _
      | exact ih1 _ _ _ _ _ _
      | exact LeO.none _
      | refine LeO.ite ?_ ?_
      | refine LeO.bind ?_ (fun _ => ?_)
    · intro y0 y1 y2 y3 y4 y5
      unfold pennantref01_Case.j1
      repeat' first
      | (with_reducible exact ih0 _ _ _ _)
      | (with_reducible exact ih1 _ _ _ _ _ _)
      | (with_reducible exact LeO.refl _)
      | (with_reducible exact LeO.none _)
      | (with_reducible refine LeO.ite ?_ ?_)
      | (with_reducible refine LeO.bind ?_ (fun _ => ?_))
      | exact ih0 _ _ _ _
      | exact ih1 _ _ _ _ _ _
      | exact LeO.none _
      | refine LeO.ite ?_ ?_
      | refine LeO.bind ?_ (fun _ => ?_)
theorem pennantref01_Case.mono : ∀ a0 a1 k, LeO (pennantref01_Case.f k a0 a1) (pennantref01_Case.f (k + 1) a0 a1) := by
  intro a0 a1 k
  obtain ⟨ih0, ih1⟩ := pennantref01_Case.mono_l k
  unfold pennantref01_Case.f
  repeat' first
      | (with_reducible exact ih0 _ _ _ _)
      | (with_reducible exact ih1 _ _ _ _ _ _)
      | (with_reducible exact LeO.refl _)
      | (with_reducible exact LeO.none _)
      | (with_reducible refine LeO.ite ?_ ?_)
      | (with_reducible refine LeO.bind ?_ (fun _ => ?_))
      | exact ih0 _ _ _ _
      | exact ih1 _ _ _ _ _ _
      | exact LeO.none _
      | refine LeO.ite ?_ ?_
      | refine LeO.bind ?_ (fun _ => ?_)
set_option maxHeartbeats 8000000 in
set_option maxRecDepth 100000 in
theorem pennantref01_Case.calls (k : Nat) (a0 : ByteArray) (a1 : Bool) (r : ByteArray) (w : World) (h : pennantref01_Case.f k a0 a1 = some r) :
    Calls Tryd.prog 27 #[.string a0, .bool a1] w fun e w' => e = .returned (.string r) ∧ Below w.heap.size w w' := by
  have HB := Aside0.mk (Below.refl w.heap.size w)
  have H : (pennantref01_Case.l0 k a0 a1 (⟨#[]⟩ : ByteArray) 0) = some r := h
  clear h
  have H' := Aside0.mk H
  clear H
  go_enter Tryd.func27, Tryd.ntmps27
  go_wp2
  go_loopg [5, 6] k (fun kq v5 v6 w' => ∃ (x5_1 : ByteArray) (x6_1 : Int), v5 = .string x5_1 ∧ v6 = .int .i64 x6_1 ∧ Aside0 (pennantref01_Case.l0 kq a0 a1 x5_1 x6_1 = some r) ∧ Aside0 (kq ≤ k) ∧ Aside0 (Below w.heap.size w w'))
  case atStart => exact ⟨((⟨#[]⟩ : ByteArray)), (0), (by first | rfl | (simp; done) | (simp [*]; done)), (by first | rfl | (simp; done) | (simp [*]; done)), H', ⟨Nat.le_refl _⟩, ⟨by repeat (first | (with_reducible first | exact HB.out | apply below_alloc | apply pw_below_drewN | apply below_drew1) | exact HB.out)⟩⟩
  case round =>
    clear H'
    try clear c2
    try clear p2
    obtain ⟨x5_1, x6_1, rfl, rfl, HA, HK1, HB⟩ := hrel
    cases gk with
    | zero => exact absurd HA.out (by simp [pennantref01_Case.l0])
    | succ k1 =>
      have H := HA.out
      clear HA
      simp only [pennantref01_Case.l0] at H
      replace H := Option.bind_eq_some_iff.mp H
      obtain ⟨t250, A30, H⟩ := H
      replace H : (if x6_1 < t250 then ((pennantref01_At.f a0 x6_1).bind fun t251 => (if a1 = true then (if t251 ≥ 97 then (pennantref01_Case.j1 k1 a0 a1 x5_1 x6_1 t251 (decide (t251 ≤ 122))) else (pennantref01_Case.j1 k1 a0 a1 x5_1 x6_1 t251 false)) else (pennantref01_Case.j1 k1 a0 a1 x5_1 x6_1 t251 false))) else (some x5_1)) = some r := H
      have A3 := Aside0.mk A30
      clear A30
      by_cases c4 : x6_1 < t250
      · rw [if_pos c4] at H
        have c4b0 : decide (x6_1 < t250) = true := decide_eq_true c4
        clear c4
        replace H := Option.bind_eq_some_iff.mp H
        obtain ⟨t251, A50, H⟩ := H
        replace H : (if a1 = true then (if t251 ≥ 97 then (pennantref01_Case.j1 k1 a0 a1 x5_1 x6_1 t251 (decide (t251 ≤ 122))) else (pennantref01_Case.j1 k1 a0 a1 x5_1 x6_1 t251 false)) else (pennantref01_Case.j1 k1 a0 a1 x5_1 x6_1 t251 false)) = some r := H
        have A5 := Aside0.mk A50
        clear A50
        have HC6 := Aside0.mk H
        clear H
        go_upto_region 6 with (first | ((with_reducible refine gate_callee (f := 35) rfl ?_); refine goesL_ (some 10) rfl rfl Tryd.func35 (by kernel_rfl) rfl #[.string a0] rfl (by (try simp only [List.map_toArray, List.map_cons, List.map_nil]); first | done | rfl | (simp only [List.length_drop, List.length_take]; rfl)) ?_; (with_reducible refine (pennantref01_Length.calls a0 t250 _ A3.out).mono ?_); rintro e w' ⟨rfl, ⟨nd, rfl⟩⟩; refine ⟨_, rfl, ?_⟩) | ((with_reducible refine gate_callee (f := 24) rfl ?_); refine goesL_ (some 16) rfl rfl Tryd.func24 (by kernel_rfl) rfl #[.string a0, .int .i64 x6_1] rfl (by (try simp only [List.map_toArray, List.map_cons, List.map_nil]); first | done | rfl | (simp only [List.length_drop, List.length_take]; rfl)) ?_; (with_reducible refine (pennantref01_At.calls a0 x6_1 t251 _ A5.out).mono ?_); rintro e w' ⟨rfl, ⟨nd, rfl⟩⟩; refine ⟨_, rfl, ?_⟩))
        (try simp only [Act.put, List.setIfInBounds_toArray, List.set_cons_zero, List.set_cons_succ])
        go_cut [25] (fun v25 wc => ∃ (kq : Nat) (x25_5 : Bool), v25 = .bool x25_5 ∧ Aside0 (pennantref01_Case.j1 kq a0 a1 x5_1 x6_1 t251 x25_5 = some r) ∧ Aside0 (kq ≤ k1) ∧ Aside0 (Below w.heap.size w wc))
        case first =>
          have H := HC6.out
          clear HC6
          by_cases c7 : a1 = true
          · subst c7
            have H1 : (if t251 ≥ 97 then (pennantref01_Case.j1 k1 a0 true x5_1 x6_1 t251 (decide (t251 ≤ 122))) else (pennantref01_Case.j1 k1 a0 true x5_1 x6_1 t251 false)) = some r := by rw [if_pos rfl] at H; exact H
            clear H
            have H := H1
            clear H1
            by_cases c8 : t251 ≥ 97
            · rw [if_pos c8] at H
              have c8b0 : decide (97 ≤ t251) = true := decide_eq_true c8
              clear c8
              (first | rw [c8b0] | (simp only [i64_w, i32_w]; rw [c8b0]) | skip)
              have H' := Aside0.mk H
              clear H
              go_wp2
              go_meet
              case rel => exact ⟨_, (decide (t251 ≤ 122)), (by first | rfl | (simp; done) | (simp [*]; done)), H', ⟨by have := HK1.out; first | omega | exact Nat.le_refl _⟩, ⟨by repeat (first | (with_reducible first | exact HB.out | apply below_alloc | apply pw_below_drewN | apply below_drew1) | exact HB.out)⟩⟩
            · rw [if_neg c8] at H
              have c8b0 : decide (97 ≤ t251) = false := decide_eq_false c8
              clear c8
              (first | rw [c8b0] | (simp only [i64_w, i32_w]; rw [c8b0]) | skip)
              have H' := Aside0.mk H
              clear H
              go_wp2
              go_meet
              case rel => exact ⟨_, (false), (by first | rfl | (simp; done) | (simp [*]; done)), H', ⟨by have := HK1.out; first | omega | exact Nat.le_refl _⟩, ⟨by repeat (first | (with_reducible first | exact HB.out | apply below_alloc | apply pw_below_drewN | apply below_drew1) | exact HB.out)⟩⟩
          · replace c7 := Bool.eq_false_iff.mpr c7
            subst c7
            have H1 : (pennantref01_Case.j1 k1 a0 false x5_1 x6_1 t251 false) = some r := by rw [if_neg (show ¬ (false = true) by decide)] at H; exact H
            clear H
            have H := H1
            clear H1
            have H' := Aside0.mk H
            clear H
            go_wp2
            go_meet
            case rel => exact ⟨_, (false), (by first | rfl | (simp; done) | (simp [*]; done)), H', ⟨by have := HK1.out; first | omega | exact Nat.le_refl _⟩, ⟨by repeat (first | (with_reducible first | exact HB.out | apply below_alloc | apply pw_below_drewN | apply below_drew1) | exact HB.out)⟩⟩
        case rest =>
          clear HC6
          try clear c2
          try clear p2
          try clear c3
          try clear c4
          try clear c4b0
          try clear c7
          try clear c8
          try clear c8b0
          try clear p2
          obtain ⟨kq, x25_5, rfl, HA, HJ5, HB⟩ := hcut
          cases kq with
          | zero => exact absurd HA.out (by simp [pennantref01_Case.j1])
          | succ kj5 =>
            have H := HA.out
            clear HA
            simp only [pennantref01_Case.j1] at H
            by_cases c9 : x25_5 = true
            · subst c9
              have H1 : ((pennantref01_Unit.f (wrap64 (t251 - 32))).bind fun t252 => (if x5_1.size + t252.size ≤ 9223372036854775807 then (pennantref01_Case.l0 kj5 a0 a1 (x5_1 ++ t252) (wrap64 (x6_1 + 1))) else (none))) = some r := by rw [if_pos rfl] at H; exact H
              clear H
              have H := H1
              clear H1
              replace H := Option.bind_eq_some_iff.mp H
              obtain ⟨t252, A100, H⟩ := H
              replace H : (if x5_1.size + t252.size ≤ 9223372036854775807 then (pennantref01_Case.l0 kj5 a0 a1 (x5_1 ++ t252) (wrap64 (x6_1 + 1))) else (none)) = some r := H
              have A10 := Aside0.mk A100
              clear A100
              by_cases c11 : x5_1.size + t252.size ≤ 9223372036854775807
              · rw [if_pos c11] at H
                have c11b0 := eq_true c11
                have c11b1 : decide (x5_1.size + t252.size ≤ 9223372036854775807) = true := decide_eq_true c11
                try have c11b2 : (9223372036854775807 < x5_1.size + t252.size) = False := eq_false (Nat.not_lt.2 c11)
                have H' := Aside0.mk H
                clear H
                go_wp2_with (first | ((with_reducible refine gate_callee (f := 29) rfl ?_); refine goesL_ (some 42) rfl rfl Tryd.func29 (by kernel_rfl) rfl #[.int .i64 (wrap64 (t251 - 32))] rfl (by (try simp only [List.map_toArray, List.map_cons, List.map_nil]); first | done | rfl | (simp only [List.length_drop, List.length_take]; rfl)) ?_; (with_reducible refine (pennantref01_Unit.calls (wrap64 (t251 - 32)) t252 _ A10.out).mono ?_); rintro e w12 ⟨rfl, hb⟩; refine ⟨_, rfl, ?_⟩; have n0_ := Aside0.mk (below_step (by repeat (first | (with_reducible first | exact HB.out | apply below_alloc | apply pw_below_drewN | apply below_drew1) | exact HB.out)) hb); clear HB; have HB := n0_; clear n0_; (try clear hb); (try clear hb2); (try clear hk); (try clear hi)))
                go_roundg kj5
                case measure => have := HK1.out; have := HJ5.out; omega
                case rel => exact ⟨(x5_1 ++ t252), (wrap64 (x6_1 + 1)), (by first | rfl | (simp; done) | (simp [*]; done)), (by first | rfl | (simp; done) | (simp [*]; done)), H', ⟨by have := HK1.out; have := HJ5.out; omega⟩, ⟨by repeat (first | (with_reducible first | exact HB.out | apply below_alloc | apply pw_below_drewN | apply below_drew1) | exact HB.out)⟩⟩
              · rw [if_neg c11] at H
                exact absurd H (by simp)
            · replace c9 := Bool.eq_false_iff.mpr c9
              subst c9
              have H1 : (if a1 = true then ((pennantref01_Unit.f t251).bind fun t253 => (if x5_1.size + t253.size ≤ 9223372036854775807 then (pennantref01_Case.l0 kj5 a0 a1 (x5_1 ++ t253) (wrap64 (x6_1 + 1))) else (none))) else (if t251 ≥ 65 then (if t251 ≤ 90 then ((pennantref01_Unit.f (wrap64 (t251 + 32))).bind fun t254 => (if x5_1.size + t254.size ≤ 9223372036854775807 then (pennantref01_Case.l0 kj5 a0 a1 (x5_1 ++ t254) (wrap64 (x6_1 + 1))) else (none))) else ((pennantref01_Unit.f t251).bind fun t255 => (if x5_1.size + t255.size ≤ 9223372036854775807 then (pennantref01_Case.l0 kj5 a0 a1 (x5_1 ++ t255) (wrap64 (x6_1 + 1))) else (none)))) else ((pennantref01_Unit.f t251).bind fun t256 => (if x5_1.size + t256.size ≤ 9223372036854775807 then (pennantref01_Case.l0 kj5 a0 a1 (x5_1 ++ t256) (wrap64 (x6_1 + 1))) else (none))))) = some r := by rw [if_neg (show ¬ (false = true) by decide)] at H; exact H
              clear H
              have H := H1
              clear H1
              by_cases c13 : a1 = true
              · subst c13
                have H1 : ((pennantref01_Unit.f t251).bind fun t253 => (if x5_1.size + t253.size ≤ 9223372036854775807 then (pennantref01_Case.l0 kj5 a0 true (x5_1 ++ t253) (wrap64 (x6_1 + 1))) else (none))) = some r := by rw [if_pos rfl] at H; exact H
                clear H
                have H := H1
                clear H1
                replace H := Option.bind_eq_some_iff.mp H
                obtain ⟨t253, A140, H⟩ := H
                replace H : (if x5_1.size + t253.size ≤ 9223372036854775807 then (pennantref01_Case.l0 kj5 a0 true (x5_1 ++ t253) (wrap64 (x6_1 + 1))) else (none)) = some r := H
                have A14 := Aside0.mk A140
                clear A140
                by_cases c15 : x5_1.size + t253.size ≤ 9223372036854775807
                · rw [if_pos c15] at H
                  have c15b0 := eq_true c15
                  have c15b1 : decide (x5_1.size + t253.size ≤ 9223372036854775807) = true := decide_eq_true c15
                  try have c15b2 : (9223372036854775807 < x5_1.size + t253.size) = False := eq_false (Nat.not_lt.2 c15)
                  have H' := Aside0.mk H
                  clear H
                  go_wp2_with (first | ((with_reducible refine gate_callee (f := 29) rfl ?_); refine goesL_ (some 42) rfl rfl Tryd.func29 (by kernel_rfl) rfl #[.int .i64 t251] rfl (by (try simp only [List.map_toArray, List.map_cons, List.map_nil]); first | done | rfl | (simp only [List.length_drop, List.length_take]; rfl)) ?_; (with_reducible refine (pennantref01_Unit.calls t251 t253 _ A14.out).mono ?_); rintro e w16 ⟨rfl, hb⟩; refine ⟨_, rfl, ?_⟩; have n0_ := Aside0.mk (below_step (by repeat (first | (with_reducible first | exact HB.out | apply below_alloc | apply pw_below_drewN | apply below_drew1) | exact HB.out)) hb); clear HB; have HB := n0_; clear n0_; (try clear hb); (try clear hb2); (try clear hk); (try clear hi)))
                  go_roundg kj5
                  case measure => have := HK1.out; have := HJ5.out; omega
                  case rel => exact ⟨(x5_1 ++ t253), (wrap64 (x6_1 + 1)), (by first | rfl | (simp; done) | (simp [*]; done)), (by first | rfl | (simp; done) | (simp [*]; done)), H', ⟨by have := HK1.out; have := HJ5.out; omega⟩, ⟨by repeat (first | (with_reducible first | exact HB.out | apply below_alloc | apply pw_below_drewN | apply below_drew1) | exact HB.out)⟩⟩
                · rw [if_neg c15] at H
                  exact absurd H (by simp)
              · replace c13 := Bool.eq_false_iff.mpr c13
                subst c13
                have H1 : (if t251 ≥ 65 then (if t251 ≤ 90 then ((pennantref01_Unit.f (wrap64 (t251 + 32))).bind fun t254 => (if x5_1.size + t254.size ≤ 9223372036854775807 then (pennantref01_Case.l0 kj5 a0 false (x5_1 ++ t254) (wrap64 (x6_1 + 1))) else (none))) else ((pennantref01_Unit.f t251).bind fun t255 => (if x5_1.size + t255.size ≤ 9223372036854775807 then (pennantref01_Case.l0 kj5 a0 false (x5_1 ++ t255) (wrap64 (x6_1 + 1))) else (none)))) else ((pennantref01_Unit.f t251).bind fun t256 => (if x5_1.size + t256.size ≤ 9223372036854775807 then (pennantref01_Case.l0 kj5 a0 false (x5_1 ++ t256) (wrap64 (x6_1 + 1))) else (none)))) = some r := by rw [if_neg (show ¬ (false = true) by decide)] at H; exact H
                clear H
                have H := H1
                clear H1
                by_cases c17 : t251 ≥ 65
                · rw [if_pos c17] at H
                  have c17b0 : decide (65 ≤ t251) = true := decide_eq_true c17
                  clear c17
                  by_cases c18 : t251 ≤ 90
                  · rw [if_pos c18] at H
                    have c18b0 : decide (t251 ≤ 90) = true := decide_eq_true c18
                    clear c18
                    replace H := Option.bind_eq_some_iff.mp H
                    obtain ⟨t254, A190, H⟩ := H
                    replace H : (if x5_1.size + t254.size ≤ 9223372036854775807 then (pennantref01_Case.l0 kj5 a0 false (x5_1 ++ t254) (wrap64 (x6_1 + 1))) else (none)) = some r := H
                    have A19 := Aside0.mk A190
                    clear A190
                    by_cases c20 : x5_1.size + t254.size ≤ 9223372036854775807
                    · rw [if_pos c20] at H
                      have c20b0 := eq_true c20
                      have c20b1 : decide (x5_1.size + t254.size ≤ 9223372036854775807) = true := decide_eq_true c20
                      try have c20b2 : (9223372036854775807 < x5_1.size + t254.size) = False := eq_false (Nat.not_lt.2 c20)
                      have H' := Aside0.mk H
                      clear H
                      go_wp2_with (first | ((with_reducible refine gate_callee (f := 29) rfl ?_); refine goesL_ (some 42) rfl rfl Tryd.func29 (by kernel_rfl) rfl #[.int .i64 (wrap64 (t251 + 32))] rfl (by (try simp only [List.map_toArray, List.map_cons, List.map_nil]); first | done | rfl | (simp only [List.length_drop, List.length_take]; rfl)) ?_; (with_reducible refine (pennantref01_Unit.calls (wrap64 (t251 + 32)) t254 _ A19.out).mono ?_); rintro e w21 ⟨rfl, hb⟩; refine ⟨_, rfl, ?_⟩; have n0_ := Aside0.mk (below_step (by repeat (first | (with_reducible first | exact HB.out | apply below_alloc | apply pw_below_drewN | apply below_drew1) | exact HB.out)) hb); clear HB; have HB := n0_; clear n0_; (try clear hb); (try clear hb2); (try clear hk); (try clear hi)))
                      go_roundg kj5
                      case measure => have := HK1.out; have := HJ5.out; omega
                      case rel => exact ⟨(x5_1 ++ t254), (wrap64 (x6_1 + 1)), (by first | rfl | (simp; done) | (simp [*]; done)), (by first | rfl | (simp; done) | (simp [*]; done)), H', ⟨by have := HK1.out; have := HJ5.out; omega⟩, ⟨by repeat (first | (with_reducible first | exact HB.out | apply below_alloc | apply pw_below_drewN | apply below_drew1) | exact HB.out)⟩⟩
                    · rw [if_neg c20] at H
                      exact absurd H (by simp)
                  · rw [if_neg c18] at H
                    have c18b0 : decide (t251 ≤ 90) = false := decide_eq_false c18
                    clear c18
                    replace H := Option.bind_eq_some_iff.mp H
                    obtain ⟨t255, A220, H⟩ := H
                    replace H : (if x5_1.size + t255.size ≤ 9223372036854775807 then (pennantref01_Case.l0 kj5 a0 false (x5_1 ++ t255) (wrap64 (x6_1 + 1))) else (none)) = some r := H
                    have A22 := Aside0.mk A220
                    clear A220
                    by_cases c23 : x5_1.size + t255.size ≤ 9223372036854775807
                    · rw [if_pos c23] at H
                      have c23b0 := eq_true c23
                      have c23b1 : decide (x5_1.size + t255.size ≤ 9223372036854775807) = true := decide_eq_true c23
                      try have c23b2 : (9223372036854775807 < x5_1.size + t255.size) = False := eq_false (Nat.not_lt.2 c23)
                      have H' := Aside0.mk H
                      clear H
                      go_wp2_with (first | ((with_reducible refine gate_callee (f := 29) rfl ?_); refine goesL_ (some 42) rfl rfl Tryd.func29 (by kernel_rfl) rfl #[.int .i64 t251] rfl (by (try simp only [List.map_toArray, List.map_cons, List.map_nil]); first | done | rfl | (simp only [List.length_drop, List.length_take]; rfl)) ?_; (with_reducible refine (pennantref01_Unit.calls t251 t255 _ A22.out).mono ?_); rintro e w24 ⟨rfl, hb⟩; refine ⟨_, rfl, ?_⟩; have n0_ := Aside0.mk (below_step (by repeat (first | (with_reducible first | exact HB.out | apply below_alloc | apply pw_below_drewN | apply below_drew1) | exact HB.out)) hb); clear HB; have HB := n0_; clear n0_; (try clear hb); (try clear hb2); (try clear hk); (try clear hi)))
                      go_roundg kj5
                      case measure => have := HK1.out; have := HJ5.out; omega
                      case rel => exact ⟨(x5_1 ++ t255), (wrap64 (x6_1 + 1)), (by first | rfl | (simp; done) | (simp [*]; done)), (by first | rfl | (simp; done) | (simp [*]; done)), H', ⟨by have := HK1.out; have := HJ5.out; omega⟩, ⟨by repeat (first | (with_reducible first | exact HB.out | apply below_alloc | apply pw_below_drewN | apply below_drew1) | exact HB.out)⟩⟩
                    · rw [if_neg c23] at H
                      exact absurd H (by simp)
                · rw [if_neg c17] at H
                  have c17b0 : decide (65 ≤ t251) = false := decide_eq_false c17
                  clear c17
                  replace H := Option.bind_eq_some_iff.mp H
                  obtain ⟨t256, A250, H⟩ := H
                  replace H : (if x5_1.size + t256.size ≤ 9223372036854775807 then (pennantref01_Case.l0 kj5 a0 false (x5_1 ++ t256) (wrap64 (x6_1 + 1))) else (none)) = some r := H
                  have A25 := Aside0.mk A250
                  clear A250
                  by_cases c26 : x5_1.size + t256.size ≤ 9223372036854775807
                  · rw [if_pos c26] at H
                    have c26b0 := eq_true c26
                    have c26b1 : decide (x5_1.size + t256.size ≤ 9223372036854775807) = true := decide_eq_true c26
                    try have c26b2 : (9223372036854775807 < x5_1.size + t256.size) = False := eq_false (Nat.not_lt.2 c26)
                    have H' := Aside0.mk H
                    clear H
                    go_wp2_with (first | ((with_reducible refine gate_callee (f := 29) rfl ?_); refine goesL_ (some 42) rfl rfl Tryd.func29 (by kernel_rfl) rfl #[.int .i64 t251] rfl (by (try simp only [List.map_toArray, List.map_cons, List.map_nil]); first | done | rfl | (simp only [List.length_drop, List.length_take]; rfl)) ?_; (with_reducible refine (pennantref01_Unit.calls t251 t256 _ A25.out).mono ?_); rintro e w27 ⟨rfl, hb⟩; refine ⟨_, rfl, ?_⟩; have n0_ := Aside0.mk (below_step (by repeat (first | (with_reducible first | exact HB.out | apply below_alloc | apply pw_below_drewN | apply below_drew1) | exact HB.out)) hb); clear HB; have HB := n0_; clear n0_; (try clear hb); (try clear hb2); (try clear hk); (try clear hi)))
                    go_roundg kj5
                    case measure => have := HK1.out; have := HJ5.out; omega
                    case rel => exact ⟨(x5_1 ++ t256), (wrap64 (x6_1 + 1)), (by first | rfl | (simp; done) | (simp [*]; done)), (by first | rfl | (simp; done) | (simp [*]; done)), H', ⟨by have := HK1.out; have := HJ5.out; omega⟩, ⟨by repeat (first | (with_reducible first | exact HB.out | apply below_alloc | apply pw_below_drewN | apply below_drew1) | exact HB.out)⟩⟩
                  · rw [if_neg c26] at H
                    exact absurd H (by simp)
      · rw [if_neg c4] at H
        have c4b0 : decide (x6_1 < t250) = false := decide_eq_false c4
        clear c4
        obtain rfl := Option.some.inj H
        go_wp2_with (first | ((with_reducible refine gate_callee (f := 35) rfl ?_); refine goesL_ (some 10) rfl rfl Tryd.func35 (by kernel_rfl) rfl #[.string a0] rfl (by (try simp only [List.map_toArray, List.map_cons, List.map_nil]); first | done | rfl | (simp only [List.length_drop, List.length_take]; rfl)) ?_; (with_reducible refine (pennantref01_Length.calls a0 t250 _ A3.out).mono ?_); rintro e w' ⟨rfl, ⟨nd, rfl⟩⟩; refine ⟨_, rfl, ?_⟩))
        go_ret
        exact ⟨by first | rfl | (simp [errW_none, errW_some] <;> rfl) | (simp [*, errW_none, errW_some] <;> rfl), by repeat (first | (with_reducible first | exact HB.out | apply below_alloc | apply pw_below_drewN | apply below_drew1) | exact HB.out)⟩

end Go.Proofs.YtpclncikhlameaaDoor.PUtf
