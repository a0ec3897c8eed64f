-- Written by a program of this session (a turned copy of the print): the machine's side.
import Derived.Test.YtpclncikhlameaaDoorPUtfx0
import Derived.Test.YtpclncikhlameaaDoorPUtfx1
import Derived.Test.YtpclncikhlameaaDoorPUtfx2
import Derived.Test.YtpclncikhlameaaDoorPUtfx5
namespace Go.Proofs.YtpclncikhlameaaDoor.PUtf
open Go.RowKit Go.Proofs.YtpclncikhlameaaDoorW.PrintWords Go.Proofs.YtpclncikhlameaaDoorW.PrintLast Go.Proofs.YtpclncikhlameaaDoorW.PrintMore Go.Proofs.YtpclncikhlameaaDoor.Hand
attribute [local go_sem] max2_int min2_int max_two min_two max_three min_three max_four min_four   -- for this text's walks alone
set_option linter.unusedVariables false
set_option linter.unusedSimpArgs false

/-! ### pennantlaw01_UtfFinds: function 9 -/
mutual
def pennantlaw01_UtfFinds.j0 : Nat → ByteArray → ByteArray → Int → Bool → Option (Bool)
  | 0, _, _, _, _ => none
  | k + 1, x0, x1, x2, x31 => if x31 = true then (some true) else ((utf_Length.f x1).bind fun t272 => ((utf_Find.f k x0 x1 (wrap64 (x2))).bind fun t273 => (pennantlaw01_UtfFinds.l0 k x0 x1 x2 t272 t273 (wrap64 (x2)))))
def pennantlaw01_UtfFinds.l0 : Nat → ByteArray → ByteArray → Int → Int → Int → Int → Option (Bool)
  | 0, _, _, _, _, _, _ => none
  | k + 1, x0, x1, x2, x7, x8, x9 => (utf_Length.f x0).bind fun t274 => (if x9 ≤ (wrap64 (t274 - x7)) then (if x8 < 0 then (pennantlaw01_UtfFinds.j2 k x0 x1 x2 x7 x8 x9 true) else (pennantlaw01_UtfFinds.j2 k x0 x1 x2 x7 x8 x9 (decide (x9 < x8)))) else (pennantlaw01_UtfFinds.j2 k x0 x1 x2 x7 x8 x9 false))
def pennantlaw01_UtfFinds.j2 : Nat → ByteArray → ByteArray → Int → Int → Int → Int → Bool → Option (Bool)
  | 0, _, _, _, _, _, _, _ => none
  | k + 1, x0, x1, x2, x7, x8, x9, x55 => if x55 = true then ((utf_Cut.f x0 x9 (wrap64 (x9 + x7))).bind fun t275 => (if t275.toList = x1.toList then (some false) else (pennantlaw01_UtfFinds.l0 k x0 x1 x2 x7 x8 (wrap64 (x9 + 1))))) else (if x8 = (-1) then (some true) else (if x8 ≥ (wrap64 (x2)) then ((utf_Length.f x0).bind fun t276 => (if (wrap64 (x8 + x7)) ≤ t276 then ((utf_Cut.f x0 x8 (wrap64 (x8 + x7))).bind fun t277 => (some (t277.toList == x1.toList))) else (some false))) else (some false)))
end
def pennantlaw01_UtfFinds.f (k : Nat) (a0 : ByteArray) (a1 : ByteArray) (a2 : Int) : Option (Bool) := (pennantlaw01_awake.f k).bind fun t271 => (if t271 = true then (if (a0.size : Int) > 2000 then (pennantlaw01_UtfFinds.j0 k a0 a1 a2 true) else (if (a1.size : Int) > 2000 then (pennantlaw01_UtfFinds.j0 k a0 a1 a2 true) else (if ((a0.size : Int) % 2) = 0 then (pennantlaw01_UtfFinds.j0 k a0 a1 a2 (((a1.size : Int) % 2) != 0)) else (pennantlaw01_UtfFinds.j0 k a0 a1 a2 true)))) else (some false))
theorem pennantlaw01_UtfFinds.mono_l : ∀ k, (∀ y0 y1 y2 y3, LeO (pennantlaw01_UtfFinds.j0 k y0 y1 y2 y3) (pennantlaw01_UtfFinds.j0 (k + 1) y0 y1 y2 y3)) ∧ (∀ y0 y1 y2 y3 y4 y5, LeO (pennantlaw01_UtfFinds.l0 k y0 y1 y2 y3 y4 y5) (pennantlaw01_UtfFinds.l0 (k + 1) y0 y1 y2 y3 y4 y5)) ∧ (∀ y0 y1 y2 y3 y4 y5 y6, LeO (pennantlaw01_UtfFinds.j2 k y0 y1 y2 y3 y4 y5 y6) (pennantlaw01_UtfFinds.j2 (k + 1) y0 y1 y2 y3 y4 y5 y6))
  | 0 => ⟨fun _ _ _ _ r h => by simp [pennantlaw01_UtfFinds.j0] at h, fun _ _ _ _ _ _ r h => by simp [pennantlaw01_UtfFinds.l0] at h, fun _ _ _ _ _ _ _ r h => by simp [pennantlaw01_UtfFinds.j2] at h⟩
  | k + 1 => by
    obtain ⟨ih0, ih1, ih2⟩ := pennantlaw01_UtfFinds.mono_l k
    refine ⟨?_, ?_, ?_⟩
    · intro y0 y1 y2 y3
      unfold pennantlaw01_UtfFinds.j0
      repeat' first
      | (with_reducible exact ih0 _ _ _ _)
      | (with_reducible exact ih1 _ _ _ _ _ _)
      | (with_reducible exact ih2 _ _ _ _ _ _ _)
      | (with_reducible exact pennantlaw01_awake.mono _)
      | (with_reducible exact utf_Find.mono _ _ _ _)
      | (with_reducible exact LeO.refl _)
      | (with_reducible exact LeO.none _)
      | (with_reducible refine LeO.ite ?_ ?_)
      | (with_reducible refine LeO.bind ?_ (fun _ => ?_))
      | exact ih0 _ _ _ _
      | exact ih1 _ _ _ _ _ _
      | exact ih2 _ _ _ _ _ _ _
      | exact pennantlaw01_awake.mono _
      | exact utf_Find.mono _ _ _ _
      | exact LeO.none _
      | refine LeO.ite ?_ ?_
      | refine LeO.bind ?_ (fun _ => ?_)
    · intro y0 y1 y2 y3 y4 y5
      unfold pennantlaw01_UtfFinds.l0
      repeat' first
      | (with_reducible exact ih0 _ _ _ _)
      | (with_reducible exact ih1 _ _ _ _ _ _)
      | (with_reducible exact ih2 _ _ _ _ _ _ _)
      | (with_reducible exact pennantlaw01_awake.mono _)
      | (with_reducible exact utf_Find.mono _ _ _ _)
      | (with_reducible exact LeO.refl _)
      | (with_reducible exact LeO.none _)
      | (with_reducible refine LeO.ite ?_ ?_)
      | (with_reducible refine LeO.bind ?_ (fun _ => ?_))
      | exact ih0 _ _ _ _
      | exact ih1 _ _ _ _ _ _
      | exact ih2 _ _ _ _ _ _ _
      | exact pennantlaw01_awake.mono _
      | exact utf_Find.mono _ _ _ _
      | exact LeO.none _
      | refine LeO.ite ?_ ?_
      | refine LeO.bind ?_ (fun _ => ?_)
    · intro y0 y1 y2 y3 y4 y5 y6
      unfold pennantlaw01_UtfFinds.j2
      repeat' first
      | (with_reducible exact ih0 _ _ _ _)
      | (with_reducible exact ih1 _ _ _ _ _ _)
      | (with_reducible exact ih2 _ _ _ _ _ _ _)
      | (with_reducible exact pennantlaw01_awake.mono _)
      | (with_reducible exact utf_Find.mono _ _ _ _)
      | (with_reducible exact LeO.refl _)
      | (with_reducible exact LeO.none _)
      | (with_reducible refine LeO.ite ?_ ?_)
      | (with_reducible refine LeO.bind ?_ (fun _ => ?_))
      | exact ih0 _ _ _ _
      | exact ih1 _ _ _ _ _ _
      | exact ih2 _ _ _ _ _ _ _
      | exact pennantlaw01_awake.mono _
      | exact utf_Find.mono _ _ _ _
      | exact LeO.none _
      | refine LeO.ite ?_ ?_
      | refine LeO.bind ?_ (fun _ => ?_)
theorem pennantlaw01_UtfFinds.mono : ∀ a0 a1 a2 k, LeO (pennantlaw01_UtfFinds.f k a0 a1 a2) (pennantlaw01_UtfFinds.f (k + 1) a0 a1 a2) := by
  intro a0 a1 a2 k
  obtain ⟨ih0, ih1, ih2⟩ := pennantlaw01_UtfFinds.mono_l k
  unfold pennantlaw01_UtfFinds.f
  repeat' first
      | (with_reducible exact ih0 _ _ _ _)
      | (with_reducible exact ih1 _ _ _ _ _ _)
      | (with_reducible exact ih2 _ _ _ _ _ _ _)
      | (with_reducible exact pennantlaw01_awake.mono _)
      | (with_reducible exact utf_Find.mono _ _ _ _)
      | (with_reducible exact LeO.refl _)
      | (with_reducible exact LeO.none _)
      | (with_reducible refine LeO.ite ?_ ?_)
      | (with_reducible refine LeO.bind ?_ (fun _ => ?_))
      | exact ih0 _ _ _ _
      | exact ih1 _ _ _ _ _ _
      | exact ih2 _ _ _ _ _ _ _
      | exact pennantlaw01_awake.mono _
      | exact utf_Find.mono _ _ _ _
      | exact LeO.none _
      | refine LeO.ite ?_ ?_
      | refine LeO.bind ?_ (fun _ => ?_)
set_option maxHeartbeats 8000000 in
set_option maxRecDepth 100000 in
theorem pennantlaw01_UtfFinds.calls (k : Nat) (a0 : ByteArray) (a1 : ByteArray) (a2 : Int) (r : Bool) (w : World) (hT_ : Tabs w) (h : pennantlaw01_UtfFinds.f k a0 a1 a2 = some r) :
    Calls Tryd.prog 9 #[.string a0, .string a1, .int .u8 a2] w fun e w' => e = .returned (.bool r) ∧ Below w.heap.size w w' := by
  have HT_ := Aside0.mk hT_
  clear hT_
  have HB := Aside0.mk (Below.refl w.heap.size w)
  have H : ((pennantlaw01_awake.f k).bind fun t271 => (if t271 = true then (if (a0.size : Int) > 2000 then (pennantlaw01_UtfFinds.j0 k a0 a1 a2 true) else (if (a1.size : Int) > 2000 then (pennantlaw01_UtfFinds.j0 k a0 a1 a2 true) else (if ((a0.size : Int) % 2) = 0 then (pennantlaw01_UtfFinds.j0 k a0 a1 a2 (((a1.size : Int) % 2) != 0)) else (pennantlaw01_UtfFinds.j0 k a0 a1 a2 true)))) else (some false))) = some r := h
  clear h
  replace H := Option.bind_eq_some_iff.mp H
  obtain ⟨t271, A40, H⟩ := H
  replace H : (if t271 = true then (if (a0.size : Int) > 2000 then (pennantlaw01_UtfFinds.j0 k a0 a1 a2 true) else (if (a1.size : Int) > 2000 then (pennantlaw01_UtfFinds.j0 k a0 a1 a2 true) else (if ((a0.size : Int) % 2) = 0 then (pennantlaw01_UtfFinds.j0 k a0 a1 a2 (((a1.size : Int) % 2) != 0)) else (pennantlaw01_UtfFinds.j0 k a0 a1 a2 true)))) else (some false)) = some r := H
  have A4 := Aside0.mk A40
  clear A40
  by_cases c5 : t271 = true
  · subst c5
    have H1 : (if (a0.size : Int) > 2000 then (pennantlaw01_UtfFinds.j0 k a0 a1 a2 true) else (if (a1.size : Int) > 2000 then (pennantlaw01_UtfFinds.j0 k a0 a1 a2 true) else (if ((a0.size : Int) % 2) = 0 then (pennantlaw01_UtfFinds.j0 k a0 a1 a2 (((a1.size : Int) % 2) != 0)) else (pennantlaw01_UtfFinds.j0 k a0 a1 a2 true)))) = some r := by rw [if_pos rfl] at H; exact H
    clear H
    have H := H1
    clear H1
    have HC6 := Aside0.mk H
    clear H
    go_enter Tryd.func9, Tryd.ntmps9
    go_upto_region 3 with (first | ((with_reducible refine gate_callee (f := 11) rfl ?_); refine goesL_ (some 10) rfl rfl Tryd.func11 (by kernel_rfl) rfl #[] rfl (by (try simp only [List.map_toArray, List.map_cons, List.map_nil]); first | done | rfl | (simp only [List.length_drop, List.length_take]; rfl)) ?_; (with_reducible refine (pennantlaw01_awake.calls k  true _ ?side1 A4.out).mono ?_); (case side1 => exact Tabs_below HT_.out (by repeat (first | (with_reducible first | exact HB.out | apply below_alloc | apply pw_below_drewN | apply below_drew1) | exact HB.out))); rintro e w7 ⟨rfl, hb⟩; refine ⟨_, rfl, ?_⟩; have n0_ := Aside0.mk (below_step (by repeat (first | (with_reducible first | exact HB.out | apply below_alloc | apply pw_below_drewN | apply below_drew1) | exact HB.out)) hb); clear HB; have HB := n0_; clear n0_; (try clear hb); (try clear hb2); (try clear hk); (try clear hi)))
    (try simp only [Act.put, List.setIfInBounds_toArray, List.set_cons_zero, List.set_cons_succ])
    go_cut [31] (fun v31 wc => ∃ (kq : Nat) (x31_5 : Bool), v31 = .bool x31_5 ∧ Aside0 (pennantlaw01_UtfFinds.j0 kq a0 a1 a2 x31_5 = some r) ∧ Aside0 (kq ≤ k) ∧ Aside0 (Below w.heap.size w wc))
    case first =>
      have H := HC6.out
      clear HC6
      by_cases c8 : (a0.size : Int) > 2000
      · rw [if_pos c8] at H
        have c8b0 : decide (2000 < (a0.size : Int)) = true := decide_eq_true c8
        have c8b1 : decide (2000 < a0.size) = true := decide_eq_true (by omega)
        clear c8
        (first | rw [c8b0] | (simp only [i64_w, i32_w]; rw [c8b0]) | skip)
        have H' := Aside0.mk H
        clear H
        go_wp2
        go_meet
        case rel => exact ⟨_, (true), (by first | rfl | (simp; done) | (simp [*]; done)), H', ⟨by first | omega | exact Nat.le_refl _⟩, ⟨by repeat (first | (with_reducible first | exact HB.out | apply below_alloc | apply pw_below_drewN | apply below_drew1) | exact HB.out)⟩⟩
      · rw [if_neg c8] at H
        have c8b0 : decide (2000 < (a0.size : Int)) = false := decide_eq_false c8
        have c8b1 : decide (2000 < a0.size) = false := decide_eq_false (by omega)
        clear c8
        (first | rw [c8b0] | (simp only [i64_w, i32_w]; rw [c8b0]) | skip)
        by_cases c9 : (a1.size : Int) > 2000
        · rw [if_pos c9] at H
          have c9b0 : decide (2000 < (a1.size : Int)) = true := decide_eq_true c9
          have c9b1 : decide (2000 < a1.size) = true := decide_eq_true (by omega)
          clear c9
          have H' := Aside0.mk H
          clear H
          go_wp2
          go_meet
          case rel => exact ⟨_, (true), (by first | rfl | (simp; done) | (simp [*]; done)), H', ⟨by first | omega | exact Nat.le_refl _⟩, ⟨by repeat (first | (with_reducible first | exact HB.out | apply below_alloc | apply pw_below_drewN | apply below_drew1) | exact HB.out)⟩⟩
        · rw [if_neg c9] at H
          have c9b0 : decide (2000 < (a1.size : Int)) = false := decide_eq_false c9
          have c9b1 : decide (2000 < a1.size) = false := decide_eq_false (by omega)
          clear c9
          by_cases c10 : ((a0.size : Int) % 2) = 0
          · rw [if_pos c10] at H
            have c10b0 : (((a0.size : Int) % 2) == 0) = true := beq_iff_eq.mpr c10
            have c10b1 : (((a0.size : Int) % 2) != 0) = false := bne_eq_false_iff_eq.mpr c10
            clear c10
            have H' := Aside0.mk H
            clear H
            go_wp2
            go_meet
            case rel => exact ⟨_, ((((a1.size : Int) % 2) != 0)), (by first | rfl | (simp; done) | (simp [*]; done)), H', ⟨by first | omega | exact Nat.le_refl _⟩, ⟨by repeat (first | (with_reducible first | exact HB.out | apply below_alloc | apply pw_below_drewN | apply below_drew1) | exact HB.out)⟩⟩
          · rw [if_neg c10] at H
            have c10b0 : (((a0.size : Int) % 2) == 0) = false := beq_eq_false_iff_ne.mpr c10
            have c10b1 : (((a0.size : Int) % 2) != 0) = true := bne_iff_ne.mpr c10
            have H' := Aside0.mk H
            clear H
            go_wp2
            go_meet
            case rel => exact ⟨_, (true), (by first | rfl | (simp; done) | (simp [*]; done)), H', ⟨by first | omega | exact Nat.le_refl _⟩, ⟨by repeat (first | (with_reducible first | exact HB.out | apply below_alloc | apply pw_below_drewN | apply below_drew1) | exact HB.out)⟩⟩
    case rest =>
      clear HC6
      try clear c1
      try clear p2
      try clear c5
      try clear c8
      try clear c8b0
      try clear c8b1
      try clear c9
      try clear c9b0
      try clear c9b1
      try clear c10
      try clear c10b0
      try clear c10b1
      obtain ⟨kq, x31_5, rfl, HA, HJ5, HB⟩ := hcut
      cases kq with
      | zero => exact absurd HA.out (by simp [pennantlaw01_UtfFinds.j0])
      | succ kj5 =>
        have H := HA.out
        clear HA
        simp only [pennantlaw01_UtfFinds.j0] at H
        by_cases c11 : x31_5 = true
        · subst c11
          have H1 : (some true) = some r := by rw [if_pos rfl] at H; exact H
          clear H
          have H := H1
          clear H1
          obtain rfl := Option.some.inj H
          go_wp2
          go_ret
          exact ⟨by first | rfl | (simp [errW_none, errW_some] <;> rfl) | (simp [*, errW_none, errW_some] <;> rfl), by repeat (first | (with_reducible first | exact HB.out | apply below_alloc | apply pw_below_drewN | apply below_drew1) | exact HB.out)⟩
        · replace c11 := Bool.eq_false_iff.mpr c11
          subst c11
          have H1 : ((utf_Length.f a1).bind fun t272 => ((utf_Find.f kj5 a0 a1 (wrap64 (a2))).bind fun t273 => (pennantlaw01_UtfFinds.l0 kj5 a0 a1 a2 t272 t273 (wrap64 (a2))))) = some r := by rw [if_neg (show ¬ (false = true) by decide)] at H; exact H
          clear H
          have H := H1
          clear H1
          replace H := Option.bind_eq_some_iff.mp H
          obtain ⟨t272, A120, H⟩ := H
          replace H : ((utf_Find.f kj5 a0 a1 (wrap64 (a2))).bind fun t273 => (pennantlaw01_UtfFinds.l0 kj5 a0 a1 a2 t272 t273 (wrap64 (a2)))) = some r := H
          have A12 := Aside0.mk A120
          clear A120
          replace H := Option.bind_eq_some_iff.mp H
          obtain ⟨t273, A130, H⟩ := H
          replace H : (pennantlaw01_UtfFinds.l0 kj5 a0 a1 a2 t272 t273 (wrap64 (a2))) = some r := H
          have A13 := Aside0.mk A130
          clear A130
          have H' := Aside0.mk H
          clear H
          go_wp2_with (first | ((with_reducible refine gate_callee (f := 18) rfl ?_); refine goesL_ (some 33) rfl rfl Tryd.func18 (by kernel_rfl) rfl #[.string a1] rfl (by (try simp only [List.map_toArray, List.map_cons, List.map_nil]); first | done | rfl | (simp only [List.length_drop, List.length_take]; rfl)) ?_; (with_reducible refine (utf_Length.calls a1 t272 _ A12.out).mono ?_); rintro e w' ⟨rfl, ⟨nd, rfl⟩⟩; refine ⟨_, rfl, ?_⟩) | ((with_reducible refine gate_callee (f := 23) rfl ?_); refine goesL_ (some 38) rfl rfl Tryd.func23 (by kernel_rfl) rfl #[.string a0, .string a1, .int .i64 (wrap64 (a2))] rfl (by (try simp only [List.map_toArray, List.map_cons, List.map_nil]); first | done | rfl | (simp only [List.length_drop, List.length_take]; rfl)) ?_; (with_reducible refine (utf_Find.calls kj5 a0 a1 (wrap64 (a2)) t273 _ A13.out).mono ?_); rintro e w14 ⟨rfl, hb⟩; refine ⟨_, rfl, ?_⟩; have n0_ := Aside0.mk (below_step (by repeat (first | (with_reducible first | exact HB.out | apply below_alloc | apply pw_below_drewN | apply below_drew1) | exact HB.out)) hb); clear HB; have HB := n0_; clear n0_; (try clear hb); (try clear hb2); (try clear hk); (try clear hi)))
          go_loopg [9] kj5 (fun kq v9 w' => ∃ (x9_2 : Int), v9 = .int .i64 x9_2 ∧ Aside0 (pennantlaw01_UtfFinds.l0 kq a0 a1 a2 t272 t273 x9_2 = some r) ∧ Aside0 (kq ≤ kj5) ∧ Aside0 (Below w.heap.size w w'))
          case atStart => exact ⟨(wrap64 (a2)), (by first | rfl | (simp; done) | (simp [*]; done)), H', ⟨Nat.le_refl _⟩, ⟨by repeat (first | (with_reducible first | exact HB.out | apply below_alloc | apply pw_below_drewN | apply below_drew1) | exact HB.out)⟩⟩
          case round =>
            clear H'
            try clear c1
            try clear c2
            try clear p2
            try clear c5
            try clear p6
            try clear c8
            try clear c8b0
            try clear c8b1
            try clear c9
            try clear c9b0
            try clear c9b1
            try clear c10
            try clear c10b0
            try clear c10b1
            try clear c11
            try clear p2
            obtain ⟨x9_2, rfl, HA, HK2, HB⟩ := hrel
            cases gk with
            | zero => exact absurd HA.out (by simp [pennantlaw01_UtfFinds.l0])
            | succ k2 =>
              have H := HA.out
              clear HA
              simp only [pennantlaw01_UtfFinds.l0] at H
              have HC15 := Aside0.mk H
              clear H
              go_upto_region 8 with (fail)
              go_cut [55] (fun v55 wc => ∃ (kq : Nat) (x55_14 : Bool), v55 = .bool x55_14 ∧ Aside0 (pennantlaw01_UtfFinds.j2 kq a0 a1 a2 t272 t273 x9_2 x55_14 = some r) ∧ Aside0 (kq ≤ k2) ∧ Aside0 (Below w.heap.size w wc))
              case first =>
                have H := HC15.out
                clear HC15
                replace H := Option.bind_eq_some_iff.mp H
                obtain ⟨t274, A160, H⟩ := H
                replace H : (if x9_2 ≤ (wrap64 (t274 - t272)) then (if t273 < 0 then (pennantlaw01_UtfFinds.j2 k2 a0 a1 a2 t272 t273 x9_2 true) else (pennantlaw01_UtfFinds.j2 k2 a0 a1 a2 t272 t273 x9_2 (decide (x9_2 < t273)))) else (pennantlaw01_UtfFinds.j2 k2 a0 a1 a2 t272 t273 x9_2 false)) = some r := H
                have A16 := Aside0.mk A160
                clear A160
                by_cases c17 : x9_2 ≤ (wrap64 (t274 - t272))
                · rw [if_pos c17] at H
                  have c17b0 : decide (x9_2 ≤ (wrap64 (t274 - t272))) = true := decide_eq_true c17
                  clear c17
                  (first | rw [c17b0] | (simp only [i64_w, i32_w]; rw [c17b0]) | skip)
                  by_cases c18 : t273 < 0
                  · rw [if_pos c18] at H
                    have c18b0 : decide (t273 < 0) = true := decide_eq_true c18
                    clear c18
                    have H' := Aside0.mk H
                    clear H
                    go_wp2_with (first | ((with_reducible refine gate_callee (f := 18) rfl ?_); refine goesL_ (some 43) rfl rfl Tryd.func18 (by kernel_rfl) rfl #[.string a0] rfl (by (try simp only [List.map_toArray, List.map_cons, List.map_nil]); first | done | rfl | (simp only [List.length_drop, List.length_take]; rfl)) ?_; (with_reducible refine (utf_Length.calls a0 t274 _ A16.out).mono ?_); rintro e w' ⟨rfl, ⟨nd, rfl⟩⟩; refine ⟨_, rfl, ?_⟩))
                    go_meet
                    case rel => exact ⟨_, (true), (by first | rfl | (simp; done) | (simp [*]; done)), H', ⟨by have := HJ5.out; have := HK2.out; first | omega | exact Nat.le_refl _⟩, ⟨by repeat (first | (with_reducible first | exact HB.out | apply below_alloc | apply pw_below_drewN | apply below_drew1) | exact HB.out)⟩⟩
                  · rw [if_neg c18] at H
                    have c18b0 : decide (t273 < 0) = false := decide_eq_false c18
                    clear c18
                    have H' := Aside0.mk H
                    clear H
                    go_wp2_with (first | ((with_reducible refine gate_callee (f := 18) rfl ?_); refine goesL_ (some 43) rfl rfl Tryd.func18 (by kernel_rfl) rfl #[.string a0] rfl (by (try simp only [List.map_toArray, List.map_cons, List.map_nil]); first | done | rfl | (simp only [List.length_drop, List.length_take]; rfl)) ?_; (with_reducible refine (utf_Length.calls a0 t274 _ A16.out).mono ?_); rintro e w' ⟨rfl, ⟨nd, rfl⟩⟩; refine ⟨_, rfl, ?_⟩))
                    go_meet
                    case rel => exact ⟨_, (decide (x9_2 < t273)), (by first | rfl | (simp; done) | (simp [*]; done)), H', ⟨by have := HJ5.out; have := HK2.out; first | omega | exact Nat.le_refl _⟩, ⟨by repeat (first | (with_reducible first | exact HB.out | apply below_alloc | apply pw_below_drewN | apply below_drew1) | exact HB.out)⟩⟩
                · rw [if_neg c17] at H
                  have c17b0 : decide (x9_2 ≤ (wrap64 (t274 - t272))) = false := decide_eq_false c17
                  clear c17
                  (first | rw [c17b0] | (simp only [i64_w, i32_w]; rw [c17b0]) | skip)
                  have H' := Aside0.mk H
                  clear H
                  go_wp2_with (first | ((with_reducible refine gate_callee (f := 18) rfl ?_); refine goesL_ (some 43) rfl rfl Tryd.func18 (by kernel_rfl) rfl #[.string a0] rfl (by (try simp only [List.map_toArray, List.map_cons, List.map_nil]); first | done | rfl | (simp only [List.length_drop, List.length_take]; rfl)) ?_; (with_reducible refine (utf_Length.calls a0 t274 _ A16.out).mono ?_); rintro e w' ⟨rfl, ⟨nd, rfl⟩⟩; refine ⟨_, rfl, ?_⟩))
                  go_meet
                  case rel => exact ⟨_, (false), (by first | rfl | (simp; done) | (simp [*]; done)), H', ⟨by have := HJ5.out; have := HK2.out; first | omega | exact Nat.le_refl _⟩, ⟨by repeat (first | (with_reducible first | exact HB.out | apply below_alloc | apply pw_below_drewN | apply below_drew1) | exact HB.out)⟩⟩
              case rest =>
                clear HC15
                try clear c1
                try clear c2
                try clear p2
                try clear c5
                try clear p6
                try clear c8
                try clear c8b0
                try clear c8b1
                try clear c9
                try clear c9b0
                try clear c9b1
                try clear c10
                try clear c10b0
                try clear c10b1
                try clear c11
                try clear c17
                try clear c17b0
                try clear c18
                try clear c18b0
                try clear p2
                try clear p6
                obtain ⟨kq, x55_14, rfl, HA, HJ14, HB⟩ := hcut
                cases kq with
                | zero => exact absurd HA.out (by simp [pennantlaw01_UtfFinds.j2])
                | succ kj14 =>
                  have H := HA.out
                  clear HA
                  simp only [pennantlaw01_UtfFinds.j2] at H
                  by_cases c19 : x55_14 = true
                  · subst c19
                    have H1 : ((utf_Cut.f a0 x9_2 (wrap64 (x9_2 + t272))).bind fun t275 => (if t275.toList = a1.toList then (some false) else (pennantlaw01_UtfFinds.l0 kj14 a0 a1 a2 t272 t273 (wrap64 (x9_2 + 1))))) = some r := by rw [if_pos rfl] at H; exact H
                    clear H
                    have H := H1
                    clear H1
                    replace H := Option.bind_eq_some_iff.mp H
                    obtain ⟨t275, A200, H⟩ := H
                    replace H : (if t275.toList = a1.toList then (some false) else (pennantlaw01_UtfFinds.l0 kj14 a0 a1 a2 t272 t273 (wrap64 (x9_2 + 1)))) = some r := H
                    have A20 := Aside0.mk A200
                    clear A200
                    by_cases c21 : t275.toList = a1.toList
                    · rw [if_pos c21] at H
                      have c21b0 : (t275.toList == a1.toList) = true := beq_iff_eq.mpr c21
                      have c21b1 : (t275.toList != a1.toList) = false := bne_eq_false_iff_eq.mpr c21
                      clear c21
                      obtain rfl := Option.some.inj H
                      go_wp2_with (first | ((with_reducible refine gate_callee (f := 20) rfl ?_); refine goesL_ (some 63) rfl rfl Tryd.func20 (by kernel_rfl) rfl #[.string a0, .int .i64 x9_2, .int .i64 (wrap64 (x9_2 + t272))] rfl (by (try simp only [List.map_toArray, List.map_cons, List.map_nil]); first | done | rfl | (simp only [List.length_drop, List.length_take]; rfl)) ?_; (with_reducible refine (utf_Cut.calls a0 x9_2 (wrap64 (x9_2 + t272)) t275 _ A20.out).mono ?_); rintro e w22 ⟨rfl, hb⟩; refine ⟨_, rfl, ?_⟩; have n0_ := Aside0.mk (below_step (by repeat (first | (with_reducible first | exact HB.out | apply below_alloc | apply pw_below_drewN | apply below_drew1) | exact HB.out)) hb); clear HB; have HB := n0_; clear n0_; (try clear hb); (try clear hb2); (try clear hk); (try clear hi)))
                      go_ret
                      exact ⟨by first | rfl | (simp [errW_none, errW_some] <;> rfl) | (simp [*, errW_none, errW_some] <;> rfl), by repeat (first | (with_reducible first | exact HB.out | apply below_alloc | apply pw_below_drewN | apply below_drew1) | exact HB.out)⟩
                    · rw [if_neg c21] at H
                      have c21b0 : (t275.toList == a1.toList) = false := beq_eq_false_iff_ne.mpr c21
                      have c21b1 : (t275.toList != a1.toList) = true := bne_iff_ne.mpr c21
                      have H' := Aside0.mk H
                      clear H
                      go_wp2_with (first | ((with_reducible refine gate_callee (f := 20) rfl ?_); refine goesL_ (some 63) rfl rfl Tryd.func20 (by kernel_rfl) rfl #[.string a0, .int .i64 x9_2, .int .i64 (wrap64 (x9_2 + t272))] rfl (by (try simp only [List.map_toArray, List.map_cons, List.map_nil]); first | done | rfl | (simp only [List.length_drop, List.length_take]; rfl)) ?_; (with_reducible refine (utf_Cut.calls a0 x9_2 (wrap64 (x9_2 + t272)) t275 _ A20.out).mono ?_); rintro e w23 ⟨rfl, hb⟩; refine ⟨_, rfl, ?_⟩; have n0_ := Aside0.mk (below_step (by repeat (first | (with_reducible first | exact HB.out | apply below_alloc | apply pw_below_drewN | apply below_drew1) | exact HB.out)) hb); clear HB; have HB := n0_; clear n0_; (try clear hb); (try clear hb2); (try clear hk); (try clear hi)))
                      go_roundg kj14
                      case measure => have := HJ5.out; have := HK2.out; have := HJ14.out; omega
                      case rel => exact ⟨(wrap64 (x9_2 + 1)), (by first | rfl | (simp; done) | (simp [*]; done)), H', ⟨by have := HJ5.out; have := HK2.out; have := HJ14.out; omega⟩, ⟨by repeat (first | (with_reducible first | exact HB.out | apply below_alloc | apply pw_below_drewN | apply below_drew1) | exact HB.out)⟩⟩
                  · replace c19 := Bool.eq_false_iff.mpr c19
                    subst c19
                    have H1 : (if t273 = (-1) then (some true) else (if t273 ≥ (wrap64 (a2)) then ((utf_Length.f a0).bind fun t276 => (if (wrap64 (t273 + t272)) ≤ t276 then ((utf_Cut.f a0 t273 (wrap64 (t273 + t272))).bind fun t277 => (some (t277.toList == a1.toList))) else (some false))) else (some false))) = some r := by rw [if_neg (show ¬ (false = true) by decide)] at H; exact H
                    clear H
                    have H := H1
                    clear H1
                    by_cases c24 : t273 = (-1)
                    · rw [if_pos c24] at H
                      have c24b0 : (t273 == (-1)) = true := beq_iff_eq.mpr c24
                      have c24b1 : (t273 != (-1)) = false := bne_eq_false_iff_eq.mpr c24
                      clear c24
                      obtain rfl := Option.some.inj H
                      go_wp2
                      go_ret
                      exact ⟨by first | rfl | (simp [errW_none, errW_some] <;> rfl) | (simp [*, errW_none, errW_some] <;> rfl), by repeat (first | (with_reducible first | exact HB.out | apply below_alloc | apply pw_below_drewN | apply below_drew1) | exact HB.out)⟩
                    · rw [if_neg c24] at H
                      have c24b0 : (t273 == (-1)) = false := beq_eq_false_iff_ne.mpr c24
                      have c24b1 : (t273 != (-1)) = true := bne_iff_ne.mpr c24
                      by_cases c25 : t273 ≥ (wrap64 (a2))
                      · rw [if_pos c25] at H
                        have c25b0 : decide ((wrap64 (a2)) ≤ t273) = true := decide_eq_true c25
                        clear c25
                        replace H := Option.bind_eq_some_iff.mp H
                        obtain ⟨t276, A260, H⟩ := H
                        replace H : (if (wrap64 (t273 + t272)) ≤ t276 then ((utf_Cut.f a0 t273 (wrap64 (t273 + t272))).bind fun t277 => (some (t277.toList == a1.toList))) else (some false)) = some r := H
                        have A26 := Aside0.mk A260
                        clear A260
                        by_cases c27 : (wrap64 (t273 + t272)) ≤ t276
                        · rw [if_pos c27] at H
                          have c27b0 : decide ((wrap64 (t273 + t272)) ≤ t276) = true := decide_eq_true c27
                          clear c27
                          replace H := Option.bind_eq_some_iff.mp H
                          obtain ⟨t277, A280, H⟩ := H
                          replace H : (some (t277.toList == a1.toList)) = some r := H
                          have A28 := Aside0.mk A280
                          clear A280
                          obtain rfl := Option.some.inj H
                          go_wp2_with (first | (go_at_call 18; (with_reducible refine (utf_Length.calls a0 t276 _ A26.out).mono ?_); rintro e w' ⟨rfl, ⟨nd, rfl⟩⟩) | (go_at_call 20; (with_reducible refine (utf_Cut.calls a0 t273 (wrap64 (t273 + t272)) t277 _ A28.out).mono ?_); rintro e w29 ⟨rfl, hb⟩; have n0_ := Aside0.mk (below_step (by repeat (first | (with_reducible first | exact HB.out | apply below_alloc | apply pw_below_drewN | apply below_drew1) | exact HB.out)) hb); clear HB; have HB := n0_; clear n0_; (try clear hb); (try clear hb2); (try clear hk); (try clear hi)))
                          go_ret
                          exact ⟨by first | rfl | (simp [errW_none, errW_some] <;> rfl) | (simp [*, errW_none, errW_some] <;> rfl), by repeat (first | (with_reducible first | exact HB.out | apply below_alloc | apply pw_below_drewN | apply below_drew1) | exact HB.out)⟩
                        · rw [if_neg c27] at H
                          have c27b0 : decide ((wrap64 (t273 + t272)) ≤ t276) = false := decide_eq_false c27
                          clear c27
                          obtain rfl := Option.some.inj H
                          go_wp2_with (first | (go_at_call 18; (with_reducible refine (utf_Length.calls a0 t276 _ A26.out).mono ?_); rintro e w' ⟨rfl, ⟨nd, rfl⟩⟩))
                          go_ret
                          exact ⟨by first | rfl | (simp [errW_none, errW_some] <;> rfl) | (simp [*, errW_none, errW_some] <;> rfl), by repeat (first | (with_reducible first | exact HB.out | apply below_alloc | apply pw_below_drewN | apply below_drew1) | exact HB.out)⟩
                      · rw [if_neg c25] at H
                        have c25b0 : decide ((wrap64 (a2)) ≤ t273) = false := decide_eq_false c25
                        clear c25
                        obtain rfl := Option.some.inj H
                        go_wp2
                        go_ret
                        exact ⟨by first | rfl | (simp [errW_none, errW_some] <;> rfl) | (simp [*, errW_none, errW_some] <;> rfl), by repeat (first | (with_reducible first | exact HB.out | apply below_alloc | apply pw_below_drewN | apply below_drew1) | exact HB.out)⟩
  · replace c5 := Bool.eq_false_iff.mpr c5
    subst c5
    have H1 : (some false) = some r := by rw [if_neg (show ¬ (false = true) by decide)] at H; exact H
    clear H
    have H := H1
    clear H1
    obtain rfl := Option.some.inj H
    go_enter Tryd.func9, Tryd.ntmps9
    go_wp2_with (first | ((with_reducible refine gate_callee (f := 11) rfl ?_); refine goesL_ (some 10) rfl rfl Tryd.func11 (by kernel_rfl) rfl #[] rfl (by (try simp only [List.map_toArray, List.map_cons, List.map_nil]); first | done | rfl | (simp only [List.length_drop, List.length_take]; rfl)) ?_; (with_reducible refine (pennantlaw01_awake.calls k  false _ ?side1 A4.out).mono ?_); (case side1 => exact Tabs_below HT_.out (by repeat (first | (with_reducible first | exact HB.out | apply below_alloc | apply pw_below_drewN | apply below_drew1) | exact HB.out))); rintro e w30 ⟨rfl, hb⟩; refine ⟨_, rfl, ?_⟩; have n0_ := Aside0.mk (below_step (by repeat (first | (with_reducible first | exact HB.out | apply below_alloc | apply pw_below_drewN | apply below_drew1) | exact HB.out)) hb); clear HB; have HB := n0_; clear n0_; (try clear hb); (try clear hb2); (try clear hk); (try clear hi)))
    go_ret
    exact ⟨by first | rfl | (simp [errW_none, errW_some] <;> rfl) | (simp [*, errW_none, errW_some] <;> rfl), by repeat (first | (with_reducible first | exact HB.out | apply below_alloc | apply pw_below_drewN | apply below_drew1) | exact HB.out)⟩

/-- THE ONE PURE STATEMENT of pennantlaw01_UtfFinds: yours. -/
def pennantlaw01_UtfFinds.Pure : Prop := ∀ (a0 : ByteArray) (a1 : ByteArray) (a2 : Int), a0.size ≤ 140737488351232 → a1.size ≤ 140737488351232 → (Lit.int .u8 a2).wf = true → ∃ k, pennantlaw01_UtfFinds.f k a0 a1 a2 = some true
theorem pennantlaw01_UtfFinds.walk (P : pennantlaw01_UtfFinds.Pure) (a0 : ByteArray) (a1 : ByteArray) (a2 : Int) (w : World) (hT_ : Tabs w) (w0 : a0.size ≤ 140737488351232) (w1 : a1.size ≤ 140737488351232) (w2 : (Lit.int .u8 a2).wf = true) :
    Calls Tryd.prog 9 #[.string a0, .string a1, .int .u8 a2] w fun e w' => e = .returned (.bool true) ∧ Below w.heap.size w w' := by
  obtain ⟨k, h⟩ := P a0 a1 a2 w0 w1 w2
  refine (pennantlaw01_UtfFinds.calls k a0 a1 a2 true w hT_ h).mono ?_
  rintro e w' ⟨rfl, hd⟩
  exact ⟨rfl, hd⟩

end Go.Proofs.YtpclncikhlameaaDoor.PUtf
