-- Written by a program of this session (a turned copy of the print): the machine's side.
import Derived.Test.YtnfobcedbfbbiaaDoorPIxx0
namespace Go.Proofs.YtnfobcedbfbbiaaDoor.PIx
open Go.RowKit Go.Proofs.YtnfobcedbfbbiaaDoorW.PrintWords Go.Proofs.YtnfobcedbfbbiaaDoorW.PrintLast Go.Proofs.YtnfobcedbfbbiaaDoorW.PrintMore Go.Proofs.YtnfobcedbfbbiaaDoor.Hand
attribute [local go_sem] max2_int min2_int max_two min_two max_three min_three max_four min_four   -- for this text's walks alone
set_option linter.unusedVariables false
set_option linter.unusedSimpArgs false

-- NOT PRINTED: function 13 (esheap_New)

-- NOT PRINTED: function 14 (pennantlaw08_num)

-- NOT PRINTED: function 59 (math_Float64bits)

-- NOT PRINTED: function 63 (math_Signbit)

-- NOT PRINTED: function 57 (esnum_Same)

-- NOT PRINTED: function 37 (esheap_Heap_right)

-- NOT PRINTED: function 38 (esheap_Heap_add)

-- NOT PRINTED: function 39 (api_Value)

-- NOT PRINTED: function 15 (esheap_Heap_Array)

/-! ### utf_Length: function 31 -/
def utf_Length.f (a0 : ByteArray) : Option (Int) := some (wrap64 ((a0.size : Int) / 2))
set_option maxHeartbeats 8000000 in
set_option maxRecDepth 100000 in
theorem utf_Length.calls (a0 : ByteArray) (r : Int) (w : World) (h : utf_Length.f a0 = some r) :
    Calls Tryd.prog 31 #[.string a0] w fun e w' => e = .returned (.int .i64 r) ∧ Drawn0 w w' := by
  have H : (some (wrap64 ((a0.size : Int) / 2))) = some r := h
  clear h
  obtain rfl := Option.some.inj H
  go_enter Tryd.func31, Tryd.ntmps31
  go_wp2
  go_ret
  exact ⟨by first | rfl | (simp; done) | (simp [*]; done), by repeat (first | exact Drawn0.refl _ | apply Drawn0.step)⟩

/-! ### utf_At: function 32 -/
def utf_At.f (a0 : ByteArray) (a1 : Int) : Option (Int × Bool) := if a1 < 0 then (some (0, false)) else ((utf_Length.f a0).bind fun t101 => (if a1 ≥ t101 then (some (0, false)) else (if 0 ≤ (wrap64 (2 * a1)) then (if (wrap64 (2 * a1)) < (a0.size : Int) then (if 0 ≤ (wrap64 ((wrap64 (2 * a1)) + 1)) then (if (wrap64 ((wrap64 (2 * a1)) + 1)) < (a0.size : Int) then (some (Go.bits .or .i64 (wrap64 ((wrap64 (bt a0 (wrap64 (2 * a1)))) * 256)) (wrap64 (bt a0 (wrap64 ((wrap64 (2 * a1)) + 1)))), true)) else (none)) else (none)) else (none)) else (none))))
set_option maxHeartbeats 8000000 in
set_option maxRecDepth 100000 in
theorem utf_At.calls (a0 : ByteArray) (a1 : Int) (r1 : Int) (r2 : Bool) (w : World) (h : utf_At.f a0 a1 = some (r1, r2)) :
    Calls Tryd.prog 32 #[.string a0, .int .i64 a1] w fun e w' => e = .returned (.tuple #[.int .i64 r1, .bool r2]) ∧ Drawn0 w w' := by
  have H : (if a1 < 0 then (some (0, false)) else ((utf_Length.f a0).bind fun t101 => (if a1 ≥ t101 then (some (0, false)) else (if 0 ≤ (wrap64 (2 * a1)) then (if (wrap64 (2 * a1)) < (a0.size : Int) then (if 0 ≤ (wrap64 ((wrap64 (2 * a1)) + 1)) then (if (wrap64 ((wrap64 (2 * a1)) + 1)) < (a0.size : Int) then (some (Go.bits .or .i64 (wrap64 ((wrap64 (bt a0 (wrap64 (2 * a1)))) * 256)) (wrap64 (bt a0 (wrap64 ((wrap64 (2 * a1)) + 1)))), true)) else (none)) else (none)) else (none)) else (none))))) = some (r1, r2) := h
  clear h
  by_cases c3 : a1 < 0
  · rw [if_pos c3] at H
    have c3b0 : decide (a1 < 0) = true := decide_eq_true c3
    clear c3
    simp only [Option.some.injEq, Prod.mk.injEq] at H
    obtain ⟨rfl, rfl⟩ := H
    go_enter Tryd.func32, Tryd.ntmps32
    go_wp2
    repeat (go_quiet (fail); try go_wp2)
    go_ret2
    exact ⟨by first | rfl | (simp; done) | (simp [*]; done), by repeat (first | exact Drawn0.refl _ | apply Drawn0.step)⟩
  · rw [if_neg c3] at H
    have c3b0 : decide (a1 < 0) = false := decide_eq_false c3
    clear c3
    replace H := Option.bind_eq_some_iff.mp H
    obtain ⟨t101, A40, H⟩ := H
    replace H : (if a1 ≥ t101 then (some (0, false)) else (if 0 ≤ (wrap64 (2 * a1)) then (if (wrap64 (2 * a1)) < (a0.size : Int) then (if 0 ≤ (wrap64 ((wrap64 (2 * a1)) + 1)) then (if (wrap64 ((wrap64 (2 * a1)) + 1)) < (a0.size : Int) then (some (Go.bits .or .i64 (wrap64 ((wrap64 (bt a0 (wrap64 (2 * a1)))) * 256)) (wrap64 (bt a0 (wrap64 ((wrap64 (2 * a1)) + 1)))), true)) else (none)) else (none)) else (none)) else (none))) = some (r1, r2) := H
    have A4 := Aside0.mk A40
    clear A40
    by_cases c5 : a1 ≥ t101
    · rw [if_pos c5] at H
      have c5b0 : decide (t101 ≤ a1) = true := decide_eq_true c5
      clear c5
      simp only [Option.some.injEq, Prod.mk.injEq] at H
      obtain ⟨rfl, rfl⟩ := H
      go_enter Tryd.func32, Tryd.ntmps32
      go_wp2_with (first | (go_at_call 31; (with_reducible refine (utf_Length.calls a0 t101 _ A4.out).mono ?_); rintro e w' ⟨rfl, ⟨nd, rfl⟩⟩; (try first | exact ⟨rfl, _, World.drewN_drewN _ _ _⟩ | exact ⟨rfl, _, Eq.trans (World.drewN_drewN _ _ _) (congrArg (World.drewN _) (Nat.add_assoc _ _ _))⟩)))
      repeat (go_quiet (first | (go_at_call 31; (with_reducible refine (utf_Length.calls a0 t101 _ A4.out).mono ?_); rintro e w' ⟨rfl, ⟨nd, rfl⟩⟩; (try first | exact ⟨rfl, _, World.drewN_drewN _ _ _⟩ | exact ⟨rfl, _, Eq.trans (World.drewN_drewN _ _ _) (congrArg (World.drewN _) (Nat.add_assoc _ _ _))⟩))); try go_wp2_with (first | (go_at_call 31; (with_reducible refine (utf_Length.calls a0 t101 _ A4.out).mono ?_); rintro e w' ⟨rfl, ⟨nd, rfl⟩⟩; (try first | exact ⟨rfl, _, World.drewN_drewN _ _ _⟩ | exact ⟨rfl, _, Eq.trans (World.drewN_drewN _ _ _) (congrArg (World.drewN _) (Nat.add_assoc _ _ _))⟩))))
      go_ret2
      exact ⟨by first | rfl | (simp; done) | (simp [*]; done), by repeat (first | exact Drawn0.refl _ | apply Drawn0.step)⟩
    · rw [if_neg c5] at H
      have c5b0 : decide (t101 ≤ a1) = false := decide_eq_false c5
      clear c5
      obtain ⟨ji6, hji6⟩ : ∃ j_ : Int, (wrap64 (2 * a1)) = j_ := ⟨_, rfl⟩
      replace H : (if 0 ≤ (ji6) then (if (ji6) < (a0.size : Int) then (if 0 ≤ (wrap64 ((ji6) + 1)) then (if (wrap64 ((ji6) + 1)) < (a0.size : Int) then (some (Go.bits .or .i64 (wrap64 ((wrap64 (bt a0 (ji6))) * 256)) (wrap64 (bt a0 (wrap64 ((ji6) + 1)))), true)) else (none)) else (none)) else (none)) else (none)) = some (r1, r2) := by first | (rw [hji6] at H; exact H) | (simp only [hji6] at H ⊢; exact H)
      (try rw [hji6] at A4)
      have hji6w : (IntKind.i64.wrap (2 * a1)) = ji6 := (i64_w _).trans hji6
      by_cases c7 : 0 ≤ (ji6)
      · rw [if_pos c7] at H
        have c7b0 : decide (0 ≤ (ji6)) = true := decide_eq_true c7
        clear c7
        by_cases c8 : (ji6) < (a0.size : Int)
        · rw [if_pos c8] at H
          have c8b0 : decide ((ji6) < (a0.size : Int)) = true := decide_eq_true c8
          clear c8
          obtain ⟨ji10, hji10⟩ : ∃ j_ : Int, (wrap64 ((ji6) + 1)) = j_ := ⟨_, rfl⟩
          replace H : (if 0 ≤ (ji10) then (if (ji10) < (a0.size : Int) then (some (Go.bits .or .i64 (wrap64 ((wrap64 (bt a0 (ji6))) * 256)) (wrap64 (bt a0 (ji10))), true)) else (none)) else (none)) = some (r1, r2) := by first | (rw [hji10] at H; exact H) | (simp only [hji10] at H ⊢; exact H)
          (try rw [hji10] at A4)
          have hji10w : (IntKind.i64.wrap ((ji6) + 1)) = ji10 := (i64_w _).trans hji10
          by_cases c11 : 0 ≤ (ji10)
          · rw [if_pos c11] at H
            have c11b0 : decide (0 ≤ (ji10)) = true := decide_eq_true c11
            clear c11
            by_cases c12 : (ji10) < (a0.size : Int)
            · rw [if_pos c12] at H
              have c12b0 : decide ((ji10) < (a0.size : Int)) = true := decide_eq_true c12
              clear c12
              simp only [Option.some.injEq, Prod.mk.injEq] at H
              obtain ⟨rfl, rfl⟩ := H
              go_enter Tryd.func32, Tryd.ntmps32
              go_wp2_with (first | (go_at_call 31; (with_reducible refine (utf_Length.calls a0 t101 _ A4.out).mono ?_); rintro e w' ⟨rfl, ⟨nd, rfl⟩⟩; (try first | exact ⟨rfl, _, World.drewN_drewN _ _ _⟩ | exact ⟨rfl, _, Eq.trans (World.drewN_drewN _ _ _) (congrArg (World.drewN _) (Nat.add_assoc _ _ _))⟩); have p9 : 0 ≤ ((ji6) : Int) := of_decide_eq_true (by first | (with_reducible assumption) | assumption); have q9 : (ji6) < (a0.size : Int) := of_decide_eq_true (by first | (with_reducible assumption) | assumption); have hx9 := bt_at a0 (ji6); replace p9 := eq_true p9; replace q9 := eq_true q9; have p13 : 0 ≤ ((ji10) : Int) := of_decide_eq_true (by first | (with_reducible assumption) | assumption); have q13 : (ji10) < (a0.size : Int) := of_decide_eq_true (by first | (with_reducible assumption) | assumption); have hx13 := bt_at a0 (ji10); replace p13 := eq_true p13; replace q13 := eq_true q13))
              repeat (go_quiet (first | (go_at_call 31; (with_reducible refine (utf_Length.calls a0 t101 _ A4.out).mono ?_); rintro e w' ⟨rfl, ⟨nd, rfl⟩⟩; (try first | exact ⟨rfl, _, World.drewN_drewN _ _ _⟩ | exact ⟨rfl, _, Eq.trans (World.drewN_drewN _ _ _) (congrArg (World.drewN _) (Nat.add_assoc _ _ _))⟩); have p9 : 0 ≤ ((ji6) : Int) := of_decide_eq_true (by first | (with_reducible assumption) | assumption); have q9 : (ji6) < (a0.size : Int) := of_decide_eq_true (by first | (with_reducible assumption) | assumption); have hx9 := bt_at a0 (ji6); replace p9 := eq_true p9; replace q9 := eq_true q9; have p13 : 0 ≤ ((ji10) : Int) := of_decide_eq_true (by first | (with_reducible assumption) | assumption); have q13 : (ji10) < (a0.size : Int) := of_decide_eq_true (by first | (with_reducible assumption) | assumption); have hx13 := bt_at a0 (ji10); replace p13 := eq_true p13; replace q13 := eq_true q13)); try go_wp2_with (first | (go_at_call 31; (with_reducible refine (utf_Length.calls a0 t101 _ A4.out).mono ?_); rintro e w' ⟨rfl, ⟨nd, rfl⟩⟩; (try first | exact ⟨rfl, _, World.drewN_drewN _ _ _⟩ | exact ⟨rfl, _, Eq.trans (World.drewN_drewN _ _ _) (congrArg (World.drewN _) (Nat.add_assoc _ _ _))⟩); have p9 : 0 ≤ ((ji6) : Int) := of_decide_eq_true (by first | (with_reducible assumption) | assumption); have q9 : (ji6) < (a0.size : Int) := of_decide_eq_true (by first | (with_reducible assumption) | assumption); have hx9 := bt_at a0 (ji6); replace p9 := eq_true p9; replace q9 := eq_true q9; have p13 : 0 ≤ ((ji10) : Int) := of_decide_eq_true (by first | (with_reducible assumption) | assumption); have q13 : (ji10) < (a0.size : Int) := of_decide_eq_true (by first | (with_reducible assumption) | assumption); have hx13 := bt_at a0 (ji10); replace p13 := eq_true p13; replace q13 := eq_true q13)))
              go_ret2
              exact ⟨by first | rfl | (simp; done) | (simp only [← hji6, ← hji10] <;> (first | rfl | simp)) | (simp [*]; done), by repeat (first | exact Drawn0.refl _ | apply Drawn0.step)⟩
            · rw [if_neg c12] at H
              exact absurd H (by simp)
          · rw [if_neg c11] at H
            exact absurd H (by simp)
        · rw [if_neg c8] at H
          exact absurd H (by simp)
      · rw [if_neg c7] at H
        exact absurd H (by simp)

/-! ### esheap_Index: function 9 -/
mutual
def esheap_Index.j0 : Nat → ByteArray → Int → Bool → Option (Int × Bool)
  | 0, _, _, _ => none
  | k + 1, x0, x4, x21 => if x21 = true then (some (0, false)) else ((utf_Length.f x0).bind fun t102 => (esheap_Index.l0 k x0 x4 t102 0))
def esheap_Index.l0 : Nat → ByteArray → Int → Int → Int → Option (Int × Bool)
  | 0, _, _, _, _ => none
  | k + 1, x0, x4, x23, x24 => if x24 < x23 then ((utf_At.f x0 x24).bind fun bt103 => (if bt103.1 < 48 then (some (0, false)) else (if bt103.1 > 57 then (some (0, false)) else (if x24 > 0 then (if x4 = 0 then (some (0, false)) else (esheap_Index.l0 k x0 (wrap64 ((wrap64 ((wrap64 (x4 * 10)) + bt103.1)) - 48)) x23 (wrap64 (x24 + 1)))) else (esheap_Index.l0 k x0 (wrap64 ((wrap64 ((wrap64 (x4 * 10)) + bt103.1)) - 48)) x23 (wrap64 (x24 + 1))))))) else (if x4 > 2147483647 then (some (0, false)) else (some (x4, true)))
end
def esheap_Index.f (k : Nat) (a0 : ByteArray) : Option (Int × Bool) := if ((a0.size : Int) % 2) = 0 then (if (a0.size : Int) = 0 then (esheap_Index.j0 k a0 0 true) else (esheap_Index.j0 k a0 0 (decide ((a0.size : Int) > 20)))) else (esheap_Index.j0 k a0 0 true)
theorem esheap_Index.mono_l : ∀ k, (∀ y0 y1 y2, LeO (esheap_Index.j0 k y0 y1 y2) (esheap_Index.j0 (k + 1) y0 y1 y2)) ∧ (∀ y0 y1 y2 y3, LeO (esheap_Index.l0 k y0 y1 y2 y3) (esheap_Index.l0 (k + 1) y0 y1 y2 y3))
  | 0 => ⟨fun _ _ _ r h => by simp [esheap_Index.j0] at h, fun _ _ _ _ r h => by simp [esheap_Index.l0] at h⟩
  | k + 1 => by
    obtain ⟨ih0, ih1⟩ := esheap_Index.mono_l k
    refine ⟨?_, ?_⟩
    · intro y0 y1 y2
      unfold esheap_Index.j0
      repeat' first
      | (with_reducible exact ih0 _ _ _)
      | (with_reducible exact ih1 _ _ _ _)
      | (with_reducible exact LeO.refl _)
      | (with_reducible exact LeO.none _)
      | (with_reducible refine LeO.ite ?_ ?_)
      | (with_reducible refine LeO.bind ?_ (fun _ => ?_))
      | exact ih0 _ _ _
      | exact ih1 _ _ _ _
      | exact LeO.none _
      | refine LeO.ite ?_ ?_
      | refine LeO.bind ?_ (fun _ => ?_)
    · intro y0 y1 y2 y3
      unfold esheap_Index.l0
      repeat' first
      | (with_reducible exact ih0 _ _ _)
      | (with_reducible exact ih1 _ _ _ _)
      | (with_reducible exact LeO.refl _)
      | (with_reducible exact LeO.none _)
      | (with_reducible refine LeO.ite ?_ ?_)
      | (with_reducible refine LeO.bind ?_ (fun _ => ?_))
      | exact ih0 _ _ _
      | exact ih1 _ _ _ _
      | exact LeO.none _
      | refine LeO.ite ?_ ?_
      | refine LeO.bind ?_ (fun _ => ?_)
theorem esheap_Index.mono : ∀ a0 k, LeO (esheap_Index.f k a0) (esheap_Index.f (k + 1) a0) := by
  intro a0 k
  obtain ⟨ih0, ih1⟩ := esheap_Index.mono_l k
  unfold esheap_Index.f
  repeat' first
      | (with_reducible exact ih0 _ _ _)
      | (with_reducible exact ih1 _ _ _ _)
      | (with_reducible exact LeO.refl _)
      | (with_reducible exact LeO.none _)
      | (with_reducible refine LeO.ite ?_ ?_)
      | (with_reducible refine LeO.bind ?_ (fun _ => ?_))
      | exact ih0 _ _ _
      | exact ih1 _ _ _ _
      | exact LeO.none _
      | refine LeO.ite ?_ ?_
      | refine LeO.bind ?_ (fun _ => ?_)
set_option maxHeartbeats 8000000 in
set_option maxRecDepth 100000 in
theorem esheap_Index.calls (k : Nat) (a0 : ByteArray) (r1 : Int) (r2 : Bool) (w : World) (h : esheap_Index.f k a0 = some (r1, r2)) :
    Calls Tryd.prog 9 #[.string a0] w fun e w' => e = .returned (.tuple #[.int .i64 r1, .bool r2]) ∧ Drawn0 w w' := by
  have H : (if ((a0.size : Int) % 2) = 0 then (if (a0.size : Int) = 0 then (esheap_Index.j0 k a0 0 true) else (esheap_Index.j0 k a0 0 (decide ((a0.size : Int) > 20)))) else (esheap_Index.j0 k a0 0 true)) = some (r1, r2) := h
  clear h
  have HC2 := Aside0.mk H
  clear H
  go_enter Tryd.func9, Tryd.ntmps9
  go_upto_region 2 with (fail)
  go_cut [21] (fun v21 wc => ∃ (kq : Nat) (x21_1 : Bool), v21 = .bool x21_1 ∧ Aside0 (esheap_Index.j0 kq a0 0 x21_1 = some (r1, r2)) ∧ Aside0 (kq ≤ k) ∧ Drawn0 w wc)
  case first =>
    have H := HC2.out
    clear HC2
    by_cases c3 : ((a0.size : Int) % 2) = 0
    · rw [if_pos c3] at H
      have c3b0 : (((a0.size : Int) % 2) == 0) = true := beq_iff_eq.mpr c3
      have c3b1 : (((a0.size : Int) % 2) != 0) = false := bne_eq_false_iff_eq.mpr c3
      clear c3
      (first | rw [c3b0] | (simp only [i64_w, i32_w]; rw [c3b0]) | skip)
      by_cases c4 : (a0.size : Int) = 0
      · rw [if_pos c4] at H
        have c4b0 : ((a0.size : Int) == 0) = true := beq_iff_eq.mpr c4
        have c4b1 : ((a0.size : Int) != 0) = false := bne_eq_false_iff_eq.mpr c4
        clear c4
        have H' := Aside0.mk H
        clear H
        go_wp2
        go_meet
        case rel => exact ⟨_, (true), (by first | rfl | (simp; done) | (simp [*]; done)), H', ⟨by first | omega | exact Nat.le_refl _⟩, by repeat (first | exact Drawn0.refl _ | apply Drawn0.step)⟩
      · rw [if_neg c4] at H
        have c4b0 : ((a0.size : Int) == 0) = false := beq_eq_false_iff_ne.mpr c4
        have c4b1 : ((a0.size : Int) != 0) = true := bne_iff_ne.mpr c4
        have H' := Aside0.mk H
        clear H
        go_wp2
        go_meet
        case rel => exact ⟨_, (decide ((a0.size : Int) > 20)), (by first | rfl | (simp; done) | (simp [*]; done)), H', ⟨by first | omega | exact Nat.le_refl _⟩, by repeat (first | exact Drawn0.refl _ | apply Drawn0.step)⟩
    · rw [if_neg c3] at H
      have c3b0 : (((a0.size : Int) % 2) == 0) = false := beq_eq_false_iff_ne.mpr c3
      have c3b1 : (((a0.size : Int) % 2) != 0) = true := bne_iff_ne.mpr c3
      (first | rw [c3b0] | (simp only [i64_w, i32_w]; rw [c3b0]) | skip)
      have H' := Aside0.mk H
      clear H
      go_wp2
      go_meet
      case rel => exact ⟨_, (true), (by first | rfl | (simp; done) | (simp [*]; done)), H', ⟨by first | omega | exact Nat.le_refl _⟩, by repeat (first | exact Drawn0.refl _ | apply Drawn0.step)⟩
  case rest =>
    clear HC2
    try clear p2
    try clear c3
    try clear c3b0
    try clear c3b1
    try clear c4
    try clear c4b0
    try clear c4b1
    obtain ⟨kq, x21_1, rfl, HA, HJ1, ⟨mc1, rfl⟩⟩ := hcut
    cases kq with
    | zero => exact absurd HA.out (by simp [esheap_Index.j0])
    | succ kj1 =>
      have H := HA.out
      clear HA
      simp only [esheap_Index.j0] at H
      by_cases c5 : x21_1 = true
      · subst c5
        have H1 : (some (0, false)) = some (r1, r2) := by rw [if_pos rfl] at H; exact H
        clear H
        have H := H1
        clear H1
        simp only [Option.some.injEq, Prod.mk.injEq] at H
        obtain ⟨rfl, rfl⟩ := H
        go_wp2
        go_ret2
        exact ⟨by first | rfl | (simp; done) | (simp [*]; done), by repeat (first | exact Drawn0.refl _ | apply Drawn0.step)⟩
      · replace c5 := Bool.eq_false_iff.mpr c5
        subst c5
        have H1 : ((utf_Length.f a0).bind fun t102 => (esheap_Index.l0 kj1 a0 0 t102 0)) = some (r1, r2) := by rw [if_neg (show ¬ (false = true) by decide)] at H; exact H
        clear H
        have H := H1
        clear H1
        replace H := Option.bind_eq_some_iff.mp H
        obtain ⟨t102, A60, H⟩ := H
        replace H : (esheap_Index.l0 kj1 a0 0 t102 0) = some (r1, r2) := H
        have A6 := Aside0.mk A60
        clear A60
        have H' := Aside0.mk H
        clear H
        go_wp2_with (first | ((with_reducible refine gate_callee (f := 31) rfl ?_); refine goesL_ (some 23) rfl rfl Tryd.func31 (by kernel_rfl) rfl #[.string a0] rfl (by (try simp only [List.map_toArray, List.map_cons, List.map_nil]); first | done | rfl | (simp only [List.length_drop, List.length_take]; rfl)) ?_; (with_reducible refine (utf_Length.calls a0 t102 _ A6.out).mono ?_); rintro e w' ⟨rfl, ⟨nd, rfl⟩⟩; refine ⟨_, rfl, ?_⟩))
        go_loopg [4, 24] kj1 (fun kq v4 v24 w' => ∃ (x4_2 : Int) (x24_2 : Int), v4 = .int .i64 x4_2 ∧ v24 = .int .i64 x24_2 ∧ Aside0 (esheap_Index.l0 kq a0 x4_2 t102 x24_2 = some (r1, r2)) ∧ Aside0 (kq ≤ kj1) ∧ Drawn0 w w')
        case atStart => exact ⟨(0), (0), (by first | rfl | (simp; done) | (simp [*]; done)), (by first | rfl | (simp; done) | (simp [*]; done)), H', ⟨Nat.le_refl _⟩, by repeat (first | exact Drawn0.refl _ | apply Drawn0.step)⟩
        case round =>
          clear H'
          try clear c1
          try clear p2
          try clear c3
          try clear c3b0
          try clear c3b1
          try clear c4
          try clear c4b0
          try clear c4b1
          try clear c5
          try clear p2
          obtain ⟨x4_2, x24_2, rfl, rfl, HA, HK2, ⟨m2, rfl⟩⟩ := hrel
          cases gk with
          | zero => exact absurd HA.out (by simp [esheap_Index.l0])
          | succ k2 =>
            have H := HA.out
            clear HA
            simp only [esheap_Index.l0] at H
            by_cases c7 : x24_2 < t102
            · rw [if_pos c7] at H
              have c7b0 : decide (x24_2 < t102) = true := decide_eq_true c7
              clear c7
              replace H := Option.bind_eq_some_iff.mp H
              obtain ⟨⟨t103, t104⟩, A80, H⟩ := H
              replace H : (if t103 < 48 then (some (0, false)) else (if t103 > 57 then (some (0, false)) else (if x24_2 > 0 then (if x4_2 = 0 then (some (0, false)) else (esheap_Index.l0 k2 a0 (wrap64 ((wrap64 ((wrap64 (x4_2 * 10)) + t103)) - 48)) t102 (wrap64 (x24_2 + 1)))) else (esheap_Index.l0 k2 a0 (wrap64 ((wrap64 ((wrap64 (x4_2 * 10)) + t103)) - 48)) t102 (wrap64 (x24_2 + 1)))))) = some (r1, r2) := H
              have A8 := Aside0.mk A80
              clear A80
              by_cases c9 : t103 < 48
              · rw [if_pos c9] at H
                have c9b0 : decide (t103 < 48) = true := decide_eq_true c9
                clear c9
                simp only [Option.some.injEq, Prod.mk.injEq] at H
                obtain ⟨rfl, rfl⟩ := H
                go_wp2_with (first | ((with_reducible refine gate_callee (f := 32) rfl ?_); refine goesL_ (some 30) rfl rfl Tryd.func32 (by kernel_rfl) rfl #[.string a0, .int .i64 x24_2] rfl (by (try simp only [List.map_toArray, List.map_cons, List.map_nil]); first | done | rfl | (simp only [List.length_drop, List.length_take]; rfl)) ?_; (with_reducible refine (utf_At.calls a0 x24_2 t103 t104 _ A8.out).mono ?_); rintro e w' ⟨rfl, ⟨nd, rfl⟩⟩; refine ⟨_, rfl, ?_⟩))
                go_ret2
                exact ⟨by first | rfl | (simp; done) | (simp [*]; done), by repeat (first | exact Drawn0.refl _ | apply Drawn0.step)⟩
              · rw [if_neg c9] at H
                have c9b0 : decide (t103 < 48) = false := decide_eq_false c9
                clear c9
                by_cases c10 : t103 > 57
                · rw [if_pos c10] at H
                  have c10b0 : decide (57 < t103) = true := decide_eq_true c10
                  clear c10
                  simp only [Option.some.injEq, Prod.mk.injEq] at H
                  obtain ⟨rfl, rfl⟩ := H
                  go_wp2_with (first | ((with_reducible refine gate_callee (f := 32) rfl ?_); refine goesL_ (some 30) rfl rfl Tryd.func32 (by kernel_rfl) rfl #[.string a0, .int .i64 x24_2] rfl (by (try simp only [List.map_toArray, List.map_cons, List.map_nil]); first | done | rfl | (simp only [List.length_drop, List.length_take]; rfl)) ?_; (with_reducible refine (utf_At.calls a0 x24_2 t103 t104 _ A8.out).mono ?_); rintro e w' ⟨rfl, ⟨nd, rfl⟩⟩; refine ⟨_, rfl, ?_⟩))
                  go_ret2
                  exact ⟨by first | rfl | (simp; done) | (simp [*]; done), by repeat (first | exact Drawn0.refl _ | apply Drawn0.step)⟩
                · rw [if_neg c10] at H
                  have c10b0 : decide (57 < t103) = false := decide_eq_false c10
                  clear c10
                  by_cases c11 : x24_2 > 0
                  · rw [if_pos c11] at H
                    have c11b0 : decide (0 < x24_2) = true := decide_eq_true c11
                    clear c11
                    by_cases c12 : x4_2 = 0
                    · rw [if_pos c12] at H
                      have c12b0 : (x4_2 == 0) = true := beq_iff_eq.mpr c12
                      have c12b1 : (x4_2 != 0) = false := bne_eq_false_iff_eq.mpr c12
                      clear c12
                      simp only [Option.some.injEq, Prod.mk.injEq] at H
                      obtain ⟨rfl, rfl⟩ := H
                      go_wp2_with (first | ((with_reducible refine gate_callee (f := 32) rfl ?_); refine goesL_ (some 30) rfl rfl Tryd.func32 (by kernel_rfl) rfl #[.string a0, .int .i64 x24_2] rfl (by (try simp only [List.map_toArray, List.map_cons, List.map_nil]); first | done | rfl | (simp only [List.length_drop, List.length_take]; rfl)) ?_; (with_reducible refine (utf_At.calls a0 x24_2 t103 t104 _ A8.out).mono ?_); rintro e w' ⟨rfl, ⟨nd, rfl⟩⟩; refine ⟨_, rfl, ?_⟩))
                      go_ret2
                      exact ⟨by first | rfl | (simp; done) | (simp [*]; done), by repeat (first | exact Drawn0.refl _ | apply Drawn0.step)⟩
                    · rw [if_neg c12] at H
                      have c12b0 : (x4_2 == 0) = false := beq_eq_false_iff_ne.mpr c12
                      have c12b1 : (x4_2 != 0) = true := bne_iff_ne.mpr c12
                      have H' := Aside0.mk H
                      clear H
                      go_wp2_with (first | ((with_reducible refine gate_callee (f := 32) rfl ?_); refine goesL_ (some 30) rfl rfl Tryd.func32 (by kernel_rfl) rfl #[.string a0, .int .i64 x24_2] rfl (by (try simp only [List.map_toArray, List.map_cons, List.map_nil]); first | done | rfl | (simp only [List.length_drop, List.length_take]; rfl)) ?_; (with_reducible refine (utf_At.calls a0 x24_2 t103 t104 _ A8.out).mono ?_); rintro e w' ⟨rfl, ⟨nd, rfl⟩⟩; refine ⟨_, rfl, ?_⟩))
                      go_roundg k2
                      case measure => have := HJ1.out; have := HK2.out; omega
                      case rel => exact ⟨(wrap64 ((wrap64 ((wrap64 (x4_2 * 10)) + t103)) - 48)), (wrap64 (x24_2 + 1)), (by first | rfl | (simp; done) | (simp [*]; done)), (by first | rfl | (simp; done) | (simp [*]; done)), H', ⟨by have := HJ1.out; have := HK2.out; omega⟩, by repeat (first | exact Drawn0.refl _ | apply Drawn0.step)⟩
                  · rw [if_neg c11] at H
                    have c11b0 : decide (0 < x24_2) = false := decide_eq_false c11
                    clear c11
                    have H' := Aside0.mk H
                    clear H
                    go_wp2_with (first | ((with_reducible refine gate_callee (f := 32) rfl ?_); refine goesL_ (some 30) rfl rfl Tryd.func32 (by kernel_rfl) rfl #[.string a0, .int .i64 x24_2] rfl (by (try simp only [List.map_toArray, List.map_cons, List.map_nil]); first | done | rfl | (simp only [List.length_drop, List.length_take]; rfl)) ?_; (with_reducible refine (utf_At.calls a0 x24_2 t103 t104 _ A8.out).mono ?_); rintro e w' ⟨rfl, ⟨nd, rfl⟩⟩; refine ⟨_, rfl, ?_⟩))
                    go_roundg k2
                    case measure => have := HJ1.out; have := HK2.out; omega
                    case rel => exact ⟨(wrap64 ((wrap64 ((wrap64 (x4_2 * 10)) + t103)) - 48)), (wrap64 (x24_2 + 1)), (by first | rfl | (simp; done) | (simp [*]; done)), (by first | rfl | (simp; done) | (simp [*]; done)), H', ⟨by have := HJ1.out; have := HK2.out; omega⟩, by repeat (first | exact Drawn0.refl _ | apply Drawn0.step)⟩
            · rw [if_neg c7] at H
              have c7b0 : decide (x24_2 < t102) = false := decide_eq_false c7
              clear c7
              by_cases c13 : x4_2 > 2147483647
              · rw [if_pos c13] at H
                have c13b0 : decide (2147483647 < x4_2) = true := decide_eq_true c13
                clear c13
                simp only [Option.some.injEq, Prod.mk.injEq] at H
                obtain ⟨rfl, rfl⟩ := H
                go_wp2
                go_ret2
                exact ⟨by first | rfl | (simp; done) | (simp [*]; done), by repeat (first | exact Drawn0.refl _ | apply Drawn0.step)⟩
              · rw [if_neg c13] at H
                have c13b0 : decide (2147483647 < x4_2) = false := decide_eq_false c13
                clear c13
                simp only [Option.some.injEq, Prod.mk.injEq] at H
                obtain ⟨rfl, rfl⟩ := H
                go_wp2
                go_ret2
                exact ⟨by first | rfl | (simp; done) | (simp [*]; done), by repeat (first | exact Drawn0.refl _ | apply Drawn0.step)⟩

-- NOT PRINTED: function 40 (esheap_Heap_at)

-- NOT PRINTED: function 64 (math_archTrunc)

-- NOT PRINTED: function 73 (math_Float64frombits)

-- NOT PRINTED: function 71 (math_Abs)

-- NOT PRINTED: function 72 (math_Copysign)

-- NOT PRINTED: function 65 (math_trunc)

-- NOT PRINTED: function 58 (math_Trunc)

-- NOT PRINTED: function 41 (esnum_Whole)

-- NOT PRINTED: function 42 (esheap_Heap_resize)

-- NOT PRINTED: function 16 (esheap_Heap_Put)

/-! ### pennantref01_Unit: function 43 -/
def pennantref01_Unit.f (a0 : Int) : Option (ByteArray) := some (strOfNums (([(wrap64 (Int.tdiv a0 256)) % 256, (Int.tmod a0 256) % 256] : List Int)))
set_option maxHeartbeats 8000000 in
set_option maxRecDepth 100000 in
theorem pennantref01_Unit.calls (a0 : Int) (r : ByteArray) (w : World) (h : pennantref01_Unit.f a0 = some r) :
    Calls Tryd.prog 43 #[.int .i64 a0] w fun e w' => e = .returned (.string r) ∧ Below w.heap.size w w' := by
  have HB := Aside0.mk (Below.refl w.heap.size w)
  have H : (some (strOfNums (([(wrap64 (Int.tdiv a0 256)) % 256, (Int.tmod a0 256) % 256] : List Int)))) = some r := h
  clear h
  obtain ⟨y105, hy105⟩ : ∃ y_ : List Int, y_ = (([(wrap64 (Int.tdiv a0 256)) % 256, (Int.tmod a0 256) % 256] : List Int)) := ⟨_, rfl⟩
  replace H : (some (strOfNums y105)) = some r := by first | (rw [hy105]; with_reducible exact H) | (have H2_ := (Option.bind_some _ _).symm.trans H; rw [hy105]; with_reducible exact H2_) | (have H2_ := (Option.bind_some _ _).symm.trans H; with_reducible exact H2_) | with_reducible exact H | (rw [hy105]; exact H) | exact H
  have Ny105 := Aside0.mk hy105
  clear hy105
  obtain rfl := Option.some.inj H
  go_enter Tryd.func43, Tryd.ntmps43
  go_wp2_with (first | ((with_reducible refine gate_dst (N := 9) rfl ?_); refine Kd.R_lit (Kd.int .u8) _ 5 ?hg (N := 9) ?hd (xs := ([(wrap64 (Int.tdiv a0 256)) % 256, (Int.tmod a0 256) % 256] : List Int)) (inner := [.int .u8 ((wrap64 (Int.tdiv a0 256)) % 256), .int .u8 ((Int.tmod a0 256) % 256)]) (ok := fun _ => True) (okp := fun _ => True) ?hr ?hp (fun _ hk => hk) trivial (Below.refl _ _) (Nat.le_refl _) (by simp) ?_; (case hd => rfl); (case hg => rfl); (case hr => first | (go_simp; done) | (go_simp; rfl) | (simp only [or128_and63]; go_simp; done) | (simp only [or128_and63]; go_simp; rfl)); (case hp => exact (Reps.one (show Kd.M (Kd.int .u8) _ _ _ ((wrap64 (Int.tdiv a0 256)) % 256) [.int .u8 ((wrap64 (Int.tdiv a0 256)) % 256)] from rfl) (Reps.one (show Kd.M (Kd.int .u8) _ _ _ ((Int.tmod a0 256) % 256) [.int .u8 ((Int.tmod a0 256) % 256)] from rfl) (Reps.none _ _)))); intro v106 w2 ho3 hb hg_ hnew_; clear hg_ hnew_; (first | rw [← Ny105.out] at ho3 | (simp only [Int.reduceToNat] at ho3; rw [← Ny105.out] at ho3)); have n0_ := Aside0.mk (Kd.R_lower ho3 (below_size (by repeat (first | (with_reducible first | exact HB.out | apply below_alloc | apply pw_below_drewN | apply below_drew1) | exact HB.out)))); have n1_ := Aside0.mk (below_step (by repeat (first | (with_reducible first | exact HB.out | apply below_alloc | apply pw_below_drewN | apply below_drew1) | exact HB.out)) hb); clear HB; have HO107 := n0_; have HB := n1_; clear n0_ n1_; clear hb ho3; have hcv4 := own_string (P := Tryd.prog) Tryd.underlying97 Tryd.underlying5 Tryd.underlying9 (Kd.own_of_R HO107.out); have hcw5 := fun (nq : Nat) => own_string (P := Tryd.prog) Tryd.underlying97 Tryd.underlying5 Tryd.underlying9 (Kd.own_of_R (Kd.R_drewN HO107.out nq))))
  go_ret
  exact ⟨by first | rfl | (simp [errW_none, errW_some] <;> rfl) | (simp [*, errW_none, errW_some] <;> rfl), by repeat (first | (with_reducible first | exact HB.out | apply below_alloc | apply pw_below_drewN | apply below_drew1) | exact HB.out)⟩

/-! ### pennantref01_Of: function 19 -/
def pennantref01_Of.l0 : Nat → ByteArray → ByteArray → Int → Option (ByteArray)
  | 0, _, _, _ => none
  | k + 1, x0, x3, x4 => if x4 < (x0.size : Int) then (if 0 ≤ x4 then ((pennantref01_Unit.f (wrap64 (bt x0 x4))).bind fun t108 => (if x3.size + t108.size ≤ 9223372036854775807 then (pennantref01_Of.l0 k x0 (x3 ++ t108) (wrap64 (x4 + 1))) else (none))) else (none)) else (some x3)
def pennantref01_Of.f (k : Nat) (a0 : ByteArray) : Option (ByteArray) := pennantref01_Of.l0 k a0 (⟨#[]⟩ : ByteArray) 0
theorem pennantref01_Of.mono_l : ∀ k, (∀ y0 y1 y2, LeO (pennantref01_Of.l0 k y0 y1 y2) (pennantref01_Of.l0 (k + 1) y0 y1 y2))
  | 0 => fun _ _ _ r h => by simp [pennantref01_Of.l0] at h
  | k + 1 => by
    have ih0 := pennantref01_Of.mono_l k
    · intro y0 y1 y2
      unfold pennantref01_Of.l0
      repeat' first
      | (with_reducible exact ih0 _ _ _)
      | (with_reducible exact LeO.refl _)
      | (with_reducible exact LeO.none _)
      | (with_reducible refine LeO.ite ?_ ?_)
      | (with_reducible refine LeO.bind ?_ (fun _ => ?_))
      | exact ih0 _ _ _
      | exact LeO.none _
      | refine LeO.ite ?_ ?_
      | refine LeO.bind ?_ (fun _ => ?_)
theorem pennantref01_Of.mono : ∀ a0 k, LeO (pennantref01_Of.f k a0) (pennantref01_Of.f (k + 1) a0) := by
  intro a0 k
  have ih0 := pennantref01_Of.mono_l k
  unfold pennantref01_Of.f
  repeat' first
      | (with_reducible exact ih0 _ _ _)
      | (with_reducible exact LeO.refl _)
      | (with_reducible exact LeO.none _)
      | (with_reducible refine LeO.ite ?_ ?_)
      | (with_reducible refine LeO.bind ?_ (fun _ => ?_))
      | exact ih0 _ _ _
      | exact LeO.none _
      | refine LeO.ite ?_ ?_
      | refine LeO.bind ?_ (fun _ => ?_)
set_option maxHeartbeats 8000000 in
set_option maxRecDepth 100000 in
theorem pennantref01_Of.calls (k : Nat) (a0 : ByteArray) (r : ByteArray) (w : World) (h : pennantref01_Of.f k a0 = some r) :
    Calls Tryd.prog 19 #[.string a0] w fun e w' => e = .returned (.string r) ∧ Below w.heap.size w w' := by
  have HB := Aside0.mk (Below.refl w.heap.size w)
  have H : (pennantref01_Of.l0 k a0 (⟨#[]⟩ : ByteArray) 0) = some r := h
  clear h
  have H' := Aside0.mk H
  clear H
  go_enter Tryd.func19, Tryd.ntmps19
  go_wp2
  go_loopg [3, 4] k (fun kq v3 v4 w' => ∃ (x3_1 : ByteArray) (x4_1 : Int), v3 = .string x3_1 ∧ v4 = .int .i64 x4_1 ∧ Aside0 (pennantref01_Of.l0 kq a0 x3_1 x4_1 = some r) ∧ Aside0 (kq ≤ k) ∧ Aside0 (Below w.heap.size w w'))
  case atStart => exact ⟨((⟨#[]⟩ : ByteArray)), (0), (by first | rfl | (simp; done) | (simp [*]; done)), (by first | rfl | (simp; done) | (simp [*]; done)), H', ⟨Nat.le_refl _⟩, ⟨by repeat (first | (with_reducible first | exact HB.out | apply below_alloc | apply pw_below_drewN | apply below_drew1) | exact HB.out)⟩⟩
  case round =>
    clear H'
    try clear c1
    obtain ⟨x3_1, x4_1, rfl, rfl, HA, HK1, HB⟩ := hrel
    cases gk with
    | zero => exact absurd HA.out (by simp [pennantref01_Of.l0])
    | succ k1 =>
      have H := HA.out
      clear HA
      simp only [pennantref01_Of.l0] at H
      by_cases c2 : x4_1 < (a0.size : Int)
      · rw [if_pos c2] at H
        have c2b0 : decide (x4_1 < (a0.size : Int)) = true := decide_eq_true c2
        clear c2
        by_cases c3 : 0 ≤ x4_1
        · rw [if_pos c3] at H
          have c3b0 : decide (0 ≤ x4_1) = true := decide_eq_true c3
          clear c3
          replace H := Option.bind_eq_some_iff.mp H
          obtain ⟨t108, A50, H⟩ := H
          replace H : (if x3_1.size + t108.size ≤ 9223372036854775807 then (pennantref01_Of.l0 k1 a0 (x3_1 ++ t108) (wrap64 (x4_1 + 1))) else (none)) = some r := H
          have A5 := Aside0.mk A50
          clear A50
          by_cases c6 : x3_1.size + t108.size ≤ 9223372036854775807
          · rw [if_pos c6] at H
            have c6b0 := eq_true c6
            have c6b1 : decide (x3_1.size + t108.size ≤ 9223372036854775807) = true := decide_eq_true c6
            try have c6b2 : (9223372036854775807 < x3_1.size + t108.size) = False := eq_false (Nat.not_lt.2 c6)
            have H' := Aside0.mk H
            clear H
            have p4 : 0 ≤ (x4_1 : Int) := of_decide_eq_true (by first | (with_reducible assumption) | assumption)
            have q4 : x4_1 < (a0.size : Int) := of_decide_eq_true (by first | (with_reducible assumption) | assumption)
            have hx4 := bt_at a0 x4_1
            replace p4 := eq_true p4
            replace q4 := eq_true q4
            go_wp2_with (first | ((with_reducible refine gate_callee (f := 43) rfl ?_); refine goesL_ (some 16) rfl rfl Tryd.func43 (by kernel_rfl) rfl #[.int .i64 (wrap64 (bt a0 x4_1))] rfl (by (try simp only [List.map_toArray, List.map_cons, List.map_nil]); first | done | rfl | (simp only [List.length_drop, List.length_take]; rfl)) ?_; (with_reducible refine (pennantref01_Unit.calls (wrap64 (bt a0 x4_1)) t108 _ A5.out).mono ?_); rintro e w7 ⟨rfl, hb⟩; refine ⟨_, rfl, ?_⟩; have n0_ := Aside0.mk (below_step (by repeat (first | (with_reducible first | exact HB.out | apply below_alloc | apply pw_below_drewN | apply below_drew1) | exact HB.out)) hb); clear HB; have HB := n0_; clear n0_; (try clear hb); (try clear hb2); (try clear hk); (try clear hi)))
            go_roundg k1
            case measure => have := HK1.out; omega
            case rel => exact ⟨(x3_1 ++ t108), (wrap64 (x4_1 + 1)), (by first | rfl | (simp; done) | (simp [*]; done)), (by first | rfl | (simp; done) | (simp [*]; done)), H', ⟨by have := HK1.out; omega⟩, ⟨by repeat (first | (with_reducible first | exact HB.out | apply below_alloc | apply pw_below_drewN | apply below_drew1) | exact HB.out)⟩⟩
          · rw [if_neg c6] at H
            exact absurd H (by simp)
        · rw [if_neg c3] at H
          exact absurd H (by simp)
      · rw [if_neg c2] at H
        have c2b0 : decide (x4_1 < (a0.size : Int)) = false := decide_eq_false c2
        clear c2
        obtain rfl := Option.some.inj H
        go_wp2
        go_ret
        exact ⟨by first | rfl | (simp [errW_none, errW_some] <;> rfl) | (simp [*, errW_none, errW_some] <;> rfl), by repeat (first | (with_reducible first | exact HB.out | apply below_alloc | apply pw_below_drewN | apply below_drew1) | exact HB.out)⟩

-- NOT PRINTED: function 20 (esheap_Heap_Own)

-- NOT PRINTED: function 21 (esheap_Heap_Plain)

-- NOT PRINTED: function 44 (esheap_Heap_holder)

-- NOT PRINTED: function 22 (esheap_Heap_Get)

-- NOT PRINTED: function 8 (pennantlaw08_awake)

/-! ### pennantref08_Digits: function 36 -/
mutual
def pennantref08_Digits.j0 : Nat → Int → ByteArray → ByteArray → Option (ByteArray)
  | 0, _, _, _ => none
  | k + 1, x0, x3, x4 => pennantref08_Digits.l0 k x0 x3 x4
def pennantref08_Digits.l0 : Nat → Int → ByteArray → ByteArray → Option (ByteArray)
  | 0, _, _, _ => none
  | k + 1, x0, x3, x4 => if (Int.tmod x0 10) < 0 then ((some (([(wrap64 (48 + (wrap64 (-(Int.tmod x0 10))))) % 256] : List Int) : List Int)).bind fun y109 => (if (strOfNums y109).size + x3.size ≤ 9223372036854775807 then (if (wrap64 (Int.tdiv x0 10)) = 0 then (if x4.size + (strOfNums y109).size + x3.size ≤ 9223372036854775807 then (some (x4 ++ ((strOfNums y109) ++ x3))) else (none)) else (pennantref08_Digits.l0 k (wrap64 (Int.tdiv x0 10)) ((strOfNums y109) ++ x3) x4)) else (none))) else ((some (([(wrap64 (48 + (Int.tmod x0 10))) % 256] : List Int) : List Int)).bind fun y112 => (if (strOfNums y112).size + x3.size ≤ 9223372036854775807 then (if (wrap64 (Int.tdiv x0 10)) = 0 then (if x4.size + (strOfNums y112).size + x3.size ≤ 9223372036854775807 then (some (x4 ++ ((strOfNums y112) ++ x3))) else (none)) else (pennantref08_Digits.l0 k (wrap64 (Int.tdiv x0 10)) ((strOfNums y112) ++ x3) x4)) else (none)))
end
def pennantref08_Digits.f (k : Nat) (a0 : Int) : Option (ByteArray) := if a0 < 0 then (pennantref08_Digits.j0 k a0 (⟨#[]⟩ : ByteArray) (⟨#[45]⟩ : ByteArray)) else (pennantref08_Digits.j0 k a0 (⟨#[]⟩ : ByteArray) (⟨#[]⟩ : ByteArray))
theorem pennantref08_Digits.mono_l : ∀ k, (∀ y0 y1 y2, LeO (pennantref08_Digits.j0 k y0 y1 y2) (pennantref08_Digits.j0 (k + 1) y0 y1 y2)) ∧ (∀ y0 y1 y2, LeO (pennantref08_Digits.l0 k y0 y1 y2) (pennantref08_Digits.l0 (k + 1) y0 y1 y2))
  | 0 => ⟨fun _ _ _ r h => by simp [pennantref08_Digits.j0] at h, fun _ _ _ r h => by simp [pennantref08_Digits.l0] at h⟩
  | k + 1 => by
    obtain ⟨ih0, ih1⟩ := pennantref08_Digits.mono_l k
    refine ⟨?_, ?_⟩
    · intro y0 y1 y2
      unfold pennantref08_Digits.j0
      repeat' first
      | (with_reducible exact ih0 _ _ _)
      | (with_reducible exact ih1 _ _ _)
      | (with_reducible exact LeO.refl _)
      | (with_reducible exact LeO.none _)
      | (with_reducible refine LeO.ite ?_ ?_)
      | (with_reducible refine LeO.bind ?_ (fun _ => ?_))
      | exact ih0 _ _ _
      | exact ih1 _ _ _
      | exact LeO.none _
      | refine LeO.ite ?_ ?_
      | refine LeO.bind ?_ (fun _ => ?_)
    · intro y0 y1 y2
      unfold pennantref08_Digits.l0
      repeat' first
      | (with_reducible exact ih0 _ _ _)
      | (with_reducible exact ih1 _ _ _)
      | (with_reducible exact LeO.refl _)
      | (with_reducible exact LeO.none _)
      | (with_reducible refine LeO.ite ?_ ?_)
      | (with_reducible refine LeO.bind ?_ (fun _ => ?_))
      | exact ih0 _ _ _
      | exact ih1 _ _ _
      | exact LeO.none _
      | refine LeO.ite ?_ ?_
      | refine LeO.bind ?_ (fun _ => ?_)
theorem pennantref08_Digits.mono : ∀ a0 k, LeO (pennantref08_Digits.f k a0) (pennantref08_Digits.f (k + 1) a0) := by
  intro a0 k
  obtain ⟨ih0, ih1⟩ := pennantref08_Digits.mono_l k
  unfold pennantref08_Digits.f
  repeat' first
      | (with_reducible exact ih0 _ _ _)
      | (with_reducible exact ih1 _ _ _)
      | (with_reducible exact LeO.refl _)
      | (with_reducible exact LeO.none _)
      | (with_reducible refine LeO.ite ?_ ?_)
      | (with_reducible refine LeO.bind ?_ (fun _ => ?_))
      | exact ih0 _ _ _
      | exact ih1 _ _ _
      | exact LeO.none _
      | refine LeO.ite ?_ ?_
      | refine LeO.bind ?_ (fun _ => ?_)
set_option maxHeartbeats 8000000 in
set_option maxRecDepth 100000 in
theorem pennantref08_Digits.calls (k : Nat) (a0 : Int) (r : ByteArray) (w : World) (h : pennantref08_Digits.f k a0 = some r) :
    Calls Tryd.prog 36 #[.int .i64 a0] w fun e w' => e = .returned (.string r) ∧ Below w.heap.size w w' := by
  have HB := Aside0.mk (Below.refl w.heap.size w)
  have H : (if a0 < 0 then (pennantref08_Digits.j0 k a0 (⟨#[]⟩ : ByteArray) (⟨#[45]⟩ : ByteArray)) else (pennantref08_Digits.j0 k a0 (⟨#[]⟩ : ByteArray) (⟨#[]⟩ : ByteArray))) = some r := h
  clear h
  have HC2 := Aside0.mk H
  clear H
  go_enter Tryd.func36, Tryd.ntmps36
  go_upto_if 7 with (fail)
  go_cut [4] (fun v4 wc => ∃ (kq : Nat) (x4_1 : ByteArray), v4 = .string x4_1 ∧ Aside0 (pennantref08_Digits.j0 kq a0 (⟨#[]⟩ : ByteArray) x4_1 = some r) ∧ Aside0 (kq ≤ k) ∧ Aside0 (Below w.heap.size w wc))
  case first =>
    have H := HC2.out
    clear HC2
    by_cases c3 : a0 < 0
    · rw [if_pos c3] at H
      have c3b0 : decide (a0 < 0) = true := decide_eq_true c3
      clear c3
      (first | rw [c3b0] | (simp only [i64_w, i32_w]; rw [c3b0]) | skip)
      have H' := Aside0.mk H
      clear H
      go_wp2
      go_meet
      case rel => exact ⟨_, ((⟨#[45]⟩ : ByteArray)), (by first | rfl | (simp; done) | (simp [*]; done)), H', ⟨by first | omega | exact Nat.le_refl _⟩, ⟨by repeat (first | (with_reducible first | exact HB.out | apply below_alloc | apply pw_below_drewN | apply below_drew1) | exact HB.out)⟩⟩
    · rw [if_neg c3] at H
      have c3b0 : decide (a0 < 0) = false := decide_eq_false c3
      clear c3
      (first | rw [c3b0] | (simp only [i64_w, i32_w]; rw [c3b0]) | skip)
      have H' := Aside0.mk H
      clear H
      go_wp2
      go_meet
      case rel => exact ⟨_, ((⟨#[]⟩ : ByteArray)), (by first | rfl | (simp; done) | (simp [*]; done)), H', ⟨by first | omega | exact Nat.le_refl _⟩, ⟨by repeat (first | (with_reducible first | exact HB.out | apply below_alloc | apply pw_below_drewN | apply below_drew1) | exact HB.out)⟩⟩
  case rest =>
    clear HC2
    try clear p2
    try clear c3
    try clear c3b0
    obtain ⟨kq, x4_1, rfl, HA, HJ1, HB⟩ := hcut
    cases kq with
    | zero => exact absurd HA.out (by simp [pennantref08_Digits.j0])
    | succ kj1 =>
      have H := HA.out
      clear HA
      simp only [pennantref08_Digits.j0] at H
      have H' := Aside0.mk H
      clear H
      go_wp2
      go_loopg [0, 3] kj1 (fun kq v0 v3 w' => ∃ (x0_2 : Int) (x3_2 : ByteArray), v0 = .int .i64 x0_2 ∧ v3 = .string x3_2 ∧ Aside0 (pennantref08_Digits.l0 kq x0_2 x3_2 x4_1 = some r) ∧ Aside0 (kq ≤ kj1) ∧ Aside0 (Below w.heap.size w w'))
      case atStart => exact ⟨(a0), ((⟨#[]⟩ : ByteArray)), (by first | rfl | (simp; done) | (simp [*]; done)), (by first | rfl | (simp; done) | (simp [*]; done)), H', ⟨Nat.le_refl _⟩, ⟨by repeat (first | (with_reducible first | exact HB.out | apply below_alloc | apply pw_below_drewN | apply below_drew1) | exact HB.out)⟩⟩
      case round =>
        clear H'
        try clear p2
        try clear c3
        try clear c3b0
        try clear p2
        obtain ⟨x0_2, x3_2, rfl, rfl, HA, HK2, HB⟩ := hrel
        cases gk with
        | zero => exact absurd HA.out (by simp [pennantref08_Digits.l0])
        | succ k2 =>
          have H := HA.out
          clear HA
          simp only [pennantref08_Digits.l0] at H
          by_cases c4 : (Int.tmod x0_2 10) < 0
          · rw [if_pos c4] at H
            have c4b0 : decide ((Int.tmod x0_2 10) < 0) = true := decide_eq_true c4
            clear c4
            obtain ⟨y109, hy109⟩ : ∃ y_ : List Int, y_ = (([(wrap64 (48 + (wrap64 (-(Int.tmod x0_2 10))))) % 256] : List Int)) := ⟨_, rfl⟩
            replace H : (if (strOfNums y109).size + x3_2.size ≤ 9223372036854775807 then (if (wrap64 (Int.tdiv x0_2 10)) = 0 then (if x4_1.size + (strOfNums y109).size + x3_2.size ≤ 9223372036854775807 then (some (x4_1 ++ ((strOfNums y109) ++ x3_2))) else (none)) else (pennantref08_Digits.l0 k2 (wrap64 (Int.tdiv x0_2 10)) ((strOfNums y109) ++ x3_2) x4_1)) else (none)) = some r := by first | (rw [hy109]; with_reducible exact H) | (have H2_ := (Option.bind_some _ _).symm.trans H; rw [hy109]; with_reducible exact H2_) | (have H2_ := (Option.bind_some _ _).symm.trans H; with_reducible exact H2_) | with_reducible exact H | (rw [hy109]; exact H) | exact H
            have Ny109 := Aside0.mk hy109
            clear hy109
            by_cases c5 : (strOfNums y109).size + x3_2.size ≤ 9223372036854775807
            · rw [if_pos c5] at H
              have c5b0 := eq_true c5
              have c5b1 : decide ((strOfNums y109).size + x3_2.size ≤ 9223372036854775807) = true := decide_eq_true c5
              try have c5b2 : (9223372036854775807 < (strOfNums y109).size + x3_2.size) = False := eq_false (Nat.not_lt.2 c5)
              by_cases c6 : (wrap64 (Int.tdiv x0_2 10)) = 0
              · rw [if_pos c6] at H
                have c6b0 : ((wrap64 (Int.tdiv x0_2 10)) == 0) = true := beq_iff_eq.mpr c6
                have c6b1 : ((wrap64 (Int.tdiv x0_2 10)) != 0) = false := bne_eq_false_iff_eq.mpr c6
                clear c6
                by_cases c7 : x4_1.size + (strOfNums y109).size + x3_2.size ≤ 9223372036854775807
                · rw [if_pos c7] at H
                  have c7b0 := eq_true c7
                  have c7b1 : decide (x4_1.size + (strOfNums y109).size + x3_2.size ≤ 9223372036854775807) = true := decide_eq_true c7
                  try have c7b2 : (9223372036854775807 < x4_1.size + (strOfNums y109).size + x3_2.size) = False := eq_false (Nat.not_lt.2 c7)
                  obtain rfl := Option.some.inj H
                  go_wp2_with (first | ((with_reducible refine gate_dst (N := 17) rfl ?_); refine Kd.R_lit (Kd.int .u8) _ 5 ?hg (N := 17) ?hd (xs := ([(wrap64 (48 + (wrap64 (-(Int.tmod x0_2 10))))) % 256] : List Int)) (inner := [.int .u8 ((wrap64 (48 + (wrap64 (-(Int.tmod x0_2 10))))) % 256)]) (ok := fun _ => True) (okp := fun _ => True) ?hr ?hp (fun _ hk => hk) trivial (Below.refl _ _) (Nat.le_refl _) (by simp) ?_; (case hd => rfl); (case hg => rfl); (case hr => first | (go_simp; done) | (go_simp; rfl) | (simp only [or128_and63]; go_simp; done) | (simp only [or128_and63]; go_simp; rfl)); (case hp => exact (Reps.one (show Kd.M (Kd.int .u8) _ _ _ ((wrap64 (48 + (wrap64 (-(Int.tmod x0_2 10))))) % 256) [.int .u8 ((wrap64 (48 + (wrap64 (-(Int.tmod x0_2 10))))) % 256)] from rfl) (Reps.none _ _))); intro v110 w8 ho9 hb hg_ hnew_; clear hg_ hnew_; (first | rw [← Ny109.out] at ho9 | (simp only [Int.reduceToNat] at ho9; rw [← Ny109.out] at ho9)); have n0_ := Aside0.mk (Kd.R_lower ho9 (below_size (by repeat (first | (with_reducible first | exact HB.out | apply below_alloc | apply pw_below_drewN | apply below_drew1) | exact HB.out)))); have n1_ := Aside0.mk (below_step (by repeat (first | (with_reducible first | exact HB.out | apply below_alloc | apply pw_below_drewN | apply below_drew1) | exact HB.out)) hb); clear HB; have HO111 := n0_; have HB := n1_; clear n0_ n1_; clear hb ho9; have hcv10 := own_string (P := Tryd.prog) Tryd.underlying97 Tryd.underlying5 Tryd.underlying9 (Kd.own_of_R HO111.out); have hcw11 := fun (nq : Nat) => own_string (P := Tryd.prog) Tryd.underlying97 Tryd.underlying5 Tryd.underlying9 (Kd.own_of_R (Kd.R_drewN HO111.out nq))))
                  go_ret
                  exact ⟨by first | rfl | (simp [errW_none, errW_some] <;> rfl) | (simp [*, errW_none, errW_some] <;> rfl), by repeat (first | (with_reducible first | exact HB.out | apply below_alloc | apply pw_below_drewN | apply below_drew1) | exact HB.out)⟩
                · rw [if_neg c7] at H
                  exact absurd H (by simp)
              · rw [if_neg c6] at H
                have c6b0 : ((wrap64 (Int.tdiv x0_2 10)) == 0) = false := beq_eq_false_iff_ne.mpr c6
                have c6b1 : ((wrap64 (Int.tdiv x0_2 10)) != 0) = true := bne_iff_ne.mpr c6
                have H' := Aside0.mk H
                clear H
                go_wp2_with (first | ((with_reducible refine gate_dst (N := 17) rfl ?_); refine Kd.R_lit (Kd.int .u8) _ 5 ?hg (N := 17) ?hd (xs := ([(wrap64 (48 + (wrap64 (-(Int.tmod x0_2 10))))) % 256] : List Int)) (inner := [.int .u8 ((wrap64 (48 + (wrap64 (-(Int.tmod x0_2 10))))) % 256)]) (ok := fun _ => True) (okp := fun _ => True) ?hr ?hp (fun _ hk => hk) trivial (Below.refl _ _) (Nat.le_refl _) (by simp) ?_; (case hd => rfl); (case hg => rfl); (case hr => first | (go_simp; done) | (go_simp; rfl) | (simp only [or128_and63]; go_simp; done) | (simp only [or128_and63]; go_simp; rfl)); (case hp => exact (Reps.one (show Kd.M (Kd.int .u8) _ _ _ ((wrap64 (48 + (wrap64 (-(Int.tmod x0_2 10))))) % 256) [.int .u8 ((wrap64 (48 + (wrap64 (-(Int.tmod x0_2 10))))) % 256)] from rfl) (Reps.none _ _))); intro v110 w12 ho13 hb hg_ hnew_; clear hg_ hnew_; (first | rw [← Ny109.out] at ho13 | (simp only [Int.reduceToNat] at ho13; rw [← Ny109.out] at ho13)); have n0_ := Aside0.mk (Kd.R_lower ho13 (below_size (by repeat (first | (with_reducible first | exact HB.out | apply below_alloc | apply pw_below_drewN | apply below_drew1) | exact HB.out)))); have n1_ := Aside0.mk (below_step (by repeat (first | (with_reducible first | exact HB.out | apply below_alloc | apply pw_below_drewN | apply below_drew1) | exact HB.out)) hb); clear HB; have HO111 := n0_; have HB := n1_; clear n0_ n1_; clear hb ho13; have hcv14 := own_string (P := Tryd.prog) Tryd.underlying97 Tryd.underlying5 Tryd.underlying9 (Kd.own_of_R HO111.out); have hcw15 := fun (nq : Nat) => own_string (P := Tryd.prog) Tryd.underlying97 Tryd.underlying5 Tryd.underlying9 (Kd.own_of_R (Kd.R_drewN HO111.out nq))))
                go_roundg k2
                case measure => have := HJ1.out; have := HK2.out; omega
                case rel => exact ⟨(wrap64 (Int.tdiv x0_2 10)), ((strOfNums y109) ++ x3_2), (by first | rfl | (simp; done) | (simp [*]; done)), (by first | rfl | (simp; done) | (simp [*]; done)), H', ⟨by have := HJ1.out; have := HK2.out; omega⟩, ⟨by repeat (first | (with_reducible first | exact HB.out | apply below_alloc | apply pw_below_drewN | apply below_drew1) | exact HB.out)⟩⟩
            · rw [if_neg c5] at H
              exact absurd H (by simp)
          · rw [if_neg c4] at H
            have c4b0 : decide ((Int.tmod x0_2 10) < 0) = false := decide_eq_false c4
            clear c4
            obtain ⟨y112, hy112⟩ : ∃ y_ : List Int, y_ = (([(wrap64 (48 + (Int.tmod x0_2 10))) % 256] : List Int)) := ⟨_, rfl⟩
            replace H : (if (strOfNums y112).size + x3_2.size ≤ 9223372036854775807 then (if (wrap64 (Int.tdiv x0_2 10)) = 0 then (if x4_1.size + (strOfNums y112).size + x3_2.size ≤ 9223372036854775807 then (some (x4_1 ++ ((strOfNums y112) ++ x3_2))) else (none)) else (pennantref08_Digits.l0 k2 (wrap64 (Int.tdiv x0_2 10)) ((strOfNums y112) ++ x3_2) x4_1)) else (none)) = some r := by first | (rw [hy112]; with_reducible exact H) | (have H2_ := (Option.bind_some _ _).symm.trans H; rw [hy112]; with_reducible exact H2_) | (have H2_ := (Option.bind_some _ _).symm.trans H; with_reducible exact H2_) | with_reducible exact H | (rw [hy112]; exact H) | exact H
            have Ny112 := Aside0.mk hy112
            clear hy112
            by_cases c16 : (strOfNums y112).size + x3_2.size ≤ 9223372036854775807
            · rw [if_pos c16] at H
              have c16b0 := eq_true c16
              have c16b1 : decide ((strOfNums y112).size + x3_2.size ≤ 9223372036854775807) = true := decide_eq_true c16
              try have c16b2 : (9223372036854775807 < (strOfNums y112).size + x3_2.size) = False := eq_false (Nat.not_lt.2 c16)
              by_cases c17 : (wrap64 (Int.tdiv x0_2 10)) = 0
              · rw [if_pos c17] at H
                have c17b0 : ((wrap64 (Int.tdiv x0_2 10)) == 0) = true := beq_iff_eq.mpr c17
                have c17b1 : ((wrap64 (Int.tdiv x0_2 10)) != 0) = false := bne_eq_false_iff_eq.mpr c17
                clear c17
                by_cases c18 : x4_1.size + (strOfNums y112).size + x3_2.size ≤ 9223372036854775807
                · rw [if_pos c18] at H
                  have c18b0 := eq_true c18
                  have c18b1 : decide (x4_1.size + (strOfNums y112).size + x3_2.size ≤ 9223372036854775807) = true := decide_eq_true c18
                  try have c18b2 : (9223372036854775807 < x4_1.size + (strOfNums y112).size + x3_2.size) = False := eq_false (Nat.not_lt.2 c18)
                  obtain rfl := Option.some.inj H
                  go_wp2_with (first | ((with_reducible refine gate_dst (N := 17) rfl ?_); refine Kd.R_lit (Kd.int .u8) _ 5 ?hg (N := 17) ?hd (xs := ([(wrap64 (48 + (Int.tmod x0_2 10))) % 256] : List Int)) (inner := [.int .u8 ((wrap64 (48 + (Int.tmod x0_2 10))) % 256)]) (ok := fun _ => True) (okp := fun _ => True) ?hr ?hp (fun _ hk => hk) trivial (Below.refl _ _) (Nat.le_refl _) (by simp) ?_; (case hd => rfl); (case hg => rfl); (case hr => first | (go_simp; done) | (go_simp; rfl) | (simp only [or128_and63]; go_simp; done) | (simp only [or128_and63]; go_simp; rfl)); (case hp => exact (Reps.one (show Kd.M (Kd.int .u8) _ _ _ ((wrap64 (48 + (Int.tmod x0_2 10))) % 256) [.int .u8 ((wrap64 (48 + (Int.tmod x0_2 10))) % 256)] from rfl) (Reps.none _ _))); intro v113 w19 ho20 hb hg_ hnew_; clear hg_ hnew_; (first | rw [← Ny112.out] at ho20 | (simp only [Int.reduceToNat] at ho20; rw [← Ny112.out] at ho20)); have n0_ := Aside0.mk (Kd.R_lower ho20 (below_size (by repeat (first | (with_reducible first | exact HB.out | apply below_alloc | apply pw_below_drewN | apply below_drew1) | exact HB.out)))); have n1_ := Aside0.mk (below_step (by repeat (first | (with_reducible first | exact HB.out | apply below_alloc | apply pw_below_drewN | apply below_drew1) | exact HB.out)) hb); clear HB; have HO114 := n0_; have HB := n1_; clear n0_ n1_; clear hb ho20; have hcv21 := own_string (P := Tryd.prog) Tryd.underlying97 Tryd.underlying5 Tryd.underlying9 (Kd.own_of_R HO114.out); have hcw22 := fun (nq : Nat) => own_string (P := Tryd.prog) Tryd.underlying97 Tryd.underlying5 Tryd.underlying9 (Kd.own_of_R (Kd.R_drewN HO114.out nq))))
                  go_ret
                  exact ⟨by first | rfl | (simp [errW_none, errW_some] <;> rfl) | (simp [*, errW_none, errW_some] <;> rfl), by repeat (first | (with_reducible first | exact HB.out | apply below_alloc | apply pw_below_drewN | apply below_drew1) | exact HB.out)⟩
                · rw [if_neg c18] at H
                  exact absurd H (by simp)
              · rw [if_neg c17] at H
                have c17b0 : ((wrap64 (Int.tdiv x0_2 10)) == 0) = false := beq_eq_false_iff_ne.mpr c17
                have c17b1 : ((wrap64 (Int.tdiv x0_2 10)) != 0) = true := bne_iff_ne.mpr c17
                have H' := Aside0.mk H
                clear H
                go_wp2_with (first | ((with_reducible refine gate_dst (N := 17) rfl ?_); refine Kd.R_lit (Kd.int .u8) _ 5 ?hg (N := 17) ?hd (xs := ([(wrap64 (48 + (Int.tmod x0_2 10))) % 256] : List Int)) (inner := [.int .u8 ((wrap64 (48 + (Int.tmod x0_2 10))) % 256)]) (ok := fun _ => True) (okp := fun _ => True) ?hr ?hp (fun _ hk => hk) trivial (Below.refl _ _) (Nat.le_refl _) (by simp) ?_; (case hd => rfl); (case hg => rfl); (case hr => first | (go_simp; done) | (go_simp; rfl) | (simp only [or128_and63]; go_simp; done) | (simp only [or128_and63]; go_simp; rfl)); (case hp => exact (Reps.one (show Kd.M (Kd.int .u8) _ _ _ ((wrap64 (48 + (Int.tmod x0_2 10))) % 256) [.int .u8 ((wrap64 (48 + (Int.tmod x0_2 10))) % 256)] from rfl) (Reps.none _ _))); intro v113 w23 ho24 hb hg_ hnew_; clear hg_ hnew_; (first | rw [← Ny112.out] at ho24 | (simp only [Int.reduceToNat] at ho24; rw [← Ny112.out] at ho24)); have n0_ := Aside0.mk (Kd.R_lower ho24 (below_size (by repeat (first | (with_reducible first | exact HB.out | apply below_alloc | apply pw_below_drewN | apply below_drew1) | exact HB.out)))); have n1_ := Aside0.mk (below_step (by repeat (first | (with_reducible first | exact HB.out | apply below_alloc | apply pw_below_drewN | apply below_drew1) | exact HB.out)) hb); clear HB; have HO114 := n0_; have HB := n1_; clear n0_ n1_; clear hb ho24; have hcv25 := own_string (P := Tryd.prog) Tryd.underlying97 Tryd.underlying5 Tryd.underlying9 (Kd.own_of_R HO114.out); have hcw26 := fun (nq : Nat) => own_string (P := Tryd.prog) Tryd.underlying97 Tryd.underlying5 Tryd.underlying9 (Kd.own_of_R (Kd.R_drewN HO114.out nq))))
                go_roundg k2
                case measure => have := HJ1.out; have := HK2.out; omega
                case rel => exact ⟨(wrap64 (Int.tdiv x0_2 10)), ((strOfNums y112) ++ x3_2), (by first | rfl | (simp; done) | (simp [*]; done)), (by first | rfl | (simp; done) | (simp [*]; done)), H', ⟨by have := HJ1.out; have := HK2.out; omega⟩, ⟨by repeat (first | (with_reducible first | exact HB.out | apply below_alloc | apply pw_below_drewN | apply below_drew1) | exact HB.out)⟩⟩
            · rw [if_neg c16] at H
              exact absurd H (by simp)

/-! ### pennantref08_Key: function 12 -/
def pennantref08_Key.f (k : Nat) (a0 : Int) : Option (ByteArray) := (pennantref08_Digits.f k a0).bind fun t115 => ((pennantref01_Of.f k t115).bind fun t116 => (some t116))
theorem pennantref08_Key.mono : ∀ a0 k, LeO (pennantref08_Key.f k a0) (pennantref08_Key.f (k + 1) a0) := by
  intro a0 k
  unfold pennantref08_Key.f
  repeat' first
      | (with_reducible exact pennantref01_Of.mono _ _)
      | (with_reducible exact pennantref08_Digits.mono _ _)
      | (with_reducible exact LeO.refl _)
      | (with_reducible exact LeO.none _)
      | (with_reducible refine LeO.ite ?_ ?_)
      | (with_reducible refine LeO.bind ?_ (fun _ => ?_))
      | exact pennantref01_Of.mono _ _
      | exact pennantref08_Digits.mono _ _
      | exact LeO.none _
      | refine LeO.ite ?_ ?_
      | refine LeO.bind ?_ (fun _ => ?_)
set_option maxHeartbeats 8000000 in
set_option maxRecDepth 100000 in
theorem pennantref08_Key.calls (k : Nat) (a0 : Int) (r : ByteArray) (w : World) (h : pennantref08_Key.f k a0 = some r) :
    Calls Tryd.prog 12 #[.int .i64 a0] w fun e w' => e = .returned (.string r) ∧ Below w.heap.size w w' := by
  have HB := Aside0.mk (Below.refl w.heap.size w)
  have H : ((pennantref08_Digits.f k a0).bind fun t115 => ((pennantref01_Of.f k t115).bind fun t116 => (some t116))) = some r := h
  clear h
  replace H := Option.bind_eq_some_iff.mp H
  obtain ⟨t115, A20, H⟩ := H
  replace H : ((pennantref01_Of.f k t115).bind fun t116 => (some t116)) = some r := H
  have A2 := Aside0.mk A20
  clear A20
  replace H := Option.bind_eq_some_iff.mp H
  obtain ⟨t116, A30, H⟩ := H
  replace H : (some t116) = some r := H
  have A3 := Aside0.mk A30
  clear A30
  obtain rfl := Option.some.inj H
  go_enter Tryd.func12, Tryd.ntmps12
  go_wp2_with (first | ((with_reducible refine gate_callee (f := 36) rfl ?_); refine goesL_ (some 4) rfl rfl Tryd.func36 (by kernel_rfl) rfl #[.int .i64 a0] rfl (by (try simp only [List.map_toArray, List.map_cons, List.map_nil]); first | done | rfl | (simp only [List.length_drop, List.length_take]; rfl)) ?_; (with_reducible refine (pennantref08_Digits.calls k a0 t115 _ A2.out).mono ?_); rintro e w4 ⟨rfl, hb⟩; refine ⟨_, rfl, ?_⟩; have n0_ := Aside0.mk (below_step (by repeat (first | (with_reducible first | exact HB.out | apply below_alloc | apply pw_below_drewN | apply below_drew1) | exact HB.out)) hb); clear HB; have HB := n0_; clear n0_; (try clear hb); (try clear hb2); (try clear hk); (try clear hi)) | ((with_reducible refine gate_callee (f := 19) rfl ?_); refine goesL_ (some 5) rfl rfl Tryd.func19 (by kernel_rfl) rfl #[.string t115] rfl (by (try simp only [List.map_toArray, List.map_cons, List.map_nil]); first | done | rfl | (simp only [List.length_drop, List.length_take]; rfl)) ?_; (with_reducible refine (pennantref01_Of.calls k t115 t116 _ A3.out).mono ?_); rintro e w5 ⟨rfl, hb⟩; refine ⟨_, rfl, ?_⟩; have n0_ := Aside0.mk (below_step (by repeat (first | (with_reducible first | exact HB.out | apply below_alloc | apply pw_below_drewN | apply below_drew1) | exact HB.out)) hb); clear HB; have HB := n0_; clear n0_; (try clear hb); (try clear hb2); (try clear hk); (try clear hi)))
  go_ret
  exact ⟨by first | rfl | (simp [errW_none, errW_some] <;> rfl) | (simp [*, errW_none, errW_some] <;> rfl), by repeat (first | (with_reducible first | exact HB.out | apply below_alloc | apply pw_below_drewN | apply below_drew1) | exact HB.out)⟩

/-! ### pennantref01_At: function 33 -/
def pennantref01_At.f (a0 : ByteArray) (a1 : Int) : Option (Int) := if a1 < 0 then (some (-1)) else (if a1 > (wrap64 ((wrap64 ((a0.size : Int) / 2)) - 1)) then (some (-1)) else (if 0 ≤ (wrap64 (2 * a1)) then (if (wrap64 (2 * a1)) < (a0.size : Int) then (if 0 ≤ (wrap64 ((wrap64 (2 * a1)) + 1)) then (if (wrap64 ((wrap64 (2 * a1)) + 1)) < (a0.size : Int) then (some (wrap64 ((wrap64 ((wrap64 (bt a0 (wrap64 (2 * a1)))) * 256)) + (wrap64 (bt a0 (wrap64 ((wrap64 (2 * a1)) + 1))))))) else (none)) else (none)) else (none)) else (none)))
set_option maxHeartbeats 8000000 in
set_option maxRecDepth 100000 in
theorem pennantref01_At.calls (a0 : ByteArray) (a1 : Int) (r : Int) (w : World) (h : pennantref01_At.f a0 a1 = some r) :
    Calls Tryd.prog 33 #[.string a0, .int .i64 a1] w fun e w' => e = .returned (.int .i64 r) ∧ Drawn0 w w' := by
  have H : (if a1 < 0 then (some (-1)) else (if a1 > (wrap64 ((wrap64 ((a0.size : Int) / 2)) - 1)) then (some (-1)) else (if 0 ≤ (wrap64 (2 * a1)) then (if (wrap64 (2 * a1)) < (a0.size : Int) then (if 0 ≤ (wrap64 ((wrap64 (2 * a1)) + 1)) then (if (wrap64 ((wrap64 (2 * a1)) + 1)) < (a0.size : Int) then (some (wrap64 ((wrap64 ((wrap64 (bt a0 (wrap64 (2 * a1)))) * 256)) + (wrap64 (bt a0 (wrap64 ((wrap64 (2 * a1)) + 1))))))) else (none)) else (none)) else (none)) else (none)))) = some r := h
  clear h
  by_cases c3 : a1 < 0
  · rw [if_pos c3] at H
    have c3b0 : decide (a1 < 0) = true := decide_eq_true c3
    clear c3
    obtain rfl := Option.some.inj H
    go_enter Tryd.func33, Tryd.ntmps33
    go_wp2
    repeat (go_quiet (fail); try go_wp2)
    go_ret
    exact ⟨by first | rfl | (simp; done) | (simp [*]; done), by repeat (first | exact Drawn0.refl _ | apply Drawn0.step)⟩
  · rw [if_neg c3] at H
    have c3b0 : decide (a1 < 0) = false := decide_eq_false c3
    clear c3
    by_cases c4 : a1 > (wrap64 ((wrap64 ((a0.size : Int) / 2)) - 1))
    · rw [if_pos c4] at H
      have c4b0 : decide ((wrap64 ((wrap64 ((a0.size : Int) / 2)) - 1)) < a1) = true := decide_eq_true c4
      clear c4
      obtain rfl := Option.some.inj H
      go_enter Tryd.func33, Tryd.ntmps33
      go_wp2
      repeat (go_quiet (fail); try go_wp2)
      go_ret
      exact ⟨by first | rfl | (simp; done) | (simp [*]; done), by repeat (first | exact Drawn0.refl _ | apply Drawn0.step)⟩
    · rw [if_neg c4] at H
      have c4b0 : decide ((wrap64 ((wrap64 ((a0.size : Int) / 2)) - 1)) < a1) = false := decide_eq_false c4
      clear c4
      obtain ⟨ji5, hji5⟩ : ∃ j_ : Int, (wrap64 (2 * a1)) = j_ := ⟨_, rfl⟩
      replace H : (if 0 ≤ (ji5) then (if (ji5) < (a0.size : Int) then (if 0 ≤ (wrap64 ((ji5) + 1)) then (if (wrap64 ((ji5) + 1)) < (a0.size : Int) then (some (wrap64 ((wrap64 ((wrap64 (bt a0 (ji5))) * 256)) + (wrap64 (bt a0 (wrap64 ((ji5) + 1))))))) else (none)) else (none)) else (none)) else (none)) = some r := by first | (rw [hji5] at H; exact H) | (simp only [hji5] at H ⊢; exact H)
      have hji5w : (IntKind.i64.wrap (2 * a1)) = ji5 := (i64_w _).trans hji5
      by_cases c6 : 0 ≤ (ji5)
      · rw [if_pos c6] at H
        have c6b0 : decide (0 ≤ (ji5)) = true := decide_eq_true c6
        clear c6
        by_cases c7 : (ji5) < (a0.size : Int)
        · rw [if_pos c7] at H
          have c7b0 : decide ((ji5) < (a0.size : Int)) = true := decide_eq_true c7
          clear c7
          obtain ⟨ji9, hji9⟩ : ∃ j_ : Int, (wrap64 ((ji5) + 1)) = j_ := ⟨_, rfl⟩
          replace H : (if 0 ≤ (ji9) then (if (ji9) < (a0.size : Int) then (some (wrap64 ((wrap64 ((wrap64 (bt a0 (ji5))) * 256)) + (wrap64 (bt a0 (ji9)))))) else (none)) else (none)) = some r := by first | (rw [hji9] at H; exact H) | (simp only [hji9] at H ⊢; exact H)
          have hji9w : (IntKind.i64.wrap ((ji5) + 1)) = ji9 := (i64_w _).trans hji9
          by_cases c10 : 0 ≤ (ji9)
          · rw [if_pos c10] at H
            have c10b0 : decide (0 ≤ (ji9)) = true := decide_eq_true c10
            clear c10
            by_cases c11 : (ji9) < (a0.size : Int)
            · rw [if_pos c11] at H
              have c11b0 : decide ((ji9) < (a0.size : Int)) = true := decide_eq_true c11
              clear c11
              obtain rfl := Option.some.inj H
              have p8 : 0 ≤ ((ji5) : Int) := of_decide_eq_true (by first | (with_reducible assumption) | assumption)
              have q8 : (ji5) < (a0.size : Int) := of_decide_eq_true (by first | (with_reducible assumption) | assumption)
              have hx8 := bt_at a0 (ji5)
              replace p8 := eq_true p8
              replace q8 := eq_true q8
              have p12 : 0 ≤ ((ji9) : Int) := of_decide_eq_true (by first | (with_reducible assumption) | assumption)
              have q12 : (ji9) < (a0.size : Int) := of_decide_eq_true (by first | (with_reducible assumption) | assumption)
              have hx12 := bt_at a0 (ji9)
              replace p12 := eq_true p12
              replace q12 := eq_true q12
              go_enter Tryd.func33, Tryd.ntmps33
              go_wp2
              repeat (go_quiet (fail); try go_wp2)
              go_ret
              exact ⟨by first | rfl | (simp; done) | (simp only [← hji5, ← hji9] <;> (first | rfl | simp)) | (simp [*]; done), by repeat (first | exact Drawn0.refl _ | apply Drawn0.step)⟩
            · rw [if_neg c11] at H
              exact absurd H (by simp)
          · rw [if_neg c10] at H
            exact absurd H (by simp)
        · rw [if_neg c7] at H
          exact absurd H (by simp)
      · rw [if_neg c6] at H
        exact absurd H (by simp)

end Go.Proofs.YtnfobcedbfbbiaaDoor.PIx
