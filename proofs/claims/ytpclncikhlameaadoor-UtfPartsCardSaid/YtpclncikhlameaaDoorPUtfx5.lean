-- Written by a program of this session (a turned copy of the print): the machine's side.
import Derived.Test.YtpclncikhlameaaDoorPUtfx0
import Derived.Test.YtpclncikhlameaaDoorPUtfx1
namespace Go.Proofs.YtpclncikhlameaaDoor.PUtf
open Go.RowKit Go.Proofs.YtpclncikhlameaaDoorW.PrintWords Go.Proofs.YtpclncikhlameaaDoorW.PrintLast Go.Proofs.YtpclncikhlameaaDoorW.PrintMore Go.Proofs.YtpclncikhlameaaDoor.Hand
attribute [local go_sem] max2_int min2_int max_two min_two max_three min_three max_four min_four   -- for this text's walks alone
set_option linter.unusedVariables false
set_option linter.unusedSimpArgs false

/-! ### utf_Cut: function 20 -/
def utf_Cut.f (a0 : ByteArray) (a1 : Int) (a2 : Int) : Option (ByteArray) := (utf_Length.f a0).bind fun t238 => ((utf_Length.f a0).bind fun t239 => (if (mn (mx a1 0) t238) ≥ (mn (mx a2 0) t239) then (some (⟨#[]⟩ : ByteArray)) else (if 0 ≤ (wrap64 (2 * (mn (mx a1 0) t238))) then (if (wrap64 (2 * (mn (mx a1 0) t238))) ≤ (wrap64 (2 * (mn (mx a2 0) t239))) then (if (wrap64 (2 * (mn (mx a2 0) t239))) ≤ (a0.size : Int) then (some (a0.extract ((wrap64 (2 * (mn (mx a1 0) t238))) : Int).toNat ((wrap64 (2 * (mn (mx a2 0) t239))) : Int).toNat)) else (none)) else (none)) else (none))))
set_option maxHeartbeats 8000000 in
set_option maxRecDepth 100000 in
theorem utf_Cut.calls (a0 : ByteArray) (a1 : Int) (a2 : Int) (r : ByteArray) (w : World) (h : utf_Cut.f a0 a1 a2 = some r) :
    Calls Tryd.prog 20 #[.string a0, .int .i64 a1, .int .i64 a2] w fun e w' => e = .returned (.string r) ∧ Below w.heap.size w w' := by
  have HB := Aside0.mk (Below.refl w.heap.size w)
  have H : ((utf_Length.f a0).bind fun t238 => ((utf_Length.f a0).bind fun t239 => (if (mn (mx a1 0) t238) ≥ (mn (mx a2 0) t239) then (some (⟨#[]⟩ : ByteArray)) else (if 0 ≤ (wrap64 (2 * (mn (mx a1 0) t238))) then (if (wrap64 (2 * (mn (mx a1 0) t238))) ≤ (wrap64 (2 * (mn (mx a2 0) t239))) then (if (wrap64 (2 * (mn (mx a2 0) t239))) ≤ (a0.size : Int) then (some (a0.extract ((wrap64 (2 * (mn (mx a1 0) t238))) : Int).toNat ((wrap64 (2 * (mn (mx a2 0) t239))) : Int).toNat)) else (none)) else (none)) else (none))))) = some r := h
  clear h
  obtain ⟨ji4, hji4⟩ : ∃ j_ : Int, (mx a1 0) = j_ := ⟨_, rfl⟩
  replace H : ((utf_Length.f a0).bind fun t238 => ((utf_Length.f a0).bind fun t239 => (if (mn (ji4) t238) ≥ (mn (mx a2 0) t239) then (some (⟨#[]⟩ : ByteArray)) else (if 0 ≤ (wrap64 (2 * (mn (ji4) t238))) then (if (wrap64 (2 * (mn (ji4) t238))) ≤ (wrap64 (2 * (mn (mx a2 0) t239))) then (if (wrap64 (2 * (mn (mx a2 0) t239))) ≤ (a0.size : Int) then (some (a0.extract ((wrap64 (2 * (mn (ji4) t238))) : Int).toNat ((wrap64 (2 * (mn (mx a2 0) t239))) : Int).toNat)) else (none)) else (none)) else (none))))) = some r := by first | (rw [hji4] at H; exact H) | (simp only [hji4] at H ⊢; exact H)
  (try (have hji4l : 0 ≤ ji4 := by (rw [← hji4]; unfold mx; (repeat' split) <;> omega)))
  (try (have hji4m : 0 ≤ ji4 := by omega))
  have hji4_ : (if a1 < 0 then 0 else a1) = ji4 := hji4
  replace H := Option.bind_eq_some_iff.mp H
  obtain ⟨t238, A50, H⟩ := H
  replace H : ((utf_Length.f a0).bind fun t239 => (if (mn (ji4) t238) ≥ (mn (mx a2 0) t239) then (some (⟨#[]⟩ : ByteArray)) else (if 0 ≤ (wrap64 (2 * (mn (ji4) t238))) then (if (wrap64 (2 * (mn (ji4) t238))) ≤ (wrap64 (2 * (mn (mx a2 0) t239))) then (if (wrap64 (2 * (mn (mx a2 0) t239))) ≤ (a0.size : Int) then (some (a0.extract ((wrap64 (2 * (mn (ji4) t238))) : Int).toNat ((wrap64 (2 * (mn (mx a2 0) t239))) : Int).toNat)) else (none)) else (none)) else (none)))) = some r := H
  have A5 := Aside0.mk A50
  clear A50
  obtain ⟨ji6, hji6⟩ : ∃ j_ : Int, (mn (ji4) t238) = j_ := ⟨_, rfl⟩
  replace H : ((utf_Length.f a0).bind fun t239 => (if (ji6) ≥ (mn (mx a2 0) t239) then (some (⟨#[]⟩ : ByteArray)) else (if 0 ≤ (wrap64 (2 * (ji6))) then (if (wrap64 (2 * (ji6))) ≤ (wrap64 (2 * (mn (mx a2 0) t239))) then (if (wrap64 (2 * (mn (mx a2 0) t239))) ≤ (a0.size : Int) then (some (a0.extract ((wrap64 (2 * (ji6))) : Int).toNat ((wrap64 (2 * (mn (mx a2 0) t239))) : Int).toNat)) else (none)) else (none)) else (none)))) = some r := by first | (rw [hji6] at H; exact H) | (simp only [hji6] at H ⊢; exact H)
  (try rw [hji6] at A5)
  have hji6_ : (if t238 < (ji4) then t238 else (ji4)) = ji6 := hji6
  obtain ⟨ji7, hji7⟩ : ∃ j_ : Int, (mx a2 0) = j_ := ⟨_, rfl⟩
  replace H : ((utf_Length.f a0).bind fun t239 => (if (ji6) ≥ (mn (ji7) t239) then (some (⟨#[]⟩ : ByteArray)) else (if 0 ≤ (wrap64 (2 * (ji6))) then (if (wrap64 (2 * (ji6))) ≤ (wrap64 (2 * (mn (ji7) t239))) then (if (wrap64 (2 * (mn (ji7) t239))) ≤ (a0.size : Int) then (some (a0.extract ((wrap64 (2 * (ji6))) : Int).toNat ((wrap64 (2 * (mn (ji7) t239))) : Int).toNat)) else (none)) else (none)) else (none)))) = some r := by first | (rw [hji7] at H; exact H) | (simp only [hji7] at H ⊢; exact H)
  (try rw [hji7] at A5)
  (try (have hji7l : 0 ≤ ji7 := by (rw [← hji7]; unfold mx; (repeat' split) <;> omega)))
  (try (have hji7m : 0 ≤ ji7 := by omega))
  have hji7_ : (if a2 < 0 then 0 else a2) = ji7 := hji7
  replace H := Option.bind_eq_some_iff.mp H
  obtain ⟨t239, A80, H⟩ := H
  replace H : (if (ji6) ≥ (mn (ji7) t239) then (some (⟨#[]⟩ : ByteArray)) else (if 0 ≤ (wrap64 (2 * (ji6))) then (if (wrap64 (2 * (ji6))) ≤ (wrap64 (2 * (mn (ji7) t239))) then (if (wrap64 (2 * (mn (ji7) t239))) ≤ (a0.size : Int) then (some (a0.extract ((wrap64 (2 * (ji6))) : Int).toNat ((wrap64 (2 * (mn (ji7) t239))) : Int).toNat)) else (none)) else (none)) else (none))) = some r := H
  have A8 := Aside0.mk A80
  clear A80
  obtain ⟨ji9, hji9⟩ : ∃ j_ : Int, (mn (ji7) t239) = j_ := ⟨_, rfl⟩
  replace H : (if (ji6) ≥ (ji9) then (some (⟨#[]⟩ : ByteArray)) else (if 0 ≤ (wrap64 (2 * (ji6))) then (if (wrap64 (2 * (ji6))) ≤ (wrap64 (2 * (ji9))) then (if (wrap64 (2 * (ji9))) ≤ (a0.size : Int) then (some (a0.extract ((wrap64 (2 * (ji6))) : Int).toNat ((wrap64 (2 * (ji9))) : Int).toNat)) else (none)) else (none)) else (none))) = some r := by first | (rw [hji9] at H; exact H) | (simp only [hji9] at H ⊢; exact H)
  (try rw [hji9] at A5)
  (try rw [hji9] at A8)
  have hji9_ : (if t239 < (ji7) then t239 else (ji7)) = ji9 := hji9
  by_cases c10 : (ji6) ≥ (ji9)
  · rw [if_pos c10] at H
    have c10b0 : decide ((ji9) ≤ (ji6)) = true := decide_eq_true c10
    clear c10
    obtain rfl := Option.some.inj H
    go_enter Tryd.func20, Tryd.ntmps20
    go_wp2_with (first | ((with_reducible refine gate_callee (f := 18) rfl ?_); refine goesL_ (some 10) rfl rfl Tryd.func18 (by kernel_rfl) rfl #[.string a0] rfl (by (try simp only [List.map_toArray, List.map_cons, List.map_nil]); first | done | rfl | (simp only [List.length_drop, List.length_take]; rfl)) ?_; (with_reducible refine (utf_Length.calls a0 t238 _ A5.out).mono ?_); rintro e w' ⟨rfl, ⟨nd, rfl⟩⟩; refine ⟨_, rfl, ?_⟩) | ((with_reducible refine gate_callee (f := 18) rfl ?_); refine goesL_ (some 15) rfl rfl Tryd.func18 (by kernel_rfl) rfl #[.string a0] rfl (by (try simp only [List.map_toArray, List.map_cons, List.map_nil]); first | done | rfl | (simp only [List.length_drop, List.length_take]; rfl)) ?_; (with_reducible refine (utf_Length.calls a0 t239 _ A8.out).mono ?_); rintro e w' ⟨rfl, ⟨nd, rfl⟩⟩; refine ⟨_, rfl, ?_⟩))
    go_ret
    exact ⟨by first | rfl | (simp [errW_none, errW_some] <;> rfl) | (simp only [← hji4, ← hji6, ← hji7, ← hji9]; first | rfl | (simp [errW_none, errW_some] <;> rfl)) | (simp [*, errW_none, errW_some] <;> rfl), by repeat (first | (with_reducible first | exact HB.out | apply below_alloc | apply pw_below_drewN | apply below_drew1) | exact HB.out)⟩
  · rw [if_neg c10] at H
    have c10b0 : decide ((ji9) ≤ (ji6)) = false := decide_eq_false c10
    clear c10
    obtain ⟨ji11, hji11⟩ : ∃ j_ : Int, (wrap64 (2 * (ji6))) = j_ := ⟨_, rfl⟩
    replace H : (if 0 ≤ (ji11) then (if (ji11) ≤ (wrap64 (2 * (ji9))) then (if (wrap64 (2 * (ji9))) ≤ (a0.size : Int) then (some (a0.extract ((ji11) : Int).toNat ((wrap64 (2 * (ji9))) : Int).toNat)) else (none)) else (none)) else (none)) = some r := by first | (rw [hji11] at H; exact H) | (simp only [hji11] at H ⊢; exact H)
    (try rw [hji11] at A5)
    (try rw [hji11] at A8)
    have hji11w : (IntKind.i64.wrap (2 * (ji6))) = ji11 := (i64_w _).trans hji11
    by_cases c12 : 0 ≤ (ji11)
    · rw [if_pos c12] at H
      have c12b0 := eq_true c12
      have c12b1 : decide (0 ≤ (ji11)) = true := decide_eq_true c12
      clear c12
      by_cases c13 : (ji11) ≤ (wrap64 (2 * (ji9)))
      · rw [if_pos c13] at H
        have c13b0 := eq_true c13
        have c13b1 : decide ((ji11) ≤ (wrap64 (2 * (ji9)))) = true := decide_eq_true c13
        clear c13
        by_cases c14 : (wrap64 (2 * (ji9))) ≤ (a0.size : Int)
        · rw [if_pos c14] at H
          have c14b0 := eq_true c14
          have c14b1 : decide ((wrap64 (2 * (ji9))) ≤ (a0.size : Int)) = true := decide_eq_true c14
          clear c14
          obtain rfl := Option.some.inj H
          go_enter Tryd.func20, Tryd.ntmps20
          go_wp2_with (first | ((with_reducible refine gate_callee (f := 18) rfl ?_); refine goesL_ (some 10) rfl rfl Tryd.func18 (by kernel_rfl) rfl #[.string a0] rfl (by (try simp only [List.map_toArray, List.map_cons, List.map_nil]); first | done | rfl | (simp only [List.length_drop, List.length_take]; rfl)) ?_; (with_reducible refine (utf_Length.calls a0 t238 _ A5.out).mono ?_); rintro e w' ⟨rfl, ⟨nd, rfl⟩⟩; refine ⟨_, rfl, ?_⟩) | ((with_reducible refine gate_callee (f := 18) rfl ?_); refine goesL_ (some 15) rfl rfl Tryd.func18 (by kernel_rfl) rfl #[.string a0] rfl (by (try simp only [List.map_toArray, List.map_cons, List.map_nil]); first | done | rfl | (simp only [List.length_drop, List.length_take]; rfl)) ?_; (with_reducible refine (utf_Length.calls a0 t239 _ A8.out).mono ?_); rintro e w' ⟨rfl, ⟨nd, rfl⟩⟩; refine ⟨_, rfl, ?_⟩))
          go_ret
          exact ⟨by first | rfl | (simp [errW_none, errW_some] <;> rfl) | (simp only [← hji4, ← hji6, ← hji7, ← hji9, ← hji11]; first | rfl | (simp [errW_none, errW_some] <;> rfl)) | (simp [*, errW_none, errW_some] <;> rfl), by repeat (first | (with_reducible first | exact HB.out | apply below_alloc | apply pw_below_drewN | apply below_drew1) | exact HB.out)⟩
        · rw [if_neg c14] at H
          exact absurd H (by simp)
      · rw [if_neg c13] at H
        exact absurd H (by simp)
    · rw [if_neg c12] at H
      exact absurd H (by simp)

/-! ### stringslite_HasPrefix: function 38 -/
def stringslite_HasPrefix.f (a0 : ByteArray) (a1 : ByteArray) : Option (Bool) := if (a0.size : Int) ≥ (a1.size : Int) then (if 0 ≤ (a1.size : Int) then (if (a1.size : Int) ≤ (a0.size : Int) then (some ((a0.extract 0 ((a1.size : Int) : Int).toNat).toList == a1.toList)) else (none)) else (none)) else (some false)
set_option maxHeartbeats 8000000 in
set_option maxRecDepth 100000 in
theorem stringslite_HasPrefix.calls (a0 : ByteArray) (a1 : ByteArray) (r : Bool) (w : World) (h : stringslite_HasPrefix.f a0 a1 = some r) :
    Calls Tryd.prog 38 #[.string a0, .string a1] w fun e w' => e = .returned (.bool r) ∧ Drawn0 w w' := by
  have H : (if (a0.size : Int) ≥ (a1.size : Int) then (if 0 ≤ (a1.size : Int) then (if (a1.size : Int) ≤ (a0.size : Int) then (some ((a0.extract 0 ((a1.size : Int) : Int).toNat).toList == a1.toList)) else (none)) else (none)) else (some false)) = some r := h
  clear h
  by_cases c3 : (a0.size : Int) ≥ (a1.size : Int)
  · rw [if_pos c3] at H
    have c3b0 : decide ((a1.size : Int) ≤ (a0.size : Int)) = true := decide_eq_true c3
    have c3b1 : decide (a1.size ≤ a0.size) = true := decide_eq_true (Int.ofNat_le.mp c3)
    clear c3
    by_cases c4 : 0 ≤ (a1.size : Int)
    · rw [if_pos c4] at H
      have c4b0 := eq_true c4
      have c4b1 : decide (0 ≤ (a1.size : Int)) = true := decide_eq_true c4
      clear c4
      by_cases c5 : (a1.size : Int) ≤ (a0.size : Int)
      · rw [if_pos c5] at H
        have c5b0 := eq_true c5
        have c5b1 : decide ((a1.size : Int) ≤ (a0.size : Int)) = true := decide_eq_true c5
        clear c5
        obtain rfl := Option.some.inj H
        go_enter Tryd.func38, Tryd.ntmps38
        go_wp2
        go_ret
        exact ⟨by first | rfl | (simp; done) | (simp [*]; done), by repeat (first | exact Drawn0.refl _ | apply Drawn0.step)⟩
      · rw [if_neg c5] at H
        exact absurd H (by simp)
    · rw [if_neg c4] at H
      exact absurd H (by simp)
  · rw [if_neg c3] at H
    have c3b0 : decide ((a1.size : Int) ≤ (a0.size : Int)) = false := decide_eq_false c3
    have c3b1 : decide (a1.size ≤ a0.size) = false := decide_eq_false (fun h => c3 (Int.ofNat_le.mpr h))
    clear c3
    obtain rfl := Option.some.inj H
    go_enter Tryd.func38, Tryd.ntmps38
    go_wp2
    go_ret
    exact ⟨by first | rfl | (simp; done) | (simp [*]; done), by repeat (first | exact Drawn0.refl _ | apply Drawn0.step)⟩

/-! ### strings_HasPrefix: function 34 -/
def strings_HasPrefix.f (a0 : ByteArray) (a1 : ByteArray) : Option (Bool) := (stringslite_HasPrefix.f a0 a1).bind fun t240 => (some t240)
set_option maxHeartbeats 8000000 in
set_option maxRecDepth 100000 in
theorem strings_HasPrefix.calls (a0 : ByteArray) (a1 : ByteArray) (r : Bool) (w : World) (h : strings_HasPrefix.f a0 a1 = some r) :
    Calls Tryd.prog 34 #[.string a0, .string a1] w fun e w' => e = .returned (.bool r) ∧ Drawn0 w w' := by
  have H : ((stringslite_HasPrefix.f a0 a1).bind fun t240 => (some t240)) = some r := h
  clear h
  replace H := Option.bind_eq_some_iff.mp H
  obtain ⟨t240, A30, H⟩ := H
  replace H : (some t240) = some r := H
  have A3 := Aside0.mk A30
  clear A30
  obtain rfl := Option.some.inj H
  go_enter Tryd.func34, Tryd.ntmps34
  go_wp2_with (first | ((with_reducible refine gate_callee (f := 38) rfl ?_); refine goesL_ (some 7) rfl rfl Tryd.func38 (by kernel_rfl) rfl #[.string a0, .string a1] rfl (by (try simp only [List.map_toArray, List.map_cons, List.map_nil]); first | done | rfl | (simp only [List.length_drop, List.length_take]; rfl)) ?_; (with_reducible refine (stringslite_HasPrefix.calls a0 a1 t240 _ A3.out).mono ?_); rintro e w' ⟨rfl, ⟨nd, rfl⟩⟩; refine ⟨_, rfl, ?_⟩))
  go_ret
  exact ⟨by first | rfl | (simp; done) | (simp [*]; done), by repeat (first | exact Drawn0.refl _ | apply Drawn0.step)⟩

/-! ### utf_Find: function 23 -/
def utf_Find.l0 : Nat → ByteArray → ByteArray → Int → Option (Int)
  | 0, _, _, _ => none
  | k + 1, x0, x1, x7 => (utf_Length.f x0).bind fun t243 => ((utf_Length.f x1).bind fun t244 => (if x7 ≤ (wrap64 (t243 - t244)) then (if 0 ≤ (wrap64 (2 * x7)) then (if (wrap64 (2 * x7)) ≤ (x0.size : Int) then ((strings_HasPrefix.f (x0.extract ((wrap64 (2 * x7)) : Int).toNat x0.size) x1).bind fun t245 => (if t245 = true then (some x7) else (utf_Find.l0 k x0 x1 (wrap64 (x7 + 1))))) else (none)) else (none)) else (some (-1))))
def utf_Find.f (k : Nat) (a0 : ByteArray) (a1 : ByteArray) (a2 : Int) : Option (Int) := (utf_Length.f a0).bind fun t241 => (if 0 ≤ (wrap64 (2 * t241)) then (if (wrap64 (2 * t241)) ≤ (a0.size : Int) then ((utf_Length.f a1).bind fun t242 => (if 0 ≤ (wrap64 (2 * t242)) then (if (wrap64 (2 * t242)) ≤ (a1.size : Int) then (utf_Find.l0 k (a0.extract 0 ((wrap64 (2 * t241)) : Int).toNat) (a1.extract 0 ((wrap64 (2 * t242)) : Int).toNat) (mx a2 0)) else (none)) else (none))) else (none)) else (none))
theorem utf_Find.mono_l : ∀ k, (∀ y0 y1 y2, LeO (utf_Find.l0 k y0 y1 y2) (utf_Find.l0 (k + 1) y0 y1 y2))
  | 0 => fun _ _ _ r h => by simp [utf_Find.l0] at h
  | k + 1 => by
    have ih0 := utf_Find.mono_l k
    · intro y0 y1 y2
      unfold utf_Find.l0
      repeat' first
      | (with_reducible exact ih0 _ _ _)
      | (with_reducible exact LeO.refl _)
      | (with_reducible exact LeO.none _)
      | (with_reducible refine LeO.ite ?_ ?_)
      | (with_reducible refine LeO.bind ?_ (fun _ => ?_))
      | exact ih0 _ _ _
      | exact LeO.none _
      | refine LeO.ite ?_ ?_
      | refine LeO.bind ?_ (fun _ => ?_)
theorem utf_Find.mono : ∀ a0 a1 a2 k, LeO (utf_Find.f k a0 a1 a2) (utf_Find.f (k + 1) a0 a1 a2) := by
  intro a0 a1 a2 k
  have ih0 := utf_Find.mono_l k
  unfold utf_Find.f
  repeat' first
      | (with_reducible exact ih0 _ _ _)
      | (with_reducible exact LeO.refl _)
      | (with_reducible exact LeO.none _)
      | (with_reducible refine LeO.ite ?_ ?_)
      | (with_reducible refine LeO.bind ?_ (fun _ => ?_))
      | exact ih0 _ _ _
      | exact LeO.none _
      | refine LeO.ite ?_ ?_
      | refine LeO.bind ?_ (fun _ => ?_)
set_option maxHeartbeats 8000000 in
set_option maxRecDepth 100000 in
theorem utf_Find.calls (k : Nat) (a0 : ByteArray) (a1 : ByteArray) (a2 : Int) (r : Int) (w : World) (h : utf_Find.f k a0 a1 a2 = some r) :
    Calls Tryd.prog 23 #[.string a0, .string a1, .int .i64 a2] w fun e w' => e = .returned (.int .i64 r) ∧ Below w.heap.size w w' := by
  have HB := Aside0.mk (Below.refl w.heap.size w)
  have H : ((utf_Length.f a0).bind fun t241 => (if 0 ≤ (wrap64 (2 * t241)) then (if (wrap64 (2 * t241)) ≤ (a0.size : Int) then ((utf_Length.f a1).bind fun t242 => (if 0 ≤ (wrap64 (2 * t242)) then (if (wrap64 (2 * t242)) ≤ (a1.size : Int) then (utf_Find.l0 k (a0.extract 0 ((wrap64 (2 * t241)) : Int).toNat) (a1.extract 0 ((wrap64 (2 * t242)) : Int).toNat) (mx a2 0)) else (none)) else (none))) else (none)) else (none))) = some r := h
  clear h
  replace H := Option.bind_eq_some_iff.mp H
  obtain ⟨t241, A40, H⟩ := H
  replace H : (if 0 ≤ (wrap64 (2 * t241)) then (if (wrap64 (2 * t241)) ≤ (a0.size : Int) then ((utf_Length.f a1).bind fun t242 => (if 0 ≤ (wrap64 (2 * t242)) then (if (wrap64 (2 * t242)) ≤ (a1.size : Int) then (utf_Find.l0 k (a0.extract 0 ((wrap64 (2 * t241)) : Int).toNat) (a1.extract 0 ((wrap64 (2 * t242)) : Int).toNat) (mx a2 0)) else (none)) else (none))) else (none)) else (none)) = some r := H
  have A4 := Aside0.mk A40
  clear A40
  obtain ⟨ji5, hji5⟩ : ∃ j_ : Int, (wrap64 (2 * t241)) = j_ := ⟨_, rfl⟩
  replace H : (if 0 ≤ (ji5) then (if (ji5) ≤ (a0.size : Int) then ((utf_Length.f a1).bind fun t242 => (if 0 ≤ (wrap64 (2 * t242)) then (if (wrap64 (2 * t242)) ≤ (a1.size : Int) then (utf_Find.l0 k (a0.extract 0 ((ji5) : Int).toNat) (a1.extract 0 ((wrap64 (2 * t242)) : Int).toNat) (mx a2 0)) else (none)) else (none))) else (none)) else (none)) = some r := by first | (rw [hji5] at H; exact H) | (simp only [hji5] at H ⊢; exact H)
  (try rw [hji5] at A4)
  have hji5w : (IntKind.i64.wrap (2 * t241)) = ji5 := (i64_w _).trans hji5
  by_cases c6 : 0 ≤ (ji5)
  · rw [if_pos c6] at H
    have c6b0 := eq_true c6
    have c6b1 : decide (0 ≤ (ji5)) = true := decide_eq_true c6
    clear c6
    by_cases c7 : (ji5) ≤ (a0.size : Int)
    · rw [if_pos c7] at H
      have c7b0 := eq_true c7
      have c7b1 : decide ((ji5) ≤ (a0.size : Int)) = true := decide_eq_true c7
      clear c7
      replace H := Option.bind_eq_some_iff.mp H
      obtain ⟨t242, A80, H⟩ := H
      replace H : (if 0 ≤ (wrap64 (2 * t242)) then (if (wrap64 (2 * t242)) ≤ (a1.size : Int) then (utf_Find.l0 k (a0.extract 0 ((ji5) : Int).toNat) (a1.extract 0 ((wrap64 (2 * t242)) : Int).toNat) (mx a2 0)) else (none)) else (none)) = some r := H
      have A8 := Aside0.mk A80
      clear A80
      obtain ⟨ji9, hji9⟩ : ∃ j_ : Int, (wrap64 (2 * t242)) = j_ := ⟨_, rfl⟩
      replace H : (if 0 ≤ (ji9) then (if (ji9) ≤ (a1.size : Int) then (utf_Find.l0 k (a0.extract 0 ((ji5) : Int).toNat) (a1.extract 0 ((ji9) : Int).toNat) (mx a2 0)) else (none)) else (none)) = some r := by first | (rw [hji9] at H; exact H) | (simp only [hji9] at H ⊢; exact H)
      (try rw [hji9] at A4)
      (try rw [hji9] at A8)
      have hji9w : (IntKind.i64.wrap (2 * t242)) = ji9 := (i64_w _).trans hji9
      by_cases c10 : 0 ≤ (ji9)
      · rw [if_pos c10] at H
        have c10b0 := eq_true c10
        have c10b1 : decide (0 ≤ (ji9)) = true := decide_eq_true c10
        clear c10
        by_cases c11 : (ji9) ≤ (a1.size : Int)
        · rw [if_pos c11] at H
          have c11b0 := eq_true c11
          have c11b1 : decide ((ji9) ≤ (a1.size : Int)) = true := decide_eq_true c11
          clear c11
          obtain ⟨ji12, hji12⟩ : ∃ j_ : Int, (mx a2 0) = j_ := ⟨_, rfl⟩
          replace H : (utf_Find.l0 k (a0.extract 0 ((ji5) : Int).toNat) (a1.extract 0 ((ji9) : Int).toNat) ji12) = some r := by first | (rw [hji12] at H; exact H) | (simp only [hji12] at H ⊢; exact H)
          (try rw [hji12] at A4)
          (try rw [hji12] at A8)
          (try (have hji12l : 0 ≤ ji12 := by (rw [← hji12]; unfold mx; (repeat' split) <;> omega)))
          (try (have hji12m : 0 ≤ ji12 := by omega))
          have hji12_ : (if a2 < 0 then 0 else a2) = ji12 := hji12
          have H' := Aside0.mk H
          clear H
          go_enter Tryd.func23, Tryd.ntmps23
          go_wp2_with (first | (go_at_call 18; (with_reducible refine (utf_Length.calls a0 t241 _ A4.out).mono ?_); rintro e w' ⟨rfl, ⟨nd, rfl⟩⟩; (try first | exact ⟨rfl, _, World.drewN_drewN _ _ _⟩ | exact ⟨rfl, _, Eq.trans (World.drewN_drewN _ _ _) (congrArg (World.drewN _) (Nat.add_assoc _ _ _))⟩)) | (go_at_call 18; (with_reducible refine (utf_Length.calls a1 t242 _ A8.out).mono ?_); rintro e w' ⟨rfl, ⟨nd, rfl⟩⟩; (try first | exact ⟨rfl, _, World.drewN_drewN _ _ _⟩ | exact ⟨rfl, _, Eq.trans (World.drewN_drewN _ _ _) (congrArg (World.drewN _) (Nat.add_assoc _ _ _))⟩)))
          repeat (go_quiet (first | (go_at_call 18; (with_reducible refine (utf_Length.calls a0 t241 _ A4.out).mono ?_); rintro e w' ⟨rfl, ⟨nd, rfl⟩⟩; (try first | exact ⟨rfl, _, World.drewN_drewN _ _ _⟩ | exact ⟨rfl, _, Eq.trans (World.drewN_drewN _ _ _) (congrArg (World.drewN _) (Nat.add_assoc _ _ _))⟩)) | (go_at_call 18; (with_reducible refine (utf_Length.calls a1 t242 _ A8.out).mono ?_); rintro e w' ⟨rfl, ⟨nd, rfl⟩⟩; (try first | exact ⟨rfl, _, World.drewN_drewN _ _ _⟩ | exact ⟨rfl, _, Eq.trans (World.drewN_drewN _ _ _) (congrArg (World.drewN _) (Nat.add_assoc _ _ _))⟩))); try go_wp2_with (first | (go_at_call 18; (with_reducible refine (utf_Length.calls a0 t241 _ A4.out).mono ?_); rintro e w' ⟨rfl, ⟨nd, rfl⟩⟩; (try first | exact ⟨rfl, _, World.drewN_drewN _ _ _⟩ | exact ⟨rfl, _, Eq.trans (World.drewN_drewN _ _ _) (congrArg (World.drewN _) (Nat.add_assoc _ _ _))⟩)) | (go_at_call 18; (with_reducible refine (utf_Length.calls a1 t242 _ A8.out).mono ?_); rintro e w' ⟨rfl, ⟨nd, rfl⟩⟩; (try first | exact ⟨rfl, _, World.drewN_drewN _ _ _⟩ | exact ⟨rfl, _, Eq.trans (World.drewN_drewN _ _ _) (congrArg (World.drewN _) (Nat.add_assoc _ _ _))⟩))))
          go_loopg [7] k (fun kq v7 w' => ∃ (x7_1 : Int), v7 = .int .i64 x7_1 ∧ Aside0 (utf_Find.l0 kq (a0.extract 0 ((ji5) : Int).toNat) (a1.extract 0 ((ji9) : Int).toNat) x7_1 = some r) ∧ Aside0 (kq ≤ k) ∧ Aside0 (Below w.heap.size w w'))
          case atStart => exact ⟨(ji12), (by first | rfl | (simp; done) | (simp only [← hji12] <;> (first | rfl | simp)) | (simp [*]; done)), H', ⟨Nat.le_refl _⟩, ⟨by repeat (first | (with_reducible first | exact HB.out | apply below_alloc | apply pw_below_drewN | apply below_drew1) | exact HB.out)⟩⟩
          case round =>
            clear H'
            try clear c1
            try clear c2
            try clear p2
            try clear c6
            try clear c6b0
            try clear c6b1
            try clear p6
            try clear c7
            try clear c7b0
            try clear c7b1
            try clear c10
            try clear c10b0
            try clear c10b1
            try clear c11
            try clear c11b0
            try clear c11b1
            obtain ⟨x7_1, rfl, HA, HK1, HB⟩ := hrel
            cases gk with
            | zero => exact absurd HA.out (by simp [utf_Find.l0])
            | succ k1 =>
              have H := HA.out
              clear HA
              simp only [utf_Find.l0] at H
              replace H := Option.bind_eq_some_iff.mp H
              obtain ⟨t243, A130, H⟩ := H
              replace H : ((utf_Length.f (a1.extract 0 ((ji9) : Int).toNat)).bind fun t244 => (if x7_1 ≤ (wrap64 (t243 - t244)) then (if 0 ≤ (wrap64 (2 * x7_1)) then (if (wrap64 (2 * x7_1)) ≤ ((a0.extract 0 ((ji5) : Int).toNat).size : Int) then ((strings_HasPrefix.f ((a0.extract 0 ((ji5) : Int).toNat).extract ((wrap64 (2 * x7_1)) : Int).toNat (a0.extract 0 ((ji5) : Int).toNat).size) (a1.extract 0 ((ji9) : Int).toNat)).bind fun t245 => (if t245 = true then (some x7_1) else (utf_Find.l0 k1 (a0.extract 0 ((ji5) : Int).toNat) (a1.extract 0 ((ji9) : Int).toNat) (wrap64 (x7_1 + 1))))) else (none)) else (none)) else (some (-1)))) = some r := H
              have A13 := Aside0.mk A130
              clear A130
              replace H := Option.bind_eq_some_iff.mp H
              obtain ⟨t244, A140, H⟩ := H
              replace H : (if x7_1 ≤ (wrap64 (t243 - t244)) then (if 0 ≤ (wrap64 (2 * x7_1)) then (if (wrap64 (2 * x7_1)) ≤ ((a0.extract 0 ((ji5) : Int).toNat).size : Int) then ((strings_HasPrefix.f ((a0.extract 0 ((ji5) : Int).toNat).extract ((wrap64 (2 * x7_1)) : Int).toNat (a0.extract 0 ((ji5) : Int).toNat).size) (a1.extract 0 ((ji9) : Int).toNat)).bind fun t245 => (if t245 = true then (some x7_1) else (utf_Find.l0 k1 (a0.extract 0 ((ji5) : Int).toNat) (a1.extract 0 ((ji9) : Int).toNat) (wrap64 (x7_1 + 1))))) else (none)) else (none)) else (some (-1))) = some r := H
              have A14 := Aside0.mk A140
              clear A140
              by_cases c15 : x7_1 ≤ (wrap64 (t243 - t244))
              · rw [if_pos c15] at H
                have c15b0 : decide (x7_1 ≤ (wrap64 (t243 - t244))) = true := decide_eq_true c15
                clear c15
                obtain ⟨ji16, hji16⟩ : ∃ j_ : Int, (wrap64 (2 * x7_1)) = j_ := ⟨_, rfl⟩
                replace H : (if 0 ≤ (ji16) then (if (ji16) ≤ ((a0.extract 0 ((ji5) : Int).toNat).size : Int) then ((strings_HasPrefix.f ((a0.extract 0 ((ji5) : Int).toNat).extract ((ji16) : Int).toNat (a0.extract 0 ((ji5) : Int).toNat).size) (a1.extract 0 ((ji9) : Int).toNat)).bind fun t245 => (if t245 = true then (some x7_1) else (utf_Find.l0 k1 (a0.extract 0 ((ji5) : Int).toNat) (a1.extract 0 ((ji9) : Int).toNat) (wrap64 (x7_1 + 1))))) else (none)) else (none)) = some r := by first | (rw [hji16] at H; exact H) | (simp only [hji16] at H ⊢; exact H)
                (try rw [hji16] at A13)
                (try rw [hji16] at A14)
                have hji16w : (IntKind.i64.wrap (2 * x7_1)) = ji16 := (i64_w _).trans hji16
                by_cases c17 : 0 ≤ (ji16)
                · rw [if_pos c17] at H
                  have c17b0 := eq_true c17
                  have c17b1 : decide (0 ≤ (ji16)) = true := decide_eq_true c17
                  clear c17
                  by_cases c18 : (ji16) ≤ ((a0.extract 0 ((ji5) : Int).toNat).size : Int)
                  · rw [if_pos c18] at H
                    have c18b0 := eq_true c18
                    have c18b1 : decide ((ji16) ≤ ((a0.extract 0 ((ji5) : Int).toNat).size : Int)) = true := decide_eq_true c18
                    rw [ByteArray.size_extract, Nat.sub_zero] at c18b0 c18b1
                    clear c18
                    replace H := Option.bind_eq_some_iff.mp H
                    obtain ⟨t245, A190, H⟩ := H
                    replace H : (if t245 = true then (some x7_1) else (utf_Find.l0 k1 (a0.extract 0 ((ji5) : Int).toNat) (a1.extract 0 ((ji9) : Int).toNat) (wrap64 (x7_1 + 1)))) = some r := H
                    have A19 := Aside0.mk A190
                    have Az_ := A19.out
                    rw [ByteArray.size_extract, Nat.sub_zero] at Az_
                    clear A19
                    have A19 := Aside0.mk Az_
                    clear Az_
                    clear A190
                    by_cases c20 : t245 = true
                    · subst c20
                      have H1 : (some x7_1) = some r := by rw [if_pos rfl] at H; exact H
                      clear H
                      have H := H1
                      clear H1
                      obtain rfl := Option.some.inj H
                      go_wp2_with (first | (go_at_call 18; (with_reducible refine (utf_Length.calls (a0.extract 0 ((ji5) : Int).toNat) t243 _ A13.out).mono ?_); rintro e w' ⟨rfl, ⟨nd, rfl⟩⟩; (try first | exact ⟨rfl, _, World.drewN_drewN _ _ _⟩ | exact ⟨rfl, _, Eq.trans (World.drewN_drewN _ _ _) (congrArg (World.drewN _) (Nat.add_assoc _ _ _))⟩)) | (go_at_call 18; (with_reducible refine (utf_Length.calls (a1.extract 0 ((ji9) : Int).toNat) t244 _ A14.out).mono ?_); rintro e w' ⟨rfl, ⟨nd, rfl⟩⟩; (try first | exact ⟨rfl, _, World.drewN_drewN _ _ _⟩ | exact ⟨rfl, _, Eq.trans (World.drewN_drewN _ _ _) (congrArg (World.drewN _) (Nat.add_assoc _ _ _))⟩)) | (go_at_call 34; (with_reducible refine (strings_HasPrefix.calls ((a0.extract 0 ((ji5) : Int).toNat).extract ((ji16) : Int).toNat (min ((ji5) : Int).toNat a0.size)) (a1.extract 0 ((ji9) : Int).toNat) true _ A19.out).mono ?_); rintro e w' ⟨rfl, ⟨nd, rfl⟩⟩; (try first | exact ⟨rfl, _, World.drewN_drewN _ _ _⟩ | exact ⟨rfl, _, Eq.trans (World.drewN_drewN _ _ _) (congrArg (World.drewN _) (Nat.add_assoc _ _ _))⟩)))
                      repeat (go_quiet (first | (go_at_call 18; (with_reducible refine (utf_Length.calls (a0.extract 0 ((ji5) : Int).toNat) t243 _ A13.out).mono ?_); rintro e w' ⟨rfl, ⟨nd, rfl⟩⟩; (try first | exact ⟨rfl, _, World.drewN_drewN _ _ _⟩ | exact ⟨rfl, _, Eq.trans (World.drewN_drewN _ _ _) (congrArg (World.drewN _) (Nat.add_assoc _ _ _))⟩)) | (go_at_call 18; (with_reducible refine (utf_Length.calls (a1.extract 0 ((ji9) : Int).toNat) t244 _ A14.out).mono ?_); rintro e w' ⟨rfl, ⟨nd, rfl⟩⟩; (try first | exact ⟨rfl, _, World.drewN_drewN _ _ _⟩ | exact ⟨rfl, _, Eq.trans (World.drewN_drewN _ _ _) (congrArg (World.drewN _) (Nat.add_assoc _ _ _))⟩)) | (go_at_call 34; (with_reducible refine (strings_HasPrefix.calls ((a0.extract 0 ((ji5) : Int).toNat).extract ((ji16) : Int).toNat (min ((ji5) : Int).toNat a0.size)) (a1.extract 0 ((ji9) : Int).toNat) true _ A19.out).mono ?_); rintro e w' ⟨rfl, ⟨nd, rfl⟩⟩; (try first | exact ⟨rfl, _, World.drewN_drewN _ _ _⟩ | exact ⟨rfl, _, Eq.trans (World.drewN_drewN _ _ _) (congrArg (World.drewN _) (Nat.add_assoc _ _ _))⟩))); try go_wp2_with (first | (go_at_call 18; (with_reducible refine (utf_Length.calls (a0.extract 0 ((ji5) : Int).toNat) t243 _ A13.out).mono ?_); rintro e w' ⟨rfl, ⟨nd, rfl⟩⟩; (try first | exact ⟨rfl, _, World.drewN_drewN _ _ _⟩ | exact ⟨rfl, _, Eq.trans (World.drewN_drewN _ _ _) (congrArg (World.drewN _) (Nat.add_assoc _ _ _))⟩)) | (go_at_call 18; (with_reducible refine (utf_Length.calls (a1.extract 0 ((ji9) : Int).toNat) t244 _ A14.out).mono ?_); rintro e w' ⟨rfl, ⟨nd, rfl⟩⟩; (try first | exact ⟨rfl, _, World.drewN_drewN _ _ _⟩ | exact ⟨rfl, _, Eq.trans (World.drewN_drewN _ _ _) (congrArg (World.drewN _) (Nat.add_assoc _ _ _))⟩)) | (go_at_call 34; (with_reducible refine (strings_HasPrefix.calls ((a0.extract 0 ((ji5) : Int).toNat).extract ((ji16) : Int).toNat (min ((ji5) : Int).toNat a0.size)) (a1.extract 0 ((ji9) : Int).toNat) true _ A19.out).mono ?_); rintro e w' ⟨rfl, ⟨nd, rfl⟩⟩; (try first | exact ⟨rfl, _, World.drewN_drewN _ _ _⟩ | exact ⟨rfl, _, Eq.trans (World.drewN_drewN _ _ _) (congrArg (World.drewN _) (Nat.add_assoc _ _ _))⟩))))
                      go_ret
                      exact ⟨by first | rfl | (simp [errW_none, errW_some] <;> rfl) | (simp only [← hji5, ← hji9, ← hji12, ← hji16]; first | rfl | (simp [errW_none, errW_some] <;> rfl)) | (simp [*, errW_none, errW_some] <;> rfl), by repeat (first | (with_reducible first | exact HB.out | apply below_alloc | apply pw_below_drewN | apply below_drew1) | exact HB.out)⟩
                    · replace c20 := Bool.eq_false_iff.mpr c20
                      subst c20
                      have H1 : (utf_Find.l0 k1 (a0.extract 0 ((ji5) : Int).toNat) (a1.extract 0 ((ji9) : Int).toNat) (wrap64 (x7_1 + 1))) = some r := by rw [if_neg (show ¬ (false = true) by decide)] at H; exact H
                      clear H
                      have H := H1
                      clear H1
                      have H' := Aside0.mk H
                      clear H
                      go_wp2_with (first | (go_at_call 18; (with_reducible refine (utf_Length.calls (a0.extract 0 ((ji5) : Int).toNat) t243 _ A13.out).mono ?_); rintro e w' ⟨rfl, ⟨nd, rfl⟩⟩; (try first | exact ⟨rfl, _, World.drewN_drewN _ _ _⟩ | exact ⟨rfl, _, Eq.trans (World.drewN_drewN _ _ _) (congrArg (World.drewN _) (Nat.add_assoc _ _ _))⟩)) | (go_at_call 18; (with_reducible refine (utf_Length.calls (a1.extract 0 ((ji9) : Int).toNat) t244 _ A14.out).mono ?_); rintro e w' ⟨rfl, ⟨nd, rfl⟩⟩; (try first | exact ⟨rfl, _, World.drewN_drewN _ _ _⟩ | exact ⟨rfl, _, Eq.trans (World.drewN_drewN _ _ _) (congrArg (World.drewN _) (Nat.add_assoc _ _ _))⟩)) | (go_at_call 34; (with_reducible refine (strings_HasPrefix.calls ((a0.extract 0 ((ji5) : Int).toNat).extract ((ji16) : Int).toNat (min ((ji5) : Int).toNat a0.size)) (a1.extract 0 ((ji9) : Int).toNat) false _ A19.out).mono ?_); rintro e w' ⟨rfl, ⟨nd, rfl⟩⟩; (try first | exact ⟨rfl, _, World.drewN_drewN _ _ _⟩ | exact ⟨rfl, _, Eq.trans (World.drewN_drewN _ _ _) (congrArg (World.drewN _) (Nat.add_assoc _ _ _))⟩)))
                      repeat (go_quiet (first | (go_at_call 18; (with_reducible refine (utf_Length.calls (a0.extract 0 ((ji5) : Int).toNat) t243 _ A13.out).mono ?_); rintro e w' ⟨rfl, ⟨nd, rfl⟩⟩; (try first | exact ⟨rfl, _, World.drewN_drewN _ _ _⟩ | exact ⟨rfl, _, Eq.trans (World.drewN_drewN _ _ _) (congrArg (World.drewN _) (Nat.add_assoc _ _ _))⟩)) | (go_at_call 18; (with_reducible refine (utf_Length.calls (a1.extract 0 ((ji9) : Int).toNat) t244 _ A14.out).mono ?_); rintro e w' ⟨rfl, ⟨nd, rfl⟩⟩; (try first | exact ⟨rfl, _, World.drewN_drewN _ _ _⟩ | exact ⟨rfl, _, Eq.trans (World.drewN_drewN _ _ _) (congrArg (World.drewN _) (Nat.add_assoc _ _ _))⟩)) | (go_at_call 34; (with_reducible refine (strings_HasPrefix.calls ((a0.extract 0 ((ji5) : Int).toNat).extract ((ji16) : Int).toNat (min ((ji5) : Int).toNat a0.size)) (a1.extract 0 ((ji9) : Int).toNat) false _ A19.out).mono ?_); rintro e w' ⟨rfl, ⟨nd, rfl⟩⟩; (try first | exact ⟨rfl, _, World.drewN_drewN _ _ _⟩ | exact ⟨rfl, _, Eq.trans (World.drewN_drewN _ _ _) (congrArg (World.drewN _) (Nat.add_assoc _ _ _))⟩))); try go_wp2_with (first | (go_at_call 18; (with_reducible refine (utf_Length.calls (a0.extract 0 ((ji5) : Int).toNat) t243 _ A13.out).mono ?_); rintro e w' ⟨rfl, ⟨nd, rfl⟩⟩; (try first | exact ⟨rfl, _, World.drewN_drewN _ _ _⟩ | exact ⟨rfl, _, Eq.trans (World.drewN_drewN _ _ _) (congrArg (World.drewN _) (Nat.add_assoc _ _ _))⟩)) | (go_at_call 18; (with_reducible refine (utf_Length.calls (a1.extract 0 ((ji9) : Int).toNat) t244 _ A14.out).mono ?_); rintro e w' ⟨rfl, ⟨nd, rfl⟩⟩; (try first | exact ⟨rfl, _, World.drewN_drewN _ _ _⟩ | exact ⟨rfl, _, Eq.trans (World.drewN_drewN _ _ _) (congrArg (World.drewN _) (Nat.add_assoc _ _ _))⟩)) | (go_at_call 34; (with_reducible refine (strings_HasPrefix.calls ((a0.extract 0 ((ji5) : Int).toNat).extract ((ji16) : Int).toNat (min ((ji5) : Int).toNat a0.size)) (a1.extract 0 ((ji9) : Int).toNat) false _ A19.out).mono ?_); rintro e w' ⟨rfl, ⟨nd, rfl⟩⟩; (try first | exact ⟨rfl, _, World.drewN_drewN _ _ _⟩ | exact ⟨rfl, _, Eq.trans (World.drewN_drewN _ _ _) (congrArg (World.drewN _) (Nat.add_assoc _ _ _))⟩))))
                      go_roundg k1
                      case measure => have := HK1.out; omega
                      case rel => exact ⟨(wrap64 (x7_1 + 1)), (by first | rfl | (simp; done) | (simp [*]; done)), H', ⟨by have := HK1.out; omega⟩, ⟨by repeat (first | (with_reducible first | exact HB.out | apply below_alloc | apply pw_below_drewN | apply below_drew1) | exact HB.out)⟩⟩
                  · rw [if_neg c18] at H
                    exact absurd H (by simp)
                · rw [if_neg c17] at H
                  exact absurd H (by simp)
              · rw [if_neg c15] at H
                have c15b0 : decide (x7_1 ≤ (wrap64 (t243 - t244))) = false := decide_eq_false c15
                clear c15
                obtain rfl := Option.some.inj H
                go_wp2_with (first | (go_at_call 18; (with_reducible refine (utf_Length.calls (a0.extract 0 ((ji5) : Int).toNat) t243 _ A13.out).mono ?_); rintro e w' ⟨rfl, ⟨nd, rfl⟩⟩; (try first | exact ⟨rfl, _, World.drewN_drewN _ _ _⟩ | exact ⟨rfl, _, Eq.trans (World.drewN_drewN _ _ _) (congrArg (World.drewN _) (Nat.add_assoc _ _ _))⟩)) | (go_at_call 18; (with_reducible refine (utf_Length.calls (a1.extract 0 ((ji9) : Int).toNat) t244 _ A14.out).mono ?_); rintro e w' ⟨rfl, ⟨nd, rfl⟩⟩; (try first | exact ⟨rfl, _, World.drewN_drewN _ _ _⟩ | exact ⟨rfl, _, Eq.trans (World.drewN_drewN _ _ _) (congrArg (World.drewN _) (Nat.add_assoc _ _ _))⟩)))
                repeat (go_quiet (first | (go_at_call 18; (with_reducible refine (utf_Length.calls (a0.extract 0 ((ji5) : Int).toNat) t243 _ A13.out).mono ?_); rintro e w' ⟨rfl, ⟨nd, rfl⟩⟩; (try first | exact ⟨rfl, _, World.drewN_drewN _ _ _⟩ | exact ⟨rfl, _, Eq.trans (World.drewN_drewN _ _ _) (congrArg (World.drewN _) (Nat.add_assoc _ _ _))⟩)) | (go_at_call 18; (with_reducible refine (utf_Length.calls (a1.extract 0 ((ji9) : Int).toNat) t244 _ A14.out).mono ?_); rintro e w' ⟨rfl, ⟨nd, rfl⟩⟩; (try first | exact ⟨rfl, _, World.drewN_drewN _ _ _⟩ | exact ⟨rfl, _, Eq.trans (World.drewN_drewN _ _ _) (congrArg (World.drewN _) (Nat.add_assoc _ _ _))⟩))); try go_wp2_with (first | (go_at_call 18; (with_reducible refine (utf_Length.calls (a0.extract 0 ((ji5) : Int).toNat) t243 _ A13.out).mono ?_); rintro e w' ⟨rfl, ⟨nd, rfl⟩⟩; (try first | exact ⟨rfl, _, World.drewN_drewN _ _ _⟩ | exact ⟨rfl, _, Eq.trans (World.drewN_drewN _ _ _) (congrArg (World.drewN _) (Nat.add_assoc _ _ _))⟩)) | (go_at_call 18; (with_reducible refine (utf_Length.calls (a1.extract 0 ((ji9) : Int).toNat) t244 _ A14.out).mono ?_); rintro e w' ⟨rfl, ⟨nd, rfl⟩⟩; (try first | exact ⟨rfl, _, World.drewN_drewN _ _ _⟩ | exact ⟨rfl, _, Eq.trans (World.drewN_drewN _ _ _) (congrArg (World.drewN _) (Nat.add_assoc _ _ _))⟩))))
                go_ret
                exact ⟨by first | rfl | (simp [errW_none, errW_some] <;> rfl) | (simp only [← hji5, ← hji9, ← hji12]; first | rfl | (simp [errW_none, errW_some] <;> rfl)) | (simp [*, errW_none, errW_some] <;> rfl), by repeat (first | (with_reducible first | exact HB.out | apply below_alloc | apply pw_below_drewN | apply below_drew1) | exact HB.out)⟩
        · rw [if_neg c11] at H
          exact absurd H (by simp)
      · rw [if_neg c10] at H
        exact absurd H (by simp)
    · rw [if_neg c7] at H
      exact absurd H (by simp)
  · rw [if_neg c6] at H
    exact absurd H (by simp)

/-! ### pennantref01_Length: function 35 -/
def pennantref01_Length.f (a0 : ByteArray) : Option (Int) := some (wrap64 ((a0.size : Int) / 2))
set_option maxHeartbeats 8000000 in
set_option maxRecDepth 100000 in
theorem pennantref01_Length.calls (a0 : ByteArray) (r : Int) (w : World) (h : pennantref01_Length.f a0 = some r) :
    Calls Tryd.prog 35 #[.string a0] w fun e w' => e = .returned (.int .i64 r) ∧ Drawn0 w w' := by
  have H : (some (wrap64 ((a0.size : Int) / 2))) = some r := h
  clear h
  obtain rfl := Option.some.inj H
  go_enter Tryd.func35, Tryd.ntmps35
  go_wp2
  go_ret
  exact ⟨by first | rfl | (simp; done) | (simp [*]; done), by repeat (first | exact Drawn0.refl _ | apply Drawn0.step)⟩

/-! ### pennantref01_Cut: function 26 -/
def pennantref01_Cut.l0 : Nat → ByteArray → Int → ByteArray → Int → Option (ByteArray)
  | 0, _, _, _, _ => none
  | k + 1, x0, x2, x7, x8 => (pennantref01_Length.f x0).bind fun t246 => (if x8 < (mn x2 t246) then (if 0 ≤ (wrap64 (2 * x8)) then (if (wrap64 (2 * x8)) ≤ (wrap64 ((wrap64 (2 * x8)) + 2)) then (if (wrap64 ((wrap64 (2 * x8)) + 2)) ≤ (x0.size : Int) then (if x7.size + (x0.extract ((wrap64 (2 * x8)) : Int).toNat ((wrap64 ((wrap64 (2 * x8)) + 2)) : Int).toNat).size ≤ 9223372036854775807 then (pennantref01_Cut.l0 k x0 x2 (x7 ++ (x0.extract ((wrap64 (2 * x8)) : Int).toNat ((wrap64 ((wrap64 (2 * x8)) + 2)) : Int).toNat)) (wrap64 (x8 + 1))) else (none)) else (none)) else (none)) else (none)) else (some x7))
def pennantref01_Cut.f (k : Nat) (a0 : ByteArray) (a1 : Int) (a2 : Int) : Option (ByteArray) := pennantref01_Cut.l0 k a0 a2 (⟨#[]⟩ : ByteArray) (mx a1 0)
theorem pennantref01_Cut.mono_l : ∀ k, (∀ y0 y1 y2 y3, LeO (pennantref01_Cut.l0 k y0 y1 y2 y3) (pennantref01_Cut.l0 (k + 1) y0 y1 y2 y3))
  | 0 => fun _ _ _ _ r h => by simp [pennantref01_Cut.l0] at h
  | k + 1 => by
    have ih0 := pennantref01_Cut.mono_l k
    · intro y0 y1 y2 y3
      unfold pennantref01_Cut.l0
      repeat' first
      | (with_reducible exact ih0 _ _ _ _)
      | (with_reducible exact LeO.refl _)
      | (with_reducible exact LeO.none _)
      | (with_reducible refine LeO.ite ?_ ?_)
      | (with_reducible refine LeO.bind ?_ (fun _ => ?_))
      | exact ih0 _ _ _ _
      | exact LeO.none _
      | refine LeO.ite ?_ ?_
      | refine LeO.bind ?_ (fun _ => ?_)
theorem pennantref01_Cut.mono : ∀ a0 a1 a2 k, LeO (pennantref01_Cut.f k a0 a1 a2) (pennantref01_Cut.f (k + 1) a0 a1 a2) := by
  intro a0 a1 a2 k
  have ih0 := pennantref01_Cut.mono_l k
  unfold pennantref01_Cut.f
  repeat' first
      | (with_reducible exact ih0 _ _ _ _)
      | (with_reducible exact LeO.refl _)
      | (with_reducible exact LeO.none _)
      | (with_reducible refine LeO.ite ?_ ?_)
      | (with_reducible refine LeO.bind ?_ (fun _ => ?_))
      | exact ih0 _ _ _ _
      | exact LeO.none _
      | refine LeO.ite ?_ ?_
      | refine LeO.bind ?_ (fun _ => ?_)
set_option maxHeartbeats 8000000 in
set_option maxRecDepth 100000 in
theorem pennantref01_Cut.calls (k : Nat) (a0 : ByteArray) (a1 : Int) (a2 : Int) (r : ByteArray) (w : World) (h : pennantref01_Cut.f k a0 a1 a2 = some r) :
    Calls Tryd.prog 26 #[.string a0, .int .i64 a1, .int .i64 a2] w fun e w' => e = .returned (.string r) ∧ Below w.heap.size w w' := by
  have HB := Aside0.mk (Below.refl w.heap.size w)
  have H : (pennantref01_Cut.l0 k a0 a2 (⟨#[]⟩ : ByteArray) (mx a1 0)) = some r := h
  clear h
  obtain ⟨ji4, hji4⟩ : ∃ j_ : Int, (mx a1 0) = j_ := ⟨_, rfl⟩
  replace H : (pennantref01_Cut.l0 k a0 a2 (⟨#[]⟩ : ByteArray) ji4) = some r := by first | (rw [hji4] at H; exact H) | (simp only [hji4] at H ⊢; exact H)
  (try (have hji4l : 0 ≤ ji4 := by (rw [← hji4]; unfold mx; (repeat' split) <;> omega)))
  (try (have hji4m : 0 ≤ ji4 := by omega))
  have hji4_ : (if a1 < 0 then 0 else a1) = ji4 := hji4
  have H' := Aside0.mk H
  clear H
  go_enter Tryd.func26, Tryd.ntmps26
  go_wp2
  go_loopg [7, 8] k (fun kq v7 v8 w' => ∃ (x7_1 : ByteArray) (x8_1 : Int), v7 = .string x7_1 ∧ v8 = .int .i64 x8_1 ∧ Aside0 (pennantref01_Cut.l0 kq a0 a2 x7_1 x8_1 = some r) ∧ Aside0 (kq ≤ k) ∧ Aside0 (Below w.heap.size w w'))
  case atStart => exact ⟨((⟨#[]⟩ : ByteArray)), (ji4), (by first | rfl | (simp; done) | (simp [*]; done)), (by first | rfl | (simp; done) | (simp only [← hji4] <;> (first | rfl | simp)) | (simp [*]; done)), H', ⟨Nat.le_refl _⟩, ⟨by repeat (first | (with_reducible first | exact HB.out | apply below_alloc | apply pw_below_drewN | apply below_drew1) | exact HB.out)⟩⟩
  case round =>
    clear H'
    try clear c2
    try clear p2
    obtain ⟨x7_1, x8_1, rfl, rfl, HA, HK1, HB⟩ := hrel
    cases gk with
    | zero => exact absurd HA.out (by simp [pennantref01_Cut.l0])
    | succ k1 =>
      have H := HA.out
      clear HA
      simp only [pennantref01_Cut.l0] at H
      replace H := Option.bind_eq_some_iff.mp H
      obtain ⟨t246, A50, H⟩ := H
      replace H : (if x8_1 < (mn a2 t246) then (if 0 ≤ (wrap64 (2 * x8_1)) then (if (wrap64 (2 * x8_1)) ≤ (wrap64 ((wrap64 (2 * x8_1)) + 2)) then (if (wrap64 ((wrap64 (2 * x8_1)) + 2)) ≤ (a0.size : Int) then (if x7_1.size + (a0.extract ((wrap64 (2 * x8_1)) : Int).toNat ((wrap64 ((wrap64 (2 * x8_1)) + 2)) : Int).toNat).size ≤ 9223372036854775807 then (pennantref01_Cut.l0 k1 a0 a2 (x7_1 ++ (a0.extract ((wrap64 (2 * x8_1)) : Int).toNat ((wrap64 ((wrap64 (2 * x8_1)) + 2)) : Int).toNat)) (wrap64 (x8_1 + 1))) else (none)) else (none)) else (none)) else (none)) else (some x7_1)) = some r := H
      have A5 := Aside0.mk A50
      clear A50
      obtain ⟨ji6, hji6⟩ : ∃ j_ : Int, (mn a2 t246) = j_ := ⟨_, rfl⟩
      replace H : (if x8_1 < (ji6) then (if 0 ≤ (wrap64 (2 * x8_1)) then (if (wrap64 (2 * x8_1)) ≤ (wrap64 ((wrap64 (2 * x8_1)) + 2)) then (if (wrap64 ((wrap64 (2 * x8_1)) + 2)) ≤ (a0.size : Int) then (if x7_1.size + (a0.extract ((wrap64 (2 * x8_1)) : Int).toNat ((wrap64 ((wrap64 (2 * x8_1)) + 2)) : Int).toNat).size ≤ 9223372036854775807 then (pennantref01_Cut.l0 k1 a0 a2 (x7_1 ++ (a0.extract ((wrap64 (2 * x8_1)) : Int).toNat ((wrap64 ((wrap64 (2 * x8_1)) + 2)) : Int).toNat)) (wrap64 (x8_1 + 1))) else (none)) else (none)) else (none)) else (none)) else (some x7_1)) = some r := by first | (rw [hji6] at H; exact H) | (simp only [hji6] at H ⊢; exact H)
      (try rw [hji6] at A5)
      have hji6_ : (if t246 < a2 then t246 else a2) = ji6 := hji6
      by_cases c7 : x8_1 < (ji6)
      · rw [if_pos c7] at H
        have c7b0 : decide (x8_1 < (ji6)) = true := decide_eq_true c7
        clear c7
        obtain ⟨ji8, hji8⟩ : ∃ j_ : Int, (wrap64 (2 * x8_1)) = j_ := ⟨_, rfl⟩
        replace H : (if 0 ≤ (ji8) then (if (ji8) ≤ (wrap64 ((ji8) + 2)) then (if (wrap64 ((ji8) + 2)) ≤ (a0.size : Int) then (if x7_1.size + (a0.extract ((ji8) : Int).toNat ((wrap64 ((ji8) + 2)) : Int).toNat).size ≤ 9223372036854775807 then (pennantref01_Cut.l0 k1 a0 a2 (x7_1 ++ (a0.extract ((ji8) : Int).toNat ((wrap64 ((ji8) + 2)) : Int).toNat)) (wrap64 (x8_1 + 1))) else (none)) else (none)) else (none)) else (none)) = some r := by first | (rw [hji8] at H; exact H) | (simp only [hji8] at H ⊢; exact H)
        (try rw [hji8] at A5)
        have hji8w : (IntKind.i64.wrap (2 * x8_1)) = ji8 := (i64_w _).trans hji8
        by_cases c9 : 0 ≤ (ji8)
        · rw [if_pos c9] at H
          have c9b0 := eq_true c9
          have c9b1 : decide (0 ≤ (ji8)) = true := decide_eq_true c9
          clear c9
          by_cases c10 : (ji8) ≤ (wrap64 ((ji8) + 2))
          · rw [if_pos c10] at H
            have c10b0 := eq_true c10
            have c10b1 : decide ((ji8) ≤ (wrap64 ((ji8) + 2))) = true := decide_eq_true c10
            by_cases c11 : (wrap64 ((ji8) + 2)) ≤ (a0.size : Int)
            · rw [if_pos c11] at H
              have c11b0 := eq_true c11
              have c11b1 : decide ((wrap64 ((ji8) + 2)) ≤ (a0.size : Int)) = true := decide_eq_true c11
              by_cases c12 : x7_1.size + (a0.extract ((ji8) : Int).toNat ((wrap64 ((ji8) + 2)) : Int).toNat).size ≤ 9223372036854775807
              · rw [if_pos c12] at H
                have c12b0 := eq_true c12
                have c12b1 : decide (x7_1.size + (a0.extract ((ji8) : Int).toNat ((wrap64 ((ji8) + 2)) : Int).toNat).size ≤ 9223372036854775807) = true := decide_eq_true c12
                try have c12b2 : (9223372036854775807 < x7_1.size + (a0.extract ((ji8) : Int).toNat ((wrap64 ((ji8) + 2)) : Int).toNat).size) = False := eq_false (Nat.not_lt.2 c12)
                have H' := Aside0.mk H
                clear H
                go_wp2_with (first | ((with_reducible refine gate_callee (f := 35) rfl ?_); refine goesL_ (some 14) rfl rfl Tryd.func35 (by kernel_rfl) rfl #[.string a0] rfl (by (try simp only [List.map_toArray, List.map_cons, List.map_nil]); first | done | rfl | (simp only [List.length_drop, List.length_take]; rfl)) ?_; (with_reducible refine (pennantref01_Length.calls a0 t246 _ A5.out).mono ?_); rintro e w' ⟨rfl, ⟨nd, rfl⟩⟩; refine ⟨_, rfl, ?_⟩))
                go_roundg k1
                case measure => have := HK1.out; omega
                case rel => exact ⟨(x7_1 ++ (a0.extract ((ji8) : Int).toNat ((wrap64 ((ji8) + 2)) : Int).toNat)), (wrap64 (x8_1 + 1)), (by first | rfl | (simp; done) | (simp only [← hji8] <;> (first | rfl | simp)) | (simp [*]; done)), (by first | rfl | (simp; done) | (simp [*]; done)), H', ⟨by have := HK1.out; omega⟩, ⟨by repeat (first | (with_reducible first | exact HB.out | apply below_alloc | apply pw_below_drewN | apply below_drew1) | exact HB.out)⟩⟩
              · rw [if_neg c12] at H
                exact absurd H (by simp)
            · rw [if_neg c11] at H
              exact absurd H (by simp)
          · rw [if_neg c10] at H
            exact absurd H (by simp)
        · rw [if_neg c9] at H
          exact absurd H (by simp)
      · rw [if_neg c7] at H
        have c7b0 : decide (x8_1 < (ji6)) = false := decide_eq_false c7
        clear c7
        obtain rfl := Option.some.inj H
        go_wp2_with (first | ((with_reducible refine gate_callee (f := 35) rfl ?_); refine goesL_ (some 14) rfl rfl Tryd.func35 (by kernel_rfl) rfl #[.string a0] rfl (by (try simp only [List.map_toArray, List.map_cons, List.map_nil]); first | done | rfl | (simp only [List.length_drop, List.length_take]; rfl)) ?_; (with_reducible refine (pennantref01_Length.calls a0 t246 _ A5.out).mono ?_); rintro e w' ⟨rfl, ⟨nd, rfl⟩⟩; refine ⟨_, rfl, ?_⟩))
        go_ret
        exact ⟨by first | rfl | (simp [errW_none, errW_some] <;> rfl) | (simp only [← hji4, ← hji6]; first | rfl | (simp [errW_none, errW_some] <;> rfl)) | (simp [*, errW_none, errW_some] <;> rfl), by repeat (first | (with_reducible first | exact HB.out | apply below_alloc | apply pw_below_drewN | apply below_drew1) | exact HB.out)⟩

/-! ### pennantref01_Find: function 25 -/
def pennantref01_Find.l0 : Nat → ByteArray → ByteArray → Int → Int → Option (Int)
  | 0, _, _, _, _ => none
  | k + 1, x0, x1, x7, x8 => (pennantref01_Length.f x0).bind fun t248 => (if x8 ≤ (wrap64 (t248 - x7)) then ((pennantref01_Cut.f k x0 x8 (wrap64 (x8 + x7))).bind fun t249 => (if 0 ≤ (wrap64 (2 * x7)) then (if (wrap64 (2 * x7)) ≤ (x1.size : Int) then (if t249.toList = (x1.extract 0 ((wrap64 (2 * x7)) : Int).toNat).toList then (some x8) else (pennantref01_Find.l0 k x0 x1 x7 (wrap64 (x8 + 1)))) else (none)) else (none))) else (some (-1)))
def pennantref01_Find.f (k : Nat) (a0 : ByteArray) (a1 : ByteArray) (a2 : Int) : Option (Int) := (pennantref01_Length.f a1).bind fun t247 => (pennantref01_Find.l0 k a0 a1 t247 (mx a2 0))
theorem pennantref01_Find.mono_l : ∀ k, (∀ y0 y1 y2 y3, LeO (pennantref01_Find.l0 k y0 y1 y2 y3) (pennantref01_Find.l0 (k + 1) y0 y1 y2 y3))
  | 0 => fun _ _ _ _ r h => by simp [pennantref01_Find.l0] at h
  | k + 1 => by
    have ih0 := pennantref01_Find.mono_l k
    · intro y0 y1 y2 y3
      unfold pennantref01_Find.l0
      repeat' first
      | (with_reducible exact ih0 _ _ _ _)
      | (with_reducible exact pennantref01_Cut.mono _ _ _ _)
      | (with_reducible exact LeO.refl _)
      | (with_reducible exact LeO.none _)
      | (with_reducible refine LeO.ite ?_ ?_)
      | (with_reducible refine LeO.bind ?_ (fun _ => ?_))
      | exact ih0 _ _ _ _
      | exact pennantref01_Cut.mono _ _ _ _
      | exact LeO.none _
      | refine LeO.ite ?_ ?_
      | refine LeO.bind ?_ (fun _ => ?_)
theorem pennantref01_Find.mono : ∀ a0 a1 a2 k, LeO (pennantref01_Find.f k a0 a1 a2) (pennantref01_Find.f (k + 1) a0 a1 a2) := by
  intro a0 a1 a2 k
  have ih0 := pennantref01_Find.mono_l k
  unfold pennantref01_Find.f
  repeat' first
      | (with_reducible exact ih0 _ _ _ _)
      | (with_reducible exact pennantref01_Cut.mono _ _ _ _)
      | (with_reducible exact LeO.refl _)
      | (with_reducible exact LeO.none _)
      | (with_reducible refine LeO.ite ?_ ?_)
      | (with_reducible refine LeO.bind ?_ (fun _ => ?_))
      | exact ih0 _ _ _ _
      | exact pennantref01_Cut.mono _ _ _ _
      | exact LeO.none _
      | refine LeO.ite ?_ ?_
      | refine LeO.bind ?_ (fun _ => ?_)
def pennantref01_Find.T5 : Bool × List (List Nat × List Nat) := (true, [([], []), ([], []), ([], []), ([], []), ([2, 3], [2, 3]), ([0, 1, 4], [0, 1, 4]), ([], []), ([], []), ([7], [7]), ([6, 8], [6, 8]), ([5, 9], [5, 9])])
def pennantref01_Find.B5 : List Nat := [0, 0, 0, 0, 12, 31, 0, 0, 128, 448, 1023]
theorem pennantref01_Find.tab5 : rtab .any (opsOf Tryd.f25 5) = pennantref01_Find.T5 := by kernel_rfl
theorem pennantref01_Find.bits5 : waitsOk pennantref01_Find.T5.2 pennantref01_Find.B5 = true := by kernel_rfl
set_option maxHeartbeats 8000000 in
set_option maxRecDepth 100000 in
theorem pennantref01_Find.calls (k : Nat) (a0 : ByteArray) (a1 : ByteArray) (a2 : Int) (r : Int) (w : World) (h : pennantref01_Find.f k a0 a1 a2 = some r) :
    Calls Tryd.prog 25 #[.string a0, .string a1, .int .i64 a2] w fun e w' => e = .returned (.int .i64 r) ∧ Below w.heap.size w w' := by
  have HB := Aside0.mk (Below.refl w.heap.size w)
  have H : ((pennantref01_Length.f a1).bind fun t247 => (pennantref01_Find.l0 k a0 a1 t247 (mx a2 0))) = some r := h
  clear h
  replace H := Option.bind_eq_some_iff.mp H
  obtain ⟨t247, A40, H⟩ := H
  replace H : (pennantref01_Find.l0 k a0 a1 t247 (mx a2 0)) = some r := H
  have A4 := Aside0.mk A40
  clear A40
  obtain ⟨ji5, hji5⟩ : ∃ j_ : Int, (mx a2 0) = j_ := ⟨_, rfl⟩
  replace H : (pennantref01_Find.l0 k a0 a1 t247 ji5) = some r := by first | (rw [hji5] at H; exact H) | (simp only [hji5] at H ⊢; exact H)
  (try rw [hji5] at A4)
  (try (have hji5l : 0 ≤ ji5 := by (rw [← hji5]; unfold mx; (repeat' split) <;> omega)))
  (try (have hji5m : 0 ≤ ji5 := by omega))
  have hji5_ : (if a2 < 0 then 0 else a2) = ji5 := hji5
  have H' := Aside0.mk H
  clear H
  go_enter Tryd.func25, Tryd.ntmps25
  go_wp2_with (first | ((with_reducible refine gate_callee (f := 35) rfl ?_); refine goesL_ (some 10) rfl rfl Tryd.func35 (by kernel_rfl) rfl #[.string a1] rfl (by (try simp only [List.map_toArray, List.map_cons, List.map_nil]); first | done | rfl | (simp only [List.length_drop, List.length_take]; rfl)) ?_; (with_reducible refine (pennantref01_Length.calls a1 t247 _ A4.out).mono ?_); rintro e w' ⟨rfl, ⟨nd, rfl⟩⟩; refine ⟨_, rfl, ?_⟩))
  go_loopg [8] k (fun kq v8 w' => ∃ (x8_1 : Int), v8 = .int .i64 x8_1 ∧ Aside0 (pennantref01_Find.l0 kq a0 a1 t247 x8_1 = some r) ∧ Aside0 (kq ≤ k) ∧ Aside0 (Below w.heap.size w w'))
  case atStart => exact ⟨(ji5), (by first | rfl | (simp; done) | (simp only [← hji5] <;> (first | rfl | simp)) | (simp [*]; done)), H', ⟨Nat.le_refl _⟩, ⟨by repeat (first | (with_reducible first | exact HB.out | apply below_alloc | apply pw_below_drewN | apply below_drew1) | exact HB.out)⟩⟩
  case round =>
    clear H'
    try clear c2
    try clear p2
    try clear c3
    obtain ⟨x8_1, rfl, HA, HK1, HB⟩ := hrel
    cases gk with
    | zero => exact absurd HA.out (by simp [pennantref01_Find.l0])
    | succ k1 =>
      have H := HA.out
      clear HA
      simp only [pennantref01_Find.l0] at H
      replace H := Option.bind_eq_some_iff.mp H
      obtain ⟨t248, A60, H⟩ := H
      replace H : (if x8_1 ≤ (wrap64 (t248 - t247)) then ((pennantref01_Cut.f k1 a0 x8_1 (wrap64 (x8_1 + t247))).bind fun t249 => (if 0 ≤ (wrap64 (2 * t247)) then (if (wrap64 (2 * t247)) ≤ (a1.size : Int) then (if t249.toList = (a1.extract 0 ((wrap64 (2 * t247)) : Int).toNat).toList then (some x8_1) else (pennantref01_Find.l0 k1 a0 a1 t247 (wrap64 (x8_1 + 1)))) else (none)) else (none))) else (some (-1))) = some r := H
      have A6 := Aside0.mk A60
      clear A60
      by_cases c7 : x8_1 ≤ (wrap64 (t248 - t247))
      · rw [if_pos c7] at H
        have c7b0 : decide (x8_1 ≤ (wrap64 (t248 - t247))) = true := decide_eq_true c7
        clear c7
        replace H := Option.bind_eq_some_iff.mp H
        obtain ⟨t249, A80, H⟩ := H
        replace H : (if 0 ≤ (wrap64 (2 * t247)) then (if (wrap64 (2 * t247)) ≤ (a1.size : Int) then (if t249.toList = (a1.extract 0 ((wrap64 (2 * t247)) : Int).toNat).toList then (some x8_1) else (pennantref01_Find.l0 k1 a0 a1 t247 (wrap64 (x8_1 + 1)))) else (none)) else (none)) = some r := H
        have A8 := Aside0.mk A80
        clear A80
        obtain ⟨ji9, hji9⟩ : ∃ j_ : Int, (wrap64 (2 * t247)) = j_ := ⟨_, rfl⟩
        replace H : (if 0 ≤ (ji9) then (if (ji9) ≤ (a1.size : Int) then (if t249.toList = (a1.extract 0 ((ji9) : Int).toNat).toList then (some x8_1) else (pennantref01_Find.l0 k1 a0 a1 t247 (wrap64 (x8_1 + 1)))) else (none)) else (none)) = some r := by first | (rw [hji9] at H; exact H) | (simp only [hji9] at H ⊢; exact H)
        (try rw [hji9] at A6)
        (try rw [hji9] at A8)
        have hji9w : (IntKind.i64.wrap (2 * t247)) = ji9 := (i64_w _).trans hji9
        by_cases c10 : 0 ≤ (ji9)
        · rw [if_pos c10] at H
          have c10b0 := eq_true c10
          have c10b1 : decide (0 ≤ (ji9)) = true := decide_eq_true c10
          clear c10
          by_cases c11 : (ji9) ≤ (a1.size : Int)
          · rw [if_pos c11] at H
            have c11b0 := eq_true c11
            have c11b1 : decide ((ji9) ≤ (a1.size : Int)) = true := decide_eq_true c11
            clear c11
            by_cases c12 : t249.toList = (a1.extract 0 ((ji9) : Int).toNat).toList
            · rw [if_pos c12] at H
              have c12b0 : (t249.toList == (a1.extract 0 ((ji9) : Int).toNat).toList) = true := beq_iff_eq.mpr c12
              have c12b1 : (t249.toList != (a1.extract 0 ((ji9) : Int).toNat).toList) = false := bne_eq_false_iff_eq.mpr c12
              clear c12
              obtain rfl := Option.some.inj H
              try go_wp2_with (first | ((with_reducible refine gate_callee (f := 35) rfl ?_); refine goesL_ (some 15) rfl rfl Tryd.func35 (by kernel_rfl) rfl #[.string a0] rfl (by (try simp only [List.map_toArray, List.map_cons, List.map_nil]); first | done | rfl | (simp only [List.length_drop, List.length_take]; rfl)) ?_; (with_reducible refine (pennantref01_Length.calls a0 t248 _ A6.out).mono ?_); rintro e w' ⟨rfl, ⟨nd, rfl⟩⟩; refine ⟨_, rfl, ?_⟩))
              (try (rw [drewN_self wr]; generalize hq_ : World.drewN wr _ = wr; have n0_ : Aside0 (Below w.heap.size w wr) := ⟨by rw [← hq_]; exact (by repeat (first | (with_reducible first | exact HB.out | apply below_alloc | apply pw_below_drewN | apply below_drew1) | exact HB.out))⟩; clear HB hq_; have HB := n0_; clear n0_))
              have n0_ := Aside0.mk (below_drew1 HB.out)
              clear HB
              have HB := n0_
              clear n0_
              refine start_ (n := 11) (S := fun w' => True) (ds := []) #[false, false, false, false, false, false, false, false, false, false, false] (by kernel_rfl) rfl rfl trivial (fun hHeld => ?_); refine with_tabW pennantref01_Find.tab5 pennantref01_Find.bits5 (fun HT_ HW_ => ?_)
              generalize wr.drew = w13 at HB hHeld ⊢
              refine pure_ (i := 0) (N := some 21) (v := ?_) (a' := ?_) #[true, false, false, false, false, false, false, false, false, false, false] rfl rfl (any_of HT_.out (by kernel_rfl)) (fun _ _ _ h => h) (Or.inl ⟨by rfl, ?_⟩) ?_ ?_
              rotate_left
              · intro w'
                go_simp
                with_reducible rfl
              rotate_left
              · simp only [Act.put, List.setIfInBounds_toArray, List.set_cons_zero, List.set_cons_succ, i64_w, i32_w]
                rfl
              refine pure_ (i := 1) (N := some 22) (v := ?_) (a' := ?_) #[true, true, false, false, false, false, false, false, false, false, false] rfl rfl (any_of HT_.out (by kernel_rfl)) (fun _ _ _ h => h) (Or.inl ⟨by rfl, ?_⟩) ?_ ?_
              rotate_left
              · intro w'
                go_simp
                with_reducible rfl
              rotate_left
              · simp only [Act.put, List.setIfInBounds_toArray, List.set_cons_zero, List.set_cons_succ, i64_w, i32_w]
                rfl
              refine pure_ (i := 2) (N := some 23) (v := ?_) (a' := ?_) #[true, true, true, false, false, false, false, false, false, false, false] rfl rfl (any_of HT_.out (by kernel_rfl)) (fun _ _ _ h => h) (Or.inl ⟨by rfl, ?_⟩) ?_ ?_
              rotate_left
              · intro w'
                go_simp
                with_reducible rfl
              rotate_left
              · simp only [Act.put, List.setIfInBounds_toArray, List.set_cons_zero, List.set_cons_succ, i64_w, i32_w]
                rfl
              refine pure_ (i := 3) (N := some 24) (v := ?_) (a' := ?_) #[true, true, true, true, false, false, false, false, false, false, false] rfl rfl (any_of HT_.out (by kernel_rfl)) (fun _ _ _ h => h) (Or.inl ⟨by rfl, ?_⟩) ?_ ?_
              rotate_left
              · intro w'
                go_simp
                with_reducible rfl
              rotate_left
              · simp only [Act.put, List.setIfInBounds_toArray, List.set_cons_zero, List.set_cons_succ, i64_w, i32_w]
                rfl
              refine pure_ (i := 4) (N := some 25) (v := ?_) (a' := ?_) #[true, true, true, true, true, false, false, false, false, false, false] rfl rfl (any_of HT_.out (by kernel_rfl)) (fun _ _ _ h => h) (Or.inl ⟨by rfl, ?_⟩) ?_ ?_
              rotate_left
              · intro w'
                go_simp
                with_reducible rfl
              rotate_left
              · simp only [Act.put, List.setIfInBounds_toArray, List.set_cons_zero, List.set_cons_succ, i64_w, i32_w]
                rfl
              refine pure_ (i := 6) (N := some 27) (v := ?_) (a' := ?_) #[true, true, true, true, true, false, true, false, false, false, false] rfl rfl (any_of HT_.out (by kernel_rfl)) (fun _ _ _ h => h) (Or.inl ⟨by rfl, ?_⟩) ?_ ?_
              rotate_left
              · intro w'
                go_simp
                with_reducible rfl
              rotate_left
              · simp only [Act.put, List.setIfInBounds_toArray, List.set_cons_zero, List.set_cons_succ, i64_w, i32_w]
                rfl
              refine pure_ (i := 7) (N := some 28) (v := ?_) (a' := ?_) #[true, true, true, true, true, false, true, true, false, false, false] rfl rfl (any_of HT_.out (by kernel_rfl)) (fun _ _ _ h => h) (Or.inl ⟨by rfl, ?_⟩) ?_ ?_
              rotate_left
              · intro w'
                go_simp
                with_reducible rfl
              rotate_left
              · simp only [Act.put, List.setIfInBounds_toArray, List.set_cons_zero, List.set_cons_succ, i64_w, i32_w]
                rfl
              refine pure_ (i := 8) (N := some 29) (v := ?_) (a' := ?_) #[true, true, true, true, true, false, true, true, true, false, false] rfl rfl (any_of HT_.out (by kernel_rfl)) (fun _ _ _ h => h) (Or.inl ⟨by rfl, ?_⟩) ?_ ?_
              rotate_left
              · intro w'
                go_simp
                with_reducible rfl
              rotate_left
              · simp only [Act.put, List.setIfInBounds_toArray, List.set_cons_zero, List.set_cons_succ, i64_w, i32_w]
                rfl
              refine pure_ (i := 9) (N := some 30) (v := ?_) (a' := ?_) #[true, true, true, true, true, false, true, true, true, true, false] rfl rfl (any_of HT_.out (by kernel_rfl)) (fun _ _ _ h => h) (Or.inl ⟨by rfl, ?_⟩) ?_ ?_
              rotate_left
              · intro w'
                go_simp
                with_reducible rfl
              rotate_left
              · simp only [Act.put, List.setIfInBounds_toArray, List.set_cons_zero, List.set_cons_succ, i64_w, i32_w]
                rfl
              refine one_ (i := 5) (N := some 26) #[true, true, true, true, true, true, true, true, true, true, false] rfl rfl (one_of HT_.out (by kernel_rfl)) (by decide) (fun K hK => ?_)
              refine goes_ Tryd.func26 (by kernel_rfl) rfl #[.string a0, .int .i64 x8_1, .int .i64 (wrap64 (x8_1 + t247))] (by rfl) rfl rfl (by (try simp only [List.map_toArray, List.map_cons, List.map_nil]); first | done | rfl | (simp only [List.length_drop, List.length_take]; rfl)) ?_
              with_reducible refine (pennantref01_Cut.calls k1 a0 x8_1 (wrap64 (x8_1 + t247)) t249 _ A8.out).mono ?_
              rintro e w14 ⟨rfl, hb⟩
              refine ⟨_, rfl, ?_⟩
              have n0_ := Aside0.mk (below_step (by repeat (first | (with_reducible first | exact HB.out | apply below_alloc | apply pw_below_drewN | apply below_drew1) | exact HB.out)) hb)
              clear HB
              have HB := n0_
              clear n0_
              (try clear hb)
              (try clear hb2)
              (try clear hk)
              (try clear hi)
              refine hK.out _ _ trivial (fun hHeld => ?_)
              clear hK K
              refine norm_ (a' := ?_) ?_ ?_
              rotate_left
              · show Act.put _ (some 26) _ = _
                simp only [Act.put, List.setIfInBounds_toArray, List.set_cons_zero, List.set_cons_succ, i64_w, i32_w]
                rfl
              refine pure_ (i := 10) (N := some 31) (v := ?_) (a' := ?_) #[true, true, true, true, true, true, true, true, true, true, true] rfl rfl (any_of HT_.out (by kernel_rfl)) (fun _ _ _ h => h) (Or.inl ⟨by rfl, ?_⟩) ?_ ?_
              rotate_left
              · intro w'
                go_simp
                with_reducible rfl
              rotate_left
              · simp only [Act.put, List.setIfInBounds_toArray, List.set_cons_zero, List.set_cons_succ, i64_w, i32_w]
                rfl
              refine done_ (done_of HT_.out (by kernel_rfl)) ?_
              try go_wp2
              go_ret
              exact ⟨by first | rfl | (simp [errW_none, errW_some] <;> rfl) | (simp only [← hji5, ← hji9]; first | rfl | (simp [errW_none, errW_some] <;> rfl)) | (simp [*, errW_none, errW_some] <;> rfl), by repeat (first | (with_reducible first | exact HB.out | apply below_alloc | apply pw_below_drewN | apply below_drew1) | exact HB.out)⟩
            · rw [if_neg c12] at H
              have c12b0 : (t249.toList == (a1.extract 0 ((ji9) : Int).toNat).toList) = false := beq_eq_false_iff_ne.mpr c12
              have c12b1 : (t249.toList != (a1.extract 0 ((ji9) : Int).toNat).toList) = true := bne_iff_ne.mpr c12
              have H' := Aside0.mk H
              clear H
              try go_wp2_with (first | ((with_reducible refine gate_callee (f := 35) rfl ?_); refine goesL_ (some 15) rfl rfl Tryd.func35 (by kernel_rfl) rfl #[.string a0] rfl (by (try simp only [List.map_toArray, List.map_cons, List.map_nil]); first | done | rfl | (simp only [List.length_drop, List.length_take]; rfl)) ?_; (with_reducible refine (pennantref01_Length.calls a0 t248 _ A6.out).mono ?_); rintro e w' ⟨rfl, ⟨nd, rfl⟩⟩; refine ⟨_, rfl, ?_⟩))
              (try (rw [drewN_self wr]; generalize hq_ : World.drewN wr _ = wr; have n0_ : Aside0 (Below w.heap.size w wr) := ⟨by rw [← hq_]; exact (by repeat (first | (with_reducible first | exact HB.out | apply below_alloc | apply pw_below_drewN | apply below_drew1) | exact HB.out))⟩; clear HB hq_; have HB := n0_; clear n0_))
              have n0_ := Aside0.mk (below_drew1 HB.out)
              clear HB
              have HB := n0_
              clear n0_
              refine start_ (n := 11) (S := fun w' => True) (ds := []) #[false, false, false, false, false, false, false, false, false, false, false] (by kernel_rfl) rfl rfl trivial (fun hHeld => ?_); refine with_tabW pennantref01_Find.tab5 pennantref01_Find.bits5 (fun HT_ HW_ => ?_)
              generalize wr.drew = w15 at HB hHeld ⊢
              refine pure_ (i := 0) (N := some 21) (v := ?_) (a' := ?_) #[true, false, false, false, false, false, false, false, false, false, false] rfl rfl (any_of HT_.out (by kernel_rfl)) (fun _ _ _ h => h) (Or.inl ⟨by rfl, ?_⟩) ?_ ?_
              rotate_left
              · intro w'
                go_simp
                with_reducible rfl
              rotate_left
              · simp only [Act.put, List.setIfInBounds_toArray, List.set_cons_zero, List.set_cons_succ, i64_w, i32_w]
                rfl
              refine pure_ (i := 1) (N := some 22) (v := ?_) (a' := ?_) #[true, true, false, false, false, false, false, false, false, false, false] rfl rfl (any_of HT_.out (by kernel_rfl)) (fun _ _ _ h => h) (Or.inl ⟨by rfl, ?_⟩) ?_ ?_
              rotate_left
              · intro w'
                go_simp
                with_reducible rfl
              rotate_left
              · simp only [Act.put, List.setIfInBounds_toArray, List.set_cons_zero, List.set_cons_succ, i64_w, i32_w]
                rfl
              refine pure_ (i := 2) (N := some 23) (v := ?_) (a' := ?_) #[true, true, true, false, false, false, false, false, false, false, false] rfl rfl (any_of HT_.out (by kernel_rfl)) (fun _ _ _ h => h) (Or.inl ⟨by rfl, ?_⟩) ?_ ?_
              rotate_left
              · intro w'
                go_simp
                with_reducible rfl
              rotate_left
              · simp only [Act.put, List.setIfInBounds_toArray, List.set_cons_zero, List.set_cons_succ, i64_w, i32_w]
                rfl
              refine pure_ (i := 3) (N := some 24) (v := ?_) (a' := ?_) #[true, true, true, true, false, false, false, false, false, false, false] rfl rfl (any_of HT_.out (by kernel_rfl)) (fun _ _ _ h => h) (Or.inl ⟨by rfl, ?_⟩) ?_ ?_
              rotate_left
              · intro w'
                go_simp
                with_reducible rfl
              rotate_left
              · simp only [Act.put, List.setIfInBounds_toArray, List.set_cons_zero, List.set_cons_succ, i64_w, i32_w]
                rfl
              refine pure_ (i := 4) (N := some 25) (v := ?_) (a' := ?_) #[true, true, true, true, true, false, false, false, false, false, false] rfl rfl (any_of HT_.out (by kernel_rfl)) (fun _ _ _ h => h) (Or.inl ⟨by rfl, ?_⟩) ?_ ?_
              rotate_left
              · intro w'
                go_simp
                with_reducible rfl
              rotate_left
              · simp only [Act.put, List.setIfInBounds_toArray, List.set_cons_zero, List.set_cons_succ, i64_w, i32_w]
                rfl
              refine pure_ (i := 6) (N := some 27) (v := ?_) (a' := ?_) #[true, true, true, true, true, false, true, false, false, false, false] rfl rfl (any_of HT_.out (by kernel_rfl)) (fun _ _ _ h => h) (Or.inl ⟨by rfl, ?_⟩) ?_ ?_
              rotate_left
              · intro w'
                go_simp
                with_reducible rfl
              rotate_left
              · simp only [Act.put, List.setIfInBounds_toArray, List.set_cons_zero, List.set_cons_succ, i64_w, i32_w]
                rfl
              refine pure_ (i := 7) (N := some 28) (v := ?_) (a' := ?_) #[true, true, true, true, true, false, true, true, false, false, false] rfl rfl (any_of HT_.out (by kernel_rfl)) (fun _ _ _ h => h) (Or.inl ⟨by rfl, ?_⟩) ?_ ?_
              rotate_left
              · intro w'
                go_simp
                with_reducible rfl
              rotate_left
              · simp only [Act.put, List.setIfInBounds_toArray, List.set_cons_zero, List.set_cons_succ, i64_w, i32_w]
                rfl
              refine pure_ (i := 8) (N := some 29) (v := ?_) (a' := ?_) #[true, true, true, true, true, false, true, true, true, false, false] rfl rfl (any_of HT_.out (by kernel_rfl)) (fun _ _ _ h => h) (Or.inl ⟨by rfl, ?_⟩) ?_ ?_
              rotate_left
              · intro w'
                go_simp
                with_reducible rfl
              rotate_left
              · simp only [Act.put, List.setIfInBounds_toArray, List.set_cons_zero, List.set_cons_succ, i64_w, i32_w]
                rfl
              refine pure_ (i := 9) (N := some 30) (v := ?_) (a' := ?_) #[true, true, true, true, true, false, true, true, true, true, false] rfl rfl (any_of HT_.out (by kernel_rfl)) (fun _ _ _ h => h) (Or.inl ⟨by rfl, ?_⟩) ?_ ?_
              rotate_left
              · intro w'
                go_simp
                with_reducible rfl
              rotate_left
              · simp only [Act.put, List.setIfInBounds_toArray, List.set_cons_zero, List.set_cons_succ, i64_w, i32_w]
                rfl
              refine one_ (i := 5) (N := some 26) #[true, true, true, true, true, true, true, true, true, true, false] rfl rfl (one_of HT_.out (by kernel_rfl)) (by decide) (fun K hK => ?_)
              refine goes_ Tryd.func26 (by kernel_rfl) rfl #[.string a0, .int .i64 x8_1, .int .i64 (wrap64 (x8_1 + t247))] (by rfl) rfl rfl (by (try simp only [List.map_toArray, List.map_cons, List.map_nil]); first | done | rfl | (simp only [List.length_drop, List.length_take]; rfl)) ?_
              with_reducible refine (pennantref01_Cut.calls k1 a0 x8_1 (wrap64 (x8_1 + t247)) t249 _ A8.out).mono ?_
              rintro e w16 ⟨rfl, hb⟩
              refine ⟨_, rfl, ?_⟩
              have n0_ := Aside0.mk (below_step (by repeat (first | (with_reducible first | exact HB.out | apply below_alloc | apply pw_below_drewN | apply below_drew1) | exact HB.out)) hb)
              clear HB
              have HB := n0_
              clear n0_
              (try clear hb)
              (try clear hb2)
              (try clear hk)
              (try clear hi)
              refine hK.out _ _ trivial (fun hHeld => ?_)
              clear hK K
              refine norm_ (a' := ?_) ?_ ?_
              rotate_left
              · show Act.put _ (some 26) _ = _
                simp only [Act.put, List.setIfInBounds_toArray, List.set_cons_zero, List.set_cons_succ, i64_w, i32_w]
                rfl
              refine pure_ (i := 10) (N := some 31) (v := ?_) (a' := ?_) #[true, true, true, true, true, true, true, true, true, true, true] rfl rfl (any_of HT_.out (by kernel_rfl)) (fun _ _ _ h => h) (Or.inl ⟨by rfl, ?_⟩) ?_ ?_
              rotate_left
              · intro w'
                go_simp
                with_reducible rfl
              rotate_left
              · simp only [Act.put, List.setIfInBounds_toArray, List.set_cons_zero, List.set_cons_succ, i64_w, i32_w]
                rfl
              refine done_ (done_of HT_.out (by kernel_rfl)) ?_
              try go_wp2
              go_roundg k1
              case measure => have := HK1.out; omega
              case rel => exact ⟨(wrap64 (x8_1 + 1)), (by first | rfl | (simp; done) | (simp [*]; done)), H', ⟨by have := HK1.out; omega⟩, ⟨by repeat (first | (with_reducible first | exact HB.out | apply below_alloc | apply pw_below_drewN | apply below_drew1) | exact HB.out)⟩⟩
          · rw [if_neg c11] at H
            exact absurd H (by simp)
        · rw [if_neg c10] at H
          exact absurd H (by simp)
      · rw [if_neg c7] at H
        have c7b0 : decide (x8_1 ≤ (wrap64 (t248 - t247))) = false := decide_eq_false c7
        clear c7
        obtain rfl := Option.some.inj H
        go_wp2_with (first | ((with_reducible refine gate_callee (f := 35) rfl ?_); refine goesL_ (some 15) rfl rfl Tryd.func35 (by kernel_rfl) rfl #[.string a0] rfl (by (try simp only [List.map_toArray, List.map_cons, List.map_nil]); first | done | rfl | (simp only [List.length_drop, List.length_take]; rfl)) ?_; (with_reducible refine (pennantref01_Length.calls a0 t248 _ A6.out).mono ?_); rintro e w' ⟨rfl, ⟨nd, rfl⟩⟩; refine ⟨_, rfl, ?_⟩))
        go_ret
        exact ⟨by first | rfl | (simp [errW_none, errW_some] <;> rfl) | (simp only [← hji5]; first | rfl | (simp [errW_none, errW_some] <;> rfl)) | (simp [*, errW_none, errW_some] <;> rfl), by repeat (first | (with_reducible first | exact HB.out | apply below_alloc | apply pw_below_drewN | apply below_drew1) | exact HB.out)⟩

end Go.Proofs.YtpclncikhlameaaDoor.PUtf
