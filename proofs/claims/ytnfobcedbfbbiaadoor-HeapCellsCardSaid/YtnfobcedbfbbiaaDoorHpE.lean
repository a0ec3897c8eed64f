/- Is a value right: the contract of (*Heap).right at every value. -/
import Derived.Test.YtnfobcedbfbbiaaDoorHpD
namespace Go.Proofs.YtnfobcedbfbbiaaDoor.Hp
open Go.RowKit Go.Proofs.YtnfobcedbfbbiaaDoorW.PrintWords Go.Proofs.YtnfobcedbfbbiaaDoorW.PrintLast Go.Proofs.YtnfobcedbfbbiaaDoorW.PrintMore Go.Proofs.YtnfobcedbfbbiaaDoor.Hand Go.Proofs.YtnfobcedbfbbiaaDoor.PIx Go.Proofs.YtnfobcedbfbbiaaDoor.Pure
set_option linter.unusedVariables false
set_option linter.unusedSimpArgs false
theorem kinds_of {k : Int} : (k = 0 ∨ k = 1 ∨ k = 2 ∨ k = 3 ∨ k = 4 ∨ k = 5 ∨ k = 6) ∨ (k ≠ 0 ∧ k ≠ 1 ∧ k ≠ 2 ∧ k ≠ 3 ∧ k ≠ 4 ∧ k ≠ 5 ∧ k ≠ 6) := by omega
set_option maxHeartbeats 4000000 in
theorem right_01 {w : World} {p : Nat} (k : Int) (hk : k = 0 ∨ k = 1) (num : Nat) (text : ByteArray) (ref : Int) :
    Calls Tryd.prog 37 #[.pointer (some ⟨p, 0, none⟩), (⟨k, num, text, ref⟩ : Val).agg] w fun e w' => e = .returned (.bool (sameV num 0 && ((text.toList == []) && decide (ref = 0)))) ∧ Below w.heap.size w w' := by
  have HS := fun w => Aside0.mk (same_calls num 0 w)
  generalize sameV num 0 = s at *
  obtain ⟨t, ht⟩ : ∃ t, (text.toList == ([] : List UInt8)) = t := ⟨_, rfl⟩
  obtain ⟨r, hr⟩ : ∃ r, (ref == 0) = r := ⟨_, rfl⟩
  have hr2 : decide (ref = 0) = r := by rw [← hr]; rfl
  rw [ht, hr2]
  have ht2 := Aside0.mk ht
  have hr3 := Aside0.mk hr
  clear hr2
  rcases hk with rfl | rfl <;> cases s <;> cases t <;> cases r
  all_goals
    go_enter Tryd.func37, Tryd.ntmps37
    go_wp2_with (go_at_call 57; refine ((HS _).out).mono ?_; rintro e w' ⟨rfl, rfl⟩)
    go_ret
    exact ⟨rfl, by repeat (first | exact Below.refl _ _ | apply below_alloc | apply pw_below_drewN | apply below_drew1)⟩
set_option maxHeartbeats 4000000 in
theorem right_2 {w : World} {p : Nat} (num : Nat) (text : ByteArray) (ref : Int) :
    Calls Tryd.prog 37 #[.pointer (some ⟨p, 0, none⟩), (⟨2, num, text, ref⟩ : Val).agg] w fun e w' => e = .returned (.bool ((sameV num 0 || feq num 4607182418800017408) && ((text.toList == []) && decide (ref = 0)))) ∧ Below w.heap.size w w' := by
  have HS := fun w => Aside0.mk (same_calls num 0 w)
  generalize sameV num 0 = s at *
  obtain ⟨t, ht⟩ : ∃ t, (text.toList == ([] : List UInt8)) = t := ⟨_, rfl⟩
  obtain ⟨r, hr⟩ : ∃ r, (ref == 0) = r := ⟨_, rfl⟩
  have hr2 : decide (ref = 0) = r := by rw [← hr]; rfl
  obtain ⟨u, hu⟩ : ∃ u, feq num 4607182418800017408 = u := ⟨_, rfl⟩
  rw [ht, hr2, hu]
  have hu2 : (FloatKind.f64.format.order num 4607182418800017408 == some Ordering.eq) = u := hu
  clear hr2 hu
  cases s <;> cases t <;> cases r <;> cases u
  all_goals
    try (have hu3 := feq_t hu2; clear hu2)
    go_enter Tryd.func37, Tryd.ntmps37
    go_wp2_with (go_at_call 57; refine ((HS _).out).mono ?_; rintro e w' ⟨rfl, rfl⟩)
    go_ret
    exact ⟨rfl, by repeat (first | exact Below.refl _ _ | apply below_alloc | apply pw_below_drewN | apply below_drew1)⟩
set_option maxHeartbeats 4000000 in
theorem right_3 {w : World} {p : Nat} (num : Nat) (text : ByteArray) (ref : Int) :
    Calls Tryd.prog 37 #[.pointer (some ⟨p, 0, none⟩), (⟨3, num, text, ref⟩ : Val).agg] w fun e w' => e = .returned (.bool ((text.toList == []) && decide (ref = 0))) ∧ Below w.heap.size w w' := by
  obtain ⟨t, ht⟩ : ∃ t, (text.toList == ([] : List UInt8)) = t := ⟨_, rfl⟩
  obtain ⟨r, hr⟩ : ∃ r, (ref == 0) = r := ⟨_, rfl⟩
  have hr2 : decide (ref = 0) = r := by rw [← hr]; rfl
  rw [ht, hr2]
  clear hr2
  cases t <;> cases r
  all_goals
    go_enter Tryd.func37, Tryd.ntmps37
    go_wp2
    go_ret
    exact ⟨rfl, by repeat (first | exact Below.refl _ _ | apply below_alloc | apply pw_below_drewN | apply below_drew1)⟩
set_option maxHeartbeats 4000000 in
theorem right_4 {w : World} {p : Nat} (num : Nat) (text : ByteArray) (ref : Int) (hts : text.size ≤ 140737488351232) :
    Calls Tryd.prog 37 #[.pointer (some ⟨p, 0, none⟩), (⟨4, num, text, ref⟩ : Val).agg] w fun e w' => e = .returned (.bool (sameV num 0 && decide (ref = 0) && decide (text.size % 2 = 0))) ∧ Below w.heap.size w w' := by
  have HS := fun w => Aside0.mk (same_calls num 0 w)
  generalize sameV num 0 = s at *
  obtain ⟨r, hr⟩ : ∃ r, (ref == 0) = r := ⟨_, rfl⟩
  have hr2 : decide (ref = 0) = r := by rw [← hr]; rfl
  obtain ⟨u, hu⟩ : ∃ u, decide (text.size % 2 = 0) = u := ⟨_, rfl⟩
  have hu2 : ((text.size : Int) % 2 == 0) = u := by rw [← hu, Bool.eq_iff_iff]; simp; omega
  rw [hr2, hu]
  clear hr2 hu
  cases s <;> cases r <;> cases u
  all_goals
    go_enter Tryd.func37, Tryd.ntmps37
    go_wp2_with (go_at_call 57; refine ((HS _).out).mono ?_; rintro e w' ⟨rfl, rfl⟩)
    go_ret
    exact ⟨rfl, by repeat (first | exact Below.refl _ _ | apply below_alloc | apply pw_below_drewN | apply below_drew1)⟩
set_option maxHeartbeats 4000000 in
theorem right_56 {w : World} {B p : Nat} {K : List (Nat × Obj)} {σ : HSt} {ov : Value} {Ls : List Lay} (h : HeapAt w B K p σ ov Ls) (hn : σ.objs.length ≤ 100000) (k : Int) (hk : k = 5 ∨ k = 6) (num : Nat) (text : ByteArray) (ref : Int) :
    Calls Tryd.prog 37 #[.pointer (some ⟨p, 0, none⟩), (⟨k, num, text, ref⟩ : Val).agg] w fun e w' => e = .returned (.bool (sameV num 0 && (text.toList == []) && decide (0 ≤ ref) && (decide (k = 6) || decide (ref < σ.objs.length)))) ∧ Below w.heap.size w w' := by
  have HS := fun w => Aside0.mk (same_calls num 0 w)
  generalize sameV num 0 = s at *
  obtain ⟨t, ht⟩ : ∃ t, (text.toList == ([] : List UInt8)) = t := ⟨_, rfl⟩
  obtain ⟨r, hr⟩ : ∃ r, decide (0 ≤ ref) = r := ⟨_, rfl⟩
  obtain ⟨u, hu⟩ : ∃ u, decide (ref < σ.objs.length) = u := ⟨_, rfl⟩
  rw [ht, hr, hu]
  have hp := h.top_lt
  have q := eq_true hp
  obtain ⟨A, c, rfl, _⟩ := h.slice
  have hc0 := h.cell0
  rw [h.len] at hc0
  clear h
  rcases hk with rfl | rfl <;> cases s <;> cases t <;> cases r <;> cases u
  all_goals
    go_enter Tryd.func37, Tryd.ntmps37
    go_wp2
    go_quiet ((go_at_call 57; exact Calls.quiet_of_same ((HS _).out)))
    go_wp2
    go_ret
    exact ⟨rfl, by repeat (first | exact Below.refl _ _ | apply below_alloc | apply pw_below_drewN | apply below_drew1)⟩
set_option maxHeartbeats 4000000 in
theorem right_no {w : World} {p : Nat} (k : Int) (h0 : k ≠ 0) (h1 : k ≠ 1) (h2 : k ≠ 2) (h3 : k ≠ 3) (h4 : k ≠ 4) (h5 : k ≠ 5) (h6 : k ≠ 6) (num : Nat) (text : ByteArray) (ref : Int) :
    Calls Tryd.prog 37 #[.pointer (some ⟨p, 0, none⟩), (⟨k, num, text, ref⟩ : Val).agg] w fun e w' => e = .returned (.bool false) ∧ Below w.heap.size w w' := by
  have d0 : (k == 0) = false := beq_eq_false_iff_ne.mpr h0
  have d1 : (k == 1) = false := beq_eq_false_iff_ne.mpr h1
  have d2 : (k == 2) = false := beq_eq_false_iff_ne.mpr h2
  have d3 : (k == 3) = false := beq_eq_false_iff_ne.mpr h3
  have d4 : (k == 4) = false := beq_eq_false_iff_ne.mpr h4
  have d5 : (k == 5) = false := beq_eq_false_iff_ne.mpr h5
  have d6 : (k == 6) = false := beq_eq_false_iff_ne.mpr h6
  go_enter Tryd.func37, Tryd.ntmps37
  go_wp2
  go_ret
  exact ⟨rfl, by repeat (first | exact Below.refl _ _ | apply below_alloc | apply pw_below_drewN | apply below_drew1)⟩
theorem right_calls {w : World} {B p : Nat} {K : List (Nat × Obj)} {σ : HSt} {ov : Value} {Ls : List Lay} (h : HeapAt w B K p σ ov Ls) (hn : σ.objs.length ≤ 100000) (v : Val) (hts : v.text.size ≤ 140737488351232) :
    Calls Tryd.prog 37 #[.pointer (some ⟨p, 0, none⟩), v.agg] w fun e w' => e = .returned (.bool (rightV σ.objs.length v)) ∧ Below w.heap.size w w' := by
  obtain ⟨k, num, text, ref⟩ := v
  unfold rightV bareV
  simp only
  rcases kinds_of (k := k) with h1 | ⟨h0, h1, h2, h3, h4, h5, h6⟩
  · rcases h1 with rfl | rfl | rfl | rfl | rfl | rfl | rfl
    · exact right_01 0 (.inl rfl) num text ref
    · exact right_01 1 (.inr rfl) num text ref
    · exact right_2 num text ref
    · exact right_3 num text ref
    · exact right_4 num text ref hts
    · exact right_56 h hn 5 (.inl rfl) num text ref
    · exact right_56 h hn 6 (.inr rfl) num text ref
  · rw [if_neg (by omega), if_neg h2, if_neg h3, if_neg h4, if_neg (by omega)]
    exact right_no k h0 h1 h2 h3 h4 h5 h6 num text ref
end Go.Proofs.YtnfobcedbfbbiaaDoor.Hp
