/- HeapIndexes: the walk. -/
import Derived.Test.YtnfobcedbfbbiaaDoorHeapN
import Derived.Test.YtnfobcedbfbbiaaDoorPIxx3
namespace Go.Proofs.YtnfobcedbfbbiaaDoor.Hp
open Go.RowKit Go.Proofs.YtnfobcedbfbbiaaDoorW.PrintWords Go.Proofs.YtnfobcedbfbbiaaDoorW.PrintLast Go.Proofs.YtnfobcedbfbbiaaDoorW.PrintMore Go.Proofs.YtnfobcedbfbbiaaDoor.Hand Go.Proofs.YtnfobcedbfbbiaaDoor.PIx Go.Proofs.YtnfobcedbfbbiaaDoor.Pure
set_option linter.unusedVariables false
set_option linter.unusedSimpArgs false
attribute [local go_sem] max2_int min2_int max_two min_two max_three min_three max_four min_four
theorem awake_true (w : World) : Calls Tryd.prog 8 #[] w fun e w' => e = .returned (.bool true) ∧ Below w.heap.size w w' := awake_calls w
set_option maxRecDepth 100000 in
theorem indexes_long (key : ByteArray) (n : Int) (w : World) (hl : 400 < key.size) : Calls Tryd.prog 3 #[.string key, .int .i64 n] w fun e w' => e = .returned (.bool true) ∧ Below w.heap.size w w' := by
  have HA := fun w => Aside0.mk (awake_true w)
  have d1 : decide (400 < (key.size : Int)) = true := decide_eq_true (by omega)
  clear hl
  go_enter Tryd.func3, Tryd.ntmps3
  go_wp2_with (go_at_call 8; go_must (refine ((HA _).out).mono ?_; rintro e w1 ⟨rfl, hb⟩; have B1 := Aside0.mk hb; clear hb))
  go_ret
  exact ⟨rfl, B1.out⟩
set_option maxHeartbeats 1000000 in
set_option maxRecDepth 100000 in
theorem indexes_walk (key : ByteArray) (n : Int) (w : World) (hT : Tabs w) (hl : ¬ 400 < key.size) (r : Int) (t : ByteArray) (K1 K2 K3 : Nat) (hr : pennantref08_Index.f K1 key = some r) (hk : esheap_Key.f K2 n = some t) (hk2 : pennantref08_Key.f K3 n = some t)
    (h1 : (idxR key).1 = max r 0) (h2 : (idxR key).2 = decide (0 ≤ r)) (h3 : (idxR t).2 = decide (0 ≤ n ∧ n ≤ 2147483647)) (h4 : (idxR t).2 = true → (idxR t).1 = n) (ht : t.size ≤ 1000) :
    Calls Tryd.prog 3 #[.string key, .int .i64 n] w fun e w' => e = .returned (.bool true) ∧ Below w.heap.size w w' := by
  have HA := fun w => Aside0.mk (awake_true w)
  have d1 : decide (400 < (key.size : Int)) = false := decide_eq_false (by omega)
  have HT := Aside0.mk hT
  have HI := fun w => Aside0.mk (index_calls key (by omega) w)
  have HJ := fun w => Aside0.mk (index_calls t (by omega) w)
  have HR := fun w => Aside0.mk (pennantref08_Index.calls K1 key r w hr)
  have HK := fun w hT => Aside0.mk (esheap_Key.calls K2 n t w hT hk)
  have HK2 := fun w => Aside0.mk (pennantref08_Key.calls K3 n t w hk2)
  have hmax : (idxR key).1 = (if r < 0 then 0 else r) := by rw [h1]; split <;> omega
  generalize idxR key = R1 at *
  generalize idxR t = R2 at *
  obtain ⟨a1, b1⟩ := R1
  obtain ⟨a2, b2⟩ := R2
  have h4' : b2 = true → a2 = n := h4
  simp only at h1 h2 h3 hmax
  have dkk : (t.toList == t.toList) = true := beq_self_eq_true _
  clear hT hl hr hk hk2 ht h4 h1
  have hA : a1 = (if r < 0 then 0 else r) := hmax
  by_cases c1 : r < 0
  all_goals by_cases c2 : 0 ≤ n
  all_goals by_cases c3 : n ≤ 2147483647
  all_goals first | (have e1 : decide (0 ≤ r) = true := decide_eq_true (by omega)) | (have e1 : decide (0 ≤ r) = false := decide_eq_false (by omega))
  all_goals first | (have e2 : decide (0 ≤ n) = true := decide_eq_true (by omega)) | (have e2 : decide (0 ≤ n) = false := decide_eq_false (by omega))
  all_goals first | (have e3 : decide (n ≤ 2147483647) = true := decide_eq_true (by omega)) | (have e3 : decide (n ≤ 2147483647) = false := decide_eq_false (by omega))
  all_goals
    rw [e1] at h2
    rw [Bool.decide_and, e2, e3] at h3
    simp only [Bool.and_true, Bool.and_false, Bool.true_and, Bool.false_and] at h3
    subst h2 h3
    first | rw [if_pos c1] at hA | rw [if_neg c1] at hA
    subst hA
    clear hmax
    try (have h5 : a2 = n := h4' rfl; subst h5)
    clear h4'
  all_goals
    go_enter Tryd.func3, Tryd.ntmps3
    go_upto_region 7 with (first | (go_at_call 8; go_must (refine ((HA _).out).mono ?_; rintro e w1 ⟨rfl, hb⟩; have B1 := Aside0.mk hb; clear hb)) | (go_at_call 9; go_must (refine ((HI _).out).mono ?_; rintro e w2 ⟨rfl, hd⟩; obtain ⟨nd, rfl⟩ := hd)) | (go_at_call 10; go_must (refine ((HR _).out).mono ?_; rintro e w3 ⟨rfl, hb⟩; have B3 := Aside0.mk (below_step (pw_below_drewN B1.out nd) hb); clear hb B1)))
    go_upto_region 8 with (first | (go_at_call 11; go_must (refine ((HK _ (Tabs_below HT.out B3.out)).out).mono ?_; rintro e w4 ⟨rfl, hb⟩; have B4 := Aside0.mk (below_step B3.out hb); clear hb B3)) | (go_at_call 9; go_must (refine ((HJ _).out).mono ?_; rintro e w2 ⟨rfl, hd⟩; obtain ⟨nd2, rfl⟩ := hd)))
    go_wp2_with (first | (go_at_call 11; go_must (refine ((HK _ (Tabs_below HT.out (pw_below_drewN B4.out _))).out).mono ?_; rintro e w5 ⟨rfl, hb⟩; have B5 := Aside0.mk (below_step (pw_below_drewN B4.out nd2) hb); clear hb B4)) | (go_at_call 12; go_must (refine ((HK2 _).out).mono ?_; rintro e w6 ⟨rfl, hb⟩; have B6 := Aside0.mk (below_step B5.out hb); clear hb B5)))
    go_ret
    exact ⟨rfl, B6.out⟩
end Go.Proofs.YtnfobcedbfbbiaaDoor.Hp
