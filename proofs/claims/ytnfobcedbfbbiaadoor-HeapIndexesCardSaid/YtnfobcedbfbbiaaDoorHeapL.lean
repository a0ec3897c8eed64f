/- slices.Clone of values; Array. -/
import Derived.Test.YtnfobcedbfbbiaaDoorHeapK
namespace Go.Proofs.YtnfobcedbfbbiaaDoor.Hp
open Go.RowKit Go.Proofs.YtnfobcedbfbbiaaDoorW.PrintWords Go.Proofs.YtnfobcedbfbbiaaDoorW.PrintLast Go.Proofs.YtnfobcedbfbbiaaDoorW.PrintMore Go.Proofs.YtnfobcedbfbbiaaDoor.Hand Go.Proofs.YtnfobcedbfbbiaaDoor.PIx Go.Proofs.YtnfobcedbfbbiaaDoor.Pure
set_option linter.unusedVariables false
set_option linter.unusedSimpArgs false
/-- A slice of values that can be read. -/
def Vals (w : World) (v : Value) (its : List Val) : Prop :=
  (v = .slice none 0 0 ∧ its = []) ∨ ∃ ad c, v = .slice (some ad) its.length c ∧ ∀ j u, (its.flatMap Val.vs)[j]? = some u → w.cell? (ad.add j) = some u
theorem vs_len : ∀ its : List Val, (its.flatMap Val.vs).length = its.length * 4
  | [] => rfl
  | v :: t => by
    rw [List.flatMap_cons, List.length_append, vs_len t, List.length_cons]
    show 4 + t.length * 4 = (t.length + 1) * 4
    omega
theorem vs_one (its : List Val) : ∀ u ∈ its.flatMap Val.vs, u.oneCell' = true := by
  intro u hu
  obtain ⟨v, hv, hm⟩ := List.mem_flatMap.1 hu
  simp only [Val.vs, List.mem_cons, List.mem_nil_iff, or_false] at hm
  rcases hm with rfl | rfl | rfl | rfl <;> rfl
def ClonePost (its : List Val) (w : World) (e : Ending) (w' : World) : Prop := ∃ v1, e = .returned v1 ∧ w'.ownsRow w.heap.size 33 4 v1 its.length (its.flatMap Val.vs) ∧ Below w.heap.size w w'
theorem nil_is (w : World) : (binOp BinOp.eql 30 (Value.slice none 0 0) (Value.slice none 0 0)).run Tryd.prog w = .ok (.bool true) w := by kernel_rfl
theorem nil_not (w : World) (ad : Addr) (n c : Nat) : (binOp BinOp.eql 30 (Value.slice (some ad) n c) (Value.slice none 0 0)).run Tryd.prog w = .ok (.bool false) w := by kernel_rfl
set_option maxRecDepth 100000 in
theorem clone_nil (w : World) : Calls Tryd.prog 39 #[.slice none 0 0] w (ClonePost [] w) := by
  have h1 := nil_is
  go_enter Tryd.func39, Tryd.ntmps39
  go_wp2
  go_ret
  exact ⟨_, rfl, own_nil _ _ _ _, Below.refl _ _⟩
set_option maxRecDepth 100000 in
theorem clone_some (w : World) (ad : Addr) (its : List Val) (c : Nat) (hr : ∀ j u, (its.flatMap Val.vs)[j]? = some u → w.cell? (ad.add j) = some u) (hl : its.length ≤ 100000) :
    Calls Tryd.prog 39 #[.slice (some ad) its.length c] w (ClonePost its w) := by
  have HR := Aside0.mk hr
  have HL := Aside0.mk hl
  have h1 := nil_not
  clear hr hl
  go_enter Tryd.func39, Tryd.ntmps39
  obtain ⟨i0, hi, hzz⟩ := Option.map_eq_some_iff.1 info33
  simp only [Prod.mk.injEq] at hzz
  obtain ⟨hz0, hz1, hz2⟩ := hzz
  have HI := Aside0.mk hi
  have HZ0 := Aside0.mk hz0
  have HZ1 := Aside0.mk hz1
  have HZ2 := Aside0.mk hz2
  have HOwn := Aside0.mk (show (w.alloc (.cells #[] 33)).ownsRow w.heap.size 33 4 (.slice (some ⟨w.heap.size, 0, none⟩) 0 0) 0 [] from ⟨rfl, .inr ⟨w.heap.size, 0, #[], rfl, Nat.le_refl _, heap_alloc_new w _, Nat.le_refl _, by decide, rfl, rfl⟩⟩)
  clear hi hz0 hz1 hz2
  go_upto_region 3 with (fail)
  go_wp2_with (at_builtin; go_must (refine wpList_append_own_at (w := w.alloc (.cells #[] 33)) rfl _ _ 30 rfl w.heap.size 33 i0 _ 4 40 Tryd.underlying30 HI.out HZ0.out HZ1.out HZ2.out (by decide) (by decide) _ 0 [] rfl HOwn.out ad its.length c (its.flatMap Val.vs) rfl (vs_len its) (fun j u hj => (World.cell?_alloc_lt _ _ _ (World.block_lt_of_cell? w _ (HR.out j u hj))).trans (HR.out j u hj)) (vs_one its) (by have := HL.out; simp only [maxLen]; omega) (by have := HL.out; omega) (by rw [World.size_alloc]; exact Nat.le_succ _) ?_; intro v1 w1 hown hg _ _; have HO1 := Aside0.mk hown; have HG1 := Aside0.mk hg; clear hown hg))
  go_ret
  refine ⟨_, rfl, ?_, ?_⟩
  · have := HO1.out
    simpa using this
  · exact ((Below.refl w.heap.size w).alloc (Nat.le_refl _) _).grown HG1.out (by rw [World.size_alloc]; exact Nat.le_succ _) (fun k hk => by cases hk; exact Nat.le_refl _)
theorem clone_calls {w : World} {v : Value} {its : List Val} (h : Vals w v its) (hl : its.length ≤ 100000) : Calls Tryd.prog 39 #[v] w (ClonePost its w) := by
  rcases h with ⟨rfl, rfl⟩ | ⟨ad, c, rfl, hr⟩
  · exact clone_nil w
  · exact clone_some w ad its c hr hl
end Go.Proofs.YtnfobcedbfbbiaaDoor.Hp
