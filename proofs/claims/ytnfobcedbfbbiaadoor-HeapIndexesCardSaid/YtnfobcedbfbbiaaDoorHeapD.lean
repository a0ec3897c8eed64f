/- A new heap; a plain object: the contracts of esheap.New, num, (*Heap).Plain, Size. -/
import Derived.Test.YtnfobcedbfbbiaaDoorHeapC
namespace Go.Proofs.YtnfobcedbfbbiaaDoor.Hp
open Go.RowKit Go.Proofs.YtnfobcedbfbbiaaDoorW.PrintWords Go.Proofs.YtnfobcedbfbbiaaDoorW.PrintLast Go.Proofs.YtnfobcedbfbbiaaDoorW.PrintMore Go.Proofs.YtnfobcedbfbbiaaDoor.Hand Go.Proofs.YtnfobcedbfbbiaaDoor.PIx
set_option linter.unusedVariables false
set_option linter.unusedSimpArgs false
attribute [local go_sem] max2_int min2_int max_two min_two max_three min_three max_four min_four
/-- A small heap's bounds. -/
structure Fit (σ : HSt) : Prop where
  left0 : 0 ≤ σ.left
  left1 : σ.left ≤ 10000
  objs : σ.objs.length ≤ 10000
/-- What a method leaves: its answer, the heap's state, old memory. -/
def Post (B p : Nat) (v : Value) (σ : HSt) (w : World) (e : Ending) (w' : World) : Prop := e = .returned v ∧ Below B w w' ∧ HeapOk w' B p σ
def newLeft (c : Int) : Int := min (max c 0) 10000
theorem heap_new (w : World) (B : Nat) (hB : B ≤ w.heap.size) (l : Int) : HeapAt (w.alloc (.cells #[.slice none 0 0, .int .i64 l] 72)) B w.heap.size ⟨[], l⟩ (.slice none 0 0) [] :=
  ⟨heap_alloc_new w _, own_nil _ _ _ _, rfl, fun i L o hi => by simp at hi, by simp [feet, Value.ownBlock], fun b hb => by simp [feet, Value.ownBlock] at hb; omega⟩
theorem new_calls (c : Int) (w : World) : Calls Tryd.prog 13 #[.int .i64 c] w fun e w' => e = .returned (.pointer (some ⟨w.heap.size, 0, none⟩)) ∧ w' = w.alloc (.cells #[.slice none 0 0, .int .i64 (newLeft c)] 72) := by
  go_enter Tryd.func13, Tryd.ntmps13
  go_wp2
  all_goals first
    | (go_ret; exact ⟨rfl, by rw [show newLeft c = 0 by unfold newLeft; omega]⟩)
    | (go_ret; exact ⟨rfl, by rw [show newLeft c = 10000 by unfold newLeft; omega]⟩)
    | (go_ret; exact ⟨rfl, by rw [show newLeft c = c by unfold newLeft; omega]⟩)
theorem num_calls (x : Nat) (w : World) : Calls Tryd.prog 14 #[.float .f64 x] w fun e w' => e = .returned (numV x).agg ∧ Below w.heap.size w w' := by
  go_enter Tryd.func14, Tryd.ntmps14
  go_wp2
  exact bodyPost_ret (v := (numV x).agg) (by simp [results, Tryd.results14, go_sem]) rfl ⟨rfl, by repeat (first | exact Below.refl _ _ | apply below_alloc | apply pw_below_drewN | apply below_drew1)⟩
theorem size_calls {w : World} {B p : Nat} {σ : HSt} (h : HeapOk w B p σ) (hf : Fit σ) :
    Calls Tryd.prog 27 #[.pointer (some ⟨p, 0, none⟩)] w fun e w' => e = .returned (.tuple #[.int .i64 σ.objs.length, .int .i64 σ.left]) ∧ ∃ n, w' = w.drewN n := by
  obtain ⟨ov, Ls, h⟩ := h
  obtain ⟨A, c, rfl, hs⟩ := h.slice
  have hc0 := h.cell0
  have hc1 := h.cell1
  have hl := h.len
  rw [hl] at hc0
  have hb := hf.objs
  clear hs h hl hf
  go_enter Tryd.func27, Tryd.ntmps27
  go_wp2
  repeat (go_quiet (fail); try go_wp2)
  go_ret2
  exact ⟨rfl, by first | exact ⟨0, rfl⟩ | exact ⟨_, rfl⟩⟩
end Go.Proofs.YtnfobcedbfbbiaaDoor.Hp
