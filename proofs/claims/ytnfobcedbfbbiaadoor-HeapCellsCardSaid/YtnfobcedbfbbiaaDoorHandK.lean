/- A script of calls that came in: a slice of structs, each with a slice of values: what its cells say. -/
import Derived.Test.YtnfobcedbfbbiaaDoorHpT
import Derived.Test.YtnfobcedbfbbiaaDoorHandV
import Derived.Deep.Slices
import Derived.Deep.Fields
import Derived.ChangeSame
import Derived.ChangeArms
namespace Go.Proofs.YtnfobcedbfbbiaaDoor.Hp
open Go.ChangeShapes Go.WideShapes Go.Deep Go.RowKit
set_option linter.unusedVariables false
set_option maxRecDepth 100000
section
variable {H : Type} {enc : TypeId × Value → H} {w : World} {base : Nat} {held : Bool}
theorem cells54 : Tryd.prog.cellsOf 54 = 9 := by kernel_rfl
theorem cells33 : Tryd.prog.cellsOf 33 = 4 := by kernel_rfl
theorem cells30 : Tryd.prog.cellsOf 30 = 1 := by kernel_rfl
theorem cells31 : Tryd.prog.cellsOf 31 = 1 := by kernel_rfl
theorem cells9 : Tryd.prog.cellsOf 9 = 1 := by kernel_rfl
theorem cells5 : Tryd.prog.cellsOf 5 = 1 := by kernel_rfl
theorem cells3 : Tryd.prog.cellsOf 3 = 1 := by kernel_rfl
theorem u8_wf {k : Int} (h : (Lit.int .u8 k).wf = true) : 0 ≤ k ∧ k ≤ 255 := by
  have h1 : IntKind.u8.min = 0 := rfl
  have h2 : IntKind.u8.max = 255 := rfl
  simp only [Lit.wf, Bool.and_eq_true, decide_eq_true_eq] at h
  omega
/-- A value's cells. -/
theorem val_of {n : Nat} {cs : List Value} {x : DataW H × List MemPlace} (h : DataW.trod enc Tryd.prog w base (fun _ => true) held n 33 cs = some x) : ∃ v : Val, cs = v.vs := by
  obtain ⟨xs, n', _, hx, hlen, hxl, hf⟩ := DataW.trod_struct Tryd.underlying33 h
  rw [cells33] at hlen
  match cs, hlen, xs, hxl with
  | [c0, c1, c2, c3], _, [y0, y1, y2, y3], _ =>
    have f0 : DataW.trod enc Tryd.prog w base (fun _ => true) held n' 3 (([c0, c1, c2, c3].drop 0).take (Tryd.prog.cellsOf 3)) = some y0 := hf 0 _ rfl
    have f1 : DataW.trod enc Tryd.prog w base (fun _ => true) held n' 31 (([c0, c1, c2, c3].drop 1).take (Tryd.prog.cellsOf 31)) = some y1 := hf 1 _ rfl
    have f2 : DataW.trod enc Tryd.prog w base (fun _ => true) held n' 9 (([c0, c1, c2, c3].drop 2).take (Tryd.prog.cellsOf 9)) = some y2 := hf 2 _ rfl
    have f3 : DataW.trod enc Tryd.prog w base (fun _ => true) held n' 3 (([c0, c1, c2, c3].drop 3).take (Tryd.prog.cellsOf 3)) = some y3 := hf 3 _ rfl
    rw [cells3] at f0 f3
    rw [cells31] at f1
    rw [cells9] at f2
    obtain ⟨k, e0, _, _⟩ := DataW.trod_int Tryd.underlying3 f0
    obtain ⟨z, e1, _, _⟩ := trod_float (show DataW.trod enc Tryd.prog w base (fun _ => true) held n' 31 [c1] = some y1 from f1)
    obtain ⟨s, e2, _, _⟩ := DataW.trod_string Tryd.underlying9 f2
    obtain ⟨q, e3, _, _⟩ := DataW.trod_int Tryd.underlying3 f3
    simp at e0 e2 e3
    subst e0 e1 e2 e3
    exact ⟨⟨k, z, s, q⟩, rfl⟩
/-- The cells of a row of values, out of those of each. -/
theorem flat_cells {a : Addr} : ∀ (n : Nat) (g : Nat → Val), (∀ i, i < n → ∀ j u, (g i).vs[j]? = some u → w.cell? (a.add (i * 4 + j)) = some u) →
    ∀ j u, (((List.range n).map g).flatMap Val.vs)[j]? = some u → w.cell? (a.add j) = some u := by
  intro n
  induction n with
  | zero => intro g _ j u hj; simp at hj
  | succ n ih =>
    intro g hg j u hj
    rw [List.range_succ, List.map_append, List.flatMap_append] at hj
    have hl : (((List.range n).map g).flatMap Val.vs).length = n * 4 := by rw [vs_len]; simp
    by_cases c : j < n * 4
    · rw [List.getElem?_append_left (by omega)] at hj
      exact ih g (fun i hi => hg i (by omega)) j u hj
    · rw [List.getElem?_append_right (by omega), hl] at hj
      simp only [List.map_cons, List.map_nil, List.flatMap_cons, List.flatMap_nil, List.append_nil] at hj
      have := hg n (by omega) _ _ hj
      rwa [show n * 4 + (j - n * 4) = j by omega] at this
/-- A slice of values' cell. -/
theorem vals_of {n : Nat} {v : Value} {x : DataW H × List MemPlace} (h : DataW.trod enc Tryd.prog w base (fun _ => true) held n 30 [v] = some x) : ∃ its, Vals w v its := by
  rcases open_slice Tryd.underlying30 h with ⟨hcs, hx⟩ | ⟨a, len1, cap1, m, n, D, Pl, hcs, hb, hl, hm, hmm, hx, hi⟩
  · simp at hcs
    exact ⟨[], .inl ⟨hcs, rfl⟩⟩
  · simp at hcs
    subst hcs
    simp only [if_true] at hmm
    subst hmm
    rw [cells33] at hi
    have key : ∀ i, i < m → ∃ y : Val, ∀ j u, y.vs[j]? = some u → w.cell? (a.add (i * 4 + j)) = some u := by
      intro i him
      obtain ⟨cs', hc, ht⟩ := hi i him
      obtain ⟨y, rfl⟩ := val_of ht
      obtain ⟨_, _, hat⟩ := World.cells?_some hc
      refine ⟨y, fun j u hj => ?_⟩
      have hj4 : j < 4 := (List.getElem?_eq_some_iff.1 hj).1
      have := hat j hj4
      rw [Go.Deep.add_add] at this
      rw [this]
      exact hj
    have key2 : ∃ g : Nat → Val, ∀ i, i < m → ∀ j u, (g i).vs[j]? = some u → w.cell? (a.add (i * 4 + j)) = some u := by
      refine ⟨fun i => if h : i < m then Classical.choose (key i h) else Val.zero, fun i h => ?_⟩
      simp only [dif_pos h]
      exact Classical.choose_spec (key i h)
    obtain ⟨g, hg⟩ := key2
    refine ⟨(List.range len1).map g, .inr ⟨a, m, by simp, flat_cells len1 g (fun i hi => hg i (by omega))⟩⟩
/-- A call's cells. -/
theorem call_of {n : Nat} {cs : List Value} {x : DataW H × List MemPlace} (h : DataW.trod enc Tryd.prog w base (fun _ => true) held n 54 cs = some x) : ∃ c : CallV, cs = c.cells.toList ∧ CallIn w c := by
  obtain ⟨xs, n', _, hx, hlen, hxl, hf⟩ := DataW.trod_struct Tryd.underlying54 h
  rw [cells54] at hlen
  match cs, hlen, xs, hxl with
  | [c0, c1, c2, c3, c4, c5, c6, c7, c8], _, [y0, y1, y2, y3, y4, y5], _ =>
    have f0 : DataW.trod enc Tryd.prog w base (fun _ => true) held n' 5 (([c0, c1, c2, c3, c4, c5, c6, c7, c8].drop 0).take (Tryd.prog.cellsOf 5)) = some y0 := hf 0 _ rfl
    have f1 : DataW.trod enc Tryd.prog w base (fun _ => true) held n' 3 (([c0, c1, c2, c3, c4, c5, c6, c7, c8].drop 1).take (Tryd.prog.cellsOf 3)) = some y1 := hf 1 _ rfl
    have f2 : DataW.trod enc Tryd.prog w base (fun _ => true) held n' 3 (([c0, c1, c2, c3, c4, c5, c6, c7, c8].drop 2).take (Tryd.prog.cellsOf 3)) = some y2 := hf 2 _ rfl
    have f3 : DataW.trod enc Tryd.prog w base (fun _ => true) held n' 9 (([c0, c1, c2, c3, c4, c5, c6, c7, c8].drop 3).take (Tryd.prog.cellsOf 9)) = some y3 := hf 3 _ rfl
    have f4 : DataW.trod enc Tryd.prog w base (fun _ => true) held n' 33 (([c0, c1, c2, c3, c4, c5, c6, c7, c8].drop 4).take (Tryd.prog.cellsOf 33)) = some y4 := hf 4 _ rfl
    have f5 : DataW.trod enc Tryd.prog w base (fun _ => true) held n' 30 (([c0, c1, c2, c3, c4, c5, c6, c7, c8].drop 8).take (Tryd.prog.cellsOf 30)) = some y5 := hf 5 _ rfl
    rw [cells5] at f0
    rw [cells3] at f1 f2
    rw [cells9] at f3
    rw [cells33] at f4
    rw [cells30] at f5
    obtain ⟨k, e0, _, wk⟩ := DataW.trod_int Tryd.underlying5 f0
    obtain ⟨i1, e1, _, _⟩ := DataW.trod_int Tryd.underlying3 f1
    obtain ⟨i2, e2, _, _⟩ := DataW.trod_int Tryd.underlying3 f2
    obtain ⟨s, e3, _, _⟩ := DataW.trod_string Tryd.underlying9 f3
    obtain ⟨v, e4⟩ := val_of f4
    obtain ⟨its, hits⟩ := vals_of (show DataW.trod enc Tryd.prog w base (fun _ => true) held n' 30 [c8] = some y5 from f5)
    simp at e0 e1 e2 e3
    have e4' : [c4, c5, c6, c7] = [.int .i64 v.kind, .float .f64 v.num, .string v.text, .int .i64 v.ref] := e4
    simp only [List.cons.injEq, and_true] at e4'
    obtain ⟨g4, g5, g6, g7⟩ := e4'
    subst e0 e1 e2 e3 g4 g5 g6 g7
    refine ⟨⟨k, i1, i2, s, v, c8, its⟩, rfl, ?_, hits⟩
    have := (u8_wf wk)
    exact this
/-- A script, as the walks read it. -/
theorem open_script {v : Value} {d : DataW H} {ps : List MemPlace} {r : Reach} {b0 : Nat} (hval : Value.okWide Tryd.prog w r b0 51 v) (hd : DataW.Trod enc Tryd.prog w base (fun _ => true) held 51 v d ps) : ∃ cs, Script w v cs := by
  obtain ⟨A, len, cap, rfl⟩ := okWide_slice Tryd.underlying51 hval
  obtain ⟨fuel, hf⟩ := hd
  rcases open_slice Tryd.underlying51 hf with ⟨hcs, hx⟩ | ⟨a, len1, cap1, m, n, D, Pl, hcs, hb, hl, hm, hmm, hx, hi⟩
  · simp [Value.cells] at hcs
    obtain ⟨rfl, rfl, rfl⟩ := hcs
    exact ⟨[], ⟨none, 0, rfl⟩, fun k c hk => by simp at hk⟩
  · simp [Value.cells] at hcs
    obtain ⟨rfl, rfl, rfl⟩ := hcs
    simp only [if_true] at hmm
    subst hmm
    rw [cells54] at hi
    have key : ∀ i, i < m → ∃ c : CallV, CallIn w c ∧ ∀ j u, c.cells.toList[j]? = some u → w.cell? (a.add (i * 9 + j)) = some u := by
      intro i him
      obtain ⟨cs', hc, ht⟩ := hi i him
      obtain ⟨c, rfl, hin⟩ := call_of ht
      obtain ⟨_, _, hat⟩ := World.cells?_some hc
      refine ⟨c, hin, fun j u hj => ?_⟩
      have hj9 : j < 9 := (List.getElem?_eq_some_iff.1 hj).1
      have := hat j hj9
      rw [Go.Deep.add_add] at this
      rw [this]
      exact hj
    have key2 : ∃ g : Nat → CallV, ∀ i, i < m → CallIn w (g i) ∧ ∀ j u, (g i).cells.toList[j]? = some u → w.cell? (a.add (i * 9 + j)) = some u := by
      refine ⟨fun i => if h : i < m then Classical.choose (key i h) else ⟨0, 0, 0, ⟨#[]⟩, Val.zero, .slice none 0 0, []⟩, fun i h => ?_⟩
      simp only [dif_pos h]
      exact Classical.choose_spec (key i h)
    obtain ⟨g, hg⟩ := key2
    refine ⟨(List.range len).map g, ⟨some a, m, by simp⟩, fun k c hk => ?_⟩
    have hkl : k < len := by
      have := (List.getElem?_eq_some_iff.1 hk).1
      simpa using this
    have hp : g k = c := by
      rw [List.getElem?_map, List.getElem?_range hkl] at hk
      exact Option.some.inj hk
    subst hp
    obtain ⟨hin, hc⟩ := hg k (by omega)
    have h0 := (hg 0 (by omega)).2 0 _ rfl
    obtain ⟨b, o, sp⟩ := a
    obtain rfl : sp = none := cell_spot (show w.cell? ⟨b, o, sp⟩ = some _ from h0)
    simp only [add_none] at hc
    exact ⟨hin, b, o, m, by simp, ⟨hc 0 _ rfl, hc 1 _ rfl, hc 2 _ rfl, hc 3 _ rfl, hc 4 _ rfl, hc 5 _ rfl, hc 6 _ rfl, hc 7 _ rfl, hc 8 _ rfl⟩⟩
end
end Go.Proofs.YtnfobcedbfbbiaaDoor.Hp
