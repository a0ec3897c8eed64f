/- A slice of fields that came in: what its cells say; the bulk that bounds it. -/
import Derived.Test.YtmddmlmmmgbejaaDoorPFldx0
import Derived.Test.YtmddmlmmmgbejaaDoorRows
import Derived.Deep.Slices
import Derived.Deep.Fields
import Derived.ChangeSame
import Derived.ChangeArms
namespace Go.Proofs.YtmddmlmmmgbejaaDoor.Hand
open Go.ChangeShapes Go.WideShapes Go.Deep Go.RowKit Go.Proofs.YtmddmlmmmgbejaaDoorW.PrintWords Go.Proofs.YtmddmlmmmgbejaaDoor.PFld
set_option linter.unusedVariables false
section
variable {H : Type} {enc : TypeId × Value → H} {w : World} {base : Nat} {spare : Nat → Bool} {held : Bool}
theorem cells34 : Tryd.prog.cellsOf 34 = 2 := by kernel_rfl
theorem cells9 : Tryd.prog.cellsOf 9 = 1 := by kernel_rfl
/-- What a field's datum is. -/
def datF (f : S34) : DataW H := .agg [.lit (.string f.f0.data.toList), .lit (.string f.f1.data.toList)]
theorem field_of {n : Nat} {cs : List Value} {x : DataW H × List MemPlace} (h : DataW.trod enc Tryd.prog w base spare held n 34 cs = some x) : ∃ f : S34, cs = [.string f.f0, .string f.f1] ∧ x.1 = datF f := by
  obtain ⟨xs, n', _, hx, hlen, hxl, hf⟩ := DataW.trod_struct Tryd.underlying34 h
  rw [cells34] at hlen
  match cs, hlen, xs, hxl with
  | [c0, c1], _, [y0, y1], _ =>
    have f0 : DataW.trod enc Tryd.prog w base spare held n' 9 (([c0, c1].drop 0).take (Tryd.prog.cellsOf 9)) = some y0 := hf 0 _ rfl
    have f1 : DataW.trod enc Tryd.prog w base spare held n' 9 (([c0, c1].drop 1).take (Tryd.prog.cellsOf 9)) = some y1 := hf 1 _ rfl
    rw [cells9] at f0 f1
    obtain ⟨s0, e0, k0, _⟩ := DataW.trod_string Tryd.underlying9 f0
    obtain ⟨s1, e1, k1, _⟩ := DataW.trod_string Tryd.underlying9 f1
    simp at e0 e1
    subst e0 e1 k0 k1
    exact ⟨⟨s0, s1⟩, rfl, by rw [hx]; rfl⟩
/-- A slice of fields, as the printed callers read it. -/
theorem open_fields {v : Value} {d : DataW H} {ps : List MemPlace} {r : Reach} {b0 : Nat} (hval : Value.okWide Tryd.prog w r b0 23 v) (hd : DataW.Trod enc Tryd.prog w base (fun _ => true) held 23 v d ps) :
    ∃ (A : Option Addr) (c : Nat) (l : List S34), v = .slice A l.length c ∧ l.length ≤ c ∧ c ≤ maxLen ∧ Kd.C k34 w A l.length l ∧ (d = .nil ∧ l = [] ∨ ∃ sp, d = .slice (l.map datF) sp) := by
  obtain ⟨A, len, cap, rfl⟩ := okWide_slice Tryd.underlying23 hval
  obtain ⟨fuel, hf⟩ := hd
  rcases open_slice Tryd.underlying23 hf with ⟨hcs, hx⟩ | ⟨a, len1, cap1, m, n, D, Pl, hcs, hb, hl, hm, hmm, hx, hi⟩
  · simp [Value.cells] at hcs
    obtain ⟨rfl, rfl, rfl⟩ := hcs
    have hx1 := congrArg Prod.fst hx
    exact ⟨none, 0, [], rfl, Nat.le_refl _, Nat.zero_le _, ⟨rfl, by simp, fun h => absurd h (by simp)⟩, .inl ⟨hx1, rfl⟩⟩
  · simp [Value.cells] at hcs
    obtain ⟨rfl, rfl, rfl⟩ := hcs
    simp only [if_true] at hmm
    subst hmm
    rw [cells34] at hi
    have key : ∀ i, i < m → ∃ f : S34, w.cell? (a.add (i * 2)) = some (.string f.f0) ∧ w.cell? (a.add (i * 2 + 1)) = some (.string f.f1) ∧ D i = datF f := by
      intro i him
      obtain ⟨cs', hc, ht⟩ := hi i him
      obtain ⟨f, rfl, hdat⟩ := field_of ht
      obtain ⟨_, _, hat⟩ := World.cells?_some hc
      refine ⟨f, ?_, ?_, hdat⟩
      · have := hat 0 (by omega)
        simpa [Addr.add] using this
      · have := hat 1 (by omega)
        rw [Go.Deep.add_add] at this
        simpa using this
    have key2 : ∃ g : Nat → S34, ∀ i, i < m → w.cell? (a.add (i * 2)) = some (.string (g i).f0) ∧ w.cell? (a.add (i * 2 + 1)) = some (.string (g i).f1) ∧ D i = datF (g i) := by
      refine ⟨fun i => if h : i < m then Classical.choose (key i h) else z34, fun i h => ?_⟩
      simp only [dif_pos h]
      exact Classical.choose_spec (key i h)
    obtain ⟨g, hg⟩ := key2
    have hll : ((List.range len).map g).length = len := by simp
    refine ⟨some a, m, (List.range len).map g, by rw [hll], by rw [hll]; exact hl, hm, ⟨rfl, by rw [hll]; unfold maxLen at hm; omega, fun _ => ⟨a, rfl, fun j p hj => ?_⟩⟩, .inr ⟨(List.range (m - len)).map fun j => D (len + j), ?_⟩⟩
    · have hjl : j < len := by
        have := (List.getElem?_eq_some_iff.1 hj).1
        rwa [hll] at this
      have hp : g j = p := by
        rw [List.getElem?_map, List.getElem?_range hjl] at hj
        exact Option.some.inj hj
      subst hp
      obtain ⟨h0, h1, _⟩ := hg j (by omega)
      refine ⟨[.string (g j).f0, .string (g j).f1], rfl, k34_mk w _, fun i u hu => ?_⟩
      match i, hu with
      | 0, hu => obtain rfl := Option.some.inj hu; exact h0
      | 1, hu => obtain rfl := Option.some.inj hu; exact h1
    · have hx1 := congrArg Prod.fst hx
      simp only at hx1
      rw [hx1]
      congr 1
      rw [List.map_map]
      apply List.map_congr_left
      intro i hi'
      exact (hg i (by have := List.mem_range.1 hi'; omega)).2.2
/-- The bulk bounds each field. -/
theorem bulk_field (f : S34) : f.f0.size + f.f1.size ≤ Rows.uptoBulk (datF (H := H) f) := by
  unfold datF
  simp only [Rows.uptoBulk, Rows.uptoBulkAll, Array.length_toList]
  show f.f0.data.size + f.f1.data.size ≤ _
  omega
theorem bulk_mem {d : DataW H} {l : List (DataW H)} (h : d ∈ l) : Rows.uptoBulk d ≤ Rows.uptoBulkAll l := by
  induction l with
  | nil => cases h
  | cons x r ih =>
    simp only [Rows.uptoBulkAll]
    rcases List.mem_cons.1 h with rfl | h
    · omega
    · have := ih h; omega
theorem bulk_fields {l : List S34} {sp : List (DataW H)} (h : Rows.uptoBulkAll [DataW.slice (l.map datF) sp] ≤ 1048576) : ∀ f ∈ l, f.f0.size ≤ 1048576 ∧ f.f1.size ≤ 1048576 := by
  intro f hf
  have h1 := bulk_field (H := H) f
  have h2 := bulk_mem (List.mem_map.2 ⟨f, hf, rfl⟩ : datF (H := H) f ∈ l.map datF)
  simp only [Rows.uptoBulkAll, Rows.uptoBulk] at h
  omega
theorem bulk_length {l : List S34} {sp : List (DataW H)} (h : Rows.uptoBulkAll [DataW.slice (l.map datF) sp] ≤ 1048576) : l.length ≤ 1048576 := by
  have key : ∀ l : List S34, l.length ≤ Rows.uptoBulkAll (l.map (datF (H := H))) := by
    intro l
    induction l with
    | nil => simp
    | cons f t ih =>
      simp only [List.map_cons, Rows.uptoBulkAll, List.length_cons]
      have : 1 ≤ Rows.uptoBulk (datF (H := H) f) := by unfold datF; simp only [Rows.uptoBulk, Rows.uptoBulkAll]; omega
      omega
  have := key l
  simp only [Rows.uptoBulkAll, Rows.uptoBulk] at h
  omega
end
end Go.Proofs.YtmddmlmmmgbejaaDoor.Hand
