/- A plain object more: the contract of (*Heap).Plain. -/
import Derived.Test.YtnfobcedbfbbiaaDoorHeapD
namespace Go.Proofs.YtnfobcedbfbbiaaDoor.Hp
open Go.RowKit Go.Proofs.YtnfobcedbfbbiaaDoorW.PrintWords Go.Proofs.YtnfobcedbfbbiaaDoorW.PrintLast Go.Proofs.YtnfobcedbfbbiaaDoorW.PrintMore Go.Proofs.YtnfobcedbfbbiaaDoor.Hand Go.Proofs.YtnfobcedbfbbiaaDoor.PIx
set_option linter.unusedVariables false
set_option linter.unusedSimpArgs false
theorem at_nil {w : World} {B p : Nat} {σ : HSt} {ov : Value} {Ls : List Lay} (h : HeapAt w B p σ ov Ls) (hn : Ls.length ≤ 100000) (i : Int) (hi : ¬ (0 ≤ i ∧ i < Ls.length)) :
    Calls Tryd.prog 40 #[.pointer (some ⟨p, 0, none⟩), .int .i64 i] w fun e w' => e = .returned (.pointer none) ∧ w' = w := by
  have := at_calls h hn i
  rwa [atV_none hi] at this
theorem at_obj {w : World} {B p : Nat} {σ : HSt} {ov : Value} {Ls : List Lay} (h : HeapAt w B p σ ov Ls) (hn : Ls.length ≤ 100000) (i : Int) (h0 : 0 ≤ i) {L : Lay} (hL : Ls[i.toNat]? = some L) :
    Calls Tryd.prog 40 #[.pointer (some ⟨p, 0, none⟩), .int .i64 i] w fun e w' => e = .returned (.pointer (some ⟨L.ob, 0, none⟩)) ∧ w' = w := by
  have := at_calls h hn i
  rwa [atV_some h0 hL] at this
/-- Is there such an object? -/
abbrev Has (σ : HSt) (i : Int) : Prop := 0 ≤ i ∧ i < σ.objs.length
def plainS (σ : HSt) (pr : Int) : Int × Int × HSt :=
  if pr ≠ -1 ∧ ¬ Has σ pr then (0, 3, σ) else if σ.left < 1 then (0, 112, σ) else (σ.objs.length, 0, ⟨σ.objs ++ [⟨1, pr, 0, 0, 0, [], [], []⟩], σ.left - 1⟩)
def Left (B p : Nat) (v : Value) (σ : HSt) (w : World) (e : Ending) (w' : World) : Prop := e = .returned v ∧ Below B w w' ∧ HeapOk w' B p σ
theorem Left.same {B p : Nat} {v : Value} {σ : HSt} {w w' : World} {ov : Value} {Ls : List Lay} (h : HeapAt w B p σ ov Ls) (hb : Below w.heap.size w w') : Left B p v σ w (.returned v) w' :=
  ⟨rfl, hb.mono h.base, ov, Ls, h.below hb⟩
/-- One object more, or no room. -/
def addS (σ : HSt) (o : OSt) (c : Int) : Int × Int × HSt := if σ.left < c then (0, 112, σ) else (σ.objs.length, 0, ⟨σ.objs ++ [o], σ.left - c⟩)
theorem add_new {w : World} {B p : Nat} {σ : HSt} {ov : Value} {Ls : List Lay} (h : HeapAt w B p σ ov Ls) (hf : Fit σ) (k pr a b sc : Int) :
    Calls Tryd.prog 38 #[.pointer (some ⟨p, 0, none⟩), .pointer (some ⟨w.heap.size, 0, none⟩), .int .i64 1] (w.alloc (.cells #[.int .i64 k, .int .i64 pr, .int .i64 a, .int .i64 b, .int .i64 sc, .slice none 0 0, .map none, .slice none 0 0] 78))
      (Left B p (.tuple #[.int .i64 (addS σ ⟨k, pr, a, b, sc, [], [], []⟩ 1).1, .int .i64 (addS σ ⟨k, pr, a, b, sc, [], [], []⟩ 1).2.1]) (addS σ ⟨k, pr, a, b, sc, [], [], []⟩ 1).2.2 w) := by
  have h1 := h.alloc (.cells #[.int .i64 k, .int .i64 pr, .int .i64 a, .int .i64 b, .int .i64 sc, .slice none 0 0, .map none, .slice none 0 0] 78)
  have hb1 : Below B w (w.alloc (.cells #[.int .i64 k, .int .i64 pr, .int .i64 a, .int .i64 b, .int .i64 sc, .slice none 0 0, .map none, .slice none 0 0] 78)) := (Below.refl _ _).alloc h.base _
  unfold addS
  by_cases c1 : σ.left < 1
  · rw [if_pos c1]
    refine (add_full h1 w.heap.size 1 c1).mono ?_
    rintro e w' ⟨rfl, rfl⟩
    exact ⟨rfl, hb1, ov, Ls, h1⟩
  · rw [if_neg c1]
    have f1 := hf.left1
    have f2 := hf.objs
    refine (add_room h1 w.heap.size 1 k pr a b sc (.slice none 0 0) [] (heap_alloc_new w _) (fun hm => by have := h.feet_lt _ hm; omega) h.base (own_nil _ _ _ _) (fun q hq => by cases hq) (by omega) (by omega) (by omega) (by rw [h.len]; omega)).mono ?_
    rintro e w' ⟨rfl, hb, ov', mb, hh⟩
    exact ⟨by rw [h.len], hb1.trans hb, ov', _, hh⟩
theorem plain_calls {w : World} {B p : Nat} {σ : HSt} (hok : HeapOk w B p σ) (hf : Fit σ) (pr : Int) :
    Calls Tryd.prog 21 #[.pointer (some ⟨p, 0, none⟩), .int .i64 pr] w (Left B p (.tuple #[.int .i64 (plainS σ pr).1, .int .i64 (plainS σ pr).2.1]) (plainS σ pr).2.2 w) := by
  obtain ⟨ov, Ls, h⟩ := hok
  have hl := h.len
  have hn : Ls.length ≤ 100000 := by have := hf.objs; omega
  have HA := Aside0.mk (add_new h hf 1 pr 0 0 0)
  by_cases c1 : pr = -1
  · have d1 : (pr == -1) = true := beq_iff_eq.mpr c1
    have d2 : (pr != -1) = false := bne_eq_false_iff_eq.mpr c1
    have e : plainS σ pr = addS σ ⟨1, pr, 0, 0, 0, [], [], []⟩ 1 := by unfold plainS addS; rw [if_neg (fun hh => hh.1 c1)]
    rw [e]
    generalize addS σ ⟨1, pr, 0, 0, 0, [], [], []⟩ 1 = R at *
    obtain ⟨r1, r2, σ'⟩ := R
    clear h hl hn hf e c1
    go_enter Tryd.func21, Tryd.ntmps21
    go_wp2_with (go_at_call 38; refine (HA.out).mono ?_; rintro e w' ⟨rfl, hb, hok⟩)
    go_ret2
    exact ⟨rfl, hb, hok⟩
  · have d1 : (pr == -1) = false := beq_eq_false_iff_ne.mpr c1
    have d2 : (pr != -1) = true := bne_iff_ne.mpr c1
    by_cases c2 : Has σ pr
    · have e : plainS σ pr = addS σ ⟨1, pr, 0, 0, 0, [], [], []⟩ 1 := by unfold plainS addS; rw [if_neg (fun hh => hh.2 c2)]
      rw [e]
      generalize addS σ ⟨1, pr, 0, 0, 0, [], [], []⟩ 1 = R at *
      obtain ⟨r1, r2, σ'⟩ := R
      have hlt : pr.toNat < Ls.length := by have := c2.1; have := c2.2; omega
      have HC := Aside0.mk (at_obj h hn pr c2.1 (List.getElem?_eq_getElem hlt))
      clear h hl hn hf e c1 c2
      go_enter Tryd.func21, Tryd.ntmps21
      go_wp2_with (first | (go_at_call 40; refine (HC.out).mono ?_; rintro e w' ⟨rfl, rfl⟩) | (go_at_call 38; refine (HA.out).mono ?_; rintro e w' ⟨rfl, hb, hok⟩))
      go_ret2
      exact ⟨rfl, hb, hok⟩
    · have e : plainS σ pr = (0, 3, σ) := by unfold plainS; rw [if_pos ⟨c1, c2⟩]
      rw [e]
      have HC := Aside0.mk (at_nil h hn pr (by rw [hl]; exact c2))
      have HFin := Aside0.mk (fun w' hb => Left.same (v := .tuple #[.int .i64 0, .int .i64 3]) (w' := w') h hb)
      clear h hl hn hf e c1 c2
      go_enter Tryd.func21, Tryd.ntmps21
      go_wp2_with (go_at_call 40; refine (HC.out).mono ?_; rintro e w' ⟨rfl, rfl⟩)
      go_ret2
      exact HFin.out _ (Below.refl _ _)
end Go.Proofs.YtnfobcedbfbbiaaDoor.Hp
