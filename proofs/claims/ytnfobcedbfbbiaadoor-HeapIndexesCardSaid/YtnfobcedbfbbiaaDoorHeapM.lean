/- Array. -/
import Derived.Test.YtnfobcedbfbbiaaDoorHeapL
namespace Go.Proofs.YtnfobcedbfbbiaaDoor.Hp
open Go.RowKit Go.Proofs.YtnfobcedbfbbiaaDoorW.PrintWords Go.Proofs.YtnfobcedbfbbiaaDoorW.PrintLast Go.Proofs.YtnfobcedbfbbiaaDoorW.PrintMore Go.Proofs.YtnfobcedbfbbiaaDoor.Hand Go.Proofs.YtnfobcedbfbbiaaDoor.PIx Go.Proofs.YtnfobcedbfbbiaaDoor.Pure
set_option linter.unusedVariables false
set_option linter.unusedSimpArgs false
theorem add_items {W : World} {B p : Nat} {σ : HSt} {ov : Value} {Ls : List Lay} (h : HeapAt W B p σ ov Ls) (hf : Fit σ) (N : Nat) (iv : Value) (its : List Val) (hiv : W.ownsRow N 33 4 iv its.length (its.flatMap Val.vs)) (hN : B ≤ N) (hfr : ∀ b ∈ feet p ov Ls, b < N) :
    Calls Tryd.prog 38 #[.pointer (some ⟨p, 0, none⟩), .pointer (some ⟨W.heap.size, 0, none⟩), .int .i64 (1 + its.length : Int)] (W.alloc (.cells #[.int .i64 2, .int .i64 (-1), .int .i64 0, .int .i64 0, .int .i64 0, .slice none 0 0, .map none, iv] 78))
      (Left B p (.tuple #[.int .i64 (addS σ ⟨2, -1, 0, 0, 0, [], [], its⟩ (1 + its.length)).1, .int .i64 (addS σ ⟨2, -1, 0, 0, 0, [], [], its⟩ (1 + its.length)).2.1]) (addS σ ⟨2, -1, 0, 0, 0, [], [], its⟩ (1 + its.length)).2.2 W) := by
  have h1 := h.alloc (.cells #[.int .i64 2, .int .i64 (-1), .int .i64 0, .int .i64 0, .int .i64 0, .slice none 0 0, .map none, iv] 78)
  have hb1 : Below B W (W.alloc (.cells #[.int .i64 2, .int .i64 (-1), .int .i64 0, .int .i64 0, .int .i64 0, .slice none 0 0, .map none, iv] 78)) := (Below.refl _ _).alloc h.base _
  unfold addS
  by_cases c1 : σ.left < 1 + its.length
  · rw [if_pos c1]
    refine (add_full h1 W.heap.size _ c1).mono ?_
    rintro e w' ⟨rfl, rfl⟩
    exact ⟨rfl, hb1, ov, Ls, h1⟩
  · rw [if_neg c1]
    have f1 := hf.left1
    have f2 := hf.objs
    refine (add_room h1 W.heap.size (1 + its.length) 2 (-1) 0 0 0 iv its (heap_alloc_new W _) (fun hm => by have := h.feet_lt _ hm; omega) h.base (own_alloc (own_less hiv hN) _) (fun q hq => ⟨fun hm => by have := hfr q hm; have := own_base hiv q hq; omega, fun e => by have := own_lt hiv q hq; omega⟩) (by omega) (by omega) (by omega) (by rw [h.len]; omega)).mono ?_
    rintro e w' ⟨rfl, hb, ov', mb, hh⟩
    exact ⟨by rw [h.len], hb1.trans hb, ov', _, hh⟩
theorem vals_own {w : World} {C : Nat} {v : Value} {its : List Val} (h : w.ownsRow C 33 4 v its.length (its.flatMap Val.vs)) : Vals w v its := by
  obtain ⟨h1, h2⟩ := h
  rcases h2 with ⟨rfl, h0⟩ | ⟨g, cap, cur, rfl, hb, hg, hc, hm, hs, ht⟩
  · exact .inl ⟨rfl, List.eq_nil_of_length_eq_zero h0⟩
  · refine .inr ⟨⟨g, 0, none⟩, cap, rfl, fun j u hj => ?_⟩
    have hjl : j < its.length * 4 := by rw [← vs_len]; exact (List.getElem?_eq_some_iff.1 hj).1
    have e : (⟨g, 0, none⟩ : Addr).add j = ⟨g, j, none⟩ := by
      unfold Addr.add
      by_cases hz : j = 0
      · subst hz; rfl
      · simp [hz]
    rw [e, cell_in hg, ← hj, ← ht, List.getElem?_take_of_lt (by omega)]
    simp
set_option maxHeartbeats 4000000 in
set_option maxRecDepth 100000 in
theorem array_gen {w : World} {B p : Nat} {σ : HSt} {ov : Value} {Ls : List Lay} (h : HeapAt w B p σ ov Ls) (hf : Fit σ) (C : Nat) (v : Value) (its : List Val) (hv : w.ownsRow C 33 4 v its.length (its.flatMap Val.vs)) (hl : its.length ≤ 100000)
    (HR : ∀ x ∈ its, ∀ w1, HeapAt w1 B p σ ov Ls → Calls Tryd.prog 37 #[.pointer (some ⟨p, 0, none⟩), x.agg] w1 fun e w' => e = .returned (.bool true) ∧ Below w1.heap.size w1 w')
    (r1 r2 : Int) (Q : World → World → Prop) (HAdd : ∀ W iv, Below w.heap.size w W → W.ownsRow w.heap.size 33 4 iv its.length (its.flatMap Val.vs) → Calls Tryd.prog 38 #[.pointer (some ⟨p, 0, none⟩), .pointer (some ⟨W.heap.size, 0, none⟩), .int .i64 (1 + its.length : Int)] (W.alloc (.cells #[.int .i64 2, .int .i64 (-1), .int .i64 0, .int .i64 0, .int .i64 0, .slice none 0 0, .map none, iv] 78)) fun e w' => e = .returned (.tuple #[.int .i64 r1, .int .i64 r2]) ∧ Q W w') :
    Calls Tryd.prog 15 #[.pointer (some ⟨p, 0, none⟩), v] w fun e w' => e = .returned (.tuple #[.int .i64 r1, .int .i64 r2]) ∧ ∃ W, Below w.heap.size w W ∧ Q W w' := by
  obtain ⟨A, c, hvv⟩ := own_slice hv
  subst hvv
  have H := Aside0.mk h
  have HF := Aside0.mk hf
  have HV := Aside0.mk hv
  have HLn := Aside0.mk hl
  have HRR := Aside0.mk HR
  have HB := Aside0.mk (Below.refl w.heap.size w)
  have HAdd := Aside0.mk HAdd
  clear h hf hv HR hl
  go_enter Tryd.func15, Tryd.ntmps15
  go_wp2
  go_loopg [10] (its.length + 1) (fun kq v10 w' => ∃ k : Nat, v10 = .int .i64 k ∧ Aside0 (k + kq = its.length + 1) ∧ Aside0 (Below w.heap.size w w'))
  case atStart => exact ⟨0, rfl, ⟨by omega⟩, HB⟩
  case round =>
    clear HB
    obtain ⟨k, rfl, HK, HB⟩ := hrel
    have h1 := H.out.below HB.out
    have hv1 := own_move HV.out (fun q hq => HB.out.block q (own_lt HV.out q hq))
    by_cases c1 : k < its.length
    · have d1 : decide ((k : Int) < (its.length : Int)) = true := decide_eq_true (by omega)
      obtain ⟨g, cc, e0, hg, y0, y1, y2, y3, yf⟩ := items_at hv1 (List.getElem?_eq_getElem c1)
      have hmem := List.getElem_mem c1
      generalize its[k] = x at *
      have HR1 := HRR.out x hmem
      injection e0 with e1 e2 e3
      subst e1
      have hgl : g < wr.heap.size := (World.block_lt_of_cell? wr ⟨g, k * 4, none⟩ y0)
      have HRx := Aside0.mk (HR1 _ (h1.alloc (.cells #[.int .i64 x.kind, .float .f64 x.num, .string x.text, .int .i64 x.ref] 33)))
      have HBx := Aside0.mk (HB.out.alloc HB.out.size (.cells #[.int .i64 x.kind, .float .f64 x.num, .string x.text, .int .i64 x.ref] 33))
      cases gk with
      | zero => exact absurd HK.out (by omega)
      | succ k1 =>
        clear h1 hv1 HR1 hmem e2 e3 hg hgl HB
        go_wp2_with (go_at_call 37; go_must (refine (HRx.out).mono ?_; rintro e w5 ⟨rfl, hb⟩; have HB5 := Aside0.mk (below_step HBx.out hb); clear hb HRx))
        go_roundg k1
        case measure => have := HK.out; omega
        case rel => exact ⟨k + 1, by rw [show wrap64 ((k : Int) + 1) = ((k + 1 : Nat) : Int) by have := HLn.out; unfold wrap64; omega], ⟨by have := HK.out; omega⟩, HB5⟩
    · have d1 : decide (k < its.length) = false := decide_eq_false c1
      have HCl := Aside0.mk (clone_calls (vals_own hv1) HLn.out)
      have hsz := HB.out.size
      have hw : wrap64 (1 + (its.length : Int)) = 1 + its.length := by have := HLn.out; unfold wrap64; omega
      have HSZ := Aside0.mk hsz
      clear h1 hv1 hsz c1
      go_wp2_with (first | (go_at_call 39; go_must (refine (HCl.out).mono ?_; rintro e w5 ⟨iv, rfl, hown, hb⟩; obtain ⟨A1, c2, rfl⟩ := own_slice hown; have HB5 := Aside0.mk (below_step HB.out hb); have HO5 := Aside0.mk (own_less hown HSZ.out); clear hb hown HCl)) | (go_at_call 38; go_must (refine (HAdd.out w5 _ HB5.out HO5.out).mono ?_; rintro e w6 ⟨rfl, hq⟩)))
      go_ret2
      exact ⟨rfl, w5, HB5.out, hq⟩
theorem array_calls {w : World} {B p : Nat} {σ : HSt} {ov : Value} {Ls : List Lay} (h : HeapAt w B p σ ov Ls) (hf : Fit σ) (C : Nat) (v : Value) (its : List Val) (hv : w.ownsRow C 33 4 v its.length (its.flatMap Val.vs)) (hl : its.length ≤ 100000)
    (HR : ∀ x ∈ its, ∀ w1, HeapAt w1 B p σ ov Ls → Calls Tryd.prog 37 #[.pointer (some ⟨p, 0, none⟩), x.agg] w1 fun e w' => e = .returned (.bool true) ∧ Below w1.heap.size w1 w') :
    Calls Tryd.prog 15 #[.pointer (some ⟨p, 0, none⟩), v] w (Left B p (.tuple #[.int .i64 (addS σ ⟨2, -1, 0, 0, 0, [], [], its⟩ (1 + its.length)).1, .int .i64 (addS σ ⟨2, -1, 0, 0, 0, [], [], its⟩ (1 + its.length)).2.1]) (addS σ ⟨2, -1, 0, 0, 0, [], [], its⟩ (1 + its.length)).2.2 w) := by
  refine (array_gen h hf C v its hv hl HR _ _ (fun W w' => Below B W w' ∧ HeapOk w' B p (addS σ ⟨2, -1, 0, 0, 0, [], [], its⟩ (1 + its.length)).2.2) (fun W iv hb hiv => (add_items (h.below hb) hf w.heap.size iv its hiv h.base h.feet_lt).mono (fun e w' hh => hh))).mono ?_
  rintro e w' ⟨rfl, W, hb, hb2, hok⟩
  exact ⟨rfl, (hb.mono h.base).trans hb2, hok⟩
/-- No room for it: nothing old is touched. -/
theorem array_full {w : World} {B p : Nat} {σ : HSt} {ov : Value} {Ls : List Lay} (h : HeapAt w B p σ ov Ls) (hf : Fit σ) (C : Nat) (v : Value) (its : List Val) (hv : w.ownsRow C 33 4 v its.length (its.flatMap Val.vs)) (hl : its.length ≤ 100000)
    (HR : ∀ x ∈ its, ∀ w1, HeapAt w1 B p σ ov Ls → Calls Tryd.prog 37 #[.pointer (some ⟨p, 0, none⟩), x.agg] w1 fun e w' => e = .returned (.bool true) ∧ Below w1.heap.size w1 w') (hlt : σ.left < 1 + its.length) :
    Calls Tryd.prog 15 #[.pointer (some ⟨p, 0, none⟩), v] w fun e w' => e = .returned (.tuple #[.int .i64 0, .int .i64 112]) ∧ Below w.heap.size w w' := by
  refine (array_gen h hf C v its hv hl HR 0 112 (fun W w' => Below W.heap.size W w') (fun W iv hb hiv => (add_full ((h.below hb).alloc _) W.heap.size _ hlt).mono (fun e w' hh => ⟨hh.1, by rw [hh.2]; exact (Below.refl _ _).alloc (Nat.le_refl _) _⟩))).mono ?_
  rintro e w' ⟨rfl, W, hb, hb2⟩
  exact ⟨rfl, below_step hb hb2⟩
end Go.Proofs.YtnfobcedbfbbiaaDoor.Hp
