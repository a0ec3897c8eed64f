/- Clone, Array, awake. -/
import Derived.Test.YtnfobcedbfbbiaaDoorHpC
namespace Go.Proofs.YtnfobcedbfbbiaaDoor.Hp
open Go.RowKit Go.Proofs.YtnfobcedbfbbiaaDoorW.PrintWords Go.Proofs.YtnfobcedbfbbiaaDoorW.PrintLast Go.Proofs.YtnfobcedbfbbiaaDoorW.PrintMore Go.Proofs.YtnfobcedbfbbiaaDoor.Hand Go.Proofs.YtnfobcedbfbbiaaDoor.PIx Go.Proofs.YtnfobcedbfbbiaaDoor.Pure
set_option linter.unusedVariables false
set_option linter.unusedSimpArgs false
section
/-- A slice of values that can be read. -/
def Vals (w : World) (v : Value) (its : List Val) : Prop :=
  (v = .slice none 0 0 ∧ its = []) ∨ ∃ ad c, v = .slice (some ad) its.length c ∧ ∀ j u, (its.flatMap Val.vs)[j]? = some u → w.cell? (ad.add j) = some u
theorem vs_len : ∀ its : List Val, (its.flatMap Val.vs).length = its.length * 4
  | [] => rfl
  | v :: t => by
    rw [List.flatMap_cons, List.length_append, vs_len t, List.length_cons]
    show 4 + t.length * 4 = (t.length + 1) * 4
    omega
theorem vs_one (its : List Val) : ∀ u ∈ its.flatMap Val.vs, u.oneCell' = true := by
  intro u hu
  obtain ⟨v, hv, hm⟩ := List.mem_flatMap.1 hu
  simp only [Val.vs, List.mem_cons, List.mem_nil_iff, or_false] at hm
  rcases hm with rfl | rfl | rfl | rfl <;> rfl
def ClonePost (its : List Val) (w : World) (e : Ending) (w' : World) : Prop := ∃ v1, e = .returned v1 ∧ w'.ownsRow w.heap.size 33 4 v1 its.length (its.flatMap Val.vs) ∧ Below w.heap.size w w'
theorem nil_is (w : World) : (binOp BinOp.eql 30 (Value.slice none 0 0) (Value.slice none 0 0)).run Tryd.prog w = .ok (.bool true) w := by kernel_rfl
theorem nil_not (w : World) (ad : Addr) (n c : Nat) : (binOp BinOp.eql 30 (Value.slice (some ad) n c) (Value.slice none 0 0)).run Tryd.prog w = .ok (.bool false) w := by kernel_rfl
set_option maxRecDepth 100000 in
theorem clone_nil (w : World) : Calls Tryd.prog 39 #[.slice none 0 0] w (ClonePost [] w) := by
  have h1 := nil_is
  go_enter Tryd.func39, Tryd.ntmps39
  go_wp2
  go_ret
  exact ⟨_, rfl, own_nil _ _ _ _, Below.refl _ _⟩
set_option maxRecDepth 100000 in
theorem clone_some (w : World) (ad : Addr) (its : List Val) (c : Nat) (hr : ∀ j u, (its.flatMap Val.vs)[j]? = some u → w.cell? (ad.add j) = some u) (hl : its.length ≤ 100000) :
    Calls Tryd.prog 39 #[.slice (some ad) its.length c] w (ClonePost its w) := by
  have HR := Aside0.mk hr
  have HL := Aside0.mk hl
  have h1 := nil_not
  clear hr hl
  go_enter Tryd.func39, Tryd.ntmps39
  obtain ⟨i0, hi, hzz⟩ := Option.map_eq_some_iff.1 info33
  simp only [Prod.mk.injEq] at hzz
  obtain ⟨hz0, hz1, hz2⟩ := hzz
  have HI := Aside0.mk hi
  have HZ0 := Aside0.mk hz0
  have HZ1 := Aside0.mk hz1
  have HZ2 := Aside0.mk hz2
  have HOwn := Aside0.mk (show (w.alloc (.cells #[] 33)).ownsRow w.heap.size 33 4 (.slice (some ⟨w.heap.size, 0, none⟩) 0 0) 0 [] from ⟨rfl, .inr ⟨w.heap.size, 0, #[], rfl, Nat.le_refl _, heap_alloc_new w _, Nat.le_refl _, by decide, rfl, rfl⟩⟩)
  clear hi hz0 hz1 hz2
  go_upto_region 3 with (fail)
  go_wp2_with (at_builtin; go_must (refine wpList_append_own_at (w := w.alloc (.cells #[] 33)) rfl _ _ 30 rfl w.heap.size 33 i0 _ 4 40 Tryd.underlying30 HI.out HZ0.out HZ1.out HZ2.out (by decide) (by decide) _ 0 [] rfl HOwn.out ad its.length c (its.flatMap Val.vs) rfl (vs_len its) (fun j u hj => (World.cell?_alloc_lt _ _ _ (World.block_lt_of_cell? w _ (HR.out j u hj))).trans (HR.out j u hj)) (vs_one its) (by have := HL.out; simp only [maxLen]; omega) (by have := HL.out; omega) (by rw [World.size_alloc]; exact Nat.le_succ _) ?_; intro v1 w1 hown hg _ _; have HO1 := Aside0.mk hown; have HG1 := Aside0.mk hg; clear hown hg))
  go_ret
  refine ⟨_, rfl, ?_, ?_⟩
  · have := HO1.out
    simpa using this
  · exact ((Below.refl w.heap.size w).alloc (Nat.le_refl _) _).grown HG1.out (by rw [World.size_alloc]; exact Nat.le_succ _) (fun k hk => by cases hk; exact Nat.le_refl _)
theorem clone_calls {w : World} {v : Value} {its : List Val} (h : Vals w v its) (hl : its.length ≤ 100000) : Calls Tryd.prog 39 #[v] w (ClonePost its w) := by
  rcases h with ⟨rfl, rfl⟩ | ⟨ad, c, rfl, hr⟩
  · exact clone_nil w
  · exact clone_some w ad its c hr hl
end
section
theorem add_items {W : World} {B p : Nat} {K : List (Nat × Obj)} {σ : HSt} {ov : Value} {Ls : List Lay} (h : HeapAt W B K p σ ov Ls) (hf : Fit σ) (N : Nat) (iv : Value) (its : List Val) (hiv : W.ownsRow N 33 4 iv its.length (its.flatMap Val.vs)) (hN : B ≤ N) (hfr : ∀ b ∈ feet p ov Ls, b < N) (hfk : ∀ b, Held K b → b < N) :
    Calls Tryd.prog 38 #[.pointer (some ⟨p, 0, none⟩), .pointer (some ⟨W.heap.size, 0, none⟩), .int .i64 (1 + its.length : Int)] (W.alloc (.cells #[.int .i64 2, .int .i64 (-1), .int .i64 0, .int .i64 0, .int .i64 0, .slice none 0 0, .map none, iv] 78))
      (Left B K p (.tuple #[.int .i64 (addS σ ⟨2, -1, 0, 0, 0, [], [], its⟩ (1 + its.length)).1, .int .i64 (addS σ ⟨2, -1, 0, 0, 0, [], [], its⟩ (1 + its.length)).2.1]) (addS σ ⟨2, -1, 0, 0, 0, [], [], its⟩ (1 + its.length)).2.2 W) := by
  have h1 := h.alloc (.cells #[.int .i64 2, .int .i64 (-1), .int .i64 0, .int .i64 0, .int .i64 0, .slice none 0 0, .map none, iv] 78)
  have hb1 : Below B W (W.alloc (.cells #[.int .i64 2, .int .i64 (-1), .int .i64 0, .int .i64 0, .int .i64 0, .slice none 0 0, .map none, iv] 78)) := (Below.refl _ _).alloc h.base _
  unfold addS
  by_cases c1 : σ.left < 1 + its.length
  · rw [if_pos c1]
    refine (add_full h1 W.heap.size _ c1).mono ?_
    rintro e w' ⟨rfl, rfl⟩
    exact ⟨rfl, hb1, ov, Ls, h1⟩
  · rw [if_neg c1]
    have f1 := hf.left1
    have f2 := hf.objs
    refine (add_room h1 W.heap.size (1 + its.length) 2 (-1) 0 0 0 iv its (heap_alloc_new W _) (fun hm => by have := h.feet_lt _ hm; omega) (fun hm => by have := h.held_lt hm; omega) h.base (own_alloc (own_less hiv hN) _) (fun q hq => ⟨fun hm => by have := hfr q hm; have := own_base hiv q hq; omega, fun e => by have := own_lt hiv q hq; omega, fun hm => by have := hfk q hm; have := own_base hiv q hq; omega⟩) (by omega) (by omega) (by omega) (by rw [h.len]; omega)).mono ?_
    rintro e w' ⟨rfl, hb, ov', mb, hh⟩
    exact ⟨by rw [h.len], hb1.trans hb, ov', _, hh⟩
theorem vals_own {w : World} {C : Nat} {v : Value} {its : List Val} (h : w.ownsRow C 33 4 v its.length (its.flatMap Val.vs)) : Vals w v its := by
  obtain ⟨h1, h2⟩ := h
  rcases h2 with ⟨rfl, h0⟩ | ⟨g, cap, cur, rfl, hb, hg, hc, hm, hs, ht⟩
  · exact .inl ⟨rfl, List.eq_nil_of_length_eq_zero h0⟩
  · refine .inr ⟨⟨g, 0, none⟩, cap, rfl, fun j u hj => ?_⟩
    have hjl : j < its.length * 4 := by rw [← vs_len]; exact (List.getElem?_eq_some_iff.1 hj).1
    have e : (⟨g, 0, none⟩ : Addr).add j = ⟨g, j, none⟩ := by
      unfold Addr.add
      by_cases hz : j = 0
      · subst hz; rfl
      · simp [hz]
    rw [e, cell_in hg, ← hj, ← ht, List.getElem?_take_of_lt (by omega)]
    simp
set_option maxHeartbeats 4000000 in
set_option maxRecDepth 100000 in
theorem array_gen {w : World} {B p : Nat} {K : List (Nat × Obj)} {σ : HSt} {ov : Value} {Ls : List Lay} (h : HeapAt w B K p σ ov Ls) (hf : Fit σ) (C : Nat) (v : Value) (its : List Val) (hv : w.ownsRow C 33 4 v its.length (its.flatMap Val.vs)) (hl : its.length ≤ 100000)
    (HR : ∀ x ∈ its, ∀ w1, HeapAt w1 B K p σ ov Ls → Calls Tryd.prog 37 #[.pointer (some ⟨p, 0, none⟩), x.agg] w1 fun e w' => e = .returned (.bool true) ∧ Below w1.heap.size w1 w')
    (r1 r2 : Int) (Q : World → World → Prop) (HAdd : ∀ W iv, Below w.heap.size w W → W.ownsRow w.heap.size 33 4 iv its.length (its.flatMap Val.vs) → Calls Tryd.prog 38 #[.pointer (some ⟨p, 0, none⟩), .pointer (some ⟨W.heap.size, 0, none⟩), .int .i64 (1 + its.length : Int)] (W.alloc (.cells #[.int .i64 2, .int .i64 (-1), .int .i64 0, .int .i64 0, .int .i64 0, .slice none 0 0, .map none, iv] 78)) fun e w' => e = .returned (.tuple #[.int .i64 r1, .int .i64 r2]) ∧ Q W w') :
    Calls Tryd.prog 15 #[.pointer (some ⟨p, 0, none⟩), v] w fun e w' => e = .returned (.tuple #[.int .i64 r1, .int .i64 r2]) ∧ ∃ W, Below w.heap.size w W ∧ Q W w' := by
  obtain ⟨A, c, hvv⟩ := own_slice hv
  subst hvv
  have H := Aside0.mk h
  have HF := Aside0.mk hf
  have HV := Aside0.mk hv
  have HLn := Aside0.mk hl
  have HRR := Aside0.mk HR
  have HB := Aside0.mk (Below.refl w.heap.size w)
  have HAdd := Aside0.mk HAdd
  clear h hf hv HR hl
  go_enter Tryd.func15, Tryd.ntmps15
  go_wp2
  go_loopg [10] (its.length + 1) (fun kq v10 w' => ∃ k : Nat, v10 = .int .i64 k ∧ Aside0 (k + kq = its.length + 1) ∧ Aside0 (Below w.heap.size w w'))
  case atStart => exact ⟨0, rfl, ⟨by omega⟩, HB⟩
  case round =>
    clear HB
    obtain ⟨k, rfl, HK, HB⟩ := hrel
    have h1 := H.out.below HB.out
    have hv1 := own_move HV.out (fun q hq => HB.out.block q (own_lt HV.out q hq))
    by_cases c1 : k < its.length
    · have d1 : decide ((k : Int) < (its.length : Int)) = true := decide_eq_true (by omega)
      obtain ⟨g, cc, e0, hg, y0, y1, y2, y3, yf⟩ := items_at hv1 (List.getElem?_eq_getElem c1)
      have hmem := List.getElem_mem c1
      generalize its[k] = x at *
      have HR1 := HRR.out x hmem
      injection e0 with e1 e2 e3
      subst e1
      have hgl : g < wr.heap.size := (World.block_lt_of_cell? wr ⟨g, k * 4, none⟩ y0)
      have HRx := Aside0.mk (HR1 _ (h1.alloc (.cells #[.int .i64 x.kind, .float .f64 x.num, .string x.text, .int .i64 x.ref] 33)))
      have HBx := Aside0.mk (HB.out.alloc HB.out.size (.cells #[.int .i64 x.kind, .float .f64 x.num, .string x.text, .int .i64 x.ref] 33))
      cases gk with
      | zero => exact absurd HK.out (by omega)
      | succ k1 =>
        clear h1 hv1 HR1 hmem e2 e3 hg hgl HB
        go_wp2_with (go_at_call 37; go_must (refine (HRx.out).mono ?_; rintro e w5 ⟨rfl, hb⟩; have HB5 := Aside0.mk (below_step HBx.out hb); clear hb HRx))
        go_roundg k1
        case measure => have := HK.out; omega
        case rel => exact ⟨k + 1, by rw [show wrap64 ((k : Int) + 1) = ((k + 1 : Nat) : Int) by have := HLn.out; unfold wrap64; omega], ⟨by have := HK.out; omega⟩, HB5⟩
    · have d1 : decide (k < its.length) = false := decide_eq_false c1
      have HCl := Aside0.mk (clone_calls (vals_own hv1) HLn.out)
      have hsz := HB.out.size
      have hw : wrap64 (1 + (its.length : Int)) = 1 + its.length := by have := HLn.out; unfold wrap64; omega
      have HSZ := Aside0.mk hsz
      clear h1 hv1 hsz c1
      go_wp2_with (first | (go_at_call 39; go_must (refine (HCl.out).mono ?_; rintro e w5 ⟨iv, rfl, hown, hb⟩; obtain ⟨A1, c2, rfl⟩ := own_slice hown; have HB5 := Aside0.mk (below_step HB.out hb); have HO5 := Aside0.mk (own_less hown HSZ.out); clear hb hown HCl)) | (go_at_call 38; go_must (refine (HAdd.out w5 _ HB5.out HO5.out).mono ?_; rintro e w6 ⟨rfl, hq⟩)))
      go_ret2
      exact ⟨rfl, w5, HB5.out, hq⟩
theorem array_calls {w : World} {B p : Nat} {K : List (Nat × Obj)} {σ : HSt} {ov : Value} {Ls : List Lay} (h : HeapAt w B K p σ ov Ls) (hf : Fit σ) (C : Nat) (v : Value) (its : List Val) (hv : w.ownsRow C 33 4 v its.length (its.flatMap Val.vs)) (hl : its.length ≤ 100000)
    (HR : ∀ x ∈ its, ∀ w1, HeapAt w1 B K p σ ov Ls → Calls Tryd.prog 37 #[.pointer (some ⟨p, 0, none⟩), x.agg] w1 fun e w' => e = .returned (.bool true) ∧ Below w1.heap.size w1 w') :
    Calls Tryd.prog 15 #[.pointer (some ⟨p, 0, none⟩), v] w (Left B K p (.tuple #[.int .i64 (addS σ ⟨2, -1, 0, 0, 0, [], [], its⟩ (1 + its.length)).1, .int .i64 (addS σ ⟨2, -1, 0, 0, 0, [], [], its⟩ (1 + its.length)).2.1]) (addS σ ⟨2, -1, 0, 0, 0, [], [], its⟩ (1 + its.length)).2.2 w) := by
  refine (array_gen h hf C v its hv hl HR _ _ (fun W w' => Below B W w' ∧ HeapOk w' B K p (addS σ ⟨2, -1, 0, 0, 0, [], [], its⟩ (1 + its.length)).2.2) (fun W iv hb hiv => (add_items (h.below hb) hf w.heap.size iv its hiv h.base h.feet_lt (fun b hb => h.held_lt hb)).mono (fun e w' hh => hh))).mono ?_
  rintro e w' ⟨rfl, W, hb, hb2, hok⟩
  exact ⟨rfl, (hb.mono h.base).trans hb2, hok⟩
/-- No room for it: nothing old is touched. -/
theorem array_full {w : World} {B p : Nat} {K : List (Nat × Obj)} {σ : HSt} {ov : Value} {Ls : List Lay} (h : HeapAt w B K p σ ov Ls) (hf : Fit σ) (C : Nat) (v : Value) (its : List Val) (hv : w.ownsRow C 33 4 v its.length (its.flatMap Val.vs)) (hl : its.length ≤ 100000)
    (HR : ∀ x ∈ its, ∀ w1, HeapAt w1 B K p σ ov Ls → Calls Tryd.prog 37 #[.pointer (some ⟨p, 0, none⟩), x.agg] w1 fun e w' => e = .returned (.bool true) ∧ Below w1.heap.size w1 w') (hlt : σ.left < 1 + its.length) :
    Calls Tryd.prog 15 #[.pointer (some ⟨p, 0, none⟩), v] w fun e w' => e = .returned (.tuple #[.int .i64 0, .int .i64 112]) ∧ Below w.heap.size w w' := by
  refine (array_gen h hf C v its hv hl HR 0 112 (fun W w' => Below W.heap.size W w') (fun W iv hb hiv => (add_full ((h.below hb).alloc _) W.heap.size _ hlt).mono (fun e w' hh => ⟨hh.1, by rw [hh.2]; exact (Below.refl _ _).alloc (Nat.le_refl _) _⟩))).mono ?_
  rintro e w' ⟨rfl, W, hb, hb2⟩
  exact ⟨rfl, below_step hb hb2⟩
end
section
theorem HeapOk.alloc {w : World} {B p : Nat} {K : List (Nat × Obj)} {σ : HSt} (h : HeapOk w B K p σ) (o : Obj) : HeapOk (w.alloc o) B K p σ := h.below ((Below.refl _ _).alloc (Nat.le_refl _) o)
theorem HeapOk.base {w : World} {B p : Nat} {K : List (Nat × Obj)} {σ : HSt} (h : HeapOk w B K p σ) : B ≤ w.heap.size := by
  obtain ⟨ov, Ls, h⟩ := h
  exact h.base
theorem array_num {w : World} {B p : Nat} {K : List (Nat × Obj)} {σ : HSt} (h : HeapOk w B K p σ) (hf : Fit σ) (C : Nat) (v : Value) (xs : List Nat) (n : Nat) (hn : (xs.map numV).length = n) (hv : w.ownsRow C 33 4 v n ((xs.map numV).flatMap Val.vs)) (hl : n ≤ 100000) :
    Calls Tryd.prog 15 #[.pointer (some ⟨p, 0, none⟩), v] w (Left B K p (.tuple #[.int .i64 (addS σ ⟨2, -1, 0, 0, 0, [], [], xs.map numV⟩ (1 + n)).1, .int .i64 (addS σ ⟨2, -1, 0, 0, 0, [], [], xs.map numV⟩ (1 + n)).2.1]) (addS σ ⟨2, -1, 0, 0, 0, [], [], xs.map numV⟩ (1 + n)).2.2 w) := by
  subst hn
  obtain ⟨ov, Ls, h⟩ := h
  exact array_calls h hf C v _ hv hl (fun x hx w1 _ => by obtain ⟨y, _, rfl⟩ := List.mem_map.1 hx; exact right_num_calls y)
theorem array_num_full {w : World} {B p : Nat} {K : List (Nat × Obj)} {σ : HSt} (h : HeapOk w B K p σ) (hf : Fit σ) (C : Nat) (v : Value) (xs : List Nat) (n : Nat) (hn : (xs.map numV).length = n) (hv : w.ownsRow C 33 4 v n ((xs.map numV).flatMap Val.vs)) (hl : n ≤ 100000) (hlt : σ.left < 1 + n) :
    Calls Tryd.prog 15 #[.pointer (some ⟨p, 0, none⟩), v] w fun e w' => e = .returned (.tuple #[.int .i64 0, .int .i64 112]) ∧ Below w.heap.size w w' := by
  subst hn
  obtain ⟨ov, Ls, h⟩ := h
  exact array_full h hf C v _ hv hl (fun x hx w1 _ => by obtain ⟨y, _, rfl⟩ := List.mem_map.1 hx; exact right_num_calls y) hlt
def mapS (σ : HSt) (i : Int) (o : OSt) (key : ByteArray) (v : Val) : Int × HSt :=
  if (lookS o.props key).isSome = true then (0, ⟨σ.objs.set i.toNat { o with props := putS o.props key v }, σ.left⟩)
  else if σ.left < 1 then (112, σ) else (0, ⟨σ.objs.set i.toNat { o with keys := o.keys ++ [key], props := putS o.props key v }, σ.left - 1⟩)
theorem put_num {w : World} {B p : Nat} {K : List (Nat × Obj)} {σ : HSt} (h : HeapOk w B K p σ) (hf : Fit σ) (i : Int) (key : ByteArray) (x : Nat) (hks : key.size ≤ 140737488351232) (o : OSt) (ho : objS σ i = some o) (hk : o.kind ≠ 2) (hkeys : o.keys.length ≤ 100000) :
    Calls Tryd.prog 16 #[.pointer (some ⟨p, 0, none⟩), .int .i64 i, .string key, (numV x).agg] w (Left B K p (.int .i64 (mapS σ i o key (numV x)).1) (mapS σ i o key (numV x)).2 w) := by
  obtain ⟨ov, Ls, h⟩ := h
  unfold mapS
  by_cases c1 : (lookS o.props key).isSome = true
  · rw [if_pos c1]
    exact put_there h hf i key (numV x) hks o ho (fun e => absurd e hk) (fun w1 _ => right_num_calls x) c1
  · rw [if_neg c1]
    have c2 := Bool.eq_false_iff.2 c1
    by_cases c3 : σ.left < 1
    · rw [if_pos c3]
      exact put_full h hf i key (numV x) hks o ho (fun e => absurd e hk) (fun w1 _ => right_num_calls x) c2 c3
    · rw [if_neg c3]
      exact put_room h hf i key (numV x) hks o ho (fun e => absurd e hk) (fun w1 _ => right_num_calls x) c2 c3 hkeys
theorem own_two (W : World) (x y : Nat) : (W.alloc (.cells #[.int .i64 3, .float .f64 x, .string ⟨#[]⟩, .int .i64 0, .int .i64 3, .float .f64 y, .string ⟨#[]⟩, .int .i64 0] 33)).ownsRow W.heap.size 33 4 (.slice (some ⟨W.heap.size, 0, none⟩) 2 2) 2 (([x, y].map numV).flatMap Val.vs) :=
  ⟨rfl, .inr ⟨_, 2, _, rfl, Nat.le_refl _, heap_alloc_new W _, Nat.le_refl _, by decide, rfl, rfl⟩⟩
theorem own_one (W : World) (x : Nat) : (W.alloc (.cells #[.int .i64 3, .float .f64 x, .string ⟨#[]⟩, .int .i64 0] 33)).ownsRow W.heap.size 33 4 (.slice (some ⟨W.heap.size, 0, none⟩) 1 1) 1 (([x].map numV).flatMap Val.vs) :=
  ⟨rfl, .inr ⟨_, 1, _, rfl, Nat.le_refl _, heap_alloc_new W _, Nat.le_refl _, by decide, rfl, rfl⟩⟩
def kKey : ByteArray := ⟨#[0, 107]⟩
def aP : OSt := ⟨1, -1, 0, 0, 0, [], [], []⟩
def aQ : OSt := ⟨1, 0, 0, 0, 0, [], [], []⟩
def aA : OSt := ⟨2, -1, 0, 0, 0, [], [], [numV 4607182418800017408, numV 4611686018427387904]⟩
def aK : OSt := ⟨1, -1, 0, 0, 0, [kKey], [(kKey, numV 4617315517961601024)], []⟩
def s0 : HSt := ⟨[], 7⟩
def s1 : HSt := ⟨[aP], 6⟩
def s2 : HSt := ⟨[aP, aQ], 5⟩
def s3 : HSt := ⟨[aP, aQ, aA], 2⟩
def s4 : HSt := ⟨[aK, aQ, aA], 1⟩
theorem e0 : plainS s0 (-1) = (0, 0, s1) := rfl
theorem e1 : plainS s1 0 = (1, 0, s2) := rfl
theorem e2 : addS s2 ⟨2, -1, 0, 0, 0, [], [], [4607182418800017408, 4611686018427387904].map numV⟩ (1 + (2 : Nat)) = (2, 0, s3) := rfl
theorem e3 : mapS s3 0 aP kKey (numV 4617315517961601024) = (0, s4) := rfl
theorem e4 : getS s4 1 kKey = (numV 4617315517961601024, true) := by rfl
theorem e5 : ownS s4 2 lengthKey = (numV 4611686018427387904, true) := by rfl
theorem eK : pennantref01_Of.f 10 ⟨#[107]⟩ = some kKey := by kernel_rfl
theorem eL : pennantref01_Of.f 20 ⟨#[108, 101, 110, 103, 116, 104]⟩ = some lengthKey := by kernel_rfl
theorem desc4 : Desc s4 := by
  intro i o h
  match i, h with
  | 0, h => obtain rfl := Option.some.inj h; decide
  | 1, h => obtain rfl := Option.some.inj h; decide
  | 2, h => obtain rfl := Option.some.inj h; decide
  | n + 3, h => cases h
theorem fit0 : Fit s0 := ⟨by decide, by decide, by decide⟩
theorem fit1 : Fit s1 := ⟨by decide, by decide, by decide⟩
theorem fit2 : Fit s2 := ⟨by decide, by decide, by decide⟩
theorem fit3 : Fit s3 := ⟨by decide, by decide, by decide⟩
theorem fit4 : Fit s4 := ⟨by decide, by decide, by decide⟩
theorem its4 : ∀ o ∈ s4.objs, o.items.length ≤ 100000 := by
  intro o ho
  simp only [s4, List.mem_cons, List.mem_nil_iff, or_false] at ho
  rcases ho with rfl | rfl | rfl <;> decide
set_option maxHeartbeats 4000000 in
set_option maxRecDepth 100000 in
theorem awake_calls (w : World) : Calls Tryd.prog 8 #[] w fun e w' => e = .returned (.bool true) ∧ Below w.heap.size w w' := by
  have HN := Aside0.mk (new_calls 7 w)
  have ok0 : HeapOk (w.alloc (.cells #[.slice none 0 0, .int .i64 (newLeft 7)] 72)) w.heap.size [] w.heap.size s0 := ⟨_, _, heap_new w w.heap.size (Nat.le_refl _) _⟩
  have b0 := (Below.refl w.heap.size w).alloc (Nat.le_refl _) (.cells #[.slice none 0 0, .int .i64 (newLeft 7)] 72)
  go_enter Tryd.func8, Tryd.ntmps8
  go_upto_region 4 with (go_at_call 13; go_must (refine (HN.out).mono ?_; rintro e w' ⟨rfl, rfl⟩))
  generalize w.alloc (.cells #[.slice none 0 0, .int .i64 (newLeft 7)] 72) = w0 at *
  have C1 := plain_calls ok0 fit0 (-1)
  rw [e0] at C1
  have C1 := Aside0.mk C1
  have B0 := Aside0.mk b0
  clear ok0 HN b0
  go_upto_region 5 with (go_at_call 21; go_must (refine (C1.out).mono ?_; rintro e w1 ⟨rfl, hb, ok1⟩; have OK1 := Aside0.mk ok1; have B1 := Aside0.mk (B0.out.trans hb); clear ok1 hb C1 B0))
  have C2 := plain_calls OK1.out fit1 0
  rw [e1] at C2
  have C2 := Aside0.mk C2
  go_upto_region 6 with (go_at_call 21; go_must (refine (C2.out).mono ?_; rintro e w2 ⟨rfl, hb, ok2⟩; have OK2 := Aside0.mk ok2; have B2 := Aside0.mk (B1.out.trans hb); clear ok2 hb C2 B1 OK1))
  have CN := fun x W => Aside0.mk (num_calls x W)
  go_upto_region 7 with (first | (go_at_call 14; go_must (refine ((CN _ _).out).mono ?_; rintro e w' ⟨rfl, hb⟩; have OKn := Aside0.mk (OK2.out.below hb); have Bn := Aside0.mk (B2.out.trans (hb.mono OK2.out.base)); clear hb OK2 B2; have OK2 := OKn; have B2 := Bn; clear OKn Bn)) | (go_at_call 15; go_must (refine (array_num (OK2.out.alloc _) fit2 _ _ [4607182418800017408, 4611686018427387904] 2 rfl (own_two _ _ _) (by decide)).mono ?_; rw [e2]; rintro e w3 ⟨rfl, hb, ok3⟩; have OK3 := Aside0.mk ok3; have B3 := Aside0.mk ((B2.out.alloc OK2.out.base _).trans hb); clear ok3 hb OK2 B2)))
  have CO := fun W => Aside0.mk (pennantref01_Of.calls 10 ⟨#[107]⟩ kKey W eK)
  go_upto_region 8 with (go_at_call 19; go_must (refine ((CO _).out).mono ?_; rintro e w4 ⟨rfl, hb⟩; have OK4 := Aside0.mk (OK3.out.below hb); have B4 := Aside0.mk (B3.out.trans (hb.mono OK3.out.base)); clear hb OK3 B3))
  go_upto_region 9 with (first | (go_at_call 14; go_must (refine ((CN _ _).out).mono ?_; rintro e w5 ⟨rfl, hb⟩; have OK5 := Aside0.mk (OK4.out.below hb); have B5 := Aside0.mk (B4.out.trans (hb.mono OK4.out.base)); clear hb OK4 B4)) | (go_at_call 16; go_must (refine (put_num OK5.out fit3 0 kKey 4617315517961601024 (by decide) aP rfl (by decide) (by decide)).mono ?_; rw [e3]; rintro e w6 ⟨rfl, hb, ok6⟩; have OK6 := Aside0.mk ok6; have B6 := Aside0.mk (B5.out.trans hb); clear ok6 hb OK5 B5)))
  go_upto_region 10 with (go_at_call 22; go_must (refine (get_calls OK6.out fit4 desc4 1 kKey (by decide) its4).mono ?_; rw [e4]; rintro e w7 ⟨rfl, hb⟩; have OK7 := Aside0.mk (OK6.out.below hb); have B7 := Aside0.mk (B6.out.trans (hb.mono OK6.out.base)); clear hb OK6 B6))
  have hv := heap_alloc_new w7 (.cells #[.int .i64 3, .float .f64 4617315517961601024, .string ⟨#[]⟩, .int .i64 0] 33)
  have OK8 := Aside0.mk (OK7.out.alloc (.cells #[.int .i64 3, .float .f64 4617315517961601024, .string ⟨#[]⟩, .int .i64 0] 33))
  have B8 := Aside0.mk (B7.out.alloc OK7.out.base (.cells #[.int .i64 3, .float .f64 4617315517961601024, .string ⟨#[]⟩, .int .i64 0] 33))
  have hs8 : w7.heap.size < (w7.alloc (.cells #[.int .i64 3, .float .f64 4617315517961601024, .string ⟨#[]⟩, .int .i64 0] 33)).heap.size := by rw [World.size_alloc]; exact Nat.lt_succ_self _
  have HV := Aside0.mk hv
  have HS8 := Aside0.mk hs8
  clear hv hs8 OK7 B7
  generalize w7.alloc (.cells #[.int .i64 3, .float .f64 4617315517961601024, .string ⟨#[]⟩, .int .i64 0] 33) = wB at *
  have D8 := Aside0.mk (Below.refl wB.heap.size wB)
  have CL := fun W => Aside0.mk (pennantref01_Of.calls 20 ⟨#[108, 101, 110, 103, 116, 104]⟩ lengthKey W eL)
  go_upto_region 11 with (first | (go_at_call 19; go_must (refine ((CL _).out).mono ?_; rintro e w9 ⟨rfl, hb⟩; have OK9 := Aside0.mk (OK8.out.below hb); have D9 := Aside0.mk (below_step D8.out hb); clear hb OK8 D8)) | (go_at_call 20; go_must (refine (own_calls OK9.out fit4 2 lengthKey (by decide) its4).mono ?_; rw [e5]; rintro e w10 ⟨rfl, hb⟩; have OK10 := Aside0.mk (OK9.out.below hb); have D10 := Aside0.mk (below_step D9.out hb); clear hb OK9 D9)))
  have hv2 := heap_alloc_new w10 (.cells #[.int .i64 3, .float .f64 4611686018427387904, .string ⟨#[]⟩, .int .i64 0] 33)
  have hs2 : w10.heap.size < (w10.alloc (.cells #[.int .i64 3, .float .f64 4611686018427387904, .string ⟨#[]⟩, .int .i64 0] 33)).heap.size := by rw [World.size_alloc]; exact Nat.lt_succ_self _
  have OK11 := Aside0.mk (OK10.out.alloc (.cells #[.int .i64 3, .float .f64 4611686018427387904, .string ⟨#[]⟩, .int .i64 0] 33))
  have D11 := Aside0.mk (D10.out.alloc D10.out.size (.cells #[.int .i64 3, .float .f64 4611686018427387904, .string ⟨#[]⟩, .int .i64 0] 33))
  have HV2 := Aside0.mk hv2
  have HS2 := Aside0.mk hs2
  clear hv2 hs2 OK10 D10
  generalize w10.alloc (.cells #[.int .i64 3, .float .f64 4611686018427387904, .string ⟨#[]⟩, .int .i64 0] 33) = wC at *
  have F11 := Aside0.mk (Below.refl wC.heap.size wC)
  go_upto_region 12 with (first | (go_at_call 14; go_must (refine ((CN _ _).out).mono ?_; rintro e w12 ⟨rfl, hb⟩; have OK12 := Aside0.mk (OK11.out.below hb); have F12 := Aside0.mk (below_step F11.out hb); clear hb OK11 F11)) | (go_at_call 15; go_must (refine (array_num_full (OK12.out.alloc _) fit4 _ _ [4607182418800017408] 1 rfl (own_one _ _) (by decide) (by decide)).mono ?_; rintro e w13 ⟨rfl, hb⟩; have F13 := Aside0.mk (below_step (F12.out.alloc F12.out.size _) hb); clear hb OK12 F12)))
  have k2 := (F13.out.block w10.heap.size HS2.out).trans HV2.out
  have k1 := (F13.out.block w7.heap.size (Nat.lt_of_lt_of_le HS8.out D11.out.size)).trans ((D11.out.block w7.heap.size HS8.out).trans HV.out)
  have y1 : w13.cell? ⟨w7.heap.size, 1, none⟩ = some (.float .f64 4617315517961601024) := (cell_in k1).trans rfl
  have y2 : w13.cell? ⟨w10.heap.size, 1, none⟩ = some (.float .f64 4611686018427387904) := (cell_in k2).trans rfl
  have g5 : FloatKind.f64.format.order 4617315517961601024 4617315517961601024 = some Ordering.eq := by kernel_rfl
  have g2 : FloatKind.f64.format.order 4611686018427387904 4611686018427387904 = some Ordering.eq := by kernel_rfl
  have hfin := below_step (below_step B8.out D11.out) F13.out
  clear k1 k2
  go_wp2
  go_ret
  exact ⟨rfl, hfin⟩
end
end Go.Proofs.YtnfobcedbfbbiaaDoor.Hp
