/- Items: append of made zeros, an object's items turned, an item stored. -/
import Derived.Test.YtnfobcedbfbbiaaDoorHpE
import Derived.Lib.AppendZerosOnto
namespace Go.Proofs.YtnfobcedbfbbiaaDoor.Hp
open Go.RowKit Go.Proofs.YtnfobcedbfbbiaaDoorW.PrintWords Go.Proofs.YtnfobcedbfbbiaaDoorW.PrintLast Go.Proofs.YtnfobcedbfbbiaaDoorW.PrintMore Go.Proofs.YtnfobcedbfbbiaaDoor.Hand Go.Proofs.YtnfobcedbfbbiaaDoor.PIx Go.Proofs.YtnfobcedbfbbiaaDoor.Pure
set_option linter.unusedVariables false
set_option linter.unusedSimpArgs false
/-- A block that is not the heap's is kept, too. -/
theorem HeapAt.keep {w : World} {B p : Nat} {K : List (Nat × Obj)} {σ : HSt} {ov : Value} {Ls : List Lay} (h : HeapAt w B K p σ ov Ls) {b : Nat} {x : Obj} (hb : w.heap[b]? = some x) (hf : b ∉ feet p ov Ls) : HeapAt w B ((b, x) :: K) p σ ov Ls :=
  ⟨h.top, h.row, h.len, h.objs, h.dis, h.low, fun y hy => by
    rcases List.mem_cons.1 hy with rfl | hy
    · exact ⟨hb, hf⟩
    · exact h.aside y hy⟩
theorem HeapAt.kept {w : World} {B p : Nat} {K : List (Nat × Obj)} {σ : HSt} {ov : Value} {Ls : List Lay} (h : HeapAt w B K p σ ov Ls) {b : Nat} {x : Obj} (hm : (b, x) ∈ K) : w.heap[b]? = some x := (h.aside _ hm).1
theorem HeapAt.less {w : World} {B p : Nat} {K K' : List (Nat × Obj)} {σ : HSt} {ov : Value} {Ls : List Lay} (h : HeapAt w B K p σ ov Ls) (hs : ∀ x ∈ K', x ∈ K) : HeapAt w B K' p σ ov Ls :=
  ⟨h.top, h.row, h.len, h.objs, h.dis, h.low, fun y hy => h.aside y (hs y hy)⟩
theorem zeros_vs (m : Nat) : (Builtin.zeroCells Val.zero.agg.cells m).toList = (List.replicate m Val.zero).flatMap Val.vs := by
  have hc : Val.zero.agg.cells = Val.zero.vs.toArray := by kernel_rfl
  rw [hc]
  apply List.ext_getElem?
  intro j
  have hl : ((List.replicate m Val.zero).flatMap Val.vs).length = m * 4 := by rw [vs_len, List.length_replicate]
  unfold Builtin.zeroCells
  by_cases hj : j < m * 4
  · have hd : j / 4 < m := by omega
    have h1 := flat_at (List.replicate m Val.zero) (j / 4) (j % 4) Val.zero (by rw [List.getElem?_replicate, if_pos hd]) (by omega)
    rw [show j / 4 * 4 + j % 4 = j by omega] at h1
    rw [h1]
    have hs : Val.zero.vs.toArray.size = 4 := rfl
    rw [hs, Array.toList_map, List.getElem?_map, Array.getElem?_toList, Array.getElem?_range, if_pos hj]
    have : j % 4 = 0 ∨ j % 4 = 1 ∨ j % 4 = 2 ∨ j % 4 = 3 := by omega
    simp only [Option.map_some]
    rcases this with e | e | e | e <;> rw [e] <;> rfl
  · rw [List.getElem?_eq_none (l := (List.replicate m Val.zero).flatMap Val.vs) (by rw [hl]; omega), List.getElem?_eq_none (by simp [Val.vs]; omega)]
theorem zeros_one (m : Nat) : ∀ u ∈ (Builtin.zeroCells Val.zero.agg.cells m).toList, u.oneCell' = true := by rw [zeros_vs]; exact vs_one _
theorem run_append_zeros (w : World) (base : Nat) (ty : TypeId) (v : Value) (its : List Val) (m : Nat) (hown : w.ownsRow base 33 4 v its.length (its.flatMap Val.vs)) (h63 : its.length + m ≤ 1000000) (hbase : base ≤ w.heap.size) :
    ∃ v' w', (Builtin.append_ #[30, 3] ty #[v, .int .i64 m]).run Tryd.prog w = .ok v' w' ∧ w'.ownsRow base 33 4 v' (its.length + m) ((its ++ List.replicate m Val.zero).flatMap Val.vs) ∧ w.grownBy w' v.ownBlock ∧ (v'.ownBlock = v.ownBlock ∨ v'.ownBlock = some w.heap.size) := by
  obtain ⟨i, hi, hzz⟩ := Option.map_eq_some_iff.1 info33
  simp only [Prod.mk.injEq] at hzz
  obtain ⟨hz, hsz, hby⟩ := hzz
  have hzs : Val.zero.agg.cells.size = 4 := by kernel_rfl
  have hvl : (its.flatMap Val.vs).length = its.length * 4 := vs_len its
  have hfl : (its ++ List.replicate m Val.zero).flatMap Val.vs = its.flatMap Val.vs ++ (Builtin.zeroCells Val.zero.agg.cells m).toList := by rw [List.flatMap_append, zeros_vs]
  have hzl : (Builtin.zeroCells Val.zero.agg.cells m).toList.length = m * 4 := by rw [zeros_vs, vs_len, List.length_replicate]
  have hlen : (its.flatMap Val.vs ++ (Builtin.zeroCells Val.zero.agg.cells m).toList).length = (its.length + m) * 4 := by rw [List.length_append, hvl, hzl, Nat.add_mul]
  rw [hfl]
  have h63' : its.length + m ≤ maxLen := by simp only [maxLen]; omega
  by_cases hm : m = 0
  · subst hm
    refine ⟨v, w, ?_, ?_, ⟨rfl, rfl, rfl, Nat.le_refl _, fun _ _ _ => rfl⟩, .inl rfl⟩
    · obtain ⟨A, c, rfl⟩ := own_slice hown
      have hle := own_le hown
      have hw : IntKind.i64.wrap 0 = 0 := by rw [IntKind.wrap_i64]; omega
      cases A with
      | none => simp [Builtin.append_, run_underlying Tryd.underlying30, run_underlying Tryd.underlying3, sizeOf, typeInfo, hi, asInt, asIntOf, hw, hle]
      | some a => simp [Builtin.append_, run_underlying Tryd.underlying30, run_underlying Tryd.underlying3, sizeOf, typeInfo, hi, asInt, asIntOf, hw, hle, storeCells]
    · have e0 : (Builtin.zeroCells Val.zero.agg.cells 0).toList = [] := List.eq_nil_of_length_eq_zero (by rw [hzl])
      rw [e0, List.append_nil]
      exact hown
  · have hm0 : 0 < m := by omega
    have grown : ∀ (old : Nat), old < its.length + m → ∀ (row : Option Nat),
        (w.drew.alloc (.cells ((its.flatMap Val.vs).toArray ++ Builtin.zeroCells Val.zero.agg.cells m ++ Builtin.zeroCells Val.zero.agg.cells (grownCap w (its.length + m) old 33 - (its.length + m))) 33)).ownsRow base 33 4
          (.slice (some ⟨w.heap.size, 0, none⟩) (its.length + m) (grownCap w (its.length + m) old 33)) (its.length + m) (its.flatMap Val.vs ++ (Builtin.zeroCells Val.zero.agg.cells m).toList) ∧
        w.grownBy (w.drew.alloc (.cells ((its.flatMap Val.vs).toArray ++ Builtin.zeroCells Val.zero.agg.cells m ++ Builtin.zeroCells Val.zero.agg.cells (grownCap w (its.length + m) old 33 - (its.length + m))) 33)) row := by
      intro old hold row
      have hge := grownCap_ge w (its.length + m) old 33
      have hcm := grownCap_le_maxLen w (its.length + m) old 33 h63'
      refine ⟨⟨hlen, .inr ⟨w.heap.size, _, _, rfl, hbase, heap_alloc_new w.drew _, hge, hcm, ?_, ?_⟩⟩, ⟨rfl, rfl, rfl, by simp, fun k hk _ => Below.heap_alloc w.drew _ k hk⟩⟩
      · rw [Array.size_append, Array.size_append, List.size_toArray, size_zeroCells, size_zeroCells, hzs, hvl]
        omega
      · simp only [Array.toList_append, List.append_assoc]
        rw [← List.append_assoc, ← hlen]
        exact List.take_left
    have hbys : (its.length + m) * i.bytes ≤ 140737488355328 := by rw [hby]; omega
    rcases hown.2 with ⟨rfl, h0⟩ | ⟨g, cap, cur, rfl, hbg, hg, hnc, hcm, hcs, htake⟩
    · obtain rfl : its = [] := List.eq_nil_of_length_eq_zero h0
      have hr := Lib.run_append_nil_zeros (P := Tryd.prog) w 30 3 ty 33 i _ .i64 .i64 Tryd.underlying30 Tryd.underlying3 hi hz m hm0 (by omega) (by omega) (by rw [hby]; omega)
      have hgr := grown 0 (by omega) (Value.ownBlock (.slice none 0 0))
      simp only [List.length_nil, Nat.zero_add, List.flatMap_nil, List.nil_append, Array.empty_append] at hgr ⊢
      exact ⟨_, _, hr, hgr.1, hgr.2, .inr rfl⟩
    · by_cases hroom : its.length + m ≤ cap
      · have hfit : its.length * 4 + m * 4 ≤ cur.size := by rw [hcs, ← Nat.add_mul]; exact Nat.mul_le_mul_right _ hroom
        have hst := run_storeCells_at Tryd.prog g (its.length * 4) 33 (Builtin.zeroCells Val.zero.agg.cells m).toList 0 cur w hg (by rw [hzl]; simpa using hfit) (zeros_one m)
        simp only [Nat.add_zero] at hst
        have hw : IntKind.i64.wrap (m : Int) = m := by rw [IntKind.wrap_i64]; omega
        have hneg : ¬ ((m : Int) < 0) := by omega
        have h48i : ¬ (281474976710656 < (m : Int) * (i.bytes : Int)) := by rw [hby]; omega
        have hr : (Builtin.append_ #[30, 3] ty #[.slice (some ⟨g, 0, none⟩) its.length cap, .int .i64 m]).run Tryd.prog w =
            .ok (.slice (some ⟨g, 0, none⟩) (its.length + m) cap) (w.setRow g (cur.toList.take (its.length * 4) ++ (Builtin.zeroCells Val.zero.agg.cells m).toList ++ cur.toList.drop (its.length * 4 + (Builtin.zeroCells Val.zero.agg.cells m).toList.length)).toArray) := by
          simp [Builtin.append_, run_underlying Tryd.underlying30, run_underlying Tryd.underlying3, sizeOf, typeInfo, zeroValue, hi, hz, hsz, asInt, asIntOf, hw, hneg, h48i, hroom, hm, Addr.add_lit, hst]
          intro e0
          omega
        refine ⟨_, _, hr, ⟨hlen, .inr ⟨g, cap, _, rfl, hbg, setRow_heap w g cur _ 33 _ hg, hroom, hcm, ?_, ?_⟩⟩, ⟨rfl, rfl, rfl, by simp, fun k _ hk => setRow_other w g k _ (fun e => hk (by simp [Value.ownBlock, e]))⟩, .inl rfl⟩
        · simp only [List.size_toArray, List.length_append, List.length_take, List.length_drop, Array.length_toList, hzl]
          omega
        · rw [htake, ← hlen]
          exact List.take_left
      · have holds : ∀ j u, (its.flatMap Val.vs)[j]? = some u → w.cell? ((⟨g, 0, none⟩ : Addr).add j) = some u := hown.cells (g := g) rfl
        have hold := run_firstCells_some (P := Tryd.prog) w.drew i.size its.length ⟨g, 0, none⟩ its.length cap (its.flatMap Val.vs) (by rw [hvl, hsz]) (by simpa using holds)
        have hr := Lib.run_append_grow_zeros (P := Tryd.prog) w 30 3 ty 33 i _ .i64 .i64 Tryd.underlying30 Tryd.underlying3 hi hz (some ⟨g, 0, none⟩) its.length cap (its.flatMap Val.vs) hold m hm0 (by omega) (by omega) (by omega) (by rw [hby]; omega) (growslice_fits (by omega) hbys)
        have hgr := grown cap (by omega) (Value.ownBlock (.slice (some ⟨g, 0, none⟩) its.length cap))
        exact ⟨_, _, hr, hgr.1, hgr.2, .inr rfl⟩
/-- An object's items have turned, and are stored. -/
theorem HeapAt.itemed {w w1 : World} {B p : Nat} {K : List (Nat × Obj)} {σ : HSt} {ov : Value} {Ls : List Lay} (h : HeapAt w B K p σ ov Ls) {i : Nat} {L : Lay} {o : OSt} (hL : Ls[i]? = some L) (ho : σ.objs[i]? = some o) (xs : List Val) (v1 : Value)
    (hown : w1.ownsRow B 33 4 v1 xs.length (xs.flatMap Val.vs)) (hg : ∀ b, b < w.heap.size → some b ≠ L.iv.ownBlock → w1.heap[b]? = w.heap[b]?) (hv1 : ∀ b, v1.ownBlock = some b → L.iv.ownBlock = some b ∨ w.heap.size ≤ b) :
    HeapAt (w1.setCell ⟨L.ob, 7, none⟩ v1) B K p ⟨σ.objs.set i { o with items := xs }, σ.left⟩ ov (Ls.set i { L with iv := v1 }) := by
  have hmem := List.mem_of_getElem? hL
  have hnd := h.lay_nd hmem
  obtain ⟨n1, n2, n3, n4⟩ := Lay.nd hnd
  have hobj := h.objs _ _ _ hL ho
  have hlt := h.feet_lt
  have hne := fun b hb => h.lay_ne hmem (b := b) hb
  have hk1 : ∀ b ∈ feet p ov Ls, L.iv.ownBlock ≠ some b → w1.heap[b]? = w.heap[b]? := fun b hb e => hg b (hlt b hb) (fun e2 => e e2.symm)
  have hk : ∀ b ∈ feet p ov Ls, L.iv.ownBlock ≠ some b → b ≠ L.ob → (w1.setCell ⟨L.ob, 7, none⟩ v1).heap[b]? = w.heap[b]? := fun b hb e e2 => (Below.heap_setCell w1 _ _ b e2).trans (hk1 b hb e)
  have hin : ∀ b ∈ L.blocks, b ∈ feet p ov Ls := fun b hb => mem_feet_lay hmem hb
  have hkob : L.iv.ownBlock ≠ some L.ob := fun e => (n3 _ e).1 rfl
  have hv2 : ∀ b, v1.ownBlock = some b → b ≠ L.ob ∧ b ≠ L.mb ∧ ∀ r, L.kv.ownBlock = some r → b ≠ r := by
    intro b hb
    rcases hv1 b hb with e | e
    · exact ⟨(n3 b e).1, (n3 b e).2, fun r hr e2 => n4 r b hr e e2.symm⟩
    · refine ⟨fun e2 => ?_, fun e2 => ?_, fun r hr e2 => ?_⟩
      · have := hlt _ (hin _ (mem_ob (L := L))); omega
      · have := hlt _ (hin _ (mem_mb (L := L))); omega
      · have := hlt _ (hin _ (mem_kv hr)); omega
  refine h.turn (L' := { L with iv := v1 }) (o' := { o with items := xs }) hL ho ⟨?_, ?_, ?_, ?_⟩ σ.left ((hk p mem_feet_top (fun e => (hne p (mem_iv e)).1 rfl) (fun e => (hne L.ob mem_ob).1 e.symm)).trans h.top) (fun b hb hb2 _ => hk b hb (fun e => hb2 (mem_iv e)) (fun e => hb2 (by rw [e]; exact mem_ob))) ?_ ?_ rfl (fun b hb => (Below.heap_setCell w1 _ _ b (fun e => h.held_out hb (by rw [show b = L.ob from e]; exact hin _ mem_ob))).trans (hg b (h.held_lt hb) (fun e => h.held_out hb (hin b (mem_iv e.symm)))))
  · have := blk_set ((hk1 L.ob (hin _ mem_ob) hkob).trans hobj.block) 7 v1
    simpa using this
  · exact own_move hobj.keys (fun q hq => hk q (hin q (mem_kv hq)) (fun e => n4 q q hq e rfl) (n2 q hq).1)
  · exact hobj.props.move (hk _ (hin _ mem_mb) (fun e => (n3 _ e).2 rfl) (fun e => n1 e.symm))
  · have := own_setCell hown (p := ⟨L.ob, 7, none⟩) (fun e => (hv2 _ e.symm).1 rfl) v1
    exact this
  · intro b hb
    rcases mem_blocks hb with e | e | e | e
    · exact .inl (by rw [e]; exact mem_ob)
    · exact .inl (by rw [e]; exact mem_mb)
    · exact .inl (mem_kv e)
    · rcases hv1 b e with c | c
      · exact .inl (mem_iv c)
      · exact .inr c
  · unfold Lay.blocks
    rw [List.nodup_cons, List.nodup_cons, List.nodup_append]
    refine ⟨?_, ?_, ?_, ?_, ?_⟩
    · intro hm
      simp only [List.mem_cons, List.mem_append, Option.mem_toList] at hm
      rcases hm with e | e | e
      · exact n1 e
      · exact (n2 _ e).1 rfl
      · exact (hv2 _ e).1 rfl
    · intro hm
      simp only [List.mem_append, Option.mem_toList] at hm
      rcases hm with e | e
      · exact (n2 _ e).2 rfl
      · exact (hv2 _ e).2.1 rfl
    · show (L.kv.ownBlock.toList).Nodup
      cases L.kv.ownBlock <;> simp
    · show (v1.ownBlock.toList).Nodup
      cases v1.ownBlock <;> simp
    · intro a ha b hb e
      subst e
      exact (hv2 a (Option.mem_toList.1 hb)).2.2 a (Option.mem_toList.1 ha) rfl
/-- Items in their own row have turned. -/
theorem HeapAt.restored {w w' : World} {B p : Nat} {K : List (Nat × Obj)} {σ : HSt} {ov : Value} {Ls : List Lay} (h : HeapAt w B K p σ ov Ls) {i : Nat} {L : Lay} {o : OSt} (hL : Ls[i]? = some L) (ho : σ.objs[i]? = some o) (xs : List Val)
    (hown : w'.ownsRow B 33 4 L.iv xs.length (xs.flatMap Val.vs)) (hg : ∀ b, b < w.heap.size → some b ≠ L.iv.ownBlock → w'.heap[b]? = w.heap[b]?) :
    HeapAt w' B K p ⟨σ.objs.set i { o with items := xs }, σ.left⟩ ov Ls := by
  have hmem := List.mem_of_getElem? hL
  have hnd := h.lay_nd hmem
  obtain ⟨n1, n2, n3, n4⟩ := Lay.nd hnd
  have hobj := h.objs _ _ _ hL ho
  have hlt := h.feet_lt
  have hne := fun b hb => h.lay_ne hmem (b := b) hb
  have hk : ∀ b ∈ feet p ov Ls, L.iv.ownBlock ≠ some b → w'.heap[b]? = w.heap[b]? := fun b hb e => hg b (hlt b hb) (fun e2 => e e2.symm)
  have hin : ∀ b ∈ L.blocks, b ∈ feet p ov Ls := fun b hb => mem_feet_lay hmem hb
  have := h.turn (w' := w') (L' := L) (o' := { o with items := xs }) hL ho ⟨(hk _ (hin _ mem_ob) (fun e => (n3 _ e).1 rfl)).trans hobj.block, own_move hobj.keys (fun q hq => hk q (hin q (mem_kv hq)) (fun e => n4 q q hq e rfl)), hobj.props.move (hk _ (hin _ mem_mb) (fun e => (n3 _ e).2 rfl)), hown⟩ σ.left ((hk p mem_feet_top (fun e => (hne p (mem_iv e)).1 rfl)).trans h.top) (fun b hb hb2 _ => hk b hb (fun e => hb2 (mem_iv e))) (fun b hb => .inl hb) hnd rfl (fun b hb => hg b (h.held_lt hb) (fun e => h.held_out hb (hin _ (mem_iv e.symm))))
  rwa [list_set_same hL] at this
/-- An item stored in a row. -/
theorem vs_set : ∀ (its : List Val) (n : Nat) (v : Val), n < its.length → (its.set n v).flatMap Val.vs = ((((its.flatMap Val.vs).set (n * 4) (.int .i64 v.kind)).set (n * 4 + 1) (.float .f64 v.num)).set (n * 4 + 2) (.string v.text)).set (n * 4 + 3) (.int .i64 v.ref)
  | [], n, v, h => by simp at h
  | x :: t, 0, v, h => by simp [Val.vs]
  | x :: t, n + 1, v, h => by
    have ih := vs_set t n v (by simpa using h)
    rw [List.set_cons_succ, List.flatMap_cons, ih, List.flatMap_cons]
    have e : ∀ j, (n + 1) * 4 + j = x.vs.length + (n * 4 + j) := fun j => by show (n + 1) * 4 + j = 4 + (n * 4 + j); omega
    have e0 : (n + 1) * 4 = x.vs.length + n * 4 := e 0
    rw [e 1, e 2, e 3, e0]
    rw [List.set_append_right _ _ (by omega), List.set_append_right _ _ (by omega), List.set_append_right _ _ (by omega), List.set_append_right _ _ (by omega)]
    simp only [Nat.add_sub_cancel_left]
theorem own_put4 {w : World} {base g n cap : Nat} {its : List Val} (h : w.ownsRow base 33 4 (.slice (some ⟨g, 0, none⟩) n cap) its.length (its.flatMap Val.vs)) (k : Nat) (hk : k < its.length) (v : Val) :
    ((((w.setCell ⟨g, k * 4, none⟩ (.int .i64 v.kind)).setCell ⟨g, k * 4 + 1, none⟩ (.float .f64 v.num)).setCell ⟨g, k * 4 + 2, none⟩ (.string v.text)).setCell ⟨g, k * 4 + 3, none⟩ (.int .i64 v.ref)).ownsRow base 33 4 (.slice (some ⟨g, 0, none⟩) n cap) (its.set k v).length ((its.set k v).flatMap Val.vs) := by
  obtain ⟨hl, h2⟩ := h
  rcases h2 with ⟨e, _⟩ | ⟨g', cap', cur, e, hb, hg, hn, hm, hs, ht⟩
  · cases e
  · injection e with e1 e2 e3
    injection e1 with e1
    injection e1 with e1
    subst e1 e3
    refine ⟨by rw [vs_len], .inr ⟨g, cap, (((cur.setIfInBounds (k * 4) (.int .i64 v.kind)).setIfInBounds (k * 4 + 1) (.float .f64 v.num)).setIfInBounds (k * 4 + 2) (.string v.text)).setIfInBounds (k * 4 + 3) (.int .i64 v.ref), by rw [List.length_set, e2], hb, blk_set (blk_set (blk_set (blk_set hg _ _) _ _) _ _) _ _, by rw [List.length_set]; exact hn, hm, by simp [hs], ?_⟩⟩
    rw [vs_set its k v hk, ← ht, List.length_set]
    simp only [Array.toList_setIfInBounds, List.take_set]
end Go.Proofs.YtnfobcedbfbbiaaDoor.Hp
