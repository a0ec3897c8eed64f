/- One object turned; Put into a map. -/
import Derived.Test.YtnfobcedbfbbiaaDoorHpB
import Derived.StillTailTactics
namespace Go.Proofs.YtnfobcedbfbbiaaDoor.Hp
open Go.RowKit Go.Proofs.YtnfobcedbfbbiaaDoorW.PrintWords Go.Proofs.YtnfobcedbfbbiaaDoorW.PrintLast Go.Proofs.YtnfobcedbfbbiaaDoorW.PrintMore Go.Proofs.YtnfobcedbfbbiaaDoor.Hand Go.Proofs.YtnfobcedbfbbiaaDoor.PIx Go.Proofs.YtnfobcedbfbbiaaDoor.Pure
set_option linter.unusedVariables false
set_option linter.unusedSimpArgs false
section
theorem nodup_swap {X Y Z Z' : List Nat} (h : (X ++ (Z ++ Y)).Nodup) (h' : Z'.Nodup) (hn : ∀ b ∈ Z', b ∈ Z ∨ (b ∉ X ∧ b ∉ Y)) : (X ++ (Z' ++ Y)).Nodup := by
  rw [List.nodup_append, List.nodup_append] at h ⊢
  obtain ⟨hX, ⟨hZ, hY, hZY⟩, hXZY⟩ := h
  refine ⟨hX, ⟨h', hY, fun a ha b hb e => ?_⟩, fun a ha b hb e => ?_⟩
  · rcases hn a ha with h1 | h1
    · exact hZY a h1 b hb e
    · exact h1.2 (e ▸ hb)
  · rcases List.mem_append.1 hb with hb | hb
    · subst e
      rcases hn a hb with h1 | h1
      · exact hXZY a ha a (List.mem_append.2 (.inl h1)) rfl
      · exact h1.1 ha
    · exact hXZY a ha b (List.mem_append.2 (.inr hb)) e
theorem HeapAt.turn {w w' : World} {B p : Nat} {K : List (Nat × Obj)} {σ : HSt} {ov : Value} {Ls : List Lay} (h : HeapAt w B K p σ ov Ls) {i : Nat} {L L' : Lay} {o o' : OSt} (hL : Ls[i]? = some L) (ho : σ.objs[i]? = some o) (hw : ObjAt w' B L' o') (l : Int)
    (htop : w'.heap[p]? = some (.cells #[ov, .int .i64 l] 72 (0, 0))) (keep : ∀ b ∈ feet p ov Ls, b ∉ L.blocks → b ≠ p → w'.heap[b]? = w.heap[b]?) (new : ∀ b ∈ L'.blocks, b ∈ L.blocks ∨ w.heap.size ≤ b) (hnd : L'.blocks.Nodup) (hob : L'.ob = L.ob) (keepK : ∀ b, Held K b → w'.heap[b]? = w.heap[b]?) :
    HeapAt w' B K p ⟨σ.objs.set i o', l⟩ ov (Ls.set i L') := by
  have hlt := h.feet_lt
  have hbase := h.base
  have hdis := h.dis
  have hil : i < Ls.length := (List.getElem?_eq_some_iff.1 hL).1
  obtain ⟨A, C, hA, hi⟩ : ∃ A C, Ls = A ++ L :: C ∧ A.length = i := by
    refine ⟨Ls.take i, Ls.drop (i + 1), ?_, by rw [List.length_take]; omega⟩
    have h1 : Ls[i] = L := (List.getElem?_eq_some_iff.1 hL).2
    rw [← h1, List.getElem_cons_drop, List.take_append_drop]
  have hset : Ls.set i L' = A ++ L' :: C := by
    rw [hA, ← hi]
    simp
  have hfe : feet p ov Ls = (p :: (ov.ownBlock.toList ++ A.flatMap Lay.blocks)) ++ (L.blocks ++ C.flatMap Lay.blocks) := by
    rw [hA]
    simp [feet, List.flatMap_append, List.flatMap_cons]
  have hfe' : feet p ov (Ls.set i L') = (p :: (ov.ownBlock.toList ++ A.flatMap Lay.blocks)) ++ (L'.blocks ++ C.flatMap Lay.blocks) := by
    rw [hset]
    simp [feet, List.flatMap_append, List.flatMap_cons]
  rw [hfe] at hdis
  have hd := hdis
  rw [List.nodup_append, List.nodup_append] at hd
  obtain ⟨hX, ⟨hZ, hY, hZY⟩, hXZY⟩ := hd
  have hmX : ∀ b ∈ (p :: (ov.ownBlock.toList ++ A.flatMap Lay.blocks)), b ∉ L.blocks := fun b hb hm => hXZY b hb b (List.mem_append.2 (.inl hm)) rfl
  have hin : ∀ b ∈ (p :: (ov.ownBlock.toList ++ A.flatMap Lay.blocks)), b ∈ feet p ov Ls := fun b hb => by rw [hfe]; exact List.mem_append.2 (.inl hb)
  have hinC : ∀ b ∈ C.flatMap Lay.blocks, b ∈ feet p ov Ls := fun b hb => by rw [hfe]; exact List.mem_append.2 (.inr (List.mem_append.2 (.inr hb)))
  have hpX : p ∉ (ov.ownBlock.toList ++ A.flatMap Lay.blocks) := (List.nodup_cons.1 hX).1
  refine ⟨htop, ?_, ?_, ?_, ?_, ?_, ?_⟩
  · have hmap : (Ls.set i L').map obPtr = (Ls.map obPtr).set i (obPtr L') := by rw [List.map_set]
    rw [hmap, show obPtr L' = obPtr L by unfold obPtr; rw [hob], show (Ls.map obPtr).set i (obPtr L) = Ls.map obPtr from by
      apply List.ext_getElem?
      intro n
      by_cases e : i = n
      · subst e
        rw [List.getElem?_set_self (by rw [List.length_map]; exact hil), List.getElem?_map, hL]
        rfl
      · rw [List.getElem?_set_ne e], List.length_set]
    refine own_move h.row (fun q hq => ?_)
    have hq1 : q ∈ p :: (ov.ownBlock.toList ++ A.flatMap Lay.blocks) := List.mem_cons_of_mem _ (List.mem_append.2 (.inl (Option.mem_toList.2 hq)))
    exact keep q (hin q hq1) (hmX q hq1) (fun e => hpX (by rw [← e]; exact List.mem_append.2 (.inl (Option.mem_toList.2 hq))))
  · simp [h.len]
  · intro j L1 o1 h1 h2
    by_cases e : i = j
    · subst e
      rw [List.getElem?_set_self (by omega)] at h1
      rw [List.getElem?_set_self (by rw [← h.len]; omega)] at h2
      obtain rfl := Option.some.inj h1
      obtain rfl := Option.some.inj h2
      exact hw
    · rw [List.getElem?_set_ne e] at h1 h2
      refine (h.objs j L1 o1 h1 h2).move (fun b hb => ?_)
      have hm1 : b ∈ feet p ov Ls := mem_feet_lay (List.mem_of_getElem? h1) hb
      refine keep b hm1 ?_ (h.lay_ne (List.mem_of_getElem? h1) hb).1
      intro hb2
      have hjA : L1 ∈ A ∨ L1 ∈ C := by
        rw [hA] at h1
        rcases Nat.lt_trichotomy j A.length with c | c | c
        · rw [List.getElem?_append_left c] at h1
          exact .inl (List.mem_of_getElem? h1)
        · omega
        · rw [List.getElem?_append_right (by omega)] at h1
          obtain ⟨d, hd⟩ : ∃ d, j - A.length = d + 1 := ⟨j - A.length - 1, by omega⟩
          rw [hd, List.getElem?_cons_succ] at h1
          exact .inr (List.mem_of_getElem? h1)
      rcases hjA with c | c
      · exact hmX b (List.mem_cons_of_mem _ (List.mem_append.2 (.inr (List.mem_flatMap.2 ⟨L1, c, hb⟩)))) hb2
      · exact hZY b hb2 b (List.mem_flatMap.2 ⟨L1, c, hb⟩) rfl
  · rw [hfe']
    refine nodup_swap hdis hnd (fun b hb => ?_)
    rcases new b hb with c | c
    · exact .inl c
    · exact .inr ⟨fun hm => by have := hlt b (hin b hm); omega, fun hm => by have := hlt b (hinC b hm); omega⟩
  · intro b hb
    rw [hfe'] at hb
    rcases List.mem_append.1 hb with hb | hb
    · exact h.low b (hin b hb)
    · rcases List.mem_append.1 hb with hb | hb
      · rcases new b hb with c | c
        · exact h.low b (mem_feet_lay (List.mem_of_getElem? hL) c)
        · omega
      · exact h.low b (hinC b hb)
  · refine h.aside.turn keepK (fun b hb ho2 hm => ?_)
    rw [hfe'] at hm
    rcases List.mem_append.1 hm with hm | hm
    · exact ho2 (hin b hm)
    · rcases List.mem_append.1 hm with hm | hm
      · rcases new b hm with c | c
        · exact ho2 (mem_feet_lay (List.mem_of_getElem? hL) c)
        · have := h.held_lt hb; omega
      · exact ho2 (hinC b hm)
theorem HeapAt.lay_nd {w : World} {B p : Nat} {K : List (Nat × Obj)} {σ : HSt} {ov : Value} {Ls : List Lay} (h : HeapAt w B K p σ ov Ls) {L : Lay} (hL : L ∈ Ls) : L.blocks.Nodup := by
  have hd := h.dis
  unfold feet at hd
  rw [List.nodup_cons, List.nodup_append] at hd
  have := hd.2.2.1
  unfold List.Nodup at this ⊢
  exact (List.pairwise_flatMap.1 this).1 L hL
theorem Lay.nd {L : Lay} (h : L.blocks.Nodup) : L.ob ≠ L.mb ∧ (∀ q, L.kv.ownBlock = some q → q ≠ L.ob ∧ q ≠ L.mb) ∧ (∀ q, L.iv.ownBlock = some q → q ≠ L.ob ∧ q ≠ L.mb) ∧ (∀ q r, L.kv.ownBlock = some q → L.iv.ownBlock = some r → q ≠ r) := by
  unfold Lay.blocks at h
  rw [List.nodup_cons, List.nodup_cons, List.nodup_append] at h
  obtain ⟨h1, h2, h3, h4, h5⟩ := h
  refine ⟨fun e => h1 (by rw [e]; exact List.mem_cons_self), fun q hq => ⟨fun e => h1 ?_, fun e => h2 ?_⟩, fun q hq => ⟨fun e => h1 ?_, fun e => h2 ?_⟩, fun q r hq hr e => h5 q (Option.mem_toList.2 hq) r (Option.mem_toList.2 hr) e⟩
  · rw [← e]; exact List.mem_cons_of_mem _ (List.mem_append.2 (.inl (Option.mem_toList.2 hq)))
  · rw [← e]; exact List.mem_append.2 (.inl (Option.mem_toList.2 hq))
  · rw [← e]; exact List.mem_cons_of_mem _ (List.mem_append.2 (.inr (Option.mem_toList.2 hq)))
  · rw [← e]; exact List.mem_append.2 (.inr (Option.mem_toList.2 hq))
theorem mem_ob {L : Lay} : L.ob ∈ L.blocks := List.mem_cons_self
theorem mem_mb {L : Lay} : L.mb ∈ L.blocks := List.mem_cons_of_mem _ List.mem_cons_self
theorem mem_kv {L : Lay} {q : Nat} (h : L.kv.ownBlock = some q) : q ∈ L.blocks := List.mem_cons_of_mem _ (List.mem_cons_of_mem _ (List.mem_append.2 (.inl (Option.mem_toList.2 h))))
theorem mem_iv {L : Lay} {q : Nat} (h : L.iv.ownBlock = some q) : q ∈ L.blocks := List.mem_cons_of_mem _ (List.mem_cons_of_mem _ (List.mem_append.2 (.inr (Option.mem_toList.2 h))))
theorem mem_blocks {L : Lay} {b : Nat} (h : b ∈ L.blocks) : b = L.ob ∨ b = L.mb ∨ L.kv.ownBlock = some b ∨ L.iv.ownBlock = some b := by
  simpa only [Lay.blocks, List.mem_cons, List.mem_append, Option.mem_toList, or_assoc] using h
theorem list_set_same {α : Type} {l : List α} {i : Nat} {x : α} (h : l[i]? = some x) : l.set i x = l := by
  apply List.ext_getElem?
  intro n
  by_cases e : i = n
  · subst e
    rw [List.getElem?_set_self (List.getElem?_eq_some_iff.1 h).1, h]
  · rw [List.getElem?_set_ne e]
/-- An object's map has turned. -/
theorem HeapAt.mapped {w w' : World} {B p : Nat} {K : List (Nat × Obj)} {σ : HSt} {ov : Value} {Ls : List Lay} (h : HeapAt w B K p σ ov Ls) {i : Nat} {L : Lay} {o : OSt} (hL : Ls[i]? = some L) (ho : σ.objs[i]? = some o) (ps : List (ByteArray × Val)) (hm : MapAt w' L.mb ps) (hg : w.grownBy w' (some L.mb)) :
    HeapAt w' B K p ⟨σ.objs.set i { o with props := ps }, σ.left⟩ ov Ls := by
  have hmem := List.mem_of_getElem? hL
  have hnd := h.lay_nd hmem
  obtain ⟨n1, n2, n3, n4⟩ := Lay.nd hnd
  have hobj := h.objs _ _ _ hL ho
  have hlt := h.feet_lt
  have hne := fun b hb => h.lay_ne hmem (b := b) hb
  have hk : ∀ b ∈ feet p ov Ls, b ≠ L.mb → w'.heap[b]? = w.heap[b]? := fun b hb e => hg.block b (hlt b hb) (fun e2 => e (Option.some.inj e2))
  have hin : ∀ b ∈ L.blocks, b ∈ feet p ov Ls := fun b hb => mem_feet_lay hmem hb
  have := h.turn (w' := w') (L' := L) (o' := { o with props := ps }) hL ho ⟨(hk _ (hin _ mem_ob) n1).trans hobj.block, own_move hobj.keys (fun q hq => hk q (hin q (mem_kv hq)) (n2 q hq).2), hm, own_move hobj.items (fun q hq => hk q (hin q (mem_iv hq)) (n3 q hq).2)⟩ σ.left ((hk p mem_feet_top (fun e => (hne L.mb mem_mb).1 e.symm)).trans h.top) (fun b hb hb2 _ => hk b hb (fun e => hb2 (by rw [e]; exact mem_mb))) (fun b hb => .inl hb) hnd rfl (fun b hb => hg.block b (h.held_lt hb) (fun e => h.held_out hb (by rw [Option.some.inj e]; exact hin _ mem_mb)))
  rwa [list_set_same hL] at this
/-- An object's keys have grown, and are stored. -/
theorem HeapAt.keyed {w w1 : World} {B p : Nat} {K : List (Nat × Obj)} {σ : HSt} {ov : Value} {Ls : List Lay} (h : HeapAt w B K p σ ov Ls) {i : Nat} {L : Lay} {o : OSt} (hL : Ls[i]? = some L) (ho : σ.objs[i]? = some o) (xs : List ByteArray) (v1 : Value)
    (hown : w1.ownsRow B 9 1 v1 xs.length (xs.map Value.string)) (hg : w.grownBy w1 L.kv.ownBlock) (hat : v1.ownBlock = L.kv.ownBlock ∨ ∃ b, v1.ownBlock = some b ∧ w.heap.size ≤ b) :
    HeapAt (w1.setCell ⟨L.ob, 5, none⟩ v1) B K p ⟨σ.objs.set i { o with keys := xs }, σ.left⟩ ov (Ls.set i { L with kv := v1 }) := by
  have hmem := List.mem_of_getElem? hL
  have hnd := h.lay_nd hmem
  obtain ⟨n1, n2, n3, n4⟩ := Lay.nd hnd
  have hobj := h.objs _ _ _ hL ho
  have hlt := h.feet_lt
  have hne := fun b hb => h.lay_ne hmem (b := b) hb
  have hk1 : ∀ b ∈ feet p ov Ls, L.kv.ownBlock ≠ some b → w1.heap[b]? = w.heap[b]? := fun b hb e => hg.block b (hlt b hb) (fun e2 => e e2.symm)
  have hk : ∀ b ∈ feet p ov Ls, L.kv.ownBlock ≠ some b → b ≠ L.ob → (w1.setCell ⟨L.ob, 5, none⟩ v1).heap[b]? = w.heap[b]? := fun b hb e e2 => (Below.heap_setCell w1 _ _ b e2).trans (hk1 b hb e)
  have hin : ∀ b ∈ L.blocks, b ∈ feet p ov Ls := fun b hb => mem_feet_lay hmem hb
  have hkob : L.kv.ownBlock ≠ some L.ob := fun e => (n2 _ e).1 rfl
  have hv1 : ∀ b, v1.ownBlock = some b → L.kv.ownBlock = some b ∨ w.heap.size ≤ b := by
    intro b hb
    rcases hat with e | ⟨b', hb', hs⟩
    · exact .inl (by rw [← e]; exact hb)
    · obtain rfl : b' = b := Option.some.inj (hb'.symm.trans hb)
      exact .inr hs
  have hv2 : ∀ b, v1.ownBlock = some b → b ≠ L.ob ∧ b ≠ L.mb ∧ ∀ r, L.iv.ownBlock = some r → b ≠ r := by
    intro b hb
    rcases hv1 b hb with e | e
    · exact ⟨(n2 b e).1, (n2 b e).2, fun r hr => n4 b r e hr⟩
    · refine ⟨fun e2 => ?_, fun e2 => ?_, fun r hr e2 => ?_⟩
      · have := hlt _ (hin _ (mem_ob (L := L))); omega
      · have := hlt _ (hin _ (mem_mb (L := L))); omega
      · have := hlt _ (hin _ (mem_iv hr)); omega
  refine h.turn (L' := { L with kv := v1 }) (o' := { o with keys := xs }) hL ho ⟨?_, ?_, ?_, ?_⟩ σ.left ((hk p mem_feet_top (fun e => (hne p (mem_kv e)).1 rfl) (fun e => (hne L.ob mem_ob).1 e.symm)).trans h.top) (fun b hb hb2 _ => hk b hb (fun e => hb2 (mem_kv e)) (fun e => hb2 (by rw [e]; exact mem_ob))) ?_ ?_ rfl (fun b hb => (Below.heap_setCell w1 _ _ b (fun e => h.held_out hb (by rw [show b = L.ob from e]; exact hin _ mem_ob))).trans (hg.block b (h.held_lt hb) (fun e => h.held_out hb (hin b (mem_kv e.symm)))))
  · have := blk_set ((hk1 L.ob (hin _ mem_ob) hkob).trans hobj.block) 5 v1
    simpa using this
  · have := own_setCell hown (p := ⟨L.ob, 5, none⟩) (fun e => (hv2 _ e.symm).1 rfl) v1
    exact this
  · exact hobj.props.move (hk _ (hin _ mem_mb) (fun e => (n2 _ e).2 rfl) (fun e => n1 e.symm))
  · exact own_move hobj.items (fun q hq => hk q (hin q (mem_iv hq)) (fun e => n4 q q e hq rfl) (n3 q hq).1)
  · intro b hb
    rcases mem_blocks hb with e | e | e | e
    · exact .inl (by rw [e]; exact mem_ob)
    · exact .inl (by rw [e]; exact mem_mb)
    · rcases hv1 b e with c | c
      · exact .inl (mem_kv c)
      · exact .inr c
    · exact .inl (mem_iv e)
  · unfold Lay.blocks
    rw [List.nodup_cons, List.nodup_cons, List.nodup_append]
    refine ⟨?_, ?_, ?_, ?_, ?_⟩
    · intro hm
      simp only [List.mem_cons, List.mem_append, Option.mem_toList] at hm
      rcases hm with e | e | e
      · exact n1 e
      · exact (hv2 _ e).1 rfl
      · exact (n3 _ e).1 rfl
    · intro hm
      simp only [List.mem_append, Option.mem_toList] at hm
      rcases hm with e | e
      · exact (hv2 _ e).2.1 rfl
      · exact (n3 _ e).2 rfl
    · show (v1.ownBlock.toList).Nodup
      cases v1.ownBlock <;> simp
    · show (L.iv.ownBlock.toList).Nodup
      cases L.iv.ownBlock <;> simp
    · intro a ha b hb e
      subst e
      exact (hv2 a (Option.mem_toList.1 ha)).2.2 a (Option.mem_toList.1 hb) rfl
end
section
theorem not_length {key : ByteArray} (h : key ≠ lengthKey) : (key.toList == ([0, 108, 0, 101, 0, 110, 0, 103, 0, 116, 0, 104] : List UInt8)) = false := by
  rw [Lib.toList_data]
  refine beq_eq_false_iff_ne.2 (fun e => h ?_)
  apply ByteArray.ext
  exact Array.toList_inj.1 e
/-- What the walk needs behind the index. -/
theorem box_facts {w w4 : World} {B p : Nat} {K : List (Nat × Obj)} {σ : HSt} {ov : Value} {Ls : List Lay} (h : HeapAt w4 B K p σ ov Ls) {n : Nat} {L : Lay} {o : OSt} (hL : Ls[n]? = some L) (ho : σ.objs[n]? = some o) {v : Val}
    (hblk : w4.heap[w.heap.size]? = some (.cells #[.int .i64 v.kind, .float .f64 v.num, .string v.text, .int .i64 v.ref] 33 (0, 0))) (hb : Below B w w4) :
    ∀ w6, (∃ n, w6 = w4.drewN n) → w6.cell? ⟨L.ob, 0, none⟩ = some (.int .i64 o.kind) ∧ w6.cell? ⟨p, 1, none⟩ = some (.int .i64 σ.left) ∧ w6.cell? ⟨L.ob, 5, none⟩ = some L.kv ∧ w6.cell? ⟨L.ob, 6, none⟩ = some (.map (some L.mb))
      ∧ w6.cell? ⟨w.heap.size, 0, none⟩ = some (.int .i64 v.kind) ∧ w6.cell? ⟨w.heap.size, 1, none⟩ = some (.float .f64 v.num) ∧ w6.cell? ⟨w.heap.size, 2, none⟩ = some (.string v.text) ∧ w6.cell? ⟨w.heap.size, 3, none⟩ = some (.int .i64 v.ref)
      ∧ MapAt w6 L.mb o.props ∧ Below B w w6 ∧ HeapAt w6 B K p σ ov Ls ∧ w6.heap[w.heap.size]? = some (.cells #[.int .i64 v.kind, .float .f64 v.num, .string v.text, .int .i64 v.ref] 33 (0, 0)) ∧ ¬ (L.ob = w6.heap.size) ∧ ¬ (p = w6.heap.size) ∧ ¬ (w.heap.size = w6.heap.size) := by
  rintro w6 ⟨nd, rfl⟩
  have hobj := h.objs _ _ _ hL ho
  obtain ⟨x0, x1, x5, x6, x7⟩ := hobj.cell
  refine ⟨x0, h.cell1, x5, x6, (cell_in hblk).trans rfl, (cell_in hblk).trans rfl, (cell_in hblk).trans rfl, (cell_in hblk).trans rfl, hobj.props.move rfl, pw_below_drewN hb _, h.drewN _, hblk, ?_, ?_, ?_⟩
  · have := (Array.getElem?_eq_some_iff.1 hobj.block).1
    show ¬ (L.ob = w4.heap.size)
    omega
  · have := h.top_lt
    show ¬ (p = w4.heap.size)
    omega
  · have := (Array.getElem?_eq_some_iff.1 hblk).1
    show ¬ (w.heap.size = w4.heap.size)
    omega
set_option maxHeartbeats 4000000 in
set_option maxRecDepth 100000 in
/-- Put at a key that is there. -/
theorem put_there {w : World} {B p : Nat} {K : List (Nat × Obj)} {σ : HSt} {ov : Value} {Ls : List Lay} (h : HeapAt w B K p σ ov Ls) (hf : Fit σ) (i : Int) (key : ByteArray) (v : Val) (hks : key.size ≤ 140737488351232) (o : OSt) (ho : objS σ i = some o) (hk : o.kind = 2 → key ≠ lengthKey ∧ (idxR key).2 = false)
    (HR : ∀ w1, HeapAt w1 B K p σ ov Ls → Calls Tryd.prog 37 #[.pointer (some ⟨p, 0, none⟩), v.agg] w1 fun e w' => e = .returned (.bool true) ∧ Below w1.heap.size w1 w') (hl : (lookS o.props key).isSome = true) :
    Calls Tryd.prog 16 #[.pointer (some ⟨p, 0, none⟩), .int .i64 i, .string key, v.agg] w (Left B K p (.int .i64 0) ⟨σ.objs.set i.toNat { o with props := putS o.props key v }, σ.left⟩ w) := by
  have h1 := h.alloc (.cells #[.int .i64 v.kind, .float .f64 v.num, .string v.text, .int .i64 v.ref] 33)
  obtain ⟨L, hL, h0, hobj⟩ := h1.obj ho
  have HC := Aside0.mk (at_obj h1 (by have := hf.objs; have := h.len; omega) i h0 hL)
  have HX := fun w => Aside0.mk (index_calls key hks w)
  have HRR := Aside0.mk (HR _ h1)
  obtain ⟨kb, d1, hkb⟩ : ∃ kb, (o.kind == 2) = kb ∧ (kb = true → (key.toList == ([0, 108, 0, 101, 0, 110, 0, 103, 0, 116, 0, 104] : List UInt8)) = false ∧ (idxR key).2 = false) := ⟨_, rfl, fun e => ⟨not_length (hk (beq_iff_eq.1 e)).1, (hk (beq_iff_eq.1 e)).2⟩⟩
  have HO := Aside0.mk (objS_some ho).2.2
  have HL := Aside0.mk hL
  have HL2 := Aside0.mk hl
  have H1 := Aside0.mk h1
  have hB := h.base
  clear h h1 hf ho hL h0 hk hl HR hobj
  go_enter Tryd.func16, Tryd.ntmps16
  go_upto_region 6 with (first | (go_at_call 40; refine (HC.out).mono ?_; rintro e w' ⟨rfl, rfl⟩) | (go_at_call 37; refine (HRR.out).mono ?_; rintro e w4 ⟨rfl, hb⟩; have HB1 := Aside0.mk hb; clear hb))
  have h4 := H1.out.below HB1.out
  have hobj := h4.objs _ _ _ HL.out HO.out
  have hblk := (HB1.out.block w.heap.size (by rw [World.size_alloc]; exact Nat.lt_succ_self _)).trans (heap_alloc_new w _)
  have HBL := (below_step ((Below.refl w.heap.size w).alloc (Nat.le_refl _) _) HB1.out).mono hB
  have FACTS := Aside0.mk (box_facts h4 HL.out HO.out hblk HBL)
  have x0 := hobj.cell.1
  clear h4 hobj hblk HB1 HRR HC
  generalize idxR key = R at *
  obtain ⟨ix, bx⟩ := R
  have hl := HL2.out
  have d2 : (lookS o.props key).isSome = true := hl
  cases bx <;> cases kb
  case true.true => exact absurd (hkb rfl).2 (by simp)
  all_goals
    try (have d9 := (hkb rfl).1)
    clear hkb
    go_upto_region 18 with (go_at_call 9; go_must (refine ((HX _).out).mono ?_; rintro e w6 ⟨rfl, hd⟩; obtain ⟨z0, z1, z5, z6, y0, y1, y2, y3, HM, HB6, H6, hblk, e1, e2, e3⟩ := FACTS.out w6 hd; clear x0 hd))
    have HM := Aside0.mk HM
    have HBX := Aside0.mk (HB6.alloc (Nat.le_trans hB (Nat.le_of_lt (Array.getElem?_eq_some_iff.1 hblk).1)) (.cells #[.int .i64 ((lookS o.props key).getD Val.zero).kind, .float .f64 ((lookS o.props key).getD Val.zero).num, .string ((lookS o.props key).getD Val.zero).text, .int .i64 ((lookS o.props key).getD Val.zero).ref] 33))
    have HX6 := H6.alloc (.cells #[.int .i64 ((lookS o.props key).getD Val.zero).kind, .float .f64 ((lookS o.props key).getD Val.zero).num, .string ((lookS o.props key).getD Val.zero).text, .int .i64 ((lookS o.props key).getD Val.zero).ref] 33)
    have hbX := (Below.heap_alloc w6 (.cells #[.int .i64 ((lookS o.props key).getD Val.zero).kind, .float .f64 ((lookS o.props key).getD Val.zero).num, .string ((lookS o.props key).getD Val.zero).text, .int .i64 ((lookS o.props key).getD Val.zero).ref] 33) w.heap.size (Array.getElem?_eq_some_iff.1 hblk).1).trans hblk
    have FACTS2 := Aside0.mk (box_facts HX6 HL.out HO.out hbX HBX.out)
    clear H6 HB6 HX6 hbX FACTS hblk
    go_upto_region 24 with (at_lookup; refine wpList_look _ rfl _ _ rfl L.mb key o.props rfl rfl HM.out ?_)
    generalize w6.alloc (.cells #[.int .i64 ((lookS o.props key).getD Val.zero).kind, .float .f64 ((lookS o.props key).getD Val.zero).num, .string ((lookS o.props key).getD Val.zero).text, .int .i64 ((lookS o.props key).getD Val.zero).ref] 33) = wX at *
    clear z0 z1 z5 z6 y0 y1 y2 y3 HM e1 e2 e3
    obtain ⟨z0, z1, z5, z6, y0, y1, y2, y3, HM, HB6, H6, hblk, e1, e2, e3⟩ := FACTS2.out wX ⟨0, rfl⟩
    clear z1 z5 HM HB6 H6 hblk e1 e2 e3
    go_still_tail 6, (by kernel_rfl)
    clear z0 z6 y0 y1 y2 y3
    obtain ⟨z0, z1, z5, z6, y0, y1, y2, y3, HM, HB6, H6, hblk, e1, e2, e3⟩ := FACTS2.out (World.drew wX) ⟨1, rfl⟩
    change wpList _ _ _ _ _ (World.drew wX)
    generalize World.drew wX = wY at *
    have HM := Aside0.mk HM
    have H6 := Aside0.mk H6
    have HB6 := Aside0.mk HB6
    clear hblk z0 z1 z5 z6 y0 y1 y2 y3 FACTS2
    go_wp2_with (at_mapUpdate; go_must (refine wpList_put _ rfl _ _ _ rfl L.mb key v o.props rfl rfl rfl HM.out ?_; intro w9 hm9 hg9; have HM9 := Aside0.mk hm9; have HG9 := Aside0.mk hg9; clear hm9 hg9))
    go_ret
    refine ⟨rfl, ?_, ov, Ls, H6.out.mapped HL.out HO.out _ HM9.out HG9.out⟩
    exact HB6.out.grown HG9.out (Nat.le_trans hB HB6.out.size) (fun k hk => by cases hk; exact H6.out.low _ (mem_feet_lay (List.mem_of_getElem? HL.out) mem_mb))
set_option maxHeartbeats 4000000 in
set_option maxRecDepth 100000 in
/-- Put at a key that is not there: no room. -/
theorem put_full {w : World} {B p : Nat} {K : List (Nat × Obj)} {σ : HSt} {ov : Value} {Ls : List Lay} (h : HeapAt w B K p σ ov Ls) (hf : Fit σ) (i : Int) (key : ByteArray) (v : Val) (hks : key.size ≤ 140737488351232) (o : OSt) (ho : objS σ i = some o) (hk : o.kind = 2 → key ≠ lengthKey ∧ (idxR key).2 = false)
    (HR : ∀ w1, HeapAt w1 B K p σ ov Ls → Calls Tryd.prog 37 #[.pointer (some ⟨p, 0, none⟩), v.agg] w1 fun e w' => e = .returned (.bool true) ∧ Below w1.heap.size w1 w') (hl : (lookS o.props key).isSome = false) (hroom : σ.left < 1) :
    Calls Tryd.prog 16 #[.pointer (some ⟨p, 0, none⟩), .int .i64 i, .string key, v.agg] w (Left B K p (.int .i64 112) σ w) := by
  have h1 := h.alloc (.cells #[.int .i64 v.kind, .float .f64 v.num, .string v.text, .int .i64 v.ref] 33)
  obtain ⟨L, hL, h0, hobj⟩ := h1.obj ho
  have HC := Aside0.mk (at_obj h1 (by have := hf.objs; have := h.len; omega) i h0 hL)
  have HX := fun w => Aside0.mk (index_calls key hks w)
  have HRR := Aside0.mk (HR _ h1)
  obtain ⟨kb, d1, hkb⟩ : ∃ kb, (o.kind == 2) = kb ∧ (kb = true → (key.toList == ([0, 108, 0, 101, 0, 110, 0, 103, 0, 116, 0, 104] : List UInt8)) = false ∧ (idxR key).2 = false) := ⟨_, rfl, fun e => ⟨not_length (hk (beq_iff_eq.1 e)).1, (hk (beq_iff_eq.1 e)).2⟩⟩
  have HO := Aside0.mk (objS_some ho).2.2
  have HL := Aside0.mk hL
  have HL2 := Aside0.mk hl
  have H1 := Aside0.mk h1
  have hB := h.base
  have d3 : decide (σ.left < 1) = true := decide_eq_true hroom
  clear h h1 hf ho hL h0 hk hl HR hobj
  go_enter Tryd.func16, Tryd.ntmps16
  go_upto_region 6 with (first | (go_at_call 40; refine (HC.out).mono ?_; rintro e w' ⟨rfl, rfl⟩) | (go_at_call 37; refine (HRR.out).mono ?_; rintro e w4 ⟨rfl, hb⟩; have HB1 := Aside0.mk hb; clear hb))
  have h4 := H1.out.below HB1.out
  have hobj := h4.objs _ _ _ HL.out HO.out
  have hblk := (HB1.out.block w.heap.size (by rw [World.size_alloc]; exact Nat.lt_succ_self _)).trans (heap_alloc_new w _)
  have HBL := (below_step ((Below.refl w.heap.size w).alloc (Nat.le_refl _) _) HB1.out).mono hB
  have FACTS := Aside0.mk (box_facts h4 HL.out HO.out hblk HBL)
  have x0 := hobj.cell.1
  clear h4 hobj hblk HB1 HRR HC
  generalize idxR key = R at *
  obtain ⟨ix, bx⟩ := R
  have hl := HL2.out
  have d2 : (lookS o.props key).isSome = false := hl
  cases bx <;> cases kb
  case true.true => exact absurd (hkb rfl).2 (by simp)
  all_goals
    try (have d9 := (hkb rfl).1)
    clear hkb
    go_upto_region 18 with (go_at_call 9; go_must (refine ((HX _).out).mono ?_; rintro e w6 ⟨rfl, hd⟩; obtain ⟨z0, z1, z5, z6, y0, y1, y2, y3, HM, HB6, H6, hblk, e1, e2, e3⟩ := FACTS.out w6 hd; clear x0 hd))
    have HM := Aside0.mk HM
    have HBX := Aside0.mk (HB6.alloc (Nat.le_trans hB (Nat.le_of_lt (Array.getElem?_eq_some_iff.1 hblk).1)) (.cells #[.int .i64 ((lookS o.props key).getD Val.zero).kind, .float .f64 ((lookS o.props key).getD Val.zero).num, .string ((lookS o.props key).getD Val.zero).text, .int .i64 ((lookS o.props key).getD Val.zero).ref] 33))
    have HX6 := H6.alloc (.cells #[.int .i64 ((lookS o.props key).getD Val.zero).kind, .float .f64 ((lookS o.props key).getD Val.zero).num, .string ((lookS o.props key).getD Val.zero).text, .int .i64 ((lookS o.props key).getD Val.zero).ref] 33)
    have hbX := (Below.heap_alloc w6 (.cells #[.int .i64 ((lookS o.props key).getD Val.zero).kind, .float .f64 ((lookS o.props key).getD Val.zero).num, .string ((lookS o.props key).getD Val.zero).text, .int .i64 ((lookS o.props key).getD Val.zero).ref] 33) w.heap.size (Array.getElem?_eq_some_iff.1 hblk).1).trans hblk
    have FACTS2 := Aside0.mk (box_facts HX6 HL.out HO.out hbX HBX.out)
    clear H6 HB6 HX6 hbX FACTS hblk
    go_upto_region 20 with (at_lookup; refine wpList_look _ rfl _ _ rfl L.mb key o.props rfl rfl HM.out ?_)
    generalize w6.alloc (.cells #[.int .i64 ((lookS o.props key).getD Val.zero).kind, .float .f64 ((lookS o.props key).getD Val.zero).num, .string ((lookS o.props key).getD Val.zero).text, .int .i64 ((lookS o.props key).getD Val.zero).ref] 33) = wX at *
    clear z0 z1 z5 z6 y0 y1 y2 y3 HM e1 e2 e3
    obtain ⟨z0, z1, z5, z6, y0, y1, y2, y3, HM, HB6, H6, hblk, e1, e2, e3⟩ := FACTS2.out wX ⟨0, rfl⟩
    have H6 := Aside0.mk H6
    have HB6 := Aside0.mk HB6
    clear z0 z5 z6 y0 y1 y2 y3 HM hblk e1 e2 e3 FACTS2
    go_wp2
    go_ret
    exact ⟨rfl, HB6.out, ov, Ls, H6.out⟩
set_option maxHeartbeats 4000000 in
set_option maxRecDepth 100000 in
/-- Put at a key that is not there. -/
theorem put_room {w : World} {B p : Nat} {K : List (Nat × Obj)} {σ : HSt} {ov : Value} {Ls : List Lay} (h : HeapAt w B K p σ ov Ls) (hf : Fit σ) (i : Int) (key : ByteArray) (v : Val) (hks : key.size ≤ 140737488351232) (o : OSt) (ho : objS σ i = some o) (hk : o.kind = 2 → key ≠ lengthKey ∧ (idxR key).2 = false)
    (HR : ∀ w1, HeapAt w1 B K p σ ov Ls → Calls Tryd.prog 37 #[.pointer (some ⟨p, 0, none⟩), v.agg] w1 fun e w' => e = .returned (.bool true) ∧ Below w1.heap.size w1 w') (hl : (lookS o.props key).isSome = false) (hroom : ¬ σ.left < 1) (hkeys : o.keys.length ≤ 100000) :
    Calls Tryd.prog 16 #[.pointer (some ⟨p, 0, none⟩), .int .i64 i, .string key, v.agg] w (Left B K p (.int .i64 0) ⟨σ.objs.set i.toNat { o with keys := o.keys ++ [key], props := putS o.props key v }, σ.left - 1⟩ w) := by
  have h1 := h.alloc (.cells #[.int .i64 v.kind, .float .f64 v.num, .string v.text, .int .i64 v.ref] 33)
  obtain ⟨L, hL, h0, hobj⟩ := h1.obj ho
  have HC := Aside0.mk (at_obj h1 (by have := hf.objs; have := h.len; omega) i h0 hL)
  have HX := fun w => Aside0.mk (index_calls key hks w)
  have HRR := Aside0.mk (HR _ h1)
  obtain ⟨kb, d1, hkb⟩ : ∃ kb, (o.kind == 2) = kb ∧ (kb = true → (key.toList == ([0, 108, 0, 101, 0, 110, 0, 103, 0, 116, 0, 104] : List UInt8)) = false ∧ (idxR key).2 = false) := ⟨_, rfl, fun e => ⟨not_length (hk (beq_iff_eq.1 e)).1, (hk (beq_iff_eq.1 e)).2⟩⟩
  have HO := Aside0.mk (objS_some ho).2.2
  have HL := Aside0.mk hL
  have HL2 := Aside0.mk hl
  have H1 := Aside0.mk h1
  have hB := h.base
  have d3 : decide (σ.left < 1) = false := decide_eq_false hroom
  have hpl := h.top_lt
  have hkvl : ∀ q, L.kv.ownBlock = some q → q < w.heap.size := fun q hq => h.feet_lt q (mem_feet_lay (List.mem_of_getElem? hL) (mem_kv hq))
  have hobl : L.ob < w.heap.size := h.feet_lt _ (mem_feet_lay (List.mem_of_getElem? hL) mem_ob)
  have HPL := Aside0.mk hpl
  have HKVL := Aside0.mk hkvl
  have HOBL := Aside0.mk hobl
  have HLE := Aside0.mk hf.left1
  have HKE := Aside0.mk hkeys
  have HRO := Aside0.mk hroom
  clear hpl hkvl hobl hkeys hroom
  clear h h1 hf ho hL h0 hk hl HR hobj
  go_enter Tryd.func16, Tryd.ntmps16
  go_upto_region 6 with (first | (go_at_call 40; refine (HC.out).mono ?_; rintro e w' ⟨rfl, rfl⟩) | (go_at_call 37; refine (HRR.out).mono ?_; rintro e w4 ⟨rfl, hb⟩; have HB1 := Aside0.mk hb; clear hb))
  have h4 := H1.out.below HB1.out
  have hobj := h4.objs _ _ _ HL.out HO.out
  have hblk := (HB1.out.block w.heap.size (by rw [World.size_alloc]; exact Nat.lt_succ_self _)).trans (heap_alloc_new w _)
  have HBL := (below_step ((Below.refl w.heap.size w).alloc (Nat.le_refl _) _) HB1.out).mono hB
  have FACTS := Aside0.mk (box_facts h4 HL.out HO.out hblk HBL)
  have x0 := hobj.cell.1
  clear h4 hobj hblk HB1 HRR HC
  generalize idxR key = R at *
  obtain ⟨ix, bx⟩ := R
  have hl := HL2.out
  have d2 : (lookS o.props key).isSome = false := hl
  cases bx <;> cases kb
  case true.true => exact absurd (hkb rfl).2 (by simp)
  all_goals
    try (have d9 := (hkb rfl).1)
    clear hkb
    go_upto_region 18 with (go_at_call 9; go_must (refine ((HX _).out).mono ?_; rintro e w6 ⟨rfl, hd⟩; obtain ⟨z0, z1, z5, z6, y0, y1, y2, y3, HM, HB6, H6, hblk, e1, e2, e3⟩ := FACTS.out w6 hd; clear x0 hd))
    have HM := Aside0.mk HM
    have HBX := Aside0.mk (HB6.alloc (Nat.le_trans hB (Nat.le_of_lt (Array.getElem?_eq_some_iff.1 hblk).1)) (.cells #[.int .i64 ((lookS o.props key).getD Val.zero).kind, .float .f64 ((lookS o.props key).getD Val.zero).num, .string ((lookS o.props key).getD Val.zero).text, .int .i64 ((lookS o.props key).getD Val.zero).ref] 33))
    have HX6 := H6.alloc (.cells #[.int .i64 ((lookS o.props key).getD Val.zero).kind, .float .f64 ((lookS o.props key).getD Val.zero).num, .string ((lookS o.props key).getD Val.zero).text, .int .i64 ((lookS o.props key).getD Val.zero).ref] 33)
    have hbX := (Below.heap_alloc w6 (.cells #[.int .i64 ((lookS o.props key).getD Val.zero).kind, .float .f64 ((lookS o.props key).getD Val.zero).num, .string ((lookS o.props key).getD Val.zero).text, .int .i64 ((lookS o.props key).getD Val.zero).ref] 33) w.heap.size (Array.getElem?_eq_some_iff.1 hblk).1).trans hblk
    have FACTS2 := Aside0.mk (box_facts HX6 HL.out HO.out hbX HBX.out)
    clear H6 HB6 HX6 hbX FACTS hblk
    go_upto_region 20 with (at_lookup; refine wpList_look _ rfl _ _ rfl L.mb key o.props rfl rfl HM.out ?_)
    generalize w6.alloc (.cells #[.int .i64 ((lookS o.props key).getD Val.zero).kind, .float .f64 ((lookS o.props key).getD Val.zero).num, .string ((lookS o.props key).getD Val.zero).text, .int .i64 ((lookS o.props key).getD Val.zero).ref] 33) = wX at *
    clear z0 z1 z5 z6 y0 y1 y2 y3 HM e1 e2 e3
    obtain ⟨z0, z1, z5, z6, y0, y1, y2, y3, HM, HB6, H6, hblk, e1, e2, e3⟩ := FACTS2.out wX ⟨0, rfl⟩
    have f1 := H6.free 1
    have H7 := H6.setLeft (wrap64 (σ.left - 1))
    have HBX7 := Aside0.mk (HB6.setCell (p := ⟨p, 1, none⟩) (H6.low p mem_feet_top) (.int .i64 (wrap64 (σ.left - 1))))
    have hb7 := (Below.heap_setCell wX ⟨p, 1, none⟩ (.int .i64 (wrap64 (σ.left - 1))) w.heap.size (fun e => by have := HPL.out; have e' : w.heap.size = p := e; omega)).trans hblk
    have FACTS3 := Aside0.mk (box_facts (σ := ⟨σ.objs, wrap64 (σ.left - 1)⟩) H7 HL.out HO.out hb7 HBX7.out)
    have HW64 := Aside0.mk (show wrap64 (σ.left - 1) = σ.left - 1 by have := HRO.out; have := HLE.out; unfold wrap64; omega)
    clear z0 z5 z6 y0 y1 y2 y3 HM hblk e1 e2 e3 FACTS2 H6 HB6 H7 hb7
    go_upto_region 23 with (fail)
    obtain ⟨W1, hW1⟩ : ∃ W1, W1 = wX.setCell ⟨p, 1, none⟩ (.int .i64 (wrap64 (σ.left - 1))) := ⟨_, rfl⟩
    rw [← hW1] at FACTS3 HBX7
    rw [← hW1]
    clear hW1
    obtain ⟨z0, z1, z5, z6, y0, y1, y2, y3, HM, HB7, H7, hblk, e1, e2, e3⟩ := FACTS3.out W1 ⟨0, rfl⟩
    have hobj7 := H7.objs _ _ _ HL.out HO.out
    have HKEYS := Aside0.mk hobj7.keys
    have qf5 : W1.frozen? ⟨L.ob, 5, none⟩ = false := free_in hobj7.block
    have HBS := Aside0.mk (H7.base)
    have HND := Aside0.mk (Lay.nd (H7.lay_nd (List.mem_of_getElem? HL.out)))
    have HKO := Aside0.mk (show some L.ob ≠ L.kv.ownBlock from fun e => (HND.out.2.1 _ e.symm).1 rfl)
    have HLB := Aside0.mk (Array.getElem?_eq_some_iff.1 hobj7.block).1
    have HB7 := Aside0.mk HB7
    have H7 := Aside0.mk H7
    have HBK := Aside0.mk hblk
    clear z0 z1 z6 y0 y1 y2 y3 HM hblk e2 e3 hobj7 FACTS3 HBX7
    go_upto_region 24 with (at_builtin; go_must (refine print_append (w0 := w) (W := W1) B rfl _ _ 41 9 (.string ⟨#[]⟩) 16 rfl Tryd.underlying41 info9 rfl (by decide) L.kv (o.keys.map Value.string) (.string key) rfl rfl rfl (by rw [List.length_map]; exact HKEYS.out) HB7.out HBS.out (by rw [List.length_map]; have := HKE.out; omega) ?_; intro v1 w5 hown hbel hg hat; have q5 := hg.cell z5 HKO.out; have qf := (World.frozen?_of_block (a := ⟨L.ob, 5, none⟩) (hg.block L.ob HLB.out HKO.out)).trans qf5; have HOwn := Aside0.mk hown; have HG := Aside0.mk hg; have HAt := Aside0.mk hat; have HB5 := Aside0.mk hbel; obtain ⟨A1, c1, e1⟩ := own_slice hown; clear hown hg hat hbel z5 qf5))
    have hown := HOwn.out
    rw [show o.keys.map Value.string ++ [Value.string key] = (o.keys ++ [key]).map Value.string by simp, List.length_map] at hown
    have hln : (List.map Value.string o.keys ++ [Value.string key]).length = o.keys.length + 1 := by simp
    rw [hln] at e1
    subst e1
    have H8 := H7.out.keyed HL.out HO.out (o.keys ++ [key]) _ hown HG.out HAt.out
    have hBob : B ≤ L.ob := H7.out.low _ (mem_feet_lay (List.mem_of_getElem? HL.out) mem_ob)
    have HB8 := HB5.out.setCell (p := ⟨L.ob, 5, none⟩) hBob (.slice A1 (o.keys.length + 1) c1)
    have hb8 := (Below.heap_setCell w5 ⟨L.ob, 5, none⟩ (.slice A1 (o.keys.length + 1) c1) w.heap.size (fun e => by have := HOBL.out; have e' : w.heap.size = L.ob := e; omega)).trans ((HG.out.block w.heap.size (Array.getElem?_eq_some_iff.1 HBK.out).1 (fun e => by have := HKVL.out _ e.symm; omega)).trans HBK.out)
    have hL8 : (Ls.set i.toNat { L with kv := .slice A1 (o.keys.length + 1) c1 })[i.toNat]? = some { L with kv := .slice A1 (o.keys.length + 1) c1 } := List.getElem?_set_self (List.getElem?_eq_some_iff.1 HL.out).1
    have hO8 : (σ.objs.set i.toNat { o with keys := o.keys ++ [key] })[i.toNat]? = some { o with keys := o.keys ++ [key] } := List.getElem?_set_self (List.getElem?_eq_some_iff.1 HO.out).1
    have FACTS4 := Aside0.mk (box_facts H8 hL8 hO8 hb8 HB8)
    have HL8 := Aside0.mk hL8
    have HO8 := Aside0.mk hO8
    clear hown hln H8 hBob HB8 hb8 hL8 hO8 HOwn HG HAt HB5 q5 qf
    generalize w5.setCell ⟨L.ob, 5, none⟩ (.slice A1 (o.keys.length + 1) c1) = W2 at *
    obtain ⟨z0, z1, z5, z6, y0, y1, y2, y3, HM, HB6, H6, hblk, e1, e2, e3⟩ := FACTS4.out W2 ⟨0, rfl⟩
    clear z1 z5 HM HB6 H6 hblk e1 e2 e3
    go_still_tail 6, (by kernel_rfl)
    clear z0 z6 y0 y1 y2 y3
    obtain ⟨z0, z1, z5, z6, y0, y1, y2, y3, HM, HB6, H6, hblk, e1, e2, e3⟩ := FACTS4.out (World.drew W2) ⟨1, rfl⟩
    change wpList _ _ _ _ _ (World.drew W2)
    generalize World.drew W2 = wY at *
    have HM := Aside0.mk HM
    have H6 := Aside0.mk H6
    have HB6 := Aside0.mk HB6
    clear hblk z0 z1 z5 z6 y0 y1 y2 y3 FACTS4
    go_wp2_with (at_mapUpdate; go_must (refine wpList_put _ rfl _ _ _ rfl L.mb key v o.props rfl rfl rfl HM.out ?_; intro w9 hm9 hg9; have HM9 := Aside0.mk hm9; have HG9 := Aside0.mk hg9; clear hm9 hg9))
    go_ret
    have H9 := H6.out.mapped HL8.out HO8.out _ HM9.out HG9.out
    rw [List.set_set, HW64.out] at H9
    refine ⟨rfl, ?_, ov, _, H9⟩
    exact HB6.out.grown HG9.out (Nat.le_trans hB HB6.out.size) (fun k hk => by cases hk; exact H6.out.low _ (mem_feet_lay (List.mem_of_getElem? HL8.out) (L := { L with kv := .slice A1 (o.keys.length + 1) c1 }) mem_mb))
end
end Go.Proofs.YtnfobcedbfbbiaaDoor.Hp
