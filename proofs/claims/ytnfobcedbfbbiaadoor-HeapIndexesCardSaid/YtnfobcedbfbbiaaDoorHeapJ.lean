/- One object turned. -/
import Derived.Test.YtnfobcedbfbbiaaDoorHeapI
namespace Go.Proofs.YtnfobcedbfbbiaaDoor.Hp
open Go.RowKit Go.Proofs.YtnfobcedbfbbiaaDoorW.PrintWords Go.Proofs.YtnfobcedbfbbiaaDoorW.PrintLast Go.Proofs.YtnfobcedbfbbiaaDoorW.PrintMore Go.Proofs.YtnfobcedbfbbiaaDoor.Hand Go.Proofs.YtnfobcedbfbbiaaDoor.PIx Go.Proofs.YtnfobcedbfbbiaaDoor.Pure
set_option linter.unusedVariables false
set_option linter.unusedSimpArgs false
theorem nodup_swap {X Y Z Z' : List Nat} (h : (X ++ (Z ++ Y)).Nodup) (h' : Z'.Nodup) (hn : ∀ b ∈ Z', b ∈ Z ∨ (b ∉ X ∧ b ∉ Y)) : (X ++ (Z' ++ Y)).Nodup := by
  rw [List.nodup_append, List.nodup_append] at h ⊢
  obtain ⟨hX, ⟨hZ, hY, hZY⟩, hXZY⟩ := h
  refine ⟨hX, ⟨h', hY, fun a ha b hb e => ?_⟩, fun a ha b hb e => ?_⟩
  · rcases hn a ha with h1 | h1
    · exact hZY a h1 b hb e
    · exact h1.2 (e ▸ hb)
  · rcases List.mem_append.1 hb with hb | hb
    · subst e
      rcases hn a hb with h1 | h1
      · exact hXZY a ha a (List.mem_append.2 (.inl h1)) rfl
      · exact h1.1 ha
    · exact hXZY a ha b (List.mem_append.2 (.inr hb)) e
theorem HeapAt.turn {w w' : World} {B p : Nat} {σ : HSt} {ov : Value} {Ls : List Lay} (h : HeapAt w B p σ ov Ls) {i : Nat} {L L' : Lay} {o o' : OSt} (hL : Ls[i]? = some L) (ho : σ.objs[i]? = some o) (hw : ObjAt w' B L' o') (l : Int)
    (htop : w'.heap[p]? = some (.cells #[ov, .int .i64 l] 72 (0, 0))) (keep : ∀ b ∈ feet p ov Ls, b ∉ L.blocks → b ≠ p → w'.heap[b]? = w.heap[b]?) (new : ∀ b ∈ L'.blocks, b ∈ L.blocks ∨ w.heap.size ≤ b) (hnd : L'.blocks.Nodup) (hob : L'.ob = L.ob) :
    HeapAt w' B p ⟨σ.objs.set i o', l⟩ ov (Ls.set i L') := by
  have hlt := h.feet_lt
  have hbase := h.base
  have hdis := h.dis
  have hil : i < Ls.length := (List.getElem?_eq_some_iff.1 hL).1
  obtain ⟨A, C, hA, hi⟩ : ∃ A C, Ls = A ++ L :: C ∧ A.length = i := by
    refine ⟨Ls.take i, Ls.drop (i + 1), ?_, by rw [List.length_take]; omega⟩
    have h1 : Ls[i] = L := (List.getElem?_eq_some_iff.1 hL).2
    rw [← h1, List.getElem_cons_drop, List.take_append_drop]
  have hset : Ls.set i L' = A ++ L' :: C := by
    rw [hA, ← hi]
    simp
  have hfe : feet p ov Ls = (p :: (ov.ownBlock.toList ++ A.flatMap Lay.blocks)) ++ (L.blocks ++ C.flatMap Lay.blocks) := by
    rw [hA]
    simp [feet, List.flatMap_append, List.flatMap_cons]
  have hfe' : feet p ov (Ls.set i L') = (p :: (ov.ownBlock.toList ++ A.flatMap Lay.blocks)) ++ (L'.blocks ++ C.flatMap Lay.blocks) := by
    rw [hset]
    simp [feet, List.flatMap_append, List.flatMap_cons]
  rw [hfe] at hdis
  have hd := hdis
  rw [List.nodup_append, List.nodup_append] at hd
  obtain ⟨hX, ⟨hZ, hY, hZY⟩, hXZY⟩ := hd
  have hmX : ∀ b ∈ (p :: (ov.ownBlock.toList ++ A.flatMap Lay.blocks)), b ∉ L.blocks := fun b hb hm => hXZY b hb b (List.mem_append.2 (.inl hm)) rfl
  have hin : ∀ b ∈ (p :: (ov.ownBlock.toList ++ A.flatMap Lay.blocks)), b ∈ feet p ov Ls := fun b hb => by rw [hfe]; exact List.mem_append.2 (.inl hb)
  have hinC : ∀ b ∈ C.flatMap Lay.blocks, b ∈ feet p ov Ls := fun b hb => by rw [hfe]; exact List.mem_append.2 (.inr (List.mem_append.2 (.inr hb)))
  have hpX : p ∉ (ov.ownBlock.toList ++ A.flatMap Lay.blocks) := (List.nodup_cons.1 hX).1
  refine ⟨htop, ?_, ?_, ?_, ?_, ?_⟩
  · have hmap : (Ls.set i L').map obPtr = (Ls.map obPtr).set i (obPtr L') := by rw [List.map_set]
    rw [hmap, show obPtr L' = obPtr L by unfold obPtr; rw [hob], show (Ls.map obPtr).set i (obPtr L) = Ls.map obPtr from by
      apply List.ext_getElem?
      intro n
      by_cases e : i = n
      · subst e
        rw [List.getElem?_set_self (by rw [List.length_map]; exact hil), List.getElem?_map, hL]
        rfl
      · rw [List.getElem?_set_ne e], List.length_set]
    refine own_move h.row (fun q hq => ?_)
    have hq1 : q ∈ p :: (ov.ownBlock.toList ++ A.flatMap Lay.blocks) := List.mem_cons_of_mem _ (List.mem_append.2 (.inl (Option.mem_toList.2 hq)))
    exact keep q (hin q hq1) (hmX q hq1) (fun e => hpX (by rw [← e]; exact List.mem_append.2 (.inl (Option.mem_toList.2 hq))))
  · simp [h.len]
  · intro j L1 o1 h1 h2
    by_cases e : i = j
    · subst e
      rw [List.getElem?_set_self (by omega)] at h1
      rw [List.getElem?_set_self (by rw [← h.len]; omega)] at h2
      obtain rfl := Option.some.inj h1
      obtain rfl := Option.some.inj h2
      exact hw
    · rw [List.getElem?_set_ne e] at h1 h2
      refine (h.objs j L1 o1 h1 h2).move (fun b hb => ?_)
      have hm1 : b ∈ feet p ov Ls := mem_feet_lay (List.mem_of_getElem? h1) hb
      refine keep b hm1 ?_ (h.lay_ne (List.mem_of_getElem? h1) hb).1
      intro hb2
      have hjA : L1 ∈ A ∨ L1 ∈ C := by
        rw [hA] at h1
        rcases Nat.lt_trichotomy j A.length with c | c | c
        · rw [List.getElem?_append_left c] at h1
          exact .inl (List.mem_of_getElem? h1)
        · omega
        · rw [List.getElem?_append_right (by omega)] at h1
          obtain ⟨d, hd⟩ : ∃ d, j - A.length = d + 1 := ⟨j - A.length - 1, by omega⟩
          rw [hd, List.getElem?_cons_succ] at h1
          exact .inr (List.mem_of_getElem? h1)
      rcases hjA with c | c
      · exact hmX b (List.mem_cons_of_mem _ (List.mem_append.2 (.inr (List.mem_flatMap.2 ⟨L1, c, hb⟩)))) hb2
      · exact hZY b hb2 b (List.mem_flatMap.2 ⟨L1, c, hb⟩) rfl
  · rw [hfe']
    refine nodup_swap hdis hnd (fun b hb => ?_)
    rcases new b hb with c | c
    · exact .inl c
    · exact .inr ⟨fun hm => by have := hlt b (hin b hm); omega, fun hm => by have := hlt b (hinC b hm); omega⟩
  · intro b hb
    rw [hfe'] at hb
    rcases List.mem_append.1 hb with hb | hb
    · exact h.low b (hin b hb)
    · rcases List.mem_append.1 hb with hb | hb
      · rcases new b hb with c | c
        · exact h.low b (mem_feet_lay (List.mem_of_getElem? hL) c)
        · omega
      · exact h.low b (hinC b hb)
theorem HeapAt.lay_nd {w : World} {B p : Nat} {σ : HSt} {ov : Value} {Ls : List Lay} (h : HeapAt w B p σ ov Ls) {L : Lay} (hL : L ∈ Ls) : L.blocks.Nodup := by
  have hd := h.dis
  unfold feet at hd
  rw [List.nodup_cons, List.nodup_append] at hd
  have := hd.2.2.1
  unfold List.Nodup at this ⊢
  exact (List.pairwise_flatMap.1 this).1 L hL
theorem Lay.nd {L : Lay} (h : L.blocks.Nodup) : L.ob ≠ L.mb ∧ (∀ q, L.kv.ownBlock = some q → q ≠ L.ob ∧ q ≠ L.mb) ∧ (∀ q, L.iv.ownBlock = some q → q ≠ L.ob ∧ q ≠ L.mb) ∧ (∀ q r, L.kv.ownBlock = some q → L.iv.ownBlock = some r → q ≠ r) := by
  unfold Lay.blocks at h
  rw [List.nodup_cons, List.nodup_cons, List.nodup_append] at h
  obtain ⟨h1, h2, h3, h4, h5⟩ := h
  refine ⟨fun e => h1 (by rw [e]; exact List.mem_cons_self), fun q hq => ⟨fun e => h1 ?_, fun e => h2 ?_⟩, fun q hq => ⟨fun e => h1 ?_, fun e => h2 ?_⟩, fun q r hq hr e => h5 q (Option.mem_toList.2 hq) r (Option.mem_toList.2 hr) e⟩
  · rw [← e]; exact List.mem_cons_of_mem _ (List.mem_append.2 (.inl (Option.mem_toList.2 hq)))
  · rw [← e]; exact List.mem_append.2 (.inl (Option.mem_toList.2 hq))
  · rw [← e]; exact List.mem_cons_of_mem _ (List.mem_append.2 (.inr (Option.mem_toList.2 hq)))
  · rw [← e]; exact List.mem_append.2 (.inr (Option.mem_toList.2 hq))
theorem mem_ob {L : Lay} : L.ob ∈ L.blocks := List.mem_cons_self
theorem mem_mb {L : Lay} : L.mb ∈ L.blocks := List.mem_cons_of_mem _ List.mem_cons_self
theorem mem_kv {L : Lay} {q : Nat} (h : L.kv.ownBlock = some q) : q ∈ L.blocks := List.mem_cons_of_mem _ (List.mem_cons_of_mem _ (List.mem_append.2 (.inl (Option.mem_toList.2 h))))
theorem mem_iv {L : Lay} {q : Nat} (h : L.iv.ownBlock = some q) : q ∈ L.blocks := List.mem_cons_of_mem _ (List.mem_cons_of_mem _ (List.mem_append.2 (.inr (Option.mem_toList.2 h))))
theorem mem_blocks {L : Lay} {b : Nat} (h : b ∈ L.blocks) : b = L.ob ∨ b = L.mb ∨ L.kv.ownBlock = some b ∨ L.iv.ownBlock = some b := by
  simpa only [Lay.blocks, List.mem_cons, List.mem_append, Option.mem_toList, or_assoc] using h
theorem list_set_same {α : Type} {l : List α} {i : Nat} {x : α} (h : l[i]? = some x) : l.set i x = l := by
  apply List.ext_getElem?
  intro n
  by_cases e : i = n
  · subst e
    rw [List.getElem?_set_self (List.getElem?_eq_some_iff.1 h).1, h]
  · rw [List.getElem?_set_ne e]
/-- An object's map has turned. -/
theorem HeapAt.mapped {w w' : World} {B p : Nat} {σ : HSt} {ov : Value} {Ls : List Lay} (h : HeapAt w B p σ ov Ls) {i : Nat} {L : Lay} {o : OSt} (hL : Ls[i]? = some L) (ho : σ.objs[i]? = some o) (ps : List (ByteArray × Val)) (hm : MapAt w' L.mb ps) (hg : w.grownBy w' (some L.mb)) :
    HeapAt w' B p ⟨σ.objs.set i { o with props := ps }, σ.left⟩ ov Ls := by
  have hmem := List.mem_of_getElem? hL
  have hnd := h.lay_nd hmem
  obtain ⟨n1, n2, n3, n4⟩ := Lay.nd hnd
  have hobj := h.objs _ _ _ hL ho
  have hlt := h.feet_lt
  have hne := fun b hb => h.lay_ne hmem (b := b) hb
  have hk : ∀ b ∈ feet p ov Ls, b ≠ L.mb → w'.heap[b]? = w.heap[b]? := fun b hb e => hg.block b (hlt b hb) (fun e2 => e (Option.some.inj e2))
  have hin : ∀ b ∈ L.blocks, b ∈ feet p ov Ls := fun b hb => mem_feet_lay hmem hb
  have := h.turn (w' := w') (L' := L) (o' := { o with props := ps }) hL ho ⟨(hk _ (hin _ mem_ob) n1).trans hobj.block, own_move hobj.keys (fun q hq => hk q (hin q (mem_kv hq)) (n2 q hq).2), hm, own_move hobj.items (fun q hq => hk q (hin q (mem_iv hq)) (n3 q hq).2)⟩ σ.left ((hk p mem_feet_top (fun e => (hne L.mb mem_mb).1 e.symm)).trans h.top) (fun b hb hb2 _ => hk b hb (fun e => hb2 (by rw [e]; exact mem_mb))) (fun b hb => .inl hb) hnd rfl
  rwa [list_set_same hL] at this
/-- An object's keys have grown, and are stored. -/
theorem HeapAt.keyed {w w1 : World} {B p : Nat} {σ : HSt} {ov : Value} {Ls : List Lay} (h : HeapAt w B p σ ov Ls) {i : Nat} {L : Lay} {o : OSt} (hL : Ls[i]? = some L) (ho : σ.objs[i]? = some o) (xs : List ByteArray) (v1 : Value)
    (hown : w1.ownsRow B 9 1 v1 xs.length (xs.map Value.string)) (hg : w.grownBy w1 L.kv.ownBlock) (hat : v1.ownBlock = L.kv.ownBlock ∨ ∃ b, v1.ownBlock = some b ∧ w.heap.size ≤ b) :
    HeapAt (w1.setCell ⟨L.ob, 5, none⟩ v1) B p ⟨σ.objs.set i { o with keys := xs }, σ.left⟩ ov (Ls.set i { L with kv := v1 }) := by
  have hmem := List.mem_of_getElem? hL
  have hnd := h.lay_nd hmem
  obtain ⟨n1, n2, n3, n4⟩ := Lay.nd hnd
  have hobj := h.objs _ _ _ hL ho
  have hlt := h.feet_lt
  have hne := fun b hb => h.lay_ne hmem (b := b) hb
  have hk1 : ∀ b ∈ feet p ov Ls, L.kv.ownBlock ≠ some b → w1.heap[b]? = w.heap[b]? := fun b hb e => hg.block b (hlt b hb) (fun e2 => e e2.symm)
  have hk : ∀ b ∈ feet p ov Ls, L.kv.ownBlock ≠ some b → b ≠ L.ob → (w1.setCell ⟨L.ob, 5, none⟩ v1).heap[b]? = w.heap[b]? := fun b hb e e2 => (Below.heap_setCell w1 _ _ b e2).trans (hk1 b hb e)
  have hin : ∀ b ∈ L.blocks, b ∈ feet p ov Ls := fun b hb => mem_feet_lay hmem hb
  have hkob : L.kv.ownBlock ≠ some L.ob := fun e => (n2 _ e).1 rfl
  have hv1 : ∀ b, v1.ownBlock = some b → L.kv.ownBlock = some b ∨ w.heap.size ≤ b := by
    intro b hb
    rcases hat with e | ⟨b', hb', hs⟩
    · exact .inl (by rw [← e]; exact hb)
    · obtain rfl : b' = b := Option.some.inj (hb'.symm.trans hb)
      exact .inr hs
  have hv2 : ∀ b, v1.ownBlock = some b → b ≠ L.ob ∧ b ≠ L.mb ∧ ∀ r, L.iv.ownBlock = some r → b ≠ r := by
    intro b hb
    rcases hv1 b hb with e | e
    · exact ⟨(n2 b e).1, (n2 b e).2, fun r hr => n4 b r e hr⟩
    · refine ⟨fun e2 => ?_, fun e2 => ?_, fun r hr e2 => ?_⟩
      · have := hlt _ (hin _ (mem_ob (L := L))); omega
      · have := hlt _ (hin _ (mem_mb (L := L))); omega
      · have := hlt _ (hin _ (mem_iv hr)); omega
  refine h.turn (L' := { L with kv := v1 }) (o' := { o with keys := xs }) hL ho ⟨?_, ?_, ?_, ?_⟩ σ.left ((hk p mem_feet_top (fun e => (hne p (mem_kv e)).1 rfl) (fun e => (hne L.ob mem_ob).1 e.symm)).trans h.top) (fun b hb hb2 _ => hk b hb (fun e => hb2 (mem_kv e)) (fun e => hb2 (by rw [e]; exact mem_ob))) ?_ ?_ rfl
  · have := blk_set ((hk1 L.ob (hin _ mem_ob) hkob).trans hobj.block) 5 v1
    simpa using this
  · have := own_setCell hown (p := ⟨L.ob, 5, none⟩) (fun e => (hv2 _ e.symm).1 rfl) v1
    exact this
  · exact hobj.props.move (hk _ (hin _ mem_mb) (fun e => (n2 _ e).2 rfl) (fun e => n1 e.symm))
  · exact own_move hobj.items (fun q hq => hk q (hin q (mem_iv hq)) (fun e => n4 q q e hq rfl) (n3 q hq).1)
  · intro b hb
    rcases mem_blocks hb with e | e | e | e
    · exact .inl (by rw [e]; exact mem_ob)
    · exact .inl (by rw [e]; exact mem_mb)
    · rcases hv1 b e with c | c
      · exact .inl (mem_kv c)
      · exact .inr c
    · exact .inl (mem_iv e)
  · unfold Lay.blocks
    rw [List.nodup_cons, List.nodup_cons, List.nodup_append]
    refine ⟨?_, ?_, ?_, ?_, ?_⟩
    · intro hm
      simp only [List.mem_cons, List.mem_append, Option.mem_toList] at hm
      rcases hm with e | e | e
      · exact n1 e
      · exact (hv2 _ e).1 rfl
      · exact (n3 _ e).1 rfl
    · intro hm
      simp only [List.mem_append, Option.mem_toList] at hm
      rcases hm with e | e
      · exact (hv2 _ e).2.1 rfl
      · exact (n3 _ e).2 rfl
    · show (v1.ownBlock.toList).Nodup
      cases v1.ownBlock <;> simp
    · show (L.iv.ownBlock.toList).Nodup
      cases L.iv.ownBlock <;> simp
    · intro a ha b hb e
      subst e
      exact (hv2 a (Option.mem_toList.1 ha)).2.2 a (Option.mem_toList.1 hb) rfl
end Go.Proofs.YtnfobcedbfbbiaaDoor.Hp
