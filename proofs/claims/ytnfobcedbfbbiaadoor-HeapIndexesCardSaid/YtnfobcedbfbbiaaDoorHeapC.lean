/- One object more: the contract of esheap.(*Heap).add. -/
import Derived.Test.YtnfobcedbfbbiaaDoorHeapB
import Derived.StillTailTactics
namespace Go.Proofs.YtnfobcedbfbbiaaDoor.Hp
open Go.RowKit Go.Proofs.YtnfobcedbfbbiaaDoorW.PrintWords Go.Proofs.YtnfobcedbfbbiaaDoorW.PrintLast Go.Proofs.YtnfobcedbfbbiaaDoorW.PrintMore Go.Proofs.YtnfobcedbfbbiaaDoor.Hand Go.Proofs.YtnfobcedbfbbiaaDoor.PIx
set_option linter.unusedVariables false
set_option linter.unusedSimpArgs false
theorem info74 : (Tryd.prog.info? 74).map (fun i => (i.zero, i.size, i.bytes)) = some (some (.pointer none), 1, 8) := by kernel_rfl
theorem info33 : (Tryd.prog.info? 33).map (fun i => (i.zero, i.size, i.bytes)) = some (some Val.zero.agg, 4, 40) := by kernel_rfl
theorem info9 : (Tryd.prog.info? 9).map (fun i => (i.zero, i.size, i.bytes)) = some (some (.string ⟨#[]⟩), 1, 16) := by kernel_rfl
section
variable {w w1 : World} {B p : Nat} {σ : HSt} {ov v1 : Value} {Ls : List Lay}
theorem HeapAt.setLeft (h : HeapAt w B p σ ov Ls) (l : Int) : HeapAt (w.setCell ⟨p, 1, none⟩ (.int .i64 l)) B p ⟨σ.objs, l⟩ ov Ls := by
  have hd := h.dis
  unfold feet at hd
  rw [List.nodup_cons] at hd
  have hp : ∀ b ∈ ov.ownBlock.toList ++ Ls.flatMap Lay.blocks, (w.setCell ⟨p, 1, none⟩ (.int .i64 l)).heap[b]? = w.heap[b]? := fun b hb => Below.heap_setCell w _ _ b (fun e => by rw [show b = p from e] at hb; exact hd.1 hb)
  refine ⟨by simpa using blk_set h.top 1 (.int .i64 l), own_move h.row (fun k hk => hp k (by simp [hk])), h.len, fun i L o hi ho => (h.objs i L o hi ho).move (fun b hb => hp b ?_), h.dis, h.low⟩
  exact List.mem_append.2 (.inr (List.mem_flatMap.2 ⟨L, List.mem_of_getElem? hi, hb⟩))
theorem HeapAt.ov_ne (h : HeapAt w B p σ ov Ls) : some p ≠ ov.ownBlock := by
  have hd := h.dis
  unfold feet at hd
  rw [List.nodup_cons] at hd
  intro e
  exact hd.1 (by simp [← e])
theorem HeapAt.lay_ne (h : HeapAt w B p σ ov Ls) {L : Lay} (hL : L ∈ Ls) {b : Nat} (hb : b ∈ L.blocks) : b ≠ p ∧ some b ≠ ov.ownBlock := by
  have hd := h.dis
  unfold feet at hd
  rw [List.nodup_cons, List.nodup_append] at hd
  have hm : b ∈ Ls.flatMap Lay.blocks := List.mem_flatMap.2 ⟨L, hL, hb⟩
  refine ⟨fun e => hd.1 (by rw [← e]; exact List.mem_append.2 (.inr hm)), fun e => ?_⟩
  exact hd.2.2.2 b (by simp [← e]) b hm rfl
/-- One object more, behind the append and the store. -/
theorem HeapAt.pushed (h : HeapAt w B p σ ov Ls) {L : Lay} {o : OSt} (ho : ObjAt w B L o) (hd : ∀ b ∈ L.blocks, b ∉ feet p ov Ls ∧ B ≤ b) (hnd : L.blocks.Nodup)
    (hown : w1.ownsRow B 74 1 v1 (Ls.map obPtr ++ [obPtr L]).length (Ls.map obPtr ++ [obPtr L])) (hg : w.grownBy w1 ov.ownBlock) (hat : v1.ownBlock = ov.ownBlock ∨ ∃ b, v1.ownBlock = some b ∧ w.heap.size ≤ b) :
    HeapAt (w1.setCell ⟨p, 0, none⟩ v1) B p ⟨σ.objs ++ [o], σ.left⟩ v1 (Ls ++ [L]) := by
  have hlt := h.feet_lt
  have hpne := h.ov_ne
  have hv1 : ∀ b, v1.ownBlock = some b → b ≠ p ∧ (some b = ov.ownBlock ∨ w.heap.size ≤ b) := by
    intro b hb
    rcases hat with e | ⟨b', hb', hs⟩
    · rw [hb] at e
      exact ⟨fun e2 => hpne (by rw [← e2]; exact e), .inl e⟩
    · obtain rfl : b' = b := Option.some.inj (hb'.symm.trans hb)
      have := h.top_lt
      exact ⟨by omega, .inr hs⟩
  have keep : ∀ b, b < w.heap.size → some b ≠ ov.ownBlock → b ≠ p → (w1.setCell ⟨p, 0, none⟩ v1).heap[b]? = w.heap[b]? := fun b hb hne hp =>
    (Below.heap_setCell w1 _ _ b hp).trans (hg.block b hb hne)
  have htop : w1.heap[p]? = w.heap[p]? := hg.block p h.top_lt hpne
  have hLlt := ho.lt
  refine ⟨?_, ?_, ?_, ?_, ?_, ?_⟩
  · simpa using blk_set (htop.trans h.top) 0 v1
  · have := own_setCell hown (p := ⟨p, 0, none⟩) (fun e => (hv1 p e.symm).1 rfl) v1
    simpa using this
  · simp [h.len]
  · intro i L' o' hi ho'
    by_cases hil : i < Ls.length
    · rw [List.getElem?_append_left hil] at hi
      rw [List.getElem?_append_left (by rw [← h.len]; exact hil)] at ho'
      have hm := List.mem_of_getElem? hi
      refine (h.objs i L' o' hi ho').move (fun b hb => ?_)
      have := h.lay_ne hm hb
      exact keep b (hlt b (mem_feet_lay hm hb)) this.2 this.1
    · rw [List.getElem?_append_right (by omega)] at hi
      rw [List.getElem?_append_right (by rw [← h.len]; omega)] at ho'
      rw [← h.len] at ho'
      obtain ⟨k, hk⟩ : ∃ k, i - Ls.length = k := ⟨_, rfl⟩
      rw [hk] at hi ho'
      cases k with
      | succ k => simp at hi
      | zero =>
        obtain rfl : L = L' := by simpa using hi
        obtain rfl : o = o' := by simpa using ho'
        refine ho.move (fun b hb => ?_)
        have hf := (hd b hb).1
        exact keep b (hLlt b hb) (fun e => hf (by simp [feet, ← e])) (fun e => hf (by rw [e]; exact mem_feet_top))
  · have hd0 := h.dis
    unfold feet at hd0 ⊢
    rw [List.nodup_cons, List.nodup_append] at hd0
    rw [List.nodup_cons, List.flatMap_append, List.nodup_append, List.nodup_append]
    have hfl : [L].flatMap Lay.blocks = L.blocks := by simp
    rw [hfl]
    have hold : ∀ b ∈ Ls.flatMap Lay.blocks, b < w.heap.size := fun b hb => hlt b (by simp only [feet, List.mem_cons, List.mem_append]; exact .inr (.inr hb))
    refine ⟨?_, ?_, ⟨hd0.2.2.1, hnd, fun a ha b hb e => ?_⟩, fun a ha b hb e => ?_⟩
    · intro hm
      rcases List.mem_append.1 hm with hm | hm
      · have := Option.mem_toList.1 hm
        exact (hv1 p this).1 rfl
      · rcases List.mem_append.1 hm with hm | hm
        · exact hd0.1 (List.mem_append.2 (.inr hm))
        · exact (hd p hm).1 mem_feet_top
    · cases v1.ownBlock <;> simp
    · subst e
      exact (hd a hb).1 (by simp only [feet, List.mem_cons, List.mem_append]; exact .inr (.inr ha))
    · subst e
      have ha' := hv1 a (Option.mem_toList.1 ha)
      rcases List.mem_append.1 hb with hb | hb
      · rcases ha'.2 with e | e
        · exact hd0.2.2.2 a (by simp [← e]) a hb rfl
        · have := hold a hb; omega
      · rcases ha'.2 with e | e
        · exact (hd a hb).1 (by simp [feet, ← e])
        · have := hLlt a hb; omega
  · intro b hb
    simp only [feet, List.flatMap_append, List.mem_cons, List.mem_append, Option.mem_toList] at hb
    rcases hb with rfl | hb | hb | hb
    · exact h.low _ mem_feet_top
    · exact own_base hown b hb
    · exact h.low b (by simp only [feet, List.mem_cons, List.mem_append]; exact .inr (.inr hb))
    · exact (hd b (by simpa using hb)).2
end
/-- A heap has no room. -/
theorem add_full {w : World} {B p : Nat} {σ : HSt} {ov : Value} {Ls : List Lay} (h : HeapAt w B p σ ov Ls) (ob : Nat) (c : Int) (hlt : σ.left < c) :
    Calls Tryd.prog 38 #[.pointer (some ⟨p, 0, none⟩), .pointer (some ⟨ob, 0, none⟩), .int .i64 c] w fun e w' => e = .returned (.tuple #[.int .i64 0, .int .i64 112]) ∧ w' = w := by
  have hc1 := h.cell1
  have d1 : decide (σ.left < c) = true := decide_eq_true hlt
  clear h hlt
  go_enter Tryd.func38, Tryd.ntmps38
  go_wp2
  go_ret2
  exact ⟨rfl, rfl⟩
/-- What add leaves: one object more. -/
def AddPost (B p : Nat) (σ : HSt) (Ls : List Lay) (ob : Nat) (iv : Value) (o : OSt) (c : Int) (w w' : World) : Prop :=
  Below B w w' ∧ ∃ ov' mb, HeapAt w' B p ⟨σ.objs ++ [o], σ.left - c⟩ ov' (Ls ++ [⟨ob, .slice none 0 0, mb, iv⟩])
set_option maxHeartbeats 2000000 in
theorem add_room {w : World} {B p : Nat} {σ : HSt} {ov : Value} {Ls : List Lay} (h : HeapAt w B p σ ov Ls) (ob : Nat) (c : Int) (k pr a b sc : Int) (iv : Value) (its : List Val)
    (hob : w.heap[ob]? = some (.cells #[.int .i64 k, .int .i64 pr, .int .i64 a, .int .i64 b, .int .i64 sc, .slice none 0 0, .map none, iv] 78 (0, 0)))
    (hobf : ob ∉ feet p ov Ls) (hB : B ≤ ob) (hiv : w.ownsRow B 33 4 iv its.length (its.flatMap Val.vs)) (hivf : ∀ q, iv.ownBlock = some q → q ∉ feet p ov Ls ∧ q ≠ ob)
    (hge : c ≤ σ.left) (hc0 : 0 ≤ c) (hl0 : σ.left ≤ 100000) (hn : Ls.length ≤ 100000) :
    Calls Tryd.prog 38 #[.pointer (some ⟨p, 0, none⟩), .pointer (some ⟨ob, 0, none⟩), .int .i64 c] w fun e w' => e = .returned (.tuple #[.int .i64 Ls.length, .int .i64 0]) ∧ AddPost B p σ Ls ob iv ⟨k, pr, a, b, sc, [], [], its⟩ c w w' := by
  have p0 := h.cell0
  have p1 := h.cell1
  have pf0 := h.free 0
  have pf1 := h.free 1
  have c6 : w.cell? ⟨ob, 6, none⟩ = some (.map none) := by rw [cell_in hob]; rfl
  have f6 : w.frozen? ⟨ob, 6, none⟩ = false := free_in hob
  have d1 : decide (σ.left < c) = false := decide_eq_false (by omega)
  have lp := h.top_lt
  have lo : ob < w.heap.size := (Array.getElem?_eq_some_iff.1 hob).1
  have np : ¬ (p = w.heap.size) := by omega
  have no : ¬ (ob = w.heap.size) := by omega
  have hne : ¬ (p = ob) := fun e => by rw [← e] at hobf; exact hobf mem_feet_top
  have hne2 : ¬ (ob = p) := fun e => hne e.symm
  have HIV := Aside0.mk (fun q hq => (⟨own_lt hiv q hq, own_base hiv q hq, hivf q hq⟩ : q < w.heap.size ∧ B ≤ q ∧ q ∉ feet p ov Ls ∧ q ≠ ob))
  -- the world behind the map's making
  obtain ⟨wA, hwA⟩ : ∃ wA, wA = ((w.setCell ⟨p, 1, none⟩ (.int .i64 (σ.left - c))).setCell ⟨ob, 6, none⟩ (.map (some w.heap.size))).alloc (.map #[] 0) := ⟨_, rfl⟩
  have hA1 : HeapAt wA B p ⟨σ.objs, σ.left - c⟩ ov Ls := by
    rw [hwA]
    exact ((h.setLeft _).other (a := ⟨ob, 6, none⟩) hobf _).alloc _
  have szA : wA.heap.size = w.heap.size + 1 := by rw [hwA]; simp
  have hoA : wA.heap[ob]? = some (.cells #[.int .i64 k, .int .i64 pr, .int .i64 a, .int .i64 b, .int .i64 sc, .slice none 0 0, .map (some w.heap.size), iv] 78 (0, 0)) := by
    rw [hwA, Below.heap_alloc _ _ _ (by simpa using lo)]
    have := blk_set (blk_far hob (p := ⟨p, 1, none⟩) hne2 (.int .i64 (σ.left - c))) 6 (.map (some w.heap.size))
    simpa using this
  have hmA : wA.heap[w.heap.size]? = some (.map #[] 0) := by
    rw [hwA]
    have := heap_alloc_new ((w.setCell ⟨p, 1, none⟩ (.int .i64 (σ.left - c))).setCell ⟨ob, 6, none⟩ (.map (some w.heap.size))) (.map #[] 0)
    simpa using this
  have hiA : wA.ownsRow B 33 4 iv its.length (its.flatMap Val.vs) := by
    refine own_move hiv (fun q hq => ?_)
    obtain ⟨q1, q2, q3, q4⟩ := HIV.out q hq
    rw [hwA, Below.heap_alloc _ _ _ (by simpa using q1), Below.heap_setCell _ _ _ _ q4, Below.heap_setCell _ _ _ _ (show q ≠ (⟨p, 1, none⟩ : Addr).block from fun e => by rw [show q = p from e] at q3; exact q3 mem_feet_top)]
  have bA : Below B w wA := by
    rw [hwA]
    exact (((Below.refl B w).setCell (h.low p mem_feet_top) _).setCell hB _).alloc (by simpa using h.base) _
  have hBw := h.base
  have hflt := h.feet_lt
  have hLb : (⟨ob, .slice none 0 0, w.heap.size, iv⟩ : Lay).blocks = ob :: w.heap.size :: iv.ownBlock.toList := rfl
  have HD := Aside0.mk (show ∀ b ∈ (⟨ob, .slice none 0 0, w.heap.size, iv⟩ : Lay).blocks, b ∉ feet p ov Ls ∧ B ≤ b by
    rw [hLb]
    intro b hb
    simp only [List.mem_cons, Option.mem_toList] at hb
    rcases hb with rfl | rfl | hb
    · exact ⟨hobf, hB⟩
    · exact ⟨fun hm => by have := hflt _ hm; omega, hBw⟩
    · obtain ⟨q1, q2, q3, q4⟩ := HIV.out b hb
      exact ⟨q3, q2⟩)
  have HN := Aside0.mk (show (⟨ob, .slice none 0 0, w.heap.size, iv⟩ : Lay).blocks.Nodup by
    rw [hLb]
    simp only [List.nodup_cons, List.mem_cons, Option.mem_toList]
    refine ⟨?_, ?_, ?_⟩
    · rintro (e | e)
      · omega
      · obtain ⟨q1, q2, q3, q4⟩ := HIV.out ob e
        exact q4 rfl
    · intro e
      obtain ⟨q1, q2, q3, q4⟩ := HIV.out _ e
      omega
    · cases iv.ownBlock <;> simp)
  clear hLb
  have h0 : B ≤ p := h.low p mem_feet_top
  have HA := Aside0.mk hA1
  have HO := Aside0.mk hoA
  have HM := Aside0.mk hmA
  have HI := Aside0.mk hiA
  have HBel := Aside0.mk bA
  have HSz := Aside0.mk szA
  have HW := Aside0.mk hwA
  have hmm := @run_makeMap Tryd.prog
  clear h hob hA1 hoA hmA hiA bA szA hwA hiv hivf
  go_enter Tryd.func38, Tryd.ntmps38
  go_upto_region 5 with (fail)
  rw [← HW.out]
  have q0 := HA.out.cell0
  have qf0 := HA.out.free 0
  have ln : ¬ (p = wA.heap.size) := by have := HSz.out; omega
  clear p0 p1 pf0 pf1 c6 f6 lp lo np no hmm HW
  go_upto_region 6 with (at_builtin; refine print_append (w0 := w) (W := wA) B rfl _ _ 70 74 (.pointer none) 8 rfl Tryd.underlying70 info74 rfl (by decide) ov (Ls.map obPtr) (.pointer (some ⟨ob, 0, none⟩)) rfl rfl rfl (by rw [List.length_map]; exact HA.out.row) HBel.out (by have := HSz.out; omega) (by rw [List.length_map]; omega) ?_; intro v1 w5 hown hbel hg hat; have q5 := hg.cell q0 (HA.out.ov_ne); have qf5 := (World.frozen?_of_block (a := ⟨p, 0, none⟩) (hg.block p HA.out.top_lt HA.out.ov_ne)).trans qf0; have HOwn := Aside0.mk hown; have HG := Aside0.mk hg; have HAt := Aside0.mk hat; have HB5 := Aside0.mk hbel; obtain ⟨A1, c1, e1⟩ := own_slice hown; clear hown hg hat hbel q0 qf0)
  have el : (Ls.map obPtr ++ [Value.pointer (some ⟨ob, 0, none⟩)]).length = Ls.length + 1 := by simp
  rw [el] at HOwn e1
  have HEL := Aside0.mk el
  clear el
  subst e1
  go_wp2
  go_ret2
  refine ⟨rfl, HB5.out.setCell (p := ⟨p, 0, none⟩) h0 _, .slice A1 (Ls.length + 1) c1, w.heap.size, ?_⟩
  exact HeapAt.pushed HA.out (L := ⟨ob, .slice none 0 0, w.heap.size, iv⟩) (o := ⟨k, pr, a, b, sc, [], [], its⟩) ⟨HO.out, own_nil _ _ _ _, ⟨#[], 0, HM.out, rfl⟩, HI.out⟩ HD.out HN.out (by rw [show (Ls.map obPtr ++ [obPtr ⟨ob, .slice none 0 0, w.heap.size, iv⟩]).length = Ls.length + 1 from HEL.out]; exact HOwn.out) HG.out HAt.out
end Go.Proofs.YtnfobcedbfbbiaaDoor.Hp
