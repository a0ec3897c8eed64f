/- Drop. -/
import Derived.Test.YtnfobcedbfbbiaaDoorHpJ
namespace Go.Proofs.YtnfobcedbfbbiaaDoor.Hp
open Go.RowKit Go.Proofs.YtnfobcedbfbbiaaDoorW.PrintWords Go.Proofs.YtnfobcedbfbbiaaDoorW.PrintLast Go.Proofs.YtnfobcedbfbbiaaDoorW.PrintMore Go.Proofs.YtnfobcedbfbbiaaDoor.Hand Go.Proofs.YtnfobcedbfbbiaaDoor.PIx Go.Proofs.YtnfobcedbfbbiaaDoor.Pure
set_option linter.unusedVariables false
set_option linter.unusedSimpArgs false
/-- The heap beside a box with a key. -/
def KBox (key : ByteArray) : Obj := .cells #[.string key] 9 (0, 0)
structure DropFacts (w : World) (B p : Nat) (K : List (Nat × Obj)) (σ : HSt) (ov : Value) (Ls : List Lay) (L : Lay) (o : OSt) (b : Nat) (key : ByteArray) : Prop where
  x0 : w.cell? ⟨L.ob, 0, none⟩ = some (.int .i64 o.kind)
  x5 : w.cell? ⟨L.ob, 5, none⟩ = some L.kv
  x6 : w.cell? ⟨L.ob, 6, none⟩ = some (.map (some L.mb))
  x7 : w.cell? ⟨L.ob, 7, none⟩ = some L.iv
  f5 : w.frozen? ⟨L.ob, 5, none⟩ = false
  p1 : w.cell? ⟨p, 1, none⟩ = some (.int .i64 σ.left)
  pf : w.frozen? ⟨p, 1, none⟩ = false
  bx : w.cell? ⟨b, 0, none⟩ = some (.string key)
  lo : L.ob < w.heap.size
  lp : p < w.heap.size
  lb : b < w.heap.size
theorem HeapAt.dropF {w : World} {B p : Nat} {K : List (Nat × Obj)} {σ : HSt} {ov : Value} {Ls : List Lay} {b : Nat} {key : ByteArray} (h : HeapAt w B ((b, KBox key) :: K) p σ ov Ls) {i : Nat} {L : Lay} {o : OSt} (hL : Ls[i]? = some L) (ho : σ.objs[i]? = some o) : DropFacts w B p K σ ov Ls L o b key := by
  have hobj := h.objs _ _ _ hL ho
  obtain ⟨x0, x1, x5, x6, x7⟩ := hobj.cell
  have hb := h.kept (b := b) (x := KBox key) List.mem_cons_self
  refine ⟨x0, x5, x6, x7, free_in hobj.block, h.cell1, h.free 1, (cell_in hb).trans rfl, ?_, ?_, ?_⟩
  · exact (Array.getElem?_eq_some_iff.1 hobj.block).1
  · exact h.top_lt
  · exact (Array.getElem?_eq_some_iff.1 hb).1
theorem HeapAt.boxed {w : World} {B p : Nat} {K : List (Nat × Obj)} {σ : HSt} {ov : Value} {Ls : List Lay} (h : HeapAt w B K p σ ov Ls) (o : Obj) : HeapAt (w.alloc o) B ((w.heap.size, o) :: K) p σ ov Ls :=
  (h.alloc o).keep (heap_alloc_new w o) (fun hm => by have := h.feet_lt _ hm; omega)
theorem HeapAt.unbox {w : World} {B p : Nat} {x : Nat × Obj} {K : List (Nat × Obj)} {σ : HSt} {ov : Value} {Ls : List Lay} (h : HeapAt w B (x :: K) p σ ov Ls) : HeapAt w B K p σ ov Ls := h.less (fun y hy => List.mem_cons_of_mem _ hy)
/-- An object's keys have turned, and are stored. -/
theorem HeapAt.keyed2 {w w1 : World} {B p : Nat} {K : List (Nat × Obj)} {σ : HSt} {ov : Value} {Ls : List Lay} (h : HeapAt w B K p σ ov Ls) {i : Nat} {L : Lay} {o : OSt} (hL : Ls[i]? = some L) (ho : σ.objs[i]? = some o) (xs : List ByteArray) (v1 : Value)
    (hown : w1.ownsRow B 9 1 v1 xs.length (xs.map Value.string)) (hg : ∀ b, b < w.heap.size → some b ≠ L.kv.ownBlock → w1.heap[b]? = w.heap[b]?) (hv1 : ∀ b, v1.ownBlock = some b → L.kv.ownBlock = some b ∨ w.heap.size ≤ b) :
    HeapAt (w1.setCell ⟨L.ob, 5, none⟩ v1) B K p ⟨σ.objs.set i { o with keys := xs }, σ.left⟩ ov (Ls.set i { L with kv := v1 }) := by
  have hmem := List.mem_of_getElem? hL
  have hnd := h.lay_nd hmem
  obtain ⟨n1, n2, n3, n4⟩ := Lay.nd hnd
  have hobj := h.objs _ _ _ hL ho
  have hlt := h.feet_lt
  have hne := fun b hb => h.lay_ne hmem (b := b) hb
  have hk1 : ∀ b ∈ feet p ov Ls, L.kv.ownBlock ≠ some b → w1.heap[b]? = w.heap[b]? := fun b hb e => hg b (hlt b hb) (fun e2 => e e2.symm)
  have hk : ∀ b ∈ feet p ov Ls, L.kv.ownBlock ≠ some b → b ≠ L.ob → (w1.setCell ⟨L.ob, 5, none⟩ v1).heap[b]? = w.heap[b]? := fun b hb e e2 => (Below.heap_setCell w1 _ _ b e2).trans (hk1 b hb e)
  have hin : ∀ b ∈ L.blocks, b ∈ feet p ov Ls := fun b hb => mem_feet_lay hmem hb
  have hkob : L.kv.ownBlock ≠ some L.ob := fun e => (n2 _ e).1 rfl
  have hv2 : ∀ b, v1.ownBlock = some b → b ≠ L.ob ∧ b ≠ L.mb ∧ ∀ r, L.iv.ownBlock = some r → b ≠ r := by
    intro b hb
    rcases hv1 b hb with e | e
    · exact ⟨(n2 b e).1, (n2 b e).2, fun r hr => n4 b r e hr⟩
    · refine ⟨fun e2 => ?_, fun e2 => ?_, fun r hr e2 => ?_⟩
      · have := hlt _ (hin _ (mem_ob (L := L))); omega
      · have := hlt _ (hin _ (mem_mb (L := L))); omega
      · have := hlt _ (hin _ (mem_iv hr)); omega
  refine h.turn (L' := { L with kv := v1 }) (o' := { o with keys := xs }) hL ho ⟨?_, ?_, ?_, ?_⟩ σ.left ((hk p mem_feet_top (fun e => (hne p (mem_kv e)).1 rfl) (fun e => (hne L.ob mem_ob).1 e.symm)).trans h.top) (fun b hb hb2 _ => hk b hb (fun e => hb2 (mem_kv e)) (fun e => hb2 (by rw [e]; exact mem_ob))) ?_ ?_ rfl (fun b hb => (Below.heap_setCell w1 _ _ b (fun e => h.held_out hb (by rw [show b = L.ob from e]; exact hin _ mem_ob))).trans (hg b (h.held_lt hb) (fun e => h.held_out hb (hin b (mem_kv e.symm)))))
  · have := blk_set ((hk1 L.ob (hin _ mem_ob) hkob).trans hobj.block) 5 v1
    simpa using this
  · have := own_setCell hown (p := ⟨L.ob, 5, none⟩) (fun e => (hv2 _ e.symm).1 rfl) v1
    exact this
  · exact hobj.props.move (hk _ (hin _ mem_mb) (fun e => (n2 _ e).2 rfl) (fun e => n1 e.symm))
  · exact own_move hobj.items (fun q hq => hk q (hin q (mem_iv hq)) (fun e => n4 q q e hq rfl) (n3 q hq).1)
  · intro b hb
    rcases mem_blocks hb with e | e | e | e
    · exact .inl (by rw [e]; exact mem_ob)
    · exact .inl (by rw [e]; exact mem_mb)
    · rcases hv1 b e with c | c
      · exact .inl (mem_kv c)
      · exact .inr c
    · exact .inl (mem_iv e)
  · unfold Lay.blocks
    rw [List.nodup_cons, List.nodup_cons, List.nodup_append]
    refine ⟨?_, ?_, ?_, ?_, ?_⟩
    · intro hm
      simp only [List.mem_cons, List.mem_append, Option.mem_toList] at hm
      rcases hm with e | e | e
      · exact n1 e
      · exact (hv2 _ e).1 rfl
      · exact (n3 _ e).1 rfl
    · intro hm
      simp only [List.mem_append, Option.mem_toList] at hm
      rcases hm with e | e
      · exact (hv2 _ e).2.1 rfl
      · exact (n3 _ e).2 rfl
    · show (v1.ownBlock.toList).Nodup
      cases v1.ownBlock <;> simp
    · show (L.iv.ownBlock.toList).Nodup
      cases L.iv.ownBlock <;> simp
    · intro a ha b hb e
      subst e
      exact (hv2 a (Option.mem_toList.1 ha)).2.2 a (Option.mem_toList.1 hb) rfl
theorem four_far {w : World} {g b : Nat} (h : b ≠ g) {i0 i1 i2 i3 : Nat} (u0 u1 u2 u3 : Value) : ((((w.setCell ⟨g, i0, none⟩ u0).setCell ⟨g, i1, none⟩ u1).setCell ⟨g, i2, none⟩ u2).setCell ⟨g, i3, none⟩ u3).heap[b]? = w.heap[b]? := by
  rw [Below.heap_setCell _ _ _ b h, Below.heap_setCell _ _ _ b h, Below.heap_setCell _ _ _ b h, Below.heap_setCell _ _ _ b h]
theorem drop_none {w : World} {B p : Nat} {K : List (Nat × Obj)} {σ : HSt} {ov : Value} {Ls : List Lay} (h : HeapAt w B K p σ ov Ls) (hf : Fit σ) (i : Int) (key : ByteArray) (ho : objS σ i = none) :
    Calls Tryd.prog 24 #[.pointer (some ⟨p, 0, none⟩), .int .i64 i, .string key] w fun e w' => e = .returned (.bool false) ∧ Below w.heap.size w w' := by
  have h1 := h.alloc (.cells #[.string key] 9)
  have HC := Aside0.mk (at_nil h1 (by have := hf.objs; have := h.len; omega) i (by rw [h.len]; exact objS_none ho))
  clear h h1 hf ho
  go_enter Tryd.func24, Tryd.ntmps24
  go_wp2_with (go_at_call 40; refine (HC.out).mono ?_; rintro e w' ⟨rfl, rfl⟩)
  go_ret
  exact ⟨rfl, by repeat (with_reducible first | exact Below.refl _ _ | apply below_alloc | apply pw_below_drewN | apply below_drew1 | apply below_set0 | apply below_setk)⟩
set_option maxHeartbeats 4000000 in
set_option maxRecDepth 100000 in
/-- Drop at a key that is there. -/
theorem drop_there {w : World} {B p : Nat} {K : List (Nat × Obj)} {σ : HSt} {ov : Value} {Ls : List Lay} (h : HeapAt w B K p σ ov Ls) (hf : Fit σ) (i : Int) (key : ByteArray) (hks : key.size ≤ 140737488351232) (o : OSt) (ho : objS σ i = some o) (hk : o.kind = 2 → (idxR key).2 = false) (hl : (lookS o.props key).isSome = true) (hkeys : o.keys ≠ []) :
    Calls Tryd.prog 24 #[.pointer (some ⟨p, 0, none⟩), .int .i64 i, .string key] w fun e w' => e = .returned (.bool true) ∧ Below B w w' ∧ HeapOk w' B K p ⟨σ.objs.set i.toNat { o with keys := lessK o.keys key, props := delS o.props key }, σ.left + 1⟩ := by
  have h1 := h.boxed (.cells #[.string key] 9)
  have hb1 := (Below.refl B w).alloc h.base (.cells #[.string key] 9)
  obtain ⟨L, hL, h0, hobj⟩ := h1.obj ho
  have HC := Aside0.mk (at_obj h1 (by have := hf.objs; have := h.len; omega) i h0 hL)
  have HX := fun w => Aside0.mk (index_calls key hks w)
  obtain ⟨kb, d1, hkb⟩ : ∃ kb, (o.kind == 2) = kb ∧ (kb = true → (idxR key).2 = false) := ⟨_, rfl, fun e => hk (beq_iff_eq.1 e)⟩
  have HO := Aside0.mk (objS_some ho).2.2
  have HL := Aside0.mk hL
  have HL2 := Aside0.mk hl
  have H1 := Aside0.mk h1
  have HB1 := Aside0.mk hb1
  have HF := Aside0.mk hf
  have HKN := Aside0.mk hkeys
  have bx0 := (H1.out.dropF HL.out HO.out).bx
  have HBASE := Aside0.mk h.base
  clear h h1 hf ho hL h0 hk hl hobj hb1 hkeys
  go_enter Tryd.func24, Tryd.ntmps24
  go_upto_region 4 with (go_at_call 40; refine (HC.out).mono ?_; rintro e w' ⟨rfl, hw⟩; subst w')
  generalize w.alloc (.cells #[.string key] 9) = w1 at *
  clear HC
  generalize idxR key = R at *
  obtain ⟨ix, bi⟩ := R
  have hl := HL2.out
  cases bi <;> cases kb
  case true.true => exact absurd (hkb rfl) (by simp)
  all_goals
    clear hkb
    go_upto_region 5 with (go_at_call 9; go_must (refine ((HX _).out).mono ?_; rintro e w' ⟨rfl, hd⟩; obtain ⟨nd, rfl⟩ := hd))
    have H2 := Aside0.mk (H1.out.drewN nd)
    have HB2 := Aside0.mk (pw_below_drewN HB1.out nd)
    generalize w1.drewN nd = w2 at *
    clear bx0 HB1
    obtain ⟨x0, x5, x6, x7, f5, p1, pf, bx, lo, lp, lb⟩ := H2.out.dropF HL.out HO.out
    go_upto_region 10 with (fail)
    have hm := (H2.out.objs _ _ _ HL.out HO.out).props
    have e1 := look_run (w := w2.drew) (hm.move rfl) key
    have e2 := look_run (w := (w2.alloc (.cells #[.int .i64 0, .float .f64 0, .string ⟨#[]⟩, .int .i64 0] 33)).drew) (hm.move (w' := (w2.alloc (.cells #[.int .i64 0, .float .f64 0, .string ⟨#[]⟩, .int .i64 0] 33)).drew) (Below.heap_alloc w2 _ _ hm.lt)) key
    clear hm
    have d2 : (lookS o.props key).isSome = true := hl
    obtain ⟨lv, hlv⟩ : ∃ lv, (lookS o.props key).getD Val.zero = lv := ⟨_, rfl⟩
    rw [hlv] at e1 e2
    clear hlv
    go_cut [11] (fun v11 wc => v11 = .bool true ∧ wc = (w2.alloc (.cells #[.int .i64 lv.kind, .float .f64 lv.num, .string lv.text, .int .i64 lv.ref] 33)).drew)
    case first =>
      go_region
      all_goals
        try go_wp2
        go_meet
        case rel => exact ⟨rfl, rfl⟩
    case rest =>
      clear e1 e2 x0 x5 x6 x7 f5 p1 pf bx lo lp lb
      obtain ⟨rfl, hwc⟩ := hcut
      have H3 := Aside0.mk (H2.out.alloc (.cells #[.int .i64 lv.kind, .float .f64 lv.num, .string lv.text, .int .i64 lv.ref] 33)).drew
      have HB3 := Aside0.mk (below_drew1 (HB2.out.alloc H2.out.base (.cells #[.int .i64 lv.kind, .float .f64 lv.num, .string lv.text, .int .i64 lv.ref] 33)))
      rw [← hwc] at H3 HB3
      clear hwc
      obtain ⟨x0, x5, x6, x7, f5, p1, pf, bx, lo, lp, lb⟩ := H3.out.dropF HL.out HO.out
      have hw1 : wrap64 (σ.left + 1) = σ.left + 1 := by have := HF.out.left0; have := HF.out.left1; unfold wrap64; omega
      have hw2 : IntKind.i64.wrap (σ.left + 1) = σ.left + 1 := by have := HF.out.left0; have := HF.out.left1; rw [IntKind.wrap_i64]; omega
      go_upto_region 14 with (fail)
      have H4 := Aside0.mk (H3.out.setLeft (σ.left + 1))
      have HB4 := Aside0.mk (HB3.out.setCell (p := ⟨p, 1, none⟩) (H3.out.low p mem_feet_top) (.int .i64 (σ.left + 1)))
      first | rw [hw1] | rw [hw2] | skip
      generalize wc.setCell ⟨p, 1, none⟩ (.int .i64 (σ.left + 1)) = w4 at *
      clear x0 x5 x6 x7 f5 p1 pf bx lo lp lb H3 HB3
      obtain ⟨x0, x5, x6, x7, f5, p1, pf, bx, lo, lp, lb⟩ := H4.out.dropF HL.out HO.out
      go_still_tail 5, (by kernel_rfl)
      change wpList _ _ _ _ _ (World.drew w4)
      have H5 := Aside0.mk H4.out.drew
      have HB5 := Aside0.mk (below_drew1 HB4.out)
      generalize World.drew w4 = w5 at *
      clear x0 x5 x6 x7 f5 p1 pf bx lo lp lb H4 HB4
      have HM := Aside0.mk (H5.out.objs _ _ _ HL.out HO.out).props
      obtain ⟨w6, hd, hm6, hg6⟩ := del_run HM.out key 0
      have HM6 := Aside0.mk hm6
      have HG6 := Aside0.mk hg6
      clear hm6 hg6
      go_upto_region 15 with (fail)
      clear hd
      have H6 := Aside0.mk (H5.out.mapped HL.out HO.out _ HM6.out HG6.out)
      have HB6 := Aside0.mk (HB5.out.grown HG6.out H5.out.base (fun k hk => by cases hk; exact H5.out.low _ (mem_feet_lay (List.mem_of_getElem? HL.out) mem_mb)))
      have hO6 : (σ.objs.set i.toNat { o with props := delS o.props key })[i.toNat]? = some { o with props := delS o.props key } := List.getElem?_set_self (List.getElem?_eq_some_iff.1 HO.out).1
      have HO6 := Aside0.mk hO6
      clear hO6 H5 HB5 HM HM6 HG6
      obtain ⟨x0, x5, x6, x7, f5, p1, pf, bx, lo, lp, lb⟩ := H6.out.dropF HL.out HO6.out
      have hkeysrow := (H6.out.objs _ _ _ HL.out HO6.out).keys
      have hbf : L.kv.ownBlock ≠ some w.heap.size := fun e => H6.out.held_out (b := w.heap.size) ⟨_, List.mem_cons_self, rfl⟩ (mem_feet_lay (List.mem_of_getElem? HL.out) (mem_kv e))
      have hkl : L.kv.ownBlock ≠ some L.ob := fun e => ((Lay.nd (H6.out.lay_nd (List.mem_of_getElem? HL.out))).2.1 _ e).1 rfl
      have HDel := Aside0.mk (delete_calls hkeysrow HKN.out key w.heap.size lb bx hbf)
      have HKL := Aside0.mk hkl
      have HLO := Aside0.mk lo
      clear x0 x6 x7 p1 pf bx lo lp lb hkeysrow hbf hkl
      go_wp2_with (go_at_call 46; go_must (refine (HDel.out).mono ?_; rintro e w7 ⟨v1, rfl, hown, hsame, hblk, hbel⟩; obtain ⟨A7, c7, rfl⟩ := own_slice hown; have x5b : w7.cell? ⟨L.ob, 5, none⟩ = some L.kv := (World.cell?_of_block (a := ⟨L.ob, 5, none⟩) (hblk L.ob (fun e => HKL.out e.symm))).trans x5; have f5b : w7.frozen? ⟨L.ob, 5, none⟩ = false := (World.frozen?_of_block (a := ⟨L.ob, 5, none⟩) (hblk L.ob (fun e => HKL.out e.symm))).trans f5; have HOwn := Aside0.mk hown; have HSame := Aside0.mk hsame; have HBlk := Aside0.mk hblk; have HBel := Aside0.mk hbel; clear hown hsame hblk hbel x5 f5))
      go_ret
      have hBob : B ≤ L.ob := H6.out.low _ (mem_feet_lay (List.mem_of_getElem? HL.out) mem_ob)
      have H8 := (H6.out.keyed2 HL.out HO6.out (lessK o.keys key) (.slice A7 (lessK o.keys key).length c7) HOwn.out (fun b _ hb => HBlk.out b hb) (fun b hb => .inl (by rw [← HSame.out]; exact hb))).unbox
      rw [List.set_set] at H8
      exact ⟨rfl, (HBel.out B w HB6.out (fun q hq => H6.out.low q (mem_feet_lay (List.mem_of_getElem? HL.out) (mem_kv hq)))).setCell (p := ⟨L.ob, 5, none⟩) hBob _, ov, _, H8⟩
set_option maxHeartbeats 4000000 in
set_option maxRecDepth 100000 in
/-- Drop at a key that is not there. -/
theorem drop_missing {w : World} {B p : Nat} {K : List (Nat × Obj)} {σ : HSt} {ov : Value} {Ls : List Lay} (h : HeapAt w B K p σ ov Ls) (hf : Fit σ) (i : Int) (key : ByteArray) (hks : key.size ≤ 140737488351232) (o : OSt) (ho : objS σ i = some o) (hk : o.kind = 2 → (idxR key).2 = false) (hl : (lookS o.props key).isSome = false) :
    Calls Tryd.prog 24 #[.pointer (some ⟨p, 0, none⟩), .int .i64 i, .string key] w fun e w' => e = .returned (.bool false) ∧ Below B w w' ∧ HeapOk w' B K p σ := by
  have h1 := h.boxed (.cells #[.string key] 9)
  have hb1 := (Below.refl B w).alloc h.base (.cells #[.string key] 9)
  obtain ⟨L, hL, h0, hobj⟩ := h1.obj ho
  have HC := Aside0.mk (at_obj h1 (by have := hf.objs; have := h.len; omega) i h0 hL)
  have HX := fun w => Aside0.mk (index_calls key hks w)
  obtain ⟨kb, d1, hkb⟩ : ∃ kb, (o.kind == 2) = kb ∧ (kb = true → (idxR key).2 = false) := ⟨_, rfl, fun e => hk (beq_iff_eq.1 e)⟩
  have HO := Aside0.mk (objS_some ho).2.2
  have HL := Aside0.mk hL
  have HL2 := Aside0.mk hl
  have H1 := Aside0.mk h1
  have HB1 := Aside0.mk hb1
  have HF := Aside0.mk hf
  have bx0 := (H1.out.dropF HL.out HO.out).bx
  have HBASE := Aside0.mk h.base
  clear h h1 hf ho hL h0 hk hl hobj hb1
  go_enter Tryd.func24, Tryd.ntmps24
  go_upto_region 4 with (go_at_call 40; refine (HC.out).mono ?_; rintro e w' ⟨rfl, hw⟩; subst w')
  generalize w.alloc (.cells #[.string key] 9) = w1 at *
  clear HC
  generalize idxR key = R at *
  obtain ⟨ix, bi⟩ := R
  have hl := HL2.out
  cases bi <;> cases kb
  case true.true => exact absurd (hkb rfl) (by simp)
  all_goals
    clear hkb
    go_upto_region 5 with (go_at_call 9; go_must (refine ((HX _).out).mono ?_; rintro e w' ⟨rfl, hd⟩; obtain ⟨nd, rfl⟩ := hd))
    have H2 := Aside0.mk (H1.out.drewN nd)
    have HB2 := Aside0.mk (pw_below_drewN HB1.out nd)
    generalize w1.drewN nd = w2 at *
    clear bx0 HB1
    obtain ⟨x0, x5, x6, x7, f5, p1, pf, bx, lo, lp, lb⟩ := H2.out.dropF HL.out HO.out
    go_upto_region 10 with (fail)
    have hm := (H2.out.objs _ _ _ HL.out HO.out).props
    have e1 := look_run (w := w2.drew) (hm.move rfl) key
    have e2 := look_run (w := (w2.alloc (.cells #[.int .i64 0, .float .f64 0, .string ⟨#[]⟩, .int .i64 0] 33)).drew) (hm.move (w' := (w2.alloc (.cells #[.int .i64 0, .float .f64 0, .string ⟨#[]⟩, .int .i64 0] 33)).drew) (Below.heap_alloc w2 _ _ hm.lt)) key
    clear hm
    have d2 : (lookS o.props key).isSome = false := hl
    obtain ⟨lv, hlv⟩ : ∃ lv, (lookS o.props key).getD Val.zero = lv := ⟨_, rfl⟩
    rw [hlv] at e1 e2
    clear hlv
    go_cut [11] (fun v11 wc => v11 = .bool false ∧ wc = (w2.alloc (.cells #[.int .i64 lv.kind, .float .f64 lv.num, .string lv.text, .int .i64 lv.ref] 33)).drew)
    case first =>
      go_region
      all_goals
        try go_wp2
        go_meet
        case rel => exact ⟨rfl, rfl⟩
    case rest =>
      clear e1 e2 x0 x5 x6 x7 f5 p1 pf bx lo lp lb
      obtain ⟨rfl, hwc⟩ := hcut
      have H3 := Aside0.mk (H2.out.alloc (.cells #[.int .i64 lv.kind, .float .f64 lv.num, .string lv.text, .int .i64 lv.ref] 33)).drew
      have HB3 := Aside0.mk (below_drew1 (HB2.out.alloc H2.out.base (.cells #[.int .i64 lv.kind, .float .f64 lv.num, .string lv.text, .int .i64 lv.ref] 33)))
      rw [← hwc] at H3 HB3
      clear hwc
      go_wp2
      go_ret
      exact ⟨rfl, HB3.out, ov, Ls, H3.out.unbox⟩
set_option maxHeartbeats 4000000 in
set_option maxRecDepth 100000 in
/-- Drop at an index past an array's end. -/
theorem drop_past {w : World} {B p : Nat} {K : List (Nat × Obj)} {σ : HSt} {ov : Value} {Ls : List Lay} (h : HeapAt w B K p σ ov Ls) (hf : Fit σ) (i : Int) (key : ByteArray) (hks : key.size ≤ 140737488351232) (o : OSt) (ho : objS σ i = some o) (hk : o.kind = 2) (n : Nat) (hx : idxR key = ((n : Int), true)) (hn : o.items.length ≤ n) :
    Calls Tryd.prog 24 #[.pointer (some ⟨p, 0, none⟩), .int .i64 i, .string key] w fun e w' => e = .returned (.bool false) ∧ Below B w w' ∧ HeapOk w' B K p σ := by
  have h1 := h.boxed (.cells #[.string key] 9)
  have hb1 := (Below.refl B w).alloc h.base (.cells #[.string key] 9)
  obtain ⟨L, hL, h0, hobj⟩ := h1.obj ho
  have HC := Aside0.mk (at_obj h1 (by have := hf.objs; have := h.len; omega) i h0 hL)
  have HX := fun w => Aside0.mk (index_calls key hks w)
  rw [hx] at HX
  have d1 : (o.kind == 2) = true := beq_iff_eq.mpr hk
  have HO := Aside0.mk (objS_some ho).2.2
  have HL := Aside0.mk hL
  have H1 := Aside0.mk h1
  have HB1 := Aside0.mk hb1
  have bx0 := (H1.out.dropF HL.out HO.out).bx
  obtain ⟨A, c, hiv⟩ := own_slice hobj.items
  have d3 : decide (o.items.length ≤ n) = true := decide_eq_true hn
  clear h h1 hf ho hL h0 hk hobj hb1 hx
  go_enter Tryd.func24, Tryd.ntmps24
  go_upto_region 4 with (go_at_call 40; refine (HC.out).mono ?_; rintro e w' ⟨rfl, hw⟩; subst w')
  generalize w.alloc (.cells #[.string key] 9) = w1 at *
  clear HC
  go_upto_region 5 with (go_at_call 9; go_must (refine ((HX _).out).mono ?_; rintro e w' ⟨rfl, hd⟩; obtain ⟨nd, rfl⟩ := hd))
  have H2 := Aside0.mk (H1.out.drewN nd)
  have HB2 := Aside0.mk (pw_below_drewN HB1.out nd)
  generalize w1.drewN nd = w2 at *
  clear bx0 HB1
  obtain ⟨x0, x5, x6, x7, f5, p1, pf, bx, lo, lp, lb⟩ := H2.out.dropF HL.out HO.out
  rw [hiv] at x7
  clear x5 x6 f5 p1 pf bx lo lp lb hiv hn
  go_wp2
  go_ret
  exact ⟨rfl, HB2.out, ov, Ls, H2.out.unbox⟩
set_option maxHeartbeats 4000000 in
set_option maxRecDepth 100000 in
/-- Drop at an index of an array. -/
theorem drop_item {w : World} {B p : Nat} {K : List (Nat × Obj)} {σ : HSt} {ov : Value} {Ls : List Lay} (h : HeapAt w B K p σ ov Ls) (hf : Fit σ) (i : Int) (key : ByteArray) (hks : key.size ≤ 140737488351232) (o : OSt) (ho : objS σ i = some o) (hk : o.kind = 2) (n : Nat) (hx : idxR key = ((n : Int), true)) (hn : n < o.items.length) (hil : o.items.length ≤ 100000) :
    Calls Tryd.prog 24 #[.pointer (some ⟨p, 0, none⟩), .int .i64 i, .string key] w fun e w' => e = .returned (.bool true) ∧ Below B w w' ∧ HeapOk w' B K p ⟨σ.objs.set i.toNat { o with items := o.items.set n Val.zero }, σ.left⟩ := by
  have h1 := h.boxed (.cells #[.string key] 9)
  have hb1 := (Below.refl B w).alloc h.base (.cells #[.string key] 9)
  obtain ⟨L, hL, h0, hobj⟩ := h1.obj ho
  have HC := Aside0.mk (at_obj h1 (by have := hf.objs; have := h.len; omega) i h0 hL)
  have HX := fun w => Aside0.mk (index_calls key hks w)
  rw [hx] at HX
  have d1 : (o.kind == 2) = true := beq_iff_eq.mpr hk
  have HO := Aside0.mk (objS_some ho).2.2
  have HL := Aside0.mk hL
  have H1 := Aside0.mk h1
  have HB1 := Aside0.mk hb1
  have HIL := Aside0.mk hil
  have bx0 := (H1.out.dropF HL.out HO.out).bx
  have d3 : decide (o.items.length ≤ n) = false := decide_eq_false (by omega)
  have d4 : decide ((n : Int) < (o.items.length : Int)) = true := decide_eq_true (by omega)
  clear h h1 hf ho hL h0 hk hobj hb1 hx hil
  go_enter Tryd.func24, Tryd.ntmps24
  go_upto_region 4 with (go_at_call 40; refine (HC.out).mono ?_; rintro e w' ⟨rfl, hw⟩; subst w')
  generalize w.alloc (.cells #[.string key] 9) = w1 at *
  clear HC
  go_upto_region 5 with (go_at_call 9; go_must (refine ((HX _).out).mono ?_; rintro e w' ⟨rfl, hd⟩; obtain ⟨nd, rfl⟩ := hd))
  have H2 := Aside0.mk (H1.out.drewN nd)
  have HB2 := Aside0.mk (pw_below_drewN HB1.out nd)
  generalize w1.drewN nd = w2 at *
  clear bx0 HB1
  obtain ⟨x0, x5, x6, x7, f5, p1, pf, bx, lo, lp, lb⟩ := H2.out.dropF HL.out HO.out
  have hit := (H2.out.objs _ _ _ HL.out HO.out).items
  obtain ⟨g, c, hiv, hg, y0, y1, y2, y3, yf⟩ := items_at hit (List.getElem?_eq_getElem hn)
  have HIT := Aside0.mk hit
  have HIV := Aside0.mk hiv
  have HG := Aside0.mk hg
  rw [hiv] at x7
  generalize o.items[n] = old at *
  have f0 := yf (n * 4)
  have f1 := yf (n * 4 + 1)
  have f2 := yf (n * 4 + 2)
  have f3 := yf (n * 4 + 3)
  clear x5 x6 f5 p1 pf bx lo lp lb hiv hit hg yf
  have HN := Aside0.mk hn
  go_wp2
  go_ret
  have hg := HG.out
  refine ⟨rfl, (((HB2.out.setCell (p := ⟨g, n * 4, none⟩) hg _).setCell (p := ⟨g, n * 4 + 1, none⟩) hg _).setCell (p := ⟨g, n * 4 + 2, none⟩) hg _).setCell (p := ⟨g, n * 4 + 3, none⟩) hg _, ov, Ls, ?_⟩
  exact H2.out.unbox.restored HL.out HO.out (o.items.set n Val.zero) (by rw [HIV.out]; exact own_put4 (n := o.items.length) (by rw [← HIV.out]; exact HIT.out) n HN.out Val.zero) (fun b hb hne => four_far (fun e => hne (by rw [HIV.out, e]; rfl)) _ _ _ _)
end Go.Proofs.YtnfobcedbfbbiaaDoor.Hp
