/- Put, into a map. -/
import Derived.Test.YtnfobcedbfbbiaaDoorHeapJ
import Derived.StillTailTactics
namespace Go.Proofs.YtnfobcedbfbbiaaDoor.Hp
open Go.RowKit Go.Proofs.YtnfobcedbfbbiaaDoorW.PrintWords Go.Proofs.YtnfobcedbfbbiaaDoorW.PrintLast Go.Proofs.YtnfobcedbfbbiaaDoorW.PrintMore Go.Proofs.YtnfobcedbfbbiaaDoor.Hand Go.Proofs.YtnfobcedbfbbiaaDoor.PIx Go.Proofs.YtnfobcedbfbbiaaDoor.Pure
set_option linter.unusedVariables false
set_option linter.unusedSimpArgs false
/-- What the walk needs behind the index. -/
theorem box_facts {w w4 : World} {B p : Nat} {σ : HSt} {ov : Value} {Ls : List Lay} (h : HeapAt w4 B p σ ov Ls) {n : Nat} {L : Lay} {o : OSt} (hL : Ls[n]? = some L) (ho : σ.objs[n]? = some o) {v : Val}
    (hblk : w4.heap[w.heap.size]? = some (.cells #[.int .i64 v.kind, .float .f64 v.num, .string v.text, .int .i64 v.ref] 33 (0, 0))) (hb : Below B w w4) :
    ∀ w6, (∃ n, w6 = w4.drewN n) → w6.cell? ⟨L.ob, 0, none⟩ = some (.int .i64 o.kind) ∧ w6.cell? ⟨p, 1, none⟩ = some (.int .i64 σ.left) ∧ w6.cell? ⟨L.ob, 5, none⟩ = some L.kv ∧ w6.cell? ⟨L.ob, 6, none⟩ = some (.map (some L.mb))
      ∧ w6.cell? ⟨w.heap.size, 0, none⟩ = some (.int .i64 v.kind) ∧ w6.cell? ⟨w.heap.size, 1, none⟩ = some (.float .f64 v.num) ∧ w6.cell? ⟨w.heap.size, 2, none⟩ = some (.string v.text) ∧ w6.cell? ⟨w.heap.size, 3, none⟩ = some (.int .i64 v.ref)
      ∧ MapAt w6 L.mb o.props ∧ Below B w w6 ∧ HeapAt w6 B p σ ov Ls ∧ w6.heap[w.heap.size]? = some (.cells #[.int .i64 v.kind, .float .f64 v.num, .string v.text, .int .i64 v.ref] 33 (0, 0)) ∧ ¬ (L.ob = w6.heap.size) ∧ ¬ (p = w6.heap.size) ∧ ¬ (w.heap.size = w6.heap.size) := by
  rintro w6 ⟨nd, rfl⟩
  have hobj := h.objs _ _ _ hL ho
  obtain ⟨x0, x1, x5, x6, x7⟩ := hobj.cell
  refine ⟨x0, h.cell1, x5, x6, (cell_in hblk).trans rfl, (cell_in hblk).trans rfl, (cell_in hblk).trans rfl, (cell_in hblk).trans rfl, hobj.props.move rfl, pw_below_drewN hb _, h.drewN _, hblk, ?_, ?_, ?_⟩
  · have := (Array.getElem?_eq_some_iff.1 hobj.block).1
    show ¬ (L.ob = w4.heap.size)
    omega
  · have := h.top_lt
    show ¬ (p = w4.heap.size)
    omega
  · have := (Array.getElem?_eq_some_iff.1 hblk).1
    show ¬ (w.heap.size = w4.heap.size)
    omega
set_option maxHeartbeats 4000000 in
set_option maxRecDepth 100000 in
/-- Put at a key that is there. -/
theorem put_there {w : World} {B p : Nat} {σ : HSt} {ov : Value} {Ls : List Lay} (h : HeapAt w B p σ ov Ls) (hf : Fit σ) (i : Int) (key : ByteArray) (v : Val) (hks : key.size ≤ 140737488351232) (o : OSt) (ho : objS σ i = some o) (hk : o.kind ≠ 2)
    (HR : ∀ w1, HeapAt w1 B p σ ov Ls → Calls Tryd.prog 37 #[.pointer (some ⟨p, 0, none⟩), v.agg] w1 fun e w' => e = .returned (.bool true) ∧ Below w1.heap.size w1 w') (hl : (lookS o.props key).isSome = true) :
    Calls Tryd.prog 16 #[.pointer (some ⟨p, 0, none⟩), .int .i64 i, .string key, v.agg] w (Left B p (.int .i64 0) ⟨σ.objs.set i.toNat { o with props := putS o.props key v }, σ.left⟩ w) := by
  have h1 := h.alloc (.cells #[.int .i64 v.kind, .float .f64 v.num, .string v.text, .int .i64 v.ref] 33)
  obtain ⟨L, hL, h0, hobj⟩ := h1.obj ho
  have HC := Aside0.mk (at_obj h1 (by have := hf.objs; have := h.len; omega) i h0 hL)
  have HX := fun w => Aside0.mk (index_calls key hks w)
  have HRR := Aside0.mk (HR _ h1)
  have d1 : (o.kind == 2) = false := beq_eq_false_iff_ne.mpr hk
  have HO := Aside0.mk (objS_some ho).2.2
  have HL := Aside0.mk hL
  have HL2 := Aside0.mk hl
  have H1 := Aside0.mk h1
  have hB := h.base
  clear h h1 hf ho hL h0 hk hl HR hobj
  go_enter Tryd.func16, Tryd.ntmps16
  go_upto_region 6 with (first | (go_at_call 40; refine (HC.out).mono ?_; rintro e w' ⟨rfl, rfl⟩) | (go_at_call 37; refine (HRR.out).mono ?_; rintro e w4 ⟨rfl, hb⟩; have HB1 := Aside0.mk hb; clear hb))
  have h4 := H1.out.below HB1.out
  have hobj := h4.objs _ _ _ HL.out HO.out
  have hblk := (HB1.out.block w.heap.size (by rw [World.size_alloc]; exact Nat.lt_succ_self _)).trans (heap_alloc_new w _)
  have HBL := (below_step ((Below.refl w.heap.size w).alloc (Nat.le_refl _) _) HB1.out).mono hB
  have FACTS := Aside0.mk (box_facts h4 HL.out HO.out hblk HBL)
  have x0 := hobj.cell.1
  clear h4 hobj hblk HB1 HRR HC
  generalize idxR key = R at *
  obtain ⟨ix, bx⟩ := R
  have hl := HL2.out
  have d2 : (lookS o.props key).isSome = true := hl
  cases bx
  all_goals
    go_upto_region 18 with (go_at_call 9; go_must (refine ((HX _).out).mono ?_; rintro e w6 ⟨rfl, hd⟩; obtain ⟨z0, z1, z5, z6, y0, y1, y2, y3, HM, HB6, H6, hblk, e1, e2, e3⟩ := FACTS.out w6 hd; clear x0 hd))
    have HM := Aside0.mk HM
    have HBX := Aside0.mk (HB6.alloc (Nat.le_trans hB (Nat.le_of_lt (Array.getElem?_eq_some_iff.1 hblk).1)) (.cells #[.int .i64 ((lookS o.props key).getD Val.zero).kind, .float .f64 ((lookS o.props key).getD Val.zero).num, .string ((lookS o.props key).getD Val.zero).text, .int .i64 ((lookS o.props key).getD Val.zero).ref] 33))
    have HX6 := H6.alloc (.cells #[.int .i64 ((lookS o.props key).getD Val.zero).kind, .float .f64 ((lookS o.props key).getD Val.zero).num, .string ((lookS o.props key).getD Val.zero).text, .int .i64 ((lookS o.props key).getD Val.zero).ref] 33)
    have hbX := (Below.heap_alloc w6 (.cells #[.int .i64 ((lookS o.props key).getD Val.zero).kind, .float .f64 ((lookS o.props key).getD Val.zero).num, .string ((lookS o.props key).getD Val.zero).text, .int .i64 ((lookS o.props key).getD Val.zero).ref] 33) w.heap.size (Array.getElem?_eq_some_iff.1 hblk).1).trans hblk
    have FACTS2 := Aside0.mk (box_facts HX6 HL.out HO.out hbX HBX.out)
    clear H6 HB6 HX6 hbX FACTS hblk
    go_upto_region 24 with (at_lookup; refine wpList_look _ rfl _ _ rfl L.mb key o.props rfl rfl HM.out ?_)
    generalize w6.alloc (.cells #[.int .i64 ((lookS o.props key).getD Val.zero).kind, .float .f64 ((lookS o.props key).getD Val.zero).num, .string ((lookS o.props key).getD Val.zero).text, .int .i64 ((lookS o.props key).getD Val.zero).ref] 33) = wX at *
    clear z0 z1 z5 z6 y0 y1 y2 y3 HM e1 e2 e3
    obtain ⟨z0, z1, z5, z6, y0, y1, y2, y3, HM, HB6, H6, hblk, e1, e2, e3⟩ := FACTS2.out wX ⟨0, rfl⟩
    clear z1 z5 HM HB6 H6 hblk e1 e2 e3
    go_still_tail 6, (by kernel_rfl)
    clear z0 z6 y0 y1 y2 y3
    obtain ⟨z0, z1, z5, z6, y0, y1, y2, y3, HM, HB6, H6, hblk, e1, e2, e3⟩ := FACTS2.out (World.drew wX) ⟨1, rfl⟩
    change wpList _ _ _ _ _ (World.drew wX)
    generalize World.drew wX = wY at *
    have HM := Aside0.mk HM
    have H6 := Aside0.mk H6
    have HB6 := Aside0.mk HB6
    clear hblk z0 z1 z5 z6 y0 y1 y2 y3 FACTS2
    go_wp2_with (at_mapUpdate; go_must (refine wpList_put _ rfl _ _ _ rfl L.mb key v o.props rfl rfl rfl HM.out ?_; intro w9 hm9 hg9; have HM9 := Aside0.mk hm9; have HG9 := Aside0.mk hg9; clear hm9 hg9))
    go_ret
    refine ⟨rfl, ?_, ov, Ls, H6.out.mapped HL.out HO.out _ HM9.out HG9.out⟩
    exact HB6.out.grown HG9.out (Nat.le_trans hB HB6.out.size) (fun k hk => by cases hk; exact H6.out.low _ (mem_feet_lay (List.mem_of_getElem? HL.out) mem_mb))
set_option maxHeartbeats 4000000 in
set_option maxRecDepth 100000 in
/-- Put at a key that is not there: no room. -/
theorem put_full {w : World} {B p : Nat} {σ : HSt} {ov : Value} {Ls : List Lay} (h : HeapAt w B p σ ov Ls) (hf : Fit σ) (i : Int) (key : ByteArray) (v : Val) (hks : key.size ≤ 140737488351232) (o : OSt) (ho : objS σ i = some o) (hk : o.kind ≠ 2)
    (HR : ∀ w1, HeapAt w1 B p σ ov Ls → Calls Tryd.prog 37 #[.pointer (some ⟨p, 0, none⟩), v.agg] w1 fun e w' => e = .returned (.bool true) ∧ Below w1.heap.size w1 w') (hl : (lookS o.props key).isSome = false) (hroom : σ.left < 1) :
    Calls Tryd.prog 16 #[.pointer (some ⟨p, 0, none⟩), .int .i64 i, .string key, v.agg] w (Left B p (.int .i64 112) σ w) := by
  have h1 := h.alloc (.cells #[.int .i64 v.kind, .float .f64 v.num, .string v.text, .int .i64 v.ref] 33)
  obtain ⟨L, hL, h0, hobj⟩ := h1.obj ho
  have HC := Aside0.mk (at_obj h1 (by have := hf.objs; have := h.len; omega) i h0 hL)
  have HX := fun w => Aside0.mk (index_calls key hks w)
  have HRR := Aside0.mk (HR _ h1)
  have d1 : (o.kind == 2) = false := beq_eq_false_iff_ne.mpr hk
  have HO := Aside0.mk (objS_some ho).2.2
  have HL := Aside0.mk hL
  have HL2 := Aside0.mk hl
  have H1 := Aside0.mk h1
  have hB := h.base
  have d3 : decide (σ.left < 1) = true := decide_eq_true hroom
  clear h h1 hf ho hL h0 hk hl HR hobj
  go_enter Tryd.func16, Tryd.ntmps16
  go_upto_region 6 with (first | (go_at_call 40; refine (HC.out).mono ?_; rintro e w' ⟨rfl, rfl⟩) | (go_at_call 37; refine (HRR.out).mono ?_; rintro e w4 ⟨rfl, hb⟩; have HB1 := Aside0.mk hb; clear hb))
  have h4 := H1.out.below HB1.out
  have hobj := h4.objs _ _ _ HL.out HO.out
  have hblk := (HB1.out.block w.heap.size (by rw [World.size_alloc]; exact Nat.lt_succ_self _)).trans (heap_alloc_new w _)
  have HBL := (below_step ((Below.refl w.heap.size w).alloc (Nat.le_refl _) _) HB1.out).mono hB
  have FACTS := Aside0.mk (box_facts h4 HL.out HO.out hblk HBL)
  have x0 := hobj.cell.1
  clear h4 hobj hblk HB1 HRR HC
  generalize idxR key = R at *
  obtain ⟨ix, bx⟩ := R
  have hl := HL2.out
  have d2 : (lookS o.props key).isSome = false := hl
  cases bx
  all_goals
    go_upto_region 18 with (go_at_call 9; go_must (refine ((HX _).out).mono ?_; rintro e w6 ⟨rfl, hd⟩; obtain ⟨z0, z1, z5, z6, y0, y1, y2, y3, HM, HB6, H6, hblk, e1, e2, e3⟩ := FACTS.out w6 hd; clear x0 hd))
    have HM := Aside0.mk HM
    have HBX := Aside0.mk (HB6.alloc (Nat.le_trans hB (Nat.le_of_lt (Array.getElem?_eq_some_iff.1 hblk).1)) (.cells #[.int .i64 ((lookS o.props key).getD Val.zero).kind, .float .f64 ((lookS o.props key).getD Val.zero).num, .string ((lookS o.props key).getD Val.zero).text, .int .i64 ((lookS o.props key).getD Val.zero).ref] 33))
    have HX6 := H6.alloc (.cells #[.int .i64 ((lookS o.props key).getD Val.zero).kind, .float .f64 ((lookS o.props key).getD Val.zero).num, .string ((lookS o.props key).getD Val.zero).text, .int .i64 ((lookS o.props key).getD Val.zero).ref] 33)
    have hbX := (Below.heap_alloc w6 (.cells #[.int .i64 ((lookS o.props key).getD Val.zero).kind, .float .f64 ((lookS o.props key).getD Val.zero).num, .string ((lookS o.props key).getD Val.zero).text, .int .i64 ((lookS o.props key).getD Val.zero).ref] 33) w.heap.size (Array.getElem?_eq_some_iff.1 hblk).1).trans hblk
    have FACTS2 := Aside0.mk (box_facts HX6 HL.out HO.out hbX HBX.out)
    clear H6 HB6 HX6 hbX FACTS hblk
    go_upto_region 20 with (at_lookup; refine wpList_look _ rfl _ _ rfl L.mb key o.props rfl rfl HM.out ?_)
    generalize w6.alloc (.cells #[.int .i64 ((lookS o.props key).getD Val.zero).kind, .float .f64 ((lookS o.props key).getD Val.zero).num, .string ((lookS o.props key).getD Val.zero).text, .int .i64 ((lookS o.props key).getD Val.zero).ref] 33) = wX at *
    clear z0 z1 z5 z6 y0 y1 y2 y3 HM e1 e2 e3
    obtain ⟨z0, z1, z5, z6, y0, y1, y2, y3, HM, HB6, H6, hblk, e1, e2, e3⟩ := FACTS2.out wX ⟨0, rfl⟩
    have H6 := Aside0.mk H6
    have HB6 := Aside0.mk HB6
    clear z0 z5 z6 y0 y1 y2 y3 HM hblk e1 e2 e3 FACTS2
    go_wp2
    go_ret
    exact ⟨rfl, HB6.out, ov, Ls, H6.out⟩
set_option maxHeartbeats 4000000 in
set_option maxRecDepth 100000 in
/-- Put at a key that is not there. -/
theorem put_room {w : World} {B p : Nat} {σ : HSt} {ov : Value} {Ls : List Lay} (h : HeapAt w B p σ ov Ls) (hf : Fit σ) (i : Int) (key : ByteArray) (v : Val) (hks : key.size ≤ 140737488351232) (o : OSt) (ho : objS σ i = some o) (hk : o.kind ≠ 2)
    (HR : ∀ w1, HeapAt w1 B p σ ov Ls → Calls Tryd.prog 37 #[.pointer (some ⟨p, 0, none⟩), v.agg] w1 fun e w' => e = .returned (.bool true) ∧ Below w1.heap.size w1 w') (hl : (lookS o.props key).isSome = false) (hroom : ¬ σ.left < 1) (hkeys : o.keys.length ≤ 100000) :
    Calls Tryd.prog 16 #[.pointer (some ⟨p, 0, none⟩), .int .i64 i, .string key, v.agg] w (Left B p (.int .i64 0) ⟨σ.objs.set i.toNat { o with keys := o.keys ++ [key], props := putS o.props key v }, σ.left - 1⟩ w) := by
  have h1 := h.alloc (.cells #[.int .i64 v.kind, .float .f64 v.num, .string v.text, .int .i64 v.ref] 33)
  obtain ⟨L, hL, h0, hobj⟩ := h1.obj ho
  have HC := Aside0.mk (at_obj h1 (by have := hf.objs; have := h.len; omega) i h0 hL)
  have HX := fun w => Aside0.mk (index_calls key hks w)
  have HRR := Aside0.mk (HR _ h1)
  have d1 : (o.kind == 2) = false := beq_eq_false_iff_ne.mpr hk
  have HO := Aside0.mk (objS_some ho).2.2
  have HL := Aside0.mk hL
  have HL2 := Aside0.mk hl
  have H1 := Aside0.mk h1
  have hB := h.base
  have d3 : decide (σ.left < 1) = false := decide_eq_false hroom
  have hpl := h.top_lt
  have hkvl : ∀ q, L.kv.ownBlock = some q → q < w.heap.size := fun q hq => h.feet_lt q (mem_feet_lay (List.mem_of_getElem? hL) (mem_kv hq))
  have hobl : L.ob < w.heap.size := h.feet_lt _ (mem_feet_lay (List.mem_of_getElem? hL) mem_ob)
  have HPL := Aside0.mk hpl
  have HKVL := Aside0.mk hkvl
  have HOBL := Aside0.mk hobl
  have HLE := Aside0.mk hf.left1
  have HKE := Aside0.mk hkeys
  have HRO := Aside0.mk hroom
  clear hpl hkvl hobl hkeys hroom
  clear h h1 hf ho hL h0 hk hl HR hobj
  go_enter Tryd.func16, Tryd.ntmps16
  go_upto_region 6 with (first | (go_at_call 40; refine (HC.out).mono ?_; rintro e w' ⟨rfl, rfl⟩) | (go_at_call 37; refine (HRR.out).mono ?_; rintro e w4 ⟨rfl, hb⟩; have HB1 := Aside0.mk hb; clear hb))
  have h4 := H1.out.below HB1.out
  have hobj := h4.objs _ _ _ HL.out HO.out
  have hblk := (HB1.out.block w.heap.size (by rw [World.size_alloc]; exact Nat.lt_succ_self _)).trans (heap_alloc_new w _)
  have HBL := (below_step ((Below.refl w.heap.size w).alloc (Nat.le_refl _) _) HB1.out).mono hB
  have FACTS := Aside0.mk (box_facts h4 HL.out HO.out hblk HBL)
  have x0 := hobj.cell.1
  clear h4 hobj hblk HB1 HRR HC
  generalize idxR key = R at *
  obtain ⟨ix, bx⟩ := R
  have hl := HL2.out
  have d2 : (lookS o.props key).isSome = false := hl
  cases bx
  all_goals
    go_upto_region 18 with (go_at_call 9; go_must (refine ((HX _).out).mono ?_; rintro e w6 ⟨rfl, hd⟩; obtain ⟨z0, z1, z5, z6, y0, y1, y2, y3, HM, HB6, H6, hblk, e1, e2, e3⟩ := FACTS.out w6 hd; clear x0 hd))
    have HM := Aside0.mk HM
    have HBX := Aside0.mk (HB6.alloc (Nat.le_trans hB (Nat.le_of_lt (Array.getElem?_eq_some_iff.1 hblk).1)) (.cells #[.int .i64 ((lookS o.props key).getD Val.zero).kind, .float .f64 ((lookS o.props key).getD Val.zero).num, .string ((lookS o.props key).getD Val.zero).text, .int .i64 ((lookS o.props key).getD Val.zero).ref] 33))
    have HX6 := H6.alloc (.cells #[.int .i64 ((lookS o.props key).getD Val.zero).kind, .float .f64 ((lookS o.props key).getD Val.zero).num, .string ((lookS o.props key).getD Val.zero).text, .int .i64 ((lookS o.props key).getD Val.zero).ref] 33)
    have hbX := (Below.heap_alloc w6 (.cells #[.int .i64 ((lookS o.props key).getD Val.zero).kind, .float .f64 ((lookS o.props key).getD Val.zero).num, .string ((lookS o.props key).getD Val.zero).text, .int .i64 ((lookS o.props key).getD Val.zero).ref] 33) w.heap.size (Array.getElem?_eq_some_iff.1 hblk).1).trans hblk
    have FACTS2 := Aside0.mk (box_facts HX6 HL.out HO.out hbX HBX.out)
    clear H6 HB6 HX6 hbX FACTS hblk
    go_upto_region 20 with (at_lookup; refine wpList_look _ rfl _ _ rfl L.mb key o.props rfl rfl HM.out ?_)
    generalize w6.alloc (.cells #[.int .i64 ((lookS o.props key).getD Val.zero).kind, .float .f64 ((lookS o.props key).getD Val.zero).num, .string ((lookS o.props key).getD Val.zero).text, .int .i64 ((lookS o.props key).getD Val.zero).ref] 33) = wX at *
    clear z0 z1 z5 z6 y0 y1 y2 y3 HM e1 e2 e3
    obtain ⟨z0, z1, z5, z6, y0, y1, y2, y3, HM, HB6, H6, hblk, e1, e2, e3⟩ := FACTS2.out wX ⟨0, rfl⟩
    have f1 := H6.free 1
    have H7 := H6.setLeft (wrap64 (σ.left - 1))
    have HBX7 := Aside0.mk (HB6.setCell (p := ⟨p, 1, none⟩) (H6.low p mem_feet_top) (.int .i64 (wrap64 (σ.left - 1))))
    have hb7 := (Below.heap_setCell wX ⟨p, 1, none⟩ (.int .i64 (wrap64 (σ.left - 1))) w.heap.size (fun e => by have := HPL.out; have e' : w.heap.size = p := e; omega)).trans hblk
    have FACTS3 := Aside0.mk (box_facts (σ := ⟨σ.objs, wrap64 (σ.left - 1)⟩) H7 HL.out HO.out hb7 HBX7.out)
    have HW64 := Aside0.mk (show wrap64 (σ.left - 1) = σ.left - 1 by have := HRO.out; have := HLE.out; unfold wrap64; omega)
    clear z0 z5 z6 y0 y1 y2 y3 HM hblk e1 e2 e3 FACTS2 H6 HB6 H7 hb7
    go_upto_region 23 with (fail)
    obtain ⟨W1, hW1⟩ : ∃ W1, W1 = wX.setCell ⟨p, 1, none⟩ (.int .i64 (wrap64 (σ.left - 1))) := ⟨_, rfl⟩
    rw [← hW1] at FACTS3 HBX7
    rw [← hW1]
    clear hW1
    obtain ⟨z0, z1, z5, z6, y0, y1, y2, y3, HM, HB7, H7, hblk, e1, e2, e3⟩ := FACTS3.out W1 ⟨0, rfl⟩
    have hobj7 := H7.objs _ _ _ HL.out HO.out
    have HKEYS := Aside0.mk hobj7.keys
    have qf5 : W1.frozen? ⟨L.ob, 5, none⟩ = false := free_in hobj7.block
    have HBS := Aside0.mk (H7.base)
    have HND := Aside0.mk (Lay.nd (H7.lay_nd (List.mem_of_getElem? HL.out)))
    have HKO := Aside0.mk (show some L.ob ≠ L.kv.ownBlock from fun e => (HND.out.2.1 _ e.symm).1 rfl)
    have HLB := Aside0.mk (Array.getElem?_eq_some_iff.1 hobj7.block).1
    have HB7 := Aside0.mk HB7
    have H7 := Aside0.mk H7
    have HBK := Aside0.mk hblk
    clear z0 z1 z6 y0 y1 y2 y3 HM hblk e2 e3 hobj7 FACTS3 HBX7
    go_upto_region 24 with (at_builtin; go_must (refine print_append (w0 := w) (W := W1) B rfl _ _ 41 9 (.string ⟨#[]⟩) 16 rfl Tryd.underlying41 info9 rfl (by decide) L.kv (o.keys.map Value.string) (.string key) rfl rfl rfl (by rw [List.length_map]; exact HKEYS.out) HB7.out HBS.out (by rw [List.length_map]; have := HKE.out; omega) ?_; intro v1 w5 hown hbel hg hat; have q5 := hg.cell z5 HKO.out; have qf := (World.frozen?_of_block (a := ⟨L.ob, 5, none⟩) (hg.block L.ob HLB.out HKO.out)).trans qf5; have HOwn := Aside0.mk hown; have HG := Aside0.mk hg; have HAt := Aside0.mk hat; have HB5 := Aside0.mk hbel; obtain ⟨A1, c1, e1⟩ := own_slice hown; clear hown hg hat hbel z5 qf5))
    have hown := HOwn.out
    rw [show o.keys.map Value.string ++ [Value.string key] = (o.keys ++ [key]).map Value.string by simp, List.length_map] at hown
    have hln : (List.map Value.string o.keys ++ [Value.string key]).length = o.keys.length + 1 := by simp
    rw [hln] at e1
    subst e1
    have H8 := H7.out.keyed HL.out HO.out (o.keys ++ [key]) _ hown HG.out HAt.out
    have hBob : B ≤ L.ob := H7.out.low _ (mem_feet_lay (List.mem_of_getElem? HL.out) mem_ob)
    have HB8 := HB5.out.setCell (p := ⟨L.ob, 5, none⟩) hBob (.slice A1 (o.keys.length + 1) c1)
    have hb8 := (Below.heap_setCell w5 ⟨L.ob, 5, none⟩ (.slice A1 (o.keys.length + 1) c1) w.heap.size (fun e => by have := HOBL.out; have e' : w.heap.size = L.ob := e; omega)).trans ((HG.out.block w.heap.size (Array.getElem?_eq_some_iff.1 HBK.out).1 (fun e => by have := HKVL.out _ e.symm; omega)).trans HBK.out)
    have hL8 : (Ls.set i.toNat { L with kv := .slice A1 (o.keys.length + 1) c1 })[i.toNat]? = some { L with kv := .slice A1 (o.keys.length + 1) c1 } := List.getElem?_set_self (List.getElem?_eq_some_iff.1 HL.out).1
    have hO8 : (σ.objs.set i.toNat { o with keys := o.keys ++ [key] })[i.toNat]? = some { o with keys := o.keys ++ [key] } := List.getElem?_set_self (List.getElem?_eq_some_iff.1 HO.out).1
    have FACTS4 := Aside0.mk (box_facts H8 hL8 hO8 hb8 HB8)
    have HL8 := Aside0.mk hL8
    have HO8 := Aside0.mk hO8
    clear hown hln H8 hBob HB8 hb8 hL8 hO8 HOwn HG HAt HB5 q5 qf
    generalize w5.setCell ⟨L.ob, 5, none⟩ (.slice A1 (o.keys.length + 1) c1) = W2 at *
    obtain ⟨z0, z1, z5, z6, y0, y1, y2, y3, HM, HB6, H6, hblk, e1, e2, e3⟩ := FACTS4.out W2 ⟨0, rfl⟩
    clear z1 z5 HM HB6 H6 hblk e1 e2 e3
    go_still_tail 6, (by kernel_rfl)
    clear z0 z6 y0 y1 y2 y3
    obtain ⟨z0, z1, z5, z6, y0, y1, y2, y3, HM, HB6, H6, hblk, e1, e2, e3⟩ := FACTS4.out (World.drew W2) ⟨1, rfl⟩
    change wpList _ _ _ _ _ (World.drew W2)
    generalize World.drew W2 = wY at *
    have HM := Aside0.mk HM
    have H6 := Aside0.mk H6
    have HB6 := Aside0.mk HB6
    clear hblk z0 z1 z5 z6 y0 y1 y2 y3 FACTS4
    go_wp2_with (at_mapUpdate; go_must (refine wpList_put _ rfl _ _ _ rfl L.mb key v o.props rfl rfl rfl HM.out ?_; intro w9 hm9 hg9; have HM9 := Aside0.mk hm9; have HG9 := Aside0.mk hg9; clear hm9 hg9))
    go_ret
    have H9 := H6.out.mapped HL8.out HO8.out _ HM9.out HG9.out
    rw [List.set_set, HW64.out] at H9
    refine ⟨rfl, ?_, ov, _, H9⟩
    exact HB6.out.grown HG9.out (Nat.le_trans hB HB6.out.size) (fun k hk => by cases hk; exact H6.out.low _ (mem_feet_lay (List.mem_of_getElem? HL8.out) (L := { L with kv := .slice A1 (o.keys.length + 1) c1 }) mem_mb))
end Go.Proofs.YtnfobcedbfbbiaaDoor.Hp
