/- Put at an index; Put, whole. -/
import Derived.Test.YtnfobcedbfbbiaaDoorHpM
namespace Go.Proofs.YtnfobcedbfbbiaaDoor.Hp
open Go.RowKit Go.Proofs.YtnfobcedbfbbiaaDoorW.PrintWords Go.Proofs.YtnfobcedbfbbiaaDoorW.PrintLast Go.Proofs.YtnfobcedbfbbiaaDoorW.PrintMore Go.Proofs.YtnfobcedbfbbiaaDoor.Hand Go.Proofs.YtnfobcedbfbbiaaDoor.PIx Go.Proofs.YtnfobcedbfbbiaaDoor.Pure
set_option linter.unusedVariables false
set_option linter.unusedSimpArgs false
/-- What Put at an index does. -/
def itemS (σ : HSt) (i : Nat) (o : OSt) (n : Nat) (v : Val) : Int × HSt :=
  if n < o.items.length then (0, ⟨σ.objs.set i { o with items := o.items.set n v }, σ.left⟩)
  else if σ.left < ((n + 1 : Nat) : Int) - o.items.length then (112, σ) else (0, ⟨σ.objs.set i { o with items := (fitI o.items (n + 1)).set n v }, σ.left - (((n + 1 : Nat) : Int) - o.items.length)⟩)
set_option maxHeartbeats 4000000 in
set_option maxRecDepth 100000 in
theorem put_index {w : World} {B p : Nat} {K : List (Nat × Obj)} {σ : HSt} {ov : Value} {Ls : List Lay} (h : HeapAt w B K p σ ov Ls) (hf : Fit σ) (i : Int) (key : ByteArray) (v : Val) (hks : key.size ≤ 140737488351232) (o : OSt) (ho : objS σ i = some o) (hk : o.kind = 2) (hts : v.text.size ≤ 140737488351232) (hr : rightV σ.objs.length v = true) (hil : o.items.length ≤ 100000)
    (hl : key ≠ lengthKey) (n : Nat) (hx : idxR key = ((n : Int), true)) (hnm : n ≤ 2147483647) :
    Calls Tryd.prog 16 #[.pointer (some ⟨p, 0, none⟩), .int .i64 i, .string key, v.agg] w (Left B K p (.int .i64 (itemS σ i.toNat o n v).1) (itemS σ i.toNat o n v).2 w) := by
  have h1 := h.boxed (.cells #[.int .i64 v.kind, .float .f64 v.num, .string v.text, .int .i64 v.ref] 33)
  have hb1 := (Below.refl B w).alloc h.base (.cells #[.int .i64 v.kind, .float .f64 v.num, .string v.text, .int .i64 v.ref] 33)
  obtain ⟨L, hL, h0, hobj⟩ := h1.obj ho
  have HC := Aside0.mk (at_obj h1 (by have := hf.objs; have := h.len; omega) i h0 hL)
  have hrc := right_calls h1 (by have := hf.objs; omega) v hts
  rw [hr] at hrc
  have HR := Aside0.mk hrc
  have HX := fun w => Aside0.mk (index_calls key hks w)
  rw [hx] at HX
  have HO := Aside0.mk (objS_some ho).2.2
  have HL := Aside0.mk hL
  have H1 := Aside0.mk h1
  have HB1 := Aside0.mk hb1
  have HF := Aside0.mk hf
  have HIL := Aside0.mk hil
  have HNM := Aside0.mk hnm
  obtain ⟨x0, x7, y0, y1, y2, y3⟩ := HeapAt.putF (v := v) h1 hL (objS_some ho).2.2
  have d1 : (o.kind == 2) = true := beq_iff_eq.mpr hk
  have d9 := not_length hl
  clear h h1 hf ho hrc hr hobj hL h0 hk hb1 hil hnm x0 hl hx
  go_enter Tryd.func16, Tryd.ntmps16
  go_upto_region 6 with (first | (go_at_call 40; refine (HC.out).mono ?_; rintro e w' ⟨rfl, hw⟩; subst w') | (go_at_call 37; refine (HR.out).mono ?_; rintro e w4 ⟨rfl, hb⟩; have HB4 := Aside0.mk hb; clear hb))
  have H4 := Aside0.mk (H1.out.below HB4.out)
  have HB5 := Aside0.mk (HB1.out.trans (HB4.out.mono H1.out.base))
  clear x7 y0 y1 y2 y3 HC HR
  obtain ⟨x0, x7, y0, y1, y2, y3⟩ := HeapAt.putF (v := v) H4.out HL.out HO.out
  go_upto_region 11 with (go_at_call 9; go_must (refine ((HX _).out).mono ?_; rintro e w' ⟨rfl, hd⟩; obtain ⟨nd, rfl⟩ := hd))
  have H5 := Aside0.mk (H4.out.drewN nd)
  have HB6 := Aside0.mk (pw_below_drewN HB5.out nd)
  generalize w4.drewN nd = w5 at *
  clear x0 x7 y0 y1 y2 y3 H4 HB5 HB4
  obtain ⟨x0, x7, y0, y1, y2, y3⟩ := HeapAt.putF (v := v) H5.out HL.out HO.out
  have hit := (H5.out.objs _ _ _ HL.out HO.out).items
  obtain ⟨A, c, hiv⟩ := own_slice hit
  have hiv0 := Aside0.mk hiv
  rw [hiv] at x7
  clear hit hiv
  by_cases c1 : n < o.items.length
  · have hS := Aside0.mk (show itemS σ i.toNat o n v = _ from if_pos c1)
    have d3 : decide (o.items.length ≤ n) = false := decide_eq_false (by omega)
    have d4 : decide ((n : Int) < (o.items.length : Int)) = true := decide_eq_true (by omega)
    have q1 := eq_true c1
    go_upto_region 16 with (fail)
    obtain ⟨g, c2, hiv2, hg, z0, z1, z2, z3, zf⟩ := items_at (H5.out.objs _ _ _ HL.out HO.out).items (List.getElem?_eq_getElem c1)
    have HIT := Aside0.mk (H5.out.objs _ _ _ HL.out HO.out).items
    have HIV := Aside0.mk hiv2
    have HG := Aside0.mk hg
    rw [hiv0.out] at hiv2
    injection hiv2 with e1 e2 e3
    subst e1 e3
    generalize o.items[n] = old at *
    have f0 := zf (n * 4)
    have f1 := zf (n * 4 + 1)
    have f2 := zf (n * 4 + 2)
    have f3 := zf (n * 4 + 3)
    clear hg zf e2
    go_still_tail 7, (by kernel_rfl)
    change wpList _ _ _ _ _ (World.drew w5)
    go_wp2
    go_ret
    rw [hS.out]
    have hg := HG.out
    refine ⟨rfl, (((((below_drew1 HB6.out).setCell (p := ⟨g, n * 4, none⟩) hg _).setCell (p := ⟨g, n * 4 + 1, none⟩) hg _).setCell (p := ⟨g, n * 4 + 2, none⟩) hg _).setCell (p := ⟨g, n * 4 + 3, none⟩) hg _), ov, Ls, ?_⟩
    exact H5.out.drew.unbox.restored HL.out HO.out (o.items.set n v) (by rw [HIV.out]; exact own_put4 (w := w5.drew) (n := o.items.length) (by rw [← HIV.out]; exact own_move HIT.out (fun q hq => rfl)) n c1 v) (fun b hb hne => four_far (w := w5.drew) (fun e => hne (by rw [HIV.out, e]; rfl)) _ _ _ _)
  · have d3 : decide (o.items.length ≤ n) = true := decide_eq_true (by omega)
    have hw1 : wrap64 ((n : Int) + 1) = ((n + 1 : Nat) : Int) := by have := HNM.out; unfold wrap64; omega
    have hw2 : IntKind.i64.wrap ((n : Int) + 1) = ((n + 1 : Nat) : Int) := by have := HNM.out; rw [IntKind.wrap_i64]; omega
    have HRS := Aside0.mk (resize_calls H5.out HF.out HL.out HO.out (n + 1) (by have := HNM.out; omega) HIL.out)
    have HC1 := Aside0.mk c1
    by_cases c2 : σ.left < ((n + 1 : Nat) : Int) - o.items.length
    · have hS := Aside0.mk (show itemS σ i.toNat o n v = (112, σ) by unfold itemS; rw [if_neg c1, if_pos c2])
      have hRs := Aside0.mk (show resizeS σ i.toNat o (n + 1) = (112, σ) by unfold resizeS; rw [if_pos c2])
      rw [hRs.out] at HRS
      clear y0 y1 y2 y3 c2
      go_wp2_with (go_at_call 42; go_must (refine (HRS.out).mono ?_; rintro e w6 ⟨rfl, hb, Ls', L', hh, _, _⟩))
      go_ret
      rw [hS.out]
      exact ⟨rfl, HB6.out.trans hb, ov, Ls', hh.unbox⟩
    · have hS := Aside0.mk (show itemS σ i.toNat o n v = (0, _) by unfold itemS; rw [if_neg c1, if_neg c2])
      have hRs := Aside0.mk (show resizeS σ i.toNat o (n + 1) = (0, _) by unfold resizeS; rw [if_neg c2])
      rw [hRs.out] at HRS
      clear y0 y1 y2 y3 c2
      go_upto_region 16 with (go_at_call 42; go_must (refine (HRS.out).mono ?_; rintro e w6 ⟨rfl, hb, Ls', L', hh, hL', hob⟩; have H6 := Aside0.mk hh; have HB7 := Aside0.mk (HB6.out.trans hb); have HL' := Aside0.mk hL'; have HOB := Aside0.mk hob; clear hh hb hL' hob))
      have HO' := Aside0.mk (show (σ.objs.set i.toNat { o with items := fitI o.items (n + 1) })[i.toNat]? = some { o with items := fitI o.items (n + 1) } from List.getElem?_set_self (List.getElem?_eq_some_iff.1 HO.out).1)
      have hfl : (fitI o.items (n + 1)).length = n + 1 := fitI_len _ _
      have c3 : n < (fitI o.items (n + 1)).length := by omega
      clear x0
      obtain ⟨x0, x7b, y0, y1, y2, y3⟩ := HeapAt.putF (v := v) H6.out HL'.out HO'.out
      rw [HOB.out] at x0 x7b
      obtain ⟨g, c2, hiv2, hg, z0, z1, z2, z3, zf⟩ := items_at (H6.out.objs _ _ _ HL'.out HO'.out).items (List.getElem?_eq_getElem c3)
      have HIT := Aside0.mk (H6.out.objs _ _ _ HL'.out HO'.out).items
      have HIV := Aside0.mk hiv2
      have HG := Aside0.mk hg
      have HFL := Aside0.mk hfl
      rw [hiv2] at x7b
      obtain ⟨NN, hNN⟩ : ∃ NN, (fitI o.items (n + 1)).length = NN := ⟨_, rfl⟩
      rw [hNN] at x7b
      have q1 : (n < NN) = True := eq_true (by omega)
      have d4 : decide ((n : Int) < (NN : Int)) = true := decide_eq_true (by omega)
      have q2 : n < NN := by omega
      clear hNN
      generalize (fitI o.items (n + 1))[n] = old at *
      have f0 := zf (n * 4)
      have f1 := zf (n * 4 + 1)
      have f2 := zf (n * 4 + 2)
      have f3 := zf (n * 4 + 3)
      clear hg zf x0 hiv2 hfl c3 x7 d3
      go_still_tail 7, (by kernel_rfl)
      change wpList _ _ _ _ _ (World.drew w6)
      go_wp2
      go_ret
      rw [hS.out]
      have hg := HG.out
      have hfl := HFL.out
      refine ⟨rfl, (((((below_drew1 HB7.out).setCell (p := ⟨g, n * 4, none⟩) hg _).setCell (p := ⟨g, n * 4 + 1, none⟩) hg _).setCell (p := ⟨g, n * 4 + 2, none⟩) hg _).setCell (p := ⟨g, n * 4 + 3, none⟩) hg _), ov, Ls', ?_⟩
      have hfin := H6.out.drew.unbox.restored HL'.out HO'.out ((fitI o.items (n + 1)).set n v) (w' := ((((w6.drew.setCell ⟨g, n * 4, none⟩ (.int .i64 v.kind)).setCell ⟨g, n * 4 + 1, none⟩ (.float .f64 v.num)).setCell ⟨g, n * 4 + 2, none⟩ (.string v.text)).setCell ⟨g, n * 4 + 3, none⟩ (.int .i64 v.ref))) (by rw [HIV.out]; exact own_put4 (w := w6.drew) (n := (fitI o.items (n + 1)).length) (by rw [← HIV.out]; exact own_move HIT.out (fun q hq => rfl)) n (by omega) v) (fun b hb hne => four_far (w := w6.drew) (fun e => hne (by rw [HIV.out, e]; rfl)) _ _ _ _)
      rw [List.set_set] at hfin
      exact hfin
end Go.Proofs.YtnfobcedbfbbiaaDoor.Hp
