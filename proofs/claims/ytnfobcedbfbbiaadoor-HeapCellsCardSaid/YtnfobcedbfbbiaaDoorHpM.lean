/- Put at an array's length and items; Put, whole. -/
import Derived.Test.YtnfobcedbfbbiaaDoorHpL
namespace Go.Proofs.YtnfobcedbfbbiaaDoor.Hp
open Go.RowKit Go.Proofs.YtnfobcedbfbbiaaDoorW.PrintWords Go.Proofs.YtnfobcedbfbbiaaDoorW.PrintLast Go.Proofs.YtnfobcedbfbbiaaDoorW.PrintMore Go.Proofs.YtnfobcedbfbbiaaDoor.Hand Go.Proofs.YtnfobcedbfbbiaaDoor.PIx Go.Proofs.YtnfobcedbfbbiaaDoor.Pure
set_option linter.unusedVariables false
set_option linter.unusedSimpArgs false
/-- Items cut, or filled up. -/
def fitI (its : List Val) (n : Nat) : List Val := if n < its.length then its.take n else its ++ List.replicate (n - its.length) Val.zero
theorem fitI_len (its : List Val) (n : Nat) : (fitI its n).length = n := by
  unfold fitI
  split
  · rw [List.length_take]; omega
  · rw [List.length_append, List.length_replicate]; omega
def resizeS (σ : HSt) (i : Nat) (o : OSt) (n : Nat) : Int × HSt :=
  if σ.left < (n : Int) - o.items.length then (112, σ) else (0, ⟨σ.objs.set i { o with items := fitI o.items n }, σ.left - (n - o.items.length)⟩)
theorem resize_calls {w : World} {B p : Nat} {K : List (Nat × Obj)} {σ : HSt} {ov : Value} {Ls : List Lay} (h : HeapAt w B K p σ ov Ls) (hf : Fit σ) {i : Nat} {L : Lay} {o : OSt} (hL : Ls[i]? = some L) (ho : σ.objs[i]? = some o) (n : Nat) (h1 : n ≤ 2147483648) (hi : o.items.length ≤ 100000) :
    Calls Tryd.prog 42 #[.pointer (some ⟨p, 0, none⟩), .pointer (some ⟨L.ob, 0, none⟩), .int .i64 n] w fun e w' => e = .returned (.int .i64 (resizeS σ i o n).1) ∧ Below B w w' ∧
      ∃ Ls' L', HeapAt w' B K p (resizeS σ i o n).2 ov Ls' ∧ Ls'[i]? = some L' ∧ L'.ob = L.ob := by
  have hil := (List.getElem?_eq_some_iff.1 hL).1
  unfold resizeS
  by_cases c1 : σ.left < (n : Int) - o.items.length
  · rw [if_pos c1]
    refine (resize_full h hL ho n (by omega) (by omega) hi c1).mono ?_
    rintro e w' ⟨rfl, k, rfl⟩
    exact ⟨rfl, pw_below_drewN (Below.refl B w) k, Ls, L, h.drewN k, hL, rfl⟩
  · rw [if_neg c1]
    unfold fitI
    by_cases c2 : n < o.items.length
    · rw [if_pos c2]
      refine (resize_cut h hL ho n hi hf.left0 hf.left1 c2).mono ?_
      rintro e w' ⟨rfl, hb, v1, hh⟩
      exact ⟨rfl, hb, _, _, hh, List.getElem?_set_self hil, rfl⟩
    · rw [if_neg c2]
      refine (resize_grow h hL ho n hi hf.left0 hf.left1 (by omega) (by omega)).mono ?_
      rintro e w' ⟨rfl, hb, v1, hh⟩
      exact ⟨rfl, hb, _, _, hh, List.getElem?_set_self hil, rfl⟩
/-- The heap beside a box with a value. -/
def VBox (v : Val) : Obj := .cells #[.int .i64 v.kind, .float .f64 v.num, .string v.text, .int .i64 v.ref] 33 (0, 0)
structure PutFacts (w : World) (p : Nat) (σ : HSt) (L : Lay) (o : OSt) (b : Nat) (v : Val) : Prop where
  x0 : w.cell? ⟨L.ob, 0, none⟩ = some (.int .i64 o.kind)
  x7 : w.cell? ⟨L.ob, 7, none⟩ = some L.iv
  y0 : w.cell? ⟨b, 0, none⟩ = some (.int .i64 v.kind)
  y1 : w.cell? ⟨b, 1, none⟩ = some (.float .f64 v.num)
  y2 : w.cell? ⟨b, 2, none⟩ = some (.string v.text)
  y3 : w.cell? ⟨b, 3, none⟩ = some (.int .i64 v.ref)
theorem HeapAt.putF {w : World} {B p : Nat} {K : List (Nat × Obj)} {σ : HSt} {ov : Value} {Ls : List Lay} {b : Nat} {v : Val} (h : HeapAt w B ((b, VBox v) :: K) p σ ov Ls) {i : Nat} {L : Lay} {o : OSt} (hL : Ls[i]? = some L) (ho : σ.objs[i]? = some o) : PutFacts w p σ L o b v := by
  have hobj := h.objs _ _ _ hL ho
  obtain ⟨x0, x1, x5, x6, x7⟩ := hobj.cell
  have hb := h.kept (b := b) (x := VBox v) List.mem_cons_self
  exact ⟨x0, x7, (cell_in hb).trans rfl, (cell_in hb).trans rfl, (cell_in hb).trans rfl, (cell_in hb).trans rfl⟩
theorem put_none {w : World} {B p : Nat} {K : List (Nat × Obj)} {σ : HSt} {ov : Value} {Ls : List Lay} (h : HeapAt w B K p σ ov Ls) (hf : Fit σ) (i : Int) (key : ByteArray) (v : Val) (ho : objS σ i = none) :
    Calls Tryd.prog 16 #[.pointer (some ⟨p, 0, none⟩), .int .i64 i, .string key, v.agg] w (Left B K p (.int .i64 3) σ w) := by
  have h1 := h.alloc (.cells #[.int .i64 v.kind, .float .f64 v.num, .string v.text, .int .i64 v.ref] 33)
  have HC := Aside0.mk (at_nil h1 (by have := hf.objs; have := h.len; omega) i (by rw [h.len]; exact objS_none ho))
  have HH := Aside0.mk (fun w' hb => Left.same (v := .int .i64 3) (w' := w') h hb)
  clear h h1 hf ho
  go_enter Tryd.func16, Tryd.ntmps16
  go_wp2_with (go_at_call 40; refine (HC.out).mono ?_; rintro e w' ⟨rfl, rfl⟩)
  go_ret
  exact HH.out _ (by repeat (with_reducible first | exact Below.refl _ _ | apply below_alloc | apply pw_below_drewN | apply below_drew1 | apply below_set0 | apply below_setk))
theorem put_bad {w : World} {B p : Nat} {K : List (Nat × Obj)} {σ : HSt} {ov : Value} {Ls : List Lay} (h : HeapAt w B K p σ ov Ls) (hf : Fit σ) (i : Int) (key : ByteArray) (v : Val) (o : OSt) (ho : objS σ i = some o) (hts : v.text.size ≤ 140737488351232) (hr : rightV σ.objs.length v = false) :
    Calls Tryd.prog 16 #[.pointer (some ⟨p, 0, none⟩), .int .i64 i, .string key, v.agg] w (Left B K p (.int .i64 1) σ w) := by
  have h1 := h.boxed (.cells #[.int .i64 v.kind, .float .f64 v.num, .string v.text, .int .i64 v.ref] 33)
  obtain ⟨L, hL, h0, hobj⟩ := h1.obj ho
  have HC := Aside0.mk (at_obj h1 (by have := hf.objs; have := h.len; omega) i h0 hL)
  have hrc := right_calls h1 (by have := hf.objs; omega) v hts
  rw [hr] at hrc
  have HR := Aside0.mk hrc
  have HH := Aside0.mk (fun w' hb => Left.same (v := .int .i64 1) (w' := w') h hb)
  obtain ⟨x0, x7, y0, y1, y2, y3⟩ := HeapAt.putF (v := v) h1 hL (objS_some ho).2.2
  clear h h1 hf ho hrc hr hobj x0 x7
  go_enter Tryd.func16, Tryd.ntmps16
  go_wp2_with (first | (go_at_call 40; refine (HC.out).mono ?_; rintro e w' ⟨rfl, hw⟩; subst w') | (go_at_call 37; refine (HR.out).mono ?_; rintro e w4 ⟨rfl, hb⟩))
  go_ret
  exact HH.out _ (below_step ((Below.refl _ _).alloc (Nat.le_refl _) _) hb)
theorem convert_int {x n : Nat} (hn : (FloatKind.f64.decode x).toInt .zero = some (n : Int)) (hnm : n ≤ 2147483647) (w : World) : (convert 31 3 (.float .f64 x)).run Tryd.prog w = .ok (.int .i64 n) w := by
  have h1 : (Conv.floatToInt .f64 x .i64).run Tryd.prog w = .ok (.int .i64 n) w := by
    unfold Conv.floatToInt
    simp only [hn]
    rw [if_pos ⟨by show (-9223372036854775808 : Int) ≤ n; omega, by show (n : Int) ≤ 9223372036854775807; omega⟩]
    rfl
  unfold convert
  simp [run_underlying Tryd.underlying31, run_underlying Tryd.underlying3, Result.andThen, h1]
set_option maxHeartbeats 4000000 in
set_option maxRecDepth 100000 in
/-- Put at an array's length. -/
theorem put_len {w : World} {B p : Nat} {K : List (Nat × Obj)} {σ : HSt} {ov : Value} {Ls : List Lay} (h : HeapAt w B K p σ ov Ls) (hf : Fit σ) (i : Int) (v : Val) (o : OSt) (ho : objS σ i = some o) (hk : o.kind = 2) (hts : v.text.size ≤ 140737488351232) (hr : rightV σ.objs.length v = true) (hil : o.items.length ≤ 100000)
    (hok : LenOk v) (n : Nat) (hn : (FloatKind.f64.decode v.num).toInt .zero = some (n : Int)) (hnm : n ≤ 2147483647) :
    Calls Tryd.prog 16 #[.pointer (some ⟨p, 0, none⟩), .int .i64 i, .string lengthKey, v.agg] w (Left B K p (.int .i64 (resizeS σ i.toNat o n).1) (resizeS σ i.toNat o n).2 w) := by
  have h1 := h.boxed (.cells #[.int .i64 v.kind, .float .f64 v.num, .string v.text, .int .i64 v.ref] 33)
  have hb1 := (Below.refl B w).alloc h.base (.cells #[.int .i64 v.kind, .float .f64 v.num, .string v.text, .int .i64 v.ref] 33)
  obtain ⟨L, hL, h0, hobj⟩ := h1.obj ho
  have HC := Aside0.mk (at_obj h1 (by have := hf.objs; have := h.len; omega) i h0 hL)
  have hrc := right_calls h1 (by have := hf.objs; omega) v hts
  rw [hr] at hrc
  have HR := Aside0.mk hrc
  have HO := Aside0.mk (objS_some ho).2.2
  have HL := Aside0.mk hL
  have H1 := Aside0.mk h1
  have HB1 := Aside0.mk hb1
  have HF := Aside0.mk hf
  have HIL := Aside0.mk hil
  have HNM := Aside0.mk hnm
  obtain ⟨x0, x7, y0, y1, y2, y3⟩ := HeapAt.putF (v := v) h1 hL (objS_some ho).2.2
  have d1 : (o.kind == 2) = true := beq_iff_eq.mpr hk
  have d2 : (v.kind != 3) = false := bne_eq_false_iff_eq.mpr hok.kind
  have d3 := feq_t hok.whole
  have d4 := hok.low
  have d5 := hok.high
  have HW := fun w => Aside0.mk (whole_calls v.num w)
  have hcv : ∀ w : World, (convert 31 3 (.float .f64 v.num)).run Tryd.prog w = .ok (.int .i64 n) w := fun w => convert_int hn hnm w
  unfold lengthKey
  clear h h1 hf ho hrc hr hobj hL h0 hk hb1 hil hok hn hnm x0
  go_enter Tryd.func16, Tryd.ntmps16
  go_upto_region 6 with (first | (go_at_call 40; refine (HC.out).mono ?_; rintro e w' ⟨rfl, hw⟩; subst w') | (go_at_call 37; refine (HR.out).mono ?_; rintro e w4 ⟨rfl, hb⟩; have HB4 := Aside0.mk hb; clear hb))
  have H4 := Aside0.mk (H1.out.below HB4.out)
  have HB5 := Aside0.mk (HB1.out.trans (HB4.out.mono H1.out.base))
  clear x7 y0 y1 y2 y3
  obtain ⟨x0, x7, y0, y1, y2, y3⟩ := HeapAt.putF (v := v) H4.out HL.out HO.out
  go_upto_region 7 with (fail)
  go_quiet ((go_at_call 41; exact Calls.quiet_of_same ((HW _).out)))
  rename_i nq
  have H5 := Aside0.mk (H4.out.drewN nq)
  have HB6 := Aside0.mk (pw_below_drewN HB5.out nq)
  generalize w4.drewN nq = w5 at *
  clear x0 x7 y0 y1 y2 y3
  obtain ⟨x0, x7, y0, y1, y2, y3⟩ := HeapAt.putF (v := v) H5.out HL.out HO.out
  have HRS := Aside0.mk (resize_calls H5.out HF.out HL.out HO.out n (by have := HNM.out; omega) HIL.out)
  clear x0 x7 y0 y2 y3
  go_wp2_with (go_at_call 42; go_must (refine (HRS.out).mono ?_; rintro e w6 ⟨rfl, hb, Ls', L', hh, _, _⟩))
  go_ret
  exact ⟨rfl, HB6.out.trans hb, ov, Ls', hh.unbox⟩
set_option maxHeartbeats 4000000 in
set_option maxRecDepth 100000 in
/-- Put at an array's length: no length. -/
theorem put_lenbad {w : World} {B p : Nat} {K : List (Nat × Obj)} {σ : HSt} {ov : Value} {Ls : List Lay} (h : HeapAt w B K p σ ov Ls) (hf : Fit σ) (i : Int) (v : Val) (o : OSt) (ho : objS σ i = some o) (hk : o.kind = 2) (hts : v.text.size ≤ 140737488351232) (hr : rightV σ.objs.length v = true)
    (hok : ¬ LenOk v) :
    Calls Tryd.prog 16 #[.pointer (some ⟨p, 0, none⟩), .int .i64 i, .string lengthKey, v.agg] w (Left B K p (.int .i64 1) σ w) := by
  have h1 := h.boxed (.cells #[.int .i64 v.kind, .float .f64 v.num, .string v.text, .int .i64 v.ref] 33)
  have hb1 := (Below.refl B w).alloc h.base (.cells #[.int .i64 v.kind, .float .f64 v.num, .string v.text, .int .i64 v.ref] 33)
  obtain ⟨L, hL, h0, hobj⟩ := h1.obj ho
  have HC := Aside0.mk (at_obj h1 (by have := hf.objs; have := h.len; omega) i h0 hL)
  have hrc := right_calls h1 (by have := hf.objs; omega) v hts
  rw [hr] at hrc
  have HR := Aside0.mk hrc
  have HO := Aside0.mk (objS_some ho).2.2
  have HL := Aside0.mk hL
  have H1 := Aside0.mk h1
  have HB1 := Aside0.mk hb1
  obtain ⟨x0, x7, y0, y1, y2, y3⟩ := HeapAt.putF (v := v) h1 hL (objS_some ho).2.2
  have d1 : (o.kind == 2) = true := beq_iff_eq.mpr hk
  have HW := fun w => Aside0.mk (whole_calls v.num w)
  obtain ⟨k2, d2⟩ : ∃ b, (v.kind != 3) = b := ⟨_, rfl⟩
  obtain ⟨k3, d3⟩ : ∃ b, feq (wholeV v.num) v.num = b := ⟨_, rfl⟩
  obtain ⟨k4, d4⟩ : ∃ b, (FloatKind.f64.format.order v.num 0 == some Ordering.lt) = b := ⟨_, rfl⟩
  obtain ⟨k5, d5⟩ : ∃ b, (FloatKind.f64.format.order v.num 4746794007244308480 == some Ordering.gt) = b := ⟨_, rfl⟩
  have hno : ¬ (k2 = false ∧ k3 = true ∧ k4 = false ∧ k5 = false) := by
    rintro ⟨rfl, rfl, rfl, rfl⟩
    exact hok ⟨bne_eq_false_iff_eq.mp d2, d3, d4, d5⟩
  unfold lengthKey
  clear h h1 hf ho hrc hr hobj hL h0 hk hb1 hok x0
  go_enter Tryd.func16, Tryd.ntmps16
  go_upto_region 6 with (first | (go_at_call 40; refine (HC.out).mono ?_; rintro e w' ⟨rfl, hw⟩; subst w') | (go_at_call 37; refine (HR.out).mono ?_; rintro e w4 ⟨rfl, hb⟩; have HB4 := Aside0.mk hb; clear hb))
  have H4 := Aside0.mk (H1.out.below HB4.out)
  have HB5 := Aside0.mk (HB1.out.trans (HB4.out.mono H1.out.base))
  clear x7 y0 y1 y2 y3
  obtain ⟨x0, x7, y0, y1, y2, y3⟩ := HeapAt.putF (v := v) H4.out HL.out HO.out
  go_upto_region 7 with (fail)
  cases k2
  case true =>
    go_quiet (fail)
    rename_i nq
    go_wp2
    go_ret
    exact ⟨rfl, pw_below_drewN HB5.out nq, ov, Ls, (H4.out.drewN nq).unbox⟩
  case false =>
    cases k3
    case false =>
      have d3' := feq_fn d3
      clear d3
      go_quiet ((go_at_call 41; exact Calls.quiet_of_same ((HW _).out)))
      rename_i nq
      go_wp2
      go_ret
      exact ⟨rfl, pw_below_drewN HB5.out nq, ov, Ls, (H4.out.drewN nq).unbox⟩
    case true =>
      have d3' := feq_t d3
      clear d3
      cases k4
      case true =>
        go_quiet ((go_at_call 41; exact Calls.quiet_of_same ((HW _).out)))
        rename_i nq
        go_wp2
        go_ret
        exact ⟨rfl, pw_below_drewN HB5.out nq, ov, Ls, (H4.out.drewN nq).unbox⟩
      case false =>
        cases k5
        case false => exact absurd ⟨rfl, rfl, rfl, rfl⟩ hno
        case true =>
          go_quiet ((go_at_call 41; exact Calls.quiet_of_same ((HW _).out)))
          rename_i nq
          go_wp2
          go_ret
          exact ⟨rfl, pw_below_drewN HB5.out nq, ov, Ls, (H4.out.drewN nq).unbox⟩
end Go.Proofs.YtnfobcedbfbbiaaDoor.Hp
