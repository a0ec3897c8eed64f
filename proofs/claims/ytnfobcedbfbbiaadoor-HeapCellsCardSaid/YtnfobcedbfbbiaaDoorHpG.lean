/- An array resized. -/
import Derived.Test.YtnfobcedbfbbiaaDoorHpF
import Derived.Deep.RegionLaw
import Derived.StillTailTactics
import Derived.BigQuiet
namespace Go.Proofs.YtnfobcedbfbbiaaDoor.Hp
open Go.RowKit Go.Proofs.YtnfobcedbfbbiaaDoorW.PrintWords Go.Proofs.YtnfobcedbfbbiaaDoorW.PrintLast Go.Proofs.YtnfobcedbfbbiaaDoorW.PrintMore Go.Proofs.YtnfobcedbfbbiaaDoor.Hand Go.Proofs.YtnfobcedbfbbiaaDoor.PIx Go.Proofs.YtnfobcedbfbbiaaDoor.Pure
set_option linter.unusedVariables false
set_option linter.unusedSimpArgs false
theorem step_append_run {P : Program} {ops : Array Oper} {o : Oper} {a : Act} {w : World} {K : Act → World → Prop} {Q : Exit → Act → World → Prop} {E : Prop}
    (hg : o.guard = none) (s x : Operand) (t tn : TypeId) (hop : o.op = Op.call { callee := Callee.builtin Builtin.append, args := #[s, x], argTypes := #[t, tn] })
    (vs vx : Value) (hs : a.eval s = vs) (hx : a.eval x = vx) (v' : Value) (w' : World) (hr : (Builtin.append_ #[t, tn] o.type #[vs, vx]).run P w = .ok v' w') (hK : K (a.put o.dst v') w') :
    if Region.wanted o (yielded ops a.tmps) = true then Oper.wp P o a w K Q else E := by
  have hw : Region.wanted o (yielded ops a.tmps) = true := by simp [Region.wanted, hg]
  rw [if_pos hw]
  exact Lib.wp_append_run w s x t tn hop vs vx hs hx v' w' hr hK
/-- What resize reads. -/
theorem HeapAt.sized {w : World} {B p : Nat} {K : List (Nat × Obj)} {σ : HSt} {ov : Value} {Ls : List Lay} (h : HeapAt w B K p σ ov Ls) {i : Nat} {L : Lay} {o : OSt} (hL : Ls[i]? = some L) (ho : σ.objs[i]? = some o) :
    ∃ A c, L.iv = .slice A o.items.length c ∧ w.cell? ⟨L.ob, 7, none⟩ = some (.slice A o.items.length c) ∧ w.cell? ⟨p, 1, none⟩ = some (.int .i64 σ.left) ∧ w.frozen? ⟨p, 1, none⟩ = false ∧ w.frozen? ⟨L.ob, 7, none⟩ = false ∧ p ≠ L.ob := by
  have hobj := h.objs _ _ _ hL ho
  obtain ⟨A, c, e⟩ := own_slice hobj.items
  refine ⟨A, c, e, ?_, h.cell1, h.free 1, free_in hobj.block, fun e2 => (h.lay_ne (List.mem_of_getElem? hL) mem_ob).1 e2.symm⟩
  rw [← e]
  exact hobj.cell.2.2.2.2
theorem HeapAt.sized2 {w : World} {B p : Nat} {K : List (Nat × Obj)} {σ : HSt} {ov : Value} {Ls : List Lay} (h : HeapAt w B K p σ ov Ls) {i : Nat} {L : Lay} {o : OSt} (hL : Ls[i]? = some L) (ho : σ.objs[i]? = some o) {v : Value} (e : L.iv = v) :
    w.cell? ⟨L.ob, 7, none⟩ = some v ∧ w.cell? ⟨p, 1, none⟩ = some (.int .i64 σ.left) ∧ w.frozen? ⟨p, 1, none⟩ = false ∧ w.frozen? ⟨L.ob, 7, none⟩ = false := by
  have hobj := h.objs _ _ _ hL ho
  refine ⟨?_, h.cell1, h.free 1, free_in hobj.block⟩
  rw [← e]
  exact hobj.cell.2.2.2.2
set_option maxHeartbeats 4000000 in
theorem resize_full {w : World} {B p : Nat} {K : List (Nat × Obj)} {σ : HSt} {ov : Value} {Ls : List Lay} (h : HeapAt w B K p σ ov Ls) {i : Nat} {L : Lay} {o : OSt} (hL : Ls[i]? = some L) (ho : σ.objs[i]? = some o) (n : Int) (h0 : 0 ≤ n) (h1 : n ≤ 2147483648) (hi : o.items.length ≤ 100000)
    (hlt : σ.left < n - o.items.length) : Calls Tryd.prog 42 #[.pointer (some ⟨p, 0, none⟩), .pointer (some ⟨L.ob, 0, none⟩), .int .i64 n] w fun e w' => e = .returned (.int .i64 112) ∧ ∃ k, w' = w.drewN k := by
  obtain ⟨A, c, _, x7, p1, pf1, xf7, _⟩ := h.sized hL ho
  have hw : IntKind.i64.wrap (n - (o.items.length : Int)) = n - o.items.length := by rw [IntKind.wrap_i64]; omega
  have d1 : decide (σ.left < n - o.items.length) = true := decide_eq_true hlt
  have hw2 : wrap64 (n - (o.items.length : Int)) = n - o.items.length := by unfold wrap64; omega
  clear h hL ho h0 h1 hlt
  go_enter Tryd.func42, Tryd.ntmps42
  go_wp2
  go_quiet (fail)
  go_wp2
  go_ret
  exact ⟨rfl, by first | exact ⟨0, rfl⟩ | exact ⟨_, rfl⟩⟩
set_option maxHeartbeats 4000000 in
set_option maxRecDepth 100000 in
theorem resize_cut {w : World} {B p : Nat} {K : List (Nat × Obj)} {σ : HSt} {ov : Value} {Ls : List Lay} (h : HeapAt w B K p σ ov Ls) {i : Nat} {L : Lay} {o : OSt} (hL : Ls[i]? = some L) (ho : σ.objs[i]? = some o) (n : Nat) (hi : o.items.length ≤ 100000) (hl0 : 0 ≤ σ.left) (hl1 : σ.left ≤ 10000)
    (hcut : n < o.items.length) : Calls Tryd.prog 42 #[.pointer (some ⟨p, 0, none⟩), .pointer (some ⟨L.ob, 0, none⟩), .int .i64 n] w fun e w' => e = .returned (.int .i64 0) ∧ Below B w w' ∧
      ∃ v1, HeapAt w' B K p ⟨σ.objs.set i { o with items := o.items.take n }, σ.left - (n - o.items.length)⟩ ov (Ls.set i { L with iv := v1 }) := by
  obtain ⟨A, c, eiv, x7, p1, pf1, xf7, hne⟩ := h.sized hL ho
  have hw : IntKind.i64.wrap ((n : Int) - (o.items.length : Int)) = n - o.items.length := by rw [IntKind.wrap_i64]; omega
  have d1 : decide (σ.left < (n : Int) - o.items.length) = false := decide_eq_false (by omega)
  have hw2 : wrap64 ((n : Int) - (o.items.length : Int)) = n - o.items.length := by unfold wrap64; omega
  have hw3 : IntKind.i64.wrap (σ.left - ((n : Int) - (o.items.length : Int))) = σ.left - (n - o.items.length) := by rw [IntKind.wrap_i64]; omega
  have hw4 : wrap64 (σ.left - ((n : Int) - (o.items.length : Int))) = σ.left - (n - o.items.length) := by unfold wrap64; omega
  have d2 : decide ((n : Int) < o.items.length) = true := decide_eq_true (by omega)
  have H := Aside0.mk h
  have HL := Aside0.mk hL
  have HO := Aside0.mk ho
  clear h hL ho
  go_enter Tryd.func42, Tryd.ntmps42
  go_wp2
  go_quiet (fail)
  rename_i nq
  go_upto_region 3 with (fail)
  have HW0 := Aside0.mk (H.out.drewN nq)
  have HB0 := Aside0.mk (pw_below_drewN (Below.refl B w) nq)
  generalize w.drewN nq = W0 at *
  clear x7 p1 pf1 xf7
  obtain ⟨x7, p1, pf1, xf7⟩ := HW0.out.sized2 HL.out HO.out eiv
  go_still_tail 14, (by kernel_rfl)
  change wpList _ _ _ _ _ (World.drew W0)
  have HW := Aside0.mk HW0.out.drew
  have HB := Aside0.mk (below_drew1 HB0.out)
  generalize World.drew W0 = W at *
  clear x7 p1 pf1 xf7 HW0 HB0
  obtain ⟨x7, p1, pf1, xf7⟩ := HW.out.sized2 HL.out HO.out eiv
  go_upto_region 4 with (fail)
  have HW2 := Aside0.mk (HW.out.setLeft (σ.left - (n - o.items.length)))
  have HB2 := Aside0.mk (HB.out.setCell (p := ⟨p, 1, none⟩) (H.out.low p mem_feet_top) (.int .i64 (σ.left - (n - o.items.length))))
  generalize W.setCell ⟨p, 1, none⟩ (.int .i64 (σ.left - (n - o.items.length))) = W2 at *
  clear x7 p1 pf1 xf7 HW HB
  obtain ⟨x7, p1, pf1, xf7⟩ := HW2.out.sized2 HL.out HO.out eiv
  have HIT := Aside0.mk (HW2.out.objs _ _ _ HL.out HO.out).items
  have hle : o.items.length ≤ c := own_le (by rw [← eiv]; exact HIT.out)
  have q1 : ((n : Int) ≤ (c : Int)) = True := eq_true (by omega)
  have q2 : (n ≤ c) = True := eq_true (by omega)
  have q3 : ((0 : Int) ≤ (n : Int)) = True := eq_true (by omega)
  rcases vals_own HIT.out with ⟨e0, e1⟩ | ⟨ad, c4, e0, hr⟩
  · rw [e1] at hcut; simp at hcut
  · rw [eiv] at e0
    injection e0 with e1 e2 e3
    subst e1 e3
    have htl : (o.items.take n).length = n := by rw [List.length_take]; omega
    have HV := Aside0.mk (fun c => clone_calls (w := W2) (v := .slice (some ad) n c) (its := o.items.take n) (.inr ⟨ad, c, by rw [htl], fun j u hj => hr j u (by
      have hjl : j < n * 4 := by have := (List.getElem?_eq_some_iff.1 hj).1; rw [vs_len, htl] at this; exact this
      have hsp : o.items.flatMap Val.vs = (o.items.take n).flatMap Val.vs ++ (o.items.drop n).flatMap Val.vs := by rw [← List.flatMap_append, List.take_append_drop]
      rw [hsp, List.getElem?_append_left (by rw [vs_len, htl]; exact hjl)]
      exact hj)⟩) (by rw [htl]; omega))
    have hBW2 := HW2.out.base
    have HLB := Aside0.mk (HW2.out.feet_lt _ (mem_feet_lay (List.mem_of_getElem? HL.out) mem_ob))
    have HSZ := Aside0.mk hBW2
    have HTL := Aside0.mk htl
    clear hr htl hBW2
    go_wp2_with (go_at_call 39; go_must (refine (HV.out _).mono ?_; rintro e w5 ⟨iv, rfl, hown, hb⟩; rw [HTL.out] at hown; obtain ⟨A5, c5, rfl⟩ := own_slice hown; have x7b : w5.cell? ⟨L.ob, 7, none⟩ = some (.slice (some ad) o.items.length c) := (World.cell?_of_block (a := ⟨L.ob, 7, none⟩) (hb.block L.ob HLB.out)).trans x7; have xf7b : w5.frozen? ⟨L.ob, 7, none⟩ = false := (World.frozen?_of_block (a := ⟨L.ob, 7, none⟩) (hb.block L.ob HLB.out)).trans xf7; have HO5 := Aside0.mk hown; have HB5 := Aside0.mk hb; clear hown hb x7 xf7))
    go_ret
    have hown := HO5.out
    have hown2 := own_less hown HSZ.out
    refine ⟨rfl, (HB2.out.trans (HB5.out.mono HSZ.out)).setCell (p := ⟨L.ob, 7, none⟩) (HW2.out.low _ (mem_feet_lay (List.mem_of_getElem? HL.out) mem_ob)) _, .slice A5 n c5, ?_⟩
    exact HW2.out.itemed HL.out HO.out (o.items.take n) (.slice A5 n c5) (by rw [HTL.out]; exact hown2) (fun b hb _ => HB5.out.block b hb) (fun b hb => .inr (own_base hown b hb))
set_option maxHeartbeats 4000000 in
set_option maxRecDepth 100000 in
theorem resize_grow {w : World} {B p : Nat} {K : List (Nat × Obj)} {σ : HSt} {ov : Value} {Ls : List Lay} (h : HeapAt w B K p σ ov Ls) {i : Nat} {L : Lay} {o : OSt} (hL : Ls[i]? = some L) (ho : σ.objs[i]? = some o) (n : Nat) (hi : o.items.length ≤ 100000) (hl0 : 0 ≤ σ.left) (hl1 : σ.left ≤ 10000)
    (hcut : o.items.length ≤ n) (hroom : (n : Int) - o.items.length ≤ σ.left) : Calls Tryd.prog 42 #[.pointer (some ⟨p, 0, none⟩), .pointer (some ⟨L.ob, 0, none⟩), .int .i64 n] w fun e w' => e = .returned (.int .i64 0) ∧ Below B w w' ∧
      ∃ v1, HeapAt w' B K p ⟨σ.objs.set i { o with items := o.items ++ List.replicate (n - o.items.length) Val.zero }, σ.left - (n - o.items.length)⟩ ov (Ls.set i { L with iv := v1 }) := by
  obtain ⟨A, c, eiv, x7, p1, pf1, xf7, hne⟩ := h.sized hL ho
  have hw : IntKind.i64.wrap ((n : Int) - (o.items.length : Int)) = n - o.items.length := by rw [IntKind.wrap_i64]; omega
  have d1 : decide (σ.left < (n : Int) - o.items.length) = false := decide_eq_false (by omega)
  have hw2 : wrap64 ((n : Int) - (o.items.length : Int)) = n - o.items.length := by unfold wrap64; omega
  have hw3 : IntKind.i64.wrap (σ.left - ((n : Int) - (o.items.length : Int))) = σ.left - (n - o.items.length) := by rw [IntKind.wrap_i64]; omega
  have hw4 : wrap64 (σ.left - ((n : Int) - (o.items.length : Int))) = σ.left - (n - o.items.length) := by unfold wrap64; omega
  have d2 : decide ((n : Int) < o.items.length) = false := decide_eq_false (by omega)
  have hn : ((n - o.items.length : Nat) : Int) = (n : Int) - o.items.length := by omega
  have H := Aside0.mk h
  have HL := Aside0.mk hL
  have HO := Aside0.mk ho
  clear h hL ho
  go_enter Tryd.func42, Tryd.ntmps42
  go_wp2
  go_quiet (fail)
  rename_i nq
  go_upto_region 3 with (fail)
  have HW0 := Aside0.mk (H.out.drewN nq)
  have HB0 := Aside0.mk (pw_below_drewN (Below.refl B w) nq)
  generalize w.drewN nq = W0 at *
  clear x7 p1 pf1 xf7
  obtain ⟨x7, p1, pf1, xf7⟩ := HW0.out.sized2 HL.out HO.out eiv
  go_still_tail 14, (by kernel_rfl)
  change wpList _ _ _ _ _ (World.drew W0)
  have HW := Aside0.mk HW0.out.drew
  have HB := Aside0.mk (below_drew1 HB0.out)
  generalize World.drew W0 = W at *
  clear x7 p1 pf1 xf7 HW0 HB0
  obtain ⟨x7, p1, pf1, xf7⟩ := HW.out.sized2 HL.out HO.out eiv
  go_upto_region 4 with (fail)
  have HW2 := Aside0.mk (HW.out.setLeft (σ.left - (n - o.items.length)))
  have HB2 := Aside0.mk (HB.out.setCell (p := ⟨p, 1, none⟩) (H.out.low p mem_feet_top) (.int .i64 (σ.left - (n - o.items.length))))
  generalize W.setCell ⟨p, 1, none⟩ (.int .i64 (σ.left - (n - o.items.length))) = W2 at *
  clear x7 p1 pf1 xf7 HW HB
  obtain ⟨x7, p1, pf1, xf7⟩ := HW2.out.sized2 HL.out HO.out eiv
  go_upto_region 7 with (fail)
  have HW5 := Aside0.mk HW2.out.drew
  have HB5 := Aside0.mk (below_drew1 HB2.out)
  have hnd := Lay.nd (HW5.out.lay_nd (List.mem_of_getElem? HL.out))
  have hit := (HW5.out.objs _ _ _ HL.out HO.out).items
  obtain ⟨v1, w1, hr, hown, hg, hat⟩ := run_append_zeros W2.drew B 30 L.iv o.items (n - o.items.length) hit (by omega) HW5.out.base
  have hsum : o.items.length + (n - o.items.length) = n := by omega
  rw [eiv, hn] at hr
  rw [hsum] at hown
  have hob : L.ob < W2.drew.heap.size := HW5.out.feet_lt _ (mem_feet_lay (List.mem_of_getElem? HL.out) mem_ob)
  have hgb : w1.heap[L.ob]? = W2.drew.heap[L.ob]? := hg.block L.ob hob (fun e => (hnd.2.2.1 _ e.symm).1 rfl)
  have x7b : w1.cell? ⟨L.ob, 7, none⟩ = some (.slice A o.items.length c) := (World.cell?_of_block (a := ⟨L.ob, 7, none⟩) hgb).trans x7
  have xf7b : w1.frozen? ⟨L.ob, 7, none⟩ = false := (World.frozen?_of_block (a := ⟨L.ob, 7, none⟩) hgb).trans xf7
  obtain ⟨A6, c6, rfl⟩ := own_slice hown
  have HR := Aside0.mk hr
  have HOwn := Aside0.mk hown
  have HG := Aside0.mk hg
  have HAT := Aside0.mk hat
  clear hr hown hg hat hit hnd hob hgb p1 pf1 xf7
  go_region_law (refine step_append_run rfl (.tmp 54) (.tmp 61) 30 3 rfl _ _ rfl rfl _ _ HR.out ?_)
  all_goals go_wp2
  all_goals go_ret
  all_goals
    have el : (o.items ++ List.replicate (n - o.items.length) Val.zero).length = n := by rw [List.length_append, List.length_replicate]; omega
    have hblk : ∀ b, b < W2.drew.heap.size → some b ≠ L.iv.ownBlock → w1.heap[b]? = W2.drew.heap[b]? := fun b hb hne => HG.out.block b hb hne
    have hHt := HW5.out.itemed HL.out HO.out (o.items ++ List.replicate (n - o.items.length) Val.zero) (.slice A6 n c6) (by rw [el]; exact HOwn.out) hblk (fun b hb => by
      rcases HAT.out with e | e
      · exact .inl (by rw [← e]; exact hb)
      · rw [hb] at e
        exact .inr (by rw [Option.some.inj e]; exact Nat.le_refl _))
    refine ⟨rfl, ?_, _, hHt⟩
    exact (HB5.out.grown HG.out HW5.out.base (fun k hk => own_base (HW5.out.objs _ _ _ HL.out HO.out).items k hk)).setCell (p := ⟨L.ob, 7, none⟩) (HW5.out.low _ (mem_feet_lay (List.mem_of_getElem? HL.out) mem_ob)) _
end Go.Proofs.YtnfobcedbfbbiaaDoor.Hp
