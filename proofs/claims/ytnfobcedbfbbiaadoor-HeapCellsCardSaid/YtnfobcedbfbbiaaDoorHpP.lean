/- Function, Set, Kind, Proto, Code; Array out of any slice that can be read. -/
import Derived.Test.YtnfobcedbfbbiaaDoorSh0
namespace Go.Proofs.YtnfobcedbfbbiaaDoor.Hp
open Go.RowKit Go.Proofs.YtnfobcedbfbbiaaDoorW.PrintWords Go.Proofs.YtnfobcedbfbbiaaDoorW.PrintLast Go.Proofs.YtnfobcedbfbbiaaDoorW.PrintMore Go.Proofs.YtnfobcedbfbbiaaDoor.Hand Go.Proofs.YtnfobcedbfbbiaaDoor.PIx Go.Proofs.YtnfobcedbfbbiaaDoor.Pure
set_option linter.unusedVariables false
set_option linter.unusedSimpArgs false
def funcS (σ : HSt) (a b sc : Int) : Int × Int × HSt := if sc ≠ -1 ∧ ¬ Has σ sc then (0, 3, σ) else addS σ ⟨3, -1, a, b, sc, [], [], []⟩ 1
theorem func_calls {w : World} {B p : Nat} {K : List (Nat × Obj)} {σ : HSt} (hok : HeapOk w B K p σ) (hf : Fit σ) (a b sc : Int) :
    Calls Tryd.prog 48 #[.pointer (some ⟨p, 0, none⟩), .int .i64 a, .int .i64 b, .int .i64 sc] w (Left B K p (.tuple #[.int .i64 (funcS σ a b sc).1, .int .i64 (funcS σ a b sc).2.1]) (funcS σ a b sc).2.2 w) := by
  obtain ⟨ov, Ls, h⟩ := hok
  have hl := h.len
  have hn : Ls.length ≤ 100000 := by have := hf.objs; omega
  have HA := Aside0.mk (add_new h hf 3 (-1) a b sc)
  by_cases c1 : sc = -1
  · have d1 : (sc == -1) = true := beq_iff_eq.mpr c1
    have d2 : (sc != -1) = false := bne_eq_false_iff_eq.mpr c1
    have e : funcS σ a b sc = addS σ ⟨3, -1, a, b, sc, [], [], []⟩ 1 := by unfold funcS; rw [if_neg (fun hh => hh.1 c1)]
    rw [e]
    generalize addS σ ⟨3, -1, a, b, sc, [], [], []⟩ 1 = R at *
    obtain ⟨r1, r2, σ'⟩ := R
    clear h hl hn hf e c1
    go_enter Tryd.func48, Tryd.ntmps48
    go_wp2_with (go_at_call 38; refine (HA.out).mono ?_; rintro e w' ⟨rfl, hb, hok⟩)
    go_ret2
    exact ⟨rfl, hb, hok⟩
  · have d1 : (sc == -1) = false := beq_eq_false_iff_ne.mpr c1
    have d2 : (sc != -1) = true := bne_iff_ne.mpr c1
    by_cases c2 : Has σ sc
    · have e : funcS σ a b sc = addS σ ⟨3, -1, a, b, sc, [], [], []⟩ 1 := by unfold funcS; rw [if_neg (fun hh => hh.2 c2)]
      rw [e]
      generalize addS σ ⟨3, -1, a, b, sc, [], [], []⟩ 1 = R at *
      obtain ⟨r1, r2, σ'⟩ := R
      have hlt : sc.toNat < Ls.length := by have := c2.1; have := c2.2; omega
      have HC := Aside0.mk (at_obj h hn sc c2.1 (List.getElem?_eq_getElem hlt))
      clear h hl hn hf e c1 c2
      go_enter Tryd.func48, Tryd.ntmps48
      go_wp2_with (first | (go_at_call 40; refine (HC.out).mono ?_; rintro e w' ⟨rfl, rfl⟩) | (go_at_call 38; refine (HA.out).mono ?_; rintro e w' ⟨rfl, hb, hok⟩))
      go_ret2
      exact ⟨rfl, hb, hok⟩
    · have e : funcS σ a b sc = (0, 3, σ) := by unfold funcS; rw [if_pos ⟨c1, c2⟩]
      rw [e]
      have HC := Aside0.mk (at_nil h hn sc (by rw [hl]; exact c2))
      have HFin := Aside0.mk (fun w' hb => Left.same (v := .tuple #[.int .i64 0, .int .i64 3]) (w' := w') h hb)
      clear h hl hn hf e c1 c2
      go_enter Tryd.func48, Tryd.ntmps48
      go_wp2_with (go_at_call 40; refine (HC.out).mono ?_; rintro e w' ⟨rfl, rfl⟩)
      go_ret2
      exact HFin.out _ (Below.refl _ _)
/-- Kind, Proto: some number; nothing is touched. -/
theorem kind_calls {w : World} {B p : Nat} {K : List (Nat × Obj)} {σ : HSt} (hok : HeapOk w B K p σ) (hf : Fit σ) (i : Int) :
    Calls Tryd.prog 50 #[.pointer (some ⟨p, 0, none⟩), .int .i64 i] w fun e w' => (∃ k, e = .returned (.int .i64 k)) ∧ w' = w := by
  obtain ⟨ov, Ls, h⟩ := hok
  cases ho : objS σ i with
  | none =>
    have HC := Aside0.mk (at_nil h (by have := hf.objs; have := h.len; omega) i (by rw [h.len]; exact objS_none ho))
    clear h hf ho
    go_enter Tryd.func50, Tryd.ntmps50
    go_wp2_with (go_at_call 40; refine (HC.out).mono ?_; rintro e w' ⟨rfl, rfl⟩)
    go_ret
    exact ⟨⟨_, rfl⟩, rfl⟩
  | some o =>
    obtain ⟨L, hL, h0, hobj⟩ := h.obj ho
    have HC := Aside0.mk (at_obj h (by have := hf.objs; have := h.len; omega) i h0 hL)
    obtain ⟨x0, x1, x5, x6, x7⟩ := hobj.cell
    clear h hf ho hL h0 hobj x1 x5 x6 x7
    go_enter Tryd.func50, Tryd.ntmps50
    go_wp2_with (go_at_call 40; refine (HC.out).mono ?_; rintro e w' ⟨rfl, rfl⟩)
    go_ret
    exact ⟨⟨_, rfl⟩, rfl⟩
theorem proto_calls {w : World} {B p : Nat} {K : List (Nat × Obj)} {σ : HSt} (hok : HeapOk w B K p σ) (hf : Fit σ) (i : Int) :
    Calls Tryd.prog 51 #[.pointer (some ⟨p, 0, none⟩), .int .i64 i] w fun e w' => (∃ k, e = .returned (.int .i64 k)) ∧ w' = w := by
  obtain ⟨ov, Ls, h⟩ := hok
  cases ho : objS σ i with
  | none =>
    have HC := Aside0.mk (at_nil h (by have := hf.objs; have := h.len; omega) i (by rw [h.len]; exact objS_none ho))
    clear h hf ho
    go_enter Tryd.func51, Tryd.ntmps51
    go_wp2_with (go_at_call 40; refine (HC.out).mono ?_; rintro e w' ⟨rfl, rfl⟩)
    go_ret
    exact ⟨⟨_, rfl⟩, rfl⟩
  | some o =>
    obtain ⟨L, hL, h0, hobj⟩ := h.obj ho
    have HC := Aside0.mk (at_obj h (by have := hf.objs; have := h.len; omega) i h0 hL)
    obtain ⟨x0, x1, x5, x6, x7⟩ := hobj.cell
    clear h hf ho hL h0 hobj x0 x5 x6 x7
    go_enter Tryd.func51, Tryd.ntmps51
    go_wp2_with (go_at_call 40; refine (HC.out).mono ?_; rintro e w' ⟨rfl, rfl⟩)
    go_ret
    exact ⟨⟨_, rfl⟩, rfl⟩
/-- Set. -/
noncomputable def setH (σ : HSt) (i : Int) (key : ByteArray) (v : Val) : Bool × Int × HSt :=
  if Has σ i then (if holderS σ i key < 0 then (false, 0, σ) else (true, putH σ (holderS σ i key) key v)) else (false, 3, σ)
set_option maxHeartbeats 1000000 in
theorem set_calls {w : World} {B p : Nat} {K : List (Nat × Obj)} {σ : HSt} (hok : HeapOk w B K p σ) (hf : Fine σ) (hd : Desc σ) (i : Int) (key : ByteArray) (v : Val) (hks : key.size ≤ 140737488351232) (hts : v.text.size ≤ 140737488351232) :
    Calls Tryd.prog 49 #[.pointer (some ⟨p, 0, none⟩), .int .i64 i, .string key, v.agg] w (Left B K p (.tuple #[.bool (setH σ i key v).1, .int .i64 (setH σ i key v).2.1]) (setH σ i key v).2.2 w) := by
  have h1 := hok.boxed (VBox v)
  have hbase : B ≤ w.heap.size := hok.base
  have hb1 := (Below.refl B w).alloc hbase (VBox v)
  have hh := hok
  obtain ⟨ov, Ls, h⟩ := hh
  have hal := h.alloc (VBox v)
  unfold setH
  by_cases c1 : Has σ i
  · rw [if_pos c1]
    have hlt : i.toNat < Ls.length := by have := c1.1; have := c1.2; have := h.len; omega
    obtain ⟨LL, hLL⟩ : ∃ LL, Ls[i.toNat]? = some LL := ⟨_, List.getElem?_eq_getElem hlt⟩
    have HC := Aside0.mk (at_obj hal (by have := hf.fit.objs; have := h.len; omega) i c1.1 hLL)
    clear hLL
    have HH := Aside0.mk (holder_calls h1 hf.fit hd i key hks hf.items)
    obtain ⟨y0, y1, y2, y3⟩ := h1.box (b := w.heap.size) (v := v) List.mem_cons_self
    unfold VBox at HC HH y0 y1 y2 y3 h1 hb1
    by_cases c2 : holderS σ i key < 0
    · rw [if_pos c2]
      have d2 : decide (holderS σ i key < 0) = true := decide_eq_true c2
      have OK := Aside0.mk hok
      have BB := Aside0.mk hb1
      clear h hal hok h1 hb1 c1 c2 hlt hf hd
      go_enter Tryd.func49, Tryd.ntmps49
      go_wp2_with (first | (go_at_call 40; refine (HC.out).mono ?_; rintro e w' ⟨rfl, hw⟩; subst w') | (go_at_call 44; refine (HH.out).mono ?_; rintro e w4 ⟨rfl, hb⟩; have HB4 := Aside0.mk hb; clear hb))
      go_ret2
      have hfin := below_step ((Below.refl w.heap.size w).alloc (Nat.le_refl _) _) HB4.out
      exact ⟨rfl, hfin.mono hbase, OK.out.below hfin⟩
    · rw [if_neg c2]
      have d2 : decide (holderS σ i key < 0) = false := decide_eq_false c2
      have PC := fun W (hW : HeapOk W B ((w.heap.size, VBox v) :: K) p σ) => Aside0.mk (put_calls hW hf (holderS σ i key) key v hks hts)
      have OK := Aside0.mk h1
      have BB := Aside0.mk hb1
      generalize holderS σ i key = k at *
      clear h hal hok h1 hb1 c1 c2 hlt hf hd
      generalize putH σ k key v = R at *
      obtain ⟨r1, σ'⟩ := R
      unfold VBox at PC
      go_enter Tryd.func49, Tryd.ntmps49
      go_upto_region 4 with (first | (go_at_call 40; refine (HC.out).mono ?_; rintro e w' ⟨rfl, hw⟩; subst w') | (go_at_call 44; refine (HH.out).mono ?_; rintro e w4 ⟨rfl, hb⟩; have OK4 := Aside0.mk (OK.out.below hb); have BB4 := Aside0.mk (BB.out.trans (hb.mono OK.out.base)); clear hb))
      clear y0 y1 y2 y3
      obtain ⟨y0, y1, y2, y3⟩ := OK4.out.box (b := w.heap.size) (v := v) List.mem_cons_self
      go_wp2_with (go_at_call 16; go_must (refine ((PC _ OK4.out).out).mono ?_; rintro e w5 ⟨rfl, hb, ok⟩))
      go_ret2
      exact ⟨rfl, BB4.out.trans hb, ok.less (fun x hx => List.mem_cons_of_mem _ hx)⟩
  · rw [if_neg c1]
    have HC := Aside0.mk (at_nil hal (by have := hf.fit.objs; have := h.len; omega) i (by rw [h.len]; exact c1))
    unfold VBox at HC
    have OK := Aside0.mk hok
    clear h hal hok h1 hb1 c1 hf hd
    go_enter Tryd.func49, Tryd.ntmps49
    go_wp2_with (go_at_call 40; refine (HC.out).mono ?_; rintro e w' ⟨rfl, hw⟩; subst w')
    go_ret2
    have hfin := (Below.refl w.heap.size w).alloc (Nat.le_refl _) (VBox v)
    exact ⟨rfl, hfin.mono hbase, OK.out.below hfin⟩
end Go.Proofs.YtnfobcedbfbbiaaDoor.Hp
namespace Go.Proofs.YtnfobcedbfbbiaaDoor.Hp
open Go.RowKit Go.Proofs.YtnfobcedbfbbiaaDoorW.PrintWords Go.Proofs.YtnfobcedbfbbiaaDoorW.PrintLast Go.Proofs.YtnfobcedbfbbiaaDoorW.PrintMore Go.Proofs.YtnfobcedbfbbiaaDoor.Hand Go.Proofs.YtnfobcedbfbbiaaDoor.PIx Go.Proofs.YtnfobcedbfbbiaaDoor.Pure
set_option linter.unusedVariables false
set_option linter.unusedSimpArgs false
theorem HeapAt.codes {w : World} {B p : Nat} {K : List (Nat × Obj)} {σ : HSt} {ov : Value} {Ls : List Lay} (h : HeapAt w B K p σ ov Ls) {i : Nat} {L : Lay} {o : OSt} (hL : Ls[i]? = some L) (ho : σ.objs[i]? = some o) :
    w.cell? ⟨L.ob, 0, none⟩ = some (.int .i64 o.kind) ∧ w.cell? ⟨L.ob, 2, none⟩ = some (.int .i64 o.a) ∧ w.cell? ⟨L.ob, 3, none⟩ = some (.int .i64 o.b) ∧ w.cell? ⟨L.ob, 4, none⟩ = some (.int .i64 o.scope) := by
  have hb := (h.objs _ _ _ hL ho).block
  exact ⟨(cell_in hb).trans rfl, (cell_in hb).trans rfl, (cell_in hb).trans rfl, (cell_in hb).trans rfl⟩
set_option maxHeartbeats 1000000 in
set_option maxRecDepth 100000 in
theorem code_calls {w : World} {B p : Nat} {K : List (Nat × Obj)} {σ : HSt} (hok : HeapOk w B K p σ) (hf : Fit σ) (i : Int) :
    Calls Tryd.prog 52 #[.pointer (some ⟨p, 0, none⟩), .int .i64 i] w fun e w' => (∃ a b c q, e = .returned (.tuple #[.int .i64 a, .int .i64 b, .int .i64 c, .bool q])) ∧ ∃ n, w' = w.drewN n := by
  obtain ⟨ov, Ls, h⟩ := hok
  cases ho : objS σ i with
  | none =>
    have HC := Aside0.mk (at_nil h (by have := hf.objs; have := h.len; omega) i (by rw [h.len]; exact objS_none ho))
    clear h hf ho
    go_enter Tryd.func52, Tryd.ntmps52
    go_wp2_with (go_at_call 40; refine (HC.out).mono ?_; rintro e w' ⟨rfl, rfl⟩)
    exact bodyPost_ret (v := .tuple #[.int .i64 0, .int .i64 0, .int .i64 0, .bool false]) (by simp [results, Tryd.results52]) rfl ⟨⟨_, _, _, _, rfl⟩, 0, rfl⟩
  | some o =>
    obtain ⟨L, hL, h0, hobj⟩ := h.obj ho
    have HC := Aside0.mk (at_obj h (by have := hf.objs; have := h.len; omega) i h0 hL)
    obtain ⟨x0, x2, x3, x4⟩ := h.codes hL (objS_some ho).2.2
    by_cases c1 : o.kind = 3
    · have d1 : (o.kind != 3) = false := bne_eq_false_iff_eq.mpr c1
      clear h hf ho hL h0 hobj c1
      go_enter Tryd.func52, Tryd.ntmps52
      go_wp2_with (go_at_call 40; refine (HC.out).mono ?_; rintro e w' ⟨rfl, rfl⟩)
      go_quiet (fail)
      rename_i nq
      go_wp2
      exact bodyPost_ret (v := .tuple #[.int .i64 o.a, .int .i64 o.b, .int .i64 o.scope, .bool true]) (by simp [results, Tryd.results52]) rfl ⟨⟨_, _, _, _, rfl⟩, nq, rfl⟩
    · have d1 : (o.kind != 3) = true := bne_iff_ne.mpr c1
      clear h hf ho hL h0 hobj c1
      go_enter Tryd.func52, Tryd.ntmps52
      go_wp2_with (go_at_call 40; refine (HC.out).mono ?_; rintro e w' ⟨rfl, rfl⟩)
      exact bodyPost_ret (v := .tuple #[.int .i64 0, .int .i64 0, .int .i64 0, .bool false]) (by simp [results, Tryd.results52]) rfl ⟨⟨_, _, _, _, rfl⟩, 0, rfl⟩
theorem cell_spot {w : World} {b o : Nat} {sp : Option Nat} {v : Value} (h : w.cell? ⟨b, o, sp⟩ = some v) : sp = none := by
  cases sp with
  | none => rfl
  | some x =>
    unfold World.cell? at h
    split at h <;> simp at h
theorem add_none (b o j : Nat) : (⟨b, o, none⟩ : Addr).add j = ⟨b, o + j, none⟩ := by unfold Addr.add; split <;> simp_all
/-- The items of a slice that came in: each of its cells. -/
theorem Vals.at {w : World} {v : Value} {its : List Val} (h : Vals w v its) {n : Nat} {x : Val} (hx : its[n]? = some x) :
    ∃ b o c, v = .slice (some ⟨b, o, none⟩) its.length c ∧ w.cell? ⟨b, o + n * 4, none⟩ = some (.int .i64 x.kind) ∧ w.cell? ⟨b, o + n * 4 + 1, none⟩ = some (.float .f64 x.num) ∧ w.cell? ⟨b, o + n * 4 + 2, none⟩ = some (.string x.text) ∧ w.cell? ⟨b, o + n * 4 + 3, none⟩ = some (.int .i64 x.ref) := by
  rcases h with ⟨rfl, rfl⟩ | ⟨ad, c, rfl, hr⟩
  · simp at hx
  · obtain ⟨b, o, sp⟩ := ad
    have h0 : (its.flatMap Val.vs)[0]? = some ((its.flatMap Val.vs)[0]'(by rw [vs_len]; have := (List.getElem?_eq_some_iff.1 hx).1; omega)) := List.getElem?_eq_getElem _
    have hc := hr 0 _ h0
    obtain rfl : sp = none := cell_spot (show w.cell? ⟨b, o, sp⟩ = some _ from hc)
    simp only [add_none] at hr
    refine ⟨b, o, c, rfl, ?_, ?_, ?_, ?_⟩
    · have := flat_at its n 0 x hx (by decide); exact hr _ _ (by rw [Nat.add_zero] at this; exact this)
    · exact hr _ _ (flat_at its n 1 x hx (by decide))
    · exact hr _ _ (flat_at its n 2 x hx (by decide))
    · exact hr _ _ (flat_at its n 3 x hx (by decide))
theorem Vals.below {w w' : World} {v : Value} {its : List Val} (h : Vals w v its) (hb : Below w.heap.size w w') : Vals w' v its := by
  rcases h with h | ⟨ad, c, rfl, hr⟩
  · exact .inl h
  · refine .inr ⟨ad, c, rfl, fun j u hj => ?_⟩
    have := hr j u hj
    have hl := World.block_lt_of_cell? w _ this
    exact (hb.cell hl).trans this
theorem Vals.slice {w : World} {v : Value} {its : List Val} (h : Vals w v its) : ∃ A c, v = .slice A its.length c := by
  rcases h with ⟨rfl, rfl⟩ | ⟨ad, c, rfl, _⟩
  · exact ⟨none, 0, rfl⟩
  · exact ⟨_, _, rfl⟩
end Go.Proofs.YtnfobcedbfbbiaaDoor.Hp
namespace Go.Proofs.YtnfobcedbfbbiaaDoor.Hp
open Go.RowKit Go.Proofs.YtnfobcedbfbbiaaDoorW.PrintWords Go.Proofs.YtnfobcedbfbbiaaDoorW.PrintLast Go.Proofs.YtnfobcedbfbbiaaDoorW.PrintMore Go.Proofs.YtnfobcedbfbbiaaDoor.Hand Go.Proofs.YtnfobcedbfbbiaaDoor.PIx Go.Proofs.YtnfobcedbfbbiaaDoor.Pure
set_option linter.unusedVariables false
set_option linter.unusedSimpArgs false
set_option maxHeartbeats 4000000 in
theorem right_4x {w : World} {p : Nat} (num : Nat) (text : ByteArray) (ref : Int) :
    Calls Tryd.prog 37 #[.pointer (some ⟨p, 0, none⟩), (⟨4, num, text, ref⟩ : Val).agg] w fun e w' => e = .returned (.bool (sameV num 0 && decide (ref = 0) && decide (text.size % 2 = 0))) ∧ Below w.heap.size w w' := by
  have HS := fun w => Aside0.mk (same_calls num 0 w)
  generalize sameV num 0 = s at *
  obtain ⟨r, hr⟩ : ∃ r, (ref == 0) = r := ⟨_, rfl⟩
  have hr2 : decide (ref = 0) = r := by rw [← hr]; rfl
  obtain ⟨u, hu⟩ : ∃ u, decide (text.size % 2 = 0) = u := ⟨_, rfl⟩
  have hu2 : ((text.size : Int) % 2 == 0) = u := by rw [← hu, Bool.eq_iff_iff]; simp; omega
  rw [hr2, hu]
  clear hr2 hu
  cases s <;> cases r <;> cases u
  all_goals
    go_enter Tryd.func37, Tryd.ntmps37
    go_wp2_with (go_at_call 57; refine ((HS _).out).mono ?_; rintro e w' ⟨rfl, rfl⟩)
    go_ret
    exact ⟨rfl, by repeat (first | exact Below.refl _ _ | apply below_alloc | apply pw_below_drewN | apply below_drew1)⟩
theorem right_any {w : World} {B p : Nat} {K : List (Nat × Obj)} {σ : HSt} {ov : Value} {Ls : List Lay} (h : HeapAt w B K p σ ov Ls) (hn : σ.objs.length ≤ 100000) (v : Val) :
    Calls Tryd.prog 37 #[.pointer (some ⟨p, 0, none⟩), v.agg] w fun e w' => e = .returned (.bool (rightV σ.objs.length v)) ∧ Below w.heap.size w w' := by
  by_cases c : v.kind = 4
  · obtain ⟨k, num, text, ref⟩ := v
    simp only at c
    subst c
    exact right_4x num text ref
  · obtain ⟨k, num, text, ref⟩ := v
    simp only at c
    unfold rightV bareV
    simp only
    rcases kinds_of (k := k) with h1 | ⟨h0, h1, h2, h3, h4, h5, h6⟩
    · rcases h1 with rfl | rfl | rfl | rfl | rfl | rfl | rfl
      · exact right_01 0 (.inl rfl) num text ref
      · exact right_01 1 (.inr rfl) num text ref
      · exact right_2 num text ref
      · exact right_3 num text ref
      · exact absurd rfl c
      · exact right_56 h hn 5 (.inl rfl) num text ref
      · exact right_56 h hn 6 (.inr rfl) num text ref
    · rw [if_neg (by omega), if_neg h2, if_neg h3, if_neg h4, if_neg (by omega)]
      exact right_no k h0 h1 h2 h3 h4 h5 h6 num text ref
def arrS (σ : HSt) (its : List Val) : Int × Int × HSt := if its.all (rightV σ.objs.length) = true then addS σ ⟨2, -1, 0, 0, 0, [], [], its⟩ (1 + its.length) else (0, 1, σ)
set_option maxHeartbeats 4000000 in
set_option maxRecDepth 100000 in
theorem arr_calls {w : World} {B p : Nat} {K : List (Nat × Obj)} {σ : HSt} (hok : HeapOk w B K p σ) (hf : Fit σ) (v : Value) (its : List Val) (hv : Vals w v its) (hl : its.length ≤ 10000) :
    Calls Tryd.prog 15 #[.pointer (some ⟨p, 0, none⟩), v] w (Left B K p (.tuple #[.int .i64 (arrS σ its).1, .int .i64 (arrS σ its).2.1]) (arrS σ its).2.2 w) := by
  obtain ⟨ov, Ls, h⟩ := hok
  obtain ⟨A, c, hvv⟩ := hv.slice
  subst hvv
  have H := Aside0.mk h
  have HF := Aside0.mk hf
  have HV := Aside0.mk hv
  have HLn := Aside0.mk hl
  have HB := Aside0.mk (Below.refl w.heap.size w)
  have HLen := Aside0.mk (show σ.objs.length ≤ 100000 by have := hf.objs; omega)
  clear h hf hv hl
  go_enter Tryd.func15, Tryd.ntmps15
  go_wp2
  go_loopg [10] (its.length + 1) (fun kq v10 w' => ∃ k : Nat, v10 = .int .i64 k ∧ Aside0 (k + kq = its.length + 1 ∧ k ≤ its.length) ∧ Aside0 (Below w.heap.size w w') ∧ Aside0 (∀ j x, j < k → its[j]? = some x → rightV σ.objs.length x = true))
  case atStart => exact ⟨0, rfl, ⟨by omega, by omega⟩, HB, ⟨fun j x hj => absurd hj (Nat.not_lt_zero _)⟩⟩
  case round =>
    clear HB
    obtain ⟨k, rfl, HK, HB, HALL⟩ := hrel
    have h1 := H.out.below HB.out
    have hv1 := HV.out.below HB.out
    by_cases c1 : k < its.length
    · have d1 : decide ((k : Int) < (its.length : Int)) = true := decide_eq_true (by omega)
      have hx := List.getElem?_eq_getElem c1
      generalize its[k] = x at *
      obtain ⟨ab, ao, cc, e0, y0, y1, y2, y3⟩ := hv1.at hx
      have HX := Aside0.mk hx
      injection e0 with e1 e2 e3
      subst e1
      have HRx := Aside0.mk (right_any (h1.alloc (.cells #[.int .i64 x.kind, .float .f64 x.num, .string x.text, .int .i64 x.ref] 33)) HLen.out x)
      have HBx := Aside0.mk (HB.out.alloc HB.out.size (.cells #[.int .i64 x.kind, .float .f64 x.num, .string x.text, .int .i64 x.ref] 33))
      have HC1 := Aside0.mk c1
      cases gk with
      | zero => exact absurd HK.out (by omega)
      | succ k1 =>
        cases hr : rightV σ.objs.length x with
        | true =>
          rw [hr] at HRx
          have HR := Aside0.mk hr
          clear h1 hv1 hx e2 e3 HB hr
          go_wp2_with (go_at_call 37; go_must (refine (HRx.out).mono ?_; rintro e w5 ⟨rfl, hb⟩; have HB5 := Aside0.mk (below_step HBx.out hb); clear hb HRx))
          go_roundg k1
          case measure => have := HK.out; omega
          case rel => exact ⟨k + 1, by rw [show wrap64 ((k : Int) + 1) = ((k + 1 : Nat) : Int) by have := HLn.out; have := HC1.out; unfold wrap64; omega], ⟨by have := HK.out; omega, by have := HC1.out; omega⟩, HB5, ⟨fun j y hj hy => by
              by_cases e : j = k
              · subst e
                rw [HX.out] at hy
                obtain rfl := Option.some.inj hy
                exact HR.out
              · exact HALL.out j y (by omega) hy⟩⟩
        | false =>
          rw [hr] at HRx
          have hS := Aside0.mk (show arrS σ its = (0, 1, σ) by
            unfold arrS
            rw [if_neg]
            intro hall
            have := List.all_eq_true.1 hall x (List.mem_of_getElem? hx)
            rw [hr] at this
            cases this)
          clear h1 hv1 hx e2 e3 HB hr
          go_wp2_with (go_at_call 37; go_must (refine (HRx.out).mono ?_; rintro e w5 ⟨rfl, hb⟩; have HB5 := Aside0.mk (below_step HBx.out hb); clear hb HRx))
          go_ret2
          rw [hS.out]
          exact Left.same H.out HB5.out
    · have d1 : decide (k < its.length) = false := decide_eq_false c1
      have hS := Aside0.mk (show arrS σ its = addS σ ⟨2, -1, 0, 0, 0, [], [], its⟩ (1 + its.length) by
        unfold arrS
        rw [if_pos]
        rw [List.all_eq_true]
        intro x hx
        obtain ⟨j, hj, hg⟩ := List.getElem_of_mem hx
        exact HALL.out j x (by have := HK.out; omega) (by rw [List.getElem?_eq_getElem hj, hg]))
      have HCl := Aside0.mk (clone_calls hv1 (by have := HLn.out; omega))
      have hsz := HB.out.size
      have hw : wrap64 (1 + (its.length : Int)) = 1 + its.length := by have := HLn.out; unfold wrap64; omega
      have HSZ := Aside0.mk hsz
      clear h1 hv1 hsz c1
      go_wp2_with (first | (go_at_call 39; go_must (refine (HCl.out).mono ?_; rintro e w5 ⟨iv, rfl, hown, hb⟩; obtain ⟨A1, c2, rfl⟩ := own_slice hown; have HB5 := Aside0.mk (below_step HB.out hb); have HO5 := Aside0.mk (own_less hown HSZ.out); clear hb hown HCl)) | (go_at_call 38; go_must (refine (add_items (H.out.below HB5.out) HF.out w.heap.size (.slice A1 its.length c2) its HO5.out H.out.base H.out.feet_lt (fun b hb => H.out.held_lt hb)).mono ?_; rintro e w6 ⟨rfl, hb2, hok⟩)))
      go_ret2
      rw [hS.out]
      exact ⟨rfl, (HB5.out.mono H.out.base).trans hb2, hok⟩
end Go.Proofs.YtnfobcedbfbbiaaDoor.Hp
