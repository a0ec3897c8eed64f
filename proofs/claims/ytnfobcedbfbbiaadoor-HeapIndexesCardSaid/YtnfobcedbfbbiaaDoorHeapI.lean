/- The holder of a key: along the prototypes. -/
import Derived.Test.YtnfobcedbfbbiaaDoorHeapH
namespace Go.Proofs.YtnfobcedbfbbiaaDoor.Hp
open Go.RowKit Go.Proofs.YtnfobcedbfbbiaaDoorW.PrintWords Go.Proofs.YtnfobcedbfbbiaaDoorW.PrintLast Go.Proofs.YtnfobcedbfbbiaaDoorW.PrintMore Go.Proofs.YtnfobcedbfbbiaaDoor.Hand Go.Proofs.YtnfobcedbfbbiaaDoor.PIx Go.Proofs.YtnfobcedbfbbiaaDoor.Pure
set_option linter.unusedVariables false
set_option linter.unusedSimpArgs false
def holdS (σ : HSt) (key : ByteArray) : Nat → Int → Option Int
  | 0, _ => none
  | k + 1, i => match objS σ i with | none => some (-1) | some o => if (ownS σ i key).2 = true then some i else holdS σ key k o.proto
/-- A prototype is older than its children. -/
def Desc (σ : HSt) : Prop := ∀ (i : Nat) o, σ.objs[i]? = some o → o.proto < i
theorem holdS_some {σ : HSt} (hd : Desc σ) (key : ByteArray) : ∀ (k : Nat) (i : Int), i < k → ∃ r, holdS σ key (k + 1) i = some r := by
  intro k
  induction k with
  | zero =>
    intro i hi
    unfold holdS
    have : objS σ i = none := by unfold objS; rw [if_neg (by omega)]
    rw [this]
    exact ⟨_, rfl⟩
  | succ k ih =>
    intro i hi
    unfold holdS
    cases ho : objS σ i with
    | none => exact ⟨_, rfl⟩
    | some o =>
      simp only
      split
      · exact ⟨_, rfl⟩
      · obtain ⟨h0, h1, h2⟩ := objS_some ho
        exact ih _ (by have := hd _ _ h2; omega)
/-- The holder, whole. -/
def holderS (σ : HSt) (i : Int) (key : ByteArray) : Int := (holdS σ key (σ.objs.length + 1) (if Has σ i then i else -1)).getD (-1)
theorem HeapAt.facts {w : World} {B p : Nat} {σ : HSt} {ov : Value} {Ls : List Lay} (h : HeapAt w B p σ ov Ls) {i : Int} {o : OSt} (ho : objS σ i = some o) :
    ∃ g c ob, ov = .slice (some ⟨g, 0, none⟩) Ls.length c ∧ w.cell? ⟨p, 0, none⟩ = some (.slice (some ⟨g, 0, none⟩) Ls.length c) ∧ w.cell? ⟨g, i.toNat, none⟩ = some (.pointer (some ⟨ob, 0, none⟩)) ∧ w.cell? ⟨ob, 1, none⟩ = some (.int .i64 o.proto) ∧ p < w.heap.size ∧ g < w.heap.size ∧ ob < w.heap.size := by
  obtain ⟨L, hL, h0, hobj⟩ := h.obj ho
  obtain ⟨A, c, rfl, hs⟩ := h.slice
  obtain ⟨g, rfl, hg⟩ := hs _ _ hL
  refine ⟨g, c, L.ob, rfl, h.cell0, hg, hobj.cell.2.1, h.top_lt, ?_, ?_⟩
  · unfold World.cell? at hg
    cases hh : w.heap[g]? with
    | none => simp [hh] at hg
    | some x => exact (Array.getElem?_eq_some_iff.1 hh).1
  · exact (Array.getElem?_eq_some_iff.1 hobj.block).1
set_option maxHeartbeats 4000000 in
set_option maxRecDepth 100000 in
theorem hold_calls (k : Nat) {w : World} {B p : Nat} {σ : HSt} (hok : HeapOk w B p σ) (hf : Fit σ) (i : Int) (key : ByteArray) (hks : key.size ≤ 140737488351232) (hit : ∀ o ∈ σ.objs, o.items.length ≤ 100000) (r : Int) (hr : holdS σ key k i = some r) :
    Calls Tryd.prog 44 #[.pointer (some ⟨p, 0, none⟩), .int .i64 i, .string key] w fun e w' => e = .returned (.int .i64 r) ∧ Below w.heap.size w w' := by
  obtain ⟨ov, Ls, h⟩ := hok
  have H := Aside0.mk h
  have HH := Aside0.mk hr
  have HF := Aside0.mk hf
  have HI := Aside0.mk hit
  have HKS := Aside0.mk hks
  have HB := Aside0.mk (Below.refl w.heap.size w)
  clear h hf hit hr hks
  go_enter Tryd.func44, Tryd.ntmps44
  go_wp2
  go_loopg [1] k (fun kq v1 w' => ∃ (x : Int), v1 = .int .i64 x ∧ Aside0 (holdS σ key kq x = some r) ∧ Aside0 (kq ≤ k) ∧ Aside0 (Below w.heap.size w w'))
  case atStart => exact ⟨i, rfl, HH, ⟨Nat.le_refl _⟩, HB⟩
  case round =>
    clear HH HB
    obtain ⟨x, rfl, HA, HK, HB⟩ := hrel
    cases gk with
    | zero => exact absurd HA.out (by simp [holdS])
    | succ k1 =>
      have HA1 := HA.out
      clear HA
      unfold holdS at HA1
      have h1 := Aside0.mk (H.out.below HB.out)
      cases ho : objS σ x with
      | none =>
        rw [ho] at HA1
        simp only [Option.some.injEq] at HA1
        subst HA1
        have HC := Aside0.mk (at_nil h1.out (by have := HF.out.objs; have := h1.out.len; omega) x (by rw [h1.out.len]; exact objS_none ho))
        clear ho
        go_wp2_with (go_at_call 40; refine (HC.out).mono ?_; rintro e w' ⟨rfl, rfl⟩)
        go_ret
        exact ⟨rfl, HB.out⟩
      | some o =>
        rw [ho] at HA1
        simp only at HA1
        obtain ⟨L, hL, h0, hobj⟩ := h1.out.obj ho
        have HC := Aside0.mk (at_obj h1.out (by have := HF.out.objs; have := h1.out.len; omega) x h0 hL)
        have HO := Aside0.mk (own_calls ⟨ov, Ls, h1.out⟩ HF.out x key HKS.out HI.out)
        have hlt : x < Ls.length := by have := (objS_some ho).2.1; have := h1.out.len; omega
        have hlen : Ls.length ≤ 100000 := by have := HF.out.objs; have := h1.out.len; omega
        generalize ownS σ x key = R at *
        obtain ⟨v, b⟩ := R
        cases b with
        | true =>
          simp only [if_pos] at HA1
          obtain rfl := Option.some.inj HA1
          clear hobj hL ho h0 hlt hlen
          go_wp2_with (first | (go_at_call 40; refine (HC.out).mono ?_; rintro e w' ⟨rfl, rfl⟩) | (go_at_call 20; refine (HO.out).mono ?_; rintro e w5 ⟨rfl, hb⟩; have n0_ := Aside0.mk (below_step HB.out hb); clear HB hb))
          go_ret
          exact ⟨rfl, by repeat (with_reducible first | exact n0_.out | apply below_alloc | apply pw_below_drewN | apply below_drew1 | apply below_set0 | apply below_setk)⟩
        | false =>
          simp only [if_neg, Bool.false_eq_true, if_false] at HA1
          have HA2 := Aside0.mk HA1
          clear HA1
          have HX := Aside0.mk ho
          have q0 := eq_true h0
          have q1 := eq_true hlt
          clear hobj hL ho h0 hlt
          go_wp2_with (first | (go_at_call 40; refine (HC.out).mono ?_; rintro e w' ⟨rfl, rfl⟩) | (go_at_call 20; refine (HO.out).mono ?_; rintro e w5 ⟨rfl, hb⟩; have n0_ := Aside0.mk (below_step HB.out hb); obtain ⟨g, c, ob, f0, f1, f2, f3, f4, f5, f6⟩ := ((H.out.below n0_.out).alloc (.cells #[.int .i64 v.kind, .float .f64 v.num, .string v.text, .int .i64 v.ref] 33)).facts HX.out; clear f4 f5 f6; clear HB hb h1 HC HO f0))
          go_roundg k1
          case measure => have := HK.out; omega
          case rel => exact ⟨_, rfl, HA2, ⟨by have := HK.out; omega⟩, ⟨by repeat (with_reducible first | exact n0_.out | apply below_alloc | apply pw_below_drewN | apply below_drew1 | apply below_set0 | apply below_setk)⟩⟩
theorem holder_calls {w : World} {B p : Nat} {σ : HSt} (hok : HeapOk w B p σ) (hf : Fit σ) (hd : Desc σ) (i : Int) (key : ByteArray) (hks : key.size ≤ 140737488351232) (hit : ∀ o ∈ σ.objs, o.items.length ≤ 100000) :
    Calls Tryd.prog 44 #[.pointer (some ⟨p, 0, none⟩), .int .i64 i, .string key] w fun e w' => e = .returned (.int .i64 (holderS σ i key)) ∧ Below w.heap.size w w' := by
  by_cases hi : Has σ i
  · obtain ⟨r, hr⟩ := holdS_some hd key σ.objs.length i hi.2
    have : holderS σ i key = r := by unfold holderS; rw [if_pos hi, hr]; rfl
    rw [this]
    exact hold_calls _ hok hf i key hks hit r hr
  · have e0 : objS σ i = none := by
      unfold objS
      split
      · exact List.getElem?_eq_none (by unfold Has at hi; omega)
      · rfl
    have h0 : holdS σ key 1 i = some (-1) := by unfold holdS; rw [e0]
    have h1 : holderS σ i key = -1 := by
      unfold holderS
      rw [if_neg hi]
      unfold holdS
      rw [show objS σ (-1) = none by unfold objS; rw [if_neg (by omega)]]
      rfl
    rw [h1]
    exact hold_calls _ hok hf i key hks hit _ h0
theorem four_set {w : World} {b : Nat} {a0 a1 a2 a3 : Value} (y0 : w.cell? ⟨b, 0, none⟩ = some a0) (y1 : w.cell? ⟨b, 1, none⟩ = some a1) (y2 : w.cell? ⟨b, 2, none⟩ = some a2) (y3 : w.cell? ⟨b, 3, none⟩ = some a3) (u0 u1 u2 u3 : Value) :
    ((((w.setCell ⟨b, 0, none⟩ u0).setCell ⟨b, 1, none⟩ u1).setCell ⟨b, 2, none⟩ u2).setCell ⟨b, 3, none⟩ u3).cell? ⟨b, 0, none⟩ = some u0 ∧ ((((w.setCell ⟨b, 0, none⟩ u0).setCell ⟨b, 1, none⟩ u1).setCell ⟨b, 2, none⟩ u2).setCell ⟨b, 3, none⟩ u3).cell? ⟨b, 1, none⟩ = some u1 ∧ ((((w.setCell ⟨b, 0, none⟩ u0).setCell ⟨b, 1, none⟩ u1).setCell ⟨b, 2, none⟩ u2).setCell ⟨b, 3, none⟩ u3).cell? ⟨b, 2, none⟩ = some u2 ∧ ((((w.setCell ⟨b, 0, none⟩ u0).setCell ⟨b, 1, none⟩ u1).setCell ⟨b, 2, none⟩ u2).setCell ⟨b, 3, none⟩ u3).cell? ⟨b, 3, none⟩ = some u3 := by
  have ne : ∀ i j : Nat, i ≠ j → (⟨b, i, none⟩ : Addr) ≠ ⟨b, j, none⟩ := fun i j h e => h (by injection e)
  refine ⟨?_, ?_, ?_, ?_⟩
  · rw [World.cell?_setCell_other _ _ _ _ (ne 3 0 (by decide)), World.cell?_setCell_other _ _ _ _ (ne 2 0 (by decide)), World.cell?_setCell_other _ _ _ _ (ne 1 0 (by decide))]
    exact World.cell?_setCell_same _ _ _ y0
  · rw [World.cell?_setCell_other _ _ _ _ (ne 3 1 (by decide)), World.cell?_setCell_other _ _ _ _ (ne 2 1 (by decide))]
    exact World.cell?_setCell_same _ _ _ ((World.cell?_setCell_other _ _ _ _ (ne 0 1 (by decide))).trans y1)
  · rw [World.cell?_setCell_other _ _ _ _ (ne 3 2 (by decide))]
    exact World.cell?_setCell_same _ _ _ ((World.cell?_setCell_other _ _ _ _ (ne 1 2 (by decide))).trans ((World.cell?_setCell_other _ _ _ _ (ne 0 2 (by decide))).trans y2))
  · exact World.cell?_setCell_same _ _ _ ((World.cell?_setCell_other _ _ _ _ (ne 2 3 (by decide))).trans ((World.cell?_setCell_other _ _ _ _ (ne 1 3 (by decide))).trans ((World.cell?_setCell_other _ _ _ _ (ne 0 3 (by decide))).trans y3)))
/-- What Get tells. -/
def getS (σ : HSt) (i : Int) (key : ByteArray) : Val × Bool := ownS σ (holderS σ i key) key
set_option maxHeartbeats 1000000 in
theorem get_calls {w : World} {B p : Nat} {σ : HSt} (hok : HeapOk w B p σ) (hf : Fit σ) (hd : Desc σ) (i : Int) (key : ByteArray) (hks : key.size ≤ 140737488351232) (hit : ∀ o ∈ σ.objs, o.items.length ≤ 100000) :
    Calls Tryd.prog 22 #[.pointer (some ⟨p, 0, none⟩), .int .i64 i, .string key] w fun e w' => e = .returned (.tuple #[(getS σ i key).1.agg, .bool (getS σ i key).2]) ∧ Below w.heap.size w w' := by
  obtain ⟨ov, Ls, h⟩ := hok
  have hw := h.alloc (.cells #[.int .i64 0, .float .f64 0, .string ⟨#[]⟩, .int .i64 0] 33)
  have HH := Aside0.mk (holder_calls ⟨ov, Ls, hw⟩ hf hd i key hks hit)
  have HO := fun w2 hb => Aside0.mk (own_calls (w := w2) ⟨ov, Ls, hw.below hb⟩ hf (holderS σ i key) key hks hit)
  unfold getS
  generalize ownS σ (holderS σ i key) key = R at *
  obtain ⟨v, b⟩ := R
  generalize holderS σ i key = j at *
  clear h hw hf hd hit hks
  go_enter Tryd.func22, Tryd.ntmps22
  go_wp2_with (first | (go_at_call 44; refine (HH.out).mono ?_; rintro e w4 ⟨rfl, hb⟩; have HB1 := Aside0.mk hb; clear hb) | (go_at_call 20; go_must (refine ((HO _ HB1.out).out).mono ?_; rintro e w5 ⟨rfl, hb⟩; have n1_ := below_step HB1.out hb; have hblk := (n1_.block w.heap.size (by rw [World.size_alloc]; exact Nat.lt_succ_self _)).trans (heap_alloc_new w _); have y0 : w5.cell? ⟨w.heap.size, 0, none⟩ = some (.int .i64 0) := (cell_in hblk).trans rfl; have y1 : w5.cell? ⟨w.heap.size, 1, none⟩ = some (.float .f64 0) := (cell_in hblk).trans rfl; have y2 : w5.cell? ⟨w.heap.size, 2, none⟩ = some (.string ⟨#[]⟩) := (cell_in hblk).trans rfl; have y3 : w5.cell? ⟨w.heap.size, 3, none⟩ = some (.int .i64 0) := (cell_in hblk).trans rfl; have yf : ∀ j, w5.frozen? ⟨w.heap.size, j, none⟩ = false := fun j => free_in hblk; have n0_ := Aside0.mk (below_step ((Below.refl w.heap.size w).alloc (Nat.le_refl _) _) n1_); clear hb HB1 HO HH hblk n1_)))
  obtain ⟨z0, z1, z2, z3⟩ := four_set y0 y1 y2 y3 (.int .i64 v.kind) (.float .f64 v.num) (.string v.text) (.int .i64 v.ref)
  exact bodyPost_ret (v := .tuple #[v.agg, .bool b]) (by simp [results, Tryd.results22, go_sem, z0, z1, z2, z3]) rfl ⟨rfl, by repeat (with_reducible first | exact n0_.out | exact Below.refl _ _ | apply below_alloc | apply pw_below_drewN | apply below_drew1 | apply below_set0 | apply below_setk)⟩
end Go.Proofs.YtnfobcedbfbbiaaDoor.Hp
