/- The same value; an array's items told; keys. -/
import Derived.Test.YtnfobcedbfbbiaaDoorHpG
namespace Go.Proofs.YtnfobcedbfbbiaaDoor.Hp
open Go.RowKit Go.Proofs.YtnfobcedbfbbiaaDoorW.PrintWords Go.Proofs.YtnfobcedbfbbiaaDoorW.PrintLast Go.Proofs.YtnfobcedbfbbiaaDoorW.PrintMore Go.Proofs.YtnfobcedbfbbiaaDoor.Hand Go.Proofs.YtnfobcedbfbbiaaDoor.PIx Go.Proofs.YtnfobcedbfbbiaaDoor.Pure
set_option linter.unusedVariables false
set_option linter.unusedSimpArgs false
theorem rsame_self (x : Nat) (w : World) : Calls Tryd.prog 45 #[.float .f64 x, .float .f64 x] w fun e w' => e = .returned (.bool true) ∧ w' = w := by
  have h := bits_run x
  cases hx : feq x x with
  | true =>
    have g := feq_t hx
    clear hx
    go_enter Tryd.func45, Tryd.ntmps45
    go_wp2
    go_ret
    exact ⟨rfl, rfl⟩
  | false =>
    have g := feq_fn hx
    clear hx
    go_enter Tryd.func45, Tryd.ntmps45
    go_wp2
    go_ret
    exact ⟨rfl, rfl⟩
set_option maxHeartbeats 1000000 in
theorem vsame_self (v : Val) (w : World) : Calls Tryd.prog 23 #[v.agg, v.agg] w fun e w' => e = .returned (.bool true) ∧ Below w.heap.size w w' := by
  have HS := fun w => Aside0.mk (rsame_self v.num w)
  have d1 : (v.kind == v.kind) = true := beq_self_eq_true _
  have d2 : (v.text.toList == v.text.toList) = true := beq_self_eq_true _
  have d3 : (v.ref == v.ref) = true := beq_self_eq_true _
  go_enter Tryd.func23, Tryd.ntmps23
  go_wp2_with (go_at_call 45; refine ((HS _).out).mono ?_; rintro e w' ⟨rfl, rfl⟩)
  go_ret
  exact ⟨rfl, by repeat (first | exact Below.refl _ _ | apply below_alloc | apply pw_below_drewN | apply below_drew1)⟩
/-- Items of an array. -/
def ItemsPost (its : List Val) (w : World) (e : Ending) (w' : World) : Prop := ∃ v1, e = .returned (.tuple #[v1, .bool true]) ∧ w'.ownsRow w.heap.size 33 4 v1 its.length (its.flatMap Val.vs) ∧ Below w.heap.size w w'
set_option maxHeartbeats 1000000 in
theorem items_calls {w : World} {B p : Nat} {K : List (Nat × Obj)} {σ : HSt} {ov : Value} {Ls : List Lay} (h : HeapAt w B K p σ ov Ls) (hf : Fit σ) (i : Int) (o : OSt) (ho : objS σ i = some o) (hk : o.kind = 2) (hi : o.items.length ≤ 100000) :
    Calls Tryd.prog 17 #[.pointer (some ⟨p, 0, none⟩), .int .i64 i] w (ItemsPost o.items w) := by
  obtain ⟨L, hL, h0, hobj⟩ := h.obj ho
  have HC := Aside0.mk (at_obj h (by have := hf.objs; have := h.len; omega) i h0 hL)
  have d1 : (o.kind != 2) = false := bne_eq_false_iff_eq.mpr hk
  obtain ⟨x0, x1, x5, x6, x7⟩ := hobj.cell
  obtain ⟨A, c, hiv⟩ := own_slice hobj.items
  have HCl := Aside0.mk (clone_calls (vals_own hobj.items) hi)
  rw [hiv] at x7 HCl
  clear h hf ho hL h0 hobj hk x1 x5 x6 hiv
  go_enter Tryd.func17, Tryd.ntmps17
  go_wp2_with (first | (go_at_call 40; refine (HC.out).mono ?_; rintro e w' ⟨rfl, rfl⟩) | (go_at_call 39; refine (HCl.out).mono ?_; rintro e w' ⟨v1, rfl, hown, hb⟩))
  go_ret2
  exact ⟨v1, rfl, hown, hb⟩
/-- No array: nothing. -/
theorem items_none {w : World} {B p : Nat} {K : List (Nat × Obj)} {σ : HSt} {ov : Value} {Ls : List Lay} (h : HeapAt w B K p σ ov Ls) (hf : Fit σ) (i : Int) (hk : ∀ o, objS σ i = some o → o.kind ≠ 2) :
    Calls Tryd.prog 17 #[.pointer (some ⟨p, 0, none⟩), .int .i64 i] w fun e w' => e = .returned (.tuple #[.slice none 0 0, .bool false]) ∧ w' = w := by
  cases ho : objS σ i with
  | none =>
    have HC := Aside0.mk (at_nil h (by have := hf.objs; have := h.len; omega) i (by rw [h.len]; exact objS_none ho))
    clear h hf ho hk
    go_enter Tryd.func17, Tryd.ntmps17
    go_wp2_with (go_at_call 40; refine (HC.out).mono ?_; rintro e w' ⟨rfl, rfl⟩)
    go_ret2
    exact ⟨rfl, rfl⟩
  | some o =>
    obtain ⟨L, hL, h0, hobj⟩ := h.obj ho
    have HC := Aside0.mk (at_obj h (by have := hf.objs; have := h.len; omega) i h0 hL)
    have d1 : (o.kind != 2) = true := bne_iff_ne.mpr (hk o ho)
    obtain ⟨x0, x1, x5, x6, x7⟩ := hobj.cell
    clear h hf ho hL h0 hobj hk x1 x5 x6 x7
    go_enter Tryd.func17, Tryd.ntmps17
    go_wp2_with (go_at_call 40; refine (HC.out).mono ?_; rintro e w' ⟨rfl, rfl⟩)
    go_ret2
    exact ⟨rfl, rfl⟩
end Go.Proofs.YtnfobcedbfbbiaaDoor.Hp
