/- An own property: the contract of (*Heap).Own. -/
import Derived.Test.YtnfobcedbfbbiaaDoorHeapF
import Derived.Test.YtnfobcedbfbbiaaDoorIxA
namespace Go.Proofs.YtnfobcedbfbbiaaDoor.Hp
open Go.RowKit Go.Proofs.YtnfobcedbfbbiaaDoorW.PrintWords Go.Proofs.YtnfobcedbfbbiaaDoorW.PrintLast Go.Proofs.YtnfobcedbfbbiaaDoorW.PrintMore Go.Proofs.YtnfobcedbfbbiaaDoor.Hand Go.Proofs.YtnfobcedbfbbiaaDoor.PIx Go.Proofs.YtnfobcedbfbbiaaDoor.Pure
set_option linter.unusedVariables false
set_option linter.unusedSimpArgs false
theorem below_set0 {B : Nat} {a w : World} (h : Below B a w) (j : Nat) (u : Value) : Below B a (w.setCell ⟨B, j, none⟩ u) := h.setCell (Nat.le_refl _) u
theorem below_setk {B : Nat} {a w : World} (h : Below B a w) (k j : Nat) (u : Value) : Below B a (w.setCell ⟨B + k, j, none⟩ u) := h.setCell (Nat.le_add_right _ _) u
def lengthKey : ByteArray := ⟨#[0, 108, 0, 101, 0, 110, 0, 103, 0, 116, 0, 104]⟩
/-- An object by its number. -/
def objS (σ : HSt) (i : Int) : Option OSt := if 0 ≤ i then σ.objs[i.toNat]? else none
theorem objS_some {σ : HSt} {i : Int} {o : OSt} (h : objS σ i = some o) : 0 ≤ i ∧ i < σ.objs.length ∧ σ.objs[i.toNat]? = some o := by
  unfold objS at h
  split at h
  · have := (List.getElem?_eq_some_iff.1 h).1
    exact ⟨by assumption, by omega, h⟩
  · cases h
theorem objS_none {σ : HSt} {i : Int} (h : objS σ i = none) : ¬ Has σ i := by
  unfold objS at h
  intro ⟨h0, h1⟩
  rw [if_pos h0] at h
  have := List.getElem?_eq_none_iff.1 h
  omega
/-- An object's place, and what its cells say. -/
theorem HeapAt.obj {w : World} {B p : Nat} {σ : HSt} {ov : Value} {Ls : List Lay} (h : HeapAt w B p σ ov Ls) {i : Int} {o : OSt} (ho : objS σ i = some o) : ∃ L, Ls[i.toNat]? = some L ∧ 0 ≤ i ∧ ObjAt w B L o := by
  obtain ⟨h0, h1, h2⟩ := objS_some ho
  have hl : i.toNat < Ls.length := by rw [h.len]; omega
  exact ⟨_, List.getElem?_eq_getElem hl, h0, h.objs _ _ _ (List.getElem?_eq_getElem hl) h2⟩
theorem ObjAt.cell {w : World} {B : Nat} {L : Lay} {o : OSt} (h : ObjAt w B L o) : w.cell? ⟨L.ob, 0, none⟩ = some (.int .i64 o.kind) ∧ w.cell? ⟨L.ob, 1, none⟩ = some (.int .i64 o.proto) ∧ w.cell? ⟨L.ob, 5, none⟩ = some L.kv ∧ w.cell? ⟨L.ob, 6, none⟩ = some (.map (some L.mb)) ∧ w.cell? ⟨L.ob, 7, none⟩ = some L.iv := by
  refine ⟨?_, ?_, ?_, ?_, ?_⟩ <;> rw [cell_in h.block] <;> rfl
def lookV (o : OSt) (key : ByteArray) : Val × Bool := ((lookS o.props key).getD Val.zero, (lookS o.props key).isSome)
theorem own_none {w : World} {B p : Nat} {σ : HSt} {ov : Value} {Ls : List Lay} (h : HeapAt w B p σ ov Ls) (hf : Fit σ) (i : Int) (key : ByteArray) (ho : objS σ i = none) :
    Calls Tryd.prog 20 #[.pointer (some ⟨p, 0, none⟩), .int .i64 i, .string key] w fun e w' => e = .returned (.tuple #[Val.zero.agg, .bool false]) ∧ Below w.heap.size w w' := by
  have h1 := h.alloc (.cells #[.int .i64 0, .float .f64 0, .string ⟨#[]⟩, .int .i64 0] 33)
  have HC := Aside0.mk (at_nil h1 (by have := hf.objs; have := h.len; omega) i (by rw [h.len]; exact objS_none ho))
  clear h h1 hf ho
  go_enter Tryd.func20, Tryd.ntmps20
  go_wp2_with (go_at_call 40; refine (HC.out).mono ?_; rintro e w' ⟨rfl, rfl⟩)
  exact bodyPost_ret (v := .tuple #[Val.zero.agg, .bool false]) (by simp [results, Tryd.results20, go_sem, Val.zero]) rfl ⟨rfl, by repeat (with_reducible first | exact Below.refl _ _ | apply below_alloc | apply pw_below_drewN | apply below_drew1 | apply below_set0 | apply below_setk)⟩
theorem own_look {w : World} {B p : Nat} {σ : HSt} {ov : Value} {Ls : List Lay} (h : HeapAt w B p σ ov Ls) (hf : Fit σ) (i : Int) (key : ByteArray) (o : OSt) (ho : objS σ i = some o) (hk : o.kind ≠ 2) :
    Calls Tryd.prog 20 #[.pointer (some ⟨p, 0, none⟩), .int .i64 i, .string key] w fun e w' => e = .returned (.tuple #[(lookV o key).1.agg, .bool (lookV o key).2]) ∧ Below w.heap.size w w' := by
  have h1 := h.alloc (.cells #[.int .i64 0, .float .f64 0, .string ⟨#[]⟩, .int .i64 0] 33)
  obtain ⟨L, hL, h0, hobj⟩ := h1.obj ho
  have HC := Aside0.mk (at_obj h1 (by have := hf.objs; have := h.len; omega) i h0 hL)
  have d1 : (o.kind == 2) = false := beq_eq_false_iff_ne.mpr hk
  obtain ⟨x0, x1, x5, x6, x7⟩ := hobj.cell
  have HM := Aside0.mk hobj.props
  obtain ⟨V, hV⟩ : ∃ V, lookV o key = V := ⟨_, rfl⟩
  have HV := Aside0.mk (show ((lookS o.props key).getD Val.zero, (lookS o.props key).isSome) = V from hV)
  rw [hV]
  clear h h1 hf ho hL h0 hobj hk x1 x5 x7 hV
  go_enter Tryd.func20, Tryd.ntmps20
  go_wp2_with (first | (go_at_call 40; refine (HC.out).mono ?_; rintro e w' ⟨rfl, rfl⟩) | (at_lookup; refine wpList_look _ rfl _ _ rfl L.mb key o.props rfl rfl HM.out ?_))
  refine bodyPost_ret (v := .tuple #[((lookS o.props key).getD Val.zero).agg, .bool (lookS o.props key).isSome]) (by simp [results, Tryd.results20, go_sem]) rfl ⟨by rw [← HV.out], by repeat (with_reducible first | exact Below.refl _ _ | apply below_alloc | apply pw_below_drewN | apply below_drew1 | apply below_set0 | apply below_setk)⟩
theorem own_len {w : World} {B p : Nat} {σ : HSt} {ov : Value} {Ls : List Lay} (h : HeapAt w B p σ ov Ls) (hf : Fit σ) (i : Int) (o : OSt) (ho : objS σ i = some o) (hk : o.kind = 2) (hi : o.items.length ≤ 100000) :
    Calls Tryd.prog 20 #[.pointer (some ⟨p, 0, none⟩), .int .i64 i, .string lengthKey] w fun e w' => e = .returned (.tuple #[(numV (floatOfInt .f64 o.items.length)).agg, .bool true]) ∧ Below w.heap.size w w' := by
  have h1 := h.alloc (.cells #[.int .i64 0, .float .f64 0, .string ⟨#[]⟩, .int .i64 0] 33)
  obtain ⟨L, hL, h0, hobj⟩ := h1.obj ho
  have HC := Aside0.mk (at_obj h1 (by have := hf.objs; have := h.len; omega) i h0 hL)
  have d1 : (o.kind == 2) = true := beq_iff_eq.mpr hk
  obtain ⟨x0, x1, x5, x6, x7⟩ := hobj.cell
  obtain ⟨A, c, hiv⟩ := own_slice hobj.items
  rw [hiv] at x7
  unfold lengthKey
  clear h h1 hf ho hL h0 hobj hk x1 x5 x6 hiv
  go_enter Tryd.func20, Tryd.ntmps20
  go_wp2_with (first | (go_at_call 40; refine (HC.out).mono ?_; rintro e w' ⟨rfl, rfl⟩))
  exact bodyPost_ret (v := .tuple #[(numV (floatOfInt .f64 o.items.length)).agg, .bool true]) (by simp [results, Tryd.results20, go_sem]) rfl ⟨rfl, by repeat (with_reducible first | exact Below.refl _ _ | apply below_alloc | apply pw_below_drewN | apply below_drew1 | apply below_set0 | apply below_setk)⟩
/-- A key of an array that is no index. -/
theorem own_look2 {w : World} {B p : Nat} {σ : HSt} {ov : Value} {Ls : List Lay} (h : HeapAt w B p σ ov Ls) (hf : Fit σ) (i : Int) (key : ByteArray) (hks : key.size ≤ 140737488351232) (o : OSt) (ho : objS σ i = some o) (hk : o.kind = 2) (hl : key ≠ lengthKey) (hx : (idxR key).2 = false) :
    Calls Tryd.prog 20 #[.pointer (some ⟨p, 0, none⟩), .int .i64 i, .string key] w fun e w' => e = .returned (.tuple #[(lookV o key).1.agg, .bool (lookV o key).2]) ∧ Below w.heap.size w w' := by
  have h1 := h.alloc (.cells #[.int .i64 0, .float .f64 0, .string ⟨#[]⟩, .int .i64 0] 33)
  obtain ⟨L, hL, h0, hobj⟩ := h1.obj ho
  have HC := Aside0.mk (at_obj h1 (by have := hf.objs; have := h.len; omega) i h0 hL)
  have HX := fun w => Aside0.mk (index_calls key hks w)
  rw [hx] at HX
  have d1 : (o.kind == 2) = true := beq_iff_eq.mpr hk
  have d2 : (key.toList == ([0, 108, 0, 101, 0, 110, 0, 103, 0, 116, 0, 104] : List UInt8)) = false := by
    rw [Lib.toList_data]
    refine beq_eq_false_iff_ne.2 (fun e => hl ?_)
    apply ByteArray.ext
    exact Array.toList_inj.1 e
  obtain ⟨x0, x1, x5, x6, x7⟩ := hobj.cell
  have HM := Aside0.mk (fun n => MapAt.move (w' := (w.alloc (.cells #[.int .i64 0, .float .f64 0, .string ⟨#[]⟩, .int .i64 0] 33)).drewN n) hobj.props rfl)
  obtain ⟨V, hV⟩ : ∃ V, lookV o key = V := ⟨_, rfl⟩
  have HV := Aside0.mk (show ((lookS o.props key).getD Val.zero, (lookS o.props key).isSome) = V from hV)
  rw [hV]
  clear h h1 hf ho hL h0 hobj hk x1 x5 x7 hV hl hx
  go_enter Tryd.func20, Tryd.ntmps20
  go_wp2_with (first | (go_at_call 40; refine (HC.out).mono ?_; rintro e w' ⟨rfl, rfl⟩) | (go_at_call 9; refine ((HX _).out).mono ?_; rintro e w' ⟨rfl, ⟨nd, rfl⟩⟩) | (at_lookup; refine wpList_look _ rfl _ _ rfl L.mb key o.props rfl rfl (HM.out _) ?_))
  refine bodyPost_ret (v := .tuple #[((lookS o.props key).getD Val.zero).agg, .bool (lookS o.props key).isSome]) (by simp [results, Tryd.results20, go_sem]) rfl ⟨by rw [← HV.out], by repeat (with_reducible first | exact Below.refl _ _ | apply below_alloc | apply pw_below_drewN | apply below_drew1 | apply below_set0 | apply below_setk)⟩
end Go.Proofs.YtnfobcedbfbbiaaDoor.Hp
