/- An array's item: the contract of (*Heap).Own at an index. -/
import Derived.Test.YtnfobcedbfbbiaaDoorHeapG
namespace Go.Proofs.YtnfobcedbfbbiaaDoor.Hp
open Go.RowKit Go.Proofs.YtnfobcedbfbbiaaDoorW.PrintWords Go.Proofs.YtnfobcedbfbbiaaDoorW.PrintLast Go.Proofs.YtnfobcedbfbbiaaDoorW.PrintMore Go.Proofs.YtnfobcedbfbbiaaDoor.Hand Go.Proofs.YtnfobcedbfbbiaaDoor.PIx Go.Proofs.YtnfobcedbfbbiaaDoor.Pure
set_option linter.unusedVariables false
set_option linter.unusedSimpArgs false
theorem flat_at : ∀ (its : List Val) (n j : Nat) (v : Val), its[n]? = some v → j < 4 → (its.flatMap Val.vs)[n * 4 + j]? = v.vs[j]?
  | [], n, j, v, h, _ => by simp at h
  | x :: t, 0, j, v, h, hj => by
    obtain rfl : x = v := by simpa using h
    rw [List.flatMap_cons, Nat.zero_mul, Nat.zero_add, List.getElem?_append_left (by simpa [Val.vs] using hj)]
  | x :: t, n + 1, j, v, h, hj => by
    have ih := flat_at t n j v (by simpa using h) hj
    rw [List.flatMap_cons, List.getElem?_append_right (by simp [Val.vs]; omega)]
    rw [show (n + 1) * 4 + j - x.vs.length = n * 4 + j by simp [Val.vs]; omega]
    exact ih
theorem items_at {w : World} {B : Nat} {iv : Value} {its : List Val} (h : w.ownsRow B 33 4 iv its.length (its.flatMap Val.vs)) {n : Nat} {v : Val} (hv : its[n]? = some v) :
    ∃ g c, iv = .slice (some ⟨g, 0, none⟩) its.length c ∧ B ≤ g ∧ w.cell? ⟨g, n * 4, none⟩ = some (.int .i64 v.kind) ∧ w.cell? ⟨g, n * 4 + 1, none⟩ = some (.float .f64 v.num) ∧ w.cell? ⟨g, n * 4 + 2, none⟩ = some (.string v.text) ∧ w.cell? ⟨g, n * 4 + 3, none⟩ = some (.int .i64 v.ref) ∧
      (∀ j, w.frozen? ⟨g, j, none⟩ = false) := by
  have hn : n < its.length := (List.getElem?_eq_some_iff.1 hv).1
  obtain ⟨h1, h2⟩ := h
  rcases h2 with ⟨rfl, h0⟩ | ⟨g, cap, cur, rfl, hb, hg, hc, hm, hs, ht⟩
  · omega
  · have key : ∀ j, j < 4 → w.cell? ⟨g, n * 4 + j, none⟩ = v.vs[j]? := by
      intro j hj
      rw [cell_in hg, ← flat_at its n j v hv hj, ← ht, List.getElem?_take_of_lt (by omega)]
      simp
    exact ⟨g, cap, rfl, hb, key 0 (by omega), key 1 (by omega), key 2 (by omega), key 3 (by omega), fun j => free_in hg⟩
set_option maxHeartbeats 1000000 in
theorem own_item {w : World} {B p : Nat} {σ : HSt} {ov : Value} {Ls : List Lay} (h : HeapAt w B p σ ov Ls) (hf : Fit σ) (i : Int) (key : ByteArray) (hks : key.size ≤ 140737488351232) (o : OSt) (ho : objS σ i = some o) (hk : o.kind = 2) (hl : key ≠ lengthKey) (n : Nat) (v : Val) (hx : idxR key = ((n : Int), true)) (hv : o.items[n]? = some v) (hi : o.items.length ≤ 100000) :
    Calls Tryd.prog 20 #[.pointer (some ⟨p, 0, none⟩), .int .i64 i, .string key] w fun e w' => e = .returned (.tuple #[v.agg, .bool true]) ∧ Below w.heap.size w w' := by
  have h1 := h.alloc (.cells #[.int .i64 0, .float .f64 0, .string ⟨#[]⟩, .int .i64 0] 33)
  obtain ⟨L, hL, h0, hobj⟩ := h1.obj ho
  have HC := Aside0.mk (at_obj h1 (by have := hf.objs; have := h.len; omega) i h0 hL)
  have HX := fun w => Aside0.mk (index_calls key hks w)
  rw [hx] at HX
  have d1 : (o.kind == 2) = true := beq_iff_eq.mpr hk
  have d2 : (key.toList == ([0, 108, 0, 101, 0, 110, 0, 103, 0, 116, 0, 104] : List UInt8)) = false := by
    rw [Lib.toList_data]
    refine beq_eq_false_iff_ne.2 (fun e => hl ?_)
    apply ByteArray.ext
    exact Array.toList_inj.1 e
  obtain ⟨x0, x1, x5, x6, x7⟩ := hobj.cell
  obtain ⟨g, c, hiv, hg, y0, y1, y2, y3, yf⟩ := items_at hobj.items hv
  rw [hiv] at x7
  have hn : n < o.items.length := (List.getElem?_eq_some_iff.1 hv).1
  have d3 : decide (o.items.length ≤ n) = false := decide_eq_false (by omega)
  clear h h1 hf ho hL h0 hobj hk x1 x5 x6 hl hx hiv hv
  go_enter Tryd.func20, Tryd.ntmps20
  go_wp2_with (first | (go_at_call 40; refine (HC.out).mono ?_; rintro e w' ⟨rfl, rfl⟩) | (go_at_call 9; refine ((HX _).out).mono ?_; rintro e w' ⟨rfl, ⟨nd, rfl⟩⟩))
  exact bodyPost_ret (v := .tuple #[v.agg, .bool true]) (by simp [results, Tryd.results20, go_sem]) rfl ⟨rfl, by repeat (with_reducible first | exact Below.refl _ _ | apply below_alloc | apply pw_below_drewN | apply below_drew1 | apply below_set0 | apply below_setk)⟩
set_option maxHeartbeats 1000000 in
theorem own_past {w : World} {B p : Nat} {σ : HSt} {ov : Value} {Ls : List Lay} (h : HeapAt w B p σ ov Ls) (hf : Fit σ) (i : Int) (key : ByteArray) (hks : key.size ≤ 140737488351232) (o : OSt) (ho : objS σ i = some o) (hk : o.kind = 2) (hl : key ≠ lengthKey) (n : Nat) (hx : idxR key = ((n : Int), true)) (hv : o.items.length ≤ n) (hi : o.items.length ≤ 100000) :
    Calls Tryd.prog 20 #[.pointer (some ⟨p, 0, none⟩), .int .i64 i, .string key] w fun e w' => e = .returned (.tuple #[Val.zero.agg, .bool false]) ∧ Below w.heap.size w w' := by
  have h1 := h.alloc (.cells #[.int .i64 0, .float .f64 0, .string ⟨#[]⟩, .int .i64 0] 33)
  obtain ⟨L, hL, h0, hobj⟩ := h1.obj ho
  have HC := Aside0.mk (at_obj h1 (by have := hf.objs; have := h.len; omega) i h0 hL)
  have HX := fun w => Aside0.mk (index_calls key hks w)
  rw [hx] at HX
  have d1 : (o.kind == 2) = true := beq_iff_eq.mpr hk
  have d2 : (key.toList == ([0, 108, 0, 101, 0, 110, 0, 103, 0, 116, 0, 104] : List UInt8)) = false := by
    rw [Lib.toList_data]
    refine beq_eq_false_iff_ne.2 (fun e => hl ?_)
    apply ByteArray.ext
    exact Array.toList_inj.1 e
  obtain ⟨x0, x1, x5, x6, x7⟩ := hobj.cell
  obtain ⟨A, c, hiv⟩ := own_slice hobj.items
  rw [hiv] at x7
  have d3 : decide (o.items.length ≤ n) = true := decide_eq_true hv
  clear h h1 hf ho hL h0 hobj hk x1 x5 x6 hl hx hiv hv
  go_enter Tryd.func20, Tryd.ntmps20
  go_wp2_with (first | (go_at_call 40; refine (HC.out).mono ?_; rintro e w' ⟨rfl, rfl⟩) | (go_at_call 9; refine ((HX _).out).mono ?_; rintro e w' ⟨rfl, ⟨nd, rfl⟩⟩))
  exact bodyPost_ret (v := .tuple #[Val.zero.agg, .bool false]) (by simp [results, Tryd.results20, go_sem, Val.zero]) rfl ⟨rfl, by repeat (with_reducible first | exact Below.refl _ _ | apply below_alloc | apply pw_below_drewN | apply below_drew1 | apply below_set0 | apply below_setk)⟩
theorem idx_nat (us : List Nat) : ∀ (n : Nat) (f : Bool), (idxGo us n f).2 = true → ∃ m : Nat, idxGo us n f = ((m : Int), true) ∧ m ≤ 2147483647 := by
  induction us with
  | nil =>
    intro n f h
    unfold idxGo at h ⊢
    split at h
    · cases h
    · rename_i hc
      rw [if_neg hc]
      exact ⟨n, rfl, by omega⟩
  | cons u t ih =>
    intro n f h
    unfold idxGo at h ⊢
    split at h
    · cases h
    · rename_i c1
      rw [if_neg c1]
      split at h
      · cases h
      · rename_i c2
        rw [if_neg c2]
        split at h
        · cases h
        · rename_i c3
          rw [if_neg c3]
          exact ih _ _ h
theorem idxR_nat (key : ByteArray) (h : (idxR key).2 = true) : ∃ m : Nat, idxR key = ((m : Int), true) ∧ m ≤ 2147483647 := by
  unfold idxR at h ⊢
  split at h
  · rename_i c
    rw [if_pos c]
    exact idx_nat _ _ _ h
  · cases h
/-- What Own tells. -/
def ownO (o : OSt) (key : ByteArray) : Val × Bool :=
  if o.kind = 2 then (if key = lengthKey then (numV (floatOfInt .f64 o.items.length), true) else if (idxR key).2 = true then (match o.items[(idxR key).1.toNat]? with | some v => (v, true) | none => (Val.zero, false)) else lookV o key)
  else lookV o key
def ownS (σ : HSt) (i : Int) (key : ByteArray) : Val × Bool := match objS σ i with | some o => ownO o key | none => (Val.zero, false)
theorem own_calls {w : World} {B p : Nat} {σ : HSt} (hok : HeapOk w B p σ) (hf : Fit σ) (i : Int) (key : ByteArray) (hks : key.size ≤ 140737488351232) (hit : ∀ o ∈ σ.objs, o.items.length ≤ 100000) :
    Calls Tryd.prog 20 #[.pointer (some ⟨p, 0, none⟩), .int .i64 i, .string key] w fun e w' => e = .returned (.tuple #[(ownS σ i key).1.agg, .bool (ownS σ i key).2]) ∧ Below w.heap.size w w' := by
  obtain ⟨ov, Ls, h⟩ := hok
  unfold ownS
  cases ho : objS σ i with
  | none => exact own_none h hf i key ho
  | some o =>
    have hi := hit o (List.mem_of_getElem? (objS_some ho).2.2)
    simp only
    unfold ownO
    by_cases c1 : o.kind = 2
    · rw [if_pos c1]
      by_cases c2 : key = lengthKey
      · rw [if_pos c2]
        subst c2
        exact own_len h hf i o ho c1 hi
      · rw [if_neg c2]
        by_cases c3 : (idxR key).2 = true
        · rw [if_pos c3]
          obtain ⟨m, hm, _⟩ := idxR_nat key c3
          rw [hm, Int.toNat_natCast]
          cases hv : o.items[m]? with
          | none => exact own_past h hf i key hks o ho c1 c2 m hm (List.getElem?_eq_none_iff.1 hv) hi
          | some v => exact own_item h hf i key hks o ho c1 c2 m v hm hv hi
        · rw [if_neg c3]
          exact own_look2 h hf i key hks o ho c1 c2 (Bool.eq_false_iff.2 c3)
    · rw [if_neg c1]
      exact own_look h hf i key o ho c1
end Go.Proofs.YtnfobcedbfbbiaaDoor.Hp
