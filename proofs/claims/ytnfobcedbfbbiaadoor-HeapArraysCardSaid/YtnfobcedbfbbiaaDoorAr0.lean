/- HeapArrays: its states and numbers. -/
import Derived.Test.YtnfobcedbfbbiaaDoorSh0
namespace Go.Proofs.YtnfobcedbfbbiaaDoor.Hp
open Go.RowKit Go.Proofs.YtnfobcedbfbbiaaDoorW.PrintWords Go.Proofs.YtnfobcedbfbbiaaDoorW.PrintLast Go.Proofs.YtnfobcedbfbbiaaDoorW.PrintMore Go.Proofs.YtnfobcedbfbbiaaDoor.Hand Go.Proofs.YtnfobcedbfbbiaaDoor.PIx Go.Proofs.YtnfobcedbfbbiaaDoor.Pure
set_option linter.unusedVariables false
set_option linter.unusedSimpArgs false
theorem items_ok {w : World} {B p : Nat} {K : List (Nat × Obj)} {σ : HSt} (h : HeapOk w B K p σ) (hf : Fine σ) (i : Int) (o : OSt) (ho : objS σ i = some o) (hk : o.kind = 2) (its : List Val) (hi : o.items = its) :
    Calls Tryd.prog 17 #[.pointer (some ⟨p, 0, none⟩), .int .i64 i] w (ItemsPost its w) := by
  obtain ⟨ov, Ls, h⟩ := h
  subst hi
  exact items_calls h hf.fit i o ho hk (hf.items o (List.mem_of_getElem? (objS_some ho).2.2))
/-- A small whole number as a float. -/
def fl (c : Nat) : Nat := floatOfInt .f64 (c : Int)
def flOk (c : Nat) : Bool := feq (fl c) (fl c) && feq (wholeV (fl c)) (fl c) && !(FloatKind.f64.format.order (fl c) 0 == some Ordering.lt) && !(FloatKind.f64.format.order (fl c) 4746794007244308480 == some Ordering.gt) && (cutN (fl c) == c)
theorem flOk_all : (List.range 256).all flOk = true := by decide +kernel
theorem fl_ok (c : Nat) (h : c < 256) : feq (fl c) (fl c) = true ∧ LenOk (numV (fl c)) ∧ cutN (fl c) = c := by
  have h1 := List.all_eq_true.1 flOk_all c (List.mem_range.2 h)
  unfold flOk at h1
  simp only [Bool.and_eq_true, Bool.not_eq_true', beq_iff_eq] at h1
  obtain ⟨⟨⟨⟨e0, e1⟩, e2⟩, e3⟩, e4⟩ := h1
  exact ⟨e0, ⟨rfl, e1, e2, e3⟩, e4⟩
def numL (n : Nat) : List Nat := (List.range n).map fl
theorem numL_succ (n : Nat) : numL (n + 1) = numL n ++ [fl n] := by unfold numL; rw [List.range_succ, List.map_append]; rfl
theorem numL_len (n : Nat) : (numL n).length = n := by unfold numL; simp
def aObj (its : List Val) : OSt := ⟨2, -1, 0, 0, 0, [], [], its⟩
def mOne : Nat := 13830554455654793216
theorem m1fact : FloatKind.f64.format.order mOne 13830554455654793216 = some Ordering.eq := by decide +kernel
def a0 : HSt := ⟨[], 10000⟩
def a1 (n : Nat) : HSt := ⟨[aObj ((numL n).map numV)], 10000 - (1 + n)⟩
def its1 (n : Nat) : List Val := (numL n).map numV ++ [Val.zero, Val.zero, numV mOne]
def a2 (n : Nat) : HSt := ⟨[aObj (its1 n)], 10000 - (1 + n) - 3⟩
def a3 (n c : Nat) : HSt := ⟨[aObj (fitI (its1 n) c)], 10000 - (1 + n) - 3 - (c - (n + 3))⟩
theorem ae0 (n : Nat) (h : n < 256) : addS a0 ⟨2, -1, 0, 0, 0, [], [], (numL n).map numV⟩ (1 + n) = (0, 0, a1 n) := by
  unfold addS
  rw [if_neg (show ¬ (a0.left < 1 + n) by show ¬ ((10000 : Int) < 1 + n); omega)]
  rfl
theorem idx_key10 (k : Nat) (h : k ≤ 1000000) : idxR (key10 k) = ((k : Int), true) := by
  have := idxR_key (k : Int) (by omega) (by omega)
  have e : decide (0 ≤ (k : Int) ∧ (k : Int) ≤ 2147483647) = true := decide_eq_true (by omega)
  rw [e] at this
  unfold key10
  generalize idxR (bytesOf (wideL (Lib.itoa (k : Int)))) = R at *
  obtain ⟨x, y⟩ := R
  obtain ⟨h1, h2⟩ := this
  simp only at h1 h2
  rw [h1, h2 h1]
theorem idx_len : (idxR lengthKey).2 = false := by decide +kernel
theorem key10_len (k : Nat) (h : k ≤ 1000000) : key10 k ≠ lengthKey := fun e => by
  have h1 := idx_key10 k h
  have h2 := idx_len
  rw [← e, h1] at h2
  cases h2
theorem key10_size (k : Nat) (h : k ≤ 1000000) : (key10 k).size ≤ 140737488351232 := by
  unfold key10
  rw [bytesOf_size, wideL_len]
  have := Lib.itoa_length_le (k : Int) (by omega) (by omega)
  omega
theorem its1_len (n : Nat) : (its1 n).length = n + 3 := by
  unfold its1
  rw [List.length_append, List.length_map, numL_len]
  rfl
theorem its1_one (n : Nat) : (its1 n)[n + 1]? = some Val.zero := by
  unfold its1
  have hl : ((numL n).map numV).length = n := by rw [List.length_map, numL_len]
  rw [List.getElem?_append_right (by rw [hl]; omega), hl, show n + 1 - n = 1 by omega]
  rfl
theorem its1_two (n : Nat) : (its1 n)[n + 2]? = some (numV mOne) := by
  unfold its1
  have hl : ((numL n).map numV).length = n := by rw [List.length_map, numL_len]
  rw [List.getElem?_append_right (by rw [hl]; omega), hl, show n + 2 - n = 2 by omega]
  rfl
theorem ae1 (n : Nat) (h : n < 256) : putH (a1 n) 0 (key10 (n + 2)) (numV mOne) = (0, a2 n) := by
  show putO (a1 n) 0 (key10 (n + 2)) (numV mOne) (aObj ((numL n).map numV)) = _
  have hi := idx_key10 (n + 2) (by omega)
  have hlen : ((numL n).map numV).length = n := by rw [List.length_map, numL_len]
  unfold putO
  rw [right_num, if_neg (by decide), if_neg (fun e => key10_len (n + 2) (by omega) e.2), if_pos ⟨rfl, by rw [hi]⟩, hi]
  simp only [Int.toNat_natCast]
  unfold itemS
  rw [if_neg (show ¬ (n + 2 < (aObj ((numL n).map numV)).items.length) by show ¬ (n + 2 < ((numL n).map numV).length); rw [hlen]; omega), if_neg (show ¬ ((a1 n).left < ((n + 2 + 1 : Nat) : Int) - ((aObj ((numL n).map numV)).items.length : Int)) by show ¬ ((10000 : Int) - (1 + n) < ((n + 2 + 1 : Nat) : Int) - (((numL n).map numV).length : Int)); rw [hlen]; omega)]
  have hf : (fitI ((numL n).map numV) (n + 2 + 1)).set (n + 2) (numV mOne) = its1 n := by
    unfold fitI its1
    rw [if_neg (by rw [hlen]; omega), hlen, show n + 2 + 1 - n = 3 by omega, List.set_append_right _ _ (by rw [hlen]; omega), hlen, show n + 2 - n = 2 by omega]
    rfl
  unfold a2 a1
  show (0, (⟨[aObj ((fitI ((numL n).map numV) (n + 2 + 1)).set (n + 2) (numV mOne))], 10000 - (1 + (n : Int)) - (((n + 2 + 1 : Nat) : Int) - (((numL n).map numV).length : Int))⟩ : HSt)) = _
  rw [hf, hlen]
  congr 2
  omega
theorem ae2 (n c : Nat) (h : n < 256) (hc : c < 256) : putH (a2 n) 0 lengthKey (numV (fl c)) = (0, a3 n c) := by
  obtain ⟨e0, e1, e2⟩ := fl_ok c hc
  show putO (a2 n) 0 lengthKey (numV (fl c)) (aObj (its1 n)) = _
  unfold putO
  rw [right_num, if_neg (by decide), if_pos ⟨rfl, rfl⟩, if_pos e1]
  show resizeS (a2 n) (0 : Int).toNat (aObj (its1 n)) (cutN (fl c)) = _
  rw [e2]
  unfold resizeS
  rw [if_neg (show ¬ ((a2 n).left < (c : Int) - ((aObj (its1 n)).items.length : Int)) by show ¬ ((10000 : Int) - (1 + n) - 3 < (c : Int) - ((its1 n).length : Int)); rw [its1_len]; omega)]
  unfold a3 a2
  show (0, (⟨[aObj (fitI (its1 n) c)], 10000 - (1 + (n : Int)) - 3 - ((c : Int) - ((its1 n).length : Int))⟩ : HSt)) = _
  rw [its1_len]
  rfl
theorem its_num (n c i : Nat) (hi : i < n) (hc : i < c) : (fitI (its1 n) c)[i]? = some (numV (fl i)) := by
  have hb : (its1 n)[i]? = some (numV (fl i)) := by
    unfold its1
    rw [List.getElem?_append_left (by rw [List.length_map, numL_len]; exact hi)]
    unfold numL
    simp [hi]
  unfold fitI
  split
  · rw [List.getElem?_take_of_lt hc, hb]
  · rw [List.getElem?_append_left (by rw [its1_len]; omega), hb]
theorem ae3 (n c : Nat) (h : n < 256) (hc : c < 256) : ownS (a3 n c) 0 (key10 c) = (Val.zero, false) := by
  have hi := idx_key10 c (by omega)
  unfold ownS
  rw [show objS (a3 n c) 0 = some (aObj (fitI (its1 n) c)) from rfl]
  simp only
  unfold ownO
  rw [if_pos (show (aObj (fitI (its1 n) c)).kind = 2 from rfl), if_neg (key10_len c (by omega)), hi, if_pos rfl]
  simp only [Int.toNat_natCast]
  rw [show (aObj (fitI (its1 n) c)).items = fitI (its1 n) c from rfl, List.getElem?_eq_none (by rw [fitI_len]; exact Nat.le_refl _)]
theorem keys1 (n : Nat) : keysS (aObj (its1 n)) = keyL (n + 3) := by
  unfold keysS
  rw [show (aObj (its1 n)).items = its1 n from rfl, its1_len]
  show keyL (n + 3) ++ [] = _
  rw [List.append_nil]
theorem afine (its : List Val) (l : Int) (h0 : 0 ≤ l) (h1 : l ≤ 10000) (hl : its.length ≤ 100000) : Fine ⟨[aObj its], l⟩ :=
  tfit [aObj its] l h0 h1 (show (1 : Nat) ≤ 10000 by decide) (fun o ho => by
    obtain rfl := List.mem_singleton.1 ho
    exact ⟨hl, by show (0 : Nat) ≤ 100000; omega⟩)
end Go.Proofs.YtnfobcedbfbbiaaDoor.Hp
