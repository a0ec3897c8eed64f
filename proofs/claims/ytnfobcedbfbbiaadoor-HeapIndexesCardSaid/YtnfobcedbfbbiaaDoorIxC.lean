/- Of, at bytes: each byte is a unit. -/
import Derived.Test.YtnfobcedbfbbiaaDoorIxB
namespace Go.Proofs.YtnfobcedbfbbiaaDoor.Pure
open Go.RowKit Go.Proofs.YtnfobcedbfbbiaaDoorW.PrintWords Go.Proofs.YtnfobcedbfbbiaaDoorW.PrintLast Go.Proofs.YtnfobcedbfbbiaaDoorW.PrintMore Go.Proofs.YtnfobcedbfbbiaaDoor.Hand Go.Proofs.YtnfobcedbfbbiaaDoor.PIx
set_option linter.unusedVariables false
def wideL (l : List UInt8) : List UInt8 := l.flatMap fun b => [0, b]
theorem unit_is (b : UInt8) : pennantref01_Unit.f (wrap64 (b.toNat : Int)) = some (bytesOf [0, b]) := by
  have hb := b.toNat_lt
  have e1 : wrap64 (b.toNat : Int) = (b.toNat : Int) := by unfold wrap64; omega
  have e2 : (wrap64 (Int.tdiv (b.toNat : Int) 256)) % 256 = 0 := by
    rw [show Int.tdiv (b.toNat : Int) 256 = ((b.toNat / 256 : Nat) : Int) from rfl]; unfold wrap64; omega
  have e3 : (Int.tmod (b.toNat : Int) 256) % 256 = (b.toNat : Int) := by
    rw [show Int.tmod (b.toNat : Int) 256 = ((b.toNat % 256 : Nat) : Int) from rfl]; omega
  unfold pennantref01_Unit.f
  rw [e1, e2, e3]
  congr 1
  unfold strOfNums bytesOf
  apply ByteArray.ext
  simp
theorem bt_bytesOf (l : List UInt8) (i : Nat) (h : i < l.length) : bt (bytesOf l) (i : Int) = (l[i].toNat : Int) := by
  unfold bt
  simp only [Int.toNat_natCast]
  rw [dif_pos (by rw [bytesOf_size]; exact h)]
  rfl
theorem of_go (l : List UInt8) (hl : l.length ≤ 1000) : ∀ (d i : Nat) (acc : ByteArray), i + d = l.length → acc.size ≤ 2 * i → Ev (fun k => pennantref01_Of.l0 k (bytesOf l) acc (i : Int)) (acc ++ bytesOf (wideL (l.drop i))) := by
  intro d
  induction d with
  | zero =>
    intro i acc hi ha
    refine ⟨1, fun k hk => ?_⟩
    obtain ⟨m, rfl⟩ : ∃ m, k = m + 1 := ⟨k - 1, by omega⟩
    show pennantref01_Of.l0 (m + 1) (bytesOf l) acc (i : Int) = _
    simp only [pennantref01_Of.l0]
    rw [if_neg (by rw [bytesOf_size]; omega), List.drop_eq_nil_of_le (by omega)]
    congr 1
    apply ByteArray.ext
    simp [bytesOf, wideL]
  | succ d ih =>
    intro i acc hi ha
    have hil : i < l.length := by omega
    obtain ⟨K, g⟩ := ih (i + 1) (acc ++ bytesOf [0, l[i]]) (by omega) (by rw [ByteArray.size_append, bytesOf_size]; simp only [List.length_cons, List.length_nil]; omega)
    refine ⟨K + 1, fun k hk => ?_⟩
    obtain ⟨m, rfl⟩ : ∃ m, k = m + 1 := ⟨k - 1, by omega⟩
    show pennantref01_Of.l0 (m + 1) (bytesOf l) acc (i : Int) = _
    simp only at g
    simp only [pennantref01_Of.l0]
    rw [if_pos (by rw [bytesOf_size]; omega), if_pos (by omega), bt_bytesOf l i hil, unit_is, bsome, if_pos (by rw [bytesOf_size]; simp only [List.length_cons, List.length_nil]; omega), show wrap64 ((i : Int) + 1) = ((i + 1 : Nat) : Int) by unfold wrap64; omega, g m (by omega), List.drop_eq_getElem_cons hil]
    congr 1
    unfold wideL
    rw [List.flatMap_cons, bytesOf_append, ByteArray.append_assoc]
theorem of_is (l : List UInt8) (hl : l.length ≤ 1000) : Ev (fun k => pennantref01_Of.f k (bytesOf l)) (bytesOf (wideL l)) := by
  obtain ⟨K, g⟩ := of_go l hl l.length 0 ⟨#[]⟩ (by omega) (by decide)
  refine ⟨K, fun k hk => ?_⟩
  show pennantref01_Of.f k (bytesOf l) = _
  unfold pennantref01_Of.f
  simp only at g
  rw [show (0 : Int) = ((0 : Nat) : Int) from rfl, g k hk, List.drop_zero]
  rw [show (⟨#[]⟩ : ByteArray) ++ bytesOf (wideL l) = bytesOf (wideL l) from by apply ByteArray.ext; simp [bytesOf]]
/-- The document's Key. -/
theorem rkey_is (n : Int) (h0 : -9223372036854775808 ≤ n) (h1 : n ≤ 9223372036854775807) : Ev (fun k => pennantref08_Key.f k n) (bytesOf (wideL (Lib.itoa n))) := by
  have hlen := Lib.itoa_length_le n h0 h1
  obtain ⟨K1, g1⟩ := digits_is n h0 h1
  obtain ⟨K2, g2⟩ := of_is (Lib.itoa n) (by omega)
  simp only at g1 g2
  refine ⟨K1 + K2, fun k hk => ?_⟩
  show pennantref08_Key.f k n = _
  unfold pennantref08_Key.f
  rw [g1 k (by omega), bsome, g2 k (by omega), bsome]
theorem wideL_len (l : List UInt8) : (wideL l).length = 2 * l.length := by
  unfold wideL
  induction l with
  | nil => rfl
  | cons b t ih => rw [List.flatMap_cons, List.length_append, ih]; simp only [List.length_cons, List.length_nil]; omega
theorem wideL_get (l : List UInt8) : ∀ i, i < l.length → (wideL l)[2 * i]? = some 0 ∧ (wideL l)[2 * i + 1]? = l[i]? := by
  unfold wideL
  induction l with
  | nil => intro i hi; simp at hi
  | cons b t ih =>
    intro i hi
    rw [List.flatMap_cons]
    cases i with
    | zero => exact ⟨rfl, rfl⟩
    | succ i =>
      have := ih i (by simpa using hi)
      rw [show 2 * (i + 1) = 2 * i + 1 + 1 by omega, show 2 * i + 1 + 1 + 1 = (2 * i + 1) + 1 + 1 from rfl]
      exact this
theorem get_bytesOf (l : List UInt8) (j : Nat) (b : UInt8) (h : l[j]? = some b) : (bytesOf l).get! j = b := by
  have hj := (List.getElem?_eq_some_iff.1 h).1
  have h2 := (List.getElem?_eq_some_iff.1 h).2
  have : (bytesOf l).get! j = (l.toArray)[j]! := rfl
  rw [this, getElem!_pos _ _ (by simpa using hj)]
  simpa using h2
theorem U_wide (l : List UInt8) (i : Nat) (h : i < l.length) : U (bytesOf (wideL l)) i = (l[i]).toNat := by
  obtain ⟨g0, g1⟩ := wideL_get l i h
  rw [List.getElem?_eq_getElem h] at g1
  unfold U
  rw [get_bytesOf _ _ _ g0, get_bytesOf _ _ _ g1]
  simp
theorem units_wide (l : List UInt8) : units (bytesOf (wideL l)) = l.map UInt8.toNat := by
  unfold units
  rw [bytesOf_size, wideL_len]
  apply List.ext_getElem?
  intro n
  by_cases h : n < l.length
  · rw [List.getElem?_map, List.getElem?_range (by omega), List.getElem?_map, List.getElem?_eq_getElem h]
    simp [U_wide l n h]
  · rw [List.getElem?_eq_none (by simp; omega), List.getElem?_eq_none (by simp; omega)]
end Go.Proofs.YtnfobcedbfbbiaaDoor.Pure
