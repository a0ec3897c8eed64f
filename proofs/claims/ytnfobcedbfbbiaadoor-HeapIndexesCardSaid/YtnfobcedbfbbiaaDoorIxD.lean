/- Index of a number's key. -/
import Derived.Test.YtnfobcedbfbbiaaDoorIxC
namespace Go.Proofs.YtnfobcedbfbbiaaDoor.Pure
open Go.RowKit Go.Proofs.YtnfobcedbfbbiaaDoorW.PrintWords Go.Proofs.YtnfobcedbfbbiaaDoorW.PrintLast Go.Proofs.YtnfobcedbfbbiaaDoorW.PrintMore Go.Proofs.YtnfobcedbfbbiaaDoor.Hand Go.Proofs.YtnfobcedbfbbiaaDoor.PIx
set_option linter.unusedVariables false
theorem digit_nat (d : Nat) (h : d < 10) : (UInt8.ofNat (48 + d)).toNat = 48 + d := by
  rw [UInt8.toNat_ofNat']; omega
theorem idxGo_step (d : Nat) (rest : List Nat) (m : Nat) (f : Bool) (h : d < 10) (hm : f = true ∨ 0 < m) : idxGo ((48 + d) :: rest) m f = idxGo rest (m * 10 + d) false := by
  have hn : ¬ (f = false ∧ m = 0) := by
    rintro ⟨e1, e2⟩
    rcases hm with e | e
    · rw [e] at e1; cases e1
    · omega
  rw [idxGo, if_neg (by omega), if_neg (by omega), if_neg hn]
  congr 1
  omega
theorem idxGo_dec : ∀ (u : Nat) (rest : List Nat), (rest = [] ∨ 0 < u) → idxGo ((Lib.decDigits u).map UInt8.toNat ++ rest) 0 true = idxGo rest u false := by
  intro u
  induction u using Nat.strongRecOn with
  | _ u ih =>
    intro rest hr
    by_cases c : u < 10
    · rw [Lib.decDigits_one c]
      simp only [List.map_cons, List.map_nil, List.cons_append, List.nil_append]
      rw [digit_nat u c, idxGo_step u rest 0 true c (.inl rfl)]
      congr 1
      omega
    · rw [Lib.decDigits, dif_neg c, List.map_append, List.append_assoc, ih (u / 10) (by omega) _ (.inr (by omega))]
      simp only [List.map_cons, List.map_nil, List.cons_append, List.nil_append]
      rw [digit_nat (u % 10) (by omega), idxGo_step (u % 10) rest (u / 10) false (by omega) (.inr (by omega))]
      congr 1
      omega
theorem nd_le : ∀ (d u : Nat), u < 10 ^ (d + 1) → Lib.nDigits u ≤ d + 1 := by
  intro d
  induction d with
  | zero => intro u h; rw [Lib.nDigits_small (by omega)]; omega
  | succ d ih =>
    intro u h
    by_cases c : u < 10
    · rw [Lib.nDigits_small c]; omega
    · rw [Lib.nDigits_big c]
      have := ih (u / 10) (by rw [Nat.pow_succ] at h; omega)
      omega
theorem idxR_key (n : Int) (h0 : -9223372036854775808 ≤ n) (h1 : n ≤ 9223372036854775807) :
    (idxR (bytesOf (wideL (Lib.itoa n)))).2 = decide (0 ≤ n ∧ n ≤ 2147483647) ∧ ((idxR (bytesOf (wideL (Lib.itoa n)))).2 = true → (idxR (bytesOf (wideL (Lib.itoa n)))).1 = n) := by
  unfold idxR
  rw [units_wide, bytesOf_size, wideL_len]
  by_cases c : n < 0
  · have hi : Lib.itoa n = 45 :: Lib.decDigits n.natAbs := by unfold Lib.itoa; rw [if_pos c]
    have e : idxGo ((Lib.itoa n).map UInt8.toNat) 0 true = (0, false) := by
      rw [hi, List.map_cons, idxGo, if_pos (by decide)]
    rw [e]
    have hd : decide (0 ≤ n ∧ n ≤ 2147483647) = false := decide_eq_false (by omega)
    rw [hd]
    split <;> exact ⟨rfl, fun h => by cases h⟩
  · have hi : Lib.itoa n = Lib.decDigits n.toNat := by unfold Lib.itoa; rw [if_neg c]
    have hl : (Lib.itoa n).length = Lib.nDigits n.toNat := by rw [hi, Lib.decDigits_length]
    have hp : 1 ≤ Lib.nDigits n.toNat := by
      by_cases d : n.toNat < 10
      · rw [Lib.nDigits_small d]; omega
      · rw [Lib.nDigits_big d]; omega
    have e : idxGo ((Lib.itoa n).map UInt8.toNat) 0 true = if n.toNat > 2147483647 then (0, false) else ((n.toNat : Int), true) := by
      have := idxGo_dec n.toNat [] (.inl rfl)
      rw [List.append_nil] at this
      rw [hi, this, idxGo]
    rw [e, hl]
    by_cases b : n ≤ 2147483647
    · have := nd_le 9 n.toNat (by omega)
      rw [if_pos ⟨by omega, by omega, by omega⟩, if_neg (by omega)]
      exact ⟨(decide_eq_true (by omega)).symm, fun _ => by show ((n.toNat : Int)) = n; omega⟩
    · have hd : decide (0 ≤ n ∧ n ≤ 2147483647) = false := decide_eq_false (by omega)
      rw [hd, if_pos (by omega : n.toNat > 2147483647)]
      split <;> exact ⟨rfl, fun h => by cases h⟩
end Go.Proofs.YtnfobcedbfbbiaaDoor.Pure
