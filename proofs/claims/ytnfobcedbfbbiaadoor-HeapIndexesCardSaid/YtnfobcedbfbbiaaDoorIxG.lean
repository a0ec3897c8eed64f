/- The document's Index of a key, toward a plain function of its units. -/
import Derived.Test.YtnfobcedbfbbiaaDoorIxF
namespace Go.Proofs.YtnfobcedbfbbiaaDoor.Pure
open Go.RowKit Go.Proofs.YtnfobcedbfbbiaaDoorW.PrintWords Go.Proofs.YtnfobcedbfbbiaaDoorW.PrintLast Go.Proofs.YtnfobcedbfbbiaaDoorW.PrintMore Go.Proofs.YtnfobcedbfbbiaaDoor.Hand Go.Proofs.YtnfobcedbfbbiaaDoor.PIx
set_option linter.unusedVariables false
/-- A list of digits without a leading zero is the numeral of its number. -/
def valD (us : List Nat) : Nat := us.foldl (fun n u => n * 10 + (u - 48)) 0
theorem valD_snoc (us : List Nat) (u : Nat) : valD (us ++ [u]) = valD us * 10 + (u - 48) := by
  unfold valD
  rw [List.foldl_append]
  rfl
/-- A list's end cut off. -/
theorem snoc_ind {P : List Nat → Prop} (h0 : P []) (h1 : ∀ us u, P us → P (us ++ [u])) : ∀ us, P us := by
  intro us
  generalize hn : us.length = n
  induction n generalizing us with
  | zero => rw [List.eq_nil_of_length_eq_zero hn]; exact h0
  | succ n ih =>
    have hne : us ≠ [] := fun e => by rw [e] at hn; simp at hn
    rw [← List.dropLast_concat_getLast hne]
    exact h1 _ _ (ih _ (by rw [List.length_dropLast]; omega))
theorem valD_pos (us : List Nat) (hd : ∀ u ∈ us, 48 ≤ u ∧ u ≤ 57) (h : ∃ u t, us = u :: t ∧ u ≠ 48) : 0 < valD us := by
  revert hd h
  refine snoc_ind (P := fun us => (∀ u ∈ us, 48 ≤ u ∧ u ≤ 57) → (∃ u t, us = u :: t ∧ u ≠ 48) → 0 < valD us) ?_ ?_ us
  · rintro _ ⟨u, t, e, _⟩
    cases e
  · intro us u ih hd ⟨u1, t, e, hne⟩
    rw [valD_snoc]
    cases us with
    | nil =>
      simp only [List.nil_append, List.cons.injEq] at e
      have := hd u1 (by rw [e.1]; simp)
      rw [e.1]
      omega
    | cons a b =>
      simp only [List.cons_append, List.cons.injEq] at e
      have := ih (fun x hx => hd x (List.mem_append.2 (.inl hx))) ⟨a, b, rfl, by rw [e.1]; exact hne⟩
      omega
theorem dec_val (us : List Nat) (hd : ∀ u ∈ us, 48 ≤ u ∧ u ≤ 57) (h : ∃ u t, us = u :: t ∧ (u ≠ 48 ∨ t = [])) : (Lib.decDigits (valD us)).map UInt8.toNat = us := by
  revert hd h
  refine snoc_ind (P := fun us => (∀ u ∈ us, 48 ≤ u ∧ u ≤ 57) → (∃ u t, us = u :: t ∧ (u ≠ 48 ∨ t = [])) → (Lib.decDigits (valD us)).map UInt8.toNat = us) ?_ ?_ us
  · rintro _ ⟨u, t, e, _⟩
    cases e
  · intro us u ih hd ⟨u1, t, e, hne⟩
    have hu := hd u (List.mem_append.2 (.inr (List.mem_singleton.2 rfl)))
    rw [valD_snoc]
    cases us with
    | nil =>
      show (Lib.decDigits (0 * 10 + (u - 48))).map UInt8.toNat = [u]
      rw [Lib.decDigits_one (by omega), List.map_cons, List.map_nil, digit_nat _ (by omega)]
      congr 1
      omega
    | cons a b =>
      simp only [List.cons_append, List.cons.injEq] at e
      have hne2 : a ≠ 48 := by
        rcases hne with c | c
        · rw [e.1]; exact c
        · rw [c] at e; simp at e
      have hp := valD_pos (a :: b) (fun x hx => hd x (List.mem_append.2 (.inl hx))) ⟨a, b, rfl, hne2⟩
      have hi := ih (fun x hx => hd x (List.mem_append.2 (.inl hx))) ⟨a, b, rfl, .inl hne2⟩
      generalize valD (a :: b) = n at *
      rw [Lib.decDigits, dif_neg (by omega), List.map_append, show (n * 10 + (u - 48)) / 10 = n by omega, hi, List.map_cons, List.map_nil, digit_nat _ (by omega)]
      congr 2
      omega
end Go.Proofs.YtnfobcedbfbbiaaDoor.Pure
