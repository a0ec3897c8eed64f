/- UtfCuts and UtfJoins, the plain laws: a text that is cut in two is both parts; two texts joined are both, and are cut apart again. -/
import Derived.Test.YtpclncikhlameaaDoorPureUtfBack
import Derived.OpenShut
namespace Go.Proofs.YtpclncikhlameaaDoor.Pure
open Go.RowKit Go.Proofs.YtpclncikhlameaaDoor.PUtf Go.Proofs.YtpclncikhlameaaDoorW.PrintWords Go.Proofs.YtpclncikhlameaaDoorW.PrintLast Go.Proofs.YtpclncikhlameaaDoor.Hand
set_option linter.unusedVariables false

/-- A place, as Cut takes it: between nought and the length. -/
def clampN (x : Int) (n : Nat) : Nat := min x.toNat n
theorem clamp_is (x : Int) (n : Nat) : mn (mx x 0) (n : Int) = (clampN x n : Int) := by unfold mn mx clampN; split <;> split <;> omega
theorem wrap_big (n : Nat) (h : n ≤ 140737488351232) : wrap64 (n : Int) = n := wrap_id (by omega) (by omega)
theorem dbl (n : Nat) (h : 2 * n ≤ 140737488351232) : wrap64 (2 * (n : Int)) = ((2 * n : Nat) : Int) := wrap_big (2 * n) h
theorem extract_none (w : ByteArray) (a b : Nat) (h : b ≤ a) : w.extract a b = ⟨#[]⟩ := by
  apply ByteArray.ext
  apply Array.ext'
  simp
  omega
theorem cut_is (w : ByteArray) (x y : Int) (hs : w.size ≤ 140737488351232) : utf_Cut.f w x y = some (w.extract (2 * clampN x (w.size / 2)) (2 * clampN y (w.size / 2))) := by
  have h1 : clampN x (w.size / 2) ≤ w.size / 2 := Nat.min_le_right _ _
  have h2 : clampN y (w.size / 2) ≤ w.size / 2 := Nat.min_le_right _ _
  unfold utf_Cut.f
  rw [len_is w hs]
  simp only [bsome]
  rw [clamp_is, clamp_is]
  by_cases c : clampN y (w.size / 2) ≤ clampN x (w.size / 2)
  · rw [if_pos (by omega), extract_none _ _ _ (by omega)]
  · rw [if_neg (by omega), dbl _ (by omega), dbl _ (by omega), if_pos (by omega), if_pos (by omega), if_pos (by omega)]
    rfl
theorem extract_join (w : ByteArray) (a b c : Nat) (h : a ≤ b) (k : b ≤ c) (hc : c ≤ w.size) : w.extract a b ++ w.extract b c = w.extract a c := by
  apply ByteArray.ext
  have := hc
  simp only [ByteArray.data_append, ByteArray.data_extract]
  rw [Array.extract_append_extract]
  congr 1
  all_goals omega
theorem extract_all (w : ByteArray) (n : Nat) (h : w.size ≤ n) : w.extract 0 n = w := by
  apply ByteArray.ext
  simp only [ByteArray.data_extract]
  rw [Array.extract_eq_self_of_le]
  exact h
/-- Wide at any text of few bytes: the text's units, or none. -/
theorem wide_any (a : ByteArray) (hs : a.size ≤ 100000) (k : Nat) (hk : a.size + 2 ≤ k) :
    (∃ cs : List Nat, (∀ c ∈ cs, validC c) ∧ a = strOfNums (cs.flatMap enc8) ∧ cs.length ≤ a.size ∧ utf_Wide.f k a = some (ofU (cs.flatMap unitsN), 0, 0)) ∨ (∃ j : Int, utf_Wide.f k a = some (⟨#[]⟩, j, 10)) := by
  rw [wide_is a (by omega) k hk]
  rcases wd_cases a (a.size + 1) 0 [] (by omega) (by omega) with ⟨cs, hv, hd, he⟩ | ⟨j, h1, h2, he⟩
  · refine .inl ⟨cs, hv, ?_, ?_, ?_⟩
    · rw [← hd, List.drop_zero, strOfNums_bytesOf]
    · have g1 := enc_flat_len cs
      have g2 := congrArg List.length hd
      rw [List.drop_zero, bytesOf_length] at g2
      omega
    · rw [he, List.nil_append, flat_N]; rfl
  · exact .inr ⟨j, by rw [he]⟩
theorem ofU_append (us vs : List Nat) : ofU (us ++ vs) = ofU us ++ ofU vs := by unfold ofU; rw [List.flatMap_append, strOfNums_append]
end Go.Proofs.YtpclncikhlameaaDoor.Pure
