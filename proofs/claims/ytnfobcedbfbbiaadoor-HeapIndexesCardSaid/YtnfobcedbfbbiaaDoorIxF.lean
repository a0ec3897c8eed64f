/- Wide at plain bytes; the program's Key. -/
import Derived.Test.YtnfobcedbfbbiaaDoorIxE
namespace Go.Proofs.YtnfobcedbfbbiaaDoor.Pure
open Go.RowKit Go.Proofs.YtnfobcedbfbbiaaDoorW.PrintWords Go.Proofs.YtnfobcedbfbbiaaDoorW.PrintLast Go.Proofs.YtnfobcedbfbbiaaDoorW.PrintMore Go.Proofs.YtnfobcedbfbbiaaDoor.Hand Go.Proofs.YtnfobcedbfbbiaaDoor.PIx
set_option linter.unusedVariables false
def wideN (l : List UInt8) : List Int := l.flatMap fun b => [0, (b.toNat : Int)]
theorem unit_plain (acc : List Int) (u : Nat) (hu : u < 128) (hl : acc.length ≤ 100000) : utf_unit.f acc (u : Int) = some (acc ++ [0, (u : Int)]) := by
  unfold utf_unit.f
  rw [bsome]
  simp only [List.length_cons, List.length_nil]
  rw [if_pos (by omega), show ((u : Int) / 256) % 256 = 0 by omega, show (u : Int) % 256 = (u : Int) by omega]
theorem wide_go (l : List UInt8) (hl : l.length ≤ 100) (hb : ∀ b ∈ l, b.toNat < 128) : ∀ (d i : Nat) (acc : List Int), i + d = l.length → acc.length ≤ 2 * i → Ev (fun k => utf_Wide.l0 k (bytesOf l) acc (i : Int)) (strOfNums (acc ++ wideN (l.drop i)), 0, 0) := by
  have hsz := bytesOf_size l
  intro d
  induction d with
  | zero =>
    intro i acc hi ha
    refine ⟨1, fun k hk => ?_⟩
    obtain ⟨m, rfl⟩ : ∃ m, k = m + 1 := ⟨k - 1, by omega⟩
    show utf_Wide.l0 (m + 1) (bytesOf l) acc (i : Int) = _
    simp only [utf_Wide.l0]
    rw [if_neg (by omega), List.drop_eq_nil_of_le (by omega), show wideN [] = [] from rfl, List.append_nil]
  | succ d ih =>
    intro i acc hi ha
    have hil : i < l.length := by omega
    have hg : ((bytesOf l).get! i) = l[i] := get_bytesOf l i _ (List.getElem?_eq_getElem hil)
    have h128 := hb _ (List.getElem_mem hil)
    obtain ⟨K, g⟩ := ih (i + 1) (acc ++ [0, (l[i].toNat : Int)]) (by omega) (by rw [List.length_append]; simp only [List.length_cons, List.length_nil]; omega)
    refine ⟨K + 2, fun k hk => ?_⟩
    obtain ⟨m, rfl⟩ : ∃ m, k = m + 1 := ⟨k - 1, by omega⟩
    show utf_Wide.l0 (m + 1) (bytesOf l) acc (i : Int) = _
    simp only at g
    simp only [utf_Wide.l0]
    rw [if_pos (by omega), next_plain (bytesOf l) i (by omega) (by omega) (by rw [hg]; exact h128) m (by omega), bsome, hg]
    simp only [if_true]
    rw [if_neg (by omega), unit_plain acc _ h128 (by omega), bsome, show wrap64 ((i : Int) + 1) = ((i + 1 : Nat) : Int) by unfold wrap64; omega, g m (by omega), List.drop_eq_getElem_cons hil]
    unfold wideN
    rw [List.flatMap_cons, List.append_assoc]
theorem nums_wide (l : List UInt8) : strOfNums (wideN l) = bytesOf (wideL l) := by
  unfold strOfNums bytesOf wideN wideL
  apply ByteArray.ext
  simp [List.map_flatMap]
theorem wide_plain (l : List UInt8) (hl : l.length ≤ 100) (hb : ∀ b ∈ l, b.toNat < 128) : Ev (fun k => utf_Wide.f k (bytesOf l)) (bytesOf (wideL l), 0, 0) := by
  have hsz := bytesOf_size l
  obtain ⟨K, g⟩ := wide_go l hl hb l.length 0 [] (by omega) (by simp)
  refine ⟨K, fun k hk => ?_⟩
  show utf_Wide.f k (bytesOf l) = _
  simp only at g
  have e : wrap64 (2 * ((bytesOf l).size : Int)) = ((2 * l.length : Nat) : Int) := by rw [hsz]; unfold wrap64; omega
  unfold utf_Wide.f
  rw [e, if_pos (by omega), if_pos (by omega), show (0 : Int) = ((0 : Nat) : Int) from rfl, g k hk, List.nil_append, List.drop_zero, nums_wide]
  rfl
theorem dec_small : ∀ (u : Nat), ∀ b ∈ Lib.decDigits u, b.toNat < 128 := by
  intro u
  induction u using Nat.strongRecOn with
  | _ u ih =>
    intro b hb
    by_cases c : u < 10
    · rw [Lib.decDigits_one c, List.mem_singleton] at hb
      rw [hb, digit_nat u c]; omega
    · rw [Lib.decDigits, dif_neg c, List.mem_append] at hb
      rcases hb with hb | hb
      · exact ih _ (by omega) b hb
      · rw [List.mem_singleton] at hb
        rw [hb, digit_nat _ (by omega)]; omega
theorem itoa_small (n : Int) : ∀ b ∈ Lib.itoa n, b.toNat < 128 := by
  intro b hb
  unfold Lib.itoa at hb
  split at hb
  · rcases List.mem_cons.1 hb with e | e
    · rw [e]; decide
    · exact dec_small _ b e
  · exact dec_small _ b hb
/-- The program's Key. -/
theorem key_is (n : Int) (h0 : -9223372036854775808 ≤ n) (h1 : n ≤ 9223372036854775807) : Ev (fun k => esheap_Key.f k n) (bytesOf (wideL (Lib.itoa n))) := by
  have hlen := Lib.itoa_length_le n h0 h1
  obtain ⟨K, g⟩ := wide_plain (Lib.itoa n) (by omega) (itoa_small n)
  refine ⟨K, fun k hk => ?_⟩
  show esheap_Key.f k n = _
  simp only at g
  unfold esheap_Key.f strconv_Itoa_35.f
  rw [if_pos h0, if_pos h1, bsome, show (⟨(Lib.itoa n).toArray⟩ : ByteArray) = bytesOf (Lib.itoa n) from rfl, g k hk, bsome]
end Go.Proofs.YtnfobcedbfbbiaaDoor.Pure
