/- The digits of a number: the document's text of Digits gives the numeral. -/
import Derived.Test.YtnfobcedbfbbiaaDoorIxA
import Derived.Lib.ItoaLen
namespace Go.Proofs.YtnfobcedbfbbiaaDoor.Pure
open Go.RowKit Go.Proofs.YtnfobcedbfbbiaaDoorW.PrintWords Go.Proofs.YtnfobcedbfbbiaaDoorW.PrintLast Go.Proofs.YtnfobcedbfbbiaaDoorW.PrintMore Go.Proofs.YtnfobcedbfbbiaaDoor.Hand Go.Proofs.YtnfobcedbfbbiaaDoor.PIx
set_option linter.unusedVariables false
def bytesOf (l : List UInt8) : ByteArray := ⟨l.toArray⟩
theorem bytesOf_append (a b : List UInt8) : bytesOf (a ++ b) = bytesOf a ++ bytesOf b := by
  apply ByteArray.ext
  simp [bytesOf]
theorem bytesOf_size (a : List UInt8) : (bytesOf a).size = a.length := by simp [bytesOf, ByteArray.size]
theorem ofNums_one (x : Nat) (h : x < 256) : strOfNums [(x : Int)] = bytesOf [UInt8.ofNat x] := by
  unfold strOfNums bytesOf
  apply ByteArray.ext
  simp
theorem digits_step (u : Nat) (x0 : Int) (acc sign : ByteArray) (k : Nat) (hx : x0 = (u : Int) ∨ x0 = -(u : Int)) (h0 : -9223372036854775808 ≤ x0) (h1 : x0 ≤ 9223372036854775807) (ha : acc.size ≤ 1000) (hs : sign.size ≤ 1000) :
    pennantref08_Digits.l0 (k + 1) x0 acc sign = (if u / 10 = 0 then some (sign ++ (bytesOf [UInt8.ofNat (48 + u % 10)] ++ acc)) else pennantref08_Digits.l0 k (wrap64 (Int.tdiv x0 10)) (bytesOf [UInt8.ofNat (48 + u % 10)] ++ acc) sign) := by
  have hsz : (bytesOf [UInt8.ofNat (48 + u % 10)]).size = 1 := bytesOf_size _
  have hd : wrap64 (Int.tdiv x0 10) = 0 ↔ u / 10 = 0 := by
    have hq : ((u : Int)).tdiv 10 = ((u / 10 : Nat) : Int) := rfl
    unfold wrap64
    rcases hx with rfl | rfl
    · rw [hq]; omega
    · rw [Int.neg_tdiv, hq]; omega
  have hm : (Int.tmod x0 10 < 0 → (wrap64 (48 + (wrap64 (-(Int.tmod x0 10))))) % 256 = ((48 + u % 10 : Nat) : Int)) ∧ (¬ Int.tmod x0 10 < 0 → (wrap64 (48 + (Int.tmod x0 10))) % 256 = ((48 + u % 10 : Nat) : Int)) := by
    have ht : ((u : Int)).tmod 10 = ((u % 10 : Nat) : Int) := rfl
    unfold wrap64
    rcases hx with rfl | rfl
    · rw [ht]; constructor <;> intro h <;> omega
    · rw [Int.neg_tmod, ht]; constructor <;> intro h <;> omega
  simp only [pennantref08_Digits.l0]
  by_cases c : Int.tmod x0 10 < 0
  · rw [if_pos c, bsome, hm.1 c, ofNums_one _ (by omega), hsz, if_pos (by omega)]
    by_cases d : u / 10 = 0
    · rw [if_pos d, if_pos (hd.2 d), if_pos (by omega)]
    · rw [if_neg d, if_neg (fun e => d (hd.1 e))]
  · rw [if_neg c, bsome, hm.2 c, ofNums_one _ (by omega), hsz, if_pos (by omega)]
    by_cases d : u / 10 = 0
    · rw [if_pos d, if_pos (hd.2 d), if_pos (by omega)]
    · rw [if_neg d, if_neg (fun e => d (hd.1 e))]
theorem digits_go : ∀ (u : Nat) (x0 : Int) (acc sign : ByteArray), (x0 = (u : Int) ∨ x0 = -(u : Int)) → -9223372036854775808 ≤ x0 → x0 ≤ 9223372036854775807 → acc.size + Lib.nDigits u ≤ 1000 → sign.size ≤ 1000 → Ev (fun k => pennantref08_Digits.l0 k x0 acc sign) (sign ++ (bytesOf (Lib.decDigits u) ++ acc)) := by
  intro u
  induction u using Nat.strongRecOn with
  | _ u ih =>
    intro x0 acc sign hx h0 h1 ha hs
    by_cases d : u / 10 = 0
    · refine ⟨1, fun k hk => ?_⟩
      obtain ⟨m, rfl⟩ : ∃ m, k = m + 1 := ⟨k - 1, by omega⟩
      show pennantref08_Digits.l0 (m + 1) x0 acc sign = _
      rw [digits_step u x0 acc sign m hx h0 h1 (by omega) hs, if_pos d, Lib.decDigits_one (by omega), show u % 10 = u by omega]
    · skip
      have hx' : Int.tdiv x0 10 = ((u / 10 : Nat) : Int) ∨ Int.tdiv x0 10 = -((u / 10 : Nat) : Int) := by
        rcases hx with rfl | rfl
        · exact .inl rfl
        · right; rw [Int.neg_tdiv]; rfl
      have hw : wrap64 (Int.tdiv x0 10) = Int.tdiv x0 10 := by
        generalize Int.tdiv x0 10 = t at hx'
        unfold wrap64
        omega
      have hb0 : -9223372036854775808 ≤ Int.tdiv x0 10 ∧ Int.tdiv x0 10 ≤ 9223372036854775807 := by
        generalize Int.tdiv x0 10 = t at hx'
        omega
      have hn : Lib.nDigits u = Lib.nDigits (u / 10) + 1 := Lib.nDigits_big (by omega)
      obtain ⟨K, g⟩ := ih (u / 10) (by omega) (Int.tdiv x0 10) (bytesOf [UInt8.ofNat (48 + u % 10)] ++ acc) sign hx' hb0.1 hb0.2 (by rw [ByteArray.size_append, bytesOf_size]; simp only [List.length_cons, List.length_nil]; omega) hs
      refine ⟨K + 1, fun k hk => ?_⟩
      obtain ⟨m, rfl⟩ : ∃ m, k = m + 1 := ⟨k - 1, by omega⟩
      simp only at g
      show pennantref08_Digits.l0 (m + 1) x0 acc sign = _
      rw [digits_step u x0 acc sign m hx h0 h1 (by omega) hs, if_neg d, hw, g m (by omega)]
      have hdd : Lib.decDigits u = Lib.decDigits (u / 10) ++ [UInt8.ofNat (48 + u % 10)] := by rw [Lib.decDigits, dif_neg (by omega)]
      rw [hdd, bytesOf_append, ByteArray.append_assoc]
/-- The document's Digits gives the numeral. -/
theorem digits_is (n : Int) (h0 : -9223372036854775808 ≤ n) (h1 : n ≤ 9223372036854775807) : Ev (fun k => pennantref08_Digits.f k n) (bytesOf (Lib.itoa n)) := by
  have hlen := Lib.itoa_length_le n h0 h1
  by_cases c : n < 0
  · have hi : Lib.itoa n = 45 :: Lib.decDigits n.natAbs := by unfold Lib.itoa; rw [if_pos c]
    have hl : Lib.nDigits n.natAbs ≤ 20 := by rw [hi] at hlen; simp only [List.length_cons, Lib.decDigits_length] at hlen; omega
    obtain ⟨K, g⟩ := digits_go n.natAbs n ⟨#[]⟩ ⟨#[45]⟩ (by omega) h0 h1 (by show 0 + _ ≤ 1000; omega) (by decide)
    refine ⟨K + 1, fun k hk => ?_⟩
    obtain ⟨m, rfl⟩ : ∃ m, k = m + 1 := ⟨k - 1, by omega⟩
    simp only at g
    show pennantref08_Digits.f (m + 1) n = _
    unfold pennantref08_Digits.f
    rw [if_pos c]
    simp only [pennantref08_Digits.j0]
    rw [g m (by omega), hi, show (45 :: Lib.decDigits n.natAbs) = [45] ++ Lib.decDigits n.natAbs from rfl, bytesOf_append]
    congr 1
    apply ByteArray.ext
    simp [bytesOf]
  · have hi : Lib.itoa n = Lib.decDigits n.toNat := by unfold Lib.itoa; rw [if_neg c]
    have hl : Lib.nDigits n.toNat ≤ 21 := by rw [hi, Lib.decDigits_length] at hlen; exact hlen
    obtain ⟨K, g⟩ := digits_go n.toNat n ⟨#[]⟩ ⟨#[]⟩ (by omega) h0 h1 (by show 0 + _ ≤ 1000; omega) (by decide)
    refine ⟨K + 1, fun k hk => ?_⟩
    obtain ⟨m, rfl⟩ : ∃ m, k = m + 1 := ⟨k - 1, by omega⟩
    simp only at g
    show pennantref08_Digits.f (m + 1) n = _
    unfold pennantref08_Digits.f
    rw [if_neg c]
    simp only [pennantref08_Digits.j0]
    rw [g m (by omega), hi]
    congr 1
    apply ByteArray.ext
    simp [bytesOf]
end Go.Proofs.YtnfobcedbfbbiaaDoor.Pure
