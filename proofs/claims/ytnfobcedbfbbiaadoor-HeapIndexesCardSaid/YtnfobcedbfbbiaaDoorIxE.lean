/- Wide at plain bytes; the program's Key is the document's. -/
import Derived.Test.YtnfobcedbfbbiaaDoorIxD
namespace Go.Proofs.YtnfobcedbfbbiaaDoor.Pure
open Go.RowKit Go.Proofs.YtnfobcedbfbbiaaDoorW.PrintWords Go.Proofs.YtnfobcedbfbbiaaDoorW.PrintLast Go.Proofs.YtnfobcedbfbbiaaDoorW.PrintMore Go.Proofs.YtnfobcedbfbbiaaDoor.Hand Go.Proofs.YtnfobcedbfbbiaaDoor.PIx
set_option linter.unusedVariables false
theorem get!_extract (s : ByteArray) (i j : Nat) : (s.extract i s.size).get! j = s.get! (i + j) := by
  by_cases h : i + j < s.size
  · have h2 : j < (s.extract i s.size).size := by rw [ByteArray.size_extract]; omega
    rw [Utf8W.get!_of_lt _ _ h2, Utf8W.get!_of_lt _ _ h]
    simp [ByteArray.getElem_extract]
  · have h2 : (s.extract i s.size).size ≤ j := by rw [ByteArray.size_extract]; omega
    rw [get!_out _ _ h2, get!_out _ _ (by omega)]
theorem dec_plain (s : ByteArray) (i : Nat) (h : i < s.size) (hb : (s.get! i).toNat < 128) : Lib.decodeGo (s.extract i s.size) = ((s.get! i).toNat, 1) := by
  have hsz : (s.extract i s.size).size = s.size - i := by rw [ByteArray.size_extract]; omega
  unfold Lib.decodeGo
  rw [if_neg (by omega), Lib.decode_at, hsz]
  simp only [get!_extract, Nat.add_zero]
  unfold Lib.decodeN
  first | rw [if_pos hb] | (rw [if_neg (by omega), if_pos hb]) | (repeat' split <;> first | rfl | omega)
theorem next_plain (s : ByteArray) (i : Nat) (h : i < s.size) (hs : s.size ≤ 1000) (hb : (s.get! i).toNat < 128) (k : Nat) (hk : 1 ≤ k) : utf_Next.f k s i = some (((s.get! i).toNat : Int), 1, true) := by
  obtain ⟨k, rfl⟩ : ∃ m, k = m + 1 := ⟨k - 1, by omega⟩
  unfold utf_Next.f
  rw [if_neg (by omega)]
  simp only [utf_Next.j0]
  rw [if_neg (by simp; omega), if_pos (by omega), if_pos (by omega)]
  simp only [Int.toNat_natCast, utf8_DecodeRuneInString.f]
  rw [dec_plain s i h hb, bsome]
  simp only
  rw [if_neg (by omega), wrap_id (by omega) (by omega)]
  rfl
end Go.Proofs.YtnfobcedbfbbiaaDoor.Pure
