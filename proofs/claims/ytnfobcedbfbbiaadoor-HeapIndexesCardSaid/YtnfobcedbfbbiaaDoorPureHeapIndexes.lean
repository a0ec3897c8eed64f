/- HeapIndexes: the walk, every premise of it shown. -/
import Derived.Test.YtnfobcedbfbbiaaDoorHeapO
import Derived.Test.YtnfobcedbfbbiaaDoorIxI
namespace Go.Proofs.YtnfobcedbfbbiaaDoor.Hp
open Go.RowKit Go.Proofs.YtnfobcedbfbbiaaDoorW.PrintWords Go.Proofs.YtnfobcedbfbbiaaDoorW.PrintLast Go.Proofs.YtnfobcedbfbbiaaDoorW.PrintMore Go.Proofs.YtnfobcedbfbbiaaDoor.Hand Go.Proofs.YtnfobcedbfbbiaaDoor.PIx Go.Proofs.YtnfobcedbfbbiaaDoor.Pure
theorem pennantlaw08_HeapIndexes.walk (key : ByteArray) (n : Int) (w : World) (hT : Tabs w) (h0 : -9223372036854775808 ≤ n) (h1 : n ≤ 9223372036854775807) :
    Calls Tryd.prog 3 #[.string key, .int .i64 n] w fun e w' => e = .returned (.bool true) ∧ Below w.heap.size w w' := by
  by_cases hl : 400 < key.size
  · exact indexes_long key n w hl
  · obtain ⟨K1, g1⟩ := (rindex_ev key (by omega)).rounds
    obtain ⟨K2, g2⟩ := (key_is n h0 h1).rounds
    obtain ⟨K3, g3⟩ := (rkey_is n h0 h1).rounds
    have hlen := Lib.itoa_length_le n h0 h1
    obtain ⟨i1, i2⟩ := rIdx_is key
    obtain ⟨k1, k2⟩ := idxR_key n h0 h1
    exact indexes_walk key n w hT hl (rIdx key) (bytesOf (wideL (Lib.itoa n))) K1 K2 K3 g1 g2 g3 i1 i2 k1 k2 (by rw [bytesOf_size, wideL_len]; omega)
theorem wf_lo {n : Int} (h : (Lit.int .i64 n).wf = true) : -9223372036854775808 ≤ n := by
  unfold Lit.wf at h
  rw [Bool.and_eq_true] at h
  exact of_decide_eq_true h.1
theorem wf_hi {n : Int} (h : (Lit.int .i64 n).wf = true) : n ≤ 9223372036854775807 := by
  unfold Lit.wf at h
  rw [Bool.and_eq_true] at h
  exact of_decide_eq_true h.2
end Go.Proofs.YtnfobcedbfbbiaaDoor.Hp
