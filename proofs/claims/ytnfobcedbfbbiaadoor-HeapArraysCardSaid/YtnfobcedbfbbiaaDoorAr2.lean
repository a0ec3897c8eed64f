/- HeapArrays: at every input. -/
import Derived.Test.YtnfobcedbfbbiaaDoorAr1
namespace Go.Proofs.YtnfobcedbfbbiaaDoor.Hp
open Go.RowKit Go.Proofs.YtnfobcedbfbbiaaDoor.Hand
theorem wf_u8 {n : Int} (h : (Lit.int .u8 n).wf = true) : ∃ m : Nat, n = (m : Int) ∧ m < 256 := by
  unfold Lit.wf at h
  rw [Bool.and_eq_true] at h
  have h0 : (0 : Int) ≤ n := of_decide_eq_true h.1
  have h1 : n ≤ 255 := of_decide_eq_true h.2
  exact ⟨n.toNat, by omega, by omega⟩
theorem pennantlaw08_HeapArrays.walk (a b : Int) (w : World) (hT : Tabs w) (ha : (Lit.int .u8 a).wf = true) (hb : (Lit.int .u8 b).wf = true) :
    Calls Tryd.prog 4 #[.int .u8 a, .int .u8 b] w fun e w' => e = .returned (.bool true) ∧ Below w.heap.size w w' := by
  obtain ⟨n, rfl, hn⟩ := wf_u8 ha
  obtain ⟨c, rfl, hc⟩ := wf_u8 hb
  exact arrays_walk n c hn hc w hT
end Go.Proofs.YtnfobcedbfbbiaaDoor.Hp
