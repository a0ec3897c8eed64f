/- UtfNext, the plain law: at each place of every text the two decoders tell one character. -/
import Derived.Test.YtpclncikhlameaaDoorPureA
namespace Go.Proofs.YtpclncikhlameaaDoor.Pure
open Go.RowKit Go.Proofs.YtpclncikhlameaaDoor.PUtf Go.Proofs.YtpclncikhlameaaDoorW.PrintWords Go.Proofs.YtpclncikhlameaaDoorW.PrintLast Go.Proofs.YtpclncikhlameaaDoor.Hand
set_option maxRecDepth 100000 in
theorem awake20 : pennantlaw01_awake.f 20 = some true := by decide +kernel
theorem awake_true (k : Nat) (hk : 20 ≤ k) : pennantlaw01_awake.f k = some true := at_rounds pennantlaw01_awake.mono hk awake20
theorem UtfNext : pennantlaw01_UtfNext.Pure := by
  intro s i hs _
  refine ⟨40, ?_⟩
  unfold pennantlaw01_UtfNext.f
  rw [awake_true 40 (by omega)]
  simp only [Option.bind_some, if_true]
  by_cases h : 0 ≤ i ∧ i < s.size
  · obtain ⟨n, rfl⟩ := Int.eq_ofNat_of_zero_le h.1
    rw [next_in s n (by omega) hs 40 (by omega), char_in s n (by omega) hs 40 (by omega)]
    simp only [Option.bind_some, if_true]
    unfold nxt
    have hr := dec_range s n
    split
    · simp
    · simp; omega
  · rw [next_out s i (by omega) 40 (by omega), char_out s i (by omega) 40 (by omega)]
    simp
end Go.Proofs.YtpclncikhlameaaDoor.Pure
