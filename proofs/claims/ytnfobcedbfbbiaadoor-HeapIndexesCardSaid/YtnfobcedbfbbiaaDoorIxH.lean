/- The document's At and the loop of its Index. -/
import Derived.Test.YtnfobcedbfbbiaaDoorIxG
namespace Go.Proofs.YtnfobcedbfbbiaaDoor.Pure
open Go.RowKit Go.Proofs.YtnfobcedbfbbiaaDoorW.PrintWords Go.Proofs.YtnfobcedbfbbiaaDoorW.PrintLast Go.Proofs.YtnfobcedbfbbiaaDoorW.PrintMore Go.Proofs.YtnfobcedbfbbiaaDoor.Hand Go.Proofs.YtnfobcedbfbbiaaDoor.PIx
set_option linter.unusedVariables false
theorem rat_in (w : ByteArray) (i : Nat) (hs : w.size ≤ 1000) (h : i < w.size / 2) : pennantref01_At.f w i = some (U w i : Int) := by
  have h0 := byte_lt w (2 * i); have h1 := byte_lt w (2 * i + 1)
  have e1 : wrap64 (2 * (i : Int)) = ((2 * i : Nat) : Int) := by rw [wrap_id (by omega) (by omega)]; omega
  have e2 : wrap64 (((2 * i : Nat) : Int) + 1) = ((2 * i + 1 : Nat) : Int) := by rw [wrap_id (by omega) (by omega)]; omega
  have e3 : wrap64 ((wrap64 ((w.size : Int) / 2)) - 1) = (w.size : Int) / 2 - 1 := by unfold wrap64; omega
  unfold pennantref01_At.f
  rw [if_neg (by omega), e3, if_neg (by omega), e1, if_pos (by omega), if_pos (by omega), e2, if_pos (by omega), if_pos (by omega), bt_get, bt_get,
    wrap_id (x := ((w.get! (2 * i)).toNat : Int)) (by omega) (by omega), wrap_id (x := ((w.get! (2 * i + 1)).toNat : Int)) (by omega) (by omega), wrap_id (x := ((w.get! (2 * i)).toNat : Int) * 256) (by omega) (by omega), wrap_id (by omega) (by omega)]
  unfold U
  rw [Int.natCast_add, Int.natCast_mul]
  rfl
end Go.Proofs.YtnfobcedbfbbiaaDoor.Pure
