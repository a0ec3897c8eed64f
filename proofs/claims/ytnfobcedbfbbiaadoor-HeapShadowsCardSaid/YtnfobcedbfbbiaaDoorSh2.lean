/- HeapShadows: at every input. -/
import Derived.Test.YtnfobcedbfbbiaaDoorSh1
import Derived.Test.YtnfobcedbfbbiaaDoorHandV
namespace Go.Proofs.YtnfobcedbfbbiaaDoor.Hp
open Go.RowKit Go.Proofs.YtnfobcedbfbbiaaDoor.Hand
set_option linter.unusedVariables false
theorem pennantlaw08_HeapShadows.walk (key : ByteArray) (a b : Val) (w : World) (hT : Tabs w) (hk : key.size ≤ 140737488351232) (ha : ValOk a) (hb : ValOk b) :
    Calls Tryd.prog 5 #[.string key, a.agg, b.agg] w fun e w' => e = .returned (.bool true) ∧ Below w.heap.size w w' := by
  by_cases c : key.size % 2 ≠ 0 ∨ 400 < key.size
  · exact shadows_off key a b w c hk
  · exact shadows_on key a b w hT (by omega) (by omega)
end Go.Proofs.YtnfobcedbfbbiaaDoor.Hp
