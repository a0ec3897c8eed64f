/- fields.coded: more rounds change nothing. -/
import Derived.Test.YtmddmlmmmgbejaaDoorHandC
import Derived.Test.YtmddmlmmmgbejaaDoorHandD
namespace Go.Proofs.YtmddmlmmmgbejaaDoor.Hand
open Go.RowKit Go.Proofs.YtmddmlmmmgbejaaDoorW.PrintWords Go.Proofs.YtmddmlmmmgbejaaDoorW.PrintLast Go.Proofs.YtmddmlmmmgbejaaDoorW.PrintMore
theorem coded_mono_l (s : ByteArray) : ∀ k x acc, LeO (codedGo s k x acc) (codedGo s (k + 1) x acc)
  | 0, x, acc => fun r h => by simp [codedGo] at h
  | k + 1, x, acc => by
    have ih := coded_mono_l s k
    rw [codedGo, codedGo]
    repeat' first
      | (with_reducible exact ih _ _)
      | (with_reducible exact LeO.refl _)
      | (with_reducible exact LeO.none _)
      | (with_reducible refine LeO.ite ?_ ?_)
theorem fields_coded.mono : ∀ a0 k, LeO (fields_coded.f k a0) (fields_coded.f (k + 1) a0) := fun a0 k => coded_mono_l a0 k 0 []
end Go.Proofs.YtmddmlmmmgbejaaDoor.Hand
