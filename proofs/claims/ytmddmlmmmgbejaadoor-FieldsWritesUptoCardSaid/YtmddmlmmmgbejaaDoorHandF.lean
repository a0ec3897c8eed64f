/- What the row's world gives: MaxLen holds a number; a world for a row's witness. -/
import Derived.Test.YtmddmlmmmgbejaaDoorHandD
import Derived.Test.YtmddmlmmmgbejaaDoorRows
import Derived.Lib.LaidU8
import Derived.LaidSub
import Derived.ProofKit
namespace Go.Proofs.YtmddmlmmmgbejaaDoor.Hand
open Go.RowKit Go.Lib
theorem tabs_of_shaped {W : World} (h : W.ShapedOpen Tryd.prog) : Tabs W := by
  obtain ⟨m, hm⟩ := Tryd.laysM145.s1_3 W h
  exact ⟨m, hm⟩
def layFirst : Obj → Obj
  | .cells _ t frozen => .cells ((Pinned.utf8FirstZ.map fun n => Value.int .u8 (n : Nat)).toArray) t frozen
  | o => o
def layAccept : Obj → Obj
  | .cells _ t frozen => .cells #[.int .u8 128, .int .u8 191, .int .u8 160, .int .u8 191, .int .u8 128, .int .u8 159, .int .u8 144, .int .u8 191, .int .u8 128, .int .u8 143, .int .u8 0, .int .u8 0, .int .u8 0, .int .u8 0, .int .u8 0, .int .u8 0, .int .u8 0, .int .u8 0, .int .u8 0, .int .u8 0, .int .u8 0, .int .u8 0, .int .u8 0, .int .u8 0, .int .u8 0, .int .u8 0, .int .u8 0, .int .u8 0, .int .u8 0, .int .u8 0, .int .u8 0, .int .u8 0] t frozen
  | o => o
/-- A world for the witness: the settled one, the two tables holding what they are laid with. -/
noncomputable def laidWorld (os : Os) : World :=
  { World.holding Tryd.prog os ⟨#[], #[], []⟩ with heap := ((World.holding Tryd.prog os ⟨#[], #[], []⟩).heap.modify 1 layFirst).modify 2 layAccept }
theorem own : ownKnob Tryd.prog.godebug = none := by kernel_rfl
end Go.Proofs.YtmddmlmmmgbejaaDoor.Hand
