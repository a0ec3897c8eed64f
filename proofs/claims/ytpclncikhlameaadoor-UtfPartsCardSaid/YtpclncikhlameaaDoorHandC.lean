/- What the rows' lists of variables give: the two tables of unicode/utf8, as they are laid; a world for a row's witness. -/
import Derived.Test.YtpclncikhlameaaDoorHandA
import Derived.Test.YtpclncikhlameaaDoorRows
import Derived.Lib.LaidU8
import Derived.LaidSub
import Derived.ProofKit
namespace Go.Proofs.YtpclncikhlameaaDoor.Hand
open Go.RowKit Go.Lib
set_option maxRecDepth 100000 in
theorem u8extra : U8Extra Tryd.prog Tryd.lays260_ren := {
  n3 := by kernel_rfl
  n4 := by kernel_rfl
  y3 := by kernel_rfl
  y4 := by kernel_rfl
  c5 := by kernel_rfl
  c119 := by kernel_rfl
  c138 := by kernel_rfl }
set_option maxRecDepth 100000 in
theorem firstData_eq : Rows.laid_unicode_utf8_first = firstData := by kernel_rfl
set_option maxRecDepth 100000 in
theorem acceptData_eq : (Rows.laid_unicode_utf8_acceptRanges : DataW Unit) = acceptData := by kernel_rfl
theorem tabs_of_laid {W : World} (h : laidMetH Tryd.prog [("unicode/utf8.acceptRanges", Rows.laid_unicode_utf8_acceptRanges), ("unicode/utf8.first", Rows.laid_unicode_utf8_first)] W) : Tabs W := by
  have h1 : laidMet Tryd.prog [("unicode/utf8.acceptRanges", Rows.laid_unicode_utf8_acceptRanges), ("unicode/utf8.first", Rows.laid_unicode_utf8_first)] W := (laidMetH_iff.1 h).1
  rw [firstData_eq, acceptData_eq] at h1
  exact utf8Tabs_of_reads Tryd.lays260 u8extra (laidMet.reads h1 (by simp)) (laidMet.reads h1 (by simp))
def layFirst : Obj → Obj
  | .cells _ t frozen => .cells ((Pinned.utf8FirstZ.map fun n => Value.int .u8 (n : Nat)).toArray) t frozen
  | o => o
def layAccept : Obj → Obj
  | .cells _ t frozen => .cells #[.int .u8 128, .int .u8 191, .int .u8 160, .int .u8 191, .int .u8 128, .int .u8 159, .int .u8 144, .int .u8 191, .int .u8 128, .int .u8 143, .int .u8 0, .int .u8 0, .int .u8 0, .int .u8 0, .int .u8 0, .int .u8 0, .int .u8 0, .int .u8 0, .int .u8 0, .int .u8 0, .int .u8 0, .int .u8 0, .int .u8 0, .int .u8 0, .int .u8 0, .int .u8 0, .int .u8 0, .int .u8 0, .int .u8 0, .int .u8 0, .int .u8 0, .int .u8 0] t frozen
  | o => o
/-- A world for the witness: the settled one, the two tables holding what they are laid with. -/
noncomputable def laidWorld (os : Os) : World :=
  { World.holding Tryd.prog os ⟨#[], #[], []⟩ with heap := ((World.holding Tryd.prog os ⟨#[], #[], []⟩).heap.modify 0 layFirst).modify 1 layAccept }
theorem own : ownKnob Tryd.prog.godebug = none := by kernel_rfl
theorem laidOut : laidOutB Tryd.prog = true := by kernel_rfl
end Go.Proofs.YtpclncikhlameaaDoor.Hand
