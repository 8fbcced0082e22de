/- What every row of this seat asks beside its walk: the two tables of unicode/utf8 out of the row's list; a start that fits. -/
import Derived.Test.YtdldkidccjkhgaaDoorTie
import Derived.Test.YtdldkidccjkhgaaDoorCards
import Derived.Test.YtdldkidccjkhgaaDoorUtf
import Derived.ProofKit
import Derived.OpenShut
import Derived.ShutString
import Derived.ChangeOld
import Derived.Below
import Derived.Lib.LaidU8T
import Derived.PinnedBridge
import Derived.Lay
import Derived.SevenTiedAt
import Derived.SizedLaws
namespace Go.Proofs.YtdldkidccjkhgaaDoor
open Go.ChangeShapes Go.WideShapes Go.ChangeAt Go.RowKit Go.Par Go.Lib Go.Shelf

theorem own : ownKnob Tryd.prog.godebug = none := by kernel_rfl
theorem laidOut : laidOutB Tryd.prog = true := by kernel_rfl

def laidL : List (String × DataW Unit) := [("unicode/utf8.acceptRanges", Rows.laid_unicode_utf8_acceptRanges), ("unicode/utf8.first", Rows.laid_unicode_utf8_first)]

theorem u8x : U8Extra Tryd.prog Tryd.lays196_ren := ⟨by kernel_rfl, by kernel_rfl, by kernel_rfl, by kernel_rfl, by kernel_rfl, by kernel_rfl, by kernel_rfl⟩

theorem tabs_of {W : World} (h : laidMetH Tryd.prog laidL W) : Tabs W := by
  rw [MakeChecks.laidMetH_plain _ _ _ (by kernel_rfl)] at h
  have h3 : VarReads Tryd.prog W "unicode/utf8.first" firstData := Pinned.utf8First_eq ▸ Lib.laidMet.reads h (.tail _ (.head _))
  have h4 : VarReads Tryd.prog W "unicode/utf8.acceptRanges" acceptData := Lib.laidMet.reads h (.head _)
  exact utf8Tabs_of_readsT (U8Types.of196 Tryd.lays196) u8x h3 h4
end Go.Proofs.YtdldkidccjkhgaaDoor
