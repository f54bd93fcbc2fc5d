/-
  The rows' conditions on the two tables of unicode/utf8.
-/
import Derived.Test.YtmionoghpjpbaaaDoorOpen
import Derived.Test.YtmionoghpjpbaaaDoorSh
import Derived.Lib.LaidU8
namespace Go.Proofs.YtmionoghpjpbaaaDoor
open Go.RowKit
set_option linter.unusedVariables false
set_option maxRecDepth 100000 in
theorem tabs_of {W : World} (h3 : Lib.VarReads Tryd.prog W "unicode/utf8.first" Rows.laid_unicode_utf8_first) (h4 : Lib.VarReads Tryd.prog W "unicode/utf8.acceptRanges" Rows.laid_unicode_utf8_acceptRanges) : Lib.Utf8Tabs 2 3 W := by
  rw [show Rows.laid_unicode_utf8_first = Lib.firstData by kernel_rfl] at h3
  rw [show Rows.laid_unicode_utf8_acceptRanges = Lib.acceptData by kernel_rfl] at h4
  exact utf8Tabs_of_reads Tryd.lays260 ⟨by kernel_rfl, by kernel_rfl, by kernel_rfl, by kernel_rfl, by kernel_rfl, by kernel_rfl, by kernel_rfl⟩ h3 h4
end Go.Proofs.YtmionoghpjpbaaaDoor
