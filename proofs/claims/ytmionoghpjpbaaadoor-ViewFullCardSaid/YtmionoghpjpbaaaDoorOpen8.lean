/-
  The rows' conditions on the two tables of unicode/utf8.
-/
import Derived.Test.YtmionoghpjpbaaaDoorOpen
import Derived.Test.YtmionoghpjpbaaaDoorSh
import Derived.Lib.LaidU8
import Derived.LaidMore
import Derived.ChangeMaps5
namespace Go.Proofs.YtmionoghpjpbaaaDoor
open Go.RowKit
set_option linter.unusedVariables false
set_option maxRecDepth 100000 in
theorem tabs_of {W : World} (h3 : Lib.VarReads Tryd.prog W "unicode/utf8.first" Rows.laid_unicode_utf8_first) (h4 : Lib.VarReads Tryd.prog W "unicode/utf8.acceptRanges" Rows.laid_unicode_utf8_acceptRanges) : Lib.Utf8Tabs 2 3 W := by
  rw [show Rows.laid_unicode_utf8_first = Lib.firstData by kernel_rfl] at h3
  rw [show Rows.laid_unicode_utf8_acceptRanges = Lib.acceptData by kernel_rfl] at h4
  exact utf8Tabs_of_reads Tryd.lays260 ⟨by kernel_rfl, by kernel_rfl, by kernel_rfl, by kernel_rfl, by kernel_rfl, by kernel_rfl, by kernel_rfl⟩ h3 h4
/-- A settled world in which the variables hold what they are listed with. -/
noncomputable def door8 (os : Os) : World :=
  let w0 := World.doorLaid Tryd.prog 200 os
  let put (h : Array Obj) (g : Nat) (cs : Array Value) : Array Obj := h.modify g fun
    | .cells _ t frozen => .cells cs t frozen
    | o => o
  { w0 with heap := put (put w0.heap 2 (Lib.firstTab.map fun z => Value.int .u8 z).toArray) 3 ((List.range 16).flatMap fun i => [Value.int .u8 (Lib.accLo i), Value.int .u8 (Lib.accHi i)]).toArray }
end Go.Proofs.YtmionoghpjpbaaaDoor
