/-
  The laws ViewNone, ViewRefuses: they return true.
-/
import Derived.Test.YtmionoghpjpbaaaDoorView2
namespace Go.Proofs.YtmionoghpjpbaaaDoor
open Go.RowKit Go.Proofs.YtmionoghpjpbaaaDoorW.PrintWords Go.Proofs.YtmionoghpjpbaaaDoorW.PrintLast Go.Proofs.YtmionoghpjpbaaaDoorW.PrintMore
open Go.Proofs.YtmionoghpjpbaaaDoorM
set_option linter.unusedVariables false
set_option linter.unusedSimpArgs false
attribute [local go_sem ↓] Go.wp_at_zero Go.wp_at_succ
set_option maxHeartbeats 2000000
set_option maxRecDepth 100000

theorem viewNone_any (k : ByteArray) (A : Option Addr) (n c : Nat) (w : World) (hT : Lib.Utf8Tabs 2 3 w) : Calls Tryd.prog 14 #[.string k, .slice A n c] w fun e w' => e = .returned (.bool true) ∧ Below w.heap.size w w' := by
  have HT := Aside0.mk hT
  clear hT
  go_enter Tryd.func14, Tryd.ntmps14
  go_wp2_with fail
  refine (look_nil w k).mono ?_
  rintro e w1 ⟨rfl, hb⟩
  have HB1 : Aside0 (Below w.heap.size w w1) := ⟨hb⟩
  clear hb
  go_wp2_with fail
  refine (alive22_any _ (Utf8Tabs_below HT.out (below_alloc HB1.out _))).mono ?_
  rintro e w2 ⟨rfl, hb⟩
  have HB2 : Aside0 (Below w.heap.size w w2) := ⟨below_then (below_alloc HB1.out _) (below_alloc HB1.out _).size hb⟩
  clear hb HB1
  go_wp2_with fail
  refine (put_nil w2 _ _).mono ?_
  rintro e w3 ⟨rfl, hb⟩
  have HB3 : Aside0 (Below w.heap.size w w3) := ⟨below_then HB2.out HB2.out.size hb⟩
  clear hb HB2
  go_wp2_with fail
  refine (del_nil w3 _).mono ?_
  rintro e w4 ⟨rfl, hb⟩
  have HB4 : Aside0 (Below w.heap.size w w4) := ⟨below_then HB3.out HB3.out.size hb⟩
  clear hb HB3
  go_wp2_with fail
  refine (note_nil w4 _ _).mono ?_
  rintro e w5 ⟨rfl, rfl⟩
  go_wp2_with fail
  refine (staged_nil w5).mono ?_
  rintro e w6 ⟨rfl, rfl⟩
  go_wp2_with fail
  refine (reads_nil w6).mono ?_
  rintro e w7 ⟨rfl, rfl⟩
  go_wp2
  go_ret
  exact ⟨rfl, HB4.out⟩
end Go.Proofs.YtmionoghpjpbaaaDoor
