/-
  DERIVED. GIVEN WITH THE SEED: THE CARDS: each row of YtmionoghpjpbaaaDoorRows.lean that lists a variable, with what it lists TIED to the program's text (the seventh form; the later family's looks); each row that meets fmt, with fmt's text TOLD by the authors' own Lean function (tested against real Go, not proved from fmt's source: count such statements apart). THE CARD IS WHAT COUNTS. Prove the row's statement (the work); the ties are given (YtmionoghpjpbaaaDoorTie.lean); close each card by the builder's one call (the guide's Derived/Test/ToyasCard.lean, 'card_holds'). Laid BY PROGRAM, IN A SANDBOX (cutbox-door.mjs). By AI agents, Wed Nov 11 2026. No macro, syntax, notation, axiom, sorry.
-/
import Derived.Test.YtmionoghpjpbaaaDoorRows
import GoSem.ClaimSeven
namespace Go.Proofs.YtmionoghpjpbaaaDoor
namespace Rows

/-- THE TIED CARD OF 'cachepotlaw20.AtomPlays'. -/
def atomPlaysCard : Claim7 := { stood := { row := atomPlaysRow, standIns := [], harness := (true, "22e57786e500a4a89f826a8065007071fc21ab023562eef70bb8ebc94534f6ec"), looks := false }, kinds := [], alts := [], laidByText := true, laidKinds := [.data], laidTests := true, laidLooks := .later }
def AtomPlaysCardSaid : Prop := Claim7.holds Tryd.pinned (.plain (OpenSpec.ofChange atomPlaysSpec)) atomPlaysCard

/-- THE TIED CARD OF 'cachepotlaw20.AtomApart'. -/
def atomApartCard : Claim7 := { stood := { row := atomApartRow, standIns := [], harness := (true, "22e57786e500a4a89f826a8065007071fc21ab023562eef70bb8ebc94534f6ec"), looks := false }, kinds := [], alts := [], laidByText := true, laidKinds := [.data], laidTests := true, laidLooks := .later }
def AtomApartCardSaid : Prop := Claim7.holds Tryd.pinned (.plain (OpenSpec.ofChange atomApartSpec)) atomApartCard

/-- THE TIED CARD OF 'cachepotlaw15.ShelfLast'. -/
def shelfLastCard : Claim7 := { stood := { row := shelfLastRow, standIns := [], harness := (true, "22e57786e500a4a89f826a8065007071fc21ab023562eef70bb8ebc94534f6ec"), looks := false }, kinds := [], alts := [], laidByText := true, laidKinds := [.data], laidTests := true, laidLooks := .later }
def ShelfLastCardSaid : Prop := Claim7.holds Tryd.pinned (.plain (OpenSpec.ofChange shelfLastSpec)) shelfLastCard

/-- THE TIED CARD OF 'cachepotlaw15.ShelfDrops'. -/
def shelfDropsCard : Claim7 := { stood := { row := shelfDropsRow, standIns := [], harness := (true, "22e57786e500a4a89f826a8065007071fc21ab023562eef70bb8ebc94534f6ec"), looks := false }, kinds := [], alts := [], laidByText := true, laidKinds := [.data], laidTests := true, laidLooks := .later }
def ShelfDropsCardSaid : Prop := Claim7.holds Tryd.pinned (.plain (OpenSpec.ofChange shelfDropsSpec)) shelfDropsCard

/-- THE TIED CARD OF 'cachepotlaw15.ShelfTop'. -/
def shelfTopCard : Claim7 := { stood := { row := shelfTopRow, standIns := [], harness := (true, "22e57786e500a4a89f826a8065007071fc21ab023562eef70bb8ebc94534f6ec"), looks := false }, kinds := [], alts := [], laidByText := true, laidKinds := [.data], laidTests := true, laidLooks := .later }
def ShelfTopCardSaid : Prop := Claim7.holds Tryd.pinned (.plain (OpenSpec.ofChange shelfTopSpec)) shelfTopCard

/-- THE TIED CARD OF 'cachepotlaw15.ShelfPlays'. -/
def shelfPlaysCard : Claim7 := { stood := { row := shelfPlaysRow, standIns := [], harness := (true, "22e57786e500a4a89f826a8065007071fc21ab023562eef70bb8ebc94534f6ec"), looks := false }, kinds := [], alts := [], laidByText := true, laidKinds := [.data], laidTests := true, laidLooks := .later }
def ShelfPlaysCardSaid : Prop := Claim7.holds Tryd.pinned (.plain (OpenSpec.ofChange shelfPlaysSpec)) shelfPlaysCard

/-- THE TIED CARD OF 'cachepotlaw22.ViewStages'. -/
def viewStagesCard : Claim7 := { stood := { row := viewStagesRow, standIns := [], harness := (true, "22e57786e500a4a89f826a8065007071fc21ab023562eef70bb8ebc94534f6ec"), looks := false }, kinds := [], alts := [], laidByText := true, laidKinds := [.data, .data, .pinned], laidTests := true, laidLooks := .later }
def ViewStagesCardSaid : Prop := Claim7.holds Tryd.pinned (.plain (OpenSpec.ofChange viewStagesSpec)) viewStagesCard

/-- THE TIED CARD OF 'cachepotlaw22.ViewRefuses'. -/
def viewRefusesCard : Claim7 := { stood := { row := viewRefusesRow, standIns := [], harness := (true, "22e57786e500a4a89f826a8065007071fc21ab023562eef70bb8ebc94534f6ec"), looks := false }, kinds := [], alts := [], laidByText := true, laidKinds := [.data, .pinned], laidTests := true, laidLooks := .later }
def ViewRefusesCardSaid : Prop := Claim7.holds Tryd.pinned (.plain (OpenSpec.ofChange viewRefusesSpec)) viewRefusesCard

/-- THE TIED CARD OF 'cachepotlaw22.ViewReads'. -/
def viewReadsCard : Claim7 := { stood := { row := viewReadsRow, standIns := [], harness := (true, "22e57786e500a4a89f826a8065007071fc21ab023562eef70bb8ebc94534f6ec"), looks := false }, kinds := [], alts := [], laidByText := true, laidKinds := [.data, .pinned], laidTests := true, laidLooks := .later }
def ViewReadsCardSaid : Prop := Claim7.holds Tryd.pinned (.plain (OpenSpec.ofChange viewReadsSpec)) viewReadsCard

/-- THE TIED CARD OF 'cachepotlaw22.ViewFull'. -/
def viewFullCard : Claim7 := { stood := { row := viewFullRow, standIns := [], harness := (true, "22e57786e500a4a89f826a8065007071fc21ab023562eef70bb8ebc94534f6ec"), looks := false }, kinds := [], alts := [], laidByText := true, laidKinds := [.data, .pinned], laidTests := true, laidLooks := .later }
def ViewFullCardSaid : Prop := Claim7.holds Tryd.pinned (.plain (OpenSpec.ofChange viewFullSpec)) viewFullCard

/-- THE TIED CARD OF 'cachepotlaw22.ViewPlays'. -/
def viewPlaysCard : Claim7 := { stood := { row := viewPlaysRow, standIns := [], harness := (true, "22e57786e500a4a89f826a8065007071fc21ab023562eef70bb8ebc94534f6ec"), looks := false }, kinds := [], alts := [], laidByText := true, laidKinds := [.data, .data, .pinned], laidTests := true, laidLooks := .later }
def ViewPlaysCardSaid : Prop := Claim7.holds Tryd.pinned (.plain (OpenSpec.ofChange viewPlaysSpec)) viewPlaysCard

/-- THE TIED CARD OF 'cachepotlaw22.ViewNone'. -/
def viewNoneCard : Claim7 := { stood := { row := viewNoneRow, standIns := [], harness := (true, "22e57786e500a4a89f826a8065007071fc21ab023562eef70bb8ebc94534f6ec"), looks := false }, kinds := [], alts := [], laidByText := true, laidKinds := [.data, .pinned], laidTests := true, laidLooks := .later }
def ViewNoneCardSaid : Prop := Claim7.holds Tryd.pinned (.plain (OpenSpec.ofChange viewNoneSpec)) viewNoneCard

/-- THE TIED CARD OF 'cachepotlaw28.JudgeOld'. -/
def judgeOldCard : Claim7 := { stood := { row := judgeOldRow, standIns := [], harness := (true, "22e57786e500a4a89f826a8065007071fc21ab023562eef70bb8ebc94534f6ec"), looks := false }, kinds := [], alts := [], laidByText := true, laidKinds := [.data, .data, .pinned], laidTests := true, laidLooks := .later }
def JudgeOldCardSaid : Prop := Claim7.holds Tryd.pinned (.plain (OpenSpec.ofChange judgeOldSpec)) judgeOldCard

/-- THE TIED CARD OF 'cachepotlaw28.JudgeNew'. -/
def judgeNewCard : Claim7 := { stood := { row := judgeNewRow, standIns := [], harness := (true, "22e57786e500a4a89f826a8065007071fc21ab023562eef70bb8ebc94534f6ec"), looks := false }, kinds := [], alts := [], laidByText := true, laidKinds := [.data, .pinned], laidTests := true, laidLooks := .later }
def JudgeNewCardSaid : Prop := Claim7.holds Tryd.pinned (.plain (OpenSpec.ofChange judgeNewSpec)) judgeNewCard

/-- THE SECOND FORM's CARD OF 'cachepotlaw20.AtomPlays'. -/
def atomPlaysUptoCard : Claim7 := { stood := { row := atomPlaysUptoRow, standIns := [], harness := (true, "22e57786e500a4a89f826a8065007071fc21ab023562eef70bb8ebc94534f6ec"), looks := false }, kinds := [], alts := [], laidByText := true, laidKinds := [.data], laidTests := true, laidLooks := .later }
def AtomPlaysUptoCardSaid : Prop := Claim7.holds Tryd.pinned (.plain (OpenSpec.upto atomPlaysSpec)) atomPlaysUptoCard

/-- THE SECOND FORM's CARD OF 'cachepotlaw20.AtomApart'. -/
def atomApartUptoCard : Claim7 := { stood := { row := atomApartUptoRow, standIns := [], harness := (true, "22e57786e500a4a89f826a8065007071fc21ab023562eef70bb8ebc94534f6ec"), looks := false }, kinds := [], alts := [], laidByText := true, laidKinds := [.data], laidTests := true, laidLooks := .later }
def AtomApartUptoCardSaid : Prop := Claim7.holds Tryd.pinned (.plain (OpenSpec.upto atomApartSpec)) atomApartUptoCard

/-- THE SECOND FORM's CARD OF 'cachepotlaw15.ShelfLast'. -/
def shelfLastUptoCard : Claim7 := { stood := { row := shelfLastUptoRow, standIns := [], harness := (true, "22e57786e500a4a89f826a8065007071fc21ab023562eef70bb8ebc94534f6ec"), looks := false }, kinds := [], alts := [], laidByText := true, laidKinds := [.data], laidTests := true, laidLooks := .later }
def ShelfLastUptoCardSaid : Prop := Claim7.holds Tryd.pinned (.plain (OpenSpec.upto shelfLastSpec)) shelfLastUptoCard

/-- THE SECOND FORM's CARD OF 'cachepotlaw15.ShelfDrops'. -/
def shelfDropsUptoCard : Claim7 := { stood := { row := shelfDropsUptoRow, standIns := [], harness := (true, "22e57786e500a4a89f826a8065007071fc21ab023562eef70bb8ebc94534f6ec"), looks := false }, kinds := [], alts := [], laidByText := true, laidKinds := [.data], laidTests := true, laidLooks := .later }
def ShelfDropsUptoCardSaid : Prop := Claim7.holds Tryd.pinned (.plain (OpenSpec.upto shelfDropsSpec)) shelfDropsUptoCard

/-- THE SECOND FORM's CARD OF 'cachepotlaw15.ShelfTop'. -/
def shelfTopUptoCard : Claim7 := { stood := { row := shelfTopUptoRow, standIns := [], harness := (true, "22e57786e500a4a89f826a8065007071fc21ab023562eef70bb8ebc94534f6ec"), looks := false }, kinds := [], alts := [], laidByText := true, laidKinds := [.data], laidTests := true, laidLooks := .later }
def ShelfTopUptoCardSaid : Prop := Claim7.holds Tryd.pinned (.plain (OpenSpec.upto shelfTopSpec)) shelfTopUptoCard

/-- THE SECOND FORM's CARD OF 'cachepotlaw15.ShelfPlays'. -/
def shelfPlaysUptoCard : Claim7 := { stood := { row := shelfPlaysUptoRow, standIns := [], harness := (true, "22e57786e500a4a89f826a8065007071fc21ab023562eef70bb8ebc94534f6ec"), looks := false }, kinds := [], alts := [], laidByText := true, laidKinds := [.data], laidTests := true, laidLooks := .later }
def ShelfPlaysUptoCardSaid : Prop := Claim7.holds Tryd.pinned (.plain (OpenSpec.upto shelfPlaysSpec)) shelfPlaysUptoCard

/-- THE SECOND FORM's CARD OF 'cachepotlaw22.ViewStages'. -/
def viewStagesUptoCard : Claim7 := { stood := { row := viewStagesUptoRow, standIns := [], harness := (true, "22e57786e500a4a89f826a8065007071fc21ab023562eef70bb8ebc94534f6ec"), looks := false }, kinds := [], alts := [], laidByText := true, laidKinds := [.data, .data, .pinned], laidTests := true, laidLooks := .later }
def ViewStagesUptoCardSaid : Prop := Claim7.holds Tryd.pinned (.plain (OpenSpec.upto viewStagesSpec)) viewStagesUptoCard

/-- THE SECOND FORM's CARD OF 'cachepotlaw22.ViewRefuses'. -/
def viewRefusesUptoCard : Claim7 := { stood := { row := viewRefusesUptoRow, standIns := [], harness := (true, "22e57786e500a4a89f826a8065007071fc21ab023562eef70bb8ebc94534f6ec"), looks := false }, kinds := [], alts := [], laidByText := true, laidKinds := [.data, .pinned], laidTests := true, laidLooks := .later }
def ViewRefusesUptoCardSaid : Prop := Claim7.holds Tryd.pinned (.plain (OpenSpec.upto viewRefusesSpec)) viewRefusesUptoCard

/-- THE SECOND FORM's CARD OF 'cachepotlaw22.ViewReads'. -/
def viewReadsUptoCard : Claim7 := { stood := { row := viewReadsUptoRow, standIns := [], harness := (true, "22e57786e500a4a89f826a8065007071fc21ab023562eef70bb8ebc94534f6ec"), looks := false }, kinds := [], alts := [], laidByText := true, laidKinds := [.data, .pinned], laidTests := true, laidLooks := .later }
def ViewReadsUptoCardSaid : Prop := Claim7.holds Tryd.pinned (.plain (OpenSpec.upto viewReadsSpec)) viewReadsUptoCard

/-- THE SECOND FORM's CARD OF 'cachepotlaw22.ViewFull'. -/
def viewFullUptoCard : Claim7 := { stood := { row := viewFullUptoRow, standIns := [], harness := (true, "22e57786e500a4a89f826a8065007071fc21ab023562eef70bb8ebc94534f6ec"), looks := false }, kinds := [], alts := [], laidByText := true, laidKinds := [.data, .pinned], laidTests := true, laidLooks := .later }
def ViewFullUptoCardSaid : Prop := Claim7.holds Tryd.pinned (.plain (OpenSpec.upto viewFullSpec)) viewFullUptoCard

/-- THE SECOND FORM's CARD OF 'cachepotlaw22.ViewPlays'. -/
def viewPlaysUptoCard : Claim7 := { stood := { row := viewPlaysUptoRow, standIns := [], harness := (true, "22e57786e500a4a89f826a8065007071fc21ab023562eef70bb8ebc94534f6ec"), looks := false }, kinds := [], alts := [], laidByText := true, laidKinds := [.data, .data, .pinned], laidTests := true, laidLooks := .later }
def ViewPlaysUptoCardSaid : Prop := Claim7.holds Tryd.pinned (.plain (OpenSpec.upto viewPlaysSpec)) viewPlaysUptoCard

/-- THE SECOND FORM's CARD OF 'cachepotlaw22.ViewNone'. -/
def viewNoneUptoCard : Claim7 := { stood := { row := viewNoneUptoRow, standIns := [], harness := (true, "22e57786e500a4a89f826a8065007071fc21ab023562eef70bb8ebc94534f6ec"), looks := false }, kinds := [], alts := [], laidByText := true, laidKinds := [.data, .pinned], laidTests := true, laidLooks := .later }
def ViewNoneUptoCardSaid : Prop := Claim7.holds Tryd.pinned (.plain (OpenSpec.upto viewNoneSpec)) viewNoneUptoCard

/-- THE SECOND FORM's CARD OF 'cachepotlaw28.JudgeOld'. -/
def judgeOldUptoCard : Claim7 := { stood := { row := judgeOldUptoRow, standIns := [], harness := (true, "22e57786e500a4a89f826a8065007071fc21ab023562eef70bb8ebc94534f6ec"), looks := false }, kinds := [], alts := [], laidByText := true, laidKinds := [.data, .data, .pinned], laidTests := true, laidLooks := .later }
def JudgeOldUptoCardSaid : Prop := Claim7.holds Tryd.pinned (.plain (OpenSpec.upto judgeOldSpec)) judgeOldUptoCard

/-- THE SECOND FORM's CARD OF 'cachepotlaw28.JudgeNew'. -/
def judgeNewUptoCard : Claim7 := { stood := { row := judgeNewUptoRow, standIns := [], harness := (true, "22e57786e500a4a89f826a8065007071fc21ab023562eef70bb8ebc94534f6ec"), looks := false }, kinds := [], alts := [], laidByText := true, laidKinds := [.data, .pinned], laidTests := true, laidLooks := .later }
def JudgeNewUptoCardSaid : Prop := Claim7.holds Tryd.pinned (.plain (OpenSpec.upto judgeNewSpec)) judgeNewUptoCard
end Rows
end Go.Proofs.YtmionoghpjpbaaaDoor
