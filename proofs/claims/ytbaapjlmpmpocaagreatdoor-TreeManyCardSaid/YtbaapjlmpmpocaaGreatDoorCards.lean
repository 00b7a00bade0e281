/-
  DERIVED. GIVEN WITH THE SEED: THE CARDS: each row of YtbaapjlmpmpocaaGreatDoorRows.lean that lists a variable, with what it lists TIED to the program's text (the seventh form; the later family's looks); each row that meets fmt, with fmt's text TOLD by the authors' own Lean function (tested against real Go, not proved from fmt's source: count such statements apart). THE CARD IS WHAT COUNTS. Prove the row's statement (the work); the ties are given (YtbaapjlmpmpocaaGreatDoorTie.lean); close each card by the builder's one call (the guide's Derived/Test/ToyasCard.lean, 'card_holds'). Laid BY PROGRAM, IN A SANDBOX (cutbox-door.mjs). By AI agents, Wed Nov 11 2026. No macro, syntax, notation, axiom, sorry.
-/
import Derived.Test.YtbaapjlmpmpocaaGreatDoorRows
import GoSem.ClaimSeven
namespace Go.Proofs.YtbaapjlmpmpocaaGreatDoor
namespace Rows

/-- THE TIED CARD OF 'selvagelaw15.TreeMany'. -/
def treeManyCard : Claim7 := { stood := { row := treeManyRow, standIns := [], harness := (true, "26ff87fcb8451cd4b0ea035b82f81021a0ff17a299bbf7cc1b8811fa6ec76c72"), looks := false }, kinds := [], alts := [], laidByText := true, laidKinds := [.data, .pinned], laidTests := true, laidLooks := .later }
def TreeManyCardSaid : Prop := Claim7.holds Tryz.pinned (.plain (OpenSpec.ofChange treeManySpec)) treeManyCard

/-- THE TIED CARD OF 'selvagelaw15.TreeDiffs'. -/
def treeDiffsCard : Claim7 := { stood := { row := treeDiffsRow, standIns := [], harness := (true, "26ff87fcb8451cd4b0ea035b82f81021a0ff17a299bbf7cc1b8811fa6ec76c72"), looks := false }, kinds := [], alts := [], laidByText := true, laidKinds := [.data, .pinned], laidTests := true, laidLooks := .later }
def TreeDiffsCardSaid : Prop := Claim7.holds Tryz.pinned (.plain (OpenSpec.ofChange treeDiffsSpec)) treeDiffsCard

/-- THE SECOND FORM's CARD OF 'selvagelaw15.TreeMany'. -/
def treeManyUptoCard : Claim7 := { stood := { row := treeManyUptoRow, standIns := [], harness := (true, "26ff87fcb8451cd4b0ea035b82f81021a0ff17a299bbf7cc1b8811fa6ec76c72"), looks := false }, kinds := [], alts := [], laidByText := true, laidKinds := [.data, .pinned], laidTests := true, laidLooks := .later }
def TreeManyUptoCardSaid : Prop := Claim7.holds Tryz.pinned (.plain (OpenSpec.upto treeManySpec)) treeManyUptoCard

/-- THE SECOND FORM's CARD OF 'selvagelaw15.TreeDiffs'. -/
def treeDiffsUptoCard : Claim7 := { stood := { row := treeDiffsUptoRow, standIns := [], harness := (true, "26ff87fcb8451cd4b0ea035b82f81021a0ff17a299bbf7cc1b8811fa6ec76c72"), looks := false }, kinds := [], alts := [], laidByText := true, laidKinds := [.data, .pinned], laidTests := true, laidLooks := .later }
def TreeDiffsUptoCardSaid : Prop := Claim7.holds Tryz.pinned (.plain (OpenSpec.upto treeDiffsSpec)) treeDiffsUptoCard
end Rows
end Go.Proofs.YtbaapjlmpmpocaaGreatDoor
