/-
  DERIVED. GIVEN WITH THE SEED: THE CARDS: each row of YtmkmbbjgepcioaaGreatDoorRows.lean that lists a variable, with what it lists TIED to the program's text (the seventh form; the later family's looks); each row that meets fmt, with fmt's text TOLD by the authors' own Lean function (tested against real Go, not proved from fmt's source: count such statements apart). THE CARD IS WHAT COUNTS. Prove the row's statement (the work); the ties are given (YtmkmbbjgepcioaaGreatDoorTie.lean); close each card by the builder's one call (the guide's Derived/Test/ToyasCard.lean, 'card_holds'). Laid BY PROGRAM, IN A SANDBOX (cutbox-door.mjs). By AI agents, Wed Nov 11 2026. No macro, syntax, notation, axiom, sorry.
-/
import Derived.Test.YtmkmbbjgepcioaaGreatDoorRows
import GoSem.ClaimSeven
namespace Go.Proofs.YtmkmbbjgepcioaaGreatDoor
namespace Rows

/-- THE TIED CARD OF 'selvagelaw18.BaseSides'. -/
def baseSidesCard : Claim7 := { stood := { row := baseSidesRow, standIns := [], harness := (true, "b88250be602ece4c344df650c024fd3176d592edbe7b73f20f1d379a4091c0f1"), looks := true }, kinds := [], alts := [], laidByText := true, laidKinds := [.data, .handle, .pinned], laidTests := true, laidLooks := .later }
def BaseSidesCardSaid : Prop := Claim7.holds Tryz.pinned (.plain (OpenSpec.ofChange baseSidesSpec)) baseSidesCard

/-- THE TIED CARD OF 'selvagelaw18.BaseAbove'. -/
def baseAboveCard : Claim7 := { stood := { row := baseAboveRow, standIns := [], harness := (true, "b88250be602ece4c344df650c024fd3176d592edbe7b73f20f1d379a4091c0f1"), looks := true }, kinds := [], alts := [], laidByText := true, laidKinds := [.data, .handle, .pinned], laidTests := true, laidLooks := .later }
def BaseAboveCardSaid : Prop := Claim7.holds Tryz.pinned (.plain (OpenSpec.ofChange baseAboveSpec)) baseAboveCard

/-- THE TIED CARD OF 'selvagelaw18.BaseMerges'. -/
def baseMergesCard : Claim7 := { stood := { row := baseMergesRow, standIns := [], harness := (true, "b88250be602ece4c344df650c024fd3176d592edbe7b73f20f1d379a4091c0f1"), looks := true }, kinds := [], alts := [], laidByText := true, laidKinds := [.data, .handle, .pinned], laidTests := true, laidLooks := .later }
def BaseMergesCardSaid : Prop := Claim7.holds Tryz.pinned (.plain (OpenSpec.ofChange baseMergesSpec)) baseMergesCard

/-- THE TIED CARD OF 'selvagelaw18.BaseCross'. -/
def baseCrossCard : Claim7 := { stood := { row := baseCrossRow, standIns := [], harness := (true, "b88250be602ece4c344df650c024fd3176d592edbe7b73f20f1d379a4091c0f1"), looks := true }, kinds := [], alts := [], laidByText := true, laidKinds := [.data, .handle, .pinned], laidTests := true, laidLooks := .later }
def BaseCrossCardSaid : Prop := Claim7.holds Tryz.pinned (.plain (OpenSpec.ofChange baseCrossSpec)) baseCrossCard

/-- THE SECOND FORM's CARD OF 'selvagelaw18.BaseSides'. -/
def baseSidesUptoCard : Claim7 := { stood := { row := baseSidesUptoRow, standIns := [], harness := (true, "b88250be602ece4c344df650c024fd3176d592edbe7b73f20f1d379a4091c0f1"), looks := true }, kinds := [], alts := [], laidByText := true, laidKinds := [.data, .handle, .pinned], laidTests := true, laidLooks := .later }
def BaseSidesUptoCardSaid : Prop := Claim7.holds Tryz.pinned (.plain (OpenSpec.upto baseSidesSpec)) baseSidesUptoCard

/-- THE SECOND FORM's CARD OF 'selvagelaw18.BaseAbove'. -/
def baseAboveUptoCard : Claim7 := { stood := { row := baseAboveUptoRow, standIns := [], harness := (true, "b88250be602ece4c344df650c024fd3176d592edbe7b73f20f1d379a4091c0f1"), looks := true }, kinds := [], alts := [], laidByText := true, laidKinds := [.data, .handle, .pinned], laidTests := true, laidLooks := .later }
def BaseAboveUptoCardSaid : Prop := Claim7.holds Tryz.pinned (.plain (OpenSpec.upto baseAboveSpec)) baseAboveUptoCard

/-- THE SECOND FORM's CARD OF 'selvagelaw18.BaseMerges'. -/
def baseMergesUptoCard : Claim7 := { stood := { row := baseMergesUptoRow, standIns := [], harness := (true, "b88250be602ece4c344df650c024fd3176d592edbe7b73f20f1d379a4091c0f1"), looks := true }, kinds := [], alts := [], laidByText := true, laidKinds := [.data, .handle, .pinned], laidTests := true, laidLooks := .later }
def BaseMergesUptoCardSaid : Prop := Claim7.holds Tryz.pinned (.plain (OpenSpec.upto baseMergesSpec)) baseMergesUptoCard

/-- THE SECOND FORM's CARD OF 'selvagelaw18.BaseCross'. -/
def baseCrossUptoCard : Claim7 := { stood := { row := baseCrossUptoRow, standIns := [], harness := (true, "b88250be602ece4c344df650c024fd3176d592edbe7b73f20f1d379a4091c0f1"), looks := true }, kinds := [], alts := [], laidByText := true, laidKinds := [.data, .handle, .pinned], laidTests := true, laidLooks := .later }
def BaseCrossUptoCardSaid : Prop := Claim7.holds Tryz.pinned (.plain (OpenSpec.upto baseCrossSpec)) baseCrossUptoCard
end Rows
end Go.Proofs.YtmkmbbjgepcioaaGreatDoor
