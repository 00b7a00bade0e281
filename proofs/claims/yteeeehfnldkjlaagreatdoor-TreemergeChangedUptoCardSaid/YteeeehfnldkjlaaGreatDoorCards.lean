/-
  DERIVED. GIVEN WITH THE SEED: THE CARDS: each row of YteeeehfnldkjlaaGreatDoorRows.lean that lists a variable, with what it lists TIED to the program's text (the seventh form; the later family's looks); each row that meets fmt, with fmt's text TOLD by the authors' own Lean function (tested against real Go, not proved from fmt's source: count such statements apart). THE CARD IS WHAT COUNTS. Prove the row's statement (the work); the ties are given (YteeeehfnldkjlaaGreatDoorTie.lean); close each card by the builder's one call (the guide's Derived/Test/ToyasCard.lean, 'card_holds'). Laid BY PROGRAM, IN A SANDBOX (cutbox-door.mjs). By AI agents, Wed Nov 11 2026. No macro, syntax, notation, axiom, sorry.
-/
import Derived.Test.YteeeehfnldkjlaaGreatDoorRows
import GoSem.ClaimSeven
namespace Go.Proofs.YteeeehfnldkjlaaGreatDoor
namespace Rows

/-- THE TIED CARD OF 'selvagelaw17.TreemergeAny'. -/
def treemergeAnyCard : Claim7 := { stood := { row := treemergeAnyRow, standIns := [], harness := (true, "d2e673ed6489631323e3191ef728f2b698292f37a1f28a68f136494dab497198"), looks := false }, kinds := [], alts := [], laidByText := true, laidKinds := [.data, .pinned], laidTests := true, laidLooks := .later }
def TreemergeAnyCardSaid : Prop := Claim7.holds Tryz.pinned (.plain (OpenSpec.ofChange treemergeAnySpec)) treemergeAnyCard

/-- THE TIED CARD OF 'selvagelaw17.TreemergeTrees'. -/
def treemergeTreesCard : Claim7 := { stood := { row := treemergeTreesRow, standIns := [], harness := (true, "d2e673ed6489631323e3191ef728f2b698292f37a1f28a68f136494dab497198"), looks := false }, kinds := [], alts := [], laidByText := true, laidKinds := [.data, .pinned], laidTests := true, laidLooks := .later }
def TreemergeTreesCardSaid : Prop := Claim7.holds Tryz.pinned (.plain (OpenSpec.ofChange treemergeTreesSpec)) treemergeTreesCard

/-- THE TIED CARD OF 'selvagelaw17.TreemergeSides'. -/
def treemergeSidesCard : Claim7 := { stood := { row := treemergeSidesRow, standIns := [], harness := (true, "d2e673ed6489631323e3191ef728f2b698292f37a1f28a68f136494dab497198"), looks := false }, kinds := [], alts := [], laidByText := true, laidKinds := [.data, .pinned], laidTests := true, laidLooks := .later }
def TreemergeSidesCardSaid : Prop := Claim7.holds Tryz.pinned (.plain (OpenSpec.ofChange treemergeSidesSpec)) treemergeSidesCard

/-- THE TIED CARD OF 'selvagelaw17.TreemergeOne'. -/
def treemergeOneCard : Claim7 := { stood := { row := treemergeOneRow, standIns := [], harness := (true, "d2e673ed6489631323e3191ef728f2b698292f37a1f28a68f136494dab497198"), looks := false }, kinds := [], alts := [], laidByText := true, laidKinds := [.data, .pinned], laidTests := true, laidLooks := .later }
def TreemergeOneCardSaid : Prop := Claim7.holds Tryz.pinned (.plain (OpenSpec.ofChange treemergeOneSpec)) treemergeOneCard

/-- THE TIED CARD OF 'selvagelaw17.TreemergeChanged'. -/
def treemergeChangedCard : Claim7 := { stood := { row := treemergeChangedRow, standIns := [], harness := (true, "d2e673ed6489631323e3191ef728f2b698292f37a1f28a68f136494dab497198"), looks := false }, kinds := [], alts := [], laidByText := true, laidKinds := [.data, .pinned], laidTests := true, laidLooks := .later }
def TreemergeChangedCardSaid : Prop := Claim7.holds Tryz.pinned (.plain (OpenSpec.ofChange treemergeChangedSpec)) treemergeChangedCard

/-- THE TIED CARD OF 'selvagelaw17.TreemergeSound'. -/
def treemergeSoundCard : Claim7 := { stood := { row := treemergeSoundRow, standIns := [], harness := (true, "d2e673ed6489631323e3191ef728f2b698292f37a1f28a68f136494dab497198"), looks := false }, kinds := [], alts := [], laidByText := true, laidKinds := [.data, .pinned], laidTests := true, laidLooks := .later }
def TreemergeSoundCardSaid : Prop := Claim7.holds Tryz.pinned (.plain (OpenSpec.ofChange treemergeSoundSpec)) treemergeSoundCard

/-- THE TIED CARD OF 'selvagelaw17.TreemergeCases'. -/
def treemergeCasesCard : Claim7 := { stood := { row := treemergeCasesRow, standIns := [], harness := (true, "d2e673ed6489631323e3191ef728f2b698292f37a1f28a68f136494dab497198"), looks := false }, kinds := [], alts := [], laidByText := true, laidKinds := [.data, .pinned], laidTests := true, laidLooks := .later }
def TreemergeCasesCardSaid : Prop := Claim7.holds Tryz.pinned (.plain (OpenSpec.ofChange treemergeCasesSpec)) treemergeCasesCard

/-- THE TIED CARD OF 'selvagelaw17.TreemergePlaces'. -/
def treemergePlacesCard : Claim7 := { stood := { row := treemergePlacesRow, standIns := [], harness := (true, "d2e673ed6489631323e3191ef728f2b698292f37a1f28a68f136494dab497198"), looks := false }, kinds := [], alts := [], laidByText := true, laidKinds := [.data, .pinned], laidTests := true, laidLooks := .later }
def TreemergePlacesCardSaid : Prop := Claim7.holds Tryz.pinned (.plain (OpenSpec.ofChange treemergePlacesSpec)) treemergePlacesCard

/-- THE TIED CARD OF 'selvagelaw17.TreemergeApart'. -/
def treemergeApartCard : Claim7 := { stood := { row := treemergeApartRow, standIns := [], harness := (true, "d2e673ed6489631323e3191ef728f2b698292f37a1f28a68f136494dab497198"), looks := false }, kinds := [], alts := [], laidByText := true, laidKinds := [.data, .pinned], laidTests := true, laidLooks := .later }
def TreemergeApartCardSaid : Prop := Claim7.holds Tryz.pinned (.plain (OpenSpec.ofChange treemergeApartSpec)) treemergeApartCard

/-- THE TIED CARD OF 'selvagelaw17.TreemergeMoved'. -/
def treemergeMovedCard : Claim7 := { stood := { row := treemergeMovedRow, standIns := [], harness := (true, "d2e673ed6489631323e3191ef728f2b698292f37a1f28a68f136494dab497198"), looks := false }, kinds := [], alts := [], laidByText := true, laidKinds := [.data, .pinned], laidTests := true, laidLooks := .later }
def TreemergeMovedCardSaid : Prop := Claim7.holds Tryz.pinned (.plain (OpenSpec.ofChange treemergeMovedSpec)) treemergeMovedCard

/-- THE TIED CARD OF 'selvagelaw17.TreemergeText'. -/
def treemergeTextCard : Claim7 := { stood := { row := treemergeTextRow, standIns := [], harness := (true, "d2e673ed6489631323e3191ef728f2b698292f37a1f28a68f136494dab497198"), looks := false }, kinds := [], alts := [], laidByText := true, laidKinds := [.data, .pinned], laidTests := true, laidLooks := .later }
def TreemergeTextCardSaid : Prop := Claim7.holds Tryz.pinned (.plain (OpenSpec.ofChange treemergeTextSpec)) treemergeTextCard

/-- THE SECOND FORM's CARD OF 'selvagelaw17.TreemergeAny'. -/
def treemergeAnyUptoCard : Claim7 := { stood := { row := treemergeAnyUptoRow, standIns := [], harness := (true, "d2e673ed6489631323e3191ef728f2b698292f37a1f28a68f136494dab497198"), looks := false }, kinds := [], alts := [], laidByText := true, laidKinds := [.data, .pinned], laidTests := true, laidLooks := .later }
def TreemergeAnyUptoCardSaid : Prop := Claim7.holds Tryz.pinned (.plain (OpenSpec.upto treemergeAnySpec)) treemergeAnyUptoCard

/-- THE SECOND FORM's CARD OF 'selvagelaw17.TreemergeTrees'. -/
def treemergeTreesUptoCard : Claim7 := { stood := { row := treemergeTreesUptoRow, standIns := [], harness := (true, "d2e673ed6489631323e3191ef728f2b698292f37a1f28a68f136494dab497198"), looks := false }, kinds := [], alts := [], laidByText := true, laidKinds := [.data, .pinned], laidTests := true, laidLooks := .later }
def TreemergeTreesUptoCardSaid : Prop := Claim7.holds Tryz.pinned (.plain (OpenSpec.upto treemergeTreesSpec)) treemergeTreesUptoCard

/-- THE SECOND FORM's CARD OF 'selvagelaw17.TreemergeSides'. -/
def treemergeSidesUptoCard : Claim7 := { stood := { row := treemergeSidesUptoRow, standIns := [], harness := (true, "d2e673ed6489631323e3191ef728f2b698292f37a1f28a68f136494dab497198"), looks := false }, kinds := [], alts := [], laidByText := true, laidKinds := [.data, .pinned], laidTests := true, laidLooks := .later }
def TreemergeSidesUptoCardSaid : Prop := Claim7.holds Tryz.pinned (.plain (OpenSpec.upto treemergeSidesSpec)) treemergeSidesUptoCard

/-- THE SECOND FORM's CARD OF 'selvagelaw17.TreemergeOne'. -/
def treemergeOneUptoCard : Claim7 := { stood := { row := treemergeOneUptoRow, standIns := [], harness := (true, "d2e673ed6489631323e3191ef728f2b698292f37a1f28a68f136494dab497198"), looks := false }, kinds := [], alts := [], laidByText := true, laidKinds := [.data, .pinned], laidTests := true, laidLooks := .later }
def TreemergeOneUptoCardSaid : Prop := Claim7.holds Tryz.pinned (.plain (OpenSpec.upto treemergeOneSpec)) treemergeOneUptoCard

/-- THE SECOND FORM's CARD OF 'selvagelaw17.TreemergeChanged'. -/
def treemergeChangedUptoCard : Claim7 := { stood := { row := treemergeChangedUptoRow, standIns := [], harness := (true, "d2e673ed6489631323e3191ef728f2b698292f37a1f28a68f136494dab497198"), looks := false }, kinds := [], alts := [], laidByText := true, laidKinds := [.data, .pinned], laidTests := true, laidLooks := .later }
def TreemergeChangedUptoCardSaid : Prop := Claim7.holds Tryz.pinned (.plain (OpenSpec.upto treemergeChangedSpec)) treemergeChangedUptoCard

/-- THE SECOND FORM's CARD OF 'selvagelaw17.TreemergeSound'. -/
def treemergeSoundUptoCard : Claim7 := { stood := { row := treemergeSoundUptoRow, standIns := [], harness := (true, "d2e673ed6489631323e3191ef728f2b698292f37a1f28a68f136494dab497198"), looks := false }, kinds := [], alts := [], laidByText := true, laidKinds := [.data, .pinned], laidTests := true, laidLooks := .later }
def TreemergeSoundUptoCardSaid : Prop := Claim7.holds Tryz.pinned (.plain (OpenSpec.upto treemergeSoundSpec)) treemergeSoundUptoCard

/-- THE SECOND FORM's CARD OF 'selvagelaw17.TreemergeCases'. -/
def treemergeCasesUptoCard : Claim7 := { stood := { row := treemergeCasesUptoRow, standIns := [], harness := (true, "d2e673ed6489631323e3191ef728f2b698292f37a1f28a68f136494dab497198"), looks := false }, kinds := [], alts := [], laidByText := true, laidKinds := [.data, .pinned], laidTests := true, laidLooks := .later }
def TreemergeCasesUptoCardSaid : Prop := Claim7.holds Tryz.pinned (.plain (OpenSpec.upto treemergeCasesSpec)) treemergeCasesUptoCard

/-- THE SECOND FORM's CARD OF 'selvagelaw17.TreemergePlaces'. -/
def treemergePlacesUptoCard : Claim7 := { stood := { row := treemergePlacesUptoRow, standIns := [], harness := (true, "d2e673ed6489631323e3191ef728f2b698292f37a1f28a68f136494dab497198"), looks := false }, kinds := [], alts := [], laidByText := true, laidKinds := [.data, .pinned], laidTests := true, laidLooks := .later }
def TreemergePlacesUptoCardSaid : Prop := Claim7.holds Tryz.pinned (.plain (OpenSpec.upto treemergePlacesSpec)) treemergePlacesUptoCard

/-- THE SECOND FORM's CARD OF 'selvagelaw17.TreemergeApart'. -/
def treemergeApartUptoCard : Claim7 := { stood := { row := treemergeApartUptoRow, standIns := [], harness := (true, "d2e673ed6489631323e3191ef728f2b698292f37a1f28a68f136494dab497198"), looks := false }, kinds := [], alts := [], laidByText := true, laidKinds := [.data, .pinned], laidTests := true, laidLooks := .later }
def TreemergeApartUptoCardSaid : Prop := Claim7.holds Tryz.pinned (.plain (OpenSpec.upto treemergeApartSpec)) treemergeApartUptoCard

/-- THE SECOND FORM's CARD OF 'selvagelaw17.TreemergeMoved'. -/
def treemergeMovedUptoCard : Claim7 := { stood := { row := treemergeMovedUptoRow, standIns := [], harness := (true, "d2e673ed6489631323e3191ef728f2b698292f37a1f28a68f136494dab497198"), looks := false }, kinds := [], alts := [], laidByText := true, laidKinds := [.data, .pinned], laidTests := true, laidLooks := .later }
def TreemergeMovedUptoCardSaid : Prop := Claim7.holds Tryz.pinned (.plain (OpenSpec.upto treemergeMovedSpec)) treemergeMovedUptoCard

/-- THE SECOND FORM's CARD OF 'selvagelaw17.TreemergeText'. -/
def treemergeTextUptoCard : Claim7 := { stood := { row := treemergeTextUptoRow, standIns := [], harness := (true, "d2e673ed6489631323e3191ef728f2b698292f37a1f28a68f136494dab497198"), looks := false }, kinds := [], alts := [], laidByText := true, laidKinds := [.data, .pinned], laidTests := true, laidLooks := .later }
def TreemergeTextUptoCardSaid : Prop := Claim7.holds Tryz.pinned (.plain (OpenSpec.upto treemergeTextSpec)) treemergeTextUptoCard
end Rows
end Go.Proofs.YteeeehfnldkjlaaGreatDoor
