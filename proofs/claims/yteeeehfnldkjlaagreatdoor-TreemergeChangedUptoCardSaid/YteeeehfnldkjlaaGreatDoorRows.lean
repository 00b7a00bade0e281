/-
  NARROWER THAN 'FOR EVERY INPUT', by the rows' own cells (each row's printed sentence says how): TreemergeAny: laid · TreemergeTrees: laid · TreemergeSides: laid · TreemergeOne: laid · TreemergeChanged: laid · TreemergeSound: laid · TreemergeCases: laid · TreemergePlaces: laid · TreemergeApart: laid · TreemergeMoved: laid · TreemergeText: laid.
  DERIVED. THE GIVEN ROWS OF THIS SEAT. 11 by the template 'for every input the law returns true; each argument reads behind the call as it read before'; 0 by the template 'total and deterministic' (their statements: YteeeehfnldkjlaaGreatDoorTotals.lean).
  GIVEN WITH THE SEED: the statements are not yours to turn. If you find one false, say at which input.
  Laid BY PROGRAM, IN A SANDBOX (cutbox-rows.mjs): the forced cells as the released guide's own fill.sh prints them over the translation cdcbef4dbfe999d1… (all of the seat's roots in one cut). By AI agents, Wed Nov 11 2026. No macro, syntax, notation, axiom, sorry.
-/
import Derived.Test.YteeeehfnldkjlaaGreatDoorChecked
import GoSem.PinnedTables
import GoSem.Claim
import GoSem.ClaimJoined
import GoSem.ClaimMapViews
import Derived.JoinedTies
import Derived.KernelRfl
namespace Go.Proofs.YteeeehfnldkjlaaGreatDoor
/- THE CELL 'sum', in the pinned program and in every row, IS THE sha256 OF THE DUMP (.gsa) THAT YteeeehfnldkjlaaGreatDoorProg.lean LOADS. Nothing in Lean hashes anything: it is a label: what it is worth is what the hold of that sum in a sandbox is worth. -/
noncomputable def Tryz.pinned : Pinned := { name := "yteeeehfnldkjlaagreatdoor", sum := "cdcbef4dbfe999d163195535df7d3cfa40174e73b88fd0779cbe0715289c74c4", checked := Tryz.checked }
namespace Rows
def none {H : Type} : Left H := { results := [], args := [] }

/- WHAT THE LISTED PACKAGE-LEVEL VARIABLES READ AS WHEN THE CALL BEGINS. Each datum BY PROGRAM (the guide's laid-datum.mjs) off the statement by which the dump's own 'gosem.cut.vars' lays the variable. In a bare row this is a premise. The card (YteeeehfnldkjlaaGreatDoorCards.lean) ties it to the program's text. -/
def laid_unicode_utf8_acceptRanges {H : Type} : DataW H := .agg [.agg [.lit (.int .u8 128), .lit (.int .u8 191)], .agg [.lit (.int .u8 160), .lit (.int .u8 191)], .agg [.lit (.int .u8 128), .lit (.int .u8 159)], .agg [.lit (.int .u8 144), .lit (.int .u8 191)], .agg [.lit (.int .u8 128), .lit (.int .u8 143)], .agg [.lit (.int .u8 0), .lit (.int .u8 0)], .agg [.lit (.int .u8 0), .lit (.int .u8 0)], .agg [.lit (.int .u8 0), .lit (.int .u8 0)], .agg [.lit (.int .u8 0), .lit (.int .u8 0)], .agg [.lit (.int .u8 0), .lit (.int .u8 0)], .agg [.lit (.int .u8 0), .lit (.int .u8 0)], .agg [.lit (.int .u8 0), .lit (.int .u8 0)], .agg [.lit (.int .u8 0), .lit (.int .u8 0)], .agg [.lit (.int .u8 0), .lit (.int .u8 0)], .agg [.lit (.int .u8 0), .lit (.int .u8 0)], .agg [.lit (.int .u8 0), .lit (.int .u8 0)]]
/-- One of Go's own tables, pinned by name: the form's constant. -/
def laid_unicode_utf8_first : DataW Unit := Go.Pinned.utf8First

/-- 'selvagelaw17.TreemergeAny': WHATEVER THE INPUT: true; the input reads as it did. -/
def treemergeAnySpec : ChangeSpec := { name := "treemergeAny", fn := fun _ => fun
  | [d1, d2, d3] => { results := [.lit (.bool true)], args := [d1, d2, d3] }
  | _ => none }
def treemergeAnyRow : OpenClaim := { program := "yteeeehfnldkjlaagreatdoor", sum := "cdcbef4dbfe999d163195535df7d3cfa40174e73b88fd0779cbe0715289c74c4", func := "selvage/selvagelaw17.TreemergeAny", spec := "treemergeAny", inPlace := ["internal/bytealg.CountString", "internal/bytealg.IndexByteString", "internal/bytealg.IndexString", "internal/bytealg.IndexByte", "internal/bytealg.abigen_runtime_cmpstring"], unfollowed := true, recurses := true, named := ["unicode/utf8.first", "unicode/utf8.acceptRanges", "internal/bytealg.MaxLen"], plainKeys := false, apart := false, laid := [("unicode/utf8.acceptRanges", laid_unicode_utf8_acceptRanges), ("unicode/utf8.first", laid_unicode_utf8_first)] }
def TreemergeAnySaid : Prop := treemergeAnyRow.holds Tryz.pinned (OpenSpec.ofChange treemergeAnySpec)

/-- ITS FALSE NEIGHBOUR: 'it returns false'. Refute it at one input. -/
def treemergeAnyWrong : ChangeSpec := { name := "treemergeAny", fn := fun _ => fun
  | [d1, d2, d3] => { results := [.lit (.bool false)], args := [d1, d2, d3] }
  | _ => none }
def TreemergeAnyWrongFalsely : Prop := treemergeAnyRow.holds Tryz.pinned (OpenSpec.ofChange treemergeAnyWrong)

/-- 'selvagelaw17.TreemergeTrees': WHATEVER THE INPUT: true; the input reads as it did. -/
def treemergeTreesSpec : ChangeSpec := { name := "treemergeTrees", fn := fun _ => fun
  | [d1, d2, d3] => { results := [.lit (.bool true)], args := [d1, d2, d3] }
  | _ => none }
def treemergeTreesRow : OpenClaim := { program := "yteeeehfnldkjlaagreatdoor", sum := "cdcbef4dbfe999d163195535df7d3cfa40174e73b88fd0779cbe0715289c74c4", func := "selvage/selvagelaw17.TreemergeTrees", spec := "treemergeTrees", inPlace := ["internal/bytealg.CountString", "internal/bytealg.IndexByteString", "internal/bytealg.IndexString", "internal/bytealg.IndexByte", "internal/bytealg.abigen_runtime_cmpstring"], unfollowed := true, recurses := true, named := ["unicode/utf8.first", "unicode/utf8.acceptRanges", "internal/bytealg.MaxLen"], plainKeys := false, apart := false, laid := [("unicode/utf8.acceptRanges", laid_unicode_utf8_acceptRanges), ("unicode/utf8.first", laid_unicode_utf8_first)] }
def TreemergeTreesSaid : Prop := treemergeTreesRow.holds Tryz.pinned (OpenSpec.ofChange treemergeTreesSpec)

/-- ITS FALSE NEIGHBOUR: 'it returns false'. Refute it at one input. -/
def treemergeTreesWrong : ChangeSpec := { name := "treemergeTrees", fn := fun _ => fun
  | [d1, d2, d3] => { results := [.lit (.bool false)], args := [d1, d2, d3] }
  | _ => none }
def TreemergeTreesWrongFalsely : Prop := treemergeTreesRow.holds Tryz.pinned (OpenSpec.ofChange treemergeTreesWrong)

/-- 'selvagelaw17.TreemergeSides': WHATEVER THE INPUT: true; the input reads as it did. -/
def treemergeSidesSpec : ChangeSpec := { name := "treemergeSides", fn := fun _ => fun
  | [d1, d2, d3] => { results := [.lit (.bool true)], args := [d1, d2, d3] }
  | _ => none }
def treemergeSidesRow : OpenClaim := { program := "yteeeehfnldkjlaagreatdoor", sum := "cdcbef4dbfe999d163195535df7d3cfa40174e73b88fd0779cbe0715289c74c4", func := "selvage/selvagelaw17.TreemergeSides", spec := "treemergeSides", inPlace := ["internal/bytealg.CountString", "internal/bytealg.IndexByteString", "internal/bytealg.IndexString", "internal/bytealg.IndexByte", "internal/bytealg.abigen_runtime_cmpstring"], unfollowed := true, recurses := true, named := ["unicode/utf8.first", "unicode/utf8.acceptRanges", "internal/bytealg.MaxLen"], plainKeys := false, apart := false, laid := [("unicode/utf8.acceptRanges", laid_unicode_utf8_acceptRanges), ("unicode/utf8.first", laid_unicode_utf8_first)] }
def TreemergeSidesSaid : Prop := treemergeSidesRow.holds Tryz.pinned (OpenSpec.ofChange treemergeSidesSpec)

/-- ITS FALSE NEIGHBOUR: 'it returns false'. Refute it at one input. -/
def treemergeSidesWrong : ChangeSpec := { name := "treemergeSides", fn := fun _ => fun
  | [d1, d2, d3] => { results := [.lit (.bool false)], args := [d1, d2, d3] }
  | _ => none }
def TreemergeSidesWrongFalsely : Prop := treemergeSidesRow.holds Tryz.pinned (OpenSpec.ofChange treemergeSidesWrong)

/-- 'selvagelaw17.TreemergeOne': WHATEVER THE INPUT: true; the input reads as it did. -/
def treemergeOneSpec : ChangeSpec := { name := "treemergeOne", fn := fun _ => fun
  | [d1, d2] => { results := [.lit (.bool true)], args := [d1, d2] }
  | _ => none }
def treemergeOneRow : OpenClaim := { program := "yteeeehfnldkjlaagreatdoor", sum := "cdcbef4dbfe999d163195535df7d3cfa40174e73b88fd0779cbe0715289c74c4", func := "selvage/selvagelaw17.TreemergeOne", spec := "treemergeOne", inPlace := ["internal/bytealg.CountString", "internal/bytealg.IndexByteString", "internal/bytealg.IndexString", "internal/bytealg.IndexByte", "internal/bytealg.abigen_runtime_cmpstring"], unfollowed := true, recurses := true, named := ["unicode/utf8.first", "unicode/utf8.acceptRanges", "internal/bytealg.MaxLen"], plainKeys := false, apart := false, laid := [("unicode/utf8.acceptRanges", laid_unicode_utf8_acceptRanges), ("unicode/utf8.first", laid_unicode_utf8_first)] }
def TreemergeOneSaid : Prop := treemergeOneRow.holds Tryz.pinned (OpenSpec.ofChange treemergeOneSpec)

/-- ITS FALSE NEIGHBOUR: 'it returns false'. Refute it at one input. -/
def treemergeOneWrong : ChangeSpec := { name := "treemergeOne", fn := fun _ => fun
  | [d1, d2] => { results := [.lit (.bool false)], args := [d1, d2] }
  | _ => none }
def TreemergeOneWrongFalsely : Prop := treemergeOneRow.holds Tryz.pinned (OpenSpec.ofChange treemergeOneWrong)

/-- 'selvagelaw17.TreemergeChanged': WHATEVER THE INPUT: true; the input reads as it did. -/
def treemergeChangedSpec : ChangeSpec := { name := "treemergeChanged", fn := fun _ => fun
  | [d1, d2, d3] => { results := [.lit (.bool true)], args := [d1, d2, d3] }
  | _ => none }
def treemergeChangedRow : OpenClaim := { program := "yteeeehfnldkjlaagreatdoor", sum := "cdcbef4dbfe999d163195535df7d3cfa40174e73b88fd0779cbe0715289c74c4", func := "selvage/selvagelaw17.TreemergeChanged", spec := "treemergeChanged", inPlace := ["internal/bytealg.CountString", "internal/bytealg.IndexByteString", "internal/bytealg.IndexString", "internal/bytealg.IndexByte", "internal/bytealg.abigen_runtime_cmpstring"], unfollowed := true, recurses := true, named := ["unicode/utf8.first", "unicode/utf8.acceptRanges", "internal/bytealg.MaxLen"], plainKeys := false, apart := false, laid := [("unicode/utf8.acceptRanges", laid_unicode_utf8_acceptRanges), ("unicode/utf8.first", laid_unicode_utf8_first)] }
def TreemergeChangedSaid : Prop := treemergeChangedRow.holds Tryz.pinned (OpenSpec.ofChange treemergeChangedSpec)

/-- ITS FALSE NEIGHBOUR: 'it returns false'. Refute it at one input. -/
def treemergeChangedWrong : ChangeSpec := { name := "treemergeChanged", fn := fun _ => fun
  | [d1, d2, d3] => { results := [.lit (.bool false)], args := [d1, d2, d3] }
  | _ => none }
def TreemergeChangedWrongFalsely : Prop := treemergeChangedRow.holds Tryz.pinned (OpenSpec.ofChange treemergeChangedWrong)

/-- 'selvagelaw17.TreemergeSound': WHATEVER THE INPUT: true; the input reads as it did. -/
def treemergeSoundSpec : ChangeSpec := { name := "treemergeSound", fn := fun _ => fun
  | [d1, d2, d3] => { results := [.lit (.bool true)], args := [d1, d2, d3] }
  | _ => none }
def treemergeSoundRow : OpenClaim := { program := "yteeeehfnldkjlaagreatdoor", sum := "cdcbef4dbfe999d163195535df7d3cfa40174e73b88fd0779cbe0715289c74c4", func := "selvage/selvagelaw17.TreemergeSound", spec := "treemergeSound", inPlace := ["internal/bytealg.CountString", "internal/bytealg.IndexByteString", "internal/bytealg.IndexString", "internal/bytealg.IndexByte", "internal/bytealg.abigen_runtime_cmpstring"], unfollowed := true, recurses := true, named := ["unicode/utf8.first", "unicode/utf8.acceptRanges", "internal/bytealg.MaxLen"], plainKeys := false, apart := false, laid := [("unicode/utf8.acceptRanges", laid_unicode_utf8_acceptRanges), ("unicode/utf8.first", laid_unicode_utf8_first)] }
def TreemergeSoundSaid : Prop := treemergeSoundRow.holds Tryz.pinned (OpenSpec.ofChange treemergeSoundSpec)

/-- ITS FALSE NEIGHBOUR: 'it returns false'. Refute it at one input. -/
def treemergeSoundWrong : ChangeSpec := { name := "treemergeSound", fn := fun _ => fun
  | [d1, d2, d3] => { results := [.lit (.bool false)], args := [d1, d2, d3] }
  | _ => none }
def TreemergeSoundWrongFalsely : Prop := treemergeSoundRow.holds Tryz.pinned (OpenSpec.ofChange treemergeSoundWrong)

/-- 'selvagelaw17.TreemergeCases': WHATEVER THE INPUT: true; the input reads as it did. -/
def treemergeCasesSpec : ChangeSpec := { name := "treemergeCases", fn := fun _ => fun
  | [d1, d2] => { results := [.lit (.bool true)], args := [d1, d2] }
  | _ => none }
def treemergeCasesRow : OpenClaim := { program := "yteeeehfnldkjlaagreatdoor", sum := "cdcbef4dbfe999d163195535df7d3cfa40174e73b88fd0779cbe0715289c74c4", func := "selvage/selvagelaw17.TreemergeCases", spec := "treemergeCases", inPlace := ["internal/bytealg.CountString", "internal/bytealg.IndexByteString", "internal/bytealg.IndexString", "internal/bytealg.IndexByte", "internal/bytealg.abigen_runtime_cmpstring"], unfollowed := true, recurses := true, named := ["unicode/utf8.first", "unicode/utf8.acceptRanges", "internal/bytealg.MaxLen"], plainKeys := false, apart := false, laid := [("unicode/utf8.acceptRanges", laid_unicode_utf8_acceptRanges), ("unicode/utf8.first", laid_unicode_utf8_first)] }
def TreemergeCasesSaid : Prop := treemergeCasesRow.holds Tryz.pinned (OpenSpec.ofChange treemergeCasesSpec)

/-- ITS FALSE NEIGHBOUR: 'it returns false'. Refute it at one input. -/
def treemergeCasesWrong : ChangeSpec := { name := "treemergeCases", fn := fun _ => fun
  | [d1, d2] => { results := [.lit (.bool false)], args := [d1, d2] }
  | _ => none }
def TreemergeCasesWrongFalsely : Prop := treemergeCasesRow.holds Tryz.pinned (OpenSpec.ofChange treemergeCasesWrong)

/-- 'selvagelaw17.TreemergePlaces': WHATEVER THE INPUT: true; the input reads as it did. -/
def treemergePlacesSpec : ChangeSpec := { name := "treemergePlaces", fn := fun _ => fun
  | [d1, d2] => { results := [.lit (.bool true)], args := [d1, d2] }
  | _ => none }
def treemergePlacesRow : OpenClaim := { program := "yteeeehfnldkjlaagreatdoor", sum := "cdcbef4dbfe999d163195535df7d3cfa40174e73b88fd0779cbe0715289c74c4", func := "selvage/selvagelaw17.TreemergePlaces", spec := "treemergePlaces", inPlace := ["internal/bytealg.CountString", "internal/bytealg.IndexByteString", "internal/bytealg.IndexString", "internal/bytealg.IndexByte", "internal/bytealg.abigen_runtime_cmpstring"], unfollowed := true, recurses := true, named := ["unicode/utf8.first", "unicode/utf8.acceptRanges", "internal/bytealg.MaxLen"], plainKeys := false, apart := false, laid := [("unicode/utf8.acceptRanges", laid_unicode_utf8_acceptRanges), ("unicode/utf8.first", laid_unicode_utf8_first)] }
def TreemergePlacesSaid : Prop := treemergePlacesRow.holds Tryz.pinned (OpenSpec.ofChange treemergePlacesSpec)

/-- ITS FALSE NEIGHBOUR: 'it returns false'. Refute it at one input. -/
def treemergePlacesWrong : ChangeSpec := { name := "treemergePlaces", fn := fun _ => fun
  | [d1, d2] => { results := [.lit (.bool false)], args := [d1, d2] }
  | _ => none }
def TreemergePlacesWrongFalsely : Prop := treemergePlacesRow.holds Tryz.pinned (OpenSpec.ofChange treemergePlacesWrong)

/-- 'selvagelaw17.TreemergeApart': WHATEVER THE INPUT: true; the input reads as it did. -/
def treemergeApartSpec : ChangeSpec := { name := "treemergeApart", fn := fun _ => fun
  | [d1, d2, d3] => { results := [.lit (.bool true)], args := [d1, d2, d3] }
  | _ => none }
def treemergeApartRow : OpenClaim := { program := "yteeeehfnldkjlaagreatdoor", sum := "cdcbef4dbfe999d163195535df7d3cfa40174e73b88fd0779cbe0715289c74c4", func := "selvage/selvagelaw17.TreemergeApart", spec := "treemergeApart", inPlace := ["internal/bytealg.CountString", "internal/bytealg.IndexByteString", "internal/bytealg.IndexString", "internal/bytealg.IndexByte", "internal/bytealg.abigen_runtime_cmpstring"], unfollowed := true, recurses := true, named := ["unicode/utf8.first", "unicode/utf8.acceptRanges", "internal/bytealg.MaxLen"], plainKeys := false, apart := false, laid := [("unicode/utf8.acceptRanges", laid_unicode_utf8_acceptRanges), ("unicode/utf8.first", laid_unicode_utf8_first)] }
def TreemergeApartSaid : Prop := treemergeApartRow.holds Tryz.pinned (OpenSpec.ofChange treemergeApartSpec)

/-- ITS FALSE NEIGHBOUR: 'it returns false'. Refute it at one input. -/
def treemergeApartWrong : ChangeSpec := { name := "treemergeApart", fn := fun _ => fun
  | [d1, d2, d3] => { results := [.lit (.bool false)], args := [d1, d2, d3] }
  | _ => none }
def TreemergeApartWrongFalsely : Prop := treemergeApartRow.holds Tryz.pinned (OpenSpec.ofChange treemergeApartWrong)

/-- 'selvagelaw17.TreemergeMoved': WHATEVER THE INPUT: true; the input reads as it did. -/
def treemergeMovedSpec : ChangeSpec := { name := "treemergeMoved", fn := fun _ => fun
  | [d1, d2, d3, d4, d5] => { results := [.lit (.bool true)], args := [d1, d2, d3, d4, d5] }
  | _ => none }
def treemergeMovedRow : OpenClaim := { program := "yteeeehfnldkjlaagreatdoor", sum := "cdcbef4dbfe999d163195535df7d3cfa40174e73b88fd0779cbe0715289c74c4", func := "selvage/selvagelaw17.TreemergeMoved", spec := "treemergeMoved", inPlace := ["internal/bytealg.CountString", "internal/bytealg.IndexByteString", "internal/bytealg.IndexString", "internal/bytealg.IndexByte", "internal/bytealg.abigen_runtime_cmpstring"], unfollowed := true, recurses := true, named := ["unicode/utf8.first", "unicode/utf8.acceptRanges", "internal/bytealg.MaxLen"], plainKeys := false, apart := false, laid := [("unicode/utf8.acceptRanges", laid_unicode_utf8_acceptRanges), ("unicode/utf8.first", laid_unicode_utf8_first)] }
def TreemergeMovedSaid : Prop := treemergeMovedRow.holds Tryz.pinned (OpenSpec.ofChange treemergeMovedSpec)

/-- ITS FALSE NEIGHBOUR: 'it returns false'. Refute it at one input. -/
def treemergeMovedWrong : ChangeSpec := { name := "treemergeMoved", fn := fun _ => fun
  | [d1, d2, d3, d4, d5] => { results := [.lit (.bool false)], args := [d1, d2, d3, d4, d5] }
  | _ => none }
def TreemergeMovedWrongFalsely : Prop := treemergeMovedRow.holds Tryz.pinned (OpenSpec.ofChange treemergeMovedWrong)

/-- 'selvagelaw17.TreemergeText': WHATEVER THE INPUT: true; the input reads as it did. -/
def treemergeTextSpec : ChangeSpec := { name := "treemergeText", fn := fun _ => fun
  | [d1, d2, d3] => { results := [.lit (.bool true)], args := [d1, d2, d3] }
  | _ => none }
def treemergeTextRow : OpenClaim := { program := "yteeeehfnldkjlaagreatdoor", sum := "cdcbef4dbfe999d163195535df7d3cfa40174e73b88fd0779cbe0715289c74c4", func := "selvage/selvagelaw17.TreemergeText", spec := "treemergeText", inPlace := ["internal/bytealg.CountString", "internal/bytealg.IndexByteString", "internal/bytealg.IndexString", "internal/bytealg.IndexByte", "internal/bytealg.abigen_runtime_cmpstring"], unfollowed := true, recurses := true, named := ["unicode/utf8.first", "unicode/utf8.acceptRanges", "internal/bytealg.MaxLen"], plainKeys := false, apart := false, laid := [("unicode/utf8.acceptRanges", laid_unicode_utf8_acceptRanges), ("unicode/utf8.first", laid_unicode_utf8_first)] }
def TreemergeTextSaid : Prop := treemergeTextRow.holds Tryz.pinned (OpenSpec.ofChange treemergeTextSpec)

/-- ITS FALSE NEIGHBOUR: 'it returns false'. Refute it at one input. -/
def treemergeTextWrong : ChangeSpec := { name := "treemergeText", fn := fun _ => fun
  | [d1, d2, d3] => { results := [.lit (.bool false)], args := [d1, d2, d3] }
  | _ => none }
def TreemergeTextWrongFalsely : Prop := treemergeTextRow.holds Tryz.pinned (OpenSpec.ofChange treemergeTextWrong)

/- THE SECOND FORM. 'bulk': how many values and letters a reading holds, each counted each time it is reached (what is shared counts as often as it is met; a slice's spare places count too). A statement '..UptoSaid' is the law's where the arguments, and the package variables that the reading takes, are together of bulk at most 1048576: NARROWER than '..Said'. Prove '..Said' where nothing that the law and all that it calls make is longer than what came in: it says more and counts as full. Else prove '..UptoSaid'. A law counts once. -/
mutual
def uptoBulk {H : Type} : DataW H → Nat
  | .lit (.string bytes) => bytes.length + 1
  | .lit _ => 1
  | .nil => 1
  | .ptr d => uptoBulk d + 1
  | .slice elems spare => uptoBulkAll elems + uptoBulkAll spare + 1
  | .agg parts => uptoBulkAll parts + 1
  | .iface _ d => uptoBulk d + 1
  | .map entries => uptoBulkEntries entries + 1
  | .held _ => 1
def uptoBulkAll {H : Type} : List (DataW H) → Nat
  | [] => 0
  | d :: r => uptoBulk d + uptoBulkAll r
def uptoBulkEntries {H : Type} : List (Lit × DataW H) → Nat
  | [] => 0
  | x :: r => uptoBulkEntry x + uptoBulkEntries r
def uptoBulkEntry {H : Type} : Lit × DataW H → Nat
  | (.string bytes, d) => bytes.length + uptoBulk d + 1
  | (_, d) => uptoBulk d + 1
 end
def uptoSmall : (H : Type) → List (DataW H) → Bool := fun _ ds => decide (uptoBulkAll ds ≤ 1048576)
def OpenSpec.upto (s : _root_.Go.ChangeSpec) : _root_.Go.OpenSpec := { _root_.Go.OpenSpec.ofChange s with cond := some uptoSmall }

/-- 'selvagelaw17.TreemergeAny', WHERE WHAT IT READS IS OF BULK AT MOST 1048576: true; the input reads as it did. -/
def treemergeAnyUptoRow : OpenClaim := { program := "yteeeehfnldkjlaagreatdoor", sum := "cdcbef4dbfe999d163195535df7d3cfa40174e73b88fd0779cbe0715289c74c4", func := "selvage/selvagelaw17.TreemergeAny", spec := "treemergeAny", inPlace := ["internal/bytealg.CountString", "internal/bytealg.IndexByteString", "internal/bytealg.IndexString", "internal/bytealg.IndexByte", "internal/bytealg.abigen_runtime_cmpstring"], unfollowed := true, recurses := true, named := ["unicode/utf8.first", "unicode/utf8.acceptRanges", "internal/bytealg.MaxLen"], plainKeys := false, apart := false, laid := [("unicode/utf8.acceptRanges", laid_unicode_utf8_acceptRanges), ("unicode/utf8.first", laid_unicode_utf8_first)], narrowed := true }
def TreemergeAnyUptoSaid : Prop := treemergeAnyUptoRow.holds Tryz.pinned (OpenSpec.upto treemergeAnySpec)

/-- 'selvagelaw17.TreemergeTrees', WHERE WHAT IT READS IS OF BULK AT MOST 1048576: true; the input reads as it did. -/
def treemergeTreesUptoRow : OpenClaim := { program := "yteeeehfnldkjlaagreatdoor", sum := "cdcbef4dbfe999d163195535df7d3cfa40174e73b88fd0779cbe0715289c74c4", func := "selvage/selvagelaw17.TreemergeTrees", spec := "treemergeTrees", inPlace := ["internal/bytealg.CountString", "internal/bytealg.IndexByteString", "internal/bytealg.IndexString", "internal/bytealg.IndexByte", "internal/bytealg.abigen_runtime_cmpstring"], unfollowed := true, recurses := true, named := ["unicode/utf8.first", "unicode/utf8.acceptRanges", "internal/bytealg.MaxLen"], plainKeys := false, apart := false, laid := [("unicode/utf8.acceptRanges", laid_unicode_utf8_acceptRanges), ("unicode/utf8.first", laid_unicode_utf8_first)], narrowed := true }
def TreemergeTreesUptoSaid : Prop := treemergeTreesUptoRow.holds Tryz.pinned (OpenSpec.upto treemergeTreesSpec)

/-- 'selvagelaw17.TreemergeSides', WHERE WHAT IT READS IS OF BULK AT MOST 1048576: true; the input reads as it did. -/
def treemergeSidesUptoRow : OpenClaim := { program := "yteeeehfnldkjlaagreatdoor", sum := "cdcbef4dbfe999d163195535df7d3cfa40174e73b88fd0779cbe0715289c74c4", func := "selvage/selvagelaw17.TreemergeSides", spec := "treemergeSides", inPlace := ["internal/bytealg.CountString", "internal/bytealg.IndexByteString", "internal/bytealg.IndexString", "internal/bytealg.IndexByte", "internal/bytealg.abigen_runtime_cmpstring"], unfollowed := true, recurses := true, named := ["unicode/utf8.first", "unicode/utf8.acceptRanges", "internal/bytealg.MaxLen"], plainKeys := false, apart := false, laid := [("unicode/utf8.acceptRanges", laid_unicode_utf8_acceptRanges), ("unicode/utf8.first", laid_unicode_utf8_first)], narrowed := true }
def TreemergeSidesUptoSaid : Prop := treemergeSidesUptoRow.holds Tryz.pinned (OpenSpec.upto treemergeSidesSpec)

/-- 'selvagelaw17.TreemergeOne', WHERE WHAT IT READS IS OF BULK AT MOST 1048576: true; the input reads as it did. -/
def treemergeOneUptoRow : OpenClaim := { program := "yteeeehfnldkjlaagreatdoor", sum := "cdcbef4dbfe999d163195535df7d3cfa40174e73b88fd0779cbe0715289c74c4", func := "selvage/selvagelaw17.TreemergeOne", spec := "treemergeOne", inPlace := ["internal/bytealg.CountString", "internal/bytealg.IndexByteString", "internal/bytealg.IndexString", "internal/bytealg.IndexByte", "internal/bytealg.abigen_runtime_cmpstring"], unfollowed := true, recurses := true, named := ["unicode/utf8.first", "unicode/utf8.acceptRanges", "internal/bytealg.MaxLen"], plainKeys := false, apart := false, laid := [("unicode/utf8.acceptRanges", laid_unicode_utf8_acceptRanges), ("unicode/utf8.first", laid_unicode_utf8_first)], narrowed := true }
def TreemergeOneUptoSaid : Prop := treemergeOneUptoRow.holds Tryz.pinned (OpenSpec.upto treemergeOneSpec)

/-- 'selvagelaw17.TreemergeChanged', WHERE WHAT IT READS IS OF BULK AT MOST 1048576: true; the input reads as it did. -/
def treemergeChangedUptoRow : OpenClaim := { program := "yteeeehfnldkjlaagreatdoor", sum := "cdcbef4dbfe999d163195535df7d3cfa40174e73b88fd0779cbe0715289c74c4", func := "selvage/selvagelaw17.TreemergeChanged", spec := "treemergeChanged", inPlace := ["internal/bytealg.CountString", "internal/bytealg.IndexByteString", "internal/bytealg.IndexString", "internal/bytealg.IndexByte", "internal/bytealg.abigen_runtime_cmpstring"], unfollowed := true, recurses := true, named := ["unicode/utf8.first", "unicode/utf8.acceptRanges", "internal/bytealg.MaxLen"], plainKeys := false, apart := false, laid := [("unicode/utf8.acceptRanges", laid_unicode_utf8_acceptRanges), ("unicode/utf8.first", laid_unicode_utf8_first)], narrowed := true }
def TreemergeChangedUptoSaid : Prop := treemergeChangedUptoRow.holds Tryz.pinned (OpenSpec.upto treemergeChangedSpec)

/-- 'selvagelaw17.TreemergeSound', WHERE WHAT IT READS IS OF BULK AT MOST 1048576: true; the input reads as it did. -/
def treemergeSoundUptoRow : OpenClaim := { program := "yteeeehfnldkjlaagreatdoor", sum := "cdcbef4dbfe999d163195535df7d3cfa40174e73b88fd0779cbe0715289c74c4", func := "selvage/selvagelaw17.TreemergeSound", spec := "treemergeSound", inPlace := ["internal/bytealg.CountString", "internal/bytealg.IndexByteString", "internal/bytealg.IndexString", "internal/bytealg.IndexByte", "internal/bytealg.abigen_runtime_cmpstring"], unfollowed := true, recurses := true, named := ["unicode/utf8.first", "unicode/utf8.acceptRanges", "internal/bytealg.MaxLen"], plainKeys := false, apart := false, laid := [("unicode/utf8.acceptRanges", laid_unicode_utf8_acceptRanges), ("unicode/utf8.first", laid_unicode_utf8_first)], narrowed := true }
def TreemergeSoundUptoSaid : Prop := treemergeSoundUptoRow.holds Tryz.pinned (OpenSpec.upto treemergeSoundSpec)

/-- 'selvagelaw17.TreemergeCases', WHERE WHAT IT READS IS OF BULK AT MOST 1048576: true; the input reads as it did. -/
def treemergeCasesUptoRow : OpenClaim := { program := "yteeeehfnldkjlaagreatdoor", sum := "cdcbef4dbfe999d163195535df7d3cfa40174e73b88fd0779cbe0715289c74c4", func := "selvage/selvagelaw17.TreemergeCases", spec := "treemergeCases", inPlace := ["internal/bytealg.CountString", "internal/bytealg.IndexByteString", "internal/bytealg.IndexString", "internal/bytealg.IndexByte", "internal/bytealg.abigen_runtime_cmpstring"], unfollowed := true, recurses := true, named := ["unicode/utf8.first", "unicode/utf8.acceptRanges", "internal/bytealg.MaxLen"], plainKeys := false, apart := false, laid := [("unicode/utf8.acceptRanges", laid_unicode_utf8_acceptRanges), ("unicode/utf8.first", laid_unicode_utf8_first)], narrowed := true }
def TreemergeCasesUptoSaid : Prop := treemergeCasesUptoRow.holds Tryz.pinned (OpenSpec.upto treemergeCasesSpec)

/-- 'selvagelaw17.TreemergePlaces', WHERE WHAT IT READS IS OF BULK AT MOST 1048576: true; the input reads as it did. -/
def treemergePlacesUptoRow : OpenClaim := { program := "yteeeehfnldkjlaagreatdoor", sum := "cdcbef4dbfe999d163195535df7d3cfa40174e73b88fd0779cbe0715289c74c4", func := "selvage/selvagelaw17.TreemergePlaces", spec := "treemergePlaces", inPlace := ["internal/bytealg.CountString", "internal/bytealg.IndexByteString", "internal/bytealg.IndexString", "internal/bytealg.IndexByte", "internal/bytealg.abigen_runtime_cmpstring"], unfollowed := true, recurses := true, named := ["unicode/utf8.first", "unicode/utf8.acceptRanges", "internal/bytealg.MaxLen"], plainKeys := false, apart := false, laid := [("unicode/utf8.acceptRanges", laid_unicode_utf8_acceptRanges), ("unicode/utf8.first", laid_unicode_utf8_first)], narrowed := true }
def TreemergePlacesUptoSaid : Prop := treemergePlacesUptoRow.holds Tryz.pinned (OpenSpec.upto treemergePlacesSpec)

/-- 'selvagelaw17.TreemergeApart', WHERE WHAT IT READS IS OF BULK AT MOST 1048576: true; the input reads as it did. -/
def treemergeApartUptoRow : OpenClaim := { program := "yteeeehfnldkjlaagreatdoor", sum := "cdcbef4dbfe999d163195535df7d3cfa40174e73b88fd0779cbe0715289c74c4", func := "selvage/selvagelaw17.TreemergeApart", spec := "treemergeApart", inPlace := ["internal/bytealg.CountString", "internal/bytealg.IndexByteString", "internal/bytealg.IndexString", "internal/bytealg.IndexByte", "internal/bytealg.abigen_runtime_cmpstring"], unfollowed := true, recurses := true, named := ["unicode/utf8.first", "unicode/utf8.acceptRanges", "internal/bytealg.MaxLen"], plainKeys := false, apart := false, laid := [("unicode/utf8.acceptRanges", laid_unicode_utf8_acceptRanges), ("unicode/utf8.first", laid_unicode_utf8_first)], narrowed := true }
def TreemergeApartUptoSaid : Prop := treemergeApartUptoRow.holds Tryz.pinned (OpenSpec.upto treemergeApartSpec)

/-- 'selvagelaw17.TreemergeMoved', WHERE WHAT IT READS IS OF BULK AT MOST 1048576: true; the input reads as it did. -/
def treemergeMovedUptoRow : OpenClaim := { program := "yteeeehfnldkjlaagreatdoor", sum := "cdcbef4dbfe999d163195535df7d3cfa40174e73b88fd0779cbe0715289c74c4", func := "selvage/selvagelaw17.TreemergeMoved", spec := "treemergeMoved", inPlace := ["internal/bytealg.CountString", "internal/bytealg.IndexByteString", "internal/bytealg.IndexString", "internal/bytealg.IndexByte", "internal/bytealg.abigen_runtime_cmpstring"], unfollowed := true, recurses := true, named := ["unicode/utf8.first", "unicode/utf8.acceptRanges", "internal/bytealg.MaxLen"], plainKeys := false, apart := false, laid := [("unicode/utf8.acceptRanges", laid_unicode_utf8_acceptRanges), ("unicode/utf8.first", laid_unicode_utf8_first)], narrowed := true }
def TreemergeMovedUptoSaid : Prop := treemergeMovedUptoRow.holds Tryz.pinned (OpenSpec.upto treemergeMovedSpec)

/-- 'selvagelaw17.TreemergeText', WHERE WHAT IT READS IS OF BULK AT MOST 1048576: true; the input reads as it did. -/
def treemergeTextUptoRow : OpenClaim := { program := "yteeeehfnldkjlaagreatdoor", sum := "cdcbef4dbfe999d163195535df7d3cfa40174e73b88fd0779cbe0715289c74c4", func := "selvage/selvagelaw17.TreemergeText", spec := "treemergeText", inPlace := ["internal/bytealg.CountString", "internal/bytealg.IndexByteString", "internal/bytealg.IndexString", "internal/bytealg.IndexByte", "internal/bytealg.abigen_runtime_cmpstring"], unfollowed := true, recurses := true, named := ["unicode/utf8.first", "unicode/utf8.acceptRanges", "internal/bytealg.MaxLen"], plainKeys := false, apart := false, laid := [("unicode/utf8.acceptRanges", laid_unicode_utf8_acceptRanges), ("unicode/utf8.first", laid_unicode_utf8_first)], narrowed := true }
def TreemergeTextUptoSaid : Prop := treemergeTextUptoRow.holds Tryz.pinned (OpenSpec.upto treemergeTextSpec)

end Rows
end Go.Proofs.YteeeehfnldkjlaaGreatDoor
