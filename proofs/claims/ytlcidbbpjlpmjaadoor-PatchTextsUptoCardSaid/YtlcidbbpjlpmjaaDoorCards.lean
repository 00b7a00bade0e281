/-
  DERIVED. GIVEN WITH THE SEED: THE CARDS: each row of YtlcidbbpjlpmjaaDoorRows.lean that lists a variable, with what it lists TIED to the program's text (the seventh form; the later family's looks); each row that meets fmt, with fmt's text TOLD by the authors' own Lean function (tested against real Go, not proved from fmt's source: count such statements apart). THE CARD IS WHAT COUNTS. Prove the row's statement (the work); the ties are given (YtlcidbbpjlpmjaaDoorTie.lean); close each card by the builder's one call (the guide's Derived/Test/ToyasCard.lean, 'card_holds'). Laid BY PROGRAM, IN A SANDBOX (cutbox-door.mjs). By AI agents, Wed Nov 11 2026. No macro, syntax, notation, axiom, sorry.
-/
import Derived.Test.YtlcidbbpjlpmjaaDoorRows
import GoSem.ClaimSeven
namespace Go.Proofs.YtlcidbbpjlpmjaaDoor
namespace Rows

/-- THE TIED CARD OF 'selvagelaw13.PatchHunks'. -/
def patchHunksCard : Claim7 := { stood := { row := patchHunksRow, standIns := [], harness := (true, "dcf776b09406a5c57b24bfa5a3641cc7b459508e185716d9a3909a9e5a4e3c55"), looks := true }, kinds := [], alts := [], laidByText := true, laidKinds := [.data, .data, .data], laidTests := true, laidLooks := .later }
def PatchHunksCardSaid : Prop := Claim7.holds Tryd.pinned (.plain (OpenSpec.ofChange patchHunksSpec)) patchHunksCard

/-- THE TIED CARD OF 'selvagelaw13.PatchReverses'. -/
def patchReversesCard : Claim7 := { stood := { row := patchReversesRow, standIns := [], harness := (true, "dcf776b09406a5c57b24bfa5a3641cc7b459508e185716d9a3909a9e5a4e3c55"), looks := true }, kinds := [], alts := [], laidByText := true, laidKinds := [.data, .data, .data], laidTests := true, laidLooks := .later }
def PatchReversesCardSaid : Prop := Claim7.holds Tryd.pinned (.plain (OpenSpec.ofChange patchReversesSpec)) patchReversesCard

/-- THE TIED CARD OF 'selvagelaw13.PatchApplies'. -/
def patchAppliesCard : Claim7 := { stood := { row := patchAppliesRow, standIns := [], harness := (true, "dcf776b09406a5c57b24bfa5a3641cc7b459508e185716d9a3909a9e5a4e3c55"), looks := true }, kinds := [], alts := [], laidByText := true, laidKinds := [.data, .data, .data], laidTests := true, laidLooks := .later }
def PatchAppliesCardSaid : Prop := Claim7.holds Tryd.pinned (.plain (OpenSpec.ofChange patchAppliesSpec)) patchAppliesCard

/-- THE TIED CARD OF 'selvagelaw13.PatchNear'. -/
def patchNearCard : Claim7 := { stood := { row := patchNearRow, standIns := [], harness := (true, "dcf776b09406a5c57b24bfa5a3641cc7b459508e185716d9a3909a9e5a4e3c55"), looks := true }, kinds := [], alts := [], laidByText := true, laidKinds := [.data, .data, .data], laidTests := true, laidLooks := .later }
def PatchNearCardSaid : Prop := Claim7.holds Tryd.pinned (.plain (OpenSpec.ofChange patchNearSpec)) patchNearCard

/-- THE TIED CARD OF 'selvagelaw13.PatchAlone'. -/
def patchAloneCard : Claim7 := { stood := { row := patchAloneRow, standIns := [], harness := (true, "dcf776b09406a5c57b24bfa5a3641cc7b459508e185716d9a3909a9e5a4e3c55"), looks := true }, kinds := [], alts := [], laidByText := true, laidKinds := [.data, .data, .data], laidTests := true, laidLooks := .later }
def PatchAloneCardSaid : Prop := Claim7.holds Tryd.pinned (.plain (OpenSpec.ofChange patchAloneSpec)) patchAloneCard

/-- THE TIED CARD OF 'selvagelaw13.PatchTexts'. -/
def patchTextsCard : Claim7 := { stood := { row := patchTextsRow, standIns := [], harness := (true, "dcf776b09406a5c57b24bfa5a3641cc7b459508e185716d9a3909a9e5a4e3c55"), looks := true }, kinds := [], alts := [], laidByText := true, laidKinds := [.data, .data, .data, .sentinel, .sentinel], laidTests := true, laidLooks := .later }
def PatchTextsCardSaid : Prop := Claim7.holds Tryd.pinned (.plain (OpenSpec.ofChange patchTextsSpec)) patchTextsCard

/-- THE TIED CARD OF 'selvagelaw13.PatchTurns'. -/
def patchTurnsCard : Claim7 := { stood := { row := patchTurnsRow, standIns := [], harness := (true, "dcf776b09406a5c57b24bfa5a3641cc7b459508e185716d9a3909a9e5a4e3c55"), looks := true }, kinds := [], alts := [], laidByText := true, laidKinds := [.data, .data, .data, .sentinel, .sentinel], laidTests := true, laidLooks := .later }
def PatchTurnsCardSaid : Prop := Claim7.holds Tryd.pinned (.plain (OpenSpec.ofChange patchTurnsSpec)) patchTurnsCard

/-- THE TIED CARD OF 'selvagelaw13.PatchBack'. -/
def patchBackCard : Claim7 := { stood := { row := patchBackRow, standIns := [], harness := (true, "dcf776b09406a5c57b24bfa5a3641cc7b459508e185716d9a3909a9e5a4e3c55"), looks := true }, kinds := [], alts := [], laidByText := true, laidKinds := [.data, .data, .data, .sentinel, .sentinel], laidTests := true, laidLooks := .later }
def PatchBackCardSaid : Prop := Claim7.holds Tryd.pinned (.plain (OpenSpec.ofChange patchBackSpec)) patchBackCard

/-- THE SECOND FORM's CARD OF 'selvagelaw13.PatchHunks'. -/
def patchHunksUptoCard : Claim7 := { stood := { row := patchHunksUptoRow, standIns := [], harness := (true, "dcf776b09406a5c57b24bfa5a3641cc7b459508e185716d9a3909a9e5a4e3c55"), looks := true }, kinds := [], alts := [], laidByText := true, laidKinds := [.data, .data, .data], laidTests := true, laidLooks := .later }
def PatchHunksUptoCardSaid : Prop := Claim7.holds Tryd.pinned (.plain (OpenSpec.upto patchHunksSpec)) patchHunksUptoCard

/-- THE SECOND FORM's CARD OF 'selvagelaw13.PatchReverses'. -/
def patchReversesUptoCard : Claim7 := { stood := { row := patchReversesUptoRow, standIns := [], harness := (true, "dcf776b09406a5c57b24bfa5a3641cc7b459508e185716d9a3909a9e5a4e3c55"), looks := true }, kinds := [], alts := [], laidByText := true, laidKinds := [.data, .data, .data], laidTests := true, laidLooks := .later }
def PatchReversesUptoCardSaid : Prop := Claim7.holds Tryd.pinned (.plain (OpenSpec.upto patchReversesSpec)) patchReversesUptoCard

/-- THE SECOND FORM's CARD OF 'selvagelaw13.PatchApplies'. -/
def patchAppliesUptoCard : Claim7 := { stood := { row := patchAppliesUptoRow, standIns := [], harness := (true, "dcf776b09406a5c57b24bfa5a3641cc7b459508e185716d9a3909a9e5a4e3c55"), looks := true }, kinds := [], alts := [], laidByText := true, laidKinds := [.data, .data, .data], laidTests := true, laidLooks := .later }
def PatchAppliesUptoCardSaid : Prop := Claim7.holds Tryd.pinned (.plain (OpenSpec.upto patchAppliesSpec)) patchAppliesUptoCard

/-- THE SECOND FORM's CARD OF 'selvagelaw13.PatchNear'. -/
def patchNearUptoCard : Claim7 := { stood := { row := patchNearUptoRow, standIns := [], harness := (true, "dcf776b09406a5c57b24bfa5a3641cc7b459508e185716d9a3909a9e5a4e3c55"), looks := true }, kinds := [], alts := [], laidByText := true, laidKinds := [.data, .data, .data], laidTests := true, laidLooks := .later }
def PatchNearUptoCardSaid : Prop := Claim7.holds Tryd.pinned (.plain (OpenSpec.upto patchNearSpec)) patchNearUptoCard

/-- THE SECOND FORM's CARD OF 'selvagelaw13.PatchAlone'. -/
def patchAloneUptoCard : Claim7 := { stood := { row := patchAloneUptoRow, standIns := [], harness := (true, "dcf776b09406a5c57b24bfa5a3641cc7b459508e185716d9a3909a9e5a4e3c55"), looks := true }, kinds := [], alts := [], laidByText := true, laidKinds := [.data, .data, .data], laidTests := true, laidLooks := .later }
def PatchAloneUptoCardSaid : Prop := Claim7.holds Tryd.pinned (.plain (OpenSpec.upto patchAloneSpec)) patchAloneUptoCard

/-- THE SECOND FORM's CARD OF 'selvagelaw13.PatchTexts'. -/
def patchTextsUptoCard : Claim7 := { stood := { row := patchTextsUptoRow, standIns := [], harness := (true, "dcf776b09406a5c57b24bfa5a3641cc7b459508e185716d9a3909a9e5a4e3c55"), looks := true }, kinds := [], alts := [], laidByText := true, laidKinds := [.data, .data, .data, .sentinel, .sentinel], laidTests := true, laidLooks := .later }
def PatchTextsUptoCardSaid : Prop := Claim7.holds Tryd.pinned (.plain (OpenSpec.upto patchTextsSpec)) patchTextsUptoCard

/-- THE SECOND FORM's CARD OF 'selvagelaw13.PatchTurns'. -/
def patchTurnsUptoCard : Claim7 := { stood := { row := patchTurnsUptoRow, standIns := [], harness := (true, "dcf776b09406a5c57b24bfa5a3641cc7b459508e185716d9a3909a9e5a4e3c55"), looks := true }, kinds := [], alts := [], laidByText := true, laidKinds := [.data, .data, .data, .sentinel, .sentinel], laidTests := true, laidLooks := .later }
def PatchTurnsUptoCardSaid : Prop := Claim7.holds Tryd.pinned (.plain (OpenSpec.upto patchTurnsSpec)) patchTurnsUptoCard

/-- THE SECOND FORM's CARD OF 'selvagelaw13.PatchBack'. -/
def patchBackUptoCard : Claim7 := { stood := { row := patchBackUptoRow, standIns := [], harness := (true, "dcf776b09406a5c57b24bfa5a3641cc7b459508e185716d9a3909a9e5a4e3c55"), looks := true }, kinds := [], alts := [], laidByText := true, laidKinds := [.data, .data, .data, .sentinel, .sentinel], laidTests := true, laidLooks := .later }
def PatchBackUptoCardSaid : Prop := Claim7.holds Tryd.pinned (.plain (OpenSpec.upto patchBackSpec)) patchBackUptoCard
end Rows
end Go.Proofs.YtlcidbbpjlpmjaaDoor
