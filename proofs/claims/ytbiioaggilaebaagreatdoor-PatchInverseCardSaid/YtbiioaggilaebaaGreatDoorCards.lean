/-
  DERIVED. GIVEN WITH THE SEED: THE CARDS: each row of YtbiioaggilaebaaGreatDoorRows.lean that lists a variable, with what it lists TIED to the program's text (the seventh form; the later family's looks); each row that meets fmt, with fmt's text TOLD by the authors' own Lean function (tested against real Go, not proved from fmt's source: count such statements apart). THE CARD IS WHAT COUNTS. Prove the row's statement (the work); the ties are given (YtbiioaggilaebaaGreatDoorTie.lean); close each card by the builder's one call (the guide's Derived/Test/ToyasCard.lean, 'card_holds'). Laid BY PROGRAM, IN A SANDBOX (cutbox-door.mjs). By AI agents, Wed Nov 11 2026. No macro, syntax, notation, axiom, sorry.
-/
import Derived.Test.YtbiioaggilaebaaGreatDoorRows
import GoSem.ClaimSeven
namespace Go.Proofs.YtbiioaggilaebaaGreatDoor
namespace Rows

/-- THE TIED CARD OF 'tambourlaw05.PatchTwice'. -/
def patchTwiceCard : Claim7 := { stood := { row := patchTwiceRow, standIns := [], harness := (true, "a157d1f9f5ed3f4cdd173ba9ec6606a3ef40dcb2395c8b4532d834e4e56a5679"), looks := true }, kinds := [], alts := [], laidByText := true, laidKinds := [.data, .data, .data, .data, .sentinel, .sentinel, .pinned], laidTests := true, laidLooks := .later }
def PatchTwiceCardSaid : Prop := Claim7.holds Tryz.pinned (.plain (OpenSpec.ofChange patchTwiceSpec)) patchTwiceCard

/-- THE TIED CARD OF 'tambourlaw05.PatchCommutes'. -/
def patchCommutesCard : Claim7 := { stood := { row := patchCommutesRow, standIns := [], harness := (true, "a157d1f9f5ed3f4cdd173ba9ec6606a3ef40dcb2395c8b4532d834e4e56a5679"), looks := true }, kinds := [], alts := [], laidByText := true, laidKinds := [.data, .data, .data, .data, .sentinel, .sentinel, .pinned], laidTests := true, laidLooks := .later }
def PatchCommutesCardSaid : Prop := Claim7.holds Tryz.pinned (.plain (OpenSpec.ofChange patchCommutesSpec)) patchCommutesCard

/-- THE TIED CARD OF 'tambourlaw05.PatchWrites'. -/
def patchWritesCard : Claim7 := { stood := { row := patchWritesRow, standIns := [], harness := (true, "a157d1f9f5ed3f4cdd173ba9ec6606a3ef40dcb2395c8b4532d834e4e56a5679"), looks := true }, kinds := [], alts := [], laidByText := true, laidKinds := [.data, .data, .data, .data, .handle, .sentinel, .sentinel, .pinned], laidTests := true, laidLooks := .later }
def PatchWritesCardSaid : Prop := Claim7.holds Tryz.pinned (.plain (OpenSpec.ofChange patchWritesSpec)) patchWritesCard

/-- THE TIED CARD OF 'tambourlaw05.PatchReads'. -/
def patchReadsCard : Claim7 := { stood := { row := patchReadsRow, standIns := [], harness := (true, "a157d1f9f5ed3f4cdd173ba9ec6606a3ef40dcb2395c8b4532d834e4e56a5679"), looks := true }, kinds := [], alts := [], laidByText := true, laidKinds := [.data, .data, .data, .data, .handle, .sentinel, .sentinel, .pinned], laidTests := true, laidLooks := .later }
def PatchReadsCardSaid : Prop := Claim7.holds Tryz.pinned (.plain (OpenSpec.ofChange patchReadsSpec)) patchReadsCard

/-- THE TIED CARD OF 'tambourlaw05.PatchInverse'. -/
def patchInverseCard : Claim7 := { stood := { row := patchInverseRow, standIns := [], harness := (true, "a157d1f9f5ed3f4cdd173ba9ec6606a3ef40dcb2395c8b4532d834e4e56a5679"), looks := true }, kinds := [], alts := [], laidByText := true, laidKinds := [.data, .data, .data, .data, .handle, .sentinel, .sentinel, .pinned], laidTests := true, laidLooks := .later }
def PatchInverseCardSaid : Prop := Claim7.holds Tryz.pinned (.plain (OpenSpec.ofChange patchInverseSpec)) patchInverseCard

/-- THE SECOND FORM's CARD OF 'tambourlaw05.PatchTwice'. -/
def patchTwiceUptoCard : Claim7 := { stood := { row := patchTwiceUptoRow, standIns := [], harness := (true, "a157d1f9f5ed3f4cdd173ba9ec6606a3ef40dcb2395c8b4532d834e4e56a5679"), looks := true }, kinds := [], alts := [], laidByText := true, laidKinds := [.data, .data, .data, .data, .sentinel, .sentinel, .pinned], laidTests := true, laidLooks := .later }
def PatchTwiceUptoCardSaid : Prop := Claim7.holds Tryz.pinned (.plain (OpenSpec.upto patchTwiceSpec)) patchTwiceUptoCard

/-- THE SECOND FORM's CARD OF 'tambourlaw05.PatchCommutes'. -/
def patchCommutesUptoCard : Claim7 := { stood := { row := patchCommutesUptoRow, standIns := [], harness := (true, "a157d1f9f5ed3f4cdd173ba9ec6606a3ef40dcb2395c8b4532d834e4e56a5679"), looks := true }, kinds := [], alts := [], laidByText := true, laidKinds := [.data, .data, .data, .data, .sentinel, .sentinel, .pinned], laidTests := true, laidLooks := .later }
def PatchCommutesUptoCardSaid : Prop := Claim7.holds Tryz.pinned (.plain (OpenSpec.upto patchCommutesSpec)) patchCommutesUptoCard

/-- THE SECOND FORM's CARD OF 'tambourlaw05.PatchWrites'. -/
def patchWritesUptoCard : Claim7 := { stood := { row := patchWritesUptoRow, standIns := [], harness := (true, "a157d1f9f5ed3f4cdd173ba9ec6606a3ef40dcb2395c8b4532d834e4e56a5679"), looks := true }, kinds := [], alts := [], laidByText := true, laidKinds := [.data, .data, .data, .data, .handle, .sentinel, .sentinel, .pinned], laidTests := true, laidLooks := .later }
def PatchWritesUptoCardSaid : Prop := Claim7.holds Tryz.pinned (.plain (OpenSpec.upto patchWritesSpec)) patchWritesUptoCard

/-- THE SECOND FORM's CARD OF 'tambourlaw05.PatchReads'. -/
def patchReadsUptoCard : Claim7 := { stood := { row := patchReadsUptoRow, standIns := [], harness := (true, "a157d1f9f5ed3f4cdd173ba9ec6606a3ef40dcb2395c8b4532d834e4e56a5679"), looks := true }, kinds := [], alts := [], laidByText := true, laidKinds := [.data, .data, .data, .data, .handle, .sentinel, .sentinel, .pinned], laidTests := true, laidLooks := .later }
def PatchReadsUptoCardSaid : Prop := Claim7.holds Tryz.pinned (.plain (OpenSpec.upto patchReadsSpec)) patchReadsUptoCard

/-- THE SECOND FORM's CARD OF 'tambourlaw05.PatchInverse'. -/
def patchInverseUptoCard : Claim7 := { stood := { row := patchInverseUptoRow, standIns := [], harness := (true, "a157d1f9f5ed3f4cdd173ba9ec6606a3ef40dcb2395c8b4532d834e4e56a5679"), looks := true }, kinds := [], alts := [], laidByText := true, laidKinds := [.data, .data, .data, .data, .handle, .sentinel, .sentinel, .pinned], laidTests := true, laidLooks := .later }
def PatchInverseUptoCardSaid : Prop := Claim7.holds Tryz.pinned (.plain (OpenSpec.upto patchInverseSpec)) patchInverseUptoCard
end Rows
end Go.Proofs.YtbiioaggilaebaaGreatDoor
