/-
  DERIVED. GIVEN WITH THE SEED: THE CARDS: each row of YtpecclcihefbaaaDoorRows.lean that lists a variable, with what it lists TIED to the program's text (the seventh form; the later family's looks); each row that meets fmt, with fmt's text TOLD by the authors' own Lean function (tested against real Go, not proved from fmt's source: count such statements apart). THE CARD IS WHAT COUNTS. Prove the row's statement (the work); the ties are given (YtpecclcihefbaaaDoorTie.lean); close each card by the builder's one call (the guide's Derived/Test/ToyasCard.lean, 'card_holds'). Laid BY PROGRAM, IN A SANDBOX (cutbox-door.mjs). By AI agents, Wed Nov 11 2026. No macro, syntax, notation, axiom, sorry.
-/
import Derived.Test.YtpecclcihefbaaaDoorRows
import GoSem.ClaimSeven
namespace Go.Proofs.YtpecclcihefbaaaDoor
namespace Rows

/-- THE TIED CARD OF 'tambourlaw01.LinesJoin'. -/
def linesJoinCard : Claim7 := { stood := { row := linesJoinRow, standIns := [], harness := (true, "66dad5a4b2473a693e32b9b69a9ac9aa812258ed433db49358a523ca5a1917d2"), looks := true }, kinds := [], alts := [], laidByText := true, laidKinds := [.data, .pinned], laidTests := true, laidLooks := .later }
def LinesJoinCardSaid : Prop := Claim7.holds Tryd.pinned (.plain (OpenSpec.ofChange linesJoinSpec)) linesJoinCard

/-- THE TIED CARD OF 'tambourlaw01.LinesMarkers'. -/
def linesMarkersCard : Claim7 := { stood := { row := linesMarkersRow, standIns := [], harness := (true, "66dad5a4b2473a693e32b9b69a9ac9aa812258ed433db49358a523ca5a1917d2"), looks := true }, kinds := [], alts := [], laidByText := true, laidKinds := [.data, .pinned], laidTests := true, laidLooks := .later }
def LinesMarkersCardSaid : Prop := Claim7.holds Tryd.pinned (.plain (OpenSpec.ofChange linesMarkersSpec)) linesMarkersCard

/-- THE TIED CARD OF 'tambourlaw01.LinesCount'. -/
def linesCountCard : Claim7 := { stood := { row := linesCountRow, standIns := [], harness := (true, "66dad5a4b2473a693e32b9b69a9ac9aa812258ed433db49358a523ca5a1917d2"), looks := true }, kinds := [], alts := [], laidByText := true, laidKinds := [.data, .pinned], laidTests := true, laidLooks := .later }
def LinesCountCardSaid : Prop := Claim7.holds Tryd.pinned (.plain (OpenSpec.ofChange linesCountSpec)) linesCountCard

/-- THE TIED CARD OF 'tambourlaw03.DigestSums'. -/
def digestSumsCard : Claim7 := { stood := { row := digestSumsRow, standIns := [], harness := (true, "66dad5a4b2473a693e32b9b69a9ac9aa812258ed433db49358a523ca5a1917d2"), looks := true }, kinds := [], alts := [], laidByText := true, laidKinds := [.data, .pinned], laidTests := true, laidLooks := .later }
def DigestSumsCardSaid : Prop := Claim7.holds Tryd.pinned (.plain (OpenSpec.ofChange digestSumsSpec)) digestSumsCard

/-- THE TIED CARD OF 'tambourlaw01.LinesSplit'. -/
def linesSplitCard : Claim7 := { stood := { row := linesSplitRow, standIns := [], harness := (true, "66dad5a4b2473a693e32b9b69a9ac9aa812258ed433db49358a523ca5a1917d2"), looks := true }, kinds := [], alts := [], laidByText := true, laidKinds := [.data, .handle, .pinned], laidTests := true, laidLooks := .later }
def LinesSplitCardSaid : Prop := Claim7.holds Tryd.pinned (.plain (OpenSpec.ofChange linesSplitSpec)) linesSplitCard

/-- THE TIED CARD OF 'tambourlaw03.DigestHex'. -/
def digestHexCard : Claim7 := { stood := { row := digestHexRow, standIns := [], harness := (true, "66dad5a4b2473a693e32b9b69a9ac9aa812258ed433db49358a523ca5a1917d2"), looks := true }, kinds := [], alts := [], laidByText := true, laidKinds := [.data, .handle, .pinned], laidTests := true, laidLooks := .later }
def DigestHexCardSaid : Prop := Claim7.holds Tryd.pinned (.plain (OpenSpec.ofChange digestHexSpec)) digestHexCard

/-- THE SECOND FORM's CARD OF 'tambourlaw01.LinesJoin'. -/
def linesJoinUptoCard : Claim7 := { stood := { row := linesJoinUptoRow, standIns := [], harness := (true, "66dad5a4b2473a693e32b9b69a9ac9aa812258ed433db49358a523ca5a1917d2"), looks := true }, kinds := [], alts := [], laidByText := true, laidKinds := [.data, .pinned], laidTests := true, laidLooks := .later }
def LinesJoinUptoCardSaid : Prop := Claim7.holds Tryd.pinned (.plain (OpenSpec.upto linesJoinSpec)) linesJoinUptoCard

/-- THE SECOND FORM's CARD OF 'tambourlaw01.LinesMarkers'. -/
def linesMarkersUptoCard : Claim7 := { stood := { row := linesMarkersUptoRow, standIns := [], harness := (true, "66dad5a4b2473a693e32b9b69a9ac9aa812258ed433db49358a523ca5a1917d2"), looks := true }, kinds := [], alts := [], laidByText := true, laidKinds := [.data, .pinned], laidTests := true, laidLooks := .later }
def LinesMarkersUptoCardSaid : Prop := Claim7.holds Tryd.pinned (.plain (OpenSpec.upto linesMarkersSpec)) linesMarkersUptoCard

/-- THE SECOND FORM's CARD OF 'tambourlaw01.LinesCount'. -/
def linesCountUptoCard : Claim7 := { stood := { row := linesCountUptoRow, standIns := [], harness := (true, "66dad5a4b2473a693e32b9b69a9ac9aa812258ed433db49358a523ca5a1917d2"), looks := true }, kinds := [], alts := [], laidByText := true, laidKinds := [.data, .pinned], laidTests := true, laidLooks := .later }
def LinesCountUptoCardSaid : Prop := Claim7.holds Tryd.pinned (.plain (OpenSpec.upto linesCountSpec)) linesCountUptoCard

/-- THE SECOND FORM's CARD OF 'tambourlaw03.DigestSums'. -/
def digestSumsUptoCard : Claim7 := { stood := { row := digestSumsUptoRow, standIns := [], harness := (true, "66dad5a4b2473a693e32b9b69a9ac9aa812258ed433db49358a523ca5a1917d2"), looks := true }, kinds := [], alts := [], laidByText := true, laidKinds := [.data, .pinned], laidTests := true, laidLooks := .later }
def DigestSumsUptoCardSaid : Prop := Claim7.holds Tryd.pinned (.plain (OpenSpec.upto digestSumsSpec)) digestSumsUptoCard

/-- THE SECOND FORM's CARD OF 'tambourlaw01.LinesSplit'. -/
def linesSplitUptoCard : Claim7 := { stood := { row := linesSplitUptoRow, standIns := [], harness := (true, "66dad5a4b2473a693e32b9b69a9ac9aa812258ed433db49358a523ca5a1917d2"), looks := true }, kinds := [], alts := [], laidByText := true, laidKinds := [.data, .handle, .pinned], laidTests := true, laidLooks := .later }
def LinesSplitUptoCardSaid : Prop := Claim7.holds Tryd.pinned (.plain (OpenSpec.upto linesSplitSpec)) linesSplitUptoCard

/-- THE SECOND FORM's CARD OF 'tambourlaw03.DigestHex'. -/
def digestHexUptoCard : Claim7 := { stood := { row := digestHexUptoRow, standIns := [], harness := (true, "66dad5a4b2473a693e32b9b69a9ac9aa812258ed433db49358a523ca5a1917d2"), looks := true }, kinds := [], alts := [], laidByText := true, laidKinds := [.data, .handle, .pinned], laidTests := true, laidLooks := .later }
def DigestHexUptoCardSaid : Prop := Claim7.holds Tryd.pinned (.plain (OpenSpec.upto digestHexSpec)) digestHexUptoCard
end Rows
end Go.Proofs.YtpecclcihefbaaaDoor
