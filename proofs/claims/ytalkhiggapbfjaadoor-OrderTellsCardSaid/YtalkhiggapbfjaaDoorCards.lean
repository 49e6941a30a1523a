/-
  DERIVED. GIVEN WITH THE SEED: THE CARDS: each row of YtalkhiggapbfjaaDoorRows.lean that lists a variable, with what it lists TIED to the program's text (the seventh form; the later family's looks); each row that meets fmt, with fmt's text TOLD by the authors' own Lean function (tested against real Go, not proved from fmt's source: count such statements apart). THE CARD IS WHAT COUNTS. Prove the row's statement (the work); the ties are given (YtalkhiggapbfjaaDoorTie.lean); close each card by the builder's one call (the guide's Derived/Test/ToyasCard.lean, 'card_holds'). Laid BY PROGRAM, IN A SANDBOX (cutbox-door.mjs). By AI agents, Wed Nov 11 2026. No macro, syntax, notation, axiom, sorry.
-/
import Derived.Test.YtalkhiggapbfjaaDoorRows
import GoSem.ClaimSeven
namespace Go.Proofs.YtalkhiggapbfjaaDoor
namespace Rows

/-- THE TIED CARD OF 'tambourlaw06.OrderTurned'. -/
def orderTurnedCard : Claim7 := { stood := { row := orderTurnedRow, standIns := [], harness := (true, "d3c96c93a94cb319e837bf5cbac3cfabae1c82b8739ed4a59ad43ce2b51c2eac"), looks := true }, kinds := [], alts := [], laidByText := true, laidKinds := [.handle], laidTests := true, laidLooks := .later }
def OrderTurnedCardSaid : Prop := Claim7.holds Tryd.pinned (.plain (OpenSpec.ofChange orderTurnedSpec)) orderTurnedCard

/-- THE TIED CARD OF 'tambourlaw06.OrderTells'. -/
def orderTellsCard : Claim7 := { stood := { row := orderTellsRow, standIns := [], harness := (true, "d3c96c93a94cb319e837bf5cbac3cfabae1c82b8739ed4a59ad43ce2b51c2eac"), looks := true }, kinds := [], alts := [], laidByText := true, laidKinds := [.handle], laidTests := true, laidLooks := .later }
def OrderTellsCardSaid : Prop := Claim7.holds Tryd.pinned (.plain (OpenSpec.ofChange orderTellsSpec)) orderTellsCard

/-- THE SECOND FORM's CARD OF 'tambourlaw06.OrderTurned'. -/
def orderTurnedUptoCard : Claim7 := { stood := { row := orderTurnedUptoRow, standIns := [], harness := (true, "d3c96c93a94cb319e837bf5cbac3cfabae1c82b8739ed4a59ad43ce2b51c2eac"), looks := true }, kinds := [], alts := [], laidByText := true, laidKinds := [.handle], laidTests := true, laidLooks := .later }
def OrderTurnedUptoCardSaid : Prop := Claim7.holds Tryd.pinned (.plain (OpenSpec.upto orderTurnedSpec)) orderTurnedUptoCard

/-- THE SECOND FORM's CARD OF 'tambourlaw06.OrderTells'. -/
def orderTellsUptoCard : Claim7 := { stood := { row := orderTellsUptoRow, standIns := [], harness := (true, "d3c96c93a94cb319e837bf5cbac3cfabae1c82b8739ed4a59ad43ce2b51c2eac"), looks := true }, kinds := [], alts := [], laidByText := true, laidKinds := [.handle], laidTests := true, laidLooks := .later }
def OrderTellsUptoCardSaid : Prop := Claim7.holds Tryd.pinned (.plain (OpenSpec.upto orderTellsSpec)) orderTellsUptoCard
end Rows
end Go.Proofs.YtalkhiggapbfjaaDoor
