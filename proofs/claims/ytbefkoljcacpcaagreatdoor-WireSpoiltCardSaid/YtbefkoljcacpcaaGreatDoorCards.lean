/-
  DERIVED. GIVEN WITH THE SEED: THE CARDS: each row of YtbefkoljcacpcaaGreatDoorRows.lean that lists a variable, with what it lists TIED to the program's text (the seventh form; the later family's looks); each row that meets fmt, with fmt's text TOLD by the authors' own Lean function (tested against real Go, not proved from fmt's source: count such statements apart). THE CARD IS WHAT COUNTS. Prove the row's statement (the work); the ties are given (YtbefkoljcacpcaaGreatDoorTie.lean); close each card by the builder's one call (the guide's Derived/Test/ToyasCard.lean, 'card_holds'). Laid BY PROGRAM, IN A SANDBOX (cutbox-door.mjs). By AI agents, Wed Nov 11 2026. No macro, syntax, notation, axiom, sorry.
-/
import Derived.Test.YtbefkoljcacpcaaGreatDoorRows
import GoSem.ClaimSeven
namespace Go.Proofs.YtbefkoljcacpcaaGreatDoor
namespace Rows

/-- THE TIED CARD OF 'tambourlaw17.WireSpoilt'. -/
def wireSpoiltCard : Claim7 := { stood := { row := wireSpoiltRow, standIns := [], harness := (true, "668f4b0aa782db7fa553ade72b97200ef9e44a89c9841aaa86507950ba48bb4d"), looks := true }, kinds := [], alts := [], laidByText := true, laidKinds := [.data, .data, .data, .data, .sentinel, .sentinel, .pinned], laidTests := true, laidLooks := .later }
def WireSpoiltCardSaid : Prop := Claim7.holds Tryz.pinned (.plain (OpenSpec.ofChange wireSpoiltSpec)) wireSpoiltCard

/-- THE TIED CARD OF 'tambourlaw17.WireWrites'. -/
def wireWritesCard : Claim7 := { stood := { row := wireWritesRow, standIns := [], harness := (true, "668f4b0aa782db7fa553ade72b97200ef9e44a89c9841aaa86507950ba48bb4d"), looks := true }, kinds := [], alts := [], laidByText := true, laidKinds := [.data, .data, .data, .data, .handle, .sentinel, .sentinel, .pinned], laidTests := true, laidLooks := .later }
def WireWritesCardSaid : Prop := Claim7.holds Tryz.pinned (.plain (OpenSpec.ofChange wireWritesSpec)) wireWritesCard

/-- THE TIED CARD OF 'tambourlaw17.WireReads'. -/
def wireReadsCard : Claim7 := { stood := { row := wireReadsRow, standIns := [], harness := (true, "668f4b0aa782db7fa553ade72b97200ef9e44a89c9841aaa86507950ba48bb4d"), looks := true }, kinds := [], alts := [], laidByText := true, laidKinds := [.data, .data, .data, .data, .handle, .sentinel, .sentinel, .pinned], laidTests := true, laidLooks := .later }
def WireReadsCardSaid : Prop := Claim7.holds Tryz.pinned (.plain (OpenSpec.ofChange wireReadsSpec)) wireReadsCard

/-- THE SECOND FORM's CARD OF 'tambourlaw17.WireSpoilt'. -/
def wireSpoiltUptoCard : Claim7 := { stood := { row := wireSpoiltUptoRow, standIns := [], harness := (true, "668f4b0aa782db7fa553ade72b97200ef9e44a89c9841aaa86507950ba48bb4d"), looks := true }, kinds := [], alts := [], laidByText := true, laidKinds := [.data, .data, .data, .data, .sentinel, .sentinel, .pinned], laidTests := true, laidLooks := .later }
def WireSpoiltUptoCardSaid : Prop := Claim7.holds Tryz.pinned (.plain (OpenSpec.upto wireSpoiltSpec)) wireSpoiltUptoCard

/-- THE SECOND FORM's CARD OF 'tambourlaw17.WireWrites'. -/
def wireWritesUptoCard : Claim7 := { stood := { row := wireWritesUptoRow, standIns := [], harness := (true, "668f4b0aa782db7fa553ade72b97200ef9e44a89c9841aaa86507950ba48bb4d"), looks := true }, kinds := [], alts := [], laidByText := true, laidKinds := [.data, .data, .data, .data, .handle, .sentinel, .sentinel, .pinned], laidTests := true, laidLooks := .later }
def WireWritesUptoCardSaid : Prop := Claim7.holds Tryz.pinned (.plain (OpenSpec.upto wireWritesSpec)) wireWritesUptoCard

/-- THE SECOND FORM's CARD OF 'tambourlaw17.WireReads'. -/
def wireReadsUptoCard : Claim7 := { stood := { row := wireReadsUptoRow, standIns := [], harness := (true, "668f4b0aa782db7fa553ade72b97200ef9e44a89c9841aaa86507950ba48bb4d"), looks := true }, kinds := [], alts := [], laidByText := true, laidKinds := [.data, .data, .data, .data, .handle, .sentinel, .sentinel, .pinned], laidTests := true, laidLooks := .later }
def WireReadsUptoCardSaid : Prop := Claim7.holds Tryz.pinned (.plain (OpenSpec.upto wireReadsSpec)) wireReadsUptoCard
end Rows
end Go.Proofs.YtbefkoljcacpcaaGreatDoor
