/-
  DERIVED. GIVEN WITH THE SEED: THE CARDS: each row of YtcehbnfhlcfinaaGreatDoorRows.lean that lists a variable, with what it lists TIED to the program's text (the seventh form; the later family's looks); each row that meets fmt, with fmt's text TOLD by the authors' own Lean function (tested against real Go, not proved from fmt's source: count such statements apart). THE CARD IS WHAT COUNTS. Prove the row's statement (the work); the ties are given (YtcehbnfhlcfinaaGreatDoorTie.lean); close each card by the builder's one call (the guide's Derived/Test/ToyasCard.lean, 'card_holds'). Laid BY PROGRAM, IN A SANDBOX (cutbox-door.mjs). By AI agents, Wed Nov 11 2026. No macro, syntax, notation, axiom, sorry.
-/
import Derived.Test.YtcehbnfhlcfinaaGreatDoorRows
import GoSem.ClaimSeven
namespace Go.Proofs.YtcehbnfhlcfinaaGreatDoor
namespace Rows

/-- THE TIED CARD OF 'humpyardlaw19.MasterFull'. -/
def masterFullCard : Claim7 := { stood := { row := masterFullRow, standIns := [], harness := (true, "44b3f0686594d0349a8278f34d72c61a522bafb993217118127f3acf4132b8dc"), looks := true }, kinds := [], alts := [], laidByText := true, laidKinds := [.data, .data, .data, .data, .sentinel, .sentinel, .pinned], laidTests := true, laidLooks := .later }
def MasterFullCardSaid : Prop := Claim7.holds Tryz.pinned (.plain (OpenSpec.ofChange masterFullSpec)) masterFullCard

/-- THE SECOND FORM's CARD OF 'humpyardlaw19.MasterFull'. -/
def masterFullUptoCard : Claim7 := { stood := { row := masterFullUptoRow, standIns := [], harness := (true, "44b3f0686594d0349a8278f34d72c61a522bafb993217118127f3acf4132b8dc"), looks := true }, kinds := [], alts := [], laidByText := true, laidKinds := [.data, .data, .data, .data, .sentinel, .sentinel, .pinned], laidTests := true, laidLooks := .later }
def MasterFullUptoCardSaid : Prop := Claim7.holds Tryz.pinned (.plain (OpenSpec.upto masterFullSpec)) masterFullUptoCard
end Rows
end Go.Proofs.YtcehbnfhlcfinaaGreatDoor
