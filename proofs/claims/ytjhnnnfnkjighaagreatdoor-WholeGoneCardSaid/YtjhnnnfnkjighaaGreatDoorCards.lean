/-
  DERIVED. GIVEN WITH THE SEED: THE CARDS: each row of YtjhnnnfnkjighaaGreatDoorRows.lean that lists a variable, with what it lists TIED to the program's text (the seventh form; the later family's looks); each row that meets fmt, with fmt's text TOLD by the authors' own Lean function (tested against real Go, not proved from fmt's source: count such statements apart). THE CARD IS WHAT COUNTS. Prove the row's statement (the work); the ties are given (YtjhnnnfnkjighaaGreatDoorTie.lean); close each card by the builder's one call (the guide's Derived/Test/ToyasCard.lean, 'card_holds'). Laid BY PROGRAM, IN A SANDBOX (cutbox-door.mjs). By AI agents, Wed Nov 11 2026. No macro, syntax, notation, axiom, sorry.
-/
import Derived.Test.YtjhnnnfnkjighaaGreatDoorRows
import GoSem.ClaimSeven
namespace Go.Proofs.YtjhnnnfnkjighaaGreatDoor
namespace Rows

/-- THE TIED CARD OF 'tenontop.WholeGone'. -/
def wholeGoneCard : Claim7 := { stood := { row := wholeGoneRow, standIns := [], harness := (true, "4ea5d66f54f998aa8016d3ffc798b8c99a57756f1e0797dbb28e8d3641db532a"), looks := true }, kinds := [], alts := [], laidByText := true, laidKinds := [.data, .data, .data], laidTests := true, laidLooks := .later }
def WholeGoneCardSaid : Prop := Claim7.holds Tryz.pinned (.plain (OpenSpec.ofChange wholeGoneSpec)) wholeGoneCard

/-- THE TIED CARD OF 'tenontop.WholeRings'. -/
def wholeRingsCard : Claim7 := { stood := { row := wholeRingsRow, standIns := [], harness := (true, "4ea5d66f54f998aa8016d3ffc798b8c99a57756f1e0797dbb28e8d3641db532a"), looks := true }, kinds := [], alts := [], laidByText := true, laidKinds := [.data, .data, .data], laidTests := true, laidLooks := .later }
def WholeRingsCardSaid : Prop := Claim7.holds Tryz.pinned (.plain (OpenSpec.ofChange wholeRingsSpec)) wholeRingsCard

/-- THE SECOND FORM's CARD OF 'tenontop.WholeGone'. -/
def wholeGoneUptoCard : Claim7 := { stood := { row := wholeGoneUptoRow, standIns := [], harness := (true, "4ea5d66f54f998aa8016d3ffc798b8c99a57756f1e0797dbb28e8d3641db532a"), looks := true }, kinds := [], alts := [], laidByText := true, laidKinds := [.data, .data, .data], laidTests := true, laidLooks := .later }
def WholeGoneUptoCardSaid : Prop := Claim7.holds Tryz.pinned (.plain (OpenSpec.upto wholeGoneSpec)) wholeGoneUptoCard

/-- THE SECOND FORM's CARD OF 'tenontop.WholeRings'. -/
def wholeRingsUptoCard : Claim7 := { stood := { row := wholeRingsUptoRow, standIns := [], harness := (true, "4ea5d66f54f998aa8016d3ffc798b8c99a57756f1e0797dbb28e8d3641db532a"), looks := true }, kinds := [], alts := [], laidByText := true, laidKinds := [.data, .data, .data], laidTests := true, laidLooks := .later }
def WholeRingsUptoCardSaid : Prop := Claim7.holds Tryz.pinned (.plain (OpenSpec.upto wholeRingsSpec)) wholeRingsUptoCard
end Rows
end Go.Proofs.YtjhnnnfnkjighaaGreatDoor
