/-
  DERIVED. GIVEN WITH THE SEED: THE CARDS: each row of YthmnhpakgjnngaaGreatDoorRows.lean that lists a variable, with what it lists TIED to the program's text (the seventh form; the later family's looks); each row that meets fmt, with fmt's text TOLD by the authors' own Lean function (tested against real Go, not proved from fmt's source: count such statements apart). THE CARD IS WHAT COUNTS. Prove the row's statement (the work); the ties are given (YthmnhpakgjnngaaGreatDoorTie.lean); close each card by the builder's one call (the guide's Derived/Test/ToyasCard.lean, 'card_holds'). Laid BY PROGRAM, IN A SANDBOX (cutbox-door.mjs). By AI agents, Wed Nov 11 2026. No macro, syntax, notation, axiom, sorry.
-/
import Derived.Test.YthmnhpakgjnngaaGreatDoorRows
import GoSem.ClaimSeven
namespace Go.Proofs.YthmnhpakgjnngaaGreatDoor
namespace Rows

/-- THE TIED CARD OF 'ratoonlaw30.ReviveStep'. -/
def reviveStepCard : Claim7 := { stood := { row := reviveStepRow, standIns := [], harness := (true, "b105f4d3f19eb7d7638c53c015e11d67e5ca17de979203ef9e25312f7df2faa8"), looks := false }, kinds := [], alts := [], laidByText := true, laidKinds := [.data], laidTests := true, laidLooks := .later }
def ReviveStepCardSaid : Prop := Claim7.holds Tryz.pinned (.plain (OpenSpec.ofChange reviveStepSpec)) reviveStepCard

/-- THE SECOND FORM's CARD OF 'ratoonlaw30.ReviveStep'. -/
def reviveStepUptoCard : Claim7 := { stood := { row := reviveStepUptoRow, standIns := [], harness := (true, "b105f4d3f19eb7d7638c53c015e11d67e5ca17de979203ef9e25312f7df2faa8"), looks := false }, kinds := [], alts := [], laidByText := true, laidKinds := [.data], laidTests := true, laidLooks := .later }
def ReviveStepUptoCardSaid : Prop := Claim7.holds Tryz.pinned (.plain (OpenSpec.upto reviveStepSpec)) reviveStepUptoCard
end Rows
end Go.Proofs.YthmnhpakgjnngaaGreatDoor
