/-
  DERIVED. GIVEN WITH THE SEED: THE CARDS: each row of YthmnhpakgjnngaaDoorRows.lean that lists a variable, with what it lists TIED to the program's text (the seventh form; the later family's looks); each row that meets fmt, with fmt's text TOLD by the authors' own Lean function (tested against real Go, not proved from fmt's source: count such statements apart). THE CARD IS WHAT COUNTS. Prove the row's statement (the work); the ties are given (YthmnhpakgjnngaaDoorTie.lean); close each card by the builder's one call (the guide's Derived/Test/ToyasCard.lean, 'card_holds'). Laid BY PROGRAM, IN A SANDBOX (cutbox-door.mjs). By AI agents, Wed Nov 11 2026. No macro, syntax, notation, axiom, sorry.
-/
import Derived.Test.YthmnhpakgjnngaaDoorRows
import GoSem.ClaimSeven
namespace Go.Proofs.YthmnhpakgjnngaaDoor
namespace Rows

/-- THE TIED CARD OF 'ratoonlaw30.ReviveRestarts'. -/
def reviveRestartsCard : Claim7 := { stood := { row := reviveRestartsRow, standIns := [], harness := (true, "f319dea92d286bc62c6041f1ebe955e11c59fdeb83e36fce0bb51a9132644e78"), looks := false }, kinds := [], alts := [], laidByText := true, laidKinds := [.data], laidTests := true, laidLooks := .later }
def ReviveRestartsCardSaid : Prop := Claim7.holds Tryd.pinned (.plain (OpenSpec.ofChange reviveRestartsSpec)) reviveRestartsCard

/-- THE TIED CARD OF 'ratoonlaw30.ReviveSilent'. -/
def reviveSilentCard : Claim7 := { stood := { row := reviveSilentRow, standIns := [], harness := (true, "f319dea92d286bc62c6041f1ebe955e11c59fdeb83e36fce0bb51a9132644e78"), looks := false }, kinds := [], alts := [], laidByText := true, laidKinds := [.data], laidTests := true, laidLooks := .later }
def ReviveSilentCardSaid : Prop := Claim7.holds Tryd.pinned (.plain (OpenSpec.ofChange reviveSilentSpec)) reviveSilentCard

/-- THE TIED CARD OF 'ratoonlaw30.ReviveInverse'. -/
def reviveInverseCard : Claim7 := { stood := { row := reviveInverseRow, standIns := [], harness := (true, "f319dea92d286bc62c6041f1ebe955e11c59fdeb83e36fce0bb51a9132644e78"), looks := false }, kinds := [], alts := [], laidByText := true, laidKinds := [.data], laidTests := true, laidLooks := .later }
def ReviveInverseCardSaid : Prop := Claim7.holds Tryd.pinned (.plain (OpenSpec.ofChange reviveInverseSpec)) reviveInverseCard

/-- THE SECOND FORM's CARD OF 'ratoonlaw30.ReviveRestarts'. -/
def reviveRestartsUptoCard : Claim7 := { stood := { row := reviveRestartsUptoRow, standIns := [], harness := (true, "f319dea92d286bc62c6041f1ebe955e11c59fdeb83e36fce0bb51a9132644e78"), looks := false }, kinds := [], alts := [], laidByText := true, laidKinds := [.data], laidTests := true, laidLooks := .later }
def ReviveRestartsUptoCardSaid : Prop := Claim7.holds Tryd.pinned (.plain (OpenSpec.upto reviveRestartsSpec)) reviveRestartsUptoCard

/-- THE SECOND FORM's CARD OF 'ratoonlaw30.ReviveSilent'. -/
def reviveSilentUptoCard : Claim7 := { stood := { row := reviveSilentUptoRow, standIns := [], harness := (true, "f319dea92d286bc62c6041f1ebe955e11c59fdeb83e36fce0bb51a9132644e78"), looks := false }, kinds := [], alts := [], laidByText := true, laidKinds := [.data], laidTests := true, laidLooks := .later }
def ReviveSilentUptoCardSaid : Prop := Claim7.holds Tryd.pinned (.plain (OpenSpec.upto reviveSilentSpec)) reviveSilentUptoCard

/-- THE SECOND FORM's CARD OF 'ratoonlaw30.ReviveInverse'. -/
def reviveInverseUptoCard : Claim7 := { stood := { row := reviveInverseUptoRow, standIns := [], harness := (true, "f319dea92d286bc62c6041f1ebe955e11c59fdeb83e36fce0bb51a9132644e78"), looks := false }, kinds := [], alts := [], laidByText := true, laidKinds := [.data], laidTests := true, laidLooks := .later }
def ReviveInverseUptoCardSaid : Prop := Claim7.holds Tryd.pinned (.plain (OpenSpec.upto reviveInverseSpec)) reviveInverseUptoCard
end Rows
end Go.Proofs.YthmnhpakgjnngaaDoor
