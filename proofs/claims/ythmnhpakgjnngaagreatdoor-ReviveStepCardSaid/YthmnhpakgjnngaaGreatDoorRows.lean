/-
  NARROWER THAN 'FOR EVERY INPUT', by the rows' own cells (each row's printed sentence says how): ReviveStep: laid.
  DERIVED. THE GIVEN ROWS OF THIS SEAT. 1 by the template 'for every input the law returns true; each argument reads behind the call as it read before'; 0 by the template 'total and deterministic' (their statements: YthmnhpakgjnngaaGreatDoorTotals.lean).
  GIVEN WITH THE SEED: the statements are not yours to turn. If you find one false, say at which input.
  Laid BY PROGRAM, IN A SANDBOX (cutbox-rows.mjs): the forced cells as the released guide's own fill.sh prints them over the translation 712abf670462a3d7… (all of the seat's roots in one cut). By AI agents, Wed Nov 11 2026. No macro, syntax, notation, axiom, sorry.
-/
import Derived.Test.YthmnhpakgjnngaaGreatDoorChecked
import GoSem.Claim
import GoSem.ClaimJoined
import GoSem.ClaimMapViews
import Derived.JoinedTies
import Derived.KernelRfl
namespace Go.Proofs.YthmnhpakgjnngaaGreatDoor
/- THE CELL 'sum', in the pinned program and in every row, IS THE sha256 OF THE DUMP (.gsa) THAT YthmnhpakgjnngaaGreatDoorProg.lean LOADS. Nothing in Lean hashes anything: it is a label: what it is worth is what the hold of that sum in a sandbox is worth. -/
noncomputable def Tryz.pinned : Pinned := { name := "ythmnhpakgjnngaagreatdoor", sum := "712abf670462a3d7c68534a9baf2784cf7dba72334ddf27bb536317f362eec59", checked := Tryz.checked }
namespace Rows
def none {H : Type} : Left H := { results := [], args := [] }

/- WHAT THE LISTED PACKAGE-LEVEL VARIABLES READ AS WHEN THE CALL BEGINS. Each datum BY PROGRAM (the guide's laid-datum.mjs) off the statement by which the dump's own 'gosem.cut.vars' lays the variable. In a bare row this is a premise. The card (YthmnhpakgjnngaaGreatDoorCards.lean) ties it to the program's text. -/
def laid_ratoon_message_forms {H : Type} : DataW H := .agg [.agg [.lit (.int .i64 0), .lit (.int .i64 0), .lit (.string []), .lit (.int .i64 0)], .agg [.lit (.int .i64 (-1)), .lit (.int .i64 (-1)), .lit (.string [115, 42, 42, 42]), .lit (.int .i64 128)], .agg [.lit (.int .i64 (-1)), .lit (.int .i64 4), .lit (.string [112, 98]), .lit (.int .i64 0)], .agg [.lit (.int .i64 0), .lit (.int .i64 (-1)), .lit (.string [100, 110, 42, 42]), .lit (.int .i64 128)], .agg [.lit (.int .i64 0), .lit (.int .i64 (-1)), .lit (.string [42, 110]), .lit (.int .i64 0)], .agg [.lit (.int .i64 0), .lit (.int .i64 1), .lit (.string [99, 120]), .lit (.int .i64 0)], .agg [.lit (.int .i64 1), .lit (.int .i64 (-1)), .lit (.string [110]), .lit (.int .i64 0)], .agg [.lit (.int .i64 (-1)), .lit (.int .i64 1), .lit (.string [110]), .lit (.int .i64 0)], .agg [.lit (.int .i64 3), .lit (.int .i64 4), .lit (.string [117, 117]), .lit (.int .i64 0)], .agg [.lit (.int .i64 3), .lit (.int .i64 4), .lit (.string [117]), .lit (.int .i64 1536)], .agg [.lit (.int .i64 3), .lit (.int .i64 4), .lit (.string [117]), .lit (.int .i64 0)], .agg [.lit (.int .i64 4), .lit (.int .i64 3), .lit (.string [117, 101, 110]), .lit (.int .i64 0)], .agg [.lit (.int .i64 3), .lit (.int .i64 5), .lit (.string [117, 117]), .lit (.int .i64 0)], .agg [.lit (.int .i64 3), .lit (.int .i64 5), .lit (.string [117]), .lit (.int .i64 128)], .agg [.lit (.int .i64 3), .lit (.int .i64 5), .lit (.string [117]), .lit (.int .i64 0)], .agg [.lit (.int .i64 5), .lit (.int .i64 3), .lit (.string [117, 101]), .lit (.int .i64 1536)], .agg [.lit (.int .i64 3), .lit (.int .i64 10), .lit (.string [117]), .lit (.int .i64 0)], .agg [.lit (.int .i64 10), .lit (.int .i64 3), .lit (.string [117]), .lit (.int .i64 0)], .agg [.lit (.int .i64 5), .lit (.int .i64 6), .lit (.string [111, 42, 42, 42]), .lit (.int .i64 128)], .agg [.lit (.int .i64 6), .lit (.int .i64 5), .lit (.string [101, 42, 121]), .lit (.int .i64 1536)], .agg [.lit (.int .i64 (-1)), .lit (.int .i64 7), .lit (.string [98, 107, 103]), .lit (.int .i64 128)], .agg [.lit (.int .i64 7), .lit (.int .i64 (-1)), .lit (.string [101, 107]), .lit (.int .i64 128)], .agg [.lit (.int .i64 5), .lit (.int .i64 9), .lit (.string [109, 117, 110]), .lit (.int .i64 128)], .agg [.lit (.int .i64 9), .lit (.int .i64 5), .lit (.string [117, 101]), .lit (.int .i64 128)], .agg [.lit (.int .i64 5), .lit (.int .i64 8), .lit (.string [113, 42, 42, 42]), .lit (.int .i64 128)], .agg [.lit (.int .i64 8), .lit (.int .i64 5), .lit (.string [117, 101, 42]), .lit (.int .i64 128)], .agg [.lit (.int .i64 (-1)), .lit (.int .i64 2), .lit (.string [122, 42]), .lit (.int .i64 128)], .agg [.lit (.int .i64 2), .lit (.int .i64 (-1)), .lit (.string [101, 42]), .lit (.int .i64 128)]]

/-- 'ratoonlaw30.ReviveStep': WHATEVER THE INPUT: true; the input reads as it did. -/
def reviveStepSpec : ChangeSpec := { name := "reviveStep", fn := fun _ => fun
  | [d1, d2, d3] => { results := [.lit (.bool true)], args := [d1, d2, d3] }
  | _ => none }
def reviveStepRow : OpenClaim := { program := "ythmnhpakgjnngaagreatdoor", sum := "712abf670462a3d7c68534a9baf2784cf7dba72334ddf27bb536317f362eec59", func := "ratoon/ratoonlaw30.ReviveStep", spec := "reviveStep", inPlace := ["slices.overlaps[ratoon/revive.History]"], unfollowed := true, recurses := true, named := ["ratoon/message.forms"], apart := false, laid := [("ratoon/message.forms", laid_ratoon_message_forms)] }
def ReviveStepSaid : Prop := reviveStepRow.holds Tryz.pinned (OpenSpec.ofChange reviveStepSpec)

/-- ITS FALSE NEIGHBOUR: 'it returns false'. Refute it at one input. -/
def reviveStepWrong : ChangeSpec := { name := "reviveStep", fn := fun _ => fun
  | [d1, d2, d3] => { results := [.lit (.bool false)], args := [d1, d2, d3] }
  | _ => none }
def ReviveStepWrongFalsely : Prop := reviveStepRow.holds Tryz.pinned (OpenSpec.ofChange reviveStepWrong)

/- THE SECOND FORM. 'bulk': how many values and letters a reading holds, each counted each time it is reached (what is shared counts as often as it is met; a slice's spare places count too). A statement '..UptoSaid' is the law's where the arguments, and the package variables that the reading takes, are together of bulk at most 1048576: NARROWER than '..Said'. Prove '..Said' where nothing that the law and all that it calls make is longer than what came in: it says more and counts as full. Else prove '..UptoSaid'. A law counts once. -/
mutual
def uptoBulk {H : Type} : DataW H → Nat
  | .lit (.string bytes) => bytes.length + 1
  | .lit _ => 1
  | .nil => 1
  | .ptr d => uptoBulk d + 1
  | .slice elems spare => uptoBulkAll elems + uptoBulkAll spare + 1
  | .agg parts => uptoBulkAll parts + 1
  | .iface _ d => uptoBulk d + 1
  | .map entries => uptoBulkEntries entries + 1
  | .held _ => 1
def uptoBulkAll {H : Type} : List (DataW H) → Nat
  | [] => 0
  | d :: r => uptoBulk d + uptoBulkAll r
def uptoBulkEntries {H : Type} : List (Lit × DataW H) → Nat
  | [] => 0
  | x :: r => uptoBulkEntry x + uptoBulkEntries r
def uptoBulkEntry {H : Type} : Lit × DataW H → Nat
  | (.string bytes, d) => bytes.length + uptoBulk d + 1
  | (_, d) => uptoBulk d + 1
 end
def uptoSmall : (H : Type) → List (DataW H) → Bool := fun _ ds => decide (uptoBulkAll ds ≤ 1048576)
def OpenSpec.upto (s : _root_.Go.ChangeSpec) : _root_.Go.OpenSpec := { _root_.Go.OpenSpec.ofChange s with cond := some uptoSmall }

/-- 'ratoonlaw30.ReviveStep', WHERE WHAT IT READS IS OF BULK AT MOST 1048576: true; the input reads as it did. -/
def reviveStepUptoRow : OpenClaim := { program := "ythmnhpakgjnngaagreatdoor", sum := "712abf670462a3d7c68534a9baf2784cf7dba72334ddf27bb536317f362eec59", func := "ratoon/ratoonlaw30.ReviveStep", spec := "reviveStep", inPlace := ["slices.overlaps[ratoon/revive.History]"], unfollowed := true, recurses := true, named := ["ratoon/message.forms"], apart := false, laid := [("ratoon/message.forms", laid_ratoon_message_forms)], narrowed := true }
def ReviveStepUptoSaid : Prop := reviveStepUptoRow.holds Tryz.pinned (OpenSpec.upto reviveStepSpec)

end Rows
end Go.Proofs.YthmnhpakgjnngaaGreatDoor
