/-
  No cell of these rows narrows 'for every input' (looked for: loops, veiled, ifaces, maps, wideKeys, modest, calm, conditions, laid).
  DERIVED. THE GIVEN ROWS OF THIS SEAT. 6 by the template 'for every input the law returns true; each argument reads behind the call as it read before'; 0 by the template 'total and deterministic' (their statements: YtnbngidelpodkaaTotals.lean).
  GIVEN WITH THE SEED: the statements are not yours to turn. If you find one false, say at which input.
  Laid BY PROGRAM, IN A SANDBOX (cutbox-rows.mjs): the forced cells as the released guide's own fill.sh prints them over the translation e4188eb4db8b2329… (all of the seat's roots in one cut). By AI agents, Wed Nov 11 2026. No macro, syntax, notation, axiom, sorry.
-/
import Derived.Test.YtnbngidelpodkaaChecked
import GoSem.Claim
import GoSem.ClaimJoined
import GoSem.ClaimMapViews
import Derived.JoinedTies
import Derived.KernelRfl
namespace Go.Proofs.Ytnbngidelpodkaa
/- THE CELL 'sum', in the pinned program and in every row, IS THE sha256 OF THE DUMP (.gsa) THAT YtnbngidelpodkaaProg.lean LOADS. Nothing in Lean hashes anything: it is a label: what it is worth is what the hold of that sum in a sandbox is worth. -/
noncomputable def Try.pinned : Pinned := { name := "ytnbngidelpodkaa", sum := "e4188eb4db8b23298416050ac8e28a5d5bc69cc0da049c24a0ec0bdb5cd114d0", checked := Try.checked }
namespace Rows
def none {H : Type} : Left H := { results := [], args := [] }

/-- 'ratoonlaw25.StoreWorking': WHATEVER THE INPUT: true; the input reads as it did. -/
def storeWorkingSpec : ChangeSpec := { name := "storeWorking", fn := fun _ => fun
  | [d1, d2, d3] => { results := [.lit (.bool true)], args := [d1, d2, d3] }
  | _ => none }
def storeWorkingRow : OpenClaim := { program := "ytnbngidelpodkaa", sum := "e4188eb4db8b23298416050ac8e28a5d5bc69cc0da049c24a0ec0bdb5cd114d0", func := "ratoon/ratoonlaw25.StoreWorking", spec := "storeWorking", unfollowed := true, recurses := true, apart := false }
def StoreWorkingSaid : Prop := storeWorkingRow.holds Try.pinned (OpenSpec.ofChange storeWorkingSpec)

/-- ITS FALSE NEIGHBOUR: 'it returns false'. Refute it at one input. -/
def storeWorkingWrong : ChangeSpec := { name := "storeWorking", fn := fun _ => fun
  | [d1, d2, d3] => { results := [.lit (.bool false)], args := [d1, d2, d3] }
  | _ => none }
def StoreWorkingWrongFalsely : Prop := storeWorkingRow.holds Try.pinned (OpenSpec.ofChange storeWorkingWrong)

/-- 'ratoonlaw25.StoreCommit': WHATEVER THE INPUT: true; the input reads as it did. -/
def storeCommitSpec : ChangeSpec := { name := "storeCommit", fn := fun _ => fun
  | [d1, d2] => { results := [.lit (.bool true)], args := [d1, d2] }
  | _ => none }
def storeCommitRow : OpenClaim := { program := "ytnbngidelpodkaa", sum := "e4188eb4db8b23298416050ac8e28a5d5bc69cc0da049c24a0ec0bdb5cd114d0", func := "ratoon/ratoonlaw25.StoreCommit", spec := "storeCommit", unfollowed := true, recurses := true, apart := false }
def StoreCommitSaid : Prop := storeCommitRow.holds Try.pinned (OpenSpec.ofChange storeCommitSpec)

/-- ITS FALSE NEIGHBOUR: 'it returns false'. Refute it at one input. -/
def storeCommitWrong : ChangeSpec := { name := "storeCommit", fn := fun _ => fun
  | [d1, d2] => { results := [.lit (.bool false)], args := [d1, d2] }
  | _ => none }
def StoreCommitWrongFalsely : Prop := storeCommitRow.holds Try.pinned (OpenSpec.ofChange storeCommitWrong)

/-- 'ratoonlaw25.StoreAbort': WHATEVER THE INPUT: true; the input reads as it did. -/
def storeAbortSpec : ChangeSpec := { name := "storeAbort", fn := fun _ => fun
  | [d1, d2, d3] => { results := [.lit (.bool true)], args := [d1, d2, d3] }
  | _ => none }
def storeAbortRow : OpenClaim := { program := "ytnbngidelpodkaa", sum := "e4188eb4db8b23298416050ac8e28a5d5bc69cc0da049c24a0ec0bdb5cd114d0", func := "ratoon/ratoonlaw25.StoreAbort", spec := "storeAbort", unfollowed := true, recurses := true, apart := false }
def StoreAbortSaid : Prop := storeAbortRow.holds Try.pinned (OpenSpec.ofChange storeAbortSpec)

/-- ITS FALSE NEIGHBOUR: 'it returns false'. Refute it at one input. -/
def storeAbortWrong : ChangeSpec := { name := "storeAbort", fn := fun _ => fun
  | [d1, d2, d3] => { results := [.lit (.bool false)], args := [d1, d2, d3] }
  | _ => none }
def StoreAbortWrongFalsely : Prop := storeAbortRow.holds Try.pinned (OpenSpec.ofChange storeAbortWrong)

/-- 'ratoonlaw25.StoreRounds': WHATEVER THE INPUT: true; the input reads as it did. -/
def storeRoundsSpec : ChangeSpec := { name := "storeRounds", fn := fun _ => fun
  | [d1, d2, d3] => { results := [.lit (.bool true)], args := [d1, d2, d3] }
  | _ => none }
def storeRoundsRow : OpenClaim := { program := "ytnbngidelpodkaa", sum := "e4188eb4db8b23298416050ac8e28a5d5bc69cc0da049c24a0ec0bdb5cd114d0", func := "ratoon/ratoonlaw25.StoreRounds", spec := "storeRounds", unfollowed := true, recurses := true, apart := false }
def StoreRoundsSaid : Prop := storeRoundsRow.holds Try.pinned (OpenSpec.ofChange storeRoundsSpec)

/-- ITS FALSE NEIGHBOUR: 'it returns false'. Refute it at one input. -/
def storeRoundsWrong : ChangeSpec := { name := "storeRounds", fn := fun _ => fun
  | [d1, d2, d3] => { results := [.lit (.bool false)], args := [d1, d2, d3] }
  | _ => none }
def StoreRoundsWrongFalsely : Prop := storeRoundsRow.holds Try.pinned (OpenSpec.ofChange storeRoundsWrong)

/-- 'ratoonlaw25.StoreScript': WHATEVER THE INPUT: true; the input reads as it did. -/
def storeScriptSpec : ChangeSpec := { name := "storeScript", fn := fun _ => fun
  | [d1, d2, d3] => { results := [.lit (.bool true)], args := [d1, d2, d3] }
  | _ => none }
def storeScriptRow : OpenClaim := { program := "ytnbngidelpodkaa", sum := "e4188eb4db8b23298416050ac8e28a5d5bc69cc0da049c24a0ec0bdb5cd114d0", func := "ratoon/ratoonlaw25.StoreScript", spec := "storeScript", unfollowed := true, recurses := true, apart := false }
def StoreScriptSaid : Prop := storeScriptRow.holds Try.pinned (OpenSpec.ofChange storeScriptSpec)

/-- ITS FALSE NEIGHBOUR: 'it returns false'. Refute it at one input. -/
def storeScriptWrong : ChangeSpec := { name := "storeScript", fn := fun _ => fun
  | [d1, d2, d3] => { results := [.lit (.bool false)], args := [d1, d2, d3] }
  | _ => none }
def StoreScriptWrongFalsely : Prop := storeScriptRow.holds Try.pinned (OpenSpec.ofChange storeScriptWrong)

/-- 'ratoonlaw25.StoreNil': WHATEVER THE INPUT: true; the input reads as it did. -/
def storeNilSpec : ChangeSpec := { name := "storeNil", fn := fun _ => fun
  | [d] => { results := [.lit (.bool true)], args := [d] }
  | _ => none }
def storeNilRow : OpenClaim := { program := "ytnbngidelpodkaa", sum := "e4188eb4db8b23298416050ac8e28a5d5bc69cc0da049c24a0ec0bdb5cd114d0", func := "ratoon/ratoonlaw25.StoreNil", spec := "storeNil", unfollowed := true, recurses := true, apart := false }
def StoreNilSaid : Prop := storeNilRow.holds Try.pinned (OpenSpec.ofChange storeNilSpec)

/-- ITS FALSE NEIGHBOUR: 'it returns false'. Refute it at one input. -/
def storeNilWrong : ChangeSpec := { name := "storeNil", fn := fun _ => fun
  | [d] => { results := [.lit (.bool false)], args := [d] }
  | _ => none }
def StoreNilWrongFalsely : Prop := storeNilRow.holds Try.pinned (OpenSpec.ofChange storeNilWrong)

/- THE SECOND FORM. 'bulk': how many values and letters a reading holds, each counted each time it is reached (what is shared counts as often as it is met; a slice's spare places count too). A statement '..UptoSaid' is the law's where the arguments, and the package variables that the reading takes, are together of bulk at most 1048576: NARROWER than '..Said'. Prove '..Said' where nothing that the law and all that it calls make is longer than what came in: it says more and counts as full. Else prove '..UptoSaid'. A law counts once. -/
mutual
def uptoBulk {H : Type} : DataW H → Nat
  | .lit (.string bytes) => bytes.length + 1
  | .lit _ => 1
  | .nil => 1
  | .ptr d => uptoBulk d + 1
  | .slice elems spare => uptoBulkAll elems + uptoBulkAll spare + 1
  | .agg parts => uptoBulkAll parts + 1
  | .iface _ d => uptoBulk d + 1
  | .map entries => uptoBulkEntries entries + 1
  | .held _ => 1
def uptoBulkAll {H : Type} : List (DataW H) → Nat
  | [] => 0
  | d :: r => uptoBulk d + uptoBulkAll r
def uptoBulkEntries {H : Type} : List (Lit × DataW H) → Nat
  | [] => 0
  | x :: r => uptoBulkEntry x + uptoBulkEntries r
def uptoBulkEntry {H : Type} : Lit × DataW H → Nat
  | (.string bytes, d) => bytes.length + uptoBulk d + 1
  | (_, d) => uptoBulk d + 1
 end
def uptoSmall : (H : Type) → List (DataW H) → Bool := fun _ ds => decide (uptoBulkAll ds ≤ 1048576)
def OpenSpec.upto (s : _root_.Go.ChangeSpec) : _root_.Go.OpenSpec := { _root_.Go.OpenSpec.ofChange s with cond := some uptoSmall }

/-- 'ratoonlaw25.StoreWorking', WHERE WHAT IT READS IS OF BULK AT MOST 1048576: true; the input reads as it did. -/
def storeWorkingUptoRow : OpenClaim := { program := "ytnbngidelpodkaa", sum := "e4188eb4db8b23298416050ac8e28a5d5bc69cc0da049c24a0ec0bdb5cd114d0", func := "ratoon/ratoonlaw25.StoreWorking", spec := "storeWorking", unfollowed := true, recurses := true, apart := false, narrowed := true }
def StoreWorkingUptoSaid : Prop := storeWorkingUptoRow.holds Try.pinned (OpenSpec.upto storeWorkingSpec)

/-- 'ratoonlaw25.StoreCommit', WHERE WHAT IT READS IS OF BULK AT MOST 1048576: true; the input reads as it did. -/
def storeCommitUptoRow : OpenClaim := { program := "ytnbngidelpodkaa", sum := "e4188eb4db8b23298416050ac8e28a5d5bc69cc0da049c24a0ec0bdb5cd114d0", func := "ratoon/ratoonlaw25.StoreCommit", spec := "storeCommit", unfollowed := true, recurses := true, apart := false, narrowed := true }
def StoreCommitUptoSaid : Prop := storeCommitUptoRow.holds Try.pinned (OpenSpec.upto storeCommitSpec)

/-- 'ratoonlaw25.StoreAbort', WHERE WHAT IT READS IS OF BULK AT MOST 1048576: true; the input reads as it did. -/
def storeAbortUptoRow : OpenClaim := { program := "ytnbngidelpodkaa", sum := "e4188eb4db8b23298416050ac8e28a5d5bc69cc0da049c24a0ec0bdb5cd114d0", func := "ratoon/ratoonlaw25.StoreAbort", spec := "storeAbort", unfollowed := true, recurses := true, apart := false, narrowed := true }
def StoreAbortUptoSaid : Prop := storeAbortUptoRow.holds Try.pinned (OpenSpec.upto storeAbortSpec)

/-- 'ratoonlaw25.StoreRounds', WHERE WHAT IT READS IS OF BULK AT MOST 1048576: true; the input reads as it did. -/
def storeRoundsUptoRow : OpenClaim := { program := "ytnbngidelpodkaa", sum := "e4188eb4db8b23298416050ac8e28a5d5bc69cc0da049c24a0ec0bdb5cd114d0", func := "ratoon/ratoonlaw25.StoreRounds", spec := "storeRounds", unfollowed := true, recurses := true, apart := false, narrowed := true }
def StoreRoundsUptoSaid : Prop := storeRoundsUptoRow.holds Try.pinned (OpenSpec.upto storeRoundsSpec)

/-- 'ratoonlaw25.StoreScript', WHERE WHAT IT READS IS OF BULK AT MOST 1048576: true; the input reads as it did. -/
def storeScriptUptoRow : OpenClaim := { program := "ytnbngidelpodkaa", sum := "e4188eb4db8b23298416050ac8e28a5d5bc69cc0da049c24a0ec0bdb5cd114d0", func := "ratoon/ratoonlaw25.StoreScript", spec := "storeScript", unfollowed := true, recurses := true, apart := false, narrowed := true }
def StoreScriptUptoSaid : Prop := storeScriptUptoRow.holds Try.pinned (OpenSpec.upto storeScriptSpec)

/-- 'ratoonlaw25.StoreNil', WHERE WHAT IT READS IS OF BULK AT MOST 1048576: true; the input reads as it did. -/
def storeNilUptoRow : OpenClaim := { program := "ytnbngidelpodkaa", sum := "e4188eb4db8b23298416050ac8e28a5d5bc69cc0da049c24a0ec0bdb5cd114d0", func := "ratoon/ratoonlaw25.StoreNil", spec := "storeNil", unfollowed := true, recurses := true, apart := false, narrowed := true }
def StoreNilUptoSaid : Prop := storeNilUptoRow.holds Try.pinned (OpenSpec.upto storeNilSpec)

end Rows
end Go.Proofs.Ytnbngidelpodkaa
