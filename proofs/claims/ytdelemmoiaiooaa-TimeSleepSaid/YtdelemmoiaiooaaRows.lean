/-
  No cell of these rows narrows 'for every input' (looked for: loops, veiled, ifaces, maps, wideKeys, modest, calm, conditions, laid).
  DERIVED. THE GIVEN ROWS OF THIS SEAT. 6 by the template 'for every input the law returns true; each argument reads behind the call as it read before'; 0 by the template 'total and deterministic' (their statements: YtdelemmoiaiooaaTotals.lean).
  GIVEN WITH THE SEED: the statements are not yours to turn. If you find one false, say at which input.
  Laid BY PROGRAM, IN A SANDBOX (cutbox-rows.mjs): the forced cells as the released guide's own fill.sh prints them over the translation da58462b81608001… (all of the seat's roots in one cut). By AI agents, Wed Nov 11 2026. No macro, syntax, notation, axiom, sorry.
-/
import Derived.Test.YtdelemmoiaiooaaChecked
import GoSem.Claim
import GoSem.ClaimJoined
import GoSem.ClaimMapViews
import Derived.JoinedTies
import Derived.KernelRfl
namespace Go.Proofs.Ytdelemmoiaiooaa
/- THE CELL 'sum', in the pinned program and in every row, IS THE sha256 OF THE DUMP (.gsa) THAT YtdelemmoiaiooaaProg.lean LOADS. Nothing in Lean hashes anything: it is a label: what it is worth is what the hold of that sum in a sandbox is worth. -/
noncomputable def Try.pinned : Pinned := { name := "ytdelemmoiaiooaa", sum := "da58462b81608001d646b6e425242cf009d86d904ed5c7d0f2a6f8586a37a811", checked := Try.checked }
namespace Rows
def none {H : Type} : Left H := { results := [], args := [] }

/-- 'ratoonlaw46.TimeStep': WHATEVER THE INPUT: true; the input reads as it did. -/
def timeStepSpec : ChangeSpec := { name := "timeStep", fn := fun _ => fun
  | [d1, d2] => { results := [.lit (.bool true)], args := [d1, d2] }
  | _ => none }
def timeStepRow : OpenClaim := { program := "ytdelemmoiaiooaa", sum := "da58462b81608001d646b6e425242cf009d86d904ed5c7d0f2a6f8586a37a811", func := "ratoon/ratoonlaw46.TimeStep", spec := "timeStep", unfollowed := true, recurses := true, apart := false }
def TimeStepSaid : Prop := timeStepRow.holds Try.pinned (OpenSpec.ofChange timeStepSpec)

/-- ITS FALSE NEIGHBOUR: 'it returns false'. Refute it at one input. -/
def timeStepWrong : ChangeSpec := { name := "timeStep", fn := fun _ => fun
  | [d1, d2] => { results := [.lit (.bool false)], args := [d1, d2] }
  | _ => none }
def TimeStepWrongFalsely : Prop := timeStepRow.holds Try.pinned (OpenSpec.ofChange timeStepWrong)

/-- 'ratoonlaw46.TimeEncode': WHATEVER THE INPUT: true; the input reads as it did. -/
def timeEncodeSpec : ChangeSpec := { name := "timeEncode", fn := fun _ => fun
  | [d1, d2] => { results := [.lit (.bool true)], args := [d1, d2] }
  | _ => none }
def timeEncodeRow : OpenClaim := { program := "ytdelemmoiaiooaa", sum := "da58462b81608001d646b6e425242cf009d86d904ed5c7d0f2a6f8586a37a811", func := "ratoon/ratoonlaw46.TimeEncode", spec := "timeEncode", unfollowed := true, recurses := true, apart := false }
def TimeEncodeSaid : Prop := timeEncodeRow.holds Try.pinned (OpenSpec.ofChange timeEncodeSpec)

/-- ITS FALSE NEIGHBOUR: 'it returns false'. Refute it at one input. -/
def timeEncodeWrong : ChangeSpec := { name := "timeEncode", fn := fun _ => fun
  | [d1, d2] => { results := [.lit (.bool false)], args := [d1, d2] }
  | _ => none }
def TimeEncodeWrongFalsely : Prop := timeEncodeRow.holds Try.pinned (OpenSpec.ofChange timeEncodeWrong)

/-- 'ratoonlaw46.TimeSleep': WHATEVER THE INPUT: true; the input reads as it did. -/
def timeSleepSpec : ChangeSpec := { name := "timeSleep", fn := fun _ => fun
  | [d] => { results := [.lit (.bool true)], args := [d] }
  | _ => none }
def timeSleepRow : OpenClaim := { program := "ytdelemmoiaiooaa", sum := "da58462b81608001d646b6e425242cf009d86d904ed5c7d0f2a6f8586a37a811", func := "ratoon/ratoonlaw46.TimeSleep", spec := "timeSleep", unfollowed := true, recurses := true, apart := false }
def TimeSleepSaid : Prop := timeSleepRow.holds Try.pinned (OpenSpec.ofChange timeSleepSpec)

/-- ITS FALSE NEIGHBOUR: 'it returns false'. Refute it at one input. -/
def timeSleepWrong : ChangeSpec := { name := "timeSleep", fn := fun _ => fun
  | [d] => { results := [.lit (.bool false)], args := [d] }
  | _ => none }
def TimeSleepWrongFalsely : Prop := timeSleepRow.holds Try.pinned (OpenSpec.ofChange timeSleepWrong)

/-- 'ratoonlaw46.TimeOthers': WHATEVER THE INPUT: true; the input reads as it did. -/
def timeOthersSpec : ChangeSpec := { name := "timeOthers", fn := fun _ => fun
  | [d1, d2, d3] => { results := [.lit (.bool true)], args := [d1, d2, d3] }
  | _ => none }
def timeOthersRow : OpenClaim := { program := "ytdelemmoiaiooaa", sum := "da58462b81608001d646b6e425242cf009d86d904ed5c7d0f2a6f8586a37a811", func := "ratoon/ratoonlaw46.TimeOthers", spec := "timeOthers", unfollowed := true, recurses := true, apart := false }
def TimeOthersSaid : Prop := timeOthersRow.holds Try.pinned (OpenSpec.ofChange timeOthersSpec)

/-- ITS FALSE NEIGHBOUR: 'it returns false'. Refute it at one input. -/
def timeOthersWrong : ChangeSpec := { name := "timeOthers", fn := fun _ => fun
  | [d1, d2, d3] => { results := [.lit (.bool false)], args := [d1, d2, d3] }
  | _ => none }
def TimeOthersWrongFalsely : Prop := timeOthersRow.holds Try.pinned (OpenSpec.ofChange timeOthersWrong)

/-- 'ratoonlaw46.TimeLocal': WHATEVER THE INPUT: true; the input reads as it did. -/
def timeLocalSpec : ChangeSpec := { name := "timeLocal", fn := fun _ => fun
  | [d1, d2, d3] => { results := [.lit (.bool true)], args := [d1, d2, d3] }
  | _ => none }
def timeLocalRow : OpenClaim := { program := "ytdelemmoiaiooaa", sum := "da58462b81608001d646b6e425242cf009d86d904ed5c7d0f2a6f8586a37a811", func := "ratoon/ratoonlaw46.TimeLocal", spec := "timeLocal", unfollowed := true, recurses := true, apart := false }
def TimeLocalSaid : Prop := timeLocalRow.holds Try.pinned (OpenSpec.ofChange timeLocalSpec)

/-- ITS FALSE NEIGHBOUR: 'it returns false'. Refute it at one input. -/
def timeLocalWrong : ChangeSpec := { name := "timeLocal", fn := fun _ => fun
  | [d1, d2, d3] => { results := [.lit (.bool false)], args := [d1, d2, d3] }
  | _ => none }
def TimeLocalWrongFalsely : Prop := timeLocalRow.holds Try.pinned (OpenSpec.ofChange timeLocalWrong)

/-- 'ratoonlaw46.TimeBack': WHATEVER THE INPUT: true; the input reads as it did. -/
def timeBackSpec : ChangeSpec := { name := "timeBack", fn := fun _ => fun
  | [d1, d2, d3] => { results := [.lit (.bool true)], args := [d1, d2, d3] }
  | _ => none }
def timeBackRow : OpenClaim := { program := "ytdelemmoiaiooaa", sum := "da58462b81608001d646b6e425242cf009d86d904ed5c7d0f2a6f8586a37a811", func := "ratoon/ratoonlaw46.TimeBack", spec := "timeBack", unfollowed := true, recurses := true, apart := false }
def TimeBackSaid : Prop := timeBackRow.holds Try.pinned (OpenSpec.ofChange timeBackSpec)

/-- ITS FALSE NEIGHBOUR: 'it returns false'. Refute it at one input. -/
def timeBackWrong : ChangeSpec := { name := "timeBack", fn := fun _ => fun
  | [d1, d2, d3] => { results := [.lit (.bool false)], args := [d1, d2, d3] }
  | _ => none }
def TimeBackWrongFalsely : Prop := timeBackRow.holds Try.pinned (OpenSpec.ofChange timeBackWrong)

/- THE SECOND FORM. 'bulk': how many values and letters a reading holds, each counted each time it is reached (what is shared counts as often as it is met; a slice's spare places count too). A statement '..UptoSaid' is the law's where the arguments, and the package variables that the reading takes, are together of bulk at most 1048576: NARROWER than '..Said'. Prove '..Said' where nothing that the law and all that it calls make is longer than what came in: it says more and counts as full. Else prove '..UptoSaid'. A law counts once. -/
mutual
def uptoBulk {H : Type} : DataW H → Nat
  | .lit (.string bytes) => bytes.length + 1
  | .lit _ => 1
  | .nil => 1
  | .ptr d => uptoBulk d + 1
  | .slice elems spare => uptoBulkAll elems + uptoBulkAll spare + 1
  | .agg parts => uptoBulkAll parts + 1
  | .iface _ d => uptoBulk d + 1
  | .map entries => uptoBulkEntries entries + 1
  | .held _ => 1
def uptoBulkAll {H : Type} : List (DataW H) → Nat
  | [] => 0
  | d :: r => uptoBulk d + uptoBulkAll r
def uptoBulkEntries {H : Type} : List (Lit × DataW H) → Nat
  | [] => 0
  | x :: r => uptoBulkEntry x + uptoBulkEntries r
def uptoBulkEntry {H : Type} : Lit × DataW H → Nat
  | (.string bytes, d) => bytes.length + uptoBulk d + 1
  | (_, d) => uptoBulk d + 1
 end
def uptoSmall : (H : Type) → List (DataW H) → Bool := fun _ ds => decide (uptoBulkAll ds ≤ 1048576)
def OpenSpec.upto (s : _root_.Go.ChangeSpec) : _root_.Go.OpenSpec := { _root_.Go.OpenSpec.ofChange s with cond := some uptoSmall }

/-- 'ratoonlaw46.TimeStep', WHERE WHAT IT READS IS OF BULK AT MOST 1048576: true; the input reads as it did. -/
def timeStepUptoRow : OpenClaim := { program := "ytdelemmoiaiooaa", sum := "da58462b81608001d646b6e425242cf009d86d904ed5c7d0f2a6f8586a37a811", func := "ratoon/ratoonlaw46.TimeStep", spec := "timeStep", unfollowed := true, recurses := true, apart := false, narrowed := true }
def TimeStepUptoSaid : Prop := timeStepUptoRow.holds Try.pinned (OpenSpec.upto timeStepSpec)

/-- 'ratoonlaw46.TimeEncode', WHERE WHAT IT READS IS OF BULK AT MOST 1048576: true; the input reads as it did. -/
def timeEncodeUptoRow : OpenClaim := { program := "ytdelemmoiaiooaa", sum := "da58462b81608001d646b6e425242cf009d86d904ed5c7d0f2a6f8586a37a811", func := "ratoon/ratoonlaw46.TimeEncode", spec := "timeEncode", unfollowed := true, recurses := true, apart := false, narrowed := true }
def TimeEncodeUptoSaid : Prop := timeEncodeUptoRow.holds Try.pinned (OpenSpec.upto timeEncodeSpec)

/-- 'ratoonlaw46.TimeSleep', WHERE WHAT IT READS IS OF BULK AT MOST 1048576: true; the input reads as it did. -/
def timeSleepUptoRow : OpenClaim := { program := "ytdelemmoiaiooaa", sum := "da58462b81608001d646b6e425242cf009d86d904ed5c7d0f2a6f8586a37a811", func := "ratoon/ratoonlaw46.TimeSleep", spec := "timeSleep", unfollowed := true, recurses := true, apart := false, narrowed := true }
def TimeSleepUptoSaid : Prop := timeSleepUptoRow.holds Try.pinned (OpenSpec.upto timeSleepSpec)

/-- 'ratoonlaw46.TimeOthers', WHERE WHAT IT READS IS OF BULK AT MOST 1048576: true; the input reads as it did. -/
def timeOthersUptoRow : OpenClaim := { program := "ytdelemmoiaiooaa", sum := "da58462b81608001d646b6e425242cf009d86d904ed5c7d0f2a6f8586a37a811", func := "ratoon/ratoonlaw46.TimeOthers", spec := "timeOthers", unfollowed := true, recurses := true, apart := false, narrowed := true }
def TimeOthersUptoSaid : Prop := timeOthersUptoRow.holds Try.pinned (OpenSpec.upto timeOthersSpec)

/-- 'ratoonlaw46.TimeLocal', WHERE WHAT IT READS IS OF BULK AT MOST 1048576: true; the input reads as it did. -/
def timeLocalUptoRow : OpenClaim := { program := "ytdelemmoiaiooaa", sum := "da58462b81608001d646b6e425242cf009d86d904ed5c7d0f2a6f8586a37a811", func := "ratoon/ratoonlaw46.TimeLocal", spec := "timeLocal", unfollowed := true, recurses := true, apart := false, narrowed := true }
def TimeLocalUptoSaid : Prop := timeLocalUptoRow.holds Try.pinned (OpenSpec.upto timeLocalSpec)

/-- 'ratoonlaw46.TimeBack', WHERE WHAT IT READS IS OF BULK AT MOST 1048576: true; the input reads as it did. -/
def timeBackUptoRow : OpenClaim := { program := "ytdelemmoiaiooaa", sum := "da58462b81608001d646b6e425242cf009d86d904ed5c7d0f2a6f8586a37a811", func := "ratoon/ratoonlaw46.TimeBack", spec := "timeBack", unfollowed := true, recurses := true, apart := false, narrowed := true }
def TimeBackUptoSaid : Prop := timeBackUptoRow.holds Try.pinned (OpenSpec.upto timeBackSpec)

end Rows
end Go.Proofs.Ytdelemmoiaiooaa
