/-
  No cell of these rows narrows 'for every input' (looked for: loops, veiled, ifaces, maps, wideKeys, modest, calm, conditions, laid).
  DERIVED. THE GIVEN ROWS OF THIS SEAT. 6 by the template 'for every input the law returns true; each argument reads behind the call as it read before'; 0 by the template 'total and deterministic' (their statements: YteefimjgcabpoaaTotals.lean).
  GIVEN WITH THE SEED: the statements are not yours to turn. If you find one false, say at which input.
  Laid BY PROGRAM, IN A SANDBOX (cutbox-rows.mjs): the forced cells as the released guide's own fill.sh prints them over the translation f6b3b7f445032070… (all of the seat's roots in one cut). By AI agents, Wed Nov 11 2026. No macro, syntax, notation, axiom, sorry.
-/
import Derived.Test.YteefimjgcabpoaaChecked
import GoSem.Claim
import GoSem.ClaimJoined
import GoSem.ClaimMapViews
import Derived.JoinedTies
import Derived.KernelRfl
namespace Go.Proofs.Yteefimjgcabpoaa
/- THE CELL 'sum', in the pinned program and in every row, IS THE sha256 OF THE DUMP (.gsa) THAT YteefimjgcabpoaaProg.lean LOADS. Nothing in Lean hashes anything: it is a label: what it is worth is what the hold of that sum in a sandbox is worth. -/
noncomputable def Try.pinned : Pinned := { name := "yteefimjgcabpoaa", sum := "f6b3b7f4450320708c8931e5feeb2c058c34ba87b5d97d69e41e2748ff33ba65", checked := Try.checked }
namespace Rows
def none {H : Type} : Left H := { results := [], args := [] }

/-- 'ratoonlaw04.UndoRecover': WHATEVER THE INPUT: true; the input reads as it did. -/
def undoRecoverSpec : ChangeSpec := { name := "undoRecover", fn := fun _ => fun
  | [d1, d2] => { results := [.lit (.bool true)], args := [d1, d2] }
  | _ => none }
def undoRecoverRow : OpenClaim := { program := "yteefimjgcabpoaa", sum := "f6b3b7f4450320708c8931e5feeb2c058c34ba87b5d97d69e41e2748ff33ba65", func := "ratoon/ratoonlaw04.UndoRecover", spec := "undoRecover", unfollowed := true, recurses := true, apart := false }
def UndoRecoverSaid : Prop := undoRecoverRow.holds Try.pinned (OpenSpec.ofChange undoRecoverSpec)

/-- ITS FALSE NEIGHBOUR: 'it returns false'. Refute it at one input. -/
def undoRecoverWrong : ChangeSpec := { name := "undoRecover", fn := fun _ => fun
  | [d1, d2] => { results := [.lit (.bool false)], args := [d1, d2] }
  | _ => none }
def UndoRecoverWrongFalsely : Prop := undoRecoverRow.holds Try.pinned (OpenSpec.ofChange undoRecoverWrong)

/-- 'ratoonlaw04.UndoTorn': WHATEVER THE INPUT: true; the input reads as it did. -/
def undoTornSpec : ChangeSpec := { name := "undoTorn", fn := fun _ => fun
  | [d1, d2, d3] => { results := [.lit (.bool true)], args := [d1, d2, d3] }
  | _ => none }
def undoTornRow : OpenClaim := { program := "yteefimjgcabpoaa", sum := "f6b3b7f4450320708c8931e5feeb2c058c34ba87b5d97d69e41e2748ff33ba65", func := "ratoon/ratoonlaw04.UndoTorn", spec := "undoTorn", unfollowed := true, recurses := true, apart := false }
def UndoTornSaid : Prop := undoTornRow.holds Try.pinned (OpenSpec.ofChange undoTornSpec)

/-- ITS FALSE NEIGHBOUR: 'it returns false'. Refute it at one input. -/
def undoTornWrong : ChangeSpec := { name := "undoTorn", fn := fun _ => fun
  | [d1, d2, d3] => { results := [.lit (.bool false)], args := [d1, d2, d3] }
  | _ => none }
def UndoTornWrongFalsely : Prop := undoTornRow.holds Try.pinned (OpenSpec.ofChange undoTornWrong)

/-- 'ratoonlaw04.UndoScript': WHATEVER THE INPUT: true; the input reads as it did. -/
def undoScriptSpec : ChangeSpec := { name := "undoScript", fn := fun _ => fun
  | [d1, d2] => { results := [.lit (.bool true)], args := [d1, d2] }
  | _ => none }
def undoScriptRow : OpenClaim := { program := "yteefimjgcabpoaa", sum := "f6b3b7f4450320708c8931e5feeb2c058c34ba87b5d97d69e41e2748ff33ba65", func := "ratoon/ratoonlaw04.UndoScript", spec := "undoScript", unfollowed := true, recurses := true, apart := false }
def UndoScriptSaid : Prop := undoScriptRow.holds Try.pinned (OpenSpec.ofChange undoScriptSpec)

/-- ITS FALSE NEIGHBOUR: 'it returns false'. Refute it at one input. -/
def undoScriptWrong : ChangeSpec := { name := "undoScript", fn := fun _ => fun
  | [d1, d2] => { results := [.lit (.bool false)], args := [d1, d2] }
  | _ => none }
def UndoScriptWrongFalsely : Prop := undoScriptRow.holds Try.pinned (OpenSpec.ofChange undoScriptWrong)

/-- 'ratoonlaw04.UndoRollback': WHATEVER THE INPUT: true; the input reads as it did. -/
def undoRollbackSpec : ChangeSpec := { name := "undoRollback", fn := fun _ => fun
  | [d1, d2, d3] => { results := [.lit (.bool true)], args := [d1, d2, d3] }
  | _ => none }
def undoRollbackRow : OpenClaim := { program := "yteefimjgcabpoaa", sum := "f6b3b7f4450320708c8931e5feeb2c058c34ba87b5d97d69e41e2748ff33ba65", func := "ratoon/ratoonlaw04.UndoRollback", spec := "undoRollback", unfollowed := true, recurses := true, apart := false }
def UndoRollbackSaid : Prop := undoRollbackRow.holds Try.pinned (OpenSpec.ofChange undoRollbackSpec)

/-- ITS FALSE NEIGHBOUR: 'it returns false'. Refute it at one input. -/
def undoRollbackWrong : ChangeSpec := { name := "undoRollback", fn := fun _ => fun
  | [d1, d2, d3] => { results := [.lit (.bool false)], args := [d1, d2, d3] }
  | _ => none }
def UndoRollbackWrongFalsely : Prop := undoRollbackRow.holds Try.pinned (OpenSpec.ofChange undoRollbackWrong)

/-- 'ratoonlaw04.UndoNil': WHATEVER THE INPUT: true; the input reads as it did. -/
def undoNilSpec : ChangeSpec := { name := "undoNil", fn := fun _ => fun
  | [d] => { results := [.lit (.bool true)], args := [d] }
  | _ => none }
def undoNilRow : OpenClaim := { program := "yteefimjgcabpoaa", sum := "f6b3b7f4450320708c8931e5feeb2c058c34ba87b5d97d69e41e2748ff33ba65", func := "ratoon/ratoonlaw04.UndoNil", spec := "undoNil", unfollowed := true, recurses := true, apart := false }
def UndoNilSaid : Prop := undoNilRow.holds Try.pinned (OpenSpec.ofChange undoNilSpec)

/-- ITS FALSE NEIGHBOUR: 'it returns false'. Refute it at one input. -/
def undoNilWrong : ChangeSpec := { name := "undoNil", fn := fun _ => fun
  | [d] => { results := [.lit (.bool false)], args := [d] }
  | _ => none }
def UndoNilWrongFalsely : Prop := undoNilRow.holds Try.pinned (OpenSpec.ofChange undoNilWrong)

/-- 'ratoonlaw04.UndoEncoding': WHATEVER THE INPUT: true; the input reads as it did. -/
def undoEncodingSpec : ChangeSpec := { name := "undoEncoding", fn := fun _ => fun
  | [d1, d2] => { results := [.lit (.bool true)], args := [d1, d2] }
  | _ => none }
def undoEncodingRow : OpenClaim := { program := "yteefimjgcabpoaa", sum := "f6b3b7f4450320708c8931e5feeb2c058c34ba87b5d97d69e41e2748ff33ba65", func := "ratoon/ratoonlaw04.UndoEncoding", spec := "undoEncoding", unfollowed := true, recurses := true, apart := false }
def UndoEncodingSaid : Prop := undoEncodingRow.holds Try.pinned (OpenSpec.ofChange undoEncodingSpec)

/-- ITS FALSE NEIGHBOUR: 'it returns false'. Refute it at one input. -/
def undoEncodingWrong : ChangeSpec := { name := "undoEncoding", fn := fun _ => fun
  | [d1, d2] => { results := [.lit (.bool false)], args := [d1, d2] }
  | _ => none }
def UndoEncodingWrongFalsely : Prop := undoEncodingRow.holds Try.pinned (OpenSpec.ofChange undoEncodingWrong)

/- THE SECOND FORM. 'bulk': how many values and letters a reading holds, each counted each time it is reached (what is shared counts as often as it is met; a slice's spare places count too). A statement '..UptoSaid' is the law's where the arguments, and the package variables that the reading takes, are together of bulk at most 1048576: NARROWER than '..Said'. Prove '..Said' where nothing that the law and all that it calls make is longer than what came in: it says more and counts as full. Else prove '..UptoSaid'. A law counts once. -/
mutual
def uptoBulk {H : Type} : DataW H → Nat
  | .lit (.string bytes) => bytes.length + 1
  | .lit _ => 1
  | .nil => 1
  | .ptr d => uptoBulk d + 1
  | .slice elems spare => uptoBulkAll elems + uptoBulkAll spare + 1
  | .agg parts => uptoBulkAll parts + 1
  | .iface _ d => uptoBulk d + 1
  | .map entries => uptoBulkEntries entries + 1
  | .held _ => 1
def uptoBulkAll {H : Type} : List (DataW H) → Nat
  | [] => 0
  | d :: r => uptoBulk d + uptoBulkAll r
def uptoBulkEntries {H : Type} : List (Lit × DataW H) → Nat
  | [] => 0
  | x :: r => uptoBulkEntry x + uptoBulkEntries r
def uptoBulkEntry {H : Type} : Lit × DataW H → Nat
  | (.string bytes, d) => bytes.length + uptoBulk d + 1
  | (_, d) => uptoBulk d + 1
 end
def uptoSmall : (H : Type) → List (DataW H) → Bool := fun _ ds => decide (uptoBulkAll ds ≤ 1048576)
def OpenSpec.upto (s : _root_.Go.ChangeSpec) : _root_.Go.OpenSpec := { _root_.Go.OpenSpec.ofChange s with cond := some uptoSmall }

/-- 'ratoonlaw04.UndoRecover', WHERE WHAT IT READS IS OF BULK AT MOST 1048576: true; the input reads as it did. -/
def undoRecoverUptoRow : OpenClaim := { program := "yteefimjgcabpoaa", sum := "f6b3b7f4450320708c8931e5feeb2c058c34ba87b5d97d69e41e2748ff33ba65", func := "ratoon/ratoonlaw04.UndoRecover", spec := "undoRecover", unfollowed := true, recurses := true, apart := false, narrowed := true }
def UndoRecoverUptoSaid : Prop := undoRecoverUptoRow.holds Try.pinned (OpenSpec.upto undoRecoverSpec)

/-- 'ratoonlaw04.UndoTorn', WHERE WHAT IT READS IS OF BULK AT MOST 1048576: true; the input reads as it did. -/
def undoTornUptoRow : OpenClaim := { program := "yteefimjgcabpoaa", sum := "f6b3b7f4450320708c8931e5feeb2c058c34ba87b5d97d69e41e2748ff33ba65", func := "ratoon/ratoonlaw04.UndoTorn", spec := "undoTorn", unfollowed := true, recurses := true, apart := false, narrowed := true }
def UndoTornUptoSaid : Prop := undoTornUptoRow.holds Try.pinned (OpenSpec.upto undoTornSpec)

/-- 'ratoonlaw04.UndoScript', WHERE WHAT IT READS IS OF BULK AT MOST 1048576: true; the input reads as it did. -/
def undoScriptUptoRow : OpenClaim := { program := "yteefimjgcabpoaa", sum := "f6b3b7f4450320708c8931e5feeb2c058c34ba87b5d97d69e41e2748ff33ba65", func := "ratoon/ratoonlaw04.UndoScript", spec := "undoScript", unfollowed := true, recurses := true, apart := false, narrowed := true }
def UndoScriptUptoSaid : Prop := undoScriptUptoRow.holds Try.pinned (OpenSpec.upto undoScriptSpec)

/-- 'ratoonlaw04.UndoRollback', WHERE WHAT IT READS IS OF BULK AT MOST 1048576: true; the input reads as it did. -/
def undoRollbackUptoRow : OpenClaim := { program := "yteefimjgcabpoaa", sum := "f6b3b7f4450320708c8931e5feeb2c058c34ba87b5d97d69e41e2748ff33ba65", func := "ratoon/ratoonlaw04.UndoRollback", spec := "undoRollback", unfollowed := true, recurses := true, apart := false, narrowed := true }
def UndoRollbackUptoSaid : Prop := undoRollbackUptoRow.holds Try.pinned (OpenSpec.upto undoRollbackSpec)

/-- 'ratoonlaw04.UndoNil', WHERE WHAT IT READS IS OF BULK AT MOST 1048576: true; the input reads as it did. -/
def undoNilUptoRow : OpenClaim := { program := "yteefimjgcabpoaa", sum := "f6b3b7f4450320708c8931e5feeb2c058c34ba87b5d97d69e41e2748ff33ba65", func := "ratoon/ratoonlaw04.UndoNil", spec := "undoNil", unfollowed := true, recurses := true, apart := false, narrowed := true }
def UndoNilUptoSaid : Prop := undoNilUptoRow.holds Try.pinned (OpenSpec.upto undoNilSpec)

/-- 'ratoonlaw04.UndoEncoding', WHERE WHAT IT READS IS OF BULK AT MOST 1048576: true; the input reads as it did. -/
def undoEncodingUptoRow : OpenClaim := { program := "yteefimjgcabpoaa", sum := "f6b3b7f4450320708c8931e5feeb2c058c34ba87b5d97d69e41e2748ff33ba65", func := "ratoon/ratoonlaw04.UndoEncoding", spec := "undoEncoding", unfollowed := true, recurses := true, apart := false, narrowed := true }
def UndoEncodingUptoSaid : Prop := undoEncodingUptoRow.holds Try.pinned (OpenSpec.upto undoEncodingSpec)

end Rows
end Go.Proofs.Yteefimjgcabpoaa
