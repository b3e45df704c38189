/-
  No cell of these rows narrows 'for every input' (looked for: loops, veiled, ifaces, maps, wideKeys, modest, calm, conditions, laid).
  DERIVED. THE GIVEN ROWS OF THIS SEAT. 5 by the template 'for every input the law returns true; each argument reads behind the call as it read before'; 0 by the template 'total and deterministic' (their statements: YtjlfpofgiicmcaaTotals.lean).
  GIVEN WITH THE SEED: the statements are not yours to turn. If you find one false, say at which input.
  Laid BY PROGRAM, IN A SANDBOX (cutbox-rows.mjs): the forced cells as the released guide's own fill.sh prints them over the translation c3da933562f216a6… (all of the seat's roots in one cut). By AI agents, Wed Nov 11 2026. No macro, syntax, notation, axiom, sorry.
-/
import Derived.Test.YtjlfpofgiicmcaaChecked
import GoSem.Claim
import GoSem.ClaimJoined
import GoSem.ClaimMapViews
import Derived.JoinedTies
import Derived.KernelRfl
namespace Go.Proofs.Ytjlfpofgiicmcaa
/- THE CELL 'sum', in the pinned program and in every row, IS THE sha256 OF THE DUMP (.gsa) THAT YtjlfpofgiicmcaaProg.lean LOADS. Nothing in Lean hashes anything: it is a label: what it is worth is what the hold of that sum in a sandbox is worth. -/
noncomputable def Try.pinned : Pinned := { name := "ytjlfpofgiicmcaa", sum := "c3da933562f216a6b3330e796503bfca19046ae69a8586ce378974a8994c205a", checked := Try.checked }
namespace Rows
def none {H : Type} : Left H := { results := [], args := [] }

/-- 'ratoonlaw26.LedgerScript': WHATEVER THE INPUT: true; the input reads as it did. -/
def ledgerScriptSpec : ChangeSpec := { name := "ledgerScript", fn := fun _ => fun
  | [d] => { results := [.lit (.bool true)], args := [d] }
  | _ => none }
def ledgerScriptRow : OpenClaim := { program := "ytjlfpofgiicmcaa", sum := "c3da933562f216a6b3330e796503bfca19046ae69a8586ce378974a8994c205a", func := "ratoon/ratoonlaw26.LedgerScript", spec := "ledgerScript", inPlace := ["slices.overlaps[ratoon/ledger.Last]"], unfollowed := true, recurses := true, apart := false }
def LedgerScriptSaid : Prop := ledgerScriptRow.holds Try.pinned (OpenSpec.ofChange ledgerScriptSpec)

/-- ITS FALSE NEIGHBOUR: 'it returns false'. Refute it at one input. -/
def ledgerScriptWrong : ChangeSpec := { name := "ledgerScript", fn := fun _ => fun
  | [d] => { results := [.lit (.bool false)], args := [d] }
  | _ => none }
def LedgerScriptWrongFalsely : Prop := ledgerScriptRow.holds Try.pinned (OpenSpec.ofChange ledgerScriptWrong)

/-- 'ratoonlaw26.LedgerOthers': WHATEVER THE INPUT: true; the input reads as it did. -/
def ledgerOthersSpec : ChangeSpec := { name := "ledgerOthers", fn := fun _ => fun
  | [d1, d2] => { results := [.lit (.bool true)], args := [d1, d2] }
  | _ => none }
def ledgerOthersRow : OpenClaim := { program := "ytjlfpofgiicmcaa", sum := "c3da933562f216a6b3330e796503bfca19046ae69a8586ce378974a8994c205a", func := "ratoon/ratoonlaw26.LedgerOthers", spec := "ledgerOthers", inPlace := ["slices.overlaps[ratoon/ledger.Last]"], unfollowed := true, recurses := true, apart := false }
def LedgerOthersSaid : Prop := ledgerOthersRow.holds Try.pinned (OpenSpec.ofChange ledgerOthersSpec)

/-- ITS FALSE NEIGHBOUR: 'it returns false'. Refute it at one input. -/
def ledgerOthersWrong : ChangeSpec := { name := "ledgerOthers", fn := fun _ => fun
  | [d1, d2] => { results := [.lit (.bool false)], args := [d1, d2] }
  | _ => none }
def LedgerOthersWrongFalsely : Prop := ledgerOthersRow.holds Try.pinned (OpenSpec.ofChange ledgerOthersWrong)

/-- 'ratoonlaw26.LedgerSee': WHATEVER THE INPUT: true; the input reads as it did. -/
def ledgerSeeSpec : ChangeSpec := { name := "ledgerSee", fn := fun _ => fun
  | [d1, d2, d3] => { results := [.lit (.bool true)], args := [d1, d2, d3] }
  | _ => none }
def ledgerSeeRow : OpenClaim := { program := "ytjlfpofgiicmcaa", sum := "c3da933562f216a6b3330e796503bfca19046ae69a8586ce378974a8994c205a", func := "ratoon/ratoonlaw26.LedgerSee", spec := "ledgerSee", inPlace := ["slices.overlaps[ratoon/ledger.Last]"], unfollowed := true, recurses := true, apart := false }
def LedgerSeeSaid : Prop := ledgerSeeRow.holds Try.pinned (OpenSpec.ofChange ledgerSeeSpec)

/-- ITS FALSE NEIGHBOUR: 'it returns false'. Refute it at one input. -/
def ledgerSeeWrong : ChangeSpec := { name := "ledgerSee", fn := fun _ => fun
  | [d1, d2, d3] => { results := [.lit (.bool false)], args := [d1, d2, d3] }
  | _ => none }
def LedgerSeeWrongFalsely : Prop := ledgerSeeRow.holds Try.pinned (OpenSpec.ofChange ledgerSeeWrong)

/-- 'ratoonlaw26.LedgerOnce': WHATEVER THE INPUT: true; the input reads as it did. -/
def ledgerOnceSpec : ChangeSpec := { name := "ledgerOnce", fn := fun _ => fun
  | [d1, d2] => { results := [.lit (.bool true)], args := [d1, d2] }
  | _ => none }
def ledgerOnceRow : OpenClaim := { program := "ytjlfpofgiicmcaa", sum := "c3da933562f216a6b3330e796503bfca19046ae69a8586ce378974a8994c205a", func := "ratoon/ratoonlaw26.LedgerOnce", spec := "ledgerOnce", inPlace := ["slices.overlaps[ratoon/ledger.Last]"], unfollowed := true, recurses := true, apart := false }
def LedgerOnceSaid : Prop := ledgerOnceRow.holds Try.pinned (OpenSpec.ofChange ledgerOnceSpec)

/-- ITS FALSE NEIGHBOUR: 'it returns false'. Refute it at one input. -/
def ledgerOnceWrong : ChangeSpec := { name := "ledgerOnce", fn := fun _ => fun
  | [d1, d2] => { results := [.lit (.bool false)], args := [d1, d2] }
  | _ => none }
def LedgerOnceWrongFalsely : Prop := ledgerOnceRow.holds Try.pinned (OpenSpec.ofChange ledgerOnceWrong)

/-- 'ratoonlaw26.LedgerEncoding': WHATEVER THE INPUT: true; the input reads as it did. -/
def ledgerEncodingSpec : ChangeSpec := { name := "ledgerEncoding", fn := fun _ => fun
  | [d1, d2] => { results := [.lit (.bool true)], args := [d1, d2] }
  | _ => none }
def ledgerEncodingRow : OpenClaim := { program := "ytjlfpofgiicmcaa", sum := "c3da933562f216a6b3330e796503bfca19046ae69a8586ce378974a8994c205a", func := "ratoon/ratoonlaw26.LedgerEncoding", spec := "ledgerEncoding", inPlace := ["slices.overlaps[ratoon/ledger.Last]"], unfollowed := true, recurses := true, apart := false }
def LedgerEncodingSaid : Prop := ledgerEncodingRow.holds Try.pinned (OpenSpec.ofChange ledgerEncodingSpec)

/-- ITS FALSE NEIGHBOUR: 'it returns false'. Refute it at one input. -/
def ledgerEncodingWrong : ChangeSpec := { name := "ledgerEncoding", fn := fun _ => fun
  | [d1, d2] => { results := [.lit (.bool false)], args := [d1, d2] }
  | _ => none }
def LedgerEncodingWrongFalsely : Prop := ledgerEncodingRow.holds Try.pinned (OpenSpec.ofChange ledgerEncodingWrong)

/- THE SECOND FORM. 'bulk': how many values and letters a reading holds, each counted each time it is reached (what is shared counts as often as it is met; a slice's spare places count too). A statement '..UptoSaid' is the law's where the arguments, and the package variables that the reading takes, are together of bulk at most 1048576: NARROWER than '..Said'. Prove '..Said' where nothing that the law and all that it calls make is longer than what came in: it says more and counts as full. Else prove '..UptoSaid'. A law counts once. -/
mutual
def uptoBulk {H : Type} : DataW H → Nat
  | .lit (.string bytes) => bytes.length + 1
  | .lit _ => 1
  | .nil => 1
  | .ptr d => uptoBulk d + 1
  | .slice elems spare => uptoBulkAll elems + uptoBulkAll spare + 1
  | .agg parts => uptoBulkAll parts + 1
  | .iface _ d => uptoBulk d + 1
  | .map entries => uptoBulkEntries entries + 1
  | .held _ => 1
def uptoBulkAll {H : Type} : List (DataW H) → Nat
  | [] => 0
  | d :: r => uptoBulk d + uptoBulkAll r
def uptoBulkEntries {H : Type} : List (Lit × DataW H) → Nat
  | [] => 0
  | x :: r => uptoBulkEntry x + uptoBulkEntries r
def uptoBulkEntry {H : Type} : Lit × DataW H → Nat
  | (.string bytes, d) => bytes.length + uptoBulk d + 1
  | (_, d) => uptoBulk d + 1
 end
def uptoSmall : (H : Type) → List (DataW H) → Bool := fun _ ds => decide (uptoBulkAll ds ≤ 1048576)
def OpenSpec.upto (s : _root_.Go.ChangeSpec) : _root_.Go.OpenSpec := { _root_.Go.OpenSpec.ofChange s with cond := some uptoSmall }

/-- 'ratoonlaw26.LedgerScript', WHERE WHAT IT READS IS OF BULK AT MOST 1048576: true; the input reads as it did. -/
def ledgerScriptUptoRow : OpenClaim := { program := "ytjlfpofgiicmcaa", sum := "c3da933562f216a6b3330e796503bfca19046ae69a8586ce378974a8994c205a", func := "ratoon/ratoonlaw26.LedgerScript", spec := "ledgerScript", inPlace := ["slices.overlaps[ratoon/ledger.Last]"], unfollowed := true, recurses := true, apart := false, narrowed := true }
def LedgerScriptUptoSaid : Prop := ledgerScriptUptoRow.holds Try.pinned (OpenSpec.upto ledgerScriptSpec)

/-- 'ratoonlaw26.LedgerOthers', WHERE WHAT IT READS IS OF BULK AT MOST 1048576: true; the input reads as it did. -/
def ledgerOthersUptoRow : OpenClaim := { program := "ytjlfpofgiicmcaa", sum := "c3da933562f216a6b3330e796503bfca19046ae69a8586ce378974a8994c205a", func := "ratoon/ratoonlaw26.LedgerOthers", spec := "ledgerOthers", inPlace := ["slices.overlaps[ratoon/ledger.Last]"], unfollowed := true, recurses := true, apart := false, narrowed := true }
def LedgerOthersUptoSaid : Prop := ledgerOthersUptoRow.holds Try.pinned (OpenSpec.upto ledgerOthersSpec)

/-- 'ratoonlaw26.LedgerSee', WHERE WHAT IT READS IS OF BULK AT MOST 1048576: true; the input reads as it did. -/
def ledgerSeeUptoRow : OpenClaim := { program := "ytjlfpofgiicmcaa", sum := "c3da933562f216a6b3330e796503bfca19046ae69a8586ce378974a8994c205a", func := "ratoon/ratoonlaw26.LedgerSee", spec := "ledgerSee", inPlace := ["slices.overlaps[ratoon/ledger.Last]"], unfollowed := true, recurses := true, apart := false, narrowed := true }
def LedgerSeeUptoSaid : Prop := ledgerSeeUptoRow.holds Try.pinned (OpenSpec.upto ledgerSeeSpec)

/-- 'ratoonlaw26.LedgerOnce', WHERE WHAT IT READS IS OF BULK AT MOST 1048576: true; the input reads as it did. -/
def ledgerOnceUptoRow : OpenClaim := { program := "ytjlfpofgiicmcaa", sum := "c3da933562f216a6b3330e796503bfca19046ae69a8586ce378974a8994c205a", func := "ratoon/ratoonlaw26.LedgerOnce", spec := "ledgerOnce", inPlace := ["slices.overlaps[ratoon/ledger.Last]"], unfollowed := true, recurses := true, apart := false, narrowed := true }
def LedgerOnceUptoSaid : Prop := ledgerOnceUptoRow.holds Try.pinned (OpenSpec.upto ledgerOnceSpec)

/-- 'ratoonlaw26.LedgerEncoding', WHERE WHAT IT READS IS OF BULK AT MOST 1048576: true; the input reads as it did. -/
def ledgerEncodingUptoRow : OpenClaim := { program := "ytjlfpofgiicmcaa", sum := "c3da933562f216a6b3330e796503bfca19046ae69a8586ce378974a8994c205a", func := "ratoon/ratoonlaw26.LedgerEncoding", spec := "ledgerEncoding", inPlace := ["slices.overlaps[ratoon/ledger.Last]"], unfollowed := true, recurses := true, apart := false, narrowed := true }
def LedgerEncodingUptoSaid : Prop := ledgerEncodingUptoRow.holds Try.pinned (OpenSpec.upto ledgerEncodingSpec)

end Rows
end Go.Proofs.Ytjlfpofgiicmcaa
