/-
  No cell of these rows narrows 'for every input' (looked for: loops, veiled, ifaces, maps, wideKeys, modest, calm, conditions, laid).
  DERIVED. THE GIVEN ROWS OF THIS SEAT. 4 by the template 'for every input the law returns true; each argument reads behind the call as it read before'; 0 by the template 'total and deterministic' (their statements: YtbpifaamlcjocaaTotals.lean).
  GIVEN WITH THE SEED: the statements are not yours to turn. If you find one false, say at which input.
  Laid BY PROGRAM, IN A SANDBOX (cutbox-rows.mjs): the forced cells as the released guide's own fill.sh prints them over the translation 1775356e0b86e740… (all of the seat's roots in one cut). By AI agents, Wed Nov 11 2026. No macro, syntax, notation, axiom, sorry.
-/
import Derived.Test.YtbpifaamlcjocaaChecked
import GoSem.Claim
import GoSem.ClaimJoined
import GoSem.ClaimMapViews
import Derived.JoinedTies
import Derived.KernelRfl
namespace Go.Proofs.Ytbpifaamlcjocaa
/- THE CELL 'sum', in the pinned program and in every row, IS THE sha256 OF THE DUMP (.gsa) THAT YtbpifaamlcjocaaProg.lean LOADS. Nothing in Lean hashes anything: it is a label: what it is worth is what the hold of that sum in a sandbox is worth. -/
noncomputable def Try.pinned : Pinned := { name := "ytbpifaamlcjocaa", sum := "1775356e0b86e740e08668d2e778535d7bd4543dc21b8182bf98af729e1cea31", checked := Try.checked }
namespace Rows
def none {H : Type} : Left H := { results := [], args := [] }

/-- 'ratoonlaw29.DetectSilent': WHATEVER THE INPUT: true; the input reads as it did. -/
def detectSilentSpec : ChangeSpec := { name := "detectSilent", fn := fun _ => fun
  | [d] => { results := [.lit (.bool true)], args := [d] }
  | _ => none }
def detectSilentRow : OpenClaim := { program := "ytbpifaamlcjocaa", sum := "1775356e0b86e740e08668d2e778535d7bd4543dc21b8182bf98af729e1cea31", func := "ratoon/ratoonlaw29.DetectSilent", spec := "detectSilent", unfollowed := true, recurses := true, apart := false }
def DetectSilentSaid : Prop := detectSilentRow.holds Try.pinned (OpenSpec.ofChange detectSilentSpec)

/-- ITS FALSE NEIGHBOUR: 'it returns false'. Refute it at one input. -/
def detectSilentWrong : ChangeSpec := { name := "detectSilent", fn := fun _ => fun
  | [d] => { results := [.lit (.bool false)], args := [d] }
  | _ => none }
def DetectSilentWrongFalsely : Prop := detectSilentRow.holds Try.pinned (OpenSpec.ofChange detectSilentWrong)

/-- 'ratoonlaw29.DetectAll': WHATEVER THE INPUT: true; the input reads as it did. -/
def detectAllSpec : ChangeSpec := { name := "detectAll", fn := fun _ => fun
  | [d] => { results := [.lit (.bool true)], args := [d] }
  | _ => none }
def detectAllRow : OpenClaim := { program := "ytbpifaamlcjocaa", sum := "1775356e0b86e740e08668d2e778535d7bd4543dc21b8182bf98af729e1cea31", func := "ratoon/ratoonlaw29.DetectAll", spec := "detectAll", unfollowed := true, recurses := true, apart := false }
def DetectAllSaid : Prop := detectAllRow.holds Try.pinned (OpenSpec.ofChange detectAllSpec)

/-- ITS FALSE NEIGHBOUR: 'it returns false'. Refute it at one input. -/
def detectAllWrong : ChangeSpec := { name := "detectAll", fn := fun _ => fun
  | [d] => { results := [.lit (.bool false)], args := [d] }
  | _ => none }
def DetectAllWrongFalsely : Prop := detectAllRow.holds Try.pinned (OpenSpec.ofChange detectAllWrong)

/-- 'ratoonlaw29.DetectNames': WHATEVER THE INPUT: true; the input reads as it did. -/
def detectNamesSpec : ChangeSpec := { name := "detectNames", fn := fun _ => fun
  | [d1, d2] => { results := [.lit (.bool true)], args := [d1, d2] }
  | _ => none }
def detectNamesRow : OpenClaim := { program := "ytbpifaamlcjocaa", sum := "1775356e0b86e740e08668d2e778535d7bd4543dc21b8182bf98af729e1cea31", func := "ratoon/ratoonlaw29.DetectNames", spec := "detectNames", unfollowed := true, recurses := true, apart := false }
def DetectNamesSaid : Prop := detectNamesRow.holds Try.pinned (OpenSpec.ofChange detectNamesSpec)

/-- ITS FALSE NEIGHBOUR: 'it returns false'. Refute it at one input. -/
def detectNamesWrong : ChangeSpec := { name := "detectNames", fn := fun _ => fun
  | [d1, d2] => { results := [.lit (.bool false)], args := [d1, d2] }
  | _ => none }
def DetectNamesWrongFalsely : Prop := detectNamesRow.holds Try.pinned (OpenSpec.ofChange detectNamesWrong)

/-- 'ratoonlaw29.DetectBound': WHATEVER THE INPUT: true; the input reads as it did. -/
def detectBoundSpec : ChangeSpec := { name := "detectBound", fn := fun _ => fun
  | [d1, d2, d3] => { results := [.lit (.bool true)], args := [d1, d2, d3] }
  | _ => none }
def detectBoundRow : OpenClaim := { program := "ytbpifaamlcjocaa", sum := "1775356e0b86e740e08668d2e778535d7bd4543dc21b8182bf98af729e1cea31", func := "ratoon/ratoonlaw29.DetectBound", spec := "detectBound", unfollowed := true, recurses := true, apart := false }
def DetectBoundSaid : Prop := detectBoundRow.holds Try.pinned (OpenSpec.ofChange detectBoundSpec)

/-- ITS FALSE NEIGHBOUR: 'it returns false'. Refute it at one input. -/
def detectBoundWrong : ChangeSpec := { name := "detectBound", fn := fun _ => fun
  | [d1, d2, d3] => { results := [.lit (.bool false)], args := [d1, d2, d3] }
  | _ => none }
def DetectBoundWrongFalsely : Prop := detectBoundRow.holds Try.pinned (OpenSpec.ofChange detectBoundWrong)

/- THE SECOND FORM. 'bulk': how many values and letters a reading holds, each counted each time it is reached (what is shared counts as often as it is met; a slice's spare places count too). A statement '..UptoSaid' is the law's where the arguments, and the package variables that the reading takes, are together of bulk at most 1048576: NARROWER than '..Said'. Prove '..Said' where nothing that the law and all that it calls make is longer than what came in: it says more and counts as full. Else prove '..UptoSaid'. A law counts once. -/
mutual
def uptoBulk {H : Type} : DataW H → Nat
  | .lit (.string bytes) => bytes.length + 1
  | .lit _ => 1
  | .nil => 1
  | .ptr d => uptoBulk d + 1
  | .slice elems spare => uptoBulkAll elems + uptoBulkAll spare + 1
  | .agg parts => uptoBulkAll parts + 1
  | .iface _ d => uptoBulk d + 1
  | .map entries => uptoBulkEntries entries + 1
  | .held _ => 1
def uptoBulkAll {H : Type} : List (DataW H) → Nat
  | [] => 0
  | d :: r => uptoBulk d + uptoBulkAll r
def uptoBulkEntries {H : Type} : List (Lit × DataW H) → Nat
  | [] => 0
  | x :: r => uptoBulkEntry x + uptoBulkEntries r
def uptoBulkEntry {H : Type} : Lit × DataW H → Nat
  | (.string bytes, d) => bytes.length + uptoBulk d + 1
  | (_, d) => uptoBulk d + 1
 end
def uptoSmall : (H : Type) → List (DataW H) → Bool := fun _ ds => decide (uptoBulkAll ds ≤ 1048576)
def OpenSpec.upto (s : _root_.Go.ChangeSpec) : _root_.Go.OpenSpec := { _root_.Go.OpenSpec.ofChange s with cond := some uptoSmall }

/-- 'ratoonlaw29.DetectSilent', WHERE WHAT IT READS IS OF BULK AT MOST 1048576: true; the input reads as it did. -/
def detectSilentUptoRow : OpenClaim := { program := "ytbpifaamlcjocaa", sum := "1775356e0b86e740e08668d2e778535d7bd4543dc21b8182bf98af729e1cea31", func := "ratoon/ratoonlaw29.DetectSilent", spec := "detectSilent", unfollowed := true, recurses := true, apart := false, narrowed := true }
def DetectSilentUptoSaid : Prop := detectSilentUptoRow.holds Try.pinned (OpenSpec.upto detectSilentSpec)

/-- 'ratoonlaw29.DetectAll', WHERE WHAT IT READS IS OF BULK AT MOST 1048576: true; the input reads as it did. -/
def detectAllUptoRow : OpenClaim := { program := "ytbpifaamlcjocaa", sum := "1775356e0b86e740e08668d2e778535d7bd4543dc21b8182bf98af729e1cea31", func := "ratoon/ratoonlaw29.DetectAll", spec := "detectAll", unfollowed := true, recurses := true, apart := false, narrowed := true }
def DetectAllUptoSaid : Prop := detectAllUptoRow.holds Try.pinned (OpenSpec.upto detectAllSpec)

/-- 'ratoonlaw29.DetectNames', WHERE WHAT IT READS IS OF BULK AT MOST 1048576: true; the input reads as it did. -/
def detectNamesUptoRow : OpenClaim := { program := "ytbpifaamlcjocaa", sum := "1775356e0b86e740e08668d2e778535d7bd4543dc21b8182bf98af729e1cea31", func := "ratoon/ratoonlaw29.DetectNames", spec := "detectNames", unfollowed := true, recurses := true, apart := false, narrowed := true }
def DetectNamesUptoSaid : Prop := detectNamesUptoRow.holds Try.pinned (OpenSpec.upto detectNamesSpec)

/-- 'ratoonlaw29.DetectBound', WHERE WHAT IT READS IS OF BULK AT MOST 1048576: true; the input reads as it did. -/
def detectBoundUptoRow : OpenClaim := { program := "ytbpifaamlcjocaa", sum := "1775356e0b86e740e08668d2e778535d7bd4543dc21b8182bf98af729e1cea31", func := "ratoon/ratoonlaw29.DetectBound", spec := "detectBound", unfollowed := true, recurses := true, apart := false, narrowed := true }
def DetectBoundUptoSaid : Prop := detectBoundUptoRow.holds Try.pinned (OpenSpec.upto detectBoundSpec)

end Rows
end Go.Proofs.Ytbpifaamlcjocaa
