/-
  No cell of these rows narrows 'for every input' (looked for: loops, veiled, ifaces, maps, wideKeys, modest, calm, conditions, laid).
  DERIVED. THE GIVEN ROWS OF THIS SEAT. 7 by the template 'for every input the law returns true; each argument reads behind the call as it read before'; 0 by the template 'total and deterministic' (their statements: YtlomhelcphhinaaTotals.lean).
  GIVEN WITH THE SEED: the statements are not yours to turn. If you find one false, say at which input.
  Laid BY PROGRAM, IN A SANDBOX (cutbox-rows.mjs): the forced cells as the released guide's own fill.sh prints them over the translation 7466dec0945a824b… (all of the seat's roots in one cut). By AI agents, Wed Nov 11 2026. No macro, syntax, notation, axiom, sorry.
-/
import Derived.Test.YtlomhelcphhinaaChecked
import GoSem.Claim
import GoSem.ClaimJoined
import GoSem.ClaimMapViews
import Derived.JoinedTies
import Derived.KernelRfl
namespace Go.Proofs.Ytlomhelcphhinaa
/- THE CELL 'sum', in the pinned program and in every row, IS THE sha256 OF THE DUMP (.gsa) THAT YtlomhelcphhinaaProg.lean LOADS. Nothing in Lean hashes anything: it is a label: what it is worth is what the hold of that sum in a sandbox is worth. -/
noncomputable def Try.pinned : Pinned := { name := "ytlomhelcphhinaa", sum := "7466dec0945a824bcc8df8944e44d414ac2d8e5f3e35854f63e20e871f89f864", checked := Try.checked }
namespace Rows
def none {H : Type} : Left H := { results := [], args := [] }

/-- 'ratoonlaw09.SpaceCovers': WHATEVER THE INPUT: true; the input reads as it did. -/
def spaceCoversSpec : ChangeSpec := { name := "spaceCovers", fn := fun _ => fun
  | [d1, d2] => { results := [.lit (.bool true)], args := [d1, d2] }
  | _ => none }
def spaceCoversRow : OpenClaim := { program := "ytlomhelcphhinaa", sum := "7466dec0945a824bcc8df8944e44d414ac2d8e5f3e35854f63e20e871f89f864", func := "ratoon/ratoonlaw09.SpaceCovers", spec := "spaceCovers", unfollowed := true, recurses := true, apart := false }
def SpaceCoversSaid : Prop := spaceCoversRow.holds Try.pinned (OpenSpec.ofChange spaceCoversSpec)

/-- ITS FALSE NEIGHBOUR: 'it returns false'. Refute it at one input. -/
def spaceCoversWrong : ChangeSpec := { name := "spaceCovers", fn := fun _ => fun
  | [d1, d2] => { results := [.lit (.bool false)], args := [d1, d2] }
  | _ => none }
def SpaceCoversWrongFalsely : Prop := spaceCoversRow.holds Try.pinned (OpenSpec.ofChange spaceCoversWrong)

/-- 'ratoonlaw09.SpaceParts': WHATEVER THE INPUT: true; the input reads as it did. -/
def spacePartsSpec : ChangeSpec := { name := "spaceParts", fn := fun _ => fun
  | [d1, d2, d3] => { results := [.lit (.bool true)], args := [d1, d2, d3] }
  | _ => none }
def spacePartsRow : OpenClaim := { program := "ytlomhelcphhinaa", sum := "7466dec0945a824bcc8df8944e44d414ac2d8e5f3e35854f63e20e871f89f864", func := "ratoon/ratoonlaw09.SpaceParts", spec := "spaceParts", unfollowed := true, recurses := true, apart := false }
def SpacePartsSaid : Prop := spacePartsRow.holds Try.pinned (OpenSpec.ofChange spacePartsSpec)

/-- ITS FALSE NEIGHBOUR: 'it returns false'. Refute it at one input. -/
def spacePartsWrong : ChangeSpec := { name := "spaceParts", fn := fun _ => fun
  | [d1, d2, d3] => { results := [.lit (.bool false)], args := [d1, d2, d3] }
  | _ => none }
def SpacePartsWrongFalsely : Prop := spacePartsRow.holds Try.pinned (OpenSpec.ofChange spacePartsWrong)

/-- 'ratoonlaw09.SpaceProtect': WHATEVER THE INPUT: true; the input reads as it did. -/
def spaceProtectSpec : ChangeSpec := { name := "spaceProtect", fn := fun _ => fun
  | [d1, d2] => { results := [.lit (.bool true)], args := [d1, d2] }
  | _ => none }
def spaceProtectRow : OpenClaim := { program := "ytlomhelcphhinaa", sum := "7466dec0945a824bcc8df8944e44d414ac2d8e5f3e35854f63e20e871f89f864", func := "ratoon/ratoonlaw09.SpaceProtect", spec := "spaceProtect", unfollowed := true, recurses := true, apart := false }
def SpaceProtectSaid : Prop := spaceProtectRow.holds Try.pinned (OpenSpec.ofChange spaceProtectSpec)

/-- ITS FALSE NEIGHBOUR: 'it returns false'. Refute it at one input. -/
def spaceProtectWrong : ChangeSpec := { name := "spaceProtect", fn := fun _ => fun
  | [d1, d2] => { results := [.lit (.bool false)], args := [d1, d2] }
  | _ => none }
def SpaceProtectWrongFalsely : Prop := spaceProtectRow.holds Try.pinned (OpenSpec.ofChange spaceProtectWrong)

/-- 'ratoonlaw09.SpaceMap': WHATEVER THE INPUT: true; the input reads as it did. -/
def spaceMapSpec : ChangeSpec := { name := "spaceMap", fn := fun _ => fun
  | [d1, d2] => { results := [.lit (.bool true)], args := [d1, d2] }
  | _ => none }
def spaceMapRow : OpenClaim := { program := "ytlomhelcphhinaa", sum := "7466dec0945a824bcc8df8944e44d414ac2d8e5f3e35854f63e20e871f89f864", func := "ratoon/ratoonlaw09.SpaceMap", spec := "spaceMap", inPlace := ["slices.overlaps[ratoon/space.Entry]"], unfollowed := true, recurses := true, apart := false }
def SpaceMapSaid : Prop := spaceMapRow.holds Try.pinned (OpenSpec.ofChange spaceMapSpec)

/-- ITS FALSE NEIGHBOUR: 'it returns false'. Refute it at one input. -/
def spaceMapWrong : ChangeSpec := { name := "spaceMap", fn := fun _ => fun
  | [d1, d2] => { results := [.lit (.bool false)], args := [d1, d2] }
  | _ => none }
def SpaceMapWrongFalsely : Prop := spaceMapRow.holds Try.pinned (OpenSpec.ofChange spaceMapWrong)

/-- 'ratoonlaw09.SpaceAnyOrder': WHATEVER THE INPUT: true; the input reads as it did. -/
def spaceAnyOrderSpec : ChangeSpec := { name := "spaceAnyOrder", fn := fun _ => fun
  | [d1, d2, d3] => { results := [.lit (.bool true)], args := [d1, d2, d3] }
  | _ => none }
def spaceAnyOrderRow : OpenClaim := { program := "ytlomhelcphhinaa", sum := "7466dec0945a824bcc8df8944e44d414ac2d8e5f3e35854f63e20e871f89f864", func := "ratoon/ratoonlaw09.SpaceAnyOrder", spec := "spaceAnyOrder", inPlace := ["slices.overlaps[ratoon/space.Entry]"], unfollowed := true, recurses := true, apart := false }
def SpaceAnyOrderSaid : Prop := spaceAnyOrderRow.holds Try.pinned (OpenSpec.ofChange spaceAnyOrderSpec)

/-- ITS FALSE NEIGHBOUR: 'it returns false'. Refute it at one input. -/
def spaceAnyOrderWrong : ChangeSpec := { name := "spaceAnyOrder", fn := fun _ => fun
  | [d1, d2, d3] => { results := [.lit (.bool false)], args := [d1, d2, d3] }
  | _ => none }
def SpaceAnyOrderWrongFalsely : Prop := spaceAnyOrderRow.holds Try.pinned (OpenSpec.ofChange spaceAnyOrderWrong)

/-- 'ratoonlaw09.SpaceEntries': WHATEVER THE INPUT: true; the input reads as it did. -/
def spaceEntriesSpec : ChangeSpec := { name := "spaceEntries", fn := fun _ => fun
  | [d1, d2, d3] => { results := [.lit (.bool true)], args := [d1, d2, d3] }
  | _ => none }
def spaceEntriesRow : OpenClaim := { program := "ytlomhelcphhinaa", sum := "7466dec0945a824bcc8df8944e44d414ac2d8e5f3e35854f63e20e871f89f864", func := "ratoon/ratoonlaw09.SpaceEntries", spec := "spaceEntries", inPlace := ["slices.overlaps[ratoon/space.Entry]"], unfollowed := true, recurses := true, apart := false }
def SpaceEntriesSaid : Prop := spaceEntriesRow.holds Try.pinned (OpenSpec.ofChange spaceEntriesSpec)

/-- ITS FALSE NEIGHBOUR: 'it returns false'. Refute it at one input. -/
def spaceEntriesWrong : ChangeSpec := { name := "spaceEntries", fn := fun _ => fun
  | [d1, d2, d3] => { results := [.lit (.bool false)], args := [d1, d2, d3] }
  | _ => none }
def SpaceEntriesWrongFalsely : Prop := spaceEntriesRow.holds Try.pinned (OpenSpec.ofChange spaceEntriesWrong)

/-- 'ratoonlaw09.SpaceUnmap': WHATEVER THE INPUT: true; the input reads as it did. -/
def spaceUnmapSpec : ChangeSpec := { name := "spaceUnmap", fn := fun _ => fun
  | [d1, d2] => { results := [.lit (.bool true)], args := [d1, d2] }
  | _ => none }
def spaceUnmapRow : OpenClaim := { program := "ytlomhelcphhinaa", sum := "7466dec0945a824bcc8df8944e44d414ac2d8e5f3e35854f63e20e871f89f864", func := "ratoon/ratoonlaw09.SpaceUnmap", spec := "spaceUnmap", unfollowed := true, recurses := true, apart := false }
def SpaceUnmapSaid : Prop := spaceUnmapRow.holds Try.pinned (OpenSpec.ofChange spaceUnmapSpec)

/-- ITS FALSE NEIGHBOUR: 'it returns false'. Refute it at one input. -/
def spaceUnmapWrong : ChangeSpec := { name := "spaceUnmap", fn := fun _ => fun
  | [d1, d2] => { results := [.lit (.bool false)], args := [d1, d2] }
  | _ => none }
def SpaceUnmapWrongFalsely : Prop := spaceUnmapRow.holds Try.pinned (OpenSpec.ofChange spaceUnmapWrong)

/- THE SECOND FORM. 'bulk': how many values and letters a reading holds, each counted each time it is reached (what is shared counts as often as it is met; a slice's spare places count too). A statement '..UptoSaid' is the law's where the arguments, and the package variables that the reading takes, are together of bulk at most 1048576: NARROWER than '..Said'. Prove '..Said' where nothing that the law and all that it calls make is longer than what came in: it says more and counts as full. Else prove '..UptoSaid'. A law counts once. -/
mutual
def uptoBulk {H : Type} : DataW H → Nat
  | .lit (.string bytes) => bytes.length + 1
  | .lit _ => 1
  | .nil => 1
  | .ptr d => uptoBulk d + 1
  | .slice elems spare => uptoBulkAll elems + uptoBulkAll spare + 1
  | .agg parts => uptoBulkAll parts + 1
  | .iface _ d => uptoBulk d + 1
  | .map entries => uptoBulkEntries entries + 1
  | .held _ => 1
def uptoBulkAll {H : Type} : List (DataW H) → Nat
  | [] => 0
  | d :: r => uptoBulk d + uptoBulkAll r
def uptoBulkEntries {H : Type} : List (Lit × DataW H) → Nat
  | [] => 0
  | x :: r => uptoBulkEntry x + uptoBulkEntries r
def uptoBulkEntry {H : Type} : Lit × DataW H → Nat
  | (.string bytes, d) => bytes.length + uptoBulk d + 1
  | (_, d) => uptoBulk d + 1
 end
def uptoSmall : (H : Type) → List (DataW H) → Bool := fun _ ds => decide (uptoBulkAll ds ≤ 1048576)
def OpenSpec.upto (s : _root_.Go.ChangeSpec) : _root_.Go.OpenSpec := { _root_.Go.OpenSpec.ofChange s with cond := some uptoSmall }

/-- 'ratoonlaw09.SpaceCovers', WHERE WHAT IT READS IS OF BULK AT MOST 1048576: true; the input reads as it did. -/
def spaceCoversUptoRow : OpenClaim := { program := "ytlomhelcphhinaa", sum := "7466dec0945a824bcc8df8944e44d414ac2d8e5f3e35854f63e20e871f89f864", func := "ratoon/ratoonlaw09.SpaceCovers", spec := "spaceCovers", unfollowed := true, recurses := true, apart := false, narrowed := true }
def SpaceCoversUptoSaid : Prop := spaceCoversUptoRow.holds Try.pinned (OpenSpec.upto spaceCoversSpec)

/-- 'ratoonlaw09.SpaceParts', WHERE WHAT IT READS IS OF BULK AT MOST 1048576: true; the input reads as it did. -/
def spacePartsUptoRow : OpenClaim := { program := "ytlomhelcphhinaa", sum := "7466dec0945a824bcc8df8944e44d414ac2d8e5f3e35854f63e20e871f89f864", func := "ratoon/ratoonlaw09.SpaceParts", spec := "spaceParts", unfollowed := true, recurses := true, apart := false, narrowed := true }
def SpacePartsUptoSaid : Prop := spacePartsUptoRow.holds Try.pinned (OpenSpec.upto spacePartsSpec)

/-- 'ratoonlaw09.SpaceProtect', WHERE WHAT IT READS IS OF BULK AT MOST 1048576: true; the input reads as it did. -/
def spaceProtectUptoRow : OpenClaim := { program := "ytlomhelcphhinaa", sum := "7466dec0945a824bcc8df8944e44d414ac2d8e5f3e35854f63e20e871f89f864", func := "ratoon/ratoonlaw09.SpaceProtect", spec := "spaceProtect", unfollowed := true, recurses := true, apart := false, narrowed := true }
def SpaceProtectUptoSaid : Prop := spaceProtectUptoRow.holds Try.pinned (OpenSpec.upto spaceProtectSpec)

/-- 'ratoonlaw09.SpaceMap', WHERE WHAT IT READS IS OF BULK AT MOST 1048576: true; the input reads as it did. -/
def spaceMapUptoRow : OpenClaim := { program := "ytlomhelcphhinaa", sum := "7466dec0945a824bcc8df8944e44d414ac2d8e5f3e35854f63e20e871f89f864", func := "ratoon/ratoonlaw09.SpaceMap", spec := "spaceMap", inPlace := ["slices.overlaps[ratoon/space.Entry]"], unfollowed := true, recurses := true, apart := false, narrowed := true }
def SpaceMapUptoSaid : Prop := spaceMapUptoRow.holds Try.pinned (OpenSpec.upto spaceMapSpec)

/-- 'ratoonlaw09.SpaceAnyOrder', WHERE WHAT IT READS IS OF BULK AT MOST 1048576: true; the input reads as it did. -/
def spaceAnyOrderUptoRow : OpenClaim := { program := "ytlomhelcphhinaa", sum := "7466dec0945a824bcc8df8944e44d414ac2d8e5f3e35854f63e20e871f89f864", func := "ratoon/ratoonlaw09.SpaceAnyOrder", spec := "spaceAnyOrder", inPlace := ["slices.overlaps[ratoon/space.Entry]"], unfollowed := true, recurses := true, apart := false, narrowed := true }
def SpaceAnyOrderUptoSaid : Prop := spaceAnyOrderUptoRow.holds Try.pinned (OpenSpec.upto spaceAnyOrderSpec)

/-- 'ratoonlaw09.SpaceEntries', WHERE WHAT IT READS IS OF BULK AT MOST 1048576: true; the input reads as it did. -/
def spaceEntriesUptoRow : OpenClaim := { program := "ytlomhelcphhinaa", sum := "7466dec0945a824bcc8df8944e44d414ac2d8e5f3e35854f63e20e871f89f864", func := "ratoon/ratoonlaw09.SpaceEntries", spec := "spaceEntries", inPlace := ["slices.overlaps[ratoon/space.Entry]"], unfollowed := true, recurses := true, apart := false, narrowed := true }
def SpaceEntriesUptoSaid : Prop := spaceEntriesUptoRow.holds Try.pinned (OpenSpec.upto spaceEntriesSpec)

/-- 'ratoonlaw09.SpaceUnmap', WHERE WHAT IT READS IS OF BULK AT MOST 1048576: true; the input reads as it did. -/
def spaceUnmapUptoRow : OpenClaim := { program := "ytlomhelcphhinaa", sum := "7466dec0945a824bcc8df8944e44d414ac2d8e5f3e35854f63e20e871f89f864", func := "ratoon/ratoonlaw09.SpaceUnmap", spec := "spaceUnmap", unfollowed := true, recurses := true, apart := false, narrowed := true }
def SpaceUnmapUptoSaid : Prop := spaceUnmapUptoRow.holds Try.pinned (OpenSpec.upto spaceUnmapSpec)

end Rows
end Go.Proofs.Ytlomhelcphhinaa
