/-
  No cell of these rows narrows 'for every input' (looked for: loops, veiled, ifaces, maps, wideKeys, modest, calm, conditions, laid).
  DERIVED. THE GIVEN ROWS OF THIS SEAT. 6 by the template 'for every input the law returns true; each argument reads behind the call as it read before'; 0 by the template 'total and deterministic' (their statements: YtfgbkfifiioeiaaTotals.lean).
  GIVEN WITH THE SEED: the statements are not yours to turn. If you find one false, say at which input.
  Laid BY PROGRAM, IN A SANDBOX (cutbox-rows.mjs): the forced cells as the released guide's own fill.sh prints them over the translation 1d1a83cbe503a8e5… (all of the seat's roots in one cut). By AI agents, Wed Nov 11 2026. No macro, syntax, notation, axiom, sorry.
-/
import Derived.Test.YtfgbkfifiioeiaaChecked
import GoSem.Claim
import GoSem.ClaimJoined
import GoSem.ClaimMapViews
import Derived.JoinedTies
import Derived.KernelRfl
namespace Go.Proofs.Ytfgbkfifiioeiaa
/- THE CELL 'sum', in the pinned program and in every row, IS THE sha256 OF THE DUMP (.gsa) THAT YtfgbkfifiioeiaaProg.lean LOADS. Nothing in Lean hashes anything: it is a label: what it is worth is what the hold of that sum in a sandbox is worth. -/
noncomputable def Try.pinned : Pinned := { name := "ytfgbkfifiioeiaa", sum := "1d1a83cbe503a8e5dcedd26692fdf77c391a15d621756f8b77885a78177e6825", checked := Try.checked }
namespace Rows
def none {H : Type} : Left H := { results := [], args := [] }

/-- 'ratoonlaw32.NamesImage': WHATEVER THE INPUT: true; the input reads as it did. -/
def namesImageSpec : ChangeSpec := { name := "namesImage", fn := fun _ => fun
  | [d1, d2] => { results := [.lit (.bool true)], args := [d1, d2] }
  | _ => none }
def namesImageRow : OpenClaim := { program := "ytfgbkfifiioeiaa", sum := "1d1a83cbe503a8e5dcedd26692fdf77c391a15d621756f8b77885a78177e6825", func := "ratoon/ratoonlaw32.NamesImage", spec := "namesImage", inPlace := ["internal/bytealg.abigen_runtime_cmpstring", "slices.overlaps[ratoon/names.Entry]"], unfollowed := true, recurses := true, apart := false }
def NamesImageSaid : Prop := namesImageRow.holds Try.pinned (OpenSpec.ofChange namesImageSpec)

/-- ITS FALSE NEIGHBOUR: 'it returns false'. Refute it at one input. -/
def namesImageWrong : ChangeSpec := { name := "namesImage", fn := fun _ => fun
  | [d1, d2] => { results := [.lit (.bool false)], args := [d1, d2] }
  | _ => none }
def NamesImageWrongFalsely : Prop := namesImageRow.holds Try.pinned (OpenSpec.ofChange namesImageWrong)

/-- 'ratoonlaw32.NamesStep': WHATEVER THE INPUT: true; the input reads as it did. -/
def namesStepSpec : ChangeSpec := { name := "namesStep", fn := fun _ => fun
  | [d1, d2] => { results := [.lit (.bool true)], args := [d1, d2] }
  | _ => none }
def namesStepRow : OpenClaim := { program := "ytfgbkfifiioeiaa", sum := "1d1a83cbe503a8e5dcedd26692fdf77c391a15d621756f8b77885a78177e6825", func := "ratoon/ratoonlaw32.NamesStep", spec := "namesStep", inPlace := ["internal/bytealg.abigen_runtime_cmpstring", "slices.overlaps[ratoon/names.Entry]"], unfollowed := true, recurses := true, apart := false }
def NamesStepSaid : Prop := namesStepRow.holds Try.pinned (OpenSpec.ofChange namesStepSpec)

/-- ITS FALSE NEIGHBOUR: 'it returns false'. Refute it at one input. -/
def namesStepWrong : ChangeSpec := { name := "namesStep", fn := fun _ => fun
  | [d1, d2] => { results := [.lit (.bool false)], args := [d1, d2] }
  | _ => none }
def NamesStepWrongFalsely : Prop := namesStepRow.holds Try.pinned (OpenSpec.ofChange namesStepWrong)

/-- 'ratoonlaw32.NamesOwners': WHATEVER THE INPUT: true; the input reads as it did. -/
def namesOwnersSpec : ChangeSpec := { name := "namesOwners", fn := fun _ => fun
  | [d1, d2] => { results := [.lit (.bool true)], args := [d1, d2] }
  | _ => none }
def namesOwnersRow : OpenClaim := { program := "ytfgbkfifiioeiaa", sum := "1d1a83cbe503a8e5dcedd26692fdf77c391a15d621756f8b77885a78177e6825", func := "ratoon/ratoonlaw32.NamesOwners", spec := "namesOwners", inPlace := ["internal/bytealg.abigen_runtime_cmpstring", "slices.overlaps[ratoon/names.Entry]"], unfollowed := true, recurses := true, apart := false }
def NamesOwnersSaid : Prop := namesOwnersRow.holds Try.pinned (OpenSpec.ofChange namesOwnersSpec)

/-- ITS FALSE NEIGHBOUR: 'it returns false'. Refute it at one input. -/
def namesOwnersWrong : ChangeSpec := { name := "namesOwners", fn := fun _ => fun
  | [d1, d2] => { results := [.lit (.bool false)], args := [d1, d2] }
  | _ => none }
def NamesOwnersWrongFalsely : Prop := namesOwnersRow.holds Try.pinned (OpenSpec.ofChange namesOwnersWrong)

/-- 'ratoonlaw32.NamesApart': WHATEVER THE INPUT: true; the input reads as it did. -/
def namesApartSpec : ChangeSpec := { name := "namesApart", fn := fun _ => fun
  | [d1, d2, d3] => { results := [.lit (.bool true)], args := [d1, d2, d3] }
  | _ => none }
def namesApartRow : OpenClaim := { program := "ytfgbkfifiioeiaa", sum := "1d1a83cbe503a8e5dcedd26692fdf77c391a15d621756f8b77885a78177e6825", func := "ratoon/ratoonlaw32.NamesApart", spec := "namesApart", inPlace := ["internal/bytealg.abigen_runtime_cmpstring", "slices.overlaps[ratoon/names.Entry]"], unfollowed := true, recurses := true, apart := false }
def NamesApartSaid : Prop := namesApartRow.holds Try.pinned (OpenSpec.ofChange namesApartSpec)

/-- ITS FALSE NEIGHBOUR: 'it returns false'. Refute it at one input. -/
def namesApartWrong : ChangeSpec := { name := "namesApart", fn := fun _ => fun
  | [d1, d2, d3] => { results := [.lit (.bool false)], args := [d1, d2, d3] }
  | _ => none }
def NamesApartWrongFalsely : Prop := namesApartRow.holds Try.pinned (OpenSpec.ofChange namesApartWrong)

/-- 'ratoonlaw32.NamesBack': WHATEVER THE INPUT: true; the input reads as it did. -/
def namesBackSpec : ChangeSpec := { name := "namesBack", fn := fun _ => fun
  | [d1, d2] => { results := [.lit (.bool true)], args := [d1, d2] }
  | _ => none }
def namesBackRow : OpenClaim := { program := "ytfgbkfifiioeiaa", sum := "1d1a83cbe503a8e5dcedd26692fdf77c391a15d621756f8b77885a78177e6825", func := "ratoon/ratoonlaw32.NamesBack", spec := "namesBack", inPlace := ["internal/bytealg.abigen_runtime_cmpstring", "slices.overlaps[ratoon/names.Entry]"], unfollowed := true, recurses := true, apart := false }
def NamesBackSaid : Prop := namesBackRow.holds Try.pinned (OpenSpec.ofChange namesBackSpec)

/-- ITS FALSE NEIGHBOUR: 'it returns false'. Refute it at one input. -/
def namesBackWrong : ChangeSpec := { name := "namesBack", fn := fun _ => fun
  | [d1, d2] => { results := [.lit (.bool false)], args := [d1, d2] }
  | _ => none }
def NamesBackWrongFalsely : Prop := namesBackRow.holds Try.pinned (OpenSpec.ofChange namesBackWrong)

/-- 'ratoonlaw32.NamesSpace': WHATEVER THE INPUT: true; the input reads as it did. -/
def namesSpaceSpec : ChangeSpec := { name := "namesSpace", fn := fun _ => fun
  | [d] => { results := [.lit (.bool true)], args := [d] }
  | _ => none }
def namesSpaceRow : OpenClaim := { program := "ytfgbkfifiioeiaa", sum := "1d1a83cbe503a8e5dcedd26692fdf77c391a15d621756f8b77885a78177e6825", func := "ratoon/ratoonlaw32.NamesSpace", spec := "namesSpace", inPlace := ["internal/bytealg.abigen_runtime_cmpstring", "slices.overlaps[ratoon/names.Entry]"], unfollowed := true, recurses := true, apart := false }
def NamesSpaceSaid : Prop := namesSpaceRow.holds Try.pinned (OpenSpec.ofChange namesSpaceSpec)

/-- ITS FALSE NEIGHBOUR: 'it returns false'. Refute it at one input. -/
def namesSpaceWrong : ChangeSpec := { name := "namesSpace", fn := fun _ => fun
  | [d] => { results := [.lit (.bool false)], args := [d] }
  | _ => none }
def NamesSpaceWrongFalsely : Prop := namesSpaceRow.holds Try.pinned (OpenSpec.ofChange namesSpaceWrong)

/- THE SECOND FORM. 'bulk': how many values and letters a reading holds, each counted each time it is reached (what is shared counts as often as it is met; a slice's spare places count too). A statement '..UptoSaid' is the law's where the arguments, and the package variables that the reading takes, are together of bulk at most 1048576: NARROWER than '..Said'. Prove '..Said' where nothing that the law and all that it calls make is longer than what came in: it says more and counts as full. Else prove '..UptoSaid'. A law counts once. -/
mutual
def uptoBulk {H : Type} : DataW H → Nat
  | .lit (.string bytes) => bytes.length + 1
  | .lit _ => 1
  | .nil => 1
  | .ptr d => uptoBulk d + 1
  | .slice elems spare => uptoBulkAll elems + uptoBulkAll spare + 1
  | .agg parts => uptoBulkAll parts + 1
  | .iface _ d => uptoBulk d + 1
  | .map entries => uptoBulkEntries entries + 1
  | .held _ => 1
def uptoBulkAll {H : Type} : List (DataW H) → Nat
  | [] => 0
  | d :: r => uptoBulk d + uptoBulkAll r
def uptoBulkEntries {H : Type} : List (Lit × DataW H) → Nat
  | [] => 0
  | x :: r => uptoBulkEntry x + uptoBulkEntries r
def uptoBulkEntry {H : Type} : Lit × DataW H → Nat
  | (.string bytes, d) => bytes.length + uptoBulk d + 1
  | (_, d) => uptoBulk d + 1
 end
def uptoSmall : (H : Type) → List (DataW H) → Bool := fun _ ds => decide (uptoBulkAll ds ≤ 1048576)
def OpenSpec.upto (s : _root_.Go.ChangeSpec) : _root_.Go.OpenSpec := { _root_.Go.OpenSpec.ofChange s with cond := some uptoSmall }

/-- 'ratoonlaw32.NamesImage', WHERE WHAT IT READS IS OF BULK AT MOST 1048576: true; the input reads as it did. -/
def namesImageUptoRow : OpenClaim := { program := "ytfgbkfifiioeiaa", sum := "1d1a83cbe503a8e5dcedd26692fdf77c391a15d621756f8b77885a78177e6825", func := "ratoon/ratoonlaw32.NamesImage", spec := "namesImage", inPlace := ["internal/bytealg.abigen_runtime_cmpstring", "slices.overlaps[ratoon/names.Entry]"], unfollowed := true, recurses := true, apart := false, narrowed := true }
def NamesImageUptoSaid : Prop := namesImageUptoRow.holds Try.pinned (OpenSpec.upto namesImageSpec)

/-- 'ratoonlaw32.NamesStep', WHERE WHAT IT READS IS OF BULK AT MOST 1048576: true; the input reads as it did. -/
def namesStepUptoRow : OpenClaim := { program := "ytfgbkfifiioeiaa", sum := "1d1a83cbe503a8e5dcedd26692fdf77c391a15d621756f8b77885a78177e6825", func := "ratoon/ratoonlaw32.NamesStep", spec := "namesStep", inPlace := ["internal/bytealg.abigen_runtime_cmpstring", "slices.overlaps[ratoon/names.Entry]"], unfollowed := true, recurses := true, apart := false, narrowed := true }
def NamesStepUptoSaid : Prop := namesStepUptoRow.holds Try.pinned (OpenSpec.upto namesStepSpec)

/-- 'ratoonlaw32.NamesOwners', WHERE WHAT IT READS IS OF BULK AT MOST 1048576: true; the input reads as it did. -/
def namesOwnersUptoRow : OpenClaim := { program := "ytfgbkfifiioeiaa", sum := "1d1a83cbe503a8e5dcedd26692fdf77c391a15d621756f8b77885a78177e6825", func := "ratoon/ratoonlaw32.NamesOwners", spec := "namesOwners", inPlace := ["internal/bytealg.abigen_runtime_cmpstring", "slices.overlaps[ratoon/names.Entry]"], unfollowed := true, recurses := true, apart := false, narrowed := true }
def NamesOwnersUptoSaid : Prop := namesOwnersUptoRow.holds Try.pinned (OpenSpec.upto namesOwnersSpec)

/-- 'ratoonlaw32.NamesApart', WHERE WHAT IT READS IS OF BULK AT MOST 1048576: true; the input reads as it did. -/
def namesApartUptoRow : OpenClaim := { program := "ytfgbkfifiioeiaa", sum := "1d1a83cbe503a8e5dcedd26692fdf77c391a15d621756f8b77885a78177e6825", func := "ratoon/ratoonlaw32.NamesApart", spec := "namesApart", inPlace := ["internal/bytealg.abigen_runtime_cmpstring", "slices.overlaps[ratoon/names.Entry]"], unfollowed := true, recurses := true, apart := false, narrowed := true }
def NamesApartUptoSaid : Prop := namesApartUptoRow.holds Try.pinned (OpenSpec.upto namesApartSpec)

/-- 'ratoonlaw32.NamesBack', WHERE WHAT IT READS IS OF BULK AT MOST 1048576: true; the input reads as it did. -/
def namesBackUptoRow : OpenClaim := { program := "ytfgbkfifiioeiaa", sum := "1d1a83cbe503a8e5dcedd26692fdf77c391a15d621756f8b77885a78177e6825", func := "ratoon/ratoonlaw32.NamesBack", spec := "namesBack", inPlace := ["internal/bytealg.abigen_runtime_cmpstring", "slices.overlaps[ratoon/names.Entry]"], unfollowed := true, recurses := true, apart := false, narrowed := true }
def NamesBackUptoSaid : Prop := namesBackUptoRow.holds Try.pinned (OpenSpec.upto namesBackSpec)

/-- 'ratoonlaw32.NamesSpace', WHERE WHAT IT READS IS OF BULK AT MOST 1048576: true; the input reads as it did. -/
def namesSpaceUptoRow : OpenClaim := { program := "ytfgbkfifiioeiaa", sum := "1d1a83cbe503a8e5dcedd26692fdf77c391a15d621756f8b77885a78177e6825", func := "ratoon/ratoonlaw32.NamesSpace", spec := "namesSpace", inPlace := ["internal/bytealg.abigen_runtime_cmpstring", "slices.overlaps[ratoon/names.Entry]"], unfollowed := true, recurses := true, apart := false, narrowed := true }
def NamesSpaceUptoSaid : Prop := namesSpaceUptoRow.holds Try.pinned (OpenSpec.upto namesSpaceSpec)

end Rows
end Go.Proofs.Ytfgbkfifiioeiaa
