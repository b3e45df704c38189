/- Detect: Name, Same, awake -/
import Derived.Test.YtbpifaamlcjocaaDe
namespace Go.Dt
open Go Go.RowKit Go.Bs Go.Cl Go.Rw
theorem results_c {P : Program} {fn : Func} {q : Tmp} {ty : TypeId} (h : fn.results = #[.cell q ty]) (tmps : Array Value) (w : World) (g : Nat) (t : TypeId) (cs : Array Value) (fr : Nat × Nat) (d : TypeDesc)
    (hp : tmps.getD q undef = .pointer (some ⟨g, 0, none⟩)) (hg : w.heap[g]? = some (.cells cs t fr))
    (hu : P.underlying ty = some d) (hd : (match d with | .struct _ | .array _ _ => true | _ => false) = true) (hi : (P.info? ty).map (·.size) = some cs.size) :
    (results fn tmps).run P w = .ok (.agg cs) w := by
  have hp' : tmps[q]?.getD undef = .pointer (some ⟨g, 0, none⟩) := by simpa using hp
  simp [results, h, hp', asAddr, run_loadVar_row w g t ty cs fr d hg hu hd hi]
end Go.Dt
namespace Go.Proofs.Ytbpifaamlcjocaa
open Go.RowKit Go.Bs Go.Cl Go.Rw Go.Dt Go.Sort Go.So
set_option maxRecDepth 100000 in
set_option maxHeartbeats 1000000 in
theorem names_any (w : World) : Calls Try.prog 32 #[] w fun e w' => e = .returned (.agg #[.string ⟨#[110, 111, 110, 101]⟩, .string ⟨#[101, 120, 99, 101, 112, 116, 105, 111, 110]⟩, .string ⟨#[104, 97, 110, 103]⟩, .string ⟨#[116, 111, 117, 99, 104]⟩, .string ⟨#[112, 114, 111, 116, 111, 99, 111, 108]⟩, .string ⟨#[109, 105, 115, 109, 97, 116, 99, 104]⟩, .string ⟨#[105, 110, 115, 116, 97, 108, 108]⟩, .string ⟨#[115, 105, 108, 101, 110, 116]⟩]) ∧ Below w.heap.size w w' := by
  go_enter Try.func32, Try.ntmps32
  go_wp2
  refine bodyPost_ret (results_c rfl _ _ _ _ _ _ _ rfl (heap_alloc_new w _) Try.underlying65 rfl (by kernel_rfl)) rfl ?_
  exact ⟨rfl, (Below.refl _ w).alloc (Nat.le_refl _) _⟩
set_option maxRecDepth 100000 in
set_option maxHeartbeats 1000000 in
theorem name2 (w : World) : Calls Try.prog 13 #[.int .i64 2] w fun e w' => e = .returned (.string ⟨#[104, 97, 110, 103]⟩) ∧ Below w.heap.size w w' := by
  go_enter Try.func13, Try.ntmps13
  go_wp2_with fail
  refine (names_any _).mono ?_
  rintro e w1 ⟨rfl, hb1⟩
  go_wp2
  go_ret
  exact ⟨rfl, hb1.alloc hb1.size _⟩
set_option maxRecDepth 100000 in
set_option maxHeartbeats 1000000 in
theorem same_refl (l : List Int) (v1 v2 : Value) (w : World) (hl : l.length ≤ 1000) (h1 : Ints [] w v1 l) (h2 : Ints [] w v2 l) :
    Calls Try.prog 23 #[v1, v2] w fun e w' => e = .returned (.bool true) ∧ Below w.heap.size w w' := by
  obtain ⟨a1, c1, rfl⟩ := Raw.slice h1
  obtain ⟨a2, c2, rfl⟩ := Raw.slice h2
  have H1 := Lib.hid h1; have H2 := Lib.hid h2; clear h1 h2
  go_enter Try.func23, Try.ntmps23
  go_wp2
  go_loopw [5] (fun i wr => ∃ k : Nat, k ≤ l.length ∧ i = .int .i64 k ∧ Below w.heap.size w wr) (fun i _ => l.length - (intOf i).toNat)
  case atStart => exact ⟨0, Nat.zero_le _, rfl, Below.refl _ _⟩
  case round =>
    obtain ⟨k, hk, rfl, hbel⟩ := hrel
    have HB := Lib.hid hbel
    by_cases hlt : k < l.length
    · obtain ⟨b, off, c', e', hb, h0⟩ := Ints.elem (Raw.below H1.out hbel) hlt
      obtain ⟨b2, off2, c2', e2', hb2, h02⟩ := Ints.elem (Raw.below H2.out hbel) hlt
      cases e'; cases e2'
      generalize l[k] = x at h0 h02
      have hx : (x != x) = false := by simp
      clear hbel
      go_wp2
      refine Txt.wp_txt (by kernel_rfl) (by kernel_rfl) ?_
      go_wp2
      refine Txt.DrawPost.mk0 (by rfl) ?_
      go_wp2
      go_roundw
      case rel => exact ⟨k + 1, by omega, by go_num, HB.out.drew⟩
      case measure => simp [intOf]; omega
    · obtain rfl : k = l.length := by omega
      clear hbel
      go_wp2
      go_ret
      exact ⟨rfl, HB.out⟩
end Go.Proofs.Ytbpifaamlcjocaa
