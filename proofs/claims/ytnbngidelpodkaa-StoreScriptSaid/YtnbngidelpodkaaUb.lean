/- Undo: slices.Clone; resized -/
import Derived.Test.YtnbngidelpodkaaRows
import Derived.Test.YtnbngidelpodkaaRw
namespace Go.Proofs.Ytnbngidelpodkaa
open Go.RowKit Go.Bs Go.Cl Go.Rw

/-- slices.Clone -/
theorem el22 : Rw.Elem Try.prog 22 5 1 1 (.int .u8 0) := ⟨Try.underlying22, by kernel_rfl, rfl, by decide⟩
set_option maxHeartbeats 400000 in
theorem clone33 {F : List Nat} {v : Value} {n : Nat} {xs : List Value} (w : World) (hl : n ≤ 1000000) (hr : Raw F 1 w v n xs) :
    Calls Try.prog 32 #[v] w fun e w' => ∃ v', e = .returned v' ∧ w'.ownsRow w.heap.size 5 1 v' n xs ∧ Below w.heap.size w w' := by
  have q32 : ∀ (w : World) (a : Option Addr) (n c n' c' : Nat), (binOp .eql 22 (.slice a n c) (.slice none n' c')).run Try.prog w = .ok (.bool a.isNone) w := fun w a n c n' c' => Lib.run_eql_slice_nil w _ _ a n c n' c' Try.underlying22
  obtain ⟨a, cap, hv⟩ : ∃ a cap, v = .slice a n cap := by obtain ⟨_, _, a, cap, h, _⟩ := hr; exact ⟨a, cap, h⟩
  have Hr := Lib.hid (hr.alloc (.cells #[] 5))
  have Hemp := Lib.hid (own_empty w w.heap.size 5 1 (Nat.le_refl _))
  cases a with
  | none =>
    have h0 : n = 0 ∧ xs = [] := by
      rcases hr.cases with ⟨h0, h1, _⟩ | ⟨_, b, off, c, h, _⟩
      · exact ⟨h0, h1⟩
      · rw [hv] at h; cases h
    obtain ⟨rfl, rfl⟩ := h0
    subst hv
    go_enter Try.func32, Try.ntmps32
    go_wp2
    go_ret
    exact ⟨_, rfl, World.ownsRow_nil _ _ _ _, Below.refl _ _⟩
  | some ad =>
    subst hv
    clear hr
    go_enter Try.func32, Try.ntmps32
    go_wp2_with (at_builtin; refine wpList_append_raw el22 Try.underlying22 Hemp.out Hr.out rfl _ _ rfl rfl rfl ?c3 ?c4 ?c5 ?_)
    case c3 => unfold maxLen; omega
    case c4 => omega
    case c5 => simp
    · intro v' w1 hown hgrow
      have hfin : Below w.heap.size w w1 := ((Below.refl w.heap.size w).alloc (Nat.le_refl _) _).grown hgrow (by simp) (fun q hq => by simp [Value.ownBlock] at hq; omega)
      have Hown : Hid (w1.ownsRow w.heap.size 5 1 v' n xs) := Lib.hid (by simpa using hown)
      clear hown hgrow
      go_wp2
      go_ret
      exact ⟨_, rfl, Hown.out, hfin⟩
/-- slices.Clone -/
theorem el29 : Rw.Elem Try.prog 85 95 3 40 (.agg #[.int .i64 0, .int .i64 0, .slice none 0 0]) := ⟨Try.underlying85, by kernel_rfl, rfl, by decide⟩
end Go.Proofs.Ytnbngidelpodkaa
