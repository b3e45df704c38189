/- Several cells of a block set; clone of bytes under the name that the texts on failures use. For seats without the store's library. -/
import Derived.Test.YtbpifaamlcjocaaRw
import Derived.Test.YtbpifaamlcjocaaRows
import Derived.Test.YtbpifaamlcjocaaTy
namespace Go.Un
end Go.Un
namespace Go.Im
open Go Go.RowKit Go.Bs Go.Cl Go.Rw
/-- several cells of a block set -/
def puts (w : World) (g : Nat) (l : List (Nat × Value)) : World := l.foldl (fun w p => w.setCell ⟨g, p.1, none⟩ p.2) w
theorem puts_at : ∀ (l : List (Nat × Value)) {w : World} {g : Nat} {xs : Array Value} {t : TypeId}, w.heap[g]? = some (.cells xs t (0, 0)) →
    (puts w g l).heap[g]? = some (.cells (l.foldl (fun xs p => xs.setIfInBounds p.1 p.2) xs) t (0, 0)) ∧ Keep [g] w (puts w g l)
  | [], w, g, xs, t, h => ⟨h, Keep.refl _ _⟩
  | p :: l, w, g, xs, t, h => by
    have h1 : (w.setCell ⟨g, p.1, none⟩ p.2).heap[g]? = some (.cells (xs.setIfInBounds p.1 p.2) t (0, 0)) := by
      simp only [World.setCell, Array.getElem?_modify]
      simp [h]
    obtain ⟨h2, h3⟩ := puts_at l h1
    exact ⟨h2, ((Keep.refl [g] w).setCell (by simp) _).trans h3 (fun f hf => .inl hf)⟩
theorem puts_size (l : List (Nat × Value)) (w : World) (g : Nat) : (puts w g l).heap.size = w.heap.size := by
  induction l generalizing w with
  | nil => rfl
  | cons p l ih => show (puts (w.setCell ⟨g, p.1, none⟩ p.2) g l).heap.size = _; rw [ih]; simp [World.setCell]
end Go.Im
namespace Go.Proofs.Ytbpifaamlcjocaa
open Go.RowKit Go.Bs Go.Cl Go.Rw
/-- slices.Clone -/
theorem elB : Rw.Elem Try.prog 44 5 1 1 (.int .u8 0) := ⟨Try.underlying44, by kernel_rfl, rfl, by decide⟩
set_option maxHeartbeats 400000 in
theorem clone33 {F : List Nat} {v : Value} {n : Nat} {xs : List Value} (w : World) (hl : n ≤ 1000000) (hr : Raw F 1 w v n xs) :
    Calls Try.prog 37 #[v] w fun e w' => ∃ v', e = .returned v' ∧ w'.ownsRow w.heap.size 5 1 v' n xs ∧ Below w.heap.size w w' := by
  have q32 : ∀ (w : World) (a : Option Addr) (n c n' c' : Nat), (binOp .eql 44 (.slice a n c) (.slice none n' c')).run Try.prog w = .ok (.bool a.isNone) w := fun w a n c n' c' => Lib.run_eql_slice_nil w _ _ a n c n' c' Try.underlying44
  obtain ⟨a, cap, hv⟩ : ∃ a cap, v = .slice a n cap := by obtain ⟨_, _, a, cap, h, _⟩ := hr; exact ⟨a, cap, h⟩
  have Hr := Lib.hid (hr.alloc (.cells #[] 5))
  have Hemp := Lib.hid (own_empty w w.heap.size 5 1 (Nat.le_refl _))
  cases a with
  | none =>
    have h0 : n = 0 ∧ xs = [] := by
      rcases hr.cases with ⟨h0, h1, _⟩ | ⟨_, b, off, c, h, _⟩
      · exact ⟨h0, h1⟩
      · rw [hv] at h; cases h
    obtain ⟨rfl, rfl⟩ := h0
    subst hv
    go_enter Try.func37, Try.ntmps37
    go_wp2
    go_ret
    exact ⟨_, rfl, World.ownsRow_nil _ _ _ _, Below.refl _ _⟩
  | some ad =>
    subst hv
    clear hr
    go_enter Try.func37, Try.ntmps37
    go_wp2_with (at_builtin; refine wpList_append_raw elB Try.underlying44 Hemp.out Hr.out rfl _ _ rfl rfl rfl ?c3 ?c4 ?c5 ?_)
    case c3 => unfold maxLen; omega
    case c4 => omega
    case c5 => simp
    · intro v' w1 hown hgrow
      have hfin : Below w.heap.size w w1 := ((Below.refl w.heap.size w).alloc (Nat.le_refl _) _).grown hgrow (by simp) (fun q hq => by simp [Value.ownBlock] at hq; omega)
      have Hown : Hid (w1.ownsRow w.heap.size 5 1 v' n xs) := Lib.hid (by simpa using hown)
      clear hown hgrow
      go_wp2
      go_ret
      exact ⟨_, rfl, Hown.out, hfin⟩

end Go.Proofs.Ytbpifaamlcjocaa
