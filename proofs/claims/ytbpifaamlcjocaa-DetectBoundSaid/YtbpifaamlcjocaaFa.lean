/- fault: plans -/
import Derived.Test.YtbpifaamlcjocaaPu
import Derived.Test.YtbpifaamlcjocaaTy
import Derived.Deep.CutRange
namespace Go.Fa
open Go Go.RowKit Go.Bs Go.Cl Go.Rw
structure FP where
  c : Int
  n : Int
  e : Int
  k : Int
  s : Int
  pl : Int
  m : Int
def FP.cs (p : FP) : Array Value := #[.int .i64 p.c, .int .i64 p.n, .int .i64 p.e, .int .i64 p.k, .int .i64 p.s, .int .i64 p.pl, .int .i64 p.m]
def inR (n l m : Int) : Bool := decide (l ≤ n) && decide (n ≤ m)
end Go.Fa
namespace Go.Proofs.Ytbpifaamlcjocaa
open Go.RowKit Go.Bs Go.Cl Go.Rw Go.Un Go.Im Go.Fa
theorem a3 (w : World) (A B C : Obj) : (((w.alloc A).alloc B).alloc C).heap[w.heap.size + 1 + 1]? = some C := by
  have := heap_alloc_new ((w.alloc A).alloc B) C
  simpa using this
theorem b3 (w : World) (A B C : Obj) : Below w.heap.size w (((w.alloc A).alloc B).alloc C) := (((Below.refl _ w).alloc (Nat.le_refl _) _).alloc (by simp) _).alloc (by simp; omega) _
set_option maxHeartbeats 1000000 in
theorem within_any (n l m : Int) (w : World) : Calls Try.prog 48 #[.int .i64 n, .int .i64 l, .int .i64 m] w fun e w' => e = .returned (.bool (inR n l m)) ∧ w = w' := by
  unfold inR
  by_cases h1 : l ≤ n
  · by_cases h2 : n ≤ m
    · rw [decide_eq_true h1, decide_eq_true h2]
      go_enter Try.func48, Try.ntmps48
      go_wp2
      go_ret
      exact ⟨rfl, rfl⟩
    · rw [decide_eq_true h1, decide_eq_false h2]
      go_enter Try.func48, Try.ntmps48
      go_wp2
      go_ret
      exact ⟨rfl, rfl⟩
  · rw [decide_eq_false h1]
    go_enter Try.func48, Try.ntmps48
    go_wp2
    go_ret
    exact ⟨rfl, rfl⟩
set_option maxRecDepth 100000 in
set_option maxHeartbeats 2000000 in
theorem used1 (B : Nat) (p : FP) (h1 : 1 ≤ p.k) (h2 : p.k ≤ 3) (w : World) (hc : w.heap[B]? = some (.cells p.cs 52 (0, 0))) :
    Calls Try.prog 49 #[.pointer (some ⟨B, 0, none⟩)] w fun e w' => ∃ r, e = .returned (.slice (some ⟨r, 0, none⟩) 2 2) ∧ w'.heap[r]? = some (.cells #[.pointer (some ⟨B, 2, none⟩), .int .i64 0, .int .i64 1, .pointer (some ⟨B, 4, none⟩), .int .i64 0, .int .i64 4000] 85 (0, 0)) ∧ w.heap.size ≤ r ∧ Below w.heap.size w w' := by
  have hlt : B < w.heap.size := (Array.getElem?_eq_some_iff.1 hc).1
  have c3 : ∀ A A' : Obj, ((w.alloc A).alloc A').cell? ⟨B, 3, none⟩ = some (.int .i64 p.k) := fun A A' => ((((Below.refl w.heap.size w).alloc (Nat.le_refl _) A).alloc (by simp) A').cell (p := ⟨B, 3, none⟩) hlt).trans (box_at hc (j := 3) rfl)
  clear hc
  go_enter Try.func49, Try.ntmps49
  go_wp2
  go_ret
  exact ⟨_, rfl, a3 _ _ _ _, by omega, b3 _ _ _ _⟩
set_option maxRecDepth 100000 in
set_option maxHeartbeats 2000000 in
theorem used2 (B : Nat) (p : FP) (h1 : 4 ≤ p.k) (h2 : p.k ≤ 7) (w : World) (hc : w.heap[B]? = some (.cells p.cs 52 (0, 0))) :
    Calls Try.prog 49 #[.pointer (some ⟨B, 0, none⟩)] w fun e w' => ∃ r, e = .returned (.slice (some ⟨r, 0, none⟩) 3 3) ∧ w'.heap[r]? = some (.cells #[.pointer (some ⟨B, 2, none⟩), .int .i64 0, .int .i64 1, .pointer (some ⟨B, 5, none⟩), .int .i64 0, .int .i64 24000, .pointer (some ⟨B, 6, none⟩), .int .i64 1, .int .i64 255] 85 (0, 0)) ∧ w.heap.size ≤ r ∧ Below w.heap.size w w' := by
  have hlt : B < w.heap.size := (Array.getElem?_eq_some_iff.1 hc).1
  have c3 : ∀ A A' : Obj, ((w.alloc A).alloc A').cell? ⟨B, 3, none⟩ = some (.int .i64 p.k) := fun A A' => ((((Below.refl w.heap.size w).alloc (Nat.le_refl _) A).alloc (by simp) A').cell (p := ⟨B, 3, none⟩) hlt).trans (box_at hc (j := 3) rfl)
  have h3 : 1 ≤ p.k := by omega
  have h4 : ¬ p.k ≤ 3 := by omega
  clear hc
  go_enter Try.func49, Try.ntmps49
  go_upto_region 6 with (fail)
  refine Txt.Ty.wp_tree [] [] [] [0] [0, 1, 2, 3, 4, 5, 6, 7, 8] (.alt [9, 10] (.done) (.no)) (by kernel_rfl) (by kernel_rfl) (by kernel_rfl) (by kernel_rfl) (fun _ h => by cases h) ?_
  (try simp only [Txt.pick, List.getElem?_cons_succ, List.getElem?_cons_zero])
  go_wp2
  refine Txt.RunPost.mk ?_
  refine Txt.Ty.wpTr_alt ?_ Txt.Ty.wpTr_no
  (try simp only [Txt.pick, List.getElem?_cons_succ, List.getElem?_cons_zero])
  go_wp2
  refine Txt.SegPost.mk Txt.Ty.Shown.none ?_
  (try simp only [Txt.pick, List.getElem?_cons_succ, List.getElem?_cons_zero])
  go_wp2
  refine Txt.RunPost.mk ?_
  refine Txt.Ty.wpTr_done (by rfl) trivial ?_
  go_wp2
  go_ret
  exact ⟨_, rfl, a3 _ _ _ _, by omega, (b3 _ _ _ _).drew⟩
set_option maxRecDepth 100000 in
set_option maxHeartbeats 2000000 in
theorem used3 (B : Nat) (p : FP) (h1 : p.k = 8) (w : World) (hc : w.heap[B]? = some (.cells p.cs 52 (0, 0))) :
    Calls Try.prog 49 #[.pointer (some ⟨B, 0, none⟩)] w fun e w' => ∃ r, e = .returned (.slice (some ⟨r, 0, none⟩) 1 1) ∧ w'.heap[r]? = some (.cells #[.pointer (some ⟨B, 4, none⟩), .int .i64 0, .int .i64 4000] 85 (0, 0)) ∧ w.heap.size ≤ r ∧ Below w.heap.size w w' := by
  have hlt : B < w.heap.size := (Array.getElem?_eq_some_iff.1 hc).1
  have c3 : ∀ A A' : Obj, ((w.alloc A).alloc A').cell? ⟨B, 3, none⟩ = some (.int .i64 p.k) := fun A A' => ((((Below.refl w.heap.size w).alloc (Nat.le_refl _) A).alloc (by simp) A').cell (p := ⟨B, 3, none⟩) hlt).trans (box_at hc (j := 3) rfl)
  have h3 : 1 ≤ p.k := by omega
  have h4 : ¬ p.k ≤ 3 := by omega
  have h5 : 4 ≤ p.k := by omega
  have h6 : ¬ p.k ≤ 7 := by omega
  have h8 : (p.k == 8) = true := by simpa using h1
  clear h1
  clear hc
  go_enter Try.func49, Try.ntmps49
  go_wp2
  go_ret
  exact ⟨_, rfl, a3 _ _ _ _, by omega, b3 _ _ _ _⟩
set_option maxRecDepth 100000 in
set_option maxHeartbeats 2000000 in
theorem used4 (B : Nat) (p : FP) (h1 : p.k = 9) (w : World) (hc : w.heap[B]? = some (.cells p.cs 52 (0, 0))) :
    Calls Try.prog 49 #[.pointer (some ⟨B, 0, none⟩)] w fun e w' => e = .returned (.slice none 0 0) ∧ Below w.heap.size w w' := by
  have hlt : B < w.heap.size := (Array.getElem?_eq_some_iff.1 hc).1
  have c3 : ∀ A A' : Obj, ((w.alloc A).alloc A').cell? ⟨B, 3, none⟩ = some (.int .i64 p.k) := fun A A' => ((((Below.refl w.heap.size w).alloc (Nat.le_refl _) A).alloc (by simp) A').cell (p := ⟨B, 3, none⟩) hlt).trans (box_at hc (j := 3) rfl)
  have h3 : 1 ≤ p.k := by omega
  have h4 : ¬ p.k ≤ 3 := by omega
  have h5 : 4 ≤ p.k := by omega
  have h6 : ¬ p.k ≤ 7 := by omega
  have h8 : (p.k == 8) = false := by simp; omega
  clear h1 hc
  go_enter Try.func49, Try.ntmps49
  go_wp2
  go_ret
  exact ⟨rfl, ((Below.refl _ w).alloc (Nat.le_refl _) _).alloc (by simp) _⟩
end Go.Proofs.Ytbpifaamlcjocaa
