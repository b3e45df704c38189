/- Store: the calls, as the laws use them -/
import Derived.Test.YtnbngidelpodkaaPe
namespace Go.Proofs.Ytnbngidelpodkaa
open Go.RowKit Go.Bs Go.Cl Go.Rw Go.Un Go.Im
/-- what the program's functions answer -/
def psBegin (s : Ps) (b : List UInt8) : Ps × Nat × Int := if s.inst then (s, 0, 7) else (⟨s.image, s.ver, true, b, 0⟩, tot s.image b, 0)
def psStep (s : Ps) : Ps × Nat × Int := if s.inst = false ∨ s.done = s.steps then (s, 0, 7) else (stepped s, s.steps - (s.done + 1), 0)
def psCommit (s : Ps) : Ps × Int := if s.inst = false ∨ s.done < s.steps then (s, 7) else (committed s, 0)
def psAbort (s : Ps) : Ps × Int := if s.inst = false then (s, 7) else (aborted s, 0)
/-- a store that a law has made -/
def Liv (w0 : World) (g : Nat) (s : Ps) (w : World) : Prop := Below w0.heap.size w0 w ∧ ∃ base h iv rv, w0.heap.size ≤ base ∧ StAt w base g h iv rv s
variable {w0 w w' : World} {g : Nat} {s : Ps}
theorem Liv.good (H : Liv w0 g s w) : s.Good := by
  obtain ⟨_, _, _, _, _, _, _, _, _, _, _, H⟩ := H
  exact H.good
theorem Liv.below (H : Liv w0 g s w) (hb : Below w.heap.size w w') : Liv w0 g s w' := by
  obtain ⟨h1, base, h, iv, rv, h2, h3⟩ := H
  exact ⟨h1.trans (hb.mono h1.size), base, h, iv, rv, h2, h3.below hb⟩
theorem Liv.drew (H : Liv w0 g s w) : Liv w0 g s w.drew := H.below (Below.refl _ w).drew
theorem Liv.moved {base h : Nat} {iv rv : Value} {s' : Ps} (hb : Below w0.heap.size w0 w) (hn : w0.heap.size ≤ base) (H : StAt w base g h iv rv s) (Q : StQ w base g h iv rv s' w') : Liv w0 g s' w' := by
  obtain ⟨iv', rv', h1, h2, _⟩ := Q
  obtain ⟨_, _, _, _, _, H⟩ := H
  exact ⟨hb.trans (h2.below hb.size (fun f hf => Nat.le_trans hn (H.fbase f hf).1)), base, h, iv', rv', hn, h1⟩
theorem Liv.arg {F : List Nat} {v : Value} {b : List UInt8} (H : Liv w0 g s w) (hB : Bytes F w0 v b) : Bytes F w v b := Raw.below hB H.1
theorem same_base {bl : List Nat} {u : World} (h : ∀ b ∈ bl, ∃ c e f, w0.heap[b]? = some (.cells c e f)) (h1 : Below w0.heap.size w0 u) (h2 : Below w0.heap.size w0 w) : Txt.SameB bl u w := fun b hb => by
  obtain ⟨c, e, f, hc⟩ := h b hb
  have hl := (Array.getElem?_eq_some_iff.1 hc).1
  have e1 := (h1.block b hl).trans hc
  have e2 := (h2.block b hl).trans hc
  exact ⟨⟨c, e, f, e2⟩, e2.trans e1.symm⟩
theorem cells_base {bl : List Nat} {u : World} (h : ∀ b ∈ bl, ∃ c e f, w0.heap[b]? = some (.cells c e f)) (h1 : Below w0.heap.size w0 u) : ∀ b ∈ bl, ∃ c e f, u.heap[b]? = some (.cells c e f) := fun b hb => by
  obtain ⟨c, e, f, hc⟩ := h b hb
  exact ⟨c, e, f, (h1.block b (Array.getElem?_eq_some_iff.1 hc).1).trans hc⟩
theorem liv_new (bv : Value) (b : List UInt8) (w : World) (hb : b.length ≤ 24000) (h0 : Below w0.heap.size w0 w) (hB : Bytes [] w0 bv b) :
    Calls Try.prog 10 #[bv] w fun e w' => ∃ g, e = .returned (.tuple #[.pointer (some ⟨g, 0, none⟩), .int .i64 0]) ∧ Liv w0 g ⟨b, 0, false, [], 0⟩ w' := by
  refine (stnew_any bv b w hb (Raw.below hB h0)).mono ?_
  rintro e w' ⟨g, h, iv, rfl, h1, h2⟩
  exact ⟨g, rfl, h0.trans (h2.mono h0.size), _, h, iv, _, h0.size, h1⟩
theorem liv_begin (bv : Value) (b : List UInt8) (H : Liv w0 g s w) (hb : b.length ≤ 24000) (hB : Bytes [] w0 bv b) :
    Calls Try.prog 11 #[.pointer (some ⟨g, 0, none⟩), bv] w fun e w' => e = .returned (.tuple #[.int .i64 (psBegin s b).2.1, .int .i64 (psBegin s b).2.2]) ∧ Liv w0 g (psBegin s b).1 w' := by
  obtain ⟨h1, base, h, iv, rv, h2, h3⟩ := H
  obtain ⟨imv, nxv, chv, rz, rs, h4⟩ := h3
  have h3 : StAt w base g h iv rv s := ⟨imv, nxv, chv, rz, rs, h4⟩
  unfold psBegin
  by_cases hi : s.inst = true
  · rw [if_pos hi]
    refine (stbegin_no bv w h3 hi).mono ?_
    rintro e w' ⟨rfl, rfl⟩
    exact ⟨rfl, h1, base, h, iv, rv, h2, h3⟩
  · rw [if_neg hi]
    have hB' : Bytes (g :: LogF h iv rv) w bv b := Raw.keep (F' := g :: LogF h iv rv) hB (Keep.of_below' (F := []) h1) (fun f hf => by cases hf) (fun f hf => .inr (Nat.le_trans h2 (h4.fbase f hf).1))
    refine (stbegin_yes bv b w h3 (by simpa using hi) hb hB').mono ?_
    rintro e w' ⟨rfl, hQ⟩
    exact ⟨rfl, Liv.moved h1 h2 h3 hQ⟩
theorem liv_step (H : Liv w0 g s w) :
    Calls Try.prog 13 #[.pointer (some ⟨g, 0, none⟩)] w fun e w' => e = .returned (.tuple #[.int .i64 (psStep s).2.1, .int .i64 (psStep s).2.2]) ∧ Liv w0 g (psStep s).1 w' := by
  have hG := H.good
  obtain ⟨h1, base, h, iv, rv, h2, h3⟩ := H
  unfold psStep
  by_cases hno : s.inst = false ∨ s.done = s.steps
  · rw [if_pos hno]
    refine (ststep_no w h3 hno).mono ?_
    rintro e w' ⟨rfl, hQ⟩
    exact ⟨rfl, Liv.moved h1 h2 h3 hQ⟩
  · rw [if_neg hno]
    have hi : s.inst = true := by cases h : s.inst <;> simp_all
    have hd : s.done < s.steps := by have := hG.dl; have : s.done ≠ s.steps := fun e => hno (.inr e); omega
    have key : Calls Try.prog 13 #[.pointer (some ⟨g, 0, none⟩)] w fun e w' => e = .returned (.tuple #[.int .i64 ((s.steps - (s.done + 1) : Nat)), .int .i64 0]) ∧ StQ w base g h iv rv (stepped s) w' := by
      by_cases hz : rzn s.image s.next ≤ s.done
      · exact ststep_page w h3 hi hd hz
      · have hz1 : rzb s.image s.next = true := by
          rw [rzn_of] at hz
          cases h : rzb s.image s.next <;> simp_all
        exact ststep_size w h3 hi hd hz1 (by rw [rzn_of, hz1] at hz; simp at hz; omega)
    refine key.mono ?_
    rintro e w' ⟨rfl, hQ⟩
    exact ⟨rfl, Liv.moved h1 h2 h3 hQ⟩
theorem liv_commit (H : Liv w0 g s w) (hv : s.ver < 1000000) :
    Calls Try.prog 17 #[.pointer (some ⟨g, 0, none⟩)] w fun e w' => e = .returned (.int .i64 (psCommit s).2) ∧ Liv w0 g (psCommit s).1 w' := by
  have hG := H.good
  obtain ⟨h1, base, h, iv, rv, h2, h3⟩ := H
  unfold psCommit
  by_cases hno : s.inst = false ∨ s.done < s.steps
  · rw [if_pos hno]
    refine (stcommit_no w h3 hno).mono ?_
    rintro e w' ⟨rfl, hQ⟩
    exact ⟨rfl, Liv.moved h1 h2 h3 hQ⟩
  · rw [if_neg hno]
    have hi : s.inst = true := by cases h : s.inst <;> simp_all
    have hd : s.done = s.steps := by have := hG.dl; have : ¬ s.done < s.steps := fun e => hno (.inr e); omega
    refine (stcommit_yes w h3 hi hd hv).mono ?_
    rintro e w' ⟨rfl, hQ⟩
    exact ⟨rfl, Liv.moved h1 h2 h3 hQ⟩
theorem liv_abort (H : Liv w0 g s w) :
    Calls Try.prog 22 #[.pointer (some ⟨g, 0, none⟩)] w fun e w' => e = .returned (.int .i64 (psAbort s).2) ∧ Liv w0 g (psAbort s).1 w' := by
  obtain ⟨h1, base, h, iv, rv, h2, h3⟩ := H
  unfold psAbort
  by_cases hno : s.inst = false
  · rw [if_pos hno]
    refine (stabort_no w h3 hno).mono ?_
    rintro e w' ⟨rfl, rfl⟩
    exact ⟨rfl, h1, base, h, iv, rv, h2, h3⟩
  · rw [if_neg hno]
    refine (stabort_yes w h3 (by simpa using hno)).mono ?_
    rintro e w' ⟨rfl, hQ⟩
    exact ⟨rfl, Liv.moved h1 h2 h3 hQ⟩
theorem liv_inst (H : Liv w0 g s w) : Calls Try.prog 21 #[.pointer (some ⟨g, 0, none⟩)] w fun e w' => e = .returned (.bool s.inst) ∧ w = w' := by
  obtain ⟨h1, base, h, iv, rv, h2, h3⟩ := H
  exact inst_any w h3
theorem liv_ver (H : Liv w0 g s w) : Calls Try.prog 18 #[.pointer (some ⟨g, 0, none⟩)] w fun e w' => e = .returned (.int .i64 s.ver) ∧ w = w' := by
  obtain ⟨h1, base, h, iv, rv, h2, h3⟩ := H
  exact ver_any w h3
theorem liv_sum (H : Liv w0 g s w) : Calls Try.prog 19 #[.pointer (some ⟨g, 0, none⟩)] w fun e w' => e = .returned (.int .u64 (sumOf s.image)) ∧ w = w' := by
  obtain ⟨h1, base, h, iv, rv, h2, h3⟩ := H
  exact sum_any w h3
theorem liv_img (H : Liv w0 g s w) :
    Calls Try.prog 16 #[.pointer (some ⟨g, 0, none⟩)] w fun e w' => ∃ a c, e = .returned (.slice a s.image.length c) ∧ w'.ownsRow w.heap.size 5 1 (.slice a s.image.length c) s.image.length (bytesV s.image) ∧ Liv w0 g s w' := by
  obtain ⟨h1, base, h, iv, rv, h2, h3⟩ := H
  refine (img_any w h3).mono ?_
  rintro e w' ⟨v, rfl, ho, hb⟩
  obtain ⟨a, c, rfl⟩ := own_slice ho
  exact ⟨a, c, rfl, ho, Liv.below ⟨h1, base, h, iv, rv, h2, h3⟩ hb⟩
theorem liv_work (H : Liv w0 g s w) :
    Calls Try.prog 12 #[.pointer (some ⟨g, 0, none⟩)] w fun e w' => ∃ a c, e = .returned (.slice a s.work.length c) ∧ w'.ownsRow w.heap.size 5 1 (.slice a s.work.length c) s.work.length (bytesV s.work) ∧ Liv w0 g s w' := by
  obtain ⟨h1, base, h, iv, rv, h2, h3⟩ := H
  refine (work_any w h3).mono ?_
  rintro e w' ⟨v, rfl, ho, hb⟩
  obtain ⟨a, c, rfl⟩ := own_slice ho
  exact ⟨a, c, rfl, ho, Liv.below ⟨h1, base, h, iv, rv, h2, h3⟩ hb⟩
end Go.Proofs.Ytnbngidelpodkaa
