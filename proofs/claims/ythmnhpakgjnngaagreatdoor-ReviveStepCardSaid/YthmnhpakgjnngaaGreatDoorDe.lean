/- Detect: plain: sorted lists without doubles -/
import Derived.Test.YthmnhpakgjnngaaGreatDoorDd
namespace Go.Dt
open Go Go.Lib
theorem srt_ext : ∀ {a b : List Int}, a.Pairwise (· < ·) → b.Pairwise (· < ·) → (∀ x, x ∈ a ↔ x ∈ b) → a = b
  | [], [], _, _, _ => rfl
  | [], y :: b, _, _, h => absurd ((h y).2 (by simp)) (by simp)
  | x :: a, [], _, _, h => absurd ((h x).1 (by simp)) (by simp)
  | x :: a, y :: b, ha, hb, h => by
    rw [List.pairwise_cons] at ha hb
    have hxy : x = y := by
      have h1 := (h x).1 (by simp)
      have h2 := (h y).2 (by simp)
      rw [List.mem_cons] at h1 h2
      rcases h1 with h1 | h1
      · exact h1
      · rcases h2 with h2 | h2
        · exact h2.symm
        · have := hb.1 x h1; have := ha.1 y h2; omega
    subst hxy
    rw [srt_ext ha.2 hb.2 fun z => by
      have := h z
      rw [List.mem_cons, List.mem_cons] at this
      constructor
      · intro hz
        rcases this.1 (.inr hz) with e | e
        · have := ha.1 z hz; omega
        · exact e
      · intro hz
        rcases this.2 (.inr hz) with e | e
        · have := hb.1 z hz; omega
        · exact e]
theorem at! {zs : List Int} {j : Nat} (h : j < zs.length) : zs.toArray[j]! = zs[j] := by
  rw [getElem!_pos _ j (by simpa using h)]; simp
theorem compact_inv (zs : List Int) (hs : zs.Pairwise (· ≤ ·)) : ∀ m, m ≤ zs.length → (compactUpTo zs.toArray m).Pairwise (· < ·) ∧ ∀ x, x ∈ compactUpTo zs.toArray m ↔ ∃ j, ∃ h : j < zs.length, j < m ∧ zs[j] = x
  | 0, _ => ⟨by simp [compactUpTo], fun x => by simp [compactUpTo]⟩
  | m + 1, hm => by
    obtain ⟨h1, h2⟩ := compact_inv zs hs m (by omega)
    rw [compactUpTo_succ]
    by_cases hk : keeps zs.toArray m = true
    · rw [if_pos hk]
      refine ⟨List.pairwise_append.2 ⟨h1, by simp, fun x hx y hy => ?_⟩, fun x => ?_⟩
      · rw [List.mem_singleton] at hy
        obtain ⟨j, hj, hjm, rfl⟩ := (h2 x).1 hx
        rw [at! (by omega)] at hy
        rw [hy]
        have hm0 : m ≠ 0 := by omega
        have hne : zs[m] ≠ zs[m - 1] := by
          have := hk
          simp only [keeps, decide_eq_true_eq] at this
          rcases this with h | h
          · exact absurd h hm0
          · rwa [at! (by omega), at! (by omega)] at h
        have hle : zs[m - 1] ≤ zs[m] := List.pairwise_iff_getElem.1 hs (m - 1) m (by omega) (by omega) (by omega)
        have hle2 : zs[j] ≤ zs[m - 1] := by
          by_cases e : j = m - 1
          · subst e; exact Int.le_refl _
          · exact List.pairwise_iff_getElem.1 hs j (m - 1) (by omega) (by omega) (by omega)
        omega
      · rw [List.mem_append, h2, List.mem_singleton, at! (by omega)]
        constructor
        · rintro (⟨j, hj, hjm, rfl⟩ | rfl)
          · exact ⟨j, hj, by omega, rfl⟩
          · exact ⟨m, by omega, by omega, rfl⟩
        · rintro ⟨j, hj, hjm, rfl⟩
          by_cases e : j = m
          · subst e; exact .inr rfl
          · exact .inl ⟨j, hj, by omega, rfl⟩
    · rw [if_neg hk, List.append_nil]
      refine ⟨h1, fun x => ?_⟩
      rw [h2]
      constructor
      · rintro ⟨j, hj, hjm, rfl⟩
        exact ⟨j, hj, by omega, rfl⟩
      · rintro ⟨j, hj, hjm, rfl⟩
        by_cases e : j = m
        · subst e
          have hk' := hk
          simp only [keeps, decide_eq_true_eq, not_or, Classical.not_not] at hk'
          refine ⟨j - 1, by omega, by omega, ?_⟩
          have := hk'.2
          rw [at! (by omega), at! (by omega)] at this
          exact this.symm
        · exact ⟨j, hj, by omega, rfl⟩
theorem sorted_le (l : List Int) : (l.mergeSort fun x y => decide (x ≤ y)).Pairwise (· ≤ ·) := by
  have := List.pairwise_mergeSort (le := fun x y : Int => decide (x ≤ y)) (fun a b c h1 h2 => by simp at *; omega) (fun a b => by simp; omega) l
  exact this.imp fun h => by simpa using h
theorem once_srt (l : List Int) : (once l).Pairwise (· < ·) := (compact_inv _ (sorted_le l) _ (Nat.le_refl _)).1
theorem once_mem {l : List Int} {x : Int} : x ∈ once l ↔ x ∈ l := by
  unfold once compact
  rw [(compact_inv _ (sorted_le l) _ (Nat.le_refl _)).2]
  constructor
  · rintro ⟨j, hj, _, rfl⟩
    exact List.mem_mergeSort.1 (List.getElem_mem hj)
  · intro h
    obtain ⟨j, hj, he⟩ := List.getElem_of_mem (List.mem_mergeSort.2 h)
    exact ⟨j, hj, hj, he⟩
theorem once_len {l : List Int} : (once l).length ≤ l.length := by
  have := List.length_mergeSort (le := fun x y : Int => decide (x ≤ y)) l
  have h2 : (once l).length ≤ (l.mergeSort fun x y => decide (x ≤ y)).length := by
    unfold once compact compactUpTo
    rw [List.length_map]
    exact Nat.le_trans (List.length_filter_le _ _) (by simp)
  omega
theorem once_self {l : List Int} (h : l.Pairwise (· < ·)) : once l = l := srt_ext (once_srt l) h fun _ => once_mem
theorem once_ok {r : Int} {l : List Int} (h0 : 0 < r) (h1 : r ≤ 1000000000) (hp : ∀ x ∈ l, 1 ≤ x ∧ x < 32) : OkB r (once l) :=
  ⟨fun x hx => hp x (once_mem.1 hx), once_srt l, by omega, h1, .inl h0⟩
theorem less_mem {l : List Int} {x y : Int} : y ∈ less l x ↔ y ∈ l ∧ y ≠ x := by simp [less]
theorem OkB.start : OkB 0 [] where
  pr := fun _ hx => absurd hx (by simp)
  srt := List.Pairwise.nil
  r0 := by omega
  r1 := by omega
  z := Or.inr rfl
end Go.Dt
