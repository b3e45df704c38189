/- Space: what the pieces of a range are -/
import Derived.Test.YtlomhelcphhinaaSa
namespace Go.Sp
open Go Go.RowKit Go.Bs
def pc (L : List Pc) (k : Nat) : Pc := L.getD k ⟨0, 0, 0, 0⟩
theorem pc_get {l : List Pc} {i : Nat} (h : i < l.length) : l[i]? = some (pc l i) := by simp [pc, h]
def sumN : List Pc → Int
  | [] => 0
  | x :: r => x.n + sumN r
theorem sumN_append : ∀ (l r : List Pc), sumN (l ++ r) = sumN l + sumN r
  | [], r => by simp [sumN]
  | x :: l, r => by simp [sumN, sumN_append l r]; omega
theorem pc_left {l : List Pc} {x : Pc} {i : Nat} (h : i < l.length) : pc (l ++ [x]) i = pc l i := by
  simp [pc, List.getElem?_append_left h, h]
theorem pc_last {l : List Pc} {x : Pc} : pc (l ++ [x]) l.length = x := by simp [pc]
structure Good (l : List Ent) (wb : Bool) (a0 : Int) (acc : List Pc) (a n : Int) : Prop where
  each : ∀ i, i < acc.length → tlate l (pc acc i).page wb = ((pc acc i).frame, 0) ∧ 1 ≤ (pc acc i).n ∧ 0 ≤ (pc acc i).fr ∧ (pc acc i).fr + (pc acc i).n ≤ 128 ∧ (pc acc i).page * 128 + (pc acc i).fr = a0 + sumN (acc.take i)
  sum : a = a0 + sumN acc
  next : ∀ i, 0 < i → i < acc.length → (pc acc i).fr = 0 ∧ (pc acc i).page = (pc acc (i - 1)).page + 1
  open_ : 0 < acc.length → 0 < n → a % 128 = 0 ∧ a / 128 = (pc acc (acc.length - 1)).page + 1
theorem Good.start (l : List Ent) (wb : Bool) (a n : Int) : Good l wb a [] a n :=
  ⟨fun i h => by simp at h, by simp [sumN], fun i _ h => by simp at h, fun h => by simp at h⟩
theorem Good.step {l : List Ent} {wb : Bool} {a0 : Int} {acc : List Pc} {a n fr : Int} (h : Good l wb a0 acc a n) (hn : 0 < n) (ht : tlate l (a / 128) wb = (fr, 0)) :
    Good l wb a0 (acc ++ [⟨a / 128, fr, a % 128, chunk a n⟩]) (a + chunk a n) (n - chunk a n) := by
  have hc : 1 ≤ chunk a n ∧ chunk a n ≤ n ∧ chunk a n ≤ 128 - a % 128 ∧ (chunk a n = n ∨ chunk a n = 128 - a % 128) := by unfold chunk; split <;> omega
  refine ⟨fun i hi => ?_, ?_, fun i h0 hi => ?_, fun _ hpos => ?_⟩
  · by_cases hil : i < acc.length
    · rw [pc_left hil, List.take_append_of_le_length (by omega)]
      exact h.each i hil
    · have : i = acc.length := by simp at hi; omega
      subst this
      rw [pc_last]
      have h1 := h.sum
      simp
      exact ⟨ht, by omega, by omega, by omega, by omega⟩
  · rw [sumN_append]; have := h.sum; simp [sumN]; omega
  · by_cases hil : i < acc.length
    · rw [pc_left hil, pc_left (by omega)]
      exact h.next i h0 hil
    · have : i = acc.length := by simp at hi; omega
      subst this
      rw [pc_last, pc_left (by omega)]
      have := h.open_ h0 hn
      exact ⟨this.1, this.2⟩
  · simp only [List.length_append, List.length_cons, List.length_nil, Nat.zero_add, Nat.add_sub_cancel]
    rw [pc_last]
    simp
    omega
theorem pcs_good {l : List Ent} {wb : Bool} {a0 : Int} : ∀ (fuel : Nat) (a n : Int) (acc : List Pc), n ≤ fuel → 0 ≤ n → Good l wb a0 acc a n → (pcs l wb fuel a n acc).2.2 = 0 →
    Good l wb a0 (pcs l wb fuel a n acc).1 (a + n) 0
  | 0, a, n, acc, hf, h0, hg, _ => by
    have : n = 0 := by simp at hf; omega
    subst this
    simpa [pcs] using hg
  | fuel + 1, a, n, acc, hf, h0, hg, he => by
    unfold pcs at he ⊢
    by_cases hn : n ≤ 0
    · have : n = 0 := by omega
      subst this
      simpa using hg
    · rw [if_neg hn] at he ⊢
      by_cases ht : (tlate l (a / 128) wb).2 ≠ 0
      · rw [if_pos ht] at he; exact absurd he ht
      · rw [if_neg ht] at he ⊢
        have hc : 1 ≤ chunk a n ∧ chunk a n ≤ n := by unfold chunk; split <;> omega
        have ht' : tlate l (a / 128) wb = ((tlate l (a / 128) wb).1, 0) := by
          have : (tlate l (a / 128) wb).2 = 0 := by simpa using ht
          rw [← this]
        have hg' := hg.step (by omega) ht'
        have := pcs_good fuel (a + chunk a n) (n - chunk a n) _ (by omega) (by omega) hg' he
        have e : a + chunk a n + (n - chunk a n) = a + n := by omega
        rw [e] at this
        exact this
theorem pcs_err {l : List Ent} {wb : Bool} : ∀ (fuel : Nat) (a n : Int) (acc : List Pc), (pcs l wb fuel a n acc).2.2 ≠ 0 → (pcs l wb fuel a n acc).1 = []
  | 0, a, n, acc, h => by simp [pcs] at h
  | fuel + 1, a, n, acc, h => by
    unfold pcs at h ⊢
    by_cases hn : n ≤ 0
    · rw [if_pos hn] at h; simp at h
    · rw [if_neg hn] at h ⊢
      by_cases ht : (tlate l (a / 128) wb).2 ≠ 0
      · rw [if_pos ht]
      · rw [if_neg ht] at h ⊢
        exact pcs_err fuel _ _ _ h
theorem pieces_err {l : List Ent} {a n : Int} {wb : Bool} (h : (pieces l a n wb).2.2 ≠ 0) : (pieces l a n wb).1 = [] := by
  unfold pieces at *
  split
  · split
    · rfl
    · rename_i h1 h2; rw [if_pos h1, if_neg h2] at h; exact pcs_err _ _ _ _ h
  · rfl
theorem pieces_good {l : List Ent} {a n : Int} {wb : Bool} (h : (pieces l a n wb).2.2 = 0) : validB l = true ∧ 0 ≤ a ∧ 0 ≤ n ∧ a + n ≤ 4096 ∧ Good l wb a (pieces l a n wb).1 (a + n) 0 := by
  unfold pieces at *
  by_cases h1 : validB l = true
  · rw [if_pos h1] at h ⊢
    by_cases h2 : (decide (a < 0) || decide (n < 0) || decide (4096 < a) || decide (4096 - a < n)) = true
    · rw [if_pos h2] at h; simp at h
    · rw [if_neg h2] at h ⊢
      simp at h2
      exact ⟨h1, by omega, by omega, by omega, pcs_good _ _ _ _ (by omega) (by omega) (Good.start _ _ _ _) h⟩
  · rw [if_neg h1] at h; simp at h
theorem sumN_take_le {L : List Pc} (h : ∀ i, i < L.length → 1 ≤ (pc L i).n) : ∀ k, k ≤ L.length → (k : Int) ≤ sumN (L.take k)
  | 0, _ => by simp [sumN]
  | k + 1, hk => by
    have := sumN_take_le h k (by omega)
    rw [List.take_add_one, pc_get (by omega)]
    rw [sumN_append]
    have := h k (by omega)
    simp [sumN]; omega
theorem sumN_take_succ {L : List Pc} {k : Nat} (hk : k < L.length) : sumN (L.take (k + 1)) = sumN (L.take k) + (pc L k).n := by
  rw [List.take_add_one, pc_get hk, sumN_append]; simp [sumN]
theorem sumN_take_mono {L : List Pc} (h : ∀ i, i < L.length → 1 ≤ (pc L i).n) {k : Nat} : ∀ j, k + j ≤ L.length → sumN (L.take k) ≤ sumN (L.take (k + j))
  | 0, _ => by simp
  | j + 1, hj => by
    have := sumN_take_mono h (k := k) j (by omega)
    have h2 := sumN_take_succ (show k + j < L.length by omega)
    have := h (k + j) (by omega)
    show _ ≤ sumN (L.take (k + j + 1))
    omega
/-- a list of pieces at (g, 0) -/
def PcsAt (w : World) (g : Nat) (L : List Pc) : Prop :=
  ∀ i, i < L.length → w.cell? ⟨g, i * 4, none⟩ = some (.int .i64 (pc L i).page) ∧ w.cell? ⟨g, i * 4 + 1, none⟩ = some (.int .i64 (pc L i).frame) ∧ w.cell? ⟨g, i * 4 + 2, none⟩ = some (.int .i64 (pc L i).fr) ∧ w.cell? ⟨g, i * 4 + 3, none⟩ = some (.int .i64 (pc L i).n)
theorem PcsAt.of_own {w : World} {base e g cap : Nat} {L : List Pc} (h : w.ownsRow base e 4 (.slice (some ⟨g, 0, none⟩) L.length cap) L.length (L.flatMap encP)) : PcsAt w g L := fun i hi => by
  have key : ∀ j, j < 4 → ∀ u, (encP (pc L i))[j]? = some u → w.cell? ⟨g, i * 4 + j, none⟩ = some u := fun j hj u hu =>
    own_cell h rfl ((flat_get encP encP_len L i j (pc L i) (pc_get hi) hj).trans hu)
  exact ⟨key 0 (by omega) _ rfl, key 1 (by omega) _ rfl, key 2 (by omega) _ rfl, key 3 (by omega) _ rfl⟩
end Go.Sp
