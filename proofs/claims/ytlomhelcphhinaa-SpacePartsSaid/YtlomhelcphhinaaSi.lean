/- Space: the pieces of two parts -/
import Derived.Test.YtlomhelcphhinaaSe
namespace Go.Sp
open Go Go.RowKit Go.Bs
/-- the pieces, or none where a page fails -/
def sp (l : List Ent) (wb : Bool) : Nat → Int → Int → Option (List Pc)
  | 0, _, _ => some []
  | fuel + 1, a, n => if n ≤ 0 then some [] else if (tlate l (a / 128) wb).2 ≠ 0 then none else
      (sp l wb fuel (a + chunk a n) (n - chunk a n)).map (⟨a / 128, (tlate l (a / 128) wb).1, a % 128, chunk a n⟩ :: ·)
theorem sp_pcs {l : List Ent} {wb : Bool} : ∀ (fuel : Nat) (a n : Int) (acc : List Pc),
    (∀ L, sp l wb fuel a n = some L → (pcs l wb fuel a n acc).2.2 = 0 ∧ (pcs l wb fuel a n acc).1 = acc ++ L) ∧ (sp l wb fuel a n = none → (pcs l wb fuel a n acc).2.2 ≠ 0)
  | 0, a, n, acc => ⟨fun L h => by simp [sp] at h; subst h; simp [pcs], fun h => by simp [sp] at h⟩
  | fuel + 1, a, n, acc => by
    unfold sp pcs
    by_cases hn : n ≤ 0
    · rw [if_pos hn, if_pos hn]
      exact ⟨fun L h => by simp at h; subst h; simp, fun h => by simp at h⟩
    · rw [if_neg hn, if_neg hn]
      by_cases ht : (tlate l (a / 128) wb).2 ≠ 0
      · rw [if_pos ht, if_pos ht]
        exact ⟨fun L h => by simp at h, fun _ => ht⟩
      · rw [if_neg ht, if_neg ht]
        obtain ⟨h1, h2⟩ := sp_pcs (l := l) (wb := wb) fuel (a + chunk a n) (n - chunk a n) (acc ++ [⟨a / 128, (tlate l (a / 128) wb).1, a % 128, chunk a n⟩])
        refine ⟨fun L h => ?_, fun h => ?_⟩
        · cases hs : sp l wb fuel (a + chunk a n) (n - chunk a n) with
          | none => rw [hs] at h; simp at h
          | some M =>
            rw [hs] at h
            simp at h
            subst h
            obtain ⟨g1, g2⟩ := h1 M hs
            exact ⟨g1, by rw [g2]; simp⟩
        · cases hs : sp l wb fuel (a + chunk a n) (n - chunk a n) with
          | none => exact h2 hs
          | some M => rw [hs] at h; simp at h
theorem chunk_pos {a n : Int} (h : 0 < n) : 1 ≤ chunk a n ∧ chunk a n ≤ n := by unfold chunk; split <;> omega
theorem sp_fuel {l : List Ent} {wb : Bool} : ∀ (f g : Nat) (a n : Int), n ≤ f → n ≤ g → sp l wb f a n = sp l wb g a n
  | 0, 0, _, _, _, _ => rfl
  | 0, g + 1, a, n, hf, _ => by unfold sp; rw [if_pos (by simpa using hf)]
  | f + 1, 0, a, n, _, hg => by unfold sp; rw [if_pos (by simpa using hg)]
  | f + 1, g + 1, a, n, hf, hg => by
    unfold sp
    by_cases hn : n ≤ 0
    · rw [if_pos hn, if_pos hn]
    · have := chunk_pos (a := a) (show 0 < n by omega)
      rw [sp_fuel f g (a + chunk a n) (n - chunk a n) (by omega) (by omega)]
def sps (l : List Ent) (wb : Bool) (a n : Int) : Option (List Pc) := sp l wb n.toNat a n
theorem sps_nil {l : List Ent} {wb : Bool} {a n : Int} (h : n ≤ 0) : sps l wb a n = some [] := by
  unfold sps
  cases n.toNat with
  | zero => rfl
  | succ k => unfold sp; rw [if_pos h]
theorem sps_cons {l : List Ent} {wb : Bool} {a n : Int} (h : 0 < n) : sps l wb a n = if (tlate l (a / 128) wb).2 ≠ 0 then none else
    (sps l wb (a + chunk a n) (n - chunk a n)).map (⟨a / 128, (tlate l (a / 128) wb).1, a % 128, chunk a n⟩ :: ·) := by
  unfold sps
  obtain ⟨k, hk⟩ : ∃ k, n.toNat = k + 1 := ⟨n.toNat - 1, by omega⟩
  have hc := chunk_pos (a := a) h
  rw [hk]
  conv => lhs; unfold sp
  rw [if_neg (by omega), sp_fuel k (n - chunk a n).toNat (a + chunk a n) (n - chunk a n) (by omega) (by omega)]
theorem sps_head {l : List Ent} {wb : Bool} {a n : Int} {x : Pc} {L : List Pc} (h : sps l wb a n = some (x :: L)) : x.page = a / 128 := by
  by_cases hn : 0 < n
  · rw [sps_cons hn] at h
    split at h
    · cases h
    · cases hs : sps l wb (a + chunk a n) (n - chunk a n) with
      | none => rw [hs] at h; simp at h
      | some M => rw [hs] at h; simp at h; rw [← h.1]
  · rw [sps_nil (by omega)] at h; simp at h
/-- two lists, joined where two neighbours are of one page -/
def joinP : List Pc → List Pc → List Pc
  | [], b => b
  | [x], y :: b => if x.page = y.page then ⟨x.page, x.frame, x.fr, x.n + y.n⟩ :: b else x :: y :: b
  | [x], [] => [x]
  | x :: z :: a, b => x :: joinP (z :: a) b
theorem joinP_cons {x : Pc} {X Y : List Pc} (h : X = [] → ∀ y Y', Y = y :: Y' → x.page ≠ y.page) : joinP (x :: X) Y = x :: joinP X Y := by
  cases X with
  | nil =>
    cases Y with
    | nil => rfl
    | cons y Y' => simp only [joinP]; rw [if_neg (h rfl y Y' rfl)]
  | cons z X => rfl
theorem joinP_nil : ∀ X : List Pc, joinP X [] = X
  | [] => rfl
  | [_] => rfl
  | x :: z :: X => by simp [joinP, joinP_nil (z :: X)]
theorem sps_split {l : List Ent} {wb : Bool} : ∀ (k : Nat) (a n m : Int), n ≤ k → 0 ≤ m → m ≤ n →
    (∀ L, sps l wb a n = some L → ∃ X Y, sps l wb a m = some X ∧ sps l wb (a + m) (n - m) = some Y ∧ L = joinP X Y) ∧
    (sps l wb a n = none → sps l wb a m = none ∨ sps l wb (a + m) (n - m) = none) := by
  intro k
  induction k with
  | zero =>
    intro a n m hn h0 hm
    have hn' : n ≤ 0 := by simpa using hn
    rw [sps_nil hn', sps_nil (show m ≤ 0 by omega), sps_nil (show n - m ≤ 0 by omega)]
    exact ⟨fun L h => ⟨[], [], rfl, rfl, by simp at h; subst h; rfl⟩, fun h => by cases h⟩
  | succ k ih =>
    intro a n m hn h0 hm
    by_cases hn0 : n ≤ 0
    · rw [sps_nil hn0, sps_nil (show m ≤ 0 by omega), sps_nil (show n - m ≤ 0 by omega)]
      exact ⟨fun L h => ⟨[], [], rfl, rfl, by simp at h; subst h; rfl⟩, fun h => by cases h⟩
    by_cases hm0 : m ≤ 0
    · have : m = 0 := by omega
      subst this
      rw [show a + 0 = a by omega, show n - 0 = n by omega, sps_nil (n := 0) (by omega)]
      exact ⟨fun L h => ⟨[], L, rfl, h, rfl⟩, fun h => .inr h⟩
    have hcn := chunk_pos (a := a) (show 0 < n by omega)
    by_cases hr : 128 - a % 128 ≤ m
    · have c1 : chunk a n = 128 - a % 128 := by unfold chunk; split <;> omega
      have c2 : chunk a m = 128 - a % 128 := by unfold chunk; split <;> omega
      rw [sps_cons (show 0 < n by omega), sps_cons (show 0 < m by omega), c1, c2]
      by_cases ht : (tlate l (a / 128) wb).2 ≠ 0
      · rw [if_pos ht, if_pos ht]
        exact ⟨fun L h => (by cases h), fun _ => .inl rfl⟩
      · rw [if_neg ht, if_neg ht]
        obtain ⟨i1, i2⟩ := ih (a + (128 - a % 128)) (n - (128 - a % 128)) (m - (128 - a % 128)) (by omega) (by omega) (by omega)
        have ea : a + (128 - a % 128) + (m - (128 - a % 128)) = a + m := by omega
        have en : n - (128 - a % 128) - (m - (128 - a % 128)) = n - m := by omega
        rw [ea, en] at i1 i2
        refine ⟨fun L h => ?_, fun h => ?_⟩
        · cases hs : sps l wb (a + (128 - a % 128)) (n - (128 - a % 128)) with
          | none => rw [hs] at h; simp at h
          | some M =>
            rw [hs] at h
            simp at h
            obtain ⟨X, Y, hX, hY, rfl⟩ := i1 M hs
            refine ⟨_ :: X, Y, by rw [hX]; rfl, hY, ?_⟩
            rw [← h]
            refine (joinP_cons fun hXe y Y' hYe => ?_).symm
            subst hYe
            have hpg := sps_head hY
            have hm' : m - (128 - a % 128) = 0 := by
              rcases Int.lt_or_le 0 (m - (128 - a % 128)) with h' | h'
              · exfalso
                rw [sps_cons h', hXe] at hX
                split at hX
                · cases hX
                · cases hs' : sps l wb (a + (128 - a % 128) + chunk (a + (128 - a % 128)) (m - (128 - a % 128))) (m - (128 - a % 128) - chunk (a + (128 - a % 128)) (m - (128 - a % 128))) with
                  | none => rw [hs'] at hX; simp at hX
                  | some Z => rw [hs'] at hX; simp at hX
              · omega
            show a / 128 ≠ y.page
            rw [hpg]; omega
        · cases hs : sps l wb (a + (128 - a % 128)) (n - (128 - a % 128)) with
          | none =>
            rcases i2 hs with h1 | h1
            · exact .inl (by rw [h1]; rfl)
            · exact .inr h1
          | some M => rw [hs] at h; simp at h
    · have c2 : chunk a m = m := by unfold chunk; split <;> omega
      have hX : sps l wb a m = if (tlate l (a / 128) wb).2 ≠ 0 then none else some [⟨a / 128, (tlate l (a / 128) wb).1, a % 128, m⟩] := by
        rw [sps_cons (show 0 < m by omega), c2, sps_nil (show m - m ≤ 0 by omega)]; rfl
      rw [hX, sps_cons (show 0 < n by omega)]
      by_cases ht : (tlate l (a / 128) wb).2 ≠ 0
      · rw [if_pos ht, if_pos ht]
        exact ⟨fun L h => (by cases h), fun _ => .inl rfl⟩
      · rw [if_neg ht, if_neg ht]
        by_cases hnm : n = m
        · subst hnm
          rw [c2, sps_nil (show n - n ≤ 0 by omega)]
          try rw [sps_nil (show n - n ≤ 0 by omega)]
          exact ⟨fun L h => ⟨_, [], rfl, rfl, by simp at h; rw [← h]; rfl⟩, fun h => by simp at h⟩
        · have c3 : chunk (a + m) (n - m) = chunk a n - m := by
            have e1 : (a + m) % 128 = a % 128 + m := by omega
            unfold chunk
            rw [e1]
            split <;> split <;> omega
          have e2 : (a + m) / 128 = a / 128 := by omega
          have e1 : (a + m) % 128 = a % 128 + m := by omega
          rw [sps_cons (show 0 < n - m by omega), c3, e2, e1, if_neg ht]
          have ea : a + m + (chunk a n - m) = a + chunk a n := by omega
          have en : n - m - (chunk a n - m) = n - chunk a n := by omega
          rw [ea, en]
          refine ⟨fun L h => ?_, fun h => ?_⟩
          · cases hs : sps l wb (a + chunk a n) (n - chunk a n) with
            | none => rw [hs] at h; simp at h
            | some M =>
              rw [hs] at h
              simp at h
              refine ⟨_, _, rfl, rfl, ?_⟩
              rw [← h]
              simp only [joinP, if_true]
              congr 2
              omega
          · cases hs : sps l wb (a + chunk a n) (n - chunk a n) with
            | none => exact .inr rfl
            | some M => rw [hs] at h; simp at h
theorem pieces_sps {l : List Ent} {a n : Int} {wb : Bool} (hv : validB l = true) (h1 : 0 ≤ a) (h2 : 0 ≤ n) (h3 : a + n ≤ 4096) :
    (∀ L, sps l wb a n = some L → (pieces l a n wb).2.2 = 0 ∧ (pieces l a n wb).1 = L) ∧ (sps l wb a n = none → (pieces l a n wb).2.2 ≠ 0) := by
  have e : pieces l a n wb = pcs l wb n.toNat a n [] := by
    unfold pieces; rw [if_pos hv, if_neg]; simp; omega
  rw [e]
  exact sp_pcs n.toNat a n []
theorem pieces_out {l : List Ent} {a n : Int} {wb : Bool} (h : ¬ (validB l = true ∧ 0 ≤ a ∧ 0 ≤ n ∧ a + n ≤ 4096)) : (pieces l a n wb).2.2 ≠ 0 := by
  intro he
  obtain ⟨h1, h2, h3, h4, _⟩ := pieces_good he
  exact h ⟨h1, h2, h3, h4⟩
/-- P9.5 -/
theorem pieces_split (l : List Ent) (wb : Bool) (a n m : Int) (ha : 0 ≤ a) (h0 : 0 ≤ m) (hm : m ≤ n) :
    ((pieces l a n wb).2.2 ≠ 0 → (pieces l a m wb).2.2 ≠ 0 ∨ (pieces l (a + m) (n - m) wb).2.2 ≠ 0) ∧
    ((pieces l a n wb).2.2 = 0 → (pieces l a m wb).2.2 = 0 ∧ (pieces l (a + m) (n - m) wb).2.2 = 0 ∧ (pieces l a n wb).1 = joinP (pieces l a m wb).1 (pieces l (a + m) (n - m) wb).1) := by
  by_cases hin : validB l = true ∧ a + n ≤ 4096
  · obtain ⟨hv, han⟩ := hin
    obtain ⟨p1, p2⟩ := pieces_sps (wb := wb) hv ha (show 0 ≤ n by omega) han
    obtain ⟨q1, q2⟩ := pieces_sps (wb := wb) (a := a) (n := m) hv ha h0 (by omega)
    obtain ⟨r1, r2⟩ := pieces_sps (wb := wb) (a := a + m) (n := n - m) hv (by omega) (by omega) (by omega)
    obtain ⟨s1, s2⟩ := sps_split (l := l) (wb := wb) n.toNat a n m (by omega) h0 hm
    cases hs : sps l wb a n with
    | none =>
      refine ⟨fun _ => ?_, fun h => absurd h (p2 hs)⟩
      rcases s2 hs with h | h
      · exact .inl (q2 h)
      · exact .inr (r2 h)
    | some L =>
      obtain ⟨X, Y, hX, hY, hL⟩ := s1 L hs
      refine ⟨fun h => absurd (p1 L hs).1 h, fun _ => ⟨(q1 X hX).1, (r1 Y hY).1, ?_⟩⟩
      rw [(p1 L hs).2, (q1 X hX).2, (r1 Y hY).2, hL]
  · refine ⟨fun _ => .inr (pieces_out fun h => hin ⟨h.1, by omega⟩), fun h => ?_⟩
    obtain ⟨h1, _, _, h4, _⟩ := pieces_good h
    exact absurd ⟨h1, h4⟩ hin
/-- v is a slice of the pieces L: at the head of a block, or of none -/
def SlP (w : World) (v : Value) (L : List Pc) : Prop :=
  ∃ a cap, v = .slice a L.length cap ∧ L.length ≤ cap ∧ (0 < L.length → ∃ g, a = some ⟨g, 0, none⟩ ∧ g < w.heap.size ∧ PcsAt w g L)
theorem PcsAt.below {w w' : World} {g : Nat} {l : List Pc} (h : PcsAt w g l) {B : Nat} (hb : Below B w w') (hB : g < B) : PcsAt w' g l := fun i hi =>
  ⟨(hb.cell (p := ⟨g, i * 4, none⟩) hB).trans (h i hi).1, (hb.cell (p := ⟨g, i * 4 + 1, none⟩) hB).trans (h i hi).2.1, (hb.cell (p := ⟨g, i * 4 + 2, none⟩) hB).trans (h i hi).2.2.1, (hb.cell (p := ⟨g, i * 4 + 3, none⟩) hB).trans (h i hi).2.2.2⟩
theorem SlP.below {w w' : World} {v : Value} {l : List Pc} (h : SlP w v l) (hb : Below w.heap.size w w') : SlP w' v l := by
  obtain ⟨a, cap, rfl, hc, hh⟩ := h
  refine ⟨a, cap, rfl, hc, fun hl => ?_⟩
  obtain ⟨b, rfl, hlt, he⟩ := hh hl
  exact ⟨b, rfl, Nat.lt_of_lt_of_le hlt hb.size, he.below hb hlt⟩
theorem SlP.of_own {w : World} {base e : Nat} {v : Value} {l : List Pc} (h : w.ownsRow base e 4 v l.length (l.flatMap encP)) : SlP w v l := by
  rcases own_cases h with ⟨rfl, h0, _⟩ | ⟨g, cap, rfl, hb, hlt, hc⟩
  · exact ⟨none, 0, by rw [h0], by omega, fun h' => by omega⟩
  · exact ⟨_, cap, rfl, hc, fun _ => ⟨g, rfl, hlt, PcsAt.of_own h⟩⟩

end Go.Sp
