/- names: what decoding took is what encoding gives; images tell states apart -/
import Derived.Test.YtfgbkfifiioeiaaNl
namespace Go.Nm
open Go Go.RowKit Go.Bs Go.Cl Go.Rw Go.Wi
theorem rI_out {b : List UInt8} {s : Nat × Bool} {n : Int} {p : Nat} (h : rI b s = (n, p, false)) : s.2 = false ∧ b.drop s.1 = encI n ++ b.drop p := by
  unfold rI at h
  split at h
  · rename_i h1
    injection h with h2 h3
    rw [h3] at h1; cases h1
  rename_i h1
  split at h
  · rename_i x m hm
    obtain ⟨_, rfl, t, ht⟩ := rdI_out hm
    injection h with h2 h3
    injection h3 with h3 _
    subst h2 h3
    refine ⟨by simpa using h1, ?_⟩
    rw [← List.drop_drop, ht, List.drop_left]
  · injection h with _ h3
    injection h3 with _ h3
    cases h3
theorem rB_out {b : List UInt8} {lo hi : Int} {s : Nat × Bool} {n : Int} {p : Nat} (h : rB b lo hi s = (n, p, false)) : s.2 = false ∧ lo ≤ n ∧ n ≤ hi ∧ b.drop s.1 = encI n ++ b.drop p := by
  unfold rB at h
  split at h
  · rename_i h1
    injection h with h2 h3
    rw [h3] at h1; cases h1
  rename_i h1
  split at h
  · rename_i x m hm
    obtain ⟨hm, l1, l2⟩ := rdB_some hm
    obtain ⟨_, rfl, t, ht⟩ := rdI_out hm
    injection h with h2 h3
    injection h3 with h3 _
    subst h2 h3
    refine ⟨by simpa using h1, l1, l2, ?_⟩
    rw [← List.drop_drop, ht, List.drop_left]
  · injection h with _ h3
    injection h3 with _ h3
    cases h3
theorem rY_out {b : List UInt8} {most : Int} {s : Nat × Bool} {x : List UInt8} {p : Nat} (h : rY b most s = (x, p, false)) : s.2 = false ∧ b.drop s.1 = encB x ++ b.drop p := by
  unfold rY at h
  split at h
  · rename_i h1
    injection h with h2 h3
    rw [h3] at h1; cases h1
  rename_i h1
  split at h
  · rename_i y m hm
    injection h with h2 h3
    injection h3 with h3 _
    subst h2 h3
    refine ⟨by simpa using h1, ?_⟩
    unfold rdY at hm
    split at hm
    · rename_i k j hk
      obtain ⟨hk, l1, _⟩ := rdB_some hk
      obtain ⟨_, rfl, t, ht⟩ := rdI_out hk
      split at hm
      · rename_i hfit
        injection hm with hm
        injection hm with h1 h2
        subst h2
        have hlen : y.length = k.toNat := by rw [← h1]; simp; omega
        have e0 : b.drop (s.1 + (encI k).length) = t := by rw [← List.drop_drop, ht, List.drop_left]
        have e1 : y = t.take k.toNat := by
          rw [← h1, ← e0, List.drop_take]
          congr 1
          omega
        have e2 : b.drop (s.1 + ((encI k).length + k.toNat)) = t.drop k.toNat := by rw [← e0, List.drop_drop]; congr 1; omega
        rw [ht, e2, encB, hlen, Int.toNat_of_nonneg l1, List.append_assoc]
        congr 1
        rw [e1, List.take_append_drop]
      · cases hm
    · cases hm
  · injection h with _ h3
    injection h3 with _ h3
    cases h3
theorem decN_out (b : List UInt8) : ∀ (n : Nat) (s : Nat × Bool) (acc r : List Nm) (q : Nat), decN b n s acc = (r, q, false) → s.2 = false ∧ ∃ l : List Nm, r = acc ++ l ∧ l.length = n ∧ b.drop s.1 = l.flatMap encX ++ b.drop q
  | 0, s, acc, r, q, h => by
    obtain ⟨s1, s2⟩ := s
    injection h with h1 h2
    injection h2 with h2 h3
    subst h1 h2 h3
    exact ⟨rfl, [], by simp, rfl, by simp⟩
  | n + 1, s, acc, r, q, h => by
    rw [decN_succ] at h
    obtain ⟨h1, l, rfl, hl, hb⟩ := decN_out b n _ _ r q h
    obtain ⟨y, hy⟩ : ∃ y, rY b 14 s = y := ⟨_, rfl⟩
    rw [hy] at h1 hb ⊢
    obtain ⟨x, s1⟩ := y
    obtain ⟨z, hz⟩ : ∃ z, rI b s1 = z := ⟨_, rfl⟩
    simp only at h1 hb ⊢
    rw [hz] at h1 hb ⊢
    obtain ⟨v, p, f⟩ := z
    simp only at h1 hb ⊢
    subst h1
    obtain ⟨h2, h3⟩ := rI_out hz
    obtain ⟨a, f⟩ := s1
    simp only at h2 h3
    subst h2
    obtain ⟨h4, h5⟩ := rY_out hy
    refine ⟨h4, ⟨x, v⟩ :: l, by simp, by simp [hl], ?_⟩
    rw [h5, h3, hb]
    simp [encX]
/-- a state that was read has the bytes as its image -/
theorem enc_dec {b : List UInt8} (h : (decL b).2 = 0) : encV (decL b).1 = b ∧ validN (decL b).1 = true := by
  unfold decL at h ⊢
  simp only at h ⊢
  obtain ⟨r, hr⟩ : ∃ r, rB b 0 40 (0, false) = r := ⟨_, rfl⟩
  rw [hr] at h ⊢
  obtain ⟨n, s⟩ := r
  obtain ⟨d, hd⟩ : ∃ d, decN b n.toNat s [] = d := ⟨_, rfl⟩
  simp only at h ⊢
  rw [hd] at h ⊢
  split at h
  · rename_i hc
    rw [if_pos hc]
    rw [Bool.and_eq_true, decide_eq_true_eq] at hc
    obtain ⟨l, q, f⟩ := d
    have he := hc.1
    unfold rEnd at he
    simp only at he
    split at he
    · cases he
    · rename_i hq
      simp only [Bool.or_eq_true, decide_eq_true_eq, not_or, Bool.not_eq_true] at hq
      obtain ⟨rfl, hq⟩ := hq
      obtain ⟨h1, l', hll, hl, hb⟩ := decN_out b _ _ _ _ _ hd
      rw [List.nil_append] at hll
      subst hll
      obtain ⟨p, f⟩ := s
      simp only at h1 hb
      subst h1
      obtain ⟨_, l1, _, h0⟩ := rB_out hr
      refine ⟨?_, hc.2⟩
      have e : (l.length : Int) = n := by omega
      simp only [List.nil_append, List.drop_zero] at h0 ⊢
      rw [encV, e, h0, hb, List.drop_eq_nil_of_le (by omega), List.append_nil]
  · cases h
theorem encI_inj {a c : Int} (ha : fits a) (hc : fits c) {x y : List UInt8} (h : encI a ++ x = encI c ++ y) : a = c ∧ x = y := by
  have h1 := rdI_enc (b := encI a ++ x) (at_ := 0) ha rfl
  have h2 := rdI_enc (b := encI a ++ x) (at_ := 0) (t := y) hc (by rw [h]; rfl)
  rw [h1] at h2
  injection h2 with h2
  injection h2 with h2 _
  subst h2
  exact ⟨rfl, List.append_cancel_left h⟩
theorem encX_inj {a c : Nm} (ha : fitsN a) (hc : fitsN c) {x y : List UInt8} (h : encX a ++ x = encX c ++ y) : a = c ∧ x = y := by
  obtain ⟨a1, a2⟩ := a
  obtain ⟨c1, c2⟩ := c
  obtain ⟨ha1, ha2⟩ := ha
  obtain ⟨hc1, hc2⟩ := hc
  simp only [encX, encB, List.append_assoc] at h ha1 hc1
  obtain ⟨h1, h2⟩ := encI_inj (by unfold Wi.fits; omega) (by unfold Wi.fits; omega) h
  obtain ⟨h3, h4⟩ := List.append_inj h2 (by omega)
  obtain ⟨h5, h6⟩ := encI_inj ha2 hc2 h4
  simp only at h3 h5
  subst h3 h5
  exact ⟨rfl, h6⟩
theorem flat_inj : ∀ {l m : List Nm}, (∀ x ∈ l, fitsN x) → (∀ x ∈ m, fitsN x) → l.length = m.length → l.flatMap encX = m.flatMap encX → l = m
  | [], [], _, _, _, _ => rfl
  | [], _ :: _, _, _, h, _ => by simp at h
  | _ :: _, [], _, _, h, _ => by simp at h
  | a :: l, c :: m, ha, hc, h, e => by
    simp only [List.flatMap_cons] at e
    obtain ⟨rfl, e2⟩ := encX_inj (ha _ (by simp)) (hc _ (by simp)) e
    rw [flat_inj (fun x hx => ha x (by simp [hx])) (fun x hx => hc x (by simp [hx])) (by simpa using h) e2]
theorem encV_inj {l m : List Nm} (hl : ∀ x ∈ l, fitsN x) (hm : ∀ x ∈ m, fitsN x) (h1 : l.length ≤ 1000) (h2 : m.length ≤ 1000) (h : encV l = encV m) : l = m := by
  unfold encV at h
  obtain ⟨e1, e2⟩ := encI_inj (by unfold Wi.fits; omega) (by unfold Wi.fits; omega) h
  exact flat_inj hl hm (by omega) e2
theorem dec_cases (b : List UInt8) : (decL b).2 = 0 ∨ decL b = ([], 4) := by
  unfold decL
  simp only
  split
  · exact .inl rfl
  · exact .inr rfl
/-- the image of a state that is not valid is none -/
theorem dec_bad {l : List Nm} (hf : ∀ x ∈ l, fitsN x) (hl : l.length ≤ 1000) (hv : validN l = false) : decL (encV l) = ([], 4) := by
  rcases dec_cases (encV l) with h | h
  · exfalso
    obtain ⟨h1, h2⟩ := enc_dec h
    have h3 := encV_inj (valid_fits h2) hf (by have := validN_len h2; omega) hl h1
    rw [h3, hv] at h2
    cases h2
  · exact h
end Go.Nm
