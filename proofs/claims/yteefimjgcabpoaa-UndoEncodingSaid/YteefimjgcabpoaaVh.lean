/- Undo: what was encoded decodes -/
import Derived.Test.YteefimjgcabpoaaVg
namespace Go.Un
open Go Go.RowKit Go.Bs Go.Cl Go.Rw Go.Wi
theorem rY_enc {x b p t : List UInt8} {most : Int} (hf : Wi.fits (x.length : Int)) (hm : (x.length : Int) ≤ most) (hb : b = p ++ (encB x ++ t)) : rY b most (p.length, false) = (x, (p ++ encB x).length, false) := by
  have h1 : rdI b p.length = some ((x.length : Int), (encI x.length).length) := rdI_enc hf (t := x ++ t) (by rw [hb]; simp [encB])
  have h2 : rdB b p.length 0 most = some ((x.length : Int), (encI x.length).length) := by unfold rdB; rw [h1]; simp; omega
  have e0 : b = (p ++ encI x.length ++ x) ++ t := by rw [hb]; simp [encB]
  have e1 : (b.take (p.length + (encI x.length).length + x.length)).drop (p.length + (encI x.length).length) = x := by
    rw [e0, List.take_left' (by simp; omega), List.drop_left' (by simp)]
  have e2 : p.length + (encI x.length).length + x.length ≤ b.length := by rw [e0]; simp; omega
  have h3 : rdY b p.length most = some (x, (encI x.length).length + x.length) := by
    unfold rdY; rw [h2]; simp only [Int.toNat_natCast]; rw [if_pos e2, e1]
  unfold rY
  simp only [Bool.false_eq_true, if_false, h3]
  simp [encB]
theorem rY_len (b : List UInt8) (most : Int) (s : Nat × Bool) : (rY b most s).1.length ≤ b.length := by
  unfold rY
  split
  · simp
  · unfold rdY
    cases rdB b s.1 0 most with
    | none => simp
    | some q =>
      obtain ⟨x, m⟩ := q
      simp only
      split
      · rename_i h
        split at h
        · cases h; simp; omega
        · cases h
      · simp
theorem decRN_len (b : List UInt8) : ∀ (n : Nat) (s : Nat × Bool) (acc : List Rec), (decRN b n s acc).1.length = acc.length + n
  | 0, _, _ => rfl
  | n + 1, s, acc => by rw [decRN_succ, decRN_len b n]; simp; omega
theorem decRN_old (b : List UInt8) : ∀ (n : Nat) (s : Nat × Bool) (acc : List Rec), (∀ r ∈ acc, r.old.length ≤ b.length) → ∀ r ∈ (decRN b n s acc).1, r.old.length ≤ b.length
  | 0, _, _, h => h
  | n + 1, s, acc, h => by
    rw [decRN_succ]
    refine decRN_old b n _ _ fun r hr => ?_
    rcases List.mem_append.1 hr with hr | hr
    · exact h r hr
    · rw [List.mem_singleton.1 hr]; exact rY_len _ _ _
theorem decR_small (b : List UInt8) : (decR b).1.length ≤ b.length ∧ ∀ r ∈ (decR b).1, r.old.length ≤ b.length := by
  have hb := rB_bound b (lo := 0) (hi := b.length) (by omega) (by omega) (0, false)
  unfold decR
  simp only
  split
  · refine ⟨by simp only [decRN_len]; simp; omega, decRN_old b _ _ _ (fun r hr => by cases hr)⟩
  · exact ⟨by simp, fun r hr => by cases hr⟩
theorem decRN_enc : ∀ (l' : List Rec) (p t : List UInt8) (acc : List Rec) (b : List UInt8), (∀ x ∈ l', x.fits ∧ x.old.length ≤ 400) → b = p ++ (l'.flatMap encRc ++ t) → decRN b l'.length (p.length, false) acc = (acc ++ l', (p ++ l'.flatMap encRc).length, false)
  | [], p, t, acc, b, _, _ => by simp [decRN]
  | x :: l', p, t, acc, b, hf, hb => by
    obtain ⟨hx, ho⟩ := hf x (by simp)
    have h1 := rI_enc (n := x.off) ⟨hx.1, hx.2.1⟩ (b := b) (p := p) (t := encI x.len ++ (encB x.old ++ (l'.flatMap encRc ++ t))) (by rw [hb]; simp [encRc])
    have h2 := rI_enc (n := x.len) ⟨hx.2.2.1, hx.2.2.2⟩ (b := b) (p := p ++ encI x.off) (t := encB x.old ++ (l'.flatMap encRc ++ t)) (by rw [hb]; simp [encRc])
    have h3 := rY_enc (x := x.old) (most := b.length) (by unfold Wi.fits; omega) (by rw [hb]; simp [encRc, encB]; omega) (b := b) (p := p ++ encI x.off ++ encI x.len) (t := l'.flatMap encRc ++ t) (by rw [hb]; simp [encRc])
    rw [List.length_cons, decRN_succ, h1]
    simp only
    rw [h2]
    simp only
    rw [h3]
    simp only
    rw [decRN_enc l' (p ++ encI x.off ++ encI x.len ++ encB x.old) t _ b (fun y hy => hf y (by simp [hy])) (by rw [hb]; simp [encRc])]
    simp [encRc]
theorem encFlat_ge : ∀ (l : List Rec), l.length ≤ (l.flatMap encRc).length
  | [] => by simp
  | x :: l => by
    have h := encFlat_ge l
    have h0 := encI_pos x.off
    rw [List.flatMap_cons, List.length_append, List.length_cons]
    simp only [encRc, List.length_append]
    omega
theorem decR_enc {l : List Rec} (hl : l.length ≤ 100) (hf : ∀ x ∈ l, x.fits ∧ x.old.length ≤ 400) : decR (encRs l) = (l, 0) := by
  have hfl : Wi.fits (l.length : Int) := by unfold Wi.fits; omega
  have hge := encFlat_ge l
  have h0 := rB_enc (n := (l.length : Int)) (lo := 0) (hi := ((encRs l).length : Int)) hfl (by unfold encRs; simp only [List.length_append]; omega) (b := encRs l) (p := []) (t := l.flatMap encRc) rfl
  simp only [List.length_nil, List.nil_append] at h0
  have hdn := decRN_enc l (encI l.length) [] [] (encRs l) hf (by simp [encRs])
  rw [List.nil_append] at hdn
  unfold decR
  simp only [h0, Int.toNat_natCast, hdn]
  simp [rEnd, encRs]
theorem encRs_len {l : List Rec} (hl : l.length ≤ 100) (hf : ∀ x ∈ l, x.fits ∧ x.old.length ≤ 400) : (encRs l).length ≤ 50000 := by
  have h1 := encFlat_len hf
  have h2 := encI_len (n := (l.length : Int)) (by unfold Wi.fits; omega)
  unfold encRs
  rw [List.length_append]; omega
/-- the arguments and what has been read, in any later world -/
structure Bun (w : World) (rv xv yv zv : Value) (rs X Y Z : List (Rec × Value)) (u : World) : Prop where
  bel : Below w.heap.size w u
  r : Recs [] u rv rs
  x : Recs [] u xv X
  y : Recs [] u yv Y
  z : Recs [] u zv Z
theorem Bun.next {w u u' : World} {rv xv yv zv : Value} {rs X Y Z : List (Rec × Value)} (h : Bun w rv xv yv zv rs X Y Z u) (hb : Below u.heap.size u u') : Bun w rv xv yv zv rs X Y Z u' :=
  ⟨h.bel.trans (hb.mono h.bel.size), h.r.below hb, h.x.below hb, h.y.below hb, h.z.below hb⟩
end Go.Un
