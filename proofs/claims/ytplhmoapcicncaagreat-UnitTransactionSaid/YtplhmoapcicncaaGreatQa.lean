/- unit: what a transaction leads to -/
import Derived.Test.YtplhmoapcicncaaGreatHj
import Derived.Test.YtplhmoapcicncaaGreatQd
namespace Go.Im
open Go Go.RowKit Go.Bs Go.Cl Go.Rw Go.Un Go.Fa
theorem finp_none (y : Int) (im ms : List UInt8) : finp FP.none y im ms = (im, ms) := by
  unfold finp
  split
  · rfl
  · rfl
def tin (q : FP) (y : Int) (im ms : List UInt8) (o t : Oc) : Oc := if finp q y im ms = (im, ms) then o else t
theorem tin_none (y : Int) (im ms : List UInt8) (o t : Oc) : tin FP.none y im ms o t = o := by unfold tin; rw [if_pos (finp_none _ _ _)]
theorem fout_none (y : Int) (o : Oc) : fout FP.none y o = o := by
  unfold fout
  split
  · rfl
  · simp [FP.none]
theorem out_other {q : FP} {y : Int} {im ms : List UInt8} {o t : Oc} (h : q.e ≠ y) : fout q y (tin q y im ms o t) = o := by
  have h1 : tin q y im ms o t = o := by unfold tin; rw [if_pos (finp_other h)]
  rw [h1]
  unfold fout
  rw [if_pos (.inr h)]
/-- an attempt -/
def attU (x : Us) (s : Ps) (p : FP) (sq : Int) (ms : List UInt8) (o t : Oc) : FR :=
  finU x s p 16 sq (fout (qof x p) 0 (tin (qof x p) 0 s.image ms o t)) (fout (qof x p) 1 (tin (qof x p) 1 s.image ms o t)) true
theorem judge_zero {a b : Oc} (h : judge a b true = 0) : a.im = b.im ∧ a.ef = b.ef := by
  unfold judge at h
  split at h
  · cases h
  split at h
  · cases h
  split at h
  · cases h
  split at h
  · rename_i h1; cases h1
  split at h
  · assumption
  · cases h
theorem judge_self {o : Oc} (h1 : o.en = 0) (h2 : o.er = 0) (h3 : o.st ≤ 4000) : judge o o true = 0 := by
  have b1 : o.bad = false := by simp [Oc.bad, h1, h2]
  have b2 : o.late = false := by simp [Oc.late, h1]; omega
  have b3 : o.touch = false := by simp [Oc.touch, h1]
  unfold judge
  rw [b1, b2, b3]
  simp
theorem hits_ok {p : FP} {c n a : Int} (h : p.hits c n a = true) : p.ok = true ∧ a = 1 := by
  unfold FP.hits at h
  simp only [Bool.and_eq_true, decide_eq_true_eq] at h
  exact ⟨h.1, h.2.2.2.2⟩
theorem none_ok : FP.none.ok = true := by rfl
theorem qof_ok (x : Us) (p : FP) : (qof x p).ok = true := by
  unfold qof
  split
  · rename_i h; exact (hits_ok h).1
  · exact none_ok
theorem fout_st {q : FP} (hq : q.ok = true) {y : Int} {o : Oc} (h0 : 0 ≤ o.st) (h1 : o.st ≤ 4000) : 0 ≤ (fout q y o).st ∧ (fout q y o).st ≤ 4000 := by
  unfold fout
  split
  · exact ⟨h0, h1⟩
  split
  · rename_i h
    have := ok_step hq h.1 h.2.1
    split
    · simp only; omega
    split
    · simp only; omega
    · simp only; omega
  split
  · exact ⟨h0, h1⟩
  split
  · exact ⟨h0, h1⟩
  · exact ⟨h0, h1⟩
theorem tin_st {q : FP} {y : Int} {im ms : List UInt8} {o t : Oc} (h0 : 0 ≤ o.st) (h1 : o.st ≤ 4000) (h2 : 0 ≤ t.st) (h3 : t.st ≤ 4000) : 0 ≤ (tin q y im ms o t).st ∧ (tin q y im ms o t).st ≤ 4000 := by
  unfold tin; split
  · exact ⟨h0, h1⟩
  · exact ⟨h2, h3⟩
theorem wrap_id {a : Int} (h0 : -9223372036854775808 ≤ a) (h1 : a ≤ 9223372036854775807) : wrap64 a = a := by unfold wrap64; omega
theorem cost_bound {n m : Nat} (hn : n ≤ 24000) (hm : m ≤ 24000) : 3 ≤ cost n m 1 ∧ cost n m 1 ≤ 400 ∧ cost n m 1 = acnt n + acnt m + 3 := by
  have e : cost n m 1 = acnt n + acnt m + 3 := by unfold cost; simp; omega
  have h1 : acnt n ≤ 190 := by unfold acnt; split <;> omega
  have h2 : acnt m ≤ 190 := by unfold acnt; split <;> omega
  have h3 := acnt_lo n
  have h4 := acnt_lo m
  omega
theorem cnt_acnt (n : Nat) : ((cnt n : Nat) : Int) = acnt n := by
  unfold cnt acnt; split <;> omega
/-- the first attempt: its result is installed, or it fails -/
theorem att_first {x : Us} {im : List UInt8} {v : Nat} {p : FP} {sq : Int} {ms : List UInt8} {o t : Oc} {led : List Lg.Lt} (hd : x.down = false) (hs : Lg.seeL x.led 16 sq = (led, 1, 0))
    (ho1 : o.en = 0) (ho2 : o.er = 0) (ho3 : 0 ≤ o.st) (ho4 : o.st ≤ 400) (ht1 : 0 ≤ t.st) (ht2 : t.st ≤ 4000) (hm : o.im.length ≤ 24000) :
    let r := attU x ⟨im, v, false, [], 0⟩ p sq ms o t
    r.e = 0 ∧ ((r.c = 0 ∧ r.x = { x with led := led, num := x.num + 1, att := 1 } ∧ r.s = ⟨o.im, v + 1, false, [], 0⟩) ∨
      (r.c ≠ 0 ∧ ∃ st : Int, 0 ≤ st ∧ st ≤ 4000 + 2 * o.st + 1 + acnt o.im.length ∧ r.x = downed x st ∧ r.s = ⟨im, v, false, [], 0⟩)) := by
  intro r
  obtain ⟨a, ha⟩ : ∃ a, fout (qof x p) 0 (tin (qof x p) 0 im ms o t) = a := ⟨_, rfl⟩
  obtain ⟨b, hb⟩ : ∃ b, fout (qof x p) 1 (tin (qof x p) 1 im ms o t) = b := ⟨_, rfl⟩
  have hone : a = o ∨ b = o := by
    by_cases he : (qof x p).e = 0
    · right; rw [← hb]; exact out_other (by omega)
    · left; rw [← ha]; exact out_other he
  have hq := qof_ok x p
  have sa : 0 ≤ a.st ∧ a.st ≤ 4000 := by rw [← ha]; exact fout_st hq (tin_st ho3 (by omega) ht1 ht2).1 (tin_st ho3 (by omega) ht1 ht2).2
  have sb : 0 ≤ b.st ∧ b.st ≤ 4000 := by rw [← hb]; exact fout_st hq (tin_st ho3 (by omega) ht1 ht2).1 (tin_st ho3 (by omega) ht1 ht2).2
  have sab : a.st + b.st ≤ 4000 + o.st := by rcases hone with h | h <;> rw [h] at * <;> omega
  have hj : jst a b = a.st + b.st + 1 := by
    unfold jst
    rw [wrap_id (a := a.st + b.st) (by omega) (by omega), wrap_id (by omega) (by omega)]
  have hr : r = finU x ⟨im, v, false, [], 0⟩ p 16 sq a b true := by show attU _ _ _ _ _ _ _ = _; unfold attU; rw [← ha, ← hb]
  rw [hr]
  unfold finU
  rw [hd, hs]
  simp only [Bool.false_eq_true, if_false, ne_eq, not_true_eq_false]
  by_cases hz : judge a b true = 0
  · have him : a.im = o.im := by
      have := judge_zero hz
      rcases hone with h | h
      · rw [h]
      · rw [this.1, h]
    rw [if_pos hz, him]
    have htot := tot_le im o.im
    have hcn := cnt_acnt o.im.length
    have hca : acnt (o.im.length : Int) ≤ 190 := by unfold acnt; split <;> omega
    split
    · exact ⟨rfl, .inl ⟨rfl, rfl, rfl⟩⟩
    · rename_i hc
      have hcl := cutd_le p (p.hits x.task x.num x.att) (tot im o.im)
      have hw : wrap64 (jst a b + (cutd p (p.hits x.task x.num x.att) (tot im o.im) : Nat)) = jst a b + (cutd p (p.hits x.task x.num x.att) (tot im o.im) : Nat) := wrap_id (by rw [hj]; omega) (by rw [hj]; omega)
      exact ⟨rfl, .inr ⟨by simp, jst a b + (cutd p (p.hits x.task x.num x.att) (tot im o.im) : Nat), by rw [hj]; omega, by rw [hj]; omega, by rw [hw], rfl⟩⟩
  · rw [if_neg hz]
    have := acnt_lo o.im.length
    exact ⟨rfl, .inr ⟨hz, jst a b, by rw [hj]; omega, by rw [hj]; omega, rfl, rfl⟩⟩
/-- an attempt that no plan hits installs its result -/
theorem att_clean {x : Us} {im : List UInt8} {v : Nat} {p : FP} {sq : Int} {ms : List UInt8} {o t : Oc} {led : List Lg.Lt} (hd : x.down = false) (ha : x.att ≠ 1) (hs : Lg.seeL x.led 16 sq = (led, 1, 0))
    (ho1 : o.en = 0) (ho2 : o.er = 0) (ho4 : o.st ≤ 400) :
    let r := attU x ⟨im, v, false, [], 0⟩ p sq ms o t
    r.e = 0 ∧ r.c = 0 ∧ r.x = { x with led := led, num := x.num + 1, att := 1 } ∧ r.s = ⟨o.im, v + 1, false, [], 0⟩ := by
  intro r
  have hh : p.hits x.task x.num x.att = false := by
    cases h : p.hits x.task x.num x.att with
    | false => rfl
    | true => exact absurd (hits_ok h).2 ha
  have hq : qof x p = FP.none := by unfold qof; rw [hh]; rfl
  have hr : r = finU x ⟨im, v, false, [], 0⟩ p 16 sq o o true := by
    show attU _ _ _ _ _ _ _ = _
    unfold attU
    rw [hq, tin_none, tin_none, fout_none, fout_none]
  rw [hr]
  unfold finU
  rw [hd, hs]
  simp only [Bool.false_eq_true, if_false, ne_eq, not_true_eq_false]
  rw [if_pos (judge_self ho1 ho2 (by omega)), hh]
  have hc : cutd p false (tot im o.im) = tot im o.im := by unfold cutd; rw [if_neg (fun h => by simp at h)]
  rw [if_pos hc]
  exact ⟨rfl, rfl, rfl, rfl⟩
end Go.Im
