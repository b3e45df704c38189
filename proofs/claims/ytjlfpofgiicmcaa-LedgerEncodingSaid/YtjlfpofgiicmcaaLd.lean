/- Ledger: walks: See -/
import Derived.Test.YtjlfpofgiicmcaaLc
import Derived.Test.YtjlfpofgiicmcaaIw
namespace Go.Lg
open Go Go.RowKit Go.Bs Go.Cl Go.Rw
theorem take_lt {l : List Lt} {i : Nat} {t : Int} (h : ∀ k, k < i → (ltAt l k).t < t) : ∀ z ∈ l.take i, z.t < t := by
  intro z hz
  obtain ⟨k, hk, rfl⟩ := List.mem_iff_getElem.1 hz
  simp at hk
  have := h k (by omega)
  simpa [ltAt, show k < l.length by omega] using this
theorem drop_ge {l : List Lt} {i : Nat} {t : Int} (h : ∀ k, i ≤ k → k < l.length → t ≤ (ltAt l k).t) : ∀ z ∈ l.drop i, t ≤ z.t := by
  intro z hz
  obtain ⟨k, hk, rfl⟩ := List.mem_iff_getElem.1 hz
  simp at hk
  have := h (i + k) (by omega) (by omega)
  simpa [ltAt, show i + k < l.length by omega] using this
theorem put_ins {l : List Lt} {i : Nat} {x : Lt} (h1 : ∀ k, k < i → (ltAt l k).t < x.t) (h2 : ∀ k, i ≤ k → k < l.length → x.t < (ltAt l k).t) : l.take i ++ x :: l.drop i = putL l x := by
  have hd := drop_ge (t := x.t + 1) (fun k hk hk2 => by have := h2 k hk hk2; omega)
  have ht := take_lt h1
  have e1 : l.filter (fun z => z.t < x.t) = l.take i := by
    conv => lhs; rw [← List.take_append_drop i l]
    rw [List.filter_append, List.filter_eq_self.2 (fun z hz => by simpa using ht z hz), List.filter_eq_nil_iff.2 (fun z hz => by have := hd z hz; simp; omega), List.append_nil]
  have e2 : l.filter (fun z => x.t < z.t) = l.drop i := by
    conv => lhs; rw [← List.take_append_drop i l]
    rw [List.filter_append, List.filter_eq_nil_iff.2 (fun z hz => by have := ht z hz; simp; omega), List.filter_eq_self.2 (fun z hz => by have := hd z hz; simp; omega), List.nil_append]
  unfold putL
  rw [e1, e2]
theorem put_set {l : List Lt} (hs : Srt l) {i : Nat} {x : Lt} (hi : i < l.length) (h : (ltAt l i).t = x.t) : l.set i x = putL l x := by
  have h1 : ∀ k, k < i → (ltAt l k).t < x.t := fun k hk => by have := srt_at hs hk hi; omega
  have ht := take_lt h1
  have hd := drop_ge (l := l) (i := i + 1) (t := x.t + 1) (fun k hk hk2 => by have := srt_at hs (show i < k by omega) hk2; omega)
  have hl : l = l.take i ++ ltAt l i :: l.drop (i + 1) := by
    have := lt_get hi
    rw [List.getElem?_eq_getElem hi] at this
    rw [← Option.some.inj this, ← List.drop_eq_getElem_cons hi, List.take_append_drop]
  have e1 : l.filter (fun z => z.t < x.t) = l.take i := by
    conv => lhs; rw [hl]
    rw [List.filter_append, List.filter_eq_self.2 (fun z hz => by simpa using ht z hz), List.filter_cons_of_neg (by simp [h]), List.filter_eq_nil_iff.2 (fun z hz => by have := hd z hz; simp; omega), List.append_nil]
  have e2 : l.filter (fun z => x.t < z.t) = l.drop (i + 1) := by
    conv => lhs; rw [hl]
    rw [List.filter_append, List.filter_eq_nil_iff.2 (fun z hz => by have := ht z hz; simp; omega), List.filter_cons_of_neg (by simp [h]), List.filter_eq_self.2 (fun z hz => by have := hd z hz; simp; omega), List.nil_append]
  unfold putL
  rw [e1, e2]
  exact List.set_eq_take_append_cons_drop.trans (by rw [if_pos hi])
theorem see_bad {l : List Lt} {t s : Int} (h : validL l = false ∨ propL t = false) : seeL l t s = ([], 0, 1) := by
  unfold seeL
  rcases h with h | h <;> simp [h]
theorem see_rep {l : List Lt} {t s : Int} (h1 : validL l = true) (h2 : propL t = true) (h3 : 1 ≤ s) (h4 : s ≤ seenL l t) : seeL l t s = (l, 2, 0) := by
  unfold seeL; simp [h1, h2, h3, h4]
theorem see_gap {l : List Lt} {t s : Int} (h1 : validL l = true) (h2 : propL t = true) (h3 : ¬ (1 ≤ s ∧ s ≤ seenL l t)) (h4 : s < 1 ∨ s - 1 ≠ seenL l t) : seeL l t s = (l, 3, 0) := by
  unfold seeL; rw [h1, h2]; simp only [Bool.and_self, if_true]; rw [if_neg h3, if_pos h4]
theorem see_new {l : List Lt} {t s : Int} (h1 : validL l = true) (h2 : propL t = true) (h3 : 1 ≤ s) (h4 : s - 1 = seenL l t) : seeL l t s = (putL l ⟨t, s⟩, 1, 0) := by
  unfold seeL; rw [h1, h2]; simp only [Bool.and_self, if_true]; rw [if_neg (by omega), if_neg (by omega)]
end Go.Lg
namespace Go.Proofs.Ytjlfpofgiicmcaa
open Go.RowKit Go.Bs Go.Cl Go.Rw Go.Lg

def RetS (r : List Lt × Int × Int) (w : World) (e : Ending) (w' : World) : Prop := ∃ v, e = .returned (.tuple #[v, .int .i64 r.2.1, .int .i64 r.2.2]) ∧ SlL w' v r.1 ∧ Below w.heap.size w w'
theorem valid_eq {v : Value} {l : List Lt} {w : World} {r : Bool} (hl : l.length ≤ 1000000) (h : SlL w v l) (hr : validL l = r) : Calls Try.prog 15 #[v] w fun e w' => e = .returned (.bool r) ∧ Below w.heap.size w w' := hr ▸ valid_any v l w hl h
theorem proper_eq {t : Int} {w : World} {r : Bool} (hr : propL t = r) : Calls Try.prog 23 #[.int .i64 t] w fun e w' => e = .returned (.bool r) ∧ w = w' := hr ▸ proper_any t w
theorem seen_eq {v : Value} {l : List Lt} {t r : Int} {w : World} (hl : l.length ≤ 1000000) (h : SlL w v l) (hr : seenL l t = r) : Calls Try.prog 13 #[v, .int .i64 t] w fun e w' => e = .returned (.int .i64 r) ∧ Below w.heap.size w w' := hr ▸ seen_any v l t w hl h
theorem RetS.nil {w w' : World} {k e : Int} (hb : Below w.heap.size w w') : RetS ([], k, e) w (.returned (.tuple #[.slice none 0 0, .int .i64 k, .int .i64 e])) w' := ⟨_, rfl, Raw.empty _ _ _, hb⟩

set_option maxRecDepth 100000 in
set_option maxHeartbeats 2000000 in
theorem see_any (v : Value) (l : List Lt) (t s : Int) (w : World) (hl : l.length ≤ 1000) (h : SlL w v l) (hs1 : -9223372036854775808 ≤ s) (hs2 : s ≤ 9223372036854775807) :
    Calls Try.prog 9 #[v, .int .i64 t, .int .i64 s] w (RetS (seeL l t s) w) := by
  obtain ⟨a, cap, rfl⟩ := Raw.slice h
  have H := Lib.hid h; clear h
  have hl6 : l.length ≤ 1000000 := by omega
  cases hv : validL l
  · rw [see_bad (.inl hv)]
    have Hv := Lib.hid hv; clear hv
    go_enter Try.func9, Try.ntmps9
    go_wp2_with fail
    refine (valid_eq hl6 H.out Hv.out).mono ?_
    rintro e w1 ⟨rfl, hb1⟩
    go_wp2
    go_ret3
    exact RetS.nil hb1
  cases hp : propL t
  · rw [see_bad (.inr hp)]
    have Hv := Lib.hid hv; clear hv
    have Hp := Lib.hid hp; clear hp
    go_enter Try.func9, Try.ntmps9
    go_wp2_with fail
    refine (valid_eq hl6 H.out Hv.out).mono ?_
    rintro e w1 ⟨rfl, hb1⟩
    go_wp2_with (go_at_call 23; refine (proper_eq Hp.out).mono ?_; rintro e w' ⟨rfl, rfl⟩)
    go_ret3
    exact RetS.nil hb1
  obtain ⟨q, hq⟩ : ∃ q, seenL l t = q := ⟨_, rfl⟩
  have hq0 := seen_pos hv t
  rw [hq] at hq0
  have Hsrt := Lib.hid (valid_srt hv)
  have hcase : (1 ≤ s ∧ s ≤ q) ∨ (¬ (1 ≤ s ∧ s ≤ q) ∧ (s < 1 ∨ s - 1 ≠ q)) ∨ (1 ≤ s ∧ s - 1 = q) := by omega
  rcases hcase with ⟨hc1, hc2⟩ | ⟨hc1, hc2⟩ | ⟨hc1, hc2⟩
  · rw [see_rep hv hp hc1 (by rw [hq]; exact hc2)]
    have Hv := Lib.hid hv; clear hv
    have Hp := Lib.hid hp; clear hp
    have Hq := Lib.hid hq; clear hq
    go_enter Try.func9, Try.ntmps9
    go_wp2_with fail
    refine (valid_eq hl6 H.out Hv.out).mono ?_
    rintro e w1 ⟨rfl, hb1⟩
    go_wp2_with (go_at_call 23; refine (proper_eq Hp.out).mono ?_; rintro e w' ⟨rfl, rfl⟩)
    refine (clone24 _ hl6 (H.out.below hb1)).mono ?_
    rintro e w2 ⟨v2, rfl, hown2, hb2⟩
    obtain ⟨a2, c2, rfl⟩ := own_slice hown2
    have hbel2 := hb1.trans (hb2.mono hb1.size)
    have HS2 := Lib.hid (SlL.of_own hown2)
    clear hown2 hb2
    go_wp2_with fail
    refine (seen_eq hl6 (H.out.below hbel2) Hq.out).mono ?_
    rintro e w3 ⟨rfl, hb3⟩
    have hbel3 := hbel2.trans (hb3.mono hbel2.size)
    have HS3 := Lib.hid (HS2.out.below hb3)
    go_wp2
    go_ret3
    exact ⟨_, rfl, HS3.out, hbel3⟩
  · rw [see_gap hv hp (by rw [hq]; exact hc1) (by rw [hq]; exact hc2)]
    have Hv := Lib.hid hv; clear hv
    have Hp := Lib.hid hp; clear hp
    have Hq := Lib.hid hq; clear hq
    have Hc1 := Lib.hid hc1; clear hc1
    have Hc2 := Lib.hid hc2; clear hc2
    go_enter Try.func9, Try.ntmps9
    go_wp2_with fail
    refine (valid_eq hl6 H.out Hv.out).mono ?_
    rintro e w1 ⟨rfl, hb1⟩
    go_wp2_with (go_at_call 23; refine (proper_eq Hp.out).mono ?_; rintro e w' ⟨rfl, rfl⟩)
    refine (clone24 _ hl6 (H.out.below hb1)).mono ?_
    rintro e w2 ⟨v2, rfl, hown2, hb2⟩
    obtain ⟨a2, c2, rfl⟩ := own_slice hown2
    have hbel2 := hb1.trans (hb2.mono hb1.size)
    have HS2 := Lib.hid (SlL.of_own hown2)
    clear hown2 hb2
    go_wp2_with fail
    refine (seen_eq hl6 (H.out.below hbel2) Hq.out).mono ?_
    rintro e w3 ⟨rfl, hb3⟩
    have hbel3 := hbel2.trans (hb3.mono hbel2.size)
    have HS3 := Lib.hid (HS2.out.below hb3)
    by_cases g1 : s < 1
    · have g2 : ¬ (1 ≤ s) := by omega
      go_wp2
      go_ret3
      exact ⟨_, rfl, HS3.out, hbel3⟩
    · have g3 : 1 ≤ s := by omega
      have g4 : q < s := by have := Hc1.out; omega
      have g5 : (s - 1 == q) = false := by have := Hc2.out; simp; omega
      have g6 : (s - 1 != q) = true := by have := Hc2.out; simp; omega
      have g7 : ¬ s ≤ q := by omega
      go_wp2
      go_ret3
      exact ⟨_, rfl, HS3.out, hbel3⟩
  · rw [see_new hv hp hc1 (by rw [hq]; exact hc2)]
    have Hv := Lib.hid hv; clear hv
    have Hp := Lib.hid hp; clear hp
    have Hq := Lib.hid hq; clear hq
    obtain rfl : q = s - 1 := hc2.symm
    go_enter Try.func9, Try.ntmps9
    go_wp2_with fail
    refine (valid_eq hl6 H.out Hv.out).mono ?_
    rintro e w1 ⟨rfl, hb1⟩
    go_wp2_with (go_at_call 23; refine (proper_eq Hp.out).mono ?_; rintro e w' ⟨rfl, rfl⟩)
    refine (clone24 _ hl6 (H.out.below hb1)).mono ?_
    rintro e w2 ⟨v2, rfl, hown2, hb2⟩
    obtain ⟨a2, c2, rfl⟩ := own_slice hown2
    have hbel2 := hb1.trans (hb2.mono hb1.size)
    have HO2 := Lib.hid (own_base hown2 hb1.size)
    clear hown2 hb2
    go_wp2_with fail
    refine (seen_eq hl6 (H.out.below hbel2) Hq.out).mono ?_
    rintro e w3 ⟨rfl, hb3⟩
    have hbel3 := hbel2.trans (hb3.mono hbel2.size)
    have HO3 := Lib.hid (own_below HO2.out hb3 (Nat.le_refl _))
    have g1 : ¬ s ≤ s - 1 := by omega
    have g2 : ¬ s < 1 := by omega
    go_wp2_with fail
    refine (bsearch_any _ l t _ hl6 (SlL.of_own HO3.out) Hsrt.out).mono ?_
    rintro e w4 ⟨i, hi, hlo, hhi, rfl, hb4⟩
    have hbel4 := hbel3.trans (hb4.mono hbel3.size)
    have HO4 := Lib.hid (own_below HO3.out hb4 (Nat.le_refl _))
    have hs4 := hbel4.size
    by_cases hf : i < l.length ∧ (ltAt l i).t = t
    · obtain ⟨hil, hit⟩ := hf
      have hput := put_set Hsrt.out (x := ⟨t, s⟩) hil hit
      have htrue : (decide (i < l.length) && decide ((ltAt l i).t = t)) = true := by simp [hil, hit]
      rw [htrue]
      have hown4 := HO4.out
      rcases own_cases hown4 with ⟨e, h0, _⟩ | ⟨g, c9, e, hg1, hg2, hcc⟩
      · omega
      · cases e
        have hcell := own_cell hown4 rfl (flat_get encL encL_len l i 1 _ (lt_get hil) (by omega))
        have hfz := own_frozen hown4 (i * 2 + 1)
        have hset := own_set hown4 (j := i * 2 + 1) (u := .int .i64 s) (by rw [flat_length encL encL_len]; omega)
        rw [flat_set encL encL_len l i 1 (ltAt l i) ⟨t, s⟩ _ (lt_get hil) (by omega) (by rw [← hit]; rfl), hput] at hset
        have HF := Lib.hid (SlL.of_own hset)
        have hcell' : w4.cell? ⟨g, i * 2 + 1, none⟩ = some (.int .i64 (ltAt l i).q) := hcell
        have hpl : (putL l ⟨t, s⟩).length = l.length := by rw [← hput]; simp
        have Hpl := Lib.hid hpl
        have hbel5 := hbel4.setCell (p := ⟨g, i * 2 + 1, none⟩) hg1 (.int .i64 s)
        clear hset hown4 hcell hput htrue hit hpl
        go_wp2
        go_ret3
        exact ⟨_, rfl, HF.out, hbel5⟩
    · have hfalse : (decide (i < l.length) && decide ((ltAt l i).t = t)) = false := by
        rw [Bool.eq_false_iff]; simpa using hf
      have hgt : ∀ k, i ≤ k → k < l.length → t < (ltAt l k).t := fun k hk hk2 => by
        have h1 := hhi i (Nat.le_refl _) (by omega)
        have h2 : (ltAt l i).t ≠ t := fun e => hf ⟨by omega, e⟩
        by_cases e : k = i
        · subst e; omega
        · have := srt_at Hsrt.out (show i < k by omega) hk2; omega
      have hput := put_ins (x := ⟨t, s⟩) hlo hgt
      rw [hfalse]
      have Hput := Lib.hid hput
      have Hlo := Lib.hid hlo
      have Hhi := Lib.hid hhi
      have Hf := Lib.hid hf
      clear hput hgt hlo hhi hf hfalse
      have hbel5 := hbel4.alloc hs4 (.cells #[.int .i64 t, .int .i64 s] 55)
      have HO5 := Lib.hid (HO4.out.alloc (.cells #[.int .i64 t, .int .i64 s] 55))
      go_wp2_with fail
      refine (insert_own w.heap.size l.length i _ (l.flatMap encL) (encL ⟨t, s⟩) w4.heap.size _ _ hl6 hi hbel5.size HO5.out rfl (fun e => by have := (HO4.out.lt _ e).2; omega) (heap_alloc_new w4 _) (by intro u hu; simp [encL] at hu; rcases hu with rfl | rfl <;> rfl) (encL_one l)).mono ?_
      rintro e w6 ⟨v6, rfl, hown6, hg6⟩
      obtain ⟨a6, c6, rfl⟩ := own_slice hown6
      have hbel6 := hbel5.grown hg6 hbel5.size (fun q hq => (HO4.out.lt q hq).1)
      have hflat : (l.flatMap encL).take (i * 2) ++ encL ⟨t, s⟩ ++ (l.flatMap encL).drop (i * 2) = (putL l ⟨t, s⟩).flatMap encL := by
        rw [← Hput.out, flat_take encL encL_len, flat_drop encL encL_len]; simp
      rw [hflat] at hown6
      have HF := Lib.hid (SlL.of_own hown6)
      clear hown6 hg6 hflat
      go_wp2
      go_ret3
      exact ⟨_, rfl, HF.out, hbel6⟩
end Go.Proofs.Ytjlfpofgiicmcaa
