/- Ledger: the walk of LedgerScript -/
import Derived.Test.YtjlfpofgiicmcaaLf
namespace Go.Lg
open Go Go.RowKit Go.Bs Go.Cl Go.Rw
def fitsL (x : Lt) : Prop := -9223372036854775808 ≤ x.t ∧ x.t ≤ 9223372036854775807 ∧ -9223372036854775808 ≤ x.q ∧ x.q ≤ 9223372036854775807
theorem see_cases (l : List Lt) (t s : Int) : (seeL l t s = ([], 0, 1)) ∨ (seeL l t s = (l, 2, 0)) ∨ (seeL l t s = (l, 3, 0)) ∨ (seeL l t s = (putL l ⟨t, s⟩, 1, 0) ∧ validL l = true ∧ propL t = true ∧ 1 ≤ s ∧ s - 1 = seenL l t) := by
  cases hv : validL l
  · exact .inl (see_bad (.inl hv))
  cases hp : propL t
  · exact .inl (see_bad (.inr hp))
  by_cases h1 : 1 ≤ s ∧ s ≤ seenL l t
  · exact .inr (.inl (see_rep hv hp h1.1 h1.2))
  by_cases h2 : s < 1 ∨ s - 1 ≠ seenL l t
  · exact .inr (.inr (.inl (see_gap hv hp h1 h2)))
  have h3 : 1 ≤ s := by omega
  have h4 : s - 1 = seenL l t := by omega
  exact .inr (.inr (.inr ⟨see_new hv hp h3 h4, rfl, rfl, h3, h4⟩))
end Go.Lg
namespace Go.Proofs.Ytjlfpofgiicmcaa
open Go.RowKit Go.Bs Go.Cl Go.Rw Go.Lg
theorem requal_refl {v1 v2 : Value} {l : List Lt} {w : World} (hl : l.length ≤ 1000000) (h1 : SlL w v1 l) (h2 : SlL w v2 l) :
    Calls Try.prog 11 #[v1, v2] w fun e w' => e = .returned (.bool true) ∧ Below w.heap.size w w' := by
  have := requal_any v1 v2 l l w hl hl h1 h2
  rwa [eqL_refl] at this

set_option maxRecDepth 100000 in
set_option maxHeartbeats 4000000 in
theorem script_any (v : Value) (l : List Lt) (w : World) (h : SlL w v l) (hf : ∀ x ∈ l, fitsL x) :
    Calls Try.prog 3 #[v] w fun e w' => e = .returned (.bool true) ∧ Below w.heap.size w w' := by
  obtain ⟨a, cap, rfl⟩ := Raw.slice h
  have H := Lib.hid h; clear h
  have HF := Lib.hid hf; clear hf
  by_cases hbig : 60 < l.length
  · have g1 : (60 : Int) < l.length := by omega
    go_enter Try.func3, Try.ntmps3
    go_wp2_with fail
    refine (awake_any _).mono ?_
    rintro e w1 ⟨rfl, hb1⟩
    go_wp2
    go_ret
    exact ⟨rfl, hb1⟩
  have g1 : (l.length : Int) ≤ 60 := by omega
  go_enter Try.func3, Try.ntmps3
  go_wp2_with fail
  refine (awake_any _).mono ?_
  rintro e w1 ⟨rfl, hb1⟩
  go_wp2
  go_loopw [3, 4, 5] (fun av bv i wr => ∃ (k : Nat) (cur : List Lt), k ≤ l.length ∧ i = .int .i64 k ∧ cur.length ≤ k ∧ SlL wr av cur ∧ SlL wr bv cur ∧ Below w.heap.size w wr) (fun _ _ i _ => l.length - (intOf i).toNat)
  case atStart => exact ⟨0, [], Nat.zero_le _, rfl, Nat.le_refl _, Raw.empty _ _ _, Raw.empty _ _ _, hb1⟩
  case round =>
    obtain ⟨k, cur, hk, rfl, hcl, ha, hb, hbel⟩ := hrel
    have hsz := hbel.size
    obtain ⟨aa, ac, rfl⟩ := Raw.slice ha
    obtain ⟨ba, bc, rfl⟩ := Raw.slice hb
    have HA := Lib.hid ha; clear ha
    have HB := Lib.hid hb; clear hb
    have hcl3 : cur.length ≤ 1000 := by omega
    have hcl6 : cur.length ≤ 1000000 := by omega
    by_cases hlt : k < l.length
    · obtain ⟨b, off, rfl, hbw, h0, h1⟩ := (H.out.below hbel).elem hlt
      have hfit := HF.out _ (lt_mem.2 ⟨k, hlt, rfl⟩)
      have hb0 : b < w.heap.size := by
        rcases Raw.cases H.out with ⟨h, _⟩ | ⟨_, _, _, _, hv, _, _, hb0, _⟩
        · omega
        · cases hv; exact hb0
      obtain ⟨z, hz⟩ : ∃ z, ltAt l k = z := ⟨_, rfl⟩
      rw [hz] at h0 h1 hfit
      have Hz := Lib.hid hz; clear hz
      obtain ⟨hf1, hf2, hf3, hf4⟩ := hfit
      obtain ⟨r, hr⟩ : ∃ r, seeL cur z.t z.q = r := ⟨_, rfl⟩
      have hcases := see_cases cur z.t z.q
      rw [hr] at hcases
      have Hr := Lib.hid hr; clear hr
      have hseen0 : validL cur = true → 0 ≤ seenL cur z.t := fun h => seen_pos h _
      have hput : validL cur = true → (putL cur ⟨z.t, z.q⟩).length ≤ cur.length + 1 := fun h => put_len _ _ (valid_srt h)
      obtain ⟨r1, r2, r3⟩ := r
      have hshort : r1.length ≤ cur.length + 1 := by
        rcases hcases with h | h | h | ⟨h, hv, _⟩
        · cases h; simp
        · cases h; omega
        · cases h; omega
        · cases h; exact hput hv
      have hr1 : r1.length ≤ 1000000 := by omega
      have hnew : r2 = 1 → seenL cur z.t + 1 = z.q ∧ 0 ≤ seenL cur z.t := fun h2 => by
        rcases hcases with h | h | h | ⟨h, hv, _, _, h4⟩
        · cases h; cases h2
        · cases h; cases h2
        · cases h; cases h2
        · exact ⟨by omega, hseen0 hv⟩
      clear hseen0 hput
      go_wp2
      refine Txt.wp_txt (by kernel_rfl) (by kernel_rfl) ?_
      go_wp2_with (go_at_call 9; refine (see_any _ cur z.t z.q _ hcl3 (Raw.drew HA.out) (by assumption) (by assumption)).mono ?_; rw [Hr.out]; rintro e w2 ⟨v2, rfl, h2, hb2⟩)
      obtain ⟨a2, c2, rfl⟩ := Raw.slice h2
      have HX2 := Lib.hid h2; clear h2
      have hb2 : Below wr.heap.size wr w2 := (Below.refl _ wr).drew.trans hb2
      have hbel2 := hbel.trans (hb2.mono hsz)
      have HB2 := Lib.hid (HB.out.below hb2)
      have HA2 := Lib.hid (HA.out.below hb2)
      have h0 : w2.cell? ⟨b, off + k * 2, none⟩ = some (.int .i64 z.t) := (hb2.cell (p := ⟨b, off + k * 2, none⟩) hbw).trans h0
      have h1 : w2.cell? ⟨b, off + k * 2 + 1, none⟩ = some (.int .i64 z.q) := (hb2.cell (p := ⟨b, off + k * 2 + 1, none⟩) hbw).trans h1
      have hbw2 : b < w2.heap.size := Nat.lt_of_lt_of_le hbw hb2.size
      clear hb2
      go_wp2
      refine Txt.DrawPost.mk0 (by rfl) ?_
      go_wp2
      refine Txt.wp_txt (by kernel_rfl) (by kernel_rfl) ?_
      go_wp2_with (go_at_call 10; refine (rsee_any _ cur z.t z.q _ hcl3 (Raw.drew HB2.out) (by assumption) (by assumption)).mono ?_; rw [Hr.out]; rintro e w3 ⟨v3, rfl, h3, hb3⟩)
      obtain ⟨a3, c3, rfl⟩ := Raw.slice h3
      have HY3 := Lib.hid h3; clear h3
      have hb3 : Below w2.heap.size w2 w3 := (Below.refl _ w2).drew.trans hb3
      have hbel3 := hbel2.trans (hb3.mono hbel2.size)
      have HX3 := Lib.hid (HX2.out.below hb3)
      have HA3 := Lib.hid (HA2.out.below hb3)
      have HB3 := Lib.hid (HB2.out.below hb3)
      have h0 : w3.cell? ⟨b, off + k * 2, none⟩ = some (.int .i64 z.t) := (hb3.cell (p := ⟨b, off + k * 2, none⟩) hbw2).trans h0
      have h1 : w3.cell? ⟨b, off + k * 2 + 1, none⟩ = some (.int .i64 z.q) := (hb3.cell (p := ⟨b, off + k * 2 + 1, none⟩) hbw2).trans h1
      have hbw3 : b < w3.heap.size := Nat.lt_of_lt_of_le hbw2 hb3.size
      clear hb3
      go_wp2
      refine Txt.DrawPost.mk0 (by rfl) ?_
      go_wp2
      have hS : ∀ x ∈ [b], ∃ c e f, w3.heap[x]? = some (.cells c e f) := fun x hx => by rw [List.mem_singleton.1 hx]; exact Txt.cells_of h0
      refine Txt.wp_cut [11, 2, 18] [b] [23] [] (by kernel_rfl) (by kernel_rfl) (by kernel_rfl) hS ?_
      simp only [Txt.wpCut, List.take_succ_cons, List.take_zero, List.drop_succ_cons, List.drop_zero]
      go_wp2_with (go_at_call 12; refine (from_any _ r1 _ hr1 (Raw.drew HX3.out)).mono ?_; rintro e w4 ⟨v4, rfl, h4, hb4⟩)
      obtain ⟨a4, c4, rfl⟩ := Raw.slice h4
      have HX4 := Lib.hid h4; clear h4
      have HS4 := Lib.hid (same_below (same_start hS) hb4 (fun x hx => by rw [List.mem_singleton.1 hx]; exact hbw3))
      refine Txt.SegPost.mk HS4.out ?_
      have hb4 : Below w3.heap.size w3 w4 := (Below.refl _ w3).drew.trans hb4
      have hbel4 := hbel3.trans (hb4.mono hbel3.size)
      have HY4 := Lib.hid (HY3.out.below hb4)
      have HX34 := Lib.hid (HX3.out.below hb4)
      have HA4 := Lib.hid (HA3.out.below hb4)
      have HB4 := Lib.hid (HB3.out.below hb4)
      have h0 : w4.cell? ⟨b, off + k * 2, none⟩ = some (.int .i64 z.t) := (hb4.cell (p := ⟨b, off + k * 2, none⟩) hbw3).trans h0
      have h1 : w4.cell? ⟨b, off + k * 2 + 1, none⟩ = some (.int .i64 z.q) := (hb4.cell (p := ⟨b, off + k * 2 + 1, none⟩) hbw3).trans h1
      have hbw4 : b < w4.heap.size := Nat.lt_of_lt_of_le hbw3 hb4.size
      clear hb4
      go_wp2_with (go_at_call 11; refine (requal_refl hr1 HX4.out HY4.out).mono ?_; rintro e w5 ⟨rfl, hb5⟩)
      have HS5 := Lib.hid (same_below HS4.out hb5 (fun x hx => by rw [List.mem_singleton.1 hx]; exact hbw4))
      refine Txt.SegPost.mk HS5.out ?_
      clear HS4
      have hbel5 := hbel4.trans (hb5.mono hbel4.size)
      have HY5 := Lib.hid (HY4.out.below hb5)
      have HX5 := Lib.hid (HX34.out.below hb5)
      have HA5 := Lib.hid (HA4.out.below hb5)
      have HB5 := Lib.hid (HB4.out.below hb5)
      have h0 : w5.cell? ⟨b, off + k * 2, none⟩ = some (.int .i64 z.t) := (hb5.cell (p := ⟨b, off + k * 2, none⟩) hbw4).trans h0
      have h1 : w5.cell? ⟨b, off + k * 2 + 1, none⟩ = some (.int .i64 z.q) := (hb5.cell (p := ⟨b, off + k * 2 + 1, none⟩) hbw4).trans h1
      have hbw5 : b < w5.heap.size := Nat.lt_of_lt_of_le hbw4 hb5.size
      clear hb5
      by_cases h2 : r2 = 1
      · obtain ⟨hn1, hn2⟩ := hnew h2
        subst h2
        clear hnew
        go_wp2_with (go_at_call 13; refine (seen_eq hcl6 HA5.out rfl).mono ?_; rintro e w6 ⟨rfl, hb6⟩)
        have HS6 := Lib.hid (same_below HS5.out hb6 (fun x hx => by rw [List.mem_singleton.1 hx]; exact hbw5))
        refine Txt.SegPost.mk HS6.out ?_
        have hbel6 := hbel5.trans (hb6.mono hbel5.size)
        have HY6 := Lib.hid (HY5.out.below hb6)
        have HX6 := Lib.hid (HX5.out.below hb6)
        have HA6 := Lib.hid (HA5.out.below hb6)
        have HB6 := Lib.hid (HB5.out.below hb6)
        clear hb6
        go_wp2
        refine Txt.DrawPost.mk (by rfl) ⟨.head _, trivial⟩ ?_
        clear HS6 HS5
        by_cases h3 : r3 = 0
        · subst h3
          go_wp2
          go_roundw
          · exact ⟨k + 1, r1, hlt, by simp, by omega, HX6.out, HY6.out, hbel6⟩
          · simp only [intOf]
            omega
        · go_wp2
          go_roundw
          · exact ⟨k + 1, cur, hlt, by simp, by omega, HA6.out, HB6.out, hbel6⟩
          · simp only [intOf]
            omega
      · clear hnew
        go_wp2
        refine Txt.SegPost.mk HS5.out ?_
        go_wp2
        refine Txt.DrawPost.mk (by rfl) ⟨trivial, trivial⟩ ?_
        clear HS5
        by_cases h3 : r3 = 0
        · subst h3
          go_wp2
          go_roundw
          · exact ⟨k + 1, r1, hlt, by simp, by omega, HX5.out, HY5.out, hbel5⟩
          · simp only [intOf]
            omega
        · go_wp2
          go_roundw
          · exact ⟨k + 1, cur, hlt, by simp, by omega, HA5.out, HB5.out, hbel5⟩
          · simp only [intOf]
            omega
    · go_wp2
      go_ret
      exact ⟨rfl, hbel⟩
end Go.Proofs.Ytjlfpofgiicmcaa
