/- Ledger: the walk of LedgerOthers -/
import Derived.Test.YtjlfpofgiicmcaaLg
namespace Go.Lg
open Go Go.RowKit Go.Bs Go.Cl Go.Rw
theorem see_ok {l r1 : List Lt} {t s r2 : Int} (h : seeL l t s = (r1, r2, 0)) : validL r1 = true ∧ (∀ k, k ≠ t → seenL r1 k = seenL l k) ∧ (seenL r1 t = seenL l t ∨ r2 = 1 ∧ seenL r1 t = seenL l t + 1 ∧ seenL r1 t = s ∧ 1 ≤ s) := by
  cases hv : validL l
  · rw [see_bad (.inl hv)] at h; cases h
  cases hp : propL t
  · rw [see_bad (.inr hp)] at h; cases h
  by_cases h1 : 1 ≤ s ∧ s ≤ seenL l t
  · rw [see_rep hv hp h1.1 h1.2] at h; cases h; exact ⟨hv, fun _ _ => rfl, .inl rfl⟩
  by_cases h2 : s < 1 ∨ s - 1 ≠ seenL l t
  · rw [see_gap hv hp h1 h2] at h; cases h; exact ⟨hv, fun _ _ => rfl, .inl rfl⟩
  have h3 : 1 ≤ s := by omega
  have h4 : s - 1 = seenL l t := by omega
  rw [see_new hv hp h3 h4] at h
  cases h
  have hs : seenL (putL l ⟨t, s⟩) t = s := by rw [seen_put (valid_srt hv), if_pos rfl]
  refine ⟨put_valid hv (by simp [okE, hp, h3]), fun k hk => ?_, .inr ⟨rfl, by omega, hs, h3⟩⟩
  rw [seen_put (valid_srt hv), if_neg hk]
theorem see_err {l r1 : List Lt} {t s r2 r3 : Int} (h : seeL l t s = (r1, r2, r3)) (h3 : r3 ≠ 0) : r1 = [] := by
  rcases see_cases l t s with e | e | e | ⟨e, _⟩ <;> rw [e] at h <;> cases h
  · rfl
  · exact absurd rfl h3
  · exact absurd rfl h3
  · exact absurd rfl h3
end Go.Lg
namespace Go.Proofs.Ytjlfpofgiicmcaa
open Go.RowKit Go.Bs Go.Cl Go.Rw Go.Lg

set_option maxRecDepth 100000 in
set_option maxHeartbeats 4000000 in
theorem others_any (v : Value) (l : List Lt) (z : Lt) (w : World) (h : SlL w v l) (hf : fitsL z) :
    Calls Try.prog 4 #[v, .agg #[.int .i64 z.t, .int .i64 z.q]] w fun e w' => e = .returned (.bool true) ∧ Below w.heap.size w w' := by
  have hal : ∀ o : Obj, Below w.heap.size w (w.alloc o) := fun o => (Below.refl _ _).alloc (Nat.le_refl _) o
  obtain ⟨a, cap, rfl⟩ := Raw.slice h
  have H := Lib.hid h; clear h
  obtain ⟨hf1, hf2, hf3, hf4⟩ := hf
  by_cases hbig : 40 < l.length
  · have g1 : (40 : Int) < l.length := by omega
    go_enter Try.func4, Try.ntmps4
    go_wp2_with fail
    refine (awake_any _).mono ?_
    rintro e w1 ⟨rfl, hb1⟩
    have hbel1 : Below w.heap.size w w1 := (hal _).trans (hb1.mono (by simp))
    go_wp2
    go_ret
    exact ⟨rfl, hbel1⟩
  have g1 : (l.length : Int) ≤ 40 := by omega
  have hl3 : l.length ≤ 1000 := by omega
  have hl6 : l.length ≤ 1000000 := by omega
  obtain ⟨r, hr⟩ : ∃ r, seeL l z.t z.q = r := ⟨_, rfl⟩
  obtain ⟨r1, r2, r3⟩ := r
  have hok : r3 = 0 → _ := fun h3 => see_ok (h3 ▸ hr)
  have herr : r3 ≠ 0 → _ := fun h3 => see_err hr h3
  have hr1 : r1.length ≤ 1000000 := by
    rcases see_cases l z.t z.q with e | e | e | ⟨e, hv, _⟩ <;> rw [e] at hr <;> cases hr
    · simp
    · exact hl6
    · exact hl6
    · have := put_len l ⟨z.t, z.q⟩ (valid_srt hv); omega
  have Hr := Lib.hid hr; clear hr
  have Hok := Lib.hid hok; clear hok
  have Herr := Lib.hid herr; clear herr
  go_enter Try.func4, Try.ntmps4
  go_wp2_with fail
  refine (awake_any _).mono ?_
  rintro e w1 ⟨rfl, hb1⟩
  have hw1 : w.heap.size < w1.heap.size := by have := hb1.size; simp at this; omega
  have hbel1 : Below w.heap.size w w1 := (hal _).trans (hb1.mono (by simp))
  obtain ⟨hc1, _⟩ := bcellN (N := w.heap.size + 1) hb1 (by simp)
  have c0 : w1.cell? ⟨w.heap.size, 0, none⟩ = some (.int .i64 z.t) := by go_simp
  have c1 : w1.cell? ⟨w.heap.size, 1, none⟩ = some (.int .i64 z.q) := by go_simp
  clear hc1 hb1
  go_wp2
  have hB1 : ∀ b ∈ [w.heap.size], ∃ c e f, w1.heap[b]? = some (.cells c e f) := fun b hb => by
    rw [List.mem_singleton.1 hb]
    exact Txt.cells_of c0
  refine Txt.wp_cut [2, 5] [w.heap.size] [3, 5] [] (by kernel_rfl) (by kernel_rfl) (by kernel_rfl) hB1 ?_
  simp only [Txt.wpCut, List.take_succ_cons, List.take_zero, List.drop_succ_cons, List.drop_zero]
  go_wp2_with (go_at_call 14; refine (to_any _ l _ hl6 (Raw.drew (H.out.below hbel1))).mono ?_; rintro e w2 ⟨v2, rfl, h2, hb2⟩)
  obtain ⟨a2, k2, rfl⟩ := Raw.slice h2
  have H2 := Lib.hid h2; clear h2
  have HS2 := Lib.hid (same_below (same_start hB1) hb2 (fun x hx => by rw [List.mem_singleton.1 hx]; exact hw1))
  refine Txt.SegPost.mk HS2.out ?_
  have hb2 : Below w1.heap.size w1 w2 := (Below.refl _ w1).drew.trans hb2
  have hbel2 := hbel1.trans (hb2.mono hbel1.size)
  have c0 : w2.cell? ⟨w.heap.size, 0, none⟩ = some (.int .i64 z.t) := (hb2.cell (p := ⟨w.heap.size, 0, none⟩) hw1).trans c0
  have c1 : w2.cell? ⟨w.heap.size, 1, none⟩ = some (.int .i64 z.q) := (hb2.cell (p := ⟨w.heap.size, 1, none⟩) hw1).trans c1
  have hw2 : w.heap.size < w2.heap.size := Nat.lt_of_lt_of_le hw1 hb2.size
  clear hb2
  go_wp2_with (go_at_call 9; refine (see_any _ l z.t z.q _ hl3 H2.out (by assumption) (by assumption)).mono ?_; rw [Hr.out]; rintro e w3 ⟨v3, rfl, h3, hb3⟩)
  obtain ⟨a3, k3, rfl⟩ := Raw.slice h3
  have H3 := Lib.hid h3; clear h3
  have HS3 := Lib.hid (same_below HS2.out hb3 (fun x hx => by rw [List.mem_singleton.1 hx]; exact hw2))
  refine Txt.SegPost.mk HS3.out ?_
  have hbel3 := hbel2.trans (hb3.mono hbel2.size)
  have c0 : w3.cell? ⟨w.heap.size, 0, none⟩ = some (.int .i64 z.t) := (hb3.cell (p := ⟨w.heap.size, 0, none⟩) hw2).trans c0
  have c1 : w3.cell? ⟨w.heap.size, 1, none⟩ = some (.int .i64 z.q) := (hb3.cell (p := ⟨w.heap.size, 1, none⟩) hw2).trans c1
  have hw3 : w.heap.size < w3.heap.size := Nat.lt_of_lt_of_le hw2 hb3.size
  clear hb3 HS2 HS3
  go_wp2
  refine Txt.DrawPost.mk (by rfl) ⟨.head _, .head _, trivial⟩ ?_
  by_cases h3 : r3 = 0
  · subst h3
    obtain ⟨hv, ho, hs⟩ := Hok.out rfl
    have Hv := Lib.hid hv; clear hv
    have Ho := Lib.hid ho; clear ho
    have Hs := Lib.hid hs; clear hs
    go_wp2
    go_loopw [8] (fun i wr => ∃ (k : Nat), k ≤ 32 ∧ i = .int .i64 k ∧ SlL wr (.slice a3 r1.length k3) r1 ∧ wr.cell? ⟨w.heap.size, 0, none⟩ = some (.int .i64 z.t) ∧ Below w.heap.size w wr ∧ w.heap.size < wr.heap.size) (fun i _ => 32 - (intOf i).toNat)
    case atStart => exact ⟨0, Nat.zero_le _, rfl, H3.out, c0, hbel3, hw3⟩
    case round =>
      obtain ⟨k, hk, rfl, h3, c0, hbel, hsz⟩ := hrel
      have HR := Lib.hid h3; clear h3
      clear c1
      by_cases hlt : k < 32
      · have hlt' : (k : Int) < 32 := by omega
        go_wp2_with fail
        refine (to_any _ l _ hl6 (H.out.below hbel)).mono ?_
        rintro e w4 ⟨v4, rfl, h4, hb4⟩
        obtain ⟨a4, k4, rfl⟩ := Raw.slice h4
        have H4 := Lib.hid h4; clear h4
        have hbel4 := hbel.trans (hb4.mono hbel.size)
        have HR4 := Lib.hid (HR.out.below hb4)
        have c0 : w4.cell? ⟨w.heap.size, 0, none⟩ = some (.int .i64 z.t) := (hb4.cell (p := ⟨w.heap.size, 0, none⟩) hsz).trans c0
        have hw4 : w.heap.size < w4.heap.size := Nat.lt_of_lt_of_le hsz hb4.size
        clear hb4
        obtain ⟨A, hA⟩ : ∃ A, seenL l k = A := ⟨_, rfl⟩
        obtain ⟨B, hB⟩ : ∃ B, seenL r1 k = B := ⟨_, rfl⟩
        have HA := Lib.hid hA; clear hA
        have HB := Lib.hid hB; clear hB
        go_wp2_with fail
        refine (seen_eq hl6 H4.out HA.out).mono ?_
        rintro e w5 ⟨rfl, hb5⟩
        have hbel5 := hbel4.trans (hb5.mono hbel4.size)
        have HR5 := Lib.hid (HR4.out.below hb5)
        have c0 : w5.cell? ⟨w.heap.size, 0, none⟩ = some (.int .i64 z.t) := (hb5.cell (p := ⟨w.heap.size, 0, none⟩) hw4).trans c0
        have hw5 : w.heap.size < w5.heap.size := Nat.lt_of_lt_of_le hw4 hb5.size
        clear hb5
        go_wp2_with fail
        refine (seen_eq hr1 HR5.out HB.out).mono ?_
        rintro e w6 ⟨rfl, hb6⟩
        have hbel6 := hbel5.trans (hb6.mono hbel5.size)
        have HR6 := Lib.hid (HR5.out.below hb6)
        have c0 : w6.cell? ⟨w.heap.size, 0, none⟩ = some (.int .i64 z.t) := (hb6.cell (p := ⟨w.heap.size, 0, none⟩) hw5).trans c0
        have hw6 : w.heap.size < w6.heap.size := Nat.lt_of_lt_of_le hw5 hb6.size
        clear hb6
        have hcase : ((k : Int) ≠ z.t ∧ B = A) ∨ ((k : Int) = z.t ∧ B = A) ∨ ((k : Int) = z.t ∧ r2 = 1 ∧ B = A + 1 ∧ A < 9223372036854775807 ∧ -9223372036854775808 ≤ A) := by
          by_cases e : (k : Int) = z.t
          · rcases Hs.out with hs | ⟨hs, hs'⟩
            · exact .inr (.inl ⟨e, by rw [← HA.out, ← HB.out, e]; exact hs⟩)
            · refine .inr (.inr ⟨e, hs, by rw [← HA.out, ← HB.out, e]; exact hs'.1, ?_⟩)
              have h1 := hs'.1
              have h2 := hs'.2.1
              have h3 := hs'.2.2
              rw [← HA.out, e]
              omega
          · exact .inl ⟨e, by rw [← HA.out, ← HB.out]; exact Ho.out _ e⟩
        have hlt2 := hlt'
        rcases hcase with ⟨h1, rfl⟩ | ⟨h1, rfl⟩ | ⟨h1, rfl, rfl, h2, h3⟩
        · go_wp2
          go_roundw
          · exact ⟨k + 1, hlt, by simp, HR6.out, c0, hbel6, hw6⟩
          · simp only [intOf]
            omega
        · go_wp2
          go_roundw
          · exact ⟨k + 1, hlt, by simp; omega, HR6.out, c0, hbel6, hw6⟩
          · simp only [intOf]
            omega
        · go_wp2
          go_roundw
          · exact ⟨k + 1, hlt, by simp; omega, HR6.out, c0, hbel6, hw6⟩
          · simp only [intOf]
            omega
      · have hk' : k = 32 := by omega
        subst hk'
        go_wp2_with fail
        refine (valid_eq hr1 HR.out Hv.out).mono ?_
        rintro e w4 ⟨rfl, hb4⟩
        have hbel4 := hbel.trans (hb4.mono hbel.size)
        go_wp2
        go_ret
        exact ⟨rfl, hbel4⟩
  · obtain rfl := Herr.out h3
    go_wp2
    go_ret
    exact ⟨rfl, hbel3⟩
end Go.Proofs.Ytjlfpofgiicmcaa
