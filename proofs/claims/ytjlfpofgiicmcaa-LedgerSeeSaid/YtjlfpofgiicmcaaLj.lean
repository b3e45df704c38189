/- Ledger: the walk of LedgerSee -/
import Derived.Test.YtjlfpofgiicmcaaLg
namespace Go.Proofs.Ytjlfpofgiicmcaa
open Go.RowKit Go.Bs Go.Cl Go.Rw Go.Lg
theorem valid_eq' {v : Value} {l : List Lt} {w : World} {r : Bool} (hl : l.length ≤ 1000000) (h : SlL w v l) (hr : validL l = r) : Calls Try.prog 15 #[v] w fun e w' => e = .returned (.bool r) ∧ Below w.heap.size w w' := hr ▸ valid_any v l w hl h
theorem eq_eq {v1 v2 : Value} {l m : List Lt} {w : World} {r : Bool} (hl : l.length ≤ 1000000) (hm : m.length ≤ 1000000) (h1 : SlL w v1 l) (h2 : SlL w v2 m) (hr : eqL l m = r) : Calls Try.prog 18 #[v1, v2] w fun e w' => e = .returned (.bool r) ∧ Below w.heap.size w w' := hr ▸ equal_any v1 v2 l m w hl hm h1 h2
theorem req_eq {v1 v2 : Value} {l m : List Lt} {w : World} {r : Bool} (hl : l.length ≤ 1000000) (hm : m.length ≤ 1000000) (h1 : SlL w v1 l) (h2 : SlL w v2 m) (hr : eqL l m = r) : Calls Try.prog 11 #[v1, v2] w fun e w' => e = .returned (.bool r) ∧ Below w.heap.size w w' := hr ▸ requal_any v1 v2 l m w hl hm h1 h2

set_option maxRecDepth 100000 in
set_option maxHeartbeats 8000000 in
theorem lsee_any (v u : Value) (l m : List Lt) (z : Lt) (w : World) (h : SlL w v l) (hm : SlL w u m) (hf : fitsL z) :
    Calls Try.prog 5 #[v, u, .agg #[.int .i64 z.t, .int .i64 z.q]] w fun e w' => e = .returned (.bool true) ∧ Below w.heap.size w w' := by
  have hal : ∀ o : Obj, Below w.heap.size w (w.alloc o) := fun o => (Below.refl _ _).alloc (Nat.le_refl _) o
  obtain ⟨a, cap, rfl⟩ := Raw.slice h
  obtain ⟨am, capm, rfl⟩ := Raw.slice hm
  have H := Lib.hid h; clear h
  have M := Lib.hid hm; clear hm
  obtain ⟨hf1, hf2, hf3, hf4⟩ := hf
  have hskip : (40 < l.length ∨ 40 < m.length) → Calls Try.prog 5 #[.slice a l.length cap, .slice am m.length capm, .agg #[.int .i64 z.t, .int .i64 z.q]] w fun e w' => e = .returned (.bool true) ∧ Below w.heap.size w w' := fun hbig => by
    by_cases h1 : 40 < l.length
    · have g1 : (40 : Int) < l.length := by omega
      clear hbig
      go_enter Try.func5, Try.ntmps5
      go_wp2_with fail
      refine (awake_any _).mono ?_
      rintro e w1 ⟨rfl, hb1⟩
      have hbel1 : Below w.heap.size w w1 := (hal _).trans (hb1.mono (by simp))
      go_wp2
      go_ret
      exact ⟨rfl, hbel1⟩
    · have g1 : (l.length : Int) ≤ 40 := by omega
      have g2 : (40 : Int) < m.length := by omega
      clear hbig
      go_enter Try.func5, Try.ntmps5
      go_wp2_with fail
      refine (awake_any _).mono ?_
      rintro e w1 ⟨rfl, hb1⟩
      have hbel1 : Below w.heap.size w w1 := (hal _).trans (hb1.mono (by simp))
      go_wp2
      go_ret
      exact ⟨rfl, hbel1⟩
  by_cases hbig : 40 < l.length ∨ 40 < m.length
  · exact hskip hbig
  clear hskip
  have g1 : (l.length : Int) ≤ 40 := by omega
  have g2 : (m.length : Int) ≤ 40 := by omega
  have hl3 : l.length ≤ 1000 := by omega
  have hl6 : l.length ≤ 1000000 := by omega
  have hm6 : m.length ≤ 1000000 := by omega
  clear hbig
  obtain ⟨r, hr⟩ : ∃ r, seeL l z.t z.q = r := ⟨_, rfl⟩
  obtain ⟨r1, r2, r3⟩ := r
  have hr1 : r1.length ≤ 1000000 := by
    rcases see_cases l z.t z.q with e | e | e | ⟨e, hv, _⟩ <;> rw [e] at hr <;> cases hr
    · simp
    · exact hl6
    · exact hl6
    · have := put_len l ⟨z.t, z.q⟩ (valid_srt hv); omega
  have Hr := Lib.hid hr; clear hr
  obtain ⟨V, hV⟩ : ∃ V, validL l = V := ⟨_, rfl⟩
  obtain ⟨E, hE⟩ : ∃ E, eqL l m = E := ⟨_, rfl⟩
  obtain ⟨S, hS⟩ : ∃ S, seenL l z.t = S := ⟨_, rfl⟩
  have HV := Lib.hid hV; clear hV
  have HE := Lib.hid hE; clear hE
  have HSn := Lib.hid hS; clear hS
  go_enter Try.func5, Try.ntmps5
  go_wp2_with fail
  refine (awake_any _).mono ?_
  rintro e w1 ⟨rfl, hb1⟩
  have hw1 : w.heap.size < w1.heap.size := by have := hb1.size; simp at this; omega
  have hbel1 : Below w.heap.size w w1 := (hal _).trans (hb1.mono (by simp))
  obtain ⟨hc1, _⟩ := bcellN (N := w.heap.size + 1) hb1 (by simp)
  have c0 : w1.cell? ⟨w.heap.size, 0, none⟩ = some (.int .i64 z.t) := by go_simp
  have c1 : w1.cell? ⟨w.heap.size, 1, none⟩ = some (.int .i64 z.q) := by go_simp
  clear hc1 hb1
  have X1 := Lib.hid (H.out.below hbel1)
  have Y1 := Lib.hid (M.out.below hbel1)
  go_wp2_with fail
  refine (to_any _ l _ hl6 X1.out).mono ?_
  rintro e w2 ⟨v2, rfl, h2, hb2⟩
  obtain ⟨at2, kt2, rfl⟩ := Raw.slice h2
  have T2 := Lib.hid h2; clear h2
  have hbel2 := hbel1.trans (hb2.mono hbel1.size)
  have X2 := Lib.hid (X1.out.below hb2)
  have Y2 := Lib.hid (Y1.out.below hb2)
  clear X1 Y1
  have c0 : w2.cell? ⟨w.heap.size, 0, none⟩ = some (.int .i64 z.t) := (hb2.cell (p := ⟨w.heap.size, 0, none⟩) hw1).trans c0
  have c1 : w2.cell? ⟨w.heap.size, 1, none⟩ = some (.int .i64 z.q) := (hb2.cell (p := ⟨w.heap.size, 1, none⟩) hw1).trans c1
  have hw2 : w.heap.size < w2.heap.size := Nat.lt_of_lt_of_le hw1 hb2.size
  clear hb2 hw1
  go_wp2_with fail
  refine (see_any _ l z.t z.q _ hl3 T2.out (by assumption) (by assumption)).mono ?_
  rw [Hr.out]
  rintro e w3 ⟨v3, rfl, h3, hb3⟩
  obtain ⟨a3, k3, rfl⟩ := Raw.slice h3
  have A3 := Lib.hid h3; clear h3
  have hbel3 := hbel2.trans (hb3.mono hbel2.size)
  have X3 := Lib.hid (X2.out.below hb3)
  have Y3 := Lib.hid (Y2.out.below hb3)
  have T3 := Lib.hid (T2.out.below hb3)
  clear X2 Y2 T2
  have c0 : w3.cell? ⟨w.heap.size, 0, none⟩ = some (.int .i64 z.t) := (hb3.cell (p := ⟨w.heap.size, 0, none⟩) hw2).trans c0
  have c1 : w3.cell? ⟨w.heap.size, 1, none⟩ = some (.int .i64 z.q) := (hb3.cell (p := ⟨w.heap.size, 1, none⟩) hw2).trans c1
  have hw3 : w.heap.size < w3.heap.size := Nat.lt_of_lt_of_le hw2 hb3.size
  clear hb3 hw2
  go_wp2_with fail
  refine (rsee_any _ l z.t z.q _ hl3 X3.out (by assumption) (by assumption)).mono ?_
  rw [Hr.out]
  rintro e w4 ⟨v4, rfl, h4, hb4⟩
  obtain ⟨a4, k4, rfl⟩ := Raw.slice h4
  have B4 := Lib.hid h4; clear h4
  have hbel4 := hbel3.trans (hb4.mono hbel3.size)
  have X4 := Lib.hid (X3.out.below hb4)
  have Y4 := Lib.hid (Y3.out.below hb4)
  have T4 := Lib.hid (T3.out.below hb4)
  have A4 := Lib.hid (A3.out.below hb4)
  clear X3 Y3 T3 A3
  have c0 : w4.cell? ⟨w.heap.size, 0, none⟩ = some (.int .i64 z.t) := (hb4.cell (p := ⟨w.heap.size, 0, none⟩) hw3).trans c0
  have c1 : w4.cell? ⟨w.heap.size, 1, none⟩ = some (.int .i64 z.q) := (hb4.cell (p := ⟨w.heap.size, 1, none⟩) hw3).trans c1
  have hw4 : w.heap.size < w4.heap.size := Nat.lt_of_lt_of_le hw3 hb4.size
  clear hb4 hw3
  go_wp2
  have hB : ∀ b ∈ [w.heap.size], ∃ c e f, w4.heap[b]? = some (.cells c e f) := fun b hb => by
    rw [List.mem_singleton.1 hb]
    exact Txt.cells_of c0
  refine Txt.wp_cut [11, 2, 4, 2, 4, 2, 7, 4, 6, 1, 3] [w.heap.size] [34] [] (by kernel_rfl) (by kernel_rfl) (by kernel_rfl) hB ?_
  simp only [Txt.wpCut, List.take_succ_cons, List.take_zero, List.drop_succ_cons, List.drop_zero]
  go_wp2_with (go_at_call 12; refine (from_any _ r1 _ hr1 (Raw.drew A4.out)).mono ?_; rintro e w5 ⟨v5, rfl, h5, hb5⟩)
  obtain ⟨a5, k5, rfl⟩ := Raw.slice h5
  have C5 := Lib.hid h5; clear h5
  have HS5 := Lib.hid (same_below (same_start hB) hb5 (fun x hx => by rw [List.mem_singleton.1 hx]; exact hw4))
  refine Txt.SegPost.mk HS5.out ?_
  have hb5 : Below w4.heap.size w4 w5 := (Below.refl _ w4).drew.trans hb5
  have hbel5 := hbel4.trans (hb5.mono hbel4.size)
  have X5 := Lib.hid (X4.out.below hb5)
  have Y5 := Lib.hid (Y4.out.below hb5)
  have T5 := Lib.hid (T4.out.below hb5)
  have B5 := Lib.hid (B4.out.below hb5)
  clear X4 Y4 T4 B4
  have c0 : w5.cell? ⟨w.heap.size, 0, none⟩ = some (.int .i64 z.t) := (hb5.cell (p := ⟨w.heap.size, 0, none⟩) hw4).trans c0
  have c1 : w5.cell? ⟨w.heap.size, 1, none⟩ = some (.int .i64 z.q) := (hb5.cell (p := ⟨w.heap.size, 1, none⟩) hw4).trans c1
  have hw5 : w.heap.size < w5.heap.size := Nat.lt_of_lt_of_le hw4 hb5.size
  clear hb5 hw4
  go_wp2_with (go_at_call 11; refine (requal_refl hr1 C5.out B5.out).mono ?_; rintro e w6 ⟨rfl, hb6⟩)
  have HS6 := Lib.hid (same_below HS5.out hb6 (fun x hx => by rw [List.mem_singleton.1 hx]; exact hw5))
  refine Txt.SegPost.mk HS6.out ?_
  clear HS5
  have hbel6 := hbel5.trans (hb6.mono hbel5.size)
  have X6 := Lib.hid (X5.out.below hb6)
  have Y6 := Lib.hid (Y5.out.below hb6)
  have T6 := Lib.hid (T5.out.below hb6)
  clear X5 Y5 T5
  have c0 : w6.cell? ⟨w.heap.size, 0, none⟩ = some (.int .i64 z.t) := (hb6.cell (p := ⟨w.heap.size, 0, none⟩) hw5).trans c0
  have c1 : w6.cell? ⟨w.heap.size, 1, none⟩ = some (.int .i64 z.q) := (hb6.cell (p := ⟨w.heap.size, 1, none⟩) hw5).trans c1
  have hw6 : w.heap.size < w6.heap.size := Nat.lt_of_lt_of_le hw5 hb6.size
  clear hb6 hw5
  go_wp2_with (go_at_call 12; refine (from_any _ l _ hl6 T6.out).mono ?_; rintro e w7 ⟨v7, rfl, h7, hb7⟩)
  obtain ⟨a7, k7, rfl⟩ := Raw.slice h7
  have C7 := Lib.hid h7; clear h7
  have HS7 := Lib.hid (same_below HS6.out hb7 (fun x hx => by rw [List.mem_singleton.1 hx]; exact hw6))
  refine Txt.SegPost.mk HS7.out ?_
  clear HS6
  have hbel7 := hbel6.trans (hb7.mono hbel6.size)
  have X7 := Lib.hid (X6.out.below hb7)
  have Y7 := Lib.hid (Y6.out.below hb7)
  have T7 := Lib.hid (T6.out.below hb7)
  clear X6 Y6 T6
  have c0 : w7.cell? ⟨w.heap.size, 0, none⟩ = some (.int .i64 z.t) := (hb7.cell (p := ⟨w.heap.size, 0, none⟩) hw6).trans c0
  have c1 : w7.cell? ⟨w.heap.size, 1, none⟩ = some (.int .i64 z.q) := (hb7.cell (p := ⟨w.heap.size, 1, none⟩) hw6).trans c1
  have hw7 : w.heap.size < w7.heap.size := Nat.lt_of_lt_of_le hw6 hb7.size
  clear hb7 hw6
  go_wp2_with (go_at_call 11; refine (requal_refl hl6 C7.out X7.out).mono ?_; rintro e w8 ⟨rfl, hb8⟩)
  have HS8 := Lib.hid (same_below HS7.out hb8 (fun x hx => by rw [List.mem_singleton.1 hx]; exact hw7))
  refine Txt.SegPost.mk HS8.out ?_
  clear HS7
  have hbel8 := hbel7.trans (hb8.mono hbel7.size)
  have X8 := Lib.hid (X7.out.below hb8)
  have Y8 := Lib.hid (Y7.out.below hb8)
  have T8 := Lib.hid (T7.out.below hb8)
  clear X7 Y7 T7
  have c0 : w8.cell? ⟨w.heap.size, 0, none⟩ = some (.int .i64 z.t) := (hb8.cell (p := ⟨w.heap.size, 0, none⟩) hw7).trans c0
  have c1 : w8.cell? ⟨w.heap.size, 1, none⟩ = some (.int .i64 z.q) := (hb8.cell (p := ⟨w.heap.size, 1, none⟩) hw7).trans c1
  have hw8 : w.heap.size < w8.heap.size := Nat.lt_of_lt_of_le hw7 hb8.size
  clear hb8 hw7
  go_wp2_with (go_at_call 15; refine (valid_eq' hl6 T8.out HV.out).mono ?_; rintro e w9 ⟨rfl, hb9⟩)
  have HS9 := Lib.hid (same_below HS8.out hb9 (fun x hx => by rw [List.mem_singleton.1 hx]; exact hw8))
  refine Txt.SegPost.mk HS9.out ?_
  clear HS8
  have hbel9 := hbel8.trans (hb9.mono hbel8.size)
  have X9 := Lib.hid (X8.out.below hb9)
  have Y9 := Lib.hid (Y8.out.below hb9)
  have T9 := Lib.hid (T8.out.below hb9)
  clear X8 Y8 T8
  have c0 : w9.cell? ⟨w.heap.size, 0, none⟩ = some (.int .i64 z.t) := (hb9.cell (p := ⟨w.heap.size, 0, none⟩) hw8).trans c0
  have c1 : w9.cell? ⟨w.heap.size, 1, none⟩ = some (.int .i64 z.q) := (hb9.cell (p := ⟨w.heap.size, 1, none⟩) hw8).trans c1
  have hw9 : w.heap.size < w9.heap.size := Nat.lt_of_lt_of_le hw8 hb9.size
  clear hb9 hw8
  go_wp2_with (go_at_call 16; refine (rvalid_eq hl6 X9.out HV.out).mono ?_; rintro e w10 ⟨rfl, hb10⟩)
  have HS10 := Lib.hid (same_below HS9.out hb10 (fun x hx => by rw [List.mem_singleton.1 hx]; exact hw9))
  refine Txt.SegPost.mk HS10.out ?_
  clear HS9
  have hbel10 := hbel9.trans (hb10.mono hbel9.size)
  have X10 := Lib.hid (X9.out.below hb10)
  have Y10 := Lib.hid (Y9.out.below hb10)
  have T10 := Lib.hid (T9.out.below hb10)
  clear X9 Y9 T9
  have c0 : w10.cell? ⟨w.heap.size, 0, none⟩ = some (.int .i64 z.t) := (hb10.cell (p := ⟨w.heap.size, 0, none⟩) hw9).trans c0
  have c1 : w10.cell? ⟨w.heap.size, 1, none⟩ = some (.int .i64 z.q) := (hb10.cell (p := ⟨w.heap.size, 1, none⟩) hw9).trans c1
  have hw10 : w.heap.size < w10.heap.size := Nat.lt_of_lt_of_le hw9 hb10.size
  clear hb10 hw9
  go_wp2_with (go_at_call 13; refine (seen_eq hl6 T10.out HSn.out).mono ?_; rintro e w11 ⟨rfl, hb11⟩)
  have HS11 := Lib.hid (same_below HS10.out hb11 (fun x hx => by rw [List.mem_singleton.1 hx]; exact hw10))
  refine Txt.SegPost.mk HS11.out ?_
  clear HS10
  have hbel11 := hbel10.trans (hb11.mono hbel10.size)
  have X11 := Lib.hid (X10.out.below hb11)
  have Y11 := Lib.hid (Y10.out.below hb11)
  have T11 := Lib.hid (T10.out.below hb11)
  clear X10 Y10 T10
  have c0 : w11.cell? ⟨w.heap.size, 0, none⟩ = some (.int .i64 z.t) := (hb11.cell (p := ⟨w.heap.size, 0, none⟩) hw10).trans c0
  have c1 : w11.cell? ⟨w.heap.size, 1, none⟩ = some (.int .i64 z.q) := (hb11.cell (p := ⟨w.heap.size, 1, none⟩) hw10).trans c1
  have hw11 : w.heap.size < w11.heap.size := Nat.lt_of_lt_of_le hw10 hb11.size
  clear hb11 hw10
  go_wp2_with (go_at_call 17; refine (rseen_eq hl6 X11.out HSn.out).mono ?_; rintro e w12 ⟨rfl, hb12⟩)
  have HS12 := Lib.hid (same_below HS11.out hb12 (fun x hx => by rw [List.mem_singleton.1 hx]; exact hw11))
  refine Txt.SegPost.mk HS12.out ?_
  clear HS11
  have hbel12 := hbel11.trans (hb12.mono hbel11.size)
  have X12 := Lib.hid (X11.out.below hb12)
  have Y12 := Lib.hid (Y11.out.below hb12)
  have T12 := Lib.hid (T11.out.below hb12)
  clear X11 Y11 T11
  have c0 : w12.cell? ⟨w.heap.size, 0, none⟩ = some (.int .i64 z.t) := (hb12.cell (p := ⟨w.heap.size, 0, none⟩) hw11).trans c0
  have c1 : w12.cell? ⟨w.heap.size, 1, none⟩ = some (.int .i64 z.q) := (hb12.cell (p := ⟨w.heap.size, 1, none⟩) hw11).trans c1
  have hw12 : w.heap.size < w12.heap.size := Nat.lt_of_lt_of_le hw11 hb12.size
  clear hb12 hw11
  go_wp2_with (go_at_call 14; refine (to_any _ m _ hm6 Y12.out).mono ?_; rintro e w13 ⟨v13, rfl, h13, hb13⟩)
  obtain ⟨a13, k13, rfl⟩ := Raw.slice h13
  have C13 := Lib.hid h13; clear h13
  have HS13 := Lib.hid (same_below HS12.out hb13 (fun x hx => by rw [List.mem_singleton.1 hx]; exact hw12))
  refine Txt.SegPost.mk HS13.out ?_
  clear HS12
  have hbel13 := hbel12.trans (hb13.mono hbel12.size)
  have X13 := Lib.hid (X12.out.below hb13)
  have Y13 := Lib.hid (Y12.out.below hb13)
  have T13 := Lib.hid (T12.out.below hb13)
  clear X12 Y12 T12
  have c0 : w13.cell? ⟨w.heap.size, 0, none⟩ = some (.int .i64 z.t) := (hb13.cell (p := ⟨w.heap.size, 0, none⟩) hw12).trans c0
  have c1 : w13.cell? ⟨w.heap.size, 1, none⟩ = some (.int .i64 z.q) := (hb13.cell (p := ⟨w.heap.size, 1, none⟩) hw12).trans c1
  have hw13 : w.heap.size < w13.heap.size := Nat.lt_of_lt_of_le hw12 hb13.size
  clear hb13 hw12
  go_wp2_with (go_at_call 18; refine (eq_eq hl6 hm6 T13.out C13.out HE.out).mono ?_; rintro e w14 ⟨rfl, hb14⟩)
  have HS14 := Lib.hid (same_below HS13.out hb14 (fun x hx => by rw [List.mem_singleton.1 hx]; exact hw13))
  refine Txt.SegPost.mk HS14.out ?_
  clear HS13
  have hbel14 := hbel13.trans (hb14.mono hbel13.size)
  have X14 := Lib.hid (X13.out.below hb14)
  have Y14 := Lib.hid (Y13.out.below hb14)
  clear X13 Y13
  have c0 : w14.cell? ⟨w.heap.size, 0, none⟩ = some (.int .i64 z.t) := (hb14.cell (p := ⟨w.heap.size, 0, none⟩) hw13).trans c0
  have c1 : w14.cell? ⟨w.heap.size, 1, none⟩ = some (.int .i64 z.q) := (hb14.cell (p := ⟨w.heap.size, 1, none⟩) hw13).trans c1
  have hw14 : w.heap.size < w14.heap.size := Nat.lt_of_lt_of_le hw13 hb14.size
  clear hb14 hw13
  go_wp2_with (go_at_call 11; refine (req_eq hl6 hm6 X14.out Y14.out HE.out).mono ?_; rintro e w15 ⟨rfl, hb15⟩)
  have HS15 := Lib.hid (same_below HS14.out hb15 (fun x hx => by rw [List.mem_singleton.1 hx]; exact hw14))
  refine Txt.SegPost.mk HS15.out ?_
  clear HS14
  have hbel15 := hbel14.trans (hb15.mono hbel14.size)
  have c0 : w15.cell? ⟨w.heap.size, 0, none⟩ = some (.int .i64 z.t) := (hb15.cell (p := ⟨w.heap.size, 0, none⟩) hw14).trans c0
  have c1 : w15.cell? ⟨w.heap.size, 1, none⟩ = some (.int .i64 z.q) := (hb15.cell (p := ⟨w.heap.size, 1, none⟩) hw14).trans c1
  have hw15 : w.heap.size < w15.heap.size := Nat.lt_of_lt_of_le hw14 hb15.size
  clear hb15 hw14
  go_wp2
  refine Txt.DrawPost.mk (by rfl) ⟨.head _, trivial⟩ ?_
  go_wp2
  go_ret
  exact ⟨rfl, hbel15⟩
end Go.Proofs.Ytjlfpofgiicmcaa
