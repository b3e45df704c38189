/- Space: the walk of SpaceAnyOrder -/
import Derived.Test.YtlomhelcphhinaaSq
import Derived.Test.YtlomhelcphhinaaSf
namespace Go.Proofs.Ytlomhelcphhinaa
open Go.RowKit Go.Bs Go.Sp Go.Cl

theorem own_form {w : World} {base e size : Nat} {v : Value} {n : Nat} {xs : List Value} (h : w.ownsRow base e size v n xs) : ∃ a c, v = .slice a n c := by
  rcases own_cases h with ⟨rfl, rfl, _⟩ | ⟨g, cap, rfl, _⟩
  · exact ⟨_, _, rfl⟩
  · exact ⟨_, _, rfl⟩
theorem below_at {B : Nat} {w w' : World} (h : Below B w w') (b j : Nat) (hb : b < B) : w'.cell? ⟨b, j, none⟩ = w.cell? ⟨b, j, none⟩ := h.cell (p := ⟨b, j, none⟩) hb

set_option maxRecDepth 100000 in
set_option maxHeartbeats 3200000 in
theorem anyOrder_any (v : Value) (l : List Ent) (xp xf yp yf : Int) (xw yw : Bool) (w : World) (hs : SlE w v l)
    (hx1 : -9223372036854775808 ≤ xp) (hx2 : xp ≤ 9223372036854775807) (hy1 : -9223372036854775808 ≤ yp) (hy2 : yp ≤ 9223372036854775807) :
    Calls Try.prog 7 #[v, .agg #[.int .i64 xp, .int .i64 xf, .bool xw], .agg #[.int .i64 yp, .int .i64 yf, .bool yw]] w fun e w' => e = .returned (.bool true) ∧ Below w.heap.size w w' := by
  have hal := fun o o2 => ((Below.refl w.heap.size w).alloc (Nat.le_refl _) o).alloc (show w.heap.size ≤ (w.alloc o).heap.size by simp) o2
  have Hs := Lib.hid hs
  obtain ⟨ad, cap, rfl, hcap, hxx⟩ := hs
  clear hxx

  by_cases hbad : 60 < l.length
  · have g1 : (60 : Int) < l.length := by omega
    go_enter Try.func7, Try.ntmps7
    go_wp2_with fail
    refine (awake_any _).mono ?_
    rintro e w1 ⟨rfl, hb1⟩
    have hw1 : w.heap.size + 1 < w1.heap.size := by have := hb1.size; simp at this; omega
    have hbel1 : Below w.heap.size w w1 := (hal _ _).trans (hb1.mono (by simp; omega))
    obtain ⟨hc1, hf1⟩ := bcellN (N := w.heap.size + 1 + 1) hb1 (by simp)
    have x0 : w1.cell? ⟨w.heap.size, 0, none⟩ = some (.int .i64 xp) := by go_simp
    have x1 : w1.cell? ⟨w.heap.size, 1, none⟩ = some (.int .i64 xf) := by go_simp
    have x2 : w1.cell? ⟨w.heap.size, 2, none⟩ = some (.bool xw) := by go_simp
    have y0 : w1.cell? ⟨w.heap.size + 1, 0, none⟩ = some (.int .i64 yp) := by go_simp
    have y1 : w1.cell? ⟨w.heap.size + 1, 1, none⟩ = some (.int .i64 yf) := by go_simp
    have y2 : w1.cell? ⟨w.heap.size + 1, 2, none⟩ = some (.bool yw) := by go_simp
    clear hc1 hf1 hb1
    go_wp2_with fail
    refine (awake_any _).mono ?_
    rintro e w9 ⟨rfl, hb9⟩
    have hfin := hbel1.trans (hb9.mono hbel1.size)
    go_wp2
    go_ret
    exact ⟨rfl, hfin⟩
  · have hl' : l.length ≤ 1000000 := by omega
    have g1 : (l.length : Int) ≤ 60 := by omega
    cases hv : validB l
    · have Hv := Lib.hid hv; clear hv
      go_enter Try.func7, Try.ntmps7
      go_wp2_with fail
      refine (awake_any _).mono ?_
      rintro e w1 ⟨rfl, hb1⟩
      have hw1 : w.heap.size + 1 < w1.heap.size := by have := hb1.size; simp at this; omega
      have hbel1 : Below w.heap.size w w1 := (hal _ _).trans (hb1.mono (by simp; omega))
      obtain ⟨hc1, hf1⟩ := bcellN (N := w.heap.size + 1 + 1) hb1 (by simp)
      have x0 : w1.cell? ⟨w.heap.size, 0, none⟩ = some (.int .i64 xp) := by go_simp
      have x1 : w1.cell? ⟨w.heap.size, 1, none⟩ = some (.int .i64 xf) := by go_simp
      have x2 : w1.cell? ⟨w.heap.size, 2, none⟩ = some (.bool xw) := by go_simp
      have y0 : w1.cell? ⟨w.heap.size + 1, 0, none⟩ = some (.int .i64 yp) := by go_simp
      have y1 : w1.cell? ⟨w.heap.size + 1, 1, none⟩ = some (.int .i64 yf) := by go_simp
      have y2 : w1.cell? ⟨w.heap.size + 1, 2, none⟩ = some (.bool yw) := by go_simp
      clear hc1 hf1 hb1
      go_wp2_with fail
      refine (rvalid_sl (Hs.out.below hbel1) hl').mono ?_
      rw [Hv.out]
      rintro e w2 ⟨rfl, hb2⟩
      have hw2 : w.heap.size + 1 < w2.heap.size := by have := hb2.size; omega
      have x0 : w2.cell? ⟨w.heap.size, 0, none⟩ = some (.int .i64 xp) := (below_at (hb2.mono (show w.heap.size + 1 + 1 ≤ w1.heap.size by omega)) (w.heap.size) 0 (by omega)).trans x0
      have x1 : w2.cell? ⟨w.heap.size, 1, none⟩ = some (.int .i64 xf) := (below_at (hb2.mono (show w.heap.size + 1 + 1 ≤ w1.heap.size by omega)) (w.heap.size) 1 (by omega)).trans x1
      have x2 : w2.cell? ⟨w.heap.size, 2, none⟩ = some (.bool xw) := (below_at (hb2.mono (show w.heap.size + 1 + 1 ≤ w1.heap.size by omega)) (w.heap.size) 2 (by omega)).trans x2
      have y0 : w2.cell? ⟨w.heap.size + 1, 0, none⟩ = some (.int .i64 yp) := (below_at (hb2.mono (show w.heap.size + 1 + 1 ≤ w1.heap.size by omega)) (w.heap.size + 1) 0 (by omega)).trans y0
      have y1 : w2.cell? ⟨w.heap.size + 1, 1, none⟩ = some (.int .i64 yf) := (below_at (hb2.mono (show w.heap.size + 1 + 1 ≤ w1.heap.size by omega)) (w.heap.size + 1) 1 (by omega)).trans y1
      have y2 : w2.cell? ⟨w.heap.size + 1, 2, none⟩ = some (.bool yw) := (below_at (hb2.mono (show w.heap.size + 1 + 1 ≤ w1.heap.size by omega)) (w.heap.size + 1) 2 (by omega)).trans y2
      have hbel2 := hbel1.trans (hb2.mono (by omega))
      clear hb2 hbel1 hw1
      go_wp2_with fail
      refine (awake_any _).mono ?_
      rintro e w9 ⟨rfl, hb9⟩
      have hfin := hbel2.trans (hb9.mono hbel2.size)
      go_wp2
      go_ret
      exact ⟨rfl, hfin⟩
    · by_cases hxy : xp = yp
      · have Hv := Lib.hid hv; clear hv
        go_enter Try.func7, Try.ntmps7
        go_wp2_with fail
        refine (awake_any _).mono ?_
        rintro e w1 ⟨rfl, hb1⟩
        have hw1 : w.heap.size + 1 < w1.heap.size := by have := hb1.size; simp at this; omega
        have hbel1 : Below w.heap.size w w1 := (hal _ _).trans (hb1.mono (by simp; omega))
        obtain ⟨hc1, hf1⟩ := bcellN (N := w.heap.size + 1 + 1) hb1 (by simp)
        have x0 : w1.cell? ⟨w.heap.size, 0, none⟩ = some (.int .i64 xp) := by go_simp
        have x1 : w1.cell? ⟨w.heap.size, 1, none⟩ = some (.int .i64 xf) := by go_simp
        have x2 : w1.cell? ⟨w.heap.size, 2, none⟩ = some (.bool xw) := by go_simp
        have y0 : w1.cell? ⟨w.heap.size + 1, 0, none⟩ = some (.int .i64 yp) := by go_simp
        have y1 : w1.cell? ⟨w.heap.size + 1, 1, none⟩ = some (.int .i64 yf) := by go_simp
        have y2 : w1.cell? ⟨w.heap.size + 1, 2, none⟩ = some (.bool yw) := by go_simp
        clear hc1 hf1 hb1
        go_wp2_with fail
        refine (rvalid_sl (Hs.out.below hbel1) hl').mono ?_
        rw [Hv.out]
        rintro e w2 ⟨rfl, hb2⟩
        have hw2 : w.heap.size + 1 < w2.heap.size := by have := hb2.size; omega
        have x0 : w2.cell? ⟨w.heap.size, 0, none⟩ = some (.int .i64 xp) := (below_at (hb2.mono (show w.heap.size + 1 + 1 ≤ w1.heap.size by omega)) (w.heap.size) 0 (by omega)).trans x0
        have x1 : w2.cell? ⟨w.heap.size, 1, none⟩ = some (.int .i64 xf) := (below_at (hb2.mono (show w.heap.size + 1 + 1 ≤ w1.heap.size by omega)) (w.heap.size) 1 (by omega)).trans x1
        have x2 : w2.cell? ⟨w.heap.size, 2, none⟩ = some (.bool xw) := (below_at (hb2.mono (show w.heap.size + 1 + 1 ≤ w1.heap.size by omega)) (w.heap.size) 2 (by omega)).trans x2
        have y0 : w2.cell? ⟨w.heap.size + 1, 0, none⟩ = some (.int .i64 yp) := (below_at (hb2.mono (show w.heap.size + 1 + 1 ≤ w1.heap.size by omega)) (w.heap.size + 1) 0 (by omega)).trans y0
        have y1 : w2.cell? ⟨w.heap.size + 1, 1, none⟩ = some (.int .i64 yf) := (below_at (hb2.mono (show w.heap.size + 1 + 1 ≤ w1.heap.size by omega)) (w.heap.size + 1) 1 (by omega)).trans y1
        have y2 : w2.cell? ⟨w.heap.size + 1, 2, none⟩ = some (.bool yw) := (below_at (hb2.mono (show w.heap.size + 1 + 1 ≤ w1.heap.size by omega)) (w.heap.size + 1) 2 (by omega)).trans y2
        have hbel2 := hbel1.trans (hb2.mono (by omega))
        clear hb2 hbel1 hw1
        go_wp2_with fail
        refine (awake_any _).mono ?_
        rintro e w9 ⟨rfl, hb9⟩
        have hfin := hbel2.trans (hb9.mono hbel2.size)
        go_wp2
        go_ret
        exact ⟨rfl, hfin⟩
      · have hxyb : (xp == yp) = false := by simpa using hxy
        have hsrt := valid_srt hv
        have Hsrt := Lib.hid hsrt; clear hsrt
        have hvx := fun h => ins_valid (x := ⟨xp, xf, xw⟩) hv h
        have hvy := fun h => ins_valid (x := ⟨yp, yf, yw⟩) hv h
        have Hvx := Lib.hid hvx; clear hvx
        have Hvy := Lib.hid hvy; clear hvy
        have Hv := Lib.hid hv; clear hv
        cases hox : properB xp xf
        all_goals cases hoy : properB yp yf
        · have hmx : mapE l ⟨xp, xf, xw⟩ = ([], 2) := by unfold mapE Ent.ok; rw [Hv.out, hox]; rfl
          have hmy : mapE l ⟨yp, yf, yw⟩ = ([], 2) := by unfold mapE Ent.ok; rw [Hv.out, hoy]; rfl
          have Hmx := Lib.hid hmx; clear hmx
          have Hmy := Lib.hid hmy; clear hmy
          clear hox hoy
          go_enter Try.func7, Try.ntmps7
          go_wp2_with fail
          refine (awake_any _).mono ?_
          rintro e w1 ⟨rfl, hb1⟩
          have hw1 : w.heap.size + 1 < w1.heap.size := by have := hb1.size; simp at this; omega
          have hbel1 : Below w.heap.size w w1 := (hal _ _).trans (hb1.mono (by simp; omega))
          obtain ⟨hc1, hf1⟩ := bcellN (N := w.heap.size + 1 + 1) hb1 (by simp)
          have x0 : w1.cell? ⟨w.heap.size, 0, none⟩ = some (.int .i64 xp) := by go_simp
          have x1 : w1.cell? ⟨w.heap.size, 1, none⟩ = some (.int .i64 xf) := by go_simp
          have x2 : w1.cell? ⟨w.heap.size, 2, none⟩ = some (.bool xw) := by go_simp
          have y0 : w1.cell? ⟨w.heap.size + 1, 0, none⟩ = some (.int .i64 yp) := by go_simp
          have y1 : w1.cell? ⟨w.heap.size + 1, 1, none⟩ = some (.int .i64 yf) := by go_simp
          have y2 : w1.cell? ⟨w.heap.size + 1, 2, none⟩ = some (.bool yw) := by go_simp
          clear hc1 hf1 hb1
          go_wp2_with fail
          refine (rvalid_sl (Hs.out.below hbel1) hl').mono ?_
          rw [Hv.out]
          rintro e w2 ⟨rfl, hb2⟩
          have hw2 : w.heap.size + 1 < w2.heap.size := by have := hb2.size; omega
          have x0 : w2.cell? ⟨w.heap.size, 0, none⟩ = some (.int .i64 xp) := (below_at (hb2.mono (show w.heap.size + 1 + 1 ≤ w1.heap.size by omega)) (w.heap.size) 0 (by omega)).trans x0
          have x1 : w2.cell? ⟨w.heap.size, 1, none⟩ = some (.int .i64 xf) := (below_at (hb2.mono (show w.heap.size + 1 + 1 ≤ w1.heap.size by omega)) (w.heap.size) 1 (by omega)).trans x1
          have x2 : w2.cell? ⟨w.heap.size, 2, none⟩ = some (.bool xw) := (below_at (hb2.mono (show w.heap.size + 1 + 1 ≤ w1.heap.size by omega)) (w.heap.size) 2 (by omega)).trans x2
          have y0 : w2.cell? ⟨w.heap.size + 1, 0, none⟩ = some (.int .i64 yp) := (below_at (hb2.mono (show w.heap.size + 1 + 1 ≤ w1.heap.size by omega)) (w.heap.size + 1) 0 (by omega)).trans y0
          have y1 : w2.cell? ⟨w.heap.size + 1, 1, none⟩ = some (.int .i64 yf) := (below_at (hb2.mono (show w.heap.size + 1 + 1 ≤ w1.heap.size by omega)) (w.heap.size + 1) 1 (by omega)).trans y1
          have y2 : w2.cell? ⟨w.heap.size + 1, 2, none⟩ = some (.bool yw) := (below_at (hb2.mono (show w.heap.size + 1 + 1 ≤ w1.heap.size by omega)) (w.heap.size + 1) 2 (by omega)).trans y2
          have hbel2 := hbel1.trans (hb2.mono (by omega))
          clear hb2 hbel1 hw1
          go_wp2
          have hB2 : ∀ b ∈ [w.heap.size], ∃ c e f, w2.heap[b]? = some (.cells c e f) := fun b hb => by
            rw [List.mem_singleton.1 hb]
            exact Txt.cells_of x0
          refine Txt.wp_cut [2, 2] [w.heap.size] [2] [] (by kernel_rfl) (by kernel_rfl) (by kernel_rfl) hB2 ?_
          simp only [Txt.wpCut, List.take_succ_cons, List.take_zero, List.drop_succ_cons, List.drop_zero]
          go_wp2_with (go_at_call 12; refine (to_sl _ l _ hl' (Hs.out.below (hbel2.drew))).mono ?_; rintro e w3 ⟨v3, rfl, hown, hb3⟩)
          have Hown3 := Lib.hid (SlE.of_own hown); clear hown
          have HS2 := Lib.hid (same_below (same_start hB2) hb3 (fun b hb => by rw [List.mem_singleton.1 hb]; simp; omega))
          refine Txt.SegPost.mk HS2.out ?_
          have hb3 := (Below.refl _ w2).drew.trans hb3
          have hw3 : w.heap.size + 1 < w3.heap.size := by have := hb3.size; omega
          have x0 : w3.cell? ⟨w.heap.size, 0, none⟩ = some (.int .i64 xp) := (below_at (hb3.mono (show w.heap.size + 1 + 1 ≤ w2.drew.heap.size by simp; omega)) (w.heap.size) 0 (by omega)).trans x0
          have x1 : w3.cell? ⟨w.heap.size, 1, none⟩ = some (.int .i64 xf) := (below_at (hb3.mono (show w.heap.size + 1 + 1 ≤ w2.drew.heap.size by simp; omega)) (w.heap.size) 1 (by omega)).trans x1
          have x2 : w3.cell? ⟨w.heap.size, 2, none⟩ = some (.bool xw) := (below_at (hb3.mono (show w.heap.size + 1 + 1 ≤ w2.drew.heap.size by simp; omega)) (w.heap.size) 2 (by omega)).trans x2
          have y0 : w3.cell? ⟨w.heap.size + 1, 0, none⟩ = some (.int .i64 yp) := (below_at (hb3.mono (show w.heap.size + 1 + 1 ≤ w2.drew.heap.size by simp; omega)) (w.heap.size + 1) 0 (by omega)).trans y0
          have y1 : w3.cell? ⟨w.heap.size + 1, 1, none⟩ = some (.int .i64 yf) := (below_at (hb3.mono (show w.heap.size + 1 + 1 ≤ w2.drew.heap.size by simp; omega)) (w.heap.size + 1) 1 (by omega)).trans y1
          have y2 : w3.cell? ⟨w.heap.size + 1, 2, none⟩ = some (.bool yw) := (below_at (hb3.mono (show w.heap.size + 1 + 1 ≤ w2.drew.heap.size by simp; omega)) (w.heap.size + 1) 2 (by omega)).trans y2
          have hbel3 := hbel2.trans (hb3.mono (by simp; omega))
          have hle3 : w2.heap.size ≤ w3.heap.size := by have := hb3.size; simpa using this
          go_wp2_with (go_at_call 20; refine (map_sl v3 l ⟨xp, xf, xw⟩ _ (by first | omega | exact HL.out) Hown3.out (by assumption) (by assumption)).mono ?_; rw [Hmx.out]; rintro e w4 ⟨v4, rfl, hown, hb4⟩)
          have Ha4 := Lib.hid hown; clear hown
          have hS2 := same_below HS2.out hb4 (fun b hb => by rw [List.mem_singleton.1 hb]; omega)
          refine Txt.SegPost.mk hS2 ?_
          have hw4 : w.heap.size + 1 < w4.heap.size := by have := hb4.size; omega
          have x0 : w4.cell? ⟨w.heap.size, 0, none⟩ = some (.int .i64 xp) := (below_at (hb4.mono (show w.heap.size + 1 + 1 ≤ w3.heap.size by omega)) (w.heap.size) 0 (by omega)).trans x0
          have x1 : w4.cell? ⟨w.heap.size, 1, none⟩ = some (.int .i64 xf) := (below_at (hb4.mono (show w.heap.size + 1 + 1 ≤ w3.heap.size by omega)) (w.heap.size) 1 (by omega)).trans x1
          have x2 : w4.cell? ⟨w.heap.size, 2, none⟩ = some (.bool xw) := (below_at (hb4.mono (show w.heap.size + 1 + 1 ≤ w3.heap.size by omega)) (w.heap.size) 2 (by omega)).trans x2
          have y0 : w4.cell? ⟨w.heap.size + 1, 0, none⟩ = some (.int .i64 yp) := (below_at (hb4.mono (show w.heap.size + 1 + 1 ≤ w3.heap.size by omega)) (w.heap.size + 1) 0 (by omega)).trans y0
          have y1 : w4.cell? ⟨w.heap.size + 1, 1, none⟩ = some (.int .i64 yf) := (below_at (hb4.mono (show w.heap.size + 1 + 1 ≤ w3.heap.size by omega)) (w.heap.size + 1) 1 (by omega)).trans y1
          have y2 : w4.cell? ⟨w.heap.size + 1, 2, none⟩ = some (.bool yw) := (below_at (hb4.mono (show w.heap.size + 1 + 1 ≤ w3.heap.size by omega)) (w.heap.size + 1) 2 (by omega)).trans y2
          have hbel4 := hbel3.trans (hb4.mono (by omega))
          clear hS2 HS2 hB2 hb4 hb3 hbel3 hbel2 Hown3
          go_wp2
          refine Txt.DrawPost.mk (by rfl) ⟨.head _, trivial⟩ ?_
          go_wp2
          have hB4 : ∀ b ∈ [w.heap.size + 1], ∃ c e f, w4.heap[b]? = some (.cells c e f) := fun b hb => by
            rw [List.mem_singleton.1 hb]
            exact Txt.cells_of y0
          refine Txt.wp_cut [2, 2] [w.heap.size + 1] [2] [] (by kernel_rfl) (by kernel_rfl) (by kernel_rfl) hB4 ?_
          simp only [Txt.wpCut, List.take_succ_cons, List.take_zero, List.drop_succ_cons, List.drop_zero]
          go_wp2_with (go_at_call 12; refine (to_sl _ l _ hl' (Hs.out.below (hbel4.drew))).mono ?_; rintro e w5 ⟨v5, rfl, hown, hb5⟩)
          have Hown5 := Lib.hid (SlE.of_own hown); clear hown
          have HS4 := Lib.hid (same_below (same_start hB4) hb5 (fun b hb => by rw [List.mem_singleton.1 hb]; simp; omega))
          refine Txt.SegPost.mk HS4.out ?_
          have hb5 := (Below.refl _ w4).drew.trans hb5
          have hw5 : w.heap.size + 1 < w5.heap.size := by have := hb5.size; omega
          have x0 : w5.cell? ⟨w.heap.size, 0, none⟩ = some (.int .i64 xp) := (below_at (hb5.mono (show w.heap.size + 1 + 1 ≤ w4.drew.heap.size by simp; omega)) (w.heap.size) 0 (by omega)).trans x0
          have x1 : w5.cell? ⟨w.heap.size, 1, none⟩ = some (.int .i64 xf) := (below_at (hb5.mono (show w.heap.size + 1 + 1 ≤ w4.drew.heap.size by simp; omega)) (w.heap.size) 1 (by omega)).trans x1
          have x2 : w5.cell? ⟨w.heap.size, 2, none⟩ = some (.bool xw) := (below_at (hb5.mono (show w.heap.size + 1 + 1 ≤ w4.drew.heap.size by simp; omega)) (w.heap.size) 2 (by omega)).trans x2
          have y0 : w5.cell? ⟨w.heap.size + 1, 0, none⟩ = some (.int .i64 yp) := (below_at (hb5.mono (show w.heap.size + 1 + 1 ≤ w4.drew.heap.size by simp; omega)) (w.heap.size + 1) 0 (by omega)).trans y0
          have y1 : w5.cell? ⟨w.heap.size + 1, 1, none⟩ = some (.int .i64 yf) := (below_at (hb5.mono (show w.heap.size + 1 + 1 ≤ w4.drew.heap.size by simp; omega)) (w.heap.size + 1) 1 (by omega)).trans y1
          have y2 : w5.cell? ⟨w.heap.size + 1, 2, none⟩ = some (.bool yw) := (below_at (hb5.mono (show w.heap.size + 1 + 1 ≤ w4.drew.heap.size by simp; omega)) (w.heap.size + 1) 2 (by omega)).trans y2
          have hbel5 := hbel4.trans (hb5.mono (by simp; omega))
          have hle5 : w4.heap.size ≤ w5.heap.size := by have := hb5.size; simpa using this
          have Ha5 := Lib.hid (own_below Ha4.out hb5 (by simp)); clear Ha4
          go_wp2_with (go_at_call 20; refine (map_sl v5 l ⟨yp, yf, yw⟩ _ (by first | omega | exact HL.out) Hown5.out (by assumption) (by assumption)).mono ?_; rw [Hmy.out]; rintro e w6 ⟨v6, rfl, hown, hb6⟩)
          have Hb6 := Lib.hid hown; clear hown
          have Ha6 := Lib.hid (own_below Ha5.out hb6 (Nat.le_refl _)); clear Ha5
          have hS4 := same_below HS4.out hb6 (fun b hb => by rw [List.mem_singleton.1 hb]; omega)
          refine Txt.SegPost.mk hS4 ?_
          have hw6 : w.heap.size + 1 < w6.heap.size := by have := hb6.size; omega
          have x0 : w6.cell? ⟨w.heap.size, 0, none⟩ = some (.int .i64 xp) := (below_at (hb6.mono (show w.heap.size + 1 + 1 ≤ w5.heap.size by omega)) (w.heap.size) 0 (by omega)).trans x0
          have x1 : w6.cell? ⟨w.heap.size, 1, none⟩ = some (.int .i64 xf) := (below_at (hb6.mono (show w.heap.size + 1 + 1 ≤ w5.heap.size by omega)) (w.heap.size) 1 (by omega)).trans x1
          have x2 : w6.cell? ⟨w.heap.size, 2, none⟩ = some (.bool xw) := (below_at (hb6.mono (show w.heap.size + 1 + 1 ≤ w5.heap.size by omega)) (w.heap.size) 2 (by omega)).trans x2
          have y0 : w6.cell? ⟨w.heap.size + 1, 0, none⟩ = some (.int .i64 yp) := (below_at (hb6.mono (show w.heap.size + 1 + 1 ≤ w5.heap.size by omega)) (w.heap.size + 1) 0 (by omega)).trans y0
          have y1 : w6.cell? ⟨w.heap.size + 1, 1, none⟩ = some (.int .i64 yf) := (below_at (hb6.mono (show w.heap.size + 1 + 1 ≤ w5.heap.size by omega)) (w.heap.size + 1) 1 (by omega)).trans y1
          have y2 : w6.cell? ⟨w.heap.size + 1, 2, none⟩ = some (.bool yw) := (below_at (hb6.mono (show w.heap.size + 1 + 1 ≤ w5.heap.size by omega)) (w.heap.size + 1) 2 (by omega)).trans y2
          have hbel6 := hbel5.trans (hb6.mono (by omega))
          clear hS4 HS4 hB4 hb6 hb5 hbel5 hbel4 Hown5
          go_wp2
          refine Txt.DrawPost.mk (by rfl) ⟨.head _, trivial⟩ ?_
          obtain ⟨a4, c4, rfl⟩ := own_form Ha6.out
          obtain ⟨a6, c6, rfl⟩ := own_form Hb6.out
          go_wp2
          go_ret
          exact ⟨rfl, hbel6⟩
        · have hmx : mapE l ⟨xp, xf, xw⟩ = ([], 2) := by unfold mapE Ent.ok; rw [Hv.out, hox]; rfl
          have hmy : mapE l ⟨yp, yf, yw⟩ = (insE l ⟨yp, yf, yw⟩, 0) := by unfold mapE Ent.ok; rw [Hv.out, hoy]; rfl
          have Hmx := Lib.hid hmx; clear hmx
          have Hmy := Lib.hid hmy; clear hmy
          clear hox hoy
          go_enter Try.func7, Try.ntmps7
          go_wp2_with fail
          refine (awake_any _).mono ?_
          rintro e w1 ⟨rfl, hb1⟩
          have hw1 : w.heap.size + 1 < w1.heap.size := by have := hb1.size; simp at this; omega
          have hbel1 : Below w.heap.size w w1 := (hal _ _).trans (hb1.mono (by simp; omega))
          obtain ⟨hc1, hf1⟩ := bcellN (N := w.heap.size + 1 + 1) hb1 (by simp)
          have x0 : w1.cell? ⟨w.heap.size, 0, none⟩ = some (.int .i64 xp) := by go_simp
          have x1 : w1.cell? ⟨w.heap.size, 1, none⟩ = some (.int .i64 xf) := by go_simp
          have x2 : w1.cell? ⟨w.heap.size, 2, none⟩ = some (.bool xw) := by go_simp
          have y0 : w1.cell? ⟨w.heap.size + 1, 0, none⟩ = some (.int .i64 yp) := by go_simp
          have y1 : w1.cell? ⟨w.heap.size + 1, 1, none⟩ = some (.int .i64 yf) := by go_simp
          have y2 : w1.cell? ⟨w.heap.size + 1, 2, none⟩ = some (.bool yw) := by go_simp
          clear hc1 hf1 hb1
          go_wp2_with fail
          refine (rvalid_sl (Hs.out.below hbel1) hl').mono ?_
          rw [Hv.out]
          rintro e w2 ⟨rfl, hb2⟩
          have hw2 : w.heap.size + 1 < w2.heap.size := by have := hb2.size; omega
          have x0 : w2.cell? ⟨w.heap.size, 0, none⟩ = some (.int .i64 xp) := (below_at (hb2.mono (show w.heap.size + 1 + 1 ≤ w1.heap.size by omega)) (w.heap.size) 0 (by omega)).trans x0
          have x1 : w2.cell? ⟨w.heap.size, 1, none⟩ = some (.int .i64 xf) := (below_at (hb2.mono (show w.heap.size + 1 + 1 ≤ w1.heap.size by omega)) (w.heap.size) 1 (by omega)).trans x1
          have x2 : w2.cell? ⟨w.heap.size, 2, none⟩ = some (.bool xw) := (below_at (hb2.mono (show w.heap.size + 1 + 1 ≤ w1.heap.size by omega)) (w.heap.size) 2 (by omega)).trans x2
          have y0 : w2.cell? ⟨w.heap.size + 1, 0, none⟩ = some (.int .i64 yp) := (below_at (hb2.mono (show w.heap.size + 1 + 1 ≤ w1.heap.size by omega)) (w.heap.size + 1) 0 (by omega)).trans y0
          have y1 : w2.cell? ⟨w.heap.size + 1, 1, none⟩ = some (.int .i64 yf) := (below_at (hb2.mono (show w.heap.size + 1 + 1 ≤ w1.heap.size by omega)) (w.heap.size + 1) 1 (by omega)).trans y1
          have y2 : w2.cell? ⟨w.heap.size + 1, 2, none⟩ = some (.bool yw) := (below_at (hb2.mono (show w.heap.size + 1 + 1 ≤ w1.heap.size by omega)) (w.heap.size + 1) 2 (by omega)).trans y2
          have hbel2 := hbel1.trans (hb2.mono (by omega))
          clear hb2 hbel1 hw1
          go_wp2
          have hB2 : ∀ b ∈ [w.heap.size], ∃ c e f, w2.heap[b]? = some (.cells c e f) := fun b hb => by
            rw [List.mem_singleton.1 hb]
            exact Txt.cells_of x0
          refine Txt.wp_cut [2, 2] [w.heap.size] [2] [] (by kernel_rfl) (by kernel_rfl) (by kernel_rfl) hB2 ?_
          simp only [Txt.wpCut, List.take_succ_cons, List.take_zero, List.drop_succ_cons, List.drop_zero]
          go_wp2_with (go_at_call 12; refine (to_sl _ l _ hl' (Hs.out.below (hbel2.drew))).mono ?_; rintro e w3 ⟨v3, rfl, hown, hb3⟩)
          have Hown3 := Lib.hid (SlE.of_own hown); clear hown
          have HS2 := Lib.hid (same_below (same_start hB2) hb3 (fun b hb => by rw [List.mem_singleton.1 hb]; simp; omega))
          refine Txt.SegPost.mk HS2.out ?_
          have hb3 := (Below.refl _ w2).drew.trans hb3
          have hw3 : w.heap.size + 1 < w3.heap.size := by have := hb3.size; omega
          have x0 : w3.cell? ⟨w.heap.size, 0, none⟩ = some (.int .i64 xp) := (below_at (hb3.mono (show w.heap.size + 1 + 1 ≤ w2.drew.heap.size by simp; omega)) (w.heap.size) 0 (by omega)).trans x0
          have x1 : w3.cell? ⟨w.heap.size, 1, none⟩ = some (.int .i64 xf) := (below_at (hb3.mono (show w.heap.size + 1 + 1 ≤ w2.drew.heap.size by simp; omega)) (w.heap.size) 1 (by omega)).trans x1
          have x2 : w3.cell? ⟨w.heap.size, 2, none⟩ = some (.bool xw) := (below_at (hb3.mono (show w.heap.size + 1 + 1 ≤ w2.drew.heap.size by simp; omega)) (w.heap.size) 2 (by omega)).trans x2
          have y0 : w3.cell? ⟨w.heap.size + 1, 0, none⟩ = some (.int .i64 yp) := (below_at (hb3.mono (show w.heap.size + 1 + 1 ≤ w2.drew.heap.size by simp; omega)) (w.heap.size + 1) 0 (by omega)).trans y0
          have y1 : w3.cell? ⟨w.heap.size + 1, 1, none⟩ = some (.int .i64 yf) := (below_at (hb3.mono (show w.heap.size + 1 + 1 ≤ w2.drew.heap.size by simp; omega)) (w.heap.size + 1) 1 (by omega)).trans y1
          have y2 : w3.cell? ⟨w.heap.size + 1, 2, none⟩ = some (.bool yw) := (below_at (hb3.mono (show w.heap.size + 1 + 1 ≤ w2.drew.heap.size by simp; omega)) (w.heap.size + 1) 2 (by omega)).trans y2
          have hbel3 := hbel2.trans (hb3.mono (by simp; omega))
          have hle3 : w2.heap.size ≤ w3.heap.size := by have := hb3.size; simpa using this
          go_wp2_with (go_at_call 20; refine (map_sl v3 l ⟨xp, xf, xw⟩ _ (by first | omega | exact HL.out) Hown3.out (by assumption) (by assumption)).mono ?_; rw [Hmx.out]; rintro e w4 ⟨v4, rfl, hown, hb4⟩)
          have Ha4 := Lib.hid hown; clear hown
          have hS2 := same_below HS2.out hb4 (fun b hb => by rw [List.mem_singleton.1 hb]; omega)
          refine Txt.SegPost.mk hS2 ?_
          have hw4 : w.heap.size + 1 < w4.heap.size := by have := hb4.size; omega
          have x0 : w4.cell? ⟨w.heap.size, 0, none⟩ = some (.int .i64 xp) := (below_at (hb4.mono (show w.heap.size + 1 + 1 ≤ w3.heap.size by omega)) (w.heap.size) 0 (by omega)).trans x0
          have x1 : w4.cell? ⟨w.heap.size, 1, none⟩ = some (.int .i64 xf) := (below_at (hb4.mono (show w.heap.size + 1 + 1 ≤ w3.heap.size by omega)) (w.heap.size) 1 (by omega)).trans x1
          have x2 : w4.cell? ⟨w.heap.size, 2, none⟩ = some (.bool xw) := (below_at (hb4.mono (show w.heap.size + 1 + 1 ≤ w3.heap.size by omega)) (w.heap.size) 2 (by omega)).trans x2
          have y0 : w4.cell? ⟨w.heap.size + 1, 0, none⟩ = some (.int .i64 yp) := (below_at (hb4.mono (show w.heap.size + 1 + 1 ≤ w3.heap.size by omega)) (w.heap.size + 1) 0 (by omega)).trans y0
          have y1 : w4.cell? ⟨w.heap.size + 1, 1, none⟩ = some (.int .i64 yf) := (below_at (hb4.mono (show w.heap.size + 1 + 1 ≤ w3.heap.size by omega)) (w.heap.size + 1) 1 (by omega)).trans y1
          have y2 : w4.cell? ⟨w.heap.size + 1, 2, none⟩ = some (.bool yw) := (below_at (hb4.mono (show w.heap.size + 1 + 1 ≤ w3.heap.size by omega)) (w.heap.size + 1) 2 (by omega)).trans y2
          have hbel4 := hbel3.trans (hb4.mono (by omega))
          clear hS2 HS2 hB2 hb4 hb3 hbel3 hbel2 Hown3
          go_wp2
          refine Txt.DrawPost.mk (by rfl) ⟨.head _, trivial⟩ ?_
          go_wp2
          have hB4 : ∀ b ∈ [w.heap.size + 1], ∃ c e f, w4.heap[b]? = some (.cells c e f) := fun b hb => by
            rw [List.mem_singleton.1 hb]
            exact Txt.cells_of y0
          refine Txt.wp_cut [2, 2] [w.heap.size + 1] [2] [] (by kernel_rfl) (by kernel_rfl) (by kernel_rfl) hB4 ?_
          simp only [Txt.wpCut, List.take_succ_cons, List.take_zero, List.drop_succ_cons, List.drop_zero]
          go_wp2_with (go_at_call 12; refine (to_sl _ l _ hl' (Hs.out.below (hbel4.drew))).mono ?_; rintro e w5 ⟨v5, rfl, hown, hb5⟩)
          have Hown5 := Lib.hid (SlE.of_own hown); clear hown
          have HS4 := Lib.hid (same_below (same_start hB4) hb5 (fun b hb => by rw [List.mem_singleton.1 hb]; simp; omega))
          refine Txt.SegPost.mk HS4.out ?_
          have hb5 := (Below.refl _ w4).drew.trans hb5
          have hw5 : w.heap.size + 1 < w5.heap.size := by have := hb5.size; omega
          have x0 : w5.cell? ⟨w.heap.size, 0, none⟩ = some (.int .i64 xp) := (below_at (hb5.mono (show w.heap.size + 1 + 1 ≤ w4.drew.heap.size by simp; omega)) (w.heap.size) 0 (by omega)).trans x0
          have x1 : w5.cell? ⟨w.heap.size, 1, none⟩ = some (.int .i64 xf) := (below_at (hb5.mono (show w.heap.size + 1 + 1 ≤ w4.drew.heap.size by simp; omega)) (w.heap.size) 1 (by omega)).trans x1
          have x2 : w5.cell? ⟨w.heap.size, 2, none⟩ = some (.bool xw) := (below_at (hb5.mono (show w.heap.size + 1 + 1 ≤ w4.drew.heap.size by simp; omega)) (w.heap.size) 2 (by omega)).trans x2
          have y0 : w5.cell? ⟨w.heap.size + 1, 0, none⟩ = some (.int .i64 yp) := (below_at (hb5.mono (show w.heap.size + 1 + 1 ≤ w4.drew.heap.size by simp; omega)) (w.heap.size + 1) 0 (by omega)).trans y0
          have y1 : w5.cell? ⟨w.heap.size + 1, 1, none⟩ = some (.int .i64 yf) := (below_at (hb5.mono (show w.heap.size + 1 + 1 ≤ w4.drew.heap.size by simp; omega)) (w.heap.size + 1) 1 (by omega)).trans y1
          have y2 : w5.cell? ⟨w.heap.size + 1, 2, none⟩ = some (.bool yw) := (below_at (hb5.mono (show w.heap.size + 1 + 1 ≤ w4.drew.heap.size by simp; omega)) (w.heap.size + 1) 2 (by omega)).trans y2
          have hbel5 := hbel4.trans (hb5.mono (by simp; omega))
          have hle5 : w4.heap.size ≤ w5.heap.size := by have := hb5.size; simpa using this
          have Ha5 := Lib.hid (own_below Ha4.out hb5 (by simp)); clear Ha4
          go_wp2_with (go_at_call 20; refine (map_sl v5 l ⟨yp, yf, yw⟩ _ (by first | omega | exact HL.out) Hown5.out (by assumption) (by assumption)).mono ?_; rw [Hmy.out]; rintro e w6 ⟨v6, rfl, hown, hb6⟩)
          have Hb6 := Lib.hid hown; clear hown
          have Ha6 := Lib.hid (own_below Ha5.out hb6 (Nat.le_refl _)); clear Ha5
          have hS4 := same_below HS4.out hb6 (fun b hb => by rw [List.mem_singleton.1 hb]; omega)
          refine Txt.SegPost.mk hS4 ?_
          have hw6 : w.heap.size + 1 < w6.heap.size := by have := hb6.size; omega
          have x0 : w6.cell? ⟨w.heap.size, 0, none⟩ = some (.int .i64 xp) := (below_at (hb6.mono (show w.heap.size + 1 + 1 ≤ w5.heap.size by omega)) (w.heap.size) 0 (by omega)).trans x0
          have x1 : w6.cell? ⟨w.heap.size, 1, none⟩ = some (.int .i64 xf) := (below_at (hb6.mono (show w.heap.size + 1 + 1 ≤ w5.heap.size by omega)) (w.heap.size) 1 (by omega)).trans x1
          have x2 : w6.cell? ⟨w.heap.size, 2, none⟩ = some (.bool xw) := (below_at (hb6.mono (show w.heap.size + 1 + 1 ≤ w5.heap.size by omega)) (w.heap.size) 2 (by omega)).trans x2
          have y0 : w6.cell? ⟨w.heap.size + 1, 0, none⟩ = some (.int .i64 yp) := (below_at (hb6.mono (show w.heap.size + 1 + 1 ≤ w5.heap.size by omega)) (w.heap.size + 1) 0 (by omega)).trans y0
          have y1 : w6.cell? ⟨w.heap.size + 1, 1, none⟩ = some (.int .i64 yf) := (below_at (hb6.mono (show w.heap.size + 1 + 1 ≤ w5.heap.size by omega)) (w.heap.size + 1) 1 (by omega)).trans y1
          have y2 : w6.cell? ⟨w.heap.size + 1, 2, none⟩ = some (.bool yw) := (below_at (hb6.mono (show w.heap.size + 1 + 1 ≤ w5.heap.size by omega)) (w.heap.size + 1) 2 (by omega)).trans y2
          have hbel6 := hbel5.trans (hb6.mono (by omega))
          clear hS4 HS4 hB4 hb6 hb5 hbel5 hbel4 Hown5
          go_wp2
          refine Txt.DrawPost.mk (by rfl) ⟨.head _, trivial⟩ ?_
          obtain ⟨a4, c4, rfl⟩ := own_form Ha6.out
          go_wp2
          go_ret
          exact ⟨rfl, hbel6⟩
        · have hmx : mapE l ⟨xp, xf, xw⟩ = (insE l ⟨xp, xf, xw⟩, 0) := by unfold mapE Ent.ok; rw [Hv.out, hox]; rfl
          have hmy : mapE l ⟨yp, yf, yw⟩ = ([], 2) := by unfold mapE Ent.ok; rw [Hv.out, hoy]; rfl
          have Hmx := Lib.hid hmx; clear hmx
          have Hmy := Lib.hid hmy; clear hmy
          clear hox hoy
          go_enter Try.func7, Try.ntmps7
          go_wp2_with fail
          refine (awake_any _).mono ?_
          rintro e w1 ⟨rfl, hb1⟩
          have hw1 : w.heap.size + 1 < w1.heap.size := by have := hb1.size; simp at this; omega
          have hbel1 : Below w.heap.size w w1 := (hal _ _).trans (hb1.mono (by simp; omega))
          obtain ⟨hc1, hf1⟩ := bcellN (N := w.heap.size + 1 + 1) hb1 (by simp)
          have x0 : w1.cell? ⟨w.heap.size, 0, none⟩ = some (.int .i64 xp) := by go_simp
          have x1 : w1.cell? ⟨w.heap.size, 1, none⟩ = some (.int .i64 xf) := by go_simp
          have x2 : w1.cell? ⟨w.heap.size, 2, none⟩ = some (.bool xw) := by go_simp
          have y0 : w1.cell? ⟨w.heap.size + 1, 0, none⟩ = some (.int .i64 yp) := by go_simp
          have y1 : w1.cell? ⟨w.heap.size + 1, 1, none⟩ = some (.int .i64 yf) := by go_simp
          have y2 : w1.cell? ⟨w.heap.size + 1, 2, none⟩ = some (.bool yw) := by go_simp
          clear hc1 hf1 hb1
          go_wp2_with fail
          refine (rvalid_sl (Hs.out.below hbel1) hl').mono ?_
          rw [Hv.out]
          rintro e w2 ⟨rfl, hb2⟩
          have hw2 : w.heap.size + 1 < w2.heap.size := by have := hb2.size; omega
          have x0 : w2.cell? ⟨w.heap.size, 0, none⟩ = some (.int .i64 xp) := (below_at (hb2.mono (show w.heap.size + 1 + 1 ≤ w1.heap.size by omega)) (w.heap.size) 0 (by omega)).trans x0
          have x1 : w2.cell? ⟨w.heap.size, 1, none⟩ = some (.int .i64 xf) := (below_at (hb2.mono (show w.heap.size + 1 + 1 ≤ w1.heap.size by omega)) (w.heap.size) 1 (by omega)).trans x1
          have x2 : w2.cell? ⟨w.heap.size, 2, none⟩ = some (.bool xw) := (below_at (hb2.mono (show w.heap.size + 1 + 1 ≤ w1.heap.size by omega)) (w.heap.size) 2 (by omega)).trans x2
          have y0 : w2.cell? ⟨w.heap.size + 1, 0, none⟩ = some (.int .i64 yp) := (below_at (hb2.mono (show w.heap.size + 1 + 1 ≤ w1.heap.size by omega)) (w.heap.size + 1) 0 (by omega)).trans y0
          have y1 : w2.cell? ⟨w.heap.size + 1, 1, none⟩ = some (.int .i64 yf) := (below_at (hb2.mono (show w.heap.size + 1 + 1 ≤ w1.heap.size by omega)) (w.heap.size + 1) 1 (by omega)).trans y1
          have y2 : w2.cell? ⟨w.heap.size + 1, 2, none⟩ = some (.bool yw) := (below_at (hb2.mono (show w.heap.size + 1 + 1 ≤ w1.heap.size by omega)) (w.heap.size + 1) 2 (by omega)).trans y2
          have hbel2 := hbel1.trans (hb2.mono (by omega))
          clear hb2 hbel1 hw1
          go_wp2
          have hB2 : ∀ b ∈ [w.heap.size], ∃ c e f, w2.heap[b]? = some (.cells c e f) := fun b hb => by
            rw [List.mem_singleton.1 hb]
            exact Txt.cells_of x0
          refine Txt.wp_cut [2, 2] [w.heap.size] [2] [] (by kernel_rfl) (by kernel_rfl) (by kernel_rfl) hB2 ?_
          simp only [Txt.wpCut, List.take_succ_cons, List.take_zero, List.drop_succ_cons, List.drop_zero]
          go_wp2_with (go_at_call 12; refine (to_sl _ l _ hl' (Hs.out.below (hbel2.drew))).mono ?_; rintro e w3 ⟨v3, rfl, hown, hb3⟩)
          have Hown3 := Lib.hid (SlE.of_own hown); clear hown
          have HS2 := Lib.hid (same_below (same_start hB2) hb3 (fun b hb => by rw [List.mem_singleton.1 hb]; simp; omega))
          refine Txt.SegPost.mk HS2.out ?_
          have hb3 := (Below.refl _ w2).drew.trans hb3
          have hw3 : w.heap.size + 1 < w3.heap.size := by have := hb3.size; omega
          have x0 : w3.cell? ⟨w.heap.size, 0, none⟩ = some (.int .i64 xp) := (below_at (hb3.mono (show w.heap.size + 1 + 1 ≤ w2.drew.heap.size by simp; omega)) (w.heap.size) 0 (by omega)).trans x0
          have x1 : w3.cell? ⟨w.heap.size, 1, none⟩ = some (.int .i64 xf) := (below_at (hb3.mono (show w.heap.size + 1 + 1 ≤ w2.drew.heap.size by simp; omega)) (w.heap.size) 1 (by omega)).trans x1
          have x2 : w3.cell? ⟨w.heap.size, 2, none⟩ = some (.bool xw) := (below_at (hb3.mono (show w.heap.size + 1 + 1 ≤ w2.drew.heap.size by simp; omega)) (w.heap.size) 2 (by omega)).trans x2
          have y0 : w3.cell? ⟨w.heap.size + 1, 0, none⟩ = some (.int .i64 yp) := (below_at (hb3.mono (show w.heap.size + 1 + 1 ≤ w2.drew.heap.size by simp; omega)) (w.heap.size + 1) 0 (by omega)).trans y0
          have y1 : w3.cell? ⟨w.heap.size + 1, 1, none⟩ = some (.int .i64 yf) := (below_at (hb3.mono (show w.heap.size + 1 + 1 ≤ w2.drew.heap.size by simp; omega)) (w.heap.size + 1) 1 (by omega)).trans y1
          have y2 : w3.cell? ⟨w.heap.size + 1, 2, none⟩ = some (.bool yw) := (below_at (hb3.mono (show w.heap.size + 1 + 1 ≤ w2.drew.heap.size by simp; omega)) (w.heap.size + 1) 2 (by omega)).trans y2
          have hbel3 := hbel2.trans (hb3.mono (by simp; omega))
          have hle3 : w2.heap.size ≤ w3.heap.size := by have := hb3.size; simpa using this
          go_wp2_with (go_at_call 20; refine (map_sl v3 l ⟨xp, xf, xw⟩ _ (by first | omega | exact HL.out) Hown3.out (by assumption) (by assumption)).mono ?_; rw [Hmx.out]; rintro e w4 ⟨v4, rfl, hown, hb4⟩)
          have Ha4 := Lib.hid hown; clear hown
          have hS2 := same_below HS2.out hb4 (fun b hb => by rw [List.mem_singleton.1 hb]; omega)
          refine Txt.SegPost.mk hS2 ?_
          have hw4 : w.heap.size + 1 < w4.heap.size := by have := hb4.size; omega
          have x0 : w4.cell? ⟨w.heap.size, 0, none⟩ = some (.int .i64 xp) := (below_at (hb4.mono (show w.heap.size + 1 + 1 ≤ w3.heap.size by omega)) (w.heap.size) 0 (by omega)).trans x0
          have x1 : w4.cell? ⟨w.heap.size, 1, none⟩ = some (.int .i64 xf) := (below_at (hb4.mono (show w.heap.size + 1 + 1 ≤ w3.heap.size by omega)) (w.heap.size) 1 (by omega)).trans x1
          have x2 : w4.cell? ⟨w.heap.size, 2, none⟩ = some (.bool xw) := (below_at (hb4.mono (show w.heap.size + 1 + 1 ≤ w3.heap.size by omega)) (w.heap.size) 2 (by omega)).trans x2
          have y0 : w4.cell? ⟨w.heap.size + 1, 0, none⟩ = some (.int .i64 yp) := (below_at (hb4.mono (show w.heap.size + 1 + 1 ≤ w3.heap.size by omega)) (w.heap.size + 1) 0 (by omega)).trans y0
          have y1 : w4.cell? ⟨w.heap.size + 1, 1, none⟩ = some (.int .i64 yf) := (below_at (hb4.mono (show w.heap.size + 1 + 1 ≤ w3.heap.size by omega)) (w.heap.size + 1) 1 (by omega)).trans y1
          have y2 : w4.cell? ⟨w.heap.size + 1, 2, none⟩ = some (.bool yw) := (below_at (hb4.mono (show w.heap.size + 1 + 1 ≤ w3.heap.size by omega)) (w.heap.size + 1) 2 (by omega)).trans y2
          have hbel4 := hbel3.trans (hb4.mono (by omega))
          clear hS2 HS2 hB2 hb4 hb3 hbel3 hbel2 Hown3
          go_wp2
          refine Txt.DrawPost.mk (by rfl) ⟨.head _, trivial⟩ ?_
          go_wp2
          have hB4 : ∀ b ∈ [w.heap.size + 1], ∃ c e f, w4.heap[b]? = some (.cells c e f) := fun b hb => by
            rw [List.mem_singleton.1 hb]
            exact Txt.cells_of y0
          refine Txt.wp_cut [2, 2] [w.heap.size + 1] [2] [] (by kernel_rfl) (by kernel_rfl) (by kernel_rfl) hB4 ?_
          simp only [Txt.wpCut, List.take_succ_cons, List.take_zero, List.drop_succ_cons, List.drop_zero]
          go_wp2_with (go_at_call 12; refine (to_sl _ l _ hl' (Hs.out.below (hbel4.drew))).mono ?_; rintro e w5 ⟨v5, rfl, hown, hb5⟩)
          have Hown5 := Lib.hid (SlE.of_own hown); clear hown
          have HS4 := Lib.hid (same_below (same_start hB4) hb5 (fun b hb => by rw [List.mem_singleton.1 hb]; simp; omega))
          refine Txt.SegPost.mk HS4.out ?_
          have hb5 := (Below.refl _ w4).drew.trans hb5
          have hw5 : w.heap.size + 1 < w5.heap.size := by have := hb5.size; omega
          have x0 : w5.cell? ⟨w.heap.size, 0, none⟩ = some (.int .i64 xp) := (below_at (hb5.mono (show w.heap.size + 1 + 1 ≤ w4.drew.heap.size by simp; omega)) (w.heap.size) 0 (by omega)).trans x0
          have x1 : w5.cell? ⟨w.heap.size, 1, none⟩ = some (.int .i64 xf) := (below_at (hb5.mono (show w.heap.size + 1 + 1 ≤ w4.drew.heap.size by simp; omega)) (w.heap.size) 1 (by omega)).trans x1
          have x2 : w5.cell? ⟨w.heap.size, 2, none⟩ = some (.bool xw) := (below_at (hb5.mono (show w.heap.size + 1 + 1 ≤ w4.drew.heap.size by simp; omega)) (w.heap.size) 2 (by omega)).trans x2
          have y0 : w5.cell? ⟨w.heap.size + 1, 0, none⟩ = some (.int .i64 yp) := (below_at (hb5.mono (show w.heap.size + 1 + 1 ≤ w4.drew.heap.size by simp; omega)) (w.heap.size + 1) 0 (by omega)).trans y0
          have y1 : w5.cell? ⟨w.heap.size + 1, 1, none⟩ = some (.int .i64 yf) := (below_at (hb5.mono (show w.heap.size + 1 + 1 ≤ w4.drew.heap.size by simp; omega)) (w.heap.size + 1) 1 (by omega)).trans y1
          have y2 : w5.cell? ⟨w.heap.size + 1, 2, none⟩ = some (.bool yw) := (below_at (hb5.mono (show w.heap.size + 1 + 1 ≤ w4.drew.heap.size by simp; omega)) (w.heap.size + 1) 2 (by omega)).trans y2
          have hbel5 := hbel4.trans (hb5.mono (by simp; omega))
          have hle5 : w4.heap.size ≤ w5.heap.size := by have := hb5.size; simpa using this
          have Ha5 := Lib.hid (own_below Ha4.out hb5 (by simp)); clear Ha4
          go_wp2_with (go_at_call 20; refine (map_sl v5 l ⟨yp, yf, yw⟩ _ (by first | omega | exact HL.out) Hown5.out (by assumption) (by assumption)).mono ?_; rw [Hmy.out]; rintro e w6 ⟨v6, rfl, hown, hb6⟩)
          have Hb6 := Lib.hid hown; clear hown
          have Ha6 := Lib.hid (own_below Ha5.out hb6 (Nat.le_refl _)); clear Ha5
          have hS4 := same_below HS4.out hb6 (fun b hb => by rw [List.mem_singleton.1 hb]; omega)
          refine Txt.SegPost.mk hS4 ?_
          have hw6 : w.heap.size + 1 < w6.heap.size := by have := hb6.size; omega
          have x0 : w6.cell? ⟨w.heap.size, 0, none⟩ = some (.int .i64 xp) := (below_at (hb6.mono (show w.heap.size + 1 + 1 ≤ w5.heap.size by omega)) (w.heap.size) 0 (by omega)).trans x0
          have x1 : w6.cell? ⟨w.heap.size, 1, none⟩ = some (.int .i64 xf) := (below_at (hb6.mono (show w.heap.size + 1 + 1 ≤ w5.heap.size by omega)) (w.heap.size) 1 (by omega)).trans x1
          have x2 : w6.cell? ⟨w.heap.size, 2, none⟩ = some (.bool xw) := (below_at (hb6.mono (show w.heap.size + 1 + 1 ≤ w5.heap.size by omega)) (w.heap.size) 2 (by omega)).trans x2
          have y0 : w6.cell? ⟨w.heap.size + 1, 0, none⟩ = some (.int .i64 yp) := (below_at (hb6.mono (show w.heap.size + 1 + 1 ≤ w5.heap.size by omega)) (w.heap.size + 1) 0 (by omega)).trans y0
          have y1 : w6.cell? ⟨w.heap.size + 1, 1, none⟩ = some (.int .i64 yf) := (below_at (hb6.mono (show w.heap.size + 1 + 1 ≤ w5.heap.size by omega)) (w.heap.size + 1) 1 (by omega)).trans y1
          have y2 : w6.cell? ⟨w.heap.size + 1, 2, none⟩ = some (.bool yw) := (below_at (hb6.mono (show w.heap.size + 1 + 1 ≤ w5.heap.size by omega)) (w.heap.size + 1) 2 (by omega)).trans y2
          have hbel6 := hbel5.trans (hb6.mono (by omega))
          clear hS4 HS4 hB4 hb6 hb5 hbel5 hbel4 Hown5
          go_wp2
          refine Txt.DrawPost.mk (by rfl) ⟨.head _, trivial⟩ ?_
          obtain ⟨a6, c6, rfl⟩ := own_form Hb6.out
          go_wp2
          go_ret
          exact ⟨rfl, hbel6⟩
        · have hmx : mapE l ⟨xp, xf, xw⟩ = (insE l ⟨xp, xf, xw⟩, 0) := by unfold mapE Ent.ok; rw [Hv.out, hox]; rfl
          have hmy : mapE l ⟨yp, yf, yw⟩ = (insE l ⟨yp, yf, yw⟩, 0) := by unfold mapE Ent.ok; rw [Hv.out, hoy]; rfl
          obtain ⟨L, hL⟩ : ∃ L, L = insE (insE l ⟨xp, xf, xw⟩) ⟨yp, yf, yw⟩ := ⟨_, rfl⟩
          have hmxy : mapE (insE l ⟨xp, xf, xw⟩) ⟨yp, yf, yw⟩ = (L, 0) := by unfold mapE Ent.ok; rw [Hvx.out hox, hoy, hL]; rfl
          have hmyx : mapE (insE l ⟨yp, yf, yw⟩) ⟨xp, xf, xw⟩ = (L, 0) := by unfold mapE Ent.ok; rw [Hvy.out hoy, hox, hL, ins_swap Hsrt.out (show (⟨xp, xf, xw⟩ : Ent).p ≠ (⟨yp, yf, yw⟩ : Ent).p from hxy)]; rfl
          have hLl : L.length ≤ 1000000 := by have h1 := ins_len (x := ⟨xp, xf, xw⟩) Hsrt.out; have h2 := ins_len (x := ⟨yp, yf, yw⟩) (ins_srt Hsrt.out ⟨xp, xf, xw⟩); rw [hL]; omega
          have Hmxy := Lib.hid hmxy; clear hmxy
          have Hmyx := Lib.hid hmyx; clear hmyx
          have HL := Lib.hid hLl; clear hLl hL
          have Hmx := Lib.hid hmx; clear hmx
          have Hmy := Lib.hid hmy; clear hmy
          clear hox hoy
          go_enter Try.func7, Try.ntmps7
          go_wp2_with fail
          refine (awake_any _).mono ?_
          rintro e w1 ⟨rfl, hb1⟩
          have hw1 : w.heap.size + 1 < w1.heap.size := by have := hb1.size; simp at this; omega
          have hbel1 : Below w.heap.size w w1 := (hal _ _).trans (hb1.mono (by simp; omega))
          obtain ⟨hc1, hf1⟩ := bcellN (N := w.heap.size + 1 + 1) hb1 (by simp)
          have x0 : w1.cell? ⟨w.heap.size, 0, none⟩ = some (.int .i64 xp) := by go_simp
          have x1 : w1.cell? ⟨w.heap.size, 1, none⟩ = some (.int .i64 xf) := by go_simp
          have x2 : w1.cell? ⟨w.heap.size, 2, none⟩ = some (.bool xw) := by go_simp
          have y0 : w1.cell? ⟨w.heap.size + 1, 0, none⟩ = some (.int .i64 yp) := by go_simp
          have y1 : w1.cell? ⟨w.heap.size + 1, 1, none⟩ = some (.int .i64 yf) := by go_simp
          have y2 : w1.cell? ⟨w.heap.size + 1, 2, none⟩ = some (.bool yw) := by go_simp
          clear hc1 hf1 hb1
          go_wp2_with fail
          refine (rvalid_sl (Hs.out.below hbel1) hl').mono ?_
          rw [Hv.out]
          rintro e w2 ⟨rfl, hb2⟩
          have hw2 : w.heap.size + 1 < w2.heap.size := by have := hb2.size; omega
          have x0 : w2.cell? ⟨w.heap.size, 0, none⟩ = some (.int .i64 xp) := (below_at (hb2.mono (show w.heap.size + 1 + 1 ≤ w1.heap.size by omega)) (w.heap.size) 0 (by omega)).trans x0
          have x1 : w2.cell? ⟨w.heap.size, 1, none⟩ = some (.int .i64 xf) := (below_at (hb2.mono (show w.heap.size + 1 + 1 ≤ w1.heap.size by omega)) (w.heap.size) 1 (by omega)).trans x1
          have x2 : w2.cell? ⟨w.heap.size, 2, none⟩ = some (.bool xw) := (below_at (hb2.mono (show w.heap.size + 1 + 1 ≤ w1.heap.size by omega)) (w.heap.size) 2 (by omega)).trans x2
          have y0 : w2.cell? ⟨w.heap.size + 1, 0, none⟩ = some (.int .i64 yp) := (below_at (hb2.mono (show w.heap.size + 1 + 1 ≤ w1.heap.size by omega)) (w.heap.size + 1) 0 (by omega)).trans y0
          have y1 : w2.cell? ⟨w.heap.size + 1, 1, none⟩ = some (.int .i64 yf) := (below_at (hb2.mono (show w.heap.size + 1 + 1 ≤ w1.heap.size by omega)) (w.heap.size + 1) 1 (by omega)).trans y1
          have y2 : w2.cell? ⟨w.heap.size + 1, 2, none⟩ = some (.bool yw) := (below_at (hb2.mono (show w.heap.size + 1 + 1 ≤ w1.heap.size by omega)) (w.heap.size + 1) 2 (by omega)).trans y2
          have hbel2 := hbel1.trans (hb2.mono (by omega))
          clear hb2 hbel1 hw1
          go_wp2
          have hB2 : ∀ b ∈ [w.heap.size], ∃ c e f, w2.heap[b]? = some (.cells c e f) := fun b hb => by
            rw [List.mem_singleton.1 hb]
            exact Txt.cells_of x0
          refine Txt.wp_cut [2, 2] [w.heap.size] [2] [] (by kernel_rfl) (by kernel_rfl) (by kernel_rfl) hB2 ?_
          simp only [Txt.wpCut, List.take_succ_cons, List.take_zero, List.drop_succ_cons, List.drop_zero]
          go_wp2_with (go_at_call 12; refine (to_sl _ l _ hl' (Hs.out.below (hbel2.drew))).mono ?_; rintro e w3 ⟨v3, rfl, hown, hb3⟩)
          have Hown3 := Lib.hid (SlE.of_own hown); clear hown
          have HS2 := Lib.hid (same_below (same_start hB2) hb3 (fun b hb => by rw [List.mem_singleton.1 hb]; simp; omega))
          refine Txt.SegPost.mk HS2.out ?_
          have hb3 := (Below.refl _ w2).drew.trans hb3
          have hw3 : w.heap.size + 1 < w3.heap.size := by have := hb3.size; omega
          have x0 : w3.cell? ⟨w.heap.size, 0, none⟩ = some (.int .i64 xp) := (below_at (hb3.mono (show w.heap.size + 1 + 1 ≤ w2.drew.heap.size by simp; omega)) (w.heap.size) 0 (by omega)).trans x0
          have x1 : w3.cell? ⟨w.heap.size, 1, none⟩ = some (.int .i64 xf) := (below_at (hb3.mono (show w.heap.size + 1 + 1 ≤ w2.drew.heap.size by simp; omega)) (w.heap.size) 1 (by omega)).trans x1
          have x2 : w3.cell? ⟨w.heap.size, 2, none⟩ = some (.bool xw) := (below_at (hb3.mono (show w.heap.size + 1 + 1 ≤ w2.drew.heap.size by simp; omega)) (w.heap.size) 2 (by omega)).trans x2
          have y0 : w3.cell? ⟨w.heap.size + 1, 0, none⟩ = some (.int .i64 yp) := (below_at (hb3.mono (show w.heap.size + 1 + 1 ≤ w2.drew.heap.size by simp; omega)) (w.heap.size + 1) 0 (by omega)).trans y0
          have y1 : w3.cell? ⟨w.heap.size + 1, 1, none⟩ = some (.int .i64 yf) := (below_at (hb3.mono (show w.heap.size + 1 + 1 ≤ w2.drew.heap.size by simp; omega)) (w.heap.size + 1) 1 (by omega)).trans y1
          have y2 : w3.cell? ⟨w.heap.size + 1, 2, none⟩ = some (.bool yw) := (below_at (hb3.mono (show w.heap.size + 1 + 1 ≤ w2.drew.heap.size by simp; omega)) (w.heap.size + 1) 2 (by omega)).trans y2
          have hbel3 := hbel2.trans (hb3.mono (by simp; omega))
          have hle3 : w2.heap.size ≤ w3.heap.size := by have := hb3.size; simpa using this
          go_wp2_with (go_at_call 20; refine (map_sl v3 l ⟨xp, xf, xw⟩ _ (by first | omega | exact HL.out) Hown3.out (by assumption) (by assumption)).mono ?_; rw [Hmx.out]; rintro e w4 ⟨v4, rfl, hown, hb4⟩)
          have Ha4 := Lib.hid hown; clear hown
          have hS2 := same_below HS2.out hb4 (fun b hb => by rw [List.mem_singleton.1 hb]; omega)
          refine Txt.SegPost.mk hS2 ?_
          have hw4 : w.heap.size + 1 < w4.heap.size := by have := hb4.size; omega
          have x0 : w4.cell? ⟨w.heap.size, 0, none⟩ = some (.int .i64 xp) := (below_at (hb4.mono (show w.heap.size + 1 + 1 ≤ w3.heap.size by omega)) (w.heap.size) 0 (by omega)).trans x0
          have x1 : w4.cell? ⟨w.heap.size, 1, none⟩ = some (.int .i64 xf) := (below_at (hb4.mono (show w.heap.size + 1 + 1 ≤ w3.heap.size by omega)) (w.heap.size) 1 (by omega)).trans x1
          have x2 : w4.cell? ⟨w.heap.size, 2, none⟩ = some (.bool xw) := (below_at (hb4.mono (show w.heap.size + 1 + 1 ≤ w3.heap.size by omega)) (w.heap.size) 2 (by omega)).trans x2
          have y0 : w4.cell? ⟨w.heap.size + 1, 0, none⟩ = some (.int .i64 yp) := (below_at (hb4.mono (show w.heap.size + 1 + 1 ≤ w3.heap.size by omega)) (w.heap.size + 1) 0 (by omega)).trans y0
          have y1 : w4.cell? ⟨w.heap.size + 1, 1, none⟩ = some (.int .i64 yf) := (below_at (hb4.mono (show w.heap.size + 1 + 1 ≤ w3.heap.size by omega)) (w.heap.size + 1) 1 (by omega)).trans y1
          have y2 : w4.cell? ⟨w.heap.size + 1, 2, none⟩ = some (.bool yw) := (below_at (hb4.mono (show w.heap.size + 1 + 1 ≤ w3.heap.size by omega)) (w.heap.size + 1) 2 (by omega)).trans y2
          have hbel4 := hbel3.trans (hb4.mono (by omega))
          clear hS2 HS2 hB2 hb4 hb3 hbel3 hbel2 Hown3
          go_wp2
          refine Txt.DrawPost.mk (by rfl) ⟨.head _, trivial⟩ ?_
          go_wp2
          have hB4 : ∀ b ∈ [w.heap.size + 1], ∃ c e f, w4.heap[b]? = some (.cells c e f) := fun b hb => by
            rw [List.mem_singleton.1 hb]
            exact Txt.cells_of y0
          refine Txt.wp_cut [2, 2] [w.heap.size + 1] [2] [] (by kernel_rfl) (by kernel_rfl) (by kernel_rfl) hB4 ?_
          simp only [Txt.wpCut, List.take_succ_cons, List.take_zero, List.drop_succ_cons, List.drop_zero]
          go_wp2_with (go_at_call 12; refine (to_sl _ l _ hl' (Hs.out.below (hbel4.drew))).mono ?_; rintro e w5 ⟨v5, rfl, hown, hb5⟩)
          have Hown5 := Lib.hid (SlE.of_own hown); clear hown
          have HS4 := Lib.hid (same_below (same_start hB4) hb5 (fun b hb => by rw [List.mem_singleton.1 hb]; simp; omega))
          refine Txt.SegPost.mk HS4.out ?_
          have hb5 := (Below.refl _ w4).drew.trans hb5
          have hw5 : w.heap.size + 1 < w5.heap.size := by have := hb5.size; omega
          have x0 : w5.cell? ⟨w.heap.size, 0, none⟩ = some (.int .i64 xp) := (below_at (hb5.mono (show w.heap.size + 1 + 1 ≤ w4.drew.heap.size by simp; omega)) (w.heap.size) 0 (by omega)).trans x0
          have x1 : w5.cell? ⟨w.heap.size, 1, none⟩ = some (.int .i64 xf) := (below_at (hb5.mono (show w.heap.size + 1 + 1 ≤ w4.drew.heap.size by simp; omega)) (w.heap.size) 1 (by omega)).trans x1
          have x2 : w5.cell? ⟨w.heap.size, 2, none⟩ = some (.bool xw) := (below_at (hb5.mono (show w.heap.size + 1 + 1 ≤ w4.drew.heap.size by simp; omega)) (w.heap.size) 2 (by omega)).trans x2
          have y0 : w5.cell? ⟨w.heap.size + 1, 0, none⟩ = some (.int .i64 yp) := (below_at (hb5.mono (show w.heap.size + 1 + 1 ≤ w4.drew.heap.size by simp; omega)) (w.heap.size + 1) 0 (by omega)).trans y0
          have y1 : w5.cell? ⟨w.heap.size + 1, 1, none⟩ = some (.int .i64 yf) := (below_at (hb5.mono (show w.heap.size + 1 + 1 ≤ w4.drew.heap.size by simp; omega)) (w.heap.size + 1) 1 (by omega)).trans y1
          have y2 : w5.cell? ⟨w.heap.size + 1, 2, none⟩ = some (.bool yw) := (below_at (hb5.mono (show w.heap.size + 1 + 1 ≤ w4.drew.heap.size by simp; omega)) (w.heap.size + 1) 2 (by omega)).trans y2
          have hbel5 := hbel4.trans (hb5.mono (by simp; omega))
          have hle5 : w4.heap.size ≤ w5.heap.size := by have := hb5.size; simpa using this
          have Ha5 := Lib.hid (own_below Ha4.out hb5 (by simp)); clear Ha4
          go_wp2_with (go_at_call 20; refine (map_sl v5 l ⟨yp, yf, yw⟩ _ (by first | omega | exact HL.out) Hown5.out (by assumption) (by assumption)).mono ?_; rw [Hmy.out]; rintro e w6 ⟨v6, rfl, hown, hb6⟩)
          have Hb6 := Lib.hid hown; clear hown
          have Ha6 := Lib.hid (own_below Ha5.out hb6 (Nat.le_refl _)); clear Ha5
          have hS4 := same_below HS4.out hb6 (fun b hb => by rw [List.mem_singleton.1 hb]; omega)
          refine Txt.SegPost.mk hS4 ?_
          have hw6 : w.heap.size + 1 < w6.heap.size := by have := hb6.size; omega
          have x0 : w6.cell? ⟨w.heap.size, 0, none⟩ = some (.int .i64 xp) := (below_at (hb6.mono (show w.heap.size + 1 + 1 ≤ w5.heap.size by omega)) (w.heap.size) 0 (by omega)).trans x0
          have x1 : w6.cell? ⟨w.heap.size, 1, none⟩ = some (.int .i64 xf) := (below_at (hb6.mono (show w.heap.size + 1 + 1 ≤ w5.heap.size by omega)) (w.heap.size) 1 (by omega)).trans x1
          have x2 : w6.cell? ⟨w.heap.size, 2, none⟩ = some (.bool xw) := (below_at (hb6.mono (show w.heap.size + 1 + 1 ≤ w5.heap.size by omega)) (w.heap.size) 2 (by omega)).trans x2
          have y0 : w6.cell? ⟨w.heap.size + 1, 0, none⟩ = some (.int .i64 yp) := (below_at (hb6.mono (show w.heap.size + 1 + 1 ≤ w5.heap.size by omega)) (w.heap.size + 1) 0 (by omega)).trans y0
          have y1 : w6.cell? ⟨w.heap.size + 1, 1, none⟩ = some (.int .i64 yf) := (below_at (hb6.mono (show w.heap.size + 1 + 1 ≤ w5.heap.size by omega)) (w.heap.size + 1) 1 (by omega)).trans y1
          have y2 : w6.cell? ⟨w.heap.size + 1, 2, none⟩ = some (.bool yw) := (below_at (hb6.mono (show w.heap.size + 1 + 1 ≤ w5.heap.size by omega)) (w.heap.size + 1) 2 (by omega)).trans y2
          have hbel6 := hbel5.trans (hb6.mono (by omega))
          clear hS4 HS4 hB4 hb6 hb5 hbel5 hbel4 Hown5
          go_wp2
          refine Txt.DrawPost.mk (by rfl) ⟨.head _, trivial⟩ ?_
          go_wp2_with fail
          refine (map_sl v4 _ ⟨yp, yf, yw⟩ _ (by have := ins_len (x := ⟨xp, xf, xw⟩) Hsrt.out; omega) (SlE.of_own Ha6.out) hy1 hy2).mono ?_
          rw [Hmxy.out]
          rintro e w7 ⟨v7, rfl, hown, hb7⟩
          have Hc7 := Lib.hid (SlE.of_own hown); clear hown
          have Hb7 := Lib.hid (own_below Hb6.out hb7 (Nat.le_refl _)); clear Hb6 Ha6
          have hw7 : w.heap.size + 1 < w7.heap.size := by have := hb7.size; omega
          have x0 : w7.cell? ⟨w.heap.size, 0, none⟩ = some (.int .i64 xp) := (below_at (hb7.mono (show w.heap.size + 1 + 1 ≤ w6.heap.size by omega)) (w.heap.size) 0 (by omega)).trans x0
          have x1 : w7.cell? ⟨w.heap.size, 1, none⟩ = some (.int .i64 xf) := (below_at (hb7.mono (show w.heap.size + 1 + 1 ≤ w6.heap.size by omega)) (w.heap.size) 1 (by omega)).trans x1
          have x2 : w7.cell? ⟨w.heap.size, 2, none⟩ = some (.bool xw) := (below_at (hb7.mono (show w.heap.size + 1 + 1 ≤ w6.heap.size by omega)) (w.heap.size) 2 (by omega)).trans x2
          have y0 : w7.cell? ⟨w.heap.size + 1, 0, none⟩ = some (.int .i64 yp) := (below_at (hb7.mono (show w.heap.size + 1 + 1 ≤ w6.heap.size by omega)) (w.heap.size + 1) 0 (by omega)).trans y0
          have y1 : w7.cell? ⟨w.heap.size + 1, 1, none⟩ = some (.int .i64 yf) := (below_at (hb7.mono (show w.heap.size + 1 + 1 ≤ w6.heap.size by omega)) (w.heap.size + 1) 1 (by omega)).trans y1
          have y2 : w7.cell? ⟨w.heap.size + 1, 2, none⟩ = some (.bool yw) := (below_at (hb7.mono (show w.heap.size + 1 + 1 ≤ w6.heap.size by omega)) (w.heap.size + 1) 2 (by omega)).trans y2
          have hbel7 := hbel6.trans (hb7.mono (by omega))
          clear hb7 hbel6
          go_wp2_with fail
          refine (map_sl v6 _ ⟨xp, xf, xw⟩ _ (by have := ins_len (x := ⟨yp, yf, yw⟩) Hsrt.out; omega) (SlE.of_own Hb7.out) hx1 hx2).mono ?_
          rw [Hmyx.out]
          rintro e w8 ⟨v8, rfl, hown, hb8⟩
          have Hd8 := Lib.hid (SlE.of_own hown); clear hown
          have Hc8 := Lib.hid (Hc7.out.below hb8); clear Hc7 Hb7
          have hbel8 := hbel7.trans (hb8.mono (by omega))
          clear hb8 hbel7
          go_wp2_with fail
          refine (from_sl v7 _ _ HL.out Hc8.out).mono ?_
          rintro e w9 ⟨v9, rfl, hown, hb9⟩
          have Hc9 := Lib.hid (SlE.of_own hown); clear hown
          have Hd9 := Lib.hid (Hd8.out.below hb9); clear Hc8 Hd8
          have hbel9 := hbel8.trans (hb9.mono hbel8.size)
          clear hb9 hbel8
          go_wp2_with fail
          refine (from_sl v8 _ _ HL.out Hd9.out).mono ?_
          rintro e w10 ⟨v10, rfl, hown, hb10⟩
          have Hd10 := Lib.hid (SlE.of_own hown); clear hown
          have Hc10 := Lib.hid (Hc9.out.below hb10); clear Hc9 Hd9
          have hbel10 := hbel9.trans (hb10.mono hbel9.size)
          clear hb10 hbel9
          go_wp2_with fail
          refine (esame_sl v9 v10 _ _ HL.out Hc10.out Hd10.out).mono ?_
          rintro e w11 ⟨rfl, hb11⟩
          have hfin := hbel10.trans (hb11.mono hbel10.size)
          go_wp2
          go_ret
          exact ⟨rfl, hfin⟩
end Go.Proofs.Ytlomhelcphhinaa
