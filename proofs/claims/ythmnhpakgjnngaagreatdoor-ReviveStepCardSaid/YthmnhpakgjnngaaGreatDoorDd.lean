/- Detect: Pong -/
import Derived.Test.YthmnhpakgjnngaaGreatDoorDc
namespace Go.Dt
open Go Go.RowKit Go.Bs Go.Cl Go.Rw
/-- the numbers but one -/
def less (l : List Int) (x : Int) : List Int := l.filter fun y => decide (y ≠ x)
theorem erase_less {l : List Int} (h : l.Pairwise (· < ·)) {k : Nat} (hk : k < l.length) : l.eraseIdx k = less l l[k] := by
  obtain ⟨x, hx⟩ : ∃ x, x = l[k] := ⟨_, rfl⟩
  have e : l = l.take k ++ x :: l.drop (k + 1) := by rw [hx, List.getElem_cons_drop, List.take_append_drop]
  rw [List.eraseIdx_eq_take_drop_succ, ← hx]
  have hp := h
  rw [e, List.pairwise_append] at hp
  obtain ⟨_, h2, h3⟩ := hp
  rw [List.pairwise_cons] at h2
  unfold less
  conv => rhs; rw [e]
  rw [List.filter_append, List.filter_cons_of_neg (by simp), List.filter_eq_self.2 (fun y hy => by have := h3 y hy x (by simp); simp; omega), List.filter_eq_self.2 (fun y hy => by have := h2.1 y hy; simp; omega)]
theorem less_len {l : List Int} {x : Int} : (less l x).length ≤ l.length := List.length_filter_le _ _
theorem OkB.less {r : Int} {l : List Int} (h : OkB r l) (x : Int) : OkB r (less l x) :=
  ⟨fun y hy => h.pr y (List.mem_filter.1 hy).1, h.srt.filter _, h.r0, h.r1, h.z.imp id fun e => by subst e; rfl⟩
end Go.Dt
namespace Go.Proofs.YthmnhpakgjnngaaGreatDoor
open Go.RowKit Go.Bs Go.Cl Go.Rw Go.Dt Go.Sort Go.So
set_option maxRecDepth 100000 in
set_option maxHeartbeats 4000000 in
theorem pong_no (r x y : Int) (l : List Int) (v1 : Value) (w : World) (hl : l.length ≤ 1000) (h1 : Ints [] w v1 l) (ok : OkB r l) (hx : x ∉ l) :
    Calls Tryz.prog 69 #[.agg #[.int .i64 r, v1], .int .i64 x, .int .i64 y] w fun e w' => e = .returned (.tuple #[.agg #[.int .i64 0, .slice none 0 0], .int .i64 8]) ∧ Below w.heap.size w w' := by
  obtain ⟨a1, c1, rfl⟩ := Raw.slice h1
  have H1 := Lib.hid h1; have OK := Lib.hid ok
  clear h1 ok
  obtain ⟨u, hu⟩ : ∃ u, u = ((w.alloc (.cells #[.int .i64 r, .slice a1 l.length c1] 38)).alloc (.cells #[.int .i64 0, .slice none 0 0] 38)) := ⟨_, rfl⟩
  have HU := Lib.hid hu
  have HB : Hid (Below w.heap.size w u) := Lib.hid (by rw [hu]; exact ((Below.refl _ w).alloc (Nat.le_refl _) _).alloc (by simp) _)
  have HPu : Hid (u.heap[w.heap.size]? = some (.cells #[.int .i64 r, .slice a1 l.length c1] 38 (0, 0))) := Lib.hid (by rw [hu]; exact (((Below.refl (w.alloc _).heap.size _).alloc (Nat.le_refl _) _).block w.heap.size (by simp)).trans (heap_alloc_new w _))
  have HRu : Hid (u.heap[w.heap.size + 1]? = some (.cells #[.int .i64 0, .slice none 0 0] 38 (0, 0))) := Lib.hid (by rw [hu]; have := heap_alloc_new (w.alloc (.cells #[.int .i64 r, .slice a1 l.length c1] 38)) (.cells #[.int .i64 0, .slice none 0 0] 38); simpa using this)
  have H1u := Lib.hid (Raw.below H1.out HB.out)
  have hus : u.heap.size = w.heap.size + 2 := by rw [hu]; simp
  clear hu
  go_enter Tryz.func69, Tryz.ntmps69
  go_upto_region 1 with (fail)
  rw [← HU.out]
  obtain ⟨P, hP⟩ : ∃ P, P = w.heap.size := ⟨_, rfl⟩
  obtain ⟨R, hR⟩ : ∃ R, R = w.heap.size + 1 := ⟨_, rfl⟩
  rw [← hR, ← hP]
  rw [← hP] at HPu; rw [← hR] at HRu
  have hPR : P < R := by omega
  have hRu : R < u.heap.size := by omega
  have hwP : w.heap.size ≤ P := by omega
  have hwu : w.heap.size ≤ u.heap.size := by omega
  clear hP hR hus HU
  have o0 := box_at HPu.out (j := 0) rfl
  have o1 := box_at HPu.out (j := 1) rfl
  go_wp2_with fail
  refine (valid_ok r l _ _ hl H1u.out OK.out).mono ?_
  rintro e w1 ⟨rfl, hb1⟩
  have HB1 : Hid (Below u.heap.size u w1) := Lib.hid hb1
  have hs1 := hb1.size
  have HP1 := Lib.hid ((HB1.out.block P (by omega)).trans HPu.out)
  have HR1 := Lib.hid ((HB1.out.block R (by omega)).trans HRu.out)
  clear hb1 o0 o1
  have o0 := box_at HP1.out (j := 0) rfl
  have o1 := box_at HP1.out (j := 1) rfl
  go_wp2_with fail
  refine (index_any l _ x _ hl (Raw.below H1u.out HB1.out)).mono ?_
  rintro e w2 ⟨hc, rfl⟩
  obtain rfl : e = .returned (.int .i64 (-1)) := by
    rcases hc with ⟨k, hk, he, _⟩ | ⟨_, he⟩
    · exact absurd (he ▸ List.getElem_mem hk) hx
    · exact he
  clear hc hx
  have g0 := box_at HR1.out (j := 0) rfl
  have g1 := box_at HR1.out (j := 1) rfl
  have f0 := box_free HR1.out 0
  have f1 := box_free HR1.out 1
  go_wp2
  refine bodyPost_ret (results_ct rfl _ _ _ _ _ _ _ rfl (heap_set2 HR1.out _ _) Tryz.underlying38 rfl (by kernel_rfl)) rfl ?_
  have hk := keep_set2 w2 R (.int .i64 0) (.slice none 0 0)
  have hB6 := HB.out.trans (HB1.out.mono HB.out.size)
  refine ⟨rfl, hB6.trans (hk.below hB6.size (fun f hf => by rw [List.mem_singleton.1 hf]; omega))⟩
set_option maxRecDepth 100000 in
set_option maxHeartbeats 4000000 in
theorem pong_ok (r x : Int) (l : List Int) (v1 : Value) (w : World) (hl : l.length ≤ 1000) (h1 : Ints [] w v1 l) (ok : OkB r l) (hx : x ∈ l) :
    Calls Tryz.prog 69 #[.agg #[.int .i64 r, v1], .int .i64 x, .int .i64 r] w fun e w' => ∃ v, e = .returned (.tuple #[.agg #[.int .i64 r, v], .int .i64 0]) ∧
      w'.ownsRow w.heap.size 3 1 v (less l x).length ((less l x).map (Value.int .i64)) ∧ Below w.heap.size w w' := by
  obtain ⟨a1, c1, rfl⟩ := Raw.slice h1
  have H1 := Lib.hid h1; have OK := Lib.hid ok
  clear h1 ok
  obtain ⟨u, hu⟩ : ∃ u, u = ((w.alloc (.cells #[.int .i64 r, .slice a1 l.length c1] 38)).alloc (.cells #[.int .i64 0, .slice none 0 0] 38)) := ⟨_, rfl⟩
  have HU := Lib.hid hu
  have HB : Hid (Below w.heap.size w u) := Lib.hid (by rw [hu]; exact ((Below.refl _ w).alloc (Nat.le_refl _) _).alloc (by simp) _)
  have HPu : Hid (u.heap[w.heap.size]? = some (.cells #[.int .i64 r, .slice a1 l.length c1] 38 (0, 0))) := Lib.hid (by rw [hu]; exact (((Below.refl (w.alloc _).heap.size _).alloc (Nat.le_refl _) _).block w.heap.size (by simp)).trans (heap_alloc_new w _))
  have HRu : Hid (u.heap[w.heap.size + 1]? = some (.cells #[.int .i64 0, .slice none 0 0] 38 (0, 0))) := Lib.hid (by rw [hu]; have := heap_alloc_new (w.alloc (.cells #[.int .i64 r, .slice a1 l.length c1] 38)) (.cells #[.int .i64 0, .slice none 0 0] 38); simpa using this)
  have H1u := Lib.hid (Raw.below H1.out HB.out)
  have hus : u.heap.size = w.heap.size + 2 := by rw [hu]; simp
  clear hu
  go_enter Tryz.func69, Tryz.ntmps69
  go_upto_region 1 with (fail)
  rw [← HU.out]
  obtain ⟨P, hP⟩ : ∃ P, P = w.heap.size := ⟨_, rfl⟩
  obtain ⟨R, hR⟩ : ∃ R, R = w.heap.size + 1 := ⟨_, rfl⟩
  rw [← hR, ← hP]
  rw [← hP] at HPu; rw [← hR] at HRu
  have hPR : P < R := by omega
  have hRu : R < u.heap.size := by omega
  have hwP : w.heap.size ≤ P := by omega
  have hwu : w.heap.size ≤ u.heap.size := by omega
  clear hP hR hus HU
  have o0 := box_at HPu.out (j := 0) rfl
  have o1 := box_at HPu.out (j := 1) rfl
  go_wp2_with fail
  refine (valid_ok r l _ _ hl H1u.out OK.out).mono ?_
  rintro e w1 ⟨rfl, hb1⟩
  have HB1 : Hid (Below u.heap.size u w1) := Lib.hid hb1
  have hs1 := hb1.size
  have HP1 := Lib.hid ((HB1.out.block P (by omega)).trans HPu.out)
  have HR1 := Lib.hid ((HB1.out.block R (by omega)).trans HRu.out)
  clear hb1 o0 o1
  have o0 := box_at HP1.out (j := 0) rfl
  have o1 := box_at HP1.out (j := 1) rfl
  go_wp2_with fail
  refine (index_any l _ x _ hl (Raw.below H1u.out HB1.out)).mono ?_
  rintro e w2 ⟨hc, rfl⟩
  rcases hc with ⟨k, hk, he, _, rfl⟩ | ⟨h', _⟩
  rotate_left
  · exact absurd hx h'
  have HE := Lib.hid (he ▸ erase_less OK.out.srt hk : l.eraseIdx k = less l x)
  have hkl : k < l.length := hk
  clear hx he
  have hk0 : ¬ (k : Int) < 0 := by omega
  have hnn : (r != r) = false := by simp
  go_wp2_with fail
  go_upto_region 6 with (fail)
  have hBl : ∀ b ∈ [P], ∃ c e f, w2.heap[b]? = some (.cells c e f) := fun q hq => by rw [List.mem_singleton.1 hq]; exact ⟨_, _, _, HP1.out⟩
  have HS0 := Lib.hid (same_start hBl)
  refine Txt.Ty.wp_tree [P] [1] [10] [1, 3] [0, 1, 2, 3, 5, 6, 7] (.alt [4] (.alt [8, 9] (.alt [10, 11] (.done) (.no)) (.no)) (.no)) (by kernel_rfl) (by kernel_rfl) (by kernel_rfl) (by kernel_rfl) hBl ?_
  clear hBl
  (try simp only [Txt.pick, List.getElem?_cons_succ, List.getElem?_cons_zero])
  go_wp2
  refine Txt.RunPost.mk ?_
  refine Txt.Ty.wpTr_alt ?_ Txt.Ty.wpTr_no
  (try simp only [Txt.pick, List.getElem?_cons_succ, List.getElem?_cons_zero])
  go_wp2_with fail
  refine (clone27 w2.drew (by omega) (Raw.below H1u.out HB1.out.drew)).mono ?_
  rintro e w6 ⟨v6, rfl, hown6, hb6⟩
  obtain ⟨a6, c6, rfl⟩ := own_slice hown6
  have hs6 : w2.heap.size ≤ w6.heap.size := hb6.size
  have HB6 : Hid (Below u.heap.size u w6) := Lib.hid (HB1.out.drew.trans (hb6.mono hs1))
  have HO6 : Hid (w6.ownsRow u.heap.size 3 1 (.slice a6 l.length c6) l.length (l.map (Value.int .i64))) := Lib.hid (own_base hown6 hs1)
  have HS6 := Lib.hid (same_below' HS0.out hb6)
  clear hown6 hb6
  go_wp2
  refine Txt.SegPost.mk (Txt.Ty.Shown.same HS6.out) ?_
  (try simp only [Txt.pick, List.getElem?_cons_succ, List.getElem?_cons_zero])
  go_wp2
  refine Txt.RunPost.mk ?_
  refine Txt.Ty.wpTr_alt ?_ Txt.Ty.wpTr_no
  (try simp only [Txt.pick, List.getElem?_cons_succ, List.getElem?_cons_zero])
  go_wp2_with fail
  refine (delete_own HO6.out hl HB6.out.size hkl).mono ?_
  rw [HE.out]
  rintro e w5 ⟨v5, rfl, hown5, hb5⟩
  obtain ⟨a5, c5, rfl⟩ := own_slice hown5
  have hs5 : w6.heap.size ≤ w5.heap.size := hb5.size
  have HB5 : Hid (Below u.heap.size u w5) := Lib.hid (HB6.out.trans hb5)
  have HO5 : Hid (w5.ownsRow u.heap.size 3 1 (.slice a5 (less l x).length c5) (less l x).length ((less l x).map (Value.int .i64))) := Lib.hid hown5
  have HS5 := Lib.hid (same_below HS6.out hb5 (fun b hb => by rw [List.mem_singleton.1 hb]; omega))
  have HR5 := Lib.hid ((HB5.out.block R (by omega)).trans HRu.out)
  have g0 := box_at HR5.out (j := 0) rfl
  have g1 := box_at HR5.out (j := 1) rfl
  have f0 := box_free HR5.out 0
  have f1 := box_free HR5.out 1
  clear hown5 hb5
  go_wp2
  refine Txt.SegPost.mk (Txt.Ty.Shown.same HS5.out) ?_
  (try simp only [Txt.pick, List.getElem?_cons_succ, List.getElem?_cons_zero])
  go_wp2
  refine Txt.RunPost.mk ?_
  refine Txt.Ty.wpTr_alt ?_ Txt.Ty.wpTr_no
  (try simp only [Txt.pick, List.getElem?_cons_succ, List.getElem?_cons_zero])
  go_wp2
  refine Txt.SegPost.mk (Txt.Ty.Shown.last rfl) ?_
  (try simp only [Txt.pick, List.getElem?_cons_succ, List.getElem?_cons_zero])
  go_wp2
  refine Txt.RunPost.mk ?_
  refine Txt.Ty.wpTr_done (by rfl) ⟨.head _, trivial⟩ ?_
  go_wp2
  refine bodyPost_ret (results_ct rfl _ _ _ _ _ _ _ rfl (heap_set2 HR5.out _ _) Tryz.underlying38 rfl (by kernel_rfl)) rfl ?_
  have hk := keep_set2 w5 R (.int .i64 r) (.slice a5 (less l x).length c5)
  have hB6 := HB.out.trans (HB5.out.mono HB.out.size)
  refine ⟨_, rfl, own_base (own_keep HO5.out hk (fun q hq hm => by have := (HO5.out.lt q hq).1; rw [List.mem_singleton] at hm; omega)) hwu, hB6.trans (hk.below hB6.size (fun f hf => by rw [List.mem_singleton.1 hf]; omega))⟩
end Go.Proofs.YthmnhpakgjnngaaGreatDoor
