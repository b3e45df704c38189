/- Detect: Ping, Pong -/
import Derived.Test.YthmnhpakgjnngaaGreatDoorDb
import Derived.Test.YthmnhpakgjnngaaGreatDoorM1
namespace Go.Dt
open Go Go.RowKit Go.Bs Go.Cl Go.Rw
theorem heap_set2 {w : World} {g : Nat} {x y : Value} {t : TypeId} (h : w.heap[g]? = some (.cells #[x, y] t (0, 0))) (a b : Value) : ((w.setCell ⟨g, 0, none⟩ a).setCell ⟨g, 1, none⟩ b).heap[g]? = some (.cells #[a, b] t (0, 0)) := by
  simp only [World.setCell]
  rw [Array.getElem?_modify, if_pos rfl, Array.getElem?_modify, if_pos rfl, h]
  rfl
theorem keep_set2 (w : World) (g : Nat) (a b : Value) : Keep [g] w ((w.setCell ⟨g, 0, none⟩ a).setCell ⟨g, 1, none⟩ b) :=
  ((Keep.refl [g] w).setCell (p := ⟨g, 0, none⟩) (.inl (by simp)) a).setCell (p := ⟨g, 1, none⟩) (.inl (by simp)) b
/-- the tasks, each once, in ascending order -/
def once (l : List Int) : List Int := Lib.compact (l.mergeSort fun x y => decide (x ≤ y))
end Go.Dt
namespace Go.Proofs.YthmnhpakgjnngaaGreatDoor
open Go.RowKit Go.Bs Go.Cl Go.Rw Go.Dt Go.Sort Go.So
set_option maxRecDepth 100000 in
set_option maxHeartbeats 4000000 in
theorem ping_ok (r : Int) (l ts : List Int) (v1 v2 : Value) (w : World) (hl : l.length ≤ 1000) (ht : ts.length ≤ 1000) (h1 : Ints [] w v1 l) (h2 : Ints [] w v2 ts) (ok : OkB r l) (hr : r < 1000000000) (hp : ∀ x ∈ ts, 1 ≤ x ∧ x < 32) :
    Calls Tryz.prog 68 #[.agg #[.int .i64 r, v1], v2] w fun e w' => ∃ a b, e = .returned (.tuple #[.agg #[.int .i64 (r + 1), a], b, .int .i64 0]) ∧
      w'.ownsRow w.heap.size 3 1 a (once ts).length ((once ts).map (Value.int .i64)) ∧ w'.ownsRow w.heap.size 3 1 b l.length (l.map (Value.int .i64)) ∧ Below w.heap.size w w' := by
  obtain ⟨a1, c1, rfl⟩ := Raw.slice h1
  obtain ⟨a2, c2, rfl⟩ := Raw.slice h2
  have H1 := Lib.hid h1; have H2 := Lib.hid h2; have OK := Lib.hid ok; have HP := Lib.hid hp
  have hr0 := ok.r0
  clear h1 h2 ok hp
  obtain ⟨u, hu⟩ : ∃ u, u = ((w.alloc (.cells #[.int .i64 r, .slice a1 l.length c1] 38)).alloc (.cells #[.int .i64 0, .slice none 0 0] 38)) := ⟨_, rfl⟩
  have HU := Lib.hid hu
  have HB : Hid (Below w.heap.size w u) := Lib.hid (by rw [hu]; exact ((Below.refl _ w).alloc (Nat.le_refl _) _).alloc (by simp) _)
  have HPu : Hid (u.heap[w.heap.size]? = some (.cells #[.int .i64 r, .slice a1 l.length c1] 38 (0, 0))) := Lib.hid (by rw [hu]; exact (((Below.refl (w.alloc _).heap.size _).alloc (Nat.le_refl _) _).block w.heap.size (by simp)).trans (heap_alloc_new w _))
  have HRu : Hid (u.heap[w.heap.size + 1]? = some (.cells #[.int .i64 0, .slice none 0 0] 38 (0, 0))) := Lib.hid (by rw [hu]; have := heap_alloc_new (w.alloc (.cells #[.int .i64 r, .slice a1 l.length c1] 38)) (.cells #[.int .i64 0, .slice none 0 0] 38); simpa using this)
  have H1u := Lib.hid (Raw.below H1.out HB.out)
  have H2u := Lib.hid (Raw.below H2.out HB.out)
  have hus : u.heap.size = w.heap.size + 2 := by rw [hu]; simp
  clear hu
  go_enter Tryz.func68, Tryz.ntmps68
  go_upto_region 1 with (fail)
  rw [← HU.out]
  obtain ⟨P, hP⟩ : ∃ P, P = w.heap.size := ⟨_, rfl⟩
  obtain ⟨R, hR⟩ : ∃ R, R = w.heap.size + 1 := ⟨_, rfl⟩
  rw [← hR, ← hP]
  rw [← hP] at HPu; rw [← hR] at HRu
  have hPR : P < R := by omega
  have hRu : R < u.heap.size := by omega
  have hwP : w.heap.size ≤ P := by omega
  have hwu : w.heap.size ≤ u.heap.size := by omega
  clear hP hR hus HU
  have o0 := box_at HPu.out (j := 0) rfl
  have o1 := box_at HPu.out (j := 1) rfl
  go_wp2_with fail
  refine (valid_ok r l _ _ hl H1u.out OK.out).mono ?_
  rintro e w1 ⟨rfl, hb1⟩
  have H21 := Lib.hid (Raw.below H2u.out hb1)
  have HB1 : Hid (Below u.heap.size u w1) := Lib.hid hb1
  have hs1 := hb1.size
  clear hb1 o0 o1
  have o0 := box_at ((HB1.out.block P (by omega)).trans HPu.out) (j := 0) rfl
  have o1 := box_at ((HB1.out.block P (by omega)).trans HPu.out) (j := 1) rfl
  go_wp2_with fail
  refine (contains_ok ts _ _ ht H21.out HP.out).mono ?_
  rintro e w2 ⟨rfl, rfl⟩
  have hr9 : (r == 1000000000) = false := by rw [beq_eq_false_iff_ne]; omega
  go_wp2_with fail
  refine (clone27 w2 (by omega) H21.out).mono ?_
  rintro e w3 ⟨v3, rfl, hown3, hb3⟩
  have hs3 := hb3.size
  have HB3 : Hid (Below u.heap.size u w3) := Lib.hid (HB1.out.trans (hb3.mono hs1))
  have HO3 : Hid (w3.ownsRow u.heap.size 3 1 v3 ts.length (ts.map (Value.int .i64))) := Lib.hid (own_base hown3 hs1)
  clear hown3 hb3 o0 o1
  go_wp2_with fail
  refine (sort_own HO3.out ht (by omega)).mono ?_
  rintro e w4 ⟨rfl, hown4, hb4⟩
  have hs4 := hb4.size
  have HB4 : Hid (Below u.heap.size u w4) := Lib.hid (HB3.out.trans hb4)
  have HO4 : Hid (w4.ownsRow u.heap.size 3 1 v3 ts.length ((ts.mergeSort fun x y => decide (x ≤ y)).map (Value.int .i64))) := Lib.hid hown4
  clear hown4 hb4
  have HP4 := Lib.hid ((HB4.out.block P (by omega)).trans HPu.out)
  have HR4 := Lib.hid ((HB4.out.block R (by omega)).trans HRu.out)
  have o0 := box_at HP4.out (j := 0) rfl
  have o1 := box_at HP4.out (j := 1) rfl
  go_upto_region 7 with (fail)
  have hBl : ∀ b ∈ [P], ∃ c e f, w4.heap[b]? = some (.cells c e f) := fun q hq => by rw [List.mem_singleton.1 hq]; exact ⟨_, _, _, HP4.out⟩
  have HS0 := Lib.hid (same_start hBl)
  refine Txt.Ty.wp_tree [P] [1, 7] [9] [1, 7] [0, 1, 2, 3, 6, 7] (.alt [4, 5] (.alt [8] (.alt [9, 10, 11] (.done) (.no)) (.no)) (.no)) (by kernel_rfl) (by kernel_rfl) (by kernel_rfl) (by kernel_rfl) hBl ?_
  clear hBl
  (try simp only [Txt.pick, List.getElem?_cons_succ, List.getElem?_cons_zero])
  go_wp2
  refine Txt.RunPost.mk ?_
  refine Txt.Ty.wpTr_alt ?_ Txt.Ty.wpTr_no
  (try simp only [Txt.pick, List.getElem?_cons_succ, List.getElem?_cons_zero])
  go_wp2_with fail
  refine (compact_own (own_drew HO4.out) ht (by simp; omega)).mono ?_
  rintro e w5 ⟨v5, rfl, hown5, hb5⟩
  obtain ⟨a5, c5, rfl⟩ := own_slice hown5
  have hs5 : w4.heap.size ≤ w5.heap.size := hb5.size
  have hb5' : Below u.heap.size w4 w5 := (Below.refl u.heap.size w4).drew.trans hb5
  have HB5 : Hid (Below u.heap.size u w5) := Lib.hid (HB4.out.trans hb5')
  have HO5 : Hid (w5.ownsRow u.heap.size 3 1 (.slice a5 (once ts).length c5) (once ts).length ((once ts).map (Value.int .i64))) := Lib.hid hown5
  have HS5 := Lib.hid (same_below HS0.out hb5 (fun b hb => by rw [List.mem_singleton.1 hb]; omega))
  have HP5 := Lib.hid ((HB5.out.block P (by omega)).trans HPu.out)
  clear hown5 hb5 hb5'
  go_wp2
  refine Txt.SegPost.mk (Txt.Ty.Shown.same HS5.out) ?_
  (try simp only [Txt.pick, List.getElem?_cons_succ, List.getElem?_cons_zero])
  go_wp2
  refine Txt.RunPost.mk ?_
  refine Txt.Ty.wpTr_alt ?_ Txt.Ty.wpTr_no
  (try simp only [Txt.pick, List.getElem?_cons_succ, List.getElem?_cons_zero])
  go_wp2_with fail
  refine (clone27 w5 (by omega) (Raw.below H1u.out (HB5.out))).mono ?_
  rintro e w6 ⟨v6, rfl, hown6, hb6⟩
  obtain ⟨a6, c6, rfl⟩ := own_slice hown6
  have hs6 := hb6.size
  have HB6 : Hid (Below u.heap.size u w6) := Lib.hid (HB5.out.trans (hb6.mono HB5.out.size))
  have HO6 : Hid (w6.ownsRow u.heap.size 3 1 (.slice a6 l.length c6) l.length (l.map (Value.int .i64))) := Lib.hid (own_base hown6 HB5.out.size)
  have HO56 : Hid (w6.ownsRow u.heap.size 3 1 (.slice a5 (once ts).length c5) (once ts).length ((once ts).map (Value.int .i64))) := Lib.hid (own_below HO5.out hb6 (Nat.le_refl _))
  have HS6 := Lib.hid (same_below' HS5.out hb6)
  have HR6 := Lib.hid ((HB6.out.block R (by omega)).trans HRu.out)
  have g0 := box_at HR6.out (j := 0) rfl
  have g1 := box_at HR6.out (j := 1) rfl
  have f0 := box_free HR6.out 0
  have f1 := box_free HR6.out 1
  clear hown6 hb6
  go_wp2
  refine Txt.SegPost.mk (Txt.Ty.Shown.same HS6.out) ?_
  (try simp only [Txt.pick, List.getElem?_cons_succ, List.getElem?_cons_zero])
  go_wp2
  refine Txt.RunPost.mk ?_
  refine Txt.Ty.wpTr_alt ?_ Txt.Ty.wpTr_no
  (try simp only [Txt.pick, List.getElem?_cons_succ, List.getElem?_cons_zero])
  go_wp2
  refine Txt.SegPost.mk (Txt.Ty.Shown.last rfl) ?_
  (try simp only [Txt.pick, List.getElem?_cons_succ, List.getElem?_cons_zero])
  go_wp2
  refine Txt.RunPost.mk ?_
  refine Txt.Ty.wpTr_done (by rfl) ⟨.head _, .head _, trivial⟩ ?_
  go_wp2
  refine bodyPost_ret (results_ctt rfl _ _ _ _ _ _ _ rfl (heap_set2 HR6.out _ _) Tryz.underlying38 rfl (by kernel_rfl)) rfl ?_
  have hk := keep_set2 w6 R (.int .i64 (r + 1)) (.slice a5 (once ts).length c5)
  have hB6 := HB.out.trans (HB6.out.mono HB.out.size)
  refine ⟨_, _, rfl, own_base (own_keep HO56.out hk (fun q hq hm => by have := (HO56.out.lt q hq).1; rw [List.mem_singleton] at hm; omega)) hwu, own_base (own_keep HO6.out hk (fun q hq hm => by have := (HO6.out.lt q hq).1; rw [List.mem_singleton] at hm; omega)) hwu, hB6.trans (hk.below hB6.size (fun f hf => by rw [List.mem_singleton.1 hf]; omega))⟩
end Go.Proofs.YthmnhpakgjnngaaGreatDoor
