/- Space: the walk of SpaceParts -/
import Derived.Test.YtlomhelcphhinaaSk
namespace Go.Proofs.Ytlomhelcphhinaa
open Go.RowKit Go.Bs Go.Sp

theorem pieces_small {l : List Ent} {a n : Int} {wb : Bool} (h : (pieces l a n wb).2.2 = 0) : (pieces l a n wb).1.length ≤ 100000 ∧ ∀ i, i < (pieces l a n wb).1.length → -100000 ≤ (pc (pieces l a n wb).1 i).n ∧ (pc (pieces l a n wb).1 i).n ≤ 100000 := by
  obtain ⟨_, h1, h2, h3, hg⟩ := pieces_good h
  have hn1 : ∀ i, i < (pieces l a n wb).1.length → 1 ≤ (pc (pieces l a n wb).1 i).n := fun i hi => (hg.each i hi).2.1
  have := sumN_take_le hn1 _ (Nat.le_refl _)
  have hs := hg.sum
  rw [List.take_length] at this
  refine ⟨by omega, fun i hi => ?_⟩
  have := hg.each i hi
  omega

set_option maxRecDepth 100000 in
set_option maxHeartbeats 1600000 in
theorem parts_any (v : Value) (l : List Ent) (a n : Int) (wb : Bool) (kk : Int) (w : World) (hs : SlE w v l) (hk0 : 0 ≤ kk) (hk1 : kk ≤ 65535) :
    Calls Try.prog 4 #[v, .agg #[.int .i64 a, .int .i64 n, .bool wb], .int .u16 kk] w fun e w' => e = .returned (.bool true) ∧ Below w.heap.size w w' := by
  have hal := fun o => (Below.refl w.heap.size w).alloc (Nat.le_refl _) o
  have Hs := Lib.hid hs
  obtain ⟨ad, cap, rfl, hcap, hxx⟩ := hs
  clear hxx
  by_cases hbad : 60 < l.length ∨ n < 0 ∨ 10000 < n ∨ a < 0 ∨ 10000 < a
  · have Hbad := Lib.hid hbad; clear hbad
    go_enter Try.func4, Try.ntmps4
    go_wp2_with fail
    refine (awake_any _).mono ?_
    rintro e w1 ⟨rfl, hb1⟩
    have hw1 : w.heap.size < w1.heap.size := by have := hb1.size; simp at this; omega
    have hbel1 : Below w.heap.size w w1 := (hal _).trans (hb1.mono (by simp))
    obtain ⟨hc1, _⟩ := bcellN (N := w.heap.size + 1) hb1 (by simp)
    go_wp2_with fail
    all_goals first
      | (refine (awake_any _).mono ?_
         rintro e w2 ⟨rfl, hb2⟩
         go_wp2
         go_ret
         exact ⟨rfl, hbel1.trans (hb2.mono (by omega))⟩)
      | (exfalso; have := Hbad.out; omega)
  · have hl' : l.length ≤ 1000000 := by omega
    have g1 : (l.length : Int) ≤ 60 := by omega
    have g2 : 0 ≤ n := by omega
    have g3 : n ≤ 10000 := by omega
    have g4 : 0 ≤ a := by omega
    have g5 : a ≤ 10000 := by omega
    clear hbad
    obtain ⟨m, hm⟩ : ∃ m, m = kk % (n + 1) := ⟨_, rfl⟩
    have m0 : 0 ≤ m := by rw [hm]; exact Int.emod_nonneg _ (by omega)
    have m1 : m ≤ n := by have := Int.emod_lt_of_pos kk (show 0 < n + 1 by omega); omega
    obtain ⟨s1, s2⟩ := pieces_split l wb a n m g4 m0 m1
    have S1 := Lib.hid s1; clear s1
    have S2 := Lib.hid s2; clear s2
    have Hm := Lib.hid hm; clear hm
    go_enter Try.func4, Try.ntmps4
    go_wp2_with fail
    refine (awake_any _).mono ?_
    rintro e w1 ⟨rfl, hb1⟩
    have hw1 : w.heap.size < w1.heap.size := by have := hb1.size; simp at this; omega
    have hbel1 : Below w.heap.size w w1 := (hal _).trans (hb1.mono (by simp))
    obtain ⟨hc1, _⟩ := bcellN (N := w.heap.size + 1) hb1 (by simp)
    have c0 : w1.cell? ⟨w.heap.size, 0, none⟩ = some (.int .i64 a) := by go_simp
    have c1 : w1.cell? ⟨w.heap.size, 1, none⟩ = some (.int .i64 n) := by go_simp
    have c2 : w1.cell? ⟨w.heap.size, 2, none⟩ = some (.bool wb) := by go_simp
    clear hc1 hb1
    go_wp2
    rw [← Hm.out]
    have hB1 : ∀ b ∈ [w.heap.size], ∃ c e f, w1.heap[b]? = some (.cells c e f) := fun b hb => by
      rw [List.mem_singleton.1 hb]
      exact Txt.cells_of c0
    refine Txt.wp_cut [2, 7] [w.heap.size] [3, 5, 7] [] (by kernel_rfl) (by kernel_rfl) (by kernel_rfl) hB1 ?_
    simp only [Txt.wpCut, List.take_succ_cons, List.take_zero, List.drop_succ_cons, List.drop_zero]
    go_wp2_with (go_at_call 12; refine (to_sl _ l _ hl' (Hs.out.below (hbel1.drew))).mono ?_; rintro e w2 ⟨v1, rfl, hown1, hbA1⟩)
    have Hown1 := Lib.hid hown1; clear hown1
    have HS1 := Lib.hid (same_below (same_start hB1) hbA1 (fun b hb => by rw [List.mem_singleton.1 hb]; simpa using hw1))
    refine Txt.SegPost.mk HS1.out ?_
    have hbel2 : Below w.heap.size w w2 := hbel1.drew.trans (hbA1.mono (by simp; omega))
    have hw2 : w.heap.size < w2.heap.size := by have := hbA1.size; simp at this; omega
    have hst1 : Below w1.heap.size w1 w2 := (Below.refl _ _).drew.trans (hbA1.mono (by simp))
    have c0 : w2.cell? ⟨w.heap.size, 0, none⟩ = some (.int .i64 a) := (hst1.cell (p := ⟨w.heap.size, 0, none⟩) (by simpa using hw1)).trans c0
    have c1 : w2.cell? ⟨w.heap.size, 1, none⟩ = some (.int .i64 n) := (hst1.cell (p := ⟨w.heap.size, 1, none⟩) (by simpa using hw1)).trans c1
    have c2 : w2.cell? ⟨w.heap.size, 2, none⟩ = some (.bool wb) := (hst1.cell (p := ⟨w.heap.size, 2, none⟩) (by simpa using hw1)).trans c2
    have hle1 : w1.heap.size ≤ w2.heap.size := hst1.size
    have Hst1 := Lib.hid hst1
    clear hst1 hbA1
    obtain ⟨L1, pg1, er1, hR1⟩ : ∃ L pg er, pieces l a n wb = (L, pg, er) := ⟨_, _, _, rfl⟩
    have HR1 := Lib.hid hR1; clear hR1
    go_wp2_with (go_at_call 11; refine (pieces_sl v1 l a n wb _ hl' (SlE.of_own Hown1.out)).mono ?_; rw [HR1.out]; rintro e w3 ⟨p1, rfl, hownp1, hbB1⟩)
    have Hownp1 := Lib.hid (SlP.of_own hownp1); clear hownp1
    have hS1 := same_below HS1.out hbB1 (fun b hb => by rw [List.mem_singleton.1 hb]; omega)
    refine Txt.SegPost.mk hS1 ?_
    clear hS1 HS1 hB1
    have hbel3 : Below w.heap.size w w3 := hbel2.trans (hbB1.mono (by omega))
    have hw3 : w.heap.size < w3.heap.size := by have := hbB1.size; omega
    have c0 : w3.cell? ⟨w.heap.size, 0, none⟩ = some (.int .i64 a) := (hbB1.cell (p := ⟨w.heap.size, 0, none⟩) (by simp; omega)).trans c0
    have c1 : w3.cell? ⟨w.heap.size, 1, none⟩ = some (.int .i64 n) := (hbB1.cell (p := ⟨w.heap.size, 1, none⟩) (by simp; omega)).trans c1
    have c2 : w3.cell? ⟨w.heap.size, 2, none⟩ = some (.bool wb) := (hbB1.cell (p := ⟨w.heap.size, 2, none⟩) (by simp; omega)).trans c2
    have Hst1' := Lib.hid (Hst1.out.trans (hbB1.mono hle1))
    clear hbB1 Hst1 hle1
    go_wp2
    refine Txt.DrawPost.mk (by rfl) ⟨.head _, .head _, .head _, trivial⟩ ?_
    go_wp2
    have hB2 : ∀ b ∈ [w.heap.size], ∃ c e f, w3.heap[b]? = some (.cells c e f) := fun b hb => by
      rw [List.mem_singleton.1 hb]
      exact Txt.cells_of c0
    refine Txt.wp_cut [2, 6] [w.heap.size] [3, 6] [] (by kernel_rfl) (by kernel_rfl) (by kernel_rfl) hB2 ?_
    simp only [Txt.wpCut, List.take_succ_cons, List.take_zero, List.drop_succ_cons, List.drop_zero]
    go_wp2_with (go_at_call 12; refine (to_sl _ l _ hl' (Hs.out.below (hbel3.drew))).mono ?_; rintro e w4 ⟨v2, rfl, hown2, hbA2⟩)
    have Hown2 := Lib.hid hown2; clear hown2
    have HS2 := Lib.hid (same_below (same_start hB2) hbA2 (fun b hb => by rw [List.mem_singleton.1 hb]; simpa using hw3))
    refine Txt.SegPost.mk HS2.out ?_
    have hbel4 : Below w.heap.size w w4 := hbel3.drew.trans (hbA2.mono (by simp; omega))
    have hw4 : w.heap.size < w4.heap.size := by have := hbA2.size; simp at this; omega
    have hst2 : Below w3.heap.size w3 w4 := (Below.refl _ _).drew.trans (hbA2.mono (by simp))
    have c0 : w4.cell? ⟨w.heap.size, 0, none⟩ = some (.int .i64 a) := (hst2.cell (p := ⟨w.heap.size, 0, none⟩) (by simpa using hw3)).trans c0
    have c1 : w4.cell? ⟨w.heap.size, 1, none⟩ = some (.int .i64 n) := (hst2.cell (p := ⟨w.heap.size, 1, none⟩) (by simpa using hw3)).trans c1
    have c2 : w4.cell? ⟨w.heap.size, 2, none⟩ = some (.bool wb) := (hst2.cell (p := ⟨w.heap.size, 2, none⟩) (by simpa using hw3)).trans c2
    have hle2 : w3.heap.size ≤ w4.heap.size := hst2.size
    have Hst2 := Lib.hid hst2
    clear hst2 hbA2
    obtain ⟨L2, pg2, er2, hR2⟩ : ∃ L pg er, pieces l a m wb = (L, pg, er) := ⟨_, _, _, rfl⟩
    have HR2 := Lib.hid hR2; clear hR2
    go_wp2_with (go_at_call 11; refine (pieces_sl v2 l a m wb _ hl' (SlE.of_own Hown2.out)).mono ?_; rw [HR2.out]; rintro e w5 ⟨p2, rfl, hownp2, hbB2⟩)
    have Hownp2 := Lib.hid (SlP.of_own hownp2); clear hownp2
    have hS2 := same_below HS2.out hbB2 (fun b hb => by rw [List.mem_singleton.1 hb]; omega)
    refine Txt.SegPost.mk hS2 ?_
    clear hS2 HS2 hB2
    have hbel5 : Below w.heap.size w w5 := hbel4.trans (hbB2.mono (by omega))
    have hw5 : w.heap.size < w5.heap.size := by have := hbB2.size; omega
    have c0 : w5.cell? ⟨w.heap.size, 0, none⟩ = some (.int .i64 a) := (hbB2.cell (p := ⟨w.heap.size, 0, none⟩) (by simp; omega)).trans c0
    have c1 : w5.cell? ⟨w.heap.size, 1, none⟩ = some (.int .i64 n) := (hbB2.cell (p := ⟨w.heap.size, 1, none⟩) (by simp; omega)).trans c1
    have c2 : w5.cell? ⟨w.heap.size, 2, none⟩ = some (.bool wb) := (hbB2.cell (p := ⟨w.heap.size, 2, none⟩) (by simp; omega)).trans c2
    have Hst2' := Lib.hid (Hst2.out.trans (hbB2.mono hle2))
    clear hbB2 Hst2 hle2
    go_wp2
    refine Txt.DrawPost.mk (by rfl) ⟨.head _, .head _, trivial⟩ ?_
    go_wp2
    have hB3 : ∀ b ∈ [w.heap.size], ∃ c e f, w5.heap[b]? = some (.cells c e f) := fun b hb => by
      rw [List.mem_singleton.1 hb]
      exact Txt.cells_of c0
    refine Txt.wp_cut [2, 11] [w.heap.size] [3, 7, 11] [] (by kernel_rfl) (by kernel_rfl) (by kernel_rfl) hB3 ?_
    simp only [Txt.wpCut, List.take_succ_cons, List.take_zero, List.drop_succ_cons, List.drop_zero]
    go_wp2_with (go_at_call 12; refine (to_sl _ l _ hl' (Hs.out.below (hbel5.drew))).mono ?_; rintro e w6 ⟨v3, rfl, hown3, hbA3⟩)
    have Hown3 := Lib.hid hown3; clear hown3
    have HS3 := Lib.hid (same_below (same_start hB3) hbA3 (fun b hb => by rw [List.mem_singleton.1 hb]; simpa using hw5))
    refine Txt.SegPost.mk HS3.out ?_
    have hbel6 : Below w.heap.size w w6 := hbel5.drew.trans (hbA3.mono (by simp; omega))
    have hw6 : w.heap.size < w6.heap.size := by have := hbA3.size; simp at this; omega
    have hst3 : Below w5.heap.size w5 w6 := (Below.refl _ _).drew.trans (hbA3.mono (by simp))
    have c0 : w6.cell? ⟨w.heap.size, 0, none⟩ = some (.int .i64 a) := (hst3.cell (p := ⟨w.heap.size, 0, none⟩) (by simpa using hw5)).trans c0
    have c1 : w6.cell? ⟨w.heap.size, 1, none⟩ = some (.int .i64 n) := (hst3.cell (p := ⟨w.heap.size, 1, none⟩) (by simpa using hw5)).trans c1
    have c2 : w6.cell? ⟨w.heap.size, 2, none⟩ = some (.bool wb) := (hst3.cell (p := ⟨w.heap.size, 2, none⟩) (by simpa using hw5)).trans c2
    have hle3 : w5.heap.size ≤ w6.heap.size := hst3.size
    have Hst3 := Lib.hid hst3
    clear hst3 hbA3
    obtain ⟨L3, pg3, er3, hR3⟩ : ∃ L pg er, pieces l (a + m) (n - m) wb = (L, pg, er) := ⟨_, _, _, rfl⟩
    have HR3 := Lib.hid hR3; clear hR3
    go_wp2_with (go_at_call 11; refine (pieces_sl v3 l (a + m) (n - m) wb _ hl' (SlE.of_own Hown3.out)).mono ?_; rw [HR3.out]; rintro e w7 ⟨p3, rfl, hownp3, hbB3⟩)
    have Hownp3 := Lib.hid (SlP.of_own hownp3); clear hownp3
    have hS3 := same_below HS3.out hbB3 (fun b hb => by rw [List.mem_singleton.1 hb]; omega)
    refine Txt.SegPost.mk hS3 ?_
    clear hS3 HS3 hB3
    have hbel7 : Below w.heap.size w w7 := hbel6.trans (hbB3.mono (by omega))
    have hw7 : w.heap.size < w7.heap.size := by have := hbB3.size; omega
    have c0 : w7.cell? ⟨w.heap.size, 0, none⟩ = some (.int .i64 a) := (hbB3.cell (p := ⟨w.heap.size, 0, none⟩) (by simp; omega)).trans c0
    have c1 : w7.cell? ⟨w.heap.size, 1, none⟩ = some (.int .i64 n) := (hbB3.cell (p := ⟨w.heap.size, 1, none⟩) (by simp; omega)).trans c1
    have c2 : w7.cell? ⟨w.heap.size, 2, none⟩ = some (.bool wb) := (hbB3.cell (p := ⟨w.heap.size, 2, none⟩) (by simp; omega)).trans c2
    have Hst3' := Lib.hid (Hst3.out.trans (hbB3.mono hle3))
    clear hbB3 Hst3 hle3
    go_wp2
    refine Txt.DrawPost.mk (by rfl) ⟨.head _, .head _, .head _, trivial⟩ ?_
    rw [HR1.out] at S1 S2
    rw [HR2.out, HR3.out] at S1 S2
    have hs1 := S1.out
    have hs2 := S2.out
    simp only at hs1 hs2
    clear S1 S2
    by_cases he1 : er1 = 0
    · obtain ⟨he2, he3, hL⟩ := hs2 he1
      clear hs1 hs2
      subst he1 he2 he3
      have k1 := pieces_small (l := l) (a := a) (n := n) (wb := wb) (by rw [HR1.out])
      have k2 := pieces_small (l := l) (a := a) (n := m) (wb := wb) (by rw [HR2.out])
      have k3 := pieces_small (l := l) (a := a + m) (n := n - m) (wb := wb) (by rw [HR3.out])
      rw [HR1.out] at k1
      rw [HR2.out] at k2
      rw [HR3.out] at k3
      have K1 := Lib.hid k1.1
      have K2 := Lib.hid k2
      have K3 := Lib.hid k3
      have HL := Lib.hid hL
      clear k1 k2 k3 hL
      have P1 := Lib.hid (((Hownp1.out.below Hst2'.out).below Hst3'.out))
      have P2 := Lib.hid (Hownp2.out.below Hst3'.out)
      have hw7 := hbel7.size
      clear c0 c1 c2
      go_wp2_with fail
      refine (own_sl p1 L1 w7 (by have := K1.out; omega) P1.out).mono ?_
      rintro e w8 ⟨v8, rfl, ho8, hb8⟩
      have O8 := Lib.hid (SlP.of_own ho8); clear ho8
      go_wp2_with fail
      refine (own_sl p2 L2 w8 (by have := K2.out.1; omega) (P2.out.below hb8)).mono ?_
      rintro e w9 ⟨v9, rfl, ho9, hb9⟩
      have O9 := Lib.hid (SlP.of_own ho9); clear ho9
      go_wp2_with fail
      refine (own_sl p3 L3 w9 (by have := K3.out.1; omega) ((Hownp3.out.below hb8).below hb9)).mono ?_
      rintro e w10 ⟨v10, rfl, ho10, hb10⟩
      have O10 := Lib.hid (SlP.of_own ho10); clear ho10
      go_wp2_with fail
      refine (join_sl v9 v10 L2 L3 w10 K2.out.1 K3.out.1 (O9.out.below hb10) O10.out K2.out.2 K3.out.2).mono ?_
      rintro e w11 ⟨v11, rfl, ho11, hb11⟩
      rw [← HL.out] at ho11
      have O11 := Lib.hid (SlP.of_own ho11); clear ho11
      go_wp2_with fail
      refine (same_sl v8 v11 L1 w11 (by have := K1.out; omega) (((O8.out.below hb9).below hb10).below hb11) O11.out).mono ?_
      rintro e w12 ⟨rfl, hb12⟩
      go_wp2
      go_ret
      have s8 := hb8.size
      have s9 := hb9.size
      have s10 := hb10.size
      have s11 := hb11.size
      exact ⟨rfl, ((((hbel7.trans (hb8.mono (by omega))).trans (hb9.mono (by omega))).trans (hb10.mono (by omega))).trans (hb11.mono (by omega))).trans (hb12.mono (by omega))⟩
    · have hs := hs1 he1
      clear hs1 hs2
      have q1 : (er1 == 0) = false := by simpa using he1
      by_cases he2 : er2 = 0
      · subst he2
        have he3 : er3 ≠ 0 := by rcases hs with h | h <;> simp_all
        clear hs
        go_wp2
        go_ret
        exact ⟨ret_bool (a := (er3 != 0)) (by simpa using he3), hbel7⟩
      · have q2 : (er2 == 0) = false := by simpa using he2
        clear hs
        go_wp2
        go_ret
        exact ⟨rfl, hbel7⟩
end Go.Proofs.Ytlomhelcphhinaa
