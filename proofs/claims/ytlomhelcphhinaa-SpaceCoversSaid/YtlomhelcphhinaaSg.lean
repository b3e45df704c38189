/- Space: the walk of SpaceCovers -/
import Derived.Test.YtlomhelcphhinaaSf
namespace Go.Proofs.Ytlomhelcphhinaa
open Go.RowKit Go.Bs Go.Sp

set_option maxRecDepth 100000 in
set_option maxHeartbeats 1600000 in
theorem covers_any (v : Value) (l : List Ent) (a n : Int) (wb : Bool) (w : World) (hs : SlE w v l) :
    Calls Try.prog 3 #[v, .agg #[.int .i64 a, .int .i64 n, .bool wb]] w fun e w' => e = .returned (.bool true) ∧ Below w.heap.size w w' := by
  have hal := fun o => (Below.refl w.heap.size w).alloc (Nat.le_refl _) o
  have Hs := Lib.hid hs
  obtain ⟨ad, cap, rfl, hcap, _⟩ := hs
  by_cases hl60 : 60 < l.length
  · go_enter Try.func3, Try.ntmps3
    go_wp2_with fail
    refine (awake_any _).mono ?_
    rintro e w1 ⟨rfl, hb1⟩
    go_wp2_with fail
    refine (awake_any _).mono ?_
    rintro e w2 ⟨rfl, hb2⟩
    go_wp2
    go_ret
    exact ⟨rfl, ((hal _).trans (hb1.mono (by simp))).trans (hb2.mono (by have := hb1.size; simp at this; omega))⟩
  · have hl' : l.length ≤ 1000000 := by omega
    go_enter Try.func3, Try.ntmps3
    go_wp2_with (go_at_call 10; refine (awake_any _).mono ?_; rintro e w1 ⟨rfl, hb1⟩)
    obtain ⟨hc1, _⟩ := bcellN (N := w.heap.size + 1) hb1 (by simp)
    have hw1 : w.heap.size < w1.heap.size := by have := hb1.size; simp at this; omega
    have hbel1 : Below w.heap.size w w1 := (hal _).trans (hb1.mono (by simp))
    have hBx : ∀ b ∈ [w.heap.size], ∃ c e f, w1.heap[b]? = some (.cells c e f) := fun b hb => by
      rw [List.mem_singleton.1 hb]
      exact Txt.cells_of (o := 0) (v := .int .i64 a) (by go_simp)
    refine Txt.wp_cut [2, 7] [w.heap.size] [3, 5, 7] [] (by kernel_rfl) (by kernel_rfl) (by kernel_rfl) hBx ?_
    simp only [Txt.wpCut, List.take_succ_cons, List.take_zero, List.drop_succ_cons, List.drop_zero]
    go_wp2_with (go_at_call 12; refine (to_sl _ l _ hl' (Hs.out.below ((hbel1).drew))).mono ?_; rintro e w2 ⟨v2, rfl, hown2, hb2⟩)
    have Hown2 := Lib.hid hown2; clear hown2
    have hS2 := same_below (same_start hBx) hb2 (fun b hb => by rw [List.mem_singleton.1 hb]; simpa using hw1)
    have HS2 := Lib.hid hS2; clear hS2
    have hw1' : w.heap.size ≤ w1.heap.size := by omega
    refine Txt.SegPost.mk HS2.out ?_
    obtain ⟨hc2, _⟩ := bcellN (N := w1.heap.size) hb2 (by simp)
    obtain ⟨L, pg, er, hR⟩ : ∃ L pg er, pieces l a n wb = (L, pg, er) := ⟨_, _, _, rfl⟩
    have HR := Lib.hid hR; clear hR
    go_wp2_with (go_at_call 11; refine (pieces_sl v2 l a n wb _ hl' (SlE.of_own Hown2.out)).mono ?_; rw [HR.out]; rintro e w3 ⟨v3, rfl, hown3, hb3⟩)
    have Hown3 := Lib.hid hown3; clear hown3
    have hw2 : w1.heap.size ≤ w2.heap.size := by simpa using hb2.size
    have hS3 := same_below HS2.out hb3 (fun b hb => by rw [List.mem_singleton.1 hb]; omega)
    refine Txt.SegPost.mk hS3 ?_
    clear hS3 HS2
    have hw3 := hb3.size
    have hbel2 : Below w.heap.size w w2 := hbel1.drew.trans (hb2.mono (by simp; omega))
    have hbel3 : Below w.heap.size w w3 := hbel2.trans (hb3.mono (by omega))
    have c0 : w3.cell? ⟨w.heap.size, 0, none⟩ = some (.int .i64 a) := (hb3.cell (p := ⟨w.heap.size, 0, none⟩) (by simp; omega)).trans (by go_simp)
    have c1 : w3.cell? ⟨w.heap.size, 1, none⟩ = some (.int .i64 n) := (hb3.cell (p := ⟨w.heap.size, 1, none⟩) (by simp; omega)).trans (by go_simp)
    have c2 : w3.cell? ⟨w.heap.size, 2, none⟩ = some (.bool wb) := (hb3.cell (p := ⟨w.heap.size, 2, none⟩) (by simp; omega)).trans (by go_simp)
    clear hc1 hc2 hb1 hb2 hb3 hBx
    go_wp2
    refine Txt.DrawPost.mk (by rfl) ⟨.head _, .head _, .head _, trivial⟩ ?_
    by_cases her : er = 0
    · subst her
      obtain ⟨hv, ha0, hn0, han, hg⟩ := pieces_good (l := l) (a := a) (n := n) (wb := wb) (by rw [HR.out])
      rw [HR.out] at hg
      have Hg := Lib.hid hg; clear hg
      have Hv := Lib.hid hv; clear hv
      have hsum := Hg.out.sum
      have hn1 : ∀ i, i < L.length → 1 ≤ (pc L i).n := fun i hi => (Hg.out.each i hi).2.1
      have hlen := sumN_take_le hn1 L.length (Nat.le_refl _)
      have Hn1 := Lib.hid hn1; clear hn1
      simp at hsum hlen
      have hL : L.length ≤ 4096 := by omega
      have hLn : (L.length : Int) ≤ n := by omega
      have Hsum := Lib.hid hsum; clear hsum hlen
      obtain ⟨gA, capA, rfl, hgw3⟩ : ∃ ga capA, v3 = .slice ga L.length capA ∧ (0 < L.length → ∃ g, ga = some ⟨g, 0, none⟩ ∧ g < w3.heap.size ∧ PcsAt w3 g L) := by
        rcases own_cases Hown3.out with ⟨rfl, h0, _⟩ | ⟨g, cap', rfl, hg1, hg2, hcap'⟩
        · exact ⟨none, 0, by rw [h0], fun h => by omega⟩
        · exact ⟨_, cap', rfl, fun _ => ⟨g, rfl, hg2, PcsAt.of_own Hown3.out⟩⟩
      have Hgw3 := Lib.hid hgw3; clear hgw3
      go_wp2
      go_loopw [8, 43] (fun at_ ii wr => ∃ k : Nat, k ≤ L.length ∧ ii = .int .i64 k ∧ at_ = .int .i64 (a + sumN (L.take k)) ∧ Below w3.heap.size w3 wr) (fun _ ii _ => L.length - (intOf ii).toNat)
      case atStart => exact ⟨0, Nat.zero_le _, rfl, by simp [sumN], Below.refl _ _⟩
      case round =>
        obtain ⟨k, hk, rfl, rfl, hbr⟩ := hrel
        have hszr := hbr.size
        have hwr : w.heap.size < wr.heap.size := by omega
        obtain ⟨A, hA⟩ : ∃ A, A = a + sumN (L.take k) := ⟨_, rfl⟩
        rw [← hA]
        have HA := Lib.hid hA; clear hA
        have hbelr : Below w.heap.size w wr := hbel3.trans (hbr.mono (by omega))
        have d0 : wr.cell? ⟨w.heap.size, 0, none⟩ = some (.int .i64 a) := (hbr.cell (p := ⟨w.heap.size, 0, none⟩) (by simp; omega)).trans c0
        have d1 : wr.cell? ⟨w.heap.size, 1, none⟩ = some (.int .i64 n) := (hbr.cell (p := ⟨w.heap.size, 1, none⟩) (by simp; omega)).trans c1
        have d2 : wr.cell? ⟨w.heap.size, 2, none⟩ = some (.bool wb) := (hbr.cell (p := ⟨w.heap.size, 2, none⟩) (by simp; omega)).trans c2
        by_cases hlt : k < L.length
        · obtain ⟨g, rfl, hgl, hP⟩ := Hgw3.out (by omega)
          have hgr : g < wr.heap.size := by omega
          obtain ⟨e1, e2, e3, e4, e5⟩ := Hg.out.each k hlt
          have E1 := Lib.hid e1; clear e1
          have hsl := sumN_take_mono Hn1.out (k := k) (L.length - k) (by omega)
          have hs1 := sumN_take_succ hlt
          have hn1k := Hn1.out k hlt
          have hAle : A ≤ 4096 := by have := HA.out; have := Hsum.out; rw [show k + (L.length - k) = L.length by omega] at hsl; simp at hsl; omega
          have hA0 : a ≤ A := by have := HA.out; have := sumN_take_le Hn1.out k hk; omega
          have e5a : (pc L k).page * 128 + (pc L k).fr ≤ A := by have := HA.out; omega
          have e5b : A ≤ (pc L k).page * 128 + (pc L k).fr := by have := HA.out; omega
          have HAs : Hid (A + (pc L k).n = a + sumN (L.take (k + 1))) := Lib.hid (by rw [hs1]; have := HA.out; omega)
          clear hsl hs1 e5
          obtain ⟨p0, p1, p2, p3⟩ := hP k hlt
          have hbk : wr.cell? ⟨g, k * 4, none⟩ = w3.cell? ⟨g, k * 4, none⟩ ∧ wr.cell? ⟨g, k * 4 + 1, none⟩ = w3.cell? ⟨g, k * 4 + 1, none⟩ ∧ wr.cell? ⟨g, k * 4 + 2, none⟩ = w3.cell? ⟨g, k * 4 + 2, none⟩ ∧ wr.cell? ⟨g, k * 4 + 3, none⟩ = w3.cell? ⟨g, k * 4 + 3, none⟩ :=
            ⟨hbr.cell (p := ⟨g, k * 4, none⟩) hgl, hbr.cell (p := ⟨g, k * 4 + 1, none⟩) hgl, hbr.cell (p := ⟨g, k * 4 + 2, none⟩) hgl, hbr.cell (p := ⟨g, k * 4 + 3, none⟩) hgl⟩
          rw [p0, p1, p2, p3] at hbk
          obtain ⟨p0, p1, p2, p3⟩ := hbk
          go_wp2
          have hBx : ∀ b ∈ [wr.heap.size, w.heap.size], ∃ c e f, (wr.alloc (.cells #[.int .i64 (pc L k).page, .int .i64 (pc L k).frame, .int .i64 (pc L k).fr, .int .i64 (pc L k).n] 35)).heap[b]? = some (.cells c e f) := fun b hb => by
            rcases List.mem_cons.1 hb with rfl | hb
            · exact Txt.cells_of (o := 0) (v := .int .i64 (pc L k).page) (by go_simp)
            · rw [List.mem_singleton.1 hb]
              exact Txt.cells_of (o := 0) (v := .int .i64 a) (by go_simp)
          refine Txt.wp_cut [2, 5] [wr.heap.size, w.heap.size] [3, 5] [] (by kernel_rfl) (by kernel_rfl) (by kernel_rfl) hBx ?_
          simp only [Txt.wpCut, List.take_succ_cons, List.take_zero, List.drop_succ_cons, List.drop_zero]
          go_wp2_with (go_at_call 12; refine (to_sl _ l _ hl' (Hs.out.below ((hbelr.alloc (by omega) _).drew))).mono ?_; rintro e w4 ⟨v4, rfl, hown4, hb4⟩)
          have Hown4 := Lib.hid hown4; clear hown4
          have hS4 := same_below (same_start hBx) hb4 (fun b hb => by
            rcases List.mem_cons.1 hb with rfl | hb
            · simp
            · rw [List.mem_singleton.1 hb]; simp; omega)
          have HS4 := Lib.hid hS4; clear hS4
          refine Txt.SegPost.mk HS4.out ?_
          obtain ⟨hc4, _⟩ := bcellN (N := wr.heap.size + 1) hb4 (by simp)
          have hw4 : wr.heap.size + 1 ≤ w4.heap.size := by have := hb4.size; simpa using this
          have hx1 : w.heap.size < wr.heap.size + 1 := by omega
          have hx2 : g < wr.heap.size + 1 := by omega
          have hpg : -9223372036854775808 ≤ (pc L k).page ∧ (pc L k).page ≤ 9223372036854775807 := by omega
          have Hpg := Lib.hid hpg; clear hpg
          go_wp2_with (go_at_call 13; refine (translate_sl v4 l (pc L k).page wb _ hl' (SlE.of_own Hown4.out) Hpg.out.1 Hpg.out.2).mono ?_; rw [E1.out]; rintro e w5 ⟨rfl, hb5⟩)
          have hS5 := same_below HS4.out hb5 (fun b hb => by
            rcases List.mem_cons.1 hb with rfl | hb
            · omega
            · rw [List.mem_singleton.1 hb]; omega)
          refine Txt.SegPost.mk hS5 ?_
          clear hS5 HS4
          obtain ⟨hc5, _⟩ := bcellN (N := w4.heap.size) hb5 rfl
          have hx3 : w.heap.size < w4.heap.size := by omega
          have hx4 : g < w4.heap.size := by omega
          have hx5 : wr.heap.size < w4.heap.size := by omega
          have hb45 : Below w3.heap.size w3 w5 := ((((hbr.alloc hszr _).drew).trans (hb4.mono (by simp; omega)))).trans (hb5.mono (by omega))
          have hbel5 : Below w.heap.size w w5 := hbel3.trans (hb45.mono (by omega))
          go_wp2
          refine Txt.DrawPost.mk (by rfl) ⟨.head _, .tail _ (.head _), trivial⟩ ?_
          by_cases hk0 : 0 < k
          · obtain ⟨n1, n2⟩ := Hg.out.next k hk0 hlt
            have n1a : (pc L k).fr ≤ 0 := by omega
            have n2a : (pc L k).page ≤ (pc L (k - 1)).page + 1 := by omega
            have n2b : (pc L (k - 1)).page + 1 ≤ (pc L k).page := by omega
            clear n1 n2
            obtain ⟨q0, _, _, _⟩ := hP (k - 1) (by omega)
            have q0' : wr.cell? ⟨g, (k - 1) * 4, none⟩ = some (.int .i64 (pc L (k - 1)).page) := (hbr.cell (p := ⟨g, (k - 1) * 4, none⟩) hgl).trans q0
            clear hP q0
            go_wp2
            refine Txt.wp_txt (by kernel_rfl) (by kernel_rfl) ?_
            go_wp2
            refine Txt.DrawPost.mk0 (by rfl) ?_
            go_wp2
            · exfalso
              have hz : (((pc L k).n < 1 ∨ 128 < (pc L k).n) ∨ ((pc L k).page != (pc L (k - 1)).page + 1) = true) := by assumption
              simp only [bne_iff_ne, ne_eq] at hz
              omega
            · go_roundw
              case rel => exact ⟨k + 1, by omega, by go_num, val_int HAs.out, hb45.drew⟩
              case measure => simp [intOf]; omega
          · obtain rfl : k = 0 := by omega
            clear hP
            go_wp2
            refine Txt.wp_txt (by kernel_rfl) (by kernel_rfl) ?_
            go_wp2
            refine Txt.DrawPost.mk0 (by rfl) ?_
            go_wp2
            go_roundw
            case rel => exact ⟨1, by omega, by go_num, val_int HAs.out, hb45.drew⟩
            case measure => simp [intOf]; omega
        · obtain rfl : k = L.length := by omega
          have hend : A = a + n := by rw [HA.out, List.take_length]; have := Hsum.out; omega
          have hea : A ≤ a + n := by omega
          have heb : a + n ≤ A := by omega
          clear hend
          have hone : n = 1 → L.length = 1 := by
            intro h1
            have : 0 < L.length := by
              rcases Nat.eq_zero_or_pos L.length with h0 | h0
              · have h2 : L = [] := List.length_eq_zero_iff.1 h0
                have := Hsum.out; rw [h2] at this; simp [sumN] at this; omega
              · exact h0
            omega
          have Hone := Lib.hid hone; clear hone
          by_cases hn1 : n = 1
          · have hl1a : (L.length : Int) ≤ 1 := by have := Hone.out hn1; omega
            have hl1b : (1 : Int) ≤ (L.length : Int) := by have := Hone.out hn1; omega
            go_wp2
            go_ret
            exact ⟨ret_bool (a := ((L.length : Int) == 1)) (by simp; omega), hbelr⟩
          · go_wp2
            go_ret
            exact ⟨rfl, hbelr⟩
    · have hL : L = [] := by
        have := pieces_err (l := l) (a := a) (n := n) (wb := wb) (by rw [HR.out]; exact her)
        rw [HR.out] at this; exact this
      subst hL
      have her' : (er == 0) = false := by simpa using her
      rcases own_cases Hown3.out with ⟨rfl, h0, _⟩ | ⟨g, cap', rfl, hg1, hg2, hcap'⟩
      all_goals
        go_wp2
        go_ret
        exact ⟨rfl, hbel3⟩
end Go.Proofs.Ytlomhelcphhinaa
