/- Detect: DetectBound -/
import Derived.Test.YtbpifaamlcjocaaGc
import Derived.Deep.CutRange
namespace Go.Fa
open Go
/-- the steps of two outcomes, of which a plan hits one -/
theorem fout_st (p : FP) (o : Oc) (h0 : 0 ≤ o.st) : (fout p 0 o).st + (fout p 1 o).st ≤ 4000 + 2 * o.st ∧ 0 ≤ (fout p 0 o).st ∧ 0 ≤ (fout p 1 o).st ∧ (fout p 0 o).st ≤ 4000 + o.st ∧ (fout p 1 o).st ≤ 4000 + o.st := by
  have key : ∀ x, (p.e ≠ x → (fout p x o).st = o.st) ∧ 0 ≤ (fout p x o).st ∧ (fout p x o).st ≤ 4000 + o.st := by
    intro x
    unfold fout
    refine ⟨fun h => by rw [if_pos (.inr h)], ?_⟩
    split
    · omega
    · rename_i hv
      have hok : p.ok = true := by
        cases h : p.ok
        · exact absurd (.inl h) hv
        · rfl
      split
      · rename_i hk
        have hs := ok_step hok hk.1 hk.2.1
        split
        · simp only; omega
        · split
          · simp only; omega
          · simp only; omega
      · split
        · simp only; omega
        · split <;> (try simp only) <;> omega
  obtain ⟨a1, a2, a3⟩ := key 0
  obtain ⟨b1, b2, b3⟩ := key 1
  by_cases h : p.e = 0
  · have := b1 (by omega); omega
  · have := a1 h; omega
end Go.Fa
namespace Go.Proofs.Ytbpifaamlcjocaa
open Go.RowKit Go.Bs Go.Cl Go.Rw Go.Un Go.Im Go.Fa
set_option maxRecDepth 100000 in
set_option maxHeartbeats 40000000 in
theorem boundlaw_any (n0 n1 n2 : Int) (p : FP) (x0 x1 x2 : List UInt8) (s0 s1 s2 : Value) (w : World) (hn0 : -9223372036854775808 ≤ n0) (hn0' : n0 ≤ 9223372036854775807) (hn1 : -9223372036854775808 ≤ n1) (hn1' : n1 ≤ 9223372036854775807) (hx0 : x0.length ≤ 140737488351232) (hx1 : x1.length ≤ 140737488351232) (hx2 : x2.length ≤ 140737488351232) (h0 : Bytes [] w s0 x0) (h1 : Bytes [] w s1 x1) (h2 : Bytes [] w s2 x2) :
    Calls Try.prog 6 #[.agg #[.int .i64 n0, .int .i64 n1, .int .i64 n2], .agg p.cs, .agg #[s0, s1, s2]] w fun e w' => e = .returned (.bool true) ∧ Below w.heap.size w w' := by
  obtain ⟨a0, c0, rfl⟩ := Raw.slice h0
  obtain ⟨a1, c1, rfl⟩ := Raw.slice h1
  obtain ⟨a2, c2, rfl⟩ := Raw.slice h2
  have H0 := Lib.hid h0; have H1 := Lib.hid h1; have H2 := Lib.hid h2
  clear h0 h1 h2
  simp only [FP.cs]
  obtain ⟨u, hu⟩ : ∃ u, u = ((w.alloc (.cells #[.int .i64 n0, .int .i64 n1, .int .i64 n2] 41)).alloc (.cells #[.int .i64 p.c, .int .i64 p.n, .int .i64 p.e, .int .i64 p.k, .int .i64 p.s, .int .i64 p.pl, .int .i64 p.m] 43)).alloc (.cells #[.slice a0 x0.length c0, .slice a1 x1.length c1, .slice a2 x2.length c2] 45) := ⟨_, rfl⟩
  have HU := Lib.hid hu
  have HLu : Hid (Below w.heap.size w u) := Lib.hid (by rw [hu]; exact b3 _ _ _ _)
  have HNu : Hid (u.heap[w.heap.size]? = some (.cells #[.int .i64 n0, .int .i64 n1, .int .i64 n2] 41 (0, 0))) := Lib.hid (by rw [hu]; exact (((Below.refl ((w.alloc _).alloc _).heap.size _).alloc (Nat.le_refl _) _).block w.heap.size (by simp; omega)).trans (a2_0 w _ _))
  have HPu : Hid (u.heap[w.heap.size + 1]? = some (.cells #[.int .i64 p.c, .int .i64 p.n, .int .i64 p.e, .int .i64 p.k, .int .i64 p.s, .int .i64 p.pl, .int .i64 p.m] 43 (0, 0))) := Lib.hid (by rw [hu]; exact (((Below.refl ((w.alloc _).alloc _).heap.size _).alloc (Nat.le_refl _) _).block (w.heap.size + 1) (by simp)).trans (a2_1 w _ _))
  have HQu : Hid (u.heap[w.heap.size + 1 + 1]? = some (.cells #[.slice a0 x0.length c0, .slice a1 x1.length c1, .slice a2 x2.length c2] 45 (0, 0))) := Lib.hid (by rw [hu]; exact a3 _ _ _ _)
  have hus : u.heap.size = w.heap.size + 3 := by rw [hu]; simp
  clear hu
  go_enter Try.func6, Try.ntmps6
  go_upto_region 1 with (fail)
  rw [← HU.out]
  obtain ⟨N, hN⟩ : ∃ N, N = w.heap.size := ⟨_, rfl⟩
  obtain ⟨P, hP⟩ : ∃ P, P = w.heap.size + 1 := ⟨_, rfl⟩
  obtain ⟨Q, hQ⟩ : ∃ Q, Q = w.heap.size + 1 + 1 := ⟨_, rfl⟩
  rw [← hQ, ← hP, ← hN]
  rw [← hN] at HNu; rw [← hP] at HPu; rw [← hQ] at HQu
  have hNP : N < P := by omega
  have hPQ : P < Q := by omega
  have hQu : Q < u.heap.size := by omega
  have hwN : w.heap.size ≤ N := by omega
  clear hN hP hQ hus HU
  go_wp2_with fail
  refine (awake_any u).mono ?_
  rintro e w1 ⟨rfl, hb1⟩
  have hs1 := hb1.size
  have HL1 := Lib.hid (HLu.out.trans (hb1.mono HLu.out.size))
  have HN1 := Lib.hid ((hb1.block N (by omega)).trans HNu.out)
  have HP1 := Lib.hid ((hb1.block P (by omega)).trans HPu.out)
  have HQ1 := Lib.hid ((hb1.block Q (by omega)).trans HQu.out)
  have hQ1 : Q < w1.heap.size := by omega
  clear hb1
  have n_0 := box_at HN1.out (j := 0) rfl
  have n_1 := box_at HN1.out (j := 1) rfl
  have n_2 := box_at HN1.out (j := 2) rfl
  have q_0 := box_at HQ1.out (j := 0) rfl
  have q_1 := box_at HQ1.out (j := 1) rfl
  have q_2 := box_at HQ1.out (j := 2) rfl
  by_cases hbig : 1099511627776 < n2
  · go_wp2
    go_ret
    exact ⟨rfl, HL1.out⟩
  by_cases hsum : 400 < x0.length + x1.length + x2.length
  · have hsum' : (400 : Int) < (x0.length : Int) + x1.length + x2.length := by omega
    go_wp2
    all_goals first
      | (go_ret
         exact ⟨rfl, HL1.out⟩)
      | (exfalso; omega)
  have hsum' : (x0.length : Int) + x1.length + x2.length ≤ 400 := by omega
  go_upto_region 5 with (fail)
  have hBl : ∀ b ∈ [N], ∃ c e f, w1.heap[b]? = some (.cells c e f) := fun q hq => by rw [List.mem_singleton.1 hq]; exact ⟨_, _, _, HN1.out⟩
  have HS0 := Lib.hid (same_start hBl)
  refine Txt.Ty.wp_tree [N] [4, 16, 18, 20] [21] [1, 4, 9, 11, 13, 16, 18, 20] [0, 1, 3, 4] (.alt [2] (.alt [5, 6, 7, 8, 9, 10, 11, 12, 13, 15, 16, 17, 18, 19, 20] (.alt [14] (.alt [21, 22, 23] (.done) (.no)) (.no)) (.no)) (.no)) (by kernel_rfl) (by kernel_rfl) (by kernel_rfl) (by kernel_rfl) hBl ?_
  clear hBl
  (try simp only [Txt.pick, List.getElem?_cons_succ, List.getElem?_cons_zero])
  go_wp2
  refine Txt.RunPost.mk ?_
  refine Txt.Ty.wpTr_alt ?_ Txt.Ty.wpTr_no
  (try simp only [Txt.pick, List.getElem?_cons_succ, List.getElem?_cons_zero])
  go_wp2_with fail
  refine (restart_any n0 hn0 hn0' _).mono ?_
  rintro e wx ⟨rfl, rfl⟩
  go_wp2
  refine Txt.SegPost.mk (Txt.Ty.Shown.same HS0.out) ?_
  (try simp only [Txt.pick, List.getElem?_cons_succ, List.getElem?_cons_zero])
  go_wp2
  refine Txt.RunPost.mk ?_
  refine Txt.Ty.wpTr_alt ?_ Txt.Ty.wpTr_no
  (try simp only [Txt.pick, List.getElem?_cons_succ, List.getElem?_cons_zero])
  go_wp2_with fail
  refine (rrestart_any n0 hn0 hn0' _).mono ?_
  rintro e wx ⟨rfl, rfl⟩
  generalize cnt n0 + 1 = rs
  have hrs : (rs != rs) = false := by simp
  go_wp2
  refine Txt.SegPost.mk (Txt.Ty.Shown.same HS0.out) ?_
  (try simp only [Txt.pick, List.getElem?_cons_succ, List.getElem?_cons_zero])
  go_wp2
  refine Txt.RunPost.mk ?_
  refine Txt.Ty.wpTr_alt ?_ Txt.Ty.wpTr_no
  (try simp only [Txt.pick, List.getElem?_cons_succ, List.getElem?_cons_zero])
  go_wp2_with fail
  refine (bound_any n0 n1 n2 hn0 hn0' hn1 hn1' (by omega) _).mono ?_
  rintro e wx ⟨rfl, rfl⟩
  go_wp2
  refine Txt.SegPost.mk (Txt.Ty.Shown.same HS0.out) ?_
  (try simp only [Txt.pick, List.getElem?_cons_succ, List.getElem?_cons_zero])
  go_wp2
  refine Txt.RunPost.mk ?_
  refine Txt.Ty.wpTr_alt ?_ Txt.Ty.wpTr_no
  (try simp only [Txt.pick, List.getElem?_cons_succ, List.getElem?_cons_zero])
  go_wp2_with fail
  refine (rbound_any n0 n1 n2 hn0 hn0' hn1 hn1' (by omega) _).mono ?_
  rintro e wx ⟨rfl, rfl⟩
  generalize bnd n0 n1 n2 = bb
  have hbb : (bb != bb) = false := by simp
  go_wp2
  refine Txt.SegPost.mk (Txt.Ty.Shown.last rfl) ?_
  (try simp only [Txt.pick, List.getElem?_cons_succ, List.getElem?_cons_zero])
  go_wp2
  refine Txt.RunPost.mk ?_
  refine Txt.Ty.wpTr_done (by rfl) ⟨.head _, .head _, .head _, .head _, trivial⟩ ?_
  clear hrs hbb n_0 n_1 n_2
  go_wp2_with fail
  refine (normal_any [] x0 x1 x2 _ _ _ 1 (by omega) w1.drew (by omega) (by omega) (by omega) (Raw.below H0.out HL1.out.drew) (Raw.below H1.out HL1.out.drew) (Raw.below H2.out HL1.out.drew)).mono ?_
  rintro e w2 ⟨io, eo, rfl, hio, heo, hb2⟩
  obtain ⟨io0, io1, rfl⟩ := own_slice hio
  obtain ⟨eo0, eo1, rfl⟩ := own_slice heo
  have hs2 : w1.heap.size ≤ w2.heap.size := hb2.size
  obtain ⟨o, ho⟩ : ∃ o : Oc, o = ⟨0, cost x0.length x1.length 1, 0, x1, x2⟩ := ⟨_, rfl⟩
  obtain ⟨O, hO⟩ : ∃ O, O = w2.heap.size := ⟨_, rfl⟩
  obtain ⟨w3, hw3⟩ : ∃ w3, w3 = w2.alloc (.cells #[.int .i64 0, .int .i64 (cost x0.length x1.length 1), .int .i64 0, .slice io0 x1.length io1, .slice eo0 x2.length eo1] 49) := ⟨_, rfl⟩
  have hb3 : Below w1.heap.size w1 w3 := by rw [hw3]; exact ((Below.refl _ w1).drew.trans hb2).alloc hs2 _
  have HW3 := Lib.hid hw3
  have HO3 : Hid (w3.heap[O]? = some (.cells #[.int .i64 o.en, .int .i64 o.st, .int .i64 o.er, (.slice io0 o.im.length io1), (.slice eo0 o.ef.length eo1)] 49 (0, 0))) := Lib.hid (by rw [hw3, hO, ho]; exact heap_alloc_new w2 _)
  have HIO3 : Hid (Bytes [] w3 (.slice io0 o.im.length io1) o.im) := Lib.hid (by rw [hw3, ho]; exact Raw.alloc (Bytes.row hio rfl (fun f hf => by cases hf)) _)
  have HEO3 : Hid (Bytes [] w3 (.slice eo0 o.ef.length eo1) o.ef) := Lib.hid (by rw [hw3, ho]; exact Raw.alloc (Bytes.row heo rfl (fun f hf => by cases hf)) _)
  have HL3 := Lib.hid (HL1.out.trans (hb3.mono HL1.out.size))
  have HP3 := Lib.hid ((hb3.block P (by omega)).trans HP1.out)
  have HQ3 := Lib.hid ((hb3.block Q (by omega)).trans HQ1.out)
  have hQ3 : Q < w3.heap.size := by have := hb3.size; omega
  have hQO : Q < O := by omega
  have hO3 : O < w3.heap.size := (Array.getElem?_eq_some_iff.1 HO3.out).1
  have hol : o.im.length ≤ 24000 := by rw [ho]; simp only; omega
  have hoe : o.ef.length ≤ 24000 := by rw [ho]; simp only; omega
  have HOst : Hid (o.st = cost x0.length x1.length 1) := Lib.hid (by rw [ho])
  clear ho hio heo hb2 hw3 hb3
  go_upto_region 8 with (fail)
  rw [← HW3.out, ← hO]
  clear hO HW3
  obtain ⟨fa, hfa⟩ : ∃ fa, fa = fout p 0 o := ⟨_, rfl⟩
  obtain ⟨fb, hfb⟩ : ∃ fb, fb = fout p 1 o := ⟨_, rfl⟩
  have HFa := Lib.hid hfa; have HFb := Lib.hid hfb
  clear hfa hfb
  go_cut [8, 9] from 61 to 67 (fun s8 s9 wx => ∃ (pa pb : Nat) (ia ea ib eb : Value), s8 = .pointer (some ⟨pa, 0, none⟩) ∧ s9 = .pointer (some ⟨pb, 0, none⟩) ∧ wx.heap[pa]? = some (.cells #[.int .i64 fa.en, .int .i64 fa.st, .int .i64 fa.er, ia, ea] 49 (0, 0)) ∧ wx.heap[pb]? = some (.cells #[.int .i64 fb.en, .int .i64 fb.st, .int .i64 fb.er, ib, eb] 49 (0, 0)) ∧ wx.ownsRow w3.heap.size 5 1 ia fa.im.length (bytesV fa.im) ∧ wx.ownsRow w3.heap.size 5 1 ea fa.ef.length (bytesV fa.ef) ∧ wx.ownsRow w3.heap.size 5 1 ib fb.im.length (bytesV fb.im) ∧ wx.ownsRow w3.heap.size 5 1 eb fb.ef.length (bytesV fb.ef) ∧ Below w3.heap.size w3 wx)
  case first =>
    have hBl : ∀ b ∈ [P, O], ∃ c e f, w3.heap[b]? = some (.cells c e f) := fun q hq => by
      rcases List.mem_cons.1 hq with rfl | hq
      · exact ⟨_, _, _, HP3.out⟩
      · rw [List.mem_singleton.1 hq]; exact ⟨_, _, _, HO3.out⟩
    have hBlt : ∀ q ∈ [P, O], q < w3.heap.size := fun q hq => by
      rcases List.mem_cons.1 hq with rfl | hq
      · omega
      · rw [List.mem_singleton.1 hq]; exact hO3
    obtain ⟨w0, hw0⟩ : ∃ w0, w0 = w3.drew := ⟨_, rfl⟩
    have HS0 : Hid (Txt.SameB [P, O] w0 w0) := Lib.hid (by rw [hw0]; exact same_start hBl)
    have hz30 : w3.heap.size = w0.heap.size := by rw [hw0]; rfl
    have HP0 : Hid (w0.heap[P]? = some (.cells #[.int .i64 p.c, .int .i64 p.n, .int .i64 p.e, .int .i64 p.k, .int .i64 p.s, .int .i64 p.pl, .int .i64 p.m] 43 (0, 0))) := Lib.hid (by rw [hw0]; exact HP3.out)
    have HO0 : Hid (w0.heap[O]? = some (.cells #[.int .i64 o.en, .int .i64 o.st, .int .i64 o.er, (.slice io0 o.im.length io1), (.slice eo0 o.ef.length eo1)] 49 (0, 0))) := Lib.hid (by rw [hw0]; exact HO3.out)
    have HIO : Hid (Bytes [] w0 (.slice io0 o.im.length io1) o.im) := Lib.hid (by rw [hw0]; exact Raw.drew HIO3.out)
    have HEO : Hid (Bytes [] w0 (.slice eo0 o.ef.length eo1) o.ef) := Lib.hid (by rw [hw0]; exact Raw.drew HEO3.out)
    have HL0 : Hid (Below w0.heap.size w0 w0) := Lib.hid (Below.refl _ _)
    have HBs : Hid (Below w3.heap.size w3 w0) := Lib.hid (by rw [hw0]; exact (Below.refl _ w3).drew)
    have hP0 : P < w0.heap.size := by omega
    have hO0 : O < w0.heap.size := by omega
    have p_0 := box_at HP0.out (j := 0) rfl
    have p_1 := box_at HP0.out (j := 1) rfl
    have p_2 := box_at HP0.out (j := 2) rfl
    have p_3 := box_at HP0.out (j := 3) rfl
    have p_4 := box_at HP0.out (j := 4) rfl
    have p_5 := box_at HP0.out (j := 5) rfl
    have p_6 := box_at HP0.out (j := 6) rfl
    have o_0 := box_at HO0.out (j := 0) rfl
    have o_1 := box_at HO0.out (j := 1) rfl
    have o_2 := box_at HO0.out (j := 2) rfl
    have o_3 := box_at HO0.out (j := 3) rfl
    have o_4 := box_at HO0.out (j := 4) rfl
    refine Txt.Ty.wp_tree [P, O] [0, 1, 3, 4] [8, 9] [0, 1, 3, 4] [0, 1, 3, 4] (.alt [2] (.alt [5] (.alt [6] (.alt [7] (.alt [8] (.alt [9] (.done) (.no)) (.no)) (.no)) (.alt [7] (.alt [6] (.alt [8] (.alt [9] (.done) (.no)) (.no)) (.no)) (.no))) (.alt [6] (.alt [5] (.alt [7] (.alt [8] (.alt [9] (.done) (.no)) (.no)) (.no)) (.alt [7] (.alt [5] (.alt [8] (.alt [9] (.done) (.no)) (.no)) (.no)) (.no))) (.alt [7] (.alt [5] (.alt [6] (.alt [8] (.alt [9] (.done) (.no)) (.no)) (.no)) (.alt [6] (.alt [5] (.alt [8] (.alt [9] (.done) (.no)) (.no)) (.no)) (.no))) (.no)))) (.alt [6] (.alt [2] (.alt [5] (.alt [7] (.alt [8] (.alt [9] (.done) (.no)) (.no)) (.no)) (.alt [7] (.alt [5] (.alt [8] (.alt [9] (.done) (.no)) (.no)) (.no)) (.no))) (.alt [7] (.alt [2] (.alt [5] (.alt [8] (.alt [9] (.done) (.no)) (.no)) (.no)) (.no)) (.no))) (.alt [7] (.alt [2] (.alt [5] (.alt [6] (.alt [8] (.alt [9] (.done) (.no)) (.no)) (.no)) (.alt [6] (.alt [5] (.alt [8] (.alt [9] (.done) (.no)) (.no)) (.no)) (.no))) (.alt [6] (.alt [2] (.alt [5] (.alt [8] (.alt [9] (.done) (.no)) (.no)) (.no)) (.no)) (.no))) (.no)))) (by kernel_rfl) (by kernel_rfl) (by kernel_rfl) (by kernel_rfl) hBl ?_
    rw [← hw0]
    clear hw0 hBl
    (try simp only [Txt.pick, List.getElem?_cons_succ, List.getElem?_cons_zero])
    go_wp2
    refine Txt.RunPost.mk ?_
    clear p_0 p_1 p_2 p_3 p_4 p_5 p_6 o_0 o_1 o_2 o_3 o_4
    refine Txt.Ty.wpTr_alt ?_ ?_
    · (try simp only [Txt.pick, List.getElem?_cons_succ, List.getElem?_cons_zero])
      go_wp2_with fail
      refine (output_any [] p 0 o _ _ w0 hol hoe (Raw.below HIO.out HL0.out) (Raw.below HEO.out HL0.out)).mono ?_
      rw [← HFa.out]
      rintro r w1 ⟨ia, ea, rfl, hia, hea, hb1⟩
      obtain ⟨ia0, ia1, rfl⟩ := own_slice hia
      obtain ⟨ea0, ea1, rfl⟩ := own_slice hea
      have HL1 := Lib.hid (HL0.out.trans ((hb1).mono HL0.out.size))
      have HS1 := Lib.hid (same_below' HS0.out (hb1))
      have hz1 := (hb1).size
      have HIa1 := Lib.hid (own_base hia HL0.out.size)
      have HEa1 := Lib.hid (own_base hea HL0.out.size)
      clear hia hea hb1
      go_wp2
      refine Txt.SegPost.mk (Txt.Ty.Shown.same HS1.out) ?_
      (try simp only [Txt.pick, List.getElem?_cons_succ, List.getElem?_cons_zero])
      go_wp2
      refine Txt.RunPost.mk ?_
      refine Txt.Ty.wpTr_alt ?_ ?_
      · (try simp only [Txt.pick, List.getElem?_cons_succ, List.getElem?_cons_zero])
        go_wp2_with fail
        refine (output_any [] p 1 o _ _ w1 hol hoe (Raw.below HIO.out HL1.out) (Raw.below HEO.out HL1.out)).mono ?_
        rw [← HFb.out]
        rintro r w2 ⟨ib, eb, rfl, hib, heb, hb2⟩
        obtain ⟨ib0, ib1, rfl⟩ := own_slice hib
        obtain ⟨eb0, eb1, rfl⟩ := own_slice heb
        have HL2 := Lib.hid (HL1.out.trans ((hb2).mono HL1.out.size))
        have HS2 := Lib.hid (same_below' HS1.out (hb2))
        have hz2 := (hb2).size
        have HIa2 := Lib.hid (own_below HIa1.out (hb2) (Nat.le_refl _))
        have HEa2 := Lib.hid (own_below HEa1.out (hb2) (Nat.le_refl _))
        have HIb2 := Lib.hid (own_base hib HL1.out.size)
        have HEb2 := Lib.hid (own_base heb HL1.out.size)
        clear hib heb hb2
        go_wp2
        refine Txt.SegPost.mk (Txt.Ty.Shown.same HS2.out) ?_
        (try simp only [Txt.pick, List.getElem?_cons_succ, List.getElem?_cons_zero])
        go_wp2
        refine Txt.RunPost.mk ?_
        refine Txt.Ty.wpTr_alt ?_ ?_
        · (try simp only [Txt.pick, List.getElem?_cons_succ, List.getElem?_cons_zero])
          go_wp2
          refine Txt.SegPost.mk (Txt.Ty.Shown.same (same_below' HS2.out ((Below.refl _ w2).alloc (Nat.le_refl _) _))) ?_
          (try simp only [Txt.pick, List.getElem?_cons_succ, List.getElem?_cons_zero])
          go_wp2
          refine Txt.RunPost.mk ?_
          obtain ⟨w3, hw3⟩ : ∃ w3, w3 = w2.alloc (.cells #[.int .i64 0, .int .i64 0, .int .i64 0, .slice none 0 0, .slice none 0 0] 49) := ⟨_, rfl⟩
          obtain ⟨pa, hpa⟩ : ∃ pa, pa = w2.heap.size := ⟨_, rfl⟩
          rw [← hw3, ← hpa]
          have hb3 : Below w2.heap.size w2 w3 := by rw [hw3]; exact (Below.refl _ w2).alloc (Nat.le_refl _) _
          have HPa3 : Hid (w3.heap[pa]? = some (.cells #[.int .i64 0, .int .i64 0, .int .i64 0, .slice none 0 0, .slice none 0 0] 49 (0, 0))) := Lib.hid (by rw [hw3, hpa]; exact heap_alloc_new w2 _)
          have hpa3 : pa < w3.heap.size := (Array.getElem?_eq_some_iff.1 HPa3.out).1
          have hpas : w0.heap.size ≤ pa := by have := HL2.out.size; omega
          have hpak : pa = w2.heap.size := hpa
          have HL3 := Lib.hid (HL2.out.trans ((hb3).mono HL2.out.size))
          have HS3 := Lib.hid (same_below' HS2.out (hb3))
          have hz3 := (hb3).size
          have HIa3 := Lib.hid (own_below HIa2.out (hb3) (Nat.le_refl _))
          have HEa3 := Lib.hid (own_below HEa2.out (hb3) (Nat.le_refl _))
          have HIb3 := Lib.hid (own_below HIb2.out (hb3) (Nat.le_refl _))
          have HEb3 := Lib.hid (own_below HEb2.out (hb3) (Nat.le_refl _))
          have hnaa : ∀ q, (Value.slice ia0 (fa.im).length ia1).ownBlock = some q → q ≠ pa := fun q hq => by have := (HIa2.out.lt q hq).2; omega
          have hmaa : ∀ q, (Value.slice ea0 (fa.ef).length ea1).ownBlock = some q → q ≠ pa := fun q hq => by have := (HEa2.out.lt q hq).2; omega
          have hnba : ∀ q, (Value.slice ib0 (fb.im).length ib1).ownBlock = some q → q ≠ pa := fun q hq => by have := (HIb2.out.lt q hq).2; omega
          have hmba : ∀ q, (Value.slice eb0 (fb.ef).length eb1).ownBlock = some q → q ≠ pa := fun q hq => by have := (HEb2.out.lt q hq).2; omega
          clear hw3 hb3 hpa hpak
          refine Txt.Ty.wpTr_alt ?_ Txt.Ty.wpTr_no
          (try simp only [Txt.pick, List.getElem?_cons_succ, List.getElem?_cons_zero])
          go_wp2
          refine Txt.SegPost.mk (Txt.Ty.Shown.same (same_below' HS3.out ((Below.refl _ w3).alloc (Nat.le_refl _) _))) ?_
          (try simp only [Txt.pick, List.getElem?_cons_succ, List.getElem?_cons_zero])
          go_wp2
          refine Txt.RunPost.mk ?_
          obtain ⟨w4, hw4⟩ : ∃ w4, w4 = w3.alloc (.cells #[.int .i64 0, .int .i64 0, .int .i64 0, .slice none 0 0, .slice none 0 0] 49) := ⟨_, rfl⟩
          obtain ⟨pb, hpb⟩ : ∃ pb, pb = w3.heap.size := ⟨_, rfl⟩
          rw [← hw4, ← hpb]
          have hb4 : Below w3.heap.size w3 w4 := by rw [hw4]; exact (Below.refl _ w3).alloc (Nat.le_refl _) _
          have HPb4 : Hid (w4.heap[pb]? = some (.cells #[.int .i64 0, .int .i64 0, .int .i64 0, .slice none 0 0, .slice none 0 0] 49 (0, 0))) := Lib.hid (by rw [hw4, hpb]; exact heap_alloc_new w3 _)
          have hpb4 : pb < w4.heap.size := (Array.getElem?_eq_some_iff.1 HPb4.out).1
          have hpbs : w0.heap.size ≤ pb := by have := HL3.out.size; omega
          have hpbk : pb = w3.heap.size := hpb
          have HL4 := Lib.hid (HL3.out.trans ((hb4).mono HL3.out.size))
          have HS4 := Lib.hid (same_below' HS3.out (hb4))
          have hz4 := (hb4).size
          have HIa4 := Lib.hid (own_below HIa3.out (hb4) (Nat.le_refl _))
          have HEa4 := Lib.hid (own_below HEa3.out (hb4) (Nat.le_refl _))
          have HIb4 := Lib.hid (own_below HIb3.out (hb4) (Nat.le_refl _))
          have HEb4 := Lib.hid (own_below HEb3.out (hb4) (Nat.le_refl _))
          have HPa4 := Lib.hid (((hb4).block pa (by omega)).trans HPa3.out)
          have hpa4 : pa < w4.heap.size := by omega
          have hnab : ∀ q, (Value.slice ia0 (fa.im).length ia1).ownBlock = some q → q ≠ pb := fun q hq => by have := (HIa3.out.lt q hq).2; omega
          have hmab : ∀ q, (Value.slice ea0 (fa.ef).length ea1).ownBlock = some q → q ≠ pb := fun q hq => by have := (HEa3.out.lt q hq).2; omega
          have hnbb : ∀ q, (Value.slice ib0 (fb.im).length ib1).ownBlock = some q → q ≠ pb := fun q hq => by have := (HIb3.out.lt q hq).2; omega
          have hmbb : ∀ q, (Value.slice eb0 (fb.ef).length eb1).ownBlock = some q → q ≠ pb := fun q hq => by have := (HEb3.out.lt q hq).2; omega
          have hpp : pa ≠ pb := by omega
          clear hw4 hb4 hpb hpbk
          refine Txt.Ty.wpTr_alt ?_ Txt.Ty.wpTr_no
          (try simp only [Txt.pick, List.getElem?_cons_succ, List.getElem?_cons_zero])
          have g0 := box_at HPa4.out (j := 0) rfl
          have g1 := box_at HPa4.out (j := 1) rfl
          have g2 := box_at HPa4.out (j := 2) rfl
          have g3 := box_at HPa4.out (j := 3) rfl
          have g4 := box_at HPa4.out (j := 4) rfl
          have k0 := box_free HPa4.out 0
          have k1 := box_free HPa4.out 1
          have k2 := box_free HPa4.out 2
          have k3 := box_free HPa4.out 3
          have k4 := box_free HPa4.out 4
          go_wp2
          refine Txt.SegPost.mk (Txt.Ty.Shown.last rfl) ?_
          (try simp only [Txt.pick, List.getElem?_cons_succ, List.getElem?_cons_zero])
          go_wp2
          refine Txt.RunPost.mk ?_
          obtain ⟨w5, hw5⟩ : ∃ w5, w5 = (((((w4.setCell ⟨pa, 0, none⟩ (.int .i64 fa.en)).setCell ⟨pa, 1, none⟩ (.int .i64 fa.st)).setCell ⟨pa, 2, none⟩ (.int .i64 fa.er)).setCell ⟨pa, 3, none⟩ (.slice ia0 fa.im.length ia1)).setCell ⟨pa, 4, none⟩ (.slice ea0 fa.ef.length ea1)) := ⟨_, rfl⟩
          rw [← hw5]
          obtain ⟨hX, hK⟩ := puts_at [(0, .int .i64 fa.en), (1, .int .i64 fa.st), (2, .int .i64 fa.er), (3, .slice ia0 fa.im.length ia1), (4, .slice ea0 fa.ef.length ea1)] HPa4.out
          have eX : puts w4 pa [(0, .int .i64 fa.en), (1, .int .i64 fa.st), (2, .int .i64 fa.er), (3, .slice ia0 fa.im.length ia1), (4, .slice ea0 fa.ef.length ea1)] = w5 := hw5.symm
          have hXz := puts_size [(0, .int .i64 fa.en), (1, .int .i64 fa.st), (2, .int .i64 fa.er), (3, .slice ia0 fa.im.length ia1), (4, .slice ea0 fa.ef.length ea1)] w4 pa
          rw [eX] at hX hK hXz
          have HPa5 : Hid (w5.heap[pa]? = some (.cells #[.int .i64 fa.en, .int .i64 fa.st, .int .i64 fa.er, (.slice ia0 fa.im.length ia1), (.slice ea0 fa.ef.length ea1)] 49 (0, 0))) := Lib.hid hX
          have HPb5 := Lib.hid ((hK.block pb hpb4 (by simp; omega)).trans HPb4.out)
          have hpa5 : pa < w5.heap.size := by omega
          have hpb5 : pb < w5.heap.size := by omega
          have HIa5 := Lib.hid (own_keep HIa4.out hK (fun q hq hm => hnaa q hq (List.mem_singleton.1 hm)))
          have HEa5 := Lib.hid (own_keep HEa4.out hK (fun q hq hm => hmaa q hq (List.mem_singleton.1 hm)))
          have HIb5 := Lib.hid (own_keep HIb4.out hK (fun q hq hm => hnba q hq (List.mem_singleton.1 hm)))
          have HEb5 := Lib.hid (own_keep HEb4.out hK (fun q hq hm => hmba q hq (List.mem_singleton.1 hm)))
          have HL5 := Lib.hid (HL4.out.trans (hK.below HL4.out.size (fun f hf => by rw [List.mem_singleton.1 hf]; exact hpas)))
          have HS5 := Lib.hid (same_keep HS4.out hK (fun q hq hm => by rw [List.mem_singleton] at hm; have := hBlt q hq; have := hz30; omega))
          clear hw5 eX hX hK hXz g0 g1 g2 g3 g4 k0 k1 k2 k3 k4
          refine Txt.Ty.wpTr_alt ?_ Txt.Ty.wpTr_no
          (try simp only [Txt.pick, List.getElem?_cons_succ, List.getElem?_cons_zero])
          have g0 := box_at HPb5.out (j := 0) rfl
          have g1 := box_at HPb5.out (j := 1) rfl
          have g2 := box_at HPb5.out (j := 2) rfl
          have g3 := box_at HPb5.out (j := 3) rfl
          have g4 := box_at HPb5.out (j := 4) rfl
          have k0 := box_free HPb5.out 0
          have k1 := box_free HPb5.out 1
          have k2 := box_free HPb5.out 2
          have k3 := box_free HPb5.out 3
          have k4 := box_free HPb5.out 4
          go_wp2
          refine Txt.SegPost.mk (Txt.Ty.Shown.last rfl) ?_
          (try simp only [Txt.pick, List.getElem?_cons_succ, List.getElem?_cons_zero])
          go_wp2
          refine Txt.RunPost.mk ?_
          obtain ⟨w6, hw6⟩ : ∃ w6, w6 = (((((w5.setCell ⟨pb, 0, none⟩ (.int .i64 fb.en)).setCell ⟨pb, 1, none⟩ (.int .i64 fb.st)).setCell ⟨pb, 2, none⟩ (.int .i64 fb.er)).setCell ⟨pb, 3, none⟩ (.slice ib0 fb.im.length ib1)).setCell ⟨pb, 4, none⟩ (.slice eb0 fb.ef.length eb1)) := ⟨_, rfl⟩
          rw [← hw6]
          obtain ⟨hX, hK⟩ := puts_at [(0, .int .i64 fb.en), (1, .int .i64 fb.st), (2, .int .i64 fb.er), (3, .slice ib0 fb.im.length ib1), (4, .slice eb0 fb.ef.length eb1)] HPb5.out
          have eX : puts w5 pb [(0, .int .i64 fb.en), (1, .int .i64 fb.st), (2, .int .i64 fb.er), (3, .slice ib0 fb.im.length ib1), (4, .slice eb0 fb.ef.length eb1)] = w6 := hw6.symm
          have hXz := puts_size [(0, .int .i64 fb.en), (1, .int .i64 fb.st), (2, .int .i64 fb.er), (3, .slice ib0 fb.im.length ib1), (4, .slice eb0 fb.ef.length eb1)] w5 pb
          rw [eX] at hX hK hXz
          have HPb6 : Hid (w6.heap[pb]? = some (.cells #[.int .i64 fb.en, .int .i64 fb.st, .int .i64 fb.er, (.slice ib0 fb.im.length ib1), (.slice eb0 fb.ef.length eb1)] 49 (0, 0))) := Lib.hid hX
          have HPa6 := Lib.hid ((hK.block pa hpa5 (by simp; omega)).trans HPa5.out)
          have hpb6 : pb < w6.heap.size := by omega
          have hpa6 : pa < w6.heap.size := by omega
          have HIa6 := Lib.hid (own_keep HIa5.out hK (fun q hq hm => hnab q hq (List.mem_singleton.1 hm)))
          have HEa6 := Lib.hid (own_keep HEa5.out hK (fun q hq hm => hmab q hq (List.mem_singleton.1 hm)))
          have HIb6 := Lib.hid (own_keep HIb5.out hK (fun q hq hm => hnbb q hq (List.mem_singleton.1 hm)))
          have HEb6 := Lib.hid (own_keep HEb5.out hK (fun q hq hm => hmbb q hq (List.mem_singleton.1 hm)))
          have HL6 := Lib.hid (HL5.out.trans (hK.below HL5.out.size (fun f hf => by rw [List.mem_singleton.1 hf]; exact hpbs)))
          have HS6 := Lib.hid (same_keep HS5.out hK (fun q hq hm => by rw [List.mem_singleton] at hm; have := hBlt q hq; have := hz30; omega))
          clear hw6 eX hX hK hXz g0 g1 g2 g3 g4 k0 k1 k2 k3 k4
          refine Txt.Ty.wpTr_done (by rfl) ⟨.head _, .tail _ (.head _), .head _, .tail _ (.head _), trivial⟩ ?_
          go_wp2
          go_meet
          case rel => exact ⟨pa, pb, _, _, _, _, rfl, rfl, HPa6.out, HPb6.out, own_base HIa6.out (Nat.le_of_eq hz30), own_base HEa6.out (Nat.le_of_eq hz30), own_base HIb6.out (Nat.le_of_eq hz30), own_base HEb6.out (Nat.le_of_eq hz30), HBs.out.trans (HL6.out.mono (Nat.le_of_eq hz30))⟩
        · refine Txt.Ty.wpTr_alt ?_ Txt.Ty.wpTr_no
          (try simp only [Txt.pick, List.getElem?_cons_succ, List.getElem?_cons_zero])
          go_wp2
          refine Txt.SegPost.mk (Txt.Ty.Shown.same (same_below' HS2.out ((Below.refl _ w2).alloc (Nat.le_refl _) _))) ?_
          (try simp only [Txt.pick, List.getElem?_cons_succ, List.getElem?_cons_zero])
          go_wp2
          refine Txt.RunPost.mk ?_
          obtain ⟨w3, hw3⟩ : ∃ w3, w3 = w2.alloc (.cells #[.int .i64 0, .int .i64 0, .int .i64 0, .slice none 0 0, .slice none 0 0] 49) := ⟨_, rfl⟩
          obtain ⟨pb, hpb⟩ : ∃ pb, pb = w2.heap.size := ⟨_, rfl⟩
          rw [← hw3, ← hpb]
          have hb3 : Below w2.heap.size w2 w3 := by rw [hw3]; exact (Below.refl _ w2).alloc (Nat.le_refl _) _
          have HPb3 : Hid (w3.heap[pb]? = some (.cells #[.int .i64 0, .int .i64 0, .int .i64 0, .slice none 0 0, .slice none 0 0] 49 (0, 0))) := Lib.hid (by rw [hw3, hpb]; exact heap_alloc_new w2 _)
          have hpb3 : pb < w3.heap.size := (Array.getElem?_eq_some_iff.1 HPb3.out).1
          have hpbs : w0.heap.size ≤ pb := by have := HL2.out.size; omega
          have hpbk : pb = w2.heap.size := hpb
          have HL3 := Lib.hid (HL2.out.trans ((hb3).mono HL2.out.size))
          have HS3 := Lib.hid (same_below' HS2.out (hb3))
          have hz3 := (hb3).size
          have HIa3 := Lib.hid (own_below HIa2.out (hb3) (Nat.le_refl _))
          have HEa3 := Lib.hid (own_below HEa2.out (hb3) (Nat.le_refl _))
          have HIb3 := Lib.hid (own_below HIb2.out (hb3) (Nat.le_refl _))
          have HEb3 := Lib.hid (own_below HEb2.out (hb3) (Nat.le_refl _))
          have hnab : ∀ q, (Value.slice ia0 (fa.im).length ia1).ownBlock = some q → q ≠ pb := fun q hq => by have := (HIa2.out.lt q hq).2; omega
          have hmab : ∀ q, (Value.slice ea0 (fa.ef).length ea1).ownBlock = some q → q ≠ pb := fun q hq => by have := (HEa2.out.lt q hq).2; omega
          have hnbb : ∀ q, (Value.slice ib0 (fb.im).length ib1).ownBlock = some q → q ≠ pb := fun q hq => by have := (HIb2.out.lt q hq).2; omega
          have hmbb : ∀ q, (Value.slice eb0 (fb.ef).length eb1).ownBlock = some q → q ≠ pb := fun q hq => by have := (HEb2.out.lt q hq).2; omega
          clear hw3 hb3 hpb hpbk
          refine Txt.Ty.wpTr_alt ?_ Txt.Ty.wpTr_no
          (try simp only [Txt.pick, List.getElem?_cons_succ, List.getElem?_cons_zero])
          go_wp2
          refine Txt.SegPost.mk (Txt.Ty.Shown.same (same_below' HS3.out ((Below.refl _ w3).alloc (Nat.le_refl _) _))) ?_
          (try simp only [Txt.pick, List.getElem?_cons_succ, List.getElem?_cons_zero])
          go_wp2
          refine Txt.RunPost.mk ?_
          obtain ⟨w4, hw4⟩ : ∃ w4, w4 = w3.alloc (.cells #[.int .i64 0, .int .i64 0, .int .i64 0, .slice none 0 0, .slice none 0 0] 49) := ⟨_, rfl⟩
          obtain ⟨pa, hpa⟩ : ∃ pa, pa = w3.heap.size := ⟨_, rfl⟩
          rw [← hw4, ← hpa]
          have hb4 : Below w3.heap.size w3 w4 := by rw [hw4]; exact (Below.refl _ w3).alloc (Nat.le_refl _) _
          have HPa4 : Hid (w4.heap[pa]? = some (.cells #[.int .i64 0, .int .i64 0, .int .i64 0, .slice none 0 0, .slice none 0 0] 49 (0, 0))) := Lib.hid (by rw [hw4, hpa]; exact heap_alloc_new w3 _)
          have hpa4 : pa < w4.heap.size := (Array.getElem?_eq_some_iff.1 HPa4.out).1
          have hpas : w0.heap.size ≤ pa := by have := HL3.out.size; omega
          have hpak : pa = w3.heap.size := hpa
          have HL4 := Lib.hid (HL3.out.trans ((hb4).mono HL3.out.size))
          have HS4 := Lib.hid (same_below' HS3.out (hb4))
          have hz4 := (hb4).size
          have HIa4 := Lib.hid (own_below HIa3.out (hb4) (Nat.le_refl _))
          have HEa4 := Lib.hid (own_below HEa3.out (hb4) (Nat.le_refl _))
          have HIb4 := Lib.hid (own_below HIb3.out (hb4) (Nat.le_refl _))
          have HEb4 := Lib.hid (own_below HEb3.out (hb4) (Nat.le_refl _))
          have HPb4 := Lib.hid (((hb4).block pb (by omega)).trans HPb3.out)
          have hpb4 : pb < w4.heap.size := by omega
          have hnaa : ∀ q, (Value.slice ia0 (fa.im).length ia1).ownBlock = some q → q ≠ pa := fun q hq => by have := (HIa3.out.lt q hq).2; omega
          have hmaa : ∀ q, (Value.slice ea0 (fa.ef).length ea1).ownBlock = some q → q ≠ pa := fun q hq => by have := (HEa3.out.lt q hq).2; omega
          have hnba : ∀ q, (Value.slice ib0 (fb.im).length ib1).ownBlock = some q → q ≠ pa := fun q hq => by have := (HIb3.out.lt q hq).2; omega
          have hmba : ∀ q, (Value.slice eb0 (fb.ef).length eb1).ownBlock = some q → q ≠ pa := fun q hq => by have := (HEb3.out.lt q hq).2; omega
          have hpp : pa ≠ pb := by omega
          clear hw4 hb4 hpa hpak
          refine Txt.Ty.wpTr_alt ?_ Txt.Ty.wpTr_no
          (try simp only [Txt.pick, List.getElem?_cons_succ, List.getElem?_cons_zero])
          have g0 := box_at HPa4.out (j := 0) rfl
          have g1 := box_at HPa4.out (j := 1) rfl
          have g2 := box_at HPa4.out (j := 2) rfl
          have g3 := box_at HPa4.out (j := 3) rfl
          have g4 := box_at HPa4.out (j := 4) rfl
          have k0 := box_free HPa4.out 0
          have k1 := box_free HPa4.out 1
          have k2 := box_free HPa4.out 2
          have k3 := box_free HPa4.out 3
          have k4 := box_free HPa4.out 4
          go_wp2
          refine Txt.SegPost.mk (Txt.Ty.Shown.last rfl) ?_
          (try simp only [Txt.pick, List.getElem?_cons_succ, List.getElem?_cons_zero])
          go_wp2
          refine Txt.RunPost.mk ?_
          obtain ⟨w5, hw5⟩ : ∃ w5, w5 = (((((w4.setCell ⟨pa, 0, none⟩ (.int .i64 fa.en)).setCell ⟨pa, 1, none⟩ (.int .i64 fa.st)).setCell ⟨pa, 2, none⟩ (.int .i64 fa.er)).setCell ⟨pa, 3, none⟩ (.slice ia0 fa.im.length ia1)).setCell ⟨pa, 4, none⟩ (.slice ea0 fa.ef.length ea1)) := ⟨_, rfl⟩
          rw [← hw5]
          obtain ⟨hX, hK⟩ := puts_at [(0, .int .i64 fa.en), (1, .int .i64 fa.st), (2, .int .i64 fa.er), (3, .slice ia0 fa.im.length ia1), (4, .slice ea0 fa.ef.length ea1)] HPa4.out
          have eX : puts w4 pa [(0, .int .i64 fa.en), (1, .int .i64 fa.st), (2, .int .i64 fa.er), (3, .slice ia0 fa.im.length ia1), (4, .slice ea0 fa.ef.length ea1)] = w5 := hw5.symm
          have hXz := puts_size [(0, .int .i64 fa.en), (1, .int .i64 fa.st), (2, .int .i64 fa.er), (3, .slice ia0 fa.im.length ia1), (4, .slice ea0 fa.ef.length ea1)] w4 pa
          rw [eX] at hX hK hXz
          have HPa5 : Hid (w5.heap[pa]? = some (.cells #[.int .i64 fa.en, .int .i64 fa.st, .int .i64 fa.er, (.slice ia0 fa.im.length ia1), (.slice ea0 fa.ef.length ea1)] 49 (0, 0))) := Lib.hid hX
          have HPb5 := Lib.hid ((hK.block pb hpb4 (by simp; omega)).trans HPb4.out)
          have hpa5 : pa < w5.heap.size := by omega
          have hpb5 : pb < w5.heap.size := by omega
          have HIa5 := Lib.hid (own_keep HIa4.out hK (fun q hq hm => hnaa q hq (List.mem_singleton.1 hm)))
          have HEa5 := Lib.hid (own_keep HEa4.out hK (fun q hq hm => hmaa q hq (List.mem_singleton.1 hm)))
          have HIb5 := Lib.hid (own_keep HIb4.out hK (fun q hq hm => hnba q hq (List.mem_singleton.1 hm)))
          have HEb5 := Lib.hid (own_keep HEb4.out hK (fun q hq hm => hmba q hq (List.mem_singleton.1 hm)))
          have HL5 := Lib.hid (HL4.out.trans (hK.below HL4.out.size (fun f hf => by rw [List.mem_singleton.1 hf]; exact hpas)))
          have HS5 := Lib.hid (same_keep HS4.out hK (fun q hq hm => by rw [List.mem_singleton] at hm; have := hBlt q hq; have := hz30; omega))
          clear hw5 eX hX hK hXz g0 g1 g2 g3 g4 k0 k1 k2 k3 k4
          refine Txt.Ty.wpTr_alt ?_ Txt.Ty.wpTr_no
          (try simp only [Txt.pick, List.getElem?_cons_succ, List.getElem?_cons_zero])
          have g0 := box_at HPb5.out (j := 0) rfl
          have g1 := box_at HPb5.out (j := 1) rfl
          have g2 := box_at HPb5.out (j := 2) rfl
          have g3 := box_at HPb5.out (j := 3) rfl
          have g4 := box_at HPb5.out (j := 4) rfl
          have k0 := box_free HPb5.out 0
          have k1 := box_free HPb5.out 1
          have k2 := box_free HPb5.out 2
          have k3 := box_free HPb5.out 3
          have k4 := box_free HPb5.out 4
          go_wp2
          refine Txt.SegPost.mk (Txt.Ty.Shown.last rfl) ?_
          (try simp only [Txt.pick, List.getElem?_cons_succ, List.getElem?_cons_zero])
          go_wp2
          refine Txt.RunPost.mk ?_
          obtain ⟨w6, hw6⟩ : ∃ w6, w6 = (((((w5.setCell ⟨pb, 0, none⟩ (.int .i64 fb.en)).setCell ⟨pb, 1, none⟩ (.int .i64 fb.st)).setCell ⟨pb, 2, none⟩ (.int .i64 fb.er)).setCell ⟨pb, 3, none⟩ (.slice ib0 fb.im.length ib1)).setCell ⟨pb, 4, none⟩ (.slice eb0 fb.ef.length eb1)) := ⟨_, rfl⟩
          rw [← hw6]
          obtain ⟨hX, hK⟩ := puts_at [(0, .int .i64 fb.en), (1, .int .i64 fb.st), (2, .int .i64 fb.er), (3, .slice ib0 fb.im.length ib1), (4, .slice eb0 fb.ef.length eb1)] HPb5.out
          have eX : puts w5 pb [(0, .int .i64 fb.en), (1, .int .i64 fb.st), (2, .int .i64 fb.er), (3, .slice ib0 fb.im.length ib1), (4, .slice eb0 fb.ef.length eb1)] = w6 := hw6.symm
          have hXz := puts_size [(0, .int .i64 fb.en), (1, .int .i64 fb.st), (2, .int .i64 fb.er), (3, .slice ib0 fb.im.length ib1), (4, .slice eb0 fb.ef.length eb1)] w5 pb
          rw [eX] at hX hK hXz
          have HPb6 : Hid (w6.heap[pb]? = some (.cells #[.int .i64 fb.en, .int .i64 fb.st, .int .i64 fb.er, (.slice ib0 fb.im.length ib1), (.slice eb0 fb.ef.length eb1)] 49 (0, 0))) := Lib.hid hX
          have HPa6 := Lib.hid ((hK.block pa hpa5 (by simp; omega)).trans HPa5.out)
          have hpb6 : pb < w6.heap.size := by omega
          have hpa6 : pa < w6.heap.size := by omega
          have HIa6 := Lib.hid (own_keep HIa5.out hK (fun q hq hm => hnab q hq (List.mem_singleton.1 hm)))
          have HEa6 := Lib.hid (own_keep HEa5.out hK (fun q hq hm => hmab q hq (List.mem_singleton.1 hm)))
          have HIb6 := Lib.hid (own_keep HIb5.out hK (fun q hq hm => hnbb q hq (List.mem_singleton.1 hm)))
          have HEb6 := Lib.hid (own_keep HEb5.out hK (fun q hq hm => hmbb q hq (List.mem_singleton.1 hm)))
          have HL6 := Lib.hid (HL5.out.trans (hK.below HL5.out.size (fun f hf => by rw [List.mem_singleton.1 hf]; exact hpbs)))
          have HS6 := Lib.hid (same_keep HS5.out hK (fun q hq hm => by rw [List.mem_singleton] at hm; have := hBlt q hq; have := hz30; omega))
          clear hw6 eX hX hK hXz g0 g1 g2 g3 g4 k0 k1 k2 k3 k4
          refine Txt.Ty.wpTr_done (by rfl) ⟨.head _, .tail _ (.head _), .head _, .tail _ (.head _), trivial⟩ ?_
          go_wp2
          go_meet
          case rel => exact ⟨pa, pb, _, _, _, _, rfl, rfl, HPa6.out, HPb6.out, own_base HIa6.out (Nat.le_of_eq hz30), own_base HEa6.out (Nat.le_of_eq hz30), own_base HIb6.out (Nat.le_of_eq hz30), own_base HEb6.out (Nat.le_of_eq hz30), HBs.out.trans (HL6.out.mono (Nat.le_of_eq hz30))⟩
      · refine Txt.Ty.wpTr_alt ?_ ?_
        · (try simp only [Txt.pick, List.getElem?_cons_succ, List.getElem?_cons_zero])
          go_wp2
          refine Txt.SegPost.mk (Txt.Ty.Shown.same (same_below' HS1.out ((Below.refl _ w1).alloc (Nat.le_refl _) _))) ?_
          (try simp only [Txt.pick, List.getElem?_cons_succ, List.getElem?_cons_zero])
          go_wp2
          refine Txt.RunPost.mk ?_
          obtain ⟨w2, hw2⟩ : ∃ w2, w2 = w1.alloc (.cells #[.int .i64 0, .int .i64 0, .int .i64 0, .slice none 0 0, .slice none 0 0] 49) := ⟨_, rfl⟩
          obtain ⟨pa, hpa⟩ : ∃ pa, pa = w1.heap.size := ⟨_, rfl⟩
          rw [← hw2, ← hpa]
          have hb2 : Below w1.heap.size w1 w2 := by rw [hw2]; exact (Below.refl _ w1).alloc (Nat.le_refl _) _
          have HPa2 : Hid (w2.heap[pa]? = some (.cells #[.int .i64 0, .int .i64 0, .int .i64 0, .slice none 0 0, .slice none 0 0] 49 (0, 0))) := Lib.hid (by rw [hw2, hpa]; exact heap_alloc_new w1 _)
          have hpa2 : pa < w2.heap.size := (Array.getElem?_eq_some_iff.1 HPa2.out).1
          have hpas : w0.heap.size ≤ pa := by have := HL1.out.size; omega
          have hpak : pa = w1.heap.size := hpa
          have HL2 := Lib.hid (HL1.out.trans ((hb2).mono HL1.out.size))
          have HS2 := Lib.hid (same_below' HS1.out (hb2))
          have hz2 := (hb2).size
          have HIa2 := Lib.hid (own_below HIa1.out (hb2) (Nat.le_refl _))
          have HEa2 := Lib.hid (own_below HEa1.out (hb2) (Nat.le_refl _))
          have hnaa : ∀ q, (Value.slice ia0 (fa.im).length ia1).ownBlock = some q → q ≠ pa := fun q hq => by have := (HIa1.out.lt q hq).2; omega
          have hmaa : ∀ q, (Value.slice ea0 (fa.ef).length ea1).ownBlock = some q → q ≠ pa := fun q hq => by have := (HEa1.out.lt q hq).2; omega
          clear hw2 hb2 hpa hpak
          refine Txt.Ty.wpTr_alt ?_ ?_
          · (try simp only [Txt.pick, List.getElem?_cons_succ, List.getElem?_cons_zero])
            go_wp2_with fail
            refine (output_any [] p 1 o _ _ w2 hol hoe (Raw.below HIO.out HL2.out) (Raw.below HEO.out HL2.out)).mono ?_
            rw [← HFb.out]
            rintro r w3 ⟨ib, eb, rfl, hib, heb, hb3⟩
            obtain ⟨ib0, ib1, rfl⟩ := own_slice hib
            obtain ⟨eb0, eb1, rfl⟩ := own_slice heb
            have HL3 := Lib.hid (HL2.out.trans ((hb3).mono HL2.out.size))
            have HS3 := Lib.hid (same_below' HS2.out (hb3))
            have hz3 := (hb3).size
            have HIa3 := Lib.hid (own_below HIa2.out (hb3) (Nat.le_refl _))
            have HEa3 := Lib.hid (own_below HEa2.out (hb3) (Nat.le_refl _))
            have HPa3 := Lib.hid (((hb3).block pa (by omega)).trans HPa2.out)
            have hpa3 : pa < w3.heap.size := by omega
            have HIb3 := Lib.hid (own_base hib HL2.out.size)
            have HEb3 := Lib.hid (own_base heb HL2.out.size)
            have hnba: ∀ q, (Value.slice ib0 (fb.im).length ib1).ownBlock = some q → q ≠ pa := fun q hq => by have := (hib.lt q hq).1; omega
            have hmba: ∀ q, (Value.slice eb0 (fb.ef).length eb1).ownBlock = some q → q ≠ pa := fun q hq => by have := (heb.lt q hq).1; omega
            clear hib heb hb3
            go_wp2
            refine Txt.SegPost.mk (Txt.Ty.Shown.same HS3.out) ?_
            (try simp only [Txt.pick, List.getElem?_cons_succ, List.getElem?_cons_zero])
            go_wp2
            refine Txt.RunPost.mk ?_
            refine Txt.Ty.wpTr_alt ?_ Txt.Ty.wpTr_no
            (try simp only [Txt.pick, List.getElem?_cons_succ, List.getElem?_cons_zero])
            go_wp2
            refine Txt.SegPost.mk (Txt.Ty.Shown.same (same_below' HS3.out ((Below.refl _ w3).alloc (Nat.le_refl _) _))) ?_
            (try simp only [Txt.pick, List.getElem?_cons_succ, List.getElem?_cons_zero])
            go_wp2
            refine Txt.RunPost.mk ?_
            obtain ⟨w4, hw4⟩ : ∃ w4, w4 = w3.alloc (.cells #[.int .i64 0, .int .i64 0, .int .i64 0, .slice none 0 0, .slice none 0 0] 49) := ⟨_, rfl⟩
            obtain ⟨pb, hpb⟩ : ∃ pb, pb = w3.heap.size := ⟨_, rfl⟩
            rw [← hw4, ← hpb]
            have hb4 : Below w3.heap.size w3 w4 := by rw [hw4]; exact (Below.refl _ w3).alloc (Nat.le_refl _) _
            have HPb4 : Hid (w4.heap[pb]? = some (.cells #[.int .i64 0, .int .i64 0, .int .i64 0, .slice none 0 0, .slice none 0 0] 49 (0, 0))) := Lib.hid (by rw [hw4, hpb]; exact heap_alloc_new w3 _)
            have hpb4 : pb < w4.heap.size := (Array.getElem?_eq_some_iff.1 HPb4.out).1
            have hpbs : w0.heap.size ≤ pb := by have := HL3.out.size; omega
            have hpbk : pb = w3.heap.size := hpb
            have HL4 := Lib.hid (HL3.out.trans ((hb4).mono HL3.out.size))
            have HS4 := Lib.hid (same_below' HS3.out (hb4))
            have hz4 := (hb4).size
            have HIa4 := Lib.hid (own_below HIa3.out (hb4) (Nat.le_refl _))
            have HEa4 := Lib.hid (own_below HEa3.out (hb4) (Nat.le_refl _))
            have HIb4 := Lib.hid (own_below HIb3.out (hb4) (Nat.le_refl _))
            have HEb4 := Lib.hid (own_below HEb3.out (hb4) (Nat.le_refl _))
            have HPa4 := Lib.hid (((hb4).block pa (by omega)).trans HPa3.out)
            have hpa4 : pa < w4.heap.size := by omega
            have hnab : ∀ q, (Value.slice ia0 (fa.im).length ia1).ownBlock = some q → q ≠ pb := fun q hq => by have := (HIa3.out.lt q hq).2; omega
            have hmab : ∀ q, (Value.slice ea0 (fa.ef).length ea1).ownBlock = some q → q ≠ pb := fun q hq => by have := (HEa3.out.lt q hq).2; omega
            have hnbb : ∀ q, (Value.slice ib0 (fb.im).length ib1).ownBlock = some q → q ≠ pb := fun q hq => by have := (HIb3.out.lt q hq).2; omega
            have hmbb : ∀ q, (Value.slice eb0 (fb.ef).length eb1).ownBlock = some q → q ≠ pb := fun q hq => by have := (HEb3.out.lt q hq).2; omega
            have hpp : pa ≠ pb := by omega
            clear hw4 hb4 hpb hpbk
            refine Txt.Ty.wpTr_alt ?_ Txt.Ty.wpTr_no
            (try simp only [Txt.pick, List.getElem?_cons_succ, List.getElem?_cons_zero])
            have g0 := box_at HPa4.out (j := 0) rfl
            have g1 := box_at HPa4.out (j := 1) rfl
            have g2 := box_at HPa4.out (j := 2) rfl
            have g3 := box_at HPa4.out (j := 3) rfl
            have g4 := box_at HPa4.out (j := 4) rfl
            have k0 := box_free HPa4.out 0
            have k1 := box_free HPa4.out 1
            have k2 := box_free HPa4.out 2
            have k3 := box_free HPa4.out 3
            have k4 := box_free HPa4.out 4
            go_wp2
            refine Txt.SegPost.mk (Txt.Ty.Shown.last rfl) ?_
            (try simp only [Txt.pick, List.getElem?_cons_succ, List.getElem?_cons_zero])
            go_wp2
            refine Txt.RunPost.mk ?_
            obtain ⟨w5, hw5⟩ : ∃ w5, w5 = (((((w4.setCell ⟨pa, 0, none⟩ (.int .i64 fa.en)).setCell ⟨pa, 1, none⟩ (.int .i64 fa.st)).setCell ⟨pa, 2, none⟩ (.int .i64 fa.er)).setCell ⟨pa, 3, none⟩ (.slice ia0 fa.im.length ia1)).setCell ⟨pa, 4, none⟩ (.slice ea0 fa.ef.length ea1)) := ⟨_, rfl⟩
            rw [← hw5]
            obtain ⟨hX, hK⟩ := puts_at [(0, .int .i64 fa.en), (1, .int .i64 fa.st), (2, .int .i64 fa.er), (3, .slice ia0 fa.im.length ia1), (4, .slice ea0 fa.ef.length ea1)] HPa4.out
            have eX : puts w4 pa [(0, .int .i64 fa.en), (1, .int .i64 fa.st), (2, .int .i64 fa.er), (3, .slice ia0 fa.im.length ia1), (4, .slice ea0 fa.ef.length ea1)] = w5 := hw5.symm
            have hXz := puts_size [(0, .int .i64 fa.en), (1, .int .i64 fa.st), (2, .int .i64 fa.er), (3, .slice ia0 fa.im.length ia1), (4, .slice ea0 fa.ef.length ea1)] w4 pa
            rw [eX] at hX hK hXz
            have HPa5 : Hid (w5.heap[pa]? = some (.cells #[.int .i64 fa.en, .int .i64 fa.st, .int .i64 fa.er, (.slice ia0 fa.im.length ia1), (.slice ea0 fa.ef.length ea1)] 49 (0, 0))) := Lib.hid hX
            have HPb5 := Lib.hid ((hK.block pb hpb4 (by simp; omega)).trans HPb4.out)
            have hpa5 : pa < w5.heap.size := by omega
            have hpb5 : pb < w5.heap.size := by omega
            have HIa5 := Lib.hid (own_keep HIa4.out hK (fun q hq hm => hnaa q hq (List.mem_singleton.1 hm)))
            have HEa5 := Lib.hid (own_keep HEa4.out hK (fun q hq hm => hmaa q hq (List.mem_singleton.1 hm)))
            have HIb5 := Lib.hid (own_keep HIb4.out hK (fun q hq hm => hnba q hq (List.mem_singleton.1 hm)))
            have HEb5 := Lib.hid (own_keep HEb4.out hK (fun q hq hm => hmba q hq (List.mem_singleton.1 hm)))
            have HL5 := Lib.hid (HL4.out.trans (hK.below HL4.out.size (fun f hf => by rw [List.mem_singleton.1 hf]; exact hpas)))
            have HS5 := Lib.hid (same_keep HS4.out hK (fun q hq hm => by rw [List.mem_singleton] at hm; have := hBlt q hq; have := hz30; omega))
            clear hw5 eX hX hK hXz g0 g1 g2 g3 g4 k0 k1 k2 k3 k4
            refine Txt.Ty.wpTr_alt ?_ Txt.Ty.wpTr_no
            (try simp only [Txt.pick, List.getElem?_cons_succ, List.getElem?_cons_zero])
            have g0 := box_at HPb5.out (j := 0) rfl
            have g1 := box_at HPb5.out (j := 1) rfl
            have g2 := box_at HPb5.out (j := 2) rfl
            have g3 := box_at HPb5.out (j := 3) rfl
            have g4 := box_at HPb5.out (j := 4) rfl
            have k0 := box_free HPb5.out 0
            have k1 := box_free HPb5.out 1
            have k2 := box_free HPb5.out 2
            have k3 := box_free HPb5.out 3
            have k4 := box_free HPb5.out 4
            go_wp2
            refine Txt.SegPost.mk (Txt.Ty.Shown.last rfl) ?_
            (try simp only [Txt.pick, List.getElem?_cons_succ, List.getElem?_cons_zero])
            go_wp2
            refine Txt.RunPost.mk ?_
            obtain ⟨w6, hw6⟩ : ∃ w6, w6 = (((((w5.setCell ⟨pb, 0, none⟩ (.int .i64 fb.en)).setCell ⟨pb, 1, none⟩ (.int .i64 fb.st)).setCell ⟨pb, 2, none⟩ (.int .i64 fb.er)).setCell ⟨pb, 3, none⟩ (.slice ib0 fb.im.length ib1)).setCell ⟨pb, 4, none⟩ (.slice eb0 fb.ef.length eb1)) := ⟨_, rfl⟩
            rw [← hw6]
            obtain ⟨hX, hK⟩ := puts_at [(0, .int .i64 fb.en), (1, .int .i64 fb.st), (2, .int .i64 fb.er), (3, .slice ib0 fb.im.length ib1), (4, .slice eb0 fb.ef.length eb1)] HPb5.out
            have eX : puts w5 pb [(0, .int .i64 fb.en), (1, .int .i64 fb.st), (2, .int .i64 fb.er), (3, .slice ib0 fb.im.length ib1), (4, .slice eb0 fb.ef.length eb1)] = w6 := hw6.symm
            have hXz := puts_size [(0, .int .i64 fb.en), (1, .int .i64 fb.st), (2, .int .i64 fb.er), (3, .slice ib0 fb.im.length ib1), (4, .slice eb0 fb.ef.length eb1)] w5 pb
            rw [eX] at hX hK hXz
            have HPb6 : Hid (w6.heap[pb]? = some (.cells #[.int .i64 fb.en, .int .i64 fb.st, .int .i64 fb.er, (.slice ib0 fb.im.length ib1), (.slice eb0 fb.ef.length eb1)] 49 (0, 0))) := Lib.hid hX
            have HPa6 := Lib.hid ((hK.block pa hpa5 (by simp; omega)).trans HPa5.out)
            have hpb6 : pb < w6.heap.size := by omega
            have hpa6 : pa < w6.heap.size := by omega
            have HIa6 := Lib.hid (own_keep HIa5.out hK (fun q hq hm => hnab q hq (List.mem_singleton.1 hm)))
            have HEa6 := Lib.hid (own_keep HEa5.out hK (fun q hq hm => hmab q hq (List.mem_singleton.1 hm)))
            have HIb6 := Lib.hid (own_keep HIb5.out hK (fun q hq hm => hnbb q hq (List.mem_singleton.1 hm)))
            have HEb6 := Lib.hid (own_keep HEb5.out hK (fun q hq hm => hmbb q hq (List.mem_singleton.1 hm)))
            have HL6 := Lib.hid (HL5.out.trans (hK.below HL5.out.size (fun f hf => by rw [List.mem_singleton.1 hf]; exact hpbs)))
            have HS6 := Lib.hid (same_keep HS5.out hK (fun q hq hm => by rw [List.mem_singleton] at hm; have := hBlt q hq; have := hz30; omega))
            clear hw6 eX hX hK hXz g0 g1 g2 g3 g4 k0 k1 k2 k3 k4
            refine Txt.Ty.wpTr_done (by rfl) ⟨.head _, .tail _ (.head _), .head _, .tail _ (.head _), trivial⟩ ?_
            go_wp2
            go_meet
            case rel => exact ⟨pa, pb, _, _, _, _, rfl, rfl, HPa6.out, HPb6.out, own_base HIa6.out (Nat.le_of_eq hz30), own_base HEa6.out (Nat.le_of_eq hz30), own_base HIb6.out (Nat.le_of_eq hz30), own_base HEb6.out (Nat.le_of_eq hz30), HBs.out.trans (HL6.out.mono (Nat.le_of_eq hz30))⟩
          · refine Txt.Ty.wpTr_alt ?_ Txt.Ty.wpTr_no
            (try simp only [Txt.pick, List.getElem?_cons_succ, List.getElem?_cons_zero])
            go_wp2
            refine Txt.SegPost.mk (Txt.Ty.Shown.same (same_below' HS2.out ((Below.refl _ w2).alloc (Nat.le_refl _) _))) ?_
            (try simp only [Txt.pick, List.getElem?_cons_succ, List.getElem?_cons_zero])
            go_wp2
            refine Txt.RunPost.mk ?_
            obtain ⟨w3, hw3⟩ : ∃ w3, w3 = w2.alloc (.cells #[.int .i64 0, .int .i64 0, .int .i64 0, .slice none 0 0, .slice none 0 0] 49) := ⟨_, rfl⟩
            obtain ⟨pb, hpb⟩ : ∃ pb, pb = w2.heap.size := ⟨_, rfl⟩
            rw [← hw3, ← hpb]
            have hb3 : Below w2.heap.size w2 w3 := by rw [hw3]; exact (Below.refl _ w2).alloc (Nat.le_refl _) _
            have HPb3 : Hid (w3.heap[pb]? = some (.cells #[.int .i64 0, .int .i64 0, .int .i64 0, .slice none 0 0, .slice none 0 0] 49 (0, 0))) := Lib.hid (by rw [hw3, hpb]; exact heap_alloc_new w2 _)
            have hpb3 : pb < w3.heap.size := (Array.getElem?_eq_some_iff.1 HPb3.out).1
            have hpbs : w0.heap.size ≤ pb := by have := HL2.out.size; omega
            have hpbk : pb = w2.heap.size := hpb
            have HL3 := Lib.hid (HL2.out.trans ((hb3).mono HL2.out.size))
            have HS3 := Lib.hid (same_below' HS2.out (hb3))
            have hz3 := (hb3).size
            have HIa3 := Lib.hid (own_below HIa2.out (hb3) (Nat.le_refl _))
            have HEa3 := Lib.hid (own_below HEa2.out (hb3) (Nat.le_refl _))
            have HPa3 := Lib.hid (((hb3).block pa (by omega)).trans HPa2.out)
            have hpa3 : pa < w3.heap.size := by omega
            have hnab : ∀ q, (Value.slice ia0 (fa.im).length ia1).ownBlock = some q → q ≠ pb := fun q hq => by have := (HIa2.out.lt q hq).2; omega
            have hmab : ∀ q, (Value.slice ea0 (fa.ef).length ea1).ownBlock = some q → q ≠ pb := fun q hq => by have := (HEa2.out.lt q hq).2; omega
            have hpp : pa ≠ pb := by omega
            clear hw3 hb3 hpb hpbk
            refine Txt.Ty.wpTr_alt ?_ Txt.Ty.wpTr_no
            (try simp only [Txt.pick, List.getElem?_cons_succ, List.getElem?_cons_zero])
            go_wp2_with fail
            refine (output_any [] p 1 o _ _ w3 hol hoe (Raw.below HIO.out HL3.out) (Raw.below HEO.out HL3.out)).mono ?_
            rw [← HFb.out]
            rintro r w4 ⟨ib, eb, rfl, hib, heb, hb4⟩
            obtain ⟨ib0, ib1, rfl⟩ := own_slice hib
            obtain ⟨eb0, eb1, rfl⟩ := own_slice heb
            have HL4 := Lib.hid (HL3.out.trans ((hb4).mono HL3.out.size))
            have HS4 := Lib.hid (same_below' HS3.out (hb4))
            have hz4 := (hb4).size
            have HIa4 := Lib.hid (own_below HIa3.out (hb4) (Nat.le_refl _))
            have HEa4 := Lib.hid (own_below HEa3.out (hb4) (Nat.le_refl _))
            have HPa4 := Lib.hid (((hb4).block pa (by omega)).trans HPa3.out)
            have hpa4 : pa < w4.heap.size := by omega
            have HPb4 := Lib.hid (((hb4).block pb (by omega)).trans HPb3.out)
            have hpb4 : pb < w4.heap.size := by omega
            have HIb4 := Lib.hid (own_base hib HL3.out.size)
            have HEb4 := Lib.hid (own_base heb HL3.out.size)
            have hnba: ∀ q, (Value.slice ib0 (fb.im).length ib1).ownBlock = some q → q ≠ pa := fun q hq => by have := (hib.lt q hq).1; omega
            have hmba: ∀ q, (Value.slice eb0 (fb.ef).length eb1).ownBlock = some q → q ≠ pa := fun q hq => by have := (heb.lt q hq).1; omega
            have hnbb: ∀ q, (Value.slice ib0 (fb.im).length ib1).ownBlock = some q → q ≠ pb := fun q hq => by have := (hib.lt q hq).1; omega
            have hmbb: ∀ q, (Value.slice eb0 (fb.ef).length eb1).ownBlock = some q → q ≠ pb := fun q hq => by have := (heb.lt q hq).1; omega
            clear hib heb hb4
            go_wp2
            refine Txt.SegPost.mk (Txt.Ty.Shown.same HS4.out) ?_
            (try simp only [Txt.pick, List.getElem?_cons_succ, List.getElem?_cons_zero])
            go_wp2
            refine Txt.RunPost.mk ?_
            refine Txt.Ty.wpTr_alt ?_ Txt.Ty.wpTr_no
            (try simp only [Txt.pick, List.getElem?_cons_succ, List.getElem?_cons_zero])
            have g0 := box_at HPa4.out (j := 0) rfl
            have g1 := box_at HPa4.out (j := 1) rfl
            have g2 := box_at HPa4.out (j := 2) rfl
            have g3 := box_at HPa4.out (j := 3) rfl
            have g4 := box_at HPa4.out (j := 4) rfl
            have k0 := box_free HPa4.out 0
            have k1 := box_free HPa4.out 1
            have k2 := box_free HPa4.out 2
            have k3 := box_free HPa4.out 3
            have k4 := box_free HPa4.out 4
            go_wp2
            refine Txt.SegPost.mk (Txt.Ty.Shown.last rfl) ?_
            (try simp only [Txt.pick, List.getElem?_cons_succ, List.getElem?_cons_zero])
            go_wp2
            refine Txt.RunPost.mk ?_
            obtain ⟨w5, hw5⟩ : ∃ w5, w5 = (((((w4.setCell ⟨pa, 0, none⟩ (.int .i64 fa.en)).setCell ⟨pa, 1, none⟩ (.int .i64 fa.st)).setCell ⟨pa, 2, none⟩ (.int .i64 fa.er)).setCell ⟨pa, 3, none⟩ (.slice ia0 fa.im.length ia1)).setCell ⟨pa, 4, none⟩ (.slice ea0 fa.ef.length ea1)) := ⟨_, rfl⟩
            rw [← hw5]
            obtain ⟨hX, hK⟩ := puts_at [(0, .int .i64 fa.en), (1, .int .i64 fa.st), (2, .int .i64 fa.er), (3, .slice ia0 fa.im.length ia1), (4, .slice ea0 fa.ef.length ea1)] HPa4.out
            have eX : puts w4 pa [(0, .int .i64 fa.en), (1, .int .i64 fa.st), (2, .int .i64 fa.er), (3, .slice ia0 fa.im.length ia1), (4, .slice ea0 fa.ef.length ea1)] = w5 := hw5.symm
            have hXz := puts_size [(0, .int .i64 fa.en), (1, .int .i64 fa.st), (2, .int .i64 fa.er), (3, .slice ia0 fa.im.length ia1), (4, .slice ea0 fa.ef.length ea1)] w4 pa
            rw [eX] at hX hK hXz
            have HPa5 : Hid (w5.heap[pa]? = some (.cells #[.int .i64 fa.en, .int .i64 fa.st, .int .i64 fa.er, (.slice ia0 fa.im.length ia1), (.slice ea0 fa.ef.length ea1)] 49 (0, 0))) := Lib.hid hX
            have HPb5 := Lib.hid ((hK.block pb hpb4 (by simp; omega)).trans HPb4.out)
            have hpa5 : pa < w5.heap.size := by omega
            have hpb5 : pb < w5.heap.size := by omega
            have HIa5 := Lib.hid (own_keep HIa4.out hK (fun q hq hm => hnaa q hq (List.mem_singleton.1 hm)))
            have HEa5 := Lib.hid (own_keep HEa4.out hK (fun q hq hm => hmaa q hq (List.mem_singleton.1 hm)))
            have HIb5 := Lib.hid (own_keep HIb4.out hK (fun q hq hm => hnba q hq (List.mem_singleton.1 hm)))
            have HEb5 := Lib.hid (own_keep HEb4.out hK (fun q hq hm => hmba q hq (List.mem_singleton.1 hm)))
            have HL5 := Lib.hid (HL4.out.trans (hK.below HL4.out.size (fun f hf => by rw [List.mem_singleton.1 hf]; exact hpas)))
            have HS5 := Lib.hid (same_keep HS4.out hK (fun q hq hm => by rw [List.mem_singleton] at hm; have := hBlt q hq; have := hz30; omega))
            clear hw5 eX hX hK hXz g0 g1 g2 g3 g4 k0 k1 k2 k3 k4
            refine Txt.Ty.wpTr_alt ?_ Txt.Ty.wpTr_no
            (try simp only [Txt.pick, List.getElem?_cons_succ, List.getElem?_cons_zero])
            have g0 := box_at HPb5.out (j := 0) rfl
            have g1 := box_at HPb5.out (j := 1) rfl
            have g2 := box_at HPb5.out (j := 2) rfl
            have g3 := box_at HPb5.out (j := 3) rfl
            have g4 := box_at HPb5.out (j := 4) rfl
            have k0 := box_free HPb5.out 0
            have k1 := box_free HPb5.out 1
            have k2 := box_free HPb5.out 2
            have k3 := box_free HPb5.out 3
            have k4 := box_free HPb5.out 4
            go_wp2
            refine Txt.SegPost.mk (Txt.Ty.Shown.last rfl) ?_
            (try simp only [Txt.pick, List.getElem?_cons_succ, List.getElem?_cons_zero])
            go_wp2
            refine Txt.RunPost.mk ?_
            obtain ⟨w6, hw6⟩ : ∃ w6, w6 = (((((w5.setCell ⟨pb, 0, none⟩ (.int .i64 fb.en)).setCell ⟨pb, 1, none⟩ (.int .i64 fb.st)).setCell ⟨pb, 2, none⟩ (.int .i64 fb.er)).setCell ⟨pb, 3, none⟩ (.slice ib0 fb.im.length ib1)).setCell ⟨pb, 4, none⟩ (.slice eb0 fb.ef.length eb1)) := ⟨_, rfl⟩
            rw [← hw6]
            obtain ⟨hX, hK⟩ := puts_at [(0, .int .i64 fb.en), (1, .int .i64 fb.st), (2, .int .i64 fb.er), (3, .slice ib0 fb.im.length ib1), (4, .slice eb0 fb.ef.length eb1)] HPb5.out
            have eX : puts w5 pb [(0, .int .i64 fb.en), (1, .int .i64 fb.st), (2, .int .i64 fb.er), (3, .slice ib0 fb.im.length ib1), (4, .slice eb0 fb.ef.length eb1)] = w6 := hw6.symm
            have hXz := puts_size [(0, .int .i64 fb.en), (1, .int .i64 fb.st), (2, .int .i64 fb.er), (3, .slice ib0 fb.im.length ib1), (4, .slice eb0 fb.ef.length eb1)] w5 pb
            rw [eX] at hX hK hXz
            have HPb6 : Hid (w6.heap[pb]? = some (.cells #[.int .i64 fb.en, .int .i64 fb.st, .int .i64 fb.er, (.slice ib0 fb.im.length ib1), (.slice eb0 fb.ef.length eb1)] 49 (0, 0))) := Lib.hid hX
            have HPa6 := Lib.hid ((hK.block pa hpa5 (by simp; omega)).trans HPa5.out)
            have hpb6 : pb < w6.heap.size := by omega
            have hpa6 : pa < w6.heap.size := by omega
            have HIa6 := Lib.hid (own_keep HIa5.out hK (fun q hq hm => hnab q hq (List.mem_singleton.1 hm)))
            have HEa6 := Lib.hid (own_keep HEa5.out hK (fun q hq hm => hmab q hq (List.mem_singleton.1 hm)))
            have HIb6 := Lib.hid (own_keep HIb5.out hK (fun q hq hm => hnbb q hq (List.mem_singleton.1 hm)))
            have HEb6 := Lib.hid (own_keep HEb5.out hK (fun q hq hm => hmbb q hq (List.mem_singleton.1 hm)))
            have HL6 := Lib.hid (HL5.out.trans (hK.below HL5.out.size (fun f hf => by rw [List.mem_singleton.1 hf]; exact hpbs)))
            have HS6 := Lib.hid (same_keep HS5.out hK (fun q hq hm => by rw [List.mem_singleton] at hm; have := hBlt q hq; have := hz30; omega))
            clear hw6 eX hX hK hXz g0 g1 g2 g3 g4 k0 k1 k2 k3 k4
            refine Txt.Ty.wpTr_done (by rfl) ⟨.head _, .tail _ (.head _), .head _, .tail _ (.head _), trivial⟩ ?_
            go_wp2
            go_meet
            case rel => exact ⟨pa, pb, _, _, _, _, rfl, rfl, HPa6.out, HPb6.out, own_base HIa6.out (Nat.le_of_eq hz30), own_base HEa6.out (Nat.le_of_eq hz30), own_base HIb6.out (Nat.le_of_eq hz30), own_base HEb6.out (Nat.le_of_eq hz30), HBs.out.trans (HL6.out.mono (Nat.le_of_eq hz30))⟩
        · refine Txt.Ty.wpTr_alt ?_ Txt.Ty.wpTr_no
          (try simp only [Txt.pick, List.getElem?_cons_succ, List.getElem?_cons_zero])
          go_wp2
          refine Txt.SegPost.mk (Txt.Ty.Shown.same (same_below' HS1.out ((Below.refl _ w1).alloc (Nat.le_refl _) _))) ?_
          (try simp only [Txt.pick, List.getElem?_cons_succ, List.getElem?_cons_zero])
          go_wp2
          refine Txt.RunPost.mk ?_
          obtain ⟨w2, hw2⟩ : ∃ w2, w2 = w1.alloc (.cells #[.int .i64 0, .int .i64 0, .int .i64 0, .slice none 0 0, .slice none 0 0] 49) := ⟨_, rfl⟩
          obtain ⟨pb, hpb⟩ : ∃ pb, pb = w1.heap.size := ⟨_, rfl⟩
          rw [← hw2, ← hpb]
          have hb2 : Below w1.heap.size w1 w2 := by rw [hw2]; exact (Below.refl _ w1).alloc (Nat.le_refl _) _
          have HPb2 : Hid (w2.heap[pb]? = some (.cells #[.int .i64 0, .int .i64 0, .int .i64 0, .slice none 0 0, .slice none 0 0] 49 (0, 0))) := Lib.hid (by rw [hw2, hpb]; exact heap_alloc_new w1 _)
          have hpb2 : pb < w2.heap.size := (Array.getElem?_eq_some_iff.1 HPb2.out).1
          have hpbs : w0.heap.size ≤ pb := by have := HL1.out.size; omega
          have hpbk : pb = w1.heap.size := hpb
          have HL2 := Lib.hid (HL1.out.trans ((hb2).mono HL1.out.size))
          have HS2 := Lib.hid (same_below' HS1.out (hb2))
          have hz2 := (hb2).size
          have HIa2 := Lib.hid (own_below HIa1.out (hb2) (Nat.le_refl _))
          have HEa2 := Lib.hid (own_below HEa1.out (hb2) (Nat.le_refl _))
          have hnab : ∀ q, (Value.slice ia0 (fa.im).length ia1).ownBlock = some q → q ≠ pb := fun q hq => by have := (HIa1.out.lt q hq).2; omega
          have hmab : ∀ q, (Value.slice ea0 (fa.ef).length ea1).ownBlock = some q → q ≠ pb := fun q hq => by have := (HEa1.out.lt q hq).2; omega
          clear hw2 hb2 hpb hpbk
          refine Txt.Ty.wpTr_alt ?_ ?_
          · (try simp only [Txt.pick, List.getElem?_cons_succ, List.getElem?_cons_zero])
            go_wp2_with fail
            refine (output_any [] p 1 o _ _ w2 hol hoe (Raw.below HIO.out HL2.out) (Raw.below HEO.out HL2.out)).mono ?_
            rw [← HFb.out]
            rintro r w3 ⟨ib, eb, rfl, hib, heb, hb3⟩
            obtain ⟨ib0, ib1, rfl⟩ := own_slice hib
            obtain ⟨eb0, eb1, rfl⟩ := own_slice heb
            have HL3 := Lib.hid (HL2.out.trans ((hb3).mono HL2.out.size))
            have HS3 := Lib.hid (same_below' HS2.out (hb3))
            have hz3 := (hb3).size
            have HIa3 := Lib.hid (own_below HIa2.out (hb3) (Nat.le_refl _))
            have HEa3 := Lib.hid (own_below HEa2.out (hb3) (Nat.le_refl _))
            have HPb3 := Lib.hid (((hb3).block pb (by omega)).trans HPb2.out)
            have hpb3 : pb < w3.heap.size := by omega
            have HIb3 := Lib.hid (own_base hib HL2.out.size)
            have HEb3 := Lib.hid (own_base heb HL2.out.size)
            have hnbb: ∀ q, (Value.slice ib0 (fb.im).length ib1).ownBlock = some q → q ≠ pb := fun q hq => by have := (hib.lt q hq).1; omega
            have hmbb: ∀ q, (Value.slice eb0 (fb.ef).length eb1).ownBlock = some q → q ≠ pb := fun q hq => by have := (heb.lt q hq).1; omega
            clear hib heb hb3
            go_wp2
            refine Txt.SegPost.mk (Txt.Ty.Shown.same HS3.out) ?_
            (try simp only [Txt.pick, List.getElem?_cons_succ, List.getElem?_cons_zero])
            go_wp2
            refine Txt.RunPost.mk ?_
            refine Txt.Ty.wpTr_alt ?_ Txt.Ty.wpTr_no
            (try simp only [Txt.pick, List.getElem?_cons_succ, List.getElem?_cons_zero])
            go_wp2
            refine Txt.SegPost.mk (Txt.Ty.Shown.same (same_below' HS3.out ((Below.refl _ w3).alloc (Nat.le_refl _) _))) ?_
            (try simp only [Txt.pick, List.getElem?_cons_succ, List.getElem?_cons_zero])
            go_wp2
            refine Txt.RunPost.mk ?_
            obtain ⟨w4, hw4⟩ : ∃ w4, w4 = w3.alloc (.cells #[.int .i64 0, .int .i64 0, .int .i64 0, .slice none 0 0, .slice none 0 0] 49) := ⟨_, rfl⟩
            obtain ⟨pa, hpa⟩ : ∃ pa, pa = w3.heap.size := ⟨_, rfl⟩
            rw [← hw4, ← hpa]
            have hb4 : Below w3.heap.size w3 w4 := by rw [hw4]; exact (Below.refl _ w3).alloc (Nat.le_refl _) _
            have HPa4 : Hid (w4.heap[pa]? = some (.cells #[.int .i64 0, .int .i64 0, .int .i64 0, .slice none 0 0, .slice none 0 0] 49 (0, 0))) := Lib.hid (by rw [hw4, hpa]; exact heap_alloc_new w3 _)
            have hpa4 : pa < w4.heap.size := (Array.getElem?_eq_some_iff.1 HPa4.out).1
            have hpas : w0.heap.size ≤ pa := by have := HL3.out.size; omega
            have hpak : pa = w3.heap.size := hpa
            have HL4 := Lib.hid (HL3.out.trans ((hb4).mono HL3.out.size))
            have HS4 := Lib.hid (same_below' HS3.out (hb4))
            have hz4 := (hb4).size
            have HIa4 := Lib.hid (own_below HIa3.out (hb4) (Nat.le_refl _))
            have HEa4 := Lib.hid (own_below HEa3.out (hb4) (Nat.le_refl _))
            have HIb4 := Lib.hid (own_below HIb3.out (hb4) (Nat.le_refl _))
            have HEb4 := Lib.hid (own_below HEb3.out (hb4) (Nat.le_refl _))
            have HPb4 := Lib.hid (((hb4).block pb (by omega)).trans HPb3.out)
            have hpb4 : pb < w4.heap.size := by omega
            have hnaa : ∀ q, (Value.slice ia0 (fa.im).length ia1).ownBlock = some q → q ≠ pa := fun q hq => by have := (HIa3.out.lt q hq).2; omega
            have hmaa : ∀ q, (Value.slice ea0 (fa.ef).length ea1).ownBlock = some q → q ≠ pa := fun q hq => by have := (HEa3.out.lt q hq).2; omega
            have hnba : ∀ q, (Value.slice ib0 (fb.im).length ib1).ownBlock = some q → q ≠ pa := fun q hq => by have := (HIb3.out.lt q hq).2; omega
            have hmba : ∀ q, (Value.slice eb0 (fb.ef).length eb1).ownBlock = some q → q ≠ pa := fun q hq => by have := (HEb3.out.lt q hq).2; omega
            have hpp : pa ≠ pb := by omega
            clear hw4 hb4 hpa hpak
            refine Txt.Ty.wpTr_alt ?_ Txt.Ty.wpTr_no
            (try simp only [Txt.pick, List.getElem?_cons_succ, List.getElem?_cons_zero])
            have g0 := box_at HPa4.out (j := 0) rfl
            have g1 := box_at HPa4.out (j := 1) rfl
            have g2 := box_at HPa4.out (j := 2) rfl
            have g3 := box_at HPa4.out (j := 3) rfl
            have g4 := box_at HPa4.out (j := 4) rfl
            have k0 := box_free HPa4.out 0
            have k1 := box_free HPa4.out 1
            have k2 := box_free HPa4.out 2
            have k3 := box_free HPa4.out 3
            have k4 := box_free HPa4.out 4
            go_wp2
            refine Txt.SegPost.mk (Txt.Ty.Shown.last rfl) ?_
            (try simp only [Txt.pick, List.getElem?_cons_succ, List.getElem?_cons_zero])
            go_wp2
            refine Txt.RunPost.mk ?_
            obtain ⟨w5, hw5⟩ : ∃ w5, w5 = (((((w4.setCell ⟨pa, 0, none⟩ (.int .i64 fa.en)).setCell ⟨pa, 1, none⟩ (.int .i64 fa.st)).setCell ⟨pa, 2, none⟩ (.int .i64 fa.er)).setCell ⟨pa, 3, none⟩ (.slice ia0 fa.im.length ia1)).setCell ⟨pa, 4, none⟩ (.slice ea0 fa.ef.length ea1)) := ⟨_, rfl⟩
            rw [← hw5]
            obtain ⟨hX, hK⟩ := puts_at [(0, .int .i64 fa.en), (1, .int .i64 fa.st), (2, .int .i64 fa.er), (3, .slice ia0 fa.im.length ia1), (4, .slice ea0 fa.ef.length ea1)] HPa4.out
            have eX : puts w4 pa [(0, .int .i64 fa.en), (1, .int .i64 fa.st), (2, .int .i64 fa.er), (3, .slice ia0 fa.im.length ia1), (4, .slice ea0 fa.ef.length ea1)] = w5 := hw5.symm
            have hXz := puts_size [(0, .int .i64 fa.en), (1, .int .i64 fa.st), (2, .int .i64 fa.er), (3, .slice ia0 fa.im.length ia1), (4, .slice ea0 fa.ef.length ea1)] w4 pa
            rw [eX] at hX hK hXz
            have HPa5 : Hid (w5.heap[pa]? = some (.cells #[.int .i64 fa.en, .int .i64 fa.st, .int .i64 fa.er, (.slice ia0 fa.im.length ia1), (.slice ea0 fa.ef.length ea1)] 49 (0, 0))) := Lib.hid hX
            have HPb5 := Lib.hid ((hK.block pb hpb4 (by simp; omega)).trans HPb4.out)
            have hpa5 : pa < w5.heap.size := by omega
            have hpb5 : pb < w5.heap.size := by omega
            have HIa5 := Lib.hid (own_keep HIa4.out hK (fun q hq hm => hnaa q hq (List.mem_singleton.1 hm)))
            have HEa5 := Lib.hid (own_keep HEa4.out hK (fun q hq hm => hmaa q hq (List.mem_singleton.1 hm)))
            have HIb5 := Lib.hid (own_keep HIb4.out hK (fun q hq hm => hnba q hq (List.mem_singleton.1 hm)))
            have HEb5 := Lib.hid (own_keep HEb4.out hK (fun q hq hm => hmba q hq (List.mem_singleton.1 hm)))
            have HL5 := Lib.hid (HL4.out.trans (hK.below HL4.out.size (fun f hf => by rw [List.mem_singleton.1 hf]; exact hpas)))
            have HS5 := Lib.hid (same_keep HS4.out hK (fun q hq hm => by rw [List.mem_singleton] at hm; have := hBlt q hq; have := hz30; omega))
            clear hw5 eX hX hK hXz g0 g1 g2 g3 g4 k0 k1 k2 k3 k4
            refine Txt.Ty.wpTr_alt ?_ Txt.Ty.wpTr_no
            (try simp only [Txt.pick, List.getElem?_cons_succ, List.getElem?_cons_zero])
            have g0 := box_at HPb5.out (j := 0) rfl
            have g1 := box_at HPb5.out (j := 1) rfl
            have g2 := box_at HPb5.out (j := 2) rfl
            have g3 := box_at HPb5.out (j := 3) rfl
            have g4 := box_at HPb5.out (j := 4) rfl
            have k0 := box_free HPb5.out 0
            have k1 := box_free HPb5.out 1
            have k2 := box_free HPb5.out 2
            have k3 := box_free HPb5.out 3
            have k4 := box_free HPb5.out 4
            go_wp2
            refine Txt.SegPost.mk (Txt.Ty.Shown.last rfl) ?_
            (try simp only [Txt.pick, List.getElem?_cons_succ, List.getElem?_cons_zero])
            go_wp2
            refine Txt.RunPost.mk ?_
            obtain ⟨w6, hw6⟩ : ∃ w6, w6 = (((((w5.setCell ⟨pb, 0, none⟩ (.int .i64 fb.en)).setCell ⟨pb, 1, none⟩ (.int .i64 fb.st)).setCell ⟨pb, 2, none⟩ (.int .i64 fb.er)).setCell ⟨pb, 3, none⟩ (.slice ib0 fb.im.length ib1)).setCell ⟨pb, 4, none⟩ (.slice eb0 fb.ef.length eb1)) := ⟨_, rfl⟩
            rw [← hw6]
            obtain ⟨hX, hK⟩ := puts_at [(0, .int .i64 fb.en), (1, .int .i64 fb.st), (2, .int .i64 fb.er), (3, .slice ib0 fb.im.length ib1), (4, .slice eb0 fb.ef.length eb1)] HPb5.out
            have eX : puts w5 pb [(0, .int .i64 fb.en), (1, .int .i64 fb.st), (2, .int .i64 fb.er), (3, .slice ib0 fb.im.length ib1), (4, .slice eb0 fb.ef.length eb1)] = w6 := hw6.symm
            have hXz := puts_size [(0, .int .i64 fb.en), (1, .int .i64 fb.st), (2, .int .i64 fb.er), (3, .slice ib0 fb.im.length ib1), (4, .slice eb0 fb.ef.length eb1)] w5 pb
            rw [eX] at hX hK hXz
            have HPb6 : Hid (w6.heap[pb]? = some (.cells #[.int .i64 fb.en, .int .i64 fb.st, .int .i64 fb.er, (.slice ib0 fb.im.length ib1), (.slice eb0 fb.ef.length eb1)] 49 (0, 0))) := Lib.hid hX
            have HPa6 := Lib.hid ((hK.block pa hpa5 (by simp; omega)).trans HPa5.out)
            have hpb6 : pb < w6.heap.size := by omega
            have hpa6 : pa < w6.heap.size := by omega
            have HIa6 := Lib.hid (own_keep HIa5.out hK (fun q hq hm => hnab q hq (List.mem_singleton.1 hm)))
            have HEa6 := Lib.hid (own_keep HEa5.out hK (fun q hq hm => hmab q hq (List.mem_singleton.1 hm)))
            have HIb6 := Lib.hid (own_keep HIb5.out hK (fun q hq hm => hnbb q hq (List.mem_singleton.1 hm)))
            have HEb6 := Lib.hid (own_keep HEb5.out hK (fun q hq hm => hmbb q hq (List.mem_singleton.1 hm)))
            have HL6 := Lib.hid (HL5.out.trans (hK.below HL5.out.size (fun f hf => by rw [List.mem_singleton.1 hf]; exact hpbs)))
            have HS6 := Lib.hid (same_keep HS5.out hK (fun q hq hm => by rw [List.mem_singleton] at hm; have := hBlt q hq; have := hz30; omega))
            clear hw6 eX hX hK hXz g0 g1 g2 g3 g4 k0 k1 k2 k3 k4
            refine Txt.Ty.wpTr_done (by rfl) ⟨.head _, .tail _ (.head _), .head _, .tail _ (.head _), trivial⟩ ?_
            go_wp2
            go_meet
            case rel => exact ⟨pa, pb, _, _, _, _, rfl, rfl, HPa6.out, HPb6.out, own_base HIa6.out (Nat.le_of_eq hz30), own_base HEa6.out (Nat.le_of_eq hz30), own_base HIb6.out (Nat.le_of_eq hz30), own_base HEb6.out (Nat.le_of_eq hz30), HBs.out.trans (HL6.out.mono (Nat.le_of_eq hz30))⟩
          · refine Txt.Ty.wpTr_alt ?_ Txt.Ty.wpTr_no
            (try simp only [Txt.pick, List.getElem?_cons_succ, List.getElem?_cons_zero])
            go_wp2
            refine Txt.SegPost.mk (Txt.Ty.Shown.same (same_below' HS2.out ((Below.refl _ w2).alloc (Nat.le_refl _) _))) ?_
            (try simp only [Txt.pick, List.getElem?_cons_succ, List.getElem?_cons_zero])
            go_wp2
            refine Txt.RunPost.mk ?_
            obtain ⟨w3, hw3⟩ : ∃ w3, w3 = w2.alloc (.cells #[.int .i64 0, .int .i64 0, .int .i64 0, .slice none 0 0, .slice none 0 0] 49) := ⟨_, rfl⟩
            obtain ⟨pa, hpa⟩ : ∃ pa, pa = w2.heap.size := ⟨_, rfl⟩
            rw [← hw3, ← hpa]
            have hb3 : Below w2.heap.size w2 w3 := by rw [hw3]; exact (Below.refl _ w2).alloc (Nat.le_refl _) _
            have HPa3 : Hid (w3.heap[pa]? = some (.cells #[.int .i64 0, .int .i64 0, .int .i64 0, .slice none 0 0, .slice none 0 0] 49 (0, 0))) := Lib.hid (by rw [hw3, hpa]; exact heap_alloc_new w2 _)
            have hpa3 : pa < w3.heap.size := (Array.getElem?_eq_some_iff.1 HPa3.out).1
            have hpas : w0.heap.size ≤ pa := by have := HL2.out.size; omega
            have hpak : pa = w2.heap.size := hpa
            have HL3 := Lib.hid (HL2.out.trans ((hb3).mono HL2.out.size))
            have HS3 := Lib.hid (same_below' HS2.out (hb3))
            have hz3 := (hb3).size
            have HIa3 := Lib.hid (own_below HIa2.out (hb3) (Nat.le_refl _))
            have HEa3 := Lib.hid (own_below HEa2.out (hb3) (Nat.le_refl _))
            have HPb3 := Lib.hid (((hb3).block pb (by omega)).trans HPb2.out)
            have hpb3 : pb < w3.heap.size := by omega
            have hnaa : ∀ q, (Value.slice ia0 (fa.im).length ia1).ownBlock = some q → q ≠ pa := fun q hq => by have := (HIa2.out.lt q hq).2; omega
            have hmaa : ∀ q, (Value.slice ea0 (fa.ef).length ea1).ownBlock = some q → q ≠ pa := fun q hq => by have := (HEa2.out.lt q hq).2; omega
            have hpp : pa ≠ pb := by omega
            clear hw3 hb3 hpa hpak
            refine Txt.Ty.wpTr_alt ?_ Txt.Ty.wpTr_no
            (try simp only [Txt.pick, List.getElem?_cons_succ, List.getElem?_cons_zero])
            go_wp2_with fail
            refine (output_any [] p 1 o _ _ w3 hol hoe (Raw.below HIO.out HL3.out) (Raw.below HEO.out HL3.out)).mono ?_
            rw [← HFb.out]
            rintro r w4 ⟨ib, eb, rfl, hib, heb, hb4⟩
            obtain ⟨ib0, ib1, rfl⟩ := own_slice hib
            obtain ⟨eb0, eb1, rfl⟩ := own_slice heb
            have HL4 := Lib.hid (HL3.out.trans ((hb4).mono HL3.out.size))
            have HS4 := Lib.hid (same_below' HS3.out (hb4))
            have hz4 := (hb4).size
            have HIa4 := Lib.hid (own_below HIa3.out (hb4) (Nat.le_refl _))
            have HEa4 := Lib.hid (own_below HEa3.out (hb4) (Nat.le_refl _))
            have HPa4 := Lib.hid (((hb4).block pa (by omega)).trans HPa3.out)
            have hpa4 : pa < w4.heap.size := by omega
            have HPb4 := Lib.hid (((hb4).block pb (by omega)).trans HPb3.out)
            have hpb4 : pb < w4.heap.size := by omega
            have HIb4 := Lib.hid (own_base hib HL3.out.size)
            have HEb4 := Lib.hid (own_base heb HL3.out.size)
            have hnba: ∀ q, (Value.slice ib0 (fb.im).length ib1).ownBlock = some q → q ≠ pa := fun q hq => by have := (hib.lt q hq).1; omega
            have hmba: ∀ q, (Value.slice eb0 (fb.ef).length eb1).ownBlock = some q → q ≠ pa := fun q hq => by have := (heb.lt q hq).1; omega
            have hnbb: ∀ q, (Value.slice ib0 (fb.im).length ib1).ownBlock = some q → q ≠ pb := fun q hq => by have := (hib.lt q hq).1; omega
            have hmbb: ∀ q, (Value.slice eb0 (fb.ef).length eb1).ownBlock = some q → q ≠ pb := fun q hq => by have := (heb.lt q hq).1; omega
            clear hib heb hb4
            go_wp2
            refine Txt.SegPost.mk (Txt.Ty.Shown.same HS4.out) ?_
            (try simp only [Txt.pick, List.getElem?_cons_succ, List.getElem?_cons_zero])
            go_wp2
            refine Txt.RunPost.mk ?_
            refine Txt.Ty.wpTr_alt ?_ Txt.Ty.wpTr_no
            (try simp only [Txt.pick, List.getElem?_cons_succ, List.getElem?_cons_zero])
            have g0 := box_at HPa4.out (j := 0) rfl
            have g1 := box_at HPa4.out (j := 1) rfl
            have g2 := box_at HPa4.out (j := 2) rfl
            have g3 := box_at HPa4.out (j := 3) rfl
            have g4 := box_at HPa4.out (j := 4) rfl
            have k0 := box_free HPa4.out 0
            have k1 := box_free HPa4.out 1
            have k2 := box_free HPa4.out 2
            have k3 := box_free HPa4.out 3
            have k4 := box_free HPa4.out 4
            go_wp2
            refine Txt.SegPost.mk (Txt.Ty.Shown.last rfl) ?_
            (try simp only [Txt.pick, List.getElem?_cons_succ, List.getElem?_cons_zero])
            go_wp2
            refine Txt.RunPost.mk ?_
            obtain ⟨w5, hw5⟩ : ∃ w5, w5 = (((((w4.setCell ⟨pa, 0, none⟩ (.int .i64 fa.en)).setCell ⟨pa, 1, none⟩ (.int .i64 fa.st)).setCell ⟨pa, 2, none⟩ (.int .i64 fa.er)).setCell ⟨pa, 3, none⟩ (.slice ia0 fa.im.length ia1)).setCell ⟨pa, 4, none⟩ (.slice ea0 fa.ef.length ea1)) := ⟨_, rfl⟩
            rw [← hw5]
            obtain ⟨hX, hK⟩ := puts_at [(0, .int .i64 fa.en), (1, .int .i64 fa.st), (2, .int .i64 fa.er), (3, .slice ia0 fa.im.length ia1), (4, .slice ea0 fa.ef.length ea1)] HPa4.out
            have eX : puts w4 pa [(0, .int .i64 fa.en), (1, .int .i64 fa.st), (2, .int .i64 fa.er), (3, .slice ia0 fa.im.length ia1), (4, .slice ea0 fa.ef.length ea1)] = w5 := hw5.symm
            have hXz := puts_size [(0, .int .i64 fa.en), (1, .int .i64 fa.st), (2, .int .i64 fa.er), (3, .slice ia0 fa.im.length ia1), (4, .slice ea0 fa.ef.length ea1)] w4 pa
            rw [eX] at hX hK hXz
            have HPa5 : Hid (w5.heap[pa]? = some (.cells #[.int .i64 fa.en, .int .i64 fa.st, .int .i64 fa.er, (.slice ia0 fa.im.length ia1), (.slice ea0 fa.ef.length ea1)] 49 (0, 0))) := Lib.hid hX
            have HPb5 := Lib.hid ((hK.block pb hpb4 (by simp; omega)).trans HPb4.out)
            have hpa5 : pa < w5.heap.size := by omega
            have hpb5 : pb < w5.heap.size := by omega
            have HIa5 := Lib.hid (own_keep HIa4.out hK (fun q hq hm => hnaa q hq (List.mem_singleton.1 hm)))
            have HEa5 := Lib.hid (own_keep HEa4.out hK (fun q hq hm => hmaa q hq (List.mem_singleton.1 hm)))
            have HIb5 := Lib.hid (own_keep HIb4.out hK (fun q hq hm => hnba q hq (List.mem_singleton.1 hm)))
            have HEb5 := Lib.hid (own_keep HEb4.out hK (fun q hq hm => hmba q hq (List.mem_singleton.1 hm)))
            have HL5 := Lib.hid (HL4.out.trans (hK.below HL4.out.size (fun f hf => by rw [List.mem_singleton.1 hf]; exact hpas)))
            have HS5 := Lib.hid (same_keep HS4.out hK (fun q hq hm => by rw [List.mem_singleton] at hm; have := hBlt q hq; have := hz30; omega))
            clear hw5 eX hX hK hXz g0 g1 g2 g3 g4 k0 k1 k2 k3 k4
            refine Txt.Ty.wpTr_alt ?_ Txt.Ty.wpTr_no
            (try simp only [Txt.pick, List.getElem?_cons_succ, List.getElem?_cons_zero])
            have g0 := box_at HPb5.out (j := 0) rfl
            have g1 := box_at HPb5.out (j := 1) rfl
            have g2 := box_at HPb5.out (j := 2) rfl
            have g3 := box_at HPb5.out (j := 3) rfl
            have g4 := box_at HPb5.out (j := 4) rfl
            have k0 := box_free HPb5.out 0
            have k1 := box_free HPb5.out 1
            have k2 := box_free HPb5.out 2
            have k3 := box_free HPb5.out 3
            have k4 := box_free HPb5.out 4
            go_wp2
            refine Txt.SegPost.mk (Txt.Ty.Shown.last rfl) ?_
            (try simp only [Txt.pick, List.getElem?_cons_succ, List.getElem?_cons_zero])
            go_wp2
            refine Txt.RunPost.mk ?_
            obtain ⟨w6, hw6⟩ : ∃ w6, w6 = (((((w5.setCell ⟨pb, 0, none⟩ (.int .i64 fb.en)).setCell ⟨pb, 1, none⟩ (.int .i64 fb.st)).setCell ⟨pb, 2, none⟩ (.int .i64 fb.er)).setCell ⟨pb, 3, none⟩ (.slice ib0 fb.im.length ib1)).setCell ⟨pb, 4, none⟩ (.slice eb0 fb.ef.length eb1)) := ⟨_, rfl⟩
            rw [← hw6]
            obtain ⟨hX, hK⟩ := puts_at [(0, .int .i64 fb.en), (1, .int .i64 fb.st), (2, .int .i64 fb.er), (3, .slice ib0 fb.im.length ib1), (4, .slice eb0 fb.ef.length eb1)] HPb5.out
            have eX : puts w5 pb [(0, .int .i64 fb.en), (1, .int .i64 fb.st), (2, .int .i64 fb.er), (3, .slice ib0 fb.im.length ib1), (4, .slice eb0 fb.ef.length eb1)] = w6 := hw6.symm
            have hXz := puts_size [(0, .int .i64 fb.en), (1, .int .i64 fb.st), (2, .int .i64 fb.er), (3, .slice ib0 fb.im.length ib1), (4, .slice eb0 fb.ef.length eb1)] w5 pb
            rw [eX] at hX hK hXz
            have HPb6 : Hid (w6.heap[pb]? = some (.cells #[.int .i64 fb.en, .int .i64 fb.st, .int .i64 fb.er, (.slice ib0 fb.im.length ib1), (.slice eb0 fb.ef.length eb1)] 49 (0, 0))) := Lib.hid hX
            have HPa6 := Lib.hid ((hK.block pa hpa5 (by simp; omega)).trans HPa5.out)
            have hpb6 : pb < w6.heap.size := by omega
            have hpa6 : pa < w6.heap.size := by omega
            have HIa6 := Lib.hid (own_keep HIa5.out hK (fun q hq hm => hnab q hq (List.mem_singleton.1 hm)))
            have HEa6 := Lib.hid (own_keep HEa5.out hK (fun q hq hm => hmab q hq (List.mem_singleton.1 hm)))
            have HIb6 := Lib.hid (own_keep HIb5.out hK (fun q hq hm => hnbb q hq (List.mem_singleton.1 hm)))
            have HEb6 := Lib.hid (own_keep HEb5.out hK (fun q hq hm => hmbb q hq (List.mem_singleton.1 hm)))
            have HL6 := Lib.hid (HL5.out.trans (hK.below HL5.out.size (fun f hf => by rw [List.mem_singleton.1 hf]; exact hpbs)))
            have HS6 := Lib.hid (same_keep HS5.out hK (fun q hq hm => by rw [List.mem_singleton] at hm; have := hBlt q hq; have := hz30; omega))
            clear hw6 eX hX hK hXz g0 g1 g2 g3 g4 k0 k1 k2 k3 k4
            refine Txt.Ty.wpTr_done (by rfl) ⟨.head _, .tail _ (.head _), .head _, .tail _ (.head _), trivial⟩ ?_
            go_wp2
            go_meet
            case rel => exact ⟨pa, pb, _, _, _, _, rfl, rfl, HPa6.out, HPb6.out, own_base HIa6.out (Nat.le_of_eq hz30), own_base HEa6.out (Nat.le_of_eq hz30), own_base HIb6.out (Nat.le_of_eq hz30), own_base HEb6.out (Nat.le_of_eq hz30), HBs.out.trans (HL6.out.mono (Nat.le_of_eq hz30))⟩
    · refine Txt.Ty.wpTr_alt ?_ ?_
      · (try simp only [Txt.pick, List.getElem?_cons_succ, List.getElem?_cons_zero])
        go_wp2
        refine Txt.SegPost.mk (Txt.Ty.Shown.same (same_below' HS0.out ((Below.refl _ w0).alloc (Nat.le_refl _) _))) ?_
        (try simp only [Txt.pick, List.getElem?_cons_succ, List.getElem?_cons_zero])
        go_wp2
        refine Txt.RunPost.mk ?_
        obtain ⟨w1, hw1⟩ : ∃ w1, w1 = w0.alloc (.cells #[.int .i64 0, .int .i64 0, .int .i64 0, .slice none 0 0, .slice none 0 0] 49) := ⟨_, rfl⟩
        obtain ⟨pa, hpa⟩ : ∃ pa, pa = w0.heap.size := ⟨_, rfl⟩
        rw [← hw1, ← hpa]
        have hb1 : Below w0.heap.size w0 w1 := by rw [hw1]; exact (Below.refl _ w0).alloc (Nat.le_refl _) _
        have HPa1 : Hid (w1.heap[pa]? = some (.cells #[.int .i64 0, .int .i64 0, .int .i64 0, .slice none 0 0, .slice none 0 0] 49 (0, 0))) := Lib.hid (by rw [hw1, hpa]; exact heap_alloc_new w0 _)
        have hpa1 : pa < w1.heap.size := (Array.getElem?_eq_some_iff.1 HPa1.out).1
        have hpas : w0.heap.size ≤ pa := by have := HL0.out.size; omega
        have hpak : pa = w0.heap.size := hpa
        have HL1 := Lib.hid (HL0.out.trans ((hb1).mono HL0.out.size))
        have HS1 := Lib.hid (same_below' HS0.out (hb1))
        have hz1 := (hb1).size
        clear hw1 hb1 hpa hpak
        refine Txt.Ty.wpTr_alt ?_ ?_
        · (try simp only [Txt.pick, List.getElem?_cons_succ, List.getElem?_cons_zero])
          go_wp2_with fail
          refine (output_any [] p 0 o _ _ w1 hol hoe (Raw.below HIO.out HL1.out) (Raw.below HEO.out HL1.out)).mono ?_
          rw [← HFa.out]
          rintro r w2 ⟨ia, ea, rfl, hia, hea, hb2⟩
          obtain ⟨ia0, ia1, rfl⟩ := own_slice hia
          obtain ⟨ea0, ea1, rfl⟩ := own_slice hea
          have HL2 := Lib.hid (HL1.out.trans ((hb2).mono HL1.out.size))
          have HS2 := Lib.hid (same_below' HS1.out (hb2))
          have hz2 := (hb2).size
          have HPa2 := Lib.hid (((hb2).block pa (by omega)).trans HPa1.out)
          have hpa2 : pa < w2.heap.size := by omega
          have HIa2 := Lib.hid (own_base hia HL1.out.size)
          have HEa2 := Lib.hid (own_base hea HL1.out.size)
          have hnaa: ∀ q, (Value.slice ia0 (fa.im).length ia1).ownBlock = some q → q ≠ pa := fun q hq => by have := (hia.lt q hq).1; omega
          have hmaa: ∀ q, (Value.slice ea0 (fa.ef).length ea1).ownBlock = some q → q ≠ pa := fun q hq => by have := (hea.lt q hq).1; omega
          clear hia hea hb2
          go_wp2
          refine Txt.SegPost.mk (Txt.Ty.Shown.same HS2.out) ?_
          (try simp only [Txt.pick, List.getElem?_cons_succ, List.getElem?_cons_zero])
          go_wp2
          refine Txt.RunPost.mk ?_
          refine Txt.Ty.wpTr_alt ?_ ?_
          · (try simp only [Txt.pick, List.getElem?_cons_succ, List.getElem?_cons_zero])
            go_wp2_with fail
            refine (output_any [] p 1 o _ _ w2 hol hoe (Raw.below HIO.out HL2.out) (Raw.below HEO.out HL2.out)).mono ?_
            rw [← HFb.out]
            rintro r w3 ⟨ib, eb, rfl, hib, heb, hb3⟩
            obtain ⟨ib0, ib1, rfl⟩ := own_slice hib
            obtain ⟨eb0, eb1, rfl⟩ := own_slice heb
            have HL3 := Lib.hid (HL2.out.trans ((hb3).mono HL2.out.size))
            have HS3 := Lib.hid (same_below' HS2.out (hb3))
            have hz3 := (hb3).size
            have HIa3 := Lib.hid (own_below HIa2.out (hb3) (Nat.le_refl _))
            have HEa3 := Lib.hid (own_below HEa2.out (hb3) (Nat.le_refl _))
            have HPa3 := Lib.hid (((hb3).block pa (by omega)).trans HPa2.out)
            have hpa3 : pa < w3.heap.size := by omega
            have HIb3 := Lib.hid (own_base hib HL2.out.size)
            have HEb3 := Lib.hid (own_base heb HL2.out.size)
            have hnba: ∀ q, (Value.slice ib0 (fb.im).length ib1).ownBlock = some q → q ≠ pa := fun q hq => by have := (hib.lt q hq).1; omega
            have hmba: ∀ q, (Value.slice eb0 (fb.ef).length eb1).ownBlock = some q → q ≠ pa := fun q hq => by have := (heb.lt q hq).1; omega
            clear hib heb hb3
            go_wp2
            refine Txt.SegPost.mk (Txt.Ty.Shown.same HS3.out) ?_
            (try simp only [Txt.pick, List.getElem?_cons_succ, List.getElem?_cons_zero])
            go_wp2
            refine Txt.RunPost.mk ?_
            refine Txt.Ty.wpTr_alt ?_ Txt.Ty.wpTr_no
            (try simp only [Txt.pick, List.getElem?_cons_succ, List.getElem?_cons_zero])
            go_wp2
            refine Txt.SegPost.mk (Txt.Ty.Shown.same (same_below' HS3.out ((Below.refl _ w3).alloc (Nat.le_refl _) _))) ?_
            (try simp only [Txt.pick, List.getElem?_cons_succ, List.getElem?_cons_zero])
            go_wp2
            refine Txt.RunPost.mk ?_
            obtain ⟨w4, hw4⟩ : ∃ w4, w4 = w3.alloc (.cells #[.int .i64 0, .int .i64 0, .int .i64 0, .slice none 0 0, .slice none 0 0] 49) := ⟨_, rfl⟩
            obtain ⟨pb, hpb⟩ : ∃ pb, pb = w3.heap.size := ⟨_, rfl⟩
            rw [← hw4, ← hpb]
            have hb4 : Below w3.heap.size w3 w4 := by rw [hw4]; exact (Below.refl _ w3).alloc (Nat.le_refl _) _
            have HPb4 : Hid (w4.heap[pb]? = some (.cells #[.int .i64 0, .int .i64 0, .int .i64 0, .slice none 0 0, .slice none 0 0] 49 (0, 0))) := Lib.hid (by rw [hw4, hpb]; exact heap_alloc_new w3 _)
            have hpb4 : pb < w4.heap.size := (Array.getElem?_eq_some_iff.1 HPb4.out).1
            have hpbs : w0.heap.size ≤ pb := by have := HL3.out.size; omega
            have hpbk : pb = w3.heap.size := hpb
            have HL4 := Lib.hid (HL3.out.trans ((hb4).mono HL3.out.size))
            have HS4 := Lib.hid (same_below' HS3.out (hb4))
            have hz4 := (hb4).size
            have HIa4 := Lib.hid (own_below HIa3.out (hb4) (Nat.le_refl _))
            have HEa4 := Lib.hid (own_below HEa3.out (hb4) (Nat.le_refl _))
            have HIb4 := Lib.hid (own_below HIb3.out (hb4) (Nat.le_refl _))
            have HEb4 := Lib.hid (own_below HEb3.out (hb4) (Nat.le_refl _))
            have HPa4 := Lib.hid (((hb4).block pa (by omega)).trans HPa3.out)
            have hpa4 : pa < w4.heap.size := by omega
            have hnab : ∀ q, (Value.slice ia0 (fa.im).length ia1).ownBlock = some q → q ≠ pb := fun q hq => by have := (HIa3.out.lt q hq).2; omega
            have hmab : ∀ q, (Value.slice ea0 (fa.ef).length ea1).ownBlock = some q → q ≠ pb := fun q hq => by have := (HEa3.out.lt q hq).2; omega
            have hnbb : ∀ q, (Value.slice ib0 (fb.im).length ib1).ownBlock = some q → q ≠ pb := fun q hq => by have := (HIb3.out.lt q hq).2; omega
            have hmbb : ∀ q, (Value.slice eb0 (fb.ef).length eb1).ownBlock = some q → q ≠ pb := fun q hq => by have := (HEb3.out.lt q hq).2; omega
            have hpp : pa ≠ pb := by omega
            clear hw4 hb4 hpb hpbk
            refine Txt.Ty.wpTr_alt ?_ Txt.Ty.wpTr_no
            (try simp only [Txt.pick, List.getElem?_cons_succ, List.getElem?_cons_zero])
            have g0 := box_at HPa4.out (j := 0) rfl
            have g1 := box_at HPa4.out (j := 1) rfl
            have g2 := box_at HPa4.out (j := 2) rfl
            have g3 := box_at HPa4.out (j := 3) rfl
            have g4 := box_at HPa4.out (j := 4) rfl
            have k0 := box_free HPa4.out 0
            have k1 := box_free HPa4.out 1
            have k2 := box_free HPa4.out 2
            have k3 := box_free HPa4.out 3
            have k4 := box_free HPa4.out 4
            go_wp2
            refine Txt.SegPost.mk (Txt.Ty.Shown.last rfl) ?_
            (try simp only [Txt.pick, List.getElem?_cons_succ, List.getElem?_cons_zero])
            go_wp2
            refine Txt.RunPost.mk ?_
            obtain ⟨w5, hw5⟩ : ∃ w5, w5 = (((((w4.setCell ⟨pa, 0, none⟩ (.int .i64 fa.en)).setCell ⟨pa, 1, none⟩ (.int .i64 fa.st)).setCell ⟨pa, 2, none⟩ (.int .i64 fa.er)).setCell ⟨pa, 3, none⟩ (.slice ia0 fa.im.length ia1)).setCell ⟨pa, 4, none⟩ (.slice ea0 fa.ef.length ea1)) := ⟨_, rfl⟩
            rw [← hw5]
            obtain ⟨hX, hK⟩ := puts_at [(0, .int .i64 fa.en), (1, .int .i64 fa.st), (2, .int .i64 fa.er), (3, .slice ia0 fa.im.length ia1), (4, .slice ea0 fa.ef.length ea1)] HPa4.out
            have eX : puts w4 pa [(0, .int .i64 fa.en), (1, .int .i64 fa.st), (2, .int .i64 fa.er), (3, .slice ia0 fa.im.length ia1), (4, .slice ea0 fa.ef.length ea1)] = w5 := hw5.symm
            have hXz := puts_size [(0, .int .i64 fa.en), (1, .int .i64 fa.st), (2, .int .i64 fa.er), (3, .slice ia0 fa.im.length ia1), (4, .slice ea0 fa.ef.length ea1)] w4 pa
            rw [eX] at hX hK hXz
            have HPa5 : Hid (w5.heap[pa]? = some (.cells #[.int .i64 fa.en, .int .i64 fa.st, .int .i64 fa.er, (.slice ia0 fa.im.length ia1), (.slice ea0 fa.ef.length ea1)] 49 (0, 0))) := Lib.hid hX
            have HPb5 := Lib.hid ((hK.block pb hpb4 (by simp; omega)).trans HPb4.out)
            have hpa5 : pa < w5.heap.size := by omega
            have hpb5 : pb < w5.heap.size := by omega
            have HIa5 := Lib.hid (own_keep HIa4.out hK (fun q hq hm => hnaa q hq (List.mem_singleton.1 hm)))
            have HEa5 := Lib.hid (own_keep HEa4.out hK (fun q hq hm => hmaa q hq (List.mem_singleton.1 hm)))
            have HIb5 := Lib.hid (own_keep HIb4.out hK (fun q hq hm => hnba q hq (List.mem_singleton.1 hm)))
            have HEb5 := Lib.hid (own_keep HEb4.out hK (fun q hq hm => hmba q hq (List.mem_singleton.1 hm)))
            have HL5 := Lib.hid (HL4.out.trans (hK.below HL4.out.size (fun f hf => by rw [List.mem_singleton.1 hf]; exact hpas)))
            have HS5 := Lib.hid (same_keep HS4.out hK (fun q hq hm => by rw [List.mem_singleton] at hm; have := hBlt q hq; have := hz30; omega))
            clear hw5 eX hX hK hXz g0 g1 g2 g3 g4 k0 k1 k2 k3 k4
            refine Txt.Ty.wpTr_alt ?_ Txt.Ty.wpTr_no
            (try simp only [Txt.pick, List.getElem?_cons_succ, List.getElem?_cons_zero])
            have g0 := box_at HPb5.out (j := 0) rfl
            have g1 := box_at HPb5.out (j := 1) rfl
            have g2 := box_at HPb5.out (j := 2) rfl
            have g3 := box_at HPb5.out (j := 3) rfl
            have g4 := box_at HPb5.out (j := 4) rfl
            have k0 := box_free HPb5.out 0
            have k1 := box_free HPb5.out 1
            have k2 := box_free HPb5.out 2
            have k3 := box_free HPb5.out 3
            have k4 := box_free HPb5.out 4
            go_wp2
            refine Txt.SegPost.mk (Txt.Ty.Shown.last rfl) ?_
            (try simp only [Txt.pick, List.getElem?_cons_succ, List.getElem?_cons_zero])
            go_wp2
            refine Txt.RunPost.mk ?_
            obtain ⟨w6, hw6⟩ : ∃ w6, w6 = (((((w5.setCell ⟨pb, 0, none⟩ (.int .i64 fb.en)).setCell ⟨pb, 1, none⟩ (.int .i64 fb.st)).setCell ⟨pb, 2, none⟩ (.int .i64 fb.er)).setCell ⟨pb, 3, none⟩ (.slice ib0 fb.im.length ib1)).setCell ⟨pb, 4, none⟩ (.slice eb0 fb.ef.length eb1)) := ⟨_, rfl⟩
            rw [← hw6]
            obtain ⟨hX, hK⟩ := puts_at [(0, .int .i64 fb.en), (1, .int .i64 fb.st), (2, .int .i64 fb.er), (3, .slice ib0 fb.im.length ib1), (4, .slice eb0 fb.ef.length eb1)] HPb5.out
            have eX : puts w5 pb [(0, .int .i64 fb.en), (1, .int .i64 fb.st), (2, .int .i64 fb.er), (3, .slice ib0 fb.im.length ib1), (4, .slice eb0 fb.ef.length eb1)] = w6 := hw6.symm
            have hXz := puts_size [(0, .int .i64 fb.en), (1, .int .i64 fb.st), (2, .int .i64 fb.er), (3, .slice ib0 fb.im.length ib1), (4, .slice eb0 fb.ef.length eb1)] w5 pb
            rw [eX] at hX hK hXz
            have HPb6 : Hid (w6.heap[pb]? = some (.cells #[.int .i64 fb.en, .int .i64 fb.st, .int .i64 fb.er, (.slice ib0 fb.im.length ib1), (.slice eb0 fb.ef.length eb1)] 49 (0, 0))) := Lib.hid hX
            have HPa6 := Lib.hid ((hK.block pa hpa5 (by simp; omega)).trans HPa5.out)
            have hpb6 : pb < w6.heap.size := by omega
            have hpa6 : pa < w6.heap.size := by omega
            have HIa6 := Lib.hid (own_keep HIa5.out hK (fun q hq hm => hnab q hq (List.mem_singleton.1 hm)))
            have HEa6 := Lib.hid (own_keep HEa5.out hK (fun q hq hm => hmab q hq (List.mem_singleton.1 hm)))
            have HIb6 := Lib.hid (own_keep HIb5.out hK (fun q hq hm => hnbb q hq (List.mem_singleton.1 hm)))
            have HEb6 := Lib.hid (own_keep HEb5.out hK (fun q hq hm => hmbb q hq (List.mem_singleton.1 hm)))
            have HL6 := Lib.hid (HL5.out.trans (hK.below HL5.out.size (fun f hf => by rw [List.mem_singleton.1 hf]; exact hpbs)))
            have HS6 := Lib.hid (same_keep HS5.out hK (fun q hq hm => by rw [List.mem_singleton] at hm; have := hBlt q hq; have := hz30; omega))
            clear hw6 eX hX hK hXz g0 g1 g2 g3 g4 k0 k1 k2 k3 k4
            refine Txt.Ty.wpTr_done (by rfl) ⟨.head _, .tail _ (.head _), .head _, .tail _ (.head _), trivial⟩ ?_
            go_wp2
            go_meet
            case rel => exact ⟨pa, pb, _, _, _, _, rfl, rfl, HPa6.out, HPb6.out, own_base HIa6.out (Nat.le_of_eq hz30), own_base HEa6.out (Nat.le_of_eq hz30), own_base HIb6.out (Nat.le_of_eq hz30), own_base HEb6.out (Nat.le_of_eq hz30), HBs.out.trans (HL6.out.mono (Nat.le_of_eq hz30))⟩
          · refine Txt.Ty.wpTr_alt ?_ Txt.Ty.wpTr_no
            (try simp only [Txt.pick, List.getElem?_cons_succ, List.getElem?_cons_zero])
            go_wp2
            refine Txt.SegPost.mk (Txt.Ty.Shown.same (same_below' HS2.out ((Below.refl _ w2).alloc (Nat.le_refl _) _))) ?_
            (try simp only [Txt.pick, List.getElem?_cons_succ, List.getElem?_cons_zero])
            go_wp2
            refine Txt.RunPost.mk ?_
            obtain ⟨w3, hw3⟩ : ∃ w3, w3 = w2.alloc (.cells #[.int .i64 0, .int .i64 0, .int .i64 0, .slice none 0 0, .slice none 0 0] 49) := ⟨_, rfl⟩
            obtain ⟨pb, hpb⟩ : ∃ pb, pb = w2.heap.size := ⟨_, rfl⟩
            rw [← hw3, ← hpb]
            have hb3 : Below w2.heap.size w2 w3 := by rw [hw3]; exact (Below.refl _ w2).alloc (Nat.le_refl _) _
            have HPb3 : Hid (w3.heap[pb]? = some (.cells #[.int .i64 0, .int .i64 0, .int .i64 0, .slice none 0 0, .slice none 0 0] 49 (0, 0))) := Lib.hid (by rw [hw3, hpb]; exact heap_alloc_new w2 _)
            have hpb3 : pb < w3.heap.size := (Array.getElem?_eq_some_iff.1 HPb3.out).1
            have hpbs : w0.heap.size ≤ pb := by have := HL2.out.size; omega
            have hpbk : pb = w2.heap.size := hpb
            have HL3 := Lib.hid (HL2.out.trans ((hb3).mono HL2.out.size))
            have HS3 := Lib.hid (same_below' HS2.out (hb3))
            have hz3 := (hb3).size
            have HIa3 := Lib.hid (own_below HIa2.out (hb3) (Nat.le_refl _))
            have HEa3 := Lib.hid (own_below HEa2.out (hb3) (Nat.le_refl _))
            have HPa3 := Lib.hid (((hb3).block pa (by omega)).trans HPa2.out)
            have hpa3 : pa < w3.heap.size := by omega
            have hnab : ∀ q, (Value.slice ia0 (fa.im).length ia1).ownBlock = some q → q ≠ pb := fun q hq => by have := (HIa2.out.lt q hq).2; omega
            have hmab : ∀ q, (Value.slice ea0 (fa.ef).length ea1).ownBlock = some q → q ≠ pb := fun q hq => by have := (HEa2.out.lt q hq).2; omega
            have hpp : pa ≠ pb := by omega
            clear hw3 hb3 hpb hpbk
            refine Txt.Ty.wpTr_alt ?_ Txt.Ty.wpTr_no
            (try simp only [Txt.pick, List.getElem?_cons_succ, List.getElem?_cons_zero])
            go_wp2_with fail
            refine (output_any [] p 1 o _ _ w3 hol hoe (Raw.below HIO.out HL3.out) (Raw.below HEO.out HL3.out)).mono ?_
            rw [← HFb.out]
            rintro r w4 ⟨ib, eb, rfl, hib, heb, hb4⟩
            obtain ⟨ib0, ib1, rfl⟩ := own_slice hib
            obtain ⟨eb0, eb1, rfl⟩ := own_slice heb
            have HL4 := Lib.hid (HL3.out.trans ((hb4).mono HL3.out.size))
            have HS4 := Lib.hid (same_below' HS3.out (hb4))
            have hz4 := (hb4).size
            have HIa4 := Lib.hid (own_below HIa3.out (hb4) (Nat.le_refl _))
            have HEa4 := Lib.hid (own_below HEa3.out (hb4) (Nat.le_refl _))
            have HPa4 := Lib.hid (((hb4).block pa (by omega)).trans HPa3.out)
            have hpa4 : pa < w4.heap.size := by omega
            have HPb4 := Lib.hid (((hb4).block pb (by omega)).trans HPb3.out)
            have hpb4 : pb < w4.heap.size := by omega
            have HIb4 := Lib.hid (own_base hib HL3.out.size)
            have HEb4 := Lib.hid (own_base heb HL3.out.size)
            have hnba: ∀ q, (Value.slice ib0 (fb.im).length ib1).ownBlock = some q → q ≠ pa := fun q hq => by have := (hib.lt q hq).1; omega
            have hmba: ∀ q, (Value.slice eb0 (fb.ef).length eb1).ownBlock = some q → q ≠ pa := fun q hq => by have := (heb.lt q hq).1; omega
            have hnbb: ∀ q, (Value.slice ib0 (fb.im).length ib1).ownBlock = some q → q ≠ pb := fun q hq => by have := (hib.lt q hq).1; omega
            have hmbb: ∀ q, (Value.slice eb0 (fb.ef).length eb1).ownBlock = some q → q ≠ pb := fun q hq => by have := (heb.lt q hq).1; omega
            clear hib heb hb4
            go_wp2
            refine Txt.SegPost.mk (Txt.Ty.Shown.same HS4.out) ?_
            (try simp only [Txt.pick, List.getElem?_cons_succ, List.getElem?_cons_zero])
            go_wp2
            refine Txt.RunPost.mk ?_
            refine Txt.Ty.wpTr_alt ?_ Txt.Ty.wpTr_no
            (try simp only [Txt.pick, List.getElem?_cons_succ, List.getElem?_cons_zero])
            have g0 := box_at HPa4.out (j := 0) rfl
            have g1 := box_at HPa4.out (j := 1) rfl
            have g2 := box_at HPa4.out (j := 2) rfl
            have g3 := box_at HPa4.out (j := 3) rfl
            have g4 := box_at HPa4.out (j := 4) rfl
            have k0 := box_free HPa4.out 0
            have k1 := box_free HPa4.out 1
            have k2 := box_free HPa4.out 2
            have k3 := box_free HPa4.out 3
            have k4 := box_free HPa4.out 4
            go_wp2
            refine Txt.SegPost.mk (Txt.Ty.Shown.last rfl) ?_
            (try simp only [Txt.pick, List.getElem?_cons_succ, List.getElem?_cons_zero])
            go_wp2
            refine Txt.RunPost.mk ?_
            obtain ⟨w5, hw5⟩ : ∃ w5, w5 = (((((w4.setCell ⟨pa, 0, none⟩ (.int .i64 fa.en)).setCell ⟨pa, 1, none⟩ (.int .i64 fa.st)).setCell ⟨pa, 2, none⟩ (.int .i64 fa.er)).setCell ⟨pa, 3, none⟩ (.slice ia0 fa.im.length ia1)).setCell ⟨pa, 4, none⟩ (.slice ea0 fa.ef.length ea1)) := ⟨_, rfl⟩
            rw [← hw5]
            obtain ⟨hX, hK⟩ := puts_at [(0, .int .i64 fa.en), (1, .int .i64 fa.st), (2, .int .i64 fa.er), (3, .slice ia0 fa.im.length ia1), (4, .slice ea0 fa.ef.length ea1)] HPa4.out
            have eX : puts w4 pa [(0, .int .i64 fa.en), (1, .int .i64 fa.st), (2, .int .i64 fa.er), (3, .slice ia0 fa.im.length ia1), (4, .slice ea0 fa.ef.length ea1)] = w5 := hw5.symm
            have hXz := puts_size [(0, .int .i64 fa.en), (1, .int .i64 fa.st), (2, .int .i64 fa.er), (3, .slice ia0 fa.im.length ia1), (4, .slice ea0 fa.ef.length ea1)] w4 pa
            rw [eX] at hX hK hXz
            have HPa5 : Hid (w5.heap[pa]? = some (.cells #[.int .i64 fa.en, .int .i64 fa.st, .int .i64 fa.er, (.slice ia0 fa.im.length ia1), (.slice ea0 fa.ef.length ea1)] 49 (0, 0))) := Lib.hid hX
            have HPb5 := Lib.hid ((hK.block pb hpb4 (by simp; omega)).trans HPb4.out)
            have hpa5 : pa < w5.heap.size := by omega
            have hpb5 : pb < w5.heap.size := by omega
            have HIa5 := Lib.hid (own_keep HIa4.out hK (fun q hq hm => hnaa q hq (List.mem_singleton.1 hm)))
            have HEa5 := Lib.hid (own_keep HEa4.out hK (fun q hq hm => hmaa q hq (List.mem_singleton.1 hm)))
            have HIb5 := Lib.hid (own_keep HIb4.out hK (fun q hq hm => hnba q hq (List.mem_singleton.1 hm)))
            have HEb5 := Lib.hid (own_keep HEb4.out hK (fun q hq hm => hmba q hq (List.mem_singleton.1 hm)))
            have HL5 := Lib.hid (HL4.out.trans (hK.below HL4.out.size (fun f hf => by rw [List.mem_singleton.1 hf]; exact hpas)))
            have HS5 := Lib.hid (same_keep HS4.out hK (fun q hq hm => by rw [List.mem_singleton] at hm; have := hBlt q hq; have := hz30; omega))
            clear hw5 eX hX hK hXz g0 g1 g2 g3 g4 k0 k1 k2 k3 k4
            refine Txt.Ty.wpTr_alt ?_ Txt.Ty.wpTr_no
            (try simp only [Txt.pick, List.getElem?_cons_succ, List.getElem?_cons_zero])
            have g0 := box_at HPb5.out (j := 0) rfl
            have g1 := box_at HPb5.out (j := 1) rfl
            have g2 := box_at HPb5.out (j := 2) rfl
            have g3 := box_at HPb5.out (j := 3) rfl
            have g4 := box_at HPb5.out (j := 4) rfl
            have k0 := box_free HPb5.out 0
            have k1 := box_free HPb5.out 1
            have k2 := box_free HPb5.out 2
            have k3 := box_free HPb5.out 3
            have k4 := box_free HPb5.out 4
            go_wp2
            refine Txt.SegPost.mk (Txt.Ty.Shown.last rfl) ?_
            (try simp only [Txt.pick, List.getElem?_cons_succ, List.getElem?_cons_zero])
            go_wp2
            refine Txt.RunPost.mk ?_
            obtain ⟨w6, hw6⟩ : ∃ w6, w6 = (((((w5.setCell ⟨pb, 0, none⟩ (.int .i64 fb.en)).setCell ⟨pb, 1, none⟩ (.int .i64 fb.st)).setCell ⟨pb, 2, none⟩ (.int .i64 fb.er)).setCell ⟨pb, 3, none⟩ (.slice ib0 fb.im.length ib1)).setCell ⟨pb, 4, none⟩ (.slice eb0 fb.ef.length eb1)) := ⟨_, rfl⟩
            rw [← hw6]
            obtain ⟨hX, hK⟩ := puts_at [(0, .int .i64 fb.en), (1, .int .i64 fb.st), (2, .int .i64 fb.er), (3, .slice ib0 fb.im.length ib1), (4, .slice eb0 fb.ef.length eb1)] HPb5.out
            have eX : puts w5 pb [(0, .int .i64 fb.en), (1, .int .i64 fb.st), (2, .int .i64 fb.er), (3, .slice ib0 fb.im.length ib1), (4, .slice eb0 fb.ef.length eb1)] = w6 := hw6.symm
            have hXz := puts_size [(0, .int .i64 fb.en), (1, .int .i64 fb.st), (2, .int .i64 fb.er), (3, .slice ib0 fb.im.length ib1), (4, .slice eb0 fb.ef.length eb1)] w5 pb
            rw [eX] at hX hK hXz
            have HPb6 : Hid (w6.heap[pb]? = some (.cells #[.int .i64 fb.en, .int .i64 fb.st, .int .i64 fb.er, (.slice ib0 fb.im.length ib1), (.slice eb0 fb.ef.length eb1)] 49 (0, 0))) := Lib.hid hX
            have HPa6 := Lib.hid ((hK.block pa hpa5 (by simp; omega)).trans HPa5.out)
            have hpb6 : pb < w6.heap.size := by omega
            have hpa6 : pa < w6.heap.size := by omega
            have HIa6 := Lib.hid (own_keep HIa5.out hK (fun q hq hm => hnab q hq (List.mem_singleton.1 hm)))
            have HEa6 := Lib.hid (own_keep HEa5.out hK (fun q hq hm => hmab q hq (List.mem_singleton.1 hm)))
            have HIb6 := Lib.hid (own_keep HIb5.out hK (fun q hq hm => hnbb q hq (List.mem_singleton.1 hm)))
            have HEb6 := Lib.hid (own_keep HEb5.out hK (fun q hq hm => hmbb q hq (List.mem_singleton.1 hm)))
            have HL6 := Lib.hid (HL5.out.trans (hK.below HL5.out.size (fun f hf => by rw [List.mem_singleton.1 hf]; exact hpbs)))
            have HS6 := Lib.hid (same_keep HS5.out hK (fun q hq hm => by rw [List.mem_singleton] at hm; have := hBlt q hq; have := hz30; omega))
            clear hw6 eX hX hK hXz g0 g1 g2 g3 g4 k0 k1 k2 k3 k4
            refine Txt.Ty.wpTr_done (by rfl) ⟨.head _, .tail _ (.head _), .head _, .tail _ (.head _), trivial⟩ ?_
            go_wp2
            go_meet
            case rel => exact ⟨pa, pb, _, _, _, _, rfl, rfl, HPa6.out, HPb6.out, own_base HIa6.out (Nat.le_of_eq hz30), own_base HEa6.out (Nat.le_of_eq hz30), own_base HIb6.out (Nat.le_of_eq hz30), own_base HEb6.out (Nat.le_of_eq hz30), HBs.out.trans (HL6.out.mono (Nat.le_of_eq hz30))⟩
        · refine Txt.Ty.wpTr_alt ?_ Txt.Ty.wpTr_no
          (try simp only [Txt.pick, List.getElem?_cons_succ, List.getElem?_cons_zero])
          go_wp2
          refine Txt.SegPost.mk (Txt.Ty.Shown.same (same_below' HS1.out ((Below.refl _ w1).alloc (Nat.le_refl _) _))) ?_
          (try simp only [Txt.pick, List.getElem?_cons_succ, List.getElem?_cons_zero])
          go_wp2
          refine Txt.RunPost.mk ?_
          obtain ⟨w2, hw2⟩ : ∃ w2, w2 = w1.alloc (.cells #[.int .i64 0, .int .i64 0, .int .i64 0, .slice none 0 0, .slice none 0 0] 49) := ⟨_, rfl⟩
          obtain ⟨pb, hpb⟩ : ∃ pb, pb = w1.heap.size := ⟨_, rfl⟩
          rw [← hw2, ← hpb]
          have hb2 : Below w1.heap.size w1 w2 := by rw [hw2]; exact (Below.refl _ w1).alloc (Nat.le_refl _) _
          have HPb2 : Hid (w2.heap[pb]? = some (.cells #[.int .i64 0, .int .i64 0, .int .i64 0, .slice none 0 0, .slice none 0 0] 49 (0, 0))) := Lib.hid (by rw [hw2, hpb]; exact heap_alloc_new w1 _)
          have hpb2 : pb < w2.heap.size := (Array.getElem?_eq_some_iff.1 HPb2.out).1
          have hpbs : w0.heap.size ≤ pb := by have := HL1.out.size; omega
          have hpbk : pb = w1.heap.size := hpb
          have HL2 := Lib.hid (HL1.out.trans ((hb2).mono HL1.out.size))
          have HS2 := Lib.hid (same_below' HS1.out (hb2))
          have hz2 := (hb2).size
          have HPa2 := Lib.hid (((hb2).block pa (by omega)).trans HPa1.out)
          have hpa2 : pa < w2.heap.size := by omega
          have hpp : pa ≠ pb := by omega
          clear hw2 hb2 hpb hpbk
          refine Txt.Ty.wpTr_alt ?_ Txt.Ty.wpTr_no
          (try simp only [Txt.pick, List.getElem?_cons_succ, List.getElem?_cons_zero])
          go_wp2_with fail
          refine (output_any [] p 0 o _ _ w2 hol hoe (Raw.below HIO.out HL2.out) (Raw.below HEO.out HL2.out)).mono ?_
          rw [← HFa.out]
          rintro r w3 ⟨ia, ea, rfl, hia, hea, hb3⟩
          obtain ⟨ia0, ia1, rfl⟩ := own_slice hia
          obtain ⟨ea0, ea1, rfl⟩ := own_slice hea
          have HL3 := Lib.hid (HL2.out.trans ((hb3).mono HL2.out.size))
          have HS3 := Lib.hid (same_below' HS2.out (hb3))
          have hz3 := (hb3).size
          have HPa3 := Lib.hid (((hb3).block pa (by omega)).trans HPa2.out)
          have hpa3 : pa < w3.heap.size := by omega
          have HPb3 := Lib.hid (((hb3).block pb (by omega)).trans HPb2.out)
          have hpb3 : pb < w3.heap.size := by omega
          have HIa3 := Lib.hid (own_base hia HL2.out.size)
          have HEa3 := Lib.hid (own_base hea HL2.out.size)
          have hnaa: ∀ q, (Value.slice ia0 (fa.im).length ia1).ownBlock = some q → q ≠ pa := fun q hq => by have := (hia.lt q hq).1; omega
          have hmaa: ∀ q, (Value.slice ea0 (fa.ef).length ea1).ownBlock = some q → q ≠ pa := fun q hq => by have := (hea.lt q hq).1; omega
          have hnab: ∀ q, (Value.slice ia0 (fa.im).length ia1).ownBlock = some q → q ≠ pb := fun q hq => by have := (hia.lt q hq).1; omega
          have hmab: ∀ q, (Value.slice ea0 (fa.ef).length ea1).ownBlock = some q → q ≠ pb := fun q hq => by have := (hea.lt q hq).1; omega
          clear hia hea hb3
          go_wp2
          refine Txt.SegPost.mk (Txt.Ty.Shown.same HS3.out) ?_
          (try simp only [Txt.pick, List.getElem?_cons_succ, List.getElem?_cons_zero])
          go_wp2
          refine Txt.RunPost.mk ?_
          refine Txt.Ty.wpTr_alt ?_ Txt.Ty.wpTr_no
          (try simp only [Txt.pick, List.getElem?_cons_succ, List.getElem?_cons_zero])
          go_wp2_with fail
          refine (output_any [] p 1 o _ _ w3 hol hoe (Raw.below HIO.out HL3.out) (Raw.below HEO.out HL3.out)).mono ?_
          rw [← HFb.out]
          rintro r w4 ⟨ib, eb, rfl, hib, heb, hb4⟩
          obtain ⟨ib0, ib1, rfl⟩ := own_slice hib
          obtain ⟨eb0, eb1, rfl⟩ := own_slice heb
          have HL4 := Lib.hid (HL3.out.trans ((hb4).mono HL3.out.size))
          have HS4 := Lib.hid (same_below' HS3.out (hb4))
          have hz4 := (hb4).size
          have HIa4 := Lib.hid (own_below HIa3.out (hb4) (Nat.le_refl _))
          have HEa4 := Lib.hid (own_below HEa3.out (hb4) (Nat.le_refl _))
          have HPa4 := Lib.hid (((hb4).block pa (by omega)).trans HPa3.out)
          have hpa4 : pa < w4.heap.size := by omega
          have HPb4 := Lib.hid (((hb4).block pb (by omega)).trans HPb3.out)
          have hpb4 : pb < w4.heap.size := by omega
          have HIb4 := Lib.hid (own_base hib HL3.out.size)
          have HEb4 := Lib.hid (own_base heb HL3.out.size)
          have hnba: ∀ q, (Value.slice ib0 (fb.im).length ib1).ownBlock = some q → q ≠ pa := fun q hq => by have := (hib.lt q hq).1; omega
          have hmba: ∀ q, (Value.slice eb0 (fb.ef).length eb1).ownBlock = some q → q ≠ pa := fun q hq => by have := (heb.lt q hq).1; omega
          have hnbb: ∀ q, (Value.slice ib0 (fb.im).length ib1).ownBlock = some q → q ≠ pb := fun q hq => by have := (hib.lt q hq).1; omega
          have hmbb: ∀ q, (Value.slice eb0 (fb.ef).length eb1).ownBlock = some q → q ≠ pb := fun q hq => by have := (heb.lt q hq).1; omega
          clear hib heb hb4
          go_wp2
          refine Txt.SegPost.mk (Txt.Ty.Shown.same HS4.out) ?_
          (try simp only [Txt.pick, List.getElem?_cons_succ, List.getElem?_cons_zero])
          go_wp2
          refine Txt.RunPost.mk ?_
          refine Txt.Ty.wpTr_alt ?_ Txt.Ty.wpTr_no
          (try simp only [Txt.pick, List.getElem?_cons_succ, List.getElem?_cons_zero])
          have g0 := box_at HPa4.out (j := 0) rfl
          have g1 := box_at HPa4.out (j := 1) rfl
          have g2 := box_at HPa4.out (j := 2) rfl
          have g3 := box_at HPa4.out (j := 3) rfl
          have g4 := box_at HPa4.out (j := 4) rfl
          have k0 := box_free HPa4.out 0
          have k1 := box_free HPa4.out 1
          have k2 := box_free HPa4.out 2
          have k3 := box_free HPa4.out 3
          have k4 := box_free HPa4.out 4
          go_wp2
          refine Txt.SegPost.mk (Txt.Ty.Shown.last rfl) ?_
          (try simp only [Txt.pick, List.getElem?_cons_succ, List.getElem?_cons_zero])
          go_wp2
          refine Txt.RunPost.mk ?_
          obtain ⟨w5, hw5⟩ : ∃ w5, w5 = (((((w4.setCell ⟨pa, 0, none⟩ (.int .i64 fa.en)).setCell ⟨pa, 1, none⟩ (.int .i64 fa.st)).setCell ⟨pa, 2, none⟩ (.int .i64 fa.er)).setCell ⟨pa, 3, none⟩ (.slice ia0 fa.im.length ia1)).setCell ⟨pa, 4, none⟩ (.slice ea0 fa.ef.length ea1)) := ⟨_, rfl⟩
          rw [← hw5]
          obtain ⟨hX, hK⟩ := puts_at [(0, .int .i64 fa.en), (1, .int .i64 fa.st), (2, .int .i64 fa.er), (3, .slice ia0 fa.im.length ia1), (4, .slice ea0 fa.ef.length ea1)] HPa4.out
          have eX : puts w4 pa [(0, .int .i64 fa.en), (1, .int .i64 fa.st), (2, .int .i64 fa.er), (3, .slice ia0 fa.im.length ia1), (4, .slice ea0 fa.ef.length ea1)] = w5 := hw5.symm
          have hXz := puts_size [(0, .int .i64 fa.en), (1, .int .i64 fa.st), (2, .int .i64 fa.er), (3, .slice ia0 fa.im.length ia1), (4, .slice ea0 fa.ef.length ea1)] w4 pa
          rw [eX] at hX hK hXz
          have HPa5 : Hid (w5.heap[pa]? = some (.cells #[.int .i64 fa.en, .int .i64 fa.st, .int .i64 fa.er, (.slice ia0 fa.im.length ia1), (.slice ea0 fa.ef.length ea1)] 49 (0, 0))) := Lib.hid hX
          have HPb5 := Lib.hid ((hK.block pb hpb4 (by simp; omega)).trans HPb4.out)
          have hpa5 : pa < w5.heap.size := by omega
          have hpb5 : pb < w5.heap.size := by omega
          have HIa5 := Lib.hid (own_keep HIa4.out hK (fun q hq hm => hnaa q hq (List.mem_singleton.1 hm)))
          have HEa5 := Lib.hid (own_keep HEa4.out hK (fun q hq hm => hmaa q hq (List.mem_singleton.1 hm)))
          have HIb5 := Lib.hid (own_keep HIb4.out hK (fun q hq hm => hnba q hq (List.mem_singleton.1 hm)))
          have HEb5 := Lib.hid (own_keep HEb4.out hK (fun q hq hm => hmba q hq (List.mem_singleton.1 hm)))
          have HL5 := Lib.hid (HL4.out.trans (hK.below HL4.out.size (fun f hf => by rw [List.mem_singleton.1 hf]; exact hpas)))
          have HS5 := Lib.hid (same_keep HS4.out hK (fun q hq hm => by rw [List.mem_singleton] at hm; have := hBlt q hq; have := hz30; omega))
          clear hw5 eX hX hK hXz g0 g1 g2 g3 g4 k0 k1 k2 k3 k4
          refine Txt.Ty.wpTr_alt ?_ Txt.Ty.wpTr_no
          (try simp only [Txt.pick, List.getElem?_cons_succ, List.getElem?_cons_zero])
          have g0 := box_at HPb5.out (j := 0) rfl
          have g1 := box_at HPb5.out (j := 1) rfl
          have g2 := box_at HPb5.out (j := 2) rfl
          have g3 := box_at HPb5.out (j := 3) rfl
          have g4 := box_at HPb5.out (j := 4) rfl
          have k0 := box_free HPb5.out 0
          have k1 := box_free HPb5.out 1
          have k2 := box_free HPb5.out 2
          have k3 := box_free HPb5.out 3
          have k4 := box_free HPb5.out 4
          go_wp2
          refine Txt.SegPost.mk (Txt.Ty.Shown.last rfl) ?_
          (try simp only [Txt.pick, List.getElem?_cons_succ, List.getElem?_cons_zero])
          go_wp2
          refine Txt.RunPost.mk ?_
          obtain ⟨w6, hw6⟩ : ∃ w6, w6 = (((((w5.setCell ⟨pb, 0, none⟩ (.int .i64 fb.en)).setCell ⟨pb, 1, none⟩ (.int .i64 fb.st)).setCell ⟨pb, 2, none⟩ (.int .i64 fb.er)).setCell ⟨pb, 3, none⟩ (.slice ib0 fb.im.length ib1)).setCell ⟨pb, 4, none⟩ (.slice eb0 fb.ef.length eb1)) := ⟨_, rfl⟩
          rw [← hw6]
          obtain ⟨hX, hK⟩ := puts_at [(0, .int .i64 fb.en), (1, .int .i64 fb.st), (2, .int .i64 fb.er), (3, .slice ib0 fb.im.length ib1), (4, .slice eb0 fb.ef.length eb1)] HPb5.out
          have eX : puts w5 pb [(0, .int .i64 fb.en), (1, .int .i64 fb.st), (2, .int .i64 fb.er), (3, .slice ib0 fb.im.length ib1), (4, .slice eb0 fb.ef.length eb1)] = w6 := hw6.symm
          have hXz := puts_size [(0, .int .i64 fb.en), (1, .int .i64 fb.st), (2, .int .i64 fb.er), (3, .slice ib0 fb.im.length ib1), (4, .slice eb0 fb.ef.length eb1)] w5 pb
          rw [eX] at hX hK hXz
          have HPb6 : Hid (w6.heap[pb]? = some (.cells #[.int .i64 fb.en, .int .i64 fb.st, .int .i64 fb.er, (.slice ib0 fb.im.length ib1), (.slice eb0 fb.ef.length eb1)] 49 (0, 0))) := Lib.hid hX
          have HPa6 := Lib.hid ((hK.block pa hpa5 (by simp; omega)).trans HPa5.out)
          have hpb6 : pb < w6.heap.size := by omega
          have hpa6 : pa < w6.heap.size := by omega
          have HIa6 := Lib.hid (own_keep HIa5.out hK (fun q hq hm => hnab q hq (List.mem_singleton.1 hm)))
          have HEa6 := Lib.hid (own_keep HEa5.out hK (fun q hq hm => hmab q hq (List.mem_singleton.1 hm)))
          have HIb6 := Lib.hid (own_keep HIb5.out hK (fun q hq hm => hnbb q hq (List.mem_singleton.1 hm)))
          have HEb6 := Lib.hid (own_keep HEb5.out hK (fun q hq hm => hmbb q hq (List.mem_singleton.1 hm)))
          have HL6 := Lib.hid (HL5.out.trans (hK.below HL5.out.size (fun f hf => by rw [List.mem_singleton.1 hf]; exact hpbs)))
          have HS6 := Lib.hid (same_keep HS5.out hK (fun q hq hm => by rw [List.mem_singleton] at hm; have := hBlt q hq; have := hz30; omega))
          clear hw6 eX hX hK hXz g0 g1 g2 g3 g4 k0 k1 k2 k3 k4
          refine Txt.Ty.wpTr_done (by rfl) ⟨.head _, .tail _ (.head _), .head _, .tail _ (.head _), trivial⟩ ?_
          go_wp2
          go_meet
          case rel => exact ⟨pa, pb, _, _, _, _, rfl, rfl, HPa6.out, HPb6.out, own_base HIa6.out (Nat.le_of_eq hz30), own_base HEa6.out (Nat.le_of_eq hz30), own_base HIb6.out (Nat.le_of_eq hz30), own_base HEb6.out (Nat.le_of_eq hz30), HBs.out.trans (HL6.out.mono (Nat.le_of_eq hz30))⟩
      · refine Txt.Ty.wpTr_alt ?_ Txt.Ty.wpTr_no
        (try simp only [Txt.pick, List.getElem?_cons_succ, List.getElem?_cons_zero])
        go_wp2
        refine Txt.SegPost.mk (Txt.Ty.Shown.same (same_below' HS0.out ((Below.refl _ w0).alloc (Nat.le_refl _) _))) ?_
        (try simp only [Txt.pick, List.getElem?_cons_succ, List.getElem?_cons_zero])
        go_wp2
        refine Txt.RunPost.mk ?_
        obtain ⟨w1, hw1⟩ : ∃ w1, w1 = w0.alloc (.cells #[.int .i64 0, .int .i64 0, .int .i64 0, .slice none 0 0, .slice none 0 0] 49) := ⟨_, rfl⟩
        obtain ⟨pb, hpb⟩ : ∃ pb, pb = w0.heap.size := ⟨_, rfl⟩
        rw [← hw1, ← hpb]
        have hb1 : Below w0.heap.size w0 w1 := by rw [hw1]; exact (Below.refl _ w0).alloc (Nat.le_refl _) _
        have HPb1 : Hid (w1.heap[pb]? = some (.cells #[.int .i64 0, .int .i64 0, .int .i64 0, .slice none 0 0, .slice none 0 0] 49 (0, 0))) := Lib.hid (by rw [hw1, hpb]; exact heap_alloc_new w0 _)
        have hpb1 : pb < w1.heap.size := (Array.getElem?_eq_some_iff.1 HPb1.out).1
        have hpbs : w0.heap.size ≤ pb := by have := HL0.out.size; omega
        have hpbk : pb = w0.heap.size := hpb
        have HL1 := Lib.hid (HL0.out.trans ((hb1).mono HL0.out.size))
        have HS1 := Lib.hid (same_below' HS0.out (hb1))
        have hz1 := (hb1).size
        clear hw1 hb1 hpb hpbk
        refine Txt.Ty.wpTr_alt ?_ ?_
        · (try simp only [Txt.pick, List.getElem?_cons_succ, List.getElem?_cons_zero])
          go_wp2_with fail
          refine (output_any [] p 0 o _ _ w1 hol hoe (Raw.below HIO.out HL1.out) (Raw.below HEO.out HL1.out)).mono ?_
          rw [← HFa.out]
          rintro r w2 ⟨ia, ea, rfl, hia, hea, hb2⟩
          obtain ⟨ia0, ia1, rfl⟩ := own_slice hia
          obtain ⟨ea0, ea1, rfl⟩ := own_slice hea
          have HL2 := Lib.hid (HL1.out.trans ((hb2).mono HL1.out.size))
          have HS2 := Lib.hid (same_below' HS1.out (hb2))
          have hz2 := (hb2).size
          have HPb2 := Lib.hid (((hb2).block pb (by omega)).trans HPb1.out)
          have hpb2 : pb < w2.heap.size := by omega
          have HIa2 := Lib.hid (own_base hia HL1.out.size)
          have HEa2 := Lib.hid (own_base hea HL1.out.size)
          have hnab: ∀ q, (Value.slice ia0 (fa.im).length ia1).ownBlock = some q → q ≠ pb := fun q hq => by have := (hia.lt q hq).1; omega
          have hmab: ∀ q, (Value.slice ea0 (fa.ef).length ea1).ownBlock = some q → q ≠ pb := fun q hq => by have := (hea.lt q hq).1; omega
          clear hia hea hb2
          go_wp2
          refine Txt.SegPost.mk (Txt.Ty.Shown.same HS2.out) ?_
          (try simp only [Txt.pick, List.getElem?_cons_succ, List.getElem?_cons_zero])
          go_wp2
          refine Txt.RunPost.mk ?_
          refine Txt.Ty.wpTr_alt ?_ ?_
          · (try simp only [Txt.pick, List.getElem?_cons_succ, List.getElem?_cons_zero])
            go_wp2_with fail
            refine (output_any [] p 1 o _ _ w2 hol hoe (Raw.below HIO.out HL2.out) (Raw.below HEO.out HL2.out)).mono ?_
            rw [← HFb.out]
            rintro r w3 ⟨ib, eb, rfl, hib, heb, hb3⟩
            obtain ⟨ib0, ib1, rfl⟩ := own_slice hib
            obtain ⟨eb0, eb1, rfl⟩ := own_slice heb
            have HL3 := Lib.hid (HL2.out.trans ((hb3).mono HL2.out.size))
            have HS3 := Lib.hid (same_below' HS2.out (hb3))
            have hz3 := (hb3).size
            have HIa3 := Lib.hid (own_below HIa2.out (hb3) (Nat.le_refl _))
            have HEa3 := Lib.hid (own_below HEa2.out (hb3) (Nat.le_refl _))
            have HPb3 := Lib.hid (((hb3).block pb (by omega)).trans HPb2.out)
            have hpb3 : pb < w3.heap.size := by omega
            have HIb3 := Lib.hid (own_base hib HL2.out.size)
            have HEb3 := Lib.hid (own_base heb HL2.out.size)
            have hnbb: ∀ q, (Value.slice ib0 (fb.im).length ib1).ownBlock = some q → q ≠ pb := fun q hq => by have := (hib.lt q hq).1; omega
            have hmbb: ∀ q, (Value.slice eb0 (fb.ef).length eb1).ownBlock = some q → q ≠ pb := fun q hq => by have := (heb.lt q hq).1; omega
            clear hib heb hb3
            go_wp2
            refine Txt.SegPost.mk (Txt.Ty.Shown.same HS3.out) ?_
            (try simp only [Txt.pick, List.getElem?_cons_succ, List.getElem?_cons_zero])
            go_wp2
            refine Txt.RunPost.mk ?_
            refine Txt.Ty.wpTr_alt ?_ Txt.Ty.wpTr_no
            (try simp only [Txt.pick, List.getElem?_cons_succ, List.getElem?_cons_zero])
            go_wp2
            refine Txt.SegPost.mk (Txt.Ty.Shown.same (same_below' HS3.out ((Below.refl _ w3).alloc (Nat.le_refl _) _))) ?_
            (try simp only [Txt.pick, List.getElem?_cons_succ, List.getElem?_cons_zero])
            go_wp2
            refine Txt.RunPost.mk ?_
            obtain ⟨w4, hw4⟩ : ∃ w4, w4 = w3.alloc (.cells #[.int .i64 0, .int .i64 0, .int .i64 0, .slice none 0 0, .slice none 0 0] 49) := ⟨_, rfl⟩
            obtain ⟨pa, hpa⟩ : ∃ pa, pa = w3.heap.size := ⟨_, rfl⟩
            rw [← hw4, ← hpa]
            have hb4 : Below w3.heap.size w3 w4 := by rw [hw4]; exact (Below.refl _ w3).alloc (Nat.le_refl _) _
            have HPa4 : Hid (w4.heap[pa]? = some (.cells #[.int .i64 0, .int .i64 0, .int .i64 0, .slice none 0 0, .slice none 0 0] 49 (0, 0))) := Lib.hid (by rw [hw4, hpa]; exact heap_alloc_new w3 _)
            have hpa4 : pa < w4.heap.size := (Array.getElem?_eq_some_iff.1 HPa4.out).1
            have hpas : w0.heap.size ≤ pa := by have := HL3.out.size; omega
            have hpak : pa = w3.heap.size := hpa
            have HL4 := Lib.hid (HL3.out.trans ((hb4).mono HL3.out.size))
            have HS4 := Lib.hid (same_below' HS3.out (hb4))
            have hz4 := (hb4).size
            have HIa4 := Lib.hid (own_below HIa3.out (hb4) (Nat.le_refl _))
            have HEa4 := Lib.hid (own_below HEa3.out (hb4) (Nat.le_refl _))
            have HIb4 := Lib.hid (own_below HIb3.out (hb4) (Nat.le_refl _))
            have HEb4 := Lib.hid (own_below HEb3.out (hb4) (Nat.le_refl _))
            have HPb4 := Lib.hid (((hb4).block pb (by omega)).trans HPb3.out)
            have hpb4 : pb < w4.heap.size := by omega
            have hnaa : ∀ q, (Value.slice ia0 (fa.im).length ia1).ownBlock = some q → q ≠ pa := fun q hq => by have := (HIa3.out.lt q hq).2; omega
            have hmaa : ∀ q, (Value.slice ea0 (fa.ef).length ea1).ownBlock = some q → q ≠ pa := fun q hq => by have := (HEa3.out.lt q hq).2; omega
            have hnba : ∀ q, (Value.slice ib0 (fb.im).length ib1).ownBlock = some q → q ≠ pa := fun q hq => by have := (HIb3.out.lt q hq).2; omega
            have hmba : ∀ q, (Value.slice eb0 (fb.ef).length eb1).ownBlock = some q → q ≠ pa := fun q hq => by have := (HEb3.out.lt q hq).2; omega
            have hpp : pa ≠ pb := by omega
            clear hw4 hb4 hpa hpak
            refine Txt.Ty.wpTr_alt ?_ Txt.Ty.wpTr_no
            (try simp only [Txt.pick, List.getElem?_cons_succ, List.getElem?_cons_zero])
            have g0 := box_at HPa4.out (j := 0) rfl
            have g1 := box_at HPa4.out (j := 1) rfl
            have g2 := box_at HPa4.out (j := 2) rfl
            have g3 := box_at HPa4.out (j := 3) rfl
            have g4 := box_at HPa4.out (j := 4) rfl
            have k0 := box_free HPa4.out 0
            have k1 := box_free HPa4.out 1
            have k2 := box_free HPa4.out 2
            have k3 := box_free HPa4.out 3
            have k4 := box_free HPa4.out 4
            go_wp2
            refine Txt.SegPost.mk (Txt.Ty.Shown.last rfl) ?_
            (try simp only [Txt.pick, List.getElem?_cons_succ, List.getElem?_cons_zero])
            go_wp2
            refine Txt.RunPost.mk ?_
            obtain ⟨w5, hw5⟩ : ∃ w5, w5 = (((((w4.setCell ⟨pa, 0, none⟩ (.int .i64 fa.en)).setCell ⟨pa, 1, none⟩ (.int .i64 fa.st)).setCell ⟨pa, 2, none⟩ (.int .i64 fa.er)).setCell ⟨pa, 3, none⟩ (.slice ia0 fa.im.length ia1)).setCell ⟨pa, 4, none⟩ (.slice ea0 fa.ef.length ea1)) := ⟨_, rfl⟩
            rw [← hw5]
            obtain ⟨hX, hK⟩ := puts_at [(0, .int .i64 fa.en), (1, .int .i64 fa.st), (2, .int .i64 fa.er), (3, .slice ia0 fa.im.length ia1), (4, .slice ea0 fa.ef.length ea1)] HPa4.out
            have eX : puts w4 pa [(0, .int .i64 fa.en), (1, .int .i64 fa.st), (2, .int .i64 fa.er), (3, .slice ia0 fa.im.length ia1), (4, .slice ea0 fa.ef.length ea1)] = w5 := hw5.symm
            have hXz := puts_size [(0, .int .i64 fa.en), (1, .int .i64 fa.st), (2, .int .i64 fa.er), (3, .slice ia0 fa.im.length ia1), (4, .slice ea0 fa.ef.length ea1)] w4 pa
            rw [eX] at hX hK hXz
            have HPa5 : Hid (w5.heap[pa]? = some (.cells #[.int .i64 fa.en, .int .i64 fa.st, .int .i64 fa.er, (.slice ia0 fa.im.length ia1), (.slice ea0 fa.ef.length ea1)] 49 (0, 0))) := Lib.hid hX
            have HPb5 := Lib.hid ((hK.block pb hpb4 (by simp; omega)).trans HPb4.out)
            have hpa5 : pa < w5.heap.size := by omega
            have hpb5 : pb < w5.heap.size := by omega
            have HIa5 := Lib.hid (own_keep HIa4.out hK (fun q hq hm => hnaa q hq (List.mem_singleton.1 hm)))
            have HEa5 := Lib.hid (own_keep HEa4.out hK (fun q hq hm => hmaa q hq (List.mem_singleton.1 hm)))
            have HIb5 := Lib.hid (own_keep HIb4.out hK (fun q hq hm => hnba q hq (List.mem_singleton.1 hm)))
            have HEb5 := Lib.hid (own_keep HEb4.out hK (fun q hq hm => hmba q hq (List.mem_singleton.1 hm)))
            have HL5 := Lib.hid (HL4.out.trans (hK.below HL4.out.size (fun f hf => by rw [List.mem_singleton.1 hf]; exact hpas)))
            have HS5 := Lib.hid (same_keep HS4.out hK (fun q hq hm => by rw [List.mem_singleton] at hm; have := hBlt q hq; have := hz30; omega))
            clear hw5 eX hX hK hXz g0 g1 g2 g3 g4 k0 k1 k2 k3 k4
            refine Txt.Ty.wpTr_alt ?_ Txt.Ty.wpTr_no
            (try simp only [Txt.pick, List.getElem?_cons_succ, List.getElem?_cons_zero])
            have g0 := box_at HPb5.out (j := 0) rfl
            have g1 := box_at HPb5.out (j := 1) rfl
            have g2 := box_at HPb5.out (j := 2) rfl
            have g3 := box_at HPb5.out (j := 3) rfl
            have g4 := box_at HPb5.out (j := 4) rfl
            have k0 := box_free HPb5.out 0
            have k1 := box_free HPb5.out 1
            have k2 := box_free HPb5.out 2
            have k3 := box_free HPb5.out 3
            have k4 := box_free HPb5.out 4
            go_wp2
            refine Txt.SegPost.mk (Txt.Ty.Shown.last rfl) ?_
            (try simp only [Txt.pick, List.getElem?_cons_succ, List.getElem?_cons_zero])
            go_wp2
            refine Txt.RunPost.mk ?_
            obtain ⟨w6, hw6⟩ : ∃ w6, w6 = (((((w5.setCell ⟨pb, 0, none⟩ (.int .i64 fb.en)).setCell ⟨pb, 1, none⟩ (.int .i64 fb.st)).setCell ⟨pb, 2, none⟩ (.int .i64 fb.er)).setCell ⟨pb, 3, none⟩ (.slice ib0 fb.im.length ib1)).setCell ⟨pb, 4, none⟩ (.slice eb0 fb.ef.length eb1)) := ⟨_, rfl⟩
            rw [← hw6]
            obtain ⟨hX, hK⟩ := puts_at [(0, .int .i64 fb.en), (1, .int .i64 fb.st), (2, .int .i64 fb.er), (3, .slice ib0 fb.im.length ib1), (4, .slice eb0 fb.ef.length eb1)] HPb5.out
            have eX : puts w5 pb [(0, .int .i64 fb.en), (1, .int .i64 fb.st), (2, .int .i64 fb.er), (3, .slice ib0 fb.im.length ib1), (4, .slice eb0 fb.ef.length eb1)] = w6 := hw6.symm
            have hXz := puts_size [(0, .int .i64 fb.en), (1, .int .i64 fb.st), (2, .int .i64 fb.er), (3, .slice ib0 fb.im.length ib1), (4, .slice eb0 fb.ef.length eb1)] w5 pb
            rw [eX] at hX hK hXz
            have HPb6 : Hid (w6.heap[pb]? = some (.cells #[.int .i64 fb.en, .int .i64 fb.st, .int .i64 fb.er, (.slice ib0 fb.im.length ib1), (.slice eb0 fb.ef.length eb1)] 49 (0, 0))) := Lib.hid hX
            have HPa6 := Lib.hid ((hK.block pa hpa5 (by simp; omega)).trans HPa5.out)
            have hpb6 : pb < w6.heap.size := by omega
            have hpa6 : pa < w6.heap.size := by omega
            have HIa6 := Lib.hid (own_keep HIa5.out hK (fun q hq hm => hnab q hq (List.mem_singleton.1 hm)))
            have HEa6 := Lib.hid (own_keep HEa5.out hK (fun q hq hm => hmab q hq (List.mem_singleton.1 hm)))
            have HIb6 := Lib.hid (own_keep HIb5.out hK (fun q hq hm => hnbb q hq (List.mem_singleton.1 hm)))
            have HEb6 := Lib.hid (own_keep HEb5.out hK (fun q hq hm => hmbb q hq (List.mem_singleton.1 hm)))
            have HL6 := Lib.hid (HL5.out.trans (hK.below HL5.out.size (fun f hf => by rw [List.mem_singleton.1 hf]; exact hpbs)))
            have HS6 := Lib.hid (same_keep HS5.out hK (fun q hq hm => by rw [List.mem_singleton] at hm; have := hBlt q hq; have := hz30; omega))
            clear hw6 eX hX hK hXz g0 g1 g2 g3 g4 k0 k1 k2 k3 k4
            refine Txt.Ty.wpTr_done (by rfl) ⟨.head _, .tail _ (.head _), .head _, .tail _ (.head _), trivial⟩ ?_
            go_wp2
            go_meet
            case rel => exact ⟨pa, pb, _, _, _, _, rfl, rfl, HPa6.out, HPb6.out, own_base HIa6.out (Nat.le_of_eq hz30), own_base HEa6.out (Nat.le_of_eq hz30), own_base HIb6.out (Nat.le_of_eq hz30), own_base HEb6.out (Nat.le_of_eq hz30), HBs.out.trans (HL6.out.mono (Nat.le_of_eq hz30))⟩
          · refine Txt.Ty.wpTr_alt ?_ Txt.Ty.wpTr_no
            (try simp only [Txt.pick, List.getElem?_cons_succ, List.getElem?_cons_zero])
            go_wp2
            refine Txt.SegPost.mk (Txt.Ty.Shown.same (same_below' HS2.out ((Below.refl _ w2).alloc (Nat.le_refl _) _))) ?_
            (try simp only [Txt.pick, List.getElem?_cons_succ, List.getElem?_cons_zero])
            go_wp2
            refine Txt.RunPost.mk ?_
            obtain ⟨w3, hw3⟩ : ∃ w3, w3 = w2.alloc (.cells #[.int .i64 0, .int .i64 0, .int .i64 0, .slice none 0 0, .slice none 0 0] 49) := ⟨_, rfl⟩
            obtain ⟨pa, hpa⟩ : ∃ pa, pa = w2.heap.size := ⟨_, rfl⟩
            rw [← hw3, ← hpa]
            have hb3 : Below w2.heap.size w2 w3 := by rw [hw3]; exact (Below.refl _ w2).alloc (Nat.le_refl _) _
            have HPa3 : Hid (w3.heap[pa]? = some (.cells #[.int .i64 0, .int .i64 0, .int .i64 0, .slice none 0 0, .slice none 0 0] 49 (0, 0))) := Lib.hid (by rw [hw3, hpa]; exact heap_alloc_new w2 _)
            have hpa3 : pa < w3.heap.size := (Array.getElem?_eq_some_iff.1 HPa3.out).1
            have hpas : w0.heap.size ≤ pa := by have := HL2.out.size; omega
            have hpak : pa = w2.heap.size := hpa
            have HL3 := Lib.hid (HL2.out.trans ((hb3).mono HL2.out.size))
            have HS3 := Lib.hid (same_below' HS2.out (hb3))
            have hz3 := (hb3).size
            have HIa3 := Lib.hid (own_below HIa2.out (hb3) (Nat.le_refl _))
            have HEa3 := Lib.hid (own_below HEa2.out (hb3) (Nat.le_refl _))
            have HPb3 := Lib.hid (((hb3).block pb (by omega)).trans HPb2.out)
            have hpb3 : pb < w3.heap.size := by omega
            have hnaa : ∀ q, (Value.slice ia0 (fa.im).length ia1).ownBlock = some q → q ≠ pa := fun q hq => by have := (HIa2.out.lt q hq).2; omega
            have hmaa : ∀ q, (Value.slice ea0 (fa.ef).length ea1).ownBlock = some q → q ≠ pa := fun q hq => by have := (HEa2.out.lt q hq).2; omega
            have hpp : pa ≠ pb := by omega
            clear hw3 hb3 hpa hpak
            refine Txt.Ty.wpTr_alt ?_ Txt.Ty.wpTr_no
            (try simp only [Txt.pick, List.getElem?_cons_succ, List.getElem?_cons_zero])
            go_wp2_with fail
            refine (output_any [] p 1 o _ _ w3 hol hoe (Raw.below HIO.out HL3.out) (Raw.below HEO.out HL3.out)).mono ?_
            rw [← HFb.out]
            rintro r w4 ⟨ib, eb, rfl, hib, heb, hb4⟩
            obtain ⟨ib0, ib1, rfl⟩ := own_slice hib
            obtain ⟨eb0, eb1, rfl⟩ := own_slice heb
            have HL4 := Lib.hid (HL3.out.trans ((hb4).mono HL3.out.size))
            have HS4 := Lib.hid (same_below' HS3.out (hb4))
            have hz4 := (hb4).size
            have HIa4 := Lib.hid (own_below HIa3.out (hb4) (Nat.le_refl _))
            have HEa4 := Lib.hid (own_below HEa3.out (hb4) (Nat.le_refl _))
            have HPa4 := Lib.hid (((hb4).block pa (by omega)).trans HPa3.out)
            have hpa4 : pa < w4.heap.size := by omega
            have HPb4 := Lib.hid (((hb4).block pb (by omega)).trans HPb3.out)
            have hpb4 : pb < w4.heap.size := by omega
            have HIb4 := Lib.hid (own_base hib HL3.out.size)
            have HEb4 := Lib.hid (own_base heb HL3.out.size)
            have hnba: ∀ q, (Value.slice ib0 (fb.im).length ib1).ownBlock = some q → q ≠ pa := fun q hq => by have := (hib.lt q hq).1; omega
            have hmba: ∀ q, (Value.slice eb0 (fb.ef).length eb1).ownBlock = some q → q ≠ pa := fun q hq => by have := (heb.lt q hq).1; omega
            have hnbb: ∀ q, (Value.slice ib0 (fb.im).length ib1).ownBlock = some q → q ≠ pb := fun q hq => by have := (hib.lt q hq).1; omega
            have hmbb: ∀ q, (Value.slice eb0 (fb.ef).length eb1).ownBlock = some q → q ≠ pb := fun q hq => by have := (heb.lt q hq).1; omega
            clear hib heb hb4
            go_wp2
            refine Txt.SegPost.mk (Txt.Ty.Shown.same HS4.out) ?_
            (try simp only [Txt.pick, List.getElem?_cons_succ, List.getElem?_cons_zero])
            go_wp2
            refine Txt.RunPost.mk ?_
            refine Txt.Ty.wpTr_alt ?_ Txt.Ty.wpTr_no
            (try simp only [Txt.pick, List.getElem?_cons_succ, List.getElem?_cons_zero])
            have g0 := box_at HPa4.out (j := 0) rfl
            have g1 := box_at HPa4.out (j := 1) rfl
            have g2 := box_at HPa4.out (j := 2) rfl
            have g3 := box_at HPa4.out (j := 3) rfl
            have g4 := box_at HPa4.out (j := 4) rfl
            have k0 := box_free HPa4.out 0
            have k1 := box_free HPa4.out 1
            have k2 := box_free HPa4.out 2
            have k3 := box_free HPa4.out 3
            have k4 := box_free HPa4.out 4
            go_wp2
            refine Txt.SegPost.mk (Txt.Ty.Shown.last rfl) ?_
            (try simp only [Txt.pick, List.getElem?_cons_succ, List.getElem?_cons_zero])
            go_wp2
            refine Txt.RunPost.mk ?_
            obtain ⟨w5, hw5⟩ : ∃ w5, w5 = (((((w4.setCell ⟨pa, 0, none⟩ (.int .i64 fa.en)).setCell ⟨pa, 1, none⟩ (.int .i64 fa.st)).setCell ⟨pa, 2, none⟩ (.int .i64 fa.er)).setCell ⟨pa, 3, none⟩ (.slice ia0 fa.im.length ia1)).setCell ⟨pa, 4, none⟩ (.slice ea0 fa.ef.length ea1)) := ⟨_, rfl⟩
            rw [← hw5]
            obtain ⟨hX, hK⟩ := puts_at [(0, .int .i64 fa.en), (1, .int .i64 fa.st), (2, .int .i64 fa.er), (3, .slice ia0 fa.im.length ia1), (4, .slice ea0 fa.ef.length ea1)] HPa4.out
            have eX : puts w4 pa [(0, .int .i64 fa.en), (1, .int .i64 fa.st), (2, .int .i64 fa.er), (3, .slice ia0 fa.im.length ia1), (4, .slice ea0 fa.ef.length ea1)] = w5 := hw5.symm
            have hXz := puts_size [(0, .int .i64 fa.en), (1, .int .i64 fa.st), (2, .int .i64 fa.er), (3, .slice ia0 fa.im.length ia1), (4, .slice ea0 fa.ef.length ea1)] w4 pa
            rw [eX] at hX hK hXz
            have HPa5 : Hid (w5.heap[pa]? = some (.cells #[.int .i64 fa.en, .int .i64 fa.st, .int .i64 fa.er, (.slice ia0 fa.im.length ia1), (.slice ea0 fa.ef.length ea1)] 49 (0, 0))) := Lib.hid hX
            have HPb5 := Lib.hid ((hK.block pb hpb4 (by simp; omega)).trans HPb4.out)
            have hpa5 : pa < w5.heap.size := by omega
            have hpb5 : pb < w5.heap.size := by omega
            have HIa5 := Lib.hid (own_keep HIa4.out hK (fun q hq hm => hnaa q hq (List.mem_singleton.1 hm)))
            have HEa5 := Lib.hid (own_keep HEa4.out hK (fun q hq hm => hmaa q hq (List.mem_singleton.1 hm)))
            have HIb5 := Lib.hid (own_keep HIb4.out hK (fun q hq hm => hnba q hq (List.mem_singleton.1 hm)))
            have HEb5 := Lib.hid (own_keep HEb4.out hK (fun q hq hm => hmba q hq (List.mem_singleton.1 hm)))
            have HL5 := Lib.hid (HL4.out.trans (hK.below HL4.out.size (fun f hf => by rw [List.mem_singleton.1 hf]; exact hpas)))
            have HS5 := Lib.hid (same_keep HS4.out hK (fun q hq hm => by rw [List.mem_singleton] at hm; have := hBlt q hq; have := hz30; omega))
            clear hw5 eX hX hK hXz g0 g1 g2 g3 g4 k0 k1 k2 k3 k4
            refine Txt.Ty.wpTr_alt ?_ Txt.Ty.wpTr_no
            (try simp only [Txt.pick, List.getElem?_cons_succ, List.getElem?_cons_zero])
            have g0 := box_at HPb5.out (j := 0) rfl
            have g1 := box_at HPb5.out (j := 1) rfl
            have g2 := box_at HPb5.out (j := 2) rfl
            have g3 := box_at HPb5.out (j := 3) rfl
            have g4 := box_at HPb5.out (j := 4) rfl
            have k0 := box_free HPb5.out 0
            have k1 := box_free HPb5.out 1
            have k2 := box_free HPb5.out 2
            have k3 := box_free HPb5.out 3
            have k4 := box_free HPb5.out 4
            go_wp2
            refine Txt.SegPost.mk (Txt.Ty.Shown.last rfl) ?_
            (try simp only [Txt.pick, List.getElem?_cons_succ, List.getElem?_cons_zero])
            go_wp2
            refine Txt.RunPost.mk ?_
            obtain ⟨w6, hw6⟩ : ∃ w6, w6 = (((((w5.setCell ⟨pb, 0, none⟩ (.int .i64 fb.en)).setCell ⟨pb, 1, none⟩ (.int .i64 fb.st)).setCell ⟨pb, 2, none⟩ (.int .i64 fb.er)).setCell ⟨pb, 3, none⟩ (.slice ib0 fb.im.length ib1)).setCell ⟨pb, 4, none⟩ (.slice eb0 fb.ef.length eb1)) := ⟨_, rfl⟩
            rw [← hw6]
            obtain ⟨hX, hK⟩ := puts_at [(0, .int .i64 fb.en), (1, .int .i64 fb.st), (2, .int .i64 fb.er), (3, .slice ib0 fb.im.length ib1), (4, .slice eb0 fb.ef.length eb1)] HPb5.out
            have eX : puts w5 pb [(0, .int .i64 fb.en), (1, .int .i64 fb.st), (2, .int .i64 fb.er), (3, .slice ib0 fb.im.length ib1), (4, .slice eb0 fb.ef.length eb1)] = w6 := hw6.symm
            have hXz := puts_size [(0, .int .i64 fb.en), (1, .int .i64 fb.st), (2, .int .i64 fb.er), (3, .slice ib0 fb.im.length ib1), (4, .slice eb0 fb.ef.length eb1)] w5 pb
            rw [eX] at hX hK hXz
            have HPb6 : Hid (w6.heap[pb]? = some (.cells #[.int .i64 fb.en, .int .i64 fb.st, .int .i64 fb.er, (.slice ib0 fb.im.length ib1), (.slice eb0 fb.ef.length eb1)] 49 (0, 0))) := Lib.hid hX
            have HPa6 := Lib.hid ((hK.block pa hpa5 (by simp; omega)).trans HPa5.out)
            have hpb6 : pb < w6.heap.size := by omega
            have hpa6 : pa < w6.heap.size := by omega
            have HIa6 := Lib.hid (own_keep HIa5.out hK (fun q hq hm => hnab q hq (List.mem_singleton.1 hm)))
            have HEa6 := Lib.hid (own_keep HEa5.out hK (fun q hq hm => hmab q hq (List.mem_singleton.1 hm)))
            have HIb6 := Lib.hid (own_keep HIb5.out hK (fun q hq hm => hnbb q hq (List.mem_singleton.1 hm)))
            have HEb6 := Lib.hid (own_keep HEb5.out hK (fun q hq hm => hmbb q hq (List.mem_singleton.1 hm)))
            have HL6 := Lib.hid (HL5.out.trans (hK.below HL5.out.size (fun f hf => by rw [List.mem_singleton.1 hf]; exact hpbs)))
            have HS6 := Lib.hid (same_keep HS5.out hK (fun q hq hm => by rw [List.mem_singleton] at hm; have := hBlt q hq; have := hz30; omega))
            clear hw6 eX hX hK hXz g0 g1 g2 g3 g4 k0 k1 k2 k3 k4
            refine Txt.Ty.wpTr_done (by rfl) ⟨.head _, .tail _ (.head _), .head _, .tail _ (.head _), trivial⟩ ?_
            go_wp2
            go_meet
            case rel => exact ⟨pa, pb, _, _, _, _, rfl, rfl, HPa6.out, HPb6.out, own_base HIa6.out (Nat.le_of_eq hz30), own_base HEa6.out (Nat.le_of_eq hz30), own_base HIb6.out (Nat.le_of_eq hz30), own_base HEb6.out (Nat.le_of_eq hz30), HBs.out.trans (HL6.out.mono (Nat.le_of_eq hz30))⟩
        · refine Txt.Ty.wpTr_alt ?_ Txt.Ty.wpTr_no
          (try simp only [Txt.pick, List.getElem?_cons_succ, List.getElem?_cons_zero])
          go_wp2
          refine Txt.SegPost.mk (Txt.Ty.Shown.same (same_below' HS1.out ((Below.refl _ w1).alloc (Nat.le_refl _) _))) ?_
          (try simp only [Txt.pick, List.getElem?_cons_succ, List.getElem?_cons_zero])
          go_wp2
          refine Txt.RunPost.mk ?_
          obtain ⟨w2, hw2⟩ : ∃ w2, w2 = w1.alloc (.cells #[.int .i64 0, .int .i64 0, .int .i64 0, .slice none 0 0, .slice none 0 0] 49) := ⟨_, rfl⟩
          obtain ⟨pa, hpa⟩ : ∃ pa, pa = w1.heap.size := ⟨_, rfl⟩
          rw [← hw2, ← hpa]
          have hb2 : Below w1.heap.size w1 w2 := by rw [hw2]; exact (Below.refl _ w1).alloc (Nat.le_refl _) _
          have HPa2 : Hid (w2.heap[pa]? = some (.cells #[.int .i64 0, .int .i64 0, .int .i64 0, .slice none 0 0, .slice none 0 0] 49 (0, 0))) := Lib.hid (by rw [hw2, hpa]; exact heap_alloc_new w1 _)
          have hpa2 : pa < w2.heap.size := (Array.getElem?_eq_some_iff.1 HPa2.out).1
          have hpas : w0.heap.size ≤ pa := by have := HL1.out.size; omega
          have hpak : pa = w1.heap.size := hpa
          have HL2 := Lib.hid (HL1.out.trans ((hb2).mono HL1.out.size))
          have HS2 := Lib.hid (same_below' HS1.out (hb2))
          have hz2 := (hb2).size
          have HPb2 := Lib.hid (((hb2).block pb (by omega)).trans HPb1.out)
          have hpb2 : pb < w2.heap.size := by omega
          have hpp : pa ≠ pb := by omega
          clear hw2 hb2 hpa hpak
          refine Txt.Ty.wpTr_alt ?_ Txt.Ty.wpTr_no
          (try simp only [Txt.pick, List.getElem?_cons_succ, List.getElem?_cons_zero])
          go_wp2_with fail
          refine (output_any [] p 0 o _ _ w2 hol hoe (Raw.below HIO.out HL2.out) (Raw.below HEO.out HL2.out)).mono ?_
          rw [← HFa.out]
          rintro r w3 ⟨ia, ea, rfl, hia, hea, hb3⟩
          obtain ⟨ia0, ia1, rfl⟩ := own_slice hia
          obtain ⟨ea0, ea1, rfl⟩ := own_slice hea
          have HL3 := Lib.hid (HL2.out.trans ((hb3).mono HL2.out.size))
          have HS3 := Lib.hid (same_below' HS2.out (hb3))
          have hz3 := (hb3).size
          have HPa3 := Lib.hid (((hb3).block pa (by omega)).trans HPa2.out)
          have hpa3 : pa < w3.heap.size := by omega
          have HPb3 := Lib.hid (((hb3).block pb (by omega)).trans HPb2.out)
          have hpb3 : pb < w3.heap.size := by omega
          have HIa3 := Lib.hid (own_base hia HL2.out.size)
          have HEa3 := Lib.hid (own_base hea HL2.out.size)
          have hnaa: ∀ q, (Value.slice ia0 (fa.im).length ia1).ownBlock = some q → q ≠ pa := fun q hq => by have := (hia.lt q hq).1; omega
          have hmaa: ∀ q, (Value.slice ea0 (fa.ef).length ea1).ownBlock = some q → q ≠ pa := fun q hq => by have := (hea.lt q hq).1; omega
          have hnab: ∀ q, (Value.slice ia0 (fa.im).length ia1).ownBlock = some q → q ≠ pb := fun q hq => by have := (hia.lt q hq).1; omega
          have hmab: ∀ q, (Value.slice ea0 (fa.ef).length ea1).ownBlock = some q → q ≠ pb := fun q hq => by have := (hea.lt q hq).1; omega
          clear hia hea hb3
          go_wp2
          refine Txt.SegPost.mk (Txt.Ty.Shown.same HS3.out) ?_
          (try simp only [Txt.pick, List.getElem?_cons_succ, List.getElem?_cons_zero])
          go_wp2
          refine Txt.RunPost.mk ?_
          refine Txt.Ty.wpTr_alt ?_ Txt.Ty.wpTr_no
          (try simp only [Txt.pick, List.getElem?_cons_succ, List.getElem?_cons_zero])
          go_wp2_with fail
          refine (output_any [] p 1 o _ _ w3 hol hoe (Raw.below HIO.out HL3.out) (Raw.below HEO.out HL3.out)).mono ?_
          rw [← HFb.out]
          rintro r w4 ⟨ib, eb, rfl, hib, heb, hb4⟩
          obtain ⟨ib0, ib1, rfl⟩ := own_slice hib
          obtain ⟨eb0, eb1, rfl⟩ := own_slice heb
          have HL4 := Lib.hid (HL3.out.trans ((hb4).mono HL3.out.size))
          have HS4 := Lib.hid (same_below' HS3.out (hb4))
          have hz4 := (hb4).size
          have HIa4 := Lib.hid (own_below HIa3.out (hb4) (Nat.le_refl _))
          have HEa4 := Lib.hid (own_below HEa3.out (hb4) (Nat.le_refl _))
          have HPa4 := Lib.hid (((hb4).block pa (by omega)).trans HPa3.out)
          have hpa4 : pa < w4.heap.size := by omega
          have HPb4 := Lib.hid (((hb4).block pb (by omega)).trans HPb3.out)
          have hpb4 : pb < w4.heap.size := by omega
          have HIb4 := Lib.hid (own_base hib HL3.out.size)
          have HEb4 := Lib.hid (own_base heb HL3.out.size)
          have hnba: ∀ q, (Value.slice ib0 (fb.im).length ib1).ownBlock = some q → q ≠ pa := fun q hq => by have := (hib.lt q hq).1; omega
          have hmba: ∀ q, (Value.slice eb0 (fb.ef).length eb1).ownBlock = some q → q ≠ pa := fun q hq => by have := (heb.lt q hq).1; omega
          have hnbb: ∀ q, (Value.slice ib0 (fb.im).length ib1).ownBlock = some q → q ≠ pb := fun q hq => by have := (hib.lt q hq).1; omega
          have hmbb: ∀ q, (Value.slice eb0 (fb.ef).length eb1).ownBlock = some q → q ≠ pb := fun q hq => by have := (heb.lt q hq).1; omega
          clear hib heb hb4
          go_wp2
          refine Txt.SegPost.mk (Txt.Ty.Shown.same HS4.out) ?_
          (try simp only [Txt.pick, List.getElem?_cons_succ, List.getElem?_cons_zero])
          go_wp2
          refine Txt.RunPost.mk ?_
          refine Txt.Ty.wpTr_alt ?_ Txt.Ty.wpTr_no
          (try simp only [Txt.pick, List.getElem?_cons_succ, List.getElem?_cons_zero])
          have g0 := box_at HPa4.out (j := 0) rfl
          have g1 := box_at HPa4.out (j := 1) rfl
          have g2 := box_at HPa4.out (j := 2) rfl
          have g3 := box_at HPa4.out (j := 3) rfl
          have g4 := box_at HPa4.out (j := 4) rfl
          have k0 := box_free HPa4.out 0
          have k1 := box_free HPa4.out 1
          have k2 := box_free HPa4.out 2
          have k3 := box_free HPa4.out 3
          have k4 := box_free HPa4.out 4
          go_wp2
          refine Txt.SegPost.mk (Txt.Ty.Shown.last rfl) ?_
          (try simp only [Txt.pick, List.getElem?_cons_succ, List.getElem?_cons_zero])
          go_wp2
          refine Txt.RunPost.mk ?_
          obtain ⟨w5, hw5⟩ : ∃ w5, w5 = (((((w4.setCell ⟨pa, 0, none⟩ (.int .i64 fa.en)).setCell ⟨pa, 1, none⟩ (.int .i64 fa.st)).setCell ⟨pa, 2, none⟩ (.int .i64 fa.er)).setCell ⟨pa, 3, none⟩ (.slice ia0 fa.im.length ia1)).setCell ⟨pa, 4, none⟩ (.slice ea0 fa.ef.length ea1)) := ⟨_, rfl⟩
          rw [← hw5]
          obtain ⟨hX, hK⟩ := puts_at [(0, .int .i64 fa.en), (1, .int .i64 fa.st), (2, .int .i64 fa.er), (3, .slice ia0 fa.im.length ia1), (4, .slice ea0 fa.ef.length ea1)] HPa4.out
          have eX : puts w4 pa [(0, .int .i64 fa.en), (1, .int .i64 fa.st), (2, .int .i64 fa.er), (3, .slice ia0 fa.im.length ia1), (4, .slice ea0 fa.ef.length ea1)] = w5 := hw5.symm
          have hXz := puts_size [(0, .int .i64 fa.en), (1, .int .i64 fa.st), (2, .int .i64 fa.er), (3, .slice ia0 fa.im.length ia1), (4, .slice ea0 fa.ef.length ea1)] w4 pa
          rw [eX] at hX hK hXz
          have HPa5 : Hid (w5.heap[pa]? = some (.cells #[.int .i64 fa.en, .int .i64 fa.st, .int .i64 fa.er, (.slice ia0 fa.im.length ia1), (.slice ea0 fa.ef.length ea1)] 49 (0, 0))) := Lib.hid hX
          have HPb5 := Lib.hid ((hK.block pb hpb4 (by simp; omega)).trans HPb4.out)
          have hpa5 : pa < w5.heap.size := by omega
          have hpb5 : pb < w5.heap.size := by omega
          have HIa5 := Lib.hid (own_keep HIa4.out hK (fun q hq hm => hnaa q hq (List.mem_singleton.1 hm)))
          have HEa5 := Lib.hid (own_keep HEa4.out hK (fun q hq hm => hmaa q hq (List.mem_singleton.1 hm)))
          have HIb5 := Lib.hid (own_keep HIb4.out hK (fun q hq hm => hnba q hq (List.mem_singleton.1 hm)))
          have HEb5 := Lib.hid (own_keep HEb4.out hK (fun q hq hm => hmba q hq (List.mem_singleton.1 hm)))
          have HL5 := Lib.hid (HL4.out.trans (hK.below HL4.out.size (fun f hf => by rw [List.mem_singleton.1 hf]; exact hpas)))
          have HS5 := Lib.hid (same_keep HS4.out hK (fun q hq hm => by rw [List.mem_singleton] at hm; have := hBlt q hq; have := hz30; omega))
          clear hw5 eX hX hK hXz g0 g1 g2 g3 g4 k0 k1 k2 k3 k4
          refine Txt.Ty.wpTr_alt ?_ Txt.Ty.wpTr_no
          (try simp only [Txt.pick, List.getElem?_cons_succ, List.getElem?_cons_zero])
          have g0 := box_at HPb5.out (j := 0) rfl
          have g1 := box_at HPb5.out (j := 1) rfl
          have g2 := box_at HPb5.out (j := 2) rfl
          have g3 := box_at HPb5.out (j := 3) rfl
          have g4 := box_at HPb5.out (j := 4) rfl
          have k0 := box_free HPb5.out 0
          have k1 := box_free HPb5.out 1
          have k2 := box_free HPb5.out 2
          have k3 := box_free HPb5.out 3
          have k4 := box_free HPb5.out 4
          go_wp2
          refine Txt.SegPost.mk (Txt.Ty.Shown.last rfl) ?_
          (try simp only [Txt.pick, List.getElem?_cons_succ, List.getElem?_cons_zero])
          go_wp2
          refine Txt.RunPost.mk ?_
          obtain ⟨w6, hw6⟩ : ∃ w6, w6 = (((((w5.setCell ⟨pb, 0, none⟩ (.int .i64 fb.en)).setCell ⟨pb, 1, none⟩ (.int .i64 fb.st)).setCell ⟨pb, 2, none⟩ (.int .i64 fb.er)).setCell ⟨pb, 3, none⟩ (.slice ib0 fb.im.length ib1)).setCell ⟨pb, 4, none⟩ (.slice eb0 fb.ef.length eb1)) := ⟨_, rfl⟩
          rw [← hw6]
          obtain ⟨hX, hK⟩ := puts_at [(0, .int .i64 fb.en), (1, .int .i64 fb.st), (2, .int .i64 fb.er), (3, .slice ib0 fb.im.length ib1), (4, .slice eb0 fb.ef.length eb1)] HPb5.out
          have eX : puts w5 pb [(0, .int .i64 fb.en), (1, .int .i64 fb.st), (2, .int .i64 fb.er), (3, .slice ib0 fb.im.length ib1), (4, .slice eb0 fb.ef.length eb1)] = w6 := hw6.symm
          have hXz := puts_size [(0, .int .i64 fb.en), (1, .int .i64 fb.st), (2, .int .i64 fb.er), (3, .slice ib0 fb.im.length ib1), (4, .slice eb0 fb.ef.length eb1)] w5 pb
          rw [eX] at hX hK hXz
          have HPb6 : Hid (w6.heap[pb]? = some (.cells #[.int .i64 fb.en, .int .i64 fb.st, .int .i64 fb.er, (.slice ib0 fb.im.length ib1), (.slice eb0 fb.ef.length eb1)] 49 (0, 0))) := Lib.hid hX
          have HPa6 := Lib.hid ((hK.block pa hpa5 (by simp; omega)).trans HPa5.out)
          have hpb6 : pb < w6.heap.size := by omega
          have hpa6 : pa < w6.heap.size := by omega
          have HIa6 := Lib.hid (own_keep HIa5.out hK (fun q hq hm => hnab q hq (List.mem_singleton.1 hm)))
          have HEa6 := Lib.hid (own_keep HEa5.out hK (fun q hq hm => hmab q hq (List.mem_singleton.1 hm)))
          have HIb6 := Lib.hid (own_keep HIb5.out hK (fun q hq hm => hnbb q hq (List.mem_singleton.1 hm)))
          have HEb6 := Lib.hid (own_keep HEb5.out hK (fun q hq hm => hmbb q hq (List.mem_singleton.1 hm)))
          have HL6 := Lib.hid (HL5.out.trans (hK.below HL5.out.size (fun f hf => by rw [List.mem_singleton.1 hf]; exact hpbs)))
          have HS6 := Lib.hid (same_keep HS5.out hK (fun q hq hm => by rw [List.mem_singleton] at hm; have := hBlt q hq; have := hz30; omega))
          clear hw6 eX hX hK hXz g0 g1 g2 g3 g4 k0 k1 k2 k3 k4
          refine Txt.Ty.wpTr_done (by rfl) ⟨.head _, .tail _ (.head _), .head _, .tail _ (.head _), trivial⟩ ?_
          go_wp2
          go_meet
          case rel => exact ⟨pa, pb, _, _, _, _, rfl, rfl, HPa6.out, HPb6.out, own_base HIa6.out (Nat.le_of_eq hz30), own_base HEa6.out (Nat.le_of_eq hz30), own_base HIb6.out (Nat.le_of_eq hz30), own_base HEb6.out (Nat.le_of_eq hz30), HBs.out.trans (HL6.out.mono (Nat.le_of_eq hz30))⟩
  case rest =>
    obtain ⟨pa, pb, ia, ea, ib, eb, rfl, rfl, hA, hB, hia, hea, hib, heb, hbc⟩ := hcut
    obtain ⟨ia0, ia1, rfl⟩ := own_slice hia
    obtain ⟨ea0, ea1, rfl⟩ := own_slice hea
    obtain ⟨ib0, ib1, rfl⟩ := own_slice hib
    obtain ⟨eb0, eb1, rfl⟩ := own_slice heb
    have hsc := hbc.size
    have HA := Lib.hid hA; have HB := Lib.hid hB
    have HIA := Lib.hid (Bytes.row (F := []) hia rfl (fun f hf => by cases hf)); have HEA := Lib.hid (Bytes.row (F := []) hea rfl (fun f hf => by cases hf))
    have HIB := Lib.hid (Bytes.row (F := []) hib rfl (fun f hf => by cases hf)); have HEB := Lib.hid (Bytes.row (F := []) heb rfl (fun f hf => by cases hf))
    have HQc := Lib.hid ((hbc.block Q hQ3).trans HQ3.out)
    have HLc := Lib.hid (HL3.out.trans (hbc.mono HL3.out.size))
    clear hA hB hia hea hib heb hbc HP3 HQ3 HO3 HIO3 HEO3
    have hBl : ∀ q ∈ [Q], ∃ c e f, wc.heap[q]? = some (.cells c e f) := fun q hq => by rw [List.mem_singleton.1 hq]; exact ⟨_, _, _, HQc.out⟩
    have HS0 := Lib.hid (same_start hBl)
    have hst := fout_st p o (by rw [HOst.out]; have := cost_lo x0.length x1.length 1; omega)
    rw [← HFa.out, ← HFb.out] at hst
    have hos := HOst.out
    have hcl := cost_lo x0.length x1.length 1
    have hch := cost_hi x0.length x1.length 1 (by omega) (by omega) (by omega)
    have hjs : jst fa fb = fa.st + fb.st + 1 := by
      unfold jst
      have e1 : wrap64 (fa.st + fb.st) = fa.st + fb.st := by unfold wrap64; omega
      rw [e1]
      unfold wrap64
      omega
    have hb : bnd x0.length x1.length 1 = 4000 + 2 * cost x0.length x1.length 1 + 1 + cnt x1.length + 1 + (cnt x0.length + 1) := rfl
    have hc1 := cnt_lo x1.length
    have hc0 := cnt_lo x0.length
    have hd1 := cnt_hi x1.length (by omega)
    have hd0 := cnt_hi x0.length (by omega)
    obtain ⟨J, hJ⟩ : ∃ J, J = jst fa fb := ⟨_, rfl⟩
    have hJ2 : J ≤ 4000 + 2 * cost x0.length x1.length 1 + 1 := by rw [hJ, hjs, ← hos]; omega
    have hJ0 : 0 ≤ J := by rw [hJ, hjs]; omega
    have HJ := Lib.hid hJ
    clear hJ hjs hst hos
    have HBD := Lib.hid hb
    clear hb
    have a_0 := box_at HA.out (j := 0) rfl
    have a_1 := box_at HA.out (j := 1) rfl
    have a_2 := box_at HA.out (j := 2) rfl
    have a_3 := box_at HA.out (j := 3) rfl
    have a_4 := box_at HA.out (j := 4) rfl
    have b_0 := box_at HB.out (j := 0) rfl
    have b_1 := box_at HB.out (j := 1) rfl
    have b_2 := box_at HB.out (j := 2) rfl
    have b_3 := box_at HB.out (j := 3) rfl
    have b_4 := box_at HB.out (j := 4) rfl
    have q_0 := box_at HQc.out (j := 0) rfl
    have q_1 := box_at HQc.out (j := 1) rfl
    have q_2 := box_at HQc.out (j := 2) rfl
    go_upto_region 9 with (fail)
    refine Txt.Ty.wp_tree [Q] [5, 11] [13] [0, 1, 5, 11] [0, 1, 4, 5, 6, 10, 11, 12] (.alt [2, 3] (.alt [7, 8, 9] (.alt [13, 14, 15] (.done) (.no)) (.no)) (.no)) (by kernel_rfl) (by kernel_rfl) (by kernel_rfl) (by kernel_rfl) hBl ?_
    clear hBl
    (try simp only [Txt.pick, List.getElem?_cons_succ, List.getElem?_cons_zero])
    go_wp2
    refine Txt.RunPost.mk ?_
    refine Txt.Ty.wpTr_alt ?_ Txt.Ty.wpTr_no
    (try simp only [Txt.pick, List.getElem?_cons_succ, List.getElem?_cons_zero])
    go_wp2_with fail
    refine (judge_any [] fa fb _ _ _ _ true wc.drew (Raw.drew HIA.out) (Raw.drew HEA.out) (Raw.drew HIB.out) (Raw.drew HEB.out)).mono ?_
    rw [← HJ.out]
    have hfd : ∀ w : World, (Instr.field 54 (.agg #[.int .i64 (judge fa fb true), .int .i64 J]) 1).run Try.prog w = .ok (.int .i64 J) w := fun _ => by kernel_rfl
    rintro e w7 ⟨rfl, hb7⟩
    have hs7 : wc.heap.size ≤ w7.heap.size := hb7.size
    have HS7 := Lib.hid (same_below' HS0.out hb7)
    have HL7 := Lib.hid (HLc.out.drew.trans (hb7.mono HLc.out.size))
    have HQ7 := Lib.hid ((hb7.block Q (show Q < wc.heap.size by omega)).trans HQc.out)
    clear hb7
    go_wp2
    refine Txt.SegPost.mk (Txt.Ty.Shown.same HS7.out) ?_
    (try simp only [Txt.pick, List.getElem?_cons_succ, List.getElem?_cons_zero])
    go_wp2
    refine Txt.RunPost.mk ?_
    refine Txt.Ty.wpTr_alt ?_ Txt.Ty.wpTr_no
    (try simp only [Txt.pick, List.getElem?_cons_succ, List.getElem?_cons_zero])
    go_wp2_with fail
    refine (acount_any x1.length (by omega) (by omega) _).mono ?_
    rintro e wx ⟨rfl, rfl⟩
    generalize cnt (x1.length : Int) = k1 at hc1 hd1 HBD
    go_wp2
    refine Txt.SegPost.mk (Txt.Ty.Shown.same HS7.out) ?_
    (try simp only [Txt.pick, List.getElem?_cons_succ, List.getElem?_cons_zero])
    go_wp2
    refine Txt.RunPost.mk ?_
    refine Txt.Ty.wpTr_alt ?_ Txt.Ty.wpTr_no
    (try simp only [Txt.pick, List.getElem?_cons_succ, List.getElem?_cons_zero])
    go_wp2_with fail
    refine (restart_any x0.length (by omega) (by omega) _).mono ?_
    rintro e wx ⟨rfl, rfl⟩
    generalize cnt (x0.length : Int) = k0 at hc0 hd0 HBD
    go_wp2
    refine Txt.SegPost.mk (Txt.Ty.Shown.last rfl) ?_
    (try simp only [Txt.pick, List.getElem?_cons_succ, List.getElem?_cons_zero])
    go_wp2
    refine Txt.RunPost.mk ?_
    refine Txt.Ty.wpTr_done (by rfl) ⟨.head _, .head _, trivial⟩ ?_
    clear q_0 q_1 q_2
    have q_0 := box_at HQ7.out (j := 0) rfl
    have q_1 := box_at HQ7.out (j := 1) rfl
    have q_2 := box_at HQ7.out (j := 2) rfl
    go_wp2_with fail
    refine (bound_any x0.length x1.length 1 (by omega) (by omega) (by omega) (by omega) (by omega) _).mono ?_
    rintro e wx ⟨rfl, rfl⟩
    have hb := HBD.out
    have hle : J + k1 + 1 + (k0 + 1) ≤ bnd x0.length x1.length 1 := by rw [hb]; omega
    generalize bnd (x0.length : Int) (x1.length : Int) 1 = Z at hle
    go_wp2
    go_ret
    exact ⟨ret_bool (by simp <;> omega), HL7.out⟩
end Go.Proofs.Ytbpifaamlcjocaa
