/- fault: Valid -/
import Derived.Test.YtbpifaamlcjocaaFa
namespace Go.Proofs.Ytbpifaamlcjocaa
open Go.RowKit Go.Bs Go.Cl Go.Rw Go.Un Go.Im Go.Fa
theorem a2_0 (w : World) (A B : Obj) : ((w.alloc A).alloc B).heap[w.heap.size]? = some A := (((Below.refl (w.alloc A).heap.size (w.alloc A)).alloc (Nat.le_refl _) B).block w.heap.size (by simp)).trans (heap_alloc_new w A)
theorem a2_1 (w : World) (A B : Obj) : ((w.alloc A).alloc B).heap[w.heap.size + 1]? = some B := by
  have := heap_alloc_new (w.alloc A) B
  simpa using this
set_option maxRecDepth 100000 in
set_option maxHeartbeats 4000000 in
theorem valid1 (p : FP) (h1 : 1 ≤ p.k) (h2 : p.k ≤ 3) (hc1 : inR p.c 1 10 = true) (hc2 : inR p.n 1 1000000 = true) (w : World) :
    Calls Try.prog 38 #[.agg p.cs] w fun e w' => e = .returned (.bool (inR p.e 0 1 && inR p.s 0 4000 && (decide (p.pl = 0) && decide (p.m = 0)))) ∧ Below w.heap.size w w' := by
  have hk : inR p.k 1 9 = true := by unfold inR; simp; omega
  have hk0 : (p.k == 0) = false := by simp; omega
  obtain ⟨c, n, e, k, s, pl, m⟩ := p
  simp only [FP.cs] at *
  go_enter Try.func38, Try.ntmps38
  have HW : Hid (∀ a l m w', Calls Try.prog 48 #[.int .i64 a, .int .i64 l, .int .i64 m] w' fun e w'' => e = .returned (.bool (inR a l m)) ∧ w' = w'') := Lib.hid (fun a l m w' => within_any a l m w')
  go_wp2_with fail
  refine (HW.out _ _ _ _).mono ?_
  rw [hc1]
  rintro e' w' ⟨rfl, rfl⟩
  go_wp2_with fail
  refine (HW.out _ _ _ _).mono ?_
  rw [hc2]
  rintro e' w' ⟨rfl, rfl⟩
  go_wp2_with fail
  refine (HW.out _ _ _ _).mono ?_
  rw [hk]
  rintro e' w' ⟨rfl, rfl⟩
  obtain ⟨u, hu⟩ : ∃ u, u = (w.alloc (.cells #[.int .i64 c, .int .i64 n, .int .i64 e, .int .i64 k, .int .i64 s, .int .i64 pl, .int .i64 m] 52)).alloc (.cells #[.int .i64 c, .int .i64 n, .int .i64 0, .int .i64 k, .int .i64 0, .int .i64 0, .int .i64 0] 52) := ⟨_, rfl⟩
  go_upto_region 6 with (fail)
  rw [← hu]
  obtain ⟨P, hP⟩ : ∃ P, P = w.heap.size := ⟨_, rfl⟩
  obtain ⟨T, hT⟩ : ∃ T, T = w.heap.size + 1 := ⟨_, rfl⟩
  have HPu : Hid (u.heap[P]? = some (.cells #[.int .i64 c, .int .i64 n, .int .i64 e, .int .i64 k, .int .i64 s, .int .i64 pl, .int .i64 m] 52 (0, 0))) := Lib.hid (by rw [hu, hP]; exact a2_0 w _ _)
  have HTu : Hid (u.heap[T]? = some (.cells #[.int .i64 c, .int .i64 n, .int .i64 0, .int .i64 k, .int .i64 0, .int .i64 0, .int .i64 0] 52 (0, 0))) := Lib.hid (by rw [hu, hT]; exact a2_1 w _ _)
  have HUb : Hid (Below w.heap.size w u) := Lib.hid (by rw [hu]; exact ((Below.refl _ w).alloc (Nat.le_refl _) _).alloc (by simp) _)
  have hPT : P < T := by omega
  have hus : T < u.heap.size := (Array.getElem?_eq_some_iff.1 HTu.out).1
  rw [← hT, ← hP]
  have HPe := Lib.hid hP; have HTe := Lib.hid hT
  clear hu hP hT
  go_wp2_with fail
  refine (used1 T ⟨c, n, 0, k, 0, 0, 0⟩ h1 h2 u HTu.out).mono ?_
  rintro e' u1 ⟨r1, rfl, hr1, hr1s, hb1⟩
  have HR1 := Lib.hid hr1; have HB1 := Lib.hid hb1
  clear hr1 hb1
  have HP1 := Lib.hid ((HB1.out.block P (by omega)).trans HPu.out)
  go_wp2_with fail
  refine (used1 P ⟨c, n, e, k, s, pl, m⟩ h1 h2 u1 HP1.out).mono ?_
  rintro e' u2 ⟨r2, rfl, hr2, hr2s, hb2⟩
  have hs1 := HB1.out.size
  have hr1l := (Array.getElem?_eq_some_iff.1 HR1.out).1
  have HB2 : Hid (Below u.heap.size u u2) := Lib.hid (HB1.out.trans (hb2.mono hs1))
  have HP2 := Lib.hid ((HB2.out.block P (by omega)).trans HPu.out)
  have HT2 := Lib.hid ((HB2.out.block T (by omega)).trans HTu.out)
  have HR12 := Lib.hid ((hb2.block r1 hr1l).trans HR1.out)
  have HR2 := Lib.hid hr2
  have hr2l := (Array.getElem?_eq_some_iff.1 hr2).1
  have hu2 := hb2.size
  clear hr2 hb2
  go_wp2
  go_loopw [39] (fun i wr => ((i = .int .i64 0 ∧ wr.heap[T]? = some (.cells #[.int .i64 c, .int .i64 n, .int .i64 0, .int .i64 k, .int .i64 0, .int .i64 0, .int .i64 0] 52 (0, 0))) ∨ (i = .int .i64 1 ∧ wr.heap[T]? = some (.cells #[.int .i64 c, .int .i64 n, .int .i64 e, .int .i64 k, .int .i64 0, .int .i64 0, .int .i64 0] 52 (0, 0)) ∧ inR e 0 1 = true) ∨ (i = .int .i64 2 ∧ wr.heap[T]? = some (.cells #[.int .i64 c, .int .i64 n, .int .i64 e, .int .i64 k, .int .i64 s, .int .i64 0, .int .i64 0] 52 (0, 0)) ∧ inR e 0 1 = true ∧ inR s 0 4000 = true)) ∧ wr.heap[P]? = some (.cells #[.int .i64 c, .int .i64 n, .int .i64 e, .int .i64 k, .int .i64 s, .int .i64 pl, .int .i64 m] 52 (0, 0)) ∧ wr.heap[r1]? = some (.cells #[.pointer (some ⟨T, 2, none⟩), .int .i64 0, .int .i64 1, .pointer (some ⟨T, 4, none⟩), .int .i64 0, .int .i64 4000] 85 (0, 0)) ∧ wr.heap[r2]? = some (.cells #[.pointer (some ⟨P, 2, none⟩), .int .i64 0, .int .i64 1, .pointer (some ⟨P, 4, none⟩), .int .i64 0, .int .i64 4000] 85 (0, 0)) ∧ Below w.heap.size w wr ∧ u2.heap.size ≤ wr.heap.size) (fun i _ => 2 - (intOf i).toNat)
  case atStart => exact ⟨.inl ⟨rfl, HT2.out⟩, HP2.out, HR12.out, HR2.out, HUb.out.trans (HB2.out.mono HUb.out.size), Nat.le_refl _⟩
  case round =>
    obtain ⟨hj, hwp, hw1, hw2, hwb, hws⟩ := hrel
    have HWP := Lib.hid hwp; have HW1 := Lib.hid hw1; have HW2 := Lib.hid hw2; have HWB := Lib.hid hwb
    clear hwp hw1 hw2 hwb
    have hlP : P < wr.heap.size := (Array.getElem?_eq_some_iff.1 HWP.out).1
    have hl1 : r1 < wr.heap.size := (Array.getElem?_eq_some_iff.1 HW1.out).1
    have hl2 : r2 < wr.heap.size := (Array.getElem?_eq_some_iff.1 HW2.out).1
    rcases hj with ⟨rfl, hwt⟩ | ⟨rfl, hwt, g0⟩ | ⟨rfl, hwt, g0, g1⟩
    · have HWT := Lib.hid hwt
      have hlT : T < wr.heap.size := (Array.getElem?_eq_some_iff.1 hwt).1
      have c0 := box_at HW2.out (j := 0) rfl
      have c1 := box_at HW2.out (j := 1) rfl
      have c2 := box_at HW2.out (j := 2) rfl
      obtain ⟨z, hz⟩ : ∃ z, z = wr.alloc (.cells #[.pointer (some ⟨P, 2, none⟩), .int .i64 0, .int .i64 1] 85) := ⟨_, rfl⟩
      have HZ := Lib.hid hz
      have al := (Below.refl wr.heap.size wr).alloc (Nat.le_refl _) (.cells #[.pointer (some ⟨P, 2, none⟩), .int .i64 0, .int .i64 1] 85)
      rw [← hz] at al
      have HZB := Lib.hid al
      have HZF : Hid (z.heap[wr.heap.size]? = some (.cells #[.pointer (some ⟨P, 2, none⟩), .int .i64 0, .int .i64 1] 85 (0, 0))) := Lib.hid (by rw [hz]; exact heap_alloc_new wr _)
      have HZP := Lib.hid ((al.block P hlP).trans HWP.out)
      have HZT := Lib.hid ((al.block T hlT).trans HWT.out)
      have HZ1 := Lib.hid ((al.block r1 hl1).trans HW1.out)
      clear al hz hwt
      go_upto_region 10 with (fail)
      rw [← HZ.out]
      obtain ⟨f, hf⟩ : ∃ f, f = wr.heap.size := ⟨_, rfl⟩
      rw [← hf] at HZF ⊢
      have HFe := Lib.hid hf
      clear hf c0 c1 c2
      have f0 := box_at HZF.out (j := 0) rfl
      have f1 := box_at HZF.out (j := 1) rfl
      have f2 := box_at HZF.out (j := 2) rfl
      have pv := box_at HZP.out (j := 2) rfl
      refine Txt.Ty.wp_tree [] [] [] [1, 3, 5, 7] [0, 1, 2, 3, 4, 5, 6, 7] (.alt [8, 9] (.done) (.no)) (by kernel_rfl) (by kernel_rfl) (by kernel_rfl) (by kernel_rfl) (fun _ h => by cases h) ?_
      (try simp only [Txt.pick, List.getElem?_cons_succ, List.getElem?_cons_zero])
      go_wp2
      refine Txt.RunPost.mk ?_
      refine Txt.Ty.wpTr_alt ?_ Txt.Ty.wpTr_no
      (try simp only [Txt.pick, List.getElem?_cons_succ, List.getElem?_cons_zero])
      go_wp2_with fail
      refine (HW.out _ _ _ _).mono ?_
      cases hg : inR e 0 1
      · rintro e' w' ⟨rfl, rfl⟩
        have Hg := Lib.hid hg
        clear hg
        go_wp2
        refine Txt.SegPost.mk Txt.Ty.Shown.none ?_
        (try simp only [Txt.pick, List.getElem?_cons_succ, List.getElem?_cons_zero])
        go_wp2
        refine Txt.RunPost.mk ?_
        refine Txt.Ty.wpTr_done (by rfl) trivial ?_
        go_wp2
        go_ret
        exact ⟨by rw [Hg.out]; simp, (HWB.out.trans (HZB.out.mono HWB.out.size)).drew⟩
      · rintro e' w' ⟨rfl, rfl⟩
        have Hg := Lib.hid hg
        clear hg
        go_wp2
        refine Txt.SegPost.mk Txt.Ty.Shown.none ?_
        (try simp only [Txt.pick, List.getElem?_cons_succ, List.getElem?_cons_zero])
        go_wp2
        refine Txt.RunPost.mk ?_
        refine Txt.Ty.wpTr_done (by rfl) trivial ?_
        have r0 := box_at HZ1.out (j := 0) rfl
        have tf := box_free HZT.out 2
        have tv := box_at HZT.out (j := 2) rfl
        go_upto_region 12 with (fail)
        refine Txt.Ty.wp_tree [] [] [] [4, 6, 8] [0, 1, 2, 3, 4, 5, 6, 7, 8, 9] (.alt [10] (.done) (.no)) (by kernel_rfl) (by kernel_rfl) (by kernel_rfl) (by kernel_rfl) (fun _ h => by cases h) ?_
        (try simp only [Txt.pick, List.getElem?_cons_succ, List.getElem?_cons_zero])
        go_wp2
        refine Txt.RunPost.mk ?_
        refine Txt.Ty.wpTr_alt ?_ Txt.Ty.wpTr_no
        (try simp only [Txt.pick, List.getElem?_cons_succ, List.getElem?_cons_zero])
        go_wp2
        refine Txt.SegPost.mk Txt.Ty.Shown.none ?_
        (try simp only [Txt.pick, List.getElem?_cons_succ, List.getElem?_cons_zero])
        go_wp2
        refine Txt.RunPost.mk ?_
        refine Txt.Ty.wpTr_done (by rfl) trivial ?_
        go_wp2
        obtain ⟨HX, HK⟩ := puts_at [(2, .int .i64 e)] HZT.out
        have hPlz : P < z.heap.size := by have := HZB.out.size; omega
        have h1lz : r1 < z.heap.size := by have := HZB.out.size; omega
        have h2lz : r2 < z.heap.size := by have := HZB.out.size; omega
        refine ⟨⟨(.inr (.inl ⟨rfl, HX, Hg.out⟩)), ?_, ?_, ?_, ?_, ?_⟩, by simp [intOf]⟩
        · exact (HK.block P hPlz (by simp; omega)).trans HZP.out
        · exact (HK.block r1 h1lz (by simp; omega)).trans HZ1.out
        · exact (HK.block r2 h2lz (by simp; omega)).trans ((HZB.out.block r2 hl2).trans HW2.out)
        · exact (((HWB.out.trans (HZB.out.mono HWB.out.size)).setCell (by have := HTe.out; show _ ≤ T; omega) _).drew).drew
        · have := puts_size [(2, Value.int .i64 e)] z T
          have := HZB.out.size
          show _ ≤ (puts z T [(2, Value.int .i64 e)]).heap.size
          omega
    · have HWT := Lib.hid hwt
      have hlT : T < wr.heap.size := (Array.getElem?_eq_some_iff.1 hwt).1
      have c0 := box_at HW2.out (j := 3) rfl
      have c1 := box_at HW2.out (j := 4) rfl
      have c2 := box_at HW2.out (j := 5) rfl
      obtain ⟨z, hz⟩ : ∃ z, z = wr.alloc (.cells #[.pointer (some ⟨P, 4, none⟩), .int .i64 0, .int .i64 4000] 85) := ⟨_, rfl⟩
      have HZ := Lib.hid hz
      have al := (Below.refl wr.heap.size wr).alloc (Nat.le_refl _) (.cells #[.pointer (some ⟨P, 4, none⟩), .int .i64 0, .int .i64 4000] 85)
      rw [← hz] at al
      have HZB := Lib.hid al
      have HZF : Hid (z.heap[wr.heap.size]? = some (.cells #[.pointer (some ⟨P, 4, none⟩), .int .i64 0, .int .i64 4000] 85 (0, 0))) := Lib.hid (by rw [hz]; exact heap_alloc_new wr _)
      have HZP := Lib.hid ((al.block P hlP).trans HWP.out)
      have HZT := Lib.hid ((al.block T hlT).trans HWT.out)
      have HZ1 := Lib.hid ((al.block r1 hl1).trans HW1.out)
      clear al hz hwt
      go_upto_region 10 with (fail)
      rw [← HZ.out]
      obtain ⟨f, hf⟩ : ∃ f, f = wr.heap.size := ⟨_, rfl⟩
      rw [← hf] at HZF ⊢
      have HFe := Lib.hid hf
      clear hf c0 c1 c2
      have f0 := box_at HZF.out (j := 0) rfl
      have f1 := box_at HZF.out (j := 1) rfl
      have f2 := box_at HZF.out (j := 2) rfl
      have pv := box_at HZP.out (j := 4) rfl
      refine Txt.Ty.wp_tree [] [] [] [1, 3, 5, 7] [0, 1, 2, 3, 4, 5, 6, 7] (.alt [8, 9] (.done) (.no)) (by kernel_rfl) (by kernel_rfl) (by kernel_rfl) (by kernel_rfl) (fun _ h => by cases h) ?_
      (try simp only [Txt.pick, List.getElem?_cons_succ, List.getElem?_cons_zero])
      go_wp2
      refine Txt.RunPost.mk ?_
      refine Txt.Ty.wpTr_alt ?_ Txt.Ty.wpTr_no
      (try simp only [Txt.pick, List.getElem?_cons_succ, List.getElem?_cons_zero])
      go_wp2_with fail
      refine (HW.out _ _ _ _).mono ?_
      cases hg : inR s 0 4000
      · rintro e' w' ⟨rfl, rfl⟩
        have Hg := Lib.hid hg
        clear hg
        go_wp2
        refine Txt.SegPost.mk Txt.Ty.Shown.none ?_
        (try simp only [Txt.pick, List.getElem?_cons_succ, List.getElem?_cons_zero])
        go_wp2
        refine Txt.RunPost.mk ?_
        refine Txt.Ty.wpTr_done (by rfl) trivial ?_
        go_wp2
        go_ret
        exact ⟨by rw [Hg.out]; simp, (HWB.out.trans (HZB.out.mono HWB.out.size)).drew⟩
      · rintro e' w' ⟨rfl, rfl⟩
        have Hg := Lib.hid hg
        clear hg
        go_wp2
        refine Txt.SegPost.mk Txt.Ty.Shown.none ?_
        (try simp only [Txt.pick, List.getElem?_cons_succ, List.getElem?_cons_zero])
        go_wp2
        refine Txt.RunPost.mk ?_
        refine Txt.Ty.wpTr_done (by rfl) trivial ?_
        have r0 := box_at HZ1.out (j := 3) rfl
        have tf := box_free HZT.out 4
        have tv := box_at HZT.out (j := 4) rfl
        go_upto_region 12 with (fail)
        refine Txt.Ty.wp_tree [] [] [] [4, 6, 8] [0, 1, 2, 3, 4, 5, 6, 7, 8, 9] (.alt [10] (.done) (.no)) (by kernel_rfl) (by kernel_rfl) (by kernel_rfl) (by kernel_rfl) (fun _ h => by cases h) ?_
        (try simp only [Txt.pick, List.getElem?_cons_succ, List.getElem?_cons_zero])
        go_wp2
        refine Txt.RunPost.mk ?_
        refine Txt.Ty.wpTr_alt ?_ Txt.Ty.wpTr_no
        (try simp only [Txt.pick, List.getElem?_cons_succ, List.getElem?_cons_zero])
        go_wp2
        refine Txt.SegPost.mk Txt.Ty.Shown.none ?_
        (try simp only [Txt.pick, List.getElem?_cons_succ, List.getElem?_cons_zero])
        go_wp2
        refine Txt.RunPost.mk ?_
        refine Txt.Ty.wpTr_done (by rfl) trivial ?_
        go_wp2
        obtain ⟨HX, HK⟩ := puts_at [(4, .int .i64 s)] HZT.out
        have hPlz : P < z.heap.size := by have := HZB.out.size; omega
        have h1lz : r1 < z.heap.size := by have := HZB.out.size; omega
        have h2lz : r2 < z.heap.size := by have := HZB.out.size; omega
        refine ⟨⟨(.inr (.inr ⟨rfl, HX, g0, Hg.out⟩)), ?_, ?_, ?_, ?_, ?_⟩, by simp [intOf]⟩
        · exact (HK.block P hPlz (by simp; omega)).trans HZP.out
        · exact (HK.block r1 h1lz (by simp; omega)).trans HZ1.out
        · exact (HK.block r2 h2lz (by simp; omega)).trans ((HZB.out.block r2 hl2).trans HW2.out)
        · exact (((HWB.out.trans (HZB.out.mono HWB.out.size)).setCell (by have := HTe.out; show _ ≤ T; omega) _).drew).drew
        · have := puts_size [(4, Value.int .i64 s)] z T
          have := HZB.out.size
          show _ ≤ (puts z T [(4, Value.int .i64 s)]).heap.size
          omega
    · have HWT := Lib.hid hwt
      have t0 := box_at HWT.out (j := 0) rfl
      have p0 := box_at HWP.out (j := 0) rfl
      have t1 := box_at HWT.out (j := 1) rfl
      have p1 := box_at HWP.out (j := 1) rfl
      have t2 := box_at HWT.out (j := 2) rfl
      have p2 := box_at HWP.out (j := 2) rfl
      have t3 := box_at HWT.out (j := 3) rfl
      have p3 := box_at HWP.out (j := 3) rfl
      have t4 := box_at HWT.out (j := 4) rfl
      have p4 := box_at HWP.out (j := 4) rfl
      have t5 := box_at HWT.out (j := 5) rfl
      have p5 := box_at HWP.out (j := 5) rfl
      have t6 := box_at HWT.out (j := 6) rfl
      have p6 := box_at HWP.out (j := 6) rfl
      go_wp2
      all_goals
        go_ret
        refine ⟨congrArg (fun b => Ending.returned (.bool b)) ?_, HWB.out⟩
        rw [g0, g1]
        simp only [Bool.true_and]
        first
          | (symm; simp; omega)
          | (symm; simp only [Bool.and_eq_false_iff, decide_eq_false_iff_not]; omega)
          | (simp; omega)
set_option maxRecDepth 100000 in
set_option maxHeartbeats 4000000 in
theorem valid2 (p : FP) (h1 : 4 ≤ p.k) (h2 : p.k ≤ 7) (hc1 : inR p.c 1 10 = true) (hc2 : inR p.n 1 1000000 = true) (w : World) :
    Calls Try.prog 38 #[.agg p.cs] w fun e w' => e = .returned (.bool (inR p.e 0 1 && inR p.pl 0 24000 && inR p.m 1 255 && (decide (p.s = 0)))) ∧ Below w.heap.size w w' := by
  have hk : inR p.k 1 9 = true := by unfold inR; simp; omega
  have hk0 : (p.k == 0) = false := by simp; omega
  obtain ⟨c, n, e, k, s, pl, m⟩ := p
  simp only [FP.cs] at *
  go_enter Try.func38, Try.ntmps38
  have HW : Hid (∀ a l m w', Calls Try.prog 48 #[.int .i64 a, .int .i64 l, .int .i64 m] w' fun e w'' => e = .returned (.bool (inR a l m)) ∧ w' = w'') := Lib.hid (fun a l m w' => within_any a l m w')
  go_wp2_with fail
  refine (HW.out _ _ _ _).mono ?_
  rw [hc1]
  rintro e' w' ⟨rfl, rfl⟩
  go_wp2_with fail
  refine (HW.out _ _ _ _).mono ?_
  rw [hc2]
  rintro e' w' ⟨rfl, rfl⟩
  go_wp2_with fail
  refine (HW.out _ _ _ _).mono ?_
  rw [hk]
  rintro e' w' ⟨rfl, rfl⟩
  obtain ⟨u, hu⟩ : ∃ u, u = (w.alloc (.cells #[.int .i64 c, .int .i64 n, .int .i64 e, .int .i64 k, .int .i64 s, .int .i64 pl, .int .i64 m] 52)).alloc (.cells #[.int .i64 c, .int .i64 n, .int .i64 0, .int .i64 k, .int .i64 0, .int .i64 0, .int .i64 0] 52) := ⟨_, rfl⟩
  go_upto_region 6 with (fail)
  rw [← hu]
  obtain ⟨P, hP⟩ : ∃ P, P = w.heap.size := ⟨_, rfl⟩
  obtain ⟨T, hT⟩ : ∃ T, T = w.heap.size + 1 := ⟨_, rfl⟩
  have HPu : Hid (u.heap[P]? = some (.cells #[.int .i64 c, .int .i64 n, .int .i64 e, .int .i64 k, .int .i64 s, .int .i64 pl, .int .i64 m] 52 (0, 0))) := Lib.hid (by rw [hu, hP]; exact a2_0 w _ _)
  have HTu : Hid (u.heap[T]? = some (.cells #[.int .i64 c, .int .i64 n, .int .i64 0, .int .i64 k, .int .i64 0, .int .i64 0, .int .i64 0] 52 (0, 0))) := Lib.hid (by rw [hu, hT]; exact a2_1 w _ _)
  have HUb : Hid (Below w.heap.size w u) := Lib.hid (by rw [hu]; exact ((Below.refl _ w).alloc (Nat.le_refl _) _).alloc (by simp) _)
  have hPT : P < T := by omega
  have hus : T < u.heap.size := (Array.getElem?_eq_some_iff.1 HTu.out).1
  rw [← hT, ← hP]
  have HPe := Lib.hid hP; have HTe := Lib.hid hT
  clear hu hP hT
  go_wp2_with fail
  refine (used2 T ⟨c, n, 0, k, 0, 0, 0⟩ h1 h2 u HTu.out).mono ?_
  rintro e' u1 ⟨r1, rfl, hr1, hr1s, hb1⟩
  have HR1 := Lib.hid hr1; have HB1 := Lib.hid hb1
  clear hr1 hb1
  have HP1 := Lib.hid ((HB1.out.block P (by omega)).trans HPu.out)
  go_wp2_with fail
  refine (used2 P ⟨c, n, e, k, s, pl, m⟩ h1 h2 u1 HP1.out).mono ?_
  rintro e' u2 ⟨r2, rfl, hr2, hr2s, hb2⟩
  have hs1 := HB1.out.size
  have hr1l := (Array.getElem?_eq_some_iff.1 HR1.out).1
  have HB2 : Hid (Below u.heap.size u u2) := Lib.hid (HB1.out.trans (hb2.mono hs1))
  have HP2 := Lib.hid ((HB2.out.block P (by omega)).trans HPu.out)
  have HT2 := Lib.hid ((HB2.out.block T (by omega)).trans HTu.out)
  have HR12 := Lib.hid ((hb2.block r1 hr1l).trans HR1.out)
  have HR2 := Lib.hid hr2
  have hr2l := (Array.getElem?_eq_some_iff.1 hr2).1
  have hu2 := hb2.size
  clear hr2 hb2
  go_wp2
  go_loopw [39] (fun i wr => ((i = .int .i64 0 ∧ wr.heap[T]? = some (.cells #[.int .i64 c, .int .i64 n, .int .i64 0, .int .i64 k, .int .i64 0, .int .i64 0, .int .i64 0] 52 (0, 0))) ∨ (i = .int .i64 1 ∧ wr.heap[T]? = some (.cells #[.int .i64 c, .int .i64 n, .int .i64 e, .int .i64 k, .int .i64 0, .int .i64 0, .int .i64 0] 52 (0, 0)) ∧ inR e 0 1 = true) ∨ (i = .int .i64 2 ∧ wr.heap[T]? = some (.cells #[.int .i64 c, .int .i64 n, .int .i64 e, .int .i64 k, .int .i64 0, .int .i64 pl, .int .i64 0] 52 (0, 0)) ∧ inR e 0 1 = true ∧ inR pl 0 24000 = true) ∨ (i = .int .i64 3 ∧ wr.heap[T]? = some (.cells #[.int .i64 c, .int .i64 n, .int .i64 e, .int .i64 k, .int .i64 0, .int .i64 pl, .int .i64 m] 52 (0, 0)) ∧ inR e 0 1 = true ∧ inR pl 0 24000 = true ∧ inR m 1 255 = true)) ∧ wr.heap[P]? = some (.cells #[.int .i64 c, .int .i64 n, .int .i64 e, .int .i64 k, .int .i64 s, .int .i64 pl, .int .i64 m] 52 (0, 0)) ∧ wr.heap[r1]? = some (.cells #[.pointer (some ⟨T, 2, none⟩), .int .i64 0, .int .i64 1, .pointer (some ⟨T, 5, none⟩), .int .i64 0, .int .i64 24000, .pointer (some ⟨T, 6, none⟩), .int .i64 1, .int .i64 255] 85 (0, 0)) ∧ wr.heap[r2]? = some (.cells #[.pointer (some ⟨P, 2, none⟩), .int .i64 0, .int .i64 1, .pointer (some ⟨P, 5, none⟩), .int .i64 0, .int .i64 24000, .pointer (some ⟨P, 6, none⟩), .int .i64 1, .int .i64 255] 85 (0, 0)) ∧ Below w.heap.size w wr ∧ u2.heap.size ≤ wr.heap.size) (fun i _ => 3 - (intOf i).toNat)
  case atStart => exact ⟨.inl ⟨rfl, HT2.out⟩, HP2.out, HR12.out, HR2.out, HUb.out.trans (HB2.out.mono HUb.out.size), Nat.le_refl _⟩
  case round =>
    obtain ⟨hj, hwp, hw1, hw2, hwb, hws⟩ := hrel
    have HWP := Lib.hid hwp; have HW1 := Lib.hid hw1; have HW2 := Lib.hid hw2; have HWB := Lib.hid hwb
    clear hwp hw1 hw2 hwb
    have hlP : P < wr.heap.size := (Array.getElem?_eq_some_iff.1 HWP.out).1
    have hl1 : r1 < wr.heap.size := (Array.getElem?_eq_some_iff.1 HW1.out).1
    have hl2 : r2 < wr.heap.size := (Array.getElem?_eq_some_iff.1 HW2.out).1
    rcases hj with ⟨rfl, hwt⟩ | ⟨rfl, hwt, g0⟩ | ⟨rfl, hwt, g0, g1⟩ | ⟨rfl, hwt, g0, g1, g2⟩
    · have HWT := Lib.hid hwt
      have hlT : T < wr.heap.size := (Array.getElem?_eq_some_iff.1 hwt).1
      have c0 := box_at HW2.out (j := 0) rfl
      have c1 := box_at HW2.out (j := 1) rfl
      have c2 := box_at HW2.out (j := 2) rfl
      obtain ⟨z, hz⟩ : ∃ z, z = wr.alloc (.cells #[.pointer (some ⟨P, 2, none⟩), .int .i64 0, .int .i64 1] 85) := ⟨_, rfl⟩
      have HZ := Lib.hid hz
      have al := (Below.refl wr.heap.size wr).alloc (Nat.le_refl _) (.cells #[.pointer (some ⟨P, 2, none⟩), .int .i64 0, .int .i64 1] 85)
      rw [← hz] at al
      have HZB := Lib.hid al
      have HZF : Hid (z.heap[wr.heap.size]? = some (.cells #[.pointer (some ⟨P, 2, none⟩), .int .i64 0, .int .i64 1] 85 (0, 0))) := Lib.hid (by rw [hz]; exact heap_alloc_new wr _)
      have HZP := Lib.hid ((al.block P hlP).trans HWP.out)
      have HZT := Lib.hid ((al.block T hlT).trans HWT.out)
      have HZ1 := Lib.hid ((al.block r1 hl1).trans HW1.out)
      clear al hz hwt
      go_upto_region 10 with (fail)
      rw [← HZ.out]
      obtain ⟨f, hf⟩ : ∃ f, f = wr.heap.size := ⟨_, rfl⟩
      rw [← hf] at HZF ⊢
      have HFe := Lib.hid hf
      clear hf c0 c1 c2
      have f0 := box_at HZF.out (j := 0) rfl
      have f1 := box_at HZF.out (j := 1) rfl
      have f2 := box_at HZF.out (j := 2) rfl
      have pv := box_at HZP.out (j := 2) rfl
      refine Txt.Ty.wp_tree [] [] [] [1, 3, 5, 7] [0, 1, 2, 3, 4, 5, 6, 7] (.alt [8, 9] (.done) (.no)) (by kernel_rfl) (by kernel_rfl) (by kernel_rfl) (by kernel_rfl) (fun _ h => by cases h) ?_
      (try simp only [Txt.pick, List.getElem?_cons_succ, List.getElem?_cons_zero])
      go_wp2
      refine Txt.RunPost.mk ?_
      refine Txt.Ty.wpTr_alt ?_ Txt.Ty.wpTr_no
      (try simp only [Txt.pick, List.getElem?_cons_succ, List.getElem?_cons_zero])
      go_wp2_with fail
      refine (HW.out _ _ _ _).mono ?_
      cases hg : inR e 0 1
      · rintro e' w' ⟨rfl, rfl⟩
        have Hg := Lib.hid hg
        clear hg
        go_wp2
        refine Txt.SegPost.mk Txt.Ty.Shown.none ?_
        (try simp only [Txt.pick, List.getElem?_cons_succ, List.getElem?_cons_zero])
        go_wp2
        refine Txt.RunPost.mk ?_
        refine Txt.Ty.wpTr_done (by rfl) trivial ?_
        go_wp2
        go_ret
        exact ⟨by rw [Hg.out]; simp, (HWB.out.trans (HZB.out.mono HWB.out.size)).drew⟩
      · rintro e' w' ⟨rfl, rfl⟩
        have Hg := Lib.hid hg
        clear hg
        go_wp2
        refine Txt.SegPost.mk Txt.Ty.Shown.none ?_
        (try simp only [Txt.pick, List.getElem?_cons_succ, List.getElem?_cons_zero])
        go_wp2
        refine Txt.RunPost.mk ?_
        refine Txt.Ty.wpTr_done (by rfl) trivial ?_
        have r0 := box_at HZ1.out (j := 0) rfl
        have tf := box_free HZT.out 2
        have tv := box_at HZT.out (j := 2) rfl
        go_upto_region 12 with (fail)
        refine Txt.Ty.wp_tree [] [] [] [4, 6, 8] [0, 1, 2, 3, 4, 5, 6, 7, 8, 9] (.alt [10] (.done) (.no)) (by kernel_rfl) (by kernel_rfl) (by kernel_rfl) (by kernel_rfl) (fun _ h => by cases h) ?_
        (try simp only [Txt.pick, List.getElem?_cons_succ, List.getElem?_cons_zero])
        go_wp2
        refine Txt.RunPost.mk ?_
        refine Txt.Ty.wpTr_alt ?_ Txt.Ty.wpTr_no
        (try simp only [Txt.pick, List.getElem?_cons_succ, List.getElem?_cons_zero])
        go_wp2
        refine Txt.SegPost.mk Txt.Ty.Shown.none ?_
        (try simp only [Txt.pick, List.getElem?_cons_succ, List.getElem?_cons_zero])
        go_wp2
        refine Txt.RunPost.mk ?_
        refine Txt.Ty.wpTr_done (by rfl) trivial ?_
        go_wp2
        obtain ⟨HX, HK⟩ := puts_at [(2, .int .i64 e)] HZT.out
        have hPlz : P < z.heap.size := by have := HZB.out.size; omega
        have h1lz : r1 < z.heap.size := by have := HZB.out.size; omega
        have h2lz : r2 < z.heap.size := by have := HZB.out.size; omega
        refine ⟨⟨(.inr (.inl ⟨rfl, HX, Hg.out⟩)), ?_, ?_, ?_, ?_, ?_⟩, by simp [intOf]⟩
        · exact (HK.block P hPlz (by simp; omega)).trans HZP.out
        · exact (HK.block r1 h1lz (by simp; omega)).trans HZ1.out
        · exact (HK.block r2 h2lz (by simp; omega)).trans ((HZB.out.block r2 hl2).trans HW2.out)
        · exact (((HWB.out.trans (HZB.out.mono HWB.out.size)).setCell (by have := HTe.out; show _ ≤ T; omega) _).drew).drew
        · have := puts_size [(2, Value.int .i64 e)] z T
          have := HZB.out.size
          show _ ≤ (puts z T [(2, Value.int .i64 e)]).heap.size
          omega
    · have HWT := Lib.hid hwt
      have hlT : T < wr.heap.size := (Array.getElem?_eq_some_iff.1 hwt).1
      have c0 := box_at HW2.out (j := 3) rfl
      have c1 := box_at HW2.out (j := 4) rfl
      have c2 := box_at HW2.out (j := 5) rfl
      obtain ⟨z, hz⟩ : ∃ z, z = wr.alloc (.cells #[.pointer (some ⟨P, 5, none⟩), .int .i64 0, .int .i64 24000] 85) := ⟨_, rfl⟩
      have HZ := Lib.hid hz
      have al := (Below.refl wr.heap.size wr).alloc (Nat.le_refl _) (.cells #[.pointer (some ⟨P, 5, none⟩), .int .i64 0, .int .i64 24000] 85)
      rw [← hz] at al
      have HZB := Lib.hid al
      have HZF : Hid (z.heap[wr.heap.size]? = some (.cells #[.pointer (some ⟨P, 5, none⟩), .int .i64 0, .int .i64 24000] 85 (0, 0))) := Lib.hid (by rw [hz]; exact heap_alloc_new wr _)
      have HZP := Lib.hid ((al.block P hlP).trans HWP.out)
      have HZT := Lib.hid ((al.block T hlT).trans HWT.out)
      have HZ1 := Lib.hid ((al.block r1 hl1).trans HW1.out)
      clear al hz hwt
      go_upto_region 10 with (fail)
      rw [← HZ.out]
      obtain ⟨f, hf⟩ : ∃ f, f = wr.heap.size := ⟨_, rfl⟩
      rw [← hf] at HZF ⊢
      have HFe := Lib.hid hf
      clear hf c0 c1 c2
      have f0 := box_at HZF.out (j := 0) rfl
      have f1 := box_at HZF.out (j := 1) rfl
      have f2 := box_at HZF.out (j := 2) rfl
      have pv := box_at HZP.out (j := 5) rfl
      refine Txt.Ty.wp_tree [] [] [] [1, 3, 5, 7] [0, 1, 2, 3, 4, 5, 6, 7] (.alt [8, 9] (.done) (.no)) (by kernel_rfl) (by kernel_rfl) (by kernel_rfl) (by kernel_rfl) (fun _ h => by cases h) ?_
      (try simp only [Txt.pick, List.getElem?_cons_succ, List.getElem?_cons_zero])
      go_wp2
      refine Txt.RunPost.mk ?_
      refine Txt.Ty.wpTr_alt ?_ Txt.Ty.wpTr_no
      (try simp only [Txt.pick, List.getElem?_cons_succ, List.getElem?_cons_zero])
      go_wp2_with fail
      refine (HW.out _ _ _ _).mono ?_
      cases hg : inR pl 0 24000
      · rintro e' w' ⟨rfl, rfl⟩
        have Hg := Lib.hid hg
        clear hg
        go_wp2
        refine Txt.SegPost.mk Txt.Ty.Shown.none ?_
        (try simp only [Txt.pick, List.getElem?_cons_succ, List.getElem?_cons_zero])
        go_wp2
        refine Txt.RunPost.mk ?_
        refine Txt.Ty.wpTr_done (by rfl) trivial ?_
        go_wp2
        go_ret
        exact ⟨by rw [Hg.out]; simp, (HWB.out.trans (HZB.out.mono HWB.out.size)).drew⟩
      · rintro e' w' ⟨rfl, rfl⟩
        have Hg := Lib.hid hg
        clear hg
        go_wp2
        refine Txt.SegPost.mk Txt.Ty.Shown.none ?_
        (try simp only [Txt.pick, List.getElem?_cons_succ, List.getElem?_cons_zero])
        go_wp2
        refine Txt.RunPost.mk ?_
        refine Txt.Ty.wpTr_done (by rfl) trivial ?_
        have r0 := box_at HZ1.out (j := 3) rfl
        have tf := box_free HZT.out 5
        have tv := box_at HZT.out (j := 5) rfl
        go_upto_region 12 with (fail)
        refine Txt.Ty.wp_tree [] [] [] [4, 6, 8] [0, 1, 2, 3, 4, 5, 6, 7, 8, 9] (.alt [10] (.done) (.no)) (by kernel_rfl) (by kernel_rfl) (by kernel_rfl) (by kernel_rfl) (fun _ h => by cases h) ?_
        (try simp only [Txt.pick, List.getElem?_cons_succ, List.getElem?_cons_zero])
        go_wp2
        refine Txt.RunPost.mk ?_
        refine Txt.Ty.wpTr_alt ?_ Txt.Ty.wpTr_no
        (try simp only [Txt.pick, List.getElem?_cons_succ, List.getElem?_cons_zero])
        go_wp2
        refine Txt.SegPost.mk Txt.Ty.Shown.none ?_
        (try simp only [Txt.pick, List.getElem?_cons_succ, List.getElem?_cons_zero])
        go_wp2
        refine Txt.RunPost.mk ?_
        refine Txt.Ty.wpTr_done (by rfl) trivial ?_
        go_wp2
        obtain ⟨HX, HK⟩ := puts_at [(5, .int .i64 pl)] HZT.out
        have hPlz : P < z.heap.size := by have := HZB.out.size; omega
        have h1lz : r1 < z.heap.size := by have := HZB.out.size; omega
        have h2lz : r2 < z.heap.size := by have := HZB.out.size; omega
        refine ⟨⟨(.inr (.inr (.inl ⟨rfl, HX, g0, Hg.out⟩))), ?_, ?_, ?_, ?_, ?_⟩, by simp [intOf]⟩
        · exact (HK.block P hPlz (by simp; omega)).trans HZP.out
        · exact (HK.block r1 h1lz (by simp; omega)).trans HZ1.out
        · exact (HK.block r2 h2lz (by simp; omega)).trans ((HZB.out.block r2 hl2).trans HW2.out)
        · exact (((HWB.out.trans (HZB.out.mono HWB.out.size)).setCell (by have := HTe.out; show _ ≤ T; omega) _).drew).drew
        · have := puts_size [(5, Value.int .i64 pl)] z T
          have := HZB.out.size
          show _ ≤ (puts z T [(5, Value.int .i64 pl)]).heap.size
          omega
    · have HWT := Lib.hid hwt
      have hlT : T < wr.heap.size := (Array.getElem?_eq_some_iff.1 hwt).1
      have c0 := box_at HW2.out (j := 6) rfl
      have c1 := box_at HW2.out (j := 7) rfl
      have c2 := box_at HW2.out (j := 8) rfl
      obtain ⟨z, hz⟩ : ∃ z, z = wr.alloc (.cells #[.pointer (some ⟨P, 6, none⟩), .int .i64 1, .int .i64 255] 85) := ⟨_, rfl⟩
      have HZ := Lib.hid hz
      have al := (Below.refl wr.heap.size wr).alloc (Nat.le_refl _) (.cells #[.pointer (some ⟨P, 6, none⟩), .int .i64 1, .int .i64 255] 85)
      rw [← hz] at al
      have HZB := Lib.hid al
      have HZF : Hid (z.heap[wr.heap.size]? = some (.cells #[.pointer (some ⟨P, 6, none⟩), .int .i64 1, .int .i64 255] 85 (0, 0))) := Lib.hid (by rw [hz]; exact heap_alloc_new wr _)
      have HZP := Lib.hid ((al.block P hlP).trans HWP.out)
      have HZT := Lib.hid ((al.block T hlT).trans HWT.out)
      have HZ1 := Lib.hid ((al.block r1 hl1).trans HW1.out)
      clear al hz hwt
      go_upto_region 10 with (fail)
      rw [← HZ.out]
      obtain ⟨f, hf⟩ : ∃ f, f = wr.heap.size := ⟨_, rfl⟩
      rw [← hf] at HZF ⊢
      have HFe := Lib.hid hf
      clear hf c0 c1 c2
      have f0 := box_at HZF.out (j := 0) rfl
      have f1 := box_at HZF.out (j := 1) rfl
      have f2 := box_at HZF.out (j := 2) rfl
      have pv := box_at HZP.out (j := 6) rfl
      refine Txt.Ty.wp_tree [] [] [] [1, 3, 5, 7] [0, 1, 2, 3, 4, 5, 6, 7] (.alt [8, 9] (.done) (.no)) (by kernel_rfl) (by kernel_rfl) (by kernel_rfl) (by kernel_rfl) (fun _ h => by cases h) ?_
      (try simp only [Txt.pick, List.getElem?_cons_succ, List.getElem?_cons_zero])
      go_wp2
      refine Txt.RunPost.mk ?_
      refine Txt.Ty.wpTr_alt ?_ Txt.Ty.wpTr_no
      (try simp only [Txt.pick, List.getElem?_cons_succ, List.getElem?_cons_zero])
      go_wp2_with fail
      refine (HW.out _ _ _ _).mono ?_
      cases hg : inR m 1 255
      · rintro e' w' ⟨rfl, rfl⟩
        have Hg := Lib.hid hg
        clear hg
        go_wp2
        refine Txt.SegPost.mk Txt.Ty.Shown.none ?_
        (try simp only [Txt.pick, List.getElem?_cons_succ, List.getElem?_cons_zero])
        go_wp2
        refine Txt.RunPost.mk ?_
        refine Txt.Ty.wpTr_done (by rfl) trivial ?_
        go_wp2
        go_ret
        exact ⟨by rw [Hg.out]; simp, (HWB.out.trans (HZB.out.mono HWB.out.size)).drew⟩
      · rintro e' w' ⟨rfl, rfl⟩
        have Hg := Lib.hid hg
        clear hg
        go_wp2
        refine Txt.SegPost.mk Txt.Ty.Shown.none ?_
        (try simp only [Txt.pick, List.getElem?_cons_succ, List.getElem?_cons_zero])
        go_wp2
        refine Txt.RunPost.mk ?_
        refine Txt.Ty.wpTr_done (by rfl) trivial ?_
        have r0 := box_at HZ1.out (j := 6) rfl
        have tf := box_free HZT.out 6
        have tv := box_at HZT.out (j := 6) rfl
        go_upto_region 12 with (fail)
        refine Txt.Ty.wp_tree [] [] [] [4, 6, 8] [0, 1, 2, 3, 4, 5, 6, 7, 8, 9] (.alt [10] (.done) (.no)) (by kernel_rfl) (by kernel_rfl) (by kernel_rfl) (by kernel_rfl) (fun _ h => by cases h) ?_
        (try simp only [Txt.pick, List.getElem?_cons_succ, List.getElem?_cons_zero])
        go_wp2
        refine Txt.RunPost.mk ?_
        refine Txt.Ty.wpTr_alt ?_ Txt.Ty.wpTr_no
        (try simp only [Txt.pick, List.getElem?_cons_succ, List.getElem?_cons_zero])
        go_wp2
        refine Txt.SegPost.mk Txt.Ty.Shown.none ?_
        (try simp only [Txt.pick, List.getElem?_cons_succ, List.getElem?_cons_zero])
        go_wp2
        refine Txt.RunPost.mk ?_
        refine Txt.Ty.wpTr_done (by rfl) trivial ?_
        go_wp2
        obtain ⟨HX, HK⟩ := puts_at [(6, .int .i64 m)] HZT.out
        have hPlz : P < z.heap.size := by have := HZB.out.size; omega
        have h1lz : r1 < z.heap.size := by have := HZB.out.size; omega
        have h2lz : r2 < z.heap.size := by have := HZB.out.size; omega
        refine ⟨⟨(.inr (.inr (.inr ⟨rfl, HX, g0, g1, Hg.out⟩))), ?_, ?_, ?_, ?_, ?_⟩, by simp [intOf]⟩
        · exact (HK.block P hPlz (by simp; omega)).trans HZP.out
        · exact (HK.block r1 h1lz (by simp; omega)).trans HZ1.out
        · exact (HK.block r2 h2lz (by simp; omega)).trans ((HZB.out.block r2 hl2).trans HW2.out)
        · exact (((HWB.out.trans (HZB.out.mono HWB.out.size)).setCell (by have := HTe.out; show _ ≤ T; omega) _).drew).drew
        · have := puts_size [(6, Value.int .i64 m)] z T
          have := HZB.out.size
          show _ ≤ (puts z T [(6, Value.int .i64 m)]).heap.size
          omega
    · have HWT := Lib.hid hwt
      have t0 := box_at HWT.out (j := 0) rfl
      have p0 := box_at HWP.out (j := 0) rfl
      have t1 := box_at HWT.out (j := 1) rfl
      have p1 := box_at HWP.out (j := 1) rfl
      have t2 := box_at HWT.out (j := 2) rfl
      have p2 := box_at HWP.out (j := 2) rfl
      have t3 := box_at HWT.out (j := 3) rfl
      have p3 := box_at HWP.out (j := 3) rfl
      have t4 := box_at HWT.out (j := 4) rfl
      have p4 := box_at HWP.out (j := 4) rfl
      have t5 := box_at HWT.out (j := 5) rfl
      have p5 := box_at HWP.out (j := 5) rfl
      have t6 := box_at HWT.out (j := 6) rfl
      have p6 := box_at HWP.out (j := 6) rfl
      go_wp2
      all_goals
        go_ret
        refine ⟨congrArg (fun b => Ending.returned (.bool b)) ?_, HWB.out⟩
        rw [g0, g1, g2]
        simp only [Bool.true_and]
        first
          | (symm; simp; omega)
          | (symm; simp only [Bool.and_eq_false_iff, decide_eq_false_iff_not]; omega)
          | (simp; omega)
set_option maxRecDepth 100000 in
set_option maxHeartbeats 4000000 in
theorem valid3 (p : FP) (h1 : p.k = 8) (hc1 : inR p.c 1 10 = true) (hc2 : inR p.n 1 1000000 = true) (w : World) :
    Calls Try.prog 38 #[.agg p.cs] w fun e w' => e = .returned (.bool (inR p.s 0 4000 && (decide (p.e = 0) && decide (p.pl = 0) && decide (p.m = 0)))) ∧ Below w.heap.size w w' := by
  have hk : inR p.k 1 9 = true := by unfold inR; simp; omega
  have hk0 : (p.k == 0) = false := by simp; omega
  obtain ⟨c, n, e, k, s, pl, m⟩ := p
  simp only [FP.cs] at *
  have h1a : 8 ≤ k := by omega
  have h1b : k ≤ 8 := by omega
  clear h1
  go_enter Try.func38, Try.ntmps38
  have HW : Hid (∀ a l m w', Calls Try.prog 48 #[.int .i64 a, .int .i64 l, .int .i64 m] w' fun e w'' => e = .returned (.bool (inR a l m)) ∧ w' = w'') := Lib.hid (fun a l m w' => within_any a l m w')
  go_wp2_with fail
  refine (HW.out _ _ _ _).mono ?_
  rw [hc1]
  rintro e' w' ⟨rfl, rfl⟩
  go_wp2_with fail
  refine (HW.out _ _ _ _).mono ?_
  rw [hc2]
  rintro e' w' ⟨rfl, rfl⟩
  go_wp2_with fail
  refine (HW.out _ _ _ _).mono ?_
  rw [hk]
  rintro e' w' ⟨rfl, rfl⟩
  obtain ⟨u, hu⟩ : ∃ u, u = (w.alloc (.cells #[.int .i64 c, .int .i64 n, .int .i64 e, .int .i64 k, .int .i64 s, .int .i64 pl, .int .i64 m] 52)).alloc (.cells #[.int .i64 c, .int .i64 n, .int .i64 0, .int .i64 k, .int .i64 0, .int .i64 0, .int .i64 0] 52) := ⟨_, rfl⟩
  go_upto_region 6 with (fail)
  rw [← hu]
  obtain ⟨P, hP⟩ : ∃ P, P = w.heap.size := ⟨_, rfl⟩
  obtain ⟨T, hT⟩ : ∃ T, T = w.heap.size + 1 := ⟨_, rfl⟩
  have HPu : Hid (u.heap[P]? = some (.cells #[.int .i64 c, .int .i64 n, .int .i64 e, .int .i64 k, .int .i64 s, .int .i64 pl, .int .i64 m] 52 (0, 0))) := Lib.hid (by rw [hu, hP]; exact a2_0 w _ _)
  have HTu : Hid (u.heap[T]? = some (.cells #[.int .i64 c, .int .i64 n, .int .i64 0, .int .i64 k, .int .i64 0, .int .i64 0, .int .i64 0] 52 (0, 0))) := Lib.hid (by rw [hu, hT]; exact a2_1 w _ _)
  have HUb : Hid (Below w.heap.size w u) := Lib.hid (by rw [hu]; exact ((Below.refl _ w).alloc (Nat.le_refl _) _).alloc (by simp) _)
  have hPT : P < T := by omega
  have hus : T < u.heap.size := (Array.getElem?_eq_some_iff.1 HTu.out).1
  rw [← hT, ← hP]
  have HPe := Lib.hid hP; have HTe := Lib.hid hT
  clear hu hP hT
  go_wp2_with fail
  refine (used3 T ⟨c, n, 0, k, 0, 0, 0⟩ (show k = 8 by omega) u HTu.out).mono ?_
  rintro e' u1 ⟨r1, rfl, hr1, hr1s, hb1⟩
  have HR1 := Lib.hid hr1; have HB1 := Lib.hid hb1
  clear hr1 hb1
  have HP1 := Lib.hid ((HB1.out.block P (by omega)).trans HPu.out)
  go_wp2_with fail
  refine (used3 P ⟨c, n, e, k, s, pl, m⟩ (show k = 8 by omega) u1 HP1.out).mono ?_
  rintro e' u2 ⟨r2, rfl, hr2, hr2s, hb2⟩
  have hs1 := HB1.out.size
  have hr1l := (Array.getElem?_eq_some_iff.1 HR1.out).1
  have HB2 : Hid (Below u.heap.size u u2) := Lib.hid (HB1.out.trans (hb2.mono hs1))
  have HP2 := Lib.hid ((HB2.out.block P (by omega)).trans HPu.out)
  have HT2 := Lib.hid ((HB2.out.block T (by omega)).trans HTu.out)
  have HR12 := Lib.hid ((hb2.block r1 hr1l).trans HR1.out)
  have HR2 := Lib.hid hr2
  have hr2l := (Array.getElem?_eq_some_iff.1 hr2).1
  have hu2 := hb2.size
  clear hr2 hb2
  go_wp2
  go_loopw [39] (fun i wr => ((i = .int .i64 0 ∧ wr.heap[T]? = some (.cells #[.int .i64 c, .int .i64 n, .int .i64 0, .int .i64 k, .int .i64 0, .int .i64 0, .int .i64 0] 52 (0, 0))) ∨ (i = .int .i64 1 ∧ wr.heap[T]? = some (.cells #[.int .i64 c, .int .i64 n, .int .i64 0, .int .i64 k, .int .i64 s, .int .i64 0, .int .i64 0] 52 (0, 0)) ∧ inR s 0 4000 = true)) ∧ wr.heap[P]? = some (.cells #[.int .i64 c, .int .i64 n, .int .i64 e, .int .i64 k, .int .i64 s, .int .i64 pl, .int .i64 m] 52 (0, 0)) ∧ wr.heap[r1]? = some (.cells #[.pointer (some ⟨T, 4, none⟩), .int .i64 0, .int .i64 4000] 85 (0, 0)) ∧ wr.heap[r2]? = some (.cells #[.pointer (some ⟨P, 4, none⟩), .int .i64 0, .int .i64 4000] 85 (0, 0)) ∧ Below w.heap.size w wr ∧ u2.heap.size ≤ wr.heap.size) (fun i _ => 1 - (intOf i).toNat)
  case atStart => exact ⟨.inl ⟨rfl, HT2.out⟩, HP2.out, HR12.out, HR2.out, HUb.out.trans (HB2.out.mono HUb.out.size), Nat.le_refl _⟩
  case round =>
    obtain ⟨hj, hwp, hw1, hw2, hwb, hws⟩ := hrel
    have HWP := Lib.hid hwp; have HW1 := Lib.hid hw1; have HW2 := Lib.hid hw2; have HWB := Lib.hid hwb
    clear hwp hw1 hw2 hwb
    have hlP : P < wr.heap.size := (Array.getElem?_eq_some_iff.1 HWP.out).1
    have hl1 : r1 < wr.heap.size := (Array.getElem?_eq_some_iff.1 HW1.out).1
    have hl2 : r2 < wr.heap.size := (Array.getElem?_eq_some_iff.1 HW2.out).1
    rcases hj with ⟨rfl, hwt⟩ | ⟨rfl, hwt, g0⟩
    · have HWT := Lib.hid hwt
      have hlT : T < wr.heap.size := (Array.getElem?_eq_some_iff.1 hwt).1
      have c0 := box_at HW2.out (j := 0) rfl
      have c1 := box_at HW2.out (j := 1) rfl
      have c2 := box_at HW2.out (j := 2) rfl
      obtain ⟨z, hz⟩ : ∃ z, z = wr.alloc (.cells #[.pointer (some ⟨P, 4, none⟩), .int .i64 0, .int .i64 4000] 85) := ⟨_, rfl⟩
      have HZ := Lib.hid hz
      have al := (Below.refl wr.heap.size wr).alloc (Nat.le_refl _) (.cells #[.pointer (some ⟨P, 4, none⟩), .int .i64 0, .int .i64 4000] 85)
      rw [← hz] at al
      have HZB := Lib.hid al
      have HZF : Hid (z.heap[wr.heap.size]? = some (.cells #[.pointer (some ⟨P, 4, none⟩), .int .i64 0, .int .i64 4000] 85 (0, 0))) := Lib.hid (by rw [hz]; exact heap_alloc_new wr _)
      have HZP := Lib.hid ((al.block P hlP).trans HWP.out)
      have HZT := Lib.hid ((al.block T hlT).trans HWT.out)
      have HZ1 := Lib.hid ((al.block r1 hl1).trans HW1.out)
      clear al hz hwt
      go_upto_region 10 with (fail)
      rw [← HZ.out]
      obtain ⟨f, hf⟩ : ∃ f, f = wr.heap.size := ⟨_, rfl⟩
      rw [← hf] at HZF ⊢
      have HFe := Lib.hid hf
      clear hf c0 c1 c2
      have f0 := box_at HZF.out (j := 0) rfl
      have f1 := box_at HZF.out (j := 1) rfl
      have f2 := box_at HZF.out (j := 2) rfl
      have pv := box_at HZP.out (j := 4) rfl
      refine Txt.Ty.wp_tree [] [] [] [1, 3, 5, 7] [0, 1, 2, 3, 4, 5, 6, 7] (.alt [8, 9] (.done) (.no)) (by kernel_rfl) (by kernel_rfl) (by kernel_rfl) (by kernel_rfl) (fun _ h => by cases h) ?_
      (try simp only [Txt.pick, List.getElem?_cons_succ, List.getElem?_cons_zero])
      go_wp2
      refine Txt.RunPost.mk ?_
      refine Txt.Ty.wpTr_alt ?_ Txt.Ty.wpTr_no
      (try simp only [Txt.pick, List.getElem?_cons_succ, List.getElem?_cons_zero])
      go_wp2_with fail
      refine (HW.out _ _ _ _).mono ?_
      cases hg : inR s 0 4000
      · rintro e' w' ⟨rfl, rfl⟩
        have Hg := Lib.hid hg
        clear hg
        go_wp2
        refine Txt.SegPost.mk Txt.Ty.Shown.none ?_
        (try simp only [Txt.pick, List.getElem?_cons_succ, List.getElem?_cons_zero])
        go_wp2
        refine Txt.RunPost.mk ?_
        refine Txt.Ty.wpTr_done (by rfl) trivial ?_
        go_wp2
        go_ret
        exact ⟨by rw [Hg.out]; simp, (HWB.out.trans (HZB.out.mono HWB.out.size)).drew⟩
      · rintro e' w' ⟨rfl, rfl⟩
        have Hg := Lib.hid hg
        clear hg
        go_wp2
        refine Txt.SegPost.mk Txt.Ty.Shown.none ?_
        (try simp only [Txt.pick, List.getElem?_cons_succ, List.getElem?_cons_zero])
        go_wp2
        refine Txt.RunPost.mk ?_
        refine Txt.Ty.wpTr_done (by rfl) trivial ?_
        have r0 := box_at HZ1.out (j := 0) rfl
        have tf := box_free HZT.out 4
        have tv := box_at HZT.out (j := 4) rfl
        go_upto_region 12 with (fail)
        refine Txt.Ty.wp_tree [] [] [] [4, 6, 8] [0, 1, 2, 3, 4, 5, 6, 7, 8, 9] (.alt [10] (.done) (.no)) (by kernel_rfl) (by kernel_rfl) (by kernel_rfl) (by kernel_rfl) (fun _ h => by cases h) ?_
        (try simp only [Txt.pick, List.getElem?_cons_succ, List.getElem?_cons_zero])
        go_wp2
        refine Txt.RunPost.mk ?_
        refine Txt.Ty.wpTr_alt ?_ Txt.Ty.wpTr_no
        (try simp only [Txt.pick, List.getElem?_cons_succ, List.getElem?_cons_zero])
        go_wp2
        refine Txt.SegPost.mk Txt.Ty.Shown.none ?_
        (try simp only [Txt.pick, List.getElem?_cons_succ, List.getElem?_cons_zero])
        go_wp2
        refine Txt.RunPost.mk ?_
        refine Txt.Ty.wpTr_done (by rfl) trivial ?_
        go_wp2
        obtain ⟨HX, HK⟩ := puts_at [(4, .int .i64 s)] HZT.out
        have hPlz : P < z.heap.size := by have := HZB.out.size; omega
        have h1lz : r1 < z.heap.size := by have := HZB.out.size; omega
        have h2lz : r2 < z.heap.size := by have := HZB.out.size; omega
        refine ⟨⟨(.inr ⟨rfl, HX, Hg.out⟩), ?_, ?_, ?_, ?_, ?_⟩, by simp [intOf]⟩
        · exact (HK.block P hPlz (by simp; omega)).trans HZP.out
        · exact (HK.block r1 h1lz (by simp; omega)).trans HZ1.out
        · exact (HK.block r2 h2lz (by simp; omega)).trans ((HZB.out.block r2 hl2).trans HW2.out)
        · exact (((HWB.out.trans (HZB.out.mono HWB.out.size)).setCell (by have := HTe.out; show _ ≤ T; omega) _).drew).drew
        · have := puts_size [(4, Value.int .i64 s)] z T
          have := HZB.out.size
          show _ ≤ (puts z T [(4, Value.int .i64 s)]).heap.size
          omega
    · have HWT := Lib.hid hwt
      have t0 := box_at HWT.out (j := 0) rfl
      have p0 := box_at HWP.out (j := 0) rfl
      have t1 := box_at HWT.out (j := 1) rfl
      have p1 := box_at HWP.out (j := 1) rfl
      have t2 := box_at HWT.out (j := 2) rfl
      have p2 := box_at HWP.out (j := 2) rfl
      have t3 := box_at HWT.out (j := 3) rfl
      have p3 := box_at HWP.out (j := 3) rfl
      have t4 := box_at HWT.out (j := 4) rfl
      have p4 := box_at HWP.out (j := 4) rfl
      have t5 := box_at HWT.out (j := 5) rfl
      have p5 := box_at HWP.out (j := 5) rfl
      have t6 := box_at HWT.out (j := 6) rfl
      have p6 := box_at HWP.out (j := 6) rfl
      go_wp2
      all_goals
        go_ret
        refine ⟨congrArg (fun b => Ending.returned (.bool b)) ?_, HWB.out⟩
        rw [g0]
        simp only [Bool.true_and]
        first
          | (symm; simp; omega)
          | (symm; simp only [Bool.and_eq_false_iff, decide_eq_false_iff_not]; omega)
          | (simp; omega)
end Go.Proofs.Ytbpifaamlcjocaa
