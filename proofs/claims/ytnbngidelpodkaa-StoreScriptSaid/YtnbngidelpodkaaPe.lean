/- Store: finish, Commit, Abort -/
import Derived.Test.YtnbngidelpodkaaPd
namespace Go.Proofs.Ytnbngidelpodkaa
open Go.RowKit Go.Bs Go.Cl Go.Rw Go.Un Go.Im
set_option maxHeartbeats 1000000 in
theorem finish_any {g : Nat} {x0 x1 x2 x3 x4 x5 x6 x7 x8 : Value} (w : World) (hc : w.heap[g]? = some (.cells #[x0, x1, x2, x3, x4, x5, x6, x7, x8] 66 (0, 0))) :
    Calls Try.prog 40 #[.pointer (some ⟨g, 0, none⟩)] w fun e w' => (∃ v, e = .returned v) ∧ w' = puts w g [(2, .slice none 0 0), (3, .slice none 0 0), (5, .int .i64 0), (6, .int .i64 0)] := by
  have c2 := box_at hc (j := 2) rfl
  have c3 := box_at hc (j := 3) rfl
  have c5 := box_at hc (j := 5) rfl
  have c6 := box_at hc (j := 6) rfl
  have f2 := box_free hc 2
  have f3 := box_free hc 3
  have f5 := box_free hc 5
  have f6 := box_free hc 6
  clear hc
  go_enter Try.func40, Try.ntmps40
  go_wp2
  go_end0
  exact ⟨⟨_, rfl⟩, rfl⟩
set_option maxRecDepth 100000 in
set_option maxHeartbeats 2000000 in
theorem stcommit_no {base g h : Nat} {iv rv : Value} {s : Ps} (w : World) (H : StAt w base g h iv rv s) (hno : s.inst = false ∨ s.done < s.steps) :
    Calls Try.prog 17 #[.pointer (some ⟨g, 0, none⟩)] w fun e w' => e = .returned (.int .i64 7) ∧ StQ w base g h iv rv s w' := by
  have HA := Lib.hid H
  have HI := Lib.hid (inst_any w.drew (H.below (Below.refl _ w).drew))
  obtain ⟨imv, nxv, chv, rz, rs, H⟩ := H
  have c5 := box_at H.hc (j := 5) rfl
  have c6 := box_at H.hc (j := 6) rfl
  obtain ⟨dn, hdn⟩ : ∃ n, n = s.done := ⟨_, rfl⟩
  obtain ⟨st, hst⟩ : ∃ n, n = s.steps := ⟨_, rfl⟩
  obtain ⟨o, ho⟩ : ∃ o, o = s.inst := ⟨_, rfl⟩
  rw [← hdn] at c5 hno
  rw [← hst] at c6 hno
  rw [← ho] at HI hno
  clear H ho hdn hst
  cases o
  · clear hno
    go_enter Try.func17, Try.ntmps17
    go_upto_region 1 with (fail)
    refine Txt.Ty.wp_tree [] [] [] [7, 11] [0] (.alt [1, 2, 3, 4, 5, 6, 7, 8, 9, 10, 11, 12, 13] (.done) (.no)) (by kernel_rfl) (by kernel_rfl) (by kernel_rfl) (by kernel_rfl) (fun _ h => by cases h) ?_
    (try simp only [Txt.pick, List.getElem?_cons_succ, List.getElem?_cons_zero])
    go_wp2
    refine Txt.RunPost.mk ?_
    refine Txt.Ty.wpTr_alt ?_ Txt.Ty.wpTr_no
    (try simp only [Txt.pick, List.getElem?_cons_succ, List.getElem?_cons_zero])
    go_wp2_with fail
    refine HI.out.mono ?_
    rintro e w' ⟨rfl, rfl⟩
    go_wp2
    refine Txt.SegPost.mk Txt.Ty.Shown.none ?_
    (try simp only [Txt.pick, List.getElem?_cons_succ, List.getElem?_cons_zero])
    go_wp2
    refine Txt.RunPost.mk ?_
    refine Txt.Ty.wpTr_done (by rfl) trivial ?_
    go_wp2
    go_ret
    exact ⟨rfl, StQ.same HA.out (Below.refl _ w).drew⟩
  · have hq : dn < st := by rcases hno with h | h; cases h; exact h
    have hqi : (dn : Int) < st := by omega
    clear hno
    go_enter Try.func17, Try.ntmps17
    go_upto_region 1 with (fail)
    refine Txt.Ty.wp_tree [] [] [] [7, 11] [0] (.alt [1, 2, 3, 4, 5, 6, 7, 8, 9, 10, 11, 12, 13] (.done) (.no)) (by kernel_rfl) (by kernel_rfl) (by kernel_rfl) (by kernel_rfl) (fun _ h => by cases h) ?_
    (try simp only [Txt.pick, List.getElem?_cons_succ, List.getElem?_cons_zero])
    go_wp2
    refine Txt.RunPost.mk ?_
    refine Txt.Ty.wpTr_alt ?_ Txt.Ty.wpTr_no
    (try simp only [Txt.pick, List.getElem?_cons_succ, List.getElem?_cons_zero])
    go_wp2_with fail
    refine HI.out.mono ?_
    rintro e w' ⟨rfl, rfl⟩
    go_wp2
    refine Txt.SegPost.mk Txt.Ty.Shown.none ?_
    (try simp only [Txt.pick, List.getElem?_cons_succ, List.getElem?_cons_zero])
    go_wp2
    refine Txt.RunPost.mk ?_
    refine Txt.Ty.wpTr_done (by rfl) trivial ?_
    go_wp2
    go_ret
    exact ⟨rfl, StQ.same HA.out (Below.refl _ w).drew⟩
/-- the state after Commit -/
def committed (s : Ps) : Ps := ⟨s.next, s.ver + 1, false, [], 0⟩
def aborted (s : Ps) : Ps := ⟨s.image, s.ver, false, [], 0⟩
set_option maxRecDepth 100000 in
set_option maxHeartbeats 4000000 in
theorem stcommit_yes {base g h : Nat} {iv rv : Value} {s : Ps} (w : World) (H : StAt w base g h iv rv s) (hi : s.inst = true) (hd : s.done = s.steps) (hv : s.ver < 1000000) :
    Calls Try.prog 17 #[.pointer (some ⟨g, 0, none⟩)] w fun e w' => e = .returned (.int .i64 0) ∧ StQ w base g h iv rv (committed s) w' := by
  have HI := Lib.hid (inst_any w.drew (H.below (Below.refl _ w).drew))
  rw [hi] at HI
  obtain ⟨imv, nxv, chv, rz, rs, H⟩ := H
  have HS := Lib.hid H
  obtain ⟨na, nc, rfl⟩ := Raw.slice H.hx
  have hnl : s.next.length ≤ 24000 := H.good.nl
  have hw : s.work = s.next := by
    have h1 : s.steps = tot s.image s.next := by simp [Ps.steps, hi]
    simp only [Ps.work, hi, if_true, hd, h1]; exact wk_all _ _
  have hl := H.hl
  rw [hw, hi] at hl
  have hcm := commit_any w.drew (hl.below (Below.refl _ w).drew)
  simp only [if_true] at hcm
  have HCM := Lib.hid hcm
  have HC := Lib.hid H.hc
  have HX := Lib.hid H.hx
  obtain ⟨st, hst⟩ : ∃ n, n = s.steps := ⟨_, rfl⟩
  obtain ⟨ver, hver⟩ : ∃ n, n = s.ver := ⟨_, rfl⟩
  obtain ⟨sm, hsm⟩ : ∃ n, n = sumOf s.image := ⟨_, rfl⟩
  obtain ⟨nx, hnx⟩ : ∃ n, n = s.next := ⟨_, rfl⟩
  rw [hd, ← hst, ← hver, ← hsm, ← hnx] at HC
  rw [← hnx] at HX hnl
  have hvi : (ver : Int) < 1000000 := by omega
  have HG := Lib.hid (show g ≠ h from fun e => H.hn (by simp [LogF, e]))
  have hlt := H.lt
  have c0 := box_at HC.out (j := 0) rfl
  have c5 := box_at HC.out (j := 5) rfl
  have c6 := box_at HC.out (j := 6) rfl
  have hst0 : ¬ ((st : Int) < st) := by omega
  have HVE := Lib.hid hver; have HNX := Lib.hid hnx; have HW := Lib.hid hw
  clear H hl hcm hi hd hst hver hsm hw hv hnx
  go_enter Try.func17, Try.ntmps17
  go_upto_region 1 with (fail)
  refine Txt.Ty.wp_tree [] [] [] [7, 11] [0] (.alt [1, 2, 3, 4, 5, 6, 7, 8, 9, 10, 11, 12, 13] (.done) (.no)) (by kernel_rfl) (by kernel_rfl) (by kernel_rfl) (by kernel_rfl) (fun _ h => by cases h) ?_
  (try simp only [Txt.pick, List.getElem?_cons_succ, List.getElem?_cons_zero])
  go_wp2
  refine Txt.RunPost.mk ?_
  refine Txt.Ty.wpTr_alt ?_ Txt.Ty.wpTr_no
  (try simp only [Txt.pick, List.getElem?_cons_succ, List.getElem?_cons_zero])
  go_wp2_with fail
  refine HI.out.mono ?_
  rintro e w' ⟨rfl, rfl⟩
  go_wp2
  refine Txt.SegPost.mk Txt.Ty.Shown.none ?_
  (try simp only [Txt.pick, List.getElem?_cons_succ, List.getElem?_cons_zero])
  go_wp2
  refine Txt.RunPost.mk ?_
  refine Txt.Ty.wpTr_done (by rfl) trivial ?_
  go_wp2_with fail
  refine HCM.out.mono ?_
  rintro e w2 ⟨rfl, hP⟩
  have HSd := Lib.hid (HS.out.below (Below.refl _ w).drew)
  have HC2 := Lib.hid (stepP_cell hP HSd.out.hn HC.out)
  have HPP := Lib.hid hP
  clear hP
  have hBl : ∀ x ∈ [g], ∃ c e f, w2.heap[x]? = some (.cells c e f) := fun x hx => by rw [List.mem_singleton.1 hx]; exact ⟨_, _, _, HC2.out⟩
  have HS0 := Lib.hid (same_start hBl)
  have d2 := box_at HC2.out (j := 2) rfl
  have d7 := box_at HC2.out (j := 7) rfl
  have HX2 : Hid (Bytes [] w2 (.slice na nx.length nc) nx) := Lib.hid (by
    obtain ⟨_, _, _, _, _, hk, _⟩ := HPP.out
    exact Raw.keep (F' := []) (w := w.drew) HX.out hk (fun f hf => .inl (mem_sf (List.mem_cons_of_mem _ hf))) (by simp))
  go_upto_region 4 with (fail)
  refine Txt.Ty.wp_tree [g] [6, 10] [19, 22, 25] [6, 10, 15] [0, 1, 2, 3, 4, 5, 6, 7, 8, 9, 10, 11, 12, 13, 14, 15] (.alt [16, 17, 18] (.alt [19, 20, 21] (.alt [22, 23, 24] (.alt [25] (.done) (.no)) (.no)) (.no)) (.no)) (by kernel_rfl) (by kernel_rfl) (by kernel_rfl) (by kernel_rfl) hBl ?_
  clear hBl
  (try simp only [Txt.pick, List.getElem?_cons_succ, List.getElem?_cons_zero])
  go_wp2
  refine Txt.RunPost.mk ?_
  refine Txt.Ty.wpTr_alt ?_ Txt.Ty.wpTr_no
  (try simp only [Txt.pick, List.getElem?_cons_succ, List.getElem?_cons_zero])
  go_wp2_with fail
  refine (of_any (F := []) _ nx _ (by omega) (Raw.drew HX2.out)).mono ?_
  rintro e w3 ⟨rfl, hb3⟩
  have HB3 : Hid (Below w2.heap.size w2 w3) := Lib.hid ((Below.refl w2.heap.size w2).drew.trans hb3)
  have HS3 := Lib.hid (same_below' HS0.out hb3)
  have HC3 := Lib.hid ((HB3.out.block g (Array.getElem?_eq_some_iff.1 HC2.out).1).trans HC2.out)
  have e1 := box_free HC3.out 1
  have e7 := box_free HC3.out 7
  have e8 := box_free HC3.out 8
  have d1' := box_at HC3.out (j := 1) rfl
  have d7' := box_at HC3.out (j := 7) rfl
  have d8' := box_at HC3.out (j := 8) rfl
  clear hb3 d2 d7
  go_wp2
  refine Txt.SegPost.mk (Txt.Ty.Shown.same HS3.out) ?_
  (try simp only [Txt.pick, List.getElem?_cons_succ, List.getElem?_cons_zero])
  go_wp2
  refine Txt.RunPost.mk ?_
  refine Txt.Ty.wpTr_alt ?_ Txt.Ty.wpTr_no
  (try simp only [Txt.pick, List.getElem?_cons_succ, List.getElem?_cons_zero])
  go_wp2
  refine Txt.SegPost.mk (Txt.Ty.Shown.last rfl) ?_
  (try simp only [Txt.pick, List.getElem?_cons_succ, List.getElem?_cons_zero])
  go_wp2
  refine Txt.RunPost.mk ?_
  refine Txt.Ty.wpTr_alt ?_ Txt.Ty.wpTr_no
  (try simp only [Txt.pick, List.getElem?_cons_succ, List.getElem?_cons_zero])
  go_wp2
  refine Txt.SegPost.mk (Txt.Ty.Shown.last rfl) ?_
  (try simp only [Txt.pick, List.getElem?_cons_succ, List.getElem?_cons_zero])
  go_wp2
  refine Txt.RunPost.mk ?_
  refine Txt.Ty.wpTr_alt ?_ Txt.Ty.wpTr_no
  (try simp only [Txt.pick, List.getElem?_cons_succ, List.getElem?_cons_zero])
  go_wp2
  refine Txt.SegPost.mk (Txt.Ty.Shown.last rfl) ?_
  (try simp only [Txt.pick, List.getElem?_cons_succ, List.getElem?_cons_zero])
  refine Txt.RunPost.mk ?_
  refine Txt.Ty.wpTr_done (by rfl) ⟨.head _, .head _, trivial⟩ ?_
  go_wp2_with fail
  obtain ⟨X, hX⟩ : ∃ X, X = ((w3.setCell ⟨g, 1, none⟩ (.slice na nx.length nc)).setCell ⟨g, 7, none⟩ (.int .i64 ((ver : Int) + 1))).setCell ⟨g, 8, none⟩ (.int .u64 (sumOf nx)) := ⟨_, rfl⟩
  rw [← hX]
  obtain ⟨hgX, hkX⟩ := puts_at [(1, .slice na nx.length nc), (7, .int .i64 ((ver : Int) + 1)), (8, .int .u64 (sumOf nx))] HC3.out
  have eX : puts w3 g [(1, .slice na nx.length nc), (7, .int .i64 ((ver : Int) + 1)), (8, .int .u64 (sumOf nx))] = X := hX.symm
  rw [eX] at hgX hkX
  have HGX := Lib.hid hgX; have HKX := Lib.hid hkX
  clear hgX hkX hX eX d1' d7' d8' e1 e7 e8
  refine (finish_any X HGX.out).mono ?_
  rintro e Y ⟨⟨v, rfl⟩, rfl⟩
  have hgY := puts_at [(2, .slice none 0 0), (3, .slice none 0 0), (5, .int .i64 0), (6, .int .i64 0)] HGX.out
  obtain ⟨Y, hY⟩ : ∃ Y, Y = puts X g [(2, .slice none 0 0), (3, .slice none 0 0), (5, .int .i64 0), (6, .int .i64 0)] := ⟨_, rfl⟩
  rw [← hY] at hgY ⊢
  have HGY := Lib.hid hgY
  clear hgY hY
  go_wp2
  go_ret
  refine ⟨rfl, StQ_drew ?_⟩
  have hcg : (committed s).Good := ⟨by rw [show (committed s).image = s.next from rfl, ← HNX.out]; exact hnl, by simp [committed], by have := HVE.out; simp [committed]; omega, by simp [committed, Ps.steps], fun _ => rfl⟩
  have hk : Keep [g] w2 Y := ((Keep.of_below' HB3.out).trans HKX.out (fun f hf => .inl hf)).trans HGY.out.2 (fun f hf => .inl hf)
  have hcw : (committed s).work = s.next := by simp [Ps.work, committed]
  refine st_after HSd.out (s' := committed s) (rs' := []) (by rw [hcw]; exact HPP.out) ?_ hk hcg (imv' := .slice na nx.length nc) (nxv' := .slice none 0 0) (chv' := .slice none 0 0) (rz' := rz) ?_ (Raw.empty _ _ _) (ChR.nil _ _) rfl (by rw [hcw]; rfl) rfl (fun h => by cases h)
  · have := HGY.out.1
    rw [show sumOf (committed s).image = sumOf nx by rw [HNX.out]; rfl, show (committed s).ver = ver + 1 by rw [HVE.out]; rfl]
    exact this
  · have := HSd.out.hx
    rw [show (committed s).image = nx by rw [HNX.out]; rfl]
    rw [← HNX.out] at this
    exact this
set_option maxHeartbeats 1000000 in
theorem stabort_no {base g h : Nat} {iv rv : Value} {s : Ps} (w : World) (H : StAt w base g h iv rv s) (hno : s.inst = false) :
    Calls Try.prog 22 #[.pointer (some ⟨g, 0, none⟩)] w fun e w' => e = .returned (.int .i64 7) ∧ w = w' := by
  have HI := Lib.hid (inst_any w H)
  rw [hno] at HI
  clear H hno
  go_enter Try.func22, Try.ntmps22
  go_wp2_with fail
  refine HI.out.mono ?_
  rintro e w' ⟨rfl, rfl⟩
  go_wp2
  go_ret
  exact ⟨rfl, rfl⟩
set_option maxRecDepth 100000 in
set_option maxHeartbeats 4000000 in
theorem stabort_yes {base g h : Nat} {iv rv : Value} {s : Ps} (w : World) (H : StAt w base g h iv rv s) (hi : s.inst = true) :
    Calls Try.prog 22 #[.pointer (some ⟨g, 0, none⟩)] w fun e w' => e = .returned (.int .i64 0) ∧ StQ w base g h iv rv (aborted s) w' := by
  have HI := Lib.hid (inst_any w H)
  rw [hi] at HI
  obtain ⟨imv, nxv, chv, rz, rs, H⟩ := H
  have HS := Lib.hid H
  have hl := H.hl
  rw [hi] at hl
  have hrb := rollback_any w hl H.good.wl (by rw [H.rl]; have := H.good.sl; have := H.good.dl; omega) H.bs H.ok
  simp only [if_true] at hrb
  rw [H.tk] at hrb
  have HRB := Lib.hid hrb
  have HC := Lib.hid H.hc
  obtain ⟨st, hst⟩ : ∃ n, n = s.steps := ⟨_, rfl⟩
  obtain ⟨dn, hdn⟩ : ∃ n, n = s.done := ⟨_, rfl⟩
  rw [← hst, ← hdn] at HC
  have c0 := box_at HC.out (j := 0) rfl
  clear H hl hrb hst hdn
  go_enter Try.func22, Try.ntmps22
  go_wp2_with fail
  refine HI.out.mono ?_
  rintro e w' ⟨rfl, rfl⟩
  go_wp2_with fail
  refine HRB.out.mono ?_
  rintro e w2 ⟨rfl, hP⟩
  have HC2 := Lib.hid (stepP_cell hP HS.out.hn HC.out)
  have HPP := Lib.hid hP
  clear hP
  go_wp2_with fail
  refine (finish_any w2 HC2.out).mono ?_
  rintro e Y ⟨⟨v, rfl⟩, rfl⟩
  have hgY := puts_at [(2, .slice none 0 0), (3, .slice none 0 0), (5, .int .i64 0), (6, .int .i64 0)] HC2.out
  obtain ⟨Y, hY⟩ : ∃ Y, Y = puts w2 g [(2, .slice none 0 0), (3, .slice none 0 0), (5, .int .i64 0), (6, .int .i64 0)] := ⟨_, rfl⟩
  rw [← hY] at hgY ⊢
  have HGY := Lib.hid hgY
  clear hgY hY
  go_wp2
  go_ret
  refine ⟨rfl, ?_⟩
  have hcg : (aborted s).Good := ⟨HS.out.good.il, by simp [aborted], HS.out.good.vl, by simp [aborted, Ps.steps], fun _ => rfl⟩
  have hcw : (aborted s).work = s.image := by simp [Ps.work, aborted]
  exact st_after HS.out (s' := aborted s) (rs' := []) (by rw [hcw]; exact HPP.out) HGY.out.1 HGY.out.2 hcg (imv' := imv) (nxv' := .slice none 0 0) (chv' := .slice none 0 0) (rz' := rz) HS.out.hi (Raw.empty _ _ _) (ChR.nil _ _) rfl (by rw [hcw]; rfl) rfl (fun h => by cases h)
theorem ststep_nil (w : World) : Calls Try.prog 13 #[.pointer none] w fun e w' => e = .returned (.tuple #[.int .i64 0, .int .i64 7]) ∧ w.drew = w' := by
  go_enter Try.func13, Try.ntmps13
  go_upto_region 1 with (fail)
  refine Txt.Ty.wp_tree [] [] [] [7, 11] [0] (.alt [1, 2, 3, 4, 5, 6, 7, 8, 9, 10, 11, 12, 13] (.done) (.no)) (by kernel_rfl) (by kernel_rfl) (by kernel_rfl) (by kernel_rfl) (fun _ h => by cases h) ?_
  (try simp only [Txt.pick, List.getElem?_cons_succ, List.getElem?_cons_zero])
  go_wp2
  refine Txt.RunPost.mk ?_
  refine Txt.Ty.wpTr_alt ?_ Txt.Ty.wpTr_no
  (try simp only [Txt.pick, List.getElem?_cons_succ, List.getElem?_cons_zero])
  go_wp2_with fail
  refine (inst_nil _).mono ?_
  rintro e w' ⟨rfl, rfl⟩
  go_wp2
  refine Txt.SegPost.mk Txt.Ty.Shown.none ?_
  (try simp only [Txt.pick, List.getElem?_cons_succ, List.getElem?_cons_zero])
  go_wp2
  refine Txt.RunPost.mk ?_
  refine Txt.Ty.wpTr_done (by rfl) trivial ?_
  go_wp2
  go_ret2
  exact ⟨rfl, rfl⟩
theorem stcommit_nil (w : World) : Calls Try.prog 17 #[.pointer none] w fun e w' => e = .returned (.int .i64 7) ∧ w.drew = w' := by
  go_enter Try.func17, Try.ntmps17
  go_upto_region 1 with (fail)
  refine Txt.Ty.wp_tree [] [] [] [7, 11] [0] (.alt [1, 2, 3, 4, 5, 6, 7, 8, 9, 10, 11, 12, 13] (.done) (.no)) (by kernel_rfl) (by kernel_rfl) (by kernel_rfl) (by kernel_rfl) (fun _ h => by cases h) ?_
  (try simp only [Txt.pick, List.getElem?_cons_succ, List.getElem?_cons_zero])
  go_wp2
  refine Txt.RunPost.mk ?_
  refine Txt.Ty.wpTr_alt ?_ Txt.Ty.wpTr_no
  (try simp only [Txt.pick, List.getElem?_cons_succ, List.getElem?_cons_zero])
  go_wp2_with fail
  refine (inst_nil _).mono ?_
  rintro e w' ⟨rfl, rfl⟩
  go_wp2
  refine Txt.SegPost.mk Txt.Ty.Shown.none ?_
  (try simp only [Txt.pick, List.getElem?_cons_succ, List.getElem?_cons_zero])
  go_wp2
  refine Txt.RunPost.mk ?_
  refine Txt.Ty.wpTr_done (by rfl) trivial ?_
  go_wp2
  go_ret
  exact ⟨rfl, rfl⟩
theorem stabort_nil (w : World) : Calls Try.prog 22 #[.pointer none] w fun e w' => e = .returned (.int .i64 7) ∧ w = w' := by
  go_enter Try.func22, Try.ntmps22
  go_wp2_with fail
  refine (inst_nil _).mono ?_
  rintro e w' ⟨rfl, rfl⟩
  go_wp2
  go_ret
  exact ⟨rfl, rfl⟩
end Go.Proofs.Ytnbngidelpodkaa
