/- time: the reference's Valid -/
import Derived.Test.YtdelemmoiaiooaaTb
namespace Go.Proofs.Ytdelemmoiaiooaa
open Go.RowKit Go.Bs Go.Cl Go.Rw Go.Ti
set_option maxRecDepth 100000 in
set_option maxHeartbeats 4000000 in
theorem rvalid_any (v : Value) (l : List Int) (w : World) (hl : l.length ≤ 1000000) (h : SlT w v l) :
    Calls Try.prog 18 #[.agg #[v]] w fun e w' => e = .returned (.bool (validT l)) ∧ Below w.heap.size w w' := by
  obtain ⟨a, cap, rfl⟩ := Raw.slice h
  obtain ⟨M, hM⟩ : ∃ M, M = w.heap.size := ⟨_, rfl⟩
  obtain ⟨w1, hw1⟩ : ∃ W, W = w.alloc (.cells #[.slice a l.length cap] 24) := ⟨_, rfl⟩
  have HW := Lib.hid hw1
  have hb1 : Below w.heap.size w w1 := by rw [hw1]; exact (Below.refl _ w).alloc (Nat.le_refl _) _
  have HM1 : Hid (w1.heap[M]? = some (.cells #[.slice a l.length cap] 24 (0, 0))) := Lib.hid (by rw [hw1, hM]; exact heap_alloc_new w _)
  have H := Lib.hid h
  clear hw1 h
  go_enter Try.func18, Try.ntmps18
  go_upto_region 1 with (fail)
  rw [← HW.out, ← hM]
  clear HW hM
  go_wp2
  go_loopw [3] (fun i wr => ∃ k : Nat, k ≤ l.length ∧ i = .int .i64 k ∧ (∀ j, j < k → okT l j = true) ∧ wr.heap[M]? = some (.cells #[.slice a l.length cap] 24 (0, 0)) ∧ Below w.heap.size w wr) (fun i _ => l.length - (intOf i).toNat)
  case atStart => exact ⟨0, Nat.zero_le _, rfl, fun j hj => by omega, HM1.out, hb1⟩
  case round =>
    clear HM1 hb1
    obtain ⟨k, hk, rfl, hno, hMr, hbel⟩ := hrel
    have HNO := Lib.hid hno
    have HMr := Lib.hid hMr
    have mw : wr.cell? ⟨M, 0, none⟩ = some (.slice a l.length cap) := box_at HMr.out rfl
    clear hno hMr
    by_cases hlt : k < l.length
    · obtain ⟨b, off, rfl, hb, h0⟩ := (H.out.below hbel).elem hlt
      have hok : okT l k = (usr (at_ l k) && (decide (k = 0) || decide (at_ l (k - 1) < at_ l k))) := rfl
      have HOK := Lib.hid hok
      clear hok
      obtain ⟨z, hz⟩ : ∃ z, at_ l k = z := ⟨_, rfl⟩
      rw [hz] at h0 HOK
      cases hu : usr z
      · have HU := Lib.hid hu
        have HV := Lib.hid (validT_false hlt (by rw [HOK.out, hu]; rfl))
        clear hu hz
        go_upto_region 4 with (fail)
        refine Txt.Ty.wp_tree [] [] [] [1, 4, 12, 15, 17, 21] [0, 1, 2, 3, 4] (.alt [5, 6, 7, 8, 9, 10, 11, 12, 13, 14, 15, 16, 17, 18, 19, 20, 21, 22, 23, 24] (.done) (.no)) (by kernel_rfl) (by kernel_rfl) (by kernel_rfl) (by kernel_rfl) (fun b hb => by cases hb) ?_
        obtain ⟨y0, hy0⟩ : ∃ y, y = wr.drew := ⟨_, rfl⟩
        rw [← hy0]
        have m0 : y0.cell? ⟨M, 0, none⟩ = some (.slice (some ⟨b, off, none⟩) l.length cap) := by rw [hy0]; exact box_at (w := wr.drew) HMr.out rfl
        have h0 : y0.cell? ⟨b, off + k, none⟩ = some (.int .i64 z) := by rw [hy0]; exact h0
        have hbel1 : Below w.heap.size w y0 := by rw [hy0]; exact hbel.drew
        have HM1 : Hid (y0.heap[M]? = some (.cells #[.slice (some ⟨b, off, none⟩) l.length cap] 24 (0, 0))) := Lib.hid (by rw [hy0]; exact HMr.out)
        clear hy0
        (try simp only [Txt.pick, List.getElem?_cons_succ, List.getElem?_cons_zero])
        go_wp2
        refine Txt.RunPost.mk ?_
        refine Txt.Ty.wpTr_alt ?_ Txt.Ty.wpTr_no
        (try simp only [Txt.pick, List.getElem?_cons_succ, List.getElem?_cons_zero])
        go_wp2_with fail
        refine (ruser_eq z false _ HU.out).mono ?_
        rintro e w' ⟨rfl, rfl⟩
        go_wp2
        refine Txt.SegPost.mk Txt.Ty.Shown.none ?_
        (try simp only [Txt.pick, List.getElem?_cons_succ, List.getElem?_cons_zero])
        go_wp2
        refine Txt.RunPost.mk ?_
        refine Txt.Ty.wpTr_done (by rfl) trivial ?_
        go_wp2
        go_ret
        rw [HV.out]
        exact ⟨rfl, hbel1⟩
      have HU := Lib.hid hu
      by_cases hk0 : k = 0
      · have HN2 : Hid (∀ j, j < k + 1 → okT l j = true) := Lib.hid (fun j hj => by
          by_cases e : j = k
          · rw [e, HOK.out, hu]; simp [hk0]
          · exact HNO.out j (by omega))
        subst hk0
        rw [Nat.add_zero] at h0
        clear hu hz
        go_upto_region 4 with (fail)
        refine Txt.Ty.wp_tree [] [] [] [1, 4, 12, 15, 17, 21] [0, 1, 2, 3, 4] (.alt [5, 6, 7, 8, 9, 10, 11, 12, 13, 14, 15, 16, 17, 18, 19, 20, 21, 22, 23, 24] (.done) (.no)) (by kernel_rfl) (by kernel_rfl) (by kernel_rfl) (by kernel_rfl) (fun b hb => by cases hb) ?_
        obtain ⟨y0, hy0⟩ : ∃ y, y = wr.drew := ⟨_, rfl⟩
        rw [← hy0]
        have m0 : y0.cell? ⟨M, 0, none⟩ = some (.slice (some ⟨b, off, none⟩) l.length cap) := by rw [hy0]; exact box_at (w := wr.drew) HMr.out rfl
        have h0 : y0.cell? ⟨b, off, none⟩ = some (.int .i64 z) := by rw [hy0]; exact h0
        have hbel1 : Below w.heap.size w y0 := by rw [hy0]; exact hbel.drew
        have HM1 : Hid (y0.heap[M]? = some (.cells #[.slice (some ⟨b, off, none⟩) l.length cap] 24 (0, 0))) := Lib.hid (by rw [hy0]; exact HMr.out)
        clear hy0
        (try simp only [Txt.pick, List.getElem?_cons_succ, List.getElem?_cons_zero])
        go_wp2
        refine Txt.RunPost.mk ?_
        refine Txt.Ty.wpTr_alt ?_ Txt.Ty.wpTr_no
        (try simp only [Txt.pick, List.getElem?_cons_succ, List.getElem?_cons_zero])
        go_wp2_with fail
        refine (ruser_eq z true _ HU.out).mono ?_
        rintro e w' ⟨rfl, rfl⟩
        go_wp2
        refine Txt.SegPost.mk Txt.Ty.Shown.none ?_
        (try simp only [Txt.pick, List.getElem?_cons_succ, List.getElem?_cons_zero])
        go_wp2
        refine Txt.RunPost.mk ?_
        refine Txt.Ty.wpTr_done (by rfl) trivial ?_
        go_wp2
        go_roundw
        case rel => exact ⟨1, by omega, by go_num, HN2.out, HM1.out, hbel1⟩
        case measure => simp [intOf]; omega
      · obtain ⟨n, rfl⟩ : ∃ n, k = n + 1 := ⟨k - 1, by omega⟩
        obtain ⟨b', off', e', hb', h1⟩ := (H.out.below hbel).elem (show n < l.length by omega)
        cases e'
        rw [Nat.add_sub_cancel] at HOK
        obtain ⟨y, hy⟩ : ∃ y, at_ l n = y := ⟨_, rfl⟩
        rw [hy] at h1 HOK
        have hkn : (0 : Int) < (n : Int) + 1 := by omega
        have hnl : (n : Int) < (l.length : Int) := by omega
        by_cases hs : y < z
        · have HN2 : Hid (∀ j, j < n + 1 + 1 → okT l j = true) := Lib.hid (fun j hj => by
            by_cases e : j = n + 1
            · rw [e, HOK.out, hu]; simp [hs]
            · exact HNO.out j (by omega))
          have hs' : ¬ z ≤ y := by omega
          clear hu hz hy
          go_upto_region 4 with (fail)
          refine Txt.Ty.wp_tree [] [] [] [1, 4, 12, 15, 17, 21] [0, 1, 2, 3, 4] (.alt [5, 6, 7, 8, 9, 10, 11, 12, 13, 14, 15, 16, 17, 18, 19, 20, 21, 22, 23, 24] (.done) (.no)) (by kernel_rfl) (by kernel_rfl) (by kernel_rfl) (by kernel_rfl) (fun b hb => by cases hb) ?_
          obtain ⟨y0, hy0⟩ : ∃ y, y = wr.drew := ⟨_, rfl⟩
          rw [← hy0]
          have m0 : y0.cell? ⟨M, 0, none⟩ = some (.slice (some ⟨b, off, none⟩) l.length cap) := by rw [hy0]; exact box_at (w := wr.drew) HMr.out rfl
          have h0 : y0.cell? ⟨b, off + (n + 1), none⟩ = some (.int .i64 z) := by rw [hy0]; exact h0
          have h1 : y0.cell? ⟨b, off + n, none⟩ = some (.int .i64 y) := by rw [hy0]; exact h1
          have hbel1 : Below w.heap.size w y0 := by rw [hy0]; exact hbel.drew
          have HM1 : Hid (y0.heap[M]? = some (.cells #[.slice (some ⟨b, off, none⟩) l.length cap] 24 (0, 0))) := Lib.hid (by rw [hy0]; exact HMr.out)
          clear hy0
          (try simp only [Txt.pick, List.getElem?_cons_succ, List.getElem?_cons_zero])
          go_wp2
          refine Txt.RunPost.mk ?_
          refine Txt.Ty.wpTr_alt ?_ Txt.Ty.wpTr_no
          (try simp only [Txt.pick, List.getElem?_cons_succ, List.getElem?_cons_zero])
          go_wp2_with fail
          refine (ruser_eq z true _ HU.out).mono ?_
          rintro e w' ⟨rfl, rfl⟩
          go_wp2
          refine Txt.SegPost.mk Txt.Ty.Shown.none ?_
          (try simp only [Txt.pick, List.getElem?_cons_succ, List.getElem?_cons_zero])
          go_wp2
          refine Txt.RunPost.mk ?_
          refine Txt.Ty.wpTr_done (by rfl) trivial ?_
          go_wp2
          go_roundw
          case rel => exact ⟨n + 1 + 1, by omega, by go_num, HN2.out, HM1.out, hbel1⟩
          case measure => simp [intOf]; omega
        · have HV := Lib.hid (validT_false hlt (by rw [HOK.out, hu]; simp [hs]))
          have hs' : z ≤ y := by omega
          clear hu hz hy hs
          go_upto_region 4 with (fail)
          refine Txt.Ty.wp_tree [] [] [] [1, 4, 12, 15, 17, 21] [0, 1, 2, 3, 4] (.alt [5, 6, 7, 8, 9, 10, 11, 12, 13, 14, 15, 16, 17, 18, 19, 20, 21, 22, 23, 24] (.done) (.no)) (by kernel_rfl) (by kernel_rfl) (by kernel_rfl) (by kernel_rfl) (fun b hb => by cases hb) ?_
          obtain ⟨y0, hy0⟩ : ∃ y, y = wr.drew := ⟨_, rfl⟩
          rw [← hy0]
          have m0 : y0.cell? ⟨M, 0, none⟩ = some (.slice (some ⟨b, off, none⟩) l.length cap) := by rw [hy0]; exact box_at (w := wr.drew) HMr.out rfl
          have h0 : y0.cell? ⟨b, off + (n + 1), none⟩ = some (.int .i64 z) := by rw [hy0]; exact h0
          have h1 : y0.cell? ⟨b, off + n, none⟩ = some (.int .i64 y) := by rw [hy0]; exact h1
          have hbel1 : Below w.heap.size w y0 := by rw [hy0]; exact hbel.drew
          have HM1 : Hid (y0.heap[M]? = some (.cells #[.slice (some ⟨b, off, none⟩) l.length cap] 24 (0, 0))) := Lib.hid (by rw [hy0]; exact HMr.out)
          clear hy0
          (try simp only [Txt.pick, List.getElem?_cons_succ, List.getElem?_cons_zero])
          go_wp2
          refine Txt.RunPost.mk ?_
          refine Txt.Ty.wpTr_alt ?_ Txt.Ty.wpTr_no
          (try simp only [Txt.pick, List.getElem?_cons_succ, List.getElem?_cons_zero])
          go_wp2_with fail
          refine (ruser_eq z true _ HU.out).mono ?_
          rintro e w' ⟨rfl, rfl⟩
          go_wp2
          refine Txt.SegPost.mk Txt.Ty.Shown.none ?_
          (try simp only [Txt.pick, List.getElem?_cons_succ, List.getElem?_cons_zero])
          go_wp2
          refine Txt.RunPost.mk ?_
          refine Txt.Ty.wpTr_done (by rfl) trivial ?_
          go_wp2
          go_ret
          rw [HV.out]
          exact ⟨rfl, hbel1⟩
    · have HV := Lib.hid (validT_true (l := l) (fun j hj => HNO.out j (by omega)))
      obtain rfl : k = l.length := by omega
      go_wp2
      go_ret
      rw [HV.out]
      exact ⟨rfl, hbel⟩
end Go.Proofs.Ytdelemmoiaiooaa
