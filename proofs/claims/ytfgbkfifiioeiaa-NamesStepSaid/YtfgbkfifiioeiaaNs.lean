/- names: the reference's put, do -/
import Derived.Test.YtfgbkfifiioeiaaNr
namespace Go.Proofs.Ytfgbkfifiioeiaa
open Go.RowKit Go.Bs Go.Cl Go.Rw Go.Nm Go.Wi
set_option maxRecDepth 100000 in
set_option maxHeartbeats 8000000 in
theorem rput_any (v : Value) (l : List Nm) (s : List UInt8) (t : Int) (w : World) (hl : l.length ≤ 1000000) (h : SlN w v l) (hs : Srt l) (hno : ∀ z ∈ l, z.s ≠ s) :
    Calls Try.prog 69 #[v, .agg #[.string (strOf s), .int .i64 t]] w fun e w' => ∃ v', e = .returned v' ∧ SlN w' v' (insN l ⟨s, t⟩) ∧ Below w.heap.size w w' := by
  obtain ⟨a, cap, rfl⟩ := Raw.slice h
  have H := Lib.hid h; clear h
  have Hs := Lib.hid hs; have Hno := Lib.hid hno
  clear hs hno
  obtain ⟨X, hX⟩ : ∃ X, X = w.heap.size := ⟨_, rfl⟩
  obtain ⟨w1, hw1⟩ : ∃ W, W = w.alloc (.cells #[.string (strOf s), .int .i64 t] 57) := ⟨_, rfl⟩
  have HW := Lib.hid hw1
  have hb1 : Below w.heap.size w w1 := by rw [hw1]; exact (Below.refl _ w).alloc (Nat.le_refl _) _
  have HX1 : Hid (w1.heap[X]? = some (.cells #[.string (strOf s), .int .i64 t] 57 (0, 0))) := Lib.hid (by rw [hw1, hX]; exact heap_alloc_new w _)
  clear hw1
  go_enter Try.func69, Try.ntmps69
  go_upto_region 1 with (fail)
  rw [← HW.out, ← hX]
  clear HW hX
  go_wp2
  go_loopw [5] (fun i wr => ∃ k : Nat, k ≤ l.length ∧ i = .int .i64 k ∧ (∀ j, j < k → slt (nmAt l j).s s = true) ∧ wr.heap[X]? = some (.cells #[.string (strOf s), .int .i64 t] 57 (0, 0)) ∧ Below w.heap.size w wr) (fun i _ => l.length - (intOf i).toNat)
  case atStart => exact ⟨0, Nat.zero_le _, rfl, fun j hj => by omega, HX1.out, hb1⟩
  case round =>
    clear HX1 hb1
    obtain ⟨k, hk, rfl, hlo, hXw, hbel⟩ := hrel
    have Hlo := Lib.hid hlo; have HXw := Lib.hid hXw
    clear hlo hXw
    by_cases hlt : k < l.length
    · obtain ⟨b, off, hae, hb, h0, h1⟩ := (H.out.below (hbel.drew)).elem hlt
      cases hc : slt (nmAt l k).s s
      · have HI : Hid (l.take k ++ ⟨s, t⟩ :: l.drop k = insN l ⟨s, t⟩) := Lib.hid (ins_eq Hlo.out (fun j hj hj2 => by
          have hk2 : slt s (nmAt l k).s = true := by
            rcases slt_total (Hno.out _ (List.mem_of_getElem? (nm_get hlt))) with h' | h'
            · rw [hc] at h'; cases h'
            · exact h'
          by_cases e : j = k
          · rw [e]; exact hk2
          · exact slt_trans hk2 (srt_at Hs.out (show k < j by omega) hj2)))
        have q : Op.bytesLess (strOf (nmAt l k).s).toList (strOf s).toList = false := by rw [strOf_list, strOf_list]; exact hc
        subst hae
        have x0 : wr.drew.cell? ⟨X, 0, none⟩ = some (.string (strOf s)) := box_at (w := wr.drew) HXw.out rfl
        obtain ⟨z, hz⟩ : ∃ z, nmAt l k = z := ⟨_, rfl⟩
        rw [hz] at h0 h1 q
        clear hz hc
        go_upto_region 2 with (fail)
        refine Txt.Ty.wp_tree [] [] [] [9, 11] [0, 1, 2, 3, 4, 5, 6, 7, 8, 9, 10, 11, 12, 13] .done (by kernel_rfl) (by kernel_rfl) (by kernel_rfl) (by kernel_rfl) (fun b hb => by cases hb) ?_
        (try simp only [Txt.pick, List.getElem?_cons_succ, List.getElem?_cons_zero])
        go_wp2
        refine Txt.RunPost.mk ?_
        refine Txt.Ty.wpTr_done (by rfl) trivial ?_
        obtain ⟨wq, hwq⟩ : ∃ W, W = wr.drew := ⟨_, rfl⟩
        rw [← hwq]
        have HXq : Hid (wq.heap[X]? = some (.cells #[.string (strOf s), .int .i64 t] 57 (0, 0))) := Lib.hid (by rw [hwq]; exact HXw.out)
        have hbelq : Below w.heap.size w wq := by rw [hwq]; exact hbel.drew
        clear hwq h0 h1 x0 q HXw hbel
        have hsz := hbelq.size
        obtain ⟨aT, hslT, hT⟩ := Raw.upto (H.out.below hbelq) Try.underlying22 (show (Try.prog.info? 57).map (·.size) = some 2 by kernel_rfl) (hi := k) hk
        obtain ⟨aU, hslU, hU⟩ := Raw.from (H.out.below hbelq) Try.underlying22 (show (Try.prog.info? 57).map (·.size) = some 2 by kernel_rfl) (lo := k) hk
        rw [flat_take encN encN_len] at hT
        rw [flat_drop encN encN_len] at hU
        have HT := Lib.hid hT; have HU := Lib.hid hU
        clear hT hU
        go_upto_region 4 with (fail)
        have hBl := show ∀ q ∈ [X], ∃ cc e f, wq.heap[q]? = some (.cells cc e f) from fun q hq => by rw [List.mem_singleton.1 hq]; exact ⟨_, _, _, HXq.out⟩
        refine Txt.Ty.wp_tree [X] [5] [6, 7, 11] [5] [1, 2, 3, 5, 8, 9, 10] (.alt [0] (.alt [4] (.alt [6] (.alt [7] (.alt [11, 12] (.done) (.no)) (.no)) (.no)) (.alt [6] (.alt [4] (.alt [7] (.alt [11, 12] (.done) (.no)) (.no)) (.no)) (.no))) (.alt [6] (.alt [0] (.alt [4] (.alt [7] (.alt [11, 12] (.done) (.no)) (.no)) (.no)) (.no)) (.no))) (by kernel_rfl) (by kernel_rfl) (by kernel_rfl) (by kernel_rfl) hBl ?_
        obtain ⟨y0, hy0⟩ : ∃ y, y = wq.drew := ⟨_, rfl⟩
        have HSy : Hid (Txt.SameB [X] y0 y0) := Lib.hid (by rw [hy0]; exact same_start hBl)
        clear hBl
        rw [← hy0]
        have hd : Below wq.heap.size wq y0 := by rw [hy0]; exact (Below.refl _ _).drew
        have bely := hbelq.trans (hd.mono hsz)
        have hby0 : Below y0.heap.size y0 y0 := Below.refl _ _
        have HT := Lib.hid (Raw.below HT.out hd)
        have HU := Lib.hid (Raw.below HU.out hd)
        have hx := (hd.block X (Array.getElem?_eq_some_iff.1 HXq.out).1).trans HXq.out
        have x0 : y0.cell? ⟨X, 0, none⟩ = some (.string (strOf s)) := box_at hx rfl
        have x1 : y0.cell? ⟨X, 1, none⟩ = some (.int .i64 t) := box_at hx rfl
        clear hx hd hy0
        (try simp only [Txt.pick, List.getElem?_cons_succ, List.getElem?_cons_zero])
        go_wp2
        refine Txt.RunPost.mk ?_
        clear x0 x1
        refine Txt.Ty.wpTr_alt ?_ (Txt.Ty.wpTr_alt ?_ Txt.Ty.wpTr_no)
        · (try simp only [Txt.pick, List.getElem?_cons_succ, List.getElem?_cons_zero])
          go_wp2
          obtain ⟨E, hE⟩ : ∃ q, q = y0.heap.size := ⟨_, rfl⟩
          obtain ⟨z1, hwz1⟩ : ∃ W, W = y0.alloc (.cells #[] 57) := ⟨_, rfl⟩
          have hbz1 : Below y0.heap.size y0 z1 := by rw [hwz1]; exact hby0.alloc hby0.size _
          have hzz1 : z1.heap.size = y0.heap.size + 1 := by rw [hwz1]; simp
          have HOz1 : Hid (z1.ownsRow y0.heap.size 57 2 (.slice (some ⟨E, 0, none⟩) 0 0) 0 (([] : List Nm).flatMap encN)) := Lib.hid (by rw [hwz1, hE]; exact own_empty y0 _ _ _ hby0.size)
          rw [← hwz1, ← hE]
          have hgz1 : E < z1.heap.size := by omega
          clear hwz1 hzz1 hE
          have HSz1 := Lib.hid (same_below' HSy.out hbz1)
          refine Txt.SegPost.mk (Txt.Ty.Shown.same HSz1.out) ?_
          (try simp only [Txt.pick, List.getElem?_cons_succ, List.getElem?_cons_zero])
          go_wp2
          refine Txt.RunPost.mk ?_
          refine Txt.Ty.wpTr_alt ?_ (Txt.Ty.wpTr_alt ?_ Txt.Ty.wpTr_no)
          · (try simp only [Txt.pick, List.getElem?_cons_succ, List.getElem?_cons_zero])
            have HT2 := Lib.hid (Raw.below HT.out hbz1)
            go_wp2_with (at_builtin; refine wpList_appF el22 Try.underlying22 HOz1.out HT2.out hbz1 rfl _ _ rfl rfl rfl ?c3 (Nat.le_refl _) ?c5 ?_)
            case c3 => omega
            case c5 => exact hbz1.size
            intro v2 z2 hown hbz2 hk hnew
            have HOz2 : Hid (z2.ownsRow y0.heap.size 57 2 v2 k ((l.take k).flatMap encN)) := Lib.hid (by simpa using hown)
            obtain ⟨a2, c2, hv2⟩ := own_slice HOz2.out
            subst hv2
            have HSz2 := Lib.hid (same_below' HSy.out hbz2)
            clear hown hk hnew
            go_wp2
            refine Txt.SegPost.mk (Txt.Ty.Shown.same HSz2.out) ?_
            (try simp only [Txt.pick, List.getElem?_cons_succ, List.getElem?_cons_zero])
            go_wp2
            refine Txt.RunPost.mk ?_
            refine Txt.Ty.wpTr_alt ?_ Txt.Ty.wpTr_no
            (try simp only [Txt.pick, List.getElem?_cons_succ, List.getElem?_cons_zero])
            go_wp2
            obtain ⟨G, hG⟩ : ∃ q, q = z2.heap.size := ⟨_, rfl⟩
            obtain ⟨z3, hwz3⟩ : ∃ W, W = z2.alloc (.cells #[.string (strOf s), .int .i64 t] 57) := ⟨_, rfl⟩
            have hbz3 : Below y0.heap.size y0 z3 := by rw [hwz3]; exact hbz2.alloc hbz2.size _
            have hzz3 : z3.heap.size = z2.heap.size + 1 := by rw [hwz3]; simp
            have HXz3 : Hid (z3.heap[G]? = some (.cells #[.string (strOf s), .int .i64 t] 57 (0, 0))) := Lib.hid (by rw [hwz3, hG]; exact heap_alloc_new z2 _)
            have HOz3 : Hid (z3.ownsRow y0.heap.size 57 2 (.slice a2 k c2) k ((l.take k).flatMap encN)) := Lib.hid (by rw [hwz3]; exact HOz2.out.alloc _)
            rw [← hwz3, ← hG]
            have hgz3 : G < z3.heap.size := by omega
            clear hwz3 hzz3 hG
            have HSz3 := Lib.hid (same_below' HSy.out hbz3)
            refine Txt.SegPost.mk (Txt.Ty.Shown.last rfl) ?_
            (try simp only [Txt.pick, List.getElem?_cons_succ, List.getElem?_cons_zero])
            go_wp2
            refine Txt.RunPost.mk ?_
            refine Txt.Ty.wpTr_alt ?_ Txt.Ty.wpTr_no
            (try simp only [Txt.pick, List.getElem?_cons_succ, List.getElem?_cons_zero])
            have HXr4 : Hid (Raw [] 2 z3 (.slice (some ⟨G, 0, none⟩) 1 1) 1 (encN ⟨s, t⟩)) := Lib.hid (boxN G ⟨s, t⟩ HXz3.out)
            go_wp2_with (at_builtin; refine wpList_appF el22 Try.underlying22 HOz3.out HXr4.out hbz3 rfl _ _ rfl rfl rfl ?c3 (Nat.le_refl _) ?c5 ?_)
            case c3 => omega
            case c5 => exact hbz3.size
            intro v4 z4 hown hbz4 hk hnew
            have HOz4 : Hid (z4.ownsRow y0.heap.size 57 2 v4 (k + 1) ((l.take k ++ [(⟨s, t⟩ : Nm)]).flatMap encN)) := Lib.hid (by simpa using hown)
            obtain ⟨a4, c4, hv4⟩ := own_slice HOz4.out
            subst hv4
            clear hown hk hnew
            go_wp2
            refine Txt.SegPost.mk (Txt.Ty.Shown.last rfl) ?_
            (try simp only [Txt.pick, List.getElem?_cons_succ, List.getElem?_cons_zero])
            go_wp2
            refine Txt.RunPost.mk ?_
            refine Txt.Ty.wpTr_alt ?_ Txt.Ty.wpTr_no
            (try simp only [Txt.pick, List.getElem?_cons_succ, List.getElem?_cons_zero])
            have HU5 := Lib.hid (Raw.below HU.out hbz4)
            go_wp2_with (at_builtin; refine wpList_appF el22 Try.underlying22 HOz4.out HU5.out hbz4 rfl _ _ rfl rfl rfl ?c3 (Nat.le_refl _) ?c5 ?_)
            case c3 => omega
            case c5 => exact hbz4.size
            intro v5 z5 hown hbz5 hk hnew
            have HF := Lib.hid (SlN.of_own (l := l.take k ++ ⟨s, t⟩ :: l.drop k) (by simpa using hown))
            clear hown hk hnew
            go_wp2
            refine Txt.SegPost.mk (Txt.Ty.Shown.last rfl) ?_
            (try simp only [Txt.pick, List.getElem?_cons_succ, List.getElem?_cons_zero])
            go_wp2
            refine Txt.RunPost.mk ?_
            refine Txt.Ty.wpTr_done (by rfl) ⟨.head _, trivial⟩ ?_
            go_wp2
            go_ret
            exact ⟨_, rfl, by rw [← HI.out]; exact HF.out, bely.trans (hbz5.mono bely.size)⟩
          · (try simp only [Txt.pick, List.getElem?_cons_succ, List.getElem?_cons_zero])
            go_wp2
            obtain ⟨G, hG⟩ : ∃ q, q = z1.heap.size := ⟨_, rfl⟩
            obtain ⟨z2, hwz2⟩ : ∃ W, W = z1.alloc (.cells #[.string (strOf s), .int .i64 t] 57) := ⟨_, rfl⟩
            have hbz2 : Below y0.heap.size y0 z2 := by rw [hwz2]; exact hbz1.alloc hbz1.size _
            have hzz2 : z2.heap.size = z1.heap.size + 1 := by rw [hwz2]; simp
            have HXz2 : Hid (z2.heap[G]? = some (.cells #[.string (strOf s), .int .i64 t] 57 (0, 0))) := Lib.hid (by rw [hwz2, hG]; exact heap_alloc_new z1 _)
            have HOz2 : Hid (z2.ownsRow y0.heap.size 57 2 (.slice (some ⟨E, 0, none⟩) 0 0) 0 (([] : List Nm).flatMap encN)) := Lib.hid (by rw [hwz2]; exact HOz1.out.alloc _)
            rw [← hwz2, ← hG]
            have hne : G ≠ E := by omega
            have hgz2 : G < z2.heap.size := by omega
            clear hwz2 hzz2 hG
            have HSz2 := Lib.hid (same_below' HSy.out hbz2)
            refine Txt.SegPost.mk (Txt.Ty.Shown.last rfl) ?_
            (try simp only [Txt.pick, List.getElem?_cons_succ, List.getElem?_cons_zero])
            go_wp2
            refine Txt.RunPost.mk ?_
            refine Txt.Ty.wpTr_alt ?_ Txt.Ty.wpTr_no
            (try simp only [Txt.pick, List.getElem?_cons_succ, List.getElem?_cons_zero])
            have HT3 := Lib.hid (Raw.below HT.out hbz2)
            go_wp2_with (at_builtin; refine wpList_appF el22 Try.underlying22 HOz2.out HT3.out hbz2 rfl _ _ rfl rfl rfl ?c3 (Nat.le_refl _) ?c5 ?_)
            case c3 => omega
            case c5 => exact hbz2.size
            intro v3 z3 hown hbz3 hk hnew
            have HOz3 : Hid (z3.ownsRow y0.heap.size 57 2 v3 k ((l.take k).flatMap encN)) := Lib.hid (by simpa using hown)
            have HXz3 := Lib.hid ((hk.block G (by omega) (by simp [Value.ownBlock]; exact hne)).trans HXz2.out)
            have hgs3 : G < z3.heap.size := by have := (Array.getElem?_eq_some_iff.1 HXz3.out).1; exact this
            obtain ⟨a3, c3, hv3⟩ := own_slice HOz3.out
            subst hv3
            have HSz3 := Lib.hid (same_below' HSy.out hbz3)
            clear hown hk hnew
            go_wp2
            refine Txt.SegPost.mk (Txt.Ty.Shown.same HSz3.out) ?_
            (try simp only [Txt.pick, List.getElem?_cons_succ, List.getElem?_cons_zero])
            go_wp2
            refine Txt.RunPost.mk ?_
            refine Txt.Ty.wpTr_alt ?_ Txt.Ty.wpTr_no
            (try simp only [Txt.pick, List.getElem?_cons_succ, List.getElem?_cons_zero])
            have HXr4 : Hid (Raw [] 2 z3 (.slice (some ⟨G, 0, none⟩) 1 1) 1 (encN ⟨s, t⟩)) := Lib.hid (boxN G ⟨s, t⟩ HXz3.out)
            go_wp2_with (at_builtin; refine wpList_appF el22 Try.underlying22 HOz3.out HXr4.out hbz3 rfl _ _ rfl rfl rfl ?c3 (Nat.le_refl _) ?c5 ?_)
            case c3 => omega
            case c5 => exact hbz3.size
            intro v4 z4 hown hbz4 hk hnew
            have HOz4 : Hid (z4.ownsRow y0.heap.size 57 2 v4 (k + 1) ((l.take k ++ [(⟨s, t⟩ : Nm)]).flatMap encN)) := Lib.hid (by simpa using hown)
            obtain ⟨a4, c4, hv4⟩ := own_slice HOz4.out
            subst hv4
            clear hown hk hnew
            go_wp2
            refine Txt.SegPost.mk (Txt.Ty.Shown.last rfl) ?_
            (try simp only [Txt.pick, List.getElem?_cons_succ, List.getElem?_cons_zero])
            go_wp2
            refine Txt.RunPost.mk ?_
            refine Txt.Ty.wpTr_alt ?_ Txt.Ty.wpTr_no
            (try simp only [Txt.pick, List.getElem?_cons_succ, List.getElem?_cons_zero])
            have HU5 := Lib.hid (Raw.below HU.out hbz4)
            go_wp2_with (at_builtin; refine wpList_appF el22 Try.underlying22 HOz4.out HU5.out hbz4 rfl _ _ rfl rfl rfl ?c3 (Nat.le_refl _) ?c5 ?_)
            case c3 => omega
            case c5 => exact hbz4.size
            intro v5 z5 hown hbz5 hk hnew
            have HF := Lib.hid (SlN.of_own (l := l.take k ++ ⟨s, t⟩ :: l.drop k) (by simpa using hown))
            clear hown hk hnew
            go_wp2
            refine Txt.SegPost.mk (Txt.Ty.Shown.last rfl) ?_
            (try simp only [Txt.pick, List.getElem?_cons_succ, List.getElem?_cons_zero])
            go_wp2
            refine Txt.RunPost.mk ?_
            refine Txt.Ty.wpTr_done (by rfl) ⟨.head _, trivial⟩ ?_
            go_wp2
            go_ret
            exact ⟨_, rfl, by rw [← HI.out]; exact HF.out, bely.trans (hbz5.mono bely.size)⟩
        · (try simp only [Txt.pick, List.getElem?_cons_succ, List.getElem?_cons_zero])
          go_wp2
          obtain ⟨G, hG⟩ : ∃ q, q = y0.heap.size := ⟨_, rfl⟩
          obtain ⟨z1, hwz1⟩ : ∃ W, W = y0.alloc (.cells #[.string (strOf s), .int .i64 t] 57) := ⟨_, rfl⟩
          have hbz1 : Below y0.heap.size y0 z1 := by rw [hwz1]; exact hby0.alloc hby0.size _
          have hzz1 : z1.heap.size = y0.heap.size + 1 := by rw [hwz1]; simp
          have HXz1 : Hid (z1.heap[G]? = some (.cells #[.string (strOf s), .int .i64 t] 57 (0, 0))) := Lib.hid (by rw [hwz1, hG]; exact heap_alloc_new y0 _)
          rw [← hwz1, ← hG]
          have hgz1 : G < z1.heap.size := by omega
          clear hwz1 hzz1 hG
          have HSz1 := Lib.hid (same_below' HSy.out hbz1)
          refine Txt.SegPost.mk (Txt.Ty.Shown.last rfl) ?_
          (try simp only [Txt.pick, List.getElem?_cons_succ, List.getElem?_cons_zero])
          go_wp2
          refine Txt.RunPost.mk ?_
          refine Txt.Ty.wpTr_alt ?_ Txt.Ty.wpTr_no
          (try simp only [Txt.pick, List.getElem?_cons_succ, List.getElem?_cons_zero])
          go_wp2
          obtain ⟨E, hE⟩ : ∃ q, q = z1.heap.size := ⟨_, rfl⟩
          obtain ⟨z2, hwz2⟩ : ∃ W, W = z1.alloc (.cells #[] 57) := ⟨_, rfl⟩
          have hbz2 : Below y0.heap.size y0 z2 := by rw [hwz2]; exact hbz1.alloc hbz1.size _
          have hzz2 : z2.heap.size = z1.heap.size + 1 := by rw [hwz2]; simp
          have HOz2 : Hid (z2.ownsRow y0.heap.size 57 2 (.slice (some ⟨E, 0, none⟩) 0 0) 0 (([] : List Nm).flatMap encN)) := Lib.hid (by rw [hwz2, hE]; exact own_empty z1 _ _ _ hbz1.size)
          have HXz2 : Hid (z2.heap[G]? = some (.cells #[.string (strOf s), .int .i64 t] 57 (0, 0))) := Lib.hid (by rw [hwz2]; exact (Below.heap_alloc z1 _ _ (by omega)).trans HXz1.out)
          rw [← hwz2, ← hE]
          have hne : G ≠ E := by omega
          have hgz2 : E < z2.heap.size := by omega
          have hgw2 : G < z2.heap.size := by omega
          clear hwz2 hzz2 hE
          have HSz2 := Lib.hid (same_below' HSy.out hbz2)
          refine Txt.SegPost.mk (Txt.Ty.Shown.same HSz2.out) ?_
          (try simp only [Txt.pick, List.getElem?_cons_succ, List.getElem?_cons_zero])
          go_wp2
          refine Txt.RunPost.mk ?_
          refine Txt.Ty.wpTr_alt ?_ Txt.Ty.wpTr_no
          (try simp only [Txt.pick, List.getElem?_cons_succ, List.getElem?_cons_zero])
          have HT3 := Lib.hid (Raw.below HT.out hbz2)
          go_wp2_with (at_builtin; refine wpList_appF el22 Try.underlying22 HOz2.out HT3.out hbz2 rfl _ _ rfl rfl rfl ?c3 (Nat.le_refl _) ?c5 ?_)
          case c3 => omega
          case c5 => exact hbz2.size
          intro v3 z3 hown hbz3 hk hnew
          have HOz3 : Hid (z3.ownsRow y0.heap.size 57 2 v3 k ((l.take k).flatMap encN)) := Lib.hid (by simpa using hown)
          have HXz3 := Lib.hid ((hk.block G (by omega) (by simp [Value.ownBlock]; exact hne)).trans HXz2.out)
          have hgs3 : G < z3.heap.size := by have := (Array.getElem?_eq_some_iff.1 HXz3.out).1; exact this
          obtain ⟨a3, c3, hv3⟩ := own_slice HOz3.out
          subst hv3
          have HSz3 := Lib.hid (same_below' HSy.out hbz3)
          clear hown hk hnew
          go_wp2
          refine Txt.SegPost.mk (Txt.Ty.Shown.same HSz3.out) ?_
          (try simp only [Txt.pick, List.getElem?_cons_succ, List.getElem?_cons_zero])
          go_wp2
          refine Txt.RunPost.mk ?_
          refine Txt.Ty.wpTr_alt ?_ Txt.Ty.wpTr_no
          (try simp only [Txt.pick, List.getElem?_cons_succ, List.getElem?_cons_zero])
          have HXr4 : Hid (Raw [] 2 z3 (.slice (some ⟨G, 0, none⟩) 1 1) 1 (encN ⟨s, t⟩)) := Lib.hid (boxN G ⟨s, t⟩ HXz3.out)
          go_wp2_with (at_builtin; refine wpList_appF el22 Try.underlying22 HOz3.out HXr4.out hbz3 rfl _ _ rfl rfl rfl ?c3 (Nat.le_refl _) ?c5 ?_)
          case c3 => omega
          case c5 => exact hbz3.size
          intro v4 z4 hown hbz4 hk hnew
          have HOz4 : Hid (z4.ownsRow y0.heap.size 57 2 v4 (k + 1) ((l.take k ++ [(⟨s, t⟩ : Nm)]).flatMap encN)) := Lib.hid (by simpa using hown)
          obtain ⟨a4, c4, hv4⟩ := own_slice HOz4.out
          subst hv4
          clear hown hk hnew
          go_wp2
          refine Txt.SegPost.mk (Txt.Ty.Shown.last rfl) ?_
          (try simp only [Txt.pick, List.getElem?_cons_succ, List.getElem?_cons_zero])
          go_wp2
          refine Txt.RunPost.mk ?_
          refine Txt.Ty.wpTr_alt ?_ Txt.Ty.wpTr_no
          (try simp only [Txt.pick, List.getElem?_cons_succ, List.getElem?_cons_zero])
          have HU5 := Lib.hid (Raw.below HU.out hbz4)
          go_wp2_with (at_builtin; refine wpList_appF el22 Try.underlying22 HOz4.out HU5.out hbz4 rfl _ _ rfl rfl rfl ?c3 (Nat.le_refl _) ?c5 ?_)
          case c3 => omega
          case c5 => exact hbz4.size
          intro v5 z5 hown hbz5 hk hnew
          have HF := Lib.hid (SlN.of_own (l := l.take k ++ ⟨s, t⟩ :: l.drop k) (by simpa using hown))
          clear hown hk hnew
          go_wp2
          refine Txt.SegPost.mk (Txt.Ty.Shown.last rfl) ?_
          (try simp only [Txt.pick, List.getElem?_cons_succ, List.getElem?_cons_zero])
          go_wp2
          refine Txt.RunPost.mk ?_
          refine Txt.Ty.wpTr_done (by rfl) ⟨.head _, trivial⟩ ?_
          go_wp2
          go_ret
          exact ⟨_, rfl, by rw [← HI.out]; exact HF.out, bely.trans (hbz5.mono bely.size)⟩
      · have Hlo2 : Hid (∀ j, j < k + 1 → slt (nmAt l j).s s = true) := Lib.hid (fun j hj => by
          by_cases e : j = k
          · rw [e]; exact hc
          · exact Hlo.out j (by omega))
        have q : Op.bytesLess (strOf (nmAt l k).s).toList (strOf s).toList = true := by rw [strOf_list, strOf_list]; exact hc
        subst hae
        have x0 : wr.drew.cell? ⟨X, 0, none⟩ = some (.string (strOf s)) := box_at (w := wr.drew) HXw.out rfl
        obtain ⟨z, hz⟩ : ∃ z, nmAt l k = z := ⟨_, rfl⟩
        rw [hz] at h0 h1 q
        clear hz hc
        go_upto_region 2 with (fail)
        refine Txt.Ty.wp_tree [] [] [] [9, 11] [0, 1, 2, 3, 4, 5, 6, 7, 8, 9, 10, 11, 12, 13] .done (by kernel_rfl) (by kernel_rfl) (by kernel_rfl) (by kernel_rfl) (fun b hb => by cases hb) ?_
        (try simp only [Txt.pick, List.getElem?_cons_succ, List.getElem?_cons_zero])
        go_wp2
        refine Txt.RunPost.mk ?_
        refine Txt.Ty.wpTr_done (by rfl) trivial ?_
        go_wp2
        go_roundw
        case rel => exact ⟨k + 1, by omega, by go_num, Hlo2.out, HXw.out, hbel.drew⟩
        case measure => simp [intOf]; omega
    · have HI : Hid (l.take k ++ ⟨s, t⟩ :: l.drop k = insN l ⟨s, t⟩) := Lib.hid (ins_eq Hlo.out (fun j hj hj2 => by omega))
      have hlt' : ¬ (k : Int) < (l.length : Int) := by omega
      go_upto_region 2 with (fail)
      refine Txt.Ty.wp_tree [] [] [] [9, 11] [0, 1, 2, 3, 4, 5, 6, 7, 8, 9, 10, 11, 12, 13] .done (by kernel_rfl) (by kernel_rfl) (by kernel_rfl) (by kernel_rfl) (fun b hb => by cases hb) ?_
      (try simp only [Txt.pick, List.getElem?_cons_succ, List.getElem?_cons_zero])
      go_wp2
      refine Txt.RunPost.mk ?_
      refine Txt.Ty.wpTr_done (by rfl) trivial ?_
      obtain ⟨wq, hwq⟩ : ∃ W, W = wr.drew := ⟨_, rfl⟩
      rw [← hwq]
      have HXq : Hid (wq.heap[X]? = some (.cells #[.string (strOf s), .int .i64 t] 57 (0, 0))) := Lib.hid (by rw [hwq]; exact HXw.out)
      have hbelq : Below w.heap.size w wq := by rw [hwq]; exact hbel.drew
      clear hwq HXw hbel
      have hsz := hbelq.size
      obtain ⟨aT, hslT, hT⟩ := Raw.upto (H.out.below hbelq) Try.underlying22 (show (Try.prog.info? 57).map (·.size) = some 2 by kernel_rfl) (hi := k) hk
      obtain ⟨aU, hslU, hU⟩ := Raw.from (H.out.below hbelq) Try.underlying22 (show (Try.prog.info? 57).map (·.size) = some 2 by kernel_rfl) (lo := k) hk
      rw [flat_take encN encN_len] at hT
      rw [flat_drop encN encN_len] at hU
      have HT := Lib.hid hT; have HU := Lib.hid hU
      clear hT hU
      go_upto_region 4 with (fail)
      have hBl := show ∀ q ∈ [X], ∃ cc e f, wq.heap[q]? = some (.cells cc e f) from fun q hq => by rw [List.mem_singleton.1 hq]; exact ⟨_, _, _, HXq.out⟩
      refine Txt.Ty.wp_tree [X] [5] [6, 7, 11] [5] [1, 2, 3, 5, 8, 9, 10] (.alt [0] (.alt [4] (.alt [6] (.alt [7] (.alt [11, 12] (.done) (.no)) (.no)) (.no)) (.alt [6] (.alt [4] (.alt [7] (.alt [11, 12] (.done) (.no)) (.no)) (.no)) (.no))) (.alt [6] (.alt [0] (.alt [4] (.alt [7] (.alt [11, 12] (.done) (.no)) (.no)) (.no)) (.no)) (.no))) (by kernel_rfl) (by kernel_rfl) (by kernel_rfl) (by kernel_rfl) hBl ?_
      obtain ⟨y0, hy0⟩ : ∃ y, y = wq.drew := ⟨_, rfl⟩
      have HSy : Hid (Txt.SameB [X] y0 y0) := Lib.hid (by rw [hy0]; exact same_start hBl)
      clear hBl
      rw [← hy0]
      have hd : Below wq.heap.size wq y0 := by rw [hy0]; exact (Below.refl _ _).drew
      have bely := hbelq.trans (hd.mono hsz)
      have hby0 : Below y0.heap.size y0 y0 := Below.refl _ _
      have HT := Lib.hid (Raw.below HT.out hd)
      have HU := Lib.hid (Raw.below HU.out hd)
      have hx := (hd.block X (Array.getElem?_eq_some_iff.1 HXq.out).1).trans HXq.out
      have x0 : y0.cell? ⟨X, 0, none⟩ = some (.string (strOf s)) := box_at hx rfl
      have x1 : y0.cell? ⟨X, 1, none⟩ = some (.int .i64 t) := box_at hx rfl
      clear hx hd hy0
      (try simp only [Txt.pick, List.getElem?_cons_succ, List.getElem?_cons_zero])
      go_wp2
      refine Txt.RunPost.mk ?_
      clear x0 x1
      refine Txt.Ty.wpTr_alt ?_ (Txt.Ty.wpTr_alt ?_ Txt.Ty.wpTr_no)
      · (try simp only [Txt.pick, List.getElem?_cons_succ, List.getElem?_cons_zero])
        go_wp2
        obtain ⟨E, hE⟩ : ∃ q, q = y0.heap.size := ⟨_, rfl⟩
        obtain ⟨z1, hwz1⟩ : ∃ W, W = y0.alloc (.cells #[] 57) := ⟨_, rfl⟩
        have hbz1 : Below y0.heap.size y0 z1 := by rw [hwz1]; exact hby0.alloc hby0.size _
        have hzz1 : z1.heap.size = y0.heap.size + 1 := by rw [hwz1]; simp
        have HOz1 : Hid (z1.ownsRow y0.heap.size 57 2 (.slice (some ⟨E, 0, none⟩) 0 0) 0 (([] : List Nm).flatMap encN)) := Lib.hid (by rw [hwz1, hE]; exact own_empty y0 _ _ _ hby0.size)
        rw [← hwz1, ← hE]
        have hgz1 : E < z1.heap.size := by omega
        clear hwz1 hzz1 hE
        have HSz1 := Lib.hid (same_below' HSy.out hbz1)
        refine Txt.SegPost.mk (Txt.Ty.Shown.same HSz1.out) ?_
        (try simp only [Txt.pick, List.getElem?_cons_succ, List.getElem?_cons_zero])
        go_wp2
        refine Txt.RunPost.mk ?_
        refine Txt.Ty.wpTr_alt ?_ (Txt.Ty.wpTr_alt ?_ Txt.Ty.wpTr_no)
        · (try simp only [Txt.pick, List.getElem?_cons_succ, List.getElem?_cons_zero])
          have HT2 := Lib.hid (Raw.below HT.out hbz1)
          go_wp2_with (at_builtin; refine wpList_appF el22 Try.underlying22 HOz1.out HT2.out hbz1 rfl _ _ rfl rfl rfl ?c3 (Nat.le_refl _) ?c5 ?_)
          case c3 => omega
          case c5 => exact hbz1.size
          intro v2 z2 hown hbz2 hk hnew
          have HOz2 : Hid (z2.ownsRow y0.heap.size 57 2 v2 k ((l.take k).flatMap encN)) := Lib.hid (by simpa using hown)
          obtain ⟨a2, c2, hv2⟩ := own_slice HOz2.out
          subst hv2
          have HSz2 := Lib.hid (same_below' HSy.out hbz2)
          clear hown hk hnew
          go_wp2
          refine Txt.SegPost.mk (Txt.Ty.Shown.same HSz2.out) ?_
          (try simp only [Txt.pick, List.getElem?_cons_succ, List.getElem?_cons_zero])
          go_wp2
          refine Txt.RunPost.mk ?_
          refine Txt.Ty.wpTr_alt ?_ Txt.Ty.wpTr_no
          (try simp only [Txt.pick, List.getElem?_cons_succ, List.getElem?_cons_zero])
          go_wp2
          obtain ⟨G, hG⟩ : ∃ q, q = z2.heap.size := ⟨_, rfl⟩
          obtain ⟨z3, hwz3⟩ : ∃ W, W = z2.alloc (.cells #[.string (strOf s), .int .i64 t] 57) := ⟨_, rfl⟩
          have hbz3 : Below y0.heap.size y0 z3 := by rw [hwz3]; exact hbz2.alloc hbz2.size _
          have hzz3 : z3.heap.size = z2.heap.size + 1 := by rw [hwz3]; simp
          have HXz3 : Hid (z3.heap[G]? = some (.cells #[.string (strOf s), .int .i64 t] 57 (0, 0))) := Lib.hid (by rw [hwz3, hG]; exact heap_alloc_new z2 _)
          have HOz3 : Hid (z3.ownsRow y0.heap.size 57 2 (.slice a2 k c2) k ((l.take k).flatMap encN)) := Lib.hid (by rw [hwz3]; exact HOz2.out.alloc _)
          rw [← hwz3, ← hG]
          have hgz3 : G < z3.heap.size := by omega
          clear hwz3 hzz3 hG
          have HSz3 := Lib.hid (same_below' HSy.out hbz3)
          refine Txt.SegPost.mk (Txt.Ty.Shown.last rfl) ?_
          (try simp only [Txt.pick, List.getElem?_cons_succ, List.getElem?_cons_zero])
          go_wp2
          refine Txt.RunPost.mk ?_
          refine Txt.Ty.wpTr_alt ?_ Txt.Ty.wpTr_no
          (try simp only [Txt.pick, List.getElem?_cons_succ, List.getElem?_cons_zero])
          have HXr4 : Hid (Raw [] 2 z3 (.slice (some ⟨G, 0, none⟩) 1 1) 1 (encN ⟨s, t⟩)) := Lib.hid (boxN G ⟨s, t⟩ HXz3.out)
          go_wp2_with (at_builtin; refine wpList_appF el22 Try.underlying22 HOz3.out HXr4.out hbz3 rfl _ _ rfl rfl rfl ?c3 (Nat.le_refl _) ?c5 ?_)
          case c3 => omega
          case c5 => exact hbz3.size
          intro v4 z4 hown hbz4 hk hnew
          have HOz4 : Hid (z4.ownsRow y0.heap.size 57 2 v4 (k + 1) ((l.take k ++ [(⟨s, t⟩ : Nm)]).flatMap encN)) := Lib.hid (by simpa using hown)
          obtain ⟨a4, c4, hv4⟩ := own_slice HOz4.out
          subst hv4
          clear hown hk hnew
          go_wp2
          refine Txt.SegPost.mk (Txt.Ty.Shown.last rfl) ?_
          (try simp only [Txt.pick, List.getElem?_cons_succ, List.getElem?_cons_zero])
          go_wp2
          refine Txt.RunPost.mk ?_
          refine Txt.Ty.wpTr_alt ?_ Txt.Ty.wpTr_no
          (try simp only [Txt.pick, List.getElem?_cons_succ, List.getElem?_cons_zero])
          have HU5 := Lib.hid (Raw.below HU.out hbz4)
          go_wp2_with (at_builtin; refine wpList_appF el22 Try.underlying22 HOz4.out HU5.out hbz4 rfl _ _ rfl rfl rfl ?c3 (Nat.le_refl _) ?c5 ?_)
          case c3 => omega
          case c5 => exact hbz4.size
          intro v5 z5 hown hbz5 hk hnew
          have HF := Lib.hid (SlN.of_own (l := l.take k ++ ⟨s, t⟩ :: l.drop k) (by simpa using hown))
          clear hown hk hnew
          go_wp2
          refine Txt.SegPost.mk (Txt.Ty.Shown.last rfl) ?_
          (try simp only [Txt.pick, List.getElem?_cons_succ, List.getElem?_cons_zero])
          go_wp2
          refine Txt.RunPost.mk ?_
          refine Txt.Ty.wpTr_done (by rfl) ⟨.head _, trivial⟩ ?_
          go_wp2
          go_ret
          exact ⟨_, rfl, by rw [← HI.out]; exact HF.out, bely.trans (hbz5.mono bely.size)⟩
        · (try simp only [Txt.pick, List.getElem?_cons_succ, List.getElem?_cons_zero])
          go_wp2
          obtain ⟨G, hG⟩ : ∃ q, q = z1.heap.size := ⟨_, rfl⟩
          obtain ⟨z2, hwz2⟩ : ∃ W, W = z1.alloc (.cells #[.string (strOf s), .int .i64 t] 57) := ⟨_, rfl⟩
          have hbz2 : Below y0.heap.size y0 z2 := by rw [hwz2]; exact hbz1.alloc hbz1.size _
          have hzz2 : z2.heap.size = z1.heap.size + 1 := by rw [hwz2]; simp
          have HXz2 : Hid (z2.heap[G]? = some (.cells #[.string (strOf s), .int .i64 t] 57 (0, 0))) := Lib.hid (by rw [hwz2, hG]; exact heap_alloc_new z1 _)
          have HOz2 : Hid (z2.ownsRow y0.heap.size 57 2 (.slice (some ⟨E, 0, none⟩) 0 0) 0 (([] : List Nm).flatMap encN)) := Lib.hid (by rw [hwz2]; exact HOz1.out.alloc _)
          rw [← hwz2, ← hG]
          have hne : G ≠ E := by omega
          have hgz2 : G < z2.heap.size := by omega
          clear hwz2 hzz2 hG
          have HSz2 := Lib.hid (same_below' HSy.out hbz2)
          refine Txt.SegPost.mk (Txt.Ty.Shown.last rfl) ?_
          (try simp only [Txt.pick, List.getElem?_cons_succ, List.getElem?_cons_zero])
          go_wp2
          refine Txt.RunPost.mk ?_
          refine Txt.Ty.wpTr_alt ?_ Txt.Ty.wpTr_no
          (try simp only [Txt.pick, List.getElem?_cons_succ, List.getElem?_cons_zero])
          have HT3 := Lib.hid (Raw.below HT.out hbz2)
          go_wp2_with (at_builtin; refine wpList_appF el22 Try.underlying22 HOz2.out HT3.out hbz2 rfl _ _ rfl rfl rfl ?c3 (Nat.le_refl _) ?c5 ?_)
          case c3 => omega
          case c5 => exact hbz2.size
          intro v3 z3 hown hbz3 hk hnew
          have HOz3 : Hid (z3.ownsRow y0.heap.size 57 2 v3 k ((l.take k).flatMap encN)) := Lib.hid (by simpa using hown)
          have HXz3 := Lib.hid ((hk.block G (by omega) (by simp [Value.ownBlock]; exact hne)).trans HXz2.out)
          have hgs3 : G < z3.heap.size := by have := (Array.getElem?_eq_some_iff.1 HXz3.out).1; exact this
          obtain ⟨a3, c3, hv3⟩ := own_slice HOz3.out
          subst hv3
          have HSz3 := Lib.hid (same_below' HSy.out hbz3)
          clear hown hk hnew
          go_wp2
          refine Txt.SegPost.mk (Txt.Ty.Shown.same HSz3.out) ?_
          (try simp only [Txt.pick, List.getElem?_cons_succ, List.getElem?_cons_zero])
          go_wp2
          refine Txt.RunPost.mk ?_
          refine Txt.Ty.wpTr_alt ?_ Txt.Ty.wpTr_no
          (try simp only [Txt.pick, List.getElem?_cons_succ, List.getElem?_cons_zero])
          have HXr4 : Hid (Raw [] 2 z3 (.slice (some ⟨G, 0, none⟩) 1 1) 1 (encN ⟨s, t⟩)) := Lib.hid (boxN G ⟨s, t⟩ HXz3.out)
          go_wp2_with (at_builtin; refine wpList_appF el22 Try.underlying22 HOz3.out HXr4.out hbz3 rfl _ _ rfl rfl rfl ?c3 (Nat.le_refl _) ?c5 ?_)
          case c3 => omega
          case c5 => exact hbz3.size
          intro v4 z4 hown hbz4 hk hnew
          have HOz4 : Hid (z4.ownsRow y0.heap.size 57 2 v4 (k + 1) ((l.take k ++ [(⟨s, t⟩ : Nm)]).flatMap encN)) := Lib.hid (by simpa using hown)
          obtain ⟨a4, c4, hv4⟩ := own_slice HOz4.out
          subst hv4
          clear hown hk hnew
          go_wp2
          refine Txt.SegPost.mk (Txt.Ty.Shown.last rfl) ?_
          (try simp only [Txt.pick, List.getElem?_cons_succ, List.getElem?_cons_zero])
          go_wp2
          refine Txt.RunPost.mk ?_
          refine Txt.Ty.wpTr_alt ?_ Txt.Ty.wpTr_no
          (try simp only [Txt.pick, List.getElem?_cons_succ, List.getElem?_cons_zero])
          have HU5 := Lib.hid (Raw.below HU.out hbz4)
          go_wp2_with (at_builtin; refine wpList_appF el22 Try.underlying22 HOz4.out HU5.out hbz4 rfl _ _ rfl rfl rfl ?c3 (Nat.le_refl _) ?c5 ?_)
          case c3 => omega
          case c5 => exact hbz4.size
          intro v5 z5 hown hbz5 hk hnew
          have HF := Lib.hid (SlN.of_own (l := l.take k ++ ⟨s, t⟩ :: l.drop k) (by simpa using hown))
          clear hown hk hnew
          go_wp2
          refine Txt.SegPost.mk (Txt.Ty.Shown.last rfl) ?_
          (try simp only [Txt.pick, List.getElem?_cons_succ, List.getElem?_cons_zero])
          go_wp2
          refine Txt.RunPost.mk ?_
          refine Txt.Ty.wpTr_done (by rfl) ⟨.head _, trivial⟩ ?_
          go_wp2
          go_ret
          exact ⟨_, rfl, by rw [← HI.out]; exact HF.out, bely.trans (hbz5.mono bely.size)⟩
      · (try simp only [Txt.pick, List.getElem?_cons_succ, List.getElem?_cons_zero])
        go_wp2
        obtain ⟨G, hG⟩ : ∃ q, q = y0.heap.size := ⟨_, rfl⟩
        obtain ⟨z1, hwz1⟩ : ∃ W, W = y0.alloc (.cells #[.string (strOf s), .int .i64 t] 57) := ⟨_, rfl⟩
        have hbz1 : Below y0.heap.size y0 z1 := by rw [hwz1]; exact hby0.alloc hby0.size _
        have hzz1 : z1.heap.size = y0.heap.size + 1 := by rw [hwz1]; simp
        have HXz1 : Hid (z1.heap[G]? = some (.cells #[.string (strOf s), .int .i64 t] 57 (0, 0))) := Lib.hid (by rw [hwz1, hG]; exact heap_alloc_new y0 _)
        rw [← hwz1, ← hG]
        have hgz1 : G < z1.heap.size := by omega
        clear hwz1 hzz1 hG
        have HSz1 := Lib.hid (same_below' HSy.out hbz1)
        refine Txt.SegPost.mk (Txt.Ty.Shown.last rfl) ?_
        (try simp only [Txt.pick, List.getElem?_cons_succ, List.getElem?_cons_zero])
        go_wp2
        refine Txt.RunPost.mk ?_
        refine Txt.Ty.wpTr_alt ?_ Txt.Ty.wpTr_no
        (try simp only [Txt.pick, List.getElem?_cons_succ, List.getElem?_cons_zero])
        go_wp2
        obtain ⟨E, hE⟩ : ∃ q, q = z1.heap.size := ⟨_, rfl⟩
        obtain ⟨z2, hwz2⟩ : ∃ W, W = z1.alloc (.cells #[] 57) := ⟨_, rfl⟩
        have hbz2 : Below y0.heap.size y0 z2 := by rw [hwz2]; exact hbz1.alloc hbz1.size _
        have hzz2 : z2.heap.size = z1.heap.size + 1 := by rw [hwz2]; simp
        have HOz2 : Hid (z2.ownsRow y0.heap.size 57 2 (.slice (some ⟨E, 0, none⟩) 0 0) 0 (([] : List Nm).flatMap encN)) := Lib.hid (by rw [hwz2, hE]; exact own_empty z1 _ _ _ hbz1.size)
        have HXz2 : Hid (z2.heap[G]? = some (.cells #[.string (strOf s), .int .i64 t] 57 (0, 0))) := Lib.hid (by rw [hwz2]; exact (Below.heap_alloc z1 _ _ (by omega)).trans HXz1.out)
        rw [← hwz2, ← hE]
        have hne : G ≠ E := by omega
        have hgz2 : E < z2.heap.size := by omega
        have hgw2 : G < z2.heap.size := by omega
        clear hwz2 hzz2 hE
        have HSz2 := Lib.hid (same_below' HSy.out hbz2)
        refine Txt.SegPost.mk (Txt.Ty.Shown.same HSz2.out) ?_
        (try simp only [Txt.pick, List.getElem?_cons_succ, List.getElem?_cons_zero])
        go_wp2
        refine Txt.RunPost.mk ?_
        refine Txt.Ty.wpTr_alt ?_ Txt.Ty.wpTr_no
        (try simp only [Txt.pick, List.getElem?_cons_succ, List.getElem?_cons_zero])
        have HT3 := Lib.hid (Raw.below HT.out hbz2)
        go_wp2_with (at_builtin; refine wpList_appF el22 Try.underlying22 HOz2.out HT3.out hbz2 rfl _ _ rfl rfl rfl ?c3 (Nat.le_refl _) ?c5 ?_)
        case c3 => omega
        case c5 => exact hbz2.size
        intro v3 z3 hown hbz3 hk hnew
        have HOz3 : Hid (z3.ownsRow y0.heap.size 57 2 v3 k ((l.take k).flatMap encN)) := Lib.hid (by simpa using hown)
        have HXz3 := Lib.hid ((hk.block G (by omega) (by simp [Value.ownBlock]; exact hne)).trans HXz2.out)
        have hgs3 : G < z3.heap.size := by have := (Array.getElem?_eq_some_iff.1 HXz3.out).1; exact this
        obtain ⟨a3, c3, hv3⟩ := own_slice HOz3.out
        subst hv3
        have HSz3 := Lib.hid (same_below' HSy.out hbz3)
        clear hown hk hnew
        go_wp2
        refine Txt.SegPost.mk (Txt.Ty.Shown.same HSz3.out) ?_
        (try simp only [Txt.pick, List.getElem?_cons_succ, List.getElem?_cons_zero])
        go_wp2
        refine Txt.RunPost.mk ?_
        refine Txt.Ty.wpTr_alt ?_ Txt.Ty.wpTr_no
        (try simp only [Txt.pick, List.getElem?_cons_succ, List.getElem?_cons_zero])
        have HXr4 : Hid (Raw [] 2 z3 (.slice (some ⟨G, 0, none⟩) 1 1) 1 (encN ⟨s, t⟩)) := Lib.hid (boxN G ⟨s, t⟩ HXz3.out)
        go_wp2_with (at_builtin; refine wpList_appF el22 Try.underlying22 HOz3.out HXr4.out hbz3 rfl _ _ rfl rfl rfl ?c3 (Nat.le_refl _) ?c5 ?_)
        case c3 => omega
        case c5 => exact hbz3.size
        intro v4 z4 hown hbz4 hk hnew
        have HOz4 : Hid (z4.ownsRow y0.heap.size 57 2 v4 (k + 1) ((l.take k ++ [(⟨s, t⟩ : Nm)]).flatMap encN)) := Lib.hid (by simpa using hown)
        obtain ⟨a4, c4, hv4⟩ := own_slice HOz4.out
        subst hv4
        clear hown hk hnew
        go_wp2
        refine Txt.SegPost.mk (Txt.Ty.Shown.last rfl) ?_
        (try simp only [Txt.pick, List.getElem?_cons_succ, List.getElem?_cons_zero])
        go_wp2
        refine Txt.RunPost.mk ?_
        refine Txt.Ty.wpTr_alt ?_ Txt.Ty.wpTr_no
        (try simp only [Txt.pick, List.getElem?_cons_succ, List.getElem?_cons_zero])
        have HU5 := Lib.hid (Raw.below HU.out hbz4)
        go_wp2_with (at_builtin; refine wpList_appF el22 Try.underlying22 HOz4.out HU5.out hbz4 rfl _ _ rfl rfl rfl ?c3 (Nat.le_refl _) ?c5 ?_)
        case c3 => omega
        case c5 => exact hbz4.size
        intro v5 z5 hown hbz5 hk hnew
        have HF := Lib.hid (SlN.of_own (l := l.take k ++ ⟨s, t⟩ :: l.drop k) (by simpa using hown))
        clear hown hk hnew
        go_wp2
        refine Txt.SegPost.mk (Txt.Ty.Shown.last rfl) ?_
        (try simp only [Txt.pick, List.getElem?_cons_succ, List.getElem?_cons_zero])
        go_wp2
        refine Txt.RunPost.mk ?_
        refine Txt.Ty.wpTr_done (by rfl) ⟨.head _, trivial⟩ ?_
        go_wp2
        go_ret
        exact ⟨_, rfl, by rw [← HI.out]; exact HF.out, bely.trans (hbz5.mono bely.size)⟩
end Go.Proofs.Ytfgbkfifiioeiaa
