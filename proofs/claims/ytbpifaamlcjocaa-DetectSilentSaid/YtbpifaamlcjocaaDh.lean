/- Detect: DetectAll -/
import Derived.Test.YtbpifaamlcjocaaDg
namespace Go.Dt
theorem nodup_of {l : List Int} (h : l.Pairwise (· < ·)) : l.Nodup := h.imp fun {a b} hab => Int.ne_of_lt hab
theorem count_take_succ {l : List Int} {k : Nat} (hk : k < l.length) (x : Int) : (l.take (k + 1)).count x = (l.take k).count x + if l[k] = x then 1 else 0 := by
  rw [List.take_succ_eq_append_getElem hk, List.count_append, List.count_singleton]
  by_cases h : l[k] = x <;> simp [h]
theorem less_len1 {l : List Int} (h : l.Pairwise (· < ·)) {x : Int} (hx : x ∈ l) : (less l x).length = l.length - 1 := by
  obtain ⟨k, hk, rfl⟩ := List.getElem_of_mem hx
  rw [← erase_less h hk, List.length_eraseIdx_of_lt hk]
theorem count_one {l : List Int} {x : Int} (h : l.Pairwise (· < ·)) (hx : x ∈ l) : l.count x = 1 := by
  have h1 := List.nodup_iff_count.1 (nodup_of h) x
  have h2 := List.count_pos_iff.2 hx
  omega
end Go.Dt
namespace Go.Proofs.Ytbpifaamlcjocaa
open Go.RowKit Go.Bs Go.Cl Go.Rw Go.Dt Go.Sort Go.So
theorem ints_fresh {F : List Nat} {w : World} {v : Value} {l : List Int} (h : Ints F w v l) {B : Nat} (hB : w.heap.size ≤ B) : Ints [B] w v l := Raw.fresh h (fun f hf => .inr (by rw [List.mem_singleton.1 hf]; exact hB))
theorem ints_keep {w w' : World} {v : Value} {l : List Int} {B : Nat} (h : Ints [B] w v l) (hk : Keep [B] w w') : Ints [B] w' v l := Raw.keep h hk (fun _ h => .inl h) (fun _ h => .inl h)
set_option maxRecDepth 100000 in
set_option maxHeartbeats 8000000 in
theorem all_any (v : Value) (ts : List Int) (w : World) (h : Ints [] w v ts) : Calls Try.prog 4 #[v] w fun e w' => e = .returned (.bool true) ∧ Below w.heap.size w w' := by
  obtain ⟨a, cap, rfl⟩ := Raw.slice h
  have H := Lib.hid h; clear h
  go_enter Try.func4, Try.ntmps4
  go_wp2_with fail
  refine (awake_any w).mono ?_
  rintro e w1 ⟨rfl, hb1⟩
  have HB1 := Lib.hid hb1
  by_cases h40 : 40 < ts.length
  · clear hb1
    go_wp2
    go_ret
    exact ⟨rfl, HB1.out⟩
  have hs1 := hb1.size
  clear hb1
  go_wp2
  go_loopw [3] (fun i wr => ∃ k : Nat, k ≤ ts.length ∧ i = .int .i64 k ∧ w1 = wr ∧ ∀ j, (hj : j < ts.length) → j < k → 1 ≤ ts[j] ∧ ts[j] < 32) (fun i _ => ts.length - (intOf i).toNat)
  case atStart => exact ⟨0, Nat.zero_le _, rfl, rfl, fun j _ hj => absurd hj (Nat.not_lt_zero _)⟩
  case round =>
    obtain ⟨k, hk, rfl, rfl, hok⟩ := hrel
    have HOK := Lib.hid hok; clear hok
    by_cases hlt : k < ts.length
    · obtain ⟨b, off, c', e', hb, h0⟩ := Ints.elem (Raw.below H.out HB1.out) hlt
      cases e'
      obtain ⟨y, hy⟩ : ∃ y, y = ts[k] := ⟨_, rfl⟩
      have HY := Lib.hid hy
      rw [← hy] at h0; clear hy
      by_cases g1 : y < 1
      · go_wp2
        go_ret
        exact ⟨rfl, HB1.out⟩
      · by_cases g2 : 32 ≤ y
        · go_wp2
          go_ret
          exact ⟨rfl, HB1.out⟩
        · go_wp2
          go_roundw
          case rel => exact ⟨k + 1, by omega, by go_num, trivial, fun j hj hjk => by
            by_cases e : j = k
            · subst e; rw [← HY.out]; omega
            · exact HOK.out j hj (by omega)⟩
          case measure => simp [intOf]; omega
    · obtain rfl : k = ts.length := by omega
      have HP : Hid (∀ x ∈ ts, 1 ≤ x ∧ x < 32) := Lib.hid (fun x hx => by
        obtain ⟨j, hj, rfl⟩ := List.getElem_of_mem hx
        exact HOK.out j hj hj)
      clear HOK
      go_wp2_with fail
      refine (ping_ok 0 [] ts _ _ _ (by simp) (by omega) (Raw.empty _ _ _) (Raw.below H.out HB1.out) OkB.start (by omega) HP.out).mono ?_
      rw [show (0 : Int) + 1 = 1 by omega]
      rintro e w2 ⟨v2, v3, rfl, hown2, hown3, hb2⟩
      obtain ⟨xa, ya, rfl⟩ := own_slice hown2
      obtain ⟨xb, yb, rfl⟩ := own_slice hown3
      have hs2 := hb2.size
      obtain ⟨B, hB⟩ : ∃ B, B = w2.heap.size := ⟨_, rfl⟩
      obtain ⟨W, hW⟩ : ∃ W, W = w2.alloc (.cells #[.int .i64 1, .slice xa (once ts).length ya] 26) := ⟨_, rfl⟩
      have HW := Lib.hid hW
      have hbW : Below w1.heap.size w1 W := by rw [hW]; exact hb2.alloc hs2 _
      have HBW : Hid (Below w.heap.size w W) := Lib.hid (HB1.out.trans (hbW.mono hs1))
      have HBX : Hid (W.heap[B]? = some (.cells #[.int .i64 1, .slice xa (once ts).length ya] 26 (0, 0))) := Lib.hid (by rw [hW, hB]; exact heap_alloc_new w2 _)
      have HIW : Hid (Ints [B] W (.slice xa (once ts).length ya) (once ts)) := Lib.hid (by rw [hW]; exact Raw.alloc (ints_fresh (Ints.of_own hown2) (by omega)) _)
      have hBW : B < W.heap.size := by rw [hW]; simp; omega
      have hwB : w.heap.size ≤ B := by omega
      have hHB := Lib.hid hB
      have HOB := Lib.hid (once_ok (r := 1) (by omega) (by omega) HP.out)
      have HN : Hid ((once ts).length ≤ 40) := Lib.hid (by have := once_len (l := ts); omega)
      clear hown2 hown3 hb2 hW hbW
      go_upto_region 11 with (fail)
      rw [← HW.out]
      rw [← hB]
      clear hB HW hHB
      have o0 := box_at HBX.out (j := 0) rfl
      have o1 := box_at HBX.out (j := 1) rfl
      go_wp2_with fail
      refine (valid_ok 1 (once ts) _ _ (by have := HN.out; omega) (Raw.to_nil HIW.out) HOB.out).mono ?_
      rintro e w3 ⟨rfl, hb3⟩
      have hs3 := hb3.size
      have HB3 : Hid (Below w.heap.size w w3) := Lib.hid (HBW.out.trans (hb3.mono HBW.out.size))
      have HX3 := Lib.hid ((hb3.block B hBW).trans HBX.out)
      have HI3 := Lib.hid (show Ints [B] w3 _ _ from Raw.below HIW.out hb3)
      clear hb3 o0 o1 HBW HBX HIW
      go_wp2
      go_loopw [7] (fun i wr => ∃ k : Nat, k ≤ ts.length ∧ i = .int .i64 k ∧ Below w.heap.size w wr ∧ wr.heap[B]? = some (.cells #[.int .i64 1, .slice xa (once ts).length ya] 26 (0, 0)) ∧ Ints [B] wr (.slice xa (once ts).length ya) (once ts)) (fun i _ => ts.length - (intOf i).toNat)
      case atStart => exact ⟨0, Nat.zero_le _, rfl, HB3.out, HX3.out, HI3.out⟩
      case round =>
        clear HB3 HX3 HI3
        obtain ⟨k, hk, rfl, hbel, hbox, hint⟩ := hrel
        have HB := Lib.hid hbel; have HX := Lib.hid hbox; have HI := Lib.hid hint
        clear hbel hbox hint
        by_cases hlt : k < ts.length
        · have HT := Lib.hid (Ints.elem H.out hlt)
          obtain ⟨x, hx⟩ : ∃ x, x = ts[k] := ⟨_, rfl⟩
          have HC : Hid ((once ts).count x = 1) := Lib.hid (count_one HOB.out.srt (once_mem.2 (by rw [hx]; exact List.getElem_mem hlt)))
          rw [← hx] at HT
          clear hx
          go_wp2
          go_loopw [8, 9] (fun c i wr => ∃ j : Nat, j ≤ (once ts).length ∧ i = .int .i64 j ∧ c = .int .i64 (((once ts).take j).count x) ∧ Below w.heap.size w wr ∧ wr.heap[B]? = some (.cells #[.int .i64 1, .slice xa (once ts).length ya] 26 (0, 0)) ∧ Ints [B] wr (.slice xa (once ts).length ya) (once ts)) (fun _ i _ => (once ts).length - (intOf i).toNat)
          case atStart => exact ⟨0, Nat.zero_le _, rfl, by simp, HB.out, HX.out, HI.out⟩
          case round =>
            clear HB HX HI
            have hn40 := HN.out
            obtain ⟨j, hj, rfl, rfl, hbel, hbox, hint⟩ := hrel
            have HB := Lib.hid hbel; have HX := Lib.hid hbox; have HI := Lib.hid hint
            have o1 := box_at hbox (j := 1) rfl
            by_cases hjl : j < (once ts).length
            · obtain ⟨b, off, c', e', hb, h0⟩ := HT.out
              obtain ⟨b2, off2, c2, e2, hb2, h2⟩ := Ints.elem hint hjl
              have h0' := (HB.out.cell (p := ⟨b, off + k, none⟩) hb).trans h0
              cases e'; cases e2
              have hst := count_take_succ hjl x
              generalize (once ts)[j] = y at h2 hst
              have hcn : ((once ts).take j).count x ≤ 40 := by
                have h1 := List.count_le_length (a := x) (l := (once ts).take j)
                have h2 := List.length_take_le j (once ts)
                omega
              generalize ((once ts).take j).count x = n at hst hcn
              have HST := Lib.hid hst
              clear hbel hbox hint h0 hst
              by_cases hxy : y = x
              · go_wp2
                refine Txt.wp_txt (by kernel_rfl) (by kernel_rfl) ?_
                go_wp2
                refine Txt.DrawPost.mk0 (by rfl) ?_
                go_wp2
                go_roundw
                case rel => exact ⟨j + 1, by omega, by go_num, by rw [HST.out, if_pos hxy]; go_num, HB.out.drew, HX.out, HI.out⟩
                case measure => simp [intOf]; omega
              · go_wp2
                refine Txt.wp_txt (by kernel_rfl) (by kernel_rfl) ?_
                go_wp2
                refine Txt.DrawPost.mk0 (by rfl) ?_
                go_wp2
                go_roundw
                case rel => exact ⟨j + 1, by omega, by go_num, by rw [HST.out, if_neg hxy]; go_num, HB.out.drew, HX.out, HI.out⟩
                case measure => simp [intOf]; omega
            · obtain rfl : j = (once ts).length := by omega
              clear hbel hbox hint
              rw [List.take_length, HC.out]
              go_wp2
              go_roundw
              case rel => exact ⟨k + 1, by omega, by go_num, HB.out, HX.out, HI.out⟩
              case measure => simp [intOf]; omega
        · go_wp2
          go_loopw [10] (fun i wr => ∃ k : Nat, 1 ≤ k ∧ (k ≤ (once ts).length ∨ k = 1) ∧ i = .int .i64 k ∧ Below w.heap.size w wr ∧ wr.heap[B]? = some (.cells #[.int .i64 1, .slice xa (once ts).length ya] 26 (0, 0)) ∧ Ints [B] wr (.slice xa (once ts).length ya) (once ts)) (fun i _ => (once ts).length + 1 - (intOf i).toNat)
          case atStart => exact ⟨1, Nat.le_refl _, .inr rfl, rfl, HB.out, HX.out, HI.out⟩
          case round =>
            clear HB HX HI
            have hn40 := HN.out
            obtain ⟨k, hk1, hk, rfl, hbel, hbox, hint⟩ := hrel
            have HB := Lib.hid hbel; have HX := Lib.hid hbox; have HI := Lib.hid hint
            have o1 := box_at hbox (j := 1) rfl
            by_cases hkl : k < (once ts).length
            · have hkl' : k - 1 < (once ts).length := by omega
              obtain ⟨b, off, c', e', hb, h0⟩ := Ints.elem hint hkl
              obtain ⟨b2, off2, c2, e2, hb2, h2⟩ := Ints.elem hint hkl'
              cases e'; cases e2
              have hs : ¬ (once ts)[k] ≤ (once ts)[k - 1] := by have := List.pairwise_iff_getElem.1 HOB.out.srt (k - 1) k hkl' hkl (by omega); omega
              generalize (once ts)[k] = x at h0 hs
              generalize (once ts)[k - 1] = y at h2 hs
              have hkc : ((k : Int) - 1).toNat = k - 1 := by omega
              clear hbel hbox hint
              go_wp2
              refine Txt.wp_txt (by kernel_rfl) (by kernel_rfl) ?_
              go_wp2
              refine Txt.DrawPost.mk0 (by rfl) ?_
              go_wp2
              go_roundw
              case rel => exact ⟨k + 1, by omega, by omega, by go_num, HB.out.drew, HX.out, HI.out⟩
              case measure => simp [intOf]; omega
            · go_wp2
              clear HB HX HI
              go_loopw [11] (fun i wr => ∃ (l : List Int) (v : Value), i = .int .i64 l.length ∧ l.length ≤ 40 ∧ OkB 1 l ∧ Below w.heap.size w wr ∧ wr.heap[B]? = some (.cells #[.int .i64 1, v] 26 (0, 0)) ∧ Ints [B] wr v l) (fun i _ => (intOf i).toNat)
              case atStart => exact ⟨once ts, _, rfl, HN.out, HOB.out, hbel, hbox, hint⟩
              case round =>
                clear hbel hbox hint o1
                obtain ⟨l, v, rfl, hl40, hol, hbel, hbox, hint⟩ := hrel
                have HOL := Lib.hid hol; have HB := Lib.hid hbel; have HX := Lib.hid hbox
                obtain ⟨av, cv, rfl⟩ := Raw.slice hint
                have HI := Lib.hid hint
                have o0 := box_at hbox (j := 0) rfl
                have o1 := box_at hbox (j := 1) rfl
                have hwr := hbel.size
                have hBwr : B < wr.heap.size := (Array.getElem?_eq_some_iff.1 hbox).1
                by_cases hl0 : 0 < l.length
                · obtain ⟨m, hm⟩ : ∃ m : Nat, (l.length : Int) / 2 = m := ⟨l.length / 2, by omega⟩
                  have hml : m < l.length := by omega
                  obtain ⟨b, off, c', e', hb, h0⟩ := Ints.elem hint hml
                  cases e'
                  have hxm : l[m] ∈ l := List.getElem_mem hml
                  generalize l[m] = x at h0 hxm
                  have HM := Lib.hid hxm
                  have HLL := Lib.hid (less_len1 hol.srt hxm)
                  have hBl : ∀ q ∈ [B, b], ∃ c e f, wr.heap[q]? = some (.cells c e f) := fun q hq => by
                    rcases List.mem_cons.1 hq with rfl | hq
                    · exact ⟨_, _, _, hbox⟩
                    · rw [List.mem_singleton.1 hq]; exact Txt.cells_of h0
                  have HS0 := Lib.hid (same_start hBl)
                  clear hbel hbox hint hol hxm
                  go_upto_region 32 with (fail)
                  refine Txt.Ty.wp_tree [B, b] [0, 2, 6] [12] [0, 2, 6] [0, 1, 2, 3, 4, 5, 6] (.alt [7, 8, 9, 10] (.alt [11] (.alt [12, 13] (.done) (.no)) (.no)) (.alt [11] (.alt [7, 8, 9, 10] (.alt [12, 13] (.done) (.no)) (.no)) (.no))) (by kernel_rfl) (by kernel_rfl) (by kernel_rfl) (by kernel_rfl) hBl ?_
                  clear hBl
                  (try simp only [Txt.pick, List.getElem?_cons_succ, List.getElem?_cons_zero])
                  go_wp2
                  refine Txt.RunPost.mk ?_
                  refine Txt.Ty.wpTr_alt ?_ (Txt.Ty.wpTr_alt ?_ Txt.Ty.wpTr_no)
                  · (try simp only [Txt.pick, List.getElem?_cons_succ, List.getElem?_cons_zero])
                    go_wp2_with fail
                    refine (pong_ok 1 x l _ wr.drew (by omega) (Raw.to_nil HI.out) HOL.out HM.out).mono ?_
                    rintro e w6 ⟨v6, rfl, hown6, hb6⟩
                    obtain ⟨a6, c6, rfl⟩ := own_slice hown6
                    have hs6 : wr.heap.size ≤ w6.heap.size := hb6.size
                    have HS6 := Lib.hid (same_below' HS0.out hb6)
                    have HO6 := Lib.hid hown6
                    have HB6 := Lib.hid hb6
                    clear hown6 hb6
                    go_wp2
                    refine Txt.SegPost.mk (Txt.Ty.Shown.same HS6.out) ?_
                    (try simp only [Txt.pick, List.getElem?_cons_succ, List.getElem?_cons_zero])
                    go_wp2
                    refine Txt.RunPost.mk ?_
                    refine Txt.Ty.wpTr_alt ?_ Txt.Ty.wpTr_no
                    (try simp only [Txt.pick, List.getElem?_cons_succ, List.getElem?_cons_zero])
                    go_wp2
                    refine Txt.SegPost.mk (Txt.Ty.Shown.same (same_below' HS6.out ((Below.refl _ w6).alloc (Nat.le_refl _) _))) ?_
                    (try simp only [Txt.pick, List.getElem?_cons_succ, List.getElem?_cons_zero])
                    go_wp2
                    refine Txt.RunPost.mk ?_
                    refine Txt.Ty.wpTr_alt ?_ Txt.Ty.wpTr_no
                    (try simp only [Txt.pick, List.getElem?_cons_succ, List.getElem?_cons_zero])
                    go_wp2
                    refine Txt.SegPost.mk (Txt.Ty.Shown.last rfl) ?_
                    (try simp only [Txt.pick, List.getElem?_cons_succ, List.getElem?_cons_zero])
                    go_wp2
                    refine Txt.RunPost.mk ?_
                    refine Txt.Ty.wpTr_done (by rfl) ⟨.head _, .head _, .tail _ (.head _), trivial⟩ ?_
                    obtain ⟨C, hC⟩ : ∃ C, C = w6.heap.size := ⟨_, rfl⟩
                    obtain ⟨X, hX⟩ : ∃ X, X = w6.alloc (.cells #[.int .i64 1, .slice a6 (less l x).length c6] 26) := ⟨_, rfl⟩
                    have hXl : Below wr.heap.size wr X := by rw [hX]; exact ((Below.refl _ wr).drew.trans HB6.out).alloc hs6 _
                    have hXC : X.heap[C]? = some (.cells #[.int .i64 1, .slice a6 (less l x).length c6] 26 (0, 0)) := by rw [hX, hC]; exact heap_alloc_new w6 _
                    have hXB : X.heap[B]? = _ := (hXl.block B hBwr).trans HX.out
                    have hXL : Below w.heap.size w X := HB.out.trans (hXl.mono hwr)
                    have hXI : Ints [B] X (.slice a6 (less l x).length c6) (less l x) := by rw [hX]; exact Raw.alloc (Raw.of_own HO6.out (ivs_one _) (fun f hf => by rw [List.mem_singleton.1 hf]; exact hBwr)) _
                    have hCB : C ≠ B := by omega
                    go_upto_region 33 with (fail)
                    rw [← hX, ← hC]
                    clear hX hC hXl HS6 HO6 HB6 HI HS0 h0 o0 o1
                    have HXC := Lib.hid hXC; have HXB := Lib.hid hXB; have HXL := Lib.hid hXL; have HXI := Lib.hid hXI
                    have c0 := box_at hXC (j := 0) rfl
                    have c1 := box_at hXC (j := 1) rfl
                    have b0 := box_at hXB (j := 0) rfl
                    have b1 := box_at hXB (j := 1) rfl
                    have f0 := box_free hXB 0
                    have f1 := box_free hXB 1
                    clear hXC hXB hXL hXI
                    have hll : (((less l x).length : Int) != (l.length : Int) - 1) = false := by have := HLL.out; simp; omega
                    go_wp2
                    go_roundw
                    case rel => exact ⟨less l x, _, by have := HLL.out; congr 1; omega, by have := HLL.out; omega, HOL.out.less x, below_set (below_set HXL.out hwB _) hwB _, heap_set2 HXB.out _ _, ints_keep HXI.out (keep_set2 X B _ _)⟩
                    case measure => simp [intOf]; omega
                  · (try simp only [Txt.pick, List.getElem?_cons_succ, List.getElem?_cons_zero])
                    go_wp2
                    refine Txt.SegPost.mk (Txt.Ty.Shown.same (same_below' HS0.out ((Below.refl _ wr.drew).alloc (Nat.le_refl _) _))) ?_
                    (try simp only [Txt.pick, List.getElem?_cons_succ, List.getElem?_cons_zero])
                    go_wp2
                    refine Txt.RunPost.mk ?_
                    refine Txt.Ty.wpTr_alt ?_ Txt.Ty.wpTr_no
                    (try simp only [Txt.pick, List.getElem?_cons_succ, List.getElem?_cons_zero])
                    obtain ⟨wb, hwb⟩ : ∃ wb, wb = (wr.alloc (.cells #[.int .i64 0, .slice none 0 0] 26)).drew := ⟨_, rfl⟩
                    have HWB := Lib.hid hwb
                    have hbb : Below wr.heap.size wr wb := by rw [hwb]; exact ((Below.refl _ wr).alloc (Nat.le_refl _) _).drew
                    have hbC : wb.heap[wr.heap.size]? = some (.cells #[.int .i64 0, .slice none 0 0] 26 (0, 0)) := by rw [hwb]; exact heap_alloc_new wr _
                    have hbz : wb.heap.size = wr.heap.size + 1 := by rw [hwb]; simp
                    clear hwb
                    go_wp2_with fail
                    rw [← HWB.out]
                    refine (pong_ok 1 x l _ wb (by omega) (Raw.to_nil (Raw.below HI.out hbb)) HOL.out HM.out).mono ?_
                    rintro e w6 ⟨v6, rfl, hown6, hb6⟩
                    obtain ⟨a6, c6, rfl⟩ := own_slice hown6
                    have hs6 := hb6.size
                    have HS6 := Lib.hid (same_below' (same_below' HS0.out (show Below wr.drew.heap.size wr.drew wb by rw [HWB.out]; exact ((Below.refl _ wr.drew).alloc (Nat.le_refl _) _))) hb6)
                    have HO6 := Lib.hid hown6
                    have HB6 := Lib.hid hb6
                    obtain ⟨C, hC⟩ : ∃ C, C = wr.heap.size := ⟨_, rfl⟩
                    rw [← hC]
                    have HC6 : Hid (w6.heap[C]? = some (.cells #[.int .i64 0, .slice none 0 0] 26 (0, 0))) := Lib.hid (by rw [hC]; exact (hb6.block _ (by omega)).trans hbC)
                    have g0 := box_at HC6.out (j := 0) rfl
                    have g1 := box_at HC6.out (j := 1) rfl
                    have gf0 := box_free HC6.out 0
                    have gf1 := box_free HC6.out 1
                    have hCw : wr.heap.size ≤ C := by omega
                    have hC6 : C < w6.heap.size := by omega
                    have hCb : C < wb.heap.size := by omega
                    clear hown6 hb6 hbC hC
                    go_wp2
                    refine Txt.SegPost.mk (Txt.Ty.Shown.same HS6.out) ?_
                    (try simp only [Txt.pick, List.getElem?_cons_succ, List.getElem?_cons_zero])
                    go_wp2
                    refine Txt.RunPost.mk ?_
                    refine Txt.Ty.wpTr_alt ?_ Txt.Ty.wpTr_no
                    (try simp only [Txt.pick, List.getElem?_cons_succ, List.getElem?_cons_zero])
                    go_wp2
                    refine Txt.SegPost.mk (Txt.Ty.Shown.last rfl) ?_
                    (try simp only [Txt.pick, List.getElem?_cons_succ, List.getElem?_cons_zero])
                    go_wp2
                    refine Txt.RunPost.mk ?_
                    refine Txt.Ty.wpTr_done (by rfl) ⟨.head _, .head _, .tail _ (.head _), trivial⟩ ?_
                    obtain ⟨X, hX⟩ : ∃ X, X = (w6.setCell ⟨C, 0, none⟩ (.int .i64 1)).setCell ⟨C, 1, none⟩ (.slice a6 (less l x).length c6) := ⟨_, rfl⟩
                    have hXk : Keep [C] w6 X := by rw [hX]; exact keep_set2 w6 C _ _
                    have hXl : Below wr.heap.size wr X := (hbb.trans (HB6.out.mono (by omega))).trans (hXk.below (by omega) (fun f hf => by rw [List.mem_singleton.1 hf]; omega))
                    have hXC : X.heap[C]? = some (.cells #[.int .i64 1, .slice a6 (less l x).length c6] 26 (0, 0)) := by rw [hX]; exact heap_set2 HC6.out _ _
                    have hXB : X.heap[B]? = _ := (hXl.block B hBwr).trans HX.out
                    have hXL : Below w.heap.size w X := HB.out.trans (hXl.mono hwr)
                    have hXI : Ints [B] X (.slice a6 (less l x).length c6) (less l x) := Raw.of_own (own_keep HO6.out hXk (fun q hq hm => by have := (HO6.out.lt q hq).1; rw [List.mem_singleton] at hm; omega)) (ivs_one _) (fun f hf => by rw [List.mem_singleton.1 hf]; omega)
                    have hCB : C ≠ B := by omega
                    go_upto_region 33 with (fail)
                    rw [← hX]
                    clear hX hXl hXk HS6 HO6 HB6 HI HS0 h0 o0 o1 HC6 g0 g1 gf0 gf1 hbb HWB
                    have HXC := Lib.hid hXC; have HXB := Lib.hid hXB; have HXL := Lib.hid hXL; have HXI := Lib.hid hXI
                    have c0 := box_at hXC (j := 0) rfl
                    have c1 := box_at hXC (j := 1) rfl
                    have b0 := box_at hXB (j := 0) rfl
                    have b1 := box_at hXB (j := 1) rfl
                    have f0 := box_free hXB 0
                    have f1 := box_free hXB 1
                    clear hXC hXB hXL hXI
                    have hll : (((less l x).length : Int) != (l.length : Int) - 1) = false := by have := HLL.out; simp; omega
                    go_wp2
                    go_roundw
                    case rel => exact ⟨less l x, _, by have := HLL.out; congr 1; omega, by have := HLL.out; omega, HOL.out.less x, below_set (below_set HXL.out hwB _) hwB _, heap_set2 HXB.out _ _, ints_keep HXI.out (keep_set2 X B _ _)⟩
                    case measure => simp [intOf]; omega
                · have hl' : l = [] := List.eq_nil_of_length_eq_zero (by omega)
                  subst hl'
                  clear hbel hbox hint hol
                  go_wp2_with fail
                  refine (ping_ok 1 [] [] _ _ _ (by simp) (by simp) (Raw.to_nil HI.out) (Raw.empty _ _ _) HOL.out (by omega) (fun x hx => by cases hx)).mono ?_
                  rintro e w7 ⟨v7, v8, rfl, hown7, hown8, hb7⟩
                  obtain ⟨xc, yc, rfl⟩ := own_slice hown8
                  have HB7 := Lib.hid (HB.out.trans (hb7.mono HB.out.size))
                  clear hown7 hown8 hb7
                  go_wp2
                  go_ret
                  exact ⟨rfl, HB7.out⟩
end Go.Proofs.Ytbpifaamlcjocaa
