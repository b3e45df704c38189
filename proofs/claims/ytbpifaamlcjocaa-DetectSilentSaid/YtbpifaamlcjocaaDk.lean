/- Detect: DetectSilent -/
import Derived.Test.YtbpifaamlcjocaaDj
namespace Go.Dt
theorem take_mem {l : List Int} {k : Nat} (hk : k < l.length) (x : Int) : x ∈ l.take (k + 1) ↔ x ∈ l.take k ∨ l[k] = x := by
  rw [List.take_succ_eq_append_getElem hk, List.mem_append, List.mem_singleton, eq_comm (a := x)]
end Go.Dt
namespace Go.Proofs.Ytbpifaamlcjocaa
open Go.RowKit Go.Bs Go.Cl Go.Rw Go.Dt Go.Sort Go.So
set_option maxRecDepth 100000 in
set_option maxHeartbeats 16000000 in
theorem silent_any (v : Value) (L : List Rn) (w : World) (h : Rns w v L) : Calls Try.prog 3 #[v] w fun e w' => e = .returned (.bool true) ∧ Below w.heap.size w w' := by
  obtain ⟨a, cap, rfl⟩ := Raw.slice h.1
  have H := Lib.hid h; clear h
  go_enter Try.func3, Try.ntmps3
  go_wp2_with fail
  refine (awake_any w).mono ?_
  rintro e w1 ⟨rfl, hb1⟩
  have HB1 := Lib.hid hb1
  by_cases h20 : 20 < L.length
  · clear hb1
    go_wp2
    go_ret
    exact ⟨rfl, HB1.out⟩
  have hs1 := hb1.size
  obtain ⟨B, hB⟩ : ∃ B, B = w1.heap.size := ⟨_, rfl⟩
  obtain ⟨W, hW⟩ : ∃ W, W = w1.alloc (.cells #[.int .i64 0, .slice none 0 0] 26) := ⟨_, rfl⟩
  have HW := Lib.hid hW
  have HBW : Hid (Below w.heap.size w W) := Lib.hid (by rw [hW]; exact hb1.alloc hs1 _)
  have HBX : Hid (W.heap[B]? = some (.cells #[.int .i64 0, .slice none 0 0] 26 (0, 0))) := Lib.hid (by rw [hW, hB]; exact heap_alloc_new w1 _)
  have hwB : w.heap.size ≤ B := by omega
  clear hW hb1
  go_upto_region 6 with (fail)
  rw [← HW.out, ← hB]
  clear hB HW
  go_wp2
  go_loopw [4, 5, 6] (fun s4 s5 s6 wr => ∃ (n q1 q2 : Nat) (r : Int) (l : List Int) (v : Value), n ≤ L.length ∧ s6 = .int .i64 n ∧ s4 = .int .u32 q1 ∧ s5 = .int .u32 q2 ∧ r = n ∧ q1 < 4294967296 ∧ q2 < 4294967296 ∧ OkB r l ∧ l.length ≤ 40 ∧
    (∀ s : Nat, 1 ≤ s → s < 32 → ((s : Int) ∈ l ↔ q1.testBit s = true ∧ q2.testBit s = false)) ∧ Below w.heap.size w wr ∧ wr.heap[B]? = some (.cells #[.int .i64 r, v] 26 (0, 0)) ∧ Ints [B] wr v l) (fun _ _ s _ => L.length - (intOf s).toNat)
  case atStart => exact ⟨0, 0, 0, 0, [], _, Nat.zero_le _, rfl, rfl, rfl, rfl, by omega, by omega, OkB.start, by simp, fun s _ _ => by simp, HBW.out, HBX.out, Raw.empty _ _ _⟩
  case round =>
    clear HBW HBX
    rename World => wo
    obtain ⟨n, q1, q2, r, l, v, hn, rfl, rfl, rfl, rfl, hq1, hq2, hok, hl40, hmem, hbel, hbox, hint⟩ := hrel
    obtain ⟨av, cv, rfl⟩ := Raw.slice hint
    have HOK := Lib.hid hok; have HMEM := Lib.hid hmem; have HB := Lib.hid hbel; have HX := Lib.hid hbox; have HI := Lib.hid hint
    have hwo := hbel.size
    have hBwo : B < wo.heap.size := (Array.getElem?_eq_some_iff.1 hbox).1
    clear hok hmem hbel hbox hint
    by_cases hlt : n < L.length
    · obtain ⟨b, off, e', hb, h0, h1, hx, hy⟩ := Rns.elem H.out hlt
      cases e'
      generalize L[n].a = x at h0 hx
      generalize L[n].b = y at h1 hy
      have HT0 := Lib.hid h0; have HT1 := Lib.hid h1
      clear h0 h1
      go_wp2
      go_loopw [7, 8] (fun s7 s8 wa => ∃ k : Nat, k ≤ 31 ∧ s8 = .int .i64 ((k : Int) + 1) ∧ wa.ownsRow wo.heap.size 3 1 s7 (upTo x k).length ((upTo x k).map (Value.int .i64)) ∧ Below wo.heap.size wo wa) (fun _ s _ => 32 - (intOf s).toNat)
      case atStart => exact ⟨0, by omega, rfl, World.ownsRow_nil _ _ _ _, Below.refl _ _⟩
      case round =>
        rename World => wa
        obtain ⟨k, hk, rfl, hown, hbel⟩ := hrel
        obtain ⟨at', ct, rfl⟩ := own_slice hown
        have HO := Lib.hid hown
        have hsz := hbel.size
        have HBa := Lib.hid hbel
        have HBw := Lib.hid (HB.out.trans (hbel.mono hwo))
        have hul := upTo_len x k
        by_cases hk31 : k < 31
        · have hk1 : ((k : Int) + 1).toNat = k + 1 := by omega
          have h0 := ((HBw.out).cell (p := ⟨b, off + n * 2, none⟩) hb).trans HT0.out
          cases hbit : x.testBit (k + 1)
          · have e0 := bit_no hx hbit
            have HU := Lib.hid (upTo_no hbit)
            clear hown hbel
            go_wp2
            go_roundw
            case rel => exact ⟨k + 1, by omega, by go_num, by rw [HU.out]; exact HO.out, HBa.out⟩
            case measure => simp [intOf]; omega
          · have e0 := bit_yes hx hbit
            have HU := Lib.hid (upTo_yes hbit)
            have hbel1 := hbel.alloc hsz (.cells #[.int .i64 ((k : Int) + 1)] 3)
            have Hx := Lib.hid (ints_block (W := wa.alloc (.cells #[.int .i64 ((k : Int) + 1)] 3)) (g := wa.heap.size) (l := [(k : Int) + 1]) (heap_alloc_new wa _) (by simp))
            clear hown hbel
            go_wp2_with (at_builtin; refine wpList_app el24 Try.underlying24 (HO.out.alloc _) Hx.out hbel1 rfl _ _ rfl rfl rfl ?c3 (Nat.le_refl _) ?c5 ?_)
            case c3 => simp; omega
            case c5 => first | omega | (simp; omega)
            intro v2 w2 hown2 hb2 hg2 hs2
            obtain ⟨a2, c2, rfl⟩ := own_slice hown2
            have HO2 : Hid (w2.ownsRow wo.heap.size 3 1 (.slice a2 ((upTo x k).length + 1) c2) (upTo x (k + 1)).length ((upTo x (k + 1)).map (Value.int .i64))) := Lib.hid (by rw [HU.out]; simpa using hown2)
            have HB2 := Lib.hid hb2
            clear hown2 hb2 hg2
            go_wp2
            go_roundw
            case rel => exact ⟨k + 1, by omega, by go_num, HO2.out, HB2.out⟩
            case measure => simp [intOf]; omega
        · obtain rfl : k = 31 := by omega
          have o0 := box_at ((hbel.block B hBwo).trans HX.out) (j := 0) rfl
          have o1 := box_at ((hbel.block B hBwo).trans HX.out) (j := 1) rfl
          clear hown hbel
          go_wp2_with fail
          refine (ping_ok n l (upTo x 31) _ _ wa (by omega) (by omega) (Raw.to_nil (Raw.below HI.out HBa.out)) (Ints.of_own HO.out) HOK.out (by omega) upTo_pr).mono ?_
          rintro e w2 ⟨v2, v3, rfl, hown2, hown3, hb2⟩
          obtain ⟨xa, ya, rfl⟩ := own_slice hown2
          obtain ⟨xb, yb, rfl⟩ := own_slice hown3
          have hs2 := hb2.size
          obtain ⟨T, hT⟩ : ∃ T, T = once (upTo x 31) := ⟨_, rfl⟩
          have HTM : Hid (∀ s : Nat, 1 ≤ s → s < 32 → ((s : Int) ∈ T ↔ x.testBit s = true)) := Lib.hid (fun s h1 h2 => by rw [hT, once_mem, upTo_mem h1 (by omega)])
          have HTO : Hid (OkB ((n : Int) + 1) T) := Lib.hid (by rw [hT]; exact once_ok (by omega) (by omega) upTo_pr)
          have hTl : T.length ≤ 40 := by rw [hT]; have := once_len (l := upTo x 31); omega
          rw [← hT] at hown2 ⊢
          clear hT
          obtain ⟨M, hM⟩ : ∃ M, M = w2.heap.size := ⟨_, rfl⟩
          obtain ⟨V, hV⟩ : ∃ V, V = w2.alloc (.cells #[.int .i64 ((n : Int) + 1), .slice xa T.length ya] 26) := ⟨_, rfl⟩
          have HV := Lib.hid hV
          have hbV : Below wa.heap.size wa V := by rw [hV]; exact hb2.alloc hs2 _
          have hbVr : Below wo.heap.size wo V := HBa.out.trans (hbV.mono hsz)
          have HVL := Lib.hid (HB.out.trans (hbVr.mono hwo))
          have HVB := Lib.hid ((hbVr.block B hBwo).trans HX.out)
          have HVM : Hid (V.heap[M]? = some (.cells #[.int .i64 ((n : Int) + 1), .slice xa T.length ya] 26 (0, 0))) := Lib.hid (by rw [hV, hM]; exact heap_alloc_new w2 _)
          have HVI : Hid (Ints [B] V (.slice xa T.length ya) T) := Lib.hid (by rw [hV]; exact Raw.alloc (Raw.of_own hown2 (ivs_one _) (fun f hf => by rw [List.mem_singleton.1 hf]; omega)) _)
          have HVS : Hid (Ints [] V (.slice xb l.length yb) l) := Lib.hid (by rw [hV]; exact Raw.alloc (Ints.of_own hown3) _)
          have hMB : M ≠ B := by omega
          have hBV : B < V.heap.size := by have := hbVr.size; omega
          have hwV : w.heap.size ≤ V.heap.size := by omega
          clear hown2 hown3 hb2 hV hbV hbVr o0 o1
          go_upto_region 17 with (fail)
          rw [← HV.out, ← hM]
          clear hM HV HO
          have m0 := box_at HVM.out (j := 0) rfl
          have m1 := box_at HVM.out (j := 1) rfl
          have hr1 : (((n : Int) + 1) != (n : Int) + 1) = false := by simp
          go_wp2
          go_loopw [12] (fun s12 wc => ∃ t : Nat, t ≤ 31 ∧ s12 = .int .i64 ((t : Int) + 1) ∧ V = wc) (fun s _ => 32 - (intOf s).toNat)
          case atStart => exact ⟨0, by omega, rfl, rfl⟩
          case round =>
            obtain ⟨t, ht, rfl, rfl⟩ := hrel
            by_cases ht31 : t < 31
            · go_wp2
              go_loopw [13, 14] (fun s13 s14 wd => ∃ k : Nat, k ≤ l.length ∧ s14 = .int .i64 k ∧ s13 = .bool (decide (((t : Int) + 1) ∈ l.take k)) ∧ V = wd) (fun _ s _ => l.length - (intOf s).toNat)
              case atStart => exact ⟨0, by omega, rfl, by simp, rfl⟩
              case round =>
                obtain ⟨k, hk, rfl, rfl, rfl⟩ := hrel
                by_cases hkl : k < l.length
                · obtain ⟨b2, off2, c2, e2, hb2, h2⟩ := Ints.elem HVS.out hkl
                  cases e2
                  have hst := take_mem hkl ((t : Int) + 1)
                  generalize l[k] = z at h2 hst
                  have HST := Lib.hid hst
                  obtain ⟨f, hf⟩ : ∃ f, f = decide (((t : Int) + 1) ∈ l.take k) := ⟨_, rfl⟩
                  rw [← hf]
                  have HF := Lib.hid hf
                  clear hst hf
                  cases f
                  · have hnm : ((t : Int) + 1) ∉ l.take k := by simpa using HF.out.symm
                    have HNM := Lib.hid hnm
                    clear hnm
                    by_cases hz : z = (t : Int) + 1
                    · go_wp2
                      go_roundw
                      case rel => exact ⟨k + 1, by omega, by go_num, by rw [decide_eq_true (HST.out.2 (.inr hz))]; try simp [hz], trivial⟩
                      case measure => simp [intOf]; omega
                    · go_wp2
                      go_roundw
                      case rel => exact ⟨k + 1, by omega, by go_num, by rw [decide_eq_false (fun hm => (HST.out.1 hm).elim HNM.out hz)]; try simp [hz], trivial⟩
                      case measure => simp [intOf]; omega
                  · go_wp2
                    go_roundw
                    case rel => exact ⟨k + 1, by omega, by go_num, by rw [decide_eq_true (HST.out.2 (.inl (by simpa using HF.out.symm)))], trivial⟩
                    case measure => simp [intOf]; omega
                · obtain rfl : k = l.length := by omega
                  rw [List.take_length]
                  have hp := pend_bits hq1 hq2
                  have ht1 : ((t : Int) + 1).toNat = t + 1 := by omega
                  have hm := HMEM.out (t + 1) (by omega) (by omega)
                  rw [show ((t + 1 : Nat) : Int) = (t : Int) + 1 by omega] at hm
                  have hpb := pend_bit (a := q1) hq2 (show t + 1 < 32 by omega)
                  cases hbit : (pend q1 q2).testBit (t + 1)
                  · have e0 := bit_no (pend_lt hq1) hbit
                    have hd : ((t : Int) + 1) ∉ l := fun h => by rw [hbit, (hm.1 h).1, (hm.1 h).2] at hpb; cases hpb
                    rw [decide_eq_false hd]
                    clear hm hpb hd
                    go_wp2
                    go_roundw
                    case rel => exact ⟨t + 1, by omega, by go_num, trivial⟩
                    case measure => simp [intOf]; omega
                  · have e0 := bit_yes (pend_lt hq1) hbit
                    have hd : ((t : Int) + 1) ∈ l := hm.2 (by rw [hbit] at hpb; simpa using hpb.symm)
                    rw [decide_eq_true hd]
                    clear hm hpb hd
                    go_wp2
                    go_roundw
                    case rel => exact ⟨t + 1, by omega, by go_num, trivial⟩
                    case measure => simp [intOf]; omega
            · have h0 := ((HVL.out).cell (p := ⟨b, off + n * 2, none⟩) hb).trans HT0.out
              have b0 := box_at HVB.out (j := 0) rfl
              have b1 := box_at HVB.out (j := 1) rfl
              have f0 := box_free HVB.out 0
              have f1 := box_free HVB.out 1
              go_upto_region 29 with (fail)
              have hBl : ∀ q ∈ [b], ∃ c e f, V.heap[q]? = some (.cells c e f) := fun q hq => by
                rw [List.mem_singleton.1 hq]; exact Txt.cells_of h0
              have HS0 := Lib.hid (same_start hBl)
              refine Txt.Ty.wp_tree [b] [5] [] [0, 5] [0, 1, 2, 3, 4, 5] (.alt [6, 7, 8] (.done) (.no)) (by kernel_rfl) (by kernel_rfl) (by kernel_rfl) (by kernel_rfl) hBl ?_
              clear hBl
              (try simp only [Txt.pick, List.getElem?_cons_succ, List.getElem?_cons_zero])
              go_wp2
              refine Txt.RunPost.mk ?_
              refine Txt.Ty.wpTr_alt ?_ Txt.Ty.wpTr_no
              (try simp only [Txt.pick, List.getElem?_cons_succ, List.getElem?_cons_zero])
              go_wp2
              refine Txt.SegPost.mk (Txt.Ty.Shown.same (same_keep HS0.out (keep_set2 V.drew B _ _) (fun q hq hm => by rw [List.mem_singleton] at hq hm; omega))) ?_
              (try simp only [Txt.pick, List.getElem?_cons_succ, List.getElem?_cons_zero])
              go_wp2
              refine Txt.RunPost.mk ?_
              refine Txt.Ty.wpTr_done (by rfl) ⟨.head _, trivial⟩ ?_
              have HZB := Lib.hid (heap_set2 (w := V.drew) HVB.out (.int .i64 ((n : Int) + 1)) (.slice xa T.length ya))
              have HZI := Lib.hid (ints_keep (w := V.drew) HVI.out (keep_set2 V.drew B (.int .i64 ((n : Int) + 1)) (.slice xa T.length ya)))
              have HZL := Lib.hid (below_set (below_set HVL.out.drew hwB (g := B) (j := 0) (.int .i64 ((n : Int) + 1))) hwB (g := B) (j := 1) (.slice xa T.length ya))
              clear h0 b0 b1 f0 f1 m0 m1 HS0 HVL HVB HVM HVI HVS
              go_wp2
              go_loopw [5, 15] (fun s5 s15 we => ∃ (t q : Nat) (l' : List Int) (v' : Value), t ≤ 31 ∧ s15 = .int .i64 ((t : Int) + 1) ∧ s5 = .int .u32 q ∧ q < 4294967296 ∧ (∀ s, t < s → q.testBit s = false) ∧ OkB ((n : Int) + 1) l' ∧ l'.length ≤ 40 ∧
                (∀ s : Nat, 1 ≤ s → s < 32 → ((s : Int) ∈ l' ↔ x.testBit s = true ∧ q.testBit s = false)) ∧ Below w.heap.size w we ∧ we.heap[B]? = some (.cells #[.int .i64 ((n : Int) + 1), v'] 26 (0, 0)) ∧ Ints [B] we v' l') (fun _ s _ => 32 - (intOf s).toNat)
              case atStart => exact ⟨0, 0, T, _, by omega, rfl, rfl, by omega, fun s _ => by simp, HTO.out, hTl, fun s h1 h2 => by rw [HTM.out s h1 h2]; simp, HZL.out, HZB.out, HZI.out⟩
              case round =>
                clear HZL HZB HZI
                rename World => we
                obtain ⟨t, q, l', v', ht, rfl, rfl, hq, hqs, hok', hl', hmm, hbel, hbox, hint⟩ := hrel
                obtain ⟨av', cv', rfl⟩ := Raw.slice hint
                have HOL := Lib.hid hok'; have HMM := Lib.hid hmm; have HB := Lib.hid hbel; have HX := Lib.hid hbox; have HI := Lib.hid hint; have HQ := Lib.hid hqs
                have hwe := hbel.size
                have hBwe : B < we.heap.size := (Array.getElem?_eq_some_iff.1 hbox).1
                have o0 := box_at hbox (j := 0) rfl
                have o1 := box_at hbox (j := 1) rfl
                have h1 := ((hbel).cell (p := ⟨b, off + n * 2 + 1, none⟩) hb).trans HT1.out
                clear hqs hok' hmm hbel hbox hint
                by_cases ht31 : t < 31
                · have ht1 : t + 1 < 32 := by omega
                  have htn : ((t : Int) + 1).toNat = t + 1 := by omega
                  cases hyb : y.testBit (t + 1)
                  · have e0 := bit_no hy hyb
                    go_wp2
                    go_roundw
                    case rel => exact ⟨t + 1, q, l', _, by omega, by go_num, rfl, hq, fun s hs => HQ.out s (by omega), HOL.out, hl', HMM.out, HB.out, HX.out, HI.out⟩
                    case measure => simp [intOf]; omega
                  · have e0 := bit_yes hy hyb
                    have hm := HMM.out (t + 1) (by omega) ht1
                    rw [show ((t + 1 : Nat) : Int) = (t : Int) + 1 by omega, HQ.out (t + 1) (by omega)] at hm
                    cases hxb : x.testBit (t + 1)
                    · have e1 := bit_no hx hxb
                      have HM : Hid (((t : Int) + 1) ∉ l') := Lib.hid (fun h => by rw [(hm.1 h).1] at hxb; cases hxb)
                      clear hm
                      go_wp2_with fail
                      refine (pong_no ((n : Int) + 1) ((t : Int) + 1) _ l' _ _ (by omega) (Raw.to_nil HI.out) HOL.out HM.out).mono ?_
                      rintro e w7 ⟨rfl, hb7⟩
                      have hs7 := hb7.size
                      have hXl : Below we.heap.size we (w7.alloc (.cells #[.int .i64 0, .slice none 0 0] 26)) := hb7.alloc hs7 _
                      have HXB := Lib.hid ((hXl.block B hBwe).trans HX.out)
                      have HXL := Lib.hid (HB.out.trans (hXl.mono hwe))
                      have HXI := Lib.hid (show Ints [B] _ _ _ from Raw.below HI.out hXl)
                      clear hb7 hXl
                      go_wp2
                      go_roundw
                      case rel => exact ⟨t + 1, q, l', _, by omega, by go_num, rfl, hq, fun s hs => HQ.out s (by omega), HOL.out, hl', HMM.out, HXL.out, HXB.out, HXI.out⟩
                      case measure => simp [intOf]; omega
                    · have e1 := bit_yes hx hxb
                      have HM : Hid (((t : Int) + 1) ∈ l') := Lib.hid (hm.2 ⟨hxb, rfl⟩)
                      clear hm
                      go_wp2_with fail
                      refine (pong_ok ((n : Int) + 1) ((t : Int) + 1) l' _ _ (by omega) (Raw.to_nil HI.out) HOL.out HM.out).mono ?_
                      rintro e w7 ⟨v7, rfl, hown7, hb7⟩
                      obtain ⟨a7, c7, rfl⟩ := own_slice hown7
                      have hs7 := hb7.size
                      obtain ⟨A, hA⟩ : ∃ A, A = w7.heap.size := ⟨_, rfl⟩
                      obtain ⟨X, hX⟩ : ∃ X, X = w7.alloc (.cells #[.int .i64 ((n : Int) + 1), .slice a7 (less l' ((t : Int) + 1)).length c7] 26) := ⟨_, rfl⟩
                      have HX' := Lib.hid hX
                      have hXl : Below we.heap.size we X := by rw [hX]; exact hb7.alloc hs7 _
                      have hXA : X.heap[A]? = some (.cells #[.int .i64 ((n : Int) + 1), .slice a7 (less l' ((t : Int) + 1)).length c7] 26 (0, 0)) := by rw [hX, hA]; exact heap_alloc_new w7 _
                      have hXB : X.heap[B]? = _ := (hXl.block B hBwe).trans HX.out
                      have hXL : Below w.heap.size w X := HB.out.trans (hXl.mono hwe)
                      have hXI : Ints [B] X (.slice a7 (less l' ((t : Int) + 1)).length c7) (less l' ((t : Int) + 1)) := by rw [hX]; exact Raw.alloc (Raw.of_own hown7 (ivs_one _) (fun f hf => by rw [List.mem_singleton.1 hf]; exact hBwe)) _
                      have hAB : A ≠ B := by omega
                      have HXA := Lib.hid hXA; have HXB := Lib.hid hXB; have HXL := Lib.hid hXL; have HXI := Lib.hid hXI
                      clear hown7 hb7 hX hXl hXL hXI hXA hXB
                      go_upto_region 35 with (fail)
                      rw [← HX'.out, ← hA]
                      clear hA HX'
                      have c0 := box_at HXA.out (j := 0) rfl
                      have c1 := box_at HXA.out (j := 1) rfl
                      have b0 := box_at HXB.out (j := 0) rfl
                      have b1 := box_at HXB.out (j := 1) rfl
                      have f0 := box_free HXB.out 0
                      have f1 := box_free HXB.out 1
                      go_upto_region 38 with (fail)
                      refine Txt.Ty.wp_tree [] [] [] [0] [0, 1, 2, 3, 4] (.alt [5, 6] (.done) (.no)) (by kernel_rfl) (by kernel_rfl) (by kernel_rfl) (by kernel_rfl) (fun b hb => by cases hb) ?_
                      (try simp only [Txt.pick, List.getElem?_cons_succ, List.getElem?_cons_zero])
                      go_wp2
                      refine Txt.RunPost.mk ?_
                      refine Txt.Ty.wpTr_alt ?_ Txt.Ty.wpTr_no
                      (try simp only [Txt.pick, List.getElem?_cons_succ, List.getElem?_cons_zero])
                      go_wp2
                      refine Txt.SegPost.mk Txt.Ty.Shown.none ?_
                      (try simp only [Txt.pick, List.getElem?_cons_succ, List.getElem?_cons_zero])
                      go_wp2
                      refine Txt.RunPost.mk ?_
                      refine Txt.Ty.wpTr_done (by rfl) trivial ?_
                      go_wp2
                      go_roundw
                      case rel => exact ⟨t + 1, q ||| 2 ^ (t + 1), less l' ((t : Int) + 1), _, by omega, by go_num, by have := or_bits hq ht1; rw [IntKind.wrap_u32', Int.one_mul] at this; rw [this], or_lt hq ht1, fun s hs => by rw [or_bit, HQ.out s (by omega)]; simp; omega, HOL.out.less _, by have := less_len (l := l') (x := (t : Int) + 1); omega, fun s hs1 hs2 => by
                        rw [less_mem, HMM.out s hs1 hs2, or_bit]
                        by_cases e : t + 1 = s
                        · subst e; simp
                        · have e2 : (s : Int) ≠ (t : Int) + 1 := by omega
                          simp [e, e2], below_set (below_set HXL.out.drew hwB _) hwB _, heap_set2 (w := X.drew) HXB.out _ _, ints_keep (w := X.drew) HXI.out (keep_set2 X.drew B _ _)⟩
                      case measure => simp [intOf]; omega
                · go_wp2
                  go_roundw
                  case rel => exact ⟨n + 1, x, q, (n : Int) + 1, l', _, by omega, by go_num, rfl, rfl, by omega, hx, hq, HOL.out, hl', HMM.out, HB.out, HX.out, HI.out⟩
                  case measure => simp [intOf]; omega
    · go_wp2
      go_ret
      exact ⟨rfl, HB.out⟩
end Go.Proofs.Ytbpifaamlcjocaa
