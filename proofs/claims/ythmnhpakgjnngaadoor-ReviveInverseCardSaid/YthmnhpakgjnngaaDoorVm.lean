/- Revive: restarts: a round's call -/
import Derived.Test.YthmnhpakgjnngaaDoorVl
import Derived.Deep.CutRange
namespace Go.Rv
open Go Go.RowKit Go.Bs Go.Cl Go.Rw Go.Dt
def arr32 (f : Nat → Int) : Array Value := ((List.range 32).map fun j => Value.int .i64 (f j)).toArray
theorem arr32_get {f : Nat → Int} {t : Nat} (h : t < 32) : (arr32 f)[t]? = some (.int .i64 (f t)) := by simp [arr32, h]
theorem arr32_set (f : Nat → Int) (t : Nat) (v : Int) : (arr32 f).setIfInBounds t (.int .i64 v) = arr32 (fun j => if j = t then v else f j) := by
  apply Array.ext_getElem?
  intro j
  by_cases hj : j < 32
  · by_cases e : j = t
    · subst e; simp [arr32, hj]
    · simp [arr32, hj, e, Array.getElem?_setIfInBounds, Ne.symm e]
  · simp [arr32, hj, Array.getElem?_setIfInBounds]
structure Rn where
  a : Nat
  b : Nat
def encR (r : Rn) : List Value := [.int .u8 r.a, .int .u8 r.b]
theorem encR_len (r : Rn) : (encR r).length = 2 := rfl
def Rns (w : World) (v : Value) (L : List Rn) : Prop := Raw [] 2 w v L.length (L.flatMap encR) ∧ ∀ r ∈ L, r.a < 256 ∧ r.b < 256
theorem Rns.elem {w : World} {a : Option Addr} {n c : Nat} {L : List Rn} (h : Rns w (.slice a n c) L) {i : Nat} (hi : i < L.length) :
    ∃ b off, a = some ⟨b, off, none⟩ ∧ b < w.heap.size ∧ w.cell? ⟨b, off + i * 2, none⟩ = some (.int .u8 L[i].a) ∧ w.cell? ⟨b, off + i * 2 + 1, none⟩ = some (.int .u8 L[i].b) ∧ L[i].a < 256 ∧ L[i].b < 256 := by
  have hget : L[i]? = some L[i] := List.getElem?_eq_getElem hi
  have hb2 := h.2 _ (List.getElem_mem hi)
  rcases Raw.cases h.1 with ⟨h0, _⟩ | ⟨_, b, off, cap, hv, _, _, hb, _, hc⟩
  · omega
  · cases hv
    exact ⟨b, off, rfl, hb, hc _ _ (flat_get encR encR_len L i 0 _ hget (by omega)), hc _ _ (flat_get encR encR_len L i 1 _ hget (by omega)), hb2.1, hb2.2⟩
end Go.Rv
namespace Go.Proofs.YthmnhpakgjnngaaDoor
open Go.RowKit Go.Bs Go.Cl Go.Rw Go.Dt Go.Rv
theorem SvN.below {F : List Nat} {w w' : World} {v : Value} {x : Sv} (h : SvN F w v x) (hb : Below w.heap.size w w') : SvN F w' v x := by
  obtain ⟨wv, hv, rfl, h1, h2⟩ := h
  exact ⟨wv, hv, rfl, Raw.below h1 hb, Raw.below h2 hb⟩
theorem SvN.fresh {F F' : List Nat} {w : World} {v : Value} {x : Sv} (h : SvN F w v x) (hF : ∀ f ∈ F', f ∈ F ∨ w.heap.size ≤ f) : SvN F' w v x := by
  obtain ⟨wv, hv, rfl, h1, h2⟩ := h
  exact ⟨wv, hv, rfl, Raw.fresh h1 hF, Raw.fresh h2 hF⟩
set_option maxRecDepth 100000 in
set_option maxHeartbeats 8000000 in
theorem restarts_any (L : List Rn) (v : Value) (w0 : World) (hF : FormsAt w0) (hR : Rns w0 v L) :
    Calls Tryd.prog 3 #[v] w0 fun e w' => e = .returned (.bool true) ∧ Below w0.heap.size w0 w' := by
  obtain ⟨a, cap, rfl⟩ := Raw.slice hR.1
  have h0 := hF.pos
  have HF := Lib.hid hF; have HR := Lib.hid hR
  clear hF hR
  have heq := fun a b c d a' b' c' d' w => eqA4 a b c d a' b' c' d' w
  have heg := egA4
  go_enter Tryd.func3, Tryd.ntmps3
  go_wp2_with fail
  refine (awake_any w0 HF.out).mono ?_
  rintro e w1 ⟨rfl, hb1⟩
  by_cases hn : 60 < L.length
  · have hn' : (60 : Int) < L.length := by omega
    have HB1 := Lib.hid hb1; clear hb1
    go_wp2
    go_ret
    exact ⟨rfl, HB1.out⟩
  have hn' : ¬ (60 : Int) < L.length := by omega
  go_wp2_with fail
  refine (new_any w1).mono ?_
  rintro e w2 ⟨rfl, hb2⟩
  have HB2 := Lib.hid (hb1.trans (hb2.mono hb1.size))
  have hs2 := HB2.out.size
  clear hb1 hb2
  go_upto_region 7 with (fail)
  rw [show (#[.int .i64 0, .int .i64 0, .int .i64 0, .int .i64 0, .int .i64 0, .int .i64 0, .int .i64 0, .int .i64 0, .int .i64 0, .int .i64 0, .int .i64 0, .int .i64 0, .int .i64 0, .int .i64 0, .int .i64 0, .int .i64 0, .int .i64 0, .int .i64 0, .int .i64 0, .int .i64 0, .int .i64 0, .int .i64 0, .int .i64 0, .int .i64 0, .int .i64 0, .int .i64 0, .int .i64 0, .int .i64 0, .int .i64 0, .int .i64 0, .int .i64 0, .int .i64 0] : Array Value) = arr32 (fun _ => 0) from rfl]
  obtain ⟨w3, hw3⟩ : ∃ X, X = (w2.alloc (.cells #[.int .i64 0, .slice none 0 0, .slice none 0 0] 29)).alloc (.cells (arr32 fun _ => 0) 31) := ⟨_, rfl⟩
  rw [← hw3]
  obtain ⟨S, hS⟩ : ∃ S, S = w2.heap.size := ⟨_, rfl⟩
  obtain ⟨C, hC⟩ : ∃ C, C = w2.heap.size + 1 := ⟨_, rfl⟩
  rw [← hC, ← hS]
  have hb3 : Below w2.heap.size w2 w3 := by rw [hw3]; exact ((Below.refl _ _).alloc (Nat.le_refl _) _).alloc (by simp) _
  have hSb : w3.heap[S]? = some (.cells #[.int .i64 0, .slice none 0 0, .slice none 0 0] 29 (0, 0)) := by
    rw [hw3, hS]; exact ((Below.refl _ _).alloc (Nat.le_refl _) _ |>.block _ (by simp)).trans (heap_alloc_new w2 _)
  have hCb : w3.heap[C]? = some (.cells (arr32 fun _ => 0) 31 (0, 0)) := by
    have := heap_alloc_new (w2.alloc (.cells #[.int .i64 0, .slice none 0 0, .slice none 0 0] 29)) (.cells (arr32 fun _ => 0) 31)
    rw [hw3, hC]; simpa using this
  have HB3 := Lib.hid (HB2.out.trans (hb3.mono hs2))
  have hSw : w0.heap.size ≤ S := by omega
  have hSC : S < C := by omega
  have HSb := Lib.hid hSb; have HCb := Lib.hid hCb
  clear hw3 hS hC hb3 hSb hCb HB2 hs2
  go_wp2
  go_loopw [5] (fun i wr => ∃ k : Nat, k ≤ L.length ∧ i = .int .i64 k ∧ ∃ (x : Sv) (f : Nat → Int) (wa ha : Option Addr) (wc hc : Nat), VOk x ∧ wr.heap[S]? = some (.cells #[.int .i64 x.r, .slice wa x.wt.length wc, .slice ha x.hs.length hc] 29 (0, 0)) ∧ Ints [S, C] wr (.slice wa x.wt.length wc) x.wt ∧ Raw [S, C] 3 wr (.slice ha x.hs.length hc) x.hs.length (x.hs.flatMap encH) ∧ wr.heap[C]? = some (.cells (arr32 f) 31 (0, 0)) ∧ (∀ t : Nat, cntH x.hs t = f t ∧ 0 ≤ f t ∧ f t ≤ k) ∧ Below w0.heap.size w0 wr) (fun i _ => L.length - (intOf i).toNat)
  case atStart => exact ⟨0, Nat.zero_le _, rfl, S0, fun _ => 0, none, none, 0, 0, S0_ok, HSb.out, Raw.empty _ _ _, Raw.empty _ _ _, HCb.out, fun t => ⟨rfl, Int.le_refl 0, Int.le_refl 0⟩, HB3.out⟩
  case round =>
    clear HSb HCb HB3
    obtain ⟨k, hk, rfl, x, f, wa, ha, wc, hc, hok, hSb, hi, hh, hCb, hcn, hbl⟩ := hrel
    have HOK := Lib.hid hok; have HS := Lib.hid hSb; have HC := Lib.hid hCb; have HCN := Lib.hid hcn; have HB := Lib.hid hbl
    have HV : Hid (SvV wr (.agg #[.int .i64 x.r, .slice wa x.wt.length wc, .slice ha x.hs.length hc]) x) := Lib.hid ⟨_, _, rfl, Raw.to_nil hi, Raw.to_nil hh⟩
    clear hok hSb hi hh hCb hcn hbl
    by_cases hlt : k < L.length
    · obtain ⟨b, off, rfl, hb, r0, r1, hA, hB⟩ := HR.out.elem hlt
      have r0 := (HB.out.cell (p := ⟨b, off + k * 2, none⟩) hb).trans r0
      have r1 := (HB.out.cell (p := ⟨b, off + k * 2 + 1, none⟩) hb).trans r1
      obtain ⟨A, hAe⟩ : ∃ A, A = L[k].a := ⟨_, rfl⟩
      obtain ⟨B, hBe⟩ : ∃ B, B = L[k].b := ⟨_, rfl⟩
      rw [← hAe] at r0 hA
      rw [← hBe] at r1 hB
      obtain ⟨T, hT⟩ : ∃ T, T = 2 + A % 9 := ⟨_, rfl⟩
      obtain ⟨U, hU⟩ : ∃ U, U = 1 + B % 6 := ⟨_, rfl⟩
      have e1 : (2 : Int) + (A : Int) % 9 = (T : Int) := by omega
      have e2 : (1 : Int) + (B : Int) % 6 = (U : Int) := by omega
      have hT1 : (2 : Int) ≤ T := by omega
      have hT2 : (T : Int) ≤ 10 := by omega
      have hU1 : (1 : Int) ≤ U := by omega
      have hU2 : (U : Int) ≤ 6 := by omega
      clear hAe hBe hT hU
      go_upto_region 12 with (fail)
      obtain ⟨md, hmd⟩ : ∃ md, modeH x.hs T = md := ⟨_, rfl⟩
      obtain ⟨l2, hl2⟩ : ∃ l2, l2 = failH x.hs T U := ⟨_, rfl⟩
      have HMD := Lib.hid hmd; have HL2 := Lib.hid hl2
      clear hmd hl2 r0 r1 e1 e2
      go_cut [8, 9, 10] from 40 to 49 (fun s8 s9 s10 wx => ∃ (X : Nat) (na ma ea : Option Addr) (nc mc ec : Nat), s8 = .pointer (some ⟨X, 0, none⟩) ∧ s9 = .slice ea 1 ec ∧ s10 = .int .i64 0 ∧ wx.heap[X]? = some (.cells #[.int .i64 x.r, .slice na x.wt.length nc, .slice ma l2.length mc] 29 (0, 0)) ∧ X ≠ S ∧ X ≠ C ∧ w0.heap.size ≤ X ∧ Ints [S, C] wx (.slice na x.wt.length nc) x.wt ∧ Raw [S, C] 3 wx (.slice ma l2.length mc) l2.length (l2.flatMap encH) ∧ SlE wx (.slice ea 1 ec) [rstE T md] ∧ wx.heap[S]? = some (.cells #[.int .i64 x.r, .slice wa x.wt.length wc, .slice ha x.hs.length hc] 29 (0, 0)) ∧ wx.heap[C]? = some (.cells (arr32 f) 31 (0, 0)) ∧ Below w0.heap.size w0 wx)
      case first =>
        have hBl : ∀ q ∈ [S], ∃ cc e f, wr.heap[q]? = some (.cells cc e f) := fun q hq => by rw [List.mem_singleton.1 hq]; exact ⟨_, _, _, HS.out⟩
        refine Txt.Ty.wp_tree [S] [0] [] [0] [0, 1, 2] (.alt [3] (.alt [4, 5, 6, 7, 8] (.alt [9] (.alt [10, 11, 12] (.done) (.no)) (.no)) (.alt [9] (.alt [4, 5, 6, 7, 8] (.alt [10, 11, 12] (.done) (.no)) (.no)) (.no))) (.alt [9] (.alt [3] (.alt [4, 5, 6, 7, 8] (.alt [10, 11, 12] (.done) (.no)) (.no)) (.no)) (.no))) (by kernel_rfl) (by kernel_rfl) (by kernel_rfl) (by kernel_rfl) hBl ?_
        obtain ⟨y0, hy0⟩ : ∃ y, y = wr.drew := ⟨_, rfl⟩
        have HSB0 : Hid (Txt.SameB [S] y0 y0) := Lib.hid (by rw [hy0]; exact same_start hBl)
        clear hBl
        rw [← hy0]
        have hd : Below wr.heap.size wr y0 := by rw [hy0]; exact (Below.refl _ _).drew
        have HB0 := Lib.hid (HB.out.trans (hd.mono HB.out.size))
        have HS0 := Lib.hid ((hd.block S (Array.getElem?_eq_some_iff.1 HS.out).1).trans HS.out)
        have HC0 := Lib.hid ((hd.block C (Array.getElem?_eq_some_iff.1 HC.out).1).trans HC.out)
        have HV0 := Lib.hid (HV.out.below hd)
        clear hy0 hd HB HS HC HV
        have s0 := box_at HS0.out (j := 0) rfl
        have s1 := box_at HS0.out (j := 1) rfl
        have s2 := box_at HS0.out (j := 2) rfl
        (try simp only [Txt.pick, List.getElem?_cons_succ, List.getElem?_cons_zero])
        go_wp2
        refine Txt.RunPost.mk ?_
        clear s0 s1 s2
        refine Txt.Ty.wpTr_alt ?_ (Txt.Ty.wpTr_alt ?_ Txt.Ty.wpTr_no)
        · (try simp only [Txt.pick, List.getElem?_cons_succ, List.getElem?_cons_zero])
          go_wp2_with fail
          refine (report_any (T : Int) (U : Int) y0).mono ?_
          rintro e y1 ⟨rfl, hb⟩
          have HB1 := Lib.hid (HB0.out.trans (hb.mono HB0.out.size))
          have HS1 := Lib.hid ((hb.block S (Array.getElem?_eq_some_iff.1 HS0.out).1).trans HS0.out)
          have HC1 := Lib.hid ((hb.block C (Array.getElem?_eq_some_iff.1 HC0.out).1).trans HC0.out)
          have HV1 := Lib.hid (HV0.out.below hb)
          have HSB1 := Lib.hid (same_below' HSB0.out hb)
          clear HSB0 hb HB0 HS0 HC0 HV0
          go_wp2
          refine Txt.SegPost.mk (Txt.Ty.Shown.same HSB1.out) ?_
          (try simp only [Txt.pick, List.getElem?_cons_succ, List.getElem?_cons_zero])
          go_wp2
          refine Txt.RunPost.mk ?_
          refine Txt.Ty.wpTr_alt ?_ (Txt.Ty.wpTr_alt ?_ Txt.Ty.wpTr_no)
          · (try simp only [Txt.pick, List.getElem?_cons_succ, List.getElem?_cons_zero])
            go_wp2_with fail
            obtain ⟨wvv, hvv, hee, hii, hhh⟩ := HV1.out
            cases hee
            refine (handle_any x _ _ ⟨0, 1, 5, 1, (T : Int), (U : Int), 0, 0⟩ none 0 0 y1 HOK.out hii hhh (HF.out.below HB1.out h0) (show fits 5 by unfold fits; decide)).mono ?_
            clear hii hhh
            rintro e y2 ⟨hb, hres⟩
            rw [handle_failed HOK.out hT1 hT2 hU1 hU2] at hres
            obtain ⟨sv, ev, rfl, hse, hsv⟩ := hres
            obtain ⟨nv, mv, rfl, hnv, hmv⟩ := hsv
            dsimp only at hnv hmv hse
            rw [← HL2.out] at hmv
            rw [HMD.out] at hse
            obtain ⟨na, nc, rfl⟩ := Raw.slice hnv
            obtain ⟨ma, mc, rfl⟩ := Raw.slice hmv
            obtain ⟨ea, ec, rfl⟩ := Raw.slice hse
            have hSl := (Array.getElem?_eq_some_iff.1 HS1.out).1
            have hCl := (Array.getElem?_eq_some_iff.1 HC1.out).1
            have hfr : ∀ f ∈ [S, C], f ∈ List.range y1.heap.size ∨ y2.heap.size ≤ f := fun f hf => .inl (List.mem_range.2 (by
              simp only [List.mem_cons, List.not_mem_nil, or_false] at hf
              rcases hf with rfl | rfl <;> assumption))
            have HN2 : Hid (SvN [S, C] y2 (.agg #[.int .i64 x.r, .slice na x.wt.length nc, .slice ma l2.length mc]) ⟨x.r, x.wt, l2⟩) := Lib.hid ⟨_, _, rfl, Raw.fresh hnv hfr, Raw.fresh hmv hfr⟩
            have HE2 : Hid (SlX [S, C] y2 (.slice ea 1 ec) [rstE T md]) := Lib.hid (Raw.fresh hse hfr)
            clear hfr hSl hCl
            clear hnv hmv hse
            have HB2 := Lib.hid (HB1.out.trans (hb.mono HB1.out.size))
            have HS2 := Lib.hid ((hb.block S (Array.getElem?_eq_some_iff.1 HS1.out).1).trans HS1.out)
            have HC2 := Lib.hid ((hb.block C (Array.getElem?_eq_some_iff.1 HC1.out).1).trans HC1.out)
            have HV2 := Lib.hid (HV1.out.below hb)
            have HSB2 := Lib.hid (same_below' HSB1.out hb)
            clear HSB1 hb HB1 HS1 HC1 HV1
            go_wp2
            refine Txt.SegPost.mk (Txt.Ty.Shown.same HSB2.out) ?_
            (try simp only [Txt.pick, List.getElem?_cons_succ, List.getElem?_cons_zero])
            go_wp2
            refine Txt.RunPost.mk ?_
            refine Txt.Ty.wpTr_alt ?_ Txt.Ty.wpTr_no
            (try simp only [Txt.pick, List.getElem?_cons_succ, List.getElem?_cons_zero])
            go_wp2
            obtain ⟨y3, hy⟩ : ∃ Y, Y = y2.alloc (.cells #[.int .i64 0, .slice none 0 0, .slice none 0 0] 29) := ⟨_, rfl⟩
            rw [← hy]
            obtain ⟨X, hXe⟩ : ∃ X, X = y2.heap.size := ⟨_, rfl⟩
            rw [← hXe]
            have hb : Below y2.heap.size y2 y3 := by rw [hy]; exact (Below.refl _ _).alloc (Nat.le_refl _) _
            have hX3 : y3.heap[X]? = some (.cells #[.int .i64 0, .slice none 0 0, .slice none 0 0] 29 (0, 0)) := by rw [hy, hXe]; exact heap_alloc_new y2 _
            have HX3 := Lib.hid hX3
            have hXw : w0.heap.size ≤ X := by rw [hXe]; exact HB2.out.size
            have hXS : X ≠ S := by have := (Array.getElem?_eq_some_iff.1 HS2.out).1; omega
            have hXC : X ≠ C := by have := (Array.getElem?_eq_some_iff.1 HC2.out).1; omega
            have hn := SvN.fresh (F' := [X, S, C]) HN2.out (fun f hf => (List.mem_cons.1 hf).elim (fun e => .inr (by rw [e, hXe]; exact Nat.le_refl _)) .inl)
            have he : SlX [X, S, C] y2 _ _ := Raw.fresh HE2.out (fun f hf => (List.mem_cons.1 hf).elim (fun e => .inr (by rw [e, hXe]; exact Nat.le_refl _)) .inl)
            clear HN2 HE2
            have HN2 := Lib.hid hn
            have HE2 := Lib.hid he
            clear hn he
            clear hy hXe hX3
            have HB3 := Lib.hid (HB2.out.trans (hb.mono HB2.out.size))
            have HS3 := Lib.hid ((hb.block S (Array.getElem?_eq_some_iff.1 HS2.out).1).trans HS2.out)
            have HC3 := Lib.hid ((hb.block C (Array.getElem?_eq_some_iff.1 HC2.out).1).trans HC2.out)
            have HV3 := Lib.hid (HV2.out.below hb)
            have HN3 := Lib.hid (SvN.below HN2.out hb)
            have HE3 := Lib.hid (show SlX _ _ _ _ from Raw.below HE2.out hb)
            have HSB3 := Lib.hid (same_below' HSB2.out hb)
            clear HSB2 hb HB2 HS2 HC2 HV2 HN2 HE2
            refine Txt.SegPost.mk (Txt.Ty.Shown.same HSB3.out) ?_
            (try simp only [Txt.pick, List.getElem?_cons_succ, List.getElem?_cons_zero])
            go_wp2
            refine Txt.RunPost.mk ?_
            refine Txt.Ty.wpTr_alt ?_ Txt.Ty.wpTr_no
            (try simp only [Txt.pick, List.getElem?_cons_succ, List.getElem?_cons_zero])
            have g0 := box_at HX3.out (j := 0) rfl
            have g1 := box_at HX3.out (j := 1) rfl
            have g2 := box_at HX3.out (j := 2) rfl
            have f0 := box_free HX3.out 0
            have f1 := box_free HX3.out 1
            have f2 := box_free HX3.out 2
            go_wp2
            have hk := keep_set3 y3 X (.int .i64 x.r) (.slice na x.wt.length nc) (.slice ma l2.length mc)
            refine Txt.SegPost.mk (Txt.Ty.Shown.same (same_keep HSB3.out hk (fun q hq hm => by simp only [List.mem_cons, List.not_mem_nil, or_false] at hq hm; omega))) ?_
            (try simp only [Txt.pick, List.getElem?_cons_succ, List.getElem?_cons_zero])
            go_wp2
            refine Txt.RunPost.mk ?_
            refine Txt.Ty.wpTr_done (by rfl) ⟨.head _, trivial⟩ ?_
            go_wp2
            go_meet
            case rel =>
              obtain ⟨nv, mv, hee, hnv, hmv⟩ := HN3.out
              cases hee
              exact ⟨X, na, ma, ea, nc, mc, ec, rfl, rfl, rfl, heap_set3 HX3.out _ _ _, hXS, hXC, hXw, Raw.keep (F' := [S, C]) hnv hk (fun f hf => .inl (by rw [List.mem_singleton.1 hf]; simp)) (fun f hf => .inl (List.mem_cons_of_mem _ hf)), Raw.keep (F' := [S, C]) hmv hk (fun f hf => .inl (by rw [List.mem_singleton.1 hf]; simp)) (fun f hf => .inl (List.mem_cons_of_mem _ hf)), Raw.keep (F' := []) HE3.out hk (fun f hf => .inl (by rw [List.mem_singleton.1 hf]; simp)) (fun f hf => by cases hf), (hk.block S (Array.getElem?_eq_some_iff.1 HS3.out).1 (by simp; omega)).trans HS3.out, (hk.block C (Array.getElem?_eq_some_iff.1 HC3.out).1 (by simp; omega)).trans HC3.out, HB3.out.trans (hk.below HB3.out.size (fun f hf => by rw [List.mem_singleton.1 hf]; exact hXw))⟩
          · (try simp only [Txt.pick, List.getElem?_cons_succ, List.getElem?_cons_zero])
            go_wp2
            obtain ⟨y2, hy⟩ : ∃ Y, Y = y1.alloc (.cells #[.int .i64 0, .slice none 0 0, .slice none 0 0] 29) := ⟨_, rfl⟩
            rw [← hy]
            obtain ⟨X, hXe⟩ : ∃ X, X = y1.heap.size := ⟨_, rfl⟩
            rw [← hXe]
            have hb : Below y1.heap.size y1 y2 := by rw [hy]; exact (Below.refl _ _).alloc (Nat.le_refl _) _
            have hX2 : y2.heap[X]? = some (.cells #[.int .i64 0, .slice none 0 0, .slice none 0 0] 29 (0, 0)) := by rw [hy, hXe]; exact heap_alloc_new y1 _
            have HX2 := Lib.hid hX2
            have hXw : w0.heap.size ≤ X := by rw [hXe]; exact HB1.out.size
            have hXS : X ≠ S := by have := (Array.getElem?_eq_some_iff.1 HS1.out).1; omega
            have hXC : X ≠ C := by have := (Array.getElem?_eq_some_iff.1 HC1.out).1; omega
            clear hy hXe hX2
            have HB2 := Lib.hid (HB1.out.trans (hb.mono HB1.out.size))
            have HS2 := Lib.hid ((hb.block S (Array.getElem?_eq_some_iff.1 HS1.out).1).trans HS1.out)
            have HC2 := Lib.hid ((hb.block C (Array.getElem?_eq_some_iff.1 HC1.out).1).trans HC1.out)
            have HV2 := Lib.hid (HV1.out.below hb)
            have HSB2 := Lib.hid (same_below' HSB1.out hb)
            clear HSB1 hb HB1 HS1 HC1 HV1
            refine Txt.SegPost.mk (Txt.Ty.Shown.same HSB2.out) ?_
            (try simp only [Txt.pick, List.getElem?_cons_succ, List.getElem?_cons_zero])
            go_wp2
            refine Txt.RunPost.mk ?_
            refine Txt.Ty.wpTr_alt ?_ Txt.Ty.wpTr_no
            (try simp only [Txt.pick, List.getElem?_cons_succ, List.getElem?_cons_zero])
            go_wp2_with fail
            obtain ⟨wvv, hvv, hee, hii, hhh⟩ := HV2.out
            cases hee
            refine (handle_any x _ _ ⟨0, 1, 5, 1, (T : Int), (U : Int), 0, 0⟩ none 0 0 y2 HOK.out hii hhh (HF.out.below HB2.out h0) (show fits 5 by unfold fits; decide)).mono ?_
            clear hii hhh
            rintro e y3 ⟨hb, hres⟩
            rw [handle_failed HOK.out hT1 hT2 hU1 hU2] at hres
            obtain ⟨sv, ev, rfl, hse, hsv⟩ := hres
            obtain ⟨nv, mv, rfl, hnv, hmv⟩ := hsv
            dsimp only at hnv hmv hse
            rw [← HL2.out] at hmv
            rw [HMD.out] at hse
            obtain ⟨na, nc, rfl⟩ := Raw.slice hnv
            obtain ⟨ma, mc, rfl⟩ := Raw.slice hmv
            obtain ⟨ea, ec, rfl⟩ := Raw.slice hse
            have hSl := (Array.getElem?_eq_some_iff.1 HS2.out).1
            have hCl := (Array.getElem?_eq_some_iff.1 HC2.out).1
            have hXl := (Array.getElem?_eq_some_iff.1 HX2.out).1
            have hfr : ∀ f ∈ [X, S, C], f ∈ List.range y2.heap.size ∨ y3.heap.size ≤ f := fun f hf => .inl (List.mem_range.2 (by
              simp only [List.mem_cons, List.not_mem_nil, or_false] at hf
              rcases hf with rfl | rfl | rfl <;> assumption))
            have HN3 : Hid (SvN [X, S, C] y3 (.agg #[.int .i64 x.r, .slice na x.wt.length nc, .slice ma l2.length mc]) ⟨x.r, x.wt, l2⟩) := Lib.hid ⟨_, _, rfl, Raw.fresh hnv hfr, Raw.fresh hmv hfr⟩
            have HE3 : Hid (SlX [X, S, C] y3 (.slice ea 1 ec) [rstE T md]) := Lib.hid (Raw.fresh hse hfr)
            clear hfr hSl hCl hXl
            clear hnv hmv hse
            have HB3 := Lib.hid (HB2.out.trans (hb.mono HB2.out.size))
            have HS3 := Lib.hid ((hb.block S (Array.getElem?_eq_some_iff.1 HS2.out).1).trans HS2.out)
            have HC3 := Lib.hid ((hb.block C (Array.getElem?_eq_some_iff.1 HC2.out).1).trans HC2.out)
            have HV3 := Lib.hid (HV2.out.below hb)
            have HX3 := Lib.hid ((hb.block X (Array.getElem?_eq_some_iff.1 HX2.out).1).trans HX2.out)
            have HSB3 := Lib.hid (same_below' HSB2.out hb)
            clear HSB2 hb HB2 HS2 HC2 HV2 HX2
            go_wp2
            refine Txt.SegPost.mk (Txt.Ty.Shown.same HSB3.out) ?_
            (try simp only [Txt.pick, List.getElem?_cons_succ, List.getElem?_cons_zero])
            go_wp2
            refine Txt.RunPost.mk ?_
            refine Txt.Ty.wpTr_alt ?_ Txt.Ty.wpTr_no
            (try simp only [Txt.pick, List.getElem?_cons_succ, List.getElem?_cons_zero])
            have g0 := box_at HX3.out (j := 0) rfl
            have g1 := box_at HX3.out (j := 1) rfl
            have g2 := box_at HX3.out (j := 2) rfl
            have f0 := box_free HX3.out 0
            have f1 := box_free HX3.out 1
            have f2 := box_free HX3.out 2
            go_wp2
            have hk := keep_set3 y3 X (.int .i64 x.r) (.slice na x.wt.length nc) (.slice ma l2.length mc)
            refine Txt.SegPost.mk (Txt.Ty.Shown.same (same_keep HSB3.out hk (fun q hq hm => by simp only [List.mem_cons, List.not_mem_nil, or_false] at hq hm; omega))) ?_
            (try simp only [Txt.pick, List.getElem?_cons_succ, List.getElem?_cons_zero])
            go_wp2
            refine Txt.RunPost.mk ?_
            refine Txt.Ty.wpTr_done (by rfl) ⟨.head _, trivial⟩ ?_
            go_wp2
            go_meet
            case rel =>
              obtain ⟨nv, mv, hee, hnv, hmv⟩ := HN3.out
              cases hee
              exact ⟨X, na, ma, ea, nc, mc, ec, rfl, rfl, rfl, heap_set3 HX3.out _ _ _, hXS, hXC, hXw, Raw.keep (F' := [S, C]) hnv hk (fun f hf => .inl (by rw [List.mem_singleton.1 hf]; simp)) (fun f hf => .inl (List.mem_cons_of_mem _ hf)), Raw.keep (F' := [S, C]) hmv hk (fun f hf => .inl (by rw [List.mem_singleton.1 hf]; simp)) (fun f hf => .inl (List.mem_cons_of_mem _ hf)), Raw.keep (F' := []) HE3.out hk (fun f hf => .inl (by rw [List.mem_singleton.1 hf]; simp)) (fun f hf => by cases hf), (hk.block S (Array.getElem?_eq_some_iff.1 HS3.out).1 (by simp; omega)).trans HS3.out, (hk.block C (Array.getElem?_eq_some_iff.1 HC3.out).1 (by simp; omega)).trans HC3.out, HB3.out.trans (hk.below HB3.out.size (fun f hf => by rw [List.mem_singleton.1 hf]; exact hXw))⟩
        · (try simp only [Txt.pick, List.getElem?_cons_succ, List.getElem?_cons_zero])
          go_wp2
          obtain ⟨y1, hy⟩ : ∃ Y, Y = y0.alloc (.cells #[.int .i64 0, .slice none 0 0, .slice none 0 0] 29) := ⟨_, rfl⟩
          rw [← hy]
          obtain ⟨X, hXe⟩ : ∃ X, X = y0.heap.size := ⟨_, rfl⟩
          rw [← hXe]
          have hb : Below y0.heap.size y0 y1 := by rw [hy]; exact (Below.refl _ _).alloc (Nat.le_refl _) _
          have hX1 : y1.heap[X]? = some (.cells #[.int .i64 0, .slice none 0 0, .slice none 0 0] 29 (0, 0)) := by rw [hy, hXe]; exact heap_alloc_new y0 _
          have HX1 := Lib.hid hX1
          have hXw : w0.heap.size ≤ X := by rw [hXe]; exact HB0.out.size
          have hXS : X ≠ S := by have := (Array.getElem?_eq_some_iff.1 HS0.out).1; omega
          have hXC : X ≠ C := by have := (Array.getElem?_eq_some_iff.1 HC0.out).1; omega
          clear hy hXe hX1
          have HB1 := Lib.hid (HB0.out.trans (hb.mono HB0.out.size))
          have HS1 := Lib.hid ((hb.block S (Array.getElem?_eq_some_iff.1 HS0.out).1).trans HS0.out)
          have HC1 := Lib.hid ((hb.block C (Array.getElem?_eq_some_iff.1 HC0.out).1).trans HC0.out)
          have HV1 := Lib.hid (HV0.out.below hb)
          have HSB1 := Lib.hid (same_below' HSB0.out hb)
          clear HSB0 hb HB0 HS0 HC0 HV0
          refine Txt.SegPost.mk (Txt.Ty.Shown.same HSB1.out) ?_
          (try simp only [Txt.pick, List.getElem?_cons_succ, List.getElem?_cons_zero])
          go_wp2
          refine Txt.RunPost.mk ?_
          refine Txt.Ty.wpTr_alt ?_ Txt.Ty.wpTr_no
          (try simp only [Txt.pick, List.getElem?_cons_succ, List.getElem?_cons_zero])
          go_wp2_with fail
          refine (report_any (T : Int) (U : Int) y1).mono ?_
          rintro e y2 ⟨rfl, hb⟩
          have HB2 := Lib.hid (HB1.out.trans (hb.mono HB1.out.size))
          have HS2 := Lib.hid ((hb.block S (Array.getElem?_eq_some_iff.1 HS1.out).1).trans HS1.out)
          have HC2 := Lib.hid ((hb.block C (Array.getElem?_eq_some_iff.1 HC1.out).1).trans HC1.out)
          have HV2 := Lib.hid (HV1.out.below hb)
          have HX2 := Lib.hid ((hb.block X (Array.getElem?_eq_some_iff.1 HX1.out).1).trans HX1.out)
          have HSB2 := Lib.hid (same_below' HSB1.out hb)
          clear HSB1 hb HB1 HS1 HC1 HV1 HX1
          go_wp2
          refine Txt.SegPost.mk (Txt.Ty.Shown.same HSB2.out) ?_
          (try simp only [Txt.pick, List.getElem?_cons_succ, List.getElem?_cons_zero])
          go_wp2
          refine Txt.RunPost.mk ?_
          refine Txt.Ty.wpTr_alt ?_ Txt.Ty.wpTr_no
          (try simp only [Txt.pick, List.getElem?_cons_succ, List.getElem?_cons_zero])
          go_wp2_with fail
          obtain ⟨wvv, hvv, hee, hii, hhh⟩ := HV2.out
          cases hee
          refine (handle_any x _ _ ⟨0, 1, 5, 1, (T : Int), (U : Int), 0, 0⟩ none 0 0 y2 HOK.out hii hhh (HF.out.below HB2.out h0) (show fits 5 by unfold fits; decide)).mono ?_
          clear hii hhh
          rintro e y3 ⟨hb, hres⟩
          rw [handle_failed HOK.out hT1 hT2 hU1 hU2] at hres
          obtain ⟨sv, ev, rfl, hse, hsv⟩ := hres
          obtain ⟨nv, mv, rfl, hnv, hmv⟩ := hsv
          dsimp only at hnv hmv hse
          rw [← HL2.out] at hmv
          rw [HMD.out] at hse
          obtain ⟨na, nc, rfl⟩ := Raw.slice hnv
          obtain ⟨ma, mc, rfl⟩ := Raw.slice hmv
          obtain ⟨ea, ec, rfl⟩ := Raw.slice hse
          have hSl := (Array.getElem?_eq_some_iff.1 HS2.out).1
          have hCl := (Array.getElem?_eq_some_iff.1 HC2.out).1
          have hXl := (Array.getElem?_eq_some_iff.1 HX2.out).1
          have hfr : ∀ f ∈ [X, S, C], f ∈ List.range y2.heap.size ∨ y3.heap.size ≤ f := fun f hf => .inl (List.mem_range.2 (by
            simp only [List.mem_cons, List.not_mem_nil, or_false] at hf
            rcases hf with rfl | rfl | rfl <;> assumption))
          have HN3 : Hid (SvN [X, S, C] y3 (.agg #[.int .i64 x.r, .slice na x.wt.length nc, .slice ma l2.length mc]) ⟨x.r, x.wt, l2⟩) := Lib.hid ⟨_, _, rfl, Raw.fresh hnv hfr, Raw.fresh hmv hfr⟩
          have HE3 : Hid (SlX [X, S, C] y3 (.slice ea 1 ec) [rstE T md]) := Lib.hid (Raw.fresh hse hfr)
          clear hfr hSl hCl hXl
          clear hnv hmv hse
          have HB3 := Lib.hid (HB2.out.trans (hb.mono HB2.out.size))
          have HS3 := Lib.hid ((hb.block S (Array.getElem?_eq_some_iff.1 HS2.out).1).trans HS2.out)
          have HC3 := Lib.hid ((hb.block C (Array.getElem?_eq_some_iff.1 HC2.out).1).trans HC2.out)
          have HV3 := Lib.hid (HV2.out.below hb)
          have HX3 := Lib.hid ((hb.block X (Array.getElem?_eq_some_iff.1 HX2.out).1).trans HX2.out)
          have HSB3 := Lib.hid (same_below' HSB2.out hb)
          clear HSB2 hb HB2 HS2 HC2 HV2 HX2
          go_wp2
          refine Txt.SegPost.mk (Txt.Ty.Shown.same HSB3.out) ?_
          (try simp only [Txt.pick, List.getElem?_cons_succ, List.getElem?_cons_zero])
          go_wp2
          refine Txt.RunPost.mk ?_
          refine Txt.Ty.wpTr_alt ?_ Txt.Ty.wpTr_no
          (try simp only [Txt.pick, List.getElem?_cons_succ, List.getElem?_cons_zero])
          have g0 := box_at HX3.out (j := 0) rfl
          have g1 := box_at HX3.out (j := 1) rfl
          have g2 := box_at HX3.out (j := 2) rfl
          have f0 := box_free HX3.out 0
          have f1 := box_free HX3.out 1
          have f2 := box_free HX3.out 2
          go_wp2
          have hk := keep_set3 y3 X (.int .i64 x.r) (.slice na x.wt.length nc) (.slice ma l2.length mc)
          refine Txt.SegPost.mk (Txt.Ty.Shown.same (same_keep HSB3.out hk (fun q hq hm => by simp only [List.mem_cons, List.not_mem_nil, or_false] at hq hm; omega))) ?_
          (try simp only [Txt.pick, List.getElem?_cons_succ, List.getElem?_cons_zero])
          go_wp2
          refine Txt.RunPost.mk ?_
          refine Txt.Ty.wpTr_done (by rfl) ⟨.head _, trivial⟩ ?_
          go_wp2
          go_meet
          case rel =>
            obtain ⟨nv, mv, hee, hnv, hmv⟩ := HN3.out
            cases hee
            exact ⟨X, na, ma, ea, nc, mc, ec, rfl, rfl, rfl, heap_set3 HX3.out _ _ _, hXS, hXC, hXw, Raw.keep (F' := [S, C]) hnv hk (fun f hf => .inl (by rw [List.mem_singleton.1 hf]; simp)) (fun f hf => .inl (List.mem_cons_of_mem _ hf)), Raw.keep (F' := [S, C]) hmv hk (fun f hf => .inl (by rw [List.mem_singleton.1 hf]; simp)) (fun f hf => .inl (List.mem_cons_of_mem _ hf)), Raw.keep (F' := []) HE3.out hk (fun f hf => .inl (by rw [List.mem_singleton.1 hf]; simp)) (fun f hf => by cases hf), (hk.block S (Array.getElem?_eq_some_iff.1 HS3.out).1 (by simp; omega)).trans HS3.out, (hk.block C (Array.getElem?_eq_some_iff.1 HC3.out).1 (by simp; omega)).trans HC3.out, HB3.out.trans (hk.below HB3.out.size (fun f hf => by rw [List.mem_singleton.1 hf]; exact hXw))⟩
      case rest =>
        obtain ⟨X, na, ma, ea, nc, mc, ec, rfl, rfl, rfl, hX, hXS, hXC, hXw, hn, hm, he, hSb, hCb, hbl⟩ := hcut
        obtain ⟨w4, hw4⟩ : ∃ Y, Y = wc := ⟨_, rfl⟩
        rw [← hw4] at hX hn hm he hSb hCb hbl ⊢
        clear hw4
        obtain ⟨b, off, rfl, hbl', hcl⟩ := effs_at he (i := 0) (x := rstE T md) rfl
        have c0 := hcl 0 _ rfl
        have c1 := hcl 1 _ rfl
        have c2 := hcl 2 _ rfl
        have c3 := hcl 3 _ rfl
        have c4 := hcl 4 _ rfl
        simp only [Nat.zero_mul, Nat.add_zero, rstE] at c0 c1 c2 c3 c4
        obtain ⟨hq1, hq2, hq3⟩ := HCN.out T
        have hT32 : T < 32 := by omega
        have cT := box_at hCb (arr32_get (f := f) hT32)
        have fT := box_free hCb T
        have HFT : Hid (f T = f T) := Lib.hid rfl
        obtain ⟨q, hq⟩ : ∃ q, q = f T := ⟨_, rfl⟩
        rw [← hq] at hq1 hq2 hq3 cT
        have hmdq : q % 2 = md := by
          have hmm := HMD.out
          unfold modeH at hmm
          rw [hq1] at hmm
          have e : min (q + 1) 1000000000 = q + 1 := by omega
          rw [e] at hmm
          rw [← hmm]; split <;> omega
        have HQ := Lib.hid hq; have HQ1 := Lib.hid hq1
        have HX := Lib.hid hX; have HN := Lib.hid hn; have HM := Lib.hid hm; have HS4 := Lib.hid hSb; have HC4 := Lib.hid hCb; have HB4 := Lib.hid hbl
        clear HFT hX hn hm he hSb hCb hbl hcl hq hq1
        go_upto_region 13 with (fail)
        refine Txt.wp_txt (by kernel_rfl) (by kernel_rfl) ?_
        go_wp2
        refine Txt.DrawPost.mk0 (by rfl) ?_
        go_upto_region 16 with (fail)
        obtain ⟨w5, hw5⟩ : ∃ Y, Y = (w4.setCell ⟨C, T, none⟩ (.int .i64 (q + 1))).drew := ⟨_, rfl⟩
        rw [← hw5]
        have hk5 : Keep [C] w4 w5 := by rw [hw5]; exact ((Keep.refl [C] w4).setCell (p := ⟨C, T, none⟩) (by simp) _).drew
        have hC5 : w5.heap[C]? = some (.cells (arr32 fun j => if j = T then q + 1 else f j) 31 (0, 0)) := by
          rw [hw5, ← arr32_set]
          show (w4.setCell ⟨C, T, none⟩ (.int .i64 (q + 1))).heap[C]? = _
          simp only [World.setCell, Array.getElem?_modify]
          simp [HC4.out]
        have hS5 := (hk5.block S (Array.getElem?_eq_some_iff.1 HS4.out).1 (by simp; omega)).trans HS4.out
        have hX5 := (hk5.block X (Array.getElem?_eq_some_iff.1 HX.out).1 (by simp; omega)).trans HX.out
        have HN5 : Hid (Ints [S, C] w5 _ x.wt) := Lib.hid (Raw.keep (F' := [S, C]) HN.out hk5 (fun f hf => .inl (by rw [List.mem_singleton.1 hf]; simp)) (fun f hf => .inl hf))
        have HM5 := Lib.hid (Raw.keep (F' := [S, C]) HM.out hk5 (fun f hf => .inl (by rw [List.mem_singleton.1 hf]; simp)) (fun f hf => .inl hf))
        have HB5 := Lib.hid (HB4.out.trans (hk5.below HB4.out.size (fun f hf => by rw [List.mem_singleton.1 hf]; omega)))
        have HC5 := Lib.hid hC5; have HS5 := Lib.hid hS5
        have x0 := box_at hX5 (j := 0) rfl
        have x1 := box_at hX5 (j := 1) rfl
        have x2 := box_at hX5 (j := 2) rfl
        have s0 := box_at hS5 (j := 0) rfl
        have s1 := box_at hS5 (j := 1) rfl
        have s2 := box_at hS5 (j := 2) rfl
        have g0 := box_free hS5 0
        have g1 := box_free hS5 1
        have g2 := box_free hS5 2
        clear hw5 hk5 hC5 hS5 hX5 HN HM HB4 HX HS4 HC4 c0 c1 c2 c3 c4 cT fT hmdq hbl'
        go_wp2
        go_roundw
        case rel =>
          have hk := keep_set3 w5 S (.int .i64 x.r) (.slice na x.wt.length nc) (.slice ma l2.length mc)
          refine ⟨k + 1, by omega, by go_num, ⟨x.r, x.wt, l2⟩, fun j => if j = T then q + 1 else f j, na, ma, nc, mc, ?_, heap_set3 HS5.out _ _ _, Raw.keep (F' := [S, C]) HN5.out hk (fun f hf => .inl (by rw [List.mem_singleton.1 hf]; simp)) (fun f hf => .inl hf), Raw.keep (F' := [S, C]) HM5.out hk (fun f hf => .inl (by rw [List.mem_singleton.1 hf]; simp)) (fun f hf => .inl hf), (hk.block C (Array.getElem?_eq_some_iff.1 HC5.out).1 (by simp; omega)).trans HC5.out, fun t => ?_, HB5.out.trans (hk.below HB5.out.size (fun f hf => by rw [List.mem_singleton.1 hf]; exact hSw))⟩
          · rw [HL2.out]; exact fail_ok HOK.out hT1 hT2 hU1 (by omega)
          · have hct := HCN.out t
            have hc2 := cnt_fail HOK.out.h T U t
            rw [← HL2.out] at hc2
            dsimp only
            rw [hc2]
            by_cases e : t = T
            · subst e
              rw [if_pos rfl, if_pos rfl, HQ1.out]
              omega
            · rw [if_neg (by omega), if_neg e]
              omega
        case measure => simp [intOf]; omega
    · obtain rfl : k = L.length := by omega
      have hx9 := validH_len HOK.out.h
      clear HR HF
      go_wp2
      go_loopw [11] (fun i wz => ∃ t : Nat, t ≤ 32 ∧ i = .int .i64 t ∧ wz.heap[S]? = some (.cells #[.int .i64 x.r, .slice wa x.wt.length wc, .slice ha x.hs.length hc] 29 (0, 0)) ∧ SvV wz (.agg #[.int .i64 x.r, .slice wa x.wt.length wc, .slice ha x.hs.length hc]) x ∧ wz.heap[C]? = some (.cells (arr32 f) 31 (0, 0)) ∧ Below w0.heap.size w0 wz) (fun i _ => 32 - (intOf i).toNat)
      case atStart => exact ⟨0, Nat.zero_le _, rfl, HS.out, HV.out, HC.out, HB.out⟩
      case round =>
        clear HS HV HC HB
        obtain ⟨t, ht, rfl, hSb, hv, hCb, hbl⟩ := hrel
        have HS := Lib.hid hSb; have HC := Lib.hid hCb; have HV := Lib.hid hv; have HB := Lib.hid hbl
        clear hSb hCb hv hbl
        by_cases hlt2 : t < 32
        · have hlt3 : (t : Int) < 32 := by omega
          obtain ⟨hq1, hq2, hq3⟩ := HCN.out t
          obtain ⟨q, hq⟩ : ∃ q, q = f t := ⟨_, rfl⟩
          have hBl : ∀ q ∈ [C], ∃ cc e f, wr.heap[q]? = some (.cells cc e f) := fun q hq => by rw [List.mem_singleton.1 hq]; exact ⟨_, _, _, HC.out⟩
          have s0 := box_at HS.out (j := 0) rfl
          have s1 := box_at HS.out (j := 1) rfl
          have s2 := box_at HS.out (j := 2) rfl
          have c0 := box_at HC.out (arr32_get (f := f) hlt2)
          rw [← hq] at hq1 c0
          have HQ1 := Lib.hid hq1
          clear hq1 hq2 hq3 hq
          go_upto_region 20 with (fail)
          refine Txt.Ty.wp_tree [C] [5] [] [0, 5] [0, 1, 3, 4, 5] (.alt [2, 6] (.done) (.no)) (by kernel_rfl) (by kernel_rfl) (by kernel_rfl) (by kernel_rfl) hBl ?_
          have hSB := same_start hBl
          clear hBl
          (try simp only [Txt.pick, List.getElem?_cons_succ, List.getElem?_cons_zero])
          go_wp2
          refine Txt.RunPost.mk ?_
          refine Txt.Ty.wpTr_alt ?_ Txt.Ty.wpTr_no
          (try simp only [Txt.pick, List.getElem?_cons_succ, List.getElem?_cons_zero])
          go_wp2_with fail
          refine (failures_any x _ t wr.drew (by omega) HV.out).mono ?_
          rintro e y1 ⟨rfl, hb⟩
          have HS1 := Lib.hid ((hb.block S (Array.getElem?_eq_some_iff.1 HS.out).1).trans HS.out)
          have HC1 := Lib.hid ((hb.block C (Array.getElem?_eq_some_iff.1 HC.out).1).trans HC.out)
          have HV1 := Lib.hid (SvV.below (w := wr.drew) HV.out hb)
          have HB1 := Lib.hid ((HB.out.trans ((Below.refl _ _).drew)).trans (hb.mono HB.out.size))
          have hSB1 := same_below' hSB hb
          clear hb HS HC HV HB s0 s1 s2 c0 hSB
          rw [HQ1.out]
          go_wp2
          refine Txt.SegPost.mk (Txt.Ty.Shown.same hSB1) ?_
          (try simp only [Txt.pick, List.getElem?_cons_succ, List.getElem?_cons_zero])
          go_wp2
          refine Txt.RunPost.mk ?_
          refine Txt.Ty.wpTr_done (by rfl) ⟨.head _, trivial⟩ ?_
          clear hSB1
          go_wp2
          go_roundw
          case rel => exact ⟨t + 1, by omega, by go_num, HS1.out, HV1.out, HC1.out, HB1.out⟩
          case measure => simp [intOf]; omega
        · obtain rfl : t = 32 := by omega
          go_wp2
          go_ret
          exact ⟨rfl, HB.out⟩
end Go.Proofs.YthmnhpakgjnngaaDoor
