/- Revive: Handle of a valid state -/
import Derived.Test.YthmnhpakgjnngaaGreatDoorVj
namespace Go.Rv
open Go Go.Maps Go.WideMaps
theorem fn_at (a b c z : Value) (k : Int) : ((((DataW.map []).put (.int .i64 5) (.held a)).put (.int .i64 4) (.held b)).put (.int .i64 7) (.held c)).atKey (.int .i64 k) (.held z) = .held (if k = 5 then a else if k = 4 then b else if k = 7 then c else z) := by
  have ne : ∀ {x y : Int}, x ≠ y → (Lit.int .i64 x) ≠ (Lit.int .i64 y) := fun h e => h (by injection e)
  have m0 : IsMap (DataW.map (H := Value) []) := isMap_empty
  have m1 := m0.put (.int .i64 5) (.held a)
  have m2 := m1.put (.int .i64 4) (.held b)
  by_cases h7 : k = 7
  · subst h7
    rw [atKey_put_same (k := .int .i64 7) m2 trivial]; simp
  · rw [atKey_put_other (ne h7)]
    by_cases h4 : k = 4
    · subst h4
      rw [atKey_put_same (k := .int .i64 4) m1 trivial]; simp
    · rw [atKey_put_other (ne h4)]
      by_cases h5 : k = 5
      · subst h5
        rw [atKey_put_same (k := .int .i64 5) m0 trivial]; simp
      · rw [atKey_put_other (ne h5)]
        simp [h4, h5, h7]; rfl
end Go.Rv
namespace Go.Proofs.YthmnhpakgjnngaaGreatDoor
open Go.RowKit Go.Bs Go.Cl Go.Rw Go.Dt Go.Rv Go.Maps
theorem fn_ne (g : Fn) (S : Nat) (w : World) : (binOp .eql 84 (.func g #[.pointer (some ⟨S, 0, none⟩)] #[]) .nilFunc).run Tryz.prog w = .ok (.bool false) w := by kernel_rfl
theorem fn_eq (w : World) : (binOp .eql 84 .nilFunc .nilFunc).run Tryz.prog w = .ok (.bool true) w := by kernel_rfl
set_option maxRecDepth 100000 in
set_option maxHeartbeats 4000000 in
theorem handle_any (x : Sv) (wv hv : Value) (m : Ms) (da : Option Addr) (dn dc : Nat) (w : World) (hok : VOk x) (h1 : Ints [] w wv x.wt) (h2 : SlH w hv x.hs) (hF : FormsAt w) (hfk : fits m.kind) :
    Calls Tryz.prog 16 #[.agg #[.int .i64 x.r, wv, hv], .agg (msgC m (.slice da dn dc))] w (RetH (handleV x m dn) 23 w) := by
  obtain ⟨ms, md, mk, mq, m0, m1, m2, m3⟩ := m
  obtain ⟨wa, wc, rfl⟩ := Raw.slice h1
  obtain ⟨ha, hc, rfl⟩ := Raw.slice h2
  have hl1 := hok.len
  have hl2 := validH_len hok.h
  have h0 := hF.pos
  have H1 := Lib.hid h1; have H2 := Lib.hid h2; have HV := Lib.hid (validV_iff.2 hok)
  have HOK := Lib.hid hok; have HFO := Lib.hid hF; have HFK := Lib.hid hfk
  clear h1 h2 hok hF hfk
  unfold msgC
  dsimp only
  obtain ⟨b1, hb1⟩ : ∃ X, X = w.alloc (.cells #[.int .i64 x.r, .slice wa x.wt.length wc, .slice ha x.hs.length hc] 41) := ⟨_, rfl⟩
  obtain ⟨b2, hb2⟩ : ∃ X, X = b1.alloc (.cells #[.int .i64 ms, .int .i64 md, .int .i64 mk, .int .i64 mq, .int .i64 m0, .int .i64 m1, .int .i64 m2, .int .i64 m3, .slice da dn dc] 31) := ⟨_, rfl⟩
  obtain ⟨b3, hb3⟩ : ∃ X, X = b2.alloc (.cells #[.int .i64 0, .slice none 0 0, .slice none 0 0] 41) := ⟨_, rfl⟩
  have z1 : b1.heap.size = w.heap.size + 1 := by rw [hb1]; simp
  have z2 : b2.heap.size = w.heap.size + 1 + 1 := by rw [hb2]; simp [z1]
  have z3 : b3.heap.size = w.heap.size + 1 + 1 + 1 := by rw [hb3]; simp [z2]
  have e1 : Below w.heap.size w b1 := by rw [hb1]; exact (Below.refl _ w).alloc (Nat.le_refl _) _
  have n1 : b1.heap[w.heap.size]? = some (.cells #[.int .i64 x.r, .slice wa x.wt.length wc, .slice ha x.hs.length hc] 41 (0, 0)) := by rw [hb1]; exact heap_alloc_new w _
  have e2 : Below b1.heap.size b1 b2 := by rw [hb2]; exact (Below.refl _ b1).alloc (Nat.le_refl _) _
  have n2 : b2.heap[w.heap.size + 1]? = some (.cells #[.int .i64 ms, .int .i64 md, .int .i64 mk, .int .i64 mq, .int .i64 m0, .int .i64 m1, .int .i64 m2, .int .i64 m3, .slice da dn dc] 31 (0, 0)) := by rw [hb2, ← z1]; exact heap_alloc_new b1 _
  have e3 : Below b2.heap.size b2 b3 := by rw [hb3]; exact (Below.refl _ b2).alloc (Nat.le_refl _) _
  have n3 : b3.heap[w.heap.size + 1 + 1]? = some (.cells #[.int .i64 0, .slice none 0 0, .slice none 0 0] 41 (0, 0)) := by rw [hb3, ← z2]; exact heap_alloc_new b2 _
  have t1 := e1
  have t2 := t1.trans (e2.mono t1.size)
  have t3 := t2.trans (e3.mono t2.size)
  have HS := Lib.hid ((e3.block _ (by omega)).trans ((e2.block _ (by omega)).trans (n1)))
  have HM := Lib.hid ((e3.block _ (by omega)).trans (n2))
  have HR := Lib.hid (n3)
  have HB := Lib.hid t3
  have HW1 := Lib.hid hb1
  have HW2 := Lib.hid hb2
  have HW3 := Lib.hid hb3
  clear hb1 e1 n1 t1 hb2 e2 n2 t2 hb3 e3 n3 t3
  go_enter Tryz.func16, Tryz.ntmps16
  go_upto_region 1 with (fail)
  rw [← HW1.out, ← HW2.out, ← HW3.out]
  obtain ⟨S, hS⟩ : ∃ A, A = w.heap.size := ⟨_, rfl⟩
  obtain ⟨M, hM⟩ : ∃ A, A = w.heap.size + 1 := ⟨_, rfl⟩
  obtain ⟨R, hR⟩ : ∃ A, A = w.heap.size + 1 + 1 := ⟨_, rfl⟩
  rw [← hR, ← hM, ← hS]
  rw [← hS] at HS
  rw [← hM] at HM
  rw [← hR] at HR
  have qS : w.heap.size ≤ S := by omega
  have qM : w.heap.size ≤ M := by omega
  have qR : w.heap.size ≤ R := by omega
  have dS : S < M := by omega
  have dM : M < R := by omega
  have hzb : R < b3.heap.size := by omega
  clear hS hM hR z1 HW1 z2 HW2 z3 HW3
  have s0 := box_at HS.out (j := 0) rfl
  have s1 := box_at HS.out (j := 1) rfl
  have s2 := box_at HS.out (j := 2) rfl
  go_wp2_with fail
  refine (valid_eq x _ _ true _ (by omega) (by omega) (Raw.below H1.out HB.out) (Raw.below H2.out HB.out) HV.out).mono ?_
  rintro e w4 ⟨rfl, hb4⟩
  have HS4 := Lib.hid ((hb4.block S (by omega)).trans HS.out)
  have HM4 := Lib.hid ((hb4.block M (by omega)).trans HM.out)
  have HR4 := Lib.hid ((hb4.block R (by omega)).trans HR.out)
  have HB4 := Lib.hid (HB.out.trans (hb4.mono HB.out.size))
  have hs4 := hb4.size
  clear hb4 s0 s1 s2 HB HR HS HM
  go_upto_region 3 with (fail)
  have hBl : ∀ q ∈ [S], ∃ cc e f, w4.heap[q]? = some (.cells cc e f) := fun q hq => by rw [List.mem_singleton.1 hq]; exact ⟨_, _, _, HS4.out⟩
  refine Txt.Ty.wp_tree [S] [2, 5] [9, 11] [2, 5] [0, 1, 2, 4, 5] (.alt [3] (.alt [6, 7, 8] (.alt [9, 10] (.alt [11] (.done) (.no)) (.no)) (.no)) (.no)) (by kernel_rfl) (by kernel_rfl) (by kernel_rfl) (by kernel_rfl) hBl ?_
  obtain ⟨y0, hy0⟩ : ∃ y, y = w4.drew := ⟨_, rfl⟩
  have HSB0 : Hid (Txt.SameB [S] y0 y0) := Lib.hid (by rw [hy0]; exact same_start hBl)
  clear hBl
  rw [← hy0]
  have hd : Below w4.heap.size w4 y0 := by rw [hy0]; exact (Below.refl _ _).drew
  have HBy0 := Lib.hid (HB4.out.trans (hd.mono HB4.out.size))
  have HSy0 := Lib.hid ((hd.block S (by omega)).trans HS4.out)
  have HMy0 := Lib.hid ((hd.block M (by omega)).trans HM4.out)
  have HRy0 := Lib.hid ((hd.block R (by omega)).trans HR4.out)
  have hz0 : R < y0.heap.size := by have := hd.size; omega
  have s1 := box_at HSy0.out (j := 1) rfl
  have s2 := box_at HSy0.out (j := 2) rfl
  clear hy0 hd HB4 HS4 HM4 HR4
  (try simp only [Txt.pick, List.getElem?_cons_succ, List.getElem?_cons_zero])
  go_wp2
  refine Txt.RunPost.mk ?_
  refine Txt.Ty.wpTr_alt ?_ Txt.Ty.wpTr_no
  (try simp only [Txt.pick, List.getElem?_cons_succ, List.getElem?_cons_zero])
  go_wp2_with fail
  refine (clone27 y0 (by omega) (Raw.below H1.out HBy0.out)).mono ?_
  rintro e y1 ⟨cw, rfl, ho1, hb1⟩
  obtain ⟨cwa, cwc, rfl⟩ := own_slice ho1
  have hwz := HBy0.out.size
  have HO1 := Lib.hid (own_base ho1 hwz)
  have HBy1 := Lib.hid (HBy0.out.trans (hb1.mono hwz))
  have HSy1 := Lib.hid ((hb1.block S (by omega)).trans HSy0.out)
  have HMy1 := Lib.hid ((hb1.block M (by omega)).trans HMy0.out)
  have HRy1 := Lib.hid ((hb1.block R (by omega)).trans HRy0.out)
  have HSB1 := Lib.hid (same_below' HSB0.out hb1)
  have hz1 : R < y1.heap.size := by have := hb1.size; omega
  clear ho1 hb1 HBy0 HSy0 HMy0 HRy0 s1 s2
  go_wp2
  refine Txt.SegPost.mk (Txt.Ty.Shown.same HSB1.out) ?_
  (try simp only [Txt.pick, List.getElem?_cons_succ, List.getElem?_cons_zero])
  go_wp2
  refine Txt.RunPost.mk ?_
  refine Txt.Ty.wpTr_alt ?_ Txt.Ty.wpTr_no
  (try simp only [Txt.pick, List.getElem?_cons_succ, List.getElem?_cons_zero])
  go_wp2_with fail
  refine (cloneH y1 (by omega) (Raw.below H2.out HBy1.out)).mono ?_
  rintro e y2 ⟨ch, rfl, ho2, hb2⟩
  obtain ⟨cha, chc, rfl⟩ := own_slice ho2
  have hwz1 := HBy1.out.size
  have HO2 := Lib.hid (own_base ho2 hwz1)
  have HOW2 := Lib.hid (own_below HO1.out hb2 (Nat.le_refl _))
  have HBy2 := Lib.hid (HBy1.out.trans (hb2.mono hwz1))
  have HSy2 := Lib.hid ((hb2.block S (by omega)).trans HSy1.out)
  have HMy2 := Lib.hid ((hb2.block M (by omega)).trans HMy1.out)
  have HRy2 := Lib.hid ((hb2.block R (by omega)).trans HRy1.out)
  have HSB2 := Lib.hid (same_below' HSB1.out hb2)
  have hz2 : R < y2.heap.size := by have := hb2.size; omega
  clear ho2 hb2 HBy1 HSy1 HMy1 HRy1 HO1
  go_wp2
  refine Txt.SegPost.mk (Txt.Ty.Shown.same HSB2.out) ?_
  (try simp only [Txt.pick, List.getElem?_cons_succ, List.getElem?_cons_zero])
  go_wp2
  refine Txt.RunPost.mk ?_
  refine Txt.Ty.wpTr_alt ?_ Txt.Ty.wpTr_no
  (try simp only [Txt.pick, List.getElem?_cons_succ, List.getElem?_cons_zero])
  have s1 := box_at HSy2.out (j := 1) rfl
  have s2 := box_at HSy2.out (j := 2) rfl
  have f1 := box_free HSy2.out 1
  have f2 := box_free HSy2.out 2
  go_wp2
  refine Txt.SegPost.mk (Txt.Ty.Shown.last rfl) ?_
  (try simp only [Txt.pick, List.getElem?_cons_succ, List.getElem?_cons_zero])
  go_wp2
  refine Txt.RunPost.mk ?_
  refine Txt.Ty.wpTr_alt ?_ Txt.Ty.wpTr_no
  (try simp only [Txt.pick, List.getElem?_cons_succ, List.getElem?_cons_zero])
  go_wp2
  refine Txt.SegPost.mk (Txt.Ty.Shown.last rfl) ?_
  (try simp only [Txt.pick, List.getElem?_cons_succ, List.getElem?_cons_zero])
  go_wp2
  refine Txt.RunPost.mk ?_
  refine Txt.Ty.wpTr_done (by rfl) ⟨.head _, .head _, trivial⟩ ?_
  go_upto_region 4 with (fail)
  obtain ⟨y3, hy3⟩ : ∃ X, X = (y2.setCell ⟨S, 1, none⟩ (.slice cwa x.wt.length cwc)).setCell ⟨S, 2, none⟩ (.slice cha x.hs.length chc) := ⟨_, rfl⟩
  rw [← hy3]
  have hk3 : Keep [S] y2 y3 := by rw [hy3]; exact ((Keep.refl [S] y2).setCell (by simp) _).setCell (by simp) _
  have hS3 : y3.heap[S]? = some (.cells #[.int .i64 x.r, .slice cwa x.wt.length cwc, .slice cha x.hs.length chc] 41 (0, 0)) := by
    rw [hy3]; simp only [World.setCell, Array.getElem?_modify]; simp [HSy2.out]
  have hown3 : ∀ {e k n : Nat} {v : Value} {xs : List Value}, y2.ownsRow w.heap.size e k v n xs → e ≠ 41 → y3.ownsRow w.heap.size e k v n xs := fun ho he => own_keep ho hk3 (fun q hq hm => by
    rw [List.mem_singleton] at hm
    obtain ⟨cur, hc⟩ := own_type ho hq
    rw [hm, HSy2.out] at hc; cases hc; exact he rfl)
  have HST : Hid (Stt y3 w.heap.size S (.slice cwa x.wt.length cwc) (.slice cha x.hs.length chc) x) := Lib.hid ⟨⟨hS3, hown3 HO2.out (by decide), fun q hq e => (by
    obtain ⟨cur, hc⟩ := own_type HO2.out hq
    rw [e, HSy2.out] at hc
    cases hc), qS⟩, hown3 HOW2.out (by decide)⟩
  have HBy3 := Lib.hid (HBy2.out.trans (hk3.below HBy2.out.size (fun f hf => by rw [List.mem_singleton.1 hf]; exact qS)))
  have HMy3 := Lib.hid ((hk3.block M (by omega) (by simp; omega)).trans HMy2.out)
  have HRy3 := Lib.hid ((hk3.block R (by omega) (by simp; omega)).trans HRy2.out)
  have hz3 : R < y3.heap.size := by have := hk3.size; omega
  clear hy3 hk3 hS3 hown3 HO2 HOW2 HBy2 HSy2 HMy2 HRy2 HSB0 HSB1 HSB2 s1 s2 f1 f2 H1 H2
  obtain ⟨y5, hy5⟩ : ∃ X, X = y3.alloc (.map #[] 0) := ⟨_, rfl⟩
  obtain ⟨K, hKe⟩ : ∃ K, K = y3.heap.size := ⟨_, rfl⟩
  have hmk : (Instr.makeMap 85 none).run Tryz.prog y3 = .ok (.map (some K)) y5 := by rw [hy5, hKe]; rfl
  have hm5 : y5.ownsMap Tryz.prog 3 selfR K 0 (.map []) := by rw [hy5, hKe]; exact World.ownsMap_made y3 Tryz.prog 3 selfR
  have hb5 : Below y3.heap.size y3 y5 := by rw [hy5]; exact (Below.refl _ _).alloc (Nat.le_refl _) _
  have KY := int_keyed Tryz.underlying3
  obtain ⟨y6, hr6, hm6, hg6⟩ := hm5.update KY Tryz.underlying85 (by unfold maxLen; omega) (key := .int .i64 5) (kl := .int .i64 5) (keyOf_int_mk Tryz.underlying3 (by decide)) (val := .func (.func 41) #[.pointer (some ⟨S, 0, none⟩)] #[]) rfl
  obtain ⟨y7, hr7, hm7, hg7⟩ := hm6.update KY Tryz.underlying85 (by unfold maxLen; omega) (key := .int .i64 4) (kl := .int .i64 4) (keyOf_int_mk Tryz.underlying3 (by decide)) (val := .func (.func 42) #[.pointer (some ⟨S, 0, none⟩)] #[]) rfl
  obtain ⟨y8, hr8, hm8, hg8⟩ := hm7.update KY Tryz.underlying85 (by unfold maxLen; omega) (key := .int .i64 7) (kl := .int .i64 7) (keyOf_int_mk Tryz.underlying3 (by decide)) (val := .func (.func 43) #[.pointer (some ⟨S, 0, none⟩)] #[]) rfl
  have hK5 : K < y5.heap.size := hm5.lt
  have hK8 : Keep [K] y5 y8 := ((Keep.of_grown hg6 (F := [K]) (fun k hk => .inl (by cases hk; simp))).trans (Keep.of_grown hg7 (F := [K]) (fun k hk => .inl (by cases hk; simp))) (fun f hf => .inl hf)).trans (Keep.of_grown hg8 (F := [K]) (fun k hk => .inl (by cases hk; simp))) (fun f hf => .inl hf)
  have hb8 : Below y3.heap.size y3 y8 := hb5.trans (hK8.below hb5.size (fun f hf => by rw [List.mem_singleton.1 hf, hKe]; exact Nat.le_refl _))
  obtain ⟨fv, ps, hlk, hfv⟩ := hm8.lookup KY Tryz.underlying85 (z := .nilFunc) (by rfl) (zd := .held .nilFunc) (zp := []) rfl (key := .int .i64 mk) (kl := .int .i64 mk) (keyOf_int_mk Tryz.underlying3 (WalkArith.wf_i64 HFK.out))
  have hfv' : fv = if mk = 5 then .func (.func 41) #[.pointer (some ⟨S, 0, none⟩)] #[] else if mk = 4 then .func (.func 42) #[.pointer (some ⟨S, 0, none⟩)] #[] else if mk = 7 then .func (.func 43) #[.pointer (some ⟨S, 0, none⟩)] #[] else .nilFunc := by
    have := (Prod.mk.inj (Option.some.inj hfv)).1
    rw [fn_at] at this
    injection this
  have hz8 : R < y8.heap.size := by have := hb8.size; omega
  have HSTn := Lib.hid (HST.out.below hb8)
  have HMn := Lib.hid ((hb8.block M (by omega)).trans HMy3.out)
  have HRn := Lib.hid ((hb8.block R (by omega)).trans HRy3.out)
  have HBn := Lib.hid (HBy3.out.trans (hb8.mono HBy3.out.size))
  have HFV := Lib.hid hfv'
  have k2 := box_at HMn.out (j := 2) rfl
  clear hy5 hKe hm5 hb5 KY hm6 hg6 hm7 hg7 hm8 hg8 hK5 hK8 hb8 hfv hfv' HST HMy3 HRy3 HBy3
  go_upto_region 5 with (fail)
  have fne := fun g w => fn_ne g S w
  have feq := fn_eq
  by_cases hkn : mk = 5 ∨ mk = 4 ∨ mk = 7
  rotate_left
  · have h5 : ¬ mk = 5 := fun e => hkn (.inl e)
    have h4 : ¬ mk = 4 := fun e => hkn (.inr (.inl e))
    have h7 : ¬ mk = 7 := fun e => hkn (.inr (.inr e))
    have HRES := Lib.hid (show handleV x ⟨ms, md, mk, mq, m0, m1, m2, m3⟩ dn = none by unfold handleV; simp [h5, h4, h7])
    have hfn : fv = .nilFunc := by rw [HFV.out, if_neg h5, if_neg h4, if_neg h7]
    subst hfn
    clear HFV h5 h4 h7 hkn
    have r0 := box_at HRn.out (j := 0) rfl
    have r1 := box_at HRn.out (j := 1) rfl
    have r2 := box_at HRn.out (j := 2) rfl
    have g0 := box_free HRn.out 0
    have g1 := box_free HRn.out 1
    have g2 := box_free HRn.out 2
    go_wp2
    refine bodyPost_ret (results_ctt rfl _ _ _ _ _ _ _ rfl (heap_set3 HRn.out _ _ _) Tryz.underlying41 rfl (by kernel_rfl)) rfl ?_
    rw [HRES.out]
    exact ⟨HBn.out.trans ((keep_set3 _ R _ _ _).below HBn.out.size (fun f hf => by rw [List.mem_singleton.1 hf]; exact qR)), rfl⟩
  cases hd : (md == 1)
  · have HRES := Lib.hid (show handleV x ⟨ms, md, mk, mq, m0, m1, m2, m3⟩ dn = none by unfold handleV; simp [hd])
    have hfn : ∃ g, fv = .func g #[.pointer (some ⟨S, 0, none⟩)] #[] := by
      rw [HFV.out]; split
      · exact ⟨_, rfl⟩
      split
      · exact ⟨_, rfl⟩
      split
      · exact ⟨_, rfl⟩
      · omega
    obtain ⟨g, rfl⟩ := hfn
    have hd' : (md != 1) = true := by simp only [bne, hd]; rfl
    have n1 := box_at HMn.out (j := 1) rfl
    clear HFV hkn hd
    have r0 := box_at HRn.out (j := 0) rfl
    have r1 := box_at HRn.out (j := 1) rfl
    have r2 := box_at HRn.out (j := 2) rfl
    have g0 := box_free HRn.out 0
    have g1 := box_free HRn.out 1
    have g2 := box_free HRn.out 2
    go_wp2
    refine bodyPost_ret (results_ctt rfl _ _ _ _ _ _ _ rfl (heap_set3 HRn.out _ _ _) Tryz.underlying41 rfl (by kernel_rfl)) rfl ?_
    rw [HRES.out]
    exact ⟨HBn.out.trans ((keep_set3 _ R _ _ _).below HBn.out.size (fun f hf => by rw [List.mem_singleton.1 hf]; exact qR)), rfl⟩
  have hd' : (md != 1) = false := by simp only [bne, hd]; rfl
  have HFn := Lib.hid (HFO.out.below HBn.out h0)
  have hcall : ∀ b, permP ⟨ms, md, mk, mq, m0, m1, m2, m3⟩ dn = b → Calls Tryz.prog 44 #[.agg #[.int .i64 ms, .int .i64 md, .int .i64 mk, .int .i64 mq, .int .i64 m0, .int .i64 m1, .int .i64 m2, .int .i64 m3, .slice da dn dc]] y8 fun e w' => e = .returned (.bool b) ∧ Below y8.heap.size y8 w' := fun b hb => hb ▸ perm_any ⟨ms, md, mk, mq, m0, m1, m2, m3⟩ da dn dc y8 HFn.out
  have HCALL := Lib.hid hcall
  clear hcall
  have n0 := box_at HMn.out (j := 0) rfl
  have n1 := box_at HMn.out (j := 1) rfl
  have n2 := box_at HMn.out (j := 2) rfl
  have n3 := box_at HMn.out (j := 3) rfl
  have n4 := box_at HMn.out (j := 4) rfl
  have n5 := box_at HMn.out (j := 5) rfl
  have n6 := box_at HMn.out (j := 6) rfl
  have n7 := box_at HMn.out (j := 7) rfl
  have n8 := box_at HMn.out (j := 8) rfl
  cases hp : permP ⟨ms, md, mk, mq, m0, m1, m2, m3⟩ dn
  · have HRES := Lib.hid (show handleV x ⟨ms, md, mk, mq, m0, m1, m2, m3⟩ dn = none by unfold handleV; simp [hp])
    have hfn : ∃ g, fv = .func g #[.pointer (some ⟨S, 0, none⟩)] #[] := by
      rw [HFV.out]; split
      · exact ⟨_, rfl⟩
      split
      · exact ⟨_, rfl⟩
      split
      · exact ⟨_, rfl⟩
      · omega
    obtain ⟨g, rfl⟩ := hfn
    have HP := Lib.hid hp
    clear HFV hkn hd hp
    go_wp2_with fail
    refine (HCALL.out false HP.out).mono ?_
    rintro e w8 ⟨rfl, hb8⟩
    have HR8 := Lib.hid ((hb8.block R (by omega)).trans HRn.out)
    have HB8 := Lib.hid (HBn.out.trans (hb8.mono HBn.out.size))
    clear hb8
    have r0 := box_at HR8.out (j := 0) rfl
    have r1 := box_at HR8.out (j := 1) rfl
    have r2 := box_at HR8.out (j := 2) rfl
    have g0 := box_free HR8.out 0
    have g1 := box_free HR8.out 1
    have g2 := box_free HR8.out 2
    go_wp2
    refine bodyPost_ret (results_ctt rfl _ _ _ _ _ _ _ rfl (heap_set3 HR8.out _ _ _) Tryz.underlying41 rfl (by kernel_rfl)) rfl ?_
    rw [HRES.out]
    exact ⟨HB8.out.trans ((keep_set3 _ R _ _ _).below HB8.out.size (fun f hf => by rw [List.mem_singleton.1 hf]; exact qR)), rfl⟩
  have HP := Lib.hid hp
  clear hp
  rcases hkn with rfl | rfl | rfl
  · have hfn : fv = .func (.func 41) #[.pointer (some ⟨S, 0, none⟩)] #[] := by rw [HFV.out]; rfl
    subst hfn
    clear HFV
    go_wp2_with fail
    refine (HCALL.out true HP.out).mono ?_
    rintro e w8 ⟨rfl, hb8⟩
    have HR8 := Lib.hid ((hb8.block R (by omega)).trans HRn.out)
    have HM8 := Lib.hid ((hb8.block M (by omega)).trans HMn.out)
    have HST8 := Lib.hid (HSTn.out.below hb8)
    have HB8 := Lib.hid (HBn.out.trans (hb8.mono HBn.out.size))
    clear hb8 n0 n1 n2 n3 n4 n5 n6 n7 n8 HSTn HMn HRn HBn
    have n0 := box_at HM8.out (j := 0) rfl
    have n1 := box_at HM8.out (j := 1) rfl
    have n2 := box_at HM8.out (j := 2) rfl
    have n3 := box_at HM8.out (j := 3) rfl
    have n4 := box_at HM8.out (j := 4) rfl
    have n5 := box_at HM8.out (j := 5) rfl
    have n6 := box_at HM8.out (j := 6) rfl
    have n7 := box_at HM8.out (j := 7) rfl
    have n8 := box_at HM8.out (j := 8) rfl
    have HRES := Lib.hid (show handleV x ⟨ms, md, 5, mq, m0, m1, m2, m3⟩ dn = failedV x ⟨ms, md, 5, mq, m0, m1, m2, m3⟩ by unfold handleV; rw [if_pos (by simp [hd, HP.out])]; rfl)
    go_wp2_with fail
    refine (failed_any w.heap.size S _ _ x ⟨ms, md, 5, mq, m0, m1, m2, m3⟩ da dn dc w8 HOK.out HST8.out).mono ?_
    rintro e w9 ⟨hB, hK, hres⟩
    have HR9 := Lib.hid (hK R _ _ (by omega) HR8.out)
    have HB9 := Lib.hid (HB8.out.trans hB)
    obtain ⟨RS, hr⟩ : ∃ RS, RS = failedV x ⟨ms, md, 5, mq, m0, m1, m2, m3⟩ := ⟨_, rfl⟩
    rw [← hr] at hres HRES
    have HRS := Lib.hid hr
    clear hB hK hr
    cases RS with
    | none =>
      obtain rfl := hres
      have r0 := box_at HR9.out (j := 0) rfl
      have r1 := box_at HR9.out (j := 1) rfl
      have r2 := box_at HR9.out (j := 2) rfl
      have g0 := box_free HR9.out 0
      have g1 := box_free HR9.out 1
      have g2 := box_free HR9.out 2
      go_wp2
      refine bodyPost_ret (results_ctt rfl _ _ _ _ _ _ _ rfl (heap_set3 HR9.out _ _ _) Tryz.underlying41 rfl (by kernel_rfl)) rfl ?_
      rw [HRES.out]
      exact ⟨HB9.out.trans ((keep_set3 _ R _ _ _).below HB9.out.size (fun f hf => by rw [List.mem_singleton.1 hf]; exact qR)), rfl⟩
    | some p =>
      obtain ⟨x', es⟩ := p
      obtain ⟨ev, wv', hv', rfl, hse, het, hst⟩ := hres
      obtain ⟨va, vc, rfl⟩ := Raw.slice hse
      obtain ⟨wva, wvc, rfl⟩ := own_slice hst.wt
      obtain ⟨hva, hvc, rfl⟩ := own_slice hst.st.row
      have HSE := Lib.hid hse; have HET := Lib.hid het; have HST9 := Lib.hid hst
      clear hse het hst
      have t0 := box_at HST9.out.st.box (j := 0) rfl
      have t1 := box_at HST9.out.st.box (j := 1) rfl
      have t2 := box_at HST9.out.st.box (j := 2) rfl
      have r0 := box_at HR9.out (j := 0) rfl
      have r1 := box_at HR9.out (j := 1) rfl
      have r2 := box_at HR9.out (j := 2) rfl
      have g0 := box_free HR9.out 0
      have g1 := box_free HR9.out 1
      have g2 := box_free HR9.out 2
      go_wp2
      refine bodyPost_ret (results_ctt rfl _ _ _ _ _ _ _ rfl (heap_set3 HR9.out _ _ _) Tryz.underlying41 rfl (by kernel_rfl)) rfl ?_
      have hk := keep_set3 w9 R (.int .i64 x'.r) (.slice wva x'.wt.length wvc) (.slice hva x'.hs.length hvc)
      rw [HRES.out]
      have how := own_keep HST9.out.wt hk (fun q hq hm => by
        rw [List.mem_singleton] at hm
        obtain ⟨cur, hc⟩ := own_type HST9.out.wt hq
        rw [hm, HR9.out] at hc; cases hc)
      have hoh := own_keep HST9.out.st.row hk (fun q hq hm => by
        rw [List.mem_singleton] at hm
        obtain ⟨cur, hc⟩ := own_type HST9.out.st.row hq
        rw [hm, HR9.out] at hc; cases hc)
      exact ⟨HB9.out.trans (hk.below HB9.out.size (fun f hf => by rw [List.mem_singleton.1 hf]; exact qR)), _, _, rfl, effs_keep HSE.out HET.out hk HR9.out, _, _, rfl, Raw.of_own how (ivs_one _) (fun f hf => List.mem_range.1 hf), Raw.of_own hoh (encH_one _) (fun f hf => List.mem_range.1 hf)⟩
  · have hfn : fv = .func (.func 42) #[.pointer (some ⟨S, 0, none⟩)] #[] := by rw [HFV.out]; rfl
    subst hfn
    clear HFV
    go_wp2_with fail
    refine (HCALL.out true HP.out).mono ?_
    rintro e w8 ⟨rfl, hb8⟩
    have HR8 := Lib.hid ((hb8.block R (by omega)).trans HRn.out)
    have HM8 := Lib.hid ((hb8.block M (by omega)).trans HMn.out)
    have HST8 := Lib.hid (HSTn.out.below hb8)
    have HB8 := Lib.hid (HBn.out.trans (hb8.mono HBn.out.size))
    clear hb8 n0 n1 n2 n3 n4 n5 n6 n7 n8 HSTn HMn HRn HBn
    have n0 := box_at HM8.out (j := 0) rfl
    have n1 := box_at HM8.out (j := 1) rfl
    have n2 := box_at HM8.out (j := 2) rfl
    have n3 := box_at HM8.out (j := 3) rfl
    have n4 := box_at HM8.out (j := 4) rfl
    have n5 := box_at HM8.out (j := 5) rfl
    have n6 := box_at HM8.out (j := 6) rfl
    have n7 := box_at HM8.out (j := 7) rfl
    have n8 := box_at HM8.out (j := 8) rfl
    have HRES := Lib.hid (show handleV x ⟨ms, md, 4, mq, m0, m1, m2, m3⟩ dn = (if m0 = 1 then some (alarmV x) else none) by unfold handleV; rw [if_pos (by simp [hd, HP.out])]; rfl)
    go_wp2_with fail
    refine (alarm_any w.heap.size S _ _ x ⟨ms, md, 4, mq, m0, m1, m2, m3⟩ da dn dc w8 HOK.out HST8.out).mono ?_
    rintro e w9 ⟨hB, hK, hres⟩
    have HR9 := Lib.hid (hK R _ _ (by omega) HR8.out)
    have HB9 := Lib.hid (HB8.out.trans hB)
    obtain ⟨RS, hr⟩ : ∃ RS, RS = (if m0 = 1 then some (alarmV x) else none) := ⟨_, rfl⟩
    rw [← hr] at hres HRES
    have HRS := Lib.hid hr
    clear hB hK hr
    cases RS with
    | none =>
      obtain rfl := hres
      have r0 := box_at HR9.out (j := 0) rfl
      have r1 := box_at HR9.out (j := 1) rfl
      have r2 := box_at HR9.out (j := 2) rfl
      have g0 := box_free HR9.out 0
      have g1 := box_free HR9.out 1
      have g2 := box_free HR9.out 2
      go_wp2
      refine bodyPost_ret (results_ctt rfl _ _ _ _ _ _ _ rfl (heap_set3 HR9.out _ _ _) Tryz.underlying41 rfl (by kernel_rfl)) rfl ?_
      rw [HRES.out]
      exact ⟨HB9.out.trans ((keep_set3 _ R _ _ _).below HB9.out.size (fun f hf => by rw [List.mem_singleton.1 hf]; exact qR)), rfl⟩
    | some p =>
      obtain ⟨x', es⟩ := p
      obtain ⟨ev, wv', hv', rfl, hse, het, hst⟩ := hres
      obtain ⟨va, vc, rfl⟩ := Raw.slice hse
      obtain ⟨wva, wvc, rfl⟩ := own_slice hst.wt
      obtain ⟨hva, hvc, rfl⟩ := own_slice hst.st.row
      have HSE := Lib.hid hse; have HET := Lib.hid het; have HST9 := Lib.hid hst
      clear hse het hst
      have t0 := box_at HST9.out.st.box (j := 0) rfl
      have t1 := box_at HST9.out.st.box (j := 1) rfl
      have t2 := box_at HST9.out.st.box (j := 2) rfl
      have r0 := box_at HR9.out (j := 0) rfl
      have r1 := box_at HR9.out (j := 1) rfl
      have r2 := box_at HR9.out (j := 2) rfl
      have g0 := box_free HR9.out 0
      have g1 := box_free HR9.out 1
      have g2 := box_free HR9.out 2
      go_wp2
      refine bodyPost_ret (results_ctt rfl _ _ _ _ _ _ _ rfl (heap_set3 HR9.out _ _ _) Tryz.underlying41 rfl (by kernel_rfl)) rfl ?_
      have hk := keep_set3 w9 R (.int .i64 x'.r) (.slice wva x'.wt.length wvc) (.slice hva x'.hs.length hvc)
      rw [HRES.out]
      have how := own_keep HST9.out.wt hk (fun q hq hm => by
        rw [List.mem_singleton] at hm
        obtain ⟨cur, hc⟩ := own_type HST9.out.wt hq
        rw [hm, HR9.out] at hc; cases hc)
      have hoh := own_keep HST9.out.st.row hk (fun q hq hm => by
        rw [List.mem_singleton] at hm
        obtain ⟨cur, hc⟩ := own_type HST9.out.st.row hq
        rw [hm, HR9.out] at hc; cases hc)
      exact ⟨HB9.out.trans (hk.below HB9.out.size (fun f hf => by rw [List.mem_singleton.1 hf]; exact qR)), _, _, rfl, effs_keep HSE.out HET.out hk HR9.out, _, _, rfl, Raw.of_own how (ivs_one _) (fun f hf => List.mem_range.1 hf), Raw.of_own hoh (encH_one _) (fun f hf => List.mem_range.1 hf)⟩
  · have hfn : fv = .func (.func 43) #[.pointer (some ⟨S, 0, none⟩)] #[] := by rw [HFV.out]; rfl
    subst hfn
    clear HFV
    go_wp2_with fail
    refine (HCALL.out true HP.out).mono ?_
    rintro e w8 ⟨rfl, hb8⟩
    have HR8 := Lib.hid ((hb8.block R (by omega)).trans HRn.out)
    have HM8 := Lib.hid ((hb8.block M (by omega)).trans HMn.out)
    have HST8 := Lib.hid (HSTn.out.below hb8)
    have HB8 := Lib.hid (HBn.out.trans (hb8.mono HBn.out.size))
    clear hb8 n0 n1 n2 n3 n4 n5 n6 n7 n8 HSTn HMn HRn HBn
    have n0 := box_at HM8.out (j := 0) rfl
    have n1 := box_at HM8.out (j := 1) rfl
    have n2 := box_at HM8.out (j := 2) rfl
    have n3 := box_at HM8.out (j := 3) rfl
    have n4 := box_at HM8.out (j := 4) rfl
    have n5 := box_at HM8.out (j := 5) rfl
    have n6 := box_at HM8.out (j := 6) rfl
    have n7 := box_at HM8.out (j := 7) rfl
    have n8 := box_at HM8.out (j := 8) rfl
    have HRES := Lib.hid (show handleV x ⟨ms, md, 7, mq, m0, m1, m2, m3⟩ dn = (some (pongV x ms m0, [])) by unfold handleV; rw [if_pos (by simp [hd, HP.out])]; rfl)
    go_wp2_with fail
    refine (hpong_any w.heap.size S _ _ x ⟨ms, md, 7, mq, m0, m1, m2, m3⟩ da dn dc w8 HOK.out HST8.out).mono ?_
    rintro e w9 ⟨hB, hK, hres⟩
    have HR9 := Lib.hid (hK R _ _ (by omega) HR8.out)
    have HB9 := Lib.hid (HB8.out.trans hB)
    obtain ⟨RS, hr⟩ : ∃ RS, RS = (some (pongV x ms m0, [])) := ⟨_, rfl⟩
    rw [← hr] at hres HRES
    have HRS := Lib.hid hr
    clear hB hK hr
    cases RS with
    | none =>
      obtain rfl := hres
      have r0 := box_at HR9.out (j := 0) rfl
      have r1 := box_at HR9.out (j := 1) rfl
      have r2 := box_at HR9.out (j := 2) rfl
      have g0 := box_free HR9.out 0
      have g1 := box_free HR9.out 1
      have g2 := box_free HR9.out 2
      go_wp2
      refine bodyPost_ret (results_ctt rfl _ _ _ _ _ _ _ rfl (heap_set3 HR9.out _ _ _) Tryz.underlying41 rfl (by kernel_rfl)) rfl ?_
      rw [HRES.out]
      exact ⟨HB9.out.trans ((keep_set3 _ R _ _ _).below HB9.out.size (fun f hf => by rw [List.mem_singleton.1 hf]; exact qR)), rfl⟩
    | some p =>
      obtain ⟨x', es⟩ := p
      obtain ⟨ev, wv', hv', rfl, hse, het, hst⟩ := hres
      obtain ⟨va, vc, rfl⟩ := Raw.slice hse
      obtain ⟨wva, wvc, rfl⟩ := own_slice hst.wt
      obtain ⟨hva, hvc, rfl⟩ := own_slice hst.st.row
      have HSE := Lib.hid hse; have HET := Lib.hid het; have HST9 := Lib.hid hst
      clear hse het hst
      have t0 := box_at HST9.out.st.box (j := 0) rfl
      have t1 := box_at HST9.out.st.box (j := 1) rfl
      have t2 := box_at HST9.out.st.box (j := 2) rfl
      have r0 := box_at HR9.out (j := 0) rfl
      have r1 := box_at HR9.out (j := 1) rfl
      have r2 := box_at HR9.out (j := 2) rfl
      have g0 := box_free HR9.out 0
      have g1 := box_free HR9.out 1
      have g2 := box_free HR9.out 2
      go_wp2
      refine bodyPost_ret (results_ctt rfl _ _ _ _ _ _ _ rfl (heap_set3 HR9.out _ _ _) Tryz.underlying41 rfl (by kernel_rfl)) rfl ?_
      have hk := keep_set3 w9 R (.int .i64 x'.r) (.slice wva x'.wt.length wvc) (.slice hva x'.hs.length hvc)
      rw [HRES.out]
      have how := own_keep HST9.out.wt hk (fun q hq hm => by
        rw [List.mem_singleton] at hm
        obtain ⟨cur, hc⟩ := own_type HST9.out.wt hq
        rw [hm, HR9.out] at hc; cases hc)
      have hoh := own_keep HST9.out.st.row hk (fun q hq hm => by
        rw [List.mem_singleton] at hm
        obtain ⟨cur, hc⟩ := own_type HST9.out.st.row hq
        rw [hm, HR9.out] at hc; cases hc)
      exact ⟨HB9.out.trans (hk.below HB9.out.size (fun f hf => by rw [List.mem_singleton.1 hf]; exact qR)), _, _, rfl, effs_keep HSE.out HET.out hk HR9.out, _, _, rfl, Raw.of_own how (ivs_one _) (fun f hf => List.mem_range.1 hf), Raw.of_own hoh (encH_one _) (fun f hf => List.mem_range.1 hf)⟩
end Go.Proofs.YthmnhpakgjnngaaGreatDoor
