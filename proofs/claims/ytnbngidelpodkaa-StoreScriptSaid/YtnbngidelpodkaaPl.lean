/- Store: stores that are only looked at; same; few -/
import Derived.Test.YtnbngidelpodkaaPk
import Derived.Test.YtnbngidelpodkaaPg
namespace Go.Im
open Go Go.RowKit Go.Bs Go.Cl Go.Rw Go.Un
/-- a store as one sees it, out of the blocks F -/
structure StV (F : List Nat) (w : World) (g : Nat) (s : Ps) : Prop where
  good : s.Good
  see : ∃ h iv rv imv nxv chv rz, w.heap[g]? = some (.cells #[.pointer (some ⟨h, 0, none⟩), imv, nxv, chv, .bool rz, .int .i64 s.done, .int .i64 s.steps, .int .i64 s.ver, .int .u64 (sumOf s.image)] 66 (0, 0)) ∧ g ∉ F ∧
    w.heap[h]? = some (.cells #[iv, rv, .bool s.inst] 87 (0, 0)) ∧ h ∉ F ∧ Bytes F w imv s.image ∧ Bytes F w iv s.work
variable {F F' G : List Nat} {w w' : World} {g : Nat} {s : Ps}
theorem StV.keep (H : StV F w g s) (hk : Keep G w w') (hG : ∀ f ∈ G, f ∈ F ∨ w.heap.size ≤ f) (hF : ∀ f ∈ F', f ∈ F ∨ w.heap.size ≤ f) : StV F' w' g s := by
  obtain ⟨hg, h, iv, rv, imv, nxv, chv, rz, h1, h2, h3, h4, h5, h6⟩ := H
  have out : ∀ k, k < w.heap.size → k ∉ F → k ∉ G := fun k hk hn hm => by
    rcases hG k hm with h | h
    · exact hn h
    · omega
  have out' : ∀ k, k < w.heap.size → k ∉ F → k ∉ F' := fun k hk hn hm => by
    rcases hF k hm with h | h
    · exact hn h
    · omega
  have l1 := (Array.getElem?_eq_some_iff.1 h1).1
  have l3 := (Array.getElem?_eq_some_iff.1 h3).1
  exact ⟨hg, h, iv, rv, imv, nxv, chv, rz, (hk.block g l1 (out g l1 h2)).trans h1, out' g l1 h2, (hk.block h l3 (out h l3 h4)).trans h3, out' h l3 h4, Raw.keep h5 hk hG hF, Raw.keep h6 hk hG hF⟩
theorem StV.below (H : StV F w g s) (hb : Below w.heap.size w w') : StV F w' g s := H.keep (Keep.of_below' (F := []) hb) (fun f hf => by cases hf) (fun f hf => .inl hf)
theorem StV.drew (H : StV F w g s) : StV F w.drew g s := H.below (Below.refl _ w).drew
/-- a store of which all lies at or behind base -/
theorem StAt.view {base h : Nat} {iv rv : Value} (H : StAt w base g h iv rv s) (hF : ∀ f ∈ F, f < base) : StV F w g s := by
  obtain ⟨imv, nxv, chv, rz, rs, H⟩ := H
  refine ⟨H.good, h, iv, rv, imv, nxv, chv, rz, H.hc, fun hm => ?_, H.hl.hc, fun hm => ?_, ?_, ?_⟩
  · have := hF _ hm; have := H.hg; omega
  · have := hF _ hm; have := H.hl.hg; omega
  · exact Raw.keep (F' := F) H.hi (Keep.refl [] w) (by simp) (fun f hf => .inl (List.mem_append_right _ (List.mem_range.2 (hF f hf))))
  · exact RowF.raw (.inl H.hl.hi) (bytesV_one _) (fun f hf e => by
      have := hF _ hf
      have := (H.hl.hi.lt f e).1
      omega)
end Go.Im
namespace Go.Proofs.Ytnbngidelpodkaa
open Go.RowKit Go.Bs Go.Cl Go.Rw Go.Un Go.Im
variable {F : List Nat} {w : World} {g : Nat} {s : Ps}
theorem view_img (H : StV F w g s) : Calls Try.prog 16 #[.pointer (some ⟨g, 0, none⟩)] w fun e w' => ∃ a c, e = .returned (.slice a s.image.length c) ∧ w'.ownsRow w.heap.size 5 1 (.slice a s.image.length c) s.image.length (bytesV s.image) ∧ Below w.heap.size w w' := by
  obtain ⟨hg, h, iv, rv, imv, nxv, chv, rz, h1, h2, h3, h4, h5, h6⟩ := H
  have c0 := box_at h1 (j := 1) rfl
  have hl : s.image.length ≤ 1000000 := by have := hg.il; omega
  have HB := Lib.hid h5
  obtain ⟨a, c, rfl⟩ := Raw.slice h5
  clear h1 h3 h5 h6 hg
  go_enter Try.func16, Try.ntmps16
  go_wp2_with fail
  refine (clone33 _ hl HB.out).mono ?_
  rintro e w1 ⟨v1, rfl, hown, hb⟩
  have HO := Lib.hid hown
  obtain ⟨a1, c1, rfl⟩ := own_slice hown
  clear hown
  go_wp2
  go_ret
  exact ⟨_, _, rfl, HO.out, hb⟩
theorem view_work (H : StV F w g s) : Calls Try.prog 12 #[.pointer (some ⟨g, 0, none⟩)] w fun e w' => ∃ a c, e = .returned (.slice a s.work.length c) ∧ w'.ownsRow w.heap.size 5 1 (.slice a s.work.length c) s.work.length (bytesV s.work) ∧ Below w.heap.size w w' := by
  obtain ⟨hg, h, iv, rv, imv, nxv, chv, rz, h1, h2, h3, h4, h5, h6⟩ := H
  have c0 := box_at h1 (j := 0) rfl
  have d0 := box_at h3 (j := 0) rfl
  have hl : s.work.length ≤ 1000000 := by have := hg.wl; omega
  have HB := Lib.hid h6
  obtain ⟨a, c, rfl⟩ := Raw.slice h6
  have HI : Hid (Calls Try.prog 35 #[.pointer (some ⟨h, 0, none⟩)] w fun e w' => ∃ a c, e = .returned (.slice a s.work.length c) ∧ w'.ownsRow w.heap.size 5 1 (.slice a s.work.length c) s.work.length (bytesV s.work) ∧ Below w.heap.size w w') := Lib.hid (by
    clear h1 h3 h5 h6 hg c0
    go_enter Try.func35, Try.ntmps35
    go_wp2_with fail
    refine (clone33 _ hl HB.out).mono ?_
    rintro e w1 ⟨v1, rfl, hown, hb⟩
    have HO := Lib.hid hown
    obtain ⟨a1, c1, rfl⟩ := own_slice hown
    clear hown
    go_wp2
    go_ret
    exact ⟨_, _, rfl, HO.out, hb⟩)
  clear h1 h3 h5 h6 hg d0
  go_enter Try.func12, Try.ntmps12
  go_wp2_with fail
  refine HI.out.mono ?_
  rintro e w1 ⟨a1, c1, rfl, hown, hb⟩
  have HO := Lib.hid hown
  clear hown
  go_wp2
  go_ret
  exact ⟨_, _, rfl, HO.out, hb⟩
theorem view_ver (H : StV F w g s) : Calls Try.prog 18 #[.pointer (some ⟨g, 0, none⟩)] w fun e w' => e = .returned (.int .i64 s.ver) ∧ w = w' := by
  obtain ⟨hg, h, iv, rv, imv, nxv, chv, rz, h1, h2, h3, h4, h5, h6⟩ := H
  have c0 := box_at h1 (j := 7) rfl
  clear h1 h3 h5 h6 hg
  go_enter Try.func18, Try.ntmps18
  go_wp2
  go_ret
  exact ⟨rfl, rfl⟩
theorem view_sum (H : StV F w g s) : Calls Try.prog 19 #[.pointer (some ⟨g, 0, none⟩)] w fun e w' => e = .returned (.int .u64 (sumOf s.image)) ∧ w = w' := by
  obtain ⟨hg, h, iv, rv, imv, nxv, chv, rz, h1, h2, h3, h4, h5, h6⟩ := H
  have c0 := box_at h1 (j := 8) rfl
  clear h1 h3 h5 h6 hg
  go_enter Try.func19, Try.ntmps19
  go_wp2
  go_ret
  exact ⟨rfl, rfl⟩
theorem view_inst (H : StV F w g s) : Calls Try.prog 21 #[.pointer (some ⟨g, 0, none⟩)] w fun e w' => e = .returned (.bool s.inst) ∧ w = w' := by
  obtain ⟨hg, h, iv, rv, imv, nxv, chv, rz, h1, h2, h3, h4, h5, h6⟩ := H
  have c0 := box_at h1 (j := 0) rfl
  have d0 := box_at h3 (j := 2) rfl
  clear h1 h3 h5 h6 hg
  go_enter Try.func21, Try.ntmps21
  go_wp2_with fail
  have HI : Hid (Calls Try.prog 43 #[.pointer (some ⟨h, 0, none⟩)] w fun e w' => e = .returned (.bool s.inst) ∧ w = w') := Lib.hid (by
    go_enter Try.func43, Try.ntmps43
    go_wp2
    go_ret
    exact ⟨rfl, rfl⟩)
  refine HI.out.mono ?_
  rintro e w1 ⟨rfl, rfl⟩
  go_wp2
  go_ret
  exact ⟨rfl, rfl⟩
set_option maxRecDepth 100000 in
set_option maxHeartbeats 4000000 in
theorem same_any (v : Value) (w : World) (H0 : StV [] w g s) (R : RV [] w v (rfOf s)) :
    Calls Try.prog 30 #[.pointer (some ⟨g, 0, none⟩), v] w fun e w' => e = .returned (.bool true) ∧ Below w.heap.size w w' := by
  have HR0 := R
  obtain ⟨iv, wv, nv, tv, rfl, h1, h2, h3, h4⟩ := R
  simp only [rfOf] at h1 h2 h3
  obtain ⟨rz, hrz⟩ : ∃ z, z = (rfOf s).rz := ⟨_, rfl⟩
  obtain ⟨ver, hver⟩ : ∃ z, z = s.ver := ⟨_, rfl⟩
  obtain ⟨o, ho⟩ : ∃ z, z = s.inst := ⟨_, rfl⟩
  obtain ⟨img, himg⟩ : ∃ z, z = s.image := ⟨_, rfl⟩
  obtain ⟨wk, hwk⟩ : ∃ z, z = s.work := ⟨_, rfl⟩
  obtain ⟨sm, hsm⟩ : ∃ z, z = sumOf s.image := ⟨_, rfl⟩
  have al := (Below.refl w.heap.size w).alloc (Nat.le_refl _) (.cells #[iv, wv, nv, .int .i64 ver, .bool o, .bool rz, tv] 47)
  have eR : (Value.agg #[iv, wv, nv, .int .i64 (rfOf s).ver, .bool (rfOf s).inst, .bool (rfOf s).rz, tv]) = .agg #[iv, wv, nv, .int .i64 ver, .bool o, .bool rz, tv] := by rw [hver, ho, hrz]; rfl
  rw [eR] at HR0 ⊢
  obtain ⟨w1, hw1⟩ : ∃ w1, w1 = w.alloc (.cells #[iv, wv, nv, .int .i64 ver, .bool o, .bool rz, tv] 47) := ⟨_, rfl⟩
  obtain ⟨B, hB⟩ : ∃ B, B = w.heap.size := ⟨_, rfl⟩
  rw [← hw1] at al
  have H := Lib.hid (H0.below al)
  have HRv := Lib.hid (HR0.below al)
  have HIm : Hid (Bytes [] w1 iv img) := Lib.hid (by rw [himg]; exact Raw.below h1 al)
  have HWm : Hid (Bytes [] w1 wv wk) := Lib.hid (by rw [hwk]; exact Raw.below h2 al)
  have HBox : Hid (w1.heap[B]? = some (.cells #[iv, wv, nv, .int .i64 ver, .bool o, .bool rz, tv] 47 (0, 0))) := Lib.hid (by rw [hw1, hB]; exact heap_alloc_new w _)
  have HBlt : Hid (B < w1.heap.size) := Lib.hid (Array.getElem?_eq_some_iff.1 HBox.out).1
  have HAl := Lib.hid al
  obtain ⟨bla, hbla1, hbla2⟩ := Raw.blocks HIm.out (by omega)
  obtain ⟨blb, hblb1, hblb2⟩ := Raw.blocks HWm.out (by omega)
  have Hina := Lib.hid hbla1; have Hinb := Lib.hid hblb1
  have HBK : Hid (∀ b ∈ B :: (bla ++ blb), ∃ c e f, w1.heap[b]? = some (.cells c e f)) := Lib.hid (fun b hb => by
    rcases List.mem_cons.1 hb with rfl | hb
    · exact ⟨_, _, _, HBox.out⟩
    · rcases List.mem_append.1 hb with hb | hb
      · exact (hbla2 b hb).2
      · exact (hblb2 b hb).2)
  have HS0 := Lib.hid (same_start HBK.out)
  obtain ⟨ia, ic, rfl⟩ := Raw.slice HIm.out
  obtain ⟨wa, wc, rfl⟩ := Raw.slice HWm.out
  obtain ⟨na, nc, rfl⟩ := Raw.slice h3
  obtain ⟨ta, tc, rfl⟩ := h4.slice
  have hq1 : ((strOf img).toList == (strOf img).toList) = true := by simp
  have hq2 : ((strOf wk).toList == (strOf wk).toList) = true := by simp
  have c0 := box_at HBox.out (j := 0) rfl
  have ka := run_str (w := w1.drew) (Raw.drew HIm.out) 22 5 9 Try.underlying22 Try.underlying5 Try.underlying9
  have Hhw := Lib.hid hw1; have HhB := Lib.hid hB
  have eI : Hid (s.image = img) := Lib.hid himg.symm
  have eW : Hid (s.work = wk) := Lib.hid hwk.symm
  have eV : Hid (s.ver = ver) := Lib.hid hver.symm
  have eO : Hid (s.inst = o) := Lib.hid ho.symm
  have eS : Hid (sumOf s.image = sm) := Lib.hid hsm.symm
  clear hbla1 hbla2 hblb1 hblb2 h1 h2 h3 h4 al HR0 eR hw1 hB himg hwk hver ho hsm hrz H0
  go_enter Try.func30, Try.ntmps30
  go_upto_region 1 with (fail)
  rw [← Hhw.out, ← HhB.out]
  have hBl := HBK.out
  refine Txt.Ty.wp_tree (B :: (bla ++ blb)) [4, 5, 12, 13, 20, 27, 33] [] [2, 4, 5, 10, 12, 13, 20, 27, 33] [0, 3, 4, 5] (.alt [1, 2, 6, 7, 8, 11, 12, 13] (.alt [9, 10, 14, 15, 16, 17, 19, 20] (.alt [18, 21, 22, 23, 24, 26, 27] (.alt [25, 28, 29, 30, 31, 33] (.alt [32] (.alt [34, 35, 36, 37] (.done) (.no)) (.no)) (.no)) (.no)) (.no)) (.no)) (by kernel_rfl) (by kernel_rfl) (by kernel_rfl) (by kernel_rfl) hBl ?_
  clear hBl
  (try simp only [Txt.pick, List.getElem?_cons_succ, List.getElem?_cons_zero])
  go_wp2
  refine Txt.RunPost.mk ?_
  refine Txt.Ty.wpTr_alt ?_ Txt.Ty.wpTr_no
  (try simp only [Txt.pick, List.getElem?_cons_succ, List.getElem?_cons_zero])
  go_wp2_with fail
  refine (view_img H.out.drew).mono ?_
  rw [eI.out]
  rintro e w10 ⟨a10, c10, rfl, ho10, hb10⟩
  have H10 := Lib.hid (H.out.drew.below hb10)
  have HBl := Lib.hid ((Below.refl w1.heap.size w1).drew.trans hb10)
  have k1 := run_str (Bytes.row (F := []) ho10 rfl (fun f hf => by cases hf)) 22 5 9 Try.underlying22 Try.underlying5 Try.underlying9
  have s1 := box_at ((HBl.out.block B HBlt.out).trans HBox.out) (j := 1) rfl
  have kb := run_str (Raw.below HWm.out HBl.out) 22 5 9 Try.underlying22 Try.underlying5 Try.underlying9
  clear ho10 hb10
  go_wp2
  refine Txt.SegPost.mk (Txt.Ty.Shown.same (show Txt.SameB (B :: (bla ++ blb)) w1 w10 from same_below' (w0 := w1) (w1 := w1) HS0.out HBl.out)) ?_
  (try simp only [Txt.pick, List.getElem?_cons_succ, List.getElem?_cons_zero])
  go_wp2
  refine Txt.RunPost.mk ?_
  refine Txt.Ty.wpTr_alt ?_ Txt.Ty.wpTr_no
  (try simp only [Txt.pick, List.getElem?_cons_succ, List.getElem?_cons_zero])
  go_wp2_with fail
  refine (view_work H10.out).mono ?_
  rw [eW.out]
  rintro e w11 ⟨a11, c11, rfl, ho11, hb11⟩
  have H11 := Lib.hid (H10.out.below hb11)
  have HBm := Lib.hid (HBl.out.trans (hb11.mono HBl.out.size))
  have k2 := run_str (Bytes.row (F := []) ho11 rfl (fun f hf => by cases hf)) 22 5 9 Try.underlying22 Try.underlying5 Try.underlying9
  have r0 := box_at ((HBm.out.block B HBlt.out).trans HBox.out) (j := 0) rfl
  have r1 := box_at ((HBm.out.block B HBlt.out).trans HBox.out) (j := 1) rfl
  have r2 := box_at ((HBm.out.block B HBlt.out).trans HBox.out) (j := 2) rfl
  have r3 := box_at ((HBm.out.block B HBlt.out).trans HBox.out) (j := 3) rfl
  have r4 := box_at ((HBm.out.block B HBlt.out).trans HBox.out) (j := 4) rfl
  have r5 := box_at ((HBm.out.block B HBlt.out).trans HBox.out) (j := 5) rfl
  have r6 := box_at ((HBm.out.block B HBlt.out).trans HBox.out) (j := 6) rfl
  clear ho11 hb11
  go_wp2
  refine Txt.SegPost.mk (Txt.Ty.Shown.same (show Txt.SameB (B :: (bla ++ blb)) w1 w11 from same_below' (w0 := w1) (w1 := w1) HS0.out HBm.out)) ?_
  (try simp only [Txt.pick, List.getElem?_cons_succ, List.getElem?_cons_zero])
  go_wp2
  refine Txt.RunPost.mk ?_
  refine Txt.Ty.wpTr_alt ?_ Txt.Ty.wpTr_no
  (try simp only [Txt.pick, List.getElem?_cons_succ, List.getElem?_cons_zero])
  go_wp2_with fail
  refine (view_ver H11.out).mono ?_
  rw [eV.out]
  rintro e w' ⟨rfl, rfl⟩
  go_wp2
  refine Txt.SegPost.mk (Txt.Ty.Shown.same (show Txt.SameB (B :: (bla ++ blb)) w1 w11 from same_below' (w0 := w1) (w1 := w1) HS0.out HBm.out)) ?_
  (try simp only [Txt.pick, List.getElem?_cons_succ, List.getElem?_cons_zero])
  go_wp2
  refine Txt.RunPost.mk ?_
  refine Txt.Ty.wpTr_alt ?_ Txt.Ty.wpTr_no
  (try simp only [Txt.pick, List.getElem?_cons_succ, List.getElem?_cons_zero])
  go_wp2_with fail
  refine (view_inst H11.out).mono ?_
  rw [eO.out]
  rintro e w' ⟨rfl, rfl⟩
  go_wp2
  refine Txt.SegPost.mk (Txt.Ty.Shown.same (show Txt.SameB (B :: (bla ++ blb)) w1 w11 from same_below' (w0 := w1) (w1 := w1) HS0.out HBm.out)) ?_
  (try simp only [Txt.pick, List.getElem?_cons_succ, List.getElem?_cons_zero])
  go_wp2
  refine Txt.RunPost.mk ?_
  refine Txt.Ty.wpTr_alt ?_ Txt.Ty.wpTr_no
  (try simp only [Txt.pick, List.getElem?_cons_succ, List.getElem?_cons_zero])
  go_wp2_with fail
  refine (view_sum H11.out).mono ?_
  rw [eS.out]
  rintro e w' ⟨rfl, rfl⟩
  go_wp2
  refine Txt.SegPost.mk (Txt.Ty.Shown.same (show Txt.SameB (B :: (bla ++ blb)) w1 w11 from same_below' (w0 := w1) (w1 := w1) HS0.out HBm.out)) ?_
  (try simp only [Txt.pick, List.getElem?_cons_succ, List.getElem?_cons_zero])
  go_wp2
  refine Txt.RunPost.mk ?_
  refine Txt.Ty.wpTr_alt ?_ Txt.Ty.wpTr_no
  (try simp only [Txt.pick, List.getElem?_cons_succ, List.getElem?_cons_zero])
  go_wp2_with fail
  refine (rsum_any (F := []) _ (rfOf s) _ (rfOf_good H11.out.good) (HRv.out.below HBm.out)).mono ?_
  rw [show (rfOf s).image = s.image from rfl, eS.out]
  rintro e w12 ⟨rfl, hb12⟩
  have HBn := Lib.hid (HBm.out.trans (hb12.mono HBm.out.size))
  clear hb12
  go_wp2
  refine Txt.SegPost.mk (Txt.Ty.Shown.same (show Txt.SameB (B :: (bla ++ blb)) w1 w12 from same_below' (w0 := w1) (w1 := w1) HS0.out HBn.out)) ?_
  (try simp only [Txt.pick, List.getElem?_cons_succ, List.getElem?_cons_zero])
  go_wp2
  refine Txt.RunPost.mk ?_
  refine Txt.Ty.wpTr_done (by rfl) ⟨.head _, Hina.out _ (fun b hb => by simp [hb]), .head _, Hinb.out _ (fun b hb => by simp [hb]), .head _, .head _, .head _, trivial⟩ ?_
  go_wp2
  go_ret
  exact ⟨rfl, HAl.out.trans (HBn.out.mono HAl.out.size)⟩
end Go.Proofs.Ytnbngidelpodkaa
