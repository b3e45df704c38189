/- names: Encode, the reference's Encode, own -/
import Derived.Test.YtfgbkfifiioeiaaNc
import Derived.Test.YtfgbkfifiioeiaaAs
import Derived.Deep.CutRange
import Derived.WalkMore
namespace Go.Nm
open Go Go.RowKit Go.Bs Go.Cl Go.Rw Go.Wi
def encX (x : Nm) : List UInt8 := encB x.s ++ encI x.t
def encV (l : List Nm) : List UInt8 := encI l.length ++ l.flatMap encX
def fitsN (x : Nm) : Prop := x.s.length ≤ 100 ∧ Wi.fits x.t
theorem encX_len {x : Nm} (h : fitsN x) : (encX x).length ≤ 120 := by
  have h1 := encI_len h.2
  have h2 := encI_len (n := (x.s.length : Int)) (by unfold Wi.fits; have := h.1; omega)
  have := h.1
  simp [encX, encB]; omega
theorem encFlat_len : ∀ {l : List Nm}, (∀ x ∈ l, fitsN x) → (l.flatMap encX).length ≤ 120 * l.length
  | [], _ => by simp
  | x :: l, h => by
    have h1 := encX_len (h x (by simp))
    have h2 := encFlat_len (l := l) (fun y hy => h y (by simp [hy]))
    rw [List.flatMap_cons, List.length_append, List.length_cons]; omega
theorem take_flat {l : List Nm} {k : Nat} (h : k < l.length) : (l.take (k + 1)).flatMap encX = (l.take k).flatMap encX ++ (encB (nmAt l k).s ++ encI (nmAt l k).t) := by
  rw [List.take_add_one, nm_get h]; simp [encX]
theorem encV_len {l : List Nm} (hf : ∀ x ∈ l, fitsN x) (hl : l.length ≤ 1000) : (encV l).length ≤ 121000 := by
  unfold encV
  have h1 := encFlat_len hf
  have h2 := encI_len (n := (l.length : Int)) (by unfold Wi.fits; omega)
  rw [List.length_append]; omega
def RetB (l : List UInt8) (w : World) (e : Ending) (w' : World) : Prop := ∃ v, e = .returned v ∧ BRow 5 w' w.heap.size v l ∧ Below w.heap.size w w'
end Go.Nm
namespace Go.Proofs.Ytfgbkfifiioeiaa
open Go.RowKit Go.Bs Go.Cl Go.Rw Go.Nm Go.Wi
set_option maxHeartbeats 1000000 in
theorem wstring_any (v : Value) (l x : List UInt8) (base : Nat) (w : World) (hl : l.length ≤ 1000000) (hx : x.length ≤ 1000000) (hown : BRow 5 w base v l) (hbase : base ≤ w.heap.size) :
    Calls Try.prog 24 #[v, .string (strOf x)] w fun e w' => ∃ v', e = .returned v' ∧ Grows 5 w w' base v v' (l ++ encB x) := by
  obtain ⟨a, c, rfl⟩ := own_slice hown
  have hfx : Wi.fits (x.length : Int) := by unfold Wi.fits; omega
  have hz : ((strOf x).size : Int) = (x.length : Int) := by rw [strOf_size]
  have HZ := Lib.hid hz
  have Hfx := Lib.hid hfx; clear hfx hz
  have Hown := Lib.hid hown; clear hown
  go_enter Try.func24, Try.ntmps24
  go_wp2_with fail
  rw [HZ.out]
  refine (wint_any _ l (x.length : Int) base _ Hfx.out hl Hown.out hbase).mono ?_
  rintro e w1 ⟨v1, rfl, hg1⟩
  have hs1 := hg1.keep.size
  have hr1 := hg1.row
  have hil := encI_len Hfx.out
  obtain ⟨l1, hl1⟩ : ∃ l1, l ++ encI (x.length : Int) = l1 := ⟨_, rfl⟩
  have hl1l : l1.length ≤ 1000010 := by rw [← hl1]; simp; omega
  rw [hl1] at hr1 hg1
  have Hl1 := Lib.hid hl1
  have HG1 := Lib.hid hg1
  have HR1 := Lib.hid hr1
  obtain ⟨a1, c1, hv1⟩ := own_slice hr1
  subst hv1
  clear hg1 hl1 hr1 hil
  go_wp2_with (at_builtin; refine wpList_appS elB Try.underlying9 HR1.out (Below.refl 0 _) rfl _ _ rfl rfl rfl ?c3 ?cB ?c5 ?_)
  case c3 => omega
  case cB => omega
  case c5 => omega
  intro v2 w2 hown2 _ hk2 hn2
  have hg2 : Grows 5 w w2 base (.slice a l.length c) v2 (l ++ encB x) := by
    refine HG1.out.trans ⟨?_, hk2, by simpa using hn2⟩
    have := brow_app rfl hown2
    rw [← Hl1.out, List.append_assoc] at this
    exact this
  have Hg2 := Lib.hid hg2
  clear hown2 hk2 hn2 hg2
  go_wp2
  go_ret
  exact ⟨_, rfl, Hg2.out⟩
set_option maxHeartbeats 1000000 in
theorem rstring_any (x : List UInt8) (w : World) (hx : x.length ≤ 1000000) :
    Calls Try.prog 35 #[.string (strOf x)] w (RetB (encB x) w) := by
  have hfx : Wi.fits (x.length : Int) := by unfold Wi.fits; omega
  have hz : ((strOf x).size : Int) = (x.length : Int) := by rw [strOf_size]
  have HZ := Lib.hid hz
  have Hfx := Lib.hid hfx; clear hfx hz
  go_enter Try.func35, Try.ntmps35
  go_wp2_with fail
  rw [HZ.out]
  refine (rint_any (x.length : Int) _ Hfx.out).mono ?_
  rintro e w1 ⟨v1, rfl, hr1, hb1⟩
  have hil := encI_len Hfx.out
  obtain ⟨l1, hl1⟩ : ∃ l1, encI (x.length : Int) = l1 := ⟨_, rfl⟩
  rw [hl1] at hr1 hil
  have Hl1 := Lib.hid hl1
  have HR1 := Lib.hid hr1
  obtain ⟨a1, c1, hv1⟩ := own_slice hr1
  subst hv1
  clear hl1 hr1
  go_wp2_with (at_builtin; refine wpList_appS elB Try.underlying9 HR1.out hb1 rfl _ _ rfl rfl rfl ?c3 ?cB ?c5 ?_)
  case c3 => omega
  case cB => exact Nat.le_refl _
  case c5 => exact hb1.size
  intro v2 w2 hown2 hb2 hk2 hn2
  have hr2 : BRow 5 w2 w.heap.size v2 (encB x) := by
    have := brow_app rfl hown2
    rw [← Hl1.out] at this
    exact this
  have HR2 := Lib.hid hr2
  clear hown2 hk2 hn2 hr2
  go_wp2
  go_ret
  exact ⟨_, rfl, HR2.out, hb2⟩
set_option maxRecDepth 100000 in
set_option maxHeartbeats 4000000 in
theorem encode_any (v : Value) (l : List Nm) (w : World) (hl : l.length ≤ 1000) (h : SlN w v l) (hf : ∀ x ∈ l, fitsN x) :
    Calls Try.prog 11 #[v] w (RetB (encV l) w) := by
  obtain ⟨a, cap, rfl⟩ := Raw.slice h
  have H := Lib.hid h; clear h
  have HF := Lib.hid hf; clear hf
  have hfl : Wi.fits (l.length : Int) := by unfold Wi.fits; omega
  have Hfl := Lib.hid hfl; clear hfl
  go_enter Try.func11, Try.ntmps11
  go_wp2_with fail
  refine (wint_any _ [] (l.length : Int) w.heap.size _ Hfl.out (by simp) (World.ownsRow_nil _ _ _ _) (Nat.le_refl _)).mono ?_
  rintro e w2 ⟨v2, rfl, hg2⟩
  have hbel2 := hg2.below (brow_nil _ _ _) (Nat.le_refl _) (Nat.le_refl _) (Below.refl _ _)
  have HR2 := Lib.hid hg2.row
  clear hg2
  go_wp2
  go_loopw [3, 11] (fun bv i wr => ∃ k : Nat, k ≤ l.length ∧ i = .int .i64 k ∧ BRow 5 wr w.heap.size bv (encI l.length ++ (l.take k).flatMap encX) ∧ Below w.heap.size w wr) (fun _ i _ => l.length - (intOf i).toNat)
  case atStart => exact ⟨0, Nat.zero_le _, rfl, by simpa using HR2.out, hbel2⟩
  case round =>
    obtain ⟨k, hk, rfl, hrow, hbel⟩ := hrel
    have hsz := hbel.size
    have hfk := encFlat_len (l := l.take k) (fun x hx => HF.out x (List.mem_of_mem_take hx))
    have hel := encI_len Hfl.out
    have hacc : (encI l.length ++ (l.take k).flatMap encX).length ≤ 900000 := by
      rw [List.length_append]
      have : (l.take k).length ≤ l.length := by simp; omega
      omega
    obtain ⟨acc, hac⟩ : ∃ acc, encI l.length ++ (l.take k).flatMap encX = acc := ⟨_, rfl⟩
    rw [hac] at hrow hacc
    have Hac := Lib.hid hac; clear hac
    obtain ⟨ra, rc, rfl⟩ := own_slice hrow
    have HR := Lib.hid hrow
    clear hrow hfk hel
    by_cases hlt : k < l.length
    · obtain ⟨b, off, rfl, hb, h0, h1⟩ := (H.out.below hbel).elem hlt
      have hbw : b < w.heap.size := by
        obtain ⟨b', off', e, hb', _⟩ := H.out.elem hlt
        cases e; exact hb'
      have htf := take_flat hlt
      have hfz := HF.out _ (List.mem_of_getElem? (nm_get hlt))
      obtain ⟨z, hz⟩ : ∃ z, nmAt l k = z := ⟨_, rfl⟩
      rw [hz] at h0 h1 htf hfz
      have Htf := Lib.hid htf; have Hfz := Lib.hid hfz; clear htf hfz hz
      obtain ⟨X, hX⟩ : ∃ X, X = wr.heap.size := ⟨_, rfl⟩
      obtain ⟨wa, hwa⟩ : ∃ W, W = wr.alloc (.cells #[.string (strOf z.s), .int .i64 z.t] 59) := ⟨_, rfl⟩
      have hal : Below wr.heap.size wr wa := by rw [hwa]; exact (Below.refl _ wr).alloc (Nat.le_refl _) _
      have HX : Hid (wa.heap[X]? = some (.cells #[.string (strOf z.s), .int .i64 z.t] 59 (0, 0))) := Lib.hid (by rw [hwa, hX]; exact heap_alloc_new wr _)
      have HWA := Lib.hid hwa; have HXE := Lib.hid hX
      have HR1 := Lib.hid (HR.out.below hal)
      have HbA := Lib.hid (hbel.trans (hal.mono hsz))
      have hx0 : X ∉ (Value.ownBlock (.slice ra acc.length rc)).toList := fun hm => by have := (HR.out.lt _ (by simpa using hm)).2; omega
      have Hx0 := Lib.hid hx0
      clear hal hx0 hwa hX
      go_upto_region 5 with (fail)
      rw [← HWA.out, ← HXE.out]
      clear HWA HXE
      have hBl := show ∀ q ∈ [X], ∃ cc e f, wa.heap[q]? = some (.cells cc e f) from fun q hq => by rw [List.mem_singleton.1 hq]; exact ⟨_, _, _, HX.out⟩
      refine Txt.Ty.wp_tree ([X]) [5] [] [2, 5] [0, 1, 2, 4, 5] (.alt [3] (.alt [6, 7] (.done) (.no)) (.no)) (by kernel_rfl) (by kernel_rfl) (by kernel_rfl) (by kernel_rfl) hBl ?_
      obtain ⟨y0, hy0⟩ : ∃ y, y = wa.drew := ⟨_, rfl⟩
      have HS0 : Hid (Txt.SameB [X] y0 y0) := Lib.hid (by rw [hy0]; exact same_start hBl)
      clear hBl
      rw [← hy0]
      have hd : Below wa.heap.size wa y0 := by rw [hy0]; exact (Below.refl _ _).drew
      have HR1 := Lib.hid (HR1.out.below hd)
      have HbA := Lib.hid (HbA.out.trans (hd.mono HbA.out.size))
      have hx := (hd.block X (Array.getElem?_eq_some_iff.1 HX.out).1).trans HX.out
      have x0 : y0.cell? ⟨X, 0, none⟩ = some (.string (strOf z.s)) := box_at hx rfl
      have x1 : y0.cell? ⟨X, 1, none⟩ = some (.int .i64 z.t) := box_at hx rfl
      have HXd := Lib.hid hx
      clear hx hd hy0
      (try simp only [Txt.pick, List.getElem?_cons_succ, List.getElem?_cons_zero])
      go_wp2
      refine Txt.RunPost.mk ?_
      refine Txt.Ty.wpTr_alt ?_ Txt.Ty.wpTr_no
      (try simp only [Txt.pick, List.getElem?_cons_succ, List.getElem?_cons_zero])
      go_wp2_with fail
      refine (wstring_any _ acc z.s w.heap.size _ (by omega) (by have := Hfz.out.1; omega) HR1.out HbA.out.size).mono ?_
      rintro e w3 ⟨v3, rfl, hg3⟩
      have HS3 := Lib.hid (same_keep HS0.out hg3.keep (fun q hq => by rw [List.mem_singleton.1 hq]; exact Hx0.out))
      have hbel3 := hg3.below HR1.out (Nat.le_refl _) HbA.out.size HbA.out
      have HR3 := Lib.hid hg3.row
      have hl3 : (acc ++ encB z.s).length ≤ 1000000 := by have := encI_len (n := (z.s.length : Int)) (by unfold Wi.fits; have := Hfz.out.1; omega); have := Hfz.out.1; simp [encB]; omega
      have Hl3 := Lib.hid hl3
      clear hg3 hl3
      go_wp2
      refine Txt.SegPost.mk (Txt.Ty.Shown.same HS3.out) ?_
      (try simp only [Txt.pick, List.getElem?_cons_succ, List.getElem?_cons_zero])
      go_wp2
      refine Txt.RunPost.mk ?_
      refine Txt.Ty.wpTr_alt ?_ Txt.Ty.wpTr_no
      (try simp only [Txt.pick, List.getElem?_cons_succ, List.getElem?_cons_zero])
      go_wp2_with fail
      refine (wint_any _ (acc ++ encB z.s) z.t w.heap.size _ Hfz.out.2 Hl3.out HR3.out hbel3.size).mono ?_
      rintro e w4 ⟨v4, rfl, hg4⟩
      have HS4 : True := trivial
      have hbel4 := hg4.below HR3.out (Nat.le_refl _) hbel3.size hbel3
      have hrow4 : BRow 5 w4 w.heap.size v4 (encI l.length ++ (l.take (k + 1)).flatMap encX) := by
        rw [Htf.out, ← List.append_assoc, Hac.out, ← List.append_assoc]; exact hg4.row
      have HK4 := Lib.hid hg4.keep
      have hx3 : X ∉ v3.ownBlock.toList := fun hm => by
        obtain ⟨cur, hc⟩ := RowF.type (.inl HR3.out) (r := X) (by simpa using hm)
        rw [((HS3.out X (by simp)).2).symm.symm] at hc
        rw [HXd.out] at hc
        cases hc
      have HS4 := Lib.hid (same_keep HS3.out hg4.keep (fun q hq => by rw [List.mem_singleton.1 hq]; exact hx3))
      have HR4 := Lib.hid hrow4
      clear hg4 hrow4 hx3
      go_wp2
      refine Txt.SegPost.mk (Txt.Ty.Shown.same HS4.out) ?_
      (try simp only [Txt.pick, List.getElem?_cons_succ, List.getElem?_cons_zero])
      go_wp2
      refine Txt.RunPost.mk ?_
      refine Txt.Ty.wpTr_done (by rfl) ⟨.head _, trivial⟩ ?_
      go_wp2
      go_roundw
      case rel => exact ⟨k + 1, hlt, by go_num, HR4.out, hbel4⟩
      case measure => simp [intOf]; omega
    · obtain rfl : k = l.length := by omega
      rw [List.take_length] at Hac
      go_wp2
      go_ret
      unfold encV
      rw [Hac.out]
      exact ⟨_, rfl, HR.out, hbel⟩
set_option maxRecDepth 100000 in
set_option maxHeartbeats 4000000 in
theorem rencode_any (v : Value) (l : List Nm) (w : World) (hl : l.length ≤ 1000) (h : SlN w v l) (hf : ∀ x ∈ l, fitsN x) :
    Calls Try.prog 15 #[v] w (RetB (encV l) w) := by
  obtain ⟨a, cap, rfl⟩ := Raw.slice h
  have H := Lib.hid h; clear h
  have HF := Lib.hid hf; clear hf
  have hfl : Wi.fits (l.length : Int) := by unfold Wi.fits; omega
  have Hfl := Lib.hid hfl; clear hfl
  go_enter Try.func15, Try.ntmps15
  go_wp2_with fail
  refine (rint_any (l.length : Int) _ Hfl.out).mono ?_
  rintro e w2 ⟨v2, rfl, hr2, hbel2⟩
  have HR2 := Lib.hid hr2
  clear hr2
  go_wp2
  go_loopw [3, 4] (fun bv i wr => ∃ k : Nat, k ≤ l.length ∧ i = .int .i64 k ∧ BRow 5 wr w.heap.size bv (encI l.length ++ (l.take k).flatMap encX) ∧ Below w.heap.size w wr) (fun _ i _ => l.length - (intOf i).toNat)
  case atStart => exact ⟨0, Nat.zero_le _, rfl, by simpa using HR2.out, hbel2⟩
  case round =>
    obtain ⟨k, hk, rfl, hrow, hbel⟩ := hrel
    have hsz := hbel.size
    have hfk := encFlat_len (l := l.take k) (fun x hx => HF.out x (List.mem_of_mem_take hx))
    have hel := encI_len Hfl.out
    have hacc : (encI l.length ++ (l.take k).flatMap encX).length ≤ 900000 := by
      rw [List.length_append]
      have : (l.take k).length ≤ l.length := by simp; omega
      omega
    obtain ⟨acc, hac⟩ : ∃ acc, encI l.length ++ (l.take k).flatMap encX = acc := ⟨_, rfl⟩
    rw [hac] at hrow hacc
    have Hac := Lib.hid hac; clear hac
    obtain ⟨ra, rc, rfl⟩ := own_slice hrow
    have HR := Lib.hid hrow
    clear hrow hfk hel
    by_cases hlt : k < l.length
    · obtain ⟨b, off, rfl, hb, h0, h1⟩ := (H.out.below hbel).elem hlt
      have hbw : b < w.heap.size := by
        obtain ⟨b', off', e, hb', _⟩ := H.out.elem hlt
        cases e; exact hb'
      have htf := take_flat hlt
      have hfz := HF.out _ (List.mem_of_getElem? (nm_get hlt))
      obtain ⟨z, hz⟩ : ∃ z, nmAt l k = z := ⟨_, rfl⟩
      rw [hz] at h0 h1 htf hfz
      have Htf := Lib.hid htf; have Hfz := Lib.hid hfz; clear htf hfz hz
      go_wp2_with fail
      refine (rstring_any z.s _ (by have := Hfz.out.1; omega)).mono ?_
      rintro e w3 ⟨v3, rfl, hr3, hb3⟩
      have hbel3 := hbel.trans (hb3.mono hbel.size)
      have HR3 := Lib.hid (BRow.below HR.out hb3)
      have HX3 := Lib.hid (BRow.bytes (F := []) hr3 (fun f hf => by cases hf))
      obtain ⟨a3, c3', rfl⟩ := own_slice hr3
      have hl3 : (encB z.s).length ≤ 120 := by have := encI_len (n := (z.s.length : Int)) (by unfold Wi.fits; have := Hfz.out.1; omega); have := Hfz.out.1; simp [encB]; omega
      have Hl3 := Lib.hid hl3
      clear hr3 hb3 hl3
      go_wp2_with (at_builtin; refine wpList_appF elB Try.underlying23 HR3.out HX3.out hbel3 rfl _ _ rfl rfl rfl ?c3 ?cB ?c5 ?_)
      case c3 => have := Hl3.out; omega
      case cB => exact Nat.le_refl _
      case c5 => exact hbel3.size
      intro v4 w4 hown4 hbel4 hk4 hn4
      have hrow4 := brow_app rfl hown4
      clear hown4 hk4 hn4
      obtain ⟨acc4, hac4⟩ : ∃ acc4, acc ++ encB z.s = acc4 := ⟨_, rfl⟩
      have hl4 : acc4.length ≤ 900200 := by rw [← hac4]; have := Hl3.out; rw [List.length_append]; omega
      rw [hac4] at hrow4
      have Hac4 := Lib.hid hac4; clear hac4
      have HR4 := Lib.hid hrow4
      obtain ⟨a4, c4, hv4⟩ := own_slice hrow4
      subst hv4
      have h14 : w4.cell? ⟨b, off + k * 2 + 1, none⟩ = some (.int .i64 z.t) := (hbel4.cell (p := ⟨b, off + k * 2 + 1, none⟩) hbw).trans ((hbel.cell (p := ⟨b, off + k * 2 + 1, none⟩) hbw).symm.trans h1)
      clear hrow4 h0 h1
      go_wp2_with fail
      refine (rint_any z.t _ Hfz.out.2).mono ?_
      rintro e w5 ⟨v5, rfl, hr5, hb5⟩
      have hbel5 := hbel4.trans (hb5.mono hbel4.size)
      have HR5 := Lib.hid (BRow.below HR4.out hb5)
      have HX5 := Lib.hid (BRow.bytes (F := []) hr5 (fun f hf => by cases hf))
      obtain ⟨a5, c5', rfl⟩ := own_slice hr5
      have hl5 : (encI z.t).length ≤ 120 := by have := encI_len Hfz.out.2; omega
      have Hl5 := Lib.hid hl5
      clear hr5 hb5 hl5
      go_wp2_with (at_builtin; refine wpList_appF elB Try.underlying23 HR5.out HX5.out hbel5 rfl _ _ rfl rfl rfl ?c3 ?cB ?c5 ?_)
      case c3 => have := Hl5.out; omega
      case cB => exact Nat.le_refl _
      case c5 => exact hbel5.size
      intro v6 w6 hown6 hbel6 hk6 hn6
      have hrow6 := brow_app rfl hown6
      clear hown6 hk6 hn6
      have hrow6' : BRow 5 w6 w.heap.size v6 (encI l.length ++ (l.take (k + 1)).flatMap encX) := by
        rw [Htf.out, ← List.append_assoc, Hac.out, ← List.append_assoc, Hac4.out]; exact hrow6
      have HR6 := Lib.hid hrow6'
      clear hrow6 hrow6'
      go_wp2
      go_roundw
      case rel => exact ⟨k + 1, hlt, by go_num, HR6.out, hbel6⟩
      case measure => simp [intOf]; omega
    · obtain rfl : k = l.length := by omega
      rw [List.take_length] at Hac
      go_wp2
      go_ret
      unfold encV
      rw [Hac.out]
      exact ⟨_, rfl, HR.out, hbel⟩
end Go.Proofs.Ytfgbkfifiioeiaa
