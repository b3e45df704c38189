/- UnitTransaction: the law's walk -/
import Derived.Test.YtplhmoapcicncaaGreatQg
import Derived.Test.YtplhmoapcicncaaGreatHk
import Derived.Deep.CutRange
namespace Go.Im
open Go Go.RowKit Go.Bs Go.Cl Go.Rw Go.Fa
def totK (im : List UInt8) (rs : List Rs) (k : Nat) : Int := im.length + (((rs.take k).map fun r => r.l.length + r.k.length).sum : Nat)
theorem raw_max {F : List Nat} {k n : Nat} {w : World} {v : Value} {xs : List Value} (h : Raw F k w v n xs) : n ≤ 9223372036854775807 := by
  obtain ⟨_, _, a, cap, _, h3, h4, _⟩ := h
  unfold maxLen at h4
  omega
theorem Rs.cells {x : Rs} {w : World} (h : x.ok w) : ∃ xa xc ya yc, encR x = [.slice xa x.l.length xc, .slice ya x.k.length yc] ∧ Bytes [] w (.slice xa x.l.length xc) x.l ∧ Bytes [] w (.slice ya x.k.length yc) x.k ∧ x.l.length ≤ reachBytes ∧ x.k.length ≤ reachBytes := by
  obtain ⟨xa, xc, hv⟩ := Raw.slice h.1
  obtain ⟨ya, yc, he⟩ := Raw.slice h.2.1
  exact ⟨xa, xc, ya, yc, by unfold encR; rw [hv, he], by rw [← hv]; exact h.1, by rw [← he]; exact h.2.1, h.2.2⟩
theorem Fl.cells {x : Fl} {w : World} (h : x.ok w) : ∃ ta tc sa sc, encF x = [.int .i64 x.p.c, .int .i64 x.p.n, .int .i64 x.p.e, .int .i64 x.p.k, .int .i64 x.p.s, .int .i64 x.p.pl, .int .i64 x.p.m, .int .i64 x.t.en, .int .i64 x.t.st, .int .i64 x.t.er, .slice ta x.t.im.length tc, .slice sa x.t.ef.length sc, .int .u8 x.md] ∧ Bytes [] w (.slice ta x.t.im.length tc) x.t.im ∧ Bytes [] w (.slice sa x.t.ef.length sc) x.t.ef ∧ 0 ≤ x.md ∧ x.md ≤ 255 ∧ x.t.im.length ≤ reachBytes ∧ x.t.ef.length ≤ reachBytes := by
  obtain ⟨xa, xc, hv⟩ := Raw.slice h.1
  obtain ⟨ya, yc, he⟩ := Raw.slice h.2.1
  exact ⟨xa, xc, ya, yc, by unfold encF; rw [hv, he], by rw [← hv]; exact h.1, by rw [← he]; exact h.2.1, h.2.2⟩
theorem blk_of {w : World} {b o : Nat} {v : Value} (h : w.cell? ⟨b, o, none⟩ = some v) : ∃ c e f, w.heap[b]? = some (.cells c e f) := by
  cases hb : w.heap[b]? with
  | none => simp [World.cell?, hb] at h
  | some x =>
    cases x with
    | cells c e f => exact ⟨c, e, f, rfl⟩
    | _ => simp [World.cell?, hb] at h
theorem SlR.lt {w : World} {b off n c k : Nat} {l : List Rs} {x : Rs} (h : SlR w (.slice (some ⟨b, off, none⟩) n c) l) (hk : l[k]? = some x) : b < w.heap.size := by
  obtain ⟨b', off', hbo, hb, _⟩ := SlR.elem h hk
  cases hbo
  exact hb
theorem tr_cost (n m : Nat) (hn : n ≤ 1000) (hm : m ≤ 1000) : 4000 + 2 * cost n m 1 + 1 + acnt m + (acnt n + 1) ≤ 6000 := by
  have c := (cost_bound (n := n) (m := m) (by omega) (by omega)).2.1
  have a : acnt (n : Int) ≤ 190 := by unfold acnt; split <;> omega
  have b : acnt (m : Int) ≤ 190 := by unfold acnt; split <;> omega
  omega
theorem bnd_fits (n m : Nat) (hn : n ≤ 1000) (hm : m ≤ 1000) : 0 ≤ bnd n m 1 ∧ bnd n m 1 ≤ 10000 := by
  have c := (cost_bound (n := n) (m := m) (by omega) (by omega))
  have a : acnt (n : Int) ≤ 190 := by unfold acnt; split <;> omega
  have b : acnt (m : Int) ≤ 190 := by unfold acnt; split <;> omega
  have a0 := acnt_lo n
  have b0 := acnt_lo m
  unfold bnd
  omega
theorem SlR.at {w : World} {b off n c k : Nat} {l : List Rs} {x : Rs} {v1 v2 : Value} (h : SlR w (.slice (some ⟨b, off, none⟩) n c) l) (hk : l[k]? = some x) (he : encR x = [v1, v2]) : w.cell? ⟨b, off + k * 2, none⟩ = some v1 ∧ w.cell? ⟨b, off + k * 2 + 1, none⟩ = some v2 ∧ ∃ c e f, w.heap[b]? = some (.cells c e f) := by
  obtain ⟨b', off', hbo, _, hc⟩ := SlR.elem h hk
  cases hbo
  rw [he] at hc
  have h0 := hc 0 _ rfl
  have h1 := hc 1 _ rfl
  simp only [← Nat.add_assoc, Nat.add_zero] at h0 h1
  exact ⟨h0, h1, blk_of h0⟩
theorem totK_next {im : List UInt8} {rs : List Rs} {k : Nat} {x : Rs} (h : rs[k]? = some x) : totK im rs (k + 1) = totK im rs k + (x.l.length + x.k.length) := by
  unfold totK
  rw [List.take_add_one, h]
  simp
  omega
end Go.Im
namespace Go.Im
open Go Go.RowKit Go.Bs Go.Cl Go.Rw Go.Fa
/-- the unit behind k transactions -/
def TrI (x : Us) (k : Nat) : Prop := x.down = false ∧ x.att = 1 ∧ x.num = k + 1 ∧ x.led = ledK k ∧ 0 ≤ x.gr ∧ x.gr ≤ 2 + 2 * k ∧ 0 ≤ x.lost ∧ x.lost ≤ 6000 * k
theorem wrap_lo (a : Int) : -9223372036854775808 ≤ wrap64 a ∧ wrap64 a ≤ 9223372036854775807 := by unfold wrap64; omega
theorem sum_le {l : List Nat} {B : Nat} (h : ∀ x ∈ l, x ≤ B) : l.sum ≤ l.length * B := by
  induction l with
  | nil => simp
  | cons x l ih =>
    have h1 := h x (by simp)
    have h2 := ih (fun y hy => h y (by simp [hy]))
    simp only [List.sum_cons, List.length_cons, Nat.add_mul, Nat.one_mul]
    omega
theorem le_sum {l : List Nat} {x : Nat} (h : x ∈ l) : x ≤ l.sum := by
  induction l with
  | nil => cases h
  | cons y l ih =>
    simp only [List.sum_cons]
    rcases List.mem_cons.1 h with rfl | h
    · omega
    · have := ih h; omega
theorem totK_le {rs : List Rs} {w : World} (h : ∀ y ∈ rs, y.ok w) (im : List UInt8) (hi : im.length ≤ 140737488351232) (h12 : rs.length ≤ 12) (k : Nat) : 0 ≤ totK im rs k ∧ totK im rs k ≤ 10000000000000000 := by
  unfold totK
  have := sum_le (l := (rs.take k).map fun r => r.l.length + r.k.length) (B := 281474976702464) (fun x hx => by
    obtain ⟨y, hy, rfl⟩ := List.mem_map.1 hx
    have := (h y (List.mem_of_mem_take hy)).2.2
    simp only [reachBytes] at this
    omega)
  have hl : ((rs.take k).map fun r => r.l.length + r.k.length).length ≤ 12 := by simp; omega
  have h2 := Nat.mul_le_mul_right 281474976702464 hl
  omega
theorem totK_small {im : List UInt8} {rs : List Rs} (h : totK im rs rs.length ≤ 400) : im.length ≤ 400 ∧ ∀ y ∈ rs, y.l.length ≤ 400 ∧ y.k.length ≤ 400 := by
  unfold totK at h
  rw [List.take_length] at h
  refine ⟨by omega, fun y hy => ?_⟩
  have := le_sum (List.mem_map_of_mem (f := fun r : Rs => r.l.length + r.k.length) hy)
  omega
end Go.Im
namespace Go.Proofs.YtplhmoapcicncaaGreat
open Go.RowKit Go.Bs Go.Cl Go.Rw Go.Un Go.Im Go.Fa Go.Wi
set_option maxRecDepth 100000 in
set_option maxHeartbeats 8000000 in
theorem unitlaw_any (im : List UInt8) (rs : List Rs) (fs : List Fl) (iv rv fv : Value) (w0 : World) (hil : im.length ≤ reachBytes) (hI : Bytes [] w0 iv im) (hR : SlR w0 rv rs) (hF : SlF w0 fv fs) (hr : ∀ y ∈ rs, y.ok w0) (hf : ∀ y ∈ fs, y.ok w0) :
    Calls Tryz.prog 3 #[iv, rv, fv] w0 fun e w' => e = .returned (.bool true) ∧ Below w0.heap.size w0 w' := by
  obtain ⟨ia, ic, rfl⟩ := Raw.slice hI
  obtain ⟨ra, rc, rfl⟩ := Raw.slice hR
  obtain ⟨fa, fc, rfl⟩ := Raw.slice hF
  have hIl : im.length ≤ 140737488351232 := hil
  have hRl : rs.length ≤ 9223372036854775807 := raw_max hR
  have hFl : fs.length ≤ 9223372036854775807 := raw_max hF
  have HRS := Lib.hid hr
  have HFS := Lib.hid hf
  have hB0 := Lib.hid hI
  have HB0 := Lib.hid hI
  have HRz := Lib.hid hR
  have HFz := Lib.hid hF
  have HBz := Lib.hid hI
  have HR0 := Lib.hid hR
  have HF0 := Lib.hid hF
  have bel0 := Below.refl w0.heap.size w0
  clear hI hR hF hr hf hB0
  go_enter Tryz.func3, Tryz.ntmps3
  go_wp2_with fail
  refine (awake_any _).mono ?_
  rintro e w1 ⟨rfl, hb1⟩
  have HB1 := Lib.hid (Raw.below HB0.out hb1)
  have HR1 := Lib.hid (Raw.below HR0.out hb1)
  have HF1 := Lib.hid (Raw.below HF0.out hb1)
  clear HB0 HR0 HF0
  have bel1 := bel0.trans (hb1.mono bel0.size)
  clear hb1
  go_wp2
  go_loopw [7, 8] (fun z i wr => ∃ k : Nat, k ≤ rs.length ∧ i = .int .i64 k ∧ (∃ t : Int, z = .int .i64 t ∧ (-9223372036854775808 ≤ t ∧ t ≤ 9223372036854775807) ∧ (rs.length ≤ 12 → t = totK im rs k)) ∧ Below w0.heap.size w0 wr) (fun _ i _ => rs.length - (intOf i).toNat)
  case atStart => exact ⟨0, Nat.zero_le _, rfl, ⟨_, rfl, ⟨by omega, by omega⟩, fun _ => by simp [totK]⟩, bel1⟩
  case round =>
    rename World => w2
    obtain ⟨k, hk, rfl, ⟨t, rfl, hts, htk⟩, hbel⟩ := hrel
    have HTK := Lib.hid htk
    have HBL2 := Lib.hid hbel
    clear htk
    by_cases hlt : k < rs.length
    · obtain ⟨x, hx⟩ : ∃ x, rs[k]? = some x := ⟨_, List.getElem?_eq_getElem hlt⟩
      have hok := HRS.out x (List.mem_of_getElem? hx)
      obtain ⟨b, off, rfl, hb, hc⟩ := SlR.elem (show SlR w2 (.slice ra rs.length rc) rs from Raw.below HRz.out hbel) hx
      obtain ⟨xa, xc, ya, yc, henc, hx1, hx2, hl1, hl2⟩ := Rs.cells hok
      have hl1 : x.l.length ≤ 140737488351232 := hl1
      have hl2 : x.k.length ≤ 140737488351232 := hl2
      rw [henc] at hc
      have a_0 := hc 0 _ rfl
      have a_1 := hc 1 _ rfl
      simp only [← Nat.add_assoc, Nat.add_zero] at a_0 a_1
      have HX := Lib.hid hx
      clear hc hx hx1 hx2 hbel henc hok
      go_upto_region 7 with (fail)
      refine Txt.wp_txt (by kernel_rfl) (by kernel_rfl) ?_
      go_wp2
      refine Txt.DrawPost.mk0 (by rfl) ?_
      go_wp2
      go_roundw
      case rel => exact ⟨k + 1, by omega, by go_num, ⟨_, rfl, wrap_lo _, fun h12 => by rw [totK_next HX.out, ← HTK.out h12, wrap_id (by have := totK_le HRS.out im hIl h12 k; rw [← HTK.out h12] at this; omega) (by have := totK_le HRS.out im hIl h12 k; rw [← HTK.out h12] at this; omega)]⟩, HBL2.out.trans (Below.refl _ _).drew⟩
      case measure => simp [intOf]; omega
    · obtain rfl : k = rs.length := by omega
      clear hlt hk hbel
      by_cases g1 : 400 < t
      · go_wp2
        go_ret
        exact ⟨rfl, HBL2.out⟩
      by_cases g2 : 12 < rs.length
      · go_wp2
        go_ret
        exact ⟨rfl, HBL2.out⟩
      by_cases g3 : fs.length < rs.length
      · go_wp2
        go_ret
        exact ⟨rfl, HBL2.out⟩
      have htot : totK im rs rs.length ≤ 400 := by rw [← HTK.out (by omega)]; omega
      have HSM := Lib.hid (totK_small htot)
      clear HTK htot
      go_wp2_with fail
      refine (unew_ok 6 _ im w0 w2 (by omega) (by omega) (by have := HSM.out.1; omega) HBL2.out (Raw.below HBz.out HBL2.out)).mono ?_
      rintro e w3 ⟨u, rfl, hU⟩
      have HU3 := Lib.hid hU.ll
      clear hU
      go_wp2
      go_loopw [11] (fun i wr => ∃ k : Nat, k ≤ rs.length ∧ i = .int .i64 k ∧ ∃ x img, TrI x k ∧ img.length ≤ 400 ∧ ULL w0 u x ⟨img, k, false, [], 0⟩ [] [] wr) (fun i _ => rs.length - (intOf i).toNat)
      case atStart => exact ⟨0, Nat.zero_le _, rfl, ⟨6, [], 1, 1, 1, 2, 2, false, 0⟩, im, ⟨rfl, rfl, rfl, rfl, by decide, by decide, by decide, by decide⟩, HSM.out.1, HU3.out⟩
      case round =>
        rename World => w4
        obtain ⟨k, hk, rfl, x, img, hT, hig, hU⟩ := hrel
        have HT := Lib.hid hT
        have HU4 := Lib.hid hU
        have hb4 : Below w0.heap.size w0 w4 := hU.1
        clear hT
        by_cases hlt : k < rs.length
        rotate_left
        · obtain rfl : k = rs.length := by omega
          go_wp2
          go_ret
          exact ⟨rfl, hb4⟩
        have hbel := hb4
        obtain ⟨r, hr⟩ : ∃ r, rs[k]? = some r := ⟨_, List.getElem?_eq_getElem hlt⟩
        obtain ⟨y, hy⟩ : ∃ y, fs[k]? = some y := ⟨_, List.getElem?_eq_getElem (by omega)⟩
        obtain ⟨b, off, rfl, hb, hc⟩ := SlR.elem (show SlR w4 (.slice ra rs.length rc) rs from Raw.below HRz.out hbel) hr
        obtain ⟨b2, off2, rfl, hb2, hc2⟩ := SlF.elem (show SlF w4 (.slice fa fs.length fc) fs from Raw.below HFz.out hbel) hy
        obtain ⟨xa, xc, ya, yc, henc, hx1, hx2, _, _⟩ := Rs.cells (HRS.out r (List.mem_of_getElem? hr))
        obtain ⟨ta, tc, sa, sc, hencf, hy1, hy2, hm0, hm1, hl1, hl2⟩ := Fl.cells (HFS.out y (List.mem_of_getElem? hy))
        obtain ⟨hr1, hr2⟩ := HSM.out.2 r (List.mem_of_getElem? hr)
        rw [henc] at hc
        rw [hencf] at hc2
        have HX1 := Lib.hid hx1
        have HX2 := Lib.hid hx2
        have HY1 := Lib.hid hy1
        have HY2 := Lib.hid hy2
        have HEN := Lib.hid henc
        have HRR := Lib.hid hr
        clear hc hx1 hx2 hy1 hy2 henc hencf hbel hU hr
        have y_0 := hc2 0 _ rfl
        have y_1 := hc2 1 _ rfl
        have y_2 := hc2 2 _ rfl
        have y_3 := hc2 3 _ rfl
        have y_4 := hc2 4 _ rfl
        have y_5 := hc2 5 _ rfl
        have y_6 := hc2 6 _ rfl
        have y_7 := hc2 7 _ rfl
        have y_8 := hc2 8 _ rfl
        have y_9 := hc2 9 _ rfl
        have y_10 := hc2 10 _ rfl
        have y_11 := hc2 11 _ rfl
        have y_12 := hc2 12 _ rfl
        simp only [← Nat.add_assoc, Nat.add_zero] at y_0 y_1 y_2 y_3 y_4 y_5 y_6 y_7 y_8 y_9 y_10 y_11 y_12
        clear hc2
        obtain ⟨Xf, hXf⟩ : ∃ O, O = w4.heap.size := ⟨_, rfl⟩
        obtain ⟨w5, hw5⟩ : ∃ W, W = w4.alloc (.cells #[.int .i64 y.p.c, .int .i64 y.p.n, .int .i64 y.p.e, .int .i64 y.p.k, .int .i64 y.p.s, .int .i64 y.p.pl, .int .i64 y.p.m, .int .i64 y.t.en, .int .i64 y.t.st, .int .i64 y.t.er, .slice ta y.t.im.length tc, .slice sa y.t.ef.length sc, .int .u8 y.md] 36) := ⟨_, rfl⟩
        have hb5 : Below w4.heap.size w4 w5 := by rw [hw5]; exact (Below.refl _ _).alloc (Nat.le_refl _) _
        have HXf5 : Hid (w5.heap[Xf]? = some (.cells #[.int .i64 y.p.c, .int .i64 y.p.n, .int .i64 y.p.e, .int .i64 y.p.k, .int .i64 y.p.s, .int .i64 y.p.pl, .int .i64 y.p.m, .int .i64 y.t.en, .int .i64 y.t.st, .int .i64 y.t.er, .slice ta y.t.im.length tc, .slice sa y.t.ef.length sc, .int .u8 y.md] 36 (0, 0))) := Lib.hid (by rw [hw5, hXf]; exact heap_alloc_new w4 _)
        have HW5 := Lib.hid hw5
        have HRf := Lib.hid hXf
        have HZ5 := Lib.hid hb5
        have HXL : Hid (w4.heap.size ≤ Xf) := Lib.hid (by omega)
        clear hw5 hb5 hXf
        go_upto_region 17 with (fail)
        rw [← HW5.out, ← HRf.out]
        clear HW5 HRf y_0 y_1 y_2 y_3 y_4 y_5 y_6 y_7 y_8 y_9 y_10 y_11 y_12
        have bel5 := Below.refl w5.heap.size w5
        have cXf_0 := box_at HXf5.out (j := 0) rfl
        have cXf_1 := box_at HXf5.out (j := 1) rfl
        have cXf_2 := box_at HXf5.out (j := 2) rfl
        have cXf_3 := box_at HXf5.out (j := 3) rfl
        have cXf_4 := box_at HXf5.out (j := 4) rfl
        have cXf_5 := box_at HXf5.out (j := 5) rfl
        have cXf_6 := box_at HXf5.out (j := 6) rfl
        have cXf_7 := box_at HXf5.out (j := 7) rfl
        have cXf_8 := box_at HXf5.out (j := 8) rfl
        have cXf_9 := box_at HXf5.out (j := 9) rfl
        have cXf_10 := box_at HXf5.out (j := 10) rfl
        have cXf_11 := box_at HXf5.out (j := 11) rfl
        have cXf_12 := box_at HXf5.out (j := 12) rfl
        go_wp2_with fail
        refine (few1_any y.t _ _ _ (by simp only [reachBytes] at hl1; omega) (by simp only [reachBytes] at hl2; omega) ⟨_, _, rfl⟩ ⟨_, _, rfl⟩).mono ?_
        rintro e w6 ⟨rfl, hb6⟩
        clear cXf_0 cXf_1 cXf_2 cXf_3 cXf_4 cXf_5 cXf_6 cXf_7 cXf_8 cXf_9 cXf_10 cXf_11 cXf_12
        have HXf6 := Lib.hid ((hb6.block Xf (Array.getElem?_eq_some_iff.1 HXf5.out).1).trans HXf5.out)
        have HZ6 := Lib.hid ((HZ5.out).trans (hb6.mono (HZ5.out).size))
        clear HXf5 HZ5
        have bel6 := bel5.trans (hb6.mono bel5.size)
        clear hb6
        have cXf_0 := box_at HXf6.out (j := 0) rfl
        have cXf_1 := box_at HXf6.out (j := 1) rfl
        have cXf_2 := box_at HXf6.out (j := 2) rfl
        have cXf_3 := box_at HXf6.out (j := 3) rfl
        have cXf_4 := box_at HXf6.out (j := 4) rfl
        have cXf_5 := box_at HXf6.out (j := 5) rfl
        have cXf_6 := box_at HXf6.out (j := 6) rfl
        have cXf_7 := box_at HXf6.out (j := 7) rfl
        have cXf_8 := box_at HXf6.out (j := 8) rfl
        have cXf_9 := box_at HXf6.out (j := 9) rfl
        have cXf_10 := box_at HXf6.out (j := 10) rfl
        have cXf_11 := box_at HXf6.out (j := 11) rfl
        have cXf_12 := box_at HXf6.out (j := 12) rfl
        by_cases hfew : y.t.im.length + y.t.ef.length ≤ 400
        rotate_left
        · rw [decide_eq_false hfew]
          go_wp2
          go_ret
          exact ⟨rfl, hb4.trans (HZ6.out.mono hb4.size)⟩
        rw [decide_eq_true hfew]
        by_cases hs0 : y.t.st < 0
        · go_wp2
          go_ret
          exact ⟨rfl, hb4.trans (HZ6.out.mono hb4.size)⟩
        by_cases hs1 : 4000 < y.t.st
        · go_wp2
          go_ret
          exact ⟨rfl, hb4.trans (HZ6.out.mono hb4.size)⟩
        have HS01 := Lib.hid (And.intro (Int.not_lt.1 hs0) (Int.not_lt.1 hs1))
        have hxs := HXL.out
        go_upto_if 92 with (fail)
        go_cut [] from 93 to 96 (fun wx => ∃ q : FP, wx.heap[Xf]? = some (.cells #[.int .i64 q.c, .int .i64 q.n, .int .i64 q.e, .int .i64 q.k, .int .i64 q.s, .int .i64 q.pl, .int .i64 q.m, .int .i64 y.t.en, .int .i64 y.t.st, .int .i64 y.t.er, .slice ta y.t.im.length tc, .slice sa y.t.ef.length sc, .int .u8 y.md] 36 (0, 0)) ∧ Below w4.heap.size w4 wx)
        case first =>
          have fr_1 := box_free HXf6.out 1
          by_cases h6 : y.p.c = 6
          · go_wp2
            go_meet
            case rel => exact ⟨{ y.p with n := k + 1 }, heap_setCell_same _ _ 1 _ 36 _ HXf6.out, HZ6.out.trans (((Keep.refl [Xf] w6).setCell (.inl (by simp)) _).below HZ6.out.size (fun f hf => by rw [List.mem_singleton.1 hf]; exact hxs))⟩
          · go_wp2
            go_meet
            case rel => exact ⟨y.p, HXf6.out, HZ6.out⟩
        case rest =>
        obtain ⟨q, hxq, hz⟩ := hcut
        obtain ⟨w7, hw7⟩ : ∃ W, W = wc := ⟨_, rfl⟩
        rw [← hw7] at hxq hz ⊢
        clear hw7 wc HXf6 HZ6
        clear cXf_0 cXf_1 cXf_2 cXf_3 cXf_4 cXf_5 cXf_6 cXf_7 cXf_8 cXf_9 cXf_10 cXf_11 cXf_12
        have hU7 := HU4.out.below hz
        have hat := SlR.at (show SlR w7 (.slice (some ⟨b, off, none⟩) rs.length rc) rs from Raw.below HRz.out hU7.1) HRR.out HEN.out
        obtain ⟨bcc, bce, bcf, hbk⟩ := hat.2.2
        have bel7 := Below.refl w7.heap.size w7
        clear HU4
        have HBk7 := Lib.hid (hbk)
        have HXf7 := Lib.hid (hxq)
        have HU7 := Lib.hid (hU7)
        clear hbk hxq hU7 hz
        clear hat
        go_upto_region 21 with (fail)
        have HBL7 : Hid (∀ q ∈ [b], ∃ cc e f, w7.heap[q]? = some (.cells cc e f)) := Lib.hid (by
          intro q hq
          simp only [List.mem_cons, List.not_mem_nil, or_false] at hq
          rcases hq with rfl <;> first | exact ⟨_, _, _, HBk7.out⟩)
        have hBl := show ∀ q ∈ [b], ∃ cc e f, w7.heap[q]? = some (.cells cc e f) from HBL7.out
        clear HBL7
        refine Txt.Ty.wp_tree [b] [9] [] [9] [0, 2, 5, 6, 7, 8, 9, 10] (.alt [1] (.alt [3, 4] (.alt [11, 12, 13] (.done) (.no)) (.no)) (.no)) (by kernel_rfl) (by kernel_rfl) (by kernel_rfl) (by kernel_rfl) hBl ?_
        obtain ⟨w8, hwd⟩ : ∃ y, y = w7.drew := ⟨_, rfl⟩
        have HS8 : Hid (Txt.SameB [b] w8 w8) := Lib.hid (by rw [hwd]; exact same_start hBl)
        clear hBl
        rw [← hwd]
        have hdr : Below w7.heap.size w7 w8 := by rw [hwd]; exact (Below.refl _ _).drew
        have HBk8 := Lib.hid ((hdr.block b (Array.getElem?_eq_some_iff.1 HBk7.out).1).trans HBk7.out)
        have HXf8 := Lib.hid ((hdr.block Xf (Array.getElem?_eq_some_iff.1 HXf7.out).1).trans HXf7.out)
        have HU8 := Lib.hid (ULL.below HU7.out hdr)
        clear HBk7 HXf7 HU7
        have bel8 := bel7.trans (hdr.mono bel7.size)
        clear hdr hwd
        have hat := SlR.at (show SlR w8 (.slice (some ⟨b, off, none⟩) rs.length rc) rs from Raw.below HRz.out HU8.out.1) HRR.out HEN.out
        obtain ⟨ra_0, ra_1, _⟩ := hat
        (try simp only [Txt.pick, List.getElem?_cons_succ, List.getElem?_cons_zero])
        go_wp2
        refine Txt.RunPost.mk ?_
        refine Txt.Ty.wpTr_alt ?_ Txt.Ty.wpTr_no
        (try simp only [Txt.pick, List.getElem?_cons_succ, List.getElem?_cons_zero])
        go_wp2_with fail
        refine (ull_lost HU8.out).mono ?_
        rintro e w' ⟨rfl, rfl⟩
        go_wp2
        refine Txt.SegPost.mk (Txt.Ty.Shown.same HS8.out) ?_
        (try simp only [Txt.pick, List.getElem?_cons_succ, List.getElem?_cons_zero])
        go_wp2
        refine Txt.RunPost.mk ?_
        refine Txt.Ty.wpTr_alt ?_ Txt.Ty.wpTr_no
        (try simp only [Txt.pick, List.getElem?_cons_succ, List.getElem?_cons_zero])
        go_wp2_with fail
        refine (ull_image HU8.out).mono ?_
        rintro e w9 ⟨ja, jc, rfl, hb9, hU9⟩
        clear ra_0 ra_1
        have HBk9 := Lib.hid ((hb9.block b (Array.getElem?_eq_some_iff.1 HBk8.out).1).trans HBk8.out)
        have HXf9 := Lib.hid ((hb9.block Xf (Array.getElem?_eq_some_iff.1 HXf8.out).1).trans HXf8.out)
        have HU9 := Lib.hid (ULL.below HU8.out hb9)
        clear HBk8 HXf8 HU8
        have bel9 := bel8.trans (hb9.mono bel8.size)
        have HS9 := Lib.hid (same_below' HS8.out hb9)
        clear hb9 hU9
        have hat := SlR.at (show SlR w9 (.slice (some ⟨b, off, none⟩) rs.length rc) rs from Raw.below HRz.out HU9.out.1) HRR.out HEN.out
        obtain ⟨ra_0, ra_1, _⟩ := hat
        go_wp2
        refine Txt.SegPost.mk (Txt.Ty.Shown.same HS9.out) ?_
        (try simp only [Txt.pick, List.getElem?_cons_succ, List.getElem?_cons_zero])
        go_wp2
        refine Txt.RunPost.mk ?_
        refine Txt.Ty.wpTr_alt ?_ Txt.Ty.wpTr_no
        (try simp only [Txt.pick, List.getElem?_cons_succ, List.getElem?_cons_zero])
        go_wp2_with fail
        refine (bound_any _ _ 1 (by omega) (by omega) (by omega) (by omega) (by omega) _).mono ?_
        rintro e w' ⟨rfl, rfl⟩
        go_wp2
        refine Txt.SegPost.mk (Txt.Ty.Shown.same HS9.out) ?_
        (try simp only [Txt.pick, List.getElem?_cons_succ, List.getElem?_cons_zero])
        go_wp2
        refine Txt.RunPost.mk ?_
        refine Txt.Ty.wpTr_done (by rfl) ⟨.head _, trivial⟩ ?_
        go_wp2
        clear ra_0 ra_1
        go_upto_region 22 with (fail)
        go_cut [160] from 109 to 160 (fun s wx => s = .bool false ∧ ∃ x', TrI x' (k + 1) ∧ ULL w0 u x' ⟨r.l, k + 1, false, [], 0⟩ [] [] wx)
        case first =>
          have cXf_0 := box_at HXf9.out (j := 0) rfl
          have cXf_1 := box_at HXf9.out (j := 1) rfl
          have cXf_2 := box_at HXf9.out (j := 2) rfl
          have cXf_3 := box_at HXf9.out (j := 3) rfl
          have cXf_4 := box_at HXf9.out (j := 4) rfl
          have cXf_5 := box_at HXf9.out (j := 5) rfl
          have cXf_6 := box_at HXf9.out (j := 6) rfl
          have cXf_7 := box_at HXf9.out (j := 7) rfl
          have cXf_8 := box_at HXf9.out (j := 8) rfl
          have cXf_9 := box_at HXf9.out (j := 9) rfl
          have cXf_10 := box_at HXf9.out (j := 10) rfl
          have cXf_11 := box_at HXf9.out (j := 11) rfl
          have cXf_12 := box_at HXf9.out (j := 12) rfl
          have HBL9 : Hid (∀ q ∈ [b], ∃ cc e f, w9.heap[q]? = some (.cells cc e f)) := Lib.hid (by
            intro q hq
            simp only [List.mem_cons, List.not_mem_nil, or_false] at hq
            rcases hq with rfl <;> first | exact ⟨_, _, _, HBk9.out⟩)
          have hBl := show ∀ q ∈ [b], ∃ cc e f, w9.heap[q]? = some (.cells cc e f) from HBL9.out
          clear HBL9
          refine Txt.Ty.wp_tree [b] [22] [] [1, 6, 11, 22] [0, 1, 2, 3, 4, 5, 6, 7, 8, 9, 10, 11] (.alt [12, 13, 14, 15, 18, 19, 20, 21, 22] (.alt [16] (.alt [17] (.alt [23, 24, 25, 26, 27, 29, 30] (.alt [28, 31, 32, 33, 34, 36, 37] (.alt [35, 38, 39, 40, 41, 43, 45] (.alt [42, 44, 46, 47, 48, 49] (.alt [50, 51] (.done) (.no)) (.no)) (.no)) (.no)) (.no)) (.alt [23] (.alt [17, 24, 25, 26, 27, 29, 30] (.alt [28, 31, 32, 33, 34, 36, 37] (.alt [35, 38, 39, 40, 41, 43, 45] (.alt [42, 44, 46, 47, 48, 49] (.alt [50, 51] (.done) (.no)) (.no)) (.no)) (.no)) (.no)) (.no))) (.alt [23] (.alt [16] (.alt [17, 24, 25, 26, 27, 29, 30] (.alt [28, 31, 32, 33, 34, 36, 37] (.alt [35, 38, 39, 40, 41, 43, 45] (.alt [42, 44, 46, 47, 48, 49] (.alt [50, 51] (.done) (.no)) (.no)) (.no)) (.no)) (.no)) (.no)) (.no))) (.no)) (by kernel_rfl) (by kernel_rfl) (by kernel_rfl) (by kernel_rfl) hBl ?_
          obtain ⟨w10, hwd⟩ : ∃ y, y = w9.drew := ⟨_, rfl⟩
          have HS10 : Hid (Txt.SameB [b] w10 w10) := Lib.hid (by rw [hwd]; exact same_start hBl)
          clear hBl
          rw [← hwd]
          have hdr : Below w9.heap.size w9 w10 := by rw [hwd]; exact (Below.refl _ _).drew
          clear cXf_0 cXf_1 cXf_2 cXf_3 cXf_4 cXf_5 cXf_6 cXf_7 cXf_8 cXf_9 cXf_10 cXf_11 cXf_12
          have HBk10 := Lib.hid ((hdr.block b (Array.getElem?_eq_some_iff.1 HBk9.out).1).trans HBk9.out)
          have HXf10 := Lib.hid ((hdr.block Xf (Array.getElem?_eq_some_iff.1 HXf9.out).1).trans HXf9.out)
          have HU10 := Lib.hid (ULL.below HU9.out hdr)
          clear HBk9 HXf9 HU9
          have bel10 := bel9.trans (hdr.mono bel9.size)
          clear hdr hwd
          have hat := SlR.at (show SlR w10 (.slice (some ⟨b, off, none⟩) rs.length rc) rs from Raw.below HRz.out HU10.out.1) HRR.out HEN.out
          obtain ⟨ra_0, ra_1, _⟩ := hat
          have cXf_0 := box_at HXf10.out (j := 0) rfl
          have cXf_1 := box_at HXf10.out (j := 1) rfl
          have cXf_2 := box_at HXf10.out (j := 2) rfl
          have cXf_3 := box_at HXf10.out (j := 3) rfl
          have cXf_4 := box_at HXf10.out (j := 4) rfl
          have cXf_5 := box_at HXf10.out (j := 5) rfl
          have cXf_6 := box_at HXf10.out (j := 6) rfl
          have cXf_7 := box_at HXf10.out (j := 7) rfl
          have cXf_8 := box_at HXf10.out (j := 8) rfl
          have cXf_9 := box_at HXf10.out (j := 9) rfl
          have cXf_10 := box_at HXf10.out (j := 10) rfl
          have cXf_11 := box_at HXf10.out (j := 11) rfl
          have cXf_12 := box_at HXf10.out (j := 12) rfl
          obtain ⟨ht1, ht2, ht3, ht4, ht5, ht6, ht7, ht8⟩ := HT.out
          have hbl := SlR.lt HRz.out HRR.out
          have hk12 : k < 12 := by omega
          have hfw := hfew
          (try simp only [Txt.pick, List.getElem?_cons_succ, List.getElem?_cons_zero])
          go_wp2
          refine Txt.RunPost.mk ?_
          refine Txt.Ty.wpTr_alt ?_ Txt.Ty.wpTr_no
          (try simp only [Txt.pick, List.getElem?_cons_succ, List.getElem?_cons_zero])
          go_wp2_with fail
          refine (transact_any HU10.out q y.t _ _ _ _ y.md r.l r.k ((k + 1 : Nat) : Int) hm0 hm1 HY1.out HY2.out HX1.out HX2.out (by omega) (by omega) (by omega) (by omega) (by omega) HS01.out.1 HS01.out.2 ht1 ht2 (by omega) (by omega) (by omega) ht5 (by omega) (by rw [ht4]; exact Nat.le_trans (ledK_len k) (by omega)) (by rw [ht4, ledK_seen]; omega) (by omega) (by omega) (led := ledK (k + 1)) (by rw [ht4]; exact ledK_next k) ht7 (by omega)).mono ?_
          rintro e w11 ⟨rfl, x', a1, a2, a3, _, a5, a6, a7, a8, a9, hU11, _⟩
          have heq : w11.heap[b]? = w10.heap[b]? := (hU11.1.block b hbl).trans (HU10.out.1.block b hbl).symm
          have HBk11 := Lib.hid (heq.trans HBk10.out)
          have HS11 : Hid (Txt.SameB [b] _ w11) := Lib.hid (fun z hz => by rw [List.mem_singleton.1 hz]; exact ⟨⟨_, _, _, HBk11.out⟩, heq.trans (HS10.out b (by simp)).2⟩)
          have HU11 := Lib.hid hU11
          have HT' := Lib.hid (show TrI x' (k + 1) from ⟨a1, a2, by rw [a3, ht3]; omega, a5, a7, by omega, by omega, by have := tr_cost img.length r.l.length (by omega) (by omega); omega⟩)
          have HDN := Lib.hid a1
          have HNM : Hid (x'.num = k + 2) := Lib.hid (by rw [a3, ht3]; omega)
          have HLO := Lib.hid (show ¬ bnd img.length r.l.length 1 < x'.lost - x.lost by unfold bnd; omega)
          have HLB := Lib.hid (And.intro ht7 (And.intro ht8 (And.intro a8 (show x'.lost ≤ 6000 * k + 6000 by have := tr_cost img.length r.l.length (by omega) (by omega); omega))))
          have HBN := Lib.hid (bnd_fits img.length r.l.length (by omega) (by omega))
          clear heq a1 a2 a3 a5 a6 a7 a8 a9 hU11 HU10 HBk10 HS10 HXf10
          clear ra_0 ra_1 cXf_0 cXf_1 cXf_2 cXf_3 cXf_4 cXf_5 cXf_6 cXf_7 cXf_8 cXf_9 cXf_10 cXf_11 cXf_12
          have bel11 := Below.refl w11.heap.size w11
          have hat := SlR.at (show SlR w11 (.slice (some ⟨b, off, none⟩) rs.length rc) rs from Raw.below HRz.out HU11.out.1) HRR.out HEN.out
          obtain ⟨ra_0, ra_1, _⟩ := hat
          go_wp2
          refine Txt.SegPost.mk (Txt.Ty.Shown.same HS11.out) ?_
          (try simp only [Txt.pick, List.getElem?_cons_succ, List.getElem?_cons_zero])
          go_wp2
          refine Txt.RunPost.mk ?_
          clear ra_0 ra_1
          refine Txt.Ty.wpTr_alt ?_ (Txt.Ty.wpTr_alt ?_ Txt.Ty.wpTr_no)
          · (try simp only [Txt.pick, List.getElem?_cons_succ, List.getElem?_cons_zero])
            go_wp2_with fail
            refine (ull_image HU11.out).mono ?_
            rintro e w12 ⟨pa, pc, rfl, hb12, hI12⟩
            have HBk12 := Lib.hid ((hb12.block b (Array.getElem?_eq_some_iff.1 HBk11.out).1).trans HBk11.out)
            have HU12 := Lib.hid (ULL.below HU11.out hb12)
            clear HBk11 HU11
            have bel12 := bel11.trans (hb12.mono bel11.size)
            have HS12 := Lib.hid (same_below' HS11.out hb12)
            have HIM12 : Hid (Bytes [] w12 (.slice pa r.l.length pc) r.l) := Lib.hid (hI12.bytes (by simp))
            clear hb12 hI12
            go_wp2
            refine Txt.SegPost.mk (Txt.Ty.Shown.same HS12.out) ?_
            (try simp only [Txt.pick, List.getElem?_cons_succ, List.getElem?_cons_zero])
            go_wp2
            refine Txt.RunPost.mk ?_
            refine Txt.Ty.wpTr_alt ?_ (Txt.Ty.wpTr_alt ?_ Txt.Ty.wpTr_no)
            · (try simp only [Txt.pick, List.getElem?_cons_succ, List.getElem?_cons_zero])
              have k1 := run_str (P := Tryz.prog) (HIM12.out) 22 5 9 Tryz.underlying22 Tryz.underlying5 Tryz.underlying9
              go_wp2
              refine Txt.SegPost.mk (Txt.Ty.Shown.same HS12.out) ?_
              (try simp only [Txt.pick, List.getElem?_cons_succ, List.getElem?_cons_zero])
              go_wp2
              refine Txt.RunPost.mk ?_
              refine Txt.Ty.wpTr_alt ?_ Txt.Ty.wpTr_no
              (try simp only [Txt.pick, List.getElem?_cons_succ, List.getElem?_cons_zero])
              have k2 := run_str (P := Tryz.prog) (Raw.below HX1.out HU12.out.1) 22 5 9 Tryz.underlying22 Tryz.underlying5 Tryz.underlying9
              have e1 := str_eq (rfl : r.l = r.l)
              go_wp2
              refine Txt.SegPost.mk (Txt.Ty.Shown.same HS12.out) ?_
              (try simp only [Txt.pick, List.getElem?_cons_succ, List.getElem?_cons_zero])
              go_wp2
              refine Txt.RunPost.mk ?_
              clear k1 k2 e1
              refine Txt.Ty.wpTr_alt ?_ Txt.Ty.wpTr_no
              (try simp only [Txt.pick, List.getElem?_cons_succ, List.getElem?_cons_zero])
              go_wp2_with fail
              refine (ull_number HU12.out).mono ?_
              rintro e w' ⟨rfl, rfl⟩
              rw [HNM.out]
              go_wp2
              refine Txt.SegPost.mk (Txt.Ty.Shown.same HS12.out) ?_
              (try simp only [Txt.pick, List.getElem?_cons_succ, List.getElem?_cons_zero])
              go_wp2
              refine Txt.RunPost.mk ?_
              refine Txt.Ty.wpTr_alt ?_ Txt.Ty.wpTr_no
              (try simp only [Txt.pick, List.getElem?_cons_succ, List.getElem?_cons_zero])
              go_wp2_with fail
              refine (ull_version HU12.out).mono ?_
              rintro e w' ⟨rfl, rfl⟩
              have hver : (((⟨r.l, k + 1, false, [], 0⟩ : Ps).ver : Nat) : Int) = (k : Int) + 1 := by show ((k + 1 : Nat) : Int) = _; omega
              rw [hver]
              clear hver
              go_wp2
              refine Txt.SegPost.mk (Txt.Ty.Shown.same HS12.out) ?_
              (try simp only [Txt.pick, List.getElem?_cons_succ, List.getElem?_cons_zero])
              go_wp2
              refine Txt.RunPost.mk ?_
              refine Txt.Ty.wpTr_alt ?_ Txt.Ty.wpTr_no
              (try simp only [Txt.pick, List.getElem?_cons_succ, List.getElem?_cons_zero])
              go_wp2_with fail
              refine (ull_lost HU12.out).mono ?_
              rintro e w' ⟨rfl, rfl⟩
              obtain ⟨l1, l2, l3, l4⟩ := HLB.out
              have hlo := HLO.out
              have hbn := HBN.out
              go_wp2
              refine Txt.SegPost.mk (Txt.Ty.Shown.same HS12.out) ?_
              (try simp only [Txt.pick, List.getElem?_cons_succ, List.getElem?_cons_zero])
              go_wp2
              refine Txt.RunPost.mk ?_
              clear l1 l2 l3 l4 hlo hbn
              refine Txt.Ty.wpTr_alt ?_ Txt.Ty.wpTr_no
              (try simp only [Txt.pick, List.getElem?_cons_succ, List.getElem?_cons_zero])
              go_wp2_with fail
              refine (ull_down HU12.out).mono ?_
              rintro e w' ⟨rfl, rfl⟩
              rw [HDN.out]
              go_wp2
              refine Txt.SegPost.mk (Txt.Ty.Shown.same HS12.out) ?_
              (try simp only [Txt.pick, List.getElem?_cons_succ, List.getElem?_cons_zero])
              go_wp2
              refine Txt.RunPost.mk ?_
              refine Txt.Ty.wpTr_done (by rfl) ⟨.head _, trivial⟩ ?_
              go_wp2
              go_meet
              case rel => exact ⟨by rw [decide_eq_false (Int.not_lt.2 HLO.out)], x', HT'.out, HU12.out⟩
            · (try simp only [Txt.pick, List.getElem?_cons_succ, List.getElem?_cons_zero])
              have k3 := run_str (P := Tryz.prog) (Raw.below HX1.out HU12.out.1) 22 5 9 Tryz.underlying22 Tryz.underlying5 Tryz.underlying9
              go_wp2
              refine Txt.SegPost.mk (Txt.Ty.Shown.same HS12.out) ?_
              (try simp only [Txt.pick, List.getElem?_cons_succ, List.getElem?_cons_zero])
              go_wp2
              refine Txt.RunPost.mk ?_
              refine Txt.Ty.wpTr_alt ?_ Txt.Ty.wpTr_no
              (try simp only [Txt.pick, List.getElem?_cons_succ, List.getElem?_cons_zero])
              have k4 := run_str (P := Tryz.prog) (HIM12.out) 22 5 9 Tryz.underlying22 Tryz.underlying5 Tryz.underlying9
              have e1 := str_eq (rfl : r.l = r.l)
              go_wp2
              refine Txt.SegPost.mk (Txt.Ty.Shown.same HS12.out) ?_
              (try simp only [Txt.pick, List.getElem?_cons_succ, List.getElem?_cons_zero])
              go_wp2
              refine Txt.RunPost.mk ?_
              clear k3 k4 e1
              refine Txt.Ty.wpTr_alt ?_ Txt.Ty.wpTr_no
              (try simp only [Txt.pick, List.getElem?_cons_succ, List.getElem?_cons_zero])
              go_wp2_with fail
              refine (ull_number HU12.out).mono ?_
              rintro e w' ⟨rfl, rfl⟩
              rw [HNM.out]
              go_wp2
              refine Txt.SegPost.mk (Txt.Ty.Shown.same HS12.out) ?_
              (try simp only [Txt.pick, List.getElem?_cons_succ, List.getElem?_cons_zero])
              go_wp2
              refine Txt.RunPost.mk ?_
              refine Txt.Ty.wpTr_alt ?_ Txt.Ty.wpTr_no
              (try simp only [Txt.pick, List.getElem?_cons_succ, List.getElem?_cons_zero])
              go_wp2_with fail
              refine (ull_version HU12.out).mono ?_
              rintro e w' ⟨rfl, rfl⟩
              have hver : (((⟨r.l, k + 1, false, [], 0⟩ : Ps).ver : Nat) : Int) = (k : Int) + 1 := by show ((k + 1 : Nat) : Int) = _; omega
              rw [hver]
              clear hver
              go_wp2
              refine Txt.SegPost.mk (Txt.Ty.Shown.same HS12.out) ?_
              (try simp only [Txt.pick, List.getElem?_cons_succ, List.getElem?_cons_zero])
              go_wp2
              refine Txt.RunPost.mk ?_
              refine Txt.Ty.wpTr_alt ?_ Txt.Ty.wpTr_no
              (try simp only [Txt.pick, List.getElem?_cons_succ, List.getElem?_cons_zero])
              go_wp2_with fail
              refine (ull_lost HU12.out).mono ?_
              rintro e w' ⟨rfl, rfl⟩
              obtain ⟨l1, l2, l3, l4⟩ := HLB.out
              have hlo := HLO.out
              have hbn := HBN.out
              go_wp2
              refine Txt.SegPost.mk (Txt.Ty.Shown.same HS12.out) ?_
              (try simp only [Txt.pick, List.getElem?_cons_succ, List.getElem?_cons_zero])
              go_wp2
              refine Txt.RunPost.mk ?_
              clear l1 l2 l3 l4 hlo hbn
              refine Txt.Ty.wpTr_alt ?_ Txt.Ty.wpTr_no
              (try simp only [Txt.pick, List.getElem?_cons_succ, List.getElem?_cons_zero])
              go_wp2_with fail
              refine (ull_down HU12.out).mono ?_
              rintro e w' ⟨rfl, rfl⟩
              rw [HDN.out]
              go_wp2
              refine Txt.SegPost.mk (Txt.Ty.Shown.same HS12.out) ?_
              (try simp only [Txt.pick, List.getElem?_cons_succ, List.getElem?_cons_zero])
              go_wp2
              refine Txt.RunPost.mk ?_
              refine Txt.Ty.wpTr_done (by rfl) ⟨.head _, trivial⟩ ?_
              go_wp2
              go_meet
              case rel => exact ⟨by rw [decide_eq_false (Int.not_lt.2 HLO.out)], x', HT'.out, HU12.out⟩
          · (try simp only [Txt.pick, List.getElem?_cons_succ, List.getElem?_cons_zero])
            have k5 := run_str (P := Tryz.prog) (Raw.below HX1.out HU11.out.1) 22 5 9 Tryz.underlying22 Tryz.underlying5 Tryz.underlying9
            go_wp2
            refine Txt.SegPost.mk (Txt.Ty.Shown.same HS11.out) ?_
            (try simp only [Txt.pick, List.getElem?_cons_succ, List.getElem?_cons_zero])
            go_wp2
            refine Txt.RunPost.mk ?_
            refine Txt.Ty.wpTr_alt ?_ Txt.Ty.wpTr_no
            (try simp only [Txt.pick, List.getElem?_cons_succ, List.getElem?_cons_zero])
            go_wp2_with fail
            refine (ull_image HU11.out).mono ?_
            rintro e w12 ⟨pa, pc, rfl, hb12, hI12⟩
            clear k5
            have HBk12 := Lib.hid ((hb12.block b (Array.getElem?_eq_some_iff.1 HBk11.out).1).trans HBk11.out)
            have HU12 := Lib.hid (ULL.below HU11.out hb12)
            clear HBk11 HU11
            have bel12 := bel11.trans (hb12.mono bel11.size)
            have HS12 := Lib.hid (same_below' HS11.out hb12)
            have HIM12 : Hid (Bytes [] w12 (.slice pa r.l.length pc) r.l) := Lib.hid (hI12.bytes (by simp))
            clear hb12 hI12
            go_wp2
            refine Txt.SegPost.mk (Txt.Ty.Shown.same HS12.out) ?_
            (try simp only [Txt.pick, List.getElem?_cons_succ, List.getElem?_cons_zero])
            go_wp2
            refine Txt.RunPost.mk ?_
            refine Txt.Ty.wpTr_alt ?_ Txt.Ty.wpTr_no
            (try simp only [Txt.pick, List.getElem?_cons_succ, List.getElem?_cons_zero])
            have k6 := run_str (P := Tryz.prog) (HIM12.out) 22 5 9 Tryz.underlying22 Tryz.underlying5 Tryz.underlying9
            have e1 := str_eq (rfl : r.l = r.l)
            go_wp2
            refine Txt.SegPost.mk (Txt.Ty.Shown.same HS12.out) ?_
            (try simp only [Txt.pick, List.getElem?_cons_succ, List.getElem?_cons_zero])
            go_wp2
            refine Txt.RunPost.mk ?_
            clear k6 e1
            refine Txt.Ty.wpTr_alt ?_ Txt.Ty.wpTr_no
            (try simp only [Txt.pick, List.getElem?_cons_succ, List.getElem?_cons_zero])
            go_wp2_with fail
            refine (ull_number HU12.out).mono ?_
            rintro e w' ⟨rfl, rfl⟩
            rw [HNM.out]
            go_wp2
            refine Txt.SegPost.mk (Txt.Ty.Shown.same HS12.out) ?_
            (try simp only [Txt.pick, List.getElem?_cons_succ, List.getElem?_cons_zero])
            go_wp2
            refine Txt.RunPost.mk ?_
            refine Txt.Ty.wpTr_alt ?_ Txt.Ty.wpTr_no
            (try simp only [Txt.pick, List.getElem?_cons_succ, List.getElem?_cons_zero])
            go_wp2_with fail
            refine (ull_version HU12.out).mono ?_
            rintro e w' ⟨rfl, rfl⟩
            have hver : (((⟨r.l, k + 1, false, [], 0⟩ : Ps).ver : Nat) : Int) = (k : Int) + 1 := by show ((k + 1 : Nat) : Int) = _; omega
            rw [hver]
            clear hver
            go_wp2
            refine Txt.SegPost.mk (Txt.Ty.Shown.same HS12.out) ?_
            (try simp only [Txt.pick, List.getElem?_cons_succ, List.getElem?_cons_zero])
            go_wp2
            refine Txt.RunPost.mk ?_
            refine Txt.Ty.wpTr_alt ?_ Txt.Ty.wpTr_no
            (try simp only [Txt.pick, List.getElem?_cons_succ, List.getElem?_cons_zero])
            go_wp2_with fail
            refine (ull_lost HU12.out).mono ?_
            rintro e w' ⟨rfl, rfl⟩
            obtain ⟨l1, l2, l3, l4⟩ := HLB.out
            have hlo := HLO.out
            have hbn := HBN.out
            go_wp2
            refine Txt.SegPost.mk (Txt.Ty.Shown.same HS12.out) ?_
            (try simp only [Txt.pick, List.getElem?_cons_succ, List.getElem?_cons_zero])
            go_wp2
            refine Txt.RunPost.mk ?_
            clear l1 l2 l3 l4 hlo hbn
            refine Txt.Ty.wpTr_alt ?_ Txt.Ty.wpTr_no
            (try simp only [Txt.pick, List.getElem?_cons_succ, List.getElem?_cons_zero])
            go_wp2_with fail
            refine (ull_down HU12.out).mono ?_
            rintro e w' ⟨rfl, rfl⟩
            rw [HDN.out]
            go_wp2
            refine Txt.SegPost.mk (Txt.Ty.Shown.same HS12.out) ?_
            (try simp only [Txt.pick, List.getElem?_cons_succ, List.getElem?_cons_zero])
            go_wp2
            refine Txt.RunPost.mk ?_
            refine Txt.Ty.wpTr_done (by rfl) ⟨.head _, trivial⟩ ?_
            go_wp2
            go_meet
            case rel => exact ⟨by rw [decide_eq_false (Int.not_lt.2 HLO.out)], x', HT'.out, HU12.out⟩
        case rest =>
        obtain ⟨rfl, x', hT', hU'⟩ := hcut
        obtain ⟨w20, hw20⟩ : ∃ W, W = wc := ⟨_, rfl⟩
        rw [← hw20] at hU' ⊢
        clear hw20 wc
        clear HBk9 HXf9 HU9
        have bel20 := Below.refl w20.heap.size w20
        have HTn := Lib.hid hT'
        clear hT'
        have HU20 := Lib.hid (hU')
        clear hU'
        go_wp2_with fail
        refine (message_any _ _).mono ?_
        rintro e w21 ⟨rfl, hb21⟩
        have HU21 := Lib.hid (ULL.below HU20.out hb21)
        clear HU20
        have bel21 := bel20.trans (hb21.mono bel20.size)
        clear hb21
        have hag : Lg.seeL x'.led 16 ((k : Int) + 1) = (ledK (k + 1), 2, 0) := by
          have h := ledK_again (k + 1) (by omega)
          rw [show ((k + 1 : Nat) : Int) = (k : Int) + 1 from by omega] at h
          rw [HTn.out.2.2.2.1]; exact h
        go_wp2_with fail
        refine (ull_see HU21.out _ _ _ _ _ _ _ _ _ (by rw [HTn.out.2.2.2.1]; exact Nat.le_trans (ledK_len _) (by omega)) (by omega) (by omega)).mono ?_
        rintro e w22 ⟨rfl, hb22, hU22⟩
        rw [hag]
        have HUe := Lib.hid hU22
        clear hag hb22 hU22
        go_wp2
        go_roundw
        case rel => exact ⟨k + 1, by omega, by go_num, x', r.l, HTn.out, hr1, HUe.out⟩
        case measure => simp [intOf]; omega
end Go.Proofs.YtplhmoapcicncaaGreat
