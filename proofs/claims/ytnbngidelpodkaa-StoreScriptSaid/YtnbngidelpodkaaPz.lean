/- Store: the law Script -/
import Derived.Test.YtnbngidelpodkaaPy
namespace Go.Proofs.Ytnbngidelpodkaa
open Go.RowKit Go.Bs Go.Cl Go.Rw Go.Un Go.Im
theorem fewB_at {b : List UInt8} {ls : List ((Int × List UInt8) × Value)} (h : fewB b (ls.map (·.1)) = true) : b.length ≤ 700 ∧ ls.length ≤ 40 ∧ ∀ p ∈ ls, p.1.2.length ≤ 700 := by
  simp only [fewB, Bool.and_eq_true, decide_eq_true_eq, List.all_eq_true, List.length_map] at h
  exact ⟨h.2.1, h.2.2, fun p hp => h.1 p.1 (List.mem_map.2 ⟨p, hp, rfl⟩)⟩
theorem sc_init {w0 w : World} {g c R Q : Nat} {s : Ps} {v zv : Value} {base h : Nat} {iv rv : Value} (h1 : Below w0.heap.size w0 w) (hn : w0.heap.size ≤ base) (hR : w0.heap.size ≤ R) (hQ : w0.heap.size ≤ Q) (hne : R ≠ Q) (H : StAt w base g h iv rv s) (hv : StV (g :: LogF h iv rv) w c s)
    (hRB : RBox w R v) (hQB : RBox w Q zv) (hrv : RV (g :: LogF h iv rv) w v (rfOf s)) {X : World} (hX : X.heap[Q]? = some (.cells (rfCells v) 47 (0, 0))) (hk : Keep [Q] w X) : Sc w0 g s c s R v (rfOf s) Q v X := by
  obtain ⟨imv, nxv, chv, rz, rs, hb⟩ := H
  exact ⟨h1.trans (hk.below h1.size (fun f hf => by rw [List.mem_singleton.1 hf]; exact hQ)), hR, hQ, hne, hRB.keep hk (by simpa using hne), ⟨hRB.1, hX⟩, base, h, iv, rv, hn, ⟨_, _, _, _, _, hb.beside hQB hk⟩, hv.beside hQB hk, hrv.beside hQB hk, hrv.beside hQB hk⟩
def zv : Value := .agg #[.slice none 0 0, .slice none 0 0, .slice none 0 0, .int .i64 0, .bool false, .bool false, .slice none 0 0]
theorem zbox (w : World) : RBox (w.alloc (.cells #[.slice none 0 0, .slice none 0 0, .slice none 0 0, .int .i64 0, .bool false, .bool false, .slice none 0 0] 47)) w.heap.size zv := ⟨⟨_, _, _, _, _, _, _, rfl, ⟨_, _, _, rfl⟩, ⟨_, _, _, rfl⟩, ⟨_, _, _, rfl⟩, ⟨_, _, _, rfl⟩⟩, heap_alloc_new w _⟩
set_option maxRecDepth 100000 in
set_option maxHeartbeats 8000000 in
theorem stscript_law (bv lv : Value) (b : List UInt8) (ls : List ((Int × List UInt8) × Value)) (st : Nat) (hst : st ≤ 255) (w : World) (hB : Bytes [] w bv b) (hL : CallL [] w lv ls) :
    Calls Try.prog 7 #[bv, lv, .int .u8 (st : Int)] w fun e w' => e = .returned (.bool true) ∧ Below w.heap.size w w' := by
  obtain ⟨ba, bc, rfl⟩ := Raw.slice hB
  obtain ⟨la, lc, rfl⟩ := Raw.slice hL.1
  have HB0 := Lib.hid hB; have HL0 := Lib.hid hL
  clear hB hL
  cases hfew : fewB b (ls.map (·.1))
  · have Hfew := Lib.hid hfew; clear hfew
    go_enter Try.func7, Try.ntmps7
    go_wp2_with fail
    refine (awake_any _).mono ?_
    rintro e w1 ⟨rfl, hb1⟩
    go_wp2_with fail
    refine (few_any ba bc _ b ls _ (HL0.out.below hb1)).mono ?_
    rw [Hfew.out]
    rintro e w' ⟨rfl, rfl⟩
    go_wp2
    go_ret
    exact ⟨rfl, hb1⟩
  obtain ⟨hbl, hll, hgood⟩ := fewB_at hfew
  have Hgood := Lib.hid hgood; have Hfew := Lib.hid hfew
  clear hgood hfew
  obtain ⟨n, hn⟩ : ∃ n, n = ls.length := ⟨_, rfl⟩
  have hn40 : n ≤ 40 := by omega
  have hni : (n : Int) ≤ 40 := by omega
  have HN := Lib.hid hn
  have HFew : Hid (∀ w', CallL [] w' (.slice la n lc) ls → Calls Try.prog 23 #[.slice ba b.length bc, .slice la n lc] w' fun e w'' => e = .returned (.bool true) ∧ w' = w'') := Lib.hid (fun w' h => by
    have := few_any ba bc _ b ls w' h
    rw [Hfew.out] at this; exact this)
  rw [← hn]
  rw [← hn] at HL0
  clear hn hll
  go_enter Try.func7, Try.ntmps7
  go_wp2_with fail
  refine (awake_any _).mono ?_
  rintro e w1 ⟨rfl, hb1⟩
  have HB1 := Lib.hid hb1
  have HB := Lib.hid (Raw.below HB0.out hb1); have HL := Lib.hid (HL0.out.below hb1)
  clear hb1
  go_wp2_with fail
  refine (HFew.out _ HL.out).mono ?_
  rintro e w' ⟨rfl, rfl⟩
  go_wp2_with fail
  refine (liv_new (w0 := w1) _ b _ (by omega) (Below.refl _ _) HB.out).mono ?_
  rintro e w2 ⟨g, rfl, hL2⟩
  have HL2 := Lib.hid hL2
  obtain ⟨hb2, base, h, iv0, rv0, hbase, hst2⟩ := hL2
  obtain ⟨imv, nxv, chv, rz0, rs0, hsb⟩ := hst2
  have HSB := Lib.hid hsb
  have HBb := Lib.hid hb2; have Hbase := Lib.hid hbase
  clear hb2 hbase hsb
  go_wp2_with fail
  refine (rnew_any (F := g :: LogF h iv0 rv0) _ b _ (by omega) (fun f hf => (HSB.out.fbase f hf).2) (Raw.keep (F' := g :: LogF h iv0 rv0) HB.out (Keep.of_below' (F := []) HBb.out) (by simp) (fun f hf => .inr (Nat.le_trans Hbase.out (HSB.out.fbase f hf).1)))).mono ?_
  rintro e w3 ⟨v, rfl, hrv, hb3⟩
  obtain ⟨iv, wv, nv, ver, o, z, tv, rfl, e1, e2, e3, e4⟩ := hrv.box
  have al := (Below.refl w3.heap.size w3).alloc (Nat.le_refl _) (.cells #[iv, wv, nv, .int .i64 ver, .bool o, .bool z, tv] 47)
  obtain ⟨u, hu⟩ : ∃ u, u = w3.alloc (.cells #[iv, wv, nv, .int .i64 ver, .bool o, .bool z, tv] 47) := ⟨_, rfl⟩
  obtain ⟨R, hR⟩ : ∃ R, R = w3.heap.size := ⟨_, rfl⟩
  have HUE := Lib.hid hu; have HRE := Lib.hid hR
  have HRB : Hid (RBox u R (.agg #[iv, wv, nv, .int .i64 ver, .bool o, .bool z, tv])) := Lib.hid ⟨⟨_, _, _, _, _, _, _, rfl, e1, e2, e3, e4⟩, by rw [hu, hR]; exact heap_alloc_new w3 _⟩
  rw [← hu] at al
  have HU : Hid (Below w2.heap.size w2 u) := Lib.hid (hb3.trans (al.mono hb3.size))
  have HRV : Hid (RV (g :: LogF h iv0 rv0) u (.agg #[iv, wv, nv, .int .i64 ver, .bool o, .bool z, tv]) (rfOf ⟨b, 0, false, [], 0⟩)) := Lib.hid (hrv.below al)
  have HRw : Hid (w2.heap.size ≤ R) := Lib.hid (by rw [hR]; exact hb3.size)
  have HSu := Lib.hid (HSB.out.below HU.out)
  obtain ⟨ia, inn, ic, rfl⟩ := e1
  obtain ⟨wa, wn, wc, rfl⟩ := e2
  obtain ⟨na, nn, nc, rfl⟩ := e3
  obtain ⟨ta, tn, tc, rfl⟩ := e4
  clear hrv hb3 al hu hR
  go_upto_region 9 with (fail)
  rw [← HUE.out, ← HRE.out]
  go_cut [11, 12] from 36 to 38 (fun x y wx => ∃ c Q, x = .pointer (some ⟨c, 0, none⟩) ∧ y = .pointer (some ⟨Q, 0, none⟩) ∧ Sc w1 g ⟨b, 0, false, [], 0⟩ c ⟨b, 0, false, [], 0⟩ R (.agg #[.slice ia inn ic, .slice wa wn wc, .slice na nn nc, .int .i64 ver, .bool o, .bool z, .slice ta tn tc]) (rfOf ⟨b, 0, false, [], 0⟩) Q (.agg #[.slice ia inn ic, .slice wa wn wc, .slice na nn nc, .int .i64 ver, .bool o, .bool z, .slice ta tn tc]) wx)
  case first =>
    have hRc : u.heap[R]? = some (.cells #[.slice ia inn ic, .slice wa wn wc, .slice na nn nc, .int .i64 ver, .bool o, .bool z, .slice ta tn tc] 47 (0, 0)) := HRB.out.2
    have hBl : ∀ x ∈ [R], ∃ c e f, u.heap[x]? = some (.cells c e f) := fun x hx => by rw [List.mem_singleton.1 hx]; exact ⟨_, _, _, hRc⟩
    have HS0 := Lib.hid (same_start hBl)
    have r0 := box_at hRc (j := 0) rfl
    have r1 := box_at hRc (j := 1) rfl
    have r2 := box_at hRc (j := 2) rfl
    have r3 := box_at hRc (j := 3) rfl
    have r4 := box_at hRc (j := 4) rfl
    have r5 := box_at hRc (j := 5) rfl
    have r6 := box_at hRc (j := 6) rfl
    clear hRc
    refine Txt.Ty.wp_tree [R] [2] [5] [2] [0, 2] (.alt [1] (.alt [3, 4] (.alt [5] (.done) (.no)) (.no)) (.alt [3] (.alt [1, 4] (.alt [5] (.done) (.no)) (.no)) (.no))) (by kernel_rfl) (by kernel_rfl) (by kernel_rfl) (by kernel_rfl) hBl ?_
    clear hBl
    (try simp only [Txt.pick, List.getElem?_cons_succ, List.getElem?_cons_zero])
    go_wp2
    refine Txt.RunPost.mk ?_
    refine Txt.Ty.wpTr_alt ?_ ?_
    · (try simp only [Txt.pick, List.getElem?_cons_succ, List.getElem?_cons_zero])
      go_wp2_with fail
      refine (clone_any _ (StAt.below ⟨_, _, _, _, _, HSu.out⟩ (Below.refl _ u).drew)).mono ?_
      rintro e w5 ⟨c, rfl, hb5, base', h', iv', rv', hbase', hc5⟩
      have HB5 : Hid (Below u.heap.size u w5) := Lib.hid ((Below.refl u.heap.size u).drew.trans hb5)
      have HC5 := Lib.hid hc5
      have Hb5 : Hid (u.heap.size ≤ base') := Lib.hid hbase'
      have HS5 := Lib.hid (show Txt.SameB [R] u w5 from same_below' (w0 := u) (w1 := u) HS0.out HB5.out)
      clear hb5 hc5 hbase'
      go_wp2
      refine Txt.SegPost.mk (Txt.Ty.Shown.same HS5.out) ?_
      (try simp only [Txt.pick, List.getElem?_cons_succ, List.getElem?_cons_zero])
      go_wp2
      refine Txt.RunPost.mk ?_
      refine Txt.Ty.wpTr_alt ?_ Txt.Ty.wpTr_no
      (try simp only [Txt.pick, List.getElem?_cons_succ, List.getElem?_cons_zero])
      have al5 := (Below.refl w5.heap.size w5).alloc (Nat.le_refl _) (.cells #[.slice none 0 0, .slice none 0 0, .slice none 0 0, .int .i64 0, .bool false, .bool false, .slice none 0 0] 47)
      have HA5 := Lib.hid al5
      have HSA := Lib.hid (show Txt.SameB [R] u (w5.alloc (.cells #[.slice none 0 0, .slice none 0 0, .slice none 0 0, .int .i64 0, .bool false, .bool false, .slice none 0 0] 47)) from same_below' (w0 := u) (w1 := w5) HS5.out al5)
      clear al5
      go_wp2
      refine Txt.SegPost.mk (Txt.Ty.Shown.same HSA.out) ?_
      (try simp only [Txt.pick, List.getElem?_cons_succ, List.getElem?_cons_zero])
      go_wp2
      refine Txt.RunPost.mk ?_
      refine Txt.Ty.wpTr_alt ?_ Txt.Ty.wpTr_no
      (try simp only [Txt.pick, List.getElem?_cons_succ, List.getElem?_cons_zero])
      go_wp2
      refine Txt.SegPost.mk (Txt.Ty.Shown.last rfl) ?_
      (try simp only [Txt.pick, List.getElem?_cons_succ, List.getElem?_cons_zero])
      refine Txt.RunPost.mk ?_
      refine Txt.Ty.wpTr_done (by rfl) ⟨.head _, trivial⟩ ?_
      go_wp2
      go_meet
      case rel =>
        have alv := (Below.refl w5.heap.size w5).alloc (Nat.le_refl _) (.cells #[.slice ia inn ic, .slice wa wn wc, .slice na nn nc, .int .i64 ver, .bool o, .bool z, .slice ta tn tc] 47)
        have s1 := HBb.out.size; have s2 := HU.out.size; have s5 := HB5.out.size; have sR := HRB.out.lt; have sRw := HRw.out
        have hvw : StV (g :: LogF h iv0 rv0) w5 c ⟨b, 0, false, [], 0⟩ := HC5.out.view (fun f hf => by have := (HSu.out.fbase f hf).2; have := Hb5.out; omega)
        have hQB : RBox (w5.alloc (.cells #[.slice ia inn ic, .slice wa wn wc, .slice na nn nc, .int .i64 ver, .bool o, .bool z, .slice ta tn tc] 47)) w5.heap.size (.agg #[.slice ia inn ic, .slice wa wn wc, .slice na nn nc, .int .i64 ver, .bool o, .bool z, .slice ta tn tc]) := ⟨⟨_, _, _, _, _, _, _, rfl, ⟨_, _, _, rfl⟩, ⟨_, _, _, rfl⟩, ⟨_, _, _, rfl⟩, ⟨_, _, _, rfl⟩⟩, heap_alloc_new w5 _⟩
        exact ⟨c, w5.heap.size, rfl, rfl, sc_init (((HBb.out.trans (HU.out.mono s1)).trans (HB5.out.mono (by omega))).trans (alv.mono (by omega))) Hbase.out (by omega) (by omega) (by omega) (StAt.below ⟨_, _, _, _, _, HSu.out.below HB5.out⟩ alv) (hvw.below alv) ((HRB.out.below HB5.out).below alv) hQB ((HRV.out.below HB5.out).below alv) hQB.2 (Keep.refl _ _)⟩
    · refine Txt.Ty.wpTr_alt ?_ Txt.Ty.wpTr_no
      (try simp only [Txt.pick, List.getElem?_cons_succ, List.getElem?_cons_zero])
      have al5 := (Below.refl u.heap.size u).alloc (Nat.le_refl _) (.cells #[.slice none 0 0, .slice none 0 0, .slice none 0 0, .int .i64 0, .bool false, .bool false, .slice none 0 0] 47)
      have HA5 := Lib.hid al5
      have HSA := Lib.hid (show Txt.SameB [R] u (u.alloc (.cells #[.slice none 0 0, .slice none 0 0, .slice none 0 0, .int .i64 0, .bool false, .bool false, .slice none 0 0] 47)) from same_below' (w0 := u) (w1 := u) HS0.out al5)
      clear al5
      go_wp2
      refine Txt.SegPost.mk (Txt.Ty.Shown.same HSA.out) ?_
      (try simp only [Txt.pick, List.getElem?_cons_succ, List.getElem?_cons_zero])
      go_wp2
      refine Txt.RunPost.mk ?_
      refine Txt.Ty.wpTr_alt ?_ Txt.Ty.wpTr_no
      (try simp only [Txt.pick, List.getElem?_cons_succ, List.getElem?_cons_zero])
      go_wp2_with fail
      obtain ⟨y, hy⟩ : ∃ y, y = (u.alloc (.cells #[.slice none 0 0, .slice none 0 0, .slice none 0 0, .int .i64 0, .bool false, .bool false, .slice none 0 0] 47)).drew := ⟨_, rfl⟩
      have HY : Hid (Below u.heap.size u y) := Lib.hid (by rw [hy]; exact HA5.out.drew)
      have HYQ : Hid (RBox y u.heap.size zv) := Lib.hid (by rw [hy]; exact (zbox u).below (Below.refl _ _).drew)
      have hys : u.heap.size < y.heap.size := HYQ.out.lt
      rw [← hy]
      clear hy
      refine (clone_any _ (StAt.below ⟨_, _, _, _, _, HSu.out⟩ HY.out)).mono ?_
      rintro e w5 ⟨c, rfl, hb5, base', h', iv', rv', hbase', hc5⟩
      have HB5 : Hid (Below y.heap.size y w5) := Lib.hid hb5
      have HBu : Hid (Below u.heap.size u w5) := Lib.hid (HY.out.trans (hb5.mono HY.out.size))
      have HC5 := Lib.hid hc5
      have Hb5 : Hid (y.heap.size ≤ base') := Lib.hid hbase'
      have HS5 := Lib.hid (show Txt.SameB [R] u w5 from same_below' (w0 := u) (w1 := u) HS0.out HBu.out)
      obtain ⟨Q, hQ⟩ : ∃ Q, Q = u.heap.size := ⟨_, rfl⟩
      rw [← hQ] at HYQ ⊢
      have HQ5 := Lib.hid (HYQ.out.below HB5.out)
      have hQc : w5.heap[Q]? = some (.cells #[.slice none 0 0, .slice none 0 0, .slice none 0 0, .int .i64 0, .bool false, .bool false, .slice none 0 0] 47 (0, 0)) := HQ5.out.2
      have q0 := box_at hQc (j := 0) rfl
      have q1 := box_at hQc (j := 1) rfl
      have q2 := box_at hQc (j := 2) rfl
      have q3 := box_at hQc (j := 3) rfl
      have q4 := box_at hQc (j := 4) rfl
      have q5 := box_at hQc (j := 5) rfl
      have q6 := box_at hQc (j := 6) rfl
      have qf0 := box_free hQc 0
      have qf1 := box_free hQc 1
      have qf2 := box_free hQc 2
      have qf3 := box_free hQc 3
      have qf4 := box_free hQc 4
      have qf5 := box_free hQc 5
      have qf6 := box_free hQc 6
      clear hQc
      have HQE := Lib.hid hQ
      clear hb5 hc5 hbase' hQ
      go_wp2
      refine Txt.SegPost.mk (Txt.Ty.Shown.same HS5.out) ?_
      (try simp only [Txt.pick, List.getElem?_cons_succ, List.getElem?_cons_zero])
      go_wp2
      refine Txt.RunPost.mk ?_
      refine Txt.Ty.wpTr_alt ?_ Txt.Ty.wpTr_no
      (try simp only [Txt.pick, List.getElem?_cons_succ, List.getElem?_cons_zero])
      go_wp2
      refine Txt.SegPost.mk (Txt.Ty.Shown.last rfl) ?_
      (try simp only [Txt.pick, List.getElem?_cons_succ, List.getElem?_cons_zero])
      refine Txt.RunPost.mk ?_
      refine Txt.Ty.wpTr_done (by rfl) ⟨.head _, trivial⟩ ?_
      go_wp2
      go_meet
      case rel =>
        have s1 := HBb.out.size; have s2 := HU.out.size; have s5 := HBu.out.size; have sR := HRB.out.lt; have sRw := HRw.out; have sQ := HQE.out
        have hvw : StV (g :: LogF h iv0 rv0) w5 c ⟨b, 0, false, [], 0⟩ := HC5.out.view (fun f hf => by have := (HSu.out.fbase f hf).2; have := Hb5.out; omega)
        obtain ⟨hX, hkX⟩ := puts_at [(0, .slice ia inn ic), (1, .slice wa wn wc), (2, .slice na nn nc), (3, .int .i64 ver), (4, .bool o), (5, .bool z), (6, .slice ta tn tc)] HQ5.out.2
        exact ⟨c, Q, rfl, rfl, sc_init ((HBb.out.trans (HU.out.mono s1)).trans (HBu.out.mono (by omega))) Hbase.out (by omega) (by omega) (by omega) (StAt.below ⟨_, _, _, _, _, HSu.out⟩ HBu.out) hvw (HRB.out.below HBu.out) HQ5.out (HRV.out.below HBu.out) hX hkX⟩
  case rest =>
    obtain ⟨c0, Q, rfl, rfl, hsc⟩ := hcut
    have HSc := Lib.hid hsc
    clear hsc
    go_wp2
    go_loopw [13, 11] (fun i cp wr => ∃ (j c : Nat) (s k : Ps) (v kv : Value), j ≤ n ∧ i = .int .i64 (j : Int) ∧ cp = .pointer (some ⟨c, 0, none⟩) ∧ s.ver ≤ j ∧ Sc w1 g s c k R v (rfOf s) Q kv wr) (fun i _ _ => n - (intOf i).toNat)
    case atStart => exact ⟨0, c0, _, _, _, _, by omega, rfl, rfl, Nat.le_refl _, HSc.out⟩
    case round =>
      obtain ⟨j, c, s, k, v, kv, hjn, rfl, rfl, hver, hS⟩ := hrel
      obtain ⟨⟨iv, wv, nv, ver, o, z, tv, rfl, ⟨a1, n1, c1, rfl⟩, ⟨a2, n2, c2, rfl⟩, ⟨a3, n3, c3, rfl⟩, ⟨a4, n4, c4, rfl⟩⟩, _⟩ := hS.rbox
      obtain ⟨⟨iv, wv, nv, ver1, o1, z1, tv, rfl, ⟨a11, n11, c11, rfl⟩, ⟨a21, n21, c21, rfl⟩, ⟨a31, n31, c31, rfl⟩, ⟨a41, n41, c41, rfl⟩⟩, _⟩ := hS.qbox
      have HS0 := Lib.hid hS
      clear hS HSc
      by_cases hlt : j < n
      · have hji : (j : Int) < n := by omega
        obtain ⟨lb, lo, op, x, xa, xc, hlae, hlblt, hcop, hcx, hBx, hgx⟩ := HL.out.at (k := j) (by rw [← HN.out]; exact hlt)
        subst hlae
        have hx7 : x.length ≤ 700 := Hgood.out _ (List.mem_of_getElem? hgx)
        have HX := Lib.hid hBx; have HCX := Lib.hid hcx; have HLT := Lib.hid hlblt; have HCO := Lib.hid hcop
        have hco' : wr.cell? ⟨lb, lo + j * 2, none⟩ = some (.int .i64 op) := (HS0.out.1.cell (p := ⟨lb, lo + j * 2, none⟩) hlblt).trans hcop
        have hcx0 : wr.cell? ⟨lb, lo + j * 2 + 1, none⟩ = some (.slice xa x.length xc) := (HS0.out.1.cell (p := ⟨lb, lo + j * 2 + 1, none⟩) hlblt).trans hcx
        clear hcop hcx hBx hgx hlblt
        have hj40 : j ≤ 40 := by omega
        by_cases h0 : op = 0
        · subst h0
          have hP : ∃ N E s', psBegin s x = (s', N, E) := ⟨_, _, _, rfl⟩
          obtain ⟨N, E, s', hP⟩ := hP
          have hRf : Hid (rfBegin (rfOf s) x = (rfOf s', N, E)) := Lib.hid (by rw [rf_begin HS0.out.good, hP])
          have hver' : s'.ver ≤ s.ver + 1 := by
            have : s' = (psBegin s x).1 := by rw [hP]
            rw [this]; unfold psBegin; split <;> simp
          have hN7 : N ≤ 1000 := by
            have h1 := rfOf_good HS0.out.good
            have : N = (psBegin s x).2.1 := by rw [hP]
            rw [this]; unfold psBegin; split
            · simp
            · exact tot_le1000 (by omega)
          have HPB := Lib.hid hP
          clear hP
          go_wp2_with fail
          refine (sc_begin _ x HS0.out (by omega) HX.out).mono ?_
          rw [HPB.out]
          rintro e w4 ⟨rfl, hS4⟩
          have HS4 := Lib.hid hS4
          have HG0 := Lib.hid HS0.out.good
          clear hS4
          have hcx' : w4.cell? ⟨lb, lo + j * 2 + 1, none⟩ = some (.slice xa x.length xc) := (HS4.out.1.cell (p := ⟨lb, lo + j * 2 + 1, none⟩) HLT.out).trans HCX.out
          have hr : w4.heap[R]? = some (.cells #[.slice a1 n1 c1, .slice a2 n2 c2, .slice a3 n3 c3, .int .i64 ver, .bool o, .bool z, .slice a4 n4 c4] 47 (0, 0)) := HS4.out.rbox.2
          have r0 := box_at hr (j := 0) rfl
          have rf0 := box_free hr 0
          have r1 := box_at hr (j := 1) rfl
          have rf1 := box_free hr 1
          have r2 := box_at hr (j := 2) rfl
          have rf2 := box_free hr 2
          have r3 := box_at hr (j := 3) rfl
          have rf3 := box_free hr 3
          have r4 := box_at hr (j := 4) rfl
          have rf4 := box_free hr 4
          have r5 := box_at hr (j := 5) rfl
          have rf5 := box_free hr 5
          have r6 := box_at hr (j := 6) rfl
          have rf6 := box_free hr 6
          clear hr
          go_upto_region 19 with (fail)
          refine Txt.Ty.wp_tree [] [] [] [0, 5] [0, 1, 2, 3, 4, 5] (.alt [6, 7, 8, 9, 10] (.alt [11, 12, 13] (.done) (.no)) (.no)) (by kernel_rfl) (by kernel_rfl) (by kernel_rfl) (by kernel_rfl) (fun _ h => by cases h) ?_
          (try simp only [Txt.pick, List.getElem?_cons_succ, List.getElem?_cons_zero])
          go_wp2
          refine Txt.RunPost.mk ?_
          refine Txt.Ty.wpTr_alt ?_ Txt.Ty.wpTr_no
          (try simp only [Txt.pick, List.getElem?_cons_succ, List.getElem?_cons_zero])
          go_wp2_with fail
          refine (sc_ref (m' := rfOf s') (T := fun v' => .tuple #[v', .int .i64 (N : Int), .int .i64 E]) HS4.out.drew (fun F hF hF0 hv => ?hop)).mono ?_
          case hop =>
            have hB' : Bytes F w4.drew (.slice xa x.length xc) x := Raw.keep (F' := F) HX.out (Keep.of_below' (F := []) HS4.out.drew.1) (by simp) (fun f hf => .inr (hF0 f hf))
            have h := rbegin_any _ _ (rfOf s) x w4.drew (rfOf_good HG0.out) (by omega) hF hv hB'
            rw [hRf.out] at h
            exact h
          rintro e w5 ⟨a12, n12, c12, a22, n22, c22, a32, n32, c32, ver2, o2, z2, a42, n42, c42, rfl, hRB5, hX5⟩
          have HX5 := Lib.hid hX5; have HR5 := Lib.hid hRB5
          clear r0 rf0 r1 rf1 r2 rf2 r3 rf3 r4 rf4 r5 rf5 r6 rf6
          clear hX5 hRB5 hcx'
          have hr : w5.heap[R]? = some (.cells #[.slice a1 n1 c1, .slice a2 n2 c2, .slice a3 n3 c3, .int .i64 ver, .bool o, .bool z, .slice a4 n4 c4] 47 (0, 0)) := HR5.out.2
          have r0 := box_at hr (j := 0) rfl
          have rf0 := box_free hr 0
          have r1 := box_at hr (j := 1) rfl
          have rf1 := box_free hr 1
          have r2 := box_at hr (j := 2) rfl
          have rf2 := box_free hr 2
          have r3 := box_at hr (j := 3) rfl
          have rf3 := box_free hr 3
          have r4 := box_at hr (j := 4) rfl
          have rf4 := box_free hr 4
          have r5 := box_at hr (j := 5) rfl
          have rf5 := box_free hr 5
          have r6 := box_at hr (j := 6) rfl
          have rf6 := box_free hr 6
          clear hr
          go_wp2
          refine Txt.SegPost.mk Txt.Ty.Shown.none ?_
          (try simp only [Txt.pick, List.getElem?_cons_succ, List.getElem?_cons_zero])
          go_wp2
          refine Txt.RunPost.mk ?_
          refine Txt.Ty.wpTr_alt ?_ Txt.Ty.wpTr_no
          (try simp only [Txt.pick, List.getElem?_cons_succ, List.getElem?_cons_zero])
          go_wp2
          refine Txt.SegPost.mk Txt.Ty.Shown.none ?_
          (try simp only [Txt.pick, List.getElem?_cons_succ, List.getElem?_cons_zero])
          go_wp2
          refine Txt.RunPost.mk ?_
          refine Txt.Ty.wpTr_done (by rfl) trivial ?_
          go_upto_region 26 with (fail)
          obtain ⟨X, hX⟩ : ∃ X, X = (((((((w5.setCell ⟨R, 0, none⟩ (.slice a12 n12 c12)).setCell ⟨R, 1, none⟩ (.slice a22 n22 c22)).setCell ⟨R, 2, none⟩ (.slice a32 n32 c32)).setCell ⟨R, 3, none⟩ (.int .i64 ver2)).setCell ⟨R, 4, none⟩ (.bool o2)).setCell ⟨R, 5, none⟩ (.bool z2)).setCell ⟨R, 6, none⟩ (.slice a42 n42 c42)) := ⟨_, rfl⟩
          rw [← hX]
          obtain ⟨hgX, hkX⟩ := puts_at [(0, .slice a12 n12 c12), (1, .slice a22 n22 c22), (2, .slice a32 n32 c32), (3, .int .i64 ver2), (4, .bool o2), (5, .bool z2), (6, .slice a42 n42 c42)] HR5.out.2
          have eX : puts w5 R [(0, .slice a12 n12 c12), (1, .slice a22 n22 c22), (2, .slice a32 n32 c32), (3, .int .i64 ver2), (4, .bool o2), (5, .bool z2), (6, .slice a42 n42 c42)] = X := hX.symm
          rw [eX] at hgX hkX
          have HS := Lib.hid (HX5.out X hgX hkX)
          clear r0 rf0 r1 rf1 r2 rf2 r3 rf3 r4 rf4 r5 rf5 r6 rf6
          clear hgX hkX hX eX
          have hr : X.heap[R]? = some (.cells #[.slice a12 n12 c12, .slice a22 n22 c22, .slice a32 n32 c32, .int .i64 ver2, .bool o2, .bool z2, .slice a42 n42 c42] 47 (0, 0)) := HS.out.rbox.2
          have r0 := box_at hr (j := 0) rfl
          have rf0 := box_free hr 0
          have r1 := box_at hr (j := 1) rfl
          have rf1 := box_free hr 1
          have r2 := box_at hr (j := 2) rfl
          have rf2 := box_free hr 2
          have r3 := box_at hr (j := 3) rfl
          have rf3 := box_free hr 3
          have r4 := box_at hr (j := 4) rfl
          have rf4 := box_free hr 4
          have r5 := box_at hr (j := 5) rfl
          have rf5 := box_free hr 5
          have r6 := box_at hr (j := 6) rfl
          have rf6 := box_free hr 6
          clear hr
          have Hsame : Hid (∀ w', Sc w1 g s' c k R (.agg #[.slice a12 n12 c12, .slice a22 n22 c22, .slice a32 n32 c32, .int .i64 ver2, .bool o2, .bool z2, .slice a42 n42 c42]) (rfOf s') Q (.agg #[.slice a11 n11 c11, .slice a21 n21 c21, .slice a31 n31 c31, .int .i64 ver1, .bool o1, .bool z1, .slice a41 n41 c41]) w' → Calls Try.prog 30 #[.pointer (some ⟨g, 0, none⟩), (.agg #[.slice a12 n12 c12, .slice a22 n22 c22, .slice a32 n32 c32, .int .i64 ver2, .bool o2, .bool z2, .slice a42 n42 c42])] w' fun e w'' => e = .returned (.bool true) ∧ Sc w1 g s' c k R (.agg #[.slice a12 n12 c12, .slice a22 n22 c22, .slice a32 n32 c32, .int .i64 ver2, .bool o2, .bool z2, .slice a42 n42 c42]) (rfOf s') Q (.agg #[.slice a11 n11 c11, .slice a21 n21 c21, .slice a31 n31 c31, .int .i64 ver1, .bool o1, .bool z1, .slice a41 n41 c41]) w'') := Lib.hid (fun w' h => sc_same h)
          go_wp2_with fail
          refine (Hsame.out _ HS.out).mono ?_
          rintro e w6 ⟨rfl, hS6⟩
          have HS6 := Lib.hid hS6
          clear hS6
          clear r0 rf0 r1 rf1 r2 rf2 r3 rf3 r4 rf4 r5 rf5 r6 rf6
          cases hat : ((j : Int) == (st : Int) % 40)
          · go_wp2_with fail
            go_wp2_with fail
            refine (sc_img HS6.out).mono ?_
            rintro e w8 ⟨xa8, xc8, rfl, ho8, hb8⟩
            rcases Nat.eq_zero_or_pos s'.image.length with hz8 | hz8
            · rw [hz8]
              have HF8 := Lib.hid (HS6.out.below hb8)
              clear ho8 hb8
              go_wp2
              go_roundw
              case rel => exact ⟨j + 1, c, s', k, (.agg #[.slice a12 n12 c12, .slice a22 n22 c22, .slice a32 n32 c32, .int .i64 ver2, .bool o2, .bool z2, .slice a42 n42 c42]), (.agg #[.slice a11 n11 c11, .slice a21 n21 c21, .slice a31 n31 c31, .int .i64 ver1, .bool o1, .bool z1, .slice a41 n41 c41]), by omega, by go_num, rfl, by omega, HF8.out⟩
              case measure => simp [intOf]; omega
            · obtain ⟨q8, cap8, hv8, hq8, hq82, _⟩ : ∃ q cap, (Value.slice xa8 s'.image.length xc8) = .slice (some ⟨q, 0, none⟩) s'.image.length cap ∧ w6.heap.size ≤ q ∧ q < w8.heap.size ∧ s'.image.length ≤ cap := by
                rcases own_cases ho8 with ⟨h, h0, _⟩ | h
                · omega
                · exact h
              cases hv8
              have d8 := own_cell ho8 rfl (j := 0) (u := byteV (s'.image[0]'hz8)) (by unfold bytesV; rw [List.getElem?_map, List.getElem?_eq_getElem hz8]; rfl)
              have f8 : w8.frozen? ⟨q8, 0, none⟩ = false := by
                obtain ⟨cur, hc⟩ := own_type ho8 (r := q8) rfl
                exact box_free hc 0
              simp only [byteV] at d8
              have HB8 := Lib.hid hb8; have HQ8 := Lib.hid hq8
              have hz8i : (0 : Int) < (s'.image.length : Int) := by omega
              clear ho8 hb8 hq8
              go_wp2
              go_roundw
              case rel => exact ⟨j + 1, c, s', k, (.agg #[.slice a12 n12 c12, .slice a22 n22 c22, .slice a32 n32 c32, .int .i64 ver2, .bool o2, .bool z2, .slice a42 n42 c42]), (.agg #[.slice a11 n11 c11, .slice a21 n21 c21, .slice a31 n31 c31, .int .i64 ver1, .bool o1, .bool z1, .slice a41 n41 c41]), by omega, by go_num, rfl, by omega, HS6.out.below (HB8.out.setCell HQ8.out _)⟩
              case measure => simp [intOf]; omega
          · have HC6 : Hid (Calls Try.prog 25 #[.pointer (some ⟨g, 0, none⟩)] w6.drew fun e w' => ∃ c', e = .returned (.pointer (some ⟨c', 0, none⟩)) ∧ Below w6.drew.heap.size w6.drew w' ∧ RBox w' R (.agg #[.slice a12 n12 c12, .slice a22 n22 c22, .slice a32 n32 c32, .int .i64 ver2, .bool o2, .bool z2, .slice a42 n42 c42]) ∧ RBox w' Q (.agg #[.slice a11 n11 c11, .slice a21 n21 c21, .slice a31 n31 c31, .int .i64 ver1, .bool o1, .bool z1, .slice a41 n41 c41]) ∧
                ∀ X : World, X.heap[Q]? = some (.cells (rfCells (.agg #[.slice a12 n12 c12, .slice a22 n22 c22, .slice a32 n32 c32, .int .i64 ver2, .bool o2, .bool z2, .slice a42 n42 c42])) 47 (0, 0)) → Keep [Q] w' X → Sc w1 g s' c' s' R (.agg #[.slice a12 n12 c12, .slice a22 n22 c22, .slice a32 n32 c32, .int .i64 ver2, .bool o2, .bool z2, .slice a42 n42 c42]) (rfOf s') Q (.agg #[.slice a12 n12 c12, .slice a22 n22 c22, .slice a32 n32 c32, .int .i64 ver2, .bool o2, .bool z2, .slice a42 n42 c42]) X) := Lib.hid (sc_clone HS6.out.drew)
            go_upto_region 29 with (fail)
            have hRc : w6.heap[R]? = some (.cells #[.slice a12 n12 c12, .slice a22 n22 c22, .slice a32 n32 c32, .int .i64 ver2, .bool o2, .bool z2, .slice a42 n42 c42] 47 (0, 0)) := HS6.out.rbox.2
            have hBl : ∀ x ∈ [R], ∃ c e f, w6.heap[x]? = some (.cells c e f) := fun x hx => by rw [List.mem_singleton.1 hx]; exact ⟨_, _, _, hRc⟩
            have HT0 := Lib.hid (same_start hBl)
            clear hRc
            have hr : w6.heap[R]? = some (.cells #[.slice a12 n12 c12, .slice a22 n22 c22, .slice a32 n32 c32, .int .i64 ver2, .bool o2, .bool z2, .slice a42 n42 c42] 47 (0, 0)) := HS6.out.rbox.2
            have r0 := box_at hr (j := 0) rfl
            have rf0 := box_free hr 0
            have r1 := box_at hr (j := 1) rfl
            have rf1 := box_free hr 1
            have r2 := box_at hr (j := 2) rfl
            have rf2 := box_free hr 2
            have r3 := box_at hr (j := 3) rfl
            have rf3 := box_free hr 3
            have r4 := box_at hr (j := 4) rfl
            have rf4 := box_free hr 4
            have r5 := box_at hr (j := 5) rfl
            have rf5 := box_free hr 5
            have r6 := box_at hr (j := 6) rfl
            have rf6 := box_free hr 6
            clear hr
            refine Txt.Ty.wp_tree [R] [2] [4] [2] [0, 2] (.alt [1, 3] (.alt [4] (.done) (.no)) (.no)) (by kernel_rfl) (by kernel_rfl) (by kernel_rfl) (by kernel_rfl) hBl ?_
            clear hBl
            (try simp only [Txt.pick, List.getElem?_cons_succ, List.getElem?_cons_zero])
            go_wp2
            refine Txt.RunPost.mk ?_
            refine Txt.Ty.wpTr_alt ?_ Txt.Ty.wpTr_no
            (try simp only [Txt.pick, List.getElem?_cons_succ, List.getElem?_cons_zero])
            go_wp2_with fail
            refine (HC6.out).mono ?_
            rintro e w7 ⟨c', rfl, hb7, hR7, hQ7, hX7⟩
            have HT7 := Lib.hid (show Txt.SameB [R] w6 w7 from same_below' (w0 := w6) (w1 := w6) HT0.out ((Below.refl w6.heap.size w6).drew.trans hb7))
            have HX7 := Lib.hid hX7; have HQ7 := Lib.hid hQ7
            clear r0 rf0 r1 rf1 r2 rf2 r3 rf3 r4 rf4 r5 rf5 r6 rf6
            clear hb7 hR7 hQ7 hX7
            have hq : w7.heap[Q]? = some (.cells #[.slice a11 n11 c11, .slice a21 n21 c21, .slice a31 n31 c31, .int .i64 ver1, .bool o1, .bool z1, .slice a41 n41 c41] 47 (0, 0)) := HQ7.out.2
            have q0 := box_at hq (j := 0) rfl
            have qf0 := box_free hq 0
            have q1 := box_at hq (j := 1) rfl
            have qf1 := box_free hq 1
            have q2 := box_at hq (j := 2) rfl
            have qf2 := box_free hq 2
            have q3 := box_at hq (j := 3) rfl
            have qf3 := box_free hq 3
            have q4 := box_at hq (j := 4) rfl
            have qf4 := box_free hq 4
            have q5 := box_at hq (j := 5) rfl
            have qf5 := box_free hq 5
            have q6 := box_at hq (j := 6) rfl
            have qf6 := box_free hq 6
            clear hq
            go_wp2
            refine Txt.SegPost.mk (Txt.Ty.Shown.same HT7.out) ?_
            (try simp only [Txt.pick, List.getElem?_cons_succ, List.getElem?_cons_zero])
            go_wp2
            refine Txt.RunPost.mk ?_
            refine Txt.Ty.wpTr_alt ?_ Txt.Ty.wpTr_no
            (try simp only [Txt.pick, List.getElem?_cons_succ, List.getElem?_cons_zero])
            go_wp2
            refine Txt.SegPost.mk (Txt.Ty.Shown.last rfl) ?_
            (try simp only [Txt.pick, List.getElem?_cons_succ, List.getElem?_cons_zero])
            refine Txt.RunPost.mk ?_
            refine Txt.Ty.wpTr_done (by rfl) ⟨.head _, trivial⟩ ?_
            go_upto_region 30 with (fail)
            obtain ⟨Y, hY⟩ : ∃ Y, Y = (((((((w7.setCell ⟨Q, 0, none⟩ (.slice a12 n12 c12)).setCell ⟨Q, 1, none⟩ (.slice a22 n22 c22)).setCell ⟨Q, 2, none⟩ (.slice a32 n32 c32)).setCell ⟨Q, 3, none⟩ (.int .i64 ver2)).setCell ⟨Q, 4, none⟩ (.bool o2)).setCell ⟨Q, 5, none⟩ (.bool z2)).setCell ⟨Q, 6, none⟩ (.slice a42 n42 c42)) := ⟨_, rfl⟩
            rw [← hY]
            obtain ⟨hgY, hkY⟩ := puts_at [(0, .slice a12 n12 c12), (1, .slice a22 n22 c22), (2, .slice a32 n32 c32), (3, .int .i64 ver2), (4, .bool o2), (5, .bool z2), (6, .slice a42 n42 c42)] HQ7.out.2
            have eY : puts w7 Q [(0, .slice a12 n12 c12), (1, .slice a22 n22 c22), (2, .slice a32 n32 c32), (3, .int .i64 ver2), (4, .bool o2), (5, .bool z2), (6, .slice a42 n42 c42)] = Y := hY.symm
            rw [eY] at hgY hkY
            have HS7 := Lib.hid (HX7.out Y hgY hkY)
            clear q0 qf0 q1 qf1 q2 qf2 q3 qf3 q4 qf4 q5 qf5 q6 qf6
            clear hgY hkY hY eY
            go_wp2_with fail
            refine (sc_img HS7.out).mono ?_
            rintro e w8 ⟨xa8, xc8, rfl, ho8, hb8⟩
            rcases Nat.eq_zero_or_pos s'.image.length with hz8 | hz8
            · rw [hz8]
              have HF8 := Lib.hid (HS7.out.below hb8)
              clear ho8 hb8
              go_wp2
              go_roundw
              case rel => exact ⟨j + 1, c', s', s', (.agg #[.slice a12 n12 c12, .slice a22 n22 c22, .slice a32 n32 c32, .int .i64 ver2, .bool o2, .bool z2, .slice a42 n42 c42]), (.agg #[.slice a12 n12 c12, .slice a22 n22 c22, .slice a32 n32 c32, .int .i64 ver2, .bool o2, .bool z2, .slice a42 n42 c42]), by omega, by go_num, rfl, by omega, HF8.out⟩
              case measure => simp [intOf]; omega
            · obtain ⟨q8, cap8, hv8, hq8, hq82, _⟩ : ∃ q cap, (Value.slice xa8 s'.image.length xc8) = .slice (some ⟨q, 0, none⟩) s'.image.length cap ∧ Y.heap.size ≤ q ∧ q < w8.heap.size ∧ s'.image.length ≤ cap := by
                rcases own_cases ho8 with ⟨h, h0, _⟩ | h
                · omega
                · exact h
              cases hv8
              have d8 := own_cell ho8 rfl (j := 0) (u := byteV (s'.image[0]'hz8)) (by unfold bytesV; rw [List.getElem?_map, List.getElem?_eq_getElem hz8]; rfl)
              have f8 : w8.frozen? ⟨q8, 0, none⟩ = false := by
                obtain ⟨cur, hc⟩ := own_type ho8 (r := q8) rfl
                exact box_free hc 0
              simp only [byteV] at d8
              have HB8 := Lib.hid hb8; have HQ8 := Lib.hid hq8
              have hz8i : (0 : Int) < (s'.image.length : Int) := by omega
              clear ho8 hb8 hq8
              go_wp2
              go_roundw
              case rel => exact ⟨j + 1, c', s', s', (.agg #[.slice a12 n12 c12, .slice a22 n22 c22, .slice a32 n32 c32, .int .i64 ver2, .bool o2, .bool z2, .slice a42 n42 c42]), (.agg #[.slice a12 n12 c12, .slice a22 n22 c22, .slice a32 n32 c32, .int .i64 ver2, .bool o2, .bool z2, .slice a42 n42 c42]), by omega, by go_num, rfl, by omega, HS7.out.below (HB8.out.setCell HQ8.out _)⟩
              case measure => simp [intOf]; omega
        · have h0b : (op == 0) = false := by simpa using h0
          clear h0
          by_cases h1 : op = 1
          · subst h1
            obtain ⟨N, E, s', hP⟩ : ∃ N E s', psStep s = (s', N, E) := ⟨_, _, _, rfl⟩
            have hRf : Hid (rfStep (rfOf s) = (rfOf s', N, E)) := Lib.hid (by rw [rf_step HS0.out.good, hP])
            have hver' : s'.ver ≤ s.ver + 1 := by
              have : s' = (psStep s).1 := by rw [hP]
              rw [this]; unfold psStep; split <;> simp [stepped]
            have hN7 : N ≤ 1000 := by
              have h2 := HS0.out.good.sl
              have : N = (psStep s).2.1 := by rw [hP]
              rw [this]; unfold psStep; split
              · simp
              · show s.steps - (s.done + 1) ≤ 1000
                omega
            have HPB := Lib.hid hP
            clear hP hcx0
            go_wp2_with fail
            refine (sc_step HS0.out).mono ?_
            rw [HPB.out]
            rintro e w4 ⟨rfl, hS4⟩
            have HS4 := Lib.hid hS4
            have HG0 := Lib.hid HS0.out.good
            clear hS4
            have hr : w4.heap[R]? = some (.cells #[.slice a1 n1 c1, .slice a2 n2 c2, .slice a3 n3 c3, .int .i64 ver, .bool o, .bool z, .slice a4 n4 c4] 47 (0, 0)) := HS4.out.rbox.2
            have r0 := box_at hr (j := 0) rfl
            have rf0 := box_free hr 0
            have r1 := box_at hr (j := 1) rfl
            have rf1 := box_free hr 1
            have r2 := box_at hr (j := 2) rfl
            have rf2 := box_free hr 2
            have r3 := box_at hr (j := 3) rfl
            have rf3 := box_free hr 3
            have r4 := box_at hr (j := 4) rfl
            have rf4 := box_free hr 4
            have r5 := box_at hr (j := 5) rfl
            have rf5 := box_free hr 5
            have r6 := box_at hr (j := 6) rfl
            have rf6 := box_free hr 6
            clear hr
            go_wp2_with fail
            refine (sc_ref (m' := rfOf s') (T := fun v' => .tuple #[v', .int .i64 (N : Int), .int .i64 E]) HS4.out (fun F hF hF0 hv => ?hop)).mono ?_
            case hop =>
              have h := rstepf_any _ (rfOf s) w4 (rfOf_good HG0.out) hF hv
              rw [hRf.out] at h
              exact h
            rintro e w5 ⟨a12, n12, c12, a22, n22, c22, a32, n32, c32, ver2, o2, z2, a42, n42, c42, rfl, hRB5, hX5⟩
            have HX5 := Lib.hid hX5; have HR5 := Lib.hid hRB5
            clear r0 rf0 r1 rf1 r2 rf2 r3 rf3 r4 rf4 r5 rf5 r6 rf6
            clear hX5 hRB5
            have hr : w5.heap[R]? = some (.cells #[.slice a1 n1 c1, .slice a2 n2 c2, .slice a3 n3 c3, .int .i64 ver, .bool o, .bool z, .slice a4 n4 c4] 47 (0, 0)) := HR5.out.2
            have r0 := box_at hr (j := 0) rfl
            have rf0 := box_free hr 0
            have r1 := box_at hr (j := 1) rfl
            have rf1 := box_free hr 1
            have r2 := box_at hr (j := 2) rfl
            have rf2 := box_free hr 2
            have r3 := box_at hr (j := 3) rfl
            have rf3 := box_free hr 3
            have r4 := box_at hr (j := 4) rfl
            have rf4 := box_free hr 4
            have r5 := box_at hr (j := 5) rfl
            have rf5 := box_free hr 5
            have r6 := box_at hr (j := 6) rfl
            have rf6 := box_free hr 6
            clear hr
            go_upto_region 26 with (fail)
            obtain ⟨X, hX⟩ : ∃ X, X = (((((((w5.setCell ⟨R, 0, none⟩ (.slice a12 n12 c12)).setCell ⟨R, 1, none⟩ (.slice a22 n22 c22)).setCell ⟨R, 2, none⟩ (.slice a32 n32 c32)).setCell ⟨R, 3, none⟩ (.int .i64 ver2)).setCell ⟨R, 4, none⟩ (.bool o2)).setCell ⟨R, 5, none⟩ (.bool z2)).setCell ⟨R, 6, none⟩ (.slice a42 n42 c42)) := ⟨_, rfl⟩
            rw [← hX]
            obtain ⟨hgX, hkX⟩ := puts_at [(0, .slice a12 n12 c12), (1, .slice a22 n22 c22), (2, .slice a32 n32 c32), (3, .int .i64 ver2), (4, .bool o2), (5, .bool z2), (6, .slice a42 n42 c42)] HR5.out.2
            have eX : puts w5 R [(0, .slice a12 n12 c12), (1, .slice a22 n22 c22), (2, .slice a32 n32 c32), (3, .int .i64 ver2), (4, .bool o2), (5, .bool z2), (6, .slice a42 n42 c42)] = X := hX.symm
            rw [eX] at hgX hkX
            have HS := Lib.hid (HX5.out X hgX hkX)
            clear r0 rf0 r1 rf1 r2 rf2 r3 rf3 r4 rf4 r5 rf5 r6 rf6
            clear hgX hkX hX eX
            have hr : X.heap[R]? = some (.cells #[.slice a12 n12 c12, .slice a22 n22 c22, .slice a32 n32 c32, .int .i64 ver2, .bool o2, .bool z2, .slice a42 n42 c42] 47 (0, 0)) := HS.out.rbox.2
            have r0 := box_at hr (j := 0) rfl
            have rf0 := box_free hr 0
            have r1 := box_at hr (j := 1) rfl
            have rf1 := box_free hr 1
            have r2 := box_at hr (j := 2) rfl
            have rf2 := box_free hr 2
            have r3 := box_at hr (j := 3) rfl
            have rf3 := box_free hr 3
            have r4 := box_at hr (j := 4) rfl
            have rf4 := box_free hr 4
            have r5 := box_at hr (j := 5) rfl
            have rf5 := box_free hr 5
            have r6 := box_at hr (j := 6) rfl
            have rf6 := box_free hr 6
            clear hr
            have Hsame : Hid (∀ w', Sc w1 g s' c k R (.agg #[.slice a12 n12 c12, .slice a22 n22 c22, .slice a32 n32 c32, .int .i64 ver2, .bool o2, .bool z2, .slice a42 n42 c42]) (rfOf s') Q (.agg #[.slice a11 n11 c11, .slice a21 n21 c21, .slice a31 n31 c31, .int .i64 ver1, .bool o1, .bool z1, .slice a41 n41 c41]) w' → Calls Try.prog 30 #[.pointer (some ⟨g, 0, none⟩), (.agg #[.slice a12 n12 c12, .slice a22 n22 c22, .slice a32 n32 c32, .int .i64 ver2, .bool o2, .bool z2, .slice a42 n42 c42])] w' fun e w'' => e = .returned (.bool true) ∧ Sc w1 g s' c k R (.agg #[.slice a12 n12 c12, .slice a22 n22 c22, .slice a32 n32 c32, .int .i64 ver2, .bool o2, .bool z2, .slice a42 n42 c42]) (rfOf s') Q (.agg #[.slice a11 n11 c11, .slice a21 n21 c21, .slice a31 n31 c31, .int .i64 ver1, .bool o1, .bool z1, .slice a41 n41 c41]) w'') := Lib.hid (fun w' h => sc_same h)
            go_wp2_with fail
            refine (Hsame.out _ HS.out).mono ?_
            rintro e w6 ⟨rfl, hS6⟩
            have HS6 := Lib.hid hS6
            clear hS6
            clear r0 rf0 r1 rf1 r2 rf2 r3 rf3 r4 rf4 r5 rf5 r6 rf6
            cases hat : ((j : Int) == (st : Int) % 40)
            · go_wp2_with fail
              go_wp2_with fail
              refine (sc_img HS6.out).mono ?_
              rintro e w8 ⟨xa8, xc8, rfl, ho8, hb8⟩
              rcases Nat.eq_zero_or_pos s'.image.length with hz8 | hz8
              · rw [hz8]
                have HF8 := Lib.hid (HS6.out.below hb8)
                clear ho8 hb8
                go_wp2
                go_roundw
                case rel => exact ⟨j + 1, c, s', k, (.agg #[.slice a12 n12 c12, .slice a22 n22 c22, .slice a32 n32 c32, .int .i64 ver2, .bool o2, .bool z2, .slice a42 n42 c42]), (.agg #[.slice a11 n11 c11, .slice a21 n21 c21, .slice a31 n31 c31, .int .i64 ver1, .bool o1, .bool z1, .slice a41 n41 c41]), by omega, by go_num, rfl, by omega, HF8.out⟩
                case measure => simp [intOf]; omega
              · obtain ⟨q8, cap8, hv8, hq8, hq82, _⟩ : ∃ q cap, (Value.slice xa8 s'.image.length xc8) = .slice (some ⟨q, 0, none⟩) s'.image.length cap ∧ w6.heap.size ≤ q ∧ q < w8.heap.size ∧ s'.image.length ≤ cap := by
                  rcases own_cases ho8 with ⟨h, h0, _⟩ | h
                  · omega
                  · exact h
                cases hv8
                have d8 := own_cell ho8 rfl (j := 0) (u := byteV (s'.image[0]'hz8)) (by unfold bytesV; rw [List.getElem?_map, List.getElem?_eq_getElem hz8]; rfl)
                have f8 : w8.frozen? ⟨q8, 0, none⟩ = false := by
                  obtain ⟨cur, hc⟩ := own_type ho8 (r := q8) rfl
                  exact box_free hc 0
                simp only [byteV] at d8
                have HB8 := Lib.hid hb8; have HQ8 := Lib.hid hq8
                have hz8i : (0 : Int) < (s'.image.length : Int) := by omega
                clear ho8 hb8 hq8
                go_wp2
                go_roundw
                case rel => exact ⟨j + 1, c, s', k, (.agg #[.slice a12 n12 c12, .slice a22 n22 c22, .slice a32 n32 c32, .int .i64 ver2, .bool o2, .bool z2, .slice a42 n42 c42]), (.agg #[.slice a11 n11 c11, .slice a21 n21 c21, .slice a31 n31 c31, .int .i64 ver1, .bool o1, .bool z1, .slice a41 n41 c41]), by omega, by go_num, rfl, by omega, HS6.out.below (HB8.out.setCell HQ8.out _)⟩
                case measure => simp [intOf]; omega
            · have HC6 : Hid (Calls Try.prog 25 #[.pointer (some ⟨g, 0, none⟩)] w6.drew fun e w' => ∃ c', e = .returned (.pointer (some ⟨c', 0, none⟩)) ∧ Below w6.drew.heap.size w6.drew w' ∧ RBox w' R (.agg #[.slice a12 n12 c12, .slice a22 n22 c22, .slice a32 n32 c32, .int .i64 ver2, .bool o2, .bool z2, .slice a42 n42 c42]) ∧ RBox w' Q (.agg #[.slice a11 n11 c11, .slice a21 n21 c21, .slice a31 n31 c31, .int .i64 ver1, .bool o1, .bool z1, .slice a41 n41 c41]) ∧
                  ∀ X : World, X.heap[Q]? = some (.cells (rfCells (.agg #[.slice a12 n12 c12, .slice a22 n22 c22, .slice a32 n32 c32, .int .i64 ver2, .bool o2, .bool z2, .slice a42 n42 c42])) 47 (0, 0)) → Keep [Q] w' X → Sc w1 g s' c' s' R (.agg #[.slice a12 n12 c12, .slice a22 n22 c22, .slice a32 n32 c32, .int .i64 ver2, .bool o2, .bool z2, .slice a42 n42 c42]) (rfOf s') Q (.agg #[.slice a12 n12 c12, .slice a22 n22 c22, .slice a32 n32 c32, .int .i64 ver2, .bool o2, .bool z2, .slice a42 n42 c42]) X) := Lib.hid (sc_clone HS6.out.drew)
              go_upto_region 29 with (fail)
              have hRc : w6.heap[R]? = some (.cells #[.slice a12 n12 c12, .slice a22 n22 c22, .slice a32 n32 c32, .int .i64 ver2, .bool o2, .bool z2, .slice a42 n42 c42] 47 (0, 0)) := HS6.out.rbox.2
              have hBl : ∀ x ∈ [R], ∃ c e f, w6.heap[x]? = some (.cells c e f) := fun x hx => by rw [List.mem_singleton.1 hx]; exact ⟨_, _, _, hRc⟩
              have HT0 := Lib.hid (same_start hBl)
              clear hRc
              have hr : w6.heap[R]? = some (.cells #[.slice a12 n12 c12, .slice a22 n22 c22, .slice a32 n32 c32, .int .i64 ver2, .bool o2, .bool z2, .slice a42 n42 c42] 47 (0, 0)) := HS6.out.rbox.2
              have r0 := box_at hr (j := 0) rfl
              have rf0 := box_free hr 0
              have r1 := box_at hr (j := 1) rfl
              have rf1 := box_free hr 1
              have r2 := box_at hr (j := 2) rfl
              have rf2 := box_free hr 2
              have r3 := box_at hr (j := 3) rfl
              have rf3 := box_free hr 3
              have r4 := box_at hr (j := 4) rfl
              have rf4 := box_free hr 4
              have r5 := box_at hr (j := 5) rfl
              have rf5 := box_free hr 5
              have r6 := box_at hr (j := 6) rfl
              have rf6 := box_free hr 6
              clear hr
              refine Txt.Ty.wp_tree [R] [2] [4] [2] [0, 2] (.alt [1, 3] (.alt [4] (.done) (.no)) (.no)) (by kernel_rfl) (by kernel_rfl) (by kernel_rfl) (by kernel_rfl) hBl ?_
              clear hBl
              (try simp only [Txt.pick, List.getElem?_cons_succ, List.getElem?_cons_zero])
              go_wp2
              refine Txt.RunPost.mk ?_
              refine Txt.Ty.wpTr_alt ?_ Txt.Ty.wpTr_no
              (try simp only [Txt.pick, List.getElem?_cons_succ, List.getElem?_cons_zero])
              go_wp2_with fail
              refine (HC6.out).mono ?_
              rintro e w7 ⟨c', rfl, hb7, hR7, hQ7, hX7⟩
              have HT7 := Lib.hid (show Txt.SameB [R] w6 w7 from same_below' (w0 := w6) (w1 := w6) HT0.out ((Below.refl w6.heap.size w6).drew.trans hb7))
              have HX7 := Lib.hid hX7; have HQ7 := Lib.hid hQ7
              clear r0 rf0 r1 rf1 r2 rf2 r3 rf3 r4 rf4 r5 rf5 r6 rf6
              clear hb7 hR7 hQ7 hX7
              have hq : w7.heap[Q]? = some (.cells #[.slice a11 n11 c11, .slice a21 n21 c21, .slice a31 n31 c31, .int .i64 ver1, .bool o1, .bool z1, .slice a41 n41 c41] 47 (0, 0)) := HQ7.out.2
              have q0 := box_at hq (j := 0) rfl
              have qf0 := box_free hq 0
              have q1 := box_at hq (j := 1) rfl
              have qf1 := box_free hq 1
              have q2 := box_at hq (j := 2) rfl
              have qf2 := box_free hq 2
              have q3 := box_at hq (j := 3) rfl
              have qf3 := box_free hq 3
              have q4 := box_at hq (j := 4) rfl
              have qf4 := box_free hq 4
              have q5 := box_at hq (j := 5) rfl
              have qf5 := box_free hq 5
              have q6 := box_at hq (j := 6) rfl
              have qf6 := box_free hq 6
              clear hq
              go_wp2
              refine Txt.SegPost.mk (Txt.Ty.Shown.same HT7.out) ?_
              (try simp only [Txt.pick, List.getElem?_cons_succ, List.getElem?_cons_zero])
              go_wp2
              refine Txt.RunPost.mk ?_
              refine Txt.Ty.wpTr_alt ?_ Txt.Ty.wpTr_no
              (try simp only [Txt.pick, List.getElem?_cons_succ, List.getElem?_cons_zero])
              go_wp2
              refine Txt.SegPost.mk (Txt.Ty.Shown.last rfl) ?_
              (try simp only [Txt.pick, List.getElem?_cons_succ, List.getElem?_cons_zero])
              refine Txt.RunPost.mk ?_
              refine Txt.Ty.wpTr_done (by rfl) ⟨.head _, trivial⟩ ?_
              go_upto_region 30 with (fail)
              obtain ⟨Y, hY⟩ : ∃ Y, Y = (((((((w7.setCell ⟨Q, 0, none⟩ (.slice a12 n12 c12)).setCell ⟨Q, 1, none⟩ (.slice a22 n22 c22)).setCell ⟨Q, 2, none⟩ (.slice a32 n32 c32)).setCell ⟨Q, 3, none⟩ (.int .i64 ver2)).setCell ⟨Q, 4, none⟩ (.bool o2)).setCell ⟨Q, 5, none⟩ (.bool z2)).setCell ⟨Q, 6, none⟩ (.slice a42 n42 c42)) := ⟨_, rfl⟩
              rw [← hY]
              obtain ⟨hgY, hkY⟩ := puts_at [(0, .slice a12 n12 c12), (1, .slice a22 n22 c22), (2, .slice a32 n32 c32), (3, .int .i64 ver2), (4, .bool o2), (5, .bool z2), (6, .slice a42 n42 c42)] HQ7.out.2
              have eY : puts w7 Q [(0, .slice a12 n12 c12), (1, .slice a22 n22 c22), (2, .slice a32 n32 c32), (3, .int .i64 ver2), (4, .bool o2), (5, .bool z2), (6, .slice a42 n42 c42)] = Y := hY.symm
              rw [eY] at hgY hkY
              have HS7 := Lib.hid (HX7.out Y hgY hkY)
              clear q0 qf0 q1 qf1 q2 qf2 q3 qf3 q4 qf4 q5 qf5 q6 qf6
              clear hgY hkY hY eY
              go_wp2_with fail
              refine (sc_img HS7.out).mono ?_
              rintro e w8 ⟨xa8, xc8, rfl, ho8, hb8⟩
              rcases Nat.eq_zero_or_pos s'.image.length with hz8 | hz8
              · rw [hz8]
                have HF8 := Lib.hid (HS7.out.below hb8)
                clear ho8 hb8
                go_wp2
                go_roundw
                case rel => exact ⟨j + 1, c', s', s', (.agg #[.slice a12 n12 c12, .slice a22 n22 c22, .slice a32 n32 c32, .int .i64 ver2, .bool o2, .bool z2, .slice a42 n42 c42]), (.agg #[.slice a12 n12 c12, .slice a22 n22 c22, .slice a32 n32 c32, .int .i64 ver2, .bool o2, .bool z2, .slice a42 n42 c42]), by omega, by go_num, rfl, by omega, HF8.out⟩
                case measure => simp [intOf]; omega
              · obtain ⟨q8, cap8, hv8, hq8, hq82, _⟩ : ∃ q cap, (Value.slice xa8 s'.image.length xc8) = .slice (some ⟨q, 0, none⟩) s'.image.length cap ∧ Y.heap.size ≤ q ∧ q < w8.heap.size ∧ s'.image.length ≤ cap := by
                  rcases own_cases ho8 with ⟨h, h0, _⟩ | h
                  · omega
                  · exact h
                cases hv8
                have d8 := own_cell ho8 rfl (j := 0) (u := byteV (s'.image[0]'hz8)) (by unfold bytesV; rw [List.getElem?_map, List.getElem?_eq_getElem hz8]; rfl)
                have f8 : w8.frozen? ⟨q8, 0, none⟩ = false := by
                  obtain ⟨cur, hc⟩ := own_type ho8 (r := q8) rfl
                  exact box_free hc 0
                simp only [byteV] at d8
                have HB8 := Lib.hid hb8; have HQ8 := Lib.hid hq8
                have hz8i : (0 : Int) < (s'.image.length : Int) := by omega
                clear ho8 hb8 hq8
                go_wp2
                go_roundw
                case rel => exact ⟨j + 1, c', s', s', (.agg #[.slice a12 n12 c12, .slice a22 n22 c22, .slice a32 n32 c32, .int .i64 ver2, .bool o2, .bool z2, .slice a42 n42 c42]), (.agg #[.slice a12 n12 c12, .slice a22 n22 c22, .slice a32 n32 c32, .int .i64 ver2, .bool o2, .bool z2, .slice a42 n42 c42]), by omega, by go_num, rfl, by omega, HS7.out.below (HB8.out.setCell HQ8.out _)⟩
                case measure => simp [intOf]; omega
          · have h1b : (op == 1) = false := by simpa using h1
            clear h1
            by_cases h2 : op = 2
            · subst h2
              obtain ⟨E, s', hP⟩ : ∃ E s', psCommit s = (s', E) := ⟨_, _, rfl⟩
              have hRf : Hid (rfCommit (rfOf s) = (rfOf s', E)) := Lib.hid (by rw [rf_commit HS0.out.good, hP])
              have hver' : s'.ver ≤ s.ver + 1 := by
                have : s' = (psCommit s).1 := by rw [hP]
                rw [this]; unfold psCommit; split <;> simp [committed, aborted]
              have HPB := Lib.hid hP
              clear hP hcx0
              go_wp2_with fail
              refine (sc_commit HS0.out (by omega)).mono ?_
              rw [HPB.out]
              rintro e w4 ⟨rfl, hS4⟩
              have HS4 := Lib.hid hS4
              have HG0 := Lib.hid HS0.out.good
              clear hS4
              have hr : w4.heap[R]? = some (.cells #[.slice a1 n1 c1, .slice a2 n2 c2, .slice a3 n3 c3, .int .i64 ver, .bool o, .bool z, .slice a4 n4 c4] 47 (0, 0)) := HS4.out.rbox.2
              have r0 := box_at hr (j := 0) rfl
              have rf0 := box_free hr 0
              have r1 := box_at hr (j := 1) rfl
              have rf1 := box_free hr 1
              have r2 := box_at hr (j := 2) rfl
              have rf2 := box_free hr 2
              have r3 := box_at hr (j := 3) rfl
              have rf3 := box_free hr 3
              have r4 := box_at hr (j := 4) rfl
              have rf4 := box_free hr 4
              have r5 := box_at hr (j := 5) rfl
              have rf5 := box_free hr 5
              have r6 := box_at hr (j := 6) rfl
              have rf6 := box_free hr 6
              clear hr
              go_wp2_with fail
              refine (sc_ref (m' := rfOf s') (T := fun v' => .tuple #[v', .int .i64 E]) HS4.out (fun F hF hF0 hv => ?hop)).mono ?_
              case hop =>
                have h := rcommit_any _ (rfOf s) w4 (rfOf_good HG0.out) hv
                rw [hRf.out] at h
                exact h
              rintro e w5 ⟨a12, n12, c12, a22, n22, c22, a32, n32, c32, ver2, o2, z2, a42, n42, c42, rfl, hRB5, hX5⟩
              have HX5 := Lib.hid hX5; have HR5 := Lib.hid hRB5
              clear r0 rf0 r1 rf1 r2 rf2 r3 rf3 r4 rf4 r5 rf5 r6 rf6
              clear hX5 hRB5
              have hr : w5.heap[R]? = some (.cells #[.slice a1 n1 c1, .slice a2 n2 c2, .slice a3 n3 c3, .int .i64 ver, .bool o, .bool z, .slice a4 n4 c4] 47 (0, 0)) := HR5.out.2
              have r0 := box_at hr (j := 0) rfl
              have rf0 := box_free hr 0
              have r1 := box_at hr (j := 1) rfl
              have rf1 := box_free hr 1
              have r2 := box_at hr (j := 2) rfl
              have rf2 := box_free hr 2
              have r3 := box_at hr (j := 3) rfl
              have rf3 := box_free hr 3
              have r4 := box_at hr (j := 4) rfl
              have rf4 := box_free hr 4
              have r5 := box_at hr (j := 5) rfl
              have rf5 := box_free hr 5
              have r6 := box_at hr (j := 6) rfl
              have rf6 := box_free hr 6
              clear hr
              go_upto_region 26 with (fail)
              obtain ⟨X, hX⟩ : ∃ X, X = (((((((w5.setCell ⟨R, 0, none⟩ (.slice a12 n12 c12)).setCell ⟨R, 1, none⟩ (.slice a22 n22 c22)).setCell ⟨R, 2, none⟩ (.slice a32 n32 c32)).setCell ⟨R, 3, none⟩ (.int .i64 ver2)).setCell ⟨R, 4, none⟩ (.bool o2)).setCell ⟨R, 5, none⟩ (.bool z2)).setCell ⟨R, 6, none⟩ (.slice a42 n42 c42)) := ⟨_, rfl⟩
              rw [← hX]
              obtain ⟨hgX, hkX⟩ := puts_at [(0, .slice a12 n12 c12), (1, .slice a22 n22 c22), (2, .slice a32 n32 c32), (3, .int .i64 ver2), (4, .bool o2), (5, .bool z2), (6, .slice a42 n42 c42)] HR5.out.2
              have eX : puts w5 R [(0, .slice a12 n12 c12), (1, .slice a22 n22 c22), (2, .slice a32 n32 c32), (3, .int .i64 ver2), (4, .bool o2), (5, .bool z2), (6, .slice a42 n42 c42)] = X := hX.symm
              rw [eX] at hgX hkX
              have HS := Lib.hid (HX5.out X hgX hkX)
              clear r0 rf0 r1 rf1 r2 rf2 r3 rf3 r4 rf4 r5 rf5 r6 rf6
              clear hgX hkX hX eX
              have hr : X.heap[R]? = some (.cells #[.slice a12 n12 c12, .slice a22 n22 c22, .slice a32 n32 c32, .int .i64 ver2, .bool o2, .bool z2, .slice a42 n42 c42] 47 (0, 0)) := HS.out.rbox.2
              have r0 := box_at hr (j := 0) rfl
              have rf0 := box_free hr 0
              have r1 := box_at hr (j := 1) rfl
              have rf1 := box_free hr 1
              have r2 := box_at hr (j := 2) rfl
              have rf2 := box_free hr 2
              have r3 := box_at hr (j := 3) rfl
              have rf3 := box_free hr 3
              have r4 := box_at hr (j := 4) rfl
              have rf4 := box_free hr 4
              have r5 := box_at hr (j := 5) rfl
              have rf5 := box_free hr 5
              have r6 := box_at hr (j := 6) rfl
              have rf6 := box_free hr 6
              clear hr
              have Hsame : Hid (∀ w', Sc w1 g s' c k R (.agg #[.slice a12 n12 c12, .slice a22 n22 c22, .slice a32 n32 c32, .int .i64 ver2, .bool o2, .bool z2, .slice a42 n42 c42]) (rfOf s') Q (.agg #[.slice a11 n11 c11, .slice a21 n21 c21, .slice a31 n31 c31, .int .i64 ver1, .bool o1, .bool z1, .slice a41 n41 c41]) w' → Calls Try.prog 30 #[.pointer (some ⟨g, 0, none⟩), (.agg #[.slice a12 n12 c12, .slice a22 n22 c22, .slice a32 n32 c32, .int .i64 ver2, .bool o2, .bool z2, .slice a42 n42 c42])] w' fun e w'' => e = .returned (.bool true) ∧ Sc w1 g s' c k R (.agg #[.slice a12 n12 c12, .slice a22 n22 c22, .slice a32 n32 c32, .int .i64 ver2, .bool o2, .bool z2, .slice a42 n42 c42]) (rfOf s') Q (.agg #[.slice a11 n11 c11, .slice a21 n21 c21, .slice a31 n31 c31, .int .i64 ver1, .bool o1, .bool z1, .slice a41 n41 c41]) w'') := Lib.hid (fun w' h => sc_same h)
              go_wp2_with fail
              refine (Hsame.out _ HS.out).mono ?_
              rintro e w6 ⟨rfl, hS6⟩
              have HS6 := Lib.hid hS6
              clear hS6
              clear r0 rf0 r1 rf1 r2 rf2 r3 rf3 r4 rf4 r5 rf5 r6 rf6
              cases hat : ((j : Int) == (st : Int) % 40)
              · go_wp2_with fail
                go_wp2_with fail
                refine (sc_img HS6.out).mono ?_
                rintro e w8 ⟨xa8, xc8, rfl, ho8, hb8⟩
                rcases Nat.eq_zero_or_pos s'.image.length with hz8 | hz8
                · rw [hz8]
                  have HF8 := Lib.hid (HS6.out.below hb8)
                  clear ho8 hb8
                  go_wp2
                  go_roundw
                  case rel => exact ⟨j + 1, c, s', k, (.agg #[.slice a12 n12 c12, .slice a22 n22 c22, .slice a32 n32 c32, .int .i64 ver2, .bool o2, .bool z2, .slice a42 n42 c42]), (.agg #[.slice a11 n11 c11, .slice a21 n21 c21, .slice a31 n31 c31, .int .i64 ver1, .bool o1, .bool z1, .slice a41 n41 c41]), by omega, by go_num, rfl, by omega, HF8.out⟩
                  case measure => simp [intOf]; omega
                · obtain ⟨q8, cap8, hv8, hq8, hq82, _⟩ : ∃ q cap, (Value.slice xa8 s'.image.length xc8) = .slice (some ⟨q, 0, none⟩) s'.image.length cap ∧ w6.heap.size ≤ q ∧ q < w8.heap.size ∧ s'.image.length ≤ cap := by
                    rcases own_cases ho8 with ⟨h, h0, _⟩ | h
                    · omega
                    · exact h
                  cases hv8
                  have d8 := own_cell ho8 rfl (j := 0) (u := byteV (s'.image[0]'hz8)) (by unfold bytesV; rw [List.getElem?_map, List.getElem?_eq_getElem hz8]; rfl)
                  have f8 : w8.frozen? ⟨q8, 0, none⟩ = false := by
                    obtain ⟨cur, hc⟩ := own_type ho8 (r := q8) rfl
                    exact box_free hc 0
                  simp only [byteV] at d8
                  have HB8 := Lib.hid hb8; have HQ8 := Lib.hid hq8
                  have hz8i : (0 : Int) < (s'.image.length : Int) := by omega
                  clear ho8 hb8 hq8
                  go_wp2
                  go_roundw
                  case rel => exact ⟨j + 1, c, s', k, (.agg #[.slice a12 n12 c12, .slice a22 n22 c22, .slice a32 n32 c32, .int .i64 ver2, .bool o2, .bool z2, .slice a42 n42 c42]), (.agg #[.slice a11 n11 c11, .slice a21 n21 c21, .slice a31 n31 c31, .int .i64 ver1, .bool o1, .bool z1, .slice a41 n41 c41]), by omega, by go_num, rfl, by omega, HS6.out.below (HB8.out.setCell HQ8.out _)⟩
                  case measure => simp [intOf]; omega
              · have HC6 : Hid (Calls Try.prog 25 #[.pointer (some ⟨g, 0, none⟩)] w6.drew fun e w' => ∃ c', e = .returned (.pointer (some ⟨c', 0, none⟩)) ∧ Below w6.drew.heap.size w6.drew w' ∧ RBox w' R (.agg #[.slice a12 n12 c12, .slice a22 n22 c22, .slice a32 n32 c32, .int .i64 ver2, .bool o2, .bool z2, .slice a42 n42 c42]) ∧ RBox w' Q (.agg #[.slice a11 n11 c11, .slice a21 n21 c21, .slice a31 n31 c31, .int .i64 ver1, .bool o1, .bool z1, .slice a41 n41 c41]) ∧
                    ∀ X : World, X.heap[Q]? = some (.cells (rfCells (.agg #[.slice a12 n12 c12, .slice a22 n22 c22, .slice a32 n32 c32, .int .i64 ver2, .bool o2, .bool z2, .slice a42 n42 c42])) 47 (0, 0)) → Keep [Q] w' X → Sc w1 g s' c' s' R (.agg #[.slice a12 n12 c12, .slice a22 n22 c22, .slice a32 n32 c32, .int .i64 ver2, .bool o2, .bool z2, .slice a42 n42 c42]) (rfOf s') Q (.agg #[.slice a12 n12 c12, .slice a22 n22 c22, .slice a32 n32 c32, .int .i64 ver2, .bool o2, .bool z2, .slice a42 n42 c42]) X) := Lib.hid (sc_clone HS6.out.drew)
                go_upto_region 29 with (fail)
                have hRc : w6.heap[R]? = some (.cells #[.slice a12 n12 c12, .slice a22 n22 c22, .slice a32 n32 c32, .int .i64 ver2, .bool o2, .bool z2, .slice a42 n42 c42] 47 (0, 0)) := HS6.out.rbox.2
                have hBl : ∀ x ∈ [R], ∃ c e f, w6.heap[x]? = some (.cells c e f) := fun x hx => by rw [List.mem_singleton.1 hx]; exact ⟨_, _, _, hRc⟩
                have HT0 := Lib.hid (same_start hBl)
                clear hRc
                have hr : w6.heap[R]? = some (.cells #[.slice a12 n12 c12, .slice a22 n22 c22, .slice a32 n32 c32, .int .i64 ver2, .bool o2, .bool z2, .slice a42 n42 c42] 47 (0, 0)) := HS6.out.rbox.2
                have r0 := box_at hr (j := 0) rfl
                have rf0 := box_free hr 0
                have r1 := box_at hr (j := 1) rfl
                have rf1 := box_free hr 1
                have r2 := box_at hr (j := 2) rfl
                have rf2 := box_free hr 2
                have r3 := box_at hr (j := 3) rfl
                have rf3 := box_free hr 3
                have r4 := box_at hr (j := 4) rfl
                have rf4 := box_free hr 4
                have r5 := box_at hr (j := 5) rfl
                have rf5 := box_free hr 5
                have r6 := box_at hr (j := 6) rfl
                have rf6 := box_free hr 6
                clear hr
                refine Txt.Ty.wp_tree [R] [2] [4] [2] [0, 2] (.alt [1, 3] (.alt [4] (.done) (.no)) (.no)) (by kernel_rfl) (by kernel_rfl) (by kernel_rfl) (by kernel_rfl) hBl ?_
                clear hBl
                (try simp only [Txt.pick, List.getElem?_cons_succ, List.getElem?_cons_zero])
                go_wp2
                refine Txt.RunPost.mk ?_
                refine Txt.Ty.wpTr_alt ?_ Txt.Ty.wpTr_no
                (try simp only [Txt.pick, List.getElem?_cons_succ, List.getElem?_cons_zero])
                go_wp2_with fail
                refine (HC6.out).mono ?_
                rintro e w7 ⟨c', rfl, hb7, hR7, hQ7, hX7⟩
                have HT7 := Lib.hid (show Txt.SameB [R] w6 w7 from same_below' (w0 := w6) (w1 := w6) HT0.out ((Below.refl w6.heap.size w6).drew.trans hb7))
                have HX7 := Lib.hid hX7; have HQ7 := Lib.hid hQ7
                clear r0 rf0 r1 rf1 r2 rf2 r3 rf3 r4 rf4 r5 rf5 r6 rf6
                clear hb7 hR7 hQ7 hX7
                have hq : w7.heap[Q]? = some (.cells #[.slice a11 n11 c11, .slice a21 n21 c21, .slice a31 n31 c31, .int .i64 ver1, .bool o1, .bool z1, .slice a41 n41 c41] 47 (0, 0)) := HQ7.out.2
                have q0 := box_at hq (j := 0) rfl
                have qf0 := box_free hq 0
                have q1 := box_at hq (j := 1) rfl
                have qf1 := box_free hq 1
                have q2 := box_at hq (j := 2) rfl
                have qf2 := box_free hq 2
                have q3 := box_at hq (j := 3) rfl
                have qf3 := box_free hq 3
                have q4 := box_at hq (j := 4) rfl
                have qf4 := box_free hq 4
                have q5 := box_at hq (j := 5) rfl
                have qf5 := box_free hq 5
                have q6 := box_at hq (j := 6) rfl
                have qf6 := box_free hq 6
                clear hq
                go_wp2
                refine Txt.SegPost.mk (Txt.Ty.Shown.same HT7.out) ?_
                (try simp only [Txt.pick, List.getElem?_cons_succ, List.getElem?_cons_zero])
                go_wp2
                refine Txt.RunPost.mk ?_
                refine Txt.Ty.wpTr_alt ?_ Txt.Ty.wpTr_no
                (try simp only [Txt.pick, List.getElem?_cons_succ, List.getElem?_cons_zero])
                go_wp2
                refine Txt.SegPost.mk (Txt.Ty.Shown.last rfl) ?_
                (try simp only [Txt.pick, List.getElem?_cons_succ, List.getElem?_cons_zero])
                refine Txt.RunPost.mk ?_
                refine Txt.Ty.wpTr_done (by rfl) ⟨.head _, trivial⟩ ?_
                go_upto_region 30 with (fail)
                obtain ⟨Y, hY⟩ : ∃ Y, Y = (((((((w7.setCell ⟨Q, 0, none⟩ (.slice a12 n12 c12)).setCell ⟨Q, 1, none⟩ (.slice a22 n22 c22)).setCell ⟨Q, 2, none⟩ (.slice a32 n32 c32)).setCell ⟨Q, 3, none⟩ (.int .i64 ver2)).setCell ⟨Q, 4, none⟩ (.bool o2)).setCell ⟨Q, 5, none⟩ (.bool z2)).setCell ⟨Q, 6, none⟩ (.slice a42 n42 c42)) := ⟨_, rfl⟩
                rw [← hY]
                obtain ⟨hgY, hkY⟩ := puts_at [(0, .slice a12 n12 c12), (1, .slice a22 n22 c22), (2, .slice a32 n32 c32), (3, .int .i64 ver2), (4, .bool o2), (5, .bool z2), (6, .slice a42 n42 c42)] HQ7.out.2
                have eY : puts w7 Q [(0, .slice a12 n12 c12), (1, .slice a22 n22 c22), (2, .slice a32 n32 c32), (3, .int .i64 ver2), (4, .bool o2), (5, .bool z2), (6, .slice a42 n42 c42)] = Y := hY.symm
                rw [eY] at hgY hkY
                have HS7 := Lib.hid (HX7.out Y hgY hkY)
                clear q0 qf0 q1 qf1 q2 qf2 q3 qf3 q4 qf4 q5 qf5 q6 qf6
                clear hgY hkY hY eY
                go_wp2_with fail
                refine (sc_img HS7.out).mono ?_
                rintro e w8 ⟨xa8, xc8, rfl, ho8, hb8⟩
                rcases Nat.eq_zero_or_pos s'.image.length with hz8 | hz8
                · rw [hz8]
                  have HF8 := Lib.hid (HS7.out.below hb8)
                  clear ho8 hb8
                  go_wp2
                  go_roundw
                  case rel => exact ⟨j + 1, c', s', s', (.agg #[.slice a12 n12 c12, .slice a22 n22 c22, .slice a32 n32 c32, .int .i64 ver2, .bool o2, .bool z2, .slice a42 n42 c42]), (.agg #[.slice a12 n12 c12, .slice a22 n22 c22, .slice a32 n32 c32, .int .i64 ver2, .bool o2, .bool z2, .slice a42 n42 c42]), by omega, by go_num, rfl, by omega, HF8.out⟩
                  case measure => simp [intOf]; omega
                · obtain ⟨q8, cap8, hv8, hq8, hq82, _⟩ : ∃ q cap, (Value.slice xa8 s'.image.length xc8) = .slice (some ⟨q, 0, none⟩) s'.image.length cap ∧ Y.heap.size ≤ q ∧ q < w8.heap.size ∧ s'.image.length ≤ cap := by
                    rcases own_cases ho8 with ⟨h, h0, _⟩ | h
                    · omega
                    · exact h
                  cases hv8
                  have d8 := own_cell ho8 rfl (j := 0) (u := byteV (s'.image[0]'hz8)) (by unfold bytesV; rw [List.getElem?_map, List.getElem?_eq_getElem hz8]; rfl)
                  have f8 : w8.frozen? ⟨q8, 0, none⟩ = false := by
                    obtain ⟨cur, hc⟩ := own_type ho8 (r := q8) rfl
                    exact box_free hc 0
                  simp only [byteV] at d8
                  have HB8 := Lib.hid hb8; have HQ8 := Lib.hid hq8
                  have hz8i : (0 : Int) < (s'.image.length : Int) := by omega
                  clear ho8 hb8 hq8
                  go_wp2
                  go_roundw
                  case rel => exact ⟨j + 1, c', s', s', (.agg #[.slice a12 n12 c12, .slice a22 n22 c22, .slice a32 n32 c32, .int .i64 ver2, .bool o2, .bool z2, .slice a42 n42 c42]), (.agg #[.slice a12 n12 c12, .slice a22 n22 c22, .slice a32 n32 c32, .int .i64 ver2, .bool o2, .bool z2, .slice a42 n42 c42]), by omega, by go_num, rfl, by omega, HS7.out.below (HB8.out.setCell HQ8.out _)⟩
                  case measure => simp [intOf]; omega
            · have h2b : (op == 2) = false := by simpa using h2
              clear h2
              obtain ⟨E, s', hP⟩ : ∃ E s', psAbort s = (s', E) := ⟨_, _, rfl⟩
              have hRf : Hid (rfAbort (rfOf s) = (rfOf s', E)) := Lib.hid (by rw [rf_abort, hP])
              have hver' : s'.ver ≤ s.ver + 1 := by
                have : s' = (psAbort s).1 := by rw [hP]
                rw [this]; unfold psAbort; split <;> simp [committed, aborted]
              have HPB := Lib.hid hP
              clear hP hcx0
              go_wp2_with fail
              refine (sc_abort HS0.out).mono ?_
              rw [HPB.out]
              rintro e w4 ⟨rfl, hS4⟩
              have HS4 := Lib.hid hS4
              have HG0 := Lib.hid HS0.out.good
              clear hS4
              have hr : w4.heap[R]? = some (.cells #[.slice a1 n1 c1, .slice a2 n2 c2, .slice a3 n3 c3, .int .i64 ver, .bool o, .bool z, .slice a4 n4 c4] 47 (0, 0)) := HS4.out.rbox.2
              have r0 := box_at hr (j := 0) rfl
              have rf0 := box_free hr 0
              have r1 := box_at hr (j := 1) rfl
              have rf1 := box_free hr 1
              have r2 := box_at hr (j := 2) rfl
              have rf2 := box_free hr 2
              have r3 := box_at hr (j := 3) rfl
              have rf3 := box_free hr 3
              have r4 := box_at hr (j := 4) rfl
              have rf4 := box_free hr 4
              have r5 := box_at hr (j := 5) rfl
              have rf5 := box_free hr 5
              have r6 := box_at hr (j := 6) rfl
              have rf6 := box_free hr 6
              clear hr
              go_wp2_with fail
              refine (sc_ref (m' := rfOf s') (T := fun v' => .tuple #[v', .int .i64 E]) HS4.out (fun F hF hF0 hv => ?hop)).mono ?_
              case hop =>
                have h := rabort_any _ (rfOf s) w4 (rfOf_good HG0.out) hv
                rw [hRf.out] at h
                exact h
              rintro e w5 ⟨a12, n12, c12, a22, n22, c22, a32, n32, c32, ver2, o2, z2, a42, n42, c42, rfl, hRB5, hX5⟩
              have HX5 := Lib.hid hX5; have HR5 := Lib.hid hRB5
              clear r0 rf0 r1 rf1 r2 rf2 r3 rf3 r4 rf4 r5 rf5 r6 rf6
              clear hX5 hRB5
              have hr : w5.heap[R]? = some (.cells #[.slice a1 n1 c1, .slice a2 n2 c2, .slice a3 n3 c3, .int .i64 ver, .bool o, .bool z, .slice a4 n4 c4] 47 (0, 0)) := HR5.out.2
              have r0 := box_at hr (j := 0) rfl
              have rf0 := box_free hr 0
              have r1 := box_at hr (j := 1) rfl
              have rf1 := box_free hr 1
              have r2 := box_at hr (j := 2) rfl
              have rf2 := box_free hr 2
              have r3 := box_at hr (j := 3) rfl
              have rf3 := box_free hr 3
              have r4 := box_at hr (j := 4) rfl
              have rf4 := box_free hr 4
              have r5 := box_at hr (j := 5) rfl
              have rf5 := box_free hr 5
              have r6 := box_at hr (j := 6) rfl
              have rf6 := box_free hr 6
              clear hr
              go_upto_region 26 with (fail)
              obtain ⟨X, hX⟩ : ∃ X, X = (((((((w5.setCell ⟨R, 0, none⟩ (.slice a12 n12 c12)).setCell ⟨R, 1, none⟩ (.slice a22 n22 c22)).setCell ⟨R, 2, none⟩ (.slice a32 n32 c32)).setCell ⟨R, 3, none⟩ (.int .i64 ver2)).setCell ⟨R, 4, none⟩ (.bool o2)).setCell ⟨R, 5, none⟩ (.bool z2)).setCell ⟨R, 6, none⟩ (.slice a42 n42 c42)) := ⟨_, rfl⟩
              rw [← hX]
              obtain ⟨hgX, hkX⟩ := puts_at [(0, .slice a12 n12 c12), (1, .slice a22 n22 c22), (2, .slice a32 n32 c32), (3, .int .i64 ver2), (4, .bool o2), (5, .bool z2), (6, .slice a42 n42 c42)] HR5.out.2
              have eX : puts w5 R [(0, .slice a12 n12 c12), (1, .slice a22 n22 c22), (2, .slice a32 n32 c32), (3, .int .i64 ver2), (4, .bool o2), (5, .bool z2), (6, .slice a42 n42 c42)] = X := hX.symm
              rw [eX] at hgX hkX
              have HS := Lib.hid (HX5.out X hgX hkX)
              clear r0 rf0 r1 rf1 r2 rf2 r3 rf3 r4 rf4 r5 rf5 r6 rf6
              clear hgX hkX hX eX
              have hr : X.heap[R]? = some (.cells #[.slice a12 n12 c12, .slice a22 n22 c22, .slice a32 n32 c32, .int .i64 ver2, .bool o2, .bool z2, .slice a42 n42 c42] 47 (0, 0)) := HS.out.rbox.2
              have r0 := box_at hr (j := 0) rfl
              have rf0 := box_free hr 0
              have r1 := box_at hr (j := 1) rfl
              have rf1 := box_free hr 1
              have r2 := box_at hr (j := 2) rfl
              have rf2 := box_free hr 2
              have r3 := box_at hr (j := 3) rfl
              have rf3 := box_free hr 3
              have r4 := box_at hr (j := 4) rfl
              have rf4 := box_free hr 4
              have r5 := box_at hr (j := 5) rfl
              have rf5 := box_free hr 5
              have r6 := box_at hr (j := 6) rfl
              have rf6 := box_free hr 6
              clear hr
              have Hsame : Hid (∀ w', Sc w1 g s' c k R (.agg #[.slice a12 n12 c12, .slice a22 n22 c22, .slice a32 n32 c32, .int .i64 ver2, .bool o2, .bool z2, .slice a42 n42 c42]) (rfOf s') Q (.agg #[.slice a11 n11 c11, .slice a21 n21 c21, .slice a31 n31 c31, .int .i64 ver1, .bool o1, .bool z1, .slice a41 n41 c41]) w' → Calls Try.prog 30 #[.pointer (some ⟨g, 0, none⟩), (.agg #[.slice a12 n12 c12, .slice a22 n22 c22, .slice a32 n32 c32, .int .i64 ver2, .bool o2, .bool z2, .slice a42 n42 c42])] w' fun e w'' => e = .returned (.bool true) ∧ Sc w1 g s' c k R (.agg #[.slice a12 n12 c12, .slice a22 n22 c22, .slice a32 n32 c32, .int .i64 ver2, .bool o2, .bool z2, .slice a42 n42 c42]) (rfOf s') Q (.agg #[.slice a11 n11 c11, .slice a21 n21 c21, .slice a31 n31 c31, .int .i64 ver1, .bool o1, .bool z1, .slice a41 n41 c41]) w'') := Lib.hid (fun w' h => sc_same h)
              go_wp2_with fail
              refine (Hsame.out _ HS.out).mono ?_
              rintro e w6 ⟨rfl, hS6⟩
              have HS6 := Lib.hid hS6
              clear hS6
              clear r0 rf0 r1 rf1 r2 rf2 r3 rf3 r4 rf4 r5 rf5 r6 rf6
              cases hat : ((j : Int) == (st : Int) % 40)
              · go_wp2_with fail
                go_wp2_with fail
                refine (sc_img HS6.out).mono ?_
                rintro e w8 ⟨xa8, xc8, rfl, ho8, hb8⟩
                rcases Nat.eq_zero_or_pos s'.image.length with hz8 | hz8
                · rw [hz8]
                  have HF8 := Lib.hid (HS6.out.below hb8)
                  clear ho8 hb8
                  go_wp2
                  go_roundw
                  case rel => exact ⟨j + 1, c, s', k, (.agg #[.slice a12 n12 c12, .slice a22 n22 c22, .slice a32 n32 c32, .int .i64 ver2, .bool o2, .bool z2, .slice a42 n42 c42]), (.agg #[.slice a11 n11 c11, .slice a21 n21 c21, .slice a31 n31 c31, .int .i64 ver1, .bool o1, .bool z1, .slice a41 n41 c41]), by omega, by go_num, rfl, by omega, HF8.out⟩
                  case measure => simp [intOf]; omega
                · obtain ⟨q8, cap8, hv8, hq8, hq82, _⟩ : ∃ q cap, (Value.slice xa8 s'.image.length xc8) = .slice (some ⟨q, 0, none⟩) s'.image.length cap ∧ w6.heap.size ≤ q ∧ q < w8.heap.size ∧ s'.image.length ≤ cap := by
                    rcases own_cases ho8 with ⟨h, h0, _⟩ | h
                    · omega
                    · exact h
                  cases hv8
                  have d8 := own_cell ho8 rfl (j := 0) (u := byteV (s'.image[0]'hz8)) (by unfold bytesV; rw [List.getElem?_map, List.getElem?_eq_getElem hz8]; rfl)
                  have f8 : w8.frozen? ⟨q8, 0, none⟩ = false := by
                    obtain ⟨cur, hc⟩ := own_type ho8 (r := q8) rfl
                    exact box_free hc 0
                  simp only [byteV] at d8
                  have HB8 := Lib.hid hb8; have HQ8 := Lib.hid hq8
                  have hz8i : (0 : Int) < (s'.image.length : Int) := by omega
                  clear ho8 hb8 hq8
                  go_wp2
                  go_roundw
                  case rel => exact ⟨j + 1, c, s', k, (.agg #[.slice a12 n12 c12, .slice a22 n22 c22, .slice a32 n32 c32, .int .i64 ver2, .bool o2, .bool z2, .slice a42 n42 c42]), (.agg #[.slice a11 n11 c11, .slice a21 n21 c21, .slice a31 n31 c31, .int .i64 ver1, .bool o1, .bool z1, .slice a41 n41 c41]), by omega, by go_num, rfl, by omega, HS6.out.below (HB8.out.setCell HQ8.out _)⟩
                  case measure => simp [intOf]; omega
              · have HC6 : Hid (Calls Try.prog 25 #[.pointer (some ⟨g, 0, none⟩)] w6.drew fun e w' => ∃ c', e = .returned (.pointer (some ⟨c', 0, none⟩)) ∧ Below w6.drew.heap.size w6.drew w' ∧ RBox w' R (.agg #[.slice a12 n12 c12, .slice a22 n22 c22, .slice a32 n32 c32, .int .i64 ver2, .bool o2, .bool z2, .slice a42 n42 c42]) ∧ RBox w' Q (.agg #[.slice a11 n11 c11, .slice a21 n21 c21, .slice a31 n31 c31, .int .i64 ver1, .bool o1, .bool z1, .slice a41 n41 c41]) ∧
                    ∀ X : World, X.heap[Q]? = some (.cells (rfCells (.agg #[.slice a12 n12 c12, .slice a22 n22 c22, .slice a32 n32 c32, .int .i64 ver2, .bool o2, .bool z2, .slice a42 n42 c42])) 47 (0, 0)) → Keep [Q] w' X → Sc w1 g s' c' s' R (.agg #[.slice a12 n12 c12, .slice a22 n22 c22, .slice a32 n32 c32, .int .i64 ver2, .bool o2, .bool z2, .slice a42 n42 c42]) (rfOf s') Q (.agg #[.slice a12 n12 c12, .slice a22 n22 c22, .slice a32 n32 c32, .int .i64 ver2, .bool o2, .bool z2, .slice a42 n42 c42]) X) := Lib.hid (sc_clone HS6.out.drew)
                go_upto_region 29 with (fail)
                have hRc : w6.heap[R]? = some (.cells #[.slice a12 n12 c12, .slice a22 n22 c22, .slice a32 n32 c32, .int .i64 ver2, .bool o2, .bool z2, .slice a42 n42 c42] 47 (0, 0)) := HS6.out.rbox.2
                have hBl : ∀ x ∈ [R], ∃ c e f, w6.heap[x]? = some (.cells c e f) := fun x hx => by rw [List.mem_singleton.1 hx]; exact ⟨_, _, _, hRc⟩
                have HT0 := Lib.hid (same_start hBl)
                clear hRc
                have hr : w6.heap[R]? = some (.cells #[.slice a12 n12 c12, .slice a22 n22 c22, .slice a32 n32 c32, .int .i64 ver2, .bool o2, .bool z2, .slice a42 n42 c42] 47 (0, 0)) := HS6.out.rbox.2
                have r0 := box_at hr (j := 0) rfl
                have rf0 := box_free hr 0
                have r1 := box_at hr (j := 1) rfl
                have rf1 := box_free hr 1
                have r2 := box_at hr (j := 2) rfl
                have rf2 := box_free hr 2
                have r3 := box_at hr (j := 3) rfl
                have rf3 := box_free hr 3
                have r4 := box_at hr (j := 4) rfl
                have rf4 := box_free hr 4
                have r5 := box_at hr (j := 5) rfl
                have rf5 := box_free hr 5
                have r6 := box_at hr (j := 6) rfl
                have rf6 := box_free hr 6
                clear hr
                refine Txt.Ty.wp_tree [R] [2] [4] [2] [0, 2] (.alt [1, 3] (.alt [4] (.done) (.no)) (.no)) (by kernel_rfl) (by kernel_rfl) (by kernel_rfl) (by kernel_rfl) hBl ?_
                clear hBl
                (try simp only [Txt.pick, List.getElem?_cons_succ, List.getElem?_cons_zero])
                go_wp2
                refine Txt.RunPost.mk ?_
                refine Txt.Ty.wpTr_alt ?_ Txt.Ty.wpTr_no
                (try simp only [Txt.pick, List.getElem?_cons_succ, List.getElem?_cons_zero])
                go_wp2_with fail
                refine (HC6.out).mono ?_
                rintro e w7 ⟨c', rfl, hb7, hR7, hQ7, hX7⟩
                have HT7 := Lib.hid (show Txt.SameB [R] w6 w7 from same_below' (w0 := w6) (w1 := w6) HT0.out ((Below.refl w6.heap.size w6).drew.trans hb7))
                have HX7 := Lib.hid hX7; have HQ7 := Lib.hid hQ7
                clear r0 rf0 r1 rf1 r2 rf2 r3 rf3 r4 rf4 r5 rf5 r6 rf6
                clear hb7 hR7 hQ7 hX7
                have hq : w7.heap[Q]? = some (.cells #[.slice a11 n11 c11, .slice a21 n21 c21, .slice a31 n31 c31, .int .i64 ver1, .bool o1, .bool z1, .slice a41 n41 c41] 47 (0, 0)) := HQ7.out.2
                have q0 := box_at hq (j := 0) rfl
                have qf0 := box_free hq 0
                have q1 := box_at hq (j := 1) rfl
                have qf1 := box_free hq 1
                have q2 := box_at hq (j := 2) rfl
                have qf2 := box_free hq 2
                have q3 := box_at hq (j := 3) rfl
                have qf3 := box_free hq 3
                have q4 := box_at hq (j := 4) rfl
                have qf4 := box_free hq 4
                have q5 := box_at hq (j := 5) rfl
                have qf5 := box_free hq 5
                have q6 := box_at hq (j := 6) rfl
                have qf6 := box_free hq 6
                clear hq
                go_wp2
                refine Txt.SegPost.mk (Txt.Ty.Shown.same HT7.out) ?_
                (try simp only [Txt.pick, List.getElem?_cons_succ, List.getElem?_cons_zero])
                go_wp2
                refine Txt.RunPost.mk ?_
                refine Txt.Ty.wpTr_alt ?_ Txt.Ty.wpTr_no
                (try simp only [Txt.pick, List.getElem?_cons_succ, List.getElem?_cons_zero])
                go_wp2
                refine Txt.SegPost.mk (Txt.Ty.Shown.last rfl) ?_
                (try simp only [Txt.pick, List.getElem?_cons_succ, List.getElem?_cons_zero])
                refine Txt.RunPost.mk ?_
                refine Txt.Ty.wpTr_done (by rfl) ⟨.head _, trivial⟩ ?_
                go_upto_region 30 with (fail)
                obtain ⟨Y, hY⟩ : ∃ Y, Y = (((((((w7.setCell ⟨Q, 0, none⟩ (.slice a12 n12 c12)).setCell ⟨Q, 1, none⟩ (.slice a22 n22 c22)).setCell ⟨Q, 2, none⟩ (.slice a32 n32 c32)).setCell ⟨Q, 3, none⟩ (.int .i64 ver2)).setCell ⟨Q, 4, none⟩ (.bool o2)).setCell ⟨Q, 5, none⟩ (.bool z2)).setCell ⟨Q, 6, none⟩ (.slice a42 n42 c42)) := ⟨_, rfl⟩
                rw [← hY]
                obtain ⟨hgY, hkY⟩ := puts_at [(0, .slice a12 n12 c12), (1, .slice a22 n22 c22), (2, .slice a32 n32 c32), (3, .int .i64 ver2), (4, .bool o2), (5, .bool z2), (6, .slice a42 n42 c42)] HQ7.out.2
                have eY : puts w7 Q [(0, .slice a12 n12 c12), (1, .slice a22 n22 c22), (2, .slice a32 n32 c32), (3, .int .i64 ver2), (4, .bool o2), (5, .bool z2), (6, .slice a42 n42 c42)] = Y := hY.symm
                rw [eY] at hgY hkY
                have HS7 := Lib.hid (HX7.out Y hgY hkY)
                clear q0 qf0 q1 qf1 q2 qf2 q3 qf3 q4 qf4 q5 qf5 q6 qf6
                clear hgY hkY hY eY
                go_wp2_with fail
                refine (sc_img HS7.out).mono ?_
                rintro e w8 ⟨xa8, xc8, rfl, ho8, hb8⟩
                rcases Nat.eq_zero_or_pos s'.image.length with hz8 | hz8
                · rw [hz8]
                  have HF8 := Lib.hid (HS7.out.below hb8)
                  clear ho8 hb8
                  go_wp2
                  go_roundw
                  case rel => exact ⟨j + 1, c', s', s', (.agg #[.slice a12 n12 c12, .slice a22 n22 c22, .slice a32 n32 c32, .int .i64 ver2, .bool o2, .bool z2, .slice a42 n42 c42]), (.agg #[.slice a12 n12 c12, .slice a22 n22 c22, .slice a32 n32 c32, .int .i64 ver2, .bool o2, .bool z2, .slice a42 n42 c42]), by omega, by go_num, rfl, by omega, HF8.out⟩
                  case measure => simp [intOf]; omega
                · obtain ⟨q8, cap8, hv8, hq8, hq82, _⟩ : ∃ q cap, (Value.slice xa8 s'.image.length xc8) = .slice (some ⟨q, 0, none⟩) s'.image.length cap ∧ Y.heap.size ≤ q ∧ q < w8.heap.size ∧ s'.image.length ≤ cap := by
                    rcases own_cases ho8 with ⟨h, h0, _⟩ | h
                    · omega
                    · exact h
                  cases hv8
                  have d8 := own_cell ho8 rfl (j := 0) (u := byteV (s'.image[0]'hz8)) (by unfold bytesV; rw [List.getElem?_map, List.getElem?_eq_getElem hz8]; rfl)
                  have f8 : w8.frozen? ⟨q8, 0, none⟩ = false := by
                    obtain ⟨cur, hc⟩ := own_type ho8 (r := q8) rfl
                    exact box_free hc 0
                  simp only [byteV] at d8
                  have HB8 := Lib.hid hb8; have HQ8 := Lib.hid hq8
                  have hz8i : (0 : Int) < (s'.image.length : Int) := by omega
                  clear ho8 hb8 hq8
                  go_wp2
                  go_roundw
                  case rel => exact ⟨j + 1, c', s', s', (.agg #[.slice a12 n12 c12, .slice a22 n22 c22, .slice a32 n32 c32, .int .i64 ver2, .bool o2, .bool z2, .slice a42 n42 c42]), (.agg #[.slice a12 n12 c12, .slice a22 n22 c22, .slice a32 n32 c32, .int .i64 ver2, .bool o2, .bool z2, .slice a42 n42 c42]), by omega, by go_num, rfl, by omega, HS7.out.below (HB8.out.setCell HQ8.out _)⟩
                  case measure => simp [intOf]; omega
      · obtain rfl : j = n := by omega
        have hq : wr.heap[Q]? = some (.cells #[.slice a11 n11 c11, .slice a21 n21 c21, .slice a31 n31 c31, .int .i64 ver1, .bool o1, .bool z1, .slice a41 n41 c41] 47 (0, 0)) := HS0.out.qbox.2
        have q0 := box_at hq (j := 0) rfl
        have qf0 := box_free hq 0
        have q1 := box_at hq (j := 1) rfl
        have qf1 := box_free hq 1
        have q2 := box_at hq (j := 2) rfl
        have qf2 := box_free hq 2
        have q3 := box_at hq (j := 3) rfl
        have qf3 := box_free hq 3
        have q4 := box_at hq (j := 4) rfl
        have qf4 := box_free hq 4
        have q5 := box_at hq (j := 5) rfl
        have qf5 := box_free hq 5
        have q6 := box_at hq (j := 6) rfl
        have qf6 := box_free hq 6
        clear hq
        go_wp2_with fail
        refine (sc_kept HS0.out).mono ?_
        rintro e w9 ⟨rfl, hb9⟩
        go_wp2
        go_ret
        exact ⟨rfl, HB1.out.trans (hb9.mono HB1.out.size)⟩
end Go.Proofs.Ytnbngidelpodkaa
