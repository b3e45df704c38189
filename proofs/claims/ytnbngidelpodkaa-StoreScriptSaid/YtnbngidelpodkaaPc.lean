/- Store: Begin -/
import Derived.Test.YtnbngidelpodkaaPb
import Derived.Deep.CutRange
namespace Go.Im
open Go Go.RowKit Go.Bs Go.Cl Go.Rw Go.Un
variable {w w' : World} {base g h : Nat} {iv rv imv nxv chv : Value} {rz : Bool} {rs : List (Rec × Value)} {s : Ps}
theorem StB.nil_of (H : StB w base g h iv rv imv nxv chv rz rs s) (hs : s.inst = false) : rs = [] ∧ s.done = 0 ∧ s.next = [] := by
  have h1 := H.good.dl
  have h2 : s.steps = 0 := by simp [Ps.steps, hs]
  have h3 := H.rl
  exact ⟨List.eq_nil_of_length_eq_zero (by omega), by omega, H.good.off hs⟩
theorem same_put' {q p j : Nat} {u w : World} {v : Value} (h : Txt.SameB [q] u w) (hne : q ≠ p) : Txt.SameB [q] u (w.setCell ⟨p, j, none⟩ v) :=
  same_keep h ((Keep.refl [p] w).setCell (by simp) _) (fun x hx hm => by rw [List.mem_singleton] at hx hm; exact hne (hx.symm.trans hm))
theorem st_begun {u w2 w3 X : World} {cv v3 : Value} {b : List UInt8} (H : StB w base g h iv rv imv nxv chv rz rs s) (hs : s.inst = false) (hb : b.length ≤ 24000) (hU : Below w.heap.size w u) (hch : ChR (SF base g h iv rv) u cv (dif s.image b))
    (hL : LogAt w2 base h iv rv s.work rs true) (hk2 : Keep [h] u w2) (h3 : Below w2.heap.size w2 w3) (hown : w3.ownsRow w2.heap.size 5 1 v3 b.length (bytesV b))
    (hX : X.heap[g]? = some (.cells #[.pointer (some ⟨h, 0, none⟩), imv, v3, cv, .bool (rzb s.image b), .int .i64 (0 : Nat), .int .i64 (tot s.image b), .int .i64 s.ver, .int .u64 (sumOf s.image)] 66 (0, 0))) (hkX : Keep [g] w3 X) :
    StQ w base g h iv rv ⟨s.image, s.ver, true, b, 0⟩ X := by
  obtain ⟨hr, hd, hn⟩ := H.nil_of hs
  subst hr
  have inh : ∀ f ∈ [h], f ∈ g :: LogF h iv rv := fun f hf => by rw [List.mem_singleton.1 hf]; simp [LogF]
  have ing : ∀ f ∈ [g], f ∈ g :: LogF h iv rv := fun f hf => by rw [List.mem_singleton.1 hf]; simp
  have kuX : Keep (g :: LogF h iv rv) u X := ((hk2.mono (fun f hf => .inl (inh f hf))).trans (Keep.of_below' (F := []) h3) (fun f hf => by cases hf)).trans hkX (fun f hf => .inl (ing f hf))
  have kAll : Keep (g :: LogF h iv rv) w X := (Keep.of_below' hU).trans kuX (fun f hf => .inl hf)
  have hw : s.work = s.image := by simp [Ps.work, hs]
  have hw2 : (⟨s.image, s.ver, true, b, 0⟩ : Ps).work = s.image := wk_zero _ _
  rw [hw] at hL
  have hL3 := LogAt.beside (hL.below h3) hkX H.hn (fun p hp => by cases hp)
  have hsu := hU.size; have hs2 := hk2.size
  refine ⟨iv, rv, ⟨imv, v3, cv, rzb s.image b, [], { good := ⟨H.good.il, hb, H.good.vl, Nat.zero_le _, fun h => by cases h⟩, hg := H.hg, hc := hX, hl := by rw [hw2]; exact hL3, hn := H.hn, hi := Raw.keep H.hi kAll (fun f hf => .inl (mem_sf hf)) (fun f hf => .inl hf), hx := ?_, hch := ChR.keepc hch kuX (fun f hf => .inl (mem_sf hf)) (fun f hf => .inl hf), hr := (fun p hp => by cases hp), ok := (fun p hp => by cases hp), tk := hw2, rl := rfl, rzv := fun _ => rfl }⟩, kAll, fun f hf => .inl hf⟩
  have h1 : Bytes (SF base g h iv rv) w3 v3 b := Bytes.row hown rfl (fun f hf => by have := H.sbase f hf; omega)
  exact Raw.keep h1 hkX (fun f hf => .inl (mem_sf (ing f hf))) (fun f hf => .inl hf)
end Go.Im
namespace Go.Proofs.Ytnbngidelpodkaa
open Go.RowKit Go.Bs Go.Cl Go.Rw Go.Un Go.Im
set_option maxRecDepth 100000 in
set_option maxHeartbeats 4000000 in
theorem stbegin_yes {base g h : Nat} {iv rv : Value} {s : Ps} (bv : Value) (b : List UInt8) (w : World) (H : StAt w base g h iv rv s) (hs : s.inst = false) (hb : b.length ≤ 24000) (hB : Bytes (g :: LogF h iv rv) w bv b) :
    Calls Try.prog 11 #[.pointer (some ⟨g, 0, none⟩), bv] w fun e w' => e = .returned (.tuple #[.int .i64 (tot s.image b), .int .i64 0]) ∧ StQ w base g h iv rv ⟨s.image, s.ver, true, b, 0⟩ w' := by
  have HI := Lib.hid (inst_any w H)
  obtain ⟨imv, nxv, chv, rz, rs, H⟩ := H
  obtain ⟨image, ver, inst, next, done⟩ := s
  simp only at hs
  subst hs
  obtain ⟨_, hd, hnx⟩ := H.nil_of rfl
  simp only at hd hnx HI
  subst hd hnx
  have hil : image.length ≤ 24000 := H.good.il
  have hvl : (ver : Int) ≤ 1000000 := by have := H.good.vl; simp only at this; omega
  obtain ⟨ia, ic, rfl⟩ := Raw.slice H.hi
  obtain ⟨ba, bc, rfl⟩ := Raw.slice hB
  have HS := Lib.hid H
  have HBw := Lib.hid hB
  have hgw := H.lt
  have c1 := box_at H.hc (j := 1) rfl
  have hbl : (b.length : Int) ≤ 24000 := by omega
  obtain ⟨T, hT⟩ : ∃ T, T = tot image b := ⟨_, rfl⟩
  obtain ⟨L, hL⟩ : ∃ L, L = (dif image b).length := ⟨_, rfl⟩
  have hLs : L ≤ 1000 := by rw [hL]; have := dif_len image b; unfold cnt at this; omega
  obtain ⟨z, hz⟩ : ∃ z, z = rzb image b := ⟨_, rfl⟩
  have hzn : ((b.length : Int) != (image.length : Int)) = z := by
    rw [hz]; unfold rzb; by_cases e : b.length = image.length
    · simp [e]
    · simp [e]; omega
  have hTL : T = L + z.toNat := by rw [hT, hL, hz, ← rzn_of]; rfl
  have HT := Lib.hid hT; have HLn := Lib.hid hL; have HZ := Lib.hid hz; have HTL := Lib.hid hTL
  have HH := Lib.hid (show g ≠ h from fun e => H.hn (by simp [LogF, e]))
  simp only
  rw [← hT]
  clear H hB hT hL hz hTL
  go_enter Try.func11, Try.ntmps11
  go_wp2_with fail
  refine HI.out.mono ?_
  rintro e w' ⟨rfl, rfl⟩
  go_wp2_with fail
  refine (diff_any (F := []) _ _ image b _ hil hb (Raw.keep (F' := []) HS.out.hi (Keep.refl [] _) (by simp) (by simp)) (Raw.keep (F' := []) HBw.out (Keep.refl [] _) (by simp) (by simp))).mono ?_
  rintro e w1 ⟨cv, rfl, hch, hb1⟩
  obtain ⟨ca, cc, rfl⟩ := hch.slicec
  rw [← HLn.out] at hch ⊢
  have al := (Below.refl w1.heap.size w1).alloc (Nat.le_refl _) (.cells #[.int .i64 b.length, .slice ca L cc] 68)
  obtain ⟨u, hu⟩ : ∃ u, u = w1.alloc (.cells #[.int .i64 b.length, .slice ca L cc] 68) := ⟨_, rfl⟩
  obtain ⟨q, hq⟩ : ∃ q, q = w1.heap.size := ⟨_, rfl⟩
  have HU : Hid (Below w.heap.size w u) := Lib.hid (by rw [hu]; exact hb1.trans (al.mono hb1.size))
  have HQ : Hid (u.heap[q]? = some (.cells #[.int .i64 b.length, .slice ca L cc] 68 (0, 0))) := Lib.hid (by rw [hu, hq]; exact heap_alloc_new w1 _)
  have HC : Hid (ChR (SF base g h iv rv) u (.slice ca L cc) (dif image b)) := Lib.hid (by
    obtain ⟨cs, k1, k2, k3⟩ := hch
    have lt := HS.out.sbase
    rw [hu]
    exact ChR.keepc (F := SF base g h iv rv) ⟨cs, k1, Raw.apart k2 lt, fun p hp => Raw.apart (k3 p hp) lt⟩ (Keep.of_below' (F := []) al) (fun f hf => by cases hf) (fun f hf => .inl hf))
  have HQG : Hid (q ≠ g ∧ q ≠ h) := Lib.hid (by
    have s1 := hb1.size
    have l2 := HS.out.hl.lt
    constructor <;> omega)
  have HSu := Lib.hid (HS.out.below HU.out)
  have hcu0 := box_at HSu.out.hc (j := 0) rfl
  have HUE := Lib.hid hu; have HQE := Lib.hid hq
  clear hch hb1 al hu hq c1
  go_upto_region 6 with (fail)
  rw [← HUE.out, ← HQE.out]
  go_wp2_with fail
  refine (begin_any _ HSu.out.hl).mono ?_
  rintro e w2 ⟨rfl, hL2, hk2⟩
  have HL2 := Lib.hid hL2; have HK2 := Lib.hid hk2
  have HG2 := Lib.hid ((hk2.block g (Array.getElem?_eq_some_iff.1 HSu.out.hc).1 (by simpa using HH.out)).trans HSu.out.hc)
  have HQ2 := Lib.hid ((hk2.block q (Array.getElem?_eq_some_iff.1 HQ.out).1 (by simpa using HQG.out.2)).trans HQ.out)
  have inh : Hid (∀ f ∈ [h], f ∈ g :: LogF h iv rv ∨ u.heap.size ≤ f) := Lib.hid (fun f hf => .inl (by rw [List.mem_singleton.1 hf]; simp [LogF]))
  have HB2 := Lib.hid (Raw.keep (F' := []) (Raw.below HBw.out HU.out) hk2 inh.out (by simp))
  have hBl : ∀ x ∈ [q], ∃ c e f, w2.heap[x]? = some (.cells c e f) := fun x hx => by rw [List.mem_singleton.1 hx]; exact ⟨_, _, _, HQ2.out⟩
  have HS0 := Lib.hid (same_start hBl)
  have q1 : w2.cell? ⟨q, 1, none⟩ = some (.slice ca L cc) := box_at HQ2.out (j := 1) rfl
  clear hL2 hk2 hcu0
  go_upto_region 7 with (fail)
  refine Txt.Ty.wp_tree [q] [6] [12, 15] [6] [0, 1, 2, 3, 5, 6] (.alt [4, 7, 8] (.alt [9, 10, 11] (.alt [12, 13, 14] (.alt [15] (.done) (.no)) (.no)) (.no)) (.no)) (by kernel_rfl) (by kernel_rfl) (by kernel_rfl) (by kernel_rfl) hBl ?_
  clear hBl
  (try simp only [Txt.pick, List.getElem?_cons_succ, List.getElem?_cons_zero])
  go_wp2
  refine Txt.RunPost.mk ?_
  refine Txt.Ty.wpTr_alt ?_ Txt.Ty.wpTr_no
  (try simp only [Txt.pick, List.getElem?_cons_succ, List.getElem?_cons_zero])
  go_wp2_with fail
  refine (clone33 _ (by omega) (Raw.drew HB2.out)).mono ?_
  rintro e w3 ⟨v3, rfl, hown3, hb3⟩
  obtain ⟨va, vc, rfl⟩ := own_slice hown3
  have HB3 : Hid (Below w2.heap.size w2 w3) := Lib.hid ((Below.refl w2.heap.size w2).drew.trans hb3)
  have HO3 := Lib.hid hown3
  have HS3 := Lib.hid (same_below' HS0.out hb3)
  have HG3 := Lib.hid ((HB3.out.block g (Array.getElem?_eq_some_iff.1 HG2.out).1).trans HG2.out)
  have f2 := box_free HG3.out 2
  have f3 := box_free HG3.out 3
  have f5 := box_free HG3.out 5
  have c2 := box_at HG3.out (j := 2) rfl
  have c3 := box_at HG3.out (j := 3) rfl
  have c5 := box_at HG3.out (j := 5) rfl
  clear hb3 hown3 q1
  go_wp2
  refine Txt.SegPost.mk (Txt.Ty.Shown.same HS3.out) ?_
  (try simp only [Txt.pick, List.getElem?_cons_succ, List.getElem?_cons_zero])
  go_wp2
  refine Txt.RunPost.mk ?_
  refine Txt.Ty.wpTr_alt ?_ Txt.Ty.wpTr_no
  (try simp only [Txt.pick, List.getElem?_cons_succ, List.getElem?_cons_zero])
  go_wp2
  refine Txt.SegPost.mk (Txt.Ty.Shown.same (same_put' HS3.out HQG.out.1)) ?_
  (try simp only [Txt.pick, List.getElem?_cons_succ, List.getElem?_cons_zero])
  go_wp2
  refine Txt.RunPost.mk ?_
  refine Txt.Ty.wpTr_alt ?_ Txt.Ty.wpTr_no
  (try simp only [Txt.pick, List.getElem?_cons_succ, List.getElem?_cons_zero])
  go_wp2
  refine Txt.SegPost.mk (Txt.Ty.Shown.last rfl) ?_
  (try simp only [Txt.pick, List.getElem?_cons_succ, List.getElem?_cons_zero])
  go_wp2
  refine Txt.RunPost.mk ?_
  refine Txt.Ty.wpTr_alt ?_ Txt.Ty.wpTr_no
  (try simp only [Txt.pick, List.getElem?_cons_succ, List.getElem?_cons_zero])
  go_wp2
  refine Txt.SegPost.mk (Txt.Ty.Shown.last rfl) ?_
  (try simp only [Txt.pick, List.getElem?_cons_succ, List.getElem?_cons_zero])
  refine Txt.RunPost.mk ?_
  refine Txt.Ty.wpTr_done (by rfl) ⟨.head _, trivial⟩ ?_
  go_upto_region 8 with (fail)
  obtain ⟨X, hX⟩ : ∃ X, X = ((w3.setCell ⟨g, 2, none⟩ (.slice va b.length vc)).setCell ⟨g, 3, none⟩ (.slice ca L cc)).setCell ⟨g, 5, none⟩ (.int .i64 0) := ⟨_, rfl⟩
  rw [← hX]
  obtain ⟨hgX, hkX⟩ := puts_at [(2, .slice va b.length vc), (3, .slice ca L cc), (5, .int .i64 0)] HG3.out
  have eX : puts w3 g [(2, .slice va b.length vc), (3, .slice ca L cc), (5, .int .i64 0)] = X := hX.symm
  rw [eX] at hgX hkX
  have HGX : Hid (X.heap[g]? = some (.cells #[.pointer (some ⟨h, 0, none⟩), .slice ia image.length ic, .slice va b.length vc, .slice ca L cc, .bool rz, .int .i64 0, .int .i64 0, .int .i64 ver, .int .u64 (sumOf image)] 66 (0, 0))) := Lib.hid hgX
  have HKX := Lib.hid hkX
  have HQX := Lib.hid ((hkX.block q (Array.getElem?_eq_some_iff.1 (HB3.out.block q (Array.getElem?_eq_some_iff.1 HQ2.out).1 |>.trans HQ2.out)).1 (by simpa using HQG.out.1)).trans ((HB3.out.block q (Array.getElem?_eq_some_iff.1 HQ2.out).1).trans HQ2.out))
  have hBl : ∀ x ∈ [q], ∃ c e f, X.heap[x]? = some (.cells c e f) := fun x hx => by rw [List.mem_singleton.1 hx]; exact ⟨_, _, _, HQX.out⟩
  have HSX := Lib.hid (same_start hBl)
  clear hgX hkX hX eX c2 c3 c5 f2 f3 f5
  have q1 : X.cell? ⟨q, 1, none⟩ = some (.slice ca L cc) := box_at HQX.out (j := 1) rfl
  have c1 : X.cell? ⟨g, 1, none⟩ = some (.slice ia image.length ic) := box_at HGX.out (j := 1) rfl
  have c4 : X.cell? ⟨g, 4, none⟩ = some (.bool rz) := box_at HGX.out (j := 4) rfl
  have c6 : X.cell? ⟨g, 6, none⟩ = some (.int .i64 0) := box_at HGX.out (j := 6) rfl
  have f4 := box_free HGX.out 4
  have f6 := box_free HGX.out 6
  refine Txt.Ty.wp_tree [q] [11] [18] [7, 11] [0, 1, 2, 3, 4, 5, 6, 7, 8, 9, 10, 11, 12, 13, 14] (.alt [15, 16, 17] (.alt [18] (.done) (.no)) (.no)) (by kernel_rfl) (by kernel_rfl) (by kernel_rfl) (by kernel_rfl) hBl ?_
  clear hBl
  (try simp only [Txt.pick, List.getElem?_cons_succ, List.getElem?_cons_zero])
  go_wp2
  refine Txt.RunPost.mk ?_
  refine Txt.Ty.wpTr_alt ?_ Txt.Ty.wpTr_no
  (try simp only [Txt.pick, List.getElem?_cons_succ, List.getElem?_cons_zero])
  go_wp2
  refine Txt.SegPost.mk (Txt.Ty.Shown.same (same_put' HSX.out HQG.out.1)) ?_
  (try simp only [Txt.pick, List.getElem?_cons_succ, List.getElem?_cons_zero])
  go_wp2
  refine Txt.RunPost.mk ?_
  refine Txt.Ty.wpTr_alt ?_ Txt.Ty.wpTr_no
  (try simp only [Txt.pick, List.getElem?_cons_succ, List.getElem?_cons_zero])
  go_wp2
  refine Txt.SegPost.mk (Txt.Ty.Shown.last rfl) ?_
  (try simp only [Txt.pick, List.getElem?_cons_succ, List.getElem?_cons_zero])
  refine Txt.RunPost.mk ?_
  refine Txt.Ty.wpTr_done (by rfl) ⟨.head _, trivial⟩ ?_
  go_upto_region 9 with (fail)
  first | rw [hzn] | skip
  obtain ⟨Y, hY⟩ : ∃ Y, Y = ((X.setCell ⟨g, 4, none⟩ (.bool z)).setCell ⟨g, 6, none⟩ (.int .i64 L)).drew := ⟨_, rfl⟩
  rw [← hY]
  obtain ⟨hgY, hkY⟩ := puts_at [(4, .bool z), (6, .int .i64 L)] HGX.out
  have hkY' : Keep [g] X Y := by rw [hY]; exact Keep.drew hkY
  have hgY' : Y.heap[g]? = some (.cells #[.pointer (some ⟨h, 0, none⟩), .slice ia image.length ic, .slice va b.length vc, .slice ca L cc, .bool z, .int .i64 0, .int .i64 L, .int .i64 ver, .int .u64 (sumOf image)] 66 (0, 0)) := by rw [hY]; exact hgY
  have HGY := Lib.hid hgY'
  have HKY := Lib.hid (HKX.out.trans hkY' (fun f hf => .inl hf))
  have c4 : Y.cell? ⟨g, 4, none⟩ = some (.bool z) := box_at HGY.out (j := 4) rfl
  have c6 : Y.cell? ⟨g, 6, none⟩ = some (.int .i64 L) := box_at HGY.out (j := 6) rfl
  have f6 := box_free HGY.out 6
  clear hgY hgY' hkY hkY' hY c1 q1 f4
  have hLi : (L : Int) ≤ 1000 := by omega
  have fin := fun (Z : World) (hkZ : Keep [g] Y Z) (hZ : Z.heap[g]? = some (.cells #[.pointer (some ⟨h, 0, none⟩), .slice ia image.length ic, .slice va b.length vc, .slice ca L cc, .bool z, .int .i64 0, .int .i64 T, .int .i64 ver, .int .u64 (sumOf image)] 66 (0, 0))) =>
    st_begun (X := Z) HS.out rfl hb HU.out HC.out HL2.out HK2.out HB3.out HO3.out (by rw [HT.out, HZ.out] at *; exact hZ) (HKY.out.trans hkZ (fun f hf => .inl hf))
  have HF := Lib.hid fin
  clear fin
  cases z
  · have hTL : T = L := by have := HTL.out; simpa using this
    subst hTL
    go_wp2
    go_ret2
    exact ⟨rfl, HF.out _ (Keep.refl _ _) HGY.out⟩
  · have hTL : T = L + 1 := by have := HTL.out; simpa using this
    have HTe := Lib.hid hTL
    clear hTL
    go_wp2
    go_ret2
    have hTi : (T : Int) = (L : Int) + 1 := by have := HTe.out; omega
    refine ⟨by rw [hTi]; rfl, HF.out _ (puts_at [(6, .int .i64 ((L : Int) + 1))] HGY.out).2 (by rw [hTi]; exact (puts_at [(6, .int .i64 ((L : Int) + 1))] HGY.out).1)⟩
set_option maxHeartbeats 1000000 in
theorem stbegin_no {base g h : Nat} {iv rv : Value} {s : Ps} (bv : Value) (w : World) (H : StAt w base g h iv rv s) (hs : s.inst = true) :
    Calls Try.prog 11 #[.pointer (some ⟨g, 0, none⟩), bv] w fun e w' => e = .returned (.tuple #[.int .i64 0, .int .i64 7]) ∧ w = w' := by
  have HI := Lib.hid (inst_any w H)
  rw [hs] at HI
  clear H hs
  go_enter Try.func11, Try.ntmps11
  go_wp2_with fail
  refine HI.out.mono ?_
  rintro e w' ⟨rfl, rfl⟩
  go_wp2
  go_ret2
  exact ⟨rfl, rfl⟩
set_option maxHeartbeats 1000000 in
theorem stbegin_nil (bv : Value) (w : World) :
    Calls Try.prog 11 #[.pointer none, bv] w fun e w' => e = .returned (.tuple #[.int .i64 0, .int .i64 7]) ∧ w = w' := by
  go_enter Try.func11, Try.ntmps11
  go_wp2
  go_ret2
  exact ⟨rfl, rfl⟩
end Go.Proofs.Ytnbngidelpodkaa
