/- Revive: ReviveInverse: the law walked -/
import Derived.Test.YthmnhpakgjnngaaDoorXe
import Derived.Test.YthmnhpakgjnngaaDoorXf
import Derived.Test.YthmnhpakgjnngaaDoorXg
import Derived.Deep.CutRange
import Derived.WalkMore
namespace Go.Rv
open Go Go.RowKit Go.Bs Go.Cl Go.Rw Go.Dt
/-- a message in a row: its numbers, and its data's slice -/
structure Mg where
  m : Ms
  da : Option Addr
  dn : Nat
  dc : Nat
def encMg (x : Mg) : List Value := [.int .i64 x.m.src, .int .i64 x.m.dst, .int .i64 x.m.kind, .int .i64 x.m.seq, .int .i64 x.m.a0, .int .i64 x.m.a1, .int .i64 x.m.a2, .int .i64 x.m.a3, .slice x.da x.dn x.dc]
theorem encMg_len (x : Mg) : (encMg x).length = 9 := rfl
def Msgs (w : World) (v : Value) (L : List Mg) : Prop := Raw [] 9 w v L.length (L.flatMap encMg) ∧ ∀ x ∈ L, fits x.m.kind
theorem Msgs.elem {w : World} {a : Option Addr} {n c : Nat} {L : List Mg} (h : Msgs w (.slice a n c) L) {i : Nat} (hi : i < L.length) :
    ∃ b off, a = some ⟨b, off, none⟩ ∧ b < w.heap.size ∧ (∀ j u, (encMg L[i])[j]? = some u → w.cell? ⟨b, off + i * 9 + j, none⟩ = some u) ∧ fits L[i].m.kind := by
  have hget : L[i]? = some L[i] := List.getElem?_eq_getElem hi
  have hb2 := h.2 _ (List.getElem_mem hi)
  rcases Raw.cases h.1 with ⟨h0, _⟩ | ⟨_, b, off, cap, hv, _, _, hb, _, hc⟩
  · omega
  · cases hv
    refine ⟨b, off, rfl, hb, fun j u hj => ?_, hb2⟩
    have hj9 : j < 9 := by have := (List.getElem?_eq_some_iff.1 hj).1; simpa [encMg_len] using this
    have := hc _ _ ((flat_get encMg encMg_len L i j _ hget hj9).trans hj)
    rw [Nat.add_assoc]; exact this
theorem raw_new {F : List Nat} {k n N : Nat} {w : World} {v : Value} {xs : List Value} (h : Raw F k w v n xs) (hN : N = w.heap.size) : Raw (N :: F) k w v n xs :=
  Raw.fresh h (fun f hf => (List.mem_cons.1 hf).elim (fun e => .inr (by omega)) .inl)
/-- what Handle has left -/
def NxP (RS : Option (Sv × List Ef)) (S : Nat) (w : World) (er rv : Int) (wv hv ev : Value) : Prop := match RS with
  | none => ev = .slice none 0 0 ∧ er = 23
  | some (x', es) => er = 0 ∧ rv = x'.r ∧ Ints [S] w wv x'.wt ∧ Raw [S] 3 w hv x'.hs.length (x'.hs.flatMap encH) ∧ SlE w ev es
end Go.Rv
namespace Go.Proofs.YthmnhpakgjnngaaDoor
open Go.RowKit Go.Bs Go.Cl Go.Rw Go.Dt Go.Rv Go.Wi
set_option maxRecDepth 100000 in
set_option maxHeartbeats 8000000 in
theorem inverse_any (L : List Mg) (v : Value) (w0 : World) (hF : FormsAt w0) (hR : Msgs w0 v L) :
    Calls Tryd.prog 5 #[v] w0 fun e w' => e = .returned (.bool true) ∧ Below w0.heap.size w0 w' := by
  obtain ⟨a, cap, rfl⟩ := Raw.slice hR.1
  have h0 := hF.pos
  have HF := Lib.hid hF; have HR := Lib.hid hR
  clear hF hR
  go_enter Tryd.func5, Tryd.ntmps5
  go_wp2_with fail
  refine (awake_any w0 HF.out).mono ?_
  rintro e w1 ⟨rfl, hb1⟩
  by_cases hn : 40 < L.length
  · have hn' : (40 : Int) < L.length := by omega
    have HB1 := Lib.hid hb1; clear hb1
    go_wp2
    go_ret
    exact ⟨rfl, HB1.out⟩
  have hn' : ¬ (40 : Int) < L.length := by omega
  go_wp2_with fail
  refine (new_any w1).mono ?_
  rintro e w2 ⟨rfl, hb2⟩
  have HB2 := Lib.hid (hb1.trans (hb2.mono hb1.size))
  have hs2 := HB2.out.size
  clear hb1 hb2
  go_upto_region 6 with (fail)
  obtain ⟨w3, hw3⟩ : ∃ X, X = w2.alloc (.cells #[.int .i64 0, .slice none 0 0, .slice none 0 0] 29) := ⟨_, rfl⟩
  rw [← hw3]
  obtain ⟨S, hS⟩ : ∃ S, S = w2.heap.size := ⟨_, rfl⟩
  rw [← hS]
  have hb3 : Below w2.heap.size w2 w3 := by rw [hw3]; exact (Below.refl _ _).alloc (Nat.le_refl _) _
  have hSb : w3.heap[S]? = some (.cells #[.int .i64 0, .slice none 0 0, .slice none 0 0] 29 (0, 0)) := by
    rw [hw3, hS]; exact heap_alloc_new w2 _
  have HB3 := Lib.hid (HB2.out.trans (hb3.mono hs2))
  have hSw : w0.heap.size ≤ S := by omega
  have HSb := Lib.hid hSb
  clear hw3 hS hb3 hSb HB2 hs2
  go_wp2
  go_loopw [4] (fun i w10 => ∃ k : Nat, k ≤ L.length ∧ i = .int .i64 k ∧ ∃ (x : Sv) (wa ha : Option Addr) (wc hc : Nat), VOk x ∧ w10.heap[S]? = some (.cells #[.int .i64 x.r, .slice wa x.wt.length wc, .slice ha x.hs.length hc] 29 (0, 0)) ∧ Ints [S] w10 (.slice wa x.wt.length wc) x.wt ∧ Raw [S] 3 w10 (.slice ha x.hs.length hc) x.hs.length (x.hs.flatMap encH) ∧ Below w0.heap.size w0 w10) (fun i _ => L.length - (intOf i).toNat)
  case atStart => exact ⟨0, Nat.zero_le _, rfl, S0, none, none, 0, 0, S0_ok, HSb.out, Raw.empty _ _ _, Raw.empty _ _ _, HB3.out⟩
  case round =>
    clear HSb HB3
    rename World => w10
    obtain ⟨k, hk, rfl, x, wa, ha, wc, hc, hok, hSb, hi, hh, bel10⟩ := hrel
    have HOK := Lib.hid hok; have HT10 := Lib.hid hSb; have HI10 := Lib.hid hi; have HJ10 := Lib.hid hh
    have hl1 : x.wt.length ≤ 1000 := by have := hok.len; omega
    have hl2 : x.hs.length ≤ 1000 := by have := validH_len hok.h; omega
    have HDX : Hid (decV (encV x) 10 = some x) := Lib.hid (by rw [encV_true hok]; exact decV_enc hok (by omega))
    clear hok hSb hi hh
    by_cases hlt : k < L.length
    · obtain ⟨ba, oa, rfl, hba, hM, hfk⟩ := HR.out.elem hlt
      obtain ⟨y, hy⟩ : ∃ y, y = L[k] := ⟨_, rfl⟩
      rw [← hy] at hM hfk
      clear hy
      obtain ⟨⟨ms, md, mk, mq, m0, m1, m2, m3⟩, da, dn, dc⟩ := y
      dsimp only [encMg] at hM hfk
      have HM := Lib.hid hM; have HFK := Lib.hid hfk
      clear hM hfk
      obtain ⟨RS, hRS⟩ : ∃ r, handleV x ⟨ms, md, mk, mq, m0, m1, m2, m3⟩ dn = r := ⟨_, rfl⟩
      have HRS := Lib.hid hRS
      clear hRS
      have r8 := (bel10.cell (p := ⟨ba, oa + k * 9 + 8, none⟩) hba).trans (HM.out 8 _ rfl)
      by_cases hdn : 200 < dn
      · have hdn' : (200 : Int) < dn := by omega
        go_wp2
        go_ret
        exact ⟨rfl, bel10⟩
      have hdn' : ¬ (200 : Int) < dn := by omega
      have cT_0 := box_at HT10.out (j := 0) rfl
      have cT_1 := box_at HT10.out (j := 1) rfl
      have cT_2 := box_at HT10.out (j := 2) rfl
      go_wp2_with fail
      refine (encode_any x _ _ w10 hl1 hl2 (Raw.to_nil HI10.out) (Raw.to_nil HJ10.out)).mono ?_
      rintro e w11 ⟨v11, rfl, hr11, hb11⟩
      clear r8 cT_0 cT_1 cT_2
      have HT11 := Lib.hid ((hb11.block S (Array.getElem?_eq_some_iff.1 HT10.out).1).trans HT10.out)
      have HI11 := Lib.hid (Raw.below HI10.out hb11)
      have HJ11 := Lib.hid (Raw.below HJ10.out hb11)
      clear HT10 HI10 HJ10
      have bel11 := bel10.trans (hb11.mono bel10.size)
      have HB11 : Hid (Bytes [] w11 v11 (encV x)) := Lib.hid (BRow.bytes (F := []) hr11 (fun f hf => by cases hf))
      obtain ⟨ia, ic, rfl⟩ := own_slice hr11
      clear hr11 hb11
      go_wp2_with fail
      refine (decode_any _ (encV x) w11 HB11.out (Nat.le_trans (encV_len x) (by decide))).mono ?_
      rintro e w12 ⟨hb12, hres⟩
      rw [HDX.out] at hres
      obtain ⟨sv, rfl, hsv⟩ := hres
      have HT12 := Lib.hid ((hb12.block S (Array.getElem?_eq_some_iff.1 HT11.out).1).trans HT11.out)
      have HI12 := Lib.hid (Raw.below HI11.out hb12)
      have HJ12 := Lib.hid (Raw.below HJ11.out hb12)
      have HB12 := Lib.hid (Raw.below HB11.out hb12)
      clear HT11 HI11 HJ11 HB11
      have bel12 := bel11.trans (hb12.mono bel11.size)
      obtain ⟨pv, qv, rfl, hp, hq⟩ := hsv.toV
      obtain ⟨pa, pc, rfl⟩ := Raw.slice hp
      obtain ⟨qa, qc, rfl⟩ := Raw.slice hq
      clear hsv
      have HP12 : Hid (Ints [] w12 (.slice pa x.wt.length pc) x.wt) := Lib.hid (hp)
      have HQ12 : Hid (Raw [] 3 w12 (.slice qa x.hs.length qc) x.hs.length (x.hs.flatMap encH)) := Lib.hid (hq)
      clear hp hq hb12
      obtain ⟨K, hK⟩ : ∃ O, O = w12.heap.size := ⟨_, rfl⟩
      obtain ⟨w13, hw13⟩ : ∃ W, W = w12.alloc (.cells #[.int .i64 x.r, .slice pa x.wt.length pc, .slice qa x.hs.length qc] 29) := ⟨_, rfl⟩
      have hb13 : Below w12.heap.size w12 w13 := by rw [hw13]; exact (Below.refl _ _).alloc (Nat.le_refl _) _
      have hxK : w13.heap[K]? = some (.cells #[.int .i64 x.r, .slice pa x.wt.length pc, .slice qa x.hs.length qc] 29 (0, 0)) := by rw [hw13, hK]; exact heap_alloc_new w12 _
      have HW13 := Lib.hid hw13
      have HRK := Lib.hid hK
      clear hw13 hK
      go_upto_region 13 with (fail)
      rw [← HW13.out, ← HRK.out]
      clear HW13 HRK
      have HT13 := Lib.hid ((hb13.block S (Array.getElem?_eq_some_iff.1 HT12.out).1).trans HT12.out)
      have HI13 := Lib.hid (Raw.below HI12.out hb13)
      have HJ13 := Lib.hid (Raw.below HJ12.out hb13)
      have HB13 := Lib.hid (Raw.below HB12.out hb13)
      have HP13 := Lib.hid (Raw.below HP12.out hb13)
      have HQ13 := Lib.hid (Raw.below HQ12.out hb13)
      clear HT12 HI12 HJ12 HB12 HP12 HQ12
      have bel13 := bel12.trans (hb13.mono bel12.size)
      have HK13 := Lib.hid (hxK)
      clear hb13 hxK
      go_upto_region 13 with (fail)
      have HBL13 : Hid (∀ q ∈ [S], ∃ cc e f, w13.heap[q]? = some (.cells cc e f)) := Lib.hid (by
        intro q hq
        simp only [List.mem_cons, List.not_mem_nil, or_false] at hq
        rcases hq with rfl <;> first | exact ⟨_, _, _, HT13.out⟩)
      have hBl := show ∀ q ∈ [S], ∃ cc e f, w13.heap[q]? = some (.cells cc e f) from HBL13.out
      clear HBL13
      refine Txt.Ty.wp_tree [S] [10] [] [3, 8, 10] [0, 1, 2, 3] (.alt [4, 5, 6, 7, 8, 10] (.alt [9] (.alt [11] (.alt [12, 13, 14] (.done) (.no)) (.no)) (.no)) (.no)) (by kernel_rfl) (by kernel_rfl) (by kernel_rfl) (by kernel_rfl) hBl ?_
      obtain ⟨w14, hwd⟩ : ∃ y, y = w13.drew := ⟨_, rfl⟩
      have HS14 : Hid (Txt.SameB [S] w14 w14) := Lib.hid (by rw [hwd]; exact same_start hBl)
      clear hBl
      rw [← hwd]
      have hdr : Below w13.heap.size w13 w14 := by rw [hwd]; exact (Below.refl _ _).drew
      have HT14 := Lib.hid ((hdr.block S (Array.getElem?_eq_some_iff.1 HT13.out).1).trans HT13.out)
      have HI14 := Lib.hid (Raw.below HI13.out hdr)
      have HJ14 := Lib.hid (Raw.below HJ13.out hdr)
      have HB14 := Lib.hid (Raw.below HB13.out hdr)
      have HP14 := Lib.hid (Raw.below HP13.out hdr)
      have HQ14 := Lib.hid (Raw.below HQ13.out hdr)
      have HK14 := Lib.hid ((hdr.block K (Array.getElem?_eq_some_iff.1 HK13.out).1).trans HK13.out)
      clear HT13 HI13 HJ13 HB13 HP13 HQ13 HK13
      have bel14 := bel13.trans (hdr.mono bel13.size)
      clear hdr hwd
      have cT_0 := box_at HT14.out (j := 0) rfl
      have cT_1 := box_at HT14.out (j := 1) rfl
      have cT_2 := box_at HT14.out (j := 2) rfl
      have cK_0 := box_at HK14.out (j := 0) rfl
      have cK_1 := box_at HK14.out (j := 1) rfl
      have cK_2 := box_at HK14.out (j := 2) rfl
      (try simp only [Txt.pick, List.getElem?_cons_succ, List.getElem?_cons_zero])
      go_wp2
      refine Txt.RunPost.mk ?_
      refine Txt.Ty.wpTr_alt ?_ Txt.Ty.wpTr_no
      (try simp only [Txt.pick, List.getElem?_cons_succ, List.getElem?_cons_zero])
      go_wp2_with fail
      refine (valid_eq x _ _ true w14 hl1 hl2 (Raw.to_nil HI14.out) (Raw.to_nil HJ14.out) (validV_iff.2 HOK.out)).mono ?_
      rintro e w15 ⟨rfl, hb15⟩
      clear cT_0 cT_1 cT_2 cK_0 cK_1 cK_2
      have HT15 := Lib.hid ((hb15.block S (Array.getElem?_eq_some_iff.1 HT14.out).1).trans HT14.out)
      have HI15 := Lib.hid (Raw.below HI14.out hb15)
      have HJ15 := Lib.hid (Raw.below HJ14.out hb15)
      have HB15 := Lib.hid (Raw.below HB14.out hb15)
      have HP15 := Lib.hid (Raw.below HP14.out hb15)
      have HQ15 := Lib.hid (Raw.below HQ14.out hb15)
      have HK15 := Lib.hid ((hb15.block K (Array.getElem?_eq_some_iff.1 HK14.out).1).trans HK14.out)
      clear HT14 HI14 HJ14 HB14 HP14 HQ14 HK14
      have bel15 := bel14.trans (hb15.mono bel14.size)
      have HS15 := Lib.hid (same_below' HS14.out hb15)
      clear hb15
      have cT_0 := box_at HT15.out (j := 0) rfl
      have cT_1 := box_at HT15.out (j := 1) rfl
      have cT_2 := box_at HT15.out (j := 2) rfl
      have cK_0 := box_at HK15.out (j := 0) rfl
      have cK_1 := box_at HK15.out (j := 1) rfl
      have cK_2 := box_at HK15.out (j := 2) rfl
      go_wp2
      refine Txt.SegPost.mk (Txt.Ty.Shown.same HS15.out) ?_
      (try simp only [Txt.pick, List.getElem?_cons_succ, List.getElem?_cons_zero])
      go_wp2
      refine Txt.RunPost.mk ?_
      refine Txt.Ty.wpTr_alt ?_ Txt.Ty.wpTr_no
      (try simp only [Txt.pick, List.getElem?_cons_succ, List.getElem?_cons_zero])
      go_wp2_with fail
      refine (from_any _ x w15 hl1 hl2 ⟨_, _, rfl, HP15.out, HQ15.out⟩).mono ?_
      rintro e w16 ⟨v16, rfl, hn16, hb16⟩
      clear cT_0 cT_1 cT_2 cK_0 cK_1 cK_2
      have HT16 := Lib.hid ((hb16.block S (Array.getElem?_eq_some_iff.1 HT15.out).1).trans HT15.out)
      have HI16 := Lib.hid (Raw.below HI15.out hb16)
      have HJ16 := Lib.hid (Raw.below HJ15.out hb16)
      have HB16 := Lib.hid (Raw.below HB15.out hb16)
      have HP16 := Lib.hid (Raw.below HP15.out hb16)
      have HQ16 := Lib.hid (Raw.below HQ15.out hb16)
      have HK16 := Lib.hid ((hb16.block K (Array.getElem?_eq_some_iff.1 HK15.out).1).trans HK15.out)
      clear HT15 HI15 HJ15 HB15 HP15 HQ15 HK15
      have bel16 := bel15.trans (hb16.mono bel15.size)
      have HS16 := Lib.hid (same_below' HS15.out hb16)
      have HU16 := Lib.hid (SvN.toV hn16)
      clear hn16 hb16
      clear HP16
      clear HQ16
      have cT_0 := box_at HT16.out (j := 0) rfl
      have cT_1 := box_at HT16.out (j := 1) rfl
      have cT_2 := box_at HT16.out (j := 2) rfl
      have cK_0 := box_at HK16.out (j := 0) rfl
      have cK_1 := box_at HK16.out (j := 1) rfl
      have cK_2 := box_at HK16.out (j := 2) rfl
      go_wp2
      refine Txt.SegPost.mk (Txt.Ty.Shown.same HS16.out) ?_
      (try simp only [Txt.pick, List.getElem?_cons_succ, List.getElem?_cons_zero])
      go_wp2
      refine Txt.RunPost.mk ?_
      refine Txt.Ty.wpTr_alt ?_ Txt.Ty.wpTr_no
      (try simp only [Txt.pick, List.getElem?_cons_succ, List.getElem?_cons_zero])
      go_wp2_with fail
      refine (from_any _ x w16 hl1 hl2 ⟨_, _, rfl, Raw.to_nil HI16.out, Raw.to_nil HJ16.out⟩).mono ?_
      rintro e w17 ⟨v17, rfl, hn17, hb17⟩
      clear cT_0 cT_1 cT_2 cK_0 cK_1 cK_2
      have HT17 := Lib.hid ((hb17.block S (Array.getElem?_eq_some_iff.1 HT16.out).1).trans HT16.out)
      have HI17 := Lib.hid (Raw.below HI16.out hb17)
      have HJ17 := Lib.hid (Raw.below HJ16.out hb17)
      have HB17 := Lib.hid (Raw.below HB16.out hb17)
      have HK17 := Lib.hid ((hb17.block K (Array.getElem?_eq_some_iff.1 HK16.out).1).trans HK16.out)
      have HU17 := Lib.hid (SvV.below HU16.out hb17)
      clear HT16 HI16 HJ16 HB16 HK16 HU16
      have bel17 := bel16.trans (hb17.mono bel16.size)
      have HS17 := Lib.hid (same_below' HS16.out hb17)
      have HV17 := Lib.hid (SvN.toV hn17)
      clear hn17 hb17
      clear HK17
      have cT_0 := box_at HT17.out (j := 0) rfl
      have cT_1 := box_at HT17.out (j := 1) rfl
      have cT_2 := box_at HT17.out (j := 2) rfl
      go_wp2
      refine Txt.SegPost.mk (Txt.Ty.Shown.same HS17.out) ?_
      (try simp only [Txt.pick, List.getElem?_cons_succ, List.getElem?_cons_zero])
      go_wp2
      refine Txt.RunPost.mk ?_
      refine Txt.Ty.wpTr_alt ?_ Txt.Ty.wpTr_no
      (try simp only [Txt.pick, List.getElem?_cons_succ, List.getElem?_cons_zero])
      go_wp2_with fail
      refine (rsameV_any _ _ x w17 hl1 hl2 HU17.out HV17.out).mono ?_
      rintro e w18 ⟨rfl, hb18⟩
      clear cT_0 cT_1 cT_2
      have HT18 := Lib.hid ((hb18.block S (Array.getElem?_eq_some_iff.1 HT17.out).1).trans HT17.out)
      have HI18 := Lib.hid (Raw.below HI17.out hb18)
      have HJ18 := Lib.hid (Raw.below HJ17.out hb18)
      have HB18 := Lib.hid (Raw.below HB17.out hb18)
      have HU18 := Lib.hid (SvV.below HU17.out hb18)
      have HV18 := Lib.hid (SvV.below HV17.out hb18)
      clear HT17 HI17 HJ17 HB17 HU17 HV17
      have bel18 := bel17.trans (hb18.mono bel17.size)
      have HS18 := Lib.hid (same_below' HS17.out hb18)
      clear hb18
      clear HU18
      clear HV18
      have cT_0 := box_at HT18.out (j := 0) rfl
      have cT_1 := box_at HT18.out (j := 1) rfl
      have cT_2 := box_at HT18.out (j := 2) rfl
      go_wp2
      refine Txt.SegPost.mk (Txt.Ty.Shown.same HS18.out) ?_
      (try simp only [Txt.pick, List.getElem?_cons_succ, List.getElem?_cons_zero])
      go_wp2
      refine Txt.RunPost.mk ?_
      refine Txt.Ty.wpTr_done (by rfl) ⟨.head _, trivial⟩ ?_
      go_upto_region 15 with (fail)
      clear cT_0 cT_1 cT_2
      go_cut [8, 9, 10] from 55 to 64 (fun s8 s9 s10 wx => ∃ (N : Nat) (rv er : Int) (na ma ea : Option Addr) (nn nc mn mc en ec : Nat), s8 = .pointer (some ⟨N, 0, none⟩) ∧ s9 = .slice ea en ec ∧ s10 = .int .i64 er ∧ wx.heap[N]? = some (.cells #[.int .i64 rv, .slice na nn nc, .slice ma mn mc] 29 (0, 0)) ∧ N ≠ S ∧ NxP RS S wx er rv (.slice na nn nc) (.slice ma mn mc) (.slice ea en ec) ∧ wx.heap[S]? = some (.cells #[.int .i64 x.r, .slice wa x.wt.length wc, .slice ha x.hs.length hc] 29 (0, 0)) ∧ Bytes [] wx (.slice ia (encV x).length ic) (encV x) ∧ Ints [S] wx (.slice wa x.wt.length wc) x.wt ∧ Raw [S] 3 wx (.slice ha x.hs.length hc) x.hs.length (x.hs.flatMap encH) ∧ Below w0.heap.size w0 wx)
      case first =>
        have hr0 := (bel18.cell (p := ⟨ba, oa + k * 9 + 0, none⟩) hba).trans (HM.out 0 _ rfl)
        have hBl : ∀ b ∈ [S, ba], ∃ cc e f, w18.heap[b]? = some (.cells cc e f) := fun b hb => by
          simp only [List.mem_cons, List.not_mem_nil, or_false] at hb
          rcases hb with rfl | rfl
          · exact ⟨_, _, _, HT18.out⟩
          · exact Txt.cells_of hr0
        refine Txt.Ty.wp_tree [S, ba] [0, 4] [11] [0, 4] [0, 1, 2, 3, 4] (.alt [5, 6, 7, 8, 9] (.alt [10] (.alt [11, 12, 13] (.done) (.no)) (.no)) (.alt [10] (.alt [5, 6, 7, 8, 9] (.alt [11, 12, 13] (.done) (.no)) (.no)) (.no))) (by kernel_rfl) (by kernel_rfl) (by kernel_rfl) (by kernel_rfl) hBl ?_
        obtain ⟨w19, hwd⟩ : ∃ y, y = w18.drew := ⟨_, rfl⟩
        have HS19 : Hid (Txt.SameB [S, ba] w19 w19) := Lib.hid (by rw [hwd]; exact same_start hBl)
        clear hBl hr0
        rw [← hwd]
        have hdr : Below w18.heap.size w18 w19 := by rw [hwd]; exact (Below.refl _ _).drew
        have HT19 := Lib.hid ((hdr.block S (Array.getElem?_eq_some_iff.1 HT18.out).1).trans HT18.out)
        have HI19 := Lib.hid (Raw.below HI18.out hdr)
        have HJ19 := Lib.hid (Raw.below HJ18.out hdr)
        have HB19 := Lib.hid (Raw.below HB18.out hdr)
        clear HT18 HI18 HJ18 HB18
        have bel19 := bel18.trans (hdr.mono bel18.size)
        clear hdr hwd
        have cT_0 := box_at HT19.out (j := 0) rfl
        have cT_1 := box_at HT19.out (j := 1) rfl
        have cT_2 := box_at HT19.out (j := 2) rfl
        have r0 := (bel19.cell (p := ⟨ba, oa + k * 9, none⟩) hba).trans (HM.out 0 _ rfl)
        have r1 := (bel19.cell (p := ⟨ba, oa + k * 9 + 1, none⟩) hba).trans (HM.out 1 _ rfl)
        have r2 := (bel19.cell (p := ⟨ba, oa + k * 9 + 2, none⟩) hba).trans (HM.out 2 _ rfl)
        have r3 := (bel19.cell (p := ⟨ba, oa + k * 9 + 3, none⟩) hba).trans (HM.out 3 _ rfl)
        have r4 := (bel19.cell (p := ⟨ba, oa + k * 9 + 4, none⟩) hba).trans (HM.out 4 _ rfl)
        have r5 := (bel19.cell (p := ⟨ba, oa + k * 9 + 5, none⟩) hba).trans (HM.out 5 _ rfl)
        have r6 := (bel19.cell (p := ⟨ba, oa + k * 9 + 6, none⟩) hba).trans (HM.out 6 _ rfl)
        have r7 := (bel19.cell (p := ⟨ba, oa + k * 9 + 7, none⟩) hba).trans (HM.out 7 _ rfl)
        have r8 := (bel19.cell (p := ⟨ba, oa + k * 9 + 8, none⟩) hba).trans (HM.out 8 _ rfl)
        (try simp only [Txt.pick, List.getElem?_cons_succ, List.getElem?_cons_zero])
        go_wp2
        refine Txt.RunPost.mk ?_
        clear cT_0 cT_1 cT_2 r0 r1 r2 r3 r4 r5 r6 r7 r8
        refine Txt.Ty.wpTr_alt ?_ (Txt.Ty.wpTr_alt ?_ Txt.Ty.wpTr_no)
        · (try simp only [Txt.pick, List.getElem?_cons_succ, List.getElem?_cons_zero])
          go_wp2_with fail
          refine (handle_any x _ _ ⟨ms, md, mk, mq, m0, m1, m2, m3⟩ da dn dc w19 HOK.out (Raw.to_nil HI19.out) (Raw.to_nil HJ19.out) (HF.out.below bel19 h0) HFK.out).mono ?_
          rintro e w20 ⟨hb20, hres⟩
          rw [HRS.out] at hres
          have hSl := (Array.getElem?_eq_some_iff.1 HT19.out).1
          have hfr : ∀ f ∈ [S], f ∈ List.range w19.heap.size ∨ w20.heap.size ≤ f := fun f hf => .inl (List.mem_range.2 (by rw [List.mem_singleton.1 hf]; exact hSl))
          have HT20 := Lib.hid ((hb20.block S (Array.getElem?_eq_some_iff.1 HT19.out).1).trans HT19.out)
          have HI20 := Lib.hid (Raw.below HI19.out hb20)
          have HJ20 := Lib.hid (Raw.below HJ19.out hb20)
          have HB20 := Lib.hid (Raw.below HB19.out hb20)
          clear HT19 HI19 HJ19 HB19
          have bel20 := bel19.trans (hb20.mono bel19.size)
          have HS20 := Lib.hid (same_below' HS19.out hb20)
          cases RS with
          | none =>
            subst hres
            clear hfr hSl
            go_wp2
            refine Txt.SegPost.mk (Txt.Ty.Shown.same HS20.out) ?_
            (try simp only [Txt.pick, List.getElem?_cons_succ, List.getElem?_cons_zero])
            go_wp2
            refine Txt.RunPost.mk ?_
            refine Txt.Ty.wpTr_alt ?_ Txt.Ty.wpTr_no
            (try simp only [Txt.pick, List.getElem?_cons_succ, List.getElem?_cons_zero])
            go_wp2
            obtain ⟨N, hN⟩ : ∃ O, O = w20.heap.size := ⟨_, rfl⟩
            obtain ⟨w21, hw21⟩ : ∃ W, W = w20.alloc (.cells #[.int .i64 0, .slice none 0 0, .slice none 0 0] 29) := ⟨_, rfl⟩
            rw [← hw21, ← hN]
            have hb21 : Below w20.heap.size w20 w21 := by rw [hw21]; exact (Below.refl _ _).alloc (Nat.le_refl _) _
            have hxN : w21.heap[N]? = some (.cells #[.int .i64 0, .slice none 0 0, .slice none 0 0] 29 (0, 0)) := by rw [hw21, hN]; exact heap_alloc_new w20 _
            have HNW : Hid (w0.heap.size ≤ N) := Lib.hid (by rw [hN]; exact bel20.size)
            have HNS : Hid (N ≠ S) := Lib.hid (by have := (Array.getElem?_eq_some_iff.1 HT20.out).1; omega)
            replace HB20 := Lib.hid (raw_new HB20.out hN)
            replace HI20 := Lib.hid (raw_new HI20.out hN)
            replace HJ20 := Lib.hid (raw_new HJ20.out hN)
            clear hw21 hN
            have HT21 := Lib.hid ((hb21.block S (Array.getElem?_eq_some_iff.1 HT20.out).1).trans HT20.out)
            have HI21 := Lib.hid (Raw.below HI20.out hb21)
            have HJ21 := Lib.hid (Raw.below HJ20.out hb21)
            have HB21 := Lib.hid (Raw.below HB20.out hb21)
            clear HT20 HI20 HJ20 HB20
            have bel21 := bel20.trans (hb21.mono bel20.size)
            have HS21 := Lib.hid (same_below' HS20.out hb21)
            have HN21 := Lib.hid (hxN)
            clear hb21 hxN
            refine Txt.SegPost.mk (Txt.Ty.Shown.same HS21.out) ?_
            (try simp only [Txt.pick, List.getElem?_cons_succ, List.getElem?_cons_zero])
            go_wp2
            refine Txt.RunPost.mk ?_
            refine Txt.Ty.wpTr_alt ?_ Txt.Ty.wpTr_no
            (try simp only [Txt.pick, List.getElem?_cons_succ, List.getElem?_cons_zero])
            have g0 := box_at HN21.out (j := 0) rfl
            have g1 := box_at HN21.out (j := 1) rfl
            have g2 := box_at HN21.out (j := 2) rfl
            have f0 := box_free HN21.out 0
            have f1 := box_free HN21.out 1
            have f2 := box_free HN21.out 2
            go_wp2
            have hk := keep_set3 w21 N (.int .i64 0) (.slice none 0 0) (.slice none 0 0)
            refine Txt.SegPost.mk (Txt.Ty.Shown.last rfl) ?_
            (try simp only [Txt.pick, List.getElem?_cons_succ, List.getElem?_cons_zero])
            go_wp2
            refine Txt.RunPost.mk ?_
            refine Txt.Ty.wpTr_done (by rfl) ⟨.head _, .tail _ (.head _), trivial⟩ ?_
            clear g0 g1 g2 f0 f1 f2
            go_wp2
            go_meet
            case rel =>
              have hnS : N ≠ S := HNS.out
              refine ⟨N, _, _, _, _, _, _, _, _, _, _, _, rfl, rfl, rfl, heap_set3 HN21.out _ _ _, hnS, ⟨rfl, rfl⟩, (hk.block S (Array.getElem?_eq_some_iff.1 HT21.out).1 (by simpa using hnS.symm)).trans HT21.out, Raw.keep (F' := []) HB21.out hk (fun f hf => .inl hf) (fun f hf => by cases hf), Raw.keep (F' := [S]) HI21.out hk (fun f hf => .inl (by simp at hf ⊢; exact .inl hf)) (fun f hf => .inl (by simp at hf ⊢; exact .inr hf)), Raw.keep (F' := [S]) HJ21.out hk (fun f hf => .inl (by simp at hf ⊢; exact .inl hf)) (fun f hf => .inl (by simp at hf ⊢; exact .inr hf)), bel21.trans (hk.below bel21.size (fun f hf => by rw [List.mem_singleton.1 hf]; exact HNW.out))⟩
          | some q =>
            obtain ⟨x', es⟩ := q
            obtain ⟨sv, ev, rfl, hse, hsv⟩ := hres
            obtain ⟨nv, mv, rfl, hnv, hmv⟩ := hsv
            obtain ⟨na, nc, rfl⟩ := Raw.slice hnv
            obtain ⟨ma, mc, rfl⟩ := Raw.slice hmv
            obtain ⟨ea, ec, rfl⟩ := Raw.slice hse
            have HY20 := Lib.hid (show Raw [S] 1 _ _ _ _ from Raw.fresh hnv hfr)
            have HZ20 := Lib.hid (Raw.fresh (F' := [S]) hmv hfr)
            have HE20 := Lib.hid (show Raw [S] 15 _ _ _ _ from Raw.fresh hse hfr)
            clear hnv hmv hse hfr hSl
            go_wp2
            refine Txt.SegPost.mk (Txt.Ty.Shown.same HS20.out) ?_
            (try simp only [Txt.pick, List.getElem?_cons_succ, List.getElem?_cons_zero])
            go_wp2
            refine Txt.RunPost.mk ?_
            refine Txt.Ty.wpTr_alt ?_ Txt.Ty.wpTr_no
            (try simp only [Txt.pick, List.getElem?_cons_succ, List.getElem?_cons_zero])
            go_wp2
            obtain ⟨N, hN⟩ : ∃ O, O = w20.heap.size := ⟨_, rfl⟩
            obtain ⟨w21, hw21⟩ : ∃ W, W = w20.alloc (.cells #[.int .i64 0, .slice none 0 0, .slice none 0 0] 29) := ⟨_, rfl⟩
            rw [← hw21, ← hN]
            have hb21 : Below w20.heap.size w20 w21 := by rw [hw21]; exact (Below.refl _ _).alloc (Nat.le_refl _) _
            have hxN : w21.heap[N]? = some (.cells #[.int .i64 0, .slice none 0 0, .slice none 0 0] 29 (0, 0)) := by rw [hw21, hN]; exact heap_alloc_new w20 _
            have HNW : Hid (w0.heap.size ≤ N) := Lib.hid (by rw [hN]; exact bel20.size)
            have HNS : Hid (N ≠ S) := Lib.hid (by have := (Array.getElem?_eq_some_iff.1 HT20.out).1; omega)
            replace HB20 := Lib.hid (raw_new HB20.out hN)
            replace HI20 := Lib.hid (raw_new HI20.out hN)
            replace HJ20 := Lib.hid (raw_new HJ20.out hN)
            replace HY20 := Lib.hid (raw_new HY20.out hN)
            replace HZ20 := Lib.hid (raw_new HZ20.out hN)
            replace HE20 := Lib.hid (raw_new HE20.out hN)
            clear hw21 hN
            have HT21 := Lib.hid ((hb21.block S (Array.getElem?_eq_some_iff.1 HT20.out).1).trans HT20.out)
            have HI21 := Lib.hid (Raw.below HI20.out hb21)
            have HJ21 := Lib.hid (Raw.below HJ20.out hb21)
            have HB21 := Lib.hid (Raw.below HB20.out hb21)
            have HY21 := Lib.hid (Raw.below HY20.out hb21)
            have HZ21 := Lib.hid (Raw.below HZ20.out hb21)
            have HE21 := Lib.hid (Raw.below HE20.out hb21)
            clear HT20 HI20 HJ20 HB20 HY20 HZ20 HE20
            have bel21 := bel20.trans (hb21.mono bel20.size)
            have HS21 := Lib.hid (same_below' HS20.out hb21)
            have HN21 := Lib.hid (hxN)
            clear hb21 hxN
            refine Txt.SegPost.mk (Txt.Ty.Shown.same HS21.out) ?_
            (try simp only [Txt.pick, List.getElem?_cons_succ, List.getElem?_cons_zero])
            go_wp2
            refine Txt.RunPost.mk ?_
            refine Txt.Ty.wpTr_alt ?_ Txt.Ty.wpTr_no
            (try simp only [Txt.pick, List.getElem?_cons_succ, List.getElem?_cons_zero])
            have g0 := box_at HN21.out (j := 0) rfl
            have g1 := box_at HN21.out (j := 1) rfl
            have g2 := box_at HN21.out (j := 2) rfl
            have f0 := box_free HN21.out 0
            have f1 := box_free HN21.out 1
            have f2 := box_free HN21.out 2
            go_wp2
            have hk := keep_set3 w21 N (.int .i64 x'.r) (.slice na x'.wt.length nc) (.slice ma x'.hs.length mc)
            refine Txt.SegPost.mk (Txt.Ty.Shown.last rfl) ?_
            (try simp only [Txt.pick, List.getElem?_cons_succ, List.getElem?_cons_zero])
            go_wp2
            refine Txt.RunPost.mk ?_
            refine Txt.Ty.wpTr_done (by rfl) ⟨.head _, .tail _ (.head _), trivial⟩ ?_
            clear g0 g1 g2 f0 f1 f2
            go_wp2
            go_meet
            case rel =>
              have hnS : N ≠ S := HNS.out
              refine ⟨N, _, _, _, _, _, _, _, _, _, _, _, rfl, rfl, rfl, heap_set3 HN21.out _ _ _, hnS, ⟨rfl, rfl, Raw.keep (F' := [S]) HY21.out hk (fun f hf => .inl (by simp at hf ⊢; exact .inl hf)) (fun f hf => .inl (by simp at hf ⊢; exact .inr hf)), Raw.keep (F' := [S]) HZ21.out hk (fun f hf => .inl (by simp at hf ⊢; exact .inl hf)) (fun f hf => .inl (by simp at hf ⊢; exact .inr hf)), Raw.keep (F' := []) HE21.out hk (fun f hf => .inl (by simp at hf ⊢; exact .inl hf)) (fun f hf => by cases hf)⟩, (hk.block S (Array.getElem?_eq_some_iff.1 HT21.out).1 (by simpa using hnS.symm)).trans HT21.out, Raw.keep (F' := []) HB21.out hk (fun f hf => .inl hf) (fun f hf => by cases hf), Raw.keep (F' := [S]) HI21.out hk (fun f hf => .inl (by simp at hf ⊢; exact .inl hf)) (fun f hf => .inl (by simp at hf ⊢; exact .inr hf)), Raw.keep (F' := [S]) HJ21.out hk (fun f hf => .inl (by simp at hf ⊢; exact .inl hf)) (fun f hf => .inl (by simp at hf ⊢; exact .inr hf)), bel21.trans (hk.below bel21.size (fun f hf => by rw [List.mem_singleton.1 hf]; exact HNW.out))⟩
        · (try simp only [Txt.pick, List.getElem?_cons_succ, List.getElem?_cons_zero])
          go_wp2
          obtain ⟨N, hN⟩ : ∃ O, O = w19.heap.size := ⟨_, rfl⟩
          obtain ⟨w20, hw20⟩ : ∃ W, W = w19.alloc (.cells #[.int .i64 0, .slice none 0 0, .slice none 0 0] 29) := ⟨_, rfl⟩
          rw [← hw20, ← hN]
          have hb20 : Below w19.heap.size w19 w20 := by rw [hw20]; exact (Below.refl _ _).alloc (Nat.le_refl _) _
          have hxN : w20.heap[N]? = some (.cells #[.int .i64 0, .slice none 0 0, .slice none 0 0] 29 (0, 0)) := by rw [hw20, hN]; exact heap_alloc_new w19 _
          have HNW : Hid (w0.heap.size ≤ N) := Lib.hid (by rw [hN]; exact bel19.size)
          have HNS : Hid (N ≠ S) := Lib.hid (by have := (Array.getElem?_eq_some_iff.1 HT19.out).1; omega)
          replace HB19 := Lib.hid (raw_new HB19.out hN)
          replace HI19 := Lib.hid (raw_new HI19.out hN)
          replace HJ19 := Lib.hid (raw_new HJ19.out hN)
          clear hw20 hN
          have HT20 := Lib.hid ((hb20.block S (Array.getElem?_eq_some_iff.1 HT19.out).1).trans HT19.out)
          have HI20 := Lib.hid (Raw.below HI19.out hb20)
          have HJ20 := Lib.hid (Raw.below HJ19.out hb20)
          have HB20 := Lib.hid (Raw.below HB19.out hb20)
          clear HT19 HI19 HJ19 HB19
          have bel20 := bel19.trans (hb20.mono bel19.size)
          have HS20 := Lib.hid (same_below' HS19.out hb20)
          have HN20 := Lib.hid (hxN)
          clear hb20 hxN
          refine Txt.SegPost.mk (Txt.Ty.Shown.same HS20.out) ?_
          (try simp only [Txt.pick, List.getElem?_cons_succ, List.getElem?_cons_zero])
          go_wp2
          refine Txt.RunPost.mk ?_
          refine Txt.Ty.wpTr_alt ?_ Txt.Ty.wpTr_no
          (try simp only [Txt.pick, List.getElem?_cons_succ, List.getElem?_cons_zero])
          have HNl := (Array.getElem?_eq_some_iff.1 HN20.out).1
          go_wp2_with fail
          refine (handle_any x _ _ ⟨ms, md, mk, mq, m0, m1, m2, m3⟩ da dn dc w20 HOK.out (Raw.to_nil HI20.out) (Raw.to_nil HJ20.out) (HF.out.below bel20 h0) HFK.out).mono ?_
          rintro e w21 ⟨hb21, hres⟩
          rw [HRS.out] at hres
          have hSl := (Array.getElem?_eq_some_iff.1 HT20.out).1
          have hfr : ∀ f ∈ [S], f ∈ List.range w20.heap.size ∨ w21.heap.size ≤ f := fun f hf => .inl (List.mem_range.2 (by rw [List.mem_singleton.1 hf]; exact hSl))
          have HT21 := Lib.hid ((hb21.block S (Array.getElem?_eq_some_iff.1 HT20.out).1).trans HT20.out)
          have HI21 := Lib.hid (Raw.below HI20.out hb21)
          have HJ21 := Lib.hid (Raw.below HJ20.out hb21)
          have HB21 := Lib.hid (Raw.below HB20.out hb21)
          have HN21 := Lib.hid ((hb21.block N (Array.getElem?_eq_some_iff.1 HN20.out).1).trans HN20.out)
          clear HT20 HI20 HJ20 HB20 HN20
          have bel21 := bel20.trans (hb21.mono bel20.size)
          have HS21 := Lib.hid (same_below' HS20.out hb21)
          have hfr2 : ∀ f ∈ [N, S], f ∈ List.range w20.heap.size ∨ w21.heap.size ≤ f := fun f hf => .inl (List.mem_range.2 (by
            simp only [List.mem_cons, List.not_mem_nil, or_false] at hf
            rcases hf with rfl | rfl <;> assumption))
          cases RS with
          | none =>
            subst hres
            clear hfr hSl
            clear hfr2 HNl
            go_wp2
            refine Txt.SegPost.mk (Txt.Ty.Shown.same HS21.out) ?_
            (try simp only [Txt.pick, List.getElem?_cons_succ, List.getElem?_cons_zero])
            go_wp2
            refine Txt.RunPost.mk ?_
            refine Txt.Ty.wpTr_alt ?_ Txt.Ty.wpTr_no
            (try simp only [Txt.pick, List.getElem?_cons_succ, List.getElem?_cons_zero])
            have g0 := box_at HN21.out (j := 0) rfl
            have g1 := box_at HN21.out (j := 1) rfl
            have g2 := box_at HN21.out (j := 2) rfl
            have f0 := box_free HN21.out 0
            have f1 := box_free HN21.out 1
            have f2 := box_free HN21.out 2
            go_wp2
            have hk := keep_set3 w21 N (.int .i64 0) (.slice none 0 0) (.slice none 0 0)
            refine Txt.SegPost.mk (Txt.Ty.Shown.last rfl) ?_
            (try simp only [Txt.pick, List.getElem?_cons_succ, List.getElem?_cons_zero])
            go_wp2
            refine Txt.RunPost.mk ?_
            refine Txt.Ty.wpTr_done (by rfl) ⟨.head _, .tail _ (.head _), trivial⟩ ?_
            clear g0 g1 g2 f0 f1 f2
            go_wp2
            go_meet
            case rel =>
              have hnS : N ≠ S := HNS.out
              refine ⟨N, _, _, _, _, _, _, _, _, _, _, _, rfl, rfl, rfl, heap_set3 HN21.out _ _ _, hnS, ⟨rfl, rfl⟩, (hk.block S (Array.getElem?_eq_some_iff.1 HT21.out).1 (by simpa using hnS.symm)).trans HT21.out, Raw.keep (F' := []) HB21.out hk (fun f hf => .inl hf) (fun f hf => by cases hf), Raw.keep (F' := [S]) HI21.out hk (fun f hf => .inl (by simp at hf ⊢; exact .inl hf)) (fun f hf => .inl (by simp at hf ⊢; exact .inr hf)), Raw.keep (F' := [S]) HJ21.out hk (fun f hf => .inl (by simp at hf ⊢; exact .inl hf)) (fun f hf => .inl (by simp at hf ⊢; exact .inr hf)), bel21.trans (hk.below bel21.size (fun f hf => by rw [List.mem_singleton.1 hf]; exact HNW.out))⟩
          | some q =>
            obtain ⟨x', es⟩ := q
            obtain ⟨sv, ev, rfl, hse, hsv⟩ := hres
            obtain ⟨nv, mv, rfl, hnv, hmv⟩ := hsv
            obtain ⟨na, nc, rfl⟩ := Raw.slice hnv
            obtain ⟨ma, mc, rfl⟩ := Raw.slice hmv
            obtain ⟨ea, ec, rfl⟩ := Raw.slice hse
            have HY21 := Lib.hid (show Raw [N, S] 1 _ _ _ _ from Raw.fresh hnv hfr2)
            have HZ21 := Lib.hid (Raw.fresh (F' := [N, S]) hmv hfr2)
            have HE21 := Lib.hid (show Raw [N, S] 15 _ _ _ _ from Raw.fresh hse hfr2)
            clear hnv hmv hse hfr hSl
            clear hfr2 HNl
            go_wp2
            refine Txt.SegPost.mk (Txt.Ty.Shown.same HS21.out) ?_
            (try simp only [Txt.pick, List.getElem?_cons_succ, List.getElem?_cons_zero])
            go_wp2
            refine Txt.RunPost.mk ?_
            refine Txt.Ty.wpTr_alt ?_ Txt.Ty.wpTr_no
            (try simp only [Txt.pick, List.getElem?_cons_succ, List.getElem?_cons_zero])
            have g0 := box_at HN21.out (j := 0) rfl
            have g1 := box_at HN21.out (j := 1) rfl
            have g2 := box_at HN21.out (j := 2) rfl
            have f0 := box_free HN21.out 0
            have f1 := box_free HN21.out 1
            have f2 := box_free HN21.out 2
            go_wp2
            have hk := keep_set3 w21 N (.int .i64 x'.r) (.slice na x'.wt.length nc) (.slice ma x'.hs.length mc)
            refine Txt.SegPost.mk (Txt.Ty.Shown.last rfl) ?_
            (try simp only [Txt.pick, List.getElem?_cons_succ, List.getElem?_cons_zero])
            go_wp2
            refine Txt.RunPost.mk ?_
            refine Txt.Ty.wpTr_done (by rfl) ⟨.head _, .tail _ (.head _), trivial⟩ ?_
            clear g0 g1 g2 f0 f1 f2
            go_wp2
            go_meet
            case rel =>
              have hnS : N ≠ S := HNS.out
              refine ⟨N, _, _, _, _, _, _, _, _, _, _, _, rfl, rfl, rfl, heap_set3 HN21.out _ _ _, hnS, ⟨rfl, rfl, Raw.keep (F' := [S]) HY21.out hk (fun f hf => .inl (by simp at hf ⊢; exact .inl hf)) (fun f hf => .inl (by simp at hf ⊢; exact .inr hf)), Raw.keep (F' := [S]) HZ21.out hk (fun f hf => .inl (by simp at hf ⊢; exact .inl hf)) (fun f hf => .inl (by simp at hf ⊢; exact .inr hf)), Raw.keep (F' := []) HE21.out hk (fun f hf => .inl (by simp at hf ⊢; exact .inl hf)) (fun f hf => by cases hf)⟩, (hk.block S (Array.getElem?_eq_some_iff.1 HT21.out).1 (by simpa using hnS.symm)).trans HT21.out, Raw.keep (F' := []) HB21.out hk (fun f hf => .inl hf) (fun f hf => by cases hf), Raw.keep (F' := [S]) HI21.out hk (fun f hf => .inl (by simp at hf ⊢; exact .inl hf)) (fun f hf => .inl (by simp at hf ⊢; exact .inr hf)), Raw.keep (F' := [S]) HJ21.out hk (fun f hf => .inl (by simp at hf ⊢; exact .inl hf)) (fun f hf => .inl (by simp at hf ⊢; exact .inr hf)), bel21.trans (hk.below bel21.size (fun f hf => by rw [List.mem_singleton.1 hf]; exact HNW.out))⟩
      case rest =>
        obtain ⟨N, rv, er, na, ma, ea, nn, nc, mn, mc, en, ec, rfl, rfl, rfl, hN, hNS, hnx, hS, hB, hI, hJ, bel19⟩ := hcut
        rename World => w19
        have HN19 := Lib.hid hN; have HT19 := Lib.hid hS; have HB19 := Lib.hid hB; have HI19 := Lib.hid hI; have HJ19 := Lib.hid hJ; have HNS := Lib.hid hNS
        clear hN hS hB hI hJ hNS HT18 HI18 HJ18 HB18
        cases RS with
        | none =>
          obtain ⟨hve, rfl⟩ := hnx
          cases hve
          have r0 := (bel19.cell (p := ⟨ba, oa + k * 9, none⟩) hba).trans (HM.out 0 _ rfl)
          have r1 := (bel19.cell (p := ⟨ba, oa + k * 9 + 1, none⟩) hba).trans (HM.out 1 _ rfl)
          have r2 := (bel19.cell (p := ⟨ba, oa + k * 9 + 2, none⟩) hba).trans (HM.out 2 _ rfl)
          have r3 := (bel19.cell (p := ⟨ba, oa + k * 9 + 3, none⟩) hba).trans (HM.out 3 _ rfl)
          have r4 := (bel19.cell (p := ⟨ba, oa + k * 9 + 4, none⟩) hba).trans (HM.out 4 _ rfl)
          have r5 := (bel19.cell (p := ⟨ba, oa + k * 9 + 5, none⟩) hba).trans (HM.out 5 _ rfl)
          have r6 := (bel19.cell (p := ⟨ba, oa + k * 9 + 6, none⟩) hba).trans (HM.out 6 _ rfl)
          have r7 := (bel19.cell (p := ⟨ba, oa + k * 9 + 7, none⟩) hba).trans (HM.out 7 _ rfl)
          have r8 := (bel19.cell (p := ⟨ba, oa + k * 9 + 8, none⟩) hba).trans (HM.out 8 _ rfl)
          go_wp2_with fail
          refine (step_any _ (encV x) ⟨ms, md, mk, mq, m0, m1, m2, m3⟩ da dn dc w19 HB19.out (Nat.le_trans (encV_len x) (by decide)) (HF.out.below bel19 h0) HFK.out).mono ?_
          rintro e w20 ⟨hb20, hres⟩
          rw [HDX.out] at hres
          simp only at hres
          rw [HRS.out] at hres
          simp only at hres
          clear r0 r1 r2 r3 r4 r5 r6 r7 r8
          have HN20 := Lib.hid ((hb20.block N (Array.getElem?_eq_some_iff.1 HN19.out).1).trans HN19.out)
          have HT20 := Lib.hid ((hb20.block S (Array.getElem?_eq_some_iff.1 HT19.out).1).trans HT19.out)
          have HB20 := Lib.hid (Raw.below HB19.out hb20)
          have HI20 := Lib.hid (Raw.below HI19.out hb20)
          have HJ20 := Lib.hid (Raw.below HJ19.out hb20)
          clear HN19 HT19 HB19 HI19 HJ19
          have bel20 := bel19.trans (hb20.mono bel19.size)
          subst hres
          clear hb20
          go_wp2_with fail
          refine (sameeff_any _ _ [] w20 (by simp) (Raw.empty _ _ _) (Raw.empty _ _ _)).mono ?_
          rintro e w21 ⟨rfl, hb21⟩
          have HN21 := Lib.hid ((hb21.block N (Array.getElem?_eq_some_iff.1 HN20.out).1).trans HN20.out)
          have HT21 := Lib.hid ((hb21.block S (Array.getElem?_eq_some_iff.1 HT20.out).1).trans HT20.out)
          have HB21 := Lib.hid (Raw.below HB20.out hb21)
          have HI21 := Lib.hid (Raw.below HI20.out hb21)
          have HJ21 := Lib.hid (Raw.below HJ20.out hb21)
          clear HN20 HT20 HB20 HI20 HJ20
          have bel21 := bel20.trans (hb21.mono bel20.size)
          go_wp2
          go_roundw
          case rel => exact ⟨k + 1, hlt, by go_num, x, wa, ha, wc, hc, HOK.out, HT21.out, HI21.out, HJ21.out, bel21⟩
          case measure => simp [intOf]; omega
        | some q =>
          obtain ⟨x', es⟩ := q
          obtain ⟨rfl, rfl, hnv, hmv, hse⟩ := hnx
          obtain ⟨na, nc, hve⟩ := Raw.slice hnv
          cases hve
          obtain ⟨ma, mc, hve⟩ := Raw.slice hmv
          cases hve
          obtain ⟨ea, ec, hve⟩ := Raw.slice hse
          cases hve
          obtain ⟨hok', hel⟩ := handle_ok HOK.out HRS.out
          have hl1' := hok'.len
          have hl2' := validH_len hok'.h
          have HOK' := Lib.hid hok'
          clear hok'
          have HY19 : Hid (Ints [S] w19 (.slice na x'.wt.length nc) x'.wt) := Lib.hid (hnv)
          have HZ19 := Lib.hid (hmv)
          have HE19 : Hid (Raw [] 15 w19 (.slice ea es.length ec) es.length (es.flatMap encE)) := Lib.hid (hse)
          clear hnv hmv hse
          have r0 := (bel19.cell (p := ⟨ba, oa + k * 9, none⟩) hba).trans (HM.out 0 _ rfl)
          have r1 := (bel19.cell (p := ⟨ba, oa + k * 9 + 1, none⟩) hba).trans (HM.out 1 _ rfl)
          have r2 := (bel19.cell (p := ⟨ba, oa + k * 9 + 2, none⟩) hba).trans (HM.out 2 _ rfl)
          have r3 := (bel19.cell (p := ⟨ba, oa + k * 9 + 3, none⟩) hba).trans (HM.out 3 _ rfl)
          have r4 := (bel19.cell (p := ⟨ba, oa + k * 9 + 4, none⟩) hba).trans (HM.out 4 _ rfl)
          have r5 := (bel19.cell (p := ⟨ba, oa + k * 9 + 5, none⟩) hba).trans (HM.out 5 _ rfl)
          have r6 := (bel19.cell (p := ⟨ba, oa + k * 9 + 6, none⟩) hba).trans (HM.out 6 _ rfl)
          have r7 := (bel19.cell (p := ⟨ba, oa + k * 9 + 7, none⟩) hba).trans (HM.out 7 _ rfl)
          have r8 := (bel19.cell (p := ⟨ba, oa + k * 9 + 8, none⟩) hba).trans (HM.out 8 _ rfl)
          go_wp2_with fail
          refine (step_any _ (encV x) ⟨ms, md, mk, mq, m0, m1, m2, m3⟩ da dn dc w19 HB19.out (Nat.le_trans (encV_len x) (by decide)) (HF.out.below bel19 h0) HFK.out).mono ?_
          rintro e w20 ⟨hb20, hres⟩
          rw [HDX.out] at hres
          simp only at hres
          rw [HRS.out] at hres
          simp only at hres
          clear r0 r1 r2 r3 r4 r5 r6 r7 r8
          have HN20 := Lib.hid ((hb20.block N (Array.getElem?_eq_some_iff.1 HN19.out).1).trans HN19.out)
          have HT20 := Lib.hid ((hb20.block S (Array.getElem?_eq_some_iff.1 HT19.out).1).trans HT19.out)
          have HB20 := Lib.hid (Raw.below HB19.out hb20)
          have HI20 := Lib.hid (Raw.below HI19.out hb20)
          have HJ20 := Lib.hid (Raw.below HJ19.out hb20)
          have HY20 := Lib.hid (Raw.below HY19.out hb20)
          have HZ20 := Lib.hid (Raw.below HZ19.out hb20)
          have HE20 := Lib.hid (Raw.below HE19.out hb20)
          clear HN19 HT19 HB19 HI19 HJ19 HY19 HZ19 HE19
          have bel20 := bel19.trans (hb20.mono bel19.size)
          obtain ⟨bv, kv, rfl, hr20, hk20⟩ := hres
          obtain ⟨ja, jc, rfl⟩ := own_slice hr20
          obtain ⟨la, lc, rfl⟩ := Raw.slice hk20
          have HG20 : Hid (Bytes [] w20 (.slice ja (encV x').length jc) (encV x')) := Lib.hid (BRow.bytes (F := []) hr20 (fun f hf => by cases hf))
          have HL20 : Hid (Raw [] 15 w20 (.slice la es.length lc) es.length (es.flatMap encE)) := Lib.hid (hk20)
          clear hr20 hk20 hb20
          go_wp2_with fail
          refine (sameeff_any _ _ es w20 (by omega) HE20.out HL20.out).mono ?_
          rintro e w21 ⟨rfl, hb21⟩
          have HN21 := Lib.hid ((hb21.block N (Array.getElem?_eq_some_iff.1 HN20.out).1).trans HN20.out)
          have HT21 := Lib.hid ((hb21.block S (Array.getElem?_eq_some_iff.1 HT20.out).1).trans HT20.out)
          have HB21 := Lib.hid (Raw.below HB20.out hb21)
          have HI21 := Lib.hid (Raw.below HI20.out hb21)
          have HJ21 := Lib.hid (Raw.below HJ20.out hb21)
          have HY21 := Lib.hid (Raw.below HY20.out hb21)
          have HZ21 := Lib.hid (Raw.below HZ20.out hb21)
          have HE21 := Lib.hid (Raw.below HE20.out hb21)
          have HG21 := Lib.hid (Raw.below HG20.out hb21)
          have HL21 := Lib.hid (Raw.below HL20.out hb21)
          clear HN20 HT20 HB20 HI20 HJ20 HY20 HZ20 HE20 HG20 HL20
          have bel21 := bel20.trans (hb21.mono bel20.size)
          clear hb21
          clear HE21
          clear HL21
          clear HB21
          have hpos : ¬ ((encV x').length : Int) = 0 := by rw [encV_true HOK'.out]; have := (encVb_len HOK'.out).2; omega
          have hpos1 : (((encV x').length : Int) == 0) = false := by simpa using hpos
          have HPOS := Lib.hid hpos; have HPOS1 := Lib.hid hpos1
          clear hpos hpos1
          go_upto_region 20 with (fail)
          obtain ⟨blb, qb1, qb2⟩ := Raw.blocks HG21.out (by omega)
          have Hqb := Lib.hid qb1
          have Hbl : Hid (∀ q ∈ blb, ∃ cc e f, w21.heap[q]? = some (.cells cc e f)) := Lib.hid (fun q hq => (qb2 q hq).2)
          clear qb1 qb2
          have hBl := show ∀ q ∈ blb, ∃ cc e f, w21.heap[q]? = some (.cells cc e f) from Hbl.out
          refine Txt.Ty.wp_tree blb [1] [] [1, 2, 4] [0, 1, 2] (.alt [3, 4, 5, 6, 7, 8, 9, 10] (.done) (.no)) (by kernel_rfl) (by kernel_rfl) (by kernel_rfl) (by kernel_rfl) hBl ?_
          obtain ⟨w22, hwd⟩ : ∃ y, y = w21.drew := ⟨_, rfl⟩
          have HSB22 : Hid (Txt.SameB blb w22 w22) := Lib.hid (by rw [hwd]; exact same_start hBl)
          clear hBl
          rw [← hwd]
          have hdr : Below w21.heap.size w21 w22 := by rw [hwd]; exact (Below.refl _ _).drew
          have HN22 := Lib.hid ((hdr.block N (Array.getElem?_eq_some_iff.1 HN21.out).1).trans HN21.out)
          have HT22 := Lib.hid ((hdr.block S (Array.getElem?_eq_some_iff.1 HT21.out).1).trans HT21.out)
          have HI22 := Lib.hid (Raw.below HI21.out hdr)
          have HJ22 := Lib.hid (Raw.below HJ21.out hdr)
          have HY22 := Lib.hid (Raw.below HY21.out hdr)
          have HZ22 := Lib.hid (Raw.below HZ21.out hdr)
          have HG22 := Lib.hid (Raw.below HG21.out hdr)
          clear HN21 HT21 HI21 HJ21 HY21 HZ21 HG21
          have bel22 := bel21.trans (hdr.mono bel21.size)
          clear hdr hwd
          have k1 := run_str HG22.out 38 5 9 Tryd.underlying38 Tryd.underlying5 Tryd.underlying9
          have cN_0 := box_at HN22.out (j := 0) rfl
          have cN_1 := box_at HN22.out (j := 1) rfl
          have cN_2 := box_at HN22.out (j := 2) rfl
          (try simp only [Txt.pick, List.getElem?_cons_succ, List.getElem?_cons_zero])
          go_wp2
          refine Txt.RunPost.mk ?_
          refine Txt.Ty.wpTr_alt ?_ Txt.Ty.wpTr_no
          (try simp only [Txt.pick, List.getElem?_cons_succ, List.getElem?_cons_zero])
          go_wp2_with fail
          refine (encode_any x' _ _ w22 (by omega) (by omega) (Raw.to_nil HY22.out) (Raw.to_nil HZ22.out)).mono ?_
          rintro e w23 ⟨v23, rfl, hr23, hb23⟩
          clear cN_0 cN_1 cN_2 k1
          have HN23 := Lib.hid ((hb23.block N (Array.getElem?_eq_some_iff.1 HN22.out).1).trans HN22.out)
          have HT23 := Lib.hid ((hb23.block S (Array.getElem?_eq_some_iff.1 HT22.out).1).trans HT22.out)
          have HI23 := Lib.hid (Raw.below HI22.out hb23)
          have HJ23 := Lib.hid (Raw.below HJ22.out hb23)
          have HY23 := Lib.hid (Raw.below HY22.out hb23)
          have HZ23 := Lib.hid (Raw.below HZ22.out hb23)
          have HG23 := Lib.hid (Raw.below HG22.out hb23)
          clear HN22 HT22 HI22 HJ22 HY22 HZ22 HG22
          have bel23 := bel22.trans (hb23.mono bel22.size)
          have HSB23 := Lib.hid (same_below' HSB22.out hb23)
          have k2 := run_str (BRow.bytes (F := []) hr23 (fun f hf => by cases hf)) 38 5 9 Tryd.underlying38 Tryd.underlying5 Tryd.underlying9
          obtain ⟨za, zc, rfl⟩ := own_slice hr23
          have hpos1 := HPOS1.out
          have hpos := HPOS.out
          clear hr23 hb23
          go_wp2
          refine Txt.SegPost.mk (Txt.Ty.Shown.same HSB23.out) ?_
          (try simp only [Txt.pick, List.getElem?_cons_succ, List.getElem?_cons_zero])
          go_wp2
          refine Txt.RunPost.mk ?_
          refine Txt.Ty.wpTr_done (by rfl) ⟨Hqb.out _ (fun b hb => hb), trivial⟩ ?_
          clear k2
          have cN_0 := box_at HN23.out (j := 0) rfl
          have cN_1 := box_at HN23.out (j := 1) rfl
          have cN_2 := box_at HN23.out (j := 2) rfl
          have cT_0 := box_at HT23.out (j := 0) rfl
          have cT_1 := box_at HT23.out (j := 1) rfl
          have cT_2 := box_at HT23.out (j := 2) rfl
          have g0 := box_free HT23.out 0
          have g1 := box_free HT23.out 1
          have g2 := box_free HT23.out 2
          go_wp2
          go_roundw
          case rel =>
            have hk := keep_set3 w23 S (.int .i64 x'.r) (.slice na x'.wt.length nc) (.slice ma x'.hs.length mc)
            exact ⟨k + 1, hlt, by go_num, x', na, ma, nc, mc, HOK'.out, heap_set3 HT23.out _ _ _, Raw.keep (F' := [S]) HY23.out hk (fun f hf => .inl hf) (fun f hf => .inl hf), Raw.keep (F' := [S]) HZ23.out hk (fun f hf => .inl hf) (fun f hf => .inl hf), bel23.trans (hk.below bel23.size (fun f hf => by rw [List.mem_singleton.1 hf]; exact hSw))⟩
          case measure => simp [intOf]; omega
    · obtain rfl : k = L.length := by omega
      go_wp2
      go_ret
      exact ⟨rfl, bel10⟩
end Go.Proofs.YthmnhpakgjnngaaDoor
