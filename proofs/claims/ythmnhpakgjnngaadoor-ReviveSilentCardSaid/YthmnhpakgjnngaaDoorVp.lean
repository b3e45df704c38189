/- Revive: silence: the law walked -/
import Derived.Test.YthmnhpakgjnngaaDoorVo
import Derived.Deep.CutRange
namespace Go.Rv
open Go Go.RowKit Go.Bs Go.Cl Go.Rw Go.Dt
def encM (x : Nat) : List Value := [.int .u16 x]
theorem encM_len (x : Nat) : (encM x).length = 1 := rfl
def Msk (w : World) (v : Value) (L : List Nat) : Prop := Raw [] 1 w v L.length (L.flatMap encM) ∧ ∀ r ∈ L, r < 65536
theorem Msk.elem {w : World} {a : Option Addr} {n c : Nat} {L : List Nat} (h : Msk w (.slice a n c) L) {i : Nat} (hi : i < L.length) :
    ∃ b off, a = some ⟨b, off, none⟩ ∧ b < w.heap.size ∧ w.cell? ⟨b, off + i, none⟩ = some (.int .u16 L[i]) ∧ L[i] < 65536 := by
  have hget : L[i]? = some L[i] := List.getElem?_eq_getElem hi
  have hb2 := h.2 _ (List.getElem_mem hi)
  rcases Raw.cases h.1 with ⟨h0, _⟩ | ⟨_, b, off, cap, hv, _, _, hb, _, hc⟩
  · omega
  · cases hv
    have := hc _ _ (flat_get encM encM_len L i 0 _ hget (by omega))
    simp only [Nat.mul_one, Nat.add_zero] at this
    exact ⟨b, off, rfl, hb, this, hb2⟩
end Go.Rv
namespace Go.Proofs.YthmnhpakgjnngaaDoor
open Go.RowKit Go.Bs Go.Cl Go.Rw Go.Dt Go.Rv
set_option maxRecDepth 100000 in
set_option maxHeartbeats 8000000 in
theorem silent_any (L : List Nat) (v : Value) (w0 : World) (hF : FormsAt w0) (hR : Msk w0 v L) :
    Calls Tryd.prog 4 #[v] w0 fun e w' => e = .returned (.bool true) ∧ Below w0.heap.size w0 w' := by
  obtain ⟨a, cap, rfl⟩ := Raw.slice hR.1
  have h0 := hF.pos
  have HF := Lib.hid hF; have HR := Lib.hid hR
  clear hF hR
  have heq := fun a b c d a' b' c' d' w => eqA4 a b c d a' b' c' d' w
  have heg := egA4
  go_enter Tryd.func4, Tryd.ntmps4
  go_wp2_with fail
  refine (awake_any w0 HF.out).mono ?_
  rintro e w1 ⟨rfl, hb1⟩
  by_cases hn : 20 < L.length
  · have hn' : (20 : Int) < L.length := by omega
    have HB1 := Lib.hid hb1; clear hb1
    go_wp2
    go_ret
    exact ⟨rfl, HB1.out⟩
  have hn' : ¬ (20 : Int) < L.length := by omega
  go_wp2_with fail
  refine (new_any w1).mono ?_
  rintro e w2 ⟨rfl, hb2⟩
  have HB2 := Lib.hid (hb1.trans (hb2.mono hb1.size))
  have hs2 := HB2.out.size
  clear hb1 hb2
  go_upto_region 7 with (fail)
  obtain ⟨w3, hw3⟩ : ∃ X, X = w2.alloc (.cells #[.int .i64 0, .slice none 0 0, .slice none 0 0] 29) := ⟨_, rfl⟩
  rw [← hw3]
  obtain ⟨S, hS⟩ : ∃ S, S = w2.heap.size := ⟨_, rfl⟩
  rw [← hS]
  have hb3 : Below w2.heap.size w2 w3 := by rw [hw3]; exact (Below.refl _ _).alloc (Nat.le_refl _) _
  have hSb : w3.heap[S]? = some (.cells #[.int .i64 0, .slice none 0 0, .slice none 0 0] 29 (0, 0)) := by
    rw [hw3, hS]; exact heap_alloc_new w2 _
  have HB3 := Lib.hid (HB2.out.trans (hb3.mono hs2))
  have hSw : w0.heap.size ≤ S := by omega
  have HSb := Lib.hid hSb
  clear hw3 hS hb3 hSb HB2 hs2
  go_wp2
  go_loopw [4, 5] (fun mm i wr => ∃ k M : Nat, k ≤ L.length ∧ M < 65536 ∧ mm = .int .u16 M ∧ i = .int .i64 k ∧ ∃ (x : Sv) (wa ha : Option Addr) (wc hc : Nat), VOk x ∧ x.r = k ∧ x.wt = mkTo M 9 ∧ wr.heap[S]? = some (.cells #[.int .i64 x.r, .slice wa x.wt.length wc, .slice ha x.hs.length hc] 29 (0, 0)) ∧ Ints [S] wr (.slice wa x.wt.length wc) x.wt ∧ Raw [S] 3 wr (.slice ha x.hs.length hc) x.hs.length (x.hs.flatMap encH) ∧ Below w0.heap.size w0 wr) (fun _ i _ => L.length - (intOf i).toNat)
  case atStart => exact ⟨0, 0, Nat.zero_le _, by omega, rfl, rfl, S0, none, none, 0, 0, S0_ok, rfl, (mkTo_zero 9).symm, HSb.out, Raw.empty _ _ _, Raw.empty _ _ _, HB3.out⟩
  case round =>
    clear HSb HB3
    rename World => wA
    obtain ⟨k, M, hk, hM, rfl, rfl, x, wa, ha, wc, hc, hok, hxr, hxw, hSb, hi, hh, hbl⟩ := hrel
    have HOK := Lib.hid hok; have HS := Lib.hid hSb; have HXR := Lib.hid hxr; have HXW := Lib.hid hxw; have HB := Lib.hid hbl
    have HV : Hid (SvV wA (.agg #[.int .i64 x.r, .slice wa x.wt.length wc, .slice ha x.hs.length hc]) x) := Lib.hid ⟨_, _, rfl, Raw.to_nil hi, Raw.to_nil hh⟩
    clear hok hSb hi hh hbl hxr hxw
    by_cases hlt : k < L.length
    · have hk20 : k < 20 := by omega
      obtain ⟨hs', hha, hok2⟩ := handle_alarm hk20 HOK.out HXR.out HXW.out
      have HHA := Lib.hid hha; have HOK2 := Lib.hid hok2
      clear hha hok2
      have s0 := box_at HS.out (j := 0) rfl
      have s1 := box_at HS.out (j := 1) rfl
      have s2 := box_at HS.out (j := 2) rfl
      go_wp2_with fail
      obtain ⟨wvv, hvv, hee, hii, hhh⟩ := HV.out
      cases hee
      refine (handle_any x _ _ ⟨0, 1, 4, 1, 1, 64, 0, 0⟩ none 0 0 wA HOK.out hii hhh (HF.out.below HB.out h0) (show fits 4 by unfold fits; decide)).mono ?_
      clear hii hhh
      rintro e y1 ⟨hb, hres⟩
      rw [HHA.out] at hres
      obtain ⟨sv, ev, rfl, hse, hsv⟩ := hres
      obtain ⟨nv, mv, rfl, hnv, hmv⟩ := hsv
      dsimp only at hnv hmv hse
      obtain ⟨na, nc, rfl⟩ := Raw.slice hnv
      obtain ⟨ma, mc, rfl⟩ := Raw.slice hmv
      obtain ⟨ea, ec, rfl⟩ := Raw.slice hse
      obtain ⟨E, hE⟩ : ∃ E, E = (silE M ((k : Int) + 1)).length := ⟨_, rfl⟩
      rw [← hE] at hse ⊢
      rw [silE_len] at hE
      have HEL := Lib.hid hE
      clear hE
      have hSl := (Array.getElem?_eq_some_iff.1 HS.out).1
      have hfr : ∀ f ∈ [S], f ∈ List.range wA.heap.size ∨ y1.heap.size ≤ f := fun f hf => .inl (List.mem_range.2 (by rw [List.mem_singleton.1 hf]; exact hSl))
      have hse1 : SlE y1 (.slice ea E ec) (silE M ((k : Int) + 1)) := Raw.to_nil hse
      have HN1 : Hid (Ints [S] y1 (.slice na comps.length nc) comps) := Lib.hid (Raw.fresh hnv hfr)
      have HM1 : Hid (Raw [S] 3 y1 (.slice ma hs'.length mc) hs'.length (hs'.flatMap encH)) := Lib.hid (Raw.fresh hmv hfr)
      have hB1 := HB.out.trans (hb.mono HB.out.size)
      have hS1 := (hb.block S hSl).trans HS.out
      clear hnv hmv hse hfr hSl hb HB HS HV s0 s1 s2 HHA HXW HXR HOK
      go_upto_region 11 with (fail)
      obtain ⟨w4, hw4⟩ : ∃ Y, Y = y1.alloc (.cells #[.int .i64 ((k : Int) + 1), .slice na comps.length nc, .slice ma hs'.length mc] 29) := ⟨_, rfl⟩
      rw [← hw4]
      obtain ⟨X, hX⟩ : ∃ X, X = y1.heap.size := ⟨_, rfl⟩
      rw [← hX]
      have hb4 : Below y1.heap.size y1 w4 := by rw [hw4]; exact (Below.refl _ _).alloc (Nat.le_refl _) _
      have hXb : w4.heap[X]? = some (.cells #[.int .i64 ((k : Int) + 1), .slice na comps.length nc, .slice ma hs'.length mc] 29 (0, 0)) := by rw [hw4, hX]; exact heap_alloc_new y1 _
      have HE4 := Lib.hid (hse1.below hb4)
      have HN4 := Lib.hid (Raw.below HN1.out hb4)
      have HM4 := Lib.hid (Raw.below HM1.out hb4)
      have HB4 := Lib.hid (hB1.trans (hb4.mono hB1.size))
      have HS4 := Lib.hid ((hb4.block S (Array.getElem?_eq_some_iff.1 hS1).1).trans hS1)
      have hXS : X ≠ S := by have := (Array.getElem?_eq_some_iff.1 hS1).1; omega
      have HX4 := Lib.hid hXb
      clear hw4 hX hb4 hXb hse1 HN1 HM1 hB1 hS1
      obtain ⟨be, oe, rfl, hbe, _⟩ := effs_at HE4.out (silE_tim ((k : Int) + 1))
      go_wp2
      go_loopw [9, 10] (fun ix tk wz => ∃ j n : Nat, j ≤ 9 ∧ n = (mkTo M j).length ∧ ix = .int .i64 n ∧ tk = .int .i64 ((j : Int) + 2) ∧ w4 = wz) (fun _ i _ => 11 - (intOf i).toNat)
      case atStart => exact ⟨0, 0, by omega, by simp [mkTo], rfl, rfl, rfl⟩
      case round =>
        obtain ⟨j, n, hj, hn0, rfl, rfl, hwz⟩ := hrel
        subst hwz
        have hnl := mkTo_len M j
        rw [← hn0] at hnl
        by_cases hj9 : j < 9
        · have hj1 : ((j : Int) + 2).toNat = j + 2 := by omega
          cases hbit : M.testBit (j + 2)
          · have e0 := bit16_no hM hbit
            have HU := Lib.hid (mkTo_no hbit); have HN0 := Lib.hid hn0
            clear hbit hn0
            go_wp2
            go_roundw
            case rel => exact ⟨j + 1, n, by omega, by rw [HU.out]; exact HN0.out, rfl, by go_num, trivial⟩
            case measure => simp [intOf]; omega
          · have e0 := bit16_yes hM hbit
            obtain ⟨_, _, hq, _, hcl⟩ := effs_at HE4.out (silE_rst ((k : Int) + 1) hj9 hbit)
            cases hq
            rw [← hn0] at hcl
            have c0 := hcl 0 _ rfl
            have c1 := hcl 1 _ rfl
            have c2 := hcl 2 _ rfl
            have c3 := hcl 3 _ rfl
            have c4 := hcl 4 _ rfl
            simp only [Nat.add_zero, rstE] at c0 c1 c2 c3 c4
            have hnE : n < E := by have := mkTo_len M j; obtain ⟨r, hr⟩ := mkTo_prefix M hj; have hE := HEL.out; rw [hr] at hE; simp at hE; omega
            have HU := Lib.hid (mkTo_yes hbit); have HN0 := Lib.hid hn0
            clear hbit hn0 hcl
            go_wp2
            go_roundw
            case rel => exact ⟨j + 1, n + 1, by omega, by rw [HU.out, List.length_append, ← HN0.out]; rfl, by go_num, by go_num, trivial⟩
            case measure => simp [intOf]; omega
        · have hj9e : j = 9 := by omega
          obtain ⟨m, hm⟩ : ∃ m, m = n := ⟨_, rfl⟩
          have HN9 := Lib.hid (show m = (mkTo M 9).length by rw [hm, hn0, hj9e])
          have hjx : ¬ ((j : Int) + 2 ≤ 10) := by omega
          have HEM : Hid (E = m + 10) := Lib.hid (by have := HEL.out; have := HN9.out; omega)
          have hml : m ≤ 9 := by omega
          clear hn0 hj9 hj hj9e
          rw [← hm]
          clear hm hnl
          go_wp2
          go_loopw [9, 11] (fun ix tk wz => ∃ j n : Nat, j ≤ 9 ∧ n = m + j ∧ ix = .int .i64 n ∧ tk = .int .i64 ((j : Int) + 2) ∧ w4 = wz) (fun _ i _ => 11 - (intOf i).toNat)
          case atStart => exact ⟨0, m, by omega, rfl, rfl, rfl, rfl⟩
          case round =>
            obtain ⟨j, n, hj, hn0, rfl, rfl, hwz⟩ := hrel
            subst hwz
            by_cases hj9 : j < 9
            · obtain ⟨_, _, hq, _, hcl⟩ := effs_at HE4.out (silE_ping ((k : Int) + 1) hj9)
              cases hq
              rw [← HN9.out, ← hn0] at hcl
              have c0 := hcl 0 _ rfl
              have c6 := hcl 6 _ rfl
              have c7 := hcl 7 _ rfl
              have c9 := hcl 9 _ rfl
              simp only [Nat.add_zero, pingE] at c0 c6 c7 c9
              have hnE : n < E := by have := HEM.out; omega
              have hnl : n ≤ 18 := by omega
              have HN0 := Lib.hid hn0
              clear hcl hn0
              go_wp2
              go_roundw
              case rel =>
                exact ⟨j + 1, n + 1, by omega, by have := HN0.out; omega, by go_num, by go_num, trivial⟩
              case measure => simp [intOf]; omega
            · have hj9e : j = 9 := by omega
              have hjy : ¬ ((j : Int) + 2 ≤ 10) := by omega
              obtain ⟨_, _, hq, _, hcl⟩ := effs_at HE4.out (silE_tim ((k : Int) + 1))
              cases hq
              rw [← HN9.out, ← hj9e, ← hn0] at hcl
              have c0 := hcl 0 _ rfl
              have c1 := hcl 1 _ rfl
              have c2 := hcl 2 _ rfl
              have c3 := hcl 3 _ rfl
              have c4 := hcl 4 _ rfl
              simp only [Nat.add_zero, timE] at c0 c1 c2 c3 c4
              obtain rfl : E = n + 1 := by have := HEM.out; omega
              have hnl : n ≤ 18 := by omega
              have x0 := box_at HX4.out (j := 0) rfl
              have x1 := box_at HX4.out (j := 1) rfl
              have x2 := box_at HX4.out (j := 2) rfl
              have s0 := box_at HS4.out (j := 0) rfl
              have s1 := box_at HS4.out (j := 1) rfl
              have s2 := box_at HS4.out (j := 2) rfl
              have g0 := box_free HS4.out 0
              have g1 := box_free HS4.out 1
              have g2 := box_free HS4.out 2
              clear hcl hn0 hj9 hj hj9e
              go_upto_region 30 with (fail)
              have hk5 := keep_set3 w4 S (.int .i64 ((k : Int) + 1)) (.slice na comps.length nc) (.slice ma hs'.length mc)
              have HS5 := Lib.hid (heap_set3 HS4.out (.int .i64 ((k : Int) + 1)) (.slice na comps.length nc) (.slice ma hs'.length mc))
              obtain ⟨w5, hw5⟩ : ∃ Y, Y = (((w4.setCell ⟨S, 0, none⟩ (.int .i64 ((k : Int) + 1))).setCell ⟨S, 1, none⟩ (.slice na comps.length nc)).setCell ⟨S, 2, none⟩ (.slice ma hs'.length mc)) := ⟨_, rfl⟩
              rw [← hw5] at hk5 HS5 ⊢
              have HN5 : Hid (Ints [S] w5 (.slice na comps.length nc) comps) := Lib.hid (Raw.keep (F' := [S]) HN4.out hk5 (fun f hf => .inl hf) (fun f hf => .inl hf))
              have HM5 : Hid (Raw [S] 3 w5 (.slice ma hs'.length mc) hs'.length (hs'.flatMap encH)) := Lib.hid (Raw.keep (F' := [S]) HM4.out hk5 (fun f hf => .inl hf) (fun f hf => .inl hf))
              have HB5 := Lib.hid (HB4.out.trans (hk5.below HB4.out.size (fun f hf => by rw [List.mem_singleton.1 hf]; exact hSw)))
              clear hw5 hk5 c0 c1 c2 c3 c4 x0 x1 x2 s0 s1 s2 g0 g1 g2 HN4 HM4 HB4 HS4 HX4 HE4
              obtain ⟨ba, oa, rfl, hba, hca, hA⟩ := HR.out.elem hlt
              obtain ⟨A, hAe⟩ : ∃ A, A = L[k] := ⟨_, rfl⟩
              rw [← hAe] at hca hA
              have HCA := Lib.hid hca
              clear hAe hca
              go_wp2
              go_loopw [4, 12] (fun mm tk wz => ∃ (t q : Nat) (z : Sv) (wa ha : Option Addr) (wc hc : Nat), t ≤ 9 ∧ q < 65536 ∧ mm = .int .u16 q ∧ tk = .int .i64 ((t : Int) + 2) ∧ (∀ j, j ≥ t + 2 → q.testBit j = false) ∧ VOk z ∧ z.r = (k : Int) + 1 ∧ z.wt = wtP q t ∧ wz.heap[S]? = some (.cells #[.int .i64 z.r, .slice wa z.wt.length wc, .slice ha z.hs.length hc] 29 (0, 0)) ∧ Ints [S] wz (.slice wa z.wt.length wc) z.wt ∧ Raw [S] 3 wz (.slice ha z.hs.length hc) z.hs.length (z.hs.flatMap encH) ∧ Below w0.heap.size w0 wz) (fun _ i _ => 11 - (intOf i).toNat)
              case atStart => exact ⟨0, 0, ⟨(k : Int) + 1, comps, hs'⟩, na, ma, nc, mc, by omega, by omega, rfl, rfl, fun j _ => by simp, HOK2.out, rfl, wtP_zero.symm, HS5.out, HN5.out, HM5.out, HB5.out⟩
              case round =>
                clear HN5 HM5 HB5 HS5 HOK2
                rename World => wB
                obtain ⟨t, q, z, wa, ha, wc, hc, ht, hq1, rfl, rfl, hqh, hok, hzr, hzw, hSb, hi, hh, hbl⟩ := hrel
                have HOK := Lib.hid hok; have HS := Lib.hid hSb; have HZR := Lib.hid hzr; have HZW := Lib.hid hzw; have HB := Lib.hid hbl; have HQ := Lib.hid hqh; have HI := Lib.hid hi; have HH := Lib.hid hh
                clear hok hSb hi hh hbl hzr hzw hqh
                by_cases ht9 : t < 9
                · have ht1 : ((t : Int) + 2).toNat = t + 2 := by omega
                  have r0 := (HB.out.cell (p := ⟨ba, oa + k, none⟩) hba).trans HCA.out
                  cases hbit : A.testBit (t + 2)
                  · have e0 := bit16_no hA hbit
                    have HO1 := Lib.hid (or16_bits (b := q) (t := t + 2) hq1 (by omega))
                    have hq2 := or16_lt (b := q) (t := t + 2) hq1 (by omega)
                    clear hbit
                    go_wp2
                    go_roundw
                    case rel => exact ⟨t + 1, q ||| 2 ^ (t + 2), z, wa, ha, wc, hc, by omega, hq2, by have e1 := HO1.out; first | (rw [e1]; done) | (rw [IntKind.wrap_u16, Int.one_mul] at e1; rw [e1]; done) | (simp only [IntKind.wrap_u16, Int.one_mul] at e1 ⊢; rw [e1]; done), by go_num, or16_high HQ.out, HOK.out, HZR.out, by rw [HZW.out]; exact wtP_yes ht9 HQ.out, HS.out, HI.out, HH.out, HB.out⟩
                    case measure => simp [intOf]; omega
                  · have e0 := bit16_yes hA hbit
                    have HP := Lib.hid (handle_pong hk20 ht9 HZR.out HZW.out HQ.out)
                    have HOK3 := Lib.hid (pong_ok2 HOK.out ht9 HZR.out HZW.out HQ.out)
                    have s0 := box_at HS.out (j := 0) rfl
                    have s1 := box_at HS.out (j := 1) rfl
                    have s2 := box_at HS.out (j := 2) rfl
                    clear hbit
                    go_wp2_with fail
                    refine (handle_any z _ _ ⟨(t : Int) + 2, 1, 7, 1, (k : Int) + 1, 0, 0, 0⟩ none 0 0 wB HOK.out (Raw.to_nil HI.out) (Raw.to_nil HH.out) (HF.out.below HB.out h0) (show fits 7 by unfold fits; decide)).mono ?_
                    rintro e y2 ⟨hb, hres⟩
                    rw [HP.out] at hres
                    obtain ⟨sv, ev, rfl, hse, hsv⟩ := hres
                    obtain ⟨nv, mv, rfl, hnv, hmv⟩ := hsv
                    dsimp only at hnv hmv hse
                    obtain ⟨nb, nbc, rfl⟩ := Raw.slice hnv
                    obtain ⟨mb, mbc, rfl⟩ := Raw.slice hmv
                    obtain ⟨eb, ebc, rfl⟩ := Raw.slice hse
                    have hSl := (Array.getElem?_eq_some_iff.1 HS.out).1
                    have hfr : ∀ f ∈ [S], f ∈ List.range wB.heap.size ∨ y2.heap.size ≤ f := fun f hf => .inl (List.mem_range.2 (by rw [List.mem_singleton.1 hf]; exact hSl))
                    obtain ⟨y3, hy3⟩ : ∃ Y, Y = y2.alloc (.cells #[.int .i64 z.r, .slice nb (wtP q (t + 1)).length nbc, .slice mb z.hs.length mbc] 29) := ⟨_, rfl⟩
                    have hb3 : Below y2.heap.size y2 y3 := by rw [hy3]; exact (Below.refl _ _).alloc (Nat.le_refl _) _
                    have HN6 : Hid (Ints [S] y3 (.slice nb (wtP q (t + 1)).length nbc) (wtP q (t + 1))) := Lib.hid (Raw.below (Raw.fresh hnv hfr) hb3)
                    have HM6 : Hid (Raw [S] 3 y3 (.slice mb z.hs.length mbc) z.hs.length (z.hs.flatMap encH)) := Lib.hid (Raw.below (Raw.fresh hmv hfr) hb3)
                    have hB2 := HB.out.trans (hb.mono HB.out.size)
                    have HB6 := Lib.hid (hB2.trans (hb3.mono hB2.size))
                    have hS2 := (hb.block S hSl).trans HS.out
                    have HS6 := Lib.hid ((hb3.block S (Array.getElem?_eq_some_iff.1 hS2).1).trans hS2)
                    have HY3 := Lib.hid hy3
                    clear hnv hmv hse hfr hSl hb HB HS HI HH s0 s1 s2 HP hb3 hB2 hS2 hy3 r0 e0
                    go_upto_region 36 with (fail)
                    rw [← HY3.out]
                    obtain ⟨Yb, hYb⟩ : ∃ Y, Y = y2.heap.size := ⟨_, rfl⟩
                    rw [← hYb]
                    have hYc : y3.heap[Yb]? = some (.cells #[.int .i64 z.r, .slice nb (wtP q (t + 1)).length nbc, .slice mb z.hs.length mbc] 29 (0, 0)) := by rw [HY3.out, hYb]; exact heap_alloc_new y2 _
                    have x0 := box_at hYc (j := 0) rfl
                    have x1 := box_at hYc (j := 1) rfl
                    have x2 := box_at hYc (j := 2) rfl
                    have s0 := box_at HS6.out (j := 0) rfl
                    have s1 := box_at HS6.out (j := 1) rfl
                    have s2 := box_at HS6.out (j := 2) rfl
                    have g0 := box_free HS6.out 0
                    have g1 := box_free HS6.out 1
                    have g2 := box_free HS6.out 2
                    clear HY3 hYb hYc
                    go_wp2
                    go_roundw
                    case rel =>
                      have hk := keep_set3 y3 S (.int .i64 z.r) (.slice nb (wtP q (t + 1)).length nbc) (.slice mb z.hs.length mbc)
                      exact ⟨t + 1, q, ⟨z.r, wtP q (t + 1), z.hs⟩, nb, mb, nbc, mbc, by omega, hq1, rfl, by go_num, fun j hj => HQ.out j (by omega), HOK3.out, HZR.out, rfl, heap_set3 HS6.out _ _ _, Raw.keep (F' := [S]) HN6.out hk (fun f hf => .inl hf) (fun f hf => .inl hf), Raw.keep (F' := [S]) HM6.out hk (fun f hf => .inl hf) (fun f hf => .inl hf), HB6.out.trans (hk.below HB6.out.size (fun f hf => by rw [List.mem_singleton.1 hf]; exact hSw))⟩
                    case measure => simp [intOf]; omega
                · have ht9e : t = 9 := by omega
                  have htx : ¬ ((t : Int) + 2 ≤ 10) := by omega
                  have HZ2 : Hid (z.wt = mkTo q 9) := Lib.hid (by rw [HZW.out, ht9e, wtP_nine])
                  clear ht9e ht9 ht
                  go_wp2
                  go_roundw
                  case rel => exact ⟨k + 1, q, by omega, hq1, rfl, by go_num, z, wa, ha, wc, hc, HOK.out, by rw [HZR.out]; omega, HZ2.out, HS.out, HI.out, HH.out, HB.out⟩
                  case measure => simp [intOf]; omega
    · obtain rfl : k = L.length := by omega
      go_wp2
      go_ret
      exact ⟨rfl, HB.out⟩
end Go.Proofs.YthmnhpakgjnngaaDoor
