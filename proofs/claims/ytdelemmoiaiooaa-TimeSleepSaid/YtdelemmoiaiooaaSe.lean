/- time: TimeSleep -/
import Derived.Test.YtdelemmoiaiooaaSy
namespace Go.Ti
open Go Go.RowKit Go.Bs Go.Cl Go.Rw Go.Wi
def S0 : Wd := ⟨[], 0, fun _ => 0, fun _ => 0, fun _ => 0, 0, false⟩
theorem inv0 : Inv S0 32 := ⟨rfl, fun _ _ => rfl, fun t _ => by simp [S0], fun _ _ h => absurd rfl h, fun _ _ _ h => absurd rfl h, fun _ _ => Int.le_refl _, rfl, Int.le_refl _⟩
def Sums (S : Wd) (f : Nat → Int) (k : Nat) : Prop := ∀ u, u < 32 → f u = S.ans u + pend S u ∧ f u ≤ k
theorem Sums.rel {S T : Wd} {f : Nat → Int} {k : Nat} (h : Sums S f k) (r : Rel S T) : Sums T f k := fun u hu => by
  have := h u hu; have := r.su u hu; omega
theorem Sums.up {S : Wd} {f : Nat → Int} {k : Nat} (h : Sums S f k) : Sums S f (k + 1) := fun u hu => by
  have := h u hu; omega
theorem sum_free0 {S : Wd} {f : Nat → Int} {k t : Nat} (h : Sums S f k) (h0 : S.en t = 0) : Sums (freeS S t) f (k + 1) := fun u hu => by
  have h1 := h u hu
  have h2 := pend_upd S (freeS S t) u t 0 rfl
  have h3 : (freeS S t).ans u = S.ans u := rfl
  by_cases e : u = t
  · subst e
    rw [if_pos rfl, if_pos rfl] at h2
    unfold pend at h1
    rw [if_pos h0] at h1
    omega
  · rw [if_neg e] at h2; omega
theorem sum_free1 {S : Wd} {f : Nat → Int} {k t : Nat} (h : Sums S f k) (h0 : S.en t ≠ 0) : Sums (freeS S t) (upd f t (f t - 1)) (k + 1) := fun u hu => by
  have h1 := h u hu
  have h2 := pend_upd S (freeS S t) u t 0 rfl
  have h3 : (freeS S t).ans u = S.ans u := rfl
  by_cases e : u = t
  · subst e
    rw [if_pos rfl, if_pos rfl] at h2
    unfold pend at h1
    rw [if_neg h0] at h1
    rw [upd_same]
    omega
  · rw [if_neg e] at h2; rw [upd_other _ e]; omega
theorem sum_ans {S : Wd} {f : Nat → Int} {k t : Nat} (h : Sums S f k) : Sums (ansS S t) (upd f t (f t + 1)) (k + 1) := fun u hu => by
  have h1 := h u hu
  have h2 : pend (ansS S t) u = pend S u := rfl
  have h3 : (ansS S t).ans u = upd S.ans t (S.ans t + 1) u := rfl
  rw [h2, h3]
  by_cases e : u = t
  · subst e; rw [upd_same, upd_same]; omega
  · rw [upd_other _ e, upd_other _ e]; omega
theorem sum_sleep {S : Wd} {f : Nat → Int} {k t : Nat} {n : Int} (h : Sums S f k) (h0 : S.en t = 0) (hn : S.now + n ≠ 0) : Sums (sleepS S t n) (upd f t (f t + 1)) (k + 1) := fun u hu => by
  have h1 := h u hu
  have h2 := pend_upd S (sleepS S t n) u t (S.now + n) rfl
  have h3 : (sleepS S t n).ans u = S.ans u := rfl
  by_cases e : u = t
  · subst e
    rw [if_pos rfl, if_neg hn] at h2
    unfold pend at h1
    rw [if_pos h0] at h1
    rw [upd_same]
    omega
  · rw [if_neg e] at h2; rw [upd_other _ e]; omega
/-- what holds between the calls: F what was asked for -/
structure LI (w wr : World) (g V : Nat) (S : Wd) (f : Nat → Int) (k : Nat) : Prop where
  iv : ∃ iv, WdAt wr g iv S ∧ Bytes [g] wr iv (encS S.L)
  ar : ArAt wr V f
  su : Sums S f k
  I : Inv S 32
  n : S.now ≤ 20 * k
  f0 : 0 ≤ S.freed
  f1 : S.freed ≤ k
  b : Below w.heap.size w wr
end Go.Ti
namespace Go.Proofs.Ytdelemmoiaiooaa
open Go.RowKit Go.Bs Go.Cl Go.Rw Go.Ti Go.Wi
set_option maxRecDepth 100000 in
theorem wcells0 (iv : Value) : wcells iv S0 = Try.zeroCells54.setIfInBounds 0 iv := by kernel_rfl
set_option maxRecDepth 100000 in
theorem ints0 : ints (fun _ => 0) = #[.int .i64 0, .int .i64 0, .int .i64 0, .int .i64 0, .int .i64 0, .int .i64 0, .int .i64 0, .int .i64 0, .int .i64 0, .int .i64 0, .int .i64 0, .int .i64 0, .int .i64 0, .int .i64 0, .int .i64 0, .int .i64 0, .int .i64 0, .int .i64 0, .int .i64 0, .int .i64 0, .int .i64 0, .int .i64 0, .int .i64 0, .int .i64 0, .int .i64 0, .int .i64 0, .int .i64 0, .int .i64 0, .int .i64 0, .int .i64 0, .int .i64 0, .int .i64 0] := by rfl
set_option maxRecDepth 100000 in
set_option maxHeartbeats 16000000 in
theorem sleep_any (v : Value) (cs : List Ca) (w : World) (h : SlC w v cs) : Calls Try.prog 5 #[v] w (RetOK w) := by
  obtain ⟨a, cap, rfl⟩ := Raw.slice h
  have H := Lib.hid h
  clear h
  go_enter Try.func5, Try.ntmps5
  go_wp2_with fail
  refine (awake_any _).mono ?_
  rintro e w2 ⟨rfl, bel2⟩
  go_wp2_with fail
  refine (fair_any _ cs _ (H.out.below bel2)).mono ?_
  rintro e w' ⟨rfl, rfl⟩
  cases hf : fairC cs
  · clear hf
    go_wp2
    go_ret
    exact ⟨rfl, bel2⟩
  obtain ⟨hok, hlen⟩ := fair_ok hf
  have HOK := Lib.hid hok
  clear hf hok
  go_wp2_with fail
  refine (new_any _).mono ?_
  rintro e w3 ⟨rfl, hb3⟩
  have bel3 := bel2.trans (hb3.mono bel2.size)
  go_wp2_with fail
  refine (encode_any _ [] _ (by simp) (Raw.empty _ _ _)).mono ?_
  rintro e w4 ⟨v4, rfl, hr4, hb4⟩
  have bel4 := bel3.trans (hb4.mono bel3.size)
  have hs4 := bel4.size
  obtain ⟨g, hg⟩ : ∃ g, g = w4.heap.size := ⟨_, rfl⟩
  obtain ⟨V, hV⟩ : ∃ V, V = w4.heap.size + 1 := ⟨_, rfl⟩
  obtain ⟨a4, c4, rfl⟩ := own_slice hr4
  obtain ⟨w5, hw5⟩ : ∃ W, W = (w4.alloc (.cells (Try.zeroCells54.setIfInBounds 0 (.slice a4 (Ti.encS []).length c4)) 54)).alloc (.cells #[.int .i64 0, .int .i64 0, .int .i64 0, .int .i64 0, .int .i64 0, .int .i64 0, .int .i64 0, .int .i64 0, .int .i64 0, .int .i64 0, .int .i64 0, .int .i64 0, .int .i64 0, .int .i64 0, .int .i64 0, .int .i64 0, .int .i64 0, .int .i64 0, .int .i64 0, .int .i64 0, .int .i64 0, .int .i64 0, .int .i64 0, .int .i64 0, .int .i64 0, .int .i64 0, .int .i64 0, .int .i64 0, .int .i64 0, .int .i64 0, .int .i64 0, .int .i64 0] 52) := ⟨_, rfl⟩
  have hg5 : w5.heap[g]? = some (.cells (wcells (.slice a4 (Ti.encS []).length c4) S0) 54 (0, 0)) := by rw [hw5, hg, wcells0]; exact a2_0 _ _ _ _ _
  have hV5 : w5.heap[V]? = some (.cells (ints fun _ => 0) 52 (0, 0)) := by rw [hw5, hV, ints0]; exact a2_1 _ _ _ _ _
  have hb5 : Below w4.heap.size w4 w5 := by rw [hw5]; exact ((Below.refl _ w4).alloc (Nat.le_refl _) _).alloc (by simp) _
  have bel5 := bel4.trans (hb5.mono bel4.size)
  have HLI : Hid (LI w w5 g V S0 (fun _ => 0) 0) := Lib.hid ⟨⟨_, hg5, Raw.keep (Raw.of_own hr4 (bytesV_one _) (fun f hf => by cases hf) : Bytes [] w4 _ _) (Keep.of_below' hb5 (F := [])) (fun f hf => by cases hf) (fun f hf => by rw [List.mem_singleton.1 hf]; right; omega)⟩,
    hV5, fun t _ => by simp [S0, pend], inv0, by simp [S0], by simp [S0], by simp [S0], bel5⟩
  have HGV : Hid (g ≠ V) := Lib.hid (by omega)
  have HGL : Hid (w.heap.size ≤ g) := Lib.hid (by omega)
  have HVL : Hid (w.heap.size ≤ V) := Lib.hid (by omega)
  have HW5 := Lib.hid hw5
  have HG := Lib.hid hg
  have HVV := Lib.hid hV
  clear hw5 hg hV hg5 hV5 hb5 hr4 hb4 hb3 bel5
  go_upto_region 7 with (fail)
  rw [← HW5.out, ← HVV.out, ← HG.out]
  clear HW5 HG HVV hs4
  go_wp2
  go_loopw [5, 6] (fun fr i wr => ∃ k : Nat, k ≤ cs.length ∧ i = .int .i64 k ∧ ∃ S f, fr = .int .i64 S.freed ∧ LI w wr g V S f k) (fun _ i _ => cs.length - (intOf i).toNat)
  case atStart => exact ⟨0, Nat.zero_le _, rfl, S0, _, rfl, HLI.out⟩
  case round =>
    obtain ⟨k, hk, rfl, S, f, rfl, hli⟩ := hrel
    clear HLI
    by_cases hlt : k < cs.length
    · have hokx := HOK.out k hlt
      obtain ⟨b, off, rfl, hb, hc⟩ := (H.out.below hli.b).elem hlt
      obtain ⟨x, hx⟩ : ∃ x, caAt cs k = x := ⟨_, rfl⟩
      rw [hx] at hc hokx
      obtain ⟨op, tk, n, ti⟩ := x
      obtain ⟨o0, o1, o2, o3, o4, o5⟩ := hokx
      simp only at o0 o1 o2 o3 o4 o5
      obtain ⟨t, rfl⟩ := Int.eq_ofNat_of_zero_le (show 0 ≤ tk by omega)
      obtain ⟨m, rfl⟩ := Int.eq_ofNat_of_zero_le o4
      have ht : t < 32 := by omega
      have hm : m ≤ 20 := by omega
      have HU : Hid (usr t = true) := Lib.hid (by simp [usr]; omega)
      clear o2 o3 o4 o5 hx
      have a_0 := hc 0 _ rfl
      have a_1 := hc 1 _ rfl
      have a_2 := hc 2 _ rfl
      have a_3 := hc 3 _ rfl
      simp only [← Nat.add_assoc, Nat.add_zero] at a_0 a_1 a_2 a_3
      clear hc
      obtain ⟨⟨iv, hW, hB⟩, hA, hsu, hI, hn, hf0, hf1, hbw⟩ := hli
      obtain ⟨X, hX⟩ : ∃ X, X = wr.heap.size := ⟨_, rfl⟩
      obtain ⟨w1, hw1⟩ : ∃ W, W = wr.alloc (.cells #[.int .i64 op, .int .i64 t, .int .i64 n, .int .i64 m] 56) := ⟨_, rfl⟩
      have hb1 : Below wr.heap.size wr w1 := by rw [hw1]; exact (Below.refl _ wr).alloc (Nat.le_refl _) _
      have HX1 : Hid (w1.heap[X]? = some (.cells #[.int .i64 op, .int .i64 t, .int .i64 n, .int .i64 m] 56 (0, 0))) := Lib.hid (by rw [hw1, hX]; exact a1_0 wr _ 56)
      have HXg : Hid (X ≠ g) := Lib.hid (by have := hW.lt; omega)
      have HXL : Hid (V < X) := Lib.hid (by have := hA.lt; omega)
      have HW1 := Lib.hid (hW.below hb1)
      have HB1 : Hid (Bytes [g] w1 iv (Ti.encS S.L)) := Lib.hid (Raw.below hB hb1)
      have HA1 := Lib.hid (hA.keep (F := []) (Keep.of_below' hb1) (by simp))
      have HSU := Lib.hid hsu
      have HI := Lib.hid hI
      have hb01 := hbw.trans (hb1.mono hbw.size)
      have HN := Lib.hid hn
      have HR := Lib.hid hw1
      have HRX := Lib.hid hX
      clear hw1 hX hb1 hW hB hA hsu hI hbw hn
      go_upto_region 12 with (fail)
      rw [← HR.out, ← HRX.out]
      clear HR HRX a_0 a_1 a_2 a_3
      have x_3 := box_at HX1.out (j := 3) rfl
      go_wp2
      go_loopw [8] (fun j wq => ∃ q : Nat, q ≤ m ∧ j = .int .i64 q ∧ ∃ jv T, WdAt wq g jv T ∧ Bytes [g] wq jv (Ti.encS T.L) ∧ Inv T 32 ∧ T.now = S.now + q ∧ Rel S T ∧ Keep [g] w1 wq) (fun j _ => m - (intOf j).toNat)
      case atStart => exact ⟨0, Nat.zero_le _, rfl, iv, S, HW1.out, HB1.out, HI.out, by simp, Rel.refl S, Keep.refl _ _⟩
      case round =>
        obtain ⟨q, hq, rfl, jv, T, hT, hB, hI, hn, hR, hkp⟩ := hrel
        have HX2 := Lib.hid ((hkp.block X (Array.getElem?_eq_some_iff.1 HX1.out).1 (by intro h; rw [List.mem_singleton] at h; exact HXg.out h)).trans HX1.out)
        have x_3 := box_at HX2.out (j := 3) rfl
        have HT := Lib.hid hT
        have HBT := Lib.hid hB
        have HIT := Lib.hid hI
        have HN2 := Lib.hid hn
        have HR2 := Lib.hid hR
        have HK2 := Lib.hid hkp
        clear hT hB hI hn hR hkp
        by_cases hqm : q < m
        · go_wp2_with fail
          refine (tick_any g jv T wr HT.out HBT.out HIT.out (fun u hu => by have := HR2.out.su u hu; have := HSU.out u hu; omega) (by have := HN.out; have := HN2.out; omega) (by have := HR2.out.fr; omega) (by have := HR2.out.fr; omega)).mono ?_
          rintro e w3 ⟨rfl, kv, T', hT', hB', hI', hn', hR', hk'⟩
          have HT' := Lib.hid hT'
          have HB' := Lib.hid hB'
          have HI' := Lib.hid hI'
          have HN' : Hid (T'.now = S.now + (q + 1 : Nat)) := Lib.hid (by have := HN2.out; omega)
          have HR' := Lib.hid (HR2.out.trans hR')
          have HK' := Lib.hid (HK2.out.trans hk' (fun f hf => .inl hf))
          clear hT' hB' hI' hn' hR' hk' x_3
          go_wp2
          go_roundw
          case rel => exact ⟨q + 1, hqm, by go_num, kv, T', HT'.out, HB'.out, HI'.out, HN'.out, HR'.out, HK'.out⟩
          case measure => simp [intOf]; omega
        · obtain rfl : q = m := by omega
          have HSU2 := Lib.hid (HSU.out.rel HR2.out)
          have HA2 : Hid (ArAt wr V f) := Lib.hid (HA1.out.keep HK2.out (by simpa using HGV.out.symm))
          have BEL2 : Hid (Below w.heap.size w wr) := Lib.hid (hb01.trans (HK2.out.below hb01.size (fun f hf => by rw [List.mem_singleton.1 hf]; exact HGL.out)))
          have HT2 : Hid (WdAt wr g jv T) := HT
          have HB2 : Hid (Bytes [g] wr jv (Ti.encS T.L)) := HBT
          have HXV : Hid (X ≠ V) := Lib.hid (by have := HA1.out.lt; have := HXL.out; omega)
          clear HT HBT HA1 HK2
          have x_0 := box_at HX2.out (j := 0) rfl
          have x_1 := box_at HX2.out (j := 1) rfl
          have x_2 := box_at HX2.out (j := 2) rfl
          by_cases h2 : op = 2
          · subst h2
            have cen := HT2.out.cen ht
            have cfe := HT2.out.free (34 + t)
            by_cases h0 : T.en t = 0
            · rw [h0] at cen
              go_upto_region 18 with (fail)
              refine Txt.wp_txt (by kernel_rfl) (by kernel_rfl) ?_
              go_wp2
              refine Txt.DrawPost.mk0 (by rfl) ?_
              obtain ⟨w3, hw3⟩ : ∃ W, W = wr.drew := ⟨_, rfl⟩
              have K3 : Keep ([] : List Nat) wr w3 := by rw [hw3]; exact (Keep.refl [] wr).drew
              have HT3 : Hid (WdAt w3 g jv T) := Lib.hid (HT2.out.keep K3 (by simp))
              have HB3 : Hid (Bytes [g] w3 jv (Ti.encS (T).L)) := Lib.hid (Raw.keep HB2.out K3 (fun f hf => by cases hf) (fun f hf => .inl hf))
              have HA3 : Hid (ArAt w3 V (f)) := Lib.hid (HA2.out.keep K3 (by simp))
              have BEL3 := Lib.hid (BEL2.out.trans (K3.below BEL2.out.size (fun f hf => by cases hf)))
              have HX3 := Lib.hid ((K3.block X (Array.getElem?_eq_some_iff.1 HX2.out).1 (by simp)).trans HX2.out)
              have HW3 := Lib.hid hw3
              clear hw3 K3
              rw [← HW3.out]
              clear HW3 cen cfe x_0 x_1 x_2 x_3
              have x_1 := box_at HX3.out (j := 1) rfl
              go_wp2_with fail
              have HEQ := Lib.hid (free_eq HIT.out ht)
              rw [upd_id h0] at HEQ
              refine (tell_any g jv (T) (delT T.L t) ((if (t : Int) ∈ T.L then [timer (-1) t] else []) ++ [send 3 17 t]) 3 0 16 0 t 0 0 0 w3 HT3.out HB3.out (stp_of (m := ⟨3, 10, 16, 0, t, 0, 0, 0⟩) HIT.out.v (take_free HU.out)) (ok_free ht _) ⟨HIT.out.n0, by have := HN2.out; have := HN.out; (try simp only); omega, HIT.out.an, fun u hu => by have := HSU2.out u hu; have := pend_nn T u; (try simp only); omega, by have := HR2.out.fr; (try simp only); omega, by have := HR2.out.fr; (try simp only); omega⟩).mono ?_
              rw [HEQ.out]
              rintro e w4 ⟨rfl, kv, hT4, hB4, K4⟩
              have HT4 := Lib.hid hT4
              have HB4 := Lib.hid hB4
              have HA4 : Hid (ArAt w4 V (f)) := Lib.hid (HA3.out.keep K4 (by simpa using HGV.out.symm))
              have BEL4 := Lib.hid (BEL3.out.trans (K4.below BEL3.out.size (fun f hf => by rw [List.mem_singleton.1 hf]; exact HGL.out)))
              clear hT4 hB4 K4
              go_wp2
              go_roundw
              case rel => exact ⟨k + 1, hlt, by go_num, freeS T t, f, by rw [show (freeS T t).freed = S.freed + 1 from by simp only [freeS]; rw [HR2.out.fr]], ⟨⟨_, HT4.out, HB4.out⟩, HA4.out, sum_free0 HSU2.out h0, HIT.out.free ht, by have := HN2.out; have := HN.out; (try simp only [freeS, ansS, sleepS]); omega, by have := HR2.out.fr; (try simp only [freeS, ansS, sleepS]); omega, by have := HR2.out.fr; (try simp only [freeS, ansS, sleepS]); omega, BEL4.out⟩⟩
              case measure => simp [intOf]; omega
            · have g0 : (T.en t != 0) = true := by simp [h0]
              have hft : f t = T.ans t + 1 := by have := (HSU2.out t ht).1; unfold pend at this; rw [if_neg h0] at this; exact this
              have hf2 := (HSU2.out t ht).2
              have hf3 := HIT.out.an t ht
              have HF := Lib.hid hft
              clear hft
              have cv := HA2.out.cell ht
              have cvf := HA2.out.free t
              have hf4 : 0 ≤ f t := by have := HF.out; omega
              clear hf3
              go_upto_region 18 with (fail)
              refine Txt.wp_txt (by kernel_rfl) (by kernel_rfl) ?_
              go_wp2
              refine Txt.DrawPost.mk0 (by rfl) ?_
              obtain ⟨w3, hw3⟩ : ∃ W, W = (wr.setCell ⟨V, t, none⟩ (.int .i64 (f t - 1))).drew := ⟨_, rfl⟩
              have K3 : Keep [V] wr w3 := by rw [hw3]; exact ((Keep.refl [V] wr).setCell (.inl (by simp)) _).drew
              have HT3 : Hid (WdAt w3 g jv T) := Lib.hid (HT2.out.keep K3 (by simpa using HGV.out))
              have HB3 : Hid (Bytes [g] w3 jv (Ti.encS (T).L)) := Lib.hid (Raw.keep (bytes_out HB2.out HA2.out) K3 (fun f hf => .inl (by rw [List.mem_singleton.1 hf]; simp)) (fun f hf => .inl (by simp [hf])))
              have HA3 : Hid (ArAt w3 V (upd f t (f t - 1))) := Lib.hid (by rw [hw3]; exact HA2.out.set ht _)
              have BEL3 := Lib.hid (BEL2.out.trans (K3.below BEL2.out.size (fun f hf => by rw [List.mem_singleton.1 hf]; exact HVL.out)))
              have HX3 := Lib.hid ((K3.block X (Array.getElem?_eq_some_iff.1 HX2.out).1 (by intro h; rw [List.mem_singleton] at h; exact HXV.out h)).trans HX2.out)
              have HW3 := Lib.hid hw3
              clear hw3 K3
              go_upto_region 20 with (fail)
              rw [← HW3.out]
              clear HW3
              clear cen cfe x_0 x_1 x_2 x_3 cv cvf
              have cen := HT3.out.cen ht
              have cfe := HT3.out.free (34 + t)
              have x_1 := box_at HX3.out (j := 1) rfl
              refine Txt.wp_txt (by kernel_rfl) (by kernel_rfl) ?_
              go_wp2
              refine Txt.DrawPost.mk0 (by rfl) ?_
              obtain ⟨w4, hw4⟩ : ∃ W, W = (w3.setCell ⟨g, 34 + t, none⟩ (.int .i64 (0))).drew := ⟨_, rfl⟩
              have K4 : Keep [g] w3 w4 := by rw [hw4]; exact ((Keep.refl [g] w3).setCell (.inl (by simp)) _).drew
              have HT4 : Hid (WdAt w4 g jv { T with en := upd T.en t 0 }) := Lib.hid (by rw [hw4]; exact HT3.out.setEn ht 0)
              have HB4 : Hid (Bytes [g] w4 jv (Ti.encS ({ T with en := upd T.en t 0 }).L)) := Lib.hid (Raw.keep HB3.out K4 (fun f hf => .inl hf) (fun f hf => .inl hf))
              have HA4 : Hid (ArAt w4 V (upd f t (f t - 1))) := Lib.hid (HA3.out.keep K4 (by simpa using HGV.out.symm))
              have BEL4 := Lib.hid (BEL3.out.trans (K4.below BEL3.out.size (fun f hf => by rw [List.mem_singleton.1 hf]; exact HGL.out)))
              have HX4 := Lib.hid ((K4.block X (Array.getElem?_eq_some_iff.1 HX3.out).1 (by intro h; rw [List.mem_singleton] at h; exact HXg.out h)).trans HX3.out)
              have HW4 := Lib.hid hw4
              clear hw4 K4
              go_upto_region 21 with (fail)
              rw [← HW4.out]
              clear HW4
              clear cen cfe x_1
              have x_1 := box_at HX4.out (j := 1) rfl
              go_wp2_with fail
              refine (tell_any g jv ({ T with en := upd T.en t 0 }) (delT T.L t) ((if (t : Int) ∈ T.L then [timer (-1) t] else []) ++ [send 3 17 t]) 3 0 16 0 t 0 0 0 w4 HT4.out HB4.out (stp_of (m := ⟨3, 10, 16, 0, t, 0, 0, 0⟩) HIT.out.v (take_free HU.out)) (ok_free ht _) ⟨HIT.out.n0, by have := HN2.out; have := HN.out; (try simp only); omega, HIT.out.an, fun u hu => by have := HSU2.out u hu; have := pend_nn T u; (try simp only); omega, by have := HR2.out.fr; (try simp only); omega, by have := HR2.out.fr; (try simp only); omega⟩).mono ?_
              rw [free_eq HIT.out ht]
              rintro e w5 ⟨rfl, kv, hT5, hB5, K5⟩
              have HT5 := Lib.hid hT5
              have HB5 := Lib.hid hB5
              have HA5 : Hid (ArAt w5 V (upd f t (f t - 1))) := Lib.hid (HA4.out.keep K5 (by simpa using HGV.out.symm))
              have BEL5 := Lib.hid (BEL4.out.trans (K5.below BEL4.out.size (fun f hf => by rw [List.mem_singleton.1 hf]; exact HGL.out)))
              clear hT5 hB5 K5
              go_wp2
              go_roundw
              case rel => exact ⟨k + 1, hlt, by go_num, freeS T t, _, by rw [show (freeS T t).freed = S.freed + 1 from by simp only [freeS]; rw [HR2.out.fr]], ⟨⟨_, HT5.out, HB5.out⟩, HA5.out, sum_free1 HSU2.out h0, HIT.out.free ht, by have := HN2.out; have := HN.out; (try simp only [freeS, ansS, sleepS]); omega, by have := HR2.out.fr; (try simp only [freeS, ansS, sleepS]); omega, by have := HR2.out.fr; (try simp only [freeS, ansS, sleepS]); omega, BEL5.out⟩⟩
              case measure => simp [intOf]; omega
          · have cen := HT2.out.cen ht
            have cv := HA2.out.cell ht
            have cvf := HA2.out.free t
            have e2 : (op == 2) = false := by simp [h2]
            by_cases h0 : T.en t = 0
            rotate_left
            · have g0 : (T.en t != 0) = true := by simp [h0]
              go_upto_region 22 with (fail)
              refine Txt.wp_txt (by kernel_rfl) (by kernel_rfl) ?_
              go_wp2
              refine Txt.DrawPost.mk0 (by rfl) ?_
              obtain ⟨w3, hw3⟩ : ∃ W, W = wr.drew := ⟨_, rfl⟩
              have K3 : Keep ([] : List Nat) wr w3 := by rw [hw3]; exact (Keep.refl [] wr).drew
              have HT3 : Hid (WdAt w3 g jv T) := Lib.hid (HT2.out.keep K3 (by simp))
              have HB3 : Hid (Bytes [g] w3 jv (Ti.encS (T).L)) := Lib.hid (Raw.keep HB2.out K3 (fun f hf => by cases hf) (fun f hf => .inl hf))
              have HA3 : Hid (ArAt w3 V (f)) := Lib.hid (HA2.out.keep K3 (by simp))
              have BEL3 := Lib.hid (BEL2.out.trans (K3.below BEL2.out.size (fun f hf => by cases hf)))
              have HX3 := Lib.hid ((K3.block X (Array.getElem?_eq_some_iff.1 HX2.out).1 (by simp)).trans HX2.out)
              have HW3 := Lib.hid hw3
              clear hw3 K3
              rw [← HW3.out]
              clear HW3
              go_wp2
              go_roundw
              case rel => exact ⟨k + 1, hlt, by go_num, T, f, by rw [HR2.out.fr], ⟨⟨_, HT3.out, HB3.out⟩, HA3.out, HSU2.out.up, HIT.out, by have := HN2.out; have := HN.out; omega, by have := HR2.out.fr; (try simp only [freeS, ansS, sleepS]); omega, by have := HR2.out.fr; (try simp only [freeS, ansS, sleepS]); omega, BEL3.out⟩⟩
              case measure => simp [intOf]; omega
            rw [h0] at cen
            have hf2 := (HSU2.out t ht).2
            have hf3 : 0 ≤ f t := by have := (HSU2.out t ht).1; have := HIT.out.an t ht; have := pend_nn T t; omega
            have hm : (t : Int) ∉ T.L := fun hm => (HIT.out.me t ht).1 hm h0
            have HM := Lib.hid hm
            clear hm
            go_upto_region 22 with (fail)
            refine Txt.wp_txt (by kernel_rfl) (by kernel_rfl) ?_
            go_wp2
            refine Txt.DrawPost.mk0 (by rfl) ?_
            obtain ⟨w3, hw3⟩ : ∃ W, W = (wr.setCell ⟨V, t, none⟩ (.int .i64 (f t + 1))).drew := ⟨_, rfl⟩
            have K3 : Keep [V] wr w3 := by rw [hw3]; exact ((Keep.refl [V] wr).setCell (.inl (by simp)) _).drew
            have HT3 : Hid (WdAt w3 g jv T) := Lib.hid (HT2.out.keep K3 (by simpa using HGV.out))
            have HB3 : Hid (Bytes [g] w3 jv (Ti.encS (T).L)) := Lib.hid (Raw.keep (bytes_out HB2.out HA2.out) K3 (fun f hf => .inl (by rw [List.mem_singleton.1 hf]; simp)) (fun f hf => .inl (by simp [hf])))
            have HA3 : Hid (ArAt w3 V (upd f t (f t + 1))) := Lib.hid (by rw [hw3]; exact HA2.out.set ht _)
            have BEL3 := Lib.hid (BEL2.out.trans (K3.below BEL2.out.size (fun f hf => by rw [List.mem_singleton.1 hf]; exact HVL.out)))
            have HX3 := Lib.hid ((K3.block X (Array.getElem?_eq_some_iff.1 HX2.out).1 (by intro h; rw [List.mem_singleton] at h; exact HXV.out h)).trans HX2.out)
            have HW3 := Lib.hid hw3
            clear hw3 K3
            go_upto_region 24 with (fail)
            rw [← HW3.out]
            clear HW3
            clear cen cv cvf x_0 x_1 x_2 x_3
            have hBl := show ∀ q ∈ [X, g], ∃ cc e f, w3.heap[q]? = some (.cells cc e f) from fun q hq => by
              rcases List.mem_cons.1 hq with rfl | hq
              · exact ⟨_, _, _, HX3.out⟩
              · rw [List.mem_singleton.1 hq]; exact ⟨_, _, _, HT3.out⟩
            refine Txt.Ty.wp_tree [X, g] [1, 5] [9] [1, 5] [0, 1, 2, 3, 4, 5, 6, 7] (.alt [8] (.alt [9] (.done) (.no)) (.no)) (by kernel_rfl) (by kernel_rfl) (by kernel_rfl) (by kernel_rfl) hBl ?_
            obtain ⟨w4, hw4⟩ : ∃ W, W = w3.drew := ⟨_, rfl⟩
            have K4 : Keep ([] : List Nat) w3 w4 := by rw [hw4]; exact (Keep.refl [] w3).drew
            have HT4 : Hid (WdAt w4 g jv T) := Lib.hid (HT3.out.keep K4 (by simp))
            have HB4 : Hid (Bytes [g] w4 jv (Ti.encS (T).L)) := Lib.hid (Raw.keep HB3.out K4 (fun f hf => by cases hf) (fun f hf => .inl hf))
            have HA4 : Hid (ArAt w4 V (upd f t (f t + 1))) := Lib.hid (HA3.out.keep K4 (by simp))
            have BEL4 := Lib.hid (BEL3.out.trans (K4.below BEL3.out.size (fun f hf => by cases hf)))
            have HX4 := Lib.hid ((K4.block X (Array.getElem?_eq_some_iff.1 HX3.out).1 (by simp)).trans HX3.out)
            have HW4 := Lib.hid hw4
            clear hw4 K4
            have HS4 : Hid (Txt.SameB [X, g] w4 w4) := Lib.hid (by rw [HW4.out]; exact same_start hBl)
            clear hBl
            rw [← HW4.out]
            clear HW4
            have x_0 := box_at HX4.out (j := 0) rfl
            have x_1 := box_at HX4.out (j := 1) rfl
            have x_2 := box_at HX4.out (j := 2) rfl
            have cn := HT4.out.now
            (try simp only [Txt.pick, List.getElem?_cons_succ, List.getElem?_cons_zero])
            go_wp2
            refine Txt.RunPost.mk ?_
            refine Txt.Ty.wpTr_alt ?_ Txt.Ty.wpTr_no
            (try simp only [Txt.pick, List.getElem?_cons_succ, List.getElem?_cons_zero])
            go_wp2
            refine Txt.SegPost.mk (Txt.Ty.Shown.same (same_below' HS4.out ((Below.refl _ w4).alloc (Nat.le_refl _) _))) ?_
            (try simp only [Txt.pick, List.getElem?_cons_succ, List.getElem?_cons_zero])
            go_wp2
            refine Txt.RunPost.mk ?_
            refine Txt.Ty.wpTr_alt ?_ Txt.Ty.wpTr_no
            (try simp only [Txt.pick, List.getElem?_cons_succ, List.getElem?_cons_zero])
            go_wp2
            refine Txt.SegPost.mk (Txt.Ty.Shown.last rfl) ?_
            (try simp only [Txt.pick, List.getElem?_cons_succ, List.getElem?_cons_zero])
            go_wp2
            refine Txt.RunPost.mk ?_
            refine Txt.Ty.wpTr_done (by rfl) ⟨.head _, .tail _ (.head _), trivial⟩ ?_
            go_upto_region 25 with (fail)
            obtain ⟨M, hM⟩ : ∃ M, M = w4.heap.size := ⟨_, rfl⟩
            obtain ⟨w6, hw6⟩ : ∃ W, W = w4.alloc (.cells #[.int .i64 t, .int .i64 0, .int .i64 1, .int .i64 0, .int .i64 18, .int .i64 0, .int .i64 0, .int .i64 T.now, .slice none 0 0] 28) := ⟨_, rfl⟩
            have K6 : Keep ([] : List Nat) w4 w6 := by rw [hw6]; exact (Keep.refl [] w4).alloc _
            have HT6 : Hid (WdAt w6 g jv T) := Lib.hid (HT4.out.keep K6 (by simp))
            have HB6 : Hid (Bytes [g] w6 jv (Ti.encS (T).L)) := Lib.hid (Raw.keep HB4.out K6 (fun f hf => by cases hf) (fun f hf => .inl hf))
            have HA6 : Hid (ArAt w6 V (upd f t (f t + 1))) := Lib.hid (HA4.out.keep K6 (by simp))
            have BEL6 := Lib.hid (BEL4.out.trans (K6.below BEL4.out.size (fun f hf => by cases hf)))
            have HX6 := Lib.hid ((K6.block X (Array.getElem?_eq_some_iff.1 HX4.out).1 (by simp)).trans HX4.out)
            have HBM6 : Hid (Bytes [M, g] w6 jv (Ti.encS T.L)) := Lib.hid (Raw.keep HB4.out K6 (fun f hf => by cases hf) (fun f hf => by rcases List.mem_cons.1 hf with rfl | hf; exact .inr (by omega); exact .inl hf))
            have HMV : Hid (M ≠ V) := Lib.hid (by have := HA4.out.lt; omega)
            have HML : Hid (w.heap.size ≤ M) := Lib.hid (by have := BEL4.out.size; omega)
            have HW6 := Lib.hid hw6
            clear hw6 K6
            have HM6 : Hid (w6.heap[M]? = some (.cells #[.int .i64 t, .int .i64 0, .int .i64 1, .int .i64 0, .int .i64 18, .int .i64 0, .int .i64 0, .int .i64 T.now, .slice none 0 0] 28 (0, 0))) := Lib.hid (by rw [HW6.out, hM]; exact a1_0 w4 _ 28)
            have HMg : Hid (M ≠ g) := Lib.hid (by have := HT4.out.lt; omega)
            have HMX : Hid (M ≠ X) := Lib.hid (by have := (Array.getElem?_eq_some_iff.1 HX4.out).1; omega)
            rw [← HW6.out, ← hM]
            clear HW6 hM x_0 x_1 x_2 cn
            have x_0 := box_at HX6.out (j := 0) rfl
            have x_2 := box_at HX6.out (j := 2) rfl
            have cn := HT6.out.now
            by_cases h1 : op = 1
            · subst h1
              have m_4 := box_at HM6.out (j := 4) rfl
              have n_4 := box_free HM6.out 4
              have m_5 := box_at HM6.out (j := 5) rfl
              have n_5 := box_free HM6.out 5
              have m_6 := box_at HM6.out (j := 6) rfl
              have n_6 := box_free HM6.out 6
              have m_7 := box_at HM6.out (j := 7) rfl
              have n_7 := box_free HM6.out 7
              go_upto_region 26 with (fail)
              refine Txt.wp_txt (by kernel_rfl) (by kernel_rfl) ?_
              go_wp2
              refine Txt.DrawPost.mk0 (by rfl) ?_
              obtain ⟨w7, hw7⟩ : ∃ W, W = ((((w6.setCell ⟨M, 4, none⟩ (.int .i64 19)).setCell ⟨M, 5, none⟩ (.int .i64 n)).setCell ⟨M, 6, none⟩ (.int .i64 0)).setCell ⟨M, 7, none⟩ (.int .i64 T.now)).drew := ⟨_, rfl⟩
              have K7 : Keep [M] w6 w7 := by rw [hw7]; exact (((((Keep.refl [M] w6).setCell (.inl (by simp)) _).setCell (.inl (by simp)) _).setCell (.inl (by simp)) _).setCell (.inl (by simp)) _).drew
              have HT7 : Hid (WdAt w7 g jv T) := Lib.hid (HT6.out.keep K7 (by simpa using HMg.out.symm))
              have HB7 : Hid (Bytes [g] w7 jv (Ti.encS T.L)) := Lib.hid (Raw.keep HBM6.out K7 (fun f hf => .inl (by rw [List.mem_singleton.1 hf]; simp)) (fun f hf => .inl (by simp [hf])))
              have HA7 : Hid (ArAt w7 V (upd f t (f t + 1))) := Lib.hid (HA6.out.keep K7 (by simpa using HMV.out.symm))
              have HM7 : Hid (w7.heap[M]? = some (.cells #[.int .i64 t, .int .i64 0, .int .i64 1, .int .i64 0, .int .i64 19, .int .i64 n, .int .i64 0, .int .i64 T.now, .slice none 0 0] 28 (0, 0))) := Lib.hid (by
                rw [hw7]
                exact heap_setCell_same _ _ 7 _ 28 _ (heap_setCell_same _ _ 6 _ 28 _ (heap_setCell_same _ _ 5 _ 28 _ (heap_setCell_same _ _ 4 _ 28 _ HM6.out))))
              have BEL7 := Lib.hid (BEL6.out.trans (K7.below BEL6.out.size (fun f hf => by rw [List.mem_singleton.1 hf]; exact HML.out)))
              have HX7 := Lib.hid ((K7.block X (Array.getElem?_eq_some_iff.1 HX6.out).1 (by intro h; rw [List.mem_singleton] at h; exact HMX.out h.symm)).trans HX6.out)
              have HW7 := Lib.hid hw7
              clear hw7 K7
              go_upto_region 27 with (fail)
              rw [← HW7.out]
              clear HW7
              clear x_0 x_2 cn m_4 n_4 m_5 n_5 m_6 n_6 m_7 n_7
              have x_1 := box_at HX7.out (j := 1) rfl
              have x_2 := box_at HX7.out (j := 2) rfl
              by_cases hn1 : n ≤ 0
              · by_cases hn0 : n = 0
                · subst hn0
                  have m_0 := box_at HM7.out (j := 0) rfl
                  have m_1 := box_at HM7.out (j := 1) rfl
                  have m_2 := box_at HM7.out (j := 2) rfl
                  have m_3 := box_at HM7.out (j := 3) rfl
                  have m_4 := box_at HM7.out (j := 4) rfl
                  have m_5 := box_at HM7.out (j := 5) rfl
                  have m_6 := box_at HM7.out (j := 6) rfl
                  have m_7 := box_at HM7.out (j := 7) rfl
                  have m_8 := box_at HM7.out (j := 8) rfl
                  go_wp2_with fail
                  refine (tell_any g jv (T) (T.L) ([reply t 0]) t 0 1 0 19 0 0 T.now w7 HT7.out HB7.out (stp_of (m := ⟨t, 10, 1, 0, 19, 0, 0, T.now⟩) HIT.out.v (take_zero HU.out HM.out)) (ok_reply ht _) ⟨HIT.out.n0, by have := HN2.out; have := HN.out; (try simp only); omega, HIT.out.an, fun u hu => by have := HSU2.out u hu; have := pend_nn T u; (try simp only); omega, by have := HR2.out.fr; (try simp only); omega, by have := HR2.out.fr; (try simp only); omega⟩).mono ?_
                  rw [ans_eq HIT.out.ok h0]
                  rintro e w8 ⟨rfl, kv, hT8, hB8, K8⟩
                  have HT8 := Lib.hid hT8
                  have HB8 := Lib.hid hB8
                  have HA8 : Hid (ArAt w8 V (upd f t (f t + 1))) := Lib.hid (HA7.out.keep K8 (by simpa using HGV.out.symm))
                  have BEL8 := Lib.hid (BEL7.out.trans (K8.below BEL7.out.size (fun f hf => by rw [List.mem_singleton.1 hf]; exact HGL.out)))
                  clear hT8 hB8 K8
                  go_wp2
                  go_roundw
                  case rel => exact ⟨k + 1, hlt, by go_num, ansS T t, _, by rw [show (ansS T t).freed = T.freed from rfl, HR2.out.fr], ⟨⟨_, HT8.out, HB8.out⟩, HA8.out, sum_ans HSU2.out, HIT.out.ans ht, by have := HN2.out; have := HN.out; (try simp only [freeS, ansS, sleepS]); omega, by have := HR2.out.fr; (try simp only [freeS, ansS, sleepS]); omega, by have := HR2.out.fr; (try simp only [freeS, ansS, sleepS]); omega, BEL8.out⟩⟩
                  case measure => simp [intOf]; omega
                · have m_0 := box_at HM7.out (j := 0) rfl
                  have m_1 := box_at HM7.out (j := 1) rfl
                  have m_2 := box_at HM7.out (j := 2) rfl
                  have m_3 := box_at HM7.out (j := 3) rfl
                  have m_4 := box_at HM7.out (j := 4) rfl
                  have m_5 := box_at HM7.out (j := 5) rfl
                  have m_6 := box_at HM7.out (j := 6) rfl
                  have m_7 := box_at HM7.out (j := 7) rfl
                  have m_8 := box_at HM7.out (j := 8) rfl
                  go_wp2_with fail
                  refine (tell_any g jv (T) (T.L) ([reply t (-2)]) t 0 1 0 19 n 0 T.now w7 HT7.out HB7.out (stp_of (m := ⟨t, 10, 1, 0, 19, n, 0, T.now⟩) HIT.out.v (take_bad HU.out HM.out (.inl (by omega)))) (ok_reply ht _) ⟨HIT.out.n0, by have := HN2.out; have := HN.out; (try simp only); omega, HIT.out.an, fun u hu => by have := HSU2.out u hu; have := pend_nn T u; (try simp only); omega, by have := HR2.out.fr; (try simp only); omega, by have := HR2.out.fr; (try simp only); omega⟩).mono ?_
                  rw [ans_eq HIT.out.ok h0]
                  rintro e w8 ⟨rfl, kv, hT8, hB8, K8⟩
                  have HT8 := Lib.hid hT8
                  have HB8 := Lib.hid hB8
                  have HA8 : Hid (ArAt w8 V (upd f t (f t + 1))) := Lib.hid (HA7.out.keep K8 (by simpa using HGV.out.symm))
                  have BEL8 := Lib.hid (BEL7.out.trans (K8.below BEL7.out.size (fun f hf => by rw [List.mem_singleton.1 hf]; exact HGL.out)))
                  clear hT8 hB8 K8
                  go_wp2
                  go_roundw
                  case rel => exact ⟨k + 1, hlt, by go_num, ansS T t, _, by rw [show (ansS T t).freed = T.freed from rfl, HR2.out.fr], ⟨⟨_, HT8.out, HB8.out⟩, HA8.out, sum_ans HSU2.out, HIT.out.ans ht, by have := HN2.out; have := HN.out; (try simp only [freeS, ansS, sleepS]); omega, by have := HR2.out.fr; (try simp only [freeS, ansS, sleepS]); omega, by have := HR2.out.fr; (try simp only [freeS, ansS, sleepS]); omega, BEL8.out⟩⟩
                  case measure => simp [intOf]; omega
              have hn3 : 0 < n := by omega
              by_cases hn2 : 1000000 < n
              · have hn4 : ¬ n ≤ 1000000 := by omega
                have m_0 := box_at HM7.out (j := 0) rfl
                have m_1 := box_at HM7.out (j := 1) rfl
                have m_2 := box_at HM7.out (j := 2) rfl
                have m_3 := box_at HM7.out (j := 3) rfl
                have m_4 := box_at HM7.out (j := 4) rfl
                have m_5 := box_at HM7.out (j := 5) rfl
                have m_6 := box_at HM7.out (j := 6) rfl
                have m_7 := box_at HM7.out (j := 7) rfl
                have m_8 := box_at HM7.out (j := 8) rfl
                go_wp2_with fail
                refine (tell_any g jv (T) (T.L) ([reply t (-2)]) t 0 1 0 19 n 0 T.now w7 HT7.out HB7.out (stp_of (m := ⟨t, 10, 1, 0, 19, n, 0, T.now⟩) HIT.out.v (take_bad HU.out HM.out (.inr hn2))) (ok_reply ht _) ⟨HIT.out.n0, by have := HN2.out; have := HN.out; (try simp only); omega, HIT.out.an, fun u hu => by have := HSU2.out u hu; have := pend_nn T u; (try simp only); omega, by have := HR2.out.fr; (try simp only); omega, by have := HR2.out.fr; (try simp only); omega⟩).mono ?_
                rw [ans_eq HIT.out.ok h0]
                rintro e w8 ⟨rfl, kv, hT8, hB8, K8⟩
                have HT8 := Lib.hid hT8
                have HB8 := Lib.hid hB8
                have HA8 : Hid (ArAt w8 V (upd f t (f t + 1))) := Lib.hid (HA7.out.keep K8 (by simpa using HGV.out.symm))
                have BEL8 := Lib.hid (BEL7.out.trans (K8.below BEL7.out.size (fun f hf => by rw [List.mem_singleton.1 hf]; exact HGL.out)))
                clear hT8 hB8 K8
                go_wp2
                go_roundw
                case rel => exact ⟨k + 1, hlt, by go_num, ansS T t, _, by rw [show (ansS T t).freed = T.freed from rfl, HR2.out.fr], ⟨⟨_, HT8.out, HB8.out⟩, HA8.out, sum_ans HSU2.out, HIT.out.ans ht, by have := HN2.out; have := HN.out; (try simp only [freeS, ansS, sleepS]); omega, by have := HR2.out.fr; (try simp only [freeS, ansS, sleepS]); omega, by have := HR2.out.fr; (try simp only [freeS, ansS, sleepS]); omega, BEL8.out⟩⟩
                case measure => simp [intOf]; omega
              · have hn4 : n ≤ 1000000 := by omega
                have hnw0 := HIT.out.n0
                have hnw1 : T.now ≤ 1000 := by have := HN2.out; have := HN.out; omega
                have cn := HT7.out.now
                have cen := HT7.out.cen ht
                have cfe := HT7.out.free (34 + t)
                go_upto_region 28 with (fail)
                refine Txt.wp_txt (by kernel_rfl) (by kernel_rfl) ?_
                go_wp2
                refine Txt.DrawPost.mk0 (by rfl) ?_
                obtain ⟨w8, hw8⟩ : ∃ W, W = (w7.setCell ⟨g, 34 + t, none⟩ (.int .i64 (T.now + n))).drew := ⟨_, rfl⟩
                have K8 : Keep [g] w7 w8 := by rw [hw8]; exact ((Keep.refl [g] w7).setCell (.inl (by simp)) _).drew
                have HT8 : Hid (WdAt w8 g jv { T with en := upd T.en t (T.now + n) }) := Lib.hid (by rw [hw8]; exact HT7.out.setEn ht (T.now + n))
                have HB8 : Hid (Bytes [g] w8 jv (Ti.encS ({ T with en := upd T.en t (T.now + n) }).L)) := Lib.hid (Raw.keep HB7.out K8 (fun f hf => .inl hf) (fun f hf => .inl hf))
                have HA8 : Hid (ArAt w8 V (upd f t (f t + 1))) := Lib.hid (HA7.out.keep K8 (by simpa using HGV.out.symm))
                have BEL8 := Lib.hid (BEL7.out.trans (K8.below BEL7.out.size (fun f hf => by rw [List.mem_singleton.1 hf]; exact HGL.out)))
                have HX8 := Lib.hid ((K8.block X (Array.getElem?_eq_some_iff.1 HX7.out).1 (by intro h; rw [List.mem_singleton] at h; exact HXg.out h)).trans HX7.out)
                have HM8 := Lib.hid ((K8.block M (Array.getElem?_eq_some_iff.1 HM7.out).1 (by intro h; rw [List.mem_singleton] at h; exact HMg.out h)).trans HM7.out)
                have HW8 := Lib.hid hw8
                clear hw8 K8
                go_upto_region 29 with (fail)
                rw [← HW8.out]
                clear HW8
                clear cn cen cfe x_1 x_2
                have m_0 := box_at HM8.out (j := 0) rfl
                have m_1 := box_at HM8.out (j := 1) rfl
                have m_2 := box_at HM8.out (j := 2) rfl
                have m_3 := box_at HM8.out (j := 3) rfl
                have m_4 := box_at HM8.out (j := 4) rfl
                have m_5 := box_at HM8.out (j := 5) rfl
                have m_6 := box_at HM8.out (j := 6) rfl
                have m_7 := box_at HM8.out (j := 7) rfl
                have m_8 := box_at HM8.out (j := 8) rfl
                go_wp2_with fail
                refine (tell_any g jv ({ T with en := upd T.en t (T.now + n) }) (insT T.L t) ([timer n t]) t 0 1 0 19 n 0 T.now w8 HT8.out HB8.out (stp_of (m := ⟨t, 10, 1, 0, 19, n, 0, T.now⟩) HIT.out.v (take_sleep HU.out HM.out (by omega) hn4)) (ok_timer ht (by omega) hn4) ⟨HIT.out.n0, by have := HN2.out; have := HN.out; (try simp only); omega, HIT.out.an, fun u hu => by have := HSU2.out u hu; have := pend_nn T u; (try simp only); omega, by have := HR2.out.fr; (try simp only); omega, by have := HR2.out.fr; (try simp only); omega⟩).mono ?_
                rw [sleep_eq (by omega)]
                rintro e w9 ⟨rfl, kv, hT9, hB9, K9⟩
                have HT9 := Lib.hid hT9
                have HB9 := Lib.hid hB9
                have HA9 : Hid (ArAt w9 V (upd f t (f t + 1))) := Lib.hid (HA8.out.keep K9 (by simpa using HGV.out.symm))
                have BEL9 := Lib.hid (BEL8.out.trans (K9.below BEL8.out.size (fun f hf => by rw [List.mem_singleton.1 hf]; exact HGL.out)))
                clear hT9 hB9 K9
                go_wp2
                go_roundw
                case rel => exact ⟨k + 1, hlt, by go_num, sleepS T t n, _, by rw [show (sleepS T t n).freed = T.freed from rfl, HR2.out.fr], ⟨⟨_, HT9.out, HB9.out⟩, HA9.out, sum_sleep HSU2.out h0 (by omega), HIT.out.sleep ht HU.out h0 (by omega), by have := HN2.out; have := HN.out; (try simp only [freeS, ansS, sleepS]); omega, by have := HR2.out.fr; (try simp only [freeS, ansS, sleepS]); omega, by have := HR2.out.fr; (try simp only [freeS, ansS, sleepS]); omega, BEL9.out⟩⟩
                case measure => simp [intOf]; omega
            · have e1 : (op == 1) = false := by simp [h1]
              have m_0 := box_at HM6.out (j := 0) rfl
              have m_1 := box_at HM6.out (j := 1) rfl
              have m_2 := box_at HM6.out (j := 2) rfl
              have m_3 := box_at HM6.out (j := 3) rfl
              have m_4 := box_at HM6.out (j := 4) rfl
              have m_5 := box_at HM6.out (j := 5) rfl
              have m_6 := box_at HM6.out (j := 6) rfl
              have m_7 := box_at HM6.out (j := 7) rfl
              have m_8 := box_at HM6.out (j := 8) rfl
              go_wp2_with fail
              refine (tell_any g jv (T) (T.L) ([reply t T.now]) t 0 1 0 18 0 0 T.now w6 HT6.out HB6.out (stp_of (m := ⟨t, 10, 1, 0, 18, 0, 0, T.now⟩) HIT.out.v (take_time HU.out HM.out)) (ok_reply ht _) ⟨HIT.out.n0, by have := HN2.out; have := HN.out; (try simp only); omega, HIT.out.an, fun u hu => by have := HSU2.out u hu; have := pend_nn T u; (try simp only); omega, by have := HR2.out.fr; (try simp only); omega, by have := HR2.out.fr; (try simp only); omega⟩).mono ?_
              rw [ans_eq HIT.out.ok h0]
              rintro e w7 ⟨rfl, kv, hT7, hB7, K7⟩
              have HT7 := Lib.hid hT7
              have HB7 := Lib.hid hB7
              have HA7 : Hid (ArAt w7 V (upd f t (f t + 1))) := Lib.hid (HA6.out.keep K7 (by simpa using HGV.out.symm))
              have BEL7 := Lib.hid (BEL6.out.trans (K7.below BEL6.out.size (fun f hf => by rw [List.mem_singleton.1 hf]; exact HGL.out)))
              clear hT7 hB7 K7
              go_wp2
              go_roundw
              case rel => exact ⟨k + 1, hlt, by go_num, ansS T t, _, by rw [show (ansS T t).freed = T.freed from rfl, HR2.out.fr], ⟨⟨_, HT7.out, HB7.out⟩, HA7.out, sum_ans HSU2.out, HIT.out.ans ht, by have := HN2.out; have := HN.out; (try simp only [freeS, ansS, sleepS]); omega, by have := HR2.out.fr; (try simp only [freeS, ansS, sleepS]); omega, by have := HR2.out.fr; (try simp only [freeS, ansS, sleepS]); omega, BEL7.out⟩⟩
              case measure => simp [intOf]; omega
    · obtain rfl : k = cs.length := by omega
      clear hlt hk
      obtain ⟨⟨iv, hW, hB⟩, hA, hsu, hI, hn, hf0, hf1, hbw⟩ := hli
      have HW := Lib.hid hW
      have HB := Lib.hid hB
      have HA := Lib.hid hA
      have HSU := Lib.hid hsu
      have HI := Lib.hid hI
      have HN := Lib.hid hn
      have HBW := Lib.hid hbw
      clear hW hB hA hsu hI hn hbw
      go_wp2
      go_loopw [10] (fun j wq => ∃ q : Nat, q ≤ 200 ∧ j = .int .i64 q ∧ ∃ jv T, WdAt wq g jv T ∧ Bytes [g] wq jv (Ti.encS T.L) ∧ ArAt wq V f ∧ Inv T 32 ∧ T.now = S.now + q ∧ Rel S T ∧ Below w.heap.size w wq) (fun j _ => 200 - (intOf j).toNat)
      case atStart => exact ⟨0, by omega, rfl, iv, S, HW.out, HB.out, HA.out, HI.out, by simp, Rel.refl S, HBW.out⟩
      case round =>
        obtain ⟨q, hq, rfl, jv, T, hT, hB, hA, hI, hn, hR, hbw⟩ := hrel
        have HT := Lib.hid hT
        have HBT := Lib.hid hB
        have HA2 := Lib.hid hA
        have HIT := Lib.hid hI
        have HN2 := Lib.hid hn
        have HR2 := Lib.hid hR
        have HB2 := Lib.hid hbw
        clear hT hB hA hI hn hR hbw
        by_cases hqm : q < 200
        · go_wp2_with fail
          refine (tick_any g jv T wr HT.out HBT.out HIT.out (fun u hu => by have := HR2.out.su u hu; have := HSU.out u hu; omega) (by have := HN.out; have := HN2.out; omega) (by have := HR2.out.fr; omega) (by have := HR2.out.fr; omega)).mono ?_
          rintro e w3 ⟨rfl, kv, T', hT', hB', hI', hn', hR', hk'⟩
          have HT' := Lib.hid hT'
          have HB' := Lib.hid hB'
          have HA' := Lib.hid (HA2.out.keep hk' (by simpa using HGV.out.symm))
          have HI' := Lib.hid hI'
          have HN' : Hid (T'.now = S.now + (q + 1 : Nat)) := Lib.hid (by have := HN2.out; omega)
          have HR' := Lib.hid (HR2.out.trans hR')
          have HK' := Lib.hid (HB2.out.trans (hk'.below HB2.out.size (fun f hf => by rw [List.mem_singleton.1 hf]; exact HGL.out)))
          clear hT' hB' hI' hn' hR' hk'
          go_wp2
          go_roundw
          case rel => exact ⟨q + 1, hqm, by go_num, kv, T', HT'.out, HB'.out, HA'.out, HI'.out, HN'.out, HR'.out, HK'.out⟩
          case measure => simp [intOf]; omega
        · have HSU2 := Lib.hid (HSU.out.rel HR2.out)
          go_wp2
          go_loopw [11] (fun j wq => ∃ p : Nat, p ≤ 32 ∧ j = .int .i64 p ∧ ∃ f', WdAt wq g jv T ∧ ArAt wq V f' ∧ (∀ u, u < p → f' u = T.ans u) ∧ (∀ u, p ≤ u → f' u = f u) ∧ Below w.heap.size w wq) (fun j _ => 32 - (intOf j).toNat)
          case atStart => exact ⟨0, by omega, rfl, f, HT.out, HA2.out, fun u hu => absurd hu (Nat.not_lt_zero _), fun _ _ => rfl, HB2.out⟩
          case round =>
            obtain ⟨p, hp, rfl, f', hT', hA', hlo, hhi, hb'⟩ := hrel
            have HT3 := Lib.hid hT'
            have HA3 := Lib.hid hA'
            have HLO := Lib.hid hlo
            have HHI := Lib.hid hhi
            have HB3 := Lib.hid hb'
            clear hT' hA' hlo hhi hb'
            by_cases hp32 : p < 32
            · have cen := HT3.out.cen hp32
              have cn := HT3.out.now
              have cv := HA3.out.cell hp32
              have cvf := HA3.out.free p
              by_cases h0 : T.en p = 0
              · have HLO' : Hid (∀ u, u < p + 1 → f' u = T.ans u) := Lib.hid (fun u hu => by
                  by_cases e : u = p
                  · subst e
                    have h1 := (HSU2.out u hp32).1
                    unfold pend at h1
                    rw [if_pos h0] at h1
                    rw [HHI.out u (Nat.le_refl _)]; omega
                  · exact HLO.out u (by omega))
                rw [h0] at cen
                go_wp2
                go_roundw
                case rel => exact ⟨p + 1, hp32, by go_num, f', HT3.out, HA3.out, HLO'.out, fun u hu => HHI.out u (by omega), HB3.out⟩
                case measure => simp [intOf]; omega
              · have hfp : f' p = T.ans p + 1 := by
                  have h1 := (HSU2.out p hp32).1
                  unfold pend at h1
                  rw [if_neg h0] at h1
                  rw [HHI.out p (Nat.le_refl _)]; exact h1
                have hfb : f' p ≤ 1000 := by
                  have h1 := (HSU2.out p hp32).2
                  rw [HHI.out p (Nat.le_refl _)]; omega
                have hfa : 0 ≤ f' p := by have := HIT.out.an p hp32; omega
                have HFP := Lib.hid hfp
                clear hfp
                have hgt := HIT.out.gt p hp32 hp32 h0
                have g0 : (T.en p != 0) = true := by simp [h0]
                have g1 : ¬ T.en p ≤ T.now := by omega
                go_upto_region 39 with (fail)
                obtain ⟨w8, hw8⟩ : ∃ W, W = wr.setCell ⟨V, p, none⟩ (.int .i64 (f' p - 1)) := ⟨_, rfl⟩
                have K8 : Keep [V] wr w8 := by rw [hw8]; exact (Keep.refl [V] wr).setCell (.inl (by simp)) _
                have HT8 := Lib.hid (HT3.out.keep K8 (by simpa using HGV.out))
                have HA8 : Hid (ArAt w8 V (upd f' p (f' p - 1))) := Lib.hid (by rw [hw8]; exact HA3.out.set hp32 _)
                have HB8 := Lib.hid (HB3.out.trans (K8.below HB3.out.size (fun f hf => by rw [List.mem_singleton.1 hf]; exact HVL.out)))
                have HW8 := Lib.hid hw8
                clear hw8 K8
                rw [← HW8.out]
                clear HW8 cen cn cv cvf
                have cen := HT8.out.cen hp32
                have cn := HT8.out.now
                refine Txt.wp_txt (by kernel_rfl) (by kernel_rfl) ?_
                go_wp2
                refine Txt.DrawPost.mk0 (by rfl) ?_
                go_wp2
                go_roundw
                case rel => exact ⟨p + 1, hp32, by go_num, upd f' p (f' p - 1), HT8.out, HA8.out, fun u hu => by
                  by_cases e : u = p
                  · subst e; rw [upd_same]; have := HFP.out; omega
                  · rw [upd_other _ e]; exact HLO.out u (by omega), fun u hu => by rw [upd_other _ (by omega)]; exact HHI.out u (by omega), HB8.out.drew⟩
                case measure => simp [intOf]; omega
            · have hp33 : p = 32 := by omega
              have cf := HT3.out.cfailed
              have cr := HT3.out.cfreed
              rw [HIT.out.ok] at cf
              rw [HR2.out.fr] at cr
              have hff : ints f' = ints T.ans := by
                apply Array.ext_getElem?
                intro i
                by_cases hi : i < 32
                · rw [ints_get f' hi, ints_get T.ans hi, HLO.out i (by omega)]
                · rw [Array.getElem?_eq_none (by rw [ints_size]; omega), Array.getElem?_eq_none (by rw [ints_size]; omega)]
              have HC1 : Hid (∀ j v, (ints T.ans)[j]? = some v → wr.cell? ⟨g, 66 + j, none⟩ = some v) := Lib.hid (fun j v hj => by
                have hlt : j < 32 := by have := (Array.getElem?_eq_some_iff.1 hj).1; rwa [ints_size] at this
                rw [ints_get _ hlt] at hj
                rw [HT3.out.cans hlt]; exact hj)
              have HC2 : Hid (∀ j v, (ints T.ans)[j]? = some v → wr.cell? ⟨V, 0 + j, none⟩ = some v) := Lib.hid (fun j v hj => by
                have hlt : j < 32 := by have := (Array.getElem?_eq_some_iff.1 hj).1; rwa [ints_size] at this
                rw [← hff, ints_get _ hlt] at hj
                rw [Nat.zero_add, HA3.out.cell hlt]; exact hj)
              have hg52 := eg52
              clear hff hp33
              have hA : ints T.ans = #[.int .i64 (T.ans 0), .int .i64 (T.ans 1), .int .i64 (T.ans 2), .int .i64 (T.ans 3), .int .i64 (T.ans 4), .int .i64 (T.ans 5), .int .i64 (T.ans 6), .int .i64 (T.ans 7), .int .i64 (T.ans 8), .int .i64 (T.ans 9), .int .i64 (T.ans 10), .int .i64 (T.ans 11), .int .i64 (T.ans 12), .int .i64 (T.ans 13), .int .i64 (T.ans 14), .int .i64 (T.ans 15), .int .i64 (T.ans 16), .int .i64 (T.ans 17), .int .i64 (T.ans 18), .int .i64 (T.ans 19), .int .i64 (T.ans 20), .int .i64 (T.ans 21), .int .i64 (T.ans 22), .int .i64 (T.ans 23), .int .i64 (T.ans 24), .int .i64 (T.ans 25), .int .i64 (T.ans 26), .int .i64 (T.ans 27), .int .i64 (T.ans 28), .int .i64 (T.ans 29), .int .i64 (T.ans 30), .int .i64 (T.ans 31)] := by kernel_rfl
              have heq : ∀ w, (Op.equalIn 10000 52 (.agg #[.int .i64 (T.ans 0), .int .i64 (T.ans 1), .int .i64 (T.ans 2), .int .i64 (T.ans 3), .int .i64 (T.ans 4), .int .i64 (T.ans 5), .int .i64 (T.ans 6), .int .i64 (T.ans 7), .int .i64 (T.ans 8), .int .i64 (T.ans 9), .int .i64 (T.ans 10), .int .i64 (T.ans 11), .int .i64 (T.ans 12), .int .i64 (T.ans 13), .int .i64 (T.ans 14), .int .i64 (T.ans 15), .int .i64 (T.ans 16), .int .i64 (T.ans 17), .int .i64 (T.ans 18), .int .i64 (T.ans 19), .int .i64 (T.ans 20), .int .i64 (T.ans 21), .int .i64 (T.ans 22), .int .i64 (T.ans 23), .int .i64 (T.ans 24), .int .i64 (T.ans 25), .int .i64 (T.ans 26), .int .i64 (T.ans 27), .int .i64 (T.ans 28), .int .i64 (T.ans 29), .int .i64 (T.ans 30), .int .i64 (T.ans 31)]) (.agg #[.int .i64 (T.ans 0), .int .i64 (T.ans 1), .int .i64 (T.ans 2), .int .i64 (T.ans 3), .int .i64 (T.ans 4), .int .i64 (T.ans 5), .int .i64 (T.ans 6), .int .i64 (T.ans 7), .int .i64 (T.ans 8), .int .i64 (T.ans 9), .int .i64 (T.ans 10), .int .i64 (T.ans 11), .int .i64 (T.ans 12), .int .i64 (T.ans 13), .int .i64 (T.ans 14), .int .i64 (T.ans 15), .int .i64 (T.ans 16), .int .i64 (T.ans 17), .int .i64 (T.ans 18), .int .i64 (T.ans 19), .int .i64 (T.ans 20), .int .i64 (T.ans 21), .int .i64 (T.ans 22), .int .i64 (T.ans 23), .int .i64 (T.ans 24), .int .i64 (T.ans 25), .int .i64 (T.ans 26), .int .i64 (T.ans 27), .int .i64 (T.ans 28), .int .i64 (T.ans 29), .int .i64 (T.ans 30), .int .i64 (T.ans 31)])).run Try.prog w = .ok true w := fun w => by rw [← hA]; exact eq52 _ w
              rw [hA] at HC1 HC2
              clear hA
              go_upto_region 41 with (fail)
              refine Txt.wp_txt (by kernel_rfl) (by kernel_rfl) ?_
              go_wp2_with (first | refine wpList_load_at' (by rfl) 52 _ rfl g 66 rfl _ _ HC1.out Try.underlying52 rfl (by kernel_rfl) ?_ | refine wpList_load_at' (by rfl) 52 _ rfl V 0 rfl _ _ HC2.out Try.underlying52 rfl (by kernel_rfl) ?_)
              refine Txt.DrawPost.mk0 (by rfl) ?_
              go_wp2
              go_ret
              exact ⟨rfl, HB3.out.drew⟩
end Go.Proofs.Ytdelemmoiaiooaa
