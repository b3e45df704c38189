/- time: the law's tell -/
import Derived.Test.YtdelemmoiaiooaaSa
namespace Go.Ti
open Go Go.RowKit Go.Bs Go.Cl Go.Rw Go.Wi
/-- an effect's block is not the law's world: the kinds of the cells tell them apart -/
theorem eff_out {w : World} {g : Nat} {iv v : Value} {S : Wd} {es : List Ef} (h : SlE w v es) (hW : WdAt w g iv S) : Raw [g] 15 w v es.length (es.flatMap encE) := by
  have h0 := h
  obtain ⟨h1, h2, a, cap, rfl, h3, h4, h5⟩ := h
  refine ⟨h1, h2, a, cap, rfl, h3, h4, fun hp => ?_⟩
  obtain ⟨b, off, rfl, hb, hn, hc⟩ := h5 hp
  refine ⟨b, off, rfl, hb, fun hm => ?_, hc⟩
  obtain rfl := List.mem_singleton.1 hm
  obtain ⟨q, o', e, _, he⟩ := h0.elem hp
  cases e
  have := he 14 (.slice none 0 0) rfl
  have hlt : off + (0 * 15 + 14) < 100 ∨ 100 ≤ off + (0 * 15 + 14) := by omega
  rcases hlt with hlt | hge
  · rw [hW.cell hlt] at this
    injection this with this
    unfold wcs at this
    rw [if_neg (by omega)] at this
    repeat' split at this
    all_goals cases this
  · have h9 : w.cell? ⟨b, off + (0 * 15 + 14), none⟩ = none := by
      have hh : w.heap[b]? = some (.cells (wcells iv S) 54 (0, 0)) := hW
      simp only [World.cell?, hh]
      simp [wcells]
      omega
    rw [h9] at this
    cases this
theorem effS_reply (T : Wd) (t : Nat) (r : Int) : effS T (reply t r) = { T with ans := upd T.ans t (T.ans t + 1), failed := T.failed || (decide (T.en t ≠ 0) && decide (T.en t ≠ T.now)), en := upd T.en t 0 } := by
  unfold effS reply
  rw [if_pos rfl]
  simp only [Int.toNat_natCast]
theorem effS_timer (T : Wd) (n : Int) (t : Nat) : effS T (timer n t) = { T with due := upd T.due t (if 0 ≤ n then T.now + n else 0) } := by
  unfold effS timer
  rw [if_neg (show ¬ (4 : Int) = 2 by decide), if_pos rfl]
  simp only [Int.toNat_natCast]
theorem effS_send (T : Wd) (d k a : Int) : effS T (send d k a) = { T with freed := T.freed + 1 } := by simp [effS, send]
theorem upd_upd (f : Nat → Int) (k : Nat) (x y : Int) : upd (upd f k x) k y = upd f k y := by
  funext j; unfold upd; split <;> rfl
theorem take_ef {es : List Ef} {k : Nat} (h : k < es.length) (S : Wd) : (es.take (k + 1)).foldl effS S = effS ((es.take k).foldl effS S) (efAt es k) := by
  rw [List.take_add_one, ef_get h]; simp
theorem Bnd.fold {S : Wd} (h : Bnd S 0) (es : List Ef) : ∀ k, k ≤ es.length → Bnd ((es.take k).foldl effS S) k
  | 0, _ => h
  | k + 1, hk => by rw [take_ef hk]; exact (Bnd.fold h es k (by omega)).eff _
end Go.Ti
namespace Go.Proofs.Ytdelemmoiaiooaa
open Go.RowKit Go.Bs Go.Cl Go.Rw Go.Ti Go.Wi
set_option maxRecDepth 100000 in
set_option maxHeartbeats 8000000 in
theorem tell_any (g : Nat) (iv : Value) (S : Wd) (l' : List Int) (es : List Ef) (ms md mk mq m0 m1 m2 m3 : Int) (w : World) (hW : WdAt w g iv S) (hB : Bytes [g] w iv (Ti.encS S.L))
    (hT : stpT (Ti.encS S.L) ⟨ms, 10, mk, mq, m0, m1, m2, m3⟩ = .ok (l', es)) (hes : ∀ e ∈ es, okE e) (hb : Bnd S 0) :
    Calls Try.prog 24 #[.pointer (some ⟨g, 0, none⟩), .agg #[.int .i64 ms, .int .i64 md, .int .i64 mk, .int .i64 mq, .int .i64 m0, .int .i64 m1, .int .i64 m2, .int .i64 m3, .slice none 0 0]] w fun e w' => e = .returned (.tuple #[]) ∧ ∃ iv', WdAt w' g iv' (es.foldl effS { S with L := l' }) ∧ Bytes [g] w' iv' (Ti.encS l') ∧ Keep [g] w w' := by
  obtain ⟨ia, ic, rfl⟩ := Raw.slice hB
  have HT := Lib.hid hT
  have HES := Lib.hid hes
  have HEL := Lib.hid (stp_es hT)
  have HBN := Lib.hid hb
  clear hT hes hb
  obtain ⟨b, hbb⟩ : ∃ b, Ti.encS S.L = b := ⟨_, rfl⟩
  have hbl := encS_len (l := S.L)
  rw [hbb] at HT hB hbl hW
  have hel := encS_len (l := l')
  clear hbb
  obtain ⟨M, hM⟩ : ∃ M, M = w.heap.size := ⟨_, rfl⟩
  obtain ⟨w1, hw1⟩ : ∃ W, W = w.alloc (.cells #[.int .i64 ms, .int .i64 10, .int .i64 mk, .int .i64 mq, .int .i64 m0, .int .i64 m1, .int .i64 m2, .int .i64 m3, .slice none 0 0] 28) := ⟨_, rfl⟩
  have k1 : Keep [g] w w1 := by rw [hw1]; exact (Keep.refl [g] w).alloc _
  have xM : w1.heap[M]? = some (.cells #[.int .i64 ms, .int .i64 10, .int .i64 mk, .int .i64 mq, .int .i64 m0, .int .i64 m1, .int .i64 m2, .int .i64 m3, .slice none 0 0] 28 (0, 0)) := by
    rw [hw1, hM]
    exact a1_0 w _ 28
  have hb1 : Below w.heap.size w w1 := by rw [hw1]; exact (Below.refl _ w).alloc (Nat.le_refl _) _
  have HW1 := Lib.hid (hW.below hb1)
  have HB1 := Lib.hid (Raw.below hB hb1)
  have HK1 := Lib.hid k1
  have HM1 := Lib.hid xM
  have HR := Lib.hid hw1
  have HRM := Lib.hid hM
  clear hw1 hM xM k1 hb1 hW hB
  go_enter Try.func24, Try.ntmps24
  go_upto_region 2 with (fail)
  rw [← HR.out, ← HRM.out]
  clear HR HRM
  have c0 := HW1.out.img
  have m_0 := box_at HM1.out (j := 0) rfl
  have m_1 := box_at HM1.out (j := 1) rfl
  have m_2 := box_at HM1.out (j := 2) rfl
  have m_3 := box_at HM1.out (j := 3) rfl
  have m_4 := box_at HM1.out (j := 4) rfl
  have m_5 := box_at HM1.out (j := 5) rfl
  have m_6 := box_at HM1.out (j := 6) rfl
  have m_7 := box_at HM1.out (j := 7) rfl
  have m_8 := box_at HM1.out (j := 8) rfl
  refine Txt.wp_txt (by kernel_rfl) (by kernel_rfl) ?_
  go_wp2_with fail
  have HWd : Hid (WdAt w1.drew g (.slice ia b.length ic) S) := Lib.hid HW1.out
  have HKd := Lib.hid HK1.out.drew
  refine (step_any _ (.slice none 0 0) b ⟨ms, 10, mk, mq, m0, m1, m2, m3⟩ _ (Raw.fresh (Raw.drew HB1.out) (fun f hf => by cases hf)) (by omega) ⟨_, _, _, rfl⟩).mono ?_
  rw [HT.out]
  rintro e w2 ⟨hb2, iv2, ev2, rfl, hr2, hE2⟩
  have HW2 := Lib.hid (HWd.out.below hb2)
  have HK2 := Lib.hid (HKd.out.trans (F' := [g]) (Keep.of_below' hb2) (fun f hf => .inl hf))
  have HI2 := Lib.hid (BRow.bytes (F := [g]) hr2 (fun f hf => by rw [List.mem_singleton.1 hf]; exact HWd.out.lt))
  have HE2 := Lib.hid (eff_out hE2 HW2.out)
  clear hb2 hr2 hE2 HW1 HB1 HK1 HM1 HWd HKd c0 m_0 m_1 m_2 m_3 m_4 m_5 m_6 m_7 m_8
  have f0 := HW2.out.free 0
  have c0 := HW2.out.img
  obtain ⟨ja, jc, rfl⟩ := Raw.slice HI2.out
  obtain ⟨ea, ec, rfl⟩ := Raw.slice HE2.out
  obtain ⟨S1, hS1⟩ : ∃ T, T = { S with L := l' } := ⟨_, rfl⟩
  have HBN1 : Hid (Bnd S1 0) := Lib.hid (by rw [hS1]; exact ⟨HBN.out.n0, HBN.out.n1, HBN.out.a0, HBN.out.a1, HBN.out.f0, HBN.out.f1⟩)
  have HS1 := Lib.hid hS1
  clear hS1
  go_wp2
  refine Txt.DrawPost.mk0 (by rfl) ?_
  have HI2' := Lib.hid HI2.out
  have HV2 := Lib.hid HW2.out.lt
  go_wp2
  go_loopw [7] (fun i wr => ∃ k : Nat, k ≤ es.length ∧ i = .int .i64 k ∧ WdAt wr g (.slice ja (Ti.encS l').length jc) ((es.take k).foldl effS S1) ∧ Keep [g] w2 wr) (fun i _ => es.length - (intOf i).toNat)
  case atStart => exact ⟨0, by omega, rfl, by rw [HS1.out]; exact HW2.out.setImg _ _, (Keep.refl _ _).setCell (.inl (by simp)) _⟩
  case round =>
    obtain ⟨k, hk, rfl, hT0, hkp⟩ := hrel
    have hk2 := HEL.out
    by_cases hlt : k < es.length
    · have HSt := Lib.hid (take_ef hlt S1)
      have bt := HBN1.out.fold es k hk
      obtain ⟨T, hTT⟩ : ∃ T, (es.take k).foldl effS S1 = T := ⟨_, rfl⟩
      rw [hTT] at HSt bt hT0
      have HT0 := Lib.hid hT0
      have HKP := Lib.hid hkp
      have hrE : SlE wr (.slice ea es.length ec) es := Raw.keep HE2.out hkp (fun f hf => .inl hf) (fun f hf => by cases hf)
      obtain ⟨q, o, rfl, hq, hc⟩ := hrE.elem hlt
      have hmem : efAt es k ∈ es := List.mem_of_getElem? (ef_get hlt)
      have hok := HES.out _ hmem
      obtain ⟨z, hz⟩ : ∃ z, efAt es k = z := ⟨_, rfl⟩
      rw [hz] at HSt hc hok
      have n0 := bt.n0
      have n1 := bt.n1
      have r0 := bt.f0
      have r1 := bt.f1
      have HBT := Lib.hid bt
      clear bt hz hmem hTT hT0 hkp hrE
      rcases hok with ⟨t, r, ht, rfl⟩ | ⟨t, n, ht, hn0, hn1, rfl⟩ | ⟨a, rfl⟩
      · have ht1 : (t : Int) < 32 := by omega
        have x0 := HBT.out.a0 t ht
        have x1 := HBT.out.a1 t ht
        have a_0 : wr.cell? ⟨q, o + (k * 15 + 0), none⟩ = some (.int .i64 2) := hc 0 _ rfl
        have a_1 : wr.cell? ⟨q, o + (k * 15 + 1), none⟩ = some (.int .i64 t) := hc 1 _ rfl
        have a_2 : wr.cell? ⟨q, o + (k * 15 + 2), none⟩ = some (.int .i64 r) := hc 2 _ rfl
        have a_3 : wr.cell? ⟨q, o + (k * 15 + 3), none⟩ = some (.int .i64 0) := hc 3 _ rfl
        have a_4 : wr.cell? ⟨q, o + (k * 15 + 4), none⟩ = some (.int .i64 0) := hc 4 _ rfl
        have a_5 : wr.cell? ⟨q, o + (k * 15 + 5), none⟩ = some (.int .i64 0) := hc 5 _ rfl
        have a_6 : wr.cell? ⟨q, o + (k * 15 + 6), none⟩ = some (.int .i64 0) := hc 6 _ rfl
        have a_7 : wr.cell? ⟨q, o + (k * 15 + 7), none⟩ = some (.int .i64 0) := hc 7 _ rfl
        have a_8 : wr.cell? ⟨q, o + (k * 15 + 8), none⟩ = some (.int .i64 0) := hc 8 _ rfl
        have a_9 : wr.cell? ⟨q, o + (k * 15 + 9), none⟩ = some (.int .i64 0) := hc 9 _ rfl
        have a_10 : wr.cell? ⟨q, o + (k * 15 + 10), none⟩ = some (.int .i64 0) := hc 10 _ rfl
        have a_11 : wr.cell? ⟨q, o + (k * 15 + 11), none⟩ = some (.int .i64 0) := hc 11 _ rfl
        have a_12 : wr.cell? ⟨q, o + (k * 15 + 12), none⟩ = some (.int .i64 0) := hc 12 _ rfl
        have a_13 : wr.cell? ⟨q, o + (k * 15 + 13), none⟩ = some (.slice none 0 0) := hc 13 _ rfl
        have a_14 : wr.cell? ⟨q, o + (k * 15 + 14), none⟩ = some (.slice none 0 0) := hc 14 _ rfl
        simp only [← Nat.add_assoc, Nat.add_zero] at a_0 a_1 a_2 a_3 a_4 a_5 a_6 a_7 a_8 a_9 a_10 a_11 a_12 a_13 a_14
        clear hc
        obtain ⟨E, hE0⟩ : ∃ E, E = wr.heap.size := ⟨_, rfl⟩
        obtain ⟨w3, hw3⟩ : ∃ W, W = wr.alloc (.cells #[.int .i64 2, .int .i64 t, .int .i64 r, .int .i64 0, .int .i64 0, .int .i64 0, .int .i64 0, .int .i64 0, .int .i64 0, .int .i64 0, .int .i64 0, .int .i64 0, .int .i64 0, .slice none 0 0, .slice none 0 0] 62) := ⟨_, rfl⟩
        have xE : w3.heap[E]? = some (.cells #[.int .i64 2, .int .i64 t, .int .i64 r, .int .i64 0, .int .i64 0, .int .i64 0, .int .i64 0, .int .i64 0, .int .i64 0, .int .i64 0, .int .i64 0, .int .i64 0, .int .i64 0, .slice none 0 0, .slice none 0 0] 62 (0, 0)) := by rw [hw3, hE0]; exact a1_0 wr _ 62
        have hb3 : Below wr.heap.size wr w3 := by rw [hw3]; exact (Below.refl _ wr).alloc (Nat.le_refl _) _
        have HT3 := Lib.hid (WdAt.below HT0.out hb3)
        have HK3 := Lib.hid (HKP.out.trans (F' := [g]) (Keep.of_below' hb3) (fun f hf => .inl hf))
        have HW3 := Lib.hid hw3
        have HE0 := Lib.hid hE0
        have HE3 := Lib.hid xE
        clear hw3 hE0 xE hb3
        go_upto_region 10 with (fail)
        rw [← HW3.out, ← HE0.out]
        clear HW3 HE0 a_0 a_1 a_2 a_3 a_4 a_5 a_6 a_7 a_8 a_9 a_10 a_11 a_12 a_13 a_14
        have e_0 := box_at HE3.out (j := 0) rfl
        have e_1 := box_at HE3.out (j := 1) rfl
        have e_2 := box_at HE3.out (j := 2) rfl
        have e_6 := box_at HE3.out (j := 6) rfl
        have e_7 := box_at HE3.out (j := 7) rfl
        have ca := HT3.out.cans ht
        have fa := HT3.out.free (66 + t)
        go_upto_region 13 with (fail)
        refine Txt.wp_txt (by kernel_rfl) (by kernel_rfl) ?_
        go_wp2
        refine Txt.DrawPost.mk0 (by rfl) ?_
        obtain ⟨w4, hw4⟩ : ∃ W, W = (w3.setCell ⟨g, 66 + t, none⟩ (.int .i64 (T.ans t + 1))).drew := ⟨_, rfl⟩
        have HT4 := Lib.hid (show WdAt ((w3.setCell ⟨g, 66 + t, none⟩ (.int .i64 (T.ans t + 1))).drew) g _ _ from WdAt.setAns HT3.out ht (T.ans t + 1))
        rw [← hw4] at HT4
        have HK4 : Hid (Keep [g] w2 w4) := Lib.hid (by rw [hw4]; exact (HK3.out.setCell (.inl (by simp)) _).drew)
        have HW4 := Lib.hid hw4
        clear hw4
        go_upto_region 14 with (fail)
        rw [← HW4.out]
        clear HW4
        clear ca fa e_0 e_1 e_2 e_6 e_7
        have ce := HT4.out.cen ht
        have fe := HT4.out.free (34 + t)
        have cf := HT4.out.cfailed
        have ff := HT4.out.free 99
        have cn := HT4.out.now
        simp only at cf ce cn
        cases hfa : T.failed
        · rw [hfa] at cf
          by_cases h0 : T.en t = 0
          · rw [h0] at ce
            refine Txt.wp_txt (by kernel_rfl) (by kernel_rfl) ?_
            go_wp2
            refine Txt.DrawPost.mk0 (by rfl) ?_
            obtain ⟨w5, hw5⟩ : ∃ W, W = (w4.setCell ⟨g, 99, none⟩ (.bool false)).drew := ⟨_, rfl⟩
            have HT5 := Lib.hid (show WdAt ((w4.setCell ⟨g, 99, none⟩ (.bool false)).drew) g _ _ from WdAt.setFailed HT4.out false)
            rw [← hw5] at HT5
            have HK5 : Hid (Keep [g] w2 w5) := Lib.hid (by rw [hw5]; exact (HK4.out.setCell (.inl (by simp)) _).drew)
            have HW5 := Lib.hid hw5
            clear hw5
            go_upto_region 15 with (fail)
            rw [← HW5.out]
            clear HW5
            clear ce fe cf ff cn
            have ce := HT5.out.cen ht
            have fe := HT5.out.free (34 + t)
            have hF : (T.failed || (decide (T.en t ≠ 0) && decide (T.en t ≠ T.now))) = false := by rw [hfa, h0]; rfl
            have HTF := Lib.hid (show WdAt ((w5.setCell ⟨g, 34 + t, none⟩ (.int .i64 0))) g _ _ from WdAt.setEn HT5.out ht 0)
            have HKF := Lib.hid ((HK5.out.setCell (p := ⟨g, 34 + t, none⟩) (.inl (by simp)) (.int .i64 0)))
            go_wp2
            go_roundw
            case rel => exact ⟨k + 1, hlt, by go_num, by rw [HSt.out, effS_reply, hF]; exact HTF.out, HKF.out⟩
            case measure => simp [intOf]; omega
          · by_cases h1 : T.en t = T.now
            · have g0 : (T.en t != 0) = true := by simp [h0]
              have g1 : (T.en t != T.now) = false := by simp [h1]
              refine Txt.wp_txt (by kernel_rfl) (by kernel_rfl) ?_
              go_wp2
              refine Txt.DrawPost.mk0 (by rfl) ?_
              obtain ⟨w5, hw5⟩ : ∃ W, W = (w4.setCell ⟨g, 99, none⟩ (.bool false)).drew := ⟨_, rfl⟩
              have HT5 := Lib.hid (show WdAt ((w4.setCell ⟨g, 99, none⟩ (.bool false)).drew) g _ _ from WdAt.setFailed HT4.out false)
              rw [← hw5] at HT5
              have HK5 : Hid (Keep [g] w2 w5) := Lib.hid (by rw [hw5]; exact (HK4.out.setCell (.inl (by simp)) _).drew)
              have HW5 := Lib.hid hw5
              clear hw5
              go_upto_region 15 with (fail)
              rw [← HW5.out]
              clear HW5
              clear ce fe cf ff cn
              have ce := HT5.out.cen ht
              have fe := HT5.out.free (34 + t)
              have hF : (T.failed || (decide (T.en t ≠ 0) && decide (T.en t ≠ T.now))) = false := by simp [hfa, h0, h1]
              have HTF := Lib.hid (show WdAt ((w5.setCell ⟨g, 34 + t, none⟩ (.int .i64 0))) g _ _ from WdAt.setEn HT5.out ht 0)
              have HKF := Lib.hid ((HK5.out.setCell (p := ⟨g, 34 + t, none⟩) (.inl (by simp)) (.int .i64 0)))
              go_wp2
              go_roundw
              case rel => exact ⟨k + 1, hlt, by go_num, by rw [HSt.out, effS_reply, hF]; exact HTF.out, HKF.out⟩
              case measure => simp [intOf]; omega
            · have g0 : (T.en t != 0) = true := by simp [h0]
              have g1 : (T.en t != T.now) = true := by simp [h1]
              refine Txt.wp_txt (by kernel_rfl) (by kernel_rfl) ?_
              go_wp2
              refine Txt.DrawPost.mk0 (by rfl) ?_
              obtain ⟨w5, hw5⟩ : ∃ W, W = (w4.setCell ⟨g, 99, none⟩ (.bool true)).drew := ⟨_, rfl⟩
              have HT5 := Lib.hid (show WdAt ((w4.setCell ⟨g, 99, none⟩ (.bool true)).drew) g _ _ from WdAt.setFailed HT4.out true)
              rw [← hw5] at HT5
              have HK5 : Hid (Keep [g] w2 w5) := Lib.hid (by rw [hw5]; exact (HK4.out.setCell (.inl (by simp)) _).drew)
              have HW5 := Lib.hid hw5
              clear hw5
              go_upto_region 15 with (fail)
              rw [← HW5.out]
              clear HW5
              clear ce fe cf ff cn
              have ce := HT5.out.cen ht
              have fe := HT5.out.free (34 + t)
              have hF : (T.failed || (decide (T.en t ≠ 0) && decide (T.en t ≠ T.now))) = true := by simp [hfa, h0, h1]
              have HTF := Lib.hid (show WdAt ((w5.setCell ⟨g, 34 + t, none⟩ (.int .i64 0))) g _ _ from WdAt.setEn HT5.out ht 0)
              have HKF := Lib.hid ((HK5.out.setCell (p := ⟨g, 34 + t, none⟩) (.inl (by simp)) (.int .i64 0)))
              go_wp2
              go_roundw
              case rel => exact ⟨k + 1, hlt, by go_num, by rw [HSt.out, effS_reply, hF]; exact HTF.out, HKF.out⟩
              case measure => simp [intOf]; omega
        · rw [hfa] at cf
          refine Txt.wp_txt (by kernel_rfl) (by kernel_rfl) ?_
          go_wp2
          refine Txt.DrawPost.mk0 (by rfl) ?_
          obtain ⟨w5, hw5⟩ : ∃ W, W = (w4.setCell ⟨g, 99, none⟩ (.bool true)).drew := ⟨_, rfl⟩
          have HT5 := Lib.hid (show WdAt ((w4.setCell ⟨g, 99, none⟩ (.bool true)).drew) g _ _ from WdAt.setFailed HT4.out true)
          rw [← hw5] at HT5
          have HK5 : Hid (Keep [g] w2 w5) := Lib.hid (by rw [hw5]; exact (HK4.out.setCell (.inl (by simp)) _).drew)
          have HW5 := Lib.hid hw5
          clear hw5
          go_upto_region 15 with (fail)
          rw [← HW5.out]
          clear HW5
          clear ce fe cf ff cn
          have ce := HT5.out.cen ht
          have fe := HT5.out.free (34 + t)
          have hF : (T.failed || (decide (T.en t ≠ 0) && decide (T.en t ≠ T.now))) = true := by simp [hfa]
          have HTF := Lib.hid (show WdAt ((w5.setCell ⟨g, 34 + t, none⟩ (.int .i64 0))) g _ _ from WdAt.setEn HT5.out ht 0)
          have HKF := Lib.hid ((HK5.out.setCell (p := ⟨g, 34 + t, none⟩) (.inl (by simp)) (.int .i64 0)))
          go_wp2
          go_roundw
          case rel => exact ⟨k + 1, hlt, by go_num, by rw [HSt.out, effS_reply, hF]; exact HTF.out, HKF.out⟩
          case measure => simp [intOf]; omega
      · have ht1 : (t : Int) < 32 := by omega
        have a_0 : wr.cell? ⟨q, o + (k * 15 + 0), none⟩ = some (.int .i64 4) := hc 0 _ rfl
        have a_1 : wr.cell? ⟨q, o + (k * 15 + 1), none⟩ = some (.int .i64 n) := hc 1 _ rfl
        have a_2 : wr.cell? ⟨q, o + (k * 15 + 2), none⟩ = some (.int .i64 t) := hc 2 _ rfl
        have a_3 : wr.cell? ⟨q, o + (k * 15 + 3), none⟩ = some (.int .i64 0) := hc 3 _ rfl
        have a_4 : wr.cell? ⟨q, o + (k * 15 + 4), none⟩ = some (.int .i64 0) := hc 4 _ rfl
        have a_5 : wr.cell? ⟨q, o + (k * 15 + 5), none⟩ = some (.int .i64 0) := hc 5 _ rfl
        have a_6 : wr.cell? ⟨q, o + (k * 15 + 6), none⟩ = some (.int .i64 0) := hc 6 _ rfl
        have a_7 : wr.cell? ⟨q, o + (k * 15 + 7), none⟩ = some (.int .i64 0) := hc 7 _ rfl
        have a_8 : wr.cell? ⟨q, o + (k * 15 + 8), none⟩ = some (.int .i64 0) := hc 8 _ rfl
        have a_9 : wr.cell? ⟨q, o + (k * 15 + 9), none⟩ = some (.int .i64 0) := hc 9 _ rfl
        have a_10 : wr.cell? ⟨q, o + (k * 15 + 10), none⟩ = some (.int .i64 0) := hc 10 _ rfl
        have a_11 : wr.cell? ⟨q, o + (k * 15 + 11), none⟩ = some (.int .i64 0) := hc 11 _ rfl
        have a_12 : wr.cell? ⟨q, o + (k * 15 + 12), none⟩ = some (.int .i64 0) := hc 12 _ rfl
        have a_13 : wr.cell? ⟨q, o + (k * 15 + 13), none⟩ = some (.slice none 0 0) := hc 13 _ rfl
        have a_14 : wr.cell? ⟨q, o + (k * 15 + 14), none⟩ = some (.slice none 0 0) := hc 14 _ rfl
        simp only [← Nat.add_assoc, Nat.add_zero] at a_0 a_1 a_2 a_3 a_4 a_5 a_6 a_7 a_8 a_9 a_10 a_11 a_12 a_13 a_14
        clear hc
        obtain ⟨E, hE0⟩ : ∃ E, E = wr.heap.size := ⟨_, rfl⟩
        obtain ⟨w3, hw3⟩ : ∃ W, W = wr.alloc (.cells #[.int .i64 4, .int .i64 n, .int .i64 t, .int .i64 0, .int .i64 0, .int .i64 0, .int .i64 0, .int .i64 0, .int .i64 0, .int .i64 0, .int .i64 0, .int .i64 0, .int .i64 0, .slice none 0 0, .slice none 0 0] 62) := ⟨_, rfl⟩
        have xE : w3.heap[E]? = some (.cells #[.int .i64 4, .int .i64 n, .int .i64 t, .int .i64 0, .int .i64 0, .int .i64 0, .int .i64 0, .int .i64 0, .int .i64 0, .int .i64 0, .int .i64 0, .int .i64 0, .int .i64 0, .slice none 0 0, .slice none 0 0] 62 (0, 0)) := by rw [hw3, hE0]; exact a1_0 wr _ 62
        have hb3 : Below wr.heap.size wr w3 := by rw [hw3]; exact (Below.refl _ wr).alloc (Nat.le_refl _) _
        have HT3 := Lib.hid (WdAt.below HT0.out hb3)
        have HK3 := Lib.hid (HKP.out.trans (F' := [g]) (Keep.of_below' hb3) (fun f hf => .inl hf))
        have HW3 := Lib.hid hw3
        have HE3 := Lib.hid xE
        have HEg : Hid (E ≠ g) := Lib.hid (by rw [hE0]; have := HT0.out.lt; omega)
        have HE0 := Lib.hid hE0
        clear hw3 hE0 xE hb3
        go_upto_region 10 with (fail)
        rw [← HW3.out, ← HE0.out]
        clear HW3 HE0 a_0 a_1 a_2 a_3 a_4 a_5 a_6 a_7 a_8 a_9 a_10 a_11 a_12 a_13 a_14
        have e_0 := box_at HE3.out (j := 0) rfl
        have e_1 := box_at HE3.out (j := 1) rfl
        have e_2 := box_at HE3.out (j := 2) rfl
        have e_6 := box_at HE3.out (j := 6) rfl
        have e_7 := box_at HE3.out (j := 7) rfl
        have cd := HT3.out.cdue ht
        have fd := HT3.out.free (2 + t)
        go_upto_region 17 with (fail)
        refine Txt.wp_txt (by kernel_rfl) (by kernel_rfl) ?_
        go_wp2
        refine Txt.DrawPost.mk0 (by rfl) ?_
        obtain ⟨w4, hw4⟩ : ∃ W, W = (w3.setCell ⟨g, 2 + t, none⟩ (.int .i64 0)).drew := ⟨_, rfl⟩
        have HT4 := Lib.hid (show WdAt ((w3.setCell ⟨g, 2 + t, none⟩ (.int .i64 0)).drew) g _ _ from WdAt.setDue HT3.out ht 0)
        rw [← hw4] at HT4
        have HK4 : Hid (Keep [g] w2 w4) := Lib.hid (by rw [hw4]; exact (HK3.out.setCell (.inl (by simp)) _).drew)
        have HE4 : Hid (w4.heap[E]? = some (.cells #[.int .i64 4, .int .i64 n, .int .i64 t, .int .i64 0, .int .i64 0, .int .i64 0, .int .i64 0, .int .i64 0, .int .i64 0, .int .i64 0, .int .i64 0, .int .i64 0, .int .i64 0, .slice none 0 0, .slice none 0 0] 62 (0, 0))) := Lib.hid (by
          rw [hw4]
          exact ((((Keep.refl [g] w3).setCell (p := ⟨g, 2 + t, none⟩) (.inl (by simp)) (.int .i64 0)).drew).block E (Array.getElem?_eq_some_iff.1 HE3.out).1 (by intro h; rw [List.mem_singleton] at h; exact HEg.out h)).trans HE3.out)
        have HW4 := Lib.hid hw4
        clear hw4
        go_upto_region 18 with (fail)
        rw [← HW4.out]
        clear HW4
        clear cd fd e_0 e_1 e_2 e_6 e_7
        by_cases hn : 0 ≤ n
        · have e_2 := box_at HE4.out (j := 2) rfl
          have cd := HT4.out.cdue ht
          have fd := HT4.out.free (2 + t)
          have cn := HT4.out.now
          simp only at cn cd
          go_upto_region 19 with (fail)
          refine Txt.wp_txt (by kernel_rfl) (by kernel_rfl) ?_
          go_wp2
          refine Txt.DrawPost.mk0 (by rfl) ?_
          have HTF := Lib.hid (show WdAt ((w4.setCell ⟨g, 2 + t, none⟩ (.int .i64 (T.now + n))).drew) g _ _ from WdAt.setDue HT4.out ht (T.now + n))
          have HKF := Lib.hid ((HK4.out.setCell (p := ⟨g, 2 + t, none⟩) (.inl (by simp)) (.int .i64 (T.now + n))).drew)
          go_wp2
          go_roundw
          case rel => exact ⟨k + 1, hlt, by go_num, by rw [HSt.out, effS_timer, if_pos hn, ← upd_upd T.due t 0]; exact HTF.out, HKF.out⟩
          case measure => simp [intOf]; omega
        · go_wp2
          go_roundw
          case rel => exact ⟨k + 1, hlt, by go_num, by rw [HSt.out, effS_timer, if_neg hn]; exact HT4.out, HK4.out⟩
          case measure => simp [intOf]; omega
      · have a_0 : wr.cell? ⟨q, o + (k * 15 + 0), none⟩ = some (.int .i64 1) := hc 0 _ rfl
        have a_1 : wr.cell? ⟨q, o + (k * 15 + 1), none⟩ = some (.int .i64 0) := hc 1 _ rfl
        have a_2 : wr.cell? ⟨q, o + (k * 15 + 2), none⟩ = some (.int .i64 0) := hc 2 _ rfl
        have a_3 : wr.cell? ⟨q, o + (k * 15 + 3), none⟩ = some (.int .i64 0) := hc 3 _ rfl
        have a_4 : wr.cell? ⟨q, o + (k * 15 + 4), none⟩ = some (.int .i64 0) := hc 4 _ rfl
        have a_5 : wr.cell? ⟨q, o + (k * 15 + 5), none⟩ = some (.int .i64 0) := hc 5 _ rfl
        have a_6 : wr.cell? ⟨q, o + (k * 15 + 6), none⟩ = some (.int .i64 3) := hc 6 _ rfl
        have a_7 : wr.cell? ⟨q, o + (k * 15 + 7), none⟩ = some (.int .i64 17) := hc 7 _ rfl
        have a_8 : wr.cell? ⟨q, o + (k * 15 + 8), none⟩ = some (.int .i64 0) := hc 8 _ rfl
        have a_9 : wr.cell? ⟨q, o + (k * 15 + 9), none⟩ = some (.int .i64 a) := hc 9 _ rfl
        have a_10 : wr.cell? ⟨q, o + (k * 15 + 10), none⟩ = some (.int .i64 0) := hc 10 _ rfl
        have a_11 : wr.cell? ⟨q, o + (k * 15 + 11), none⟩ = some (.int .i64 0) := hc 11 _ rfl
        have a_12 : wr.cell? ⟨q, o + (k * 15 + 12), none⟩ = some (.int .i64 0) := hc 12 _ rfl
        have a_13 : wr.cell? ⟨q, o + (k * 15 + 13), none⟩ = some (.slice none 0 0) := hc 13 _ rfl
        have a_14 : wr.cell? ⟨q, o + (k * 15 + 14), none⟩ = some (.slice none 0 0) := hc 14 _ rfl
        simp only [← Nat.add_assoc, Nat.add_zero] at a_0 a_1 a_2 a_3 a_4 a_5 a_6 a_7 a_8 a_9 a_10 a_11 a_12 a_13 a_14
        clear hc
        obtain ⟨E, hE0⟩ : ∃ E, E = wr.heap.size := ⟨_, rfl⟩
        obtain ⟨w3, hw3⟩ : ∃ W, W = wr.alloc (.cells #[.int .i64 1, .int .i64 0, .int .i64 0, .int .i64 0, .int .i64 0, .int .i64 0, .int .i64 3, .int .i64 17, .int .i64 0, .int .i64 a, .int .i64 0, .int .i64 0, .int .i64 0, .slice none 0 0, .slice none 0 0] 62) := ⟨_, rfl⟩
        have xE : w3.heap[E]? = some (.cells #[.int .i64 1, .int .i64 0, .int .i64 0, .int .i64 0, .int .i64 0, .int .i64 0, .int .i64 3, .int .i64 17, .int .i64 0, .int .i64 a, .int .i64 0, .int .i64 0, .int .i64 0, .slice none 0 0, .slice none 0 0] 62 (0, 0)) := by rw [hw3, hE0]; exact a1_0 wr _ 62
        have hb3 : Below wr.heap.size wr w3 := by rw [hw3]; exact (Below.refl _ wr).alloc (Nat.le_refl _) _
        have HT3 := Lib.hid (WdAt.below HT0.out hb3)
        have HK3 := Lib.hid (HKP.out.trans (F' := [g]) (Keep.of_below' hb3) (fun f hf => .inl hf))
        have HW3 := Lib.hid hw3
        have HE0 := Lib.hid hE0
        have HE3 := Lib.hid xE
        clear hw3 hE0 xE hb3
        go_upto_region 10 with (fail)
        rw [← HW3.out, ← HE0.out]
        clear HW3 HE0 a_0 a_1 a_2 a_3 a_4 a_5 a_6 a_7 a_8 a_9 a_10 a_11 a_12 a_13 a_14
        have e_0 := box_at HE3.out (j := 0) rfl
        have e_1 := box_at HE3.out (j := 1) rfl
        have e_2 := box_at HE3.out (j := 2) rfl
        have e_6 := box_at HE3.out (j := 6) rfl
        have e_7 := box_at HE3.out (j := 7) rfl
        have cr := HT3.out.cfreed
        have fr := HT3.out.free 98
        have HTF := Lib.hid (show WdAt ((w3.setCell ⟨g, 98, none⟩ (.int .i64 (T.freed + 1)))) g _ _ from WdAt.setFreed HT3.out (T.freed + 1))
        have HKF := Lib.hid ((HK3.out.setCell (p := ⟨g, 98, none⟩) (.inl (by simp)) (.int .i64 (T.freed + 1))))
        go_wp2
        go_roundw
        case rel => exact ⟨k + 1, hlt, by go_num, by rw [HSt.out, effS_send]; exact HTF.out, HKF.out⟩
        case measure => simp [intOf]; omega
    · obtain rfl : k = es.length := by omega
      rw [List.take_length] at hT0
      have HTF := Lib.hid hT0
      have HKF := Lib.hid (HK2.out.trans hkp (fun f hf => .inl hf))
      have HIF := Lib.hid (Raw.keep HI2.out hkp (fun f hf => .inl hf) (fun f hf => .inl hf) : Bytes [g] wr _ _)
      clear hT0 hkp
      go_wp2
      refine bodyPost_end (results_none rfl _ _ _) rfl ?_
      exact ⟨rfl, _, by rw [← HS1.out]; exact HTF.out, HIF.out, HKF.out⟩
end Go.Proofs.Ytdelemmoiaiooaa
