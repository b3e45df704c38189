/- names: the reference's do -/
import Derived.Test.YtfgbkfifiioeiaaNs
namespace Go.Proofs.Ytfgbkfifiioeiaa
open Go.RowKit Go.Bs Go.Cl Go.Rw Go.Nm Go.Wi
set_option maxRecDepth 100000 in
set_option maxHeartbeats 8000000 in
theorem rdo_any (v : Value) (l : List Nm) (op : Int) (s : List UInt8) (t : Int) (w : World) (hl : l.length ≤ 1000) (hsl : s.length ≤ 1000000) (h : SlN w v l) (hv : validN l = true) (ht : 1 ≤ t) (ho : op = 0 ∨ op = 1 ∨ op = 2) :
    Calls Try.prog 57 #[v, .int .i64 op, .int .i64 t, .string (strOf s)] w (RetDo (doN l op s t) w) := by
  obtain ⟨a, cap, rfl⟩ := Raw.slice h
  have H := Lib.hid h; clear h
  have Hv := Lib.hid hv
  clear hv
  cases hn : nmOK s
  · have HE : Hid (doN l op s t = (l, 0, 15)) := Lib.hid (by unfold doN; rw [if_pos hn])
    have Hn := Lib.hid hn
    clear hn ho
    go_enter Try.func57, Try.ntmps57
    go_wp2_with fail
    refine (rname_eq s false _ hsl Hn.out).mono ?_
    rintro e w' ⟨rfl, rfl⟩
    go_wp2
    go_ret3
    rw [HE.out]
    exact ⟨_, rfl, H.out, Below.refl _ _⟩
  obtain ⟨F, hF⟩ : ∃ F, fnd l s = F := ⟨_, rfl⟩
  have HF := Lib.hid hF
  have Hn := Lib.hid hn
  clear hF hn
  rcases ho with rfl | rfl | rfl
  · have HE : Hid (doN l 0 s t = (l, F, if F = 0 then 8 else 0)) := Lib.hid (by unfold doN; rw [if_neg (by simp [Hn.out]), if_pos rfl, HF.out])
    go_enter Try.func57, Try.ntmps57
    go_wp2_with fail
    refine (rname_eq s true _ hsl Hn.out).mono ?_
    rintro e w' ⟨rfl, rfl⟩
    go_wp2_with fail
    refine (rfind_any _ l s _ (by omega) H.out).mono ?_
    rintro e w2 ⟨rfl, hb2⟩
    rw [HF.out]
    have H2 := Lib.hid (H.out.below hb2)
    by_cases h0 : F = 0
    · subst h0
      go_wp2
      go_ret3
      rw [HE.out]
      exact ⟨_, rfl, H2.out, hb2⟩
    · have e0 : (F == 0) = false := by simp [h0]
      have HE : Hid (doN l 0 s t = (l, F, 0)) := Lib.hid (by rw [HE.out, if_neg h0])
      clear h0
      go_wp2
      go_ret3
      rw [HE.out]
      exact ⟨_, rfl, H2.out, hb2⟩
  · have HE0 : Hid (doN l 1 s t = ((regN l s t).1, if (regN l s t).2 = 0 then t else 0, (regN l s t).2)) := Lib.hid (by unfold doN; rw [if_neg (by simp [Hn.out]), if_neg (by decide), if_pos rfl])
    go_enter Try.func57, Try.ntmps57
    go_wp2_with fail
    refine (rname_eq s true _ hsl Hn.out).mono ?_
    rintro e w' ⟨rfl, rfl⟩
    go_wp2_with fail
    refine (rfind_any _ l s _ (by omega) H.out).mono ?_
    rintro e w2 ⟨rfl, hb2⟩
    rw [HF.out]
    have H2 := Lib.hid (H.out.below hb2)
    by_cases h1 : F = t
    · have HE : Hid (doN l 1 s t = (l, t, 0)) := Lib.hid (by rw [HE0.out, reg_same (by rw [HF.out]; exact h1)]; rfl)
      have e1 : (F == t) = true := by simp [h1]
      clear h1 HE0
      go_wp2
      go_ret3
      rw [HE.out]
      exact ⟨_, rfl, H2.out, hb2⟩
    have hft : fnd l s ≠ t := by rw [HF.out]; exact h1
    have HFT := Lib.hid hft
    have e1 : (F == t) = false := by simp [h1]
    clear h1 hft
    by_cases h0 : F = 0
    rotate_left
    · have HE : Hid (doN l 1 s t = (l, 0, 9)) := Lib.hid (by rw [HE0.out, reg_other HFT.out (by rw [HF.out]; exact h0)]; rfl)
      have e0 : (F == 0) = false := by simp [h0]
      have e2 : (F != 0) = true := by simp [h0]
      clear h0 HE0
      go_wp2
      go_ret3
      rw [HE.out]
      exact ⟨_, rfl, H2.out, hb2⟩
    subst h0
    go_wp2_with fail
    refine (rcount_any _ l t _ (by omega) H2.out).mono ?_
    rintro e w3 ⟨rfl, hb3⟩
    have hb2 := hb2.trans (hb3.mono hb2.size)
    have H2 := Lib.hid (H2.out.below hb3)
    by_cases hc : 4 ≤ cnt l t ∨ 40 ≤ l.length
    · have HE : Hid (doN l 1 s t = (l, 0, 13)) := Lib.hid (by rw [HE0.out, reg_full HFT.out HF.out hc]; rfl)
      by_cases h4 : 4 ≤ cnt l t
      · have h4' : (4 : Int) ≤ (cnt l t : Int) := by omega
        clear hc HE0 h4
        go_wp2
        go_ret3
        rw [HE.out]
        exact ⟨_, rfl, H2.out, hb2⟩
      · have h4' : ¬ (4 : Int) ≤ (cnt l t : Int) := by omega
        have h5 : (40 : Int) ≤ (l.length : Int) := by omega
        clear hc HE0 h4
        go_wp2
        go_ret3
        rw [HE.out]
        exact ⟨_, rfl, H2.out, hb2⟩
    · have HE : Hid (doN l 1 s t = (insN l ⟨s, t⟩, t, 0)) := Lib.hid (by rw [HE0.out, reg_new HFT.out HF.out hc]; rfl)
      have h4' : ¬ (4 : Int) ≤ (cnt l t : Int) := by omega
      have h5 : ¬ (40 : Int) ≤ (l.length : Int) := by omega
      clear hc HE0
      go_wp2_with fail
      refine (rput_any _ l s t _ (by omega) H2.out (valid_srt Hv.out) ((fnd_mem (valid_pos Hv.out)).1 HF.out)).mono ?_
      rintro e w4 ⟨v4, rfl, hs4, hb4⟩
      have hb5 := hb2.trans (hb4.mono hb2.size)
      obtain ⟨a4, c4, hv4⟩ := Raw.slice hs4
      subst hv4
      have HS4 := Lib.hid hs4
      clear hs4 hb4
      go_wp2
      go_ret3
      rw [HE.out]
      exact ⟨_, rfl, HS4.out, hb5⟩
  · have HE0 : Hid (doN l 2 s t = ((relN l s t).1, if (relN l s t).2 = 0 then t else 0, (relN l s t).2)) := Lib.hid (by unfold doN; rw [if_neg (by simp [Hn.out]), if_neg (by decide), if_neg (by decide)])
    go_enter Try.func57, Try.ntmps57
    go_wp2_with fail
    refine (rname_eq s true _ hsl Hn.out).mono ?_
    rintro e w' ⟨rfl, rfl⟩
    go_wp2_with fail
    refine (rfind_any _ l s _ (by omega) H.out).mono ?_
    rintro e w2 ⟨rfl, hb2⟩
    rw [HF.out]
    have H2 := Lib.hid (H.out.below hb2)
    by_cases h0 : F = 0
    · subst h0
      have HE : Hid (doN l 2 s t = (l, 0, 8)) := Lib.hid (by rw [HE0.out, rel_none HF.out]; rfl)
      clear HE0
      go_wp2
      go_ret3
      rw [HE.out]
      exact ⟨_, rfl, H2.out, hb2⟩
    have hf0 : fnd l s ≠ 0 := by rw [HF.out]; exact h0
    have HF0 := Lib.hid hf0
    have e0 : (F == 0) = false := by simp [h0]
    clear h0 hf0
    by_cases h1 : F = t
    rotate_left
    · have HE : Hid (doN l 2 s t = (l, 0, 10)) := Lib.hid (by rw [HE0.out, rel_other HF0.out (by rw [HF.out]; exact h1)]; rfl)
      have e1 : (F == t) = false := by simp [h1]
      clear h1 HE0
      go_wp2
      go_ret3
      rw [HE.out]
      exact ⟨_, rfl, H2.out, hb2⟩
    have HE : Hid (doN l 2 s t = (delN l s, t, 0)) := Lib.hid (by rw [HE0.out, rel_own HF0.out (by rw [HF.out]; exact h1)]; rfl)
    have e1 : (F == t) = true := by simp [h1]
    clear h1 HE0
    go_wp2_with fail
    refine (rdrop_any _ l s _ (by omega) H2.out).mono ?_
    rintro e w4 ⟨v4, rfl, hs4, hb4⟩
    have hb5 := hb2.trans (hb4.mono hb2.size)
    obtain ⟨a4, c4, hv4⟩ := Raw.slice hs4
    subst hv4
    have HS4 := Lib.hid hs4
    clear hs4 hb4
    go_wp2
    go_ret3
    rw [HE.out]
    exact ⟨_, rfl, HS4.out, hb5⟩
end Go.Proofs.Ytfgbkfifiioeiaa
