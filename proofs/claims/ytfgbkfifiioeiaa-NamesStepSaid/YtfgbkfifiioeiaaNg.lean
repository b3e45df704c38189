/- names: register, release, do -/
import Derived.Test.YtfgbkfifiioeiaaNf
namespace Go.Nm
open Go Go.RowKit Go.Bs Go.Cl Go.Rw
theorem reg_same {l : List Nm} {s : List UInt8} {t : Int} (h : fnd l s = t) : regN l s t = (l, 0) := by unfold regN; rw [if_pos h]
theorem reg_other {l : List Nm} {s : List UInt8} {t : Int} (h : fnd l s ≠ t) (h2 : fnd l s ≠ 0) : regN l s t = (l, 9) := by unfold regN; rw [if_neg h, if_pos h2]
theorem reg_full {l : List Nm} {s : List UInt8} {t : Int} (h : fnd l s ≠ t) (h2 : fnd l s = 0) (h3 : 4 ≤ cnt l t ∨ 40 ≤ l.length) : regN l s t = (l, 13) := by unfold regN; rw [if_neg h, if_neg (by simp [h2]), if_pos h3]
theorem reg_new {l : List Nm} {s : List UInt8} {t : Int} (h : fnd l s ≠ t) (h2 : fnd l s = 0) (h3 : ¬ (4 ≤ cnt l t ∨ 40 ≤ l.length)) : regN l s t = (insN l ⟨s, t⟩, 0) := by unfold regN; rw [if_neg h, if_neg (by simp [h2]), if_neg h3]
theorem rel_none {l : List Nm} {s : List UInt8} {t : Int} (h : fnd l s = 0) : relN l s t = (l, 8) := by unfold relN; rw [if_pos h]
theorem rel_own {l : List Nm} {s : List UInt8} {t : Int} (h : fnd l s ≠ 0) (h2 : fnd l s = t) : relN l s t = (delN l s, 0) := by unfold relN; rw [if_neg h, if_pos h2]
theorem rel_other {l : List Nm} {s : List UInt8} {t : Int} (h : fnd l s ≠ 0) (h2 : fnd l s ≠ t) : relN l s t = (l, 10) := by unfold relN; rw [if_neg h, if_neg h2]
def RetDo (r : List Nm × Int × Int) (w : World) (e : Ending) (w' : World) : Prop := ∃ v, e = .returned (.tuple #[v, .int .i64 r.2.1, .int .i64 r.2.2]) ∧ SlN w' v r.1 ∧ Below w.heap.size w w'
end Go.Nm
namespace Go.Proofs.Ytfgbkfifiioeiaa
open Go.RowKit Go.Bs Go.Cl Go.Rw Go.Nm Go.Wi
theorem name_eq (s : List UInt8) (r : Bool) (w : World) (h : nmOK s = r) : Calls Try.prog 36 #[.string (strOf s)] w fun e w' => e = .returned (.bool r) ∧ Below w.heap.size w w' := h ▸ name_any s w
set_option maxRecDepth 100000 in
set_option maxHeartbeats 2000000 in
theorem register_any (v : Value) (l : List Nm) (s : List UInt8) (t : Int) (w : World) (hl : l.length ≤ 100000) (h : SlN w v l) (hv : validN l = true) :
    Calls Try.prog 55 #[v, .string (strOf s), .int .i64 t] w (RetR (regN l s t) w) := by
  obtain ⟨a, cap, rfl⟩ := Raw.slice h
  have H := Lib.hid h; clear h
  have Hs := Lib.hid (valid_srt hv)
  have Hno := Lib.hid (fun x (hx : x ∈ l) => (by have := valid_ok hv x hx; simp only [okE, Bool.and_eq_true, decide_eq_true_eq] at this; exact this.1.2 : 1 ≤ x.t))
  clear hv
  obtain ⟨F, hF⟩ : ∃ F, fnd l s = F := ⟨_, rfl⟩
  have HF := Lib.hid hF
  by_cases h1 : F = t
  · have HE := Lib.hid (reg_same (hF.trans h1))
    have e1 : (F == t) = true := by simp [h1]
    clear hF h1
    go_enter Try.func55, Try.ntmps55
    go_wp2_with fail
    refine (find_any _ l s _ (by omega) H.out Hs.out).mono ?_
    rintro e w1 ⟨i, hi, _, _, rfl, hb1⟩
    rw [HF.out]
    go_wp2
    go_ret2
    rw [HE.out]
    exact ⟨_, rfl, H.out.below hb1, hb1⟩
  have e1 : (F == t) = false := by simp [h1]
  by_cases h2 : F = 0
  rotate_left
  · have HE := Lib.hid (reg_other (t := t) (by rw [hF]; exact h1) (by rw [hF]; exact h2))
    have e2 : (F != 0) = true := by simp [h2]
    have e2' : (F == 0) = false := by simp [h2]
    clear hF h1 h2
    go_enter Try.func55, Try.ntmps55
    go_wp2_with fail
    refine (find_any _ l s _ (by omega) H.out Hs.out).mono ?_
    rintro e w1 ⟨i, hi, _, _, rfl, hb1⟩
    rw [HF.out]
    go_wp2
    go_ret2
    rw [HE.out]
    exact ⟨_, rfl, H.out.below hb1, hb1⟩
  subst h2
  have H1 := Lib.hid h1
  have hF0 := hF
  by_cases h3 : 4 ≤ cnt l t ∨ 40 ≤ l.length
  · have HE := Lib.hid (reg_full (t := t) (by rw [hF]; exact h1) hF h3)
    clear hF h1 hF0
    by_cases h4 : 4 ≤ cnt l t
    · have g1 : (4 : Int) ≤ (cnt l t : Int) := by omega
      clear h3 h4
      go_enter Try.func55, Try.ntmps55
      go_wp2_with fail
      refine (find_any _ l s _ (by omega) H.out Hs.out).mono ?_
      rintro e w1 ⟨i, hi, _, _, rfl, hb1⟩
      rw [HF.out]
      go_wp2_with fail
      refine (count_any _ l t _ (by omega) (H.out.below hb1)).mono ?_
      rintro e w2 ⟨rfl, hb2⟩
      have hbel2 := hb1.trans (hb2.mono hb1.size)
      go_wp2
      go_ret2
      rw [HE.out]
      exact ⟨_, rfl, H.out.below hbel2, hbel2⟩
    · have g1 : ¬ (4 : Int) ≤ (cnt l t : Int) := by omega
      have g2 : (40 : Int) ≤ (l.length : Int) := by omega
      clear h3 h4
      go_enter Try.func55, Try.ntmps55
      go_wp2_with fail
      refine (find_any _ l s _ (by omega) H.out Hs.out).mono ?_
      rintro e w1 ⟨i, hi, _, _, rfl, hb1⟩
      rw [HF.out]
      go_wp2_with fail
      refine (count_any _ l t _ (by omega) (H.out.below hb1)).mono ?_
      rintro e w2 ⟨rfl, hb2⟩
      have hbel2 := hb1.trans (hb2.mono hb1.size)
      go_wp2
      go_ret2
      rw [HE.out]
      exact ⟨_, rfl, H.out.below hbel2, hbel2⟩
  · have HE := Lib.hid (reg_new (t := t) (by rw [hF]; exact h1) hF h3)
    have g1 : ¬ (4 : Int) ≤ (cnt l t : Int) := by omega
    have g2 : ¬ (40 : Int) ≤ (l.length : Int) := by omega
    clear hF h1 h3 hF0
    go_enter Try.func55, Try.ntmps55
    go_wp2_with fail
    refine (find_any _ l s _ (by omega) H.out Hs.out).mono ?_
    rintro e w1 ⟨i, hi, hlo, hcase, rfl, hb1⟩
    rw [HF.out]
    have hbey : ∀ k, i ≤ k → k < l.length → slt s (nmAt l k).s = true := by
      rcases hcase with ⟨hil, hie⟩ | ⟨hbey, _⟩
      · have hz := fnd_at hil hlo hie
        rw [HF.out] at hz
        have := Hno.out _ (nm_mem.2 ⟨i, hil, rfl⟩)
        omega
      · exact hbey
    have HI := Lib.hid (ins_eq (x := ⟨s, t⟩) hlo hbey)
    clear hlo hcase hbey
    go_wp2_with fail
    refine (count_any _ l t _ (by omega) (H.out.below hb1)).mono ?_
    rintro e w2 ⟨rfl, hb2⟩
    have hbel2 := hb1.trans (hb2.mono hb1.size)
    clear hb2
    go_wp2_with fail
    refine (clone66 _ (by omega) (H.out.below hbel2)).mono ?_
    rintro e w3 ⟨v3, rfl, ho3, hb3⟩
    have hbel3 := hbel2.trans (hb3.mono hbel2.size)
    have HO3 := Lib.hid (own_base ho3 hbel2.size)
    obtain ⟨a3, c3, rfl⟩ := own_slice ho3
    clear ho3 hb3
    have hal := (Below.refl w3.heap.size w3).alloc (Nat.le_refl _) (.cells #[.string (strOf s), .int .i64 t] 59)
    have hbel5 := hbel3.trans (hal.mono hbel3.size)
    have HO5 := Lib.hid (own_below HO3.out hal (Nat.le_refl _))
    clear hal
    go_wp2_with fail
    refine (insert_own w.heap.size l.length i _ (l.flatMap encN) (encN ⟨s, t⟩) w3.heap.size _ _ (by omega) hi hbel5.size HO5.out rfl (fun e => by have := (HO3.out.lt _ e).2; omega) (heap_alloc_new w3 _) (by intro u hu; simp [encN] at hu; rcases hu with rfl | rfl <;> rfl) (encN_one l)).mono ?_
    rintro e w6 ⟨v6, rfl, hown6, hg6⟩
    obtain ⟨a6, c6, rfl⟩ := own_slice hown6
    have hbel6 := hbel5.grown hg6 hbel5.size (fun q hq => (HO3.out.lt q hq).1)
    have hflat : (l.flatMap encN).take (i * 2) ++ encN ⟨s, t⟩ ++ (l.flatMap encN).drop (i * 2) = (insN l ⟨s, t⟩).flatMap encN := by
      rw [← HI.out, flat_take encN encN_len, flat_drop encN encN_len]; simp
    rw [hflat] at hown6
    have HR := Lib.hid (SlN.of_own hown6)
    have hln : l.length + 1 = (insN l ⟨s, t⟩).length := by have := hown6.1; rw [flat_length encN encN_len] at this; omega
    have HLN := Lib.hid hln
    clear hown6 hg6 hflat hln
    go_wp2
    go_ret2
    rw [HE.out]
    exact ⟨_, rfl, by simpa [HLN.out] using HR.out, hbel6⟩
set_option maxRecDepth 100000 in
set_option maxHeartbeats 2000000 in
theorem release_any (v : Value) (l : List Nm) (s : List UInt8) (t : Int) (w : World) (hl : l.length ≤ 100000) (h : SlN w v l) (hv : validN l = true) :
    Calls Try.prog 56 #[v, .string (strOf s), .int .i64 t] w (RetR (relN l s t) w) := by
  obtain ⟨a, cap, rfl⟩ := Raw.slice h
  have H := Lib.hid h; clear h
  have Hs := Lib.hid (valid_srt hv)
  clear hv
  obtain ⟨F, hF⟩ : ∃ F, fnd l s = F := ⟨_, rfl⟩
  have HF := Lib.hid hF
  by_cases h1 : F = 0
  · have HE := Lib.hid (rel_none (t := t) (hF.trans h1))
    have e1 : (F == 0) = true := by simp [h1]
    clear hF h1
    go_enter Try.func56, Try.ntmps56
    go_wp2_with fail
    refine (find_any _ l s _ (by omega) H.out Hs.out).mono ?_
    rintro e w1 ⟨i, hi, _, _, rfl, hb1⟩
    rw [HF.out]
    go_wp2
    go_ret2
    rw [HE.out]
    exact ⟨_, rfl, H.out.below hb1, hb1⟩
  have e1 : (F == 0) = false := by simp [h1]
  by_cases h2 : F = t
  rotate_left
  · have HE := Lib.hid (rel_other (t := t) (by rw [hF]; exact h1) (by rw [hF]; exact h2))
    have e2 : (F == t) = false := by simp [h2]
    clear hF h1 h2
    go_enter Try.func56, Try.ntmps56
    go_wp2_with fail
    refine (find_any _ l s _ (by omega) H.out Hs.out).mono ?_
    rintro e w1 ⟨i, hi, _, _, rfl, hb1⟩
    rw [HF.out]
    go_wp2
    go_ret2
    rw [HE.out]
    exact ⟨_, rfl, H.out.below hb1, hb1⟩
  have HE := Lib.hid (rel_own (t := t) (by rw [hF]; exact h1) (by rw [hF]; exact h2))
  have e2 : (F == t) = true := by simp [h2]
  have H1 := Lib.hid h1
  clear hF h1 h2
  go_enter Try.func56, Try.ntmps56
  go_wp2_with fail
  refine (find_any _ l s _ (by omega) H.out Hs.out).mono ?_
  rintro e w1 ⟨i, hi, hlo, hcase, rfl, hb1⟩
  have hfound : i < l.length ∧ (nmAt l i).s = s := by
    rcases hcase with hc | ⟨_, hc⟩
    · exact hc
    · rw [HF.out] at hc; exact absurd hc H1.out
  have HD := Lib.hid (del_eq Hs.out hfound.1 hfound.2)
  obtain ⟨n, hn⟩ : ∃ n, l.length = n + 1 := ⟨l.length - 1, by omega⟩
  have hin : i ≤ n := by omega
  have HN := Lib.hid hn
  rw [HF.out]
  clear hlo hcase hfound hn
  go_wp2_with fail
  refine (clone66 _ (by omega) (H.out.below hb1)).mono ?_
  rintro e w3 ⟨v3, rfl, ho3, hb3⟩
  have hbel3 := hb1.trans (hb3.mono hb1.size)
  have ho3 := own_base ho3 hb1.size
  clear hb3
  rw [HN.out] at ho3
  rcases own_cases ho3 with ⟨e, h0, _⟩ | ⟨g, c9, e, hg1, hg2, hcc⟩
  · omega
  subst e
  have HO3 := Lib.hid ho3
  clear ho3 hcc
  go_wp2_with fail
  refine (delete_own i _ HN.out hin (by have := HN.out; omega) HO3.out).mono ?_
  rintro e w4 ⟨rfl, hown4, hg4⟩
  have hbel4 := hbel3.grown hg4 hbel3.size (fun q hq => (HO3.out.lt q hq).1)
  rw [HD.out] at hown4
  have HR := Lib.hid (SlN.of_own hown4)
  have hln : n = (delN l s).length := by have := hown4.1; rw [flat_length encN encN_len] at this; omega
  have HLN := Lib.hid hln
  clear hown4 hg4 hln
  go_wp2
  go_ret2
  rw [HE.out]
  exact ⟨_, rfl, by simpa [← HLN.out] using HR.out, hbel4⟩
set_option maxRecDepth 100000 in
set_option maxHeartbeats 2000000 in
theorem do_any (v : Value) (l : List Nm) (op : Int) (s : List UInt8) (t : Int) (w : World) (hl : l.length ≤ 100000) (h : SlN w v l) (hv : validN l = true) (ho : op = 0 ∨ op = 1 ∨ op = 2) :
    Calls Try.prog 40 #[v, .int .i64 op, .string (strOf s), .int .i64 t] w (RetDo (doN l op s t) w) := by
  obtain ⟨a, cap, rfl⟩ := Raw.slice h
  have H := Lib.hid h; clear h
  have Hs := Lib.hid (valid_srt hv)
  have Hv := Lib.hid hv
  clear hv
  cases hn : nmOK s
  · have HE : Hid (doN l op s t = (l, 0, 15)) := Lib.hid (by unfold doN; rw [if_pos hn])
    have Hn := Lib.hid hn
    clear hn ho
    go_enter Try.func40, Try.ntmps40
    go_wp2_with fail
    refine (name_eq s false _ Hn.out).mono ?_
    rintro e w1 ⟨rfl, hb1⟩
    go_wp2
    go_ret3
    rw [HE.out]
    exact ⟨_, rfl, H.out.below hb1, hb1⟩
  rcases ho with rfl | rfl | rfl
  · obtain ⟨F, hF⟩ : ∃ F, fnd l s = F := ⟨_, rfl⟩
    have HE : Hid (doN l 0 s t = (l, F, if F = 0 then 8 else 0)) := Lib.hid (by unfold doN; rw [if_neg (by simp [hn]), if_pos rfl, hF])
    have HF := Lib.hid hF
    clear hF
    have Hn := Lib.hid hn
    clear hn
    go_enter Try.func40, Try.ntmps40
    go_wp2_with fail
    refine (name_eq s true _ Hn.out).mono ?_
    rintro e w1 ⟨rfl, hb1⟩
    go_wp2_with fail
    refine (find_any _ l s _ (by omega) (H.out.below hb1) Hs.out).mono ?_
    rintro e w2 ⟨i, hi, _, _, rfl, hb2⟩
    rw [HF.out]
    have hbel2 := hb1.trans (hb2.mono hb1.size)
    by_cases h0 : F = 0
    · subst h0
      go_wp2
      go_ret3
      rw [HE.out]
      exact ⟨_, rfl, H.out.below hbel2, hbel2⟩
    · have e0 : (F == 0) = false := by simp [h0]
      have HE : Hid (doN l 0 s t = (l, F, 0)) := Lib.hid (by rw [HE.out, if_neg h0])
      clear h0
      go_wp2
      go_ret3
      rw [HE.out]
      exact ⟨_, rfl, H.out.below hbel2, hbel2⟩
  · obtain ⟨r, hr⟩ : ∃ r, regN l s t = r := ⟨_, rfl⟩
    obtain ⟨l2, e2⟩ := r
    have HE : Hid (doN l 1 s t = (l2, if e2 = 0 then t else 0, e2)) := Lib.hid (by unfold doN; rw [if_neg (by simp [hn]), if_neg (by decide), if_pos rfl, hr])
    have Hr := Lib.hid hr
    clear hr
    have Hn := Lib.hid hn
    clear hn
    go_enter Try.func40, Try.ntmps40
    go_wp2_with fail
    refine (name_eq s true _ Hn.out).mono ?_
    rintro e w1 ⟨rfl, hb1⟩
    go_wp2_with fail
    refine (register_any _ l s t _ hl (H.out.below hb1) Hv.out).mono ?_
    rw [Hr.out]
    rintro e w2 ⟨v2, rfl, hs2, hb2⟩
    have hbel2 := hb1.trans (hb2.mono hb1.size)
    obtain ⟨a2, c2, rfl⟩ := Raw.slice hs2
    have HS2 := Lib.hid hs2
    clear hs2 hb2
    simp only
    by_cases h0 : e2 = 0
    · subst h0
      go_wp2
      go_ret3
      rw [HE.out]
      exact ⟨_, rfl, HS2.out, hbel2⟩
    · have e0 : (e2 == 0) = false := by simp [h0]
      have HE : Hid (doN l 1 s t = (l2, 0, e2)) := Lib.hid (by rw [HE.out, if_neg h0])
      clear h0
      go_wp2
      go_ret3
      rw [HE.out]
      exact ⟨_, rfl, HS2.out, hbel2⟩
  · obtain ⟨r, hr⟩ : ∃ r, relN l s t = r := ⟨_, rfl⟩
    obtain ⟨l2, e2⟩ := r
    have HE : Hid (doN l 2 s t = (l2, if e2 = 0 then t else 0, e2)) := Lib.hid (by unfold doN; rw [if_neg (by simp [hn]), if_neg (by decide), if_neg (by decide), hr])
    have Hr := Lib.hid hr
    clear hr
    have Hn := Lib.hid hn
    clear hn
    go_enter Try.func40, Try.ntmps40
    go_wp2_with fail
    refine (name_eq s true _ Hn.out).mono ?_
    rintro e w1 ⟨rfl, hb1⟩
    go_wp2_with fail
    refine (release_any _ l s t _ hl (H.out.below hb1) Hv.out).mono ?_
    rw [Hr.out]
    rintro e w2 ⟨v2, rfl, hs2, hb2⟩
    have hbel2 := hb1.trans (hb2.mono hb1.size)
    obtain ⟨a2, c2, rfl⟩ := Raw.slice hs2
    have HS2 := Lib.hid hs2
    clear hs2 hb2
    simp only
    by_cases h0 : e2 = 0
    · subst h0
      go_wp2
      go_ret3
      rw [HE.out]
      exact ⟨_, rfl, HS2.out, hbel2⟩
    · have e0 : (e2 == 0) = false := by simp [h0]
      have HE : Hid (doN l 2 s t = (l2, 0, e2)) := Lib.hid (by rw [HE.out, if_neg h0])
      clear h0
      go_wp2
      go_ret3
      rw [HE.out]
      exact ⟨_, rfl, HS2.out, hbel2⟩
end Go.Proofs.Ytfgbkfifiioeiaa
