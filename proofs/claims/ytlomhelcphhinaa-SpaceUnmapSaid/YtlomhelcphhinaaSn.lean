/- Space: the walk of SpaceProtect -/
import Derived.Test.YtlomhelcphhinaaSm
import Derived.Test.YtlomhelcphhinaaSf
namespace Go.Sp
open Go Go.RowKit Go.Bs Go.Cl
theorem prot_len (l : List Ent) : (prot l).length = l.length := by simp [prot]
theorem ent_prot (l : List Ent) (k : Nat) : ent (prot l) k = (ent l k).ro := by
  unfold ent prot
  by_cases h : k < l.length
  · simp [h]
  · have h' : l.length ≤ k := by omega
    simp [h', Ent.ro]
theorem prot_valid (l : List Ent) : validB (prot l) = validB l := by
  unfold validB
  rw [prot_len]
  congr 1
  funext k
  simp [okAt, ent_prot, Ent.ro]
theorem prot_look (l : List Ent) (page : Int) : look (prot l) page = (look l page).map Ent.ro := by
  unfold look prot
  rw [List.find?_map]
  rfl
theorem prot_read (l : List Ent) (page : Int) : tlate (prot l) page false = tlate l page false := by
  unfold tlate
  rw [prot_valid, prot_look]
  cases look l page <;> simp [Ent.ro]
theorem prot_write {l : List Ent} (h : validB l = true) (page : Int) : tlate (prot l) page true = (0, 11) := by
  unfold tlate
  rw [prot_valid, prot_look, h]
  cases look l page <;> simp [Ent.ro]
end Go.Sp
namespace Go.Proofs.Ytlomhelcphhinaa
open Go.RowKit Go.Bs Go.Sp Go.Cl

set_option maxRecDepth 100000 in
set_option maxHeartbeats 1600000 in
theorem protectLaw_any (v : Value) (l : List Ent) (page : Int) (w : World) (hs : SlE w v l)
    (hp1 : -9223372036854775808 ≤ page) (hp2 : page ≤ 9223372036854775807) :
    Calls Try.prog 5 #[v, .int .i64 page] w fun e w' => e = .returned (.bool true) ∧ Below w.heap.size w w' := by
  have Hs := Lib.hid hs
  obtain ⟨ad, cap, rfl, hcap, hxx⟩ := hs
  clear hxx
  by_cases hbad : 60 < l.length
  · go_enter Try.func5, Try.ntmps5
    go_wp2_with fail
    refine (awake_any _).mono ?_
    rintro e w1 ⟨rfl, hb1⟩
    go_wp2_with fail
    refine (awake_any _).mono ?_
    rintro e w2 ⟨rfl, hb2⟩
    go_wp2
    go_ret
    exact ⟨rfl, hb1.trans (hb2.mono hb1.size)⟩
  · have hl' : l.length ≤ 1000000 := by omega
    have g1 : (l.length : Int) ≤ 60 := by omega
    go_enter Try.func5, Try.ntmps5
    go_wp2_with fail
    refine (awake_any _).mono ?_
    rintro e w1 ⟨rfl, hb1⟩
    cases hv : validB l
    · have Hv := Lib.hid hv; clear hv
      go_wp2_with fail
      refine (rvalid_sl (Hs.out.below hb1) hl').mono ?_
      rw [Hv.out]
      rintro e w2 ⟨rfl, hb2⟩
      have hbel2 := hb1.trans (hb2.mono hb1.size)
      go_wp2_with fail
      refine (awake_any _).mono ?_
      rintro e w3 ⟨rfl, hb3⟩
      go_wp2
      go_ret
      exact ⟨rfl, hbel2.trans (hb3.mono hbel2.size)⟩
    · obtain ⟨n, er, htl⟩ : ∃ n er, tlate l page false = (n, er) := ⟨_, _, rfl⟩
      have htr : tlate (prot l) page false = (n, er) := (prot_read l page).trans htl
      have htw := prot_write hv page
      have htv := (prot_valid l).trans hv
      have Hv := Lib.hid hv; clear hv
      have Htl := Lib.hid htl; clear htl
      have Htr := Lib.hid htr; clear htr
      have Htw := Lib.hid htw; clear htw
      have Htv := Lib.hid htv; clear htv
      have hlp : (prot l).length ≤ 1000000 := by rw [prot_len]; exact hl'
      have Hlp := Lib.hid hlp; clear hlp
      go_wp2_with fail
      refine (rvalid_sl (Hs.out.below hb1) hl').mono ?_
      rw [Hv.out]
      rintro e w2 ⟨rfl, hb2⟩
      have hbel2 := hb1.trans (hb2.mono hb1.size)
      clear hb1 hb2
      go_wp2_with fail
      refine (to_sl _ l _ hl' (Hs.out.below hbel2)).mono ?_
      rintro e w3 ⟨v1, rfl, hown1, hb3⟩
      have HS1 := Lib.hid (SlE.of_own hown1); clear hown1
      have hbel3 := hbel2.trans (hb3.mono hbel2.size)
      clear hb3 hbel2
      go_wp2_with fail
      refine (protect_sl v1 l _ hl' HS1.out).mono ?_
      rintro e w4 ⟨v2, rfl, hown2, hb4⟩
      have HT4 : Hid (SlE w4 v2 (prot l)) := Lib.hid (SlE.of_own (by rw [prot_len]; exact hown2)); clear hown2
      have hbel4 := hbel3.trans (hb4.mono hbel3.size)
      clear hb4 hbel3 HS1
      go_wp2_with fail
      refine (to_sl _ l _ hl' (Hs.out.below hbel4)).mono ?_
      rintro e w5 ⟨v3, rfl, hown3, hb5⟩
      have HS3 := Lib.hid (SlE.of_own hown3); clear hown3
      have HT5 := Lib.hid (HT4.out.below hb5); clear HT4
      have hbel5 := hbel4.trans (hb5.mono hbel4.size)
      clear hb5 hbel4
      go_wp2_with fail
      refine (translate_sl v3 l page false _ hl' HS3.out hp1 hp2).mono ?_
      rw [Htl.out]
      rintro e w6 ⟨rfl, hb6⟩
      have HT6 := Lib.hid (HT5.out.below hb6); clear HT5
      have hbel6 := hbel5.trans (hb6.mono hbel5.size)
      clear hb6 hbel5
      go_wp2_with fail
      refine (translate_sl v2 (prot l) page false _ Hlp.out HT6.out hp1 hp2).mono ?_
      rw [Htr.out]
      rintro e w7 ⟨rfl, hb7⟩
      have HT7 := Lib.hid (HT6.out.below hb7); clear HT6
      have hbel7 := hbel6.trans (hb7.mono hbel6.size)
      clear hb7 hbel6
      go_wp2_with fail
      refine (translate_sl v2 (prot l) page true _ Hlp.out HT7.out hp1 hp2).mono ?_
      rw [Htw.out]
      rintro e w8 ⟨rfl, hb8⟩
      have HT8 := Lib.hid (HT7.out.below hb8); clear HT7
      have hbel8 := hbel7.trans (hb8.mono hbel7.size)
      clear hb8 hbel7
      go_wp2_with fail
      refine (valid_sl HT8.out Hlp.out).mono ?_
      rw [Htv.out]
      rintro e w9 ⟨rfl, hb9⟩
      have hbel9 := hbel8.trans (hb9.mono hbel8.size)
      go_wp2
      go_ret
      exact ⟨rfl, hbel9⟩
end Go.Proofs.Ytlomhelcphhinaa
