/- Space: the walk of SpaceUnmap -/
import Derived.Test.YtlomhelcphhinaaYb
namespace Go.Proofs.Ytlomhelcphhinaa
open Go.RowKit Go.Bs Go.Sp Go.Cl Go.Rw Go.Dt Go.Sort Go.So
theorem sl_own {w : World} {base e n : Nat} {v : Value} {l : List Ent} (h : w.ownsRow base e 3 v n (l.flatMap encE)) (hn : n = l.length) : SlE w v l := by subst hn; exact SlE.of_own h
theorem unmapE_len {l : List Ent} {p : Int} : (unmapE l p).1.length ≤ l.length := by
  unfold unmapE
  split
  · split
    · exact wo_len _ _
    · simp
  · simp
set_option maxRecDepth 100000 in
set_option maxHeartbeats 8000000 in
theorem unmaplaw_any (v : Value) (l : List Ent) (p : Int) (w : World) (hs : SlE w v l) (hp1 : -9223372036854775808 ≤ p) (hp2 : p ≤ 9223372036854775807) :
    Calls Try.prog 9 #[v, .int .i64 p] w fun e w' => e = .returned (.bool true) ∧ Below w.heap.size w w' := by
  have HS := Lib.hid hs
  obtain ⟨a, cap, rfl, _, _⟩ := hs
  go_enter Try.func9, Try.ntmps9
  go_wp2_with fail
  refine (awake_any _).mono ?_
  rintro e w1 ⟨rfl, hb1⟩
  have HB1 := Lib.hid hb1
  clear hb1
  by_cases h60 : 60 < l.length
  · go_wp2_with fail
    refine (awake_any _).mono ?_
    rintro e w2 ⟨rfl, hb2⟩
    have HB2 := Lib.hid (HB1.out.trans (hb2.mono HB1.out.size))
    clear hb2
    go_wp2
    go_ret
    exact ⟨rfl, HB2.out⟩
  have hl : l.length ≤ 60 := by omega
  have hul := unmapE_len (l := l) (p := p)
  go_wp2_with fail
  refine (to_sl _ l _ (by omega) (HS.out.below HB1.out)).mono ?_
  rintro e w2 ⟨v2, rfl, hown2, hb2⟩
  obtain ⟨a2, c2, rfl⟩ := own_slice hown2
  have HB2 := Lib.hid (HB1.out.trans (hb2.mono HB1.out.size))
  have HS2 := Lib.hid (SlE.of_own hown2)
  clear hown2 hb2
  go_wp2_with fail
  refine (unmap_sl _ l p _ (by omega) HS2.out hp1 hp2).mono ?_
  rintro e w3 ⟨v3, rfl, hown3, hb3⟩
  obtain ⟨a3, c3, rfl⟩ := own_slice hown3
  have HB3 := Lib.hid (HB2.out.trans (hb3.mono HB2.out.size))
  have HS3 := Lib.hid (SlE.of_own hown3)
  clear hown3 hb3
  go_wp2_with fail
  refine (runmap_sl _ l p _ hl (HS.out.below HB3.out)).mono ?_
  rintro e w4 ⟨v4, rfl, hown4, hb4⟩
  obtain ⟨a4, c4, rfl⟩ := own_slice hown4
  have HB4 := Lib.hid (HB3.out.trans (hb4.mono HB3.out.size))
  have HS34 := Lib.hid (HS3.out.below hb4)
  have HS4 := Lib.hid (SlE.of_own hown4)
  clear hown4 hb4
  generalize (unmapE l p).2 = er
  have her : (er == er) = true := by simp
  go_wp2_with fail
  refine (from_sl _ (unmapE l p).1 _ (by omega) HS34.out).mono ?_
  rintro e w5 ⟨v5, rfl, hown5, hb5⟩
  obtain ⟨a5, c5, rfl⟩ := own_slice hown5
  have HB5 := Lib.hid (HB4.out.trans (hb5.mono HB4.out.size))
  have HS5 := Lib.hid (SlE.of_own hown5)
  have HS45 := Lib.hid (HS4.out.below hb5)
  clear hown5 hb5
  go_wp2_with fail
  refine (esame_sl _ _ (unmapE l p).1 _ (by omega) HS5.out HS45.out).mono ?_
  rintro e w6 ⟨rfl, hb6⟩
  have HB6 := Lib.hid (HB5.out.trans (hb6.mono HB5.out.size))
  clear hb6
  go_wp2_with fail
  refine (to_sl _ l _ (by omega) (HS.out.below HB6.out)).mono ?_
  rintro e w7 ⟨v7, rfl, hown7, hb7⟩
  obtain ⟨a7, c7, rfl⟩ := own_slice hown7
  have HB7 := Lib.hid (HB6.out.trans (hb7.mono HB6.out.size))
  have HS7 := Lib.hid (SlE.of_own hown7)
  clear hown7 hb7
  go_wp2_with fail
  refine (protect_sl _ l _ (by omega) HS7.out).mono ?_
  rintro e w8 ⟨v8, rfl, hown8, hb8⟩
  obtain ⟨a8, c8, rfl⟩ := own_slice hown8
  have HB8 := Lib.hid (HB7.out.trans (hb8.mono HB7.out.size))
  have HS8 := Lib.hid (sl_own hown8 (prot_len l).symm)
  clear hown8 hb8
  go_wp2_with fail
  refine (from_sl _ (prot l) _ (by rw [prot_len]; omega) HS8.out).mono ?_
  rintro e w9 ⟨v9, rfl, hown9, hb9⟩
  obtain ⟨a9, c9, rfl⟩ := own_slice hown9
  have HB9 := Lib.hid (HB8.out.trans (hb9.mono HB8.out.size))
  have HS9 := Lib.hid (SlE.of_own hown9)
  clear hown9 hb9
  go_wp2_with fail
  refine (rprotect_sl _ l _ hl (HS.out.below HB9.out)).mono ?_
  rintro e w10 ⟨v10, rfl, hown10, hb10⟩
  obtain ⟨a10, c10, rfl⟩ := own_slice hown10
  have HB10 := Lib.hid (HB9.out.trans (hb10.mono HB9.out.size))
  have HS910 := Lib.hid (HS9.out.below hb10)
  have HS10 := Lib.hid (SlE.of_own hown10)
  clear hown10 hb10
  go_wp2_with fail
  refine (esame_sl _ _ (prot l) _ (by rw [prot_len]; omega) HS910.out HS10.out).mono ?_
  rintro e w11 ⟨rfl, hb11⟩
  have HB11 := Lib.hid (HB10.out.trans (hb11.mono HB10.out.size))
  clear hb11
  go_wp2_with fail
  refine (to_sl _ l _ (by omega) (HS.out.below HB11.out)).mono ?_
  rintro e w12 ⟨v12, rfl, hown12, hb12⟩
  obtain ⟨a12, c12, rfl⟩ := own_slice hown12
  have HB12 := Lib.hid (HB11.out.trans (hb12.mono HB11.out.size))
  have HS12 := Lib.hid (SlE.of_own hown12)
  clear hown12 hb12
  go_wp2_with fail
  refine (frames_sl _ l _ hl HS12.out).mono ?_
  rintro e w13 ⟨v13, rfl, hown13, hb13⟩
  obtain ⟨a13, c13, rfl⟩ := own_slice hown13
  have HB13 := Lib.hid (HB12.out.trans (hb13.mono HB12.out.size))
  have HI13 := Lib.hid (Ints.of_own hown13)
  clear hown13 hb13
  go_wp2_with fail
  refine (rframes_sl _ l _ hl (HS.out.below HB13.out)).mono ?_
  rintro e w14 ⟨v14, rfl, hown14, hb14⟩
  obtain ⟨a14, c14, rfl⟩ := own_slice hown14
  have HB14 := Lib.hid (HB13.out.trans (hb14.mono HB13.out.size))
  have HI134 := Lib.hid (show Ints [] w14 _ _ from Raw.below HI13.out hb14)
  have HI14 := Lib.hid (Ints.of_own hown14)
  clear hown14 hb14
  have hfl : (once (frm l)).length ≤ 60 := by have := once_len (l := frm l); simp [frm] at this ⊢; omega
  go_wp2_with fail
  refine (ints_same (once (frm l)) _ _ _ (by omega) HI134.out HI14.out).mono ?_
  rintro e w15 ⟨rfl, hb15⟩
  have HB15 := Lib.hid (HB14.out.trans (hb15.mono HB14.out.size))
  clear hb15
  go_wp2
  go_ret
  exact ⟨rfl, HB15.out⟩
end Go.Proofs.Ytlomhelcphhinaa
