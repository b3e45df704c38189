/- Undo: the walk of UndoRecover -/
import Derived.Test.YteefimjgcabpoaaUn
namespace Go.Un
theorem recover_len {b : List UInt8} {l : List Rec} (hb : b.length ≤ 1000000) : (recover b l).1.length ≤ 1000000 := by
  unfold recover
  cases h : l.all Rec.ok
  · simp
  · simp only [if_true]; exact takeAll_le hb h
end Go.Un
namespace Go.Proofs.Yteefimjgcabpoaa
open Go.RowKit Go.Bs Go.Cl Go.Rw Go.Un
theorem few_len {l : List Rec} (h : fewB l = true) : l.length ≤ 30 ∧ ∀ r ∈ l, r.old.length ≤ 400 ∧ r.len ≤ 2000 := by
  unfold fewB at h
  simp only [Bool.and_eq_true, List.all_eq_true, decide_eq_true_eq] at h
  exact ⟨h.2, h.1⟩

set_option maxRecDepth 100000 in
set_option maxHeartbeats 2000000 in
theorem undoRecover_any (bv rv : Value) (b : List UInt8) (rs : List (Rec × Value)) (w : World) (hB : Bytes [] w bv b) (hR : Recs [] w rv rs) (hf : ∀ p ∈ rs, p.1.fits) :
    Calls Try.prog 3 #[bv, rv] w fun e w' => e = .returned (.bool true) ∧ Below w.heap.size w w' := by
  obtain ⟨ra, rc, rfl⟩ := Raw.slice hR.1
  obtain ⟨ba, bc, rfl⟩ := Raw.slice hB
  have hrl : rs.length ≤ 9223372036854775807 := by
    obtain ⟨_, _, _, _, e, h1, h2, _⟩ := hR.1
    cases e; unfold maxLen at h2; omega
  have HR := Lib.hid hR; clear hR
  have HB := Lib.hid hB; clear hB
  by_cases hbig : 1000 < b.length
  · have g1 : (1000 : Int) < b.length := by omega
    go_enter Try.func3, Try.ntmps3
    go_wp2_with fail
    refine (awake_any _).mono ?_
    rintro e w1 ⟨rfl, hb1⟩
    go_wp2
    go_ret
    exact ⟨rfl, hb1⟩
  have g1 : (b.length : Int) ≤ 1000 := by omega
  cases hfew : fewB (rs.map (·.1))
  · have Hfew := Lib.hid hfew; clear hfew
    go_enter Try.func3, Try.ntmps3
    go_wp2_with fail
    refine (awake_any _).mono ?_
    rintro e w1 ⟨rfl, hb1⟩
    go_wp2_with fail
    refine (few_any _ rs _ hrl (HR.out.below hb1)).mono ?_
    rw [Hfew.out]
    rintro e w' ⟨rfl, rfl⟩
    go_wp2
    go_ret
    exact ⟨rfl, hb1⟩
  obtain ⟨hn, hel⟩ := few_len hfew
  rw [List.length_map] at hn
  have hl6 : rs.length ≤ 1000000 := by omega
  have Hold : Hid (∀ p ∈ rs, p.1.old.length ≤ 1000000) := Lib.hid fun p hp => by have := (hel _ (List.mem_map.2 ⟨p, hp, rfl⟩)).1; omega
  have Hfew := Lib.hid hfew; clear hfew hel
  have hb6 : b.length ≤ 1000000 := by omega
  have hrcl := recover_len (l := rs.map (·.1)) hb6
  have hidem := recover_idem (b := b) (l := rs.map (·.1))
  obtain ⟨rcv, hrcv⟩ : ∃ r, r = recover b (rs.map (·.1)) := ⟨_, rfl⟩
  rw [← hrcv] at hrcl hidem
  have Hidem := Lib.hid hidem
  have Hrcv := Lib.hid hrcv
  clear hrcv hidem
  obtain ⟨out, er⟩ := rcv
  simp only at hrcl
  have HF := Lib.hid hf; clear hf
  have key : ∀ rs' : List (Rec × Value), rs'.map (·.1) = rs.map (·.1) → (∀ p ∈ rs', p.1.fits) ∧ rs'.length ≤ 1000000 := fun rs' h => by
    refine ⟨fun p hp => ?_, by have := congrArg List.length h; simp at this; omega⟩
    have : p.1 ∈ rs.map (·.1) := by rw [← h]; exact List.mem_map.2 ⟨p, hp, rfl⟩
    obtain ⟨q, hq, he⟩ := List.mem_map.1 this
    rw [← he]; exact HF.out q hq
  have Key := Lib.hid key; clear key
  go_enter Try.func3, Try.ntmps3
  go_wp2_with fail
  refine (awake_any _).mono ?_
  rintro e w1 ⟨rfl, hb1⟩
  have hbel1 := hb1
  have hs1 := hb1.size
  go_wp2_with fail
  refine (few_any _ rs _ hrl (HR.out.below hbel1)).mono ?_
  rw [Hfew.out]
  rintro e w' ⟨rfl, rfl⟩
  have hal := (Below.refl w1.heap.size w1).alloc (Nat.le_refl _) (.cells #[] 5)
  have Hemp := Lib.hid (own_empty w1 w1.heap.size 5 1 (Nat.le_refl _))
  have HB1 := Lib.hid (Raw.below (Raw.below HB.out hbel1) hal)
  go_wp2_with (at_builtin; refine wpList_app el22 Try.underlying22 Hemp.out HB1.out (hbel1.alloc hs1 (.cells #[] 5)) rfl _ _ rfl rfl rfl ?c3 ?cB ?c5 ?_)
  case c3 => omega
  case cB => exact hs1
  case c5 => simp
  intro v2 w2 hown2 hb2 hg2 hs2
  have hbel2 := hb2
  obtain ⟨a2, c2, rfl⟩ := own_slice hown2
  have HI2 : Hid (Bytes [] w2 (.slice a2 (0 + b.length) c2) b) := Lib.hid (Bytes.row (by simpa using hown2) (by omega) (fun f h => by cases h))
  clear hown2 hg2 hal Hemp HB1
  simp only [Nat.zero_add] at HI2
  have hs2' := hbel2.size
  go_wp2_with fail
  refine (to_any _ rs _ hl6 (HR.out.below hbel2) Hold.out).mono ?_
  rintro e w3 ⟨v3, rfl, hR3, hb3⟩
  obtain ⟨rs3, hrs3, hR3⟩ := hR3.recs
  obtain ⟨hf3, hl3⟩ := Key.out rs3 hrs3
  have hbel3 := hbel2.trans (hb3.mono hs2')
  have HI3 := Lib.hid (Raw.below HI2.out hb3)
  obtain ⟨a3, c3, rfl⟩ := Raw.slice hR3.1
  have HR3 := Lib.hid hR3
  have HF3 := Lib.hid hf3
  have Hrs3 := Lib.hid hrs3
  clear hR3 hf3 hb3 hrs3
  go_wp2_with fail
  refine (recover_any _ _ b rs3 _ hb6 hl3 HI3.out HR3.out HF3.out).mono ?_
  rw [Hrs3.out, ← Hrcv.out]
  rintro e w4 ⟨v4, rfl, hB4, hb4⟩
  have hbel4 := hbel3.trans (hb4.mono hbel3.size)
  have HI4 := Lib.hid (Raw.below HI3.out hb4)
  obtain ⟨a4, c4, rfl⟩ := Raw.slice hB4
  have HX4 := Lib.hid hB4
  clear hB4 hb4
  go_wp2_with fail
  refine (rrecover_any _ _ b rs _ hb6 hl6 (Raw.below HB.out hbel4) (HR.out.below hbel4) HF.out).mono ?_
  rw [← Hrcv.out]
  rintro e w5 ⟨v5, rfl, hB5, hb5⟩
  have hbel5 := hbel4.trans (hb5.mono hbel4.size)
  have HI5 := Lib.hid (Raw.below HI4.out hb5)
  have HX5 := Lib.hid (Raw.below HX4.out hb5)
  obtain ⟨a5, c5, rfl⟩ := Raw.slice hB5
  have HY5 := Lib.hid hB5
  clear hB5 hb5
  have k1 := run_str HX5.out 22 5 9 Try.underlying22 Try.underlying5 Try.underlying9
  have k2 := run_str HY5.out 22 5 9 Try.underlying22 Try.underlying5 Try.underlying9
  have k3 := run_str HI5.out 22 5 9 Try.underlying22 Try.underlying5 Try.underlying9
  have k4 := run_str (Raw.below HB.out hbel5) 22 5 9 Try.underlying22 Try.underlying5 Try.underlying9
  go_wp2_with fail
  refine (to_any _ rs _ hl6 (HR.out.below hbel5) Hold.out).mono ?_
  rintro e w6 ⟨v6, rfl, hR6, hb6'⟩
  obtain ⟨rs6, hrs6, hR6⟩ := hR6.recs
  obtain ⟨hf6, hl6'⟩ := Key.out rs6 hrs6
  have hbel6 := hbel5.trans (hb6'.mono hbel5.size)
  have HX6 := Lib.hid (Raw.below HX5.out hb6')
  obtain ⟨a6, c6, rfl⟩ := Raw.slice hR6.1
  have HR6 := Lib.hid hR6
  have HF6 := Lib.hid hf6
  have Hrs6 := Lib.hid hrs6
  clear hR6 hf6 hb6' hrs6 k1 k2 k3 k4
  go_wp2_with fail
  refine (recover_any _ _ out rs6 _ hrcl hl6' HX6.out HR6.out HF6.out).mono ?_
  rw [Hrs6.out]
  by_cases her : er = 0
  · rw [Hidem.out her, her]
    rintro e w7 ⟨v7, rfl, hB7, hb7⟩
    have hbel7 := hbel6.trans (hb7.mono hbel6.size)
    have k5 := run_str (Raw.below HX6.out hb7) 22 5 9 Try.underlying22 Try.underlying5 Try.underlying9
    have k6 := run_str hB7 22 5 9 Try.underlying22 Try.underlying5 Try.underlying9
    obtain ⟨a7, c7, rfl⟩ := Raw.slice hB7
    clear hB7 hb7
    subst her
    go_wp2
    go_ret
    exact ⟨rfl, hbel7⟩
  · rintro e w7 ⟨v7, rfl, hB7, hb7⟩
    have hbel7 := hbel6.trans (hb7.mono hbel6.size)
    obtain ⟨a7, c7, rfl⟩ := Raw.slice hB7
    have hne : (er == 0) = false := by simpa using her
    have hne2 : (er != 0) = true := by simp [her]
    clear hB7 hb7
    go_wp2
    go_ret
    exact ⟨rfl, hbel7⟩
end Go.Proofs.Yteefimjgcabpoaa
