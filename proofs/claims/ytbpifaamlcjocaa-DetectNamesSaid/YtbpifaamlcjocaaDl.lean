/- Detect: DetectNames -/
import Derived.Test.YtbpifaamlcjocaaDi
import Derived.Test.YtbpifaamlcjocaaDg
import Derived.Maps.OwnSet
import Derived.Maps.StringElems
namespace Go.Dt
open Go Go.Maps Go.WideMaps
/-- the names of the causes -/
def nmA : Nat → ByteArray
  | 0 => ⟨#[110, 111, 110, 101]⟩
  | 1 => ⟨#[101, 120, 99, 101, 112, 116, 105, 111, 110]⟩
  | 2 => ⟨#[104, 97, 110, 103]⟩
  | 3 => ⟨#[116, 111, 117, 99, 104]⟩
  | 4 => ⟨#[112, 114, 111, 116, 111, 99, 111, 108]⟩
  | 5 => ⟨#[109, 105, 115, 109, 97, 116, 99, 104]⟩
  | 6 => ⟨#[105, 110, 115, 116, 97, 108, 108]⟩
  | 7 => ⟨#[115, 105, 108, 101, 110, 116]⟩
  | _ => ⟨#[]⟩
def keyS (s : ByteArray) : Lit := .string s.data.toList
def Dm {H : Type} : Nat → DataW H
  | 0 => .map []
  | k + 1 => (Dm k).put (keyS (nmA k)) (.lit (.int .i64 k))
theorem key_ne {s t : ByteArray} (h : s ≠ t) : keyS s ≠ keyS t := fun e => h (by
  have h1 : s.data.toList = t.data.toList := by injection e
  cases s; cases t
  congr 1
  exact Array.toList_inj.1 h1)
/-- which cause has a name -/
def isC (s : ByteArray) (c e : Int) : Prop := (∃ j : Nat, j < 8 ∧ s = nmA j ∧ c = j ∧ e = 0) ∨ ((∀ j, j < 8 → s ≠ nmA j) ∧ c = 0 ∧ e = 15)
theorem nmA_inj : ∀ i, i < 8 → ∀ j, j < 8 → nmA i = nmA j → i = j := by decide
theorem nmA_len : ∀ i, i < 8 → (nmA i).size ≤ 100 := by decide
theorem isC_eq {s : ByteArray} {c e c' e' : Int} (h : isC s c e) (h' : isC s c' e') : c = c' ∧ e = e' := by
  rcases h with ⟨j, hj, hs, rfl, rfl⟩ | ⟨hn, rfl, rfl⟩ <;> rcases h' with ⟨j', hj', hs', rfl, rfl⟩ | ⟨hn', rfl, rfl⟩
  · have := nmA_inj j hj j' hj' (hs.symm.trans hs')
    subst this; exact ⟨rfl, rfl⟩
  · exact absurd hs (hn' j hj)
  · exact absurd hs' (hn j' hj')
  · exact ⟨rfl, rfl⟩
theorem dm_map {H : Type} : ∀ k, IsMap (Dm (H := H) k)
  | 0 => isMap_empty
  | k + 1 => (dm_map k).put _ _
theorem dm_at {H : Type} : ∀ k, k ≤ 8 → ∀ j, j < k → has (Dm (H := H) k) (keyS (nmA j)) = true ∧ (Dm (H := H) k).atKey (keyS (nmA j)) (.lit (.int .i64 0)) = .lit (.int .i64 j)
  | 0, _, j, hj => absurd hj (Nat.not_lt_zero _)
  | k + 1, hk, j, hj => by
    unfold Dm
    by_cases e : j = k
    · subst e
      exact ⟨has_put_same (k := keyS (nmA j)) (dm_map j) trivial _, atKey_put_same (k := keyS (nmA j)) (dm_map j) trivial _ _⟩
    · have hne : keyS (nmA j) ≠ keyS (nmA k) := key_ne fun h => e (nmA_inj j (by omega) k (by omega) h)
      rw [has_put_other hne, atKey_put_other hne]
      exact dm_at k (by omega) j (by omega)
theorem has8 {H : Type} (j : Nat) (hj : j < 8) : has (Dm (H := H) 8) (keyS (nmA j)) = true := (dm_at 8 (Nat.le_refl _) j hj).1
theorem at8 {H : Type} (j : Nat) (hj : j < 8) : (Dm (H := H) 8).atKey (keyS (nmA j)) (.lit (.int .i64 0)) = .lit (.int .i64 j) := (dm_at 8 (Nat.le_refl _) j hj).2
theorem hasno {H : Type} {s : ByteArray} : ∀ k, (∀ j, j < k → s ≠ nmA j) → has (Dm (H := H) k) (keyS s) = false
  | 0, _ => rfl
  | k + 1, h => by
    unfold Dm
    rw [has_put_other (key_ne (h k (by omega)))]
    exact hasno k fun j hj => h j (by omega)
/-- the name of a cause -/
def nmI (c : Int) : ByteArray := if 0 ≤ c ∧ c < 8 then nmA c.toNat else ⟨#[]⟩
end Go.Dt
namespace Go.Proofs.Ytbpifaamlcjocaa
open Go.RowKit Go.Bs Go.Cl Go.Rw Go.Dt Go.Sort Go.So Go.Maps Go.WideMaps
theorem index65 (w : World) : ∀ k, k < 8 → (Instr.index 65 (.agg #[.string ⟨#[110, 111, 110, 101]⟩, .string ⟨#[101, 120, 99, 101, 112, 116, 105, 111, 110]⟩, .string ⟨#[104, 97, 110, 103]⟩, .string ⟨#[116, 111, 117, 99, 104]⟩, .string ⟨#[112, 114, 111, 116, 111, 99, 111, 108]⟩, .string ⟨#[109, 105, 115, 109, 97, 116, 99, 104]⟩, .string ⟨#[105, 110, 115, 116, 97, 108, 108]⟩, .string ⟨#[115, 105, 108, 101, 110, 116]⟩]) (.int .i64 (k : Nat))).run Try.prog w = .ok (.string (nmA k)) w := by
  intro k hk
  rcases (by omega : k = 0 ∨ k = 1 ∨ k = 2 ∨ k = 3 ∨ k = 4 ∨ k = 5 ∨ k = 6 ∨ k = 7) with rfl | rfl | rfl | rfl | rfl | rfl | rfl | rfl <;> kernel_rfl
theorem strK : Keyed Try.prog 9 := string_keyed Try.underlying9
theorem zero3 (w : World) : (zeroValue 3).run Try.prog w = .ok (.int .i64 0) w := by kernel_rfl
set_option maxRecDepth 100000 in
set_option maxHeartbeats 8000000 in
theorem cause_any (s : ByteArray) (hs : s.size ≤ 100) (w : World) : Calls Try.prog 11 #[.string s] w fun e w' => ∃ c f, e = .returned (.tuple #[.int .i64 c, .int .i64 f]) ∧ isC s c f ∧ Below w.heap.size w w' := by
  have hmm := @run_makeMap Try.prog
  have hs' : s.size ≤ maxLen := by unfold maxLen; omega
  go_enter Try.func11, Try.ntmps11
  go_wp2_with fail
  refine (names_any _).mono ?_
  rintro e w1 ⟨rfl, hb1⟩
  have hB1 : Below w.heap.size w w1 := ((Below.refl _ w).alloc (Nat.le_refl _) _).trans (hb1.mono (by simp))
  have HM : Hid (w1.ownsMap Try.prog 9 (plainElem (H := Unit) Try.prog 3) w.heap.size 0 (Dm 0)) := Lib.hid ((World.ownsMap_made w Try.prog 9 _).kept (row := none) ⟨hb1.os, hb1.tape, hb1.output, hb1.size, fun k hk _ => hb1.block k hk⟩ (by simp))
  have HB1 := Lib.hid hB1
  clear hb1 hB1
  go_wp2
  go_loopw [11] (fun i wr => ∃ k : Nat, k ≤ 8 ∧ i = .int .i64 k ∧ wr.ownsMap Try.prog 9 (plainElem (H := Unit) Try.prog 3) w.heap.size k (Dm k) ∧ Below w.heap.size w wr) (fun i _ => 8 - (intOf i).toNat)
  case atStart => exact ⟨0, by omega, rfl, HM.out, HB1.out⟩
  case round =>
    clear HM HB1
    obtain ⟨k, hk, rfl, hown, hbel⟩ := hrel
    by_cases hlt : k < 8
    · have hidx := fun w : World => index65 w k hlt
      have hlen : (nmA k).size ≤ maxLen := by have := nmA_len k hlt; unfold maxLen; omega
      obtain ⟨z, hz⟩ : ∃ z, z = nmA k := ⟨_, rfl⟩
      rw [← hz] at hidx hlen
      have hkey : keyOf Try.prog 9 (.string z) = some (keyS z) := keyOf_string_mk Try.underlying9 hlen
      have HZ := Lib.hid hz
      clear hz
      go_wp2_with (first | (at_mapUpdate; refine wpList_mapUpdate_own _ rfl _ _ _ 64 rfl 9 3 strK Try.underlying64 _ w.heap.size _ _ rfl hown (by unfold maxLen; omega) _ _ _ rfl rfl hkey _ [] (plainElem_int Try.underlying3 (WalkArith.wf_i64 (by omega))) ?_) | go_in)
      intro w2 hown2 hgrow2
      have HO : Hid (w2.ownsMap Try.prog 9 (plainElem (H := Unit) Try.prog 3) w.heap.size (k + 1) (Dm (k + 1))) := Lib.hid (by unfold Dm; rw [← HZ.out]; exact hown2)
      have HB2 := Lib.hid (hbel.grown hgrow2 hbel.size (fun j hj => by cases hj; exact Nat.le_refl _))
      clear hown2 hgrow2 hown hbel
      go_wp2
      go_roundw
      case rel => exact ⟨k + 1, by omega, by go_num, HO.out, HB2.out⟩
      case measure => simp [intOf]; omega
    · obtain rfl : k = 8 := by omega
      have HB2 := Lib.hid hbel
      clear hbel
      go_wp2_with (first | (at_lookup; refine wpList_lookup_own_ok_int _ rfl _ _ 64 rfl 9 3 .i64 strK Try.underlying64 Try.underlying3 (zero3 _) w.heap.size _ _ rfl hown _ _ rfl (keyOf_string_mk Try.underlying9 hs') ?_) | go_in)
      intro c hat hwc
      by_cases hj : ∃ j, j < 8 ∧ s = nmA j
      · obtain ⟨j, hj, hsj⟩ := hj
        have hh : has (Dm (H := Unit) 8) (.string s.data.toList) = true := by rw [hsj]; exact has8 j hj
        have hc : c = j := by
          have h1 := at8 (H := Unit) j hj
          rw [← hsj] at h1
          have h2 := hat.symm.trans h1
          injection h2 with h3
          injection h3
        subst hc
        rw [hh]
        clear hat hwc hh hown
        go_wp2
        go_ret2
        exact ⟨_, _, rfl, .inl ⟨j, hj, hsj, rfl, rfl⟩, HB2.out⟩
      · have hn : ∀ j, j < 8 → s ≠ nmA j := fun j h1 h2 => hj ⟨j, h1, h2⟩
        have hh : has (Dm (H := Unit) 8) (.string s.data.toList) = false := hasno 8 hn
        rw [hh]
        have HN := Lib.hid hn
        clear hat hwc hh hown hj hn
        go_wp2
        go_ret2
        exact ⟨_, _, rfl, .inr ⟨HN.out, rfl, rfl⟩, HB2.out⟩
theorem arr_at : ∀ k, k < 8 → ((#[.string ⟨#[110, 111, 110, 101]⟩, .string ⟨#[101, 120, 99, 101, 112, 116, 105, 111, 110]⟩, .string ⟨#[104, 97, 110, 103]⟩, .string ⟨#[116, 111, 117, 99, 104]⟩, .string ⟨#[112, 114, 111, 116, 111, 99, 111, 108]⟩, .string ⟨#[109, 105, 115, 109, 97, 116, 99, 104]⟩, .string ⟨#[105, 110, 115, 116, 97, 108, 108]⟩, .string ⟨#[115, 105, 108, 101, 110, 116]⟩] : Array Value))[k]? = some (.string (nmA k)) := by
  intro k hk
  rcases (by omega : k = 0 ∨ k = 1 ∨ k = 2 ∨ k = 3 ∨ k = 4 ∨ k = 5 ∨ k = 6 ∨ k = 7) with rfl | rfl | rfl | rfl | rfl | rfl | rfl | rfl <;> rfl
set_option maxRecDepth 100000 in
set_option maxHeartbeats 1000000 in
theorem rnames_any (w : World) : Calls Try.prog 33 #[] w fun e w' => ∃ g, e = .returned (.slice (some ⟨g, 0, none⟩) 8 8) ∧ (∀ k, k < 8 → w'.cell? ⟨g, k, none⟩ = some (.string (nmA k))) ∧ g < w'.heap.size ∧ Below w.heap.size w w' := by
  go_enter Try.func33, Try.ntmps33
  go_wp2
  go_ret
  exact ⟨_, rfl, fun k hk => box_at (heap_alloc_new w _) (arr_at k hk), by simp, (Below.refl _ w).alloc (Nat.le_refl _) _⟩
set_option maxRecDepth 100000 in
set_option maxHeartbeats 8000000 in
theorem rcause_any (s : ByteArray) (w : World) : Calls Try.prog 12 #[.string s] w fun e w' => ∃ c f, e = .returned (.tuple #[.int .i64 c, .int .i64 f]) ∧ isC s c f ∧ Below w.heap.size w w' := by
  go_enter Try.func12, Try.ntmps12
  go_wp2
  go_loopw [4] (fun i wr => ∃ k : Nat, k ≤ 8 ∧ i = .int .i64 k ∧ (∀ j, j < k → s ≠ nmA j) ∧ Below w.heap.size w wr) (fun i _ => 8 - (intOf i).toNat)
  case atStart => exact ⟨0, by omega, rfl, fun j hj => absurd hj (Nat.not_lt_zero _), Below.refl _ _⟩
  case round =>
    obtain ⟨k, hk, rfl, hn, hbel⟩ := hrel
    have HN := Lib.hid hn
    have HB := Lib.hid hbel
    clear hn hbel
    go_wp2_with fail
    refine (rnames_any _).mono ?_
    rintro e w1 ⟨g, rfl, _, _, hb1⟩
    have HB1 := Lib.hid (HB.out.trans (hb1.mono HB.out.size))
    clear hb1
    by_cases hlt : k < 8
    · go_wp2_with fail
      refine (rnames_any _).mono ?_
      rintro e w2 ⟨g2, rfl, hc, hg, hb2⟩
      have HB2 := Lib.hid (HB1.out.trans (hb2.mono HB1.out.size))
      have h0 := hc k hlt
      obtain ⟨z, hz⟩ : ∃ z, z = nmA k := ⟨_, rfl⟩
      rw [← hz] at h0
      have HZ := Lib.hid hz
      clear hc hz hb2
      by_cases he : z = s
      · subst he
        go_wp2
        go_ret2
        exact ⟨_, _, rfl, .inl ⟨k, hlt, HZ.out, rfl, rfl⟩, HB2.out⟩
      · have hne : (z.toList == s.toList) = false := by
          rw [beq_eq_false_iff_ne, ByteArray.toList_eq, ByteArray.toList_eq]
          exact fun e => he (WideShapes.bytes_inj e)
        go_wp2
        go_roundw
        case rel => exact ⟨k + 1, by omega, by go_num, fun j hj => by
          by_cases e : j = k
          · subst e; rw [← HZ.out]; exact fun h => he h.symm
          · exact HN.out j (by omega), HB2.out⟩
        case measure => simp [intOf]; omega
    · obtain rfl : k = 8 := by omega
      go_wp2
      go_ret2
      exact ⟨_, _, rfl, .inr ⟨HN.out, rfl, rfl⟩, HB1.out⟩
set_option maxRecDepth 100000 in
set_option maxHeartbeats 4000000 in
theorem name_any (c : Int) (w : World) : Calls Try.prog 13 #[.int .i64 c] w fun e w' => e = .returned (.string (nmI c)) ∧ Below w.heap.size w w' := by
  go_enter Try.func13, Try.ntmps13
  go_wp2_with fail
  refine (names_any _).mono ?_
  rintro e w1 ⟨rfl, hb1⟩
  obtain ⟨X, hX⟩ : ∃ X, X = w1.alloc (.cells #[.string ⟨#[110, 111, 110, 101]⟩, .string ⟨#[101, 120, 99, 101, 112, 116, 105, 111, 110]⟩, .string ⟨#[104, 97, 110, 103]⟩, .string ⟨#[116, 111, 117, 99, 104]⟩, .string ⟨#[112, 114, 111, 116, 111, 99, 111, 108]⟩, .string ⟨#[109, 105, 115, 109, 97, 116, 99, 104]⟩, .string ⟨#[105, 110, 115, 116, 97, 108, 108]⟩, .string ⟨#[115, 105, 108, 101, 110, 116]⟩] 65) := ⟨_, rfl⟩
  obtain ⟨g, hg⟩ : ∃ g, g = w1.heap.size := ⟨_, rfl⟩
  have HB := Lib.hid (show Below w.heap.size w X by rw [hX]; exact hb1.alloc hb1.size _)
  have HC : Hid (∀ k, k < 8 → X.cell? ⟨g, k, none⟩ = some (.string (nmA k))) := Lib.hid (fun k hk => by rw [hX, hg]; exact box_at (heap_alloc_new w1 _) (arr_at k hk))
  have hgX : g < X.heap.size := by rw [hX, hg]; simp
  clear hb1
  go_upto_region 2 with (fail)
  rw [← hX, ← hg]
  clear hX hg
  by_cases h1 : c < 0
  · have HI := Lib.hid (show nmI c = ⟨#[]⟩ by unfold nmI; rw [if_neg (by omega)])
    go_wp2
    go_ret
    exact ⟨by rw [HI.out]; rfl, HB.out⟩
  · by_cases h2 : 8 ≤ c
    · have HI := Lib.hid (show nmI c = ⟨#[]⟩ by unfold nmI; rw [if_neg (by omega)])
      go_wp2
      go_ret
      exact ⟨by rw [HI.out]; rfl, HB.out⟩
    · have HI := Lib.hid (show nmI c = nmA c.toNat by unfold nmI; rw [if_pos (by omega)])
      have h0 := HC.out c.toNat (by omega)
      have h3 : 0 ≤ c := by omega
      have h4 : c < 8 := by omega
      go_wp2
      go_ret
      exact ⟨by rw [HI.out]; rfl, HB.out⟩
set_option maxRecDepth 100000 in
set_option maxHeartbeats 4000000 in
theorem rname_any (c : Int) (w : World) : Calls Try.prog 14 #[.int .i64 c] w fun e w' => e = .returned (.string (nmI c)) ∧ Below w.heap.size w w' := by
  by_cases h1 : c < 0
  · have HI := Lib.hid (show nmI c = ⟨#[]⟩ by unfold nmI; rw [if_neg (by omega)])
    go_enter Try.func14, Try.ntmps14
    go_wp2
    go_ret
    exact ⟨by rw [HI.out]; rfl, Below.refl _ _⟩
  · go_enter Try.func14, Try.ntmps14
    go_wp2_with fail
    refine (rnames_any _).mono ?_
    rintro e w1 ⟨g, rfl, _, _, hb1⟩
    have HB1 := Lib.hid hb1
    clear hb1
    by_cases h2 : 8 ≤ c
    · have HI := Lib.hid (show nmI c = ⟨#[]⟩ by unfold nmI; rw [if_neg (by omega)])
      go_wp2
      go_ret
      exact ⟨by rw [HI.out]; rfl, HB1.out⟩
    · have HI := Lib.hid (show nmI c = nmA c.toNat by unfold nmI; rw [if_pos (by omega)])
      have h3 : 0 ≤ c := by omega
      have h4 : c < 8 := by omega
      go_wp2_with fail
      refine (rnames_any _).mono ?_
      rintro e w2 ⟨g2, rfl, hc, hg, hb2⟩
      have h0 := hc c.toNat (by omega)
      have HB2 := Lib.hid (HB1.out.trans (hb2.mono HB1.out.size))
      clear hc hb2
      go_wp2
      go_ret
      exact ⟨by rw [HI.out]; rfl, HB2.out⟩
set_option maxRecDepth 100000 in
set_option maxHeartbeats 4000000 in
theorem names_law (c : Int) (s : ByteArray) (w : World) : Calls Try.prog 5 #[.int .i64 c, .string s] w fun e w' => e = .returned (.bool true) ∧ Below w.heap.size w w' := by
  go_enter Try.func5, Try.ntmps5
  go_wp2_with fail
  refine (awake_any w).mono ?_
  rintro e w1 ⟨rfl, hb1⟩
  have HB1 := Lib.hid hb1
  clear hb1
  by_cases h100 : 100 < s.size
  · go_wp2
    go_ret
    exact ⟨rfl, HB1.out⟩
  go_wp2_with fail
  refine (cause_any s (by omega) _).mono ?_
  rintro e w2 ⟨c2, f2, rfl, hc2, hb2⟩
  have HB2 := Lib.hid (HB1.out.trans (hb2.mono HB1.out.size))
  clear hb2
  go_wp2_with fail
  refine (rcause_any s _).mono ?_
  rintro e w3 ⟨c3, f3, rfl, hc3, hb3⟩
  have HB3 := Lib.hid (HB2.out.trans (hb3.mono HB2.out.size))
  obtain ⟨rfl, rfl⟩ := isC_eq hc2 hc3
  clear hb3 hc2 hc3
  go_wp2_with fail
  refine (name_any c _).mono ?_
  rintro e w4 ⟨rfl, hb4⟩
  have HB4 := Lib.hid (HB3.out.trans (hb4.mono HB3.out.size))
  clear hb4
  go_wp2_with fail
  refine (rname_any c _).mono ?_
  rintro e w5 ⟨rfl, hb5⟩
  have HB5 := Lib.hid (HB4.out.trans (hb5.mono HB4.out.size))
  clear hb5
  generalize nmI c = z
  go_wp2
  go_ret
  exact ⟨rfl, HB5.out⟩
end Go.Proofs.Ytbpifaamlcjocaa
