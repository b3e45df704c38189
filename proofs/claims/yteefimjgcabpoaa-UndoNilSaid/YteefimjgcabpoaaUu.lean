/- Undo: the walk of UndoNil -/
import Derived.Test.YteefimjgcabpoaaUt
namespace Go.Proofs.Yteefimjgcabpoaa
open Go.RowKit Go.Bs Go.Cl Go.Rw Go.Un
set_option maxHeartbeats 1000000 in
theorem do_nil (op n : Int) (da : Option Addr) (dn dc : Nat) (w : World) :
    Calls Try.prog 18 #[.pointer none, .agg #[.int .i64 op, .int .i64 n, .slice da dn dc]] w fun e w' => e = .returned (.int .i64 7) ∧ Below w.heap.size w w' := by
  have hb := (Below.refl w.heap.size w).alloc (Nat.le_refl _) (.cells #[.int .i64 op, .int .i64 n, .slice da dn dc] 41)
  have Hb := Lib.hid hb; clear hb
  by_cases e0 : op = 0
  · subst e0
    go_enter Try.func18, Try.ntmps18
    go_wp2_with (go_at_call 16; refine (begin_nil _).mono ?_; rintro e w' ⟨rfl, rfl⟩)
    go_ret
    exact ⟨rfl, Hb.out⟩
  by_cases e1 : op = 1
  · subst e1
    go_enter Try.func18, Try.ntmps18
    go_wp2_with (go_at_call 31; refine (write_nil _ _ _).mono ?_; rintro e w' ⟨rfl, rfl⟩)
    go_ret
    exact ⟨rfl, Hb.out⟩
  by_cases e2 : op = 2
  · subst e2
    go_enter Try.func18, Try.ntmps18
    go_wp2_with (go_at_call 26; refine (resize_nil _ _).mono ?_; rintro e w' ⟨rfl, rfl⟩)
    go_ret
    exact ⟨rfl, Hb.out⟩
  by_cases e3 : op = 3
  · subst e3
    go_enter Try.func18, Try.ntmps18
    go_wp2_with (go_at_call 24; refine (back_nil _ _).mono ?_; rintro e w' ⟨rfl, rfl⟩)
    go_ret
    exact ⟨rfl, Hb.out⟩
  by_cases e4 : op = 4
  · subst e4
    go_enter Try.func18, Try.ntmps18
    go_wp2_with (go_at_call 36; refine (commit_nil _).mono ?_; rintro e w' ⟨rfl, rfl⟩)
    go_ret
    exact ⟨rfl, Hb.out⟩
  have e0' : (op == 0) = false := by simpa using e0
  have e1' : (op == 1) = false := by simpa using e1
  have e2' : (op == 2) = false := by simpa using e2
  have e3' : (op == 3) = false := by simpa using e3
  have e4' : (op == 4) = false := by simpa using e4
  go_enter Try.func18, Try.ntmps18
  go_wp2_with (go_at_call 25; refine (rollback_nil _).mono ?_; rintro e w' ⟨rfl, rfl⟩)
  go_ret
  exact ⟨rfl, Hb.out⟩

set_option maxRecDepth 100000 in
set_option maxHeartbeats 2000000 in
theorem nil_any (op n : Int) (da : Option Addr) (dn dc : Nat) (w : World) :
    Calls Try.prog 7 #[.agg #[.int .i64 op, .int .i64 n, .slice da dn dc]] w fun e w' => e = .returned (.bool true) ∧ Below w.heap.size w w' := by
  have hal := (Below.refl w.heap.size w).alloc (Nat.le_refl _) (.cells #[.int .i64 op, .int .i64 n, .slice da dn dc] 41)
  obtain ⟨N, hN⟩ : ∃ N : Nat, N = 24001 := ⟨_, rfl⟩
  obtain ⟨M, hM⟩ : ∃ M : Nat, M = 24000 := ⟨_, rfl⟩
  have HN := Lib.hid hN; clear hN
  have HM := Lib.hid hM; clear hM
  go_enter Try.func7, Try.ntmps7
  go_wp2_with fail
  refine (awake_any _).mono ?_
  rintro e w1 ⟨rfl, hb1⟩
  have hw1 : w.heap.size < w1.heap.size := by have := hb1.size; simp at this; omega
  have hbel1 : Below w.heap.size w w1 := hal.trans (hb1.mono (by simp))
  obtain ⟨hc1, _⟩ := bcellN (N := w.heap.size + 1) hb1 (by simp)
  have c0 : w1.cell? ⟨w.heap.size, 0, none⟩ = some (.int .i64 op) := by go_simp
  have c1 : w1.cell? ⟨w.heap.size, 1, none⟩ = some (.int .i64 n) := by go_simp
  have c2 : w1.cell? ⟨w.heap.size, 2, none⟩ = some (.slice da dn dc) := by go_simp
  clear hc1 hb1
  go_wp2_with fail
  refine (do_nil op n da dn dc _).mono ?_
  rintro e w2 ⟨rfl, hb2⟩
  have hbel2 := hbel1.trans (hb2.mono hbel1.size)
  clear hb2 c0 c1 c2
  go_wp2_with fail
  refine (image_nil _).mono ?_
  rintro e w' ⟨rfl, rfl⟩
  go_wp2_with fail
  refine (records_nil _).mono ?_
  rintro e w' ⟨rfl, rfl⟩
  go_wp2_with fail
  refine (open_nil _).mono ?_
  rintro e w' ⟨rfl, rfl⟩
  go_wp2_with (refine wpList_make el22 w.heap.size N rfl _ _ rfl rfl rfl ?e1 ?e2 ?c1 ?c2 ?c3 ?_)
  case e1 => have := HN.out; omega
  case e2 => have := HN.out; omega
  case c1 => have := HN.out; omega
  case c2 => have := HN.out; unfold maxLen; omega
  case c3 => exact hbel2.size
  intro w3 hown3 hgrow3 hsz3
  have hbel3 := hbel2.grown hgrow3 hbel2.size (fun k h => by cases h)
  clear hown3 hgrow3
  go_wp2_with fail
  refine (new_big _ N _ (by have := HN.out; omega) ⟨_, _, rfl⟩).mono ?_
  rintro e w' ⟨rfl, rfl⟩
  go_wp2_with (refine wpList_make el22 w.heap.size M rfl _ _ rfl rfl rfl ?e1 ?e2 ?c1 ?c2 ?c3 ?_)
  case e1 => have := HM.out; omega
  case e2 => have := HM.out; omega
  case c1 => have := HM.out; omega
  case c2 => have := HM.out; unfold maxLen; omega
  case c3 => exact hbel3.size
  intro w4 hown4 hgrow4 hsz4
  rw [zeros_bytes] at hown4
  have hbel4 := hbel3.grown hgrow4 hbel3.size (fun k h => by cases h)
  obtain ⟨z, hz⟩ : ∃ z : List UInt8, z = List.replicate M 0 := ⟨_, rfl⟩
  have hzl : z.length = 24000 := by rw [hz, List.length_replicate]; exact HM.out
  have hzM : M = z.length := by rw [hzl]; exact HM.out
  rw [← hz] at hown4
  clear hz
  have hB4 : Bytes [] w4 (.slice (some ⟨w3.heap.size, 0, none⟩) M M) z := Bytes.row hown4 hzM (fun f hf => by cases hf)
  have HB4 := Lib.hid hB4; clear hB4
  clear hown4 hgrow4
  have Hzl := Lib.hid hzl; clear hzl hzM
  go_wp2_with fail
  refine (new_any _ z _ (by rw [Hzl.out]; omega) HB4.out).mono ?_
  rintro e w5 ⟨g, iv, rfl, hL, hb5⟩
  have hbel5 := hbel4.trans (hb5.mono hbel4.size)
  have HL := Lib.hid hL; clear hL
  have hs5 := hb5.size
  clear hb5
  go_wp2_with fail
  refine (image_any _ HL.out (by rw [Hzl.out]; omega)).mono ?_
  rintro e w6 ⟨v6, rfl, hown6, hb6⟩
  obtain ⟨a6, c6, rfl⟩ := own_slice hown6
  have HL6 := Lib.hid (HL.out.below hb6)
  have hbel6 := hbel5.trans (hb6.mono hbel5.size)
  have hg6 : w.heap.size ≤ g := Nat.le_trans hbel4.size HL.out.hg
  have hzi : (z.length : Int) = 24000 := by rw [Hzl.out]; rfl
  clear hown6 hb6
  go_wp2_with fail
  refine (begin_any _ HL6.out).mono ?_
  rintro e w7 ⟨rfl, hL7, hk7⟩
  have HL7 := Lib.hid hL7; clear hL7
  have hbel7 := hbel6.trans (hk7.below (B := w.heap.size) hbel6.size (fun f hf => by rw [List.mem_singleton.1 hf]; exact hg6))
  clear hk7
  simp only [Bool.false_eq_true, if_false]
  go_wp2_with fail
  refine (resize_no 24001 _ HL7.out (by simp [resizeE])).mono ?_
  rintro e w8 ⟨rfl, rfl⟩
  rw [show resizeE 24001 true = 6 from rfl]
  go_wp2
  go_ret
  exact ⟨rfl, hbel7⟩
end Go.Proofs.Yteefimjgcabpoaa
