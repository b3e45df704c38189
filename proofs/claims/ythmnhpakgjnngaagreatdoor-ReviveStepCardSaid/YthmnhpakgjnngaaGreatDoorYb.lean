/- Revive: the reference's Permitted -/
import Derived.Test.YthmnhpakgjnngaaGreatDoorYa
import Derived.Deep.CutRange
import Derived.WalkMore
namespace Go.Proofs.YthmnhpakgjnngaaGreatDoor
open Go.RowKit Go.Bs Go.Cl Go.Rw Go.Dt Go.Rv
set_option maxRecDepth 100000 in
set_option maxHeartbeats 4000000 in
theorem rargs_any (s : ByteArray) (m : Ms) (w : World) (hs : s.size ≤ 100) : Calls Tryz.prog 75 #[.string s, .agg #[.int .i64 m.a0, .int .i64 m.a1, .int .i64 m.a2, .int .i64 m.a3]] w fun e w' => e = .returned (.bool (rargsP s m)) ∧ Below w.heap.size w w' := by
  obtain ⟨W, hW⟩ : ∃ W, W = w.alloc (.cells #[.int .i64 m.a0, .int .i64 m.a1, .int .i64 m.a2, .int .i64 m.a3] 29) := ⟨_, rfl⟩
  have hb : Below w.heap.size w W := by rw [hW]; exact (Below.refl w.heap.size w).alloc (Nat.le_refl _) _
  have hx : W.heap[w.heap.size]? = some (.cells #[.int .i64 m.a0, .int .i64 m.a1, .int .i64 m.a2, .int .i64 m.a3] 29 (0, 0)) := by rw [hW]; exact heap_alloc_new w _
  obtain ⟨X, hX⟩ : ∃ X, X = w.heap.size := ⟨_, rfl⟩
  rw [← hX] at hx
  have hcell : ∀ k, k < 4 → W.cell? ⟨X, k, none⟩ = some (.int .i64 (xAt m k)) := fun k hk => by
    have hc : k = 0 ∨ k = 1 ∨ k = 2 ∨ k = 3 := by omega
    rcases hc with rfl | rfl | rfl | rfl
    · exact box_at hx (j := 0) rfl
    · exact box_at hx (j := 1) rfl
    · exact box_at hx (j := 2) rfl
    · exact box_at hx (j := 3) rfl
  have HC4 := Lib.hid hcell; have HB := Lib.hid hb; have HW := Lib.hid hW; have HX := Lib.hid hX
  clear hcell hb hW hx hX
  go_enter Tryz.func75, Tryz.ntmps75
  go_upto_region 1 with (fail)
  rw [← HW.out, ← HX.out]
  clear HW
  go_wp2
  go_loopw [5] (fun i wr => ∃ k : Nat, k ≤ 4 ∧ i = .int .i64 k ∧ W = wr ∧ ∀ j, j < k → rclsP (clsAt s j) (xAt m j) = true) (fun i _ => 4 - (intOf i).toNat)
  case atStart => exact ⟨0, Nat.zero_le _, rfl, rfl, fun j hj => absurd hj (Nat.not_lt_zero _)⟩
  case round =>
    obtain ⟨k, hk, rfl, hw, hok⟩ := hrel
    subst hw
    have HOK := Lib.hid hok; clear hok
    by_cases hlt : k < 4
    · have hk4 : (k : Int) < 4 := by omega
      have hcell := HC4.out k hlt
      obtain ⟨R, hc⟩ : ∃ R, rclsP (clsAt s k) (xAt m k) = R := ⟨_, rfl⟩
      obtain ⟨xk, hxk⟩ : ∃ x, xAt m k = x := ⟨_, rfl⟩
      rw [hxk] at hcell hc
      have HC := Lib.hid hc; have HXK := Lib.hid hxk
      clear hc hxk
      cases R
      · have HR := Lib.hid (rargsP_false (s := s) (m := m) hlt (by rw [HXK.out]; exact HC.out))
        by_cases hks : k < s.size
        · have hks' : (k : Int) < (s.size : Int) := by omega
          have hcl : Hid (clsAt s k = (s[k].toNat : Int)) := Lib.hid (by unfold clsAt; rw [dif_pos hks])
          have hnx : ∀ W : World, (Instr.index 9 (.string s) (.int .i64 (k : Int))).run Tryz.prog W = .ok (.int .u8 (s[k].toNat : Int)) W := fun W => by
            rw [run_index_string (h := Tryz.underlying9), dif_pos (by omega)]; rfl
          go_wp2_with fail
          refine (rclass_eq _ _ false _ (by rw [← hcl.out]; exact HC.out)).mono ?_
          rintro e w1 ⟨rfl, rfl⟩
          go_wp2
          go_ret
          exact ⟨ret_bool HR.out.symm, HB.out⟩
        · have hks' : ¬ (k : Int) < (s.size : Int) := by omega
          have hcl : Hid (clsAt s k = 48) := Lib.hid (by unfold clsAt; rw [dif_neg hks])
          go_wp2_with fail
          refine (rclass_eq _ _ false _ (by rw [← hcl.out]; exact HC.out)).mono ?_
          rintro e w1 ⟨rfl, rfl⟩
          go_wp2
          go_ret
          exact ⟨ret_bool HR.out.symm, HB.out⟩
      · have hnext : Hid (∀ j, j < k + 1 → rclsP (clsAt s j) (xAt m j) = true) := Lib.hid (fun j hj => by
          by_cases hjk : j < k
          · exact HOK.out j hjk
          · obtain rfl : j = k := by omega
            rw [HXK.out]; exact HC.out)
        by_cases hks : k < s.size
        · have hks' : (k : Int) < (s.size : Int) := by omega
          have hcl : Hid (clsAt s k = (s[k].toNat : Int)) := Lib.hid (by unfold clsAt; rw [dif_pos hks])
          have hnx : ∀ W : World, (Instr.index 9 (.string s) (.int .i64 (k : Int))).run Tryz.prog W = .ok (.int .u8 (s[k].toNat : Int)) W := fun W => by
            rw [run_index_string (h := Tryz.underlying9), dif_pos (by omega)]; rfl
          go_wp2_with fail
          refine (rclass_eq _ _ true _ (by rw [← hcl.out]; exact HC.out)).mono ?_
          rintro e w1 ⟨rfl, rfl⟩
          go_wp2
          go_roundw
          case rel => exact ⟨k + 1, by omega, by go_num, by first | trivial | rfl, hnext.out⟩
          case measure => simp [intOf]; omega
        · have hks' : ¬ (k : Int) < (s.size : Int) := by omega
          have hcl : Hid (clsAt s k = 48) := Lib.hid (by unfold clsAt; rw [dif_neg hks])
          go_wp2_with fail
          refine (rclass_eq _ _ true _ (by rw [← hcl.out]; exact HC.out)).mono ?_
          rintro e w1 ⟨rfl, rfl⟩
          go_wp2
          go_roundw
          case rel => exact ⟨k + 1, by omega, by go_num, by first | trivial | rfl, hnext.out⟩
          case measure => simp [intOf]; omega
    · obtain rfl : k = 4 := by omega
      have HR := Lib.hid (rargsP_true (s := s) (m := m) HOK.out)
      go_wp2
      go_ret
      exact ⟨ret_bool HR.out.symm, HB.out⟩
set_option maxRecDepth 100000 in
set_option maxHeartbeats 8000000 in
theorem rform_any (k : Int) (w : World) : Calls Tryz.prog 73 #[.int .i64 k] w fun e w' => (∃ s n, e = .returned (.tuple #[.string s, .int .i64 n]) ∧ s.size ≤ 100 ∧ (mine k → s = rformP k ∧ n = 0)) ∧ w = w' := by
  by_cases h : mine k
  · rcases h with h | h | h <;> subst h
    all_goals
      go_enter Tryz.func73, Tryz.ntmps73
      go_wp2
      go_ret2
      exact ⟨⟨_, _, rfl, by decide, fun _ => ⟨rfl, rfl⟩⟩, rfl⟩
  · have H := Lib.hid h; clear h
    go_enter Tryz.func73, Tryz.ntmps73
    go_wp2
    all_goals
      go_ret2
      exact ⟨⟨_, _, rfl, by decide, fun h => absurd h H.out⟩, rfl⟩
set_option maxRecDepth 100000 in
set_option maxHeartbeats 16000000 in
theorem rends_any (m : Ms) (a : Option Addr) (n c : Nat) (w : World) : Calls Tryz.prog 74 #[.agg (msgC m (.slice a n c))] w fun e w' => EndB (fun b => mine m.kind → b = rendsP m) e ∧ Below w.heap.size w w' := by
  obtain ⟨ms, md, mk, mq, m0, m1, m2, m3⟩ := m
  unfold msgC
  dsimp only
  obtain ⟨W, hW⟩ : ∃ W, W = w.alloc (.cells #[.int .i64 ms, .int .i64 md, .int .i64 mk, .int .i64 mq, .int .i64 m0, .int .i64 m1, .int .i64 m2, .int .i64 m3, .slice a n c] 31) := ⟨_, rfl⟩
  have hb : Below w.heap.size w W := by rw [hW]; exact (Below.refl w.heap.size w).alloc (Nat.le_refl _) _
  have hx : W.heap[w.heap.size]? = some (.cells #[.int .i64 ms, .int .i64 md, .int .i64 mk, .int .i64 mq, .int .i64 m0, .int .i64 m1, .int .i64 m2, .int .i64 m3, .slice a n c] 31 (0, 0)) := by rw [hW]; exact heap_alloc_new w _
  have c0 := box_at hx (j := 0) rfl
  have c1 := box_at hx (j := 1) rfl
  have c2 := box_at hx (j := 2) rfl
  have c4 := box_at hx (j := 4) rfl
  have c5 := box_at hx (j := 5) rfl
  have HB := Lib.hid hb
  have HX := Lib.hid hx
  have HW := Lib.hid hW
  clear hb hx hW
  by_cases h : mine mk
  · rcases h with h | h | h <;> subst h
    all_goals
      go_enter Tryz.func74, Tryz.ntmps74
      go_upto_region 1 with (fail)
      rw [← HW.out]
      clear HW
      go_wp2_with (go_at_call 98; refine (rcomp_any _ _).mono ?_; rintro e w1 ⟨rfl, rfl⟩)
    all_goals
      go_ret
      refine ⟨⟨_, rfl, fun _ => ?_⟩, HB.out⟩
      simp [rendsP, *]
  · have H := Lib.hid h; clear h
    have h4 : mk ≠ 4 := fun e => H.out (.inl e)
    have h5 : mk ≠ 5 := fun e => H.out (.inr (.inl e))
    have h7 : mk ≠ 7 := fun e => H.out (.inr (.inr e))
    go_enter Tryz.func74, Tryz.ntmps74
    go_upto_region 1 with (fail)
    rw [← HW.out]
    clear HW
    go_wp2_with (first
      | (go_at_call 98; refine (rcomp_any _ _).mono ?_; rintro e w1 ⟨rfl, rfl⟩)
      | (go_at_call 77; refine (ruser_any _ _).mono ?_; rintro e w1 ⟨rfl, rfl⟩)
      | (go_at_call 96; refine (rserver_any _ _).mono ?_; rintro e w1 ⟨⟨x, b, rfl⟩, rfl⟩)
      | (go_at_call 97; refine (rdriver_any _ _).mono ?_; rintro e w1 ⟨⟨x, b, rfl⟩, rfl⟩))
    all_goals
      go_ret
      exact ⟨⟨_, rfl, fun h => absurd h H.out⟩, HB.out⟩
set_option maxRecDepth 100000 in
set_option maxHeartbeats 4000000 in
theorem rblock_any (m : Ms) (a : Option Addr) (n c : Nat) (w : World) : Calls Tryz.prog 76 #[.agg (msgC m (.slice a n c))] w fun e w' => EndB (fun _ => True) e ∧ Below w.heap.size w w' := by
  obtain ⟨ms, md, mk, mq, m0, m1, m2, m3⟩ := m
  unfold msgC
  dsimp only
  obtain ⟨W, hW⟩ : ∃ W, W = w.alloc (.cells #[.int .i64 ms, .int .i64 md, .int .i64 mk, .int .i64 mq, .int .i64 m0, .int .i64 m1, .int .i64 m2, .int .i64 m3, .slice a n c] 31) := ⟨_, rfl⟩
  have hb : Below w.heap.size w W := by rw [hW]; exact (Below.refl w.heap.size w).alloc (Nat.le_refl _) _
  have hx : W.heap[w.heap.size]? = some (.cells #[.int .i64 ms, .int .i64 md, .int .i64 mk, .int .i64 mq, .int .i64 m0, .int .i64 m1, .int .i64 m2, .int .i64 m3, .slice a n c] 31 (0, 0)) := by rw [hW]; exact heap_alloc_new w _
  have c0 := box_at hx (j := 0) rfl
  have c4 := box_at hx (j := 4) rfl
  have c5 := box_at hx (j := 5) rfl
  have c6 := box_at hx (j := 6) rfl
  have c8 := box_at hx (j := 8) rfl
  have HB := Lib.hid hb
  have HX := Lib.hid hx
  have HW := Lib.hid hW
  clear hb hx hW
  go_enter Tryz.func76, Tryz.ntmps76
  go_upto_region 1 with (fail)
  rw [← HW.out]
  clear HW
  go_wp2
  all_goals
    go_ret
    exact ⟨⟨_, rfl, trivial⟩, HB.out⟩
end Go.Proofs.YthmnhpakgjnngaaGreatDoor
