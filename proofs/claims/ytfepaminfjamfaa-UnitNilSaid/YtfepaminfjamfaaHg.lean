/- unit: calls on nil -/
import Derived.Test.YtfepaminfjamfaaHf
namespace Go.Proofs.Ytfepaminfjamfaa
open Go.RowKit Go.Bs Go.Cl Go.Rw Go.Un Go.Im Go.Fa
variable (w : World)
set_option maxHeartbeats 1000000 in
theorem clone_nil : Calls Try.prog 24 #[.pointer none] w fun e w' => e = .returned (.pointer none) ∧ w = w' := by
  go_enter Try.func24, Try.ntmps24
  go_wp2
  go_ret
  exact ⟨rfl, rfl⟩
set_option maxHeartbeats 1000000 in
theorem restart_nil (m : Int) : Calls Try.prog 18 #[.pointer none, .int .i64 m] w fun e w' => e = .returned (.tuple #[.int .i64 0, .int .i64 7]) ∧ w = w' := by
  go_enter Try.func18, Try.ntmps18
  go_wp2
  go_ret2
  exact ⟨rfl, rfl⟩
set_option maxHeartbeats 1000000 in
theorem see_nil (ms md mk mq m0 m1 m2 m3 : Int) (mv : Value) : Calls Try.prog 22 #[.pointer none, .agg #[.int .i64 ms, .int .i64 md, .int .i64 mk, .int .i64 mq, .int .i64 m0, .int .i64 m1, .int .i64 m2, .int .i64 m3, mv]] w fun e w' => e = .returned (.tuple #[.int .i64 0, .int .i64 7]) ∧ Below w.heap.size w w' := by
  go_enter Try.func22, Try.ntmps22
  go_wp2
  go_ret2
  exact ⟨rfl, (Below.refl _ w).alloc (Nat.le_refl _) _⟩
set_option maxRecDepth 100000 in
set_option maxHeartbeats 1000000 in
theorem finish_nil (ms md mk mq m0 m1 m2 m3 : Int) (mv : Value) : Calls Try.prog 11 #[.pointer none, .agg #[.int .i64 0, .int .i64 0, .int .i64 0, .int .i64 0, .int .i64 0, .int .i64 0, .int .i64 0], .agg #[.int .i64 ms, .int .i64 md, .int .i64 mk, .int .i64 mq, .int .i64 m0, .int .i64 m1, .int .i64 m2, .int .i64 m3, mv], .agg #[.int .i64 0, .int .i64 0, .int .i64 0, .slice none 0 0, .slice none 0 0], .agg #[.int .i64 0, .int .i64 0, .int .i64 0, .slice none 0 0, .slice none 0 0], .bool true] w fun e w' => e = .returned (.tuple #[.agg #[.int .i64 0, .int .i64 0], .int .i64 7]) ∧ Below w.heap.size w w' := by
  obtain ⟨W1, hW1⟩ : ∃ W, W = w.alloc (.cells #[.int .i64 0, .int .i64 0, .int .i64 0, .int .i64 0, .int .i64 0, .int .i64 0, .int .i64 0] 46) := ⟨_, rfl⟩
  obtain ⟨W2, hW2⟩ : ∃ W, W = W1.alloc (.cells #[.int .i64 ms, .int .i64 md, .int .i64 mk, .int .i64 mq, .int .i64 m0, .int .i64 m1, .int .i64 m2, .int .i64 m3, mv] 27) := ⟨_, rfl⟩
  obtain ⟨W3, hW3⟩ : ∃ W, W = W2.alloc (.cells #[.int .i64 0, .int .i64 0, .int .i64 0, .slice none 0 0, .slice none 0 0] 43) := ⟨_, rfl⟩
  obtain ⟨W4, hW4⟩ : ∃ W, W = W3.alloc (.cells #[.int .i64 0, .int .i64 0, .int .i64 0, .slice none 0 0, .slice none 0 0] 43) := ⟨_, rfl⟩
  obtain ⟨W, hW⟩ : ∃ W, W = W4.alloc (.cells #[.int .i64 0, .int .i64 0] 49) := ⟨_, rfl⟩
  have HW1 := Lib.hid hW1; have HW2 := Lib.hid hW2; have HW3 := Lib.hid hW3; have HW4 := Lib.hid hW4; have HW := Lib.hid hW
  have z1 : W1.heap.size = w.heap.size + 1 := by rw [hW1]; simp
  have z2 : W2.heap.size = w.heap.size + 1 + 1 := by rw [hW2]; simp [z1]
  have z3 : W3.heap.size = w.heap.size + 1 + 1 + 1 := by rw [hW3]; simp [z2]
  have z4 : W4.heap.size = w.heap.size + 1 + 1 + 1 + 1 := by rw [hW4]; simp [z3]
  have b1 : Below w.heap.size w W := by
    rw [hW, hW4, hW3, hW2, hW1]
    exact (((((Below.refl _ w).alloc (Nat.le_refl _) _).alloc (by simp) _).alloc (by simp; omega) _).alloc (by simp; omega) _).alloc (by simp; omega) _
  have HRW : Hid (W.heap[w.heap.size + 1 + 1 + 1 + 1]? = some (.cells #[.int .i64 0, .int .i64 0] 49 (0, 0))) := Lib.hid (by rw [hW, ← z4]; exact heap_alloc_new W4 _)
  have HL := Lib.hid b1
  clear hW1 hW2 hW3 hW4 hW b1
  go_enter Try.func11, Try.ntmps11
  go_upto_region 1 with (fail)
  rw [← HW1.out, ← HW2.out, ← HW3.out, ← HW4.out, ← HW.out]
  obtain ⟨R, hR⟩ : ∃ R, R = w.heap.size + 1 + 1 + 1 + 1 := ⟨_, rfl⟩
  rw [← hR]
  rw [← hR] at HRW
  have hwR : w.heap.size ≤ R := by omega
  clear hR z1 z2 z3 z4
  have r0 := box_at HRW.out (j := 0) rfl
  have r1 := box_at HRW.out (j := 1) rfl
  have f0 := box_free HRW.out 0
  have f1 := box_free HRW.out 1
  go_wp2
  clear r0 r1 f0 f1
  obtain ⟨XR, hN⟩ : ∃ X, X = ((W.setCell ⟨R, 0, none⟩ (.int .i64 0)).setCell ⟨R, 1, none⟩ (.int .i64 0)) := ⟨_, rfl⟩
  rw [← hN]
  obtain ⟨hNb, hNk⟩ := puts_at [(0, .int .i64 0), (1, .int .i64 0)] HRW.out
  have hNe : puts W R [(0, .int .i64 0), (1, .int .i64 0)] = XR := hN.symm
  have hNz := puts_size [(0, .int .i64 0), (1, .int .i64 0)] W R
  rw [hNe] at hNb hNk hNz
  have HKr := Lib.hid hNk
  have HZr := Lib.hid hNz
  have hXR : XR.heap[R]? = some (.cells #[.int .i64 0, .int .i64 0] 49 (0, 0)) := hNb
  refine bodyPost_ret (results_ct rfl _ _ _ _ _ _ _ rfl hXR Try.underlying49 rfl (by kernel_rfl)) rfl ?_
  exact ⟨rfl, HL.out.trans (HKr.out.below HL.out.size (fun f hf => by rw [List.mem_singleton.1 hf]; omega))⟩
set_option maxRecDepth 100000 in
set_option maxHeartbeats 1000000 in
theorem uinst2_nil : Calls Try.prog 49 #[.pointer none, .func (.func 50) #[] #[]] w fun e w' => e = .returned (.agg #[.int .i64 0, .int .i64 0]) ∧ Below w.heap.size w w' := by
  obtain ⟨R, hR⟩ : ∃ R, R = w.heap.size := ⟨_, rfl⟩
  obtain ⟨W, hW⟩ : ∃ W, W = w.alloc (.cells #[.int .i64 0, .int .i64 0] 57) := ⟨_, rfl⟩
  have HW := Lib.hid hW
  have hb : Below w.heap.size w W := by rw [hW]; exact (Below.refl _ w).alloc (Nat.le_refl _) _
  have HBW := Lib.hid hb
  have HR : Hid (W.heap[R]? = some (.cells #[.int .i64 0, .int .i64 0] 57 (0, 0))) := Lib.hid (by rw [hW, hR]; exact heap_alloc_new w _)
  have hwR : w.heap.size ≤ R := by omega
  have hRW : R < W.heap.size := (Array.getElem?_eq_some_iff.1 HR.out).1
  clear hW hb
  go_enter Try.func49, Try.ntmps49
  go_upto_region 1 with (fail)
  rw [← HW.out, ← hR]
  clear hR HW
  go_upto_region 3 with (fail)
  obtain ⟨Z, hZ⟩ : ∃ Z, Z = W.heap.size := ⟨_, rfl⟩
  obtain ⟨Y, hY⟩ : ∃ Y, Y = W.alloc (.cells #[.int .i64 0, .int .i64 0] 57) := ⟨_, rfl⟩
  rw [← hY, ← hZ]
  have hb : Below W.heap.size W Y := by rw [hY]; exact (Below.refl _ W).alloc (Nat.le_refl _) _
  have HBY := Lib.hid (HBW.out.trans (hb.mono HBW.out.size))
  have HRY := Lib.hid ((hb.block R hRW).trans HR.out)
  have HZY : Hid (Y.heap[Z]? = some (.cells #[.int .i64 0, .int .i64 0] 57 (0, 0))) := Lib.hid (by rw [hY, hZ]; exact heap_alloc_new W _)
  clear hb hY hZ
  have z0 := box_at HZY.out (j := 0) rfl
  have z1 := box_at HZY.out (j := 1) rfl
  have r0 := box_at HRY.out (j := 0) rfl
  have r1 := box_at HRY.out (j := 1) rfl
  have q0 := box_free HRY.out 0
  have q1 := box_free HRY.out 1
  go_wp2
  clear r0 r1 q0 q1 z0 z1
  obtain ⟨XR, hN⟩ : ∃ X, X = ((Y.setCell ⟨R, 0, none⟩ (.int .i64 0)).setCell ⟨R, 1, none⟩ (.int .i64 0)) := ⟨_, rfl⟩
  rw [← hN]
  obtain ⟨hNb, hNk⟩ := puts_at [(0, .int .i64 0), (1, .int .i64 0)] HRY.out
  have hNe : puts Y R [(0, .int .i64 0), (1, .int .i64 0)] = XR := hN.symm
  have hNz := puts_size [(0, .int .i64 0), (1, .int .i64 0)] Y R
  rw [hNe] at hNb hNk hNz
  have HKr := Lib.hid hNk
  have HZr := Lib.hid hNz
  have hXR : XR.heap[R]? = some (.cells #[.int .i64 0, .int .i64 0] 57 (0, 0)) := hNb
  refine bodyPost_ret (results_c rfl _ _ _ _ _ _ _ rfl hXR Try.underlying57 rfl (by kernel_rfl)) rfl ?_
  exact ⟨rfl, HBY.out.trans (HKr.out.below HBY.out.size (fun f hf => by rw [List.mem_singleton.1 hf]; omega))⟩
set_option maxRecDepth 100000 in
set_option maxHeartbeats 1000000 in
theorem uinst_nil : Calls Try.prog 19 #[.pointer none] w fun e w' => e = .returned (.agg #[.int .i64 0, .int .i64 0]) ∧ Below w.heap.size w w' := by
  obtain ⟨R, hR⟩ : ∃ R, R = w.heap.size := ⟨_, rfl⟩
  obtain ⟨W, hW⟩ : ∃ W, W = w.alloc (.cells #[.int .i64 0, .int .i64 0] 57) := ⟨_, rfl⟩
  have HW := Lib.hid hW
  have hb : Below w.heap.size w W := by rw [hW]; exact (Below.refl _ w).alloc (Nat.le_refl _) _
  have HBW := Lib.hid hb
  have HR : Hid (W.heap[R]? = some (.cells #[.int .i64 0, .int .i64 0] 57 (0, 0))) := Lib.hid (by rw [hW, hR]; exact heap_alloc_new w _)
  have hwR : w.heap.size ≤ R := by omega
  have hRW : R < W.heap.size := (Array.getElem?_eq_some_iff.1 HR.out).1
  clear hW hb
  go_enter Try.func19, Try.ntmps19
  go_upto_region 1 with (fail)
  rw [← HW.out, ← hR]
  clear hR HW
  go_wp2_with fail
  refine (uinst2_nil _).mono ?_
  rintro e Y ⟨rfl, hb⟩
  have HBY := Lib.hid (HBW.out.trans (hb.mono HBW.out.size))
  have HRY := Lib.hid ((hb.block R hRW).trans HR.out)
  clear hb
  have r0 := box_at HRY.out (j := 0) rfl
  have r1 := box_at HRY.out (j := 1) rfl
  have q0 := box_free HRY.out 0
  have q1 := box_free HRY.out 1
  go_wp2
  clear r0 r1 q0 q1
  obtain ⟨XR, hN⟩ : ∃ X, X = ((Y.setCell ⟨R, 0, none⟩ (.int .i64 0)).setCell ⟨R, 1, none⟩ (.int .i64 0)) := ⟨_, rfl⟩
  rw [← hN]
  obtain ⟨hNb, hNk⟩ := puts_at [(0, .int .i64 0), (1, .int .i64 0)] HRY.out
  have hNe : puts Y R [(0, .int .i64 0), (1, .int .i64 0)] = XR := hN.symm
  have hNz := puts_size [(0, .int .i64 0), (1, .int .i64 0)] Y R
  rw [hNe] at hNb hNk hNz
  have HKr := Lib.hid hNk
  have HZr := Lib.hid hNz
  have hXR : XR.heap[R]? = some (.cells #[.int .i64 0, .int .i64 0] 57 (0, 0)) := hNb
  refine bodyPost_ret (results_c rfl _ _ _ _ _ _ _ rfl hXR Try.underlying57 rfl (by kernel_rfl)) rfl ?_
  exact ⟨rfl, HBY.out.trans (HKr.out.below HBY.out.size (fun f hf => by rw [List.mem_singleton.1 hf]; omega))⟩
end Go.Proofs.Ytfepaminfjamfaa
