/- time: Valid, the reference's Valid -/
import Derived.Test.YtdelemmoiaiooaaTa
import Derived.Deep.CutRange
import Derived.WalkMore
namespace Go.Proofs.Ytdelemmoiaiooaa
open Go.RowKit Go.Bs Go.Cl Go.Rw Go.Ti
theorem user_eq (t : Int) (r : Bool) (w : World) (h : usr t = r) : Calls Try.prog 34 #[.int .i64 t] w fun e w' => e = .returned (.bool r) ∧ w = w' := h ▸ user_any t w
theorem ruser_eq (t : Int) (r : Bool) (w : World) (h : usr t = r) : Calls Try.prog 35 #[.int .i64 t] w fun e w' => e = .returned (.bool r) ∧ w = w' := h ▸ ruser_any t w
set_option maxRecDepth 100000 in
set_option maxHeartbeats 4000000 in
theorem valid_any (v : Value) (l : List Int) (w : World) (hl : l.length ≤ 1000000) (h : SlT w v l) :
    Calls Try.prog 17 #[.agg #[v]] w fun e w' => e = .returned (.bool (validT l)) ∧ Below w.heap.size w w' := by
  obtain ⟨a, cap, rfl⟩ := Raw.slice h
  obtain ⟨M, hM⟩ : ∃ M, M = w.heap.size := ⟨_, rfl⟩
  obtain ⟨w1, hw1⟩ : ∃ W, W = w.alloc (.cells #[.slice a l.length cap] 37) := ⟨_, rfl⟩
  have HW := Lib.hid hw1
  have hb1 : Below w.heap.size w w1 := by rw [hw1]; exact (Below.refl _ w).alloc (Nat.le_refl _) _
  have HM1 : Hid (w1.heap[M]? = some (.cells #[.slice a l.length cap] 37 (0, 0))) := Lib.hid (by rw [hw1, hM]; exact heap_alloc_new w _)
  have H := Lib.hid (h.below hb1)
  clear hw1 h
  have m0 : w1.cell? ⟨M, 0, none⟩ = some (.slice a l.length cap) := box_at HM1.out rfl
  go_enter Try.func17, Try.ntmps17
  go_upto_region 1 with (fail)
  rw [← HW.out, ← hM]
  clear HW hM
  go_wp2
  go_loopw [8] (fun i wr => wr = w1 ∧ ∃ k : Nat, k ≤ l.length ∧ i = .int .i64 k ∧ ∀ j, j < k → okT l j = true) (fun i _ => l.length - (intOf i).toNat)
  case atStart => exact ⟨rfl, 0, Nat.zero_le _, rfl, fun j hj => by omega⟩
  case round =>
    obtain ⟨rfl, k, hk, rfl, hno⟩ := hrel
    have HNO := Lib.hid hno
    clear hno
    by_cases hlt : k < l.length
    · obtain ⟨b, off, rfl, hb, h0⟩ := H.out.elem hlt
      have hok : okT l k = (usr (at_ l k) && (decide (k = 0) || decide (at_ l (k - 1) < at_ l k))) := rfl
      have HOK := Lib.hid hok
      clear hok
      obtain ⟨z, hz⟩ : ∃ z, at_ l k = z := ⟨_, rfl⟩
      rw [hz] at h0 HOK
      cases hu : usr z
      · have HU := Lib.hid hu
        have HV := Lib.hid (validT_false hlt (by rw [HOK.out, hu]; rfl))
        clear hu hz
        go_wp2_with fail
        refine (user_eq z false _ HU.out).mono ?_
        rintro e w' ⟨rfl, rfl⟩
        go_wp2
        go_ret
        rw [HV.out]
        exact ⟨rfl, hb1⟩
      have HU := Lib.hid hu
      by_cases hk0 : k = 0
      · have HN2 : Hid (∀ j, j < k + 1 → okT l j = true) := Lib.hid (fun j hj => by
          by_cases e : j = k
          · rw [e, HOK.out, hu]; simp [hk0]
          · exact HNO.out j (by omega))
        subst hk0
        rw [Nat.add_zero] at h0
        clear hu hz
        go_wp2_with fail
        refine (user_eq z true _ HU.out).mono ?_
        rintro e w' ⟨rfl, rfl⟩
        go_wp2
        go_roundw
        case rel => exact ⟨trivial, 1, by omega, by go_num, HN2.out⟩
        case measure => simp [intOf]; omega
      · obtain ⟨n, rfl⟩ : ∃ n, k = n + 1 := ⟨k - 1, by omega⟩
        obtain ⟨b', off', e', hb', h1⟩ := H.out.elem (show n < l.length by omega)
        cases e'
        rw [Nat.add_sub_cancel] at HOK
        obtain ⟨y, hy⟩ : ∃ y, at_ l n = y := ⟨_, rfl⟩
        rw [hy] at h1 HOK
        have hkn : (0 : Int) < (n : Int) + 1 := by omega
        have hnl : (n : Int) < (l.length : Int) := by omega
        by_cases hs : y < z
        · have HN2 : Hid (∀ j, j < n + 1 + 1 → okT l j = true) := Lib.hid (fun j hj => by
            by_cases e : j = n + 1
            · rw [e, HOK.out, hu]; simp [hs]
            · exact HNO.out j (by omega))
          have hs' : ¬ z ≤ y := by omega
          clear hu hz hy
          go_wp2_with fail
          refine (user_eq z true _ HU.out).mono ?_
          rintro e w' ⟨rfl, rfl⟩
          go_wp2
          go_roundw
          case rel => exact ⟨trivial, n + 1 + 1, by omega, by go_num, HN2.out⟩
          case measure => simp [intOf]; omega
        · have HV := Lib.hid (validT_false hlt (by rw [HOK.out, hu]; simp [hs]))
          have hs' : z ≤ y := by omega
          clear hu hz hy hs
          go_wp2_with fail
          refine (user_eq z true _ HU.out).mono ?_
          rintro e w' ⟨rfl, rfl⟩
          go_wp2
          go_ret
          rw [HV.out]
          exact ⟨rfl, hb1⟩
    · have HV := Lib.hid (validT_true (l := l) (fun j hj => HNO.out j (by omega)))
      obtain rfl : k = l.length := by omega
      go_wp2
      go_ret
      rw [HV.out]
      exact ⟨rfl, hb1⟩
end Go.Proofs.Ytdelemmoiaiooaa
