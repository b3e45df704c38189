/- The wire's encoders: the reference's integers; byte strings -/
import Derived.Test.YteefimjgcabpoaaWb
namespace Go.Proofs.Yteefimjgcabpoaa
open Go.RowKit Go.Bs Go.Cl Go.Rw Go.Wi
set_option maxRecDepth 100000 in
set_option maxHeartbeats 1000000 in
theorem rgroups_any (u : Nat) : ∀ (w : World) (x : Int), x = u → u < 18446744073709551616 → Calls Try.prog 67 #[.int .u64 x] w fun e w' => ∃ v, e = .returned v ∧ BRow 5 w' w.heap.size v (groups u) ∧ Below w.heap.size w w' := by
  induction u using Nat.strongRecOn with
  | _ u ih =>
    rintro w _ rfl hu
    by_cases h8 : u < 128
    · have h8' : (u : Int) < 128 := by omega
      have hg := Lib.hid (groups_lt h8)
      obtain ⟨cb, hcb⟩ : ∃ cb : UInt8, UInt8.ofNat u = cb := ⟨_, rfl⟩
      have hcn : cb.toNat = u := by rw [← hcb]; exact u8_of (by omega)
      rw [hcb] at hg
      have HR := Lib.hid (one_row (w := w) (e := 5) (u := .int .u8 (u : Int)) cb (by unfold byteV; rw [hcn]))
      clear hcn hcb ih hu
      go_enter Try.func67, Try.ntmps67
      go_wp2
      go_ret
      exact ⟨_, rfl, by rw [hg.out]; exact HR.out, (Below.refl _ w).alloc (Nat.le_refl _) _⟩
    · have h8' : 128 ≤ (u : Int) := by omega
      have hg := Lib.hid (groups_ge (show 128 ≤ u by omega))
      have Ih := Lib.hid (ih (u / 128) (by omega))
      have hlen := groups_len10 (u := u / 128) (by omega)
      have hu2 : u / 128 < 18446744073709551616 := by omega
      have Hu2 := Lib.hid hu2
      obtain ⟨cb, hcb⟩ : ∃ cb : UInt8, UInt8.ofNat (128 + u % 128) = cb := ⟨_, rfl⟩
      have hcn : cb.toNat = 128 + u % 128 := by rw [← hcb]; exact u8_of (by omega)
      rw [hcb] at hg
      have HR := Lib.hid (one_row (w := w) (e := 5) (u := .int .u8 (128 + (u : Int) % 128)) cb (by unfold byteV; rw [hcn]; congr 1))
      have huI : (u : Int) ≤ 18446744073709551615 := by omega
      clear hcn hcb ih hu2 hu
      go_enter Try.func67, Try.ntmps67
      go_wp2_with fail
      refine (Ih.out _ _ (by go_num) Hu2.out).mono ?_
      rintro e w1 ⟨v1, rfl, hr1, hb1⟩
      obtain ⟨a1, c1, rfl⟩ := own_slice hr1
      have HR1 := Lib.hid (BRow.below HR.out hb1)
      have HX := Lib.hid (BRow.bytes (F := []) hr1 (fun f hf => by cases hf))
      have hs1 : w.heap.size < w1.heap.size := by have := hb1.size; simp at this; omega
      have hbel1 : Below w.heap.size w w1 := ((Below.refl _ w).alloc (Nat.le_refl _) _).trans (hb1.mono (by simp))
      clear hr1 hb1
      go_wp2_with (at_builtin; refine wpList_app elB Try.underlying22 HR1.out HX.out hbel1 rfl _ _ rfl rfl rfl ?c3 ?cB ?c5 ?_)
      case c3 => simp; omega
      case cB => omega
      case c5 => omega
      intro v2 w2 hown2 hbel2 _ _
      have hrow : BRow 5 w2 w.heap.size v2 (groups u) := by
        show w2.ownsRow w.heap.size 5 1 v2 (groups u).length (bytesV (groups u))
        rw [hg.out]
        rw [← bytesV_append] at hown2
        simpa [Nat.add_comm] using hown2
      have Hrow := Lib.hid hrow
      clear hown2 hrow
      go_wp2
      go_ret
      exact ⟨_, rfl, Hrow.out, hbel2⟩
set_option maxHeartbeats 1000000 in
theorem rint_any (n : Int) (w : World) (hn : Wi.fits n) : Calls Try.prog 54 #[.int .i64 n] w fun e w' => ∃ v, e = .returned v ∧ BRow 5 w' w.heap.size v (encI n) ∧ Below w.heap.size w w' := by
  have hz : zig n < 18446744073709551616 := zig_lt hn
  have hr := fun w x h => rgroups_any (zig n) w x h hz
  have hzz : (n < 0 ∧ (zig n : Int) = -2 * n - 1) ∨ (0 ≤ n ∧ (zig n : Int) = 2 * n) := by
    unfold zig
    by_cases h : n < 0
    · rw [if_pos h]; exact .inl ⟨h, by omega⟩
    · rw [if_neg h]; exact .inr ⟨by omega, by omega⟩
  have He : Hid (encI n = groups (zig n)) := Lib.hid rfl
  obtain ⟨z, hze⟩ : ∃ z, zig n = z := ⟨_, rfl⟩
  rw [hze] at hr hzz He
  rw [He.out]
  have Hr := Lib.hid hr
  clear hr hz hze He
  obtain ⟨hn1, hn2⟩ := hn
  rcases hzz with ⟨h0, hzz⟩ | ⟨h0, hzz⟩
  · have Hz := Lib.hid hzz; clear hzz
    go_enter Try.func54, Try.ntmps54
    go_wp2_with fail
    refine (Hr.out _ _ (by have := Hz.out; omega)).mono ?_
    rintro e w1 ⟨v1, rfl, h1, h2⟩
    have H1 := Lib.hid h1; clear h1
    go_wp2
    go_ret
    exact ⟨_, rfl, H1.out, h2⟩
  · have Hz := Lib.hid hzz; clear hzz
    have h0' : ¬ n < 0 := by omega
    go_enter Try.func54, Try.ntmps54
    go_wp2_with fail
    refine (Hr.out _ _ (by have := Hz.out; omega)).mono ?_
    rintro e w1 ⟨v1, rfl, h1, h2⟩
    have H1 := Lib.hid h1; clear h1
    go_wp2
    go_ret
    exact ⟨_, rfl, H1.out, h2⟩
end Go.Proofs.Yteefimjgcabpoaa
