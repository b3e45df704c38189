/- Store: images that are too long; the law Nil -/
import Derived.Test.YtnbngidelpodkaaPg
namespace Go.Proofs.Ytnbngidelpodkaa
open Go.RowKit Go.Bs Go.Cl Go.Rw Go.Un Go.Im
set_option maxHeartbeats 1000000 in
theorem diff_big (aa : Option Addr) (an ac : Nat) (bv : Value) (n : Nat) (w : World) (hb : 24000 < n) (hB : ∃ a c, bv = .slice a n c) :
    Calls Try.prog 33 #[.slice aa an ac, bv] w fun e w' => e = .returned (.tuple #[.agg #[.int .i64 0, .slice none 0 0], .int .i64 6]) ∧ Below w.heap.size w w' := by
  obtain ⟨ba, bc, rfl⟩ := hB
  have hb' : 24000 < (n : Int) := by omega
  go_enter Try.func33, Try.ntmps33
  go_wp2
  have hh : ((w.alloc (.cells #[.slice aa an ac] 22)).alloc (.cells #[.int .i64 0, .slice none 0 0] 68)).heap[w.heap.size + 1]? = some (.cells #[.int .i64 0, .slice none 0 0] 68 (0, 0)) := by
    have := heap_alloc_new (w.alloc (.cells #[.slice aa an ac] 22)) (.cells #[.int .i64 0, .slice none 0 0] 68)
    simpa using this
  refine bodyPost_ret (results_ct rfl _ _ _ _ _ _ _ rfl hh Try.underlying68 rfl (by kernel_rfl)) rfl ?_
  exact ⟨rfl, ((Below.refl _ w).alloc (Nat.le_refl _) _).alloc (by simp) _⟩
set_option maxHeartbeats 1000000 in
theorem stbegin_big {base g h : Nat} {iv rv : Value} {s : Ps} (bv : Value) (n : Nat) (w : World) (H : StAt w base g h iv rv s) (hs : s.inst = false) (hb : 24000 < n) (hB : ∃ a c, bv = .slice a n c) :
    Calls Try.prog 11 #[.pointer (some ⟨g, 0, none⟩), bv] w fun e w' => e = .returned (.tuple #[.int .i64 0, .int .i64 6]) ∧ Below w.heap.size w w' := by
  have HI := Lib.hid (inst_any w H)
  rw [hs] at HI
  obtain ⟨imv, nxv, chv, rz, rs, H⟩ := H
  obtain ⟨ia, ic, rfl⟩ := Raw.slice H.hi
  have c1 := box_at H.hc (j := 1) rfl
  have HD := Lib.hid (diff_big ia s.image.length ic bv n w hb hB)
  obtain ⟨ba, bc, rfl⟩ := hB
  clear H hs
  go_enter Try.func11, Try.ntmps11
  go_wp2_with fail
  refine HI.out.mono ?_
  rintro e w' ⟨rfl, rfl⟩
  go_wp2_with fail
  refine HD.out.mono ?_
  rintro e w1 ⟨rfl, hb1⟩
  go_wp2
  go_ret2
  exact ⟨rfl, hb1.alloc hb1.size _⟩
theorem liv_big {w0 w : World} {g : Nat} {s : Ps} (bv : Value) (n : Nat) (H : Liv w0 g s w) (hs : s.inst = false) (hb : 24000 < n) (hB : ∃ a c, bv = .slice a n c) :
    Calls Try.prog 11 #[.pointer (some ⟨g, 0, none⟩), bv] w fun e w' => e = .returned (.tuple #[.int .i64 0, .int .i64 6]) ∧ Liv w0 g s w' := by
  have H' := H
  obtain ⟨h1, base, h, iv, rv, h2, h3⟩ := H
  refine (stbegin_big bv n w h3 hs hb hB).mono ?_
  rintro e w' ⟨rfl, hb⟩
  exact ⟨rfl, H'.below hb⟩
set_option maxHeartbeats 1000000 in
theorem clone_nil (w : World) : Calls Try.prog 25 #[.pointer none] w fun e w' => e = .returned (.pointer none) ∧ w = w' := by
  go_enter Try.func25, Try.ntmps25
  go_wp2
  go_ret
  exact ⟨rfl, rfl⟩
set_option maxRecDepth 100000 in
set_option maxHeartbeats 8000000 in
theorem stnil_law (n : Nat) (hn : n ≤ 255) (w : World) : Calls Try.prog 8 #[.int .u8 (n : Int)] w fun e w' => e = .returned (.bool true) ∧ Below w.heap.size w w' := by
  go_enter Try.func8, Try.ntmps8
  go_wp2_with fail
  refine (awake_any _).mono ?_
  rintro e w1 ⟨rfl, hb1⟩
  have HB1 := Lib.hid hb1
  clear hb1
  go_wp2_with fail
  refine (stbegin_nil _ _).mono ?_
  rintro e w' ⟨rfl, rfl⟩
  go_wp2_with fail
  refine (ststep_nil _).mono ?_
  rintro e w' ⟨rfl, rfl⟩
  go_wp2_with fail
  refine (stcommit_nil _).mono ?_
  rintro e w' ⟨rfl, rfl⟩
  go_wp2_with fail
  refine (stabort_nil _).mono ?_
  rintro e w' ⟨rfl, rfl⟩
  go_wp2_with fail
  refine (img_nil _).mono ?_
  rintro e w' ⟨rfl, rfl⟩
  go_wp2_with fail
  refine (work_nil _).mono ?_
  rintro e w' ⟨rfl, rfl⟩
  go_wp2_with fail
  refine (ver_nil _).mono ?_
  rintro e w' ⟨rfl, rfl⟩
  go_wp2_with fail
  refine (sum_nil _).mono ?_
  rintro e w' ⟨rfl, rfl⟩
  go_wp2_with fail
  refine (inst_nil _).mono ?_
  rintro e w' ⟨rfl, rfl⟩
  go_wp2_with fail
  refine (clone_nil _).mono ?_
  rintro e w' ⟨rfl, rfl⟩
  obtain ⟨u, hu⟩ : ∃ u, u = w1.drew.drew := ⟨_, rfl⟩
  have HB2 : Hid (Below w.heap.size w u) := Lib.hid (by rw [hu]; exact HB1.out.drew.drew)
  first | rw [← hu] | skip
  clear hu
  have hni : (0 : Int) ≤ n := by omega
  have hni2 : (n : Int) ≤ 255 := by omega
  go_wp2_with (refine wpList_make el22 u.heap.size (24001 + n) rfl _ _ rfl rfl rfl (by omega) (by omega) ?c1 ?c2 (Nat.le_refl _) ?_)
  case c1 => omega
  case c2 => unfold maxLen; omega
  intro w2 hown hgrow hsz
  rw [zeros_bytes] at hown
  have hb2 : Below u.heap.size u w2 := (Below.refl _ _).grown hgrow (Nat.le_refl _) (fun k h => by cases h)
  have HO := Lib.hid hown
  have HB3 := Lib.hid (HB2.out.trans (hb2.mono HB2.out.size))
  clear hown hgrow hb2
  obtain ⟨C, hC⟩ : ∃ C, C = 24001 + n := ⟨_, rfl⟩
  rw [← hC] at HO ⊢
  have hCb : 24000 < C := by omega
  have hCi : (24000 : Int) ≤ C := by omega
  have HR : Hid (Bytes [] w2 (.slice (some ⟨u.heap.size, 0, none⟩) 24000 C) (List.replicate 24000 0)) := Lib.hid (by
    have h1 := Raw.of_own (F := []) HO.out (bytesV_one _) (fun f hf => by cases hf)
    have h2 := Raw.take h1 (m := 24000) (c := C) (by omega) (by omega) (Nat.le_refl _)
    rw [Nat.mul_one, bytesV_take, List.take_replicate, Nat.min_eq_left (by omega)] at h2
    unfold Bytes
    rw [List.length_replicate]
    exact h2)
  clear hC
  go_wp2_with fail
  refine (stnew_big _ C _ hCb ⟨_, _, rfl⟩).mono ?_
  rintro e w' ⟨rfl, rfl⟩
  go_wp2_with fail
  refine (liv_new (w0 := w2) _ (List.replicate 24000 0) _ (by rw [List.length_replicate]; omega) (Below.refl _ _) HR.out).mono ?_
  rintro e w3 ⟨g, rfl, hL⟩
  have HL3 := Lib.hid hL; clear hL
  go_wp2_with fail
  refine (liv_big _ C HL3.out rfl hCb ⟨_, _, rfl⟩).mono ?_
  rintro e w4 ⟨rfl, hL⟩
  have HL4 := Lib.hid hL; clear hL
  go_wp2_with fail
  refine (liv_inst HL4.out).mono ?_
  rintro e w' ⟨rfl, rfl⟩
  go_wp2
  go_ret
  exact ⟨rfl, HB3.out.trans (HL4.out.1.mono HB3.out.size)⟩
end Go.Proofs.Ytnbngidelpodkaa
