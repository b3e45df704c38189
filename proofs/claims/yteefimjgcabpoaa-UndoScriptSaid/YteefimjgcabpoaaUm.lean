/- Undo: the law's awake -/
import Derived.Test.YteefimjgcabpoaaUl
namespace Go.Proofs.Yteefimjgcabpoaa
open Go.RowKit Go.Bs Go.Cl Go.Rw Go.Un

theorem bytes_lit {F : List Nat} {w : World} (g : Nat) (l : List UInt8) (h : w.heap[g]? = some (.cells (bytesV l).toArray 5 (0, 0))) (hF : g ∉ F) (hl : l.length ≤ 1000) : Bytes F w (.slice (some ⟨g, 0, none⟩) l.length l.length) l :=
  Raw.of_block h hF (bytesV_one l) (by rw [bytesV_len]; omega) (Nat.le_refl _) (by unfold maxLen; omega)

theorem awake_model : recover [1, 7, 3] [⟨1, 3, [2, 3]⟩] = ([1, 2, 3], 0) := by decide

set_option maxRecDepth 100000 in
set_option maxHeartbeats 2000000 in
theorem awake_any (w : World) : Calls Try.prog 9 #[] w fun e w' => e = .returned (.bool true) ∧ Below w.heap.size w w' := by
  have hb0 := (Below.refl w.heap.size w).alloc (Nat.le_refl _) (.cells #[.int .u8 1, .int .u8 2, .int .u8 3] 5)
  have hB0 : Bytes [] (w.alloc (.cells #[.int .u8 1, .int .u8 2, .int .u8 3] 5)) (.slice (some ⟨w.heap.size, 0, none⟩) 3 3) [1, 2, 3] := bytes_lit w.heap.size [1, 2, 3] (heap_alloc_new w _) (by intro h; cases h) (by decide)
  have HB0 := Lib.hid hB0; clear hB0
  go_enter Try.func9, Try.ntmps9
  go_wp2_with fail
  refine (new_any _ [1, 2, 3] _ (by decide) HB0.out).mono ?_
  rintro e w1 ⟨g, iv, rfl, hL1, hb1⟩
  have hsz1 := hb1.size
  simp only [World.size_alloc] at hsz1
  have hbel1 : Below w.heap.size w w1 := hb0.trans (hb1.mono (by simp))
  have HL1 := Lib.hid hL1
  have hg1 : w.heap.size < g := by have := hL1.hg; simp at this; omega
  clear hL1 hb1 hb0
  go_wp2_with fail
  refine (begin_any _ HL1.out).mono ?_
  rintro e w2 ⟨rfl, hL2, hk2⟩
  have HL2 := Lib.hid hL2
  have hbel2 : Below w.heap.size w w2 := hbel1.trans (hk2.below (by omega) (fun f hf => by rw [List.mem_singleton.1 hf]; omega))
  have hs2 := hbel2.size
  clear hL2 hk2
  go_wp2_with fail
  have hbel3 := hbel2.alloc hs2 (.cells #[.int .u8 7, .int .u8 8] 5)
  have HL3 := Lib.hid (LogAt.below HL2.out ((Below.refl w2.heap.size w2).alloc (Nat.le_refl _) (.cells #[.int .u8 7, .int .u8 8] 5)))
  have HB3 : Hid (Bytes (LogF g iv (.slice none 0 0)) (w2.alloc (.cells #[.int .u8 7, .int .u8 8] 5)) (.slice (some ⟨w2.heap.size, 0, none⟩) 2 2) [7, 8]) := Lib.hid (bytes_lit w2.heap.size [7, 8] (heap_alloc_new w2 _) (fun hm => by have := (HL2.out.fbase _ hm).2; omega) (by decide))
  refine (write_yes _ [7, 8] 1 _ HL3.out HB3.out (by decide) (by decide) (by simp; omega) (by decide)).mono ?_
  rintro e w4 ⟨rfl, rv4, qv4, hL4, hk4, _⟩
  have hbel4 : Below w.heap.size w w4 := hbel3.trans (hk4.below (by simp; omega) (fun f hf => by have := (HL3.out.fbase f hf).1; simp at this; omega))
  have HL4 := Lib.hid hL4
  have hs4 := hbel4.size
  clear hL4 hk4
  go_wp2_with fail
  refine (records_any _ HL4.out (by simp) (fun p hp => by simp at hp; subst hp; simp)).mono ?_
  rintro e w5 ⟨v5, rfl, hR5, hb5⟩
  obtain ⟨rs5, hrs5, hR5⟩ := hR5.recs
  have hbel5 := hbel4.trans (hb5.mono hs4)
  have hs5 := hbel5.size
  have hm5 : rs5.map (·.1) = [⟨1, 3, [2, 3]⟩] := hrs5
  have hl5 : rs5.length = 1 := by have := congrArg List.length hm5; simpa using this
  obtain ⟨q, hq⟩ : ∃ q, rs5 = [q] := List.length_eq_one_iff.1 hl5
  subst hq
  obtain ⟨r, v⟩ := q
  simp only [List.map_cons, List.map_nil, List.cons.injEq, and_true] at hm5
  subst hm5
  obtain ⟨va, vc, rfl⟩ := Raw.slice hR5.1
  have HR5 := Lib.hid hR5
  clear hR5 hrs5 hl5 hb5
  have hal6 := (Below.refl w5.heap.size w5).alloc (Nat.le_refl _) (.cells #[.int .u8 1, .int .u8 7, .int .u8 3] 5)
  have HB6 : Hid (Bytes [] (w5.alloc (.cells #[.int .u8 1, .int .u8 7, .int .u8 3] 5)) (.slice (some ⟨w5.heap.size, 0, none⟩) 3 3) [1, 7, 3]) := Lib.hid (bytes_lit w5.heap.size [1, 7, 3] (heap_alloc_new w5 _) (by intro h; cases h) (by decide))
  have HR6 := Lib.hid (HR5.out.below hal6)
  have hbel6 := hbel5.alloc hs5 (.cells #[.int .u8 1, .int .u8 7, .int .u8 3] 5)
  go_wp2_with fail
  refine (recover_any _ _ [1, 7, 3] _ _ (by decide) (by simp) HB6.out HR6.out (fun p hp => by rw [List.mem_singleton.1 hp]; unfold Rec.fits; simp)).mono ?_
  rintro e w7 ⟨v7, rfl, hB7, hb7⟩
  have e7 : recover [1, 7, 3] ([((⟨1, 3, [2, 3]⟩ : Rec), v)].map (·.1)) = ([1, 2, 3], 0) := awake_model
  rw [e7] at hB7 ⊢
  clear e7
  have hbel7 := hbel6.trans (hb7.mono (by simp; omega))
  have hR7 := HR6.out.below hb7
  obtain ⟨b8, off, hv, hb8, h0, h1, _⟩ := hR7.elem (i := 0) (by simp)
  cases hv
  have h0' : w7.cell? ⟨b8, off, none⟩ = some (.int .i64 1) := h0
  have h1' : w7.cell? ⟨b8, off + 1, none⟩ = some (.int .i64 3) := by have := h1; simp only [Nat.zero_mul, Nat.add_zero] at this; exact this
  obtain ⟨a7, c7, rfl⟩ := Raw.slice hB7
  have k7 : (convert 22 9 (.slice a7 3 c7)).run Try.prog w7 = .ok (.string ⟨#[1, 2, 3]⟩) w7 := run_str hB7 22 5 9 Try.underlying22 Try.underlying5 Try.underlying9
  clear h0 h1 hR7 hB7 hb7
  go_wp2
  go_ret
  exact ⟨rfl, hbel7⟩
end Go.Proofs.Yteefimjgcabpoaa
