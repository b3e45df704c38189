/- Ledger: Encode and the reference's Encode -/
import Derived.Test.YtjlfpofgiicmcaaLp
import Derived.Test.YtjlfpofgiicmcaaLg
namespace Go.Lg
open Go Go.RowKit Go.Bs Go.Cl Go.Rw Go.Wi
def encX (x : Lt) : List UInt8 := encI x.t ++ encI x.q
def encV (l : List Lt) : List UInt8 := if validL l then encI l.length ++ l.flatMap encX else []
theorem encX_len {x : Lt} (h : fitsL x) : (encX x).length ≤ 20 := by
  have h1 := encI_len (n := x.t) ⟨h.1, h.2.1⟩
  have h2 := encI_len (n := x.q) ⟨h.2.2.1, h.2.2.2⟩
  simp [encX]; omega
theorem encFlat_len : ∀ {l : List Lt}, (∀ x ∈ l, fitsL x) → (l.flatMap encX).length ≤ 20 * l.length
  | [], _ => by simp
  | x :: l, h => by
    have h1 := encX_len (h x (by simp))
    have h2 := encFlat_len (l := l) (fun y hy => h y (by simp [hy]))
    rw [List.flatMap_cons, List.length_append, List.length_cons]; omega
theorem take_flat {l : List Lt} {k : Nat} (h : k < l.length) : (l.take (k + 1)).flatMap encX = (l.take k).flatMap encX ++ (encI (ltAt l k).t ++ encI (ltAt l k).q) := by
  rw [List.take_add_one, lt_get h]; simp [encX]
theorem brow_nil (e : Nat) (w : World) (base : Nat) : BRow e w base (.slice none 0 0) [] := World.ownsRow_nil _ _ _ _
def RetB (l : List UInt8) (w : World) (e : Ending) (w' : World) : Prop := ∃ v, e = .returned v ∧ BRow 5 w' w.heap.size v l ∧ Below w.heap.size w w'
end Go.Lg
namespace Go.Proofs.Ytjlfpofgiicmcaa
open Go.RowKit Go.Bs Go.Cl Go.Rw Go.Lg Go.Wi
set_option maxRecDepth 100000 in
set_option maxHeartbeats 2000000 in
theorem encode_any (v : Value) (l : List Lt) (w : World) (hl : l.length ≤ 1000) (h : SlL w v l) (hf : ∀ x ∈ l, fitsL x) :
    Calls Try.prog 21 #[v] w (RetB (encV l) w) := by
  obtain ⟨a, cap, rfl⟩ := Raw.slice h
  have H := Lib.hid h; clear h
  have HF := Lib.hid hf; clear hf
  have hl6 : l.length ≤ 1000000 := by omega
  cases hv : validL l
  · have He : Hid (encV l = []) := Lib.hid (by simp [encV, hv])
    go_enter Try.func21, Try.ntmps21
    go_wp2_with fail
    refine (valid_any _ l _ hl6 H.out).mono ?_
    rintro e w1 ⟨rfl, hb1⟩
    rw [hv]
    go_wp2
    go_ret
    rw [He.out]
    exact ⟨_, rfl, World.ownsRow_nil _ _ _ _, hb1⟩
  · have He : Hid (encV l = encI l.length ++ l.flatMap encX) := Lib.hid (by simp [encV, hv])
    have hfl : Wi.fits (l.length : Int) := by unfold Wi.fits; omega
    have Hfl := Lib.hid hfl; clear hfl
    go_enter Try.func21, Try.ntmps21
    go_wp2_with fail
    refine (valid_any _ l _ hl6 H.out).mono ?_
    rintro e w1 ⟨rfl, hb1⟩
    rw [hv]
    have hs1 := hb1.size
    go_wp2_with fail
    refine (wint_any _ [] (l.length : Int) w.heap.size _ Hfl.out (by simp) (World.ownsRow_nil _ _ _ _) hs1).mono ?_
    rintro e w2 ⟨v2, rfl, hg2⟩
    have hbel2 := hg2.below (brow_nil _ _ _) (Nat.le_refl _) hs1 hb1
    have HR2 := Lib.hid hg2.row
    clear hg2 hb1
    go_wp2
    go_loopw [3, 14] (fun bv i wr => ∃ k : Nat, k ≤ l.length ∧ i = .int .i64 k ∧ BRow 5 wr w.heap.size bv (encI l.length ++ (l.take k).flatMap encX) ∧ Below w.heap.size w wr) (fun _ i _ => l.length - (intOf i).toNat)
    case atStart => exact ⟨0, Nat.zero_le _, rfl, by simpa using HR2.out, hbel2⟩
    case round =>
      obtain ⟨k, hk, rfl, hrow, hbel⟩ := hrel
      have hsz := hbel.size
      have hfk := encFlat_len (l := l.take k) (fun x hx => HF.out x (List.mem_of_mem_take hx))
      have hel := encI_len Hfl.out
      have hacc : (encI l.length ++ (l.take k).flatMap encX).length ≤ 900000 := by
        rw [List.length_append]
        have : (l.take k).length ≤ l.length := by simp; omega
        omega
      obtain ⟨acc, hac⟩ : ∃ acc, encI l.length ++ (l.take k).flatMap encX = acc := ⟨_, rfl⟩
      rw [hac] at hrow hacc
      have Hac := Lib.hid hac; clear hac
      obtain ⟨ra, rc, rfl⟩ := own_slice hrow
      have HR := Lib.hid hrow
      clear hrow hfk hel
      by_cases hlt : k < l.length
      · obtain ⟨b, off, rfl, hb, h0, h1⟩ := (H.out.below hbel).elem hlt
        have htf := take_flat hlt
        have hfz := HF.out _ (List.mem_of_getElem? (lt_get hlt))
        obtain ⟨z, hz⟩ : ∃ z, ltAt l k = z := ⟨_, rfl⟩
        rw [hz] at h0 h1 htf hfz
        have Htf := Lib.hid htf; have Hfz := Lib.hid hfz; clear htf hfz hz
        have hal := (Below.refl wr.heap.size wr).alloc (Nat.le_refl _) (.cells #[.int .i64 z.t, .int .i64 z.q] 55)
        have HR1 := Lib.hid (HR.out.below hal)
        have hbelA := hbel.trans (hal.mono hsz)
        have HbA := Lib.hid hbelA
        have hS : ∀ b ∈ [wr.heap.size], ∃ c e f, (wr.alloc (.cells #[.int .i64 z.t, .int .i64 z.q] 55)).heap[b]? = some (.cells c e f) := fun b hb => by rw [List.mem_singleton.1 hb]; exact ⟨_, _, _, heap_alloc_new wr _⟩
        have HS := Lib.hid (same_start hS)
        clear hal hbelA
        go_wp2
        refine Txt.wp_cut [4] [wr.heap.size] [5] [6] (by kernel_rfl) (by kernel_rfl) (by kernel_rfl) hS ?_
        clear hS
        simp only [Txt.wpCut, List.take_succ_cons, List.take_zero, List.drop_succ_cons, List.drop_zero]
        go_wp2_with fail
        refine (wint_any _ acc z.t w.heap.size _ ⟨Hfz.out.1, Hfz.out.2.1⟩ (by omega) HR1.out.drew (by simp; omega)).mono ?_
        rintro e w3 ⟨v3, rfl, hg3⟩
        have hx : wr.heap.size ∉ (Value.ownBlock (.slice ra acc.length rc)).toList := fun hm => by have := (HR.out.lt _ (by simpa using hm)).2; omega
        have HS3 := Lib.hid (same_keep HS.out hg3.keep (fun b hb => by rw [List.mem_singleton.1 hb]; exact hx))
        have hbel3 := hg3.below HR1.out.drew (Nat.le_refl _) (by simp; omega) HbA.out.drew
        have hz1 : w3.cell? ⟨wr.heap.size, 1, none⟩ = some (.int .i64 z.q) := by
          rw [hg3.keep.cell (b := wr.heap.size) (by simp) hx]
          exact box_at (heap_alloc_new wr _) rfl
        have HR3 := Lib.hid hg3.row
        have HG3 := Lib.hid hg3
        have hl3 : (acc ++ encI z.t).length ≤ 1000000 := by have := encI_len (n := z.t) ⟨Hfz.out.1, Hfz.out.2.1⟩; simp; omega
        have Hl3 := Lib.hid hl3
        clear hg3 hx hl3
        go_wp2
        refine Txt.SegPost.mk HS3.out ?_
        go_wp2_with fail
        refine (wint_any _ (acc ++ encI z.t) z.q w.heap.size _ ⟨Hfz.out.2.2.1, Hfz.out.2.2.2⟩ Hl3.out HR3.out hbel3.size).mono ?_
        rintro e w4 ⟨v4, rfl, hg4⟩
        have hbel4 := hg4.below HR3.out (Nat.le_refl _) hbel3.size hbel3
        have hrow4 : BRow 5 w4 w.heap.size v4 (encI l.length ++ (l.take (k + 1)).flatMap encX) := by
          rw [Htf.out, ← List.append_assoc, Hac.out, ← List.append_assoc]; exact hg4.row
        obtain ⟨acc4, hac4⟩ : ∃ acc4, encI l.length ++ (l.take (k + 1)).flatMap encX = acc4 := ⟨_, rfl⟩
        rw [hac4] at hrow4
        have Hac4 := Lib.hid hac4
        have HR4 := Lib.hid hrow4
        obtain ⟨a4, c4, rfl⟩ := own_slice hrow4
        clear hg4 hrow4 hac4
        go_wp2
        refine Txt.DrawPost.mk (by rfl) ⟨.head _, trivial⟩ ?_
        go_wp2
        go_roundw
        case rel => exact ⟨k + 1, hlt, by go_num, by rw [Hac4.out]; exact HR4.out, hbel4⟩
        case measure => simp [intOf]; omega
      · obtain rfl : k = l.length := by omega
        rw [List.take_length] at Hac
        go_wp2
        go_ret
        rw [He.out, Hac.out]
        exact ⟨_, rfl, HR.out, hbel⟩
end Go.Proofs.Ytjlfpofgiicmcaa
