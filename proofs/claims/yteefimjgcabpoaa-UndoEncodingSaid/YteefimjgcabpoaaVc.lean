/- Undo: Encode and the reference's Encode -/
import Derived.Test.YteefimjgcabpoaaUn
import Derived.Test.YteefimjgcabpoaaWn
namespace Go.Un
open Go Go.RowKit Go.Bs Go.Cl Go.Rw Go.Wi
def encRc (r : Rec) : List UInt8 := encI r.off ++ encI r.len ++ encB r.old
def encRs (l : List Rec) : List UInt8 := encI l.length ++ l.flatMap encRc
theorem encRc_len {r : Rec} (h : r.fits) (ho : r.old.length ≤ 400) : (encRc r).length ≤ 430 := by
  have h1 := encI_len (n := r.off) ⟨h.1, h.2.1⟩
  have h2 := encI_len (n := r.len) ⟨h.2.2.1, h.2.2.2⟩
  have h3 := encI_len (n := (r.old.length : Int)) (by unfold Wi.fits; omega)
  simp [encRc, encB]; omega
theorem encFlat_len : ∀ {l : List Rec}, (∀ x ∈ l, x.fits ∧ x.old.length ≤ 400) → (l.flatMap encRc).length ≤ 430 * l.length
  | [], _ => by simp
  | x :: l, h => by
    have h1 := encRc_len (h x (by simp)).1 (h x (by simp)).2
    have h2 := encFlat_len (l := l) (fun y hy => h y (by simp [hy]))
    rw [List.flatMap_cons, List.length_append, List.length_cons]; omega
theorem take_flatR {rs : List (Rec × Value)} {k : Nat} (h : k < rs.length) : ((rs.map (·.1)).take (k + 1)).flatMap encRc = ((rs.map (·.1)).take k).flatMap encRc ++ encRc (recAt rs k).1 := by
  have : (rs.map (·.1))[k]? = some (recAt rs k).1 := by rw [List.getElem?_map, recAt_get h]; rfl
  rw [List.take_add_one, this]; simp
def RetB (l : List UInt8) (w : World) (e : Ending) (w' : World) : Prop := ∃ v, e = .returned v ∧ BRow 5 w' w.heap.size v l ∧ Below w.heap.size w w'
end Go.Un
namespace Go.Proofs.Yteefimjgcabpoaa
open Go.RowKit Go.Bs Go.Cl Go.Rw Go.Un Go.Wi
set_option maxRecDepth 100000 in
set_option maxHeartbeats 2000000 in
theorem encode_any (v : Value) (rs : List (Rec × Value)) (w : World) (hl : rs.length ≤ 100) (h : Recs [] w v rs) (hf : ∀ p ∈ rs, p.1.fits ∧ p.1.old.length ≤ 400) :
    Calls Try.prog 29 #[v] w (RetB (encRs (rs.map (·.1))) w) := by
  obtain ⟨a, cap, rfl⟩ := Raw.slice h.1
  have H := Lib.hid h; clear h
  have HF := Lib.hid hf; clear hf
  have He : Hid (encRs (rs.map (·.1)) = encI rs.length ++ (rs.map (·.1)).flatMap encRc) := Lib.hid (by simp [encRs])
  have hfl : Wi.fits (rs.length : Int) := by unfold Wi.fits; omega
  have Hfl := Lib.hid hfl; clear hfl
  go_enter Try.func29, Try.ntmps29
  go_wp2_with fail
  refine (wint_any _ [] (rs.length : Int) w.heap.size _ Hfl.out (by simp) (World.ownsRow_nil _ _ _ _) (Nat.le_refl _)).mono ?_
  rintro e w2 ⟨v2, rfl, hg2⟩
  have hbel2 := hg2.below (brow_nil _ _ _) (Nat.le_refl _) (Nat.le_refl _) (Below.refl _ w)
  have HR2 := Lib.hid hg2.row
  clear hg2
  go_wp2
  go_loopw [3, 11] (fun bv i wr => ∃ k : Nat, k ≤ rs.length ∧ i = .int .i64 k ∧ BRow 5 wr w.heap.size bv (encI rs.length ++ ((rs.map (·.1)).take k).flatMap encRc) ∧ Below w.heap.size w wr) (fun _ i _ => rs.length - (intOf i).toNat)
  case atStart => exact ⟨0, Nat.zero_le _, rfl, by simpa using HR2.out, hbel2⟩
  case round =>
    obtain ⟨k, hk, rfl, hrow, hbel⟩ := hrel
    have hsz := hbel.size
    have hfk := encFlat_len (l := (rs.map (·.1)).take k) (fun x hx => by
      obtain ⟨p, hp, rfl⟩ := List.mem_map.1 (List.mem_of_mem_take hx)
      exact HF.out p hp)
    have hel := encI_len Hfl.out
    have hacc : (encI rs.length ++ ((rs.map (·.1)).take k).flatMap encRc).length ≤ 900000 := by
      rw [List.length_append]
      have : ((rs.map (·.1)).take k).length ≤ rs.length := by simp; omega
      omega
    obtain ⟨acc, hac⟩ : ∃ acc, encI rs.length ++ ((rs.map (·.1)).take k).flatMap encRc = acc := ⟨_, rfl⟩
    rw [hac] at hrow hacc
    have Hac := Lib.hid hac; clear hac
    obtain ⟨ra, rc, rfl⟩ := own_slice hrow
    have HR := Lib.hid hrow
    clear hrow hfk hel
    by_cases hlt : k < rs.length
    · obtain ⟨b, off, rfl, hb, h0, h1, h2, hm, qa, qc, hq⟩ := (H.out.below hbel).elem hlt
      have htf := take_flatR hlt
      have hfz := HF.out _ hm
      have hold := (H.out.2 _ hm)
      obtain ⟨z, hz⟩ : ∃ z, recAt rs k = z := ⟨_, rfl⟩
      rw [hz] at h0 h1 h2 htf hfz hq hold
      obtain ⟨⟨zo, zl, zb⟩, zv⟩ := z
      simp only at h0 h1 h2 hq hfz hold
      subst hq
      obtain ⟨hfz, hzb⟩ := hfz
      have Htf := Lib.hid htf; have Hfz := Lib.hid hfz; have Hold := Lib.hid hold; clear htf hfz hz hm hold
      have hal := (Below.refl wr.heap.size wr).alloc (Nat.le_refl _) (.cells #[.int .i64 zo, .int .i64 zl, .slice qa zb.length qc] 65)
      have HR1 := Lib.hid (HR.out.below hal)
      have hbelA := hbel.trans (hal.mono hsz)
      have HbA := Lib.hid hbelA
      have hS : ∀ b ∈ [wr.heap.size], ∃ c e f, (wr.alloc (.cells #[.int .i64 zo, .int .i64 zl, .slice qa zb.length qc] 65)).heap[b]? = some (.cells c e f) := fun b hb => by rw [List.mem_singleton.1 hb]; exact ⟨_, _, _, heap_alloc_new wr _⟩
      have HS := Lib.hid (same_start hS)
      clear hal hbelA
      go_wp2
      refine Txt.wp_cut [4, 3] [wr.heap.size] [5, 8] [9] (by kernel_rfl) (by kernel_rfl) (by kernel_rfl) hS ?_
      clear hS
      simp only [Txt.wpCut, List.take_succ_cons, List.take_zero, List.drop_succ_cons, List.drop_zero]
      go_wp2_with fail
      refine (wint_any _ acc zo w.heap.size _ ⟨Hfz.out.1, Hfz.out.2.1⟩ (by omega) HR1.out.drew (by simp; omega)).mono ?_
      rintro e w3 ⟨v3, rfl, hg3⟩
      have hx : wr.heap.size ∉ (Value.ownBlock (.slice ra acc.length rc)).toList := fun hm => by have := (HR.out.lt _ (by simpa using hm)).2; omega
      have hS3 := same_keep HS.out hg3.keep (fun b hb => by rw [List.mem_singleton.1 hb]; exact hx)
      have hbel3 := hg3.below HR1.out.drew (Nat.le_refl _) (by simp; omega) HbA.out.drew
      have hc3 : w3.heap[wr.heap.size]? = some (.cells #[.int .i64 zo, .int .i64 zl, .slice qa zb.length qc] 65 (0, 0)) := (hg3.keep.block _ (by simp) hx).trans (heap_alloc_new wr _)
      have hx3 : wr.heap.size ∉ v3.ownBlock.toList := fun hm => by
        rcases hg3.news _ hm with h | h
        · exact hx h
        · simp at h; omega
      obtain ⟨acc3, hac3⟩ : ∃ acc3, acc ++ encI zo = acc3 := ⟨_, rfl⟩
      have hl3 : acc3.length ≤ 900010 := by rw [← hac3]; have := encI_len (n := zo) ⟨Hfz.out.1, Hfz.out.2.1⟩; simp; omega
      have hr3 := hg3.row
      rw [hac3] at hr3
      have c1 : w3.cell? ⟨wr.heap.size, 1, none⟩ = some (.int .i64 zl) := box_at hc3 rfl
      have HS3 := Lib.hid hS3; have HC3 := Lib.hid hc3; have HX3 := Lib.hid hx3; have HR3 := Lib.hid hr3; have Hac3 := Lib.hid hac3
      clear hg3 hx hS3 hc3 hx3 hr3 hac3
      go_wp2
      refine Txt.SegPost.mk HS3.out ?_
      go_wp2_with fail
      refine (wint_any _ acc3 zl w.heap.size _ ⟨Hfz.out.2.2.1, Hfz.out.2.2.2⟩ (by omega) HR3.out hbel3.size).mono ?_
      rintro e w4 ⟨v4, rfl, hg4⟩
      have hS4 := same_keep HS3.out hg4.keep (fun b hb => by rw [List.mem_singleton.1 hb]; exact HX3.out)
      have hbel4 := hg4.below HR3.out (Nat.le_refl _) hbel3.size hbel3
      have hw3 : wr.heap.size < w3.heap.size := (Array.getElem?_eq_some_iff.1 HC3.out).1
      have hc4 := (hg4.keep.block _ hw3 HX3.out).trans HC3.out
      have hx4 : wr.heap.size ∉ v4.ownBlock.toList := fun hm => by
        rcases hg4.news _ hm with h | h
        · exact HX3.out h
        · omega
      obtain ⟨acc4, hac4⟩ : ∃ acc4, acc3 ++ encI zl = acc4 := ⟨_, rfl⟩
      have hl4 : acc4.length ≤ 900020 := by rw [← hac4]; have := encI_len (n := zl) ⟨Hfz.out.2.2.1, Hfz.out.2.2.2⟩; simp; omega
      have hr4 := hg4.row
      rw [hac4] at hr4
      have c2 : w4.cell? ⟨wr.heap.size, 2, none⟩ = some (.slice qa zb.length qc) := box_at hc4 rfl
      have hX4 : Bytes v4.ownBlock.toList w4 (.slice qa zb.length qc) zb := Raw.keep Hold.out (Keep.of_below (F := []) hbel4 (fun k hk _ => hk)) (fun f hf => by cases hf) (fun f hf => .inr (hr4.lt f (by simpa using hf)).1)
      have HS4 := Lib.hid hS4; have HR4 := Lib.hid hr4; have Hac4 := Lib.hid hac4; have HX4 := Lib.hid hX4
      clear hg4 hS4 hc4 hx4 hr4 hac4 hw3 hX4
      go_wp2
      refine Txt.SegPost.mk HS4.out ?_
      go_wp2_with fail
      refine (wbytes_any _ _ acc4 zb w.heap.size _ (by omega) (by omega) HR4.out HX4.out hbel4.size).mono ?_
      rintro e w5 ⟨v5, rfl, hg5⟩
      have hbel5 := hg5.below HR4.out (Nat.le_refl _) hbel4.size hbel4
      have hr5 : BRow 5 w5 w.heap.size v5 (encI rs.length ++ ((rs.map (·.1)).take (k + 1)).flatMap encRc) := by
        have := hg5.row
        rw [Htf.out, ← List.append_assoc, Hac.out]
        simp only [encRc, ← List.append_assoc]
        rw [Hac3.out, Hac4.out]
        exact this
      obtain ⟨acc5, hac5⟩ : ∃ acc5, encI rs.length ++ ((rs.map (·.1)).take (k + 1)).flatMap encRc = acc5 := ⟨_, rfl⟩
      rw [hac5] at hr5
      have HR5 := Lib.hid hr5; have Hac5 := Lib.hid hac5
      obtain ⟨a5, c5, rfl⟩ := own_slice hr5
      clear hg5 hr5 hac5
      go_wp2
      refine Txt.DrawPost.mk (by rfl) ⟨.head _, .head _, trivial⟩ ?_
      go_wp2
      go_roundw
      case rel => exact ⟨k + 1, hlt, by go_num, by rw [Hac5.out]; exact HR5.out, hbel5⟩
      case measure => simp [intOf]; omega
    · obtain rfl : k = rs.length := by omega
      have hac := Hac.out
      rw [List.take_of_length_le (by simp)] at hac
      have Hac2 := Lib.hid hac; clear hac
      go_wp2
      go_ret
      rw [He.out, Hac2.out]
      exact ⟨_, rfl, HR.out, hbel⟩
end Go.Proofs.Yteefimjgcabpoaa
