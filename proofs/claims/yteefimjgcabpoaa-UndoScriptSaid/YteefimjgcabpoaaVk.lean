/- Undo: Same of records that are the same -/
import Derived.Test.YteefimjgcabpoaaUn
namespace Go.Proofs.Yteefimjgcabpoaa
open Go.RowKit Go.Bs Go.Cl Go.Rw Go.Un
set_option maxRecDepth 100000 in
set_option maxHeartbeats 2000000 in
theorem same_eq (v1 v2 : Value) (r1 r2 : List (Rec × Value)) (w : World) (hl : r1.length ≤ 1000000) (h1 : Recs [] w v1 r1) (h2 : Recs [] w v2 r2) (he : r1.map (·.1) = r2.map (·.1)) :
    Calls Try.prog 21 #[v1, v2] w fun e w' => e = .returned (.bool true) ∧ Below w.heap.size w w' := by
  obtain ⟨a1, c1, rfl⟩ := Raw.slice h1.1
  obtain ⟨a2, c2, rfl⟩ := Raw.slice h2.1
  have hlen : r2.length = r1.length := by have := congrArg List.length he; simpa using this.symm
  rw [hlen]
  have H1 := Lib.hid h1; clear h1
  have H2' : Hid (Recs [] w (.slice a2 r1.length c2) r2) := Lib.hid (by rw [hlen] at h2; exact h2)
  clear h2
  have hk : ∀ k, k < r1.length → (recAt r1 k).1 = (recAt r2 k).1 := fun k h => by
    have e1 := recAt_get h
    have e2 := recAt_get (rs := r2) (j := k) (by omega)
    have : (r1.map (·.1))[k]? = (r2.map (·.1))[k]? := by rw [he]
    rw [List.getElem?_map, List.getElem?_map, e1, e2] at this
    simpa using this
  have Hk := Lib.hid hk; clear hk he
  go_enter Try.func21, Try.ntmps21
  go_wp2
  go_loopw [5] (fun i wr => ∃ k : Nat, k ≤ r1.length ∧ i = .int .i64 k ∧ Below w.heap.size w wr) (fun i _ => r1.length - (intOf i).toNat)
  case atStart => exact ⟨0, Nat.zero_le _, rfl, Below.refl _ w⟩
  case round =>
    obtain ⟨k, hk, rfl, hbel⟩ := hrel
    by_cases hlt : k < r1.length
    · obtain ⟨b, off, rfl, hb, h0, h1, h2, hm, qa, qc, hq⟩ := (H1.out.below hbel).elem hlt
      obtain ⟨b', off', rfl, hb', h0', h1', h2', hm', qa', qc', hq'⟩ := (H2'.out.below hbel).elem (i := k) (by omega)
      have hold := (H1.out.2 _ hm)
      have hold' := (H2'.out.2 _ hm')
      have heq := Hk.out k hlt
      obtain ⟨z, hz⟩ : ∃ z, recAt r1 k = z := ⟨_, rfl⟩
      obtain ⟨z', hz'⟩ : ∃ z, recAt r2 k = z := ⟨_, rfl⟩
      rw [hz] at h0 h1 h2 hq hold heq
      rw [hz'] at h0' h1' h2' hq' hold' heq
      obtain ⟨⟨zo, zl, zb⟩, zv⟩ := z
      obtain ⟨z', zv'⟩ := z'
      simp only at heq
      subst heq
      simp only at h0 h1 h2 hq hold h0' h1' h2' hq' hold'
      subst hq
      subst hq'
      have hX : Bytes [] wr.drew (.slice qa zb.length qc) zb := (Raw.below hold hbel).drew
      have hX' : Bytes [] wr.drew (.slice qa' zb.length qc') zb := (Raw.below hold' hbel).drew
      have k1 := run_str hX 22 5 9 Try.underlying22 Try.underlying5 Try.underlying9
      have k2 := run_str hX' 22 5 9 Try.underlying22 Try.underlying5 Try.underlying9
      have hbelD := hbel.drew
      clear hz hz' hold hold' hm hm'
      go_wp2
      refine Txt.wp_txt (by kernel_rfl) (by kernel_rfl) ?_
      go_wp2
      refine Txt.DrawPost.mk0 (by rfl) ?_
      go_wp2
      go_roundw
      case rel => exact ⟨k + 1, hlt, by go_num, hbelD⟩
      case measure => simp [intOf]; omega
    · obtain rfl : k = r1.length := by omega
      go_wp2
      go_ret
      exact ⟨rfl, hbel⟩
end Go.Proofs.Yteefimjgcabpoaa
