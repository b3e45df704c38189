/- time: Encode, Decode -/
import Derived.Test.YtdelemmoiaiooaaTh
namespace Go.Ti
open Go Go.RowKit Go.Bs Go.Cl Go.Rw Go.Wi
theorem valid_fits {l : List Int} (h : validT l = true) : ∀ x ∈ l, Wi.fits x := by
  intro x hx
  obtain ⟨k, hk, rfl⟩ := List.mem_iff_getElem.1 hx
  have := validT_at h hk
  unfold okT usr at this
  rw [show at_ l k = l[k] by simp [at_, hk]] at this
  simp at this
  unfold Wi.fits
  omega
def encS (l : List Int) : List UInt8 := if validT l then encIs l else []
/-- the state with an image, or nothing, and the error -/
def decT (b : List UInt8) : List Int × Int :=
  let r := rL b 32 (0, false)
  if decide (rEnd b r.2 = 0) && validT r.1 then (r.1, 0) else ([], 4)
def RetD (r : List Int × Int) (w : World) (e : Ending) (w' : World) : Prop := ∃ v, e = .returned (.tuple #[.agg #[v], .int .i64 r.2]) ∧ w'.ownsRow w.heap.size 3 1 v r.1.length (r.1.flatMap encT) ∧ Below w.heap.size w w'
theorem rEnd_cases (b : List UInt8) (s : Nat × Bool) : rEnd b s = 0 ∨ rEnd b s = 4 := by
  unfold rEnd
  split
  · exact .inr rfl
  · exact .inl rfl
theorem SlT.of_own {w : World} {base : Nat} {v : Value} {l : List Int} (h : w.ownsRow base 3 1 v l.length (l.flatMap encT)) : SlT w v l := Raw.of_own h (encT_one l) (fun f hf => by cases hf)
theorem rL_len (b : List UInt8) (most : Int) (h0 : 0 ≤ most) (s : Nat × Bool) : ((rL b most s).1.length : Int) ≤ most := by
  unfold rL
  split
  · simpa using h0
  · unfold rdL
    cases hd : rdB b s.1 0 most with
    | none => simpa using h0
    | some q =>
      obtain ⟨n, m⟩ := q
      have := rdB_some hd
      simp only
      cases hn : rdN b n.toNat (s.1 + m) with
      | none => simpa using h0
      | some q2 =>
        obtain ⟨l, p⟩ := q2
        have := (rdN_len hn).1
        simp only
        omega
end Go.Ti
namespace Go.Proofs.Ytdelemmoiaiooaa
open Go.RowKit Go.Bs Go.Cl Go.Rw Go.Ti Go.Wi
set_option maxRecDepth 100000 in
set_option maxHeartbeats 2000000 in
theorem encode_any (v : Value) (l : List Int) (w : World) (hl : l.length ≤ 1000) (h : SlT w v l) :
    Calls Try.prog 16 #[.agg #[v]] w (RetB (encS l) w) := by
  obtain ⟨a, cap, rfl⟩ := Raw.slice h
  obtain ⟨W, hW⟩ : ∃ W, W = w.alloc (.cells #[.slice a l.length cap] 37) := ⟨_, rfl⟩
  have hb : Below w.heap.size w W := by rw [hW]; exact (Below.refl w.heap.size w).alloc (Nat.le_refl _) _
  have h3 : W.heap[w.heap.size]? = some (.cells #[.slice a l.length cap] 37 (0, 0)) := by rw [hW]; exact heap_alloc_new w _
  have H := Lib.hid (h.below hb)
  have Hb := Lib.hid hb
  have Hx := Lib.hid h3
  have c0 := box_at h3 (j := 0) rfl
  clear h h3 hb
  go_enter Try.func16, Try.ntmps16
  go_upto_region 1 with (fail)
  rw [← hW]
  clear hW
  go_wp2_with fail
  refine (valid_any _ l _ (by omega) H.out).mono ?_
  rintro e w1 ⟨rfl, hb1⟩
  have hxl := (Array.getElem?_eq_some_iff.1 Hx.out).1
  have Hb1 := Lib.hid (Hb.out.trans (hb1.mono Hb.out.size))
  have Hx1 := (hb1.block _ hxl).trans Hx.out
  have H1 := Lib.hid (H.out.below hb1)
  have c0 := box_at Hx1 (j := 0) rfl
  clear hb1 Hx1
  cases hv : validT l
  · have He : Hid (encS l = []) := Lib.hid (by unfold encS; rw [hv]; rfl)
    clear hv
    go_wp2
    go_ret
    rw [He.out]
    exact ⟨_, rfl, brow_nil _ _ _, Hb1.out⟩
  · have He : Hid (encS l = encIs l) := Lib.hid (by unfold encS; rw [hv]; rfl)
    have Hf := Lib.hid (valid_fits hv)
    clear hv
    go_wp2_with fail
    refine (ints_any _ l _ hl H1.out Hf.out).mono ?_
    rintro e w2 ⟨v2, rfl, hrow, hb2⟩
    have Hrow := Lib.hid (own_base hrow Hb1.out.size)
    have Hb2 := Lib.hid (Hb1.out.trans (hb2.mono Hb1.out.size))
    clear hrow hb2
    go_wp2
    go_ret
    rw [He.out]
    exact ⟨_, rfl, Hrow.out, Hb2.out⟩
set_option maxRecDepth 100000 in
set_option maxHeartbeats 2000000 in
theorem rencode_any (v : Value) (l : List Int) (w : World) (hl : l.length ≤ 1000) (h : SlT w v l) :
    Calls Try.prog 10 #[.agg #[v]] w (RetB (encS l) w) := by
  obtain ⟨a, cap, rfl⟩ := Raw.slice h
  obtain ⟨W, hW⟩ : ∃ W, W = w.alloc (.cells #[.slice a l.length cap] 24) := ⟨_, rfl⟩
  have hb : Below w.heap.size w W := by rw [hW]; exact (Below.refl w.heap.size w).alloc (Nat.le_refl _) _
  have h3 : W.heap[w.heap.size]? = some (.cells #[.slice a l.length cap] 24 (0, 0)) := by rw [hW]; exact heap_alloc_new w _
  have H := Lib.hid (h.below hb)
  have Hb := Lib.hid hb
  have Hx := Lib.hid h3
  have c0 := box_at h3 (j := 0) rfl
  clear h h3 hb
  go_enter Try.func10, Try.ntmps10
  go_upto_region 1 with (fail)
  rw [← hW]
  clear hW
  go_wp2_with fail
  refine (rvalid_any _ l _ (by omega) H.out).mono ?_
  rintro e w1 ⟨rfl, hb1⟩
  have hxl := (Array.getElem?_eq_some_iff.1 Hx.out).1
  have Hb1 := Lib.hid (Hb.out.trans (hb1.mono Hb.out.size))
  have Hx1 := (hb1.block _ hxl).trans Hx.out
  have H1 := Lib.hid (H.out.below hb1)
  have c0 := box_at Hx1 (j := 0) rfl
  clear hb1 Hx1
  cases hv : validT l
  · have He : Hid (encS l = []) := Lib.hid (by unfold encS; rw [hv]; rfl)
    clear hv
    go_wp2
    go_ret
    rw [He.out]
    exact ⟨_, rfl, brow_nil _ _ _, Hb1.out⟩
  · have He : Hid (encS l = encIs l) := Lib.hid (by unfold encS; rw [hv]; rfl)
    have Hf := Lib.hid (valid_fits hv)
    clear hv
    go_wp2_with fail
    refine (rints_any _ l _ hl H1.out Hf.out).mono ?_
    rintro e w2 ⟨v2, rfl, hrow, hb2⟩
    have Hrow := Lib.hid (own_base hrow Hb1.out.size)
    have Hb2 := Lib.hid (Hb1.out.trans (hb2.mono Hb1.out.size))
    clear hrow hb2
    go_wp2
    go_ret
    rw [He.out]
    exact ⟨_, rfl, Hrow.out, Hb2.out⟩
set_option maxRecDepth 100000 in
set_option maxHeartbeats 2000000 in
theorem decode_any (bv : Value) (b : List UInt8) (w : World) (hB : Bytes [] w bv b) (hbl : b.length ≤ 1000000) :
    Calls Try.prog 15 #[bv] w (RetD (decT b) w) := by
  obtain ⟨ba, bc, rfl⟩ := Raw.slice hB
  obtain ⟨r0, hr0⟩ : ∃ r, rL b 32 (0, false) = r := ⟨_, rfl⟩
  have hdec : decT b = (if decide (rEnd b r0.2 = 0) && validT r0.1 then (r0.1, 0) else ([], 4)) := by unfold decT; rw [hr0]
  have hlen := rL_len b 32 (by omega) (0, false)
  rw [hr0] at hlen
  obtain ⟨l, s⟩ := r0
  simp only at hdec hlen
  have Hdec := Lib.hid hdec; have Hr0 := Lib.hid hr0; clear hdec hr0
  obtain ⟨W, hW⟩ : ∃ W, W = w.alloc (.cells #[.slice none 0 0] 37) := ⟨_, rfl⟩
  have hb : Below w.heap.size w W := by rw [hW]; exact (Below.refl w.heap.size w).alloc (Nat.le_refl _) _
  have h3 : W.heap[w.heap.size]? = some (.cells #[.slice none 0 0] 37 (0, 0)) := by rw [hW]; exact heap_alloc_new w _
  have hws : W.heap.size = w.heap.size + 1 := by rw [hW]; simp
  have HB := Lib.hid (Raw.below hB hb)
  have Hb := Lib.hid hb
  have Hx := Lib.hid h3
  clear hB h3 hb
  go_enter Try.func15, Try.ntmps15
  go_wp2_with fail
  rw [← hW]
  refine (wread_any _ b _ HB.out hbl).mono ?_
  rintro e w1 ⟨g, rv, rfl, hrd, hg, hb1⟩
  have Hrd := Lib.hid hrd; clear hrd hW
  have hgl := Hrd.out.lt
  have Hx1 := Lib.hid ((hb1.block _ (show w.heap.size < W.heap.size by omega)).trans Hx.out)
  have Hb1 := Lib.hid (Hb.out.trans (hb1.mono Hb.out.size))
  have hs1 := hb1.size
  clear hb1
  go_wp2_with fail
  refine (wInts_any g rv b 0 false 32 (by omega) _ Hrd.out hbl).mono ?_
  rw [Hr0.out]
  rintro e w2 ⟨v, rfl, hrow, hrd2, hk2⟩
  obtain ⟨va, vc, rfl⟩ := own_slice hrow
  have hs2 := hk2.size
  have hrl : ∀ r, (Value.slice va l.length vc).ownBlock = some r → w1.heap.size ≤ r := fun r hr => (hrow.lt r hr).1
  have Hrl := Lib.hid hrl
  have Hrow2 := Lib.hid (own_base hrow (show w.heap.size ≤ w1.heap.size by omega))
  have Hrd2 := Lib.hid hrd2
  have hb2 := Hb1.out.trans (hk2.below (B := w.heap.size) (by omega) (fun f hf => by rw [List.mem_singleton.1 hf]; omega))
  have hx2 := (hk2.block w.heap.size (by omega) (by simp; omega)).trans Hx1.out
  have Hb2 := Lib.hid hb2
  have Hx2 := Lib.hid hx2
  clear hrow hrd2 hk2 hb2 hx2 hrl
  obtain ⟨W3, hW3⟩ : ∃ W3, W3 = w2.alloc (.cells #[.slice va l.length vc] 37) := ⟨_, rfl⟩
  have hb3 : Below w2.heap.size w2 W3 := by rw [hW3]; exact (Below.refl w2.heap.size w2).alloc (Nat.le_refl _) _
  have hx3 : W3.heap[w2.heap.size]? = some (.cells #[.slice va l.length vc] 37 (0, 0)) := by rw [hW3]; exact heap_alloc_new w2 _
  have Hx3 := Lib.hid hx3
  have Hy3 := Lib.hid ((hb3.block _ (show w.heap.size < w2.heap.size by omega)).trans Hx2.out)
  have Hrow3 := Lib.hid (own_below Hrow2.out hb3 (Nat.le_refl _))
  have Hrd3 := Lib.hid (Hrd2.out.below hb3)
  have Hb3 := Lib.hid (Hb2.out.trans (hb3.mono Hb2.out.size))
  have hs3 := hb3.size
  have HS3 := Lib.hid (SlT.of_own Hrow3.out)
  clear hb3 hx3
  go_upto_region 3 with (fail)
  rw [← hW3]
  clear hW3
  go_wp2_with fail
  refine (wend_any g rv b s.1 s.2 _ Hrd3.out hbl).mono ?_
  rintro e w4 ⟨rfl, hb4⟩
  have hs4 := hb4.size
  rw [show ((s.1, s.2) : Nat × Bool) = s from rfl]
  have hxl3 := (Array.getElem?_eq_some_iff.1 Hx3.out).1
  have Hx4 := Lib.hid ((hb4.block _ hxl3).trans Hx3.out)
  have Hy4 := Lib.hid ((hb4.block _ (show w.heap.size < W3.heap.size by omega)).trans Hy3.out)
  have Hrow4 := Lib.hid (own_below Hrow3.out hb4 (Nat.le_refl _))
  have Hb4 := Lib.hid (Hb3.out.trans (hb4.mono Hb3.out.size))
  have HS4 := Lib.hid (HS3.out.below hb4)
  clear hb4
  have c4 : w4.cell? ⟨w2.heap.size, 0, none⟩ = some (.slice va l.length vc) := box_at Hx4.out (j := 0) rfl
  have hfin : ∀ (w5 : World) (v : Value), Below w4.heap.size w4 w5 → (w5.setCell ⟨w.heap.size, 0, none⟩ v).heap[w.heap.size]? = some (.cells #[v] 37 (0, 0)) ∧ (w5.setCell ⟨w.heap.size, 0, none⟩ v).ownsRow w.heap.size 3 1 (.slice va l.length vc) l.length (l.flatMap encT) ∧ Below w.heap.size w (w5.setCell ⟨w.heap.size, 0, none⟩ v) := fun w5 v hb5 => by
    refine ⟨box_set ((hb5.block _ (show w.heap.size < w4.heap.size by omega)).trans Hy4.out), ?_, (Hb4.out.trans (hb5.mono Hb4.out.size)).setCell (Nat.le_refl _) _⟩
    refine own_keep (own_below Hrow4.out hb5 (Nat.le_refl _)) ((Keep.refl [w.heap.size] w5).setCell (by simp) _) (fun r hr hm => ?_)
    have := Hrl.out r hr
    rw [List.mem_singleton.1 hm] at this
    omega
  have Hfin := Lib.hid hfin
  clear hfin Hx3 Hy3 Hrow3 Hrd3 Hb3 HS3 Hrd2 Hb2 Hx2 Hrow2
  rcases rEnd_cases b s with hre | hre
  · rw [hre] at Hdec ⊢
    go_wp2_with fail
    refine (valid_any _ l _ (by omega) HS4.out).mono ?_
    rintro e w5 ⟨rfl, hb5⟩
    have y5 := (hb5.block _ (show w.heap.size < w4.heap.size by omega)).trans Hy4.out
    have f5 := box_free y5 0
    have e5 := box_at y5 (j := 0) rfl
    have c5 : w5.cell? ⟨w2.heap.size, 0, none⟩ = some (.slice va l.length vc) := (hb5.cell (p := ⟨w2.heap.size, 0, none⟩) ((Array.getElem?_eq_some_iff.1 Hx4.out).1)).trans c4
    have F := Lib.hid (fun v => Hfin.out w5 v hb5)
    clear hb5 y5
    cases hv : validT l
    · rw [hv] at Hdec
      have Hd : Hid (decT b = ([], 4)) := Lib.hid (by rw [Hdec.out]; rfl)
      clear hv
      go_wp2
      refine bodyPost_ret (results_ct rfl _ _ _ _ _ _ _ rfl (F.out _).1 Try.underlying37 rfl (by kernel_rfl)) rfl ?_
      rw [Hd.out]
      exact ⟨_, rfl, World.ownsRow_nil _ _ _ _, (F.out _).2.2⟩
    · rw [hv] at Hdec
      have Hd : Hid (decT b = (l, 0)) := Lib.hid (by rw [Hdec.out]; rfl)
      clear hv
      go_wp2
      refine bodyPost_ret (results_ct rfl _ _ _ _ _ _ _ rfl (F.out _).1 Try.underlying37 rfl (by kernel_rfl)) rfl ?_
      rw [Hd.out]
      exact ⟨_, rfl, (F.out _).2.1, (F.out _).2.2⟩
  · rw [hre] at Hdec ⊢
    have Hd : Hid (decT b = ([], 4)) := Lib.hid (by rw [Hdec.out]; rfl)
    have f4 := box_free Hy4.out 0
    have e4 := box_at Hy4.out (j := 0) rfl
    have F := Lib.hid (fun v => Hfin.out w4 v (Below.refl _ _))
    go_wp2
    refine bodyPost_ret (results_ct rfl _ _ _ _ _ _ _ rfl (F.out _).1 Try.underlying37 rfl (by kernel_rfl)) rfl ?_
    rw [Hd.out]
    exact ⟨_, rfl, World.ownsRow_nil _ _ _ _, (F.out _).2.2⟩
set_option maxRecDepth 100000 in
set_option maxHeartbeats 2000000 in
theorem rdecode_any (bv : Value) (b : List UInt8) (w : World) (hB : Bytes [] w bv b) (hbl : b.length ≤ 1000000) :
    Calls Try.prog 20 #[bv] w (RetD (decT b) w) := by
  obtain ⟨ba, bc, rfl⟩ := Raw.slice hB
  obtain ⟨r0, hr0⟩ : ∃ r, rL b 32 (0, false) = r := ⟨_, rfl⟩
  have hdec : decT b = (if decide (rEnd b r0.2 = 0) && validT r0.1 then (r0.1, 0) else ([], 4)) := by unfold decT; rw [hr0]
  have hlen := rL_len b 32 (by omega) (0, false)
  rw [hr0] at hlen
  obtain ⟨l, s⟩ := r0
  simp only at hdec hlen
  have Hdec := Lib.hid hdec; have Hr0 := Lib.hid hr0; clear hdec hr0
  obtain ⟨W, hW⟩ : ∃ W, W = w.alloc (.cells #[.slice none 0 0] 24) := ⟨_, rfl⟩
  have hb : Below w.heap.size w W := by rw [hW]; exact (Below.refl w.heap.size w).alloc (Nat.le_refl _) _
  have h3 : W.heap[w.heap.size]? = some (.cells #[.slice none 0 0] 24 (0, 0)) := by rw [hW]; exact heap_alloc_new w _
  have hws : W.heap.size = w.heap.size + 1 := by rw [hW]; simp
  have HB := Lib.hid (Raw.below hB hb)
  have Hb := Lib.hid hb
  have Hx := Lib.hid h3
  clear hB h3 hb
  obtain ⟨g, hgd⟩ : ∃ g, g = W.heap.size := ⟨_, rfl⟩
  obtain ⟨w1, hw1⟩ : ∃ w1, w1 = W.alloc (.cells #[.slice ba b.length bc, .int .i64 0, .bool false] 77) := ⟨_, rfl⟩
  have hb1 : Below W.heap.size W w1 := by rw [hw1]; exact (Below.refl W.heap.size W).alloc (Nat.le_refl _) _
  have hby : Bytes [g] w1 (.slice ba b.length bc) b := Raw.keep HB.out (Keep.of_below' (F := []) hb1) (fun f hf => by cases hf) (fun f hf => by rw [List.mem_singleton.1 hf, hgd]; exact .inr (Nat.le_refl _))
  have hrd : RdAt 77 w1 g (.slice ba b.length bc) b 0 false := ⟨by rw [hw1, hgd]; exact heap_alloc_new W _, hby, Nat.zero_le _⟩
  have hg : W.heap.size ≤ g := by omega
  obtain ⟨rv, hrv⟩ : ∃ rv : Value, rv = .slice ba b.length bc := ⟨_, rfl⟩
  rw [← hrv] at hrd
  have HG := Lib.hid hgd; have HW1 := Lib.hid hw1; have Hrd := Lib.hid hrd; have Hrv := Lib.hid hrv; have HWW := Lib.hid hW; have HWS := Lib.hid hws
  clear hrd hgd hw1 hrv hby hW hws
  go_enter Try.func20, Try.ntmps20
  go_upto_region 2 with (fail)
  rw [← HWW.out, ← HWS.out, ← HW1.out, ← HG.out]
  have hws := HWS.out
  clear HWW HW1 HG HWS
  have hgl := Hrd.out.lt
  have Hx1 := Lib.hid ((hb1.block _ (show w.heap.size < W.heap.size by omega)).trans Hx.out)
  have Hb1 := Lib.hid (Hb.out.trans (hb1.mono Hb.out.size))
  have hs1 := hb1.size
  clear hb1
  go_wp2_with fail
  refine (rInts_any g rv b 0 false 32 (by omega) (by omega) _ Hrd.out hbl).mono ?_
  rw [Hr0.out]
  rintro e w2 ⟨v, rfl, hrow, hrd2, hk2⟩
  obtain ⟨va, vc, rfl⟩ := own_slice hrow
  have hs2 := hk2.size
  have hrl : ∀ r, (Value.slice va l.length vc).ownBlock = some r → w1.heap.size ≤ r := fun r hr => (hrow.lt r hr).1
  have Hrl := Lib.hid hrl
  have Hrow2 := Lib.hid (own_base hrow (show w.heap.size ≤ w1.heap.size by omega))
  have Hrd2 := Lib.hid hrd2
  have hb2 := Hb1.out.trans (hk2.below (B := w.heap.size) (by omega) (fun f hf => by rw [List.mem_singleton.1 hf]; omega))
  have hx2 := (hk2.block w.heap.size (by omega) (by simp; omega)).trans Hx1.out
  have Hb2 := Lib.hid hb2
  have Hx2 := Lib.hid hx2
  clear hrow hrd2 hk2 hb2 hx2 hrl
  obtain ⟨W3, hW3⟩ : ∃ W3, W3 = w2.alloc (.cells #[.slice va l.length vc] 24) := ⟨_, rfl⟩
  have hb3 : Below w2.heap.size w2 W3 := by rw [hW3]; exact (Below.refl w2.heap.size w2).alloc (Nat.le_refl _) _
  have hx3 : W3.heap[w2.heap.size]? = some (.cells #[.slice va l.length vc] 24 (0, 0)) := by rw [hW3]; exact heap_alloc_new w2 _
  have Hx3 := Lib.hid hx3
  have Hy3 := Lib.hid ((hb3.block _ (show w.heap.size < w2.heap.size by omega)).trans Hx2.out)
  have Hrow3 := Lib.hid (own_below Hrow2.out hb3 (Nat.le_refl _))
  have Hrd3 := Lib.hid (Hrd2.out.below hb3)
  have Hb3 := Lib.hid (Hb2.out.trans (hb3.mono Hb2.out.size))
  have hs3 := hb3.size
  have HS3 := Lib.hid (SlT.of_own Hrow3.out)
  clear hb3 hx3
  go_upto_region 3 with (fail)
  rw [← hW3]
  clear hW3
  go_wp2_with fail
  refine (rend_any g rv b s.1 s.2 _ Hrd3.out hbl).mono ?_
  rintro e w4 ⟨rfl, hb4⟩
  have hs4 := hb4.size
  rw [show ((s.1, s.2) : Nat × Bool) = s from rfl]
  have hxl3 := (Array.getElem?_eq_some_iff.1 Hx3.out).1
  have Hx4 := Lib.hid ((hb4.block _ hxl3).trans Hx3.out)
  have Hy4 := Lib.hid ((hb4.block _ (show w.heap.size < W3.heap.size by omega)).trans Hy3.out)
  have Hrow4 := Lib.hid (own_below Hrow3.out hb4 (Nat.le_refl _))
  have Hb4 := Lib.hid (Hb3.out.trans (hb4.mono Hb3.out.size))
  have HS4 := Lib.hid (HS3.out.below hb4)
  clear hb4
  have c4 : w4.cell? ⟨w2.heap.size, 0, none⟩ = some (.slice va l.length vc) := box_at Hx4.out (j := 0) rfl
  have hfin : ∀ (w5 : World) (v : Value), Below w4.heap.size w4 w5 → (w5.setCell ⟨w.heap.size, 0, none⟩ v).heap[w.heap.size]? = some (.cells #[v] 24 (0, 0)) ∧ (w5.setCell ⟨w.heap.size, 0, none⟩ v).ownsRow w.heap.size 3 1 (.slice va l.length vc) l.length (l.flatMap encT) ∧ Below w.heap.size w (w5.setCell ⟨w.heap.size, 0, none⟩ v) := fun w5 v hb5 => by
    refine ⟨box_set ((hb5.block _ (show w.heap.size < w4.heap.size by omega)).trans Hy4.out), ?_, (Hb4.out.trans (hb5.mono Hb4.out.size)).setCell (Nat.le_refl _) _⟩
    refine own_keep (own_below Hrow4.out hb5 (Nat.le_refl _)) ((Keep.refl [w.heap.size] w5).setCell (by simp) _) (fun r hr hm => ?_)
    have := Hrl.out r hr
    rw [List.mem_singleton.1 hm] at this
    omega
  have Hfin := Lib.hid hfin
  clear hfin Hx3 Hy3 Hrow3 Hrd3 Hb3 HS3 Hrd2 Hb2 Hx2 Hrow2
  rcases rEnd_cases b s with hre | hre
  · rw [hre] at Hdec ⊢
    go_wp2_with fail
    refine (rvalid_any _ l _ (by omega) HS4.out).mono ?_
    rintro e w5 ⟨rfl, hb5⟩
    have y5 := (hb5.block _ (show w.heap.size < w4.heap.size by omega)).trans Hy4.out
    have f5 := box_free y5 0
    have e5 := box_at y5 (j := 0) rfl
    have c5 : w5.cell? ⟨w2.heap.size, 0, none⟩ = some (.slice va l.length vc) := (hb5.cell (p := ⟨w2.heap.size, 0, none⟩) ((Array.getElem?_eq_some_iff.1 Hx4.out).1)).trans c4
    have F := Lib.hid (fun v => Hfin.out w5 v hb5)
    clear hb5 y5
    cases hv : validT l
    · rw [hv] at Hdec
      have Hd : Hid (decT b = ([], 4)) := Lib.hid (by rw [Hdec.out]; rfl)
      clear hv
      go_wp2
      refine bodyPost_ret (results_ct rfl _ _ _ _ _ _ _ rfl (F.out _).1 Try.underlying24 rfl (by kernel_rfl)) rfl ?_
      rw [Hd.out]
      exact ⟨_, rfl, World.ownsRow_nil _ _ _ _, (F.out _).2.2⟩
    · rw [hv] at Hdec
      have Hd : Hid (decT b = (l, 0)) := Lib.hid (by rw [Hdec.out]; rfl)
      clear hv
      go_wp2
      refine bodyPost_ret (results_ct rfl _ _ _ _ _ _ _ rfl (F.out _).1 Try.underlying24 rfl (by kernel_rfl)) rfl ?_
      rw [Hd.out]
      exact ⟨_, rfl, (F.out _).2.1, (F.out _).2.2⟩
  · rw [hre] at Hdec ⊢
    have Hd : Hid (decT b = ([], 4)) := Lib.hid (by rw [Hdec.out]; rfl)
    have f4 := box_free Hy4.out 0
    have e4 := box_at Hy4.out (j := 0) rfl
    have F := Lib.hid (fun v => Hfin.out w4 v (Below.refl _ _))
    go_wp2
    refine bodyPost_ret (results_ct rfl _ _ _ _ _ _ _ rfl (F.out _).1 Try.underlying24 rfl (by kernel_rfl)) rfl ?_
    rw [Hd.out]
    exact ⟨_, rfl, World.ownsRow_nil _ _ _ _, (F.out _).2.2⟩
end Go.Proofs.Ytdelemmoiaiooaa
