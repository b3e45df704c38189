/- Space: Sort, Compact on own rows; Frames, the reference's Protect, Find, Unmap -/
import Derived.Test.YtlomhelcphhinaaTc
import Derived.Test.YtlomhelcphhinaaSn
import Derived.Test.YtlomhelcphhinaaOn
import Derived.Test.YtlomhelcphhinaaZs
import Derived.Test.YtlomhelcphhinaaShelf
namespace Go.Sp
open Go Go.RowKit Go.Bs
/-- the frames of the entries -/
def frm (l : List Ent) : List Int := l.map (·.f)
theorem frm_take {l : List Ent} {k : Nat} (hk : k < l.length) : frm (l.take (k + 1)) = frm (l.take k) ++ [(ent l k).f] := by
  unfold frm
  rw [List.take_add_one, ent_get hk, List.map_append]; rfl
theorem prot_take {l : List Ent} {k : Nat} (hk : k < l.length) : prot (l.take (k + 1)) = prot (l.take k) ++ [(ent l k).ro] := by
  unfold prot
  rw [List.take_add_one, ent_get hk, List.map_append]; rfl
theorem look_no {l : List Ent} {p : Int} (h : ∀ j, j < l.length → (ent l j).p ≠ p) : look l p = none := by
  unfold look
  rw [List.find?_eq_none]
  intro x hx
  obtain ⟨j, hj, rfl⟩ := List.getElem_of_mem hx
  have := h j hj
  simp [ent, hj] at this
  simpa using this
theorem look_yes {l : List Ent} {p : Int} {k : Nat} (hk : k < l.length) (h : (ent l k).p = p) : (look l p).isSome = true := by
  unfold look
  rw [List.find?_isSome]
  exact ⟨ent l k, List.mem_of_getElem? (ent_get hk), by simpa using h⟩
end Go.Sp
namespace Go.Proofs.Ytlomhelcphhinaa
open Go.RowKit Go.Bs Go.Sp Go.Cl Go.Rw Go.Dt Go.Sort Go.So
theorem sort_own {base n : Nat} {v : Value} {l : List Int} {w : World} (h : w.ownsRow base 3 1 v n (l.map (Value.int .i64))) (hn : n ≤ 1000) (hb : base ≤ w.heap.size) :
    Calls Try.prog 38 #[v] w fun e w' => e = .returned (.tuple #[]) ∧ w'.ownsRow base 3 1 v n ((l.mergeSort fun x y => decide (x ≤ y)).map (Value.int .i64)) ∧ Below base w w' := by
  have hl : l.length = n := by have := h.1; simpa using this
  rcases own_cases h with ⟨rfl, rfl, h0⟩ | ⟨g, cap, rfl, h1, h2, h3⟩
  · have : l = [] := by simpa using h0
    subst this
    refine (Try.slices_Sort_int_none none 0 w).mono ?_
    rintro e w' ⟨rfl, rfl⟩
    exact ⟨rfl, by simpa using h, Below.refl _ _⟩
  · subst hl
    refine (Try.slices_Sort_int g 0 cap l w (holds_own _ h) h2 (by omega)).mono ?_
    rintro e w' ⟨rfl, q, os, rfl⟩
    exact ⟨rfl, own_put _ h _ (by simp) q os, (keep_put _ w g q os _).below hb (fun f hf => by rw [List.mem_singleton.1 hf]; exact h1)⟩
theorem compact_len (l : List Int) : (Lib.compact l).length ≤ l.length := by
  unfold Lib.compact Lib.compactUpTo
  rw [List.length_map]
  exact Nat.le_trans (List.length_filter_le _ _) (by simp)
theorem compact_own {base n : Nat} {v : Value} {l : List Int} {w : World} (h : w.ownsRow base 3 1 v n (l.map (Value.int .i64))) (hn : n ≤ 1000) (hb : base ≤ w.heap.size) :
    Calls Try.prog 39 #[v] w fun e w' => ∃ v', e = .returned v' ∧ w'.ownsRow base 3 1 v' (Lib.compact l).length ((Lib.compact l).map (Value.int .i64)) ∧ Below base w w' := by
  have hl : l.length = n := by have := h.1; simpa using this
  rcases own_cases h with ⟨rfl, rfl, h0⟩ | ⟨g, cap, rfl, h1, h2, h3⟩
  · have : l = [] := by simpa using h0
    subst this
    refine (Try.slices_Compact_int_empty none 0 w).mono ?_
    rintro e w' ⟨rfl, rfl⟩
    exact ⟨_, rfl, by simpa [Lib.compact, Lib.compactUpTo] using h, Below.refl _ _⟩
  · subst hl
    refine (Try.slices_Compact_int g 0 cap l w (holds_own _ h) (by omega) h3).mono ?_
    rintro e w' ⟨rfl, q, rfl⟩
    have hk := keep_put (Value.int .i64) w g q #[] (Lib.compact l ++ List.replicate (l.length - (Lib.compact l).length) 0).toArray
    have ho := own_compact (Value.int .i64) h (Lib.compact l) (l.length - (Lib.compact l).length) 0 (by have := compact_len l; omega) q #[]
    rw [grow_empty] at hk ho
    exact ⟨_, rfl, ho, hk.below hb (fun f hf => by rw [List.mem_singleton.1 hf]; exact h1)⟩

set_option maxRecDepth 100000 in
set_option maxHeartbeats 1000000 in
theorem ints_same (l : List Int) (v1 v2 : Value) (w : World) (hl : l.length ≤ 1000) (h1 : Ints [] w v1 l) (h2 : Ints [] w v2 l) :
    Calls Try.prog 27 #[v1, v2] w fun e w' => e = .returned (.bool true) ∧ Below w.heap.size w w' := by
  obtain ⟨a1, c1, rfl⟩ := Raw.slice h1
  obtain ⟨a2, c2, rfl⟩ := Raw.slice h2
  have H1 := Lib.hid h1; have H2 := Lib.hid h2; clear h1 h2
  go_enter Try.func27, Try.ntmps27
  go_wp2
  go_loopw [5] (fun i wr => ∃ k : Nat, k ≤ l.length ∧ i = .int .i64 k ∧ Below w.heap.size w wr) (fun i _ => l.length - (intOf i).toNat)
  case atStart => exact ⟨0, Nat.zero_le _, rfl, Below.refl _ _⟩
  case round =>
    obtain ⟨k, hk, rfl, hbel⟩ := hrel
    have HB := Lib.hid hbel
    by_cases hlt : k < l.length
    · obtain ⟨b, off, c', e', hb, h0⟩ := Ints.elem (Raw.below H1.out hbel) hlt
      obtain ⟨b2, off2, c2', e2', hb2, h02⟩ := Ints.elem (Raw.below H2.out hbel) hlt
      cases e'; cases e2'
      generalize l[k] = x at h0 h02
      have hx : (x != x) = false := by simp
      clear hbel
      go_wp2
      refine Txt.wp_txt (by kernel_rfl) (by kernel_rfl) ?_
      go_wp2
      refine Txt.DrawPost.mk0 (by rfl) ?_
      go_wp2
      go_roundw
      case rel => exact ⟨k + 1, by omega, by go_num, HB.out.drew⟩
      case measure => simp [intOf]; omega
    · obtain rfl : k = l.length := by omega
      clear hbel
      go_wp2
      go_ret
      exact ⟨rfl, HB.out⟩

theorem el66 : Rw.Elem Try.prog 66 3 1 8 (.int .i64 0) := ⟨Try.underlying66, by kernel_rfl, rfl, by decide⟩
theorem el23 : Rw.Elem Try.prog 23 50 3 24 (.agg #[.int .i64 0, .int .i64 0, .bool false]) := ⟨Try.underlying23, by kernel_rfl, rfl, by decide⟩
theorem ints_block {W : World} {g : Nat} {l : List Int} (h : W.heap[g]? = some (.cells (l.map (Value.int .i64)).toArray 3 (0, 0))) (hl : l.length ≤ 1000) : Ints [] W (.slice (some ⟨g, 0, none⟩) l.length l.length) l :=
  Raw.of_block h (by simp) (ivs_one l) (by simp) (Nat.le_refl _) (by unfold maxLen; omega)
theorem ent_block {W : World} {g : Nat} {x : Ent} (h : W.heap[g]? = some (.cells #[.int .i64 x.p, .int .i64 x.f, .bool x.wr] 50 (0, 0))) : Raw [] 3 W (.slice (some ⟨g, 0, none⟩) 1 1) 1 (encE x) :=
  Raw.of_block (ys := encE x) h (by simp) (fun u hu => by simp [encE] at hu; rcases hu with rfl | rfl | rfl <;> rfl) rfl (Nat.le_refl _) (by unfold maxLen; omega)
/-- an entry of a slice -/
theorem SlE.elem {w : World} {a : Option Addr} {n c : Nat} {l : List Ent} (h : SlE w (.slice a n c) l) {i : Nat} (hi : i < l.length) :
    ∃ b off, a = some ⟨b, off, none⟩ ∧ b < w.heap.size ∧ w.cell? ⟨b, off + i * 3, none⟩ = some (.int .i64 (ent l i).p) ∧ w.cell? ⟨b, off + i * 3 + 1, none⟩ = some (.int .i64 (ent l i).f) ∧ w.cell? ⟨b, off + i * 3 + 2, none⟩ = some (.bool (ent l i).wr) := by
  obtain ⟨a', cap', hv, _, hh⟩ := h
  cases hv
  obtain ⟨b, off, rfl, hb, he⟩ := hh (by omega)
  exact ⟨b, off, rfl, hb, (he i hi).1, (he i hi).2.1, (he i hi).2.2⟩
set_option maxRecDepth 100000 in
set_option maxHeartbeats 2000000 in
theorem frames_sl (v : Value) (l : List Ent) (w : World) (hl : l.length ≤ 60) (hs : SlE w v l) :
    Calls Try.prog 28 #[v] w fun e w' => ∃ v', e = .returned v' ∧ w'.ownsRow w.heap.size 3 1 v' (once (frm l)).length ((once (frm l)).map (Value.int .i64)) ∧ Below w.heap.size w w' := by
  have HS := Lib.hid hs
  obtain ⟨a, cap, rfl, _, _⟩ := hs
  go_enter Try.func28, Try.ntmps28
  go_wp2
  go_loopw [3, 8] (fun v i wr => ∃ k : Nat, k ≤ l.length ∧ i = .int .i64 k ∧ wr.ownsRow w.heap.size 3 1 v k ((frm (l.take k)).map (Value.int .i64)) ∧ Below w.heap.size w wr) (fun _ i _ => l.length - (intOf i).toNat)
  case atStart => exact ⟨0, Nat.zero_le _, rfl, World.ownsRow_nil _ _ _ _, Below.refl _ _⟩
  case round =>
    obtain ⟨k, hk, rfl, hown, hbel⟩ := hrel
    obtain ⟨av, cv, rfl⟩ := own_slice hown
    have HO := Lib.hid hown
    have HB := Lib.hid hbel
    have hsz := hbel.size
    clear hown hbel
    by_cases hlt : k < l.length
    · obtain ⟨b, off, e', hb, h0, h1, h2⟩ := SlE.elem (HS.out.below HB.out) hlt
      cases e'
      have HT := Lib.hid (frm_take hlt)
      obtain ⟨x, hx⟩ : ∃ x, x = ent l k := ⟨_, rfl⟩
      rw [← hx] at h0 h1 h2 HT
      clear hx
      obtain ⟨xp, xf, xw⟩ := x
      simp only at h0 h1 h2 HT
      have hb2 := (HB.out.alloc hsz (.cells #[.int .i64 xp, .int .i64 xf, .bool xw] 53)).alloc (by simp; omega) (.cells #[.int .i64 xf] 3)
      have Hx := Lib.hid (ints_block (W := (wr.alloc (.cells #[.int .i64 xp, .int .i64 xf, .bool xw] 53)).alloc (.cells #[.int .i64 xf] 3)) (g := wr.heap.size + 1) (l := [xf]) (by have := heap_alloc_new (wr.alloc (.cells #[.int .i64 xp, .int .i64 xf, .bool xw] 53)) (.cells #[.int .i64 xf] 3); simpa using this) (by simp))
      go_wp2_with (at_builtin; refine wpList_app el66 Try.underlying66 ((HO.out.alloc _).alloc _) Hx.out hb2 rfl _ _ rfl rfl rfl ?c3 (Nat.le_refl _) ?c5 ?_)
      case c3 => simp; omega
      case c5 => first | omega | (simp; omega)
      intro v2 w2 hown2 hb3 hg2 hs2
      have HO2 : Hid (w2.ownsRow w.heap.size 3 1 v2 (k + 1) ((frm (l.take (k + 1))).map (Value.int .i64))) := Lib.hid (by rw [HT.out]; simpa using hown2)
      have HB2 := Lib.hid hb3
      clear hown2 hb3 hg2 hb2
      go_wp2
      go_roundw
      case rel => exact ⟨k + 1, by omega, by go_num, HO2.out, HB2.out⟩
      case measure => simp [intOf]; omega
    · obtain rfl : k = l.length := by omega
      rw [List.take_length] at HO
      go_wp2_with fail
      refine (sort_own HO.out (by omega) hsz).mono ?_
      rintro e w2 ⟨rfl, hown2, hb2⟩
      have HO2 := Lib.hid hown2
      have HB2 := Lib.hid (HB.out.trans hb2)
      clear hown2 hb2
      go_wp2_with fail
      refine (compact_own HO2.out (by omega) HB2.out.size).mono ?_
      rintro e w3 ⟨v3, rfl, hown3, hb3⟩
      have HO3 := Lib.hid hown3
      have HB3 := Lib.hid (HB2.out.trans hb3)
      clear hown3 hb3
      go_wp2
      go_ret
      exact ⟨_, rfl, HO3.out, HB3.out⟩
set_option maxRecDepth 100000 in
set_option maxHeartbeats 2000000 in
theorem rprotect_sl (v : Value) (l : List Ent) (w : World) (hl : l.length ≤ 60) (hs : SlE w v l) :
    Calls Try.prog 26 #[v] w fun e w' => ∃ v', e = .returned v' ∧ w'.ownsRow w.heap.size 50 3 v' (prot l).length ((prot l).flatMap encE) ∧ Below w.heap.size w w' := by
  have HS := Lib.hid hs
  obtain ⟨a, cap, rfl, _, _⟩ := hs
  go_enter Try.func26, Try.ntmps26
  go_wp2
  go_loopw [3, 4] (fun v i wr => ∃ k : Nat, k ≤ l.length ∧ i = .int .i64 k ∧ wr.ownsRow w.heap.size 50 3 v k ((prot (l.take k)).flatMap encE) ∧ Below w.heap.size w wr) (fun _ i _ => l.length - (intOf i).toNat)
  case atStart => exact ⟨0, Nat.zero_le _, rfl, World.ownsRow_nil _ _ _ _, Below.refl _ _⟩
  case round =>
    obtain ⟨k, hk, rfl, hown, hbel⟩ := hrel
    obtain ⟨av, cv, rfl⟩ := own_slice hown
    have HO := Lib.hid hown
    have HB := Lib.hid hbel
    have hsz := hbel.size
    clear hown hbel
    by_cases hlt : k < l.length
    · obtain ⟨b, off, e', hb, h0, h1, h2⟩ := SlE.elem (HS.out.below HB.out) hlt
      cases e'
      have HT := Lib.hid (prot_take hlt)
      obtain ⟨x, hx⟩ : ∃ x, x = ent l k := ⟨_, rfl⟩
      rw [← hx] at h0 h1 h2 HT
      clear hx
      obtain ⟨xp, xf, xw⟩ := x
      simp only [Ent.ro] at h0 h1 h2 HT
      have hb2 : Below w.heap.size w (wr.drew.alloc (.cells #[.int .i64 xp, .int .i64 xf, .bool false] 50)) := HB.out.drew.alloc hsz _
      have Hx := Lib.hid (ent_block (W := wr.drew.alloc (.cells #[.int .i64 xp, .int .i64 xf, .bool false] 50)) (g := wr.heap.size) (x := ⟨xp, xf, false⟩) (heap_alloc_new wr.drew _))
      have HOd : Hid (wr.drew.ownsRow w.heap.size 50 3 (.slice av k cv) k ((prot (l.take k)).flatMap encE)) := Lib.hid (own_drew HO.out)
      go_wp2
      refine Txt.wp_txt (by kernel_rfl) (by kernel_rfl) ?_
      go_wp2_with (at_builtin; refine wpList_app el23 Try.underlying23 (HOd.out.alloc _) Hx.out hb2 rfl _ _ rfl rfl rfl ?c3 (Nat.le_refl _) ?c5 ?_)
      case c3 => simp; omega
      case c5 => first | omega | (simp; omega)
      intro v2 w2 hown2 hb3 hg2 hs2
      have HO2 : Hid (w2.ownsRow w.heap.size 50 3 v2 (k + 1) ((prot (l.take (k + 1))).flatMap encE)) := Lib.hid (by rw [HT.out]; simpa using hown2)
      have HB2 := Lib.hid hb3
      clear hown2 hb3 hg2 hb2
      go_wp2
      refine Txt.DrawPost.mk0 (by rfl) ?_
      go_wp2
      go_roundw
      case rel => exact ⟨k + 1, by omega, by go_num, HO2.out, HB2.out⟩
      case measure => simp [intOf]; omega
    · obtain rfl : k = l.length := by omega
      rw [List.take_length] at HO
      go_wp2
      go_ret
      exact ⟨_, rfl, by rw [prot_len]; exact HO.out, HB.out⟩
set_option maxRecDepth 100000 in
set_option maxHeartbeats 2000000 in
theorem rfind_sl (v : Value) (l : List Ent) (p : Int) (w : World) (hl : l.length ≤ 60) (hs : SlE w v l) :
    Calls Try.prog 37 #[v, .int .i64 p] w fun e w' => (∃ (a b : Int) (c : Bool), e = .returned (.tuple #[.agg #[.int .i64 a, .int .i64 b, .bool c], .bool (Sp.look l p).isSome])) ∧ Below w.heap.size w w' := by
  have HS := Lib.hid hs
  obtain ⟨a, cap, rfl, _, _⟩ := hs
  obtain ⟨R, hR⟩ : ∃ R, R = w.heap.size := ⟨_, rfl⟩
  obtain ⟨u, hu⟩ : ∃ u, u = w.alloc (.cells #[.int .i64 0, .int .i64 0, .bool false] 50) := ⟨_, rfl⟩
  have HU := Lib.hid hu
  have HRu : Hid (u.heap[R]? = some (.cells #[.int .i64 0, .int .i64 0, .bool false] 50 (0, 0))) := Lib.hid (by rw [hu, hR]; exact heap_alloc_new w _)
  have HBu : Hid (Below w.heap.size w u) := Lib.hid (by rw [hu]; exact (Below.refl _ w).alloc (Nat.le_refl _) _)
  have hwR : w.heap.size ≤ R := by omega
  clear hu
  go_enter Try.func37, Try.ntmps37
  go_upto_region 1 with (fail)
  rw [← HU.out, ← hR]
  clear hR HU
  go_wp2
  go_loopw [6] (fun i wr => ∃ k : Nat, k ≤ l.length ∧ i = .int .i64 k ∧ u = wr ∧ ∀ j, j < k → (ent l j).p ≠ p) (fun i _ => l.length - (intOf i).toNat)
  case atStart => exact ⟨0, Nat.zero_le _, rfl, rfl, fun j hj => absurd hj (Nat.not_lt_zero _)⟩
  case round =>
    obtain ⟨k, hk, rfl, rfl, hno⟩ := hrel
    have HN := Lib.hid hno
    clear hno
    have r0 := box_at HRu.out (j := 0) rfl
    have r1 := box_at HRu.out (j := 1) rfl
    have r2 := box_at HRu.out (j := 2) rfl
    have f0 := box_free HRu.out 0
    have f1 := box_free HRu.out 1
    have f2 := box_free HRu.out 2
    by_cases hlt : k < l.length
    · obtain ⟨b, off, e', hb, h0, h1, h2⟩ := SlE.elem (HS.out.below HBu.out) hlt
      cases e'
      obtain ⟨x, hx⟩ : ∃ x, x = ent l k := ⟨_, rfl⟩
      rw [← hx] at h0 h1 h2
      have HX := Lib.hid hx
      clear hx
      by_cases hp : x.p = p
      · have HL := Lib.hid (look_yes hlt (HX.out ▸ hp))
        go_wp2
        refine bodyPost_ret (results_ct rfl _ _ _ _ _ _ _ rfl (heap_set3 HRu.out _ _ _) Try.underlying50 rfl (by kernel_rfl)) rfl ?_
        exact ⟨⟨p, x.f, x.wr, by rw [HL.out]; rfl⟩, below_set (below_set (below_set HBu.out hwR _) hwR _) hwR _⟩
      · have hpb : (x.p == p) = false := by simpa using hp
        go_wp2
        go_roundw
        case rel => exact ⟨k + 1, by omega, by go_num, trivial, fun j hj => by
          by_cases e : j = k
          · subst e; rw [← HX.out]; exact hp
          · exact HN.out j (by omega)⟩
        case measure => simp [intOf]; omega
    · obtain rfl : k = l.length := by omega
      have HL := Lib.hid (look_no HN.out)
      go_wp2
      refine bodyPost_ret (results_ct rfl _ _ _ _ _ _ _ rfl (heap_set3 HRu.out _ _ _) Try.underlying50 rfl (by kernel_rfl)) rfl ?_
      exact ⟨⟨0, 0, false, by rw [HL.out]; rfl⟩, below_set (below_set (below_set HBu.out hwR _) hwR _) hwR _⟩
set_option maxRecDepth 100000 in
set_option maxHeartbeats 2000000 in
theorem runmap_sl (v : Value) (l : List Ent) (p : Int) (w : World) (hl : l.length ≤ 60) (hs : SlE w v l) :
    Calls Try.prog 25 #[v, .int .i64 p] w fun e w' => ∃ v', e = .returned (.tuple #[v', .int .i64 (unmapE l p).2]) ∧ w'.ownsRow w.heap.size 50 3 v' (unmapE l p).1.length ((unmapE l p).1.flatMap encE) ∧ Below w.heap.size w w' := by
  have HS := Lib.hid hs
  obtain ⟨a, cap, rfl, _, _⟩ := hs
  cases hv : validB l
  · have hu : unmapE l p = ([], 1) := by unfold unmapE; rw [hv]; rfl
    rw [hu]
    have Hv := Lib.hid hv
    clear hu hv
    go_enter Try.func25, Try.ntmps25
    go_wp2_with fail
    refine (rvalid_sl HS.out (by omega)).mono ?_
    rw [Hv.out]
    rintro e w1 ⟨rfl, hb1⟩
    go_wp2
    go_ret2
    exact ⟨_, rfl, World.ownsRow_nil _ _ _ _, hb1⟩
  · have Hv := Lib.hid hv
    cases hk : (Sp.look l p).isSome
    · have hu : unmapE l p = ([], 8) := by unfold unmapE; rw [hv, hk]; rfl
      rw [hu]
      have Hk := Lib.hid hk
      clear hu hv hk
      go_enter Try.func25, Try.ntmps25
      go_wp2_with fail
      refine (rvalid_sl HS.out (by omega)).mono ?_
      rw [Hv.out]
      rintro e w1 ⟨rfl, hb1⟩
      go_wp2_with fail
      refine (rfind_sl _ l p _ hl (HS.out.below hb1)).mono ?_
      rw [Hk.out]
      rintro e w2 ⟨⟨x, y, z, rfl⟩, hb2⟩
      have hB2 := hb1.trans (hb2.mono hb1.size)
      go_wp2
      go_ret2
      exact ⟨_, rfl, World.ownsRow_nil _ _ _ _, hB2.alloc hB2.size _⟩
    · have hu : unmapE l p = (wo l p, 0) := by unfold unmapE; rw [hv, hk]; rfl
      rw [hu]
      have Hk := Lib.hid hk
      clear hu hv hk
      go_enter Try.func25, Try.ntmps25
      go_wp2_with fail
      refine (rvalid_sl HS.out (by omega)).mono ?_
      rw [Hv.out]
      rintro e w1 ⟨rfl, hb1⟩
      go_wp2_with fail
      refine (rfind_sl _ l p _ hl (HS.out.below hb1)).mono ?_
      rw [Hk.out]
      rintro e w2 ⟨⟨x, y, z, rfl⟩, hb2⟩
      have hB2 := hb1.trans (hb2.mono hb1.size)
      have hB3 := hB2.alloc hB2.size (.cells #[.int .i64 x, .int .i64 y, .bool z] 50)
      go_wp2_with fail
      refine (without_sl _ l p _ (by omega) (HS.out.below hB3)).mono ?_
      rintro e w3 ⟨v3, rfl, hown3, hb3⟩
      have HO3 := Lib.hid (own_base hown3 hB3.size)
      have HB3 := Lib.hid (hB3.trans (hb3.mono hB3.size))
      clear hown3 hb3 hB3 hB2
      go_wp2
      go_ret2
      exact ⟨_, rfl, HO3.out, HB3.out⟩
end Go.Proofs.Ytlomhelcphhinaa
