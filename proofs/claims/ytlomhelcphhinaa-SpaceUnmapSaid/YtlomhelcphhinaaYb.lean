/- Space: the reference's Frames -/
import Derived.Test.YtlomhelcphhinaaYa
namespace Go.Sp
open Go
theorem ins_ok {o : List Int} (h : o.Pairwise (· < ·)) {k : Nat} {x : Int} (hk : k ≤ o.length) (hlo : ∀ j, (hj : j < o.length) → j < k → o[j] < x) (hhi : ∀ hk : k < o.length, x < o[k]) (fs : List Int) (hm : ∀ y, y ∈ o ↔ y ∈ fs) :
    (o.take k ++ [x] ++ o.drop k).Pairwise (· < ·) ∧ ∀ y, y ∈ o.take k ++ [x] ++ o.drop k ↔ y ∈ fs ++ [x] := by
  have ht : ∀ z ∈ o.take k, z < x := by
    intro z hz
    obtain ⟨i, hi, rfl⟩ := List.mem_iff_getElem.1 hz
    have hi' : i < k ∧ i < o.length := by simp at hi; omega
    rw [List.getElem_take]
    exact hlo i hi'.2 hi'.1
  have hd : ∀ z ∈ o.drop k, x < z := by
    intro z hz
    obtain ⟨i, hi, rfl⟩ := List.mem_iff_getElem.1 hz
    have hi' : k + i < o.length := by simp at hi; omega
    rw [List.getElem_drop]
    have h1 := hhi (by omega)
    by_cases e : i = 0
    · subst e; exact h1
    · have := List.pairwise_iff_getElem.1 h k (k + i) (by omega) hi' (by omega); omega
  have e : o = o.take k ++ o.drop k := (List.take_append_drop k o).symm
  refine ⟨?_, fun y => ?_⟩
  · rw [List.append_assoc, List.pairwise_append]
    refine ⟨h.sublist (List.take_sublist _ _), ?_, fun a ha b hb => ?_⟩
    · rw [List.singleton_append, List.pairwise_cons]
      exact ⟨hd, h.sublist (List.drop_sublist _ _)⟩
    · rw [List.singleton_append, List.mem_cons] at hb
      rcases hb with rfl | hb
      · exact ht a ha
      · have := ht a ha; have := hd b hb; omega
  · rw [List.mem_append, List.mem_append, List.mem_append, ← hm y]
    have : y ∈ o ↔ y ∈ o.take k ∨ y ∈ o.drop k := by rw [← List.mem_append, List.take_append_drop]
    rw [this]
    constructor
    · rintro ((h | h) | h)
      · exact .inl (.inl h)
      · exact .inr h
      · exact .inl (.inr h)
    · rintro ((h | h) | h)
      · exact .inl (.inl h)
      · exact .inr h
      · exact .inl (.inr h)
end Go.Sp
namespace Go.Proofs.Ytlomhelcphhinaa
open Go.RowKit Go.Bs Go.Sp Go.Cl Go.Rw Go.Dt Go.Sort Go.So
set_option maxRecDepth 100000 in
set_option maxHeartbeats 8000000 in
theorem rframes_sl (v : Value) (l : List Ent) (w : World) (hl : l.length ≤ 60) (hs : SlE w v l) :
    Calls Try.prog 29 #[v] w fun e w' => ∃ v', e = .returned v' ∧ w'.ownsRow w.heap.size 3 1 v' (once (frm l)).length ((once (frm l)).map (Value.int .i64)) ∧ Below w.heap.size w w' := by
  have HS := Lib.hid hs
  obtain ⟨a, cap, rfl, _, _⟩ := hs
  go_enter Try.func29, Try.ntmps29
  go_wp2
  go_loopw [3, 4] (fun v i wr => ∃ (k : Nat) (o : List Int), k ≤ l.length ∧ i = .int .i64 k ∧ wr.ownsRow w.heap.size 3 1 v o.length (o.map (Value.int .i64)) ∧ o.Pairwise (· < ·) ∧ (∀ y, y ∈ o ↔ y ∈ frm (l.take k)) ∧ o.length ≤ k ∧ Below w.heap.size w wr) (fun _ i _ => l.length - (intOf i).toNat)
  case atStart => exact ⟨0, [], Nat.zero_le _, rfl, World.ownsRow_nil _ _ _ _, List.Pairwise.nil, fun y => by simp [frm], Nat.le_refl _, Below.refl _ _⟩
  case round =>
    rename World => wo
    obtain ⟨i, o, hi, rfl, hown, hsrt, hmem, hol, hbel⟩ := hrel
    obtain ⟨a3, c3, rfl⟩ := own_slice hown
    have HO := Lib.hid hown; have HSR := Lib.hid hsrt; have HM := Lib.hid hmem; have HB := Lib.hid hbel
    have hwo := hbel.size
    clear hown hsrt hmem hbel
    by_cases hlt : i < l.length
    · obtain ⟨b, off, e', hb, hx0, hx1', hx2⟩ := SlE.elem HS.out hlt
      cases e'
      have HT := Lib.hid (frm_take hlt)
      generalize (ent l i).f = x at hx1' HT
      have HX1 := Lib.hid hx1'
      clear hx0 hx1' hx2
      go_wp2
      go_loopw [5] (fun kk wk => ∃ k : Nat, k ≤ o.length ∧ kk = .int .i64 k ∧ (∀ j, (hj : j < o.length) → j < k → o[j] < x) ∧ Below wo.heap.size wo wk) (fun kk _ => o.length - (intOf kk).toNat)
      case atStart => exact ⟨0, Nat.zero_le _, rfl, fun j _ hj => absurd hj (Nat.not_lt_zero _), Below.refl _ _⟩
      case round =>
        rename World => wk
        obtain ⟨k, hk, rfl, hlo, hbk⟩ := hrel
        have HLO := Lib.hid hlo; have HBK := Lib.hid hbk
        have HBW : Hid (Below w.heap.size w wk) := Lib.hid (HB.out.trans (hbk.mono hwo))
        have hwk := hbk.size
        have hx1 := (HBW.out.cell (p := ⟨b, off + i * 3 + 1, none⟩) hb).trans HX1.out
        have HOk := Lib.hid (own_below HO.out hbk (Nat.le_refl _))
        have HIk := Lib.hid (Ints.of_own HOk.out)
        have hwkb : b < wk.heap.size := by omega
        obtain ⟨u0, hu0'⟩ : ∃ u0, u0 = wk.drew.drew.drew := ⟨_, rfl⟩
        have HU0 := Lib.hid hu0'
        have hu0 : w.heap.size ≤ u0.heap.size := by rw [hu0']; show w.heap.size ≤ wk.heap.size; omega
        have hub : b < u0.heap.size := by rw [hu0']; exact hwkb
        have HBU : Hid (Below w.heap.size w u0) := Lib.hid (by rw [hu0']; exact HBW.out.drew.drew.drew)
        have HRO : Hid (Ints [] u0 (.slice a3 o.length c3) o) := Lib.hid (by rw [hu0']; exact HIk.out)
        clear hu0'
        clear hlo hbk
        by_cases hko : k < o.length
        · obtain ⟨b2, off2, c2, e2, hb2, h2⟩ := Ints.elem HIk.out hko
          cases e2
          obtain ⟨y, hy⟩ : ∃ y, y = o[k] := ⟨_, rfl⟩
          rw [← hy] at h2
          have HY := Lib.hid hy
          clear hy
          by_cases hyx : y < x
          · go_wp2
            refine Txt.wp_txt (by kernel_rfl) (by kernel_rfl) ?_
            go_wp2
            refine Txt.DrawPost.mk0 (by rfl) ?_
            go_wp2
            go_roundw
            case rel => exact ⟨k + 1, by omega, by go_num, fun j hj hjk => by
              by_cases e : j = k
              · subst e; rw [← HY.out]; exact hyx
              · exact HLO.out j hj (by omega), HBK.out.drew⟩
            case measure => simp [intOf]; omega
          · by_cases hyx2 : y = x
            · have hnn : (y != x) = false := by simp [hyx2]
              go_wp2
              refine Txt.wp_txt (by kernel_rfl) (by kernel_rfl) ?_
              go_wp2
              refine Txt.DrawPost.mk0 (by rfl) ?_
              go_wp2
              refine Txt.wp_txt (by kernel_rfl) (by kernel_rfl) ?_
              go_wp2
              refine Txt.DrawPost.mk0 (by rfl) ?_
              go_wp2
              go_roundw
              case rel => exact ⟨i + 1, o, by omega, by go_num, HOk.out, HSR.out, fun z => by
                rw [HT.out, List.mem_append, List.mem_singleton, ← HM.out z]
                exact ⟨fun h => .inl h, fun h => h.elim id fun h => by rw [h, ← hyx2, HY.out]; exact List.getElem_mem hko⟩, by omega, HBW.out.drew.drew⟩
              case measure => simp [intOf]; omega
            · have hnn : (y != x) = true := by simpa using hyx2
              have HIS := Lib.hid (ins_ok HSR.out hk HLO.out (fun h => by rw [← HY.out]; omega) _ HM.out)
              rw [← HT.out] at HIS
              go_wp2
              refine Txt.wp_txt (by kernel_rfl) (by kernel_rfl) ?_
              go_wp2
              refine Txt.DrawPost.mk0 (by rfl) ?_
              go_wp2
              refine Txt.wp_txt (by kernel_rfl) (by kernel_rfl) ?_
              go_wp2
              refine Txt.DrawPost.mk0 (by rfl) ?_
              have hKo : k ≤ o.length := by omega
              obtain ⟨a1', hs1, hr1⟩ := Raw.upto (P := Try.prog) (show Raw [] 1 u0 (.slice _ o.length _) o.length (o.map (Value.int .i64)) from HRO.out) Try.underlying66 (by kernel_rfl : (Try.prog.info? 3).map (·.size) = some 1) hKo
              obtain ⟨a2', hs2, hr2⟩ := Raw.from (P := Try.prog) (show Raw [] 1 u0 (.slice _ o.length _) o.length (o.map (Value.int .i64)) from HRO.out) Try.underlying66 (by kernel_rfl : (Try.prog.info? 3).map (·.size) = some 1) hKo

              have HR1 := Lib.hid hr1; have HR2 := Lib.hid hr2
              clear hr1 hr2
              have hBl : ∀ q ∈ [b], ∃ c e f, wk.heap[q]? = some (.cells c e f) := fun q hq => by rw [List.mem_singleton.1 hq]; exact Txt.cells_of hx1
              have HS0 : Hid (Txt.SameB [b] u0 u0) := Lib.hid (by rw [HU0.out]; exact same_start (w := wk.drew.drew) hBl)
              have HB0 : Hid (Below u0.heap.size u0 u0) := Lib.hid (Below.refl _ _)
              go_upto_region 9 with (fail)
              refine Txt.Ty.wp_tree [b] [9] [10, 11, 15] [9] [1, 2, 3, 5, 6, 7, 8, 9, 12, 13, 14] (.alt [0] (.alt [4] (.alt [10] (.alt [11] (.alt [15, 16] (.done) (.no)) (.no)) (.no)) (.alt [10] (.alt [4] (.alt [11] (.alt [15, 16] (.done) (.no)) (.no)) (.no)) (.no))) (.alt [10] (.alt [0] (.alt [4] (.alt [11] (.alt [15, 16] (.done) (.no)) (.no)) (.no)) (.no)) (.no))) (by kernel_rfl) (by kernel_rfl) (by kernel_rfl) (by kernel_rfl) hBl ?_
              clear hBl
              rw [← HU0.out]
              have hxu : u0.cell? ⟨b, off + i * 3 + 1, none⟩ = some (.int .i64 x) := by rw [HU0.out]; exact hx1
              (try simp only [Txt.pick, List.getElem?_cons_succ, List.getElem?_cons_zero])
              go_wp2
              refine Txt.RunPost.mk ?_
              refine Txt.Ty.wpTr_alt ?_ ?_
              · (try simp only [Txt.pick, List.getElem?_cons_succ, List.getElem?_cons_zero])
                go_wp2
                refine Txt.SegPost.mk (Txt.Ty.Shown.same (same_below' HS0.out ((Below.refl _ u0).alloc (Nat.le_refl _) _))) ?_
                (try simp only [Txt.pick, List.getElem?_cons_succ, List.getElem?_cons_zero])
                go_wp2
                refine Txt.RunPost.mk ?_
                obtain ⟨u1, hu1⟩ : ∃ u1, u1 = u0.alloc (.cells #[] 3) := ⟨_, rfl⟩
                obtain ⟨g0, hg0⟩ : ∃ g0, g0 = u0.heap.size := ⟨_, rfl⟩
                rw [← hu1, ← hg0]
                have hb1 : Below u0.heap.size u0 u1 := by rw [hu1]; exact (Below.refl _ u0).alloc (Nat.le_refl _) _
                have HB1 := Lib.hid (HB0.out.trans (hb1.mono HB0.out.size))
                have HS1 := Lib.hid (same_below' HS0.out hb1)
                have hz1 := HB1.out.size
                have HE1 : Hid (u1.ownsRow u0.heap.size 3 1 (.slice (some ⟨g0, 0, none⟩) 0 0) 0 []) := Lib.hid (by rw [hu1, hg0]; exact own_empty u0 _ _ _ HB0.out.size)
                clear hu1 hb1 hg0
                refine Txt.Ty.wpTr_alt ?_ ?_
                · (try simp only [Txt.pick, List.getElem?_cons_succ, List.getElem?_cons_zero])
                  have Hr1 := Lib.hid (Raw.below HR1.out HB1.out)
                  have hb1 := HB1.out
                  go_wp2_with (at_builtin; refine wpList_app el66 Try.underlying66 HE1.out Hr1.out hb1 rfl _ _ rfl rfl rfl ?c3 (Nat.le_refl _) ?c5 ?_)
                  case c3 => omega
                  case c5 => first | exact hb1.size | omega
                  intro v4 u2 hown hbz hgz hsz'
                  obtain ⟨p4, r4, rfl⟩ := own_slice hown
                  have HB2 := Lib.hid hbz
                  have HE2 : Hid (u2.ownsRow u0.heap.size 3 1 (.slice p4 k r4) k ((o.take k).map (Value.int .i64))) := Lib.hid (by first | simpa using hown | (rw [List.map_take]; exact hown) | (rw [List.map_append, List.map_take]; exact hown))
                  have HG2 := Lib.hid hgz
                  have HS2 := Lib.hid (same_keep HS1.out (Keep.of_grown (F := [g0]) hgz (fun q hq => by simp [Value.ownBlock] at hq; exact .inl (by simp [hq]))) (fun q hq hm => by rw [List.mem_singleton] at hq hm; have := HE1.out.lt g0 rfl; omega))
                  have hz2 := hbz.size
                  have hgrow : u1.heap.size ≤ u2.heap.size := hgz.size
                  clear hown hbz hgz hb1
                  go_wp2
                  refine Txt.SegPost.mk (Txt.Ty.Shown.same HS2.out) ?_
                  (try simp only [Txt.pick, List.getElem?_cons_succ, List.getElem?_cons_zero])
                  go_wp2
                  refine Txt.RunPost.mk ?_
                  refine Txt.Ty.wpTr_alt ?_ Txt.Ty.wpTr_no
                  (try simp only [Txt.pick, List.getElem?_cons_succ, List.getElem?_cons_zero])
                  go_wp2
                  refine Txt.SegPost.mk (Txt.Ty.Shown.last rfl) ?_
                  (try simp only [Txt.pick, List.getElem?_cons_succ, List.getElem?_cons_zero])
                  go_wp2
                  refine Txt.RunPost.mk ?_
                  obtain ⟨u3, hu3⟩ : ∃ u3, u3 = u2.alloc (.cells #[.int .i64 x] 3) := ⟨_, rfl⟩
                  obtain ⟨g10, hg10⟩ : ∃ g10, g10 = u2.heap.size := ⟨_, rfl⟩
                  rw [← hu3, ← hg10]
                  have hb3 : Below u2.heap.size u2 u3 := by rw [hu3]; exact (Below.refl _ u2).alloc (Nat.le_refl _) _
                  have HB3 := Lib.hid (HB2.out.trans (hb3.mono HB2.out.size))
                  have HS3 := Lib.hid (same_below' HS2.out hb3)
                  have hz3 := HB3.out.size
                  have HX3 : Hid (u3.heap[g10]? = some (.cells #[.int .i64 x] 3 (0, 0))) := Lib.hid (by rw [hu3, hg10]; exact heap_alloc_new u2 _)
                  have hg103 : g10 < u3.heap.size := (Array.getElem?_eq_some_iff.1 HX3.out).1
                  have hg10u : u0.heap.size ≤ g10 := by omega
                  have HE3 := Lib.hid (own_below HE2.out hb3 (Nat.le_refl _))
                  have hne : ∀ q, (Value.slice p4 k r4).ownBlock = some q → q ≠ g10 := fun q hq => by have := HE2.out.lt q hq; omega
                  clear hu3 hb3 hg10
                  refine Txt.Ty.wpTr_alt ?_ Txt.Ty.wpTr_no
                  (try simp only [Txt.pick, List.getElem?_cons_succ, List.getElem?_cons_zero])
                  have Hb3 := Lib.hid (show Raw [] 1 u3 (.slice (some ⟨g10, 0, none⟩) 1 1) 1 ([x].map (Value.int .i64)) from ints_block (l := [x]) HX3.out (by simp))
                  have hb3 := HB3.out
                  go_wp2_with (at_builtin; refine wpList_app el66 Try.underlying66 HE3.out Hb3.out hb3 rfl _ _ rfl rfl rfl ?c3 (Nat.le_refl _) ?c5 ?_)
                  case c3 => omega
                  case c5 => first | exact hb3.size | omega
                  intro v11 u4 hown hbz hgz hsz'
                  obtain ⟨p11, r11, rfl⟩ := own_slice hown
                  have HB4 := Lib.hid hbz
                  have HE4 : Hid (u4.ownsRow u0.heap.size 3 1 (.slice p11 (k + 1) r11) (k + 1) ((o.take k ++ [x]).map (Value.int .i64))) := Lib.hid (by first | simpa using hown | (rw [List.map_take]; exact hown) | (rw [List.map_append, List.map_take]; exact hown))
                  clear hown hbz hgz hb3
                  go_wp2
                  refine Txt.SegPost.mk (Txt.Ty.Shown.last rfl) ?_
                  (try simp only [Txt.pick, List.getElem?_cons_succ, List.getElem?_cons_zero])
                  go_wp2
                  refine Txt.RunPost.mk ?_
                  refine Txt.Ty.wpTr_alt ?_ Txt.Ty.wpTr_no
                  (try simp only [Txt.pick, List.getElem?_cons_succ, List.getElem?_cons_zero])
                  have Hr4 := Lib.hid (Raw.below HR2.out HB4.out)
                  have hb4 := HB4.out
                  go_wp2_with (at_builtin; refine wpList_app el66 Try.underlying66 HE4.out Hr4.out hb4 rfl _ _ rfl rfl rfl ?c3 (Nat.le_refl _) ?c5 ?_)
                  case c3 => omega
                  case c5 => first | exact hb4.size | omega
                  intro v15 u5 hown hbz hgz hsz'
                  obtain ⟨p15, r15, rfl⟩ := own_slice hown
                  have HB5 := Lib.hid hbz
                  have hnn : k + 1 + (o.length - k) = (o.take k ++ [x] ++ o.drop k).length := by simp <;> omega
                  have HE5 : Hid (u5.ownsRow u0.heap.size 3 1 (.slice p15 (k + 1 + (o.length - k)) r15) (o.take k ++ [x] ++ o.drop k).length ((o.take k ++ [x] ++ o.drop k).map (Value.int .i64))) := Lib.hid (by
                    have h := hown
                    rw [hnn] at h ⊢
                    first | simpa using h | (simp only [List.take_length, ← List.map_take, ← List.map_drop, List.drop_length] at h ⊢; simpa using h))
                  clear hown hbz hgz hb4
                  go_wp2
                  refine Txt.SegPost.mk (Txt.Ty.Shown.last rfl) ?_
                  (try simp only [Txt.pick, List.getElem?_cons_succ, List.getElem?_cons_zero])
                  go_wp2
                  refine Txt.RunPost.mk ?_
                  refine Txt.Ty.wpTr_done (by rfl) ⟨.head _, trivial⟩ ?_
                  go_wp2
                  go_roundw
                  case rel => exact ⟨i + 1, o.take k ++ [x] ++ o.drop k, by omega, by go_num, own_base HE5.out hu0, HIS.out.1, HIS.out.2, by simp <;> omega, HBU.out.trans (HB5.out.mono HBU.out.size)⟩
                  case measure => simp [intOf]; omega
                · refine Txt.Ty.wpTr_alt ?_ Txt.Ty.wpTr_no
                  (try simp only [Txt.pick, List.getElem?_cons_succ, List.getElem?_cons_zero])
                  go_wp2
                  refine Txt.SegPost.mk (Txt.Ty.Shown.last rfl) ?_
                  (try simp only [Txt.pick, List.getElem?_cons_succ, List.getElem?_cons_zero])
                  go_wp2
                  refine Txt.RunPost.mk ?_
                  obtain ⟨u2, hu2⟩ : ∃ u2, u2 = u1.alloc (.cells #[.int .i64 x] 3) := ⟨_, rfl⟩
                  obtain ⟨g10, hg10⟩ : ∃ g10, g10 = u1.heap.size := ⟨_, rfl⟩
                  rw [← hu2, ← hg10]
                  have hb2 : Below u1.heap.size u1 u2 := by rw [hu2]; exact (Below.refl _ u1).alloc (Nat.le_refl _) _
                  have HB2 := Lib.hid (HB1.out.trans (hb2.mono HB1.out.size))
                  have HS2 := Lib.hid (same_below' HS1.out hb2)
                  have hz2 := HB2.out.size
                  have HX2 : Hid (u2.heap[g10]? = some (.cells #[.int .i64 x] 3 (0, 0))) := Lib.hid (by rw [hu2, hg10]; exact heap_alloc_new u1 _)
                  have hg102 : g10 < u2.heap.size := (Array.getElem?_eq_some_iff.1 HX2.out).1
                  have hg10u : u0.heap.size ≤ g10 := by omega
                  have HE2 := Lib.hid (own_below HE1.out hb2 (Nat.le_refl _))
                  have hne : g10 ≠ g0 := by have := HE1.out.lt g0 rfl; omega
                  clear hu2 hb2 hg10
                  refine Txt.Ty.wpTr_alt ?_ Txt.Ty.wpTr_no
                  (try simp only [Txt.pick, List.getElem?_cons_succ, List.getElem?_cons_zero])
                  have Hr2 := Lib.hid (Raw.below HR1.out HB2.out)
                  have hb2 := HB2.out
                  go_wp2_with (at_builtin; refine wpList_app el66 Try.underlying66 HE2.out Hr2.out hb2 rfl _ _ rfl rfl rfl ?c3 (Nat.le_refl _) ?c5 ?_)
                  case c3 => omega
                  case c5 => first | exact hb2.size | omega
                  intro v4 u3 hown hbz hgz hsz'
                  obtain ⟨p4, r4, rfl⟩ := own_slice hown
                  have HB3 := Lib.hid hbz
                  have HE3 : Hid (u3.ownsRow u0.heap.size 3 1 (.slice p4 k r4) k ((o.take k).map (Value.int .i64))) := Lib.hid (by first | simpa using hown | (rw [List.map_take]; exact hown) | (rw [List.map_append, List.map_take]; exact hown))
                  have HG3 := Lib.hid hgz
                  have HS3 := Lib.hid (same_keep HS2.out (Keep.of_grown (F := [g0]) hgz (fun q hq => by simp [Value.ownBlock] at hq; exact .inl (by simp [hq]))) (fun q hq hm => by rw [List.mem_singleton] at hq hm; have := HE2.out.lt g0 rfl; omega))
                  have hz3 := hbz.size
                  have hgrow : u2.heap.size ≤ u3.heap.size := hgz.size
                  have HX3 := Lib.hid ((hgz.block g10 hg102 (by simp [Value.ownBlock]; exact hne)).trans HX2.out)
                  have hg103 : g10 < u3.heap.size := (Array.getElem?_eq_some_iff.1 HX3.out).1
                  clear hown hbz hgz hb2
                  go_wp2
                  refine Txt.SegPost.mk (Txt.Ty.Shown.same HS3.out) ?_
                  (try simp only [Txt.pick, List.getElem?_cons_succ, List.getElem?_cons_zero])
                  go_wp2
                  refine Txt.RunPost.mk ?_
                  refine Txt.Ty.wpTr_alt ?_ Txt.Ty.wpTr_no
                  (try simp only [Txt.pick, List.getElem?_cons_succ, List.getElem?_cons_zero])
                  have Hb3 := Lib.hid (show Raw [] 1 u3 (.slice (some ⟨g10, 0, none⟩) 1 1) 1 ([x].map (Value.int .i64)) from ints_block (l := [x]) HX3.out (by simp))
                  have hb3 := HB3.out
                  go_wp2_with (at_builtin; refine wpList_app el66 Try.underlying66 HE3.out Hb3.out hb3 rfl _ _ rfl rfl rfl ?c3 (Nat.le_refl _) ?c5 ?_)
                  case c3 => omega
                  case c5 => first | exact hb3.size | omega
                  intro v11 u4 hown hbz hgz hsz'
                  obtain ⟨p11, r11, rfl⟩ := own_slice hown
                  have HB4 := Lib.hid hbz
                  have HE4 : Hid (u4.ownsRow u0.heap.size 3 1 (.slice p11 (k + 1) r11) (k + 1) ((o.take k ++ [x]).map (Value.int .i64))) := Lib.hid (by first | simpa using hown | (rw [List.map_take]; exact hown) | (rw [List.map_append, List.map_take]; exact hown))
                  clear hown hbz hgz hb3
                  go_wp2
                  refine Txt.SegPost.mk (Txt.Ty.Shown.last rfl) ?_
                  (try simp only [Txt.pick, List.getElem?_cons_succ, List.getElem?_cons_zero])
                  go_wp2
                  refine Txt.RunPost.mk ?_
                  refine Txt.Ty.wpTr_alt ?_ Txt.Ty.wpTr_no
                  (try simp only [Txt.pick, List.getElem?_cons_succ, List.getElem?_cons_zero])
                  have Hr4 := Lib.hid (Raw.below HR2.out HB4.out)
                  have hb4 := HB4.out
                  go_wp2_with (at_builtin; refine wpList_app el66 Try.underlying66 HE4.out Hr4.out hb4 rfl _ _ rfl rfl rfl ?c3 (Nat.le_refl _) ?c5 ?_)
                  case c3 => omega
                  case c5 => first | exact hb4.size | omega
                  intro v15 u5 hown hbz hgz hsz'
                  obtain ⟨p15, r15, rfl⟩ := own_slice hown
                  have HB5 := Lib.hid hbz
                  have hnn : k + 1 + (o.length - k) = (o.take k ++ [x] ++ o.drop k).length := by simp <;> omega
                  have HE5 : Hid (u5.ownsRow u0.heap.size 3 1 (.slice p15 (k + 1 + (o.length - k)) r15) (o.take k ++ [x] ++ o.drop k).length ((o.take k ++ [x] ++ o.drop k).map (Value.int .i64))) := Lib.hid (by
                    have h := hown
                    rw [hnn] at h ⊢
                    first | simpa using h | (simp only [List.take_length, ← List.map_take, ← List.map_drop, List.drop_length] at h ⊢; simpa using h))
                  clear hown hbz hgz hb4
                  go_wp2
                  refine Txt.SegPost.mk (Txt.Ty.Shown.last rfl) ?_
                  (try simp only [Txt.pick, List.getElem?_cons_succ, List.getElem?_cons_zero])
                  go_wp2
                  refine Txt.RunPost.mk ?_
                  refine Txt.Ty.wpTr_done (by rfl) ⟨.head _, trivial⟩ ?_
                  go_wp2
                  go_roundw
                  case rel => exact ⟨i + 1, o.take k ++ [x] ++ o.drop k, by omega, by go_num, own_base HE5.out hu0, HIS.out.1, HIS.out.2, by simp <;> omega, HBU.out.trans (HB5.out.mono HBU.out.size)⟩
                  case measure => simp [intOf]; omega
              · refine Txt.Ty.wpTr_alt ?_ Txt.Ty.wpTr_no
                (try simp only [Txt.pick, List.getElem?_cons_succ, List.getElem?_cons_zero])
                go_wp2
                refine Txt.SegPost.mk (Txt.Ty.Shown.last rfl) ?_
                (try simp only [Txt.pick, List.getElem?_cons_succ, List.getElem?_cons_zero])
                go_wp2
                refine Txt.RunPost.mk ?_
                obtain ⟨u1, hu1⟩ : ∃ u1, u1 = u0.alloc (.cells #[.int .i64 x] 3) := ⟨_, rfl⟩
                obtain ⟨g10, hg10⟩ : ∃ g10, g10 = u0.heap.size := ⟨_, rfl⟩
                rw [← hu1, ← hg10]
                have hb1 : Below u0.heap.size u0 u1 := by rw [hu1]; exact (Below.refl _ u0).alloc (Nat.le_refl _) _
                have HB1 := Lib.hid (HB0.out.trans (hb1.mono HB0.out.size))
                have HS1 := Lib.hid (same_below' HS0.out hb1)
                have hz1 := HB1.out.size
                have HX1 : Hid (u1.heap[g10]? = some (.cells #[.int .i64 x] 3 (0, 0))) := Lib.hid (by rw [hu1, hg10]; exact heap_alloc_new u0 _)
                have hg101 : g10 < u1.heap.size := (Array.getElem?_eq_some_iff.1 HX1.out).1
                have hg10u : u0.heap.size ≤ g10 := by omega
                clear hu1 hb1 hg10
                refine Txt.Ty.wpTr_alt ?_ Txt.Ty.wpTr_no
                (try simp only [Txt.pick, List.getElem?_cons_succ, List.getElem?_cons_zero])
                go_wp2
                refine Txt.SegPost.mk (Txt.Ty.Shown.same (same_below' HS1.out ((Below.refl _ u1).alloc (Nat.le_refl _) _))) ?_
                (try simp only [Txt.pick, List.getElem?_cons_succ, List.getElem?_cons_zero])
                go_wp2
                refine Txt.RunPost.mk ?_
                obtain ⟨u2, hu2⟩ : ∃ u2, u2 = u1.alloc (.cells #[] 3) := ⟨_, rfl⟩
                obtain ⟨g0, hg0⟩ : ∃ g0, g0 = u1.heap.size := ⟨_, rfl⟩
                rw [← hu2, ← hg0]
                have hb2 : Below u1.heap.size u1 u2 := by rw [hu2]; exact (Below.refl _ u1).alloc (Nat.le_refl _) _
                have HB2 := Lib.hid (HB1.out.trans (hb2.mono HB1.out.size))
                have HS2 := Lib.hid (same_below' HS1.out hb2)
                have hz2 := HB2.out.size
                have HE2 : Hid (u2.ownsRow u0.heap.size 3 1 (.slice (some ⟨g0, 0, none⟩) 0 0) 0 []) := Lib.hid (by rw [hu2, hg0]; exact own_empty u1 _ _ _ HB1.out.size)
                have HX2 := Lib.hid ((hb2.block g10 hg101).trans HX1.out)
                have hg102 : g10 < u2.heap.size := (Array.getElem?_eq_some_iff.1 HX2.out).1
                have hne : g10 ≠ g0 := by omega
                clear hu2 hb2 hg0
                refine Txt.Ty.wpTr_alt ?_ Txt.Ty.wpTr_no
                (try simp only [Txt.pick, List.getElem?_cons_succ, List.getElem?_cons_zero])
                have Hr2 := Lib.hid (Raw.below HR1.out HB2.out)
                have hb2 := HB2.out
                go_wp2_with (at_builtin; refine wpList_app el66 Try.underlying66 HE2.out Hr2.out hb2 rfl _ _ rfl rfl rfl ?c3 (Nat.le_refl _) ?c5 ?_)
                case c3 => omega
                case c5 => first | exact hb2.size | omega
                intro v4 u3 hown hbz hgz hsz'
                obtain ⟨p4, r4, rfl⟩ := own_slice hown
                have HB3 := Lib.hid hbz
                have HE3 : Hid (u3.ownsRow u0.heap.size 3 1 (.slice p4 k r4) k ((o.take k).map (Value.int .i64))) := Lib.hid (by first | simpa using hown | (rw [List.map_take]; exact hown) | (rw [List.map_append, List.map_take]; exact hown))
                have HG3 := Lib.hid hgz
                have HS3 := Lib.hid (same_keep HS2.out (Keep.of_grown (F := [g0]) hgz (fun q hq => by simp [Value.ownBlock] at hq; exact .inl (by simp [hq]))) (fun q hq hm => by rw [List.mem_singleton] at hq hm; have := HE2.out.lt g0 rfl; omega))
                have hz3 := hbz.size
                have hgrow : u2.heap.size ≤ u3.heap.size := hgz.size
                have HX3 := Lib.hid ((hgz.block g10 hg102 (by simp [Value.ownBlock]; exact hne)).trans HX2.out)
                have hg103 : g10 < u3.heap.size := (Array.getElem?_eq_some_iff.1 HX3.out).1
                clear hown hbz hgz hb2
                go_wp2
                refine Txt.SegPost.mk (Txt.Ty.Shown.same HS3.out) ?_
                (try simp only [Txt.pick, List.getElem?_cons_succ, List.getElem?_cons_zero])
                go_wp2
                refine Txt.RunPost.mk ?_
                refine Txt.Ty.wpTr_alt ?_ Txt.Ty.wpTr_no
                (try simp only [Txt.pick, List.getElem?_cons_succ, List.getElem?_cons_zero])
                have Hb3 := Lib.hid (show Raw [] 1 u3 (.slice (some ⟨g10, 0, none⟩) 1 1) 1 ([x].map (Value.int .i64)) from ints_block (l := [x]) HX3.out (by simp))
                have hb3 := HB3.out
                go_wp2_with (at_builtin; refine wpList_app el66 Try.underlying66 HE3.out Hb3.out hb3 rfl _ _ rfl rfl rfl ?c3 (Nat.le_refl _) ?c5 ?_)
                case c3 => omega
                case c5 => first | exact hb3.size | omega
                intro v11 u4 hown hbz hgz hsz'
                obtain ⟨p11, r11, rfl⟩ := own_slice hown
                have HB4 := Lib.hid hbz
                have HE4 : Hid (u4.ownsRow u0.heap.size 3 1 (.slice p11 (k + 1) r11) (k + 1) ((o.take k ++ [x]).map (Value.int .i64))) := Lib.hid (by first | simpa using hown | (rw [List.map_take]; exact hown) | (rw [List.map_append, List.map_take]; exact hown))
                clear hown hbz hgz hb3
                go_wp2
                refine Txt.SegPost.mk (Txt.Ty.Shown.last rfl) ?_
                (try simp only [Txt.pick, List.getElem?_cons_succ, List.getElem?_cons_zero])
                go_wp2
                refine Txt.RunPost.mk ?_
                refine Txt.Ty.wpTr_alt ?_ Txt.Ty.wpTr_no
                (try simp only [Txt.pick, List.getElem?_cons_succ, List.getElem?_cons_zero])
                have Hr4 := Lib.hid (Raw.below HR2.out HB4.out)
                have hb4 := HB4.out
                go_wp2_with (at_builtin; refine wpList_app el66 Try.underlying66 HE4.out Hr4.out hb4 rfl _ _ rfl rfl rfl ?c3 (Nat.le_refl _) ?c5 ?_)
                case c3 => omega
                case c5 => first | exact hb4.size | omega
                intro v15 u5 hown hbz hgz hsz'
                obtain ⟨p15, r15, rfl⟩ := own_slice hown
                have HB5 := Lib.hid hbz
                have hnn : k + 1 + (o.length - k) = (o.take k ++ [x] ++ o.drop k).length := by simp <;> omega
                have HE5 : Hid (u5.ownsRow u0.heap.size 3 1 (.slice p15 (k + 1 + (o.length - k)) r15) (o.take k ++ [x] ++ o.drop k).length ((o.take k ++ [x] ++ o.drop k).map (Value.int .i64))) := Lib.hid (by
                  have h := hown
                  rw [hnn] at h ⊢
                  first | simpa using h | (simp only [List.take_length, ← List.map_take, ← List.map_drop, List.drop_length] at h ⊢; simpa using h))
                clear hown hbz hgz hb4
                go_wp2
                refine Txt.SegPost.mk (Txt.Ty.Shown.last rfl) ?_
                (try simp only [Txt.pick, List.getElem?_cons_succ, List.getElem?_cons_zero])
                go_wp2
                refine Txt.RunPost.mk ?_
                refine Txt.Ty.wpTr_done (by rfl) ⟨.head _, trivial⟩ ?_
                go_wp2
                go_roundw
                case rel => exact ⟨i + 1, o.take k ++ [x] ++ o.drop k, by omega, by go_num, own_base HE5.out hu0, HIS.out.1, HIS.out.2, by simp <;> omega, HBU.out.trans (HB5.out.mono HBU.out.size)⟩
                case measure => simp [intOf]; omega
        · obtain rfl : k = o.length := by omega
          have HIS := Lib.hid (ins_ok HSR.out (Nat.le_refl _) HLO.out (fun h => absurd h (Nat.lt_irrefl _)) _ HM.out)
          rw [← HT.out] at HIS
          go_wp2
          refine Txt.wp_txt (by kernel_rfl) (by kernel_rfl) ?_
          go_wp2
          refine Txt.DrawPost.mk0 (by rfl) ?_
          go_wp2
          refine Txt.wp_txt (by kernel_rfl) (by kernel_rfl) ?_
          go_wp2
          refine Txt.DrawPost.mk0 (by rfl) ?_
          have hKo : o.length ≤ o.length := by omega
          obtain ⟨a1', hs1, hr1⟩ := Raw.upto (P := Try.prog) (show Raw [] 1 u0 (.slice _ o.length _) o.length (o.map (Value.int .i64)) from HRO.out) Try.underlying66 (by kernel_rfl : (Try.prog.info? 3).map (·.size) = some 1) hKo
          obtain ⟨a2', hs2, hr2⟩ := Raw.from (P := Try.prog) (show Raw [] 1 u0 (.slice _ o.length _) o.length (o.map (Value.int .i64)) from HRO.out) Try.underlying66 (by kernel_rfl : (Try.prog.info? 3).map (·.size) = some 1) hKo
          rw [Nat.sub_self] at hs2 hr2
          have HR1 := Lib.hid hr1; have HR2 := Lib.hid hr2
          clear hr1 hr2
          have hBl : ∀ q ∈ [b], ∃ c e f, wk.heap[q]? = some (.cells c e f) := fun q hq => by rw [List.mem_singleton.1 hq]; exact Txt.cells_of hx1
          have HS0 : Hid (Txt.SameB [b] u0 u0) := Lib.hid (by rw [HU0.out]; exact same_start (w := wk.drew.drew) hBl)
          have HB0 : Hid (Below u0.heap.size u0 u0) := Lib.hid (Below.refl _ _)
          go_upto_region 9 with (fail)
          refine Txt.Ty.wp_tree [b] [9] [10, 11, 15] [9] [1, 2, 3, 5, 6, 7, 8, 9, 12, 13, 14] (.alt [0] (.alt [4] (.alt [10] (.alt [11] (.alt [15, 16] (.done) (.no)) (.no)) (.no)) (.alt [10] (.alt [4] (.alt [11] (.alt [15, 16] (.done) (.no)) (.no)) (.no)) (.no))) (.alt [10] (.alt [0] (.alt [4] (.alt [11] (.alt [15, 16] (.done) (.no)) (.no)) (.no)) (.no)) (.no))) (by kernel_rfl) (by kernel_rfl) (by kernel_rfl) (by kernel_rfl) hBl ?_
          clear hBl
          rw [← HU0.out]
          have hxu : u0.cell? ⟨b, off + i * 3 + 1, none⟩ = some (.int .i64 x) := by rw [HU0.out]; exact hx1
          (try simp only [Txt.pick, List.getElem?_cons_succ, List.getElem?_cons_zero])
          go_wp2
          refine Txt.RunPost.mk ?_
          refine Txt.Ty.wpTr_alt ?_ ?_
          · (try simp only [Txt.pick, List.getElem?_cons_succ, List.getElem?_cons_zero])
            go_wp2
            refine Txt.SegPost.mk (Txt.Ty.Shown.same (same_below' HS0.out ((Below.refl _ u0).alloc (Nat.le_refl _) _))) ?_
            (try simp only [Txt.pick, List.getElem?_cons_succ, List.getElem?_cons_zero])
            go_wp2
            refine Txt.RunPost.mk ?_
            obtain ⟨u1, hu1⟩ : ∃ u1, u1 = u0.alloc (.cells #[] 3) := ⟨_, rfl⟩
            obtain ⟨g0, hg0⟩ : ∃ g0, g0 = u0.heap.size := ⟨_, rfl⟩
            rw [← hu1, ← hg0]
            have hb1 : Below u0.heap.size u0 u1 := by rw [hu1]; exact (Below.refl _ u0).alloc (Nat.le_refl _) _
            have HB1 := Lib.hid (HB0.out.trans (hb1.mono HB0.out.size))
            have HS1 := Lib.hid (same_below' HS0.out hb1)
            have hz1 := HB1.out.size
            have HE1 : Hid (u1.ownsRow u0.heap.size 3 1 (.slice (some ⟨g0, 0, none⟩) 0 0) 0 []) := Lib.hid (by rw [hu1, hg0]; exact own_empty u0 _ _ _ HB0.out.size)
            clear hu1 hb1 hg0
            refine Txt.Ty.wpTr_alt ?_ ?_
            · (try simp only [Txt.pick, List.getElem?_cons_succ, List.getElem?_cons_zero])
              have Hr1 := Lib.hid (Raw.below HR1.out HB1.out)
              have hb1 := HB1.out
              go_wp2_with (at_builtin; refine wpList_app el66 Try.underlying66 HE1.out Hr1.out hb1 rfl _ _ rfl rfl rfl ?c3 (Nat.le_refl _) ?c5 ?_)
              case c3 => omega
              case c5 => first | exact hb1.size | omega
              intro v4 u2 hown hbz hgz hsz'
              obtain ⟨p4, r4, rfl⟩ := own_slice hown
              have HB2 := Lib.hid hbz
              have HE2 : Hid (u2.ownsRow u0.heap.size 3 1 (.slice p4 o.length r4) o.length ((o.take o.length).map (Value.int .i64))) := Lib.hid (by first | simpa using hown | (rw [List.map_take]; exact hown) | (rw [List.map_append, List.map_take]; exact hown))
              have HG2 := Lib.hid hgz
              have HS2 := Lib.hid (same_keep HS1.out (Keep.of_grown (F := [g0]) hgz (fun q hq => by simp [Value.ownBlock] at hq; exact .inl (by simp [hq]))) (fun q hq hm => by rw [List.mem_singleton] at hq hm; have := HE1.out.lt g0 rfl; omega))
              have hz2 := hbz.size
              have hgrow : u1.heap.size ≤ u2.heap.size := hgz.size
              clear hown hbz hgz hb1
              go_wp2
              refine Txt.SegPost.mk (Txt.Ty.Shown.same HS2.out) ?_
              (try simp only [Txt.pick, List.getElem?_cons_succ, List.getElem?_cons_zero])
              go_wp2
              refine Txt.RunPost.mk ?_
              refine Txt.Ty.wpTr_alt ?_ Txt.Ty.wpTr_no
              (try simp only [Txt.pick, List.getElem?_cons_succ, List.getElem?_cons_zero])
              go_wp2
              refine Txt.SegPost.mk (Txt.Ty.Shown.last rfl) ?_
              (try simp only [Txt.pick, List.getElem?_cons_succ, List.getElem?_cons_zero])
              go_wp2
              refine Txt.RunPost.mk ?_
              obtain ⟨u3, hu3⟩ : ∃ u3, u3 = u2.alloc (.cells #[.int .i64 x] 3) := ⟨_, rfl⟩
              obtain ⟨g10, hg10⟩ : ∃ g10, g10 = u2.heap.size := ⟨_, rfl⟩
              rw [← hu3, ← hg10]
              have hb3 : Below u2.heap.size u2 u3 := by rw [hu3]; exact (Below.refl _ u2).alloc (Nat.le_refl _) _
              have HB3 := Lib.hid (HB2.out.trans (hb3.mono HB2.out.size))
              have HS3 := Lib.hid (same_below' HS2.out hb3)
              have hz3 := HB3.out.size
              have HX3 : Hid (u3.heap[g10]? = some (.cells #[.int .i64 x] 3 (0, 0))) := Lib.hid (by rw [hu3, hg10]; exact heap_alloc_new u2 _)
              have hg103 : g10 < u3.heap.size := (Array.getElem?_eq_some_iff.1 HX3.out).1
              have hg10u : u0.heap.size ≤ g10 := by omega
              have HE3 := Lib.hid (own_below HE2.out hb3 (Nat.le_refl _))
              have hne : ∀ q, (Value.slice p4 o.length r4).ownBlock = some q → q ≠ g10 := fun q hq => by have := HE2.out.lt q hq; omega
              clear hu3 hb3 hg10
              refine Txt.Ty.wpTr_alt ?_ Txt.Ty.wpTr_no
              (try simp only [Txt.pick, List.getElem?_cons_succ, List.getElem?_cons_zero])
              have Hb3 := Lib.hid (show Raw [] 1 u3 (.slice (some ⟨g10, 0, none⟩) 1 1) 1 ([x].map (Value.int .i64)) from ints_block (l := [x]) HX3.out (by simp))
              have hb3 := HB3.out
              go_wp2_with (at_builtin; refine wpList_app el66 Try.underlying66 HE3.out Hb3.out hb3 rfl _ _ rfl rfl rfl ?c3 (Nat.le_refl _) ?c5 ?_)
              case c3 => omega
              case c5 => first | exact hb3.size | omega
              intro v11 u4 hown hbz hgz hsz'
              obtain ⟨p11, r11, rfl⟩ := own_slice hown
              have HB4 := Lib.hid hbz
              have HE4 : Hid (u4.ownsRow u0.heap.size 3 1 (.slice p11 (o.length + 1) r11) (o.length + 1) ((o.take o.length ++ [x]).map (Value.int .i64))) := Lib.hid (by first | simpa using hown | (rw [List.map_take]; exact hown) | (rw [List.map_append, List.map_take]; exact hown))
              clear hown hbz hgz hb3
              go_wp2
              refine Txt.SegPost.mk (Txt.Ty.Shown.last rfl) ?_
              (try simp only [Txt.pick, List.getElem?_cons_succ, List.getElem?_cons_zero])
              go_wp2
              refine Txt.RunPost.mk ?_
              refine Txt.Ty.wpTr_alt ?_ Txt.Ty.wpTr_no
              (try simp only [Txt.pick, List.getElem?_cons_succ, List.getElem?_cons_zero])
              have Hr4 := Lib.hid (Raw.below HR2.out HB4.out)
              have hb4 := HB4.out
              go_wp2_with (at_builtin; refine wpList_app el66 Try.underlying66 HE4.out Hr4.out hb4 rfl _ _ rfl rfl rfl ?c3 (Nat.le_refl _) ?c5 ?_)
              case c3 => omega
              case c5 => first | exact hb4.size | omega
              intro v15 u5 hown hbz hgz hsz'
              obtain ⟨p15, r15, rfl⟩ := own_slice hown
              have HB5 := Lib.hid hbz
              have hnn : o.length + 1 + 0 = (o.take o.length ++ [x] ++ o.drop o.length).length := by simp <;> omega
              have HE5 : Hid (u5.ownsRow u0.heap.size 3 1 (.slice p15 (o.length + 1 + 0) r15) (o.take o.length ++ [x] ++ o.drop o.length).length ((o.take o.length ++ [x] ++ o.drop o.length).map (Value.int .i64))) := Lib.hid (by
                have h := hown
                rw [hnn] at h ⊢
                first | simpa using h | (simp only [List.take_length, ← List.map_take, ← List.map_drop, List.drop_length] at h ⊢; simpa using h))
              clear hown hbz hgz hb4
              go_wp2
              refine Txt.SegPost.mk (Txt.Ty.Shown.last rfl) ?_
              (try simp only [Txt.pick, List.getElem?_cons_succ, List.getElem?_cons_zero])
              go_wp2
              refine Txt.RunPost.mk ?_
              refine Txt.Ty.wpTr_done (by rfl) ⟨.head _, trivial⟩ ?_
              go_wp2
              go_roundw
              case rel => exact ⟨i + 1, o.take o.length ++ [x] ++ o.drop o.length, by omega, by go_num, own_base HE5.out hu0, HIS.out.1, HIS.out.2, by simp <;> omega, HBU.out.trans (HB5.out.mono HBU.out.size)⟩
              case measure => simp [intOf]; omega
            · refine Txt.Ty.wpTr_alt ?_ Txt.Ty.wpTr_no
              (try simp only [Txt.pick, List.getElem?_cons_succ, List.getElem?_cons_zero])
              go_wp2
              refine Txt.SegPost.mk (Txt.Ty.Shown.last rfl) ?_
              (try simp only [Txt.pick, List.getElem?_cons_succ, List.getElem?_cons_zero])
              go_wp2
              refine Txt.RunPost.mk ?_
              obtain ⟨u2, hu2⟩ : ∃ u2, u2 = u1.alloc (.cells #[.int .i64 x] 3) := ⟨_, rfl⟩
              obtain ⟨g10, hg10⟩ : ∃ g10, g10 = u1.heap.size := ⟨_, rfl⟩
              rw [← hu2, ← hg10]
              have hb2 : Below u1.heap.size u1 u2 := by rw [hu2]; exact (Below.refl _ u1).alloc (Nat.le_refl _) _
              have HB2 := Lib.hid (HB1.out.trans (hb2.mono HB1.out.size))
              have HS2 := Lib.hid (same_below' HS1.out hb2)
              have hz2 := HB2.out.size
              have HX2 : Hid (u2.heap[g10]? = some (.cells #[.int .i64 x] 3 (0, 0))) := Lib.hid (by rw [hu2, hg10]; exact heap_alloc_new u1 _)
              have hg102 : g10 < u2.heap.size := (Array.getElem?_eq_some_iff.1 HX2.out).1
              have hg10u : u0.heap.size ≤ g10 := by omega
              have HE2 := Lib.hid (own_below HE1.out hb2 (Nat.le_refl _))
              have hne : g10 ≠ g0 := by have := HE1.out.lt g0 rfl; omega
              clear hu2 hb2 hg10
              refine Txt.Ty.wpTr_alt ?_ Txt.Ty.wpTr_no
              (try simp only [Txt.pick, List.getElem?_cons_succ, List.getElem?_cons_zero])
              have Hr2 := Lib.hid (Raw.below HR1.out HB2.out)
              have hb2 := HB2.out
              go_wp2_with (at_builtin; refine wpList_app el66 Try.underlying66 HE2.out Hr2.out hb2 rfl _ _ rfl rfl rfl ?c3 (Nat.le_refl _) ?c5 ?_)
              case c3 => omega
              case c5 => first | exact hb2.size | omega
              intro v4 u3 hown hbz hgz hsz'
              obtain ⟨p4, r4, rfl⟩ := own_slice hown
              have HB3 := Lib.hid hbz
              have HE3 : Hid (u3.ownsRow u0.heap.size 3 1 (.slice p4 o.length r4) o.length ((o.take o.length).map (Value.int .i64))) := Lib.hid (by first | simpa using hown | (rw [List.map_take]; exact hown) | (rw [List.map_append, List.map_take]; exact hown))
              have HG3 := Lib.hid hgz
              have HS3 := Lib.hid (same_keep HS2.out (Keep.of_grown (F := [g0]) hgz (fun q hq => by simp [Value.ownBlock] at hq; exact .inl (by simp [hq]))) (fun q hq hm => by rw [List.mem_singleton] at hq hm; have := HE2.out.lt g0 rfl; omega))
              have hz3 := hbz.size
              have hgrow : u2.heap.size ≤ u3.heap.size := hgz.size
              have HX3 := Lib.hid ((hgz.block g10 hg102 (by simp [Value.ownBlock]; exact hne)).trans HX2.out)
              have hg103 : g10 < u3.heap.size := (Array.getElem?_eq_some_iff.1 HX3.out).1
              clear hown hbz hgz hb2
              go_wp2
              refine Txt.SegPost.mk (Txt.Ty.Shown.same HS3.out) ?_
              (try simp only [Txt.pick, List.getElem?_cons_succ, List.getElem?_cons_zero])
              go_wp2
              refine Txt.RunPost.mk ?_
              refine Txt.Ty.wpTr_alt ?_ Txt.Ty.wpTr_no
              (try simp only [Txt.pick, List.getElem?_cons_succ, List.getElem?_cons_zero])
              have Hb3 := Lib.hid (show Raw [] 1 u3 (.slice (some ⟨g10, 0, none⟩) 1 1) 1 ([x].map (Value.int .i64)) from ints_block (l := [x]) HX3.out (by simp))
              have hb3 := HB3.out
              go_wp2_with (at_builtin; refine wpList_app el66 Try.underlying66 HE3.out Hb3.out hb3 rfl _ _ rfl rfl rfl ?c3 (Nat.le_refl _) ?c5 ?_)
              case c3 => omega
              case c5 => first | exact hb3.size | omega
              intro v11 u4 hown hbz hgz hsz'
              obtain ⟨p11, r11, rfl⟩ := own_slice hown
              have HB4 := Lib.hid hbz
              have HE4 : Hid (u4.ownsRow u0.heap.size 3 1 (.slice p11 (o.length + 1) r11) (o.length + 1) ((o.take o.length ++ [x]).map (Value.int .i64))) := Lib.hid (by first | simpa using hown | (rw [List.map_take]; exact hown) | (rw [List.map_append, List.map_take]; exact hown))
              clear hown hbz hgz hb3
              go_wp2
              refine Txt.SegPost.mk (Txt.Ty.Shown.last rfl) ?_
              (try simp only [Txt.pick, List.getElem?_cons_succ, List.getElem?_cons_zero])
              go_wp2
              refine Txt.RunPost.mk ?_
              refine Txt.Ty.wpTr_alt ?_ Txt.Ty.wpTr_no
              (try simp only [Txt.pick, List.getElem?_cons_succ, List.getElem?_cons_zero])
              have Hr4 := Lib.hid (Raw.below HR2.out HB4.out)
              have hb4 := HB4.out
              go_wp2_with (at_builtin; refine wpList_app el66 Try.underlying66 HE4.out Hr4.out hb4 rfl _ _ rfl rfl rfl ?c3 (Nat.le_refl _) ?c5 ?_)
              case c3 => omega
              case c5 => first | exact hb4.size | omega
              intro v15 u5 hown hbz hgz hsz'
              obtain ⟨p15, r15, rfl⟩ := own_slice hown
              have HB5 := Lib.hid hbz
              have hnn : o.length + 1 + 0 = (o.take o.length ++ [x] ++ o.drop o.length).length := by simp <;> omega
              have HE5 : Hid (u5.ownsRow u0.heap.size 3 1 (.slice p15 (o.length + 1 + 0) r15) (o.take o.length ++ [x] ++ o.drop o.length).length ((o.take o.length ++ [x] ++ o.drop o.length).map (Value.int .i64))) := Lib.hid (by
                have h := hown
                rw [hnn] at h ⊢
                first | simpa using h | (simp only [List.take_length, ← List.map_take, ← List.map_drop, List.drop_length] at h ⊢; simpa using h))
              clear hown hbz hgz hb4
              go_wp2
              refine Txt.SegPost.mk (Txt.Ty.Shown.last rfl) ?_
              (try simp only [Txt.pick, List.getElem?_cons_succ, List.getElem?_cons_zero])
              go_wp2
              refine Txt.RunPost.mk ?_
              refine Txt.Ty.wpTr_done (by rfl) ⟨.head _, trivial⟩ ?_
              go_wp2
              go_roundw
              case rel => exact ⟨i + 1, o.take o.length ++ [x] ++ o.drop o.length, by omega, by go_num, own_base HE5.out hu0, HIS.out.1, HIS.out.2, by simp <;> omega, HBU.out.trans (HB5.out.mono HBU.out.size)⟩
              case measure => simp [intOf]; omega
          · refine Txt.Ty.wpTr_alt ?_ Txt.Ty.wpTr_no
            (try simp only [Txt.pick, List.getElem?_cons_succ, List.getElem?_cons_zero])
            go_wp2
            refine Txt.SegPost.mk (Txt.Ty.Shown.last rfl) ?_
            (try simp only [Txt.pick, List.getElem?_cons_succ, List.getElem?_cons_zero])
            go_wp2
            refine Txt.RunPost.mk ?_
            obtain ⟨u1, hu1⟩ : ∃ u1, u1 = u0.alloc (.cells #[.int .i64 x] 3) := ⟨_, rfl⟩
            obtain ⟨g10, hg10⟩ : ∃ g10, g10 = u0.heap.size := ⟨_, rfl⟩
            rw [← hu1, ← hg10]
            have hb1 : Below u0.heap.size u0 u1 := by rw [hu1]; exact (Below.refl _ u0).alloc (Nat.le_refl _) _
            have HB1 := Lib.hid (HB0.out.trans (hb1.mono HB0.out.size))
            have HS1 := Lib.hid (same_below' HS0.out hb1)
            have hz1 := HB1.out.size
            have HX1 : Hid (u1.heap[g10]? = some (.cells #[.int .i64 x] 3 (0, 0))) := Lib.hid (by rw [hu1, hg10]; exact heap_alloc_new u0 _)
            have hg101 : g10 < u1.heap.size := (Array.getElem?_eq_some_iff.1 HX1.out).1
            have hg10u : u0.heap.size ≤ g10 := by omega
            clear hu1 hb1 hg10
            refine Txt.Ty.wpTr_alt ?_ Txt.Ty.wpTr_no
            (try simp only [Txt.pick, List.getElem?_cons_succ, List.getElem?_cons_zero])
            go_wp2
            refine Txt.SegPost.mk (Txt.Ty.Shown.same (same_below' HS1.out ((Below.refl _ u1).alloc (Nat.le_refl _) _))) ?_
            (try simp only [Txt.pick, List.getElem?_cons_succ, List.getElem?_cons_zero])
            go_wp2
            refine Txt.RunPost.mk ?_
            obtain ⟨u2, hu2⟩ : ∃ u2, u2 = u1.alloc (.cells #[] 3) := ⟨_, rfl⟩
            obtain ⟨g0, hg0⟩ : ∃ g0, g0 = u1.heap.size := ⟨_, rfl⟩
            rw [← hu2, ← hg0]
            have hb2 : Below u1.heap.size u1 u2 := by rw [hu2]; exact (Below.refl _ u1).alloc (Nat.le_refl _) _
            have HB2 := Lib.hid (HB1.out.trans (hb2.mono HB1.out.size))
            have HS2 := Lib.hid (same_below' HS1.out hb2)
            have hz2 := HB2.out.size
            have HE2 : Hid (u2.ownsRow u0.heap.size 3 1 (.slice (some ⟨g0, 0, none⟩) 0 0) 0 []) := Lib.hid (by rw [hu2, hg0]; exact own_empty u1 _ _ _ HB1.out.size)
            have HX2 := Lib.hid ((hb2.block g10 hg101).trans HX1.out)
            have hg102 : g10 < u2.heap.size := (Array.getElem?_eq_some_iff.1 HX2.out).1
            have hne : g10 ≠ g0 := by omega
            clear hu2 hb2 hg0
            refine Txt.Ty.wpTr_alt ?_ Txt.Ty.wpTr_no
            (try simp only [Txt.pick, List.getElem?_cons_succ, List.getElem?_cons_zero])
            have Hr2 := Lib.hid (Raw.below HR1.out HB2.out)
            have hb2 := HB2.out
            go_wp2_with (at_builtin; refine wpList_app el66 Try.underlying66 HE2.out Hr2.out hb2 rfl _ _ rfl rfl rfl ?c3 (Nat.le_refl _) ?c5 ?_)
            case c3 => omega
            case c5 => first | exact hb2.size | omega
            intro v4 u3 hown hbz hgz hsz'
            obtain ⟨p4, r4, rfl⟩ := own_slice hown
            have HB3 := Lib.hid hbz
            have HE3 : Hid (u3.ownsRow u0.heap.size 3 1 (.slice p4 o.length r4) o.length ((o.take o.length).map (Value.int .i64))) := Lib.hid (by first | simpa using hown | (rw [List.map_take]; exact hown) | (rw [List.map_append, List.map_take]; exact hown))
            have HG3 := Lib.hid hgz
            have HS3 := Lib.hid (same_keep HS2.out (Keep.of_grown (F := [g0]) hgz (fun q hq => by simp [Value.ownBlock] at hq; exact .inl (by simp [hq]))) (fun q hq hm => by rw [List.mem_singleton] at hq hm; have := HE2.out.lt g0 rfl; omega))
            have hz3 := hbz.size
            have hgrow : u2.heap.size ≤ u3.heap.size := hgz.size
            have HX3 := Lib.hid ((hgz.block g10 hg102 (by simp [Value.ownBlock]; exact hne)).trans HX2.out)
            have hg103 : g10 < u3.heap.size := (Array.getElem?_eq_some_iff.1 HX3.out).1
            clear hown hbz hgz hb2
            go_wp2
            refine Txt.SegPost.mk (Txt.Ty.Shown.same HS3.out) ?_
            (try simp only [Txt.pick, List.getElem?_cons_succ, List.getElem?_cons_zero])
            go_wp2
            refine Txt.RunPost.mk ?_
            refine Txt.Ty.wpTr_alt ?_ Txt.Ty.wpTr_no
            (try simp only [Txt.pick, List.getElem?_cons_succ, List.getElem?_cons_zero])
            have Hb3 := Lib.hid (show Raw [] 1 u3 (.slice (some ⟨g10, 0, none⟩) 1 1) 1 ([x].map (Value.int .i64)) from ints_block (l := [x]) HX3.out (by simp))
            have hb3 := HB3.out
            go_wp2_with (at_builtin; refine wpList_app el66 Try.underlying66 HE3.out Hb3.out hb3 rfl _ _ rfl rfl rfl ?c3 (Nat.le_refl _) ?c5 ?_)
            case c3 => omega
            case c5 => first | exact hb3.size | omega
            intro v11 u4 hown hbz hgz hsz'
            obtain ⟨p11, r11, rfl⟩ := own_slice hown
            have HB4 := Lib.hid hbz
            have HE4 : Hid (u4.ownsRow u0.heap.size 3 1 (.slice p11 (o.length + 1) r11) (o.length + 1) ((o.take o.length ++ [x]).map (Value.int .i64))) := Lib.hid (by first | simpa using hown | (rw [List.map_take]; exact hown) | (rw [List.map_append, List.map_take]; exact hown))
            clear hown hbz hgz hb3
            go_wp2
            refine Txt.SegPost.mk (Txt.Ty.Shown.last rfl) ?_
            (try simp only [Txt.pick, List.getElem?_cons_succ, List.getElem?_cons_zero])
            go_wp2
            refine Txt.RunPost.mk ?_
            refine Txt.Ty.wpTr_alt ?_ Txt.Ty.wpTr_no
            (try simp only [Txt.pick, List.getElem?_cons_succ, List.getElem?_cons_zero])
            have Hr4 := Lib.hid (Raw.below HR2.out HB4.out)
            have hb4 := HB4.out
            go_wp2_with (at_builtin; refine wpList_app el66 Try.underlying66 HE4.out Hr4.out hb4 rfl _ _ rfl rfl rfl ?c3 (Nat.le_refl _) ?c5 ?_)
            case c3 => omega
            case c5 => first | exact hb4.size | omega
            intro v15 u5 hown hbz hgz hsz'
            obtain ⟨p15, r15, rfl⟩ := own_slice hown
            have HB5 := Lib.hid hbz
            have hnn : o.length + 1 + 0 = (o.take o.length ++ [x] ++ o.drop o.length).length := by simp <;> omega
            have HE5 : Hid (u5.ownsRow u0.heap.size 3 1 (.slice p15 (o.length + 1 + 0) r15) (o.take o.length ++ [x] ++ o.drop o.length).length ((o.take o.length ++ [x] ++ o.drop o.length).map (Value.int .i64))) := Lib.hid (by
              have h := hown
              rw [hnn] at h ⊢
              first | simpa using h | (simp only [List.take_length, ← List.map_take, ← List.map_drop, List.drop_length] at h ⊢; simpa using h))
            clear hown hbz hgz hb4
            go_wp2
            refine Txt.SegPost.mk (Txt.Ty.Shown.last rfl) ?_
            (try simp only [Txt.pick, List.getElem?_cons_succ, List.getElem?_cons_zero])
            go_wp2
            refine Txt.RunPost.mk ?_
            refine Txt.Ty.wpTr_done (by rfl) ⟨.head _, trivial⟩ ?_
            go_wp2
            go_roundw
            case rel => exact ⟨i + 1, o.take o.length ++ [x] ++ o.drop o.length, by omega, by go_num, own_base HE5.out hu0, HIS.out.1, HIS.out.2, by simp <;> omega, HBU.out.trans (HB5.out.mono HBU.out.size)⟩
            case measure => simp [intOf]; omega
    · obtain rfl : i = l.length := by omega
      have HE : Hid (o = once (frm l)) := Lib.hid (srt_ext HSR.out (once_srt _) fun y => by rw [HM.out y, once_mem, List.take_length])
      go_wp2
      go_ret
      exact ⟨_, rfl, by rw [← HE.out]; exact HO.out, HB.out⟩
end Go.Proofs.Ytlomhelcphhinaa
