/- Revive: the reference's heartbeats: proper, has, Valid -/
import Derived.Test.YthmnhpakgjnngaaGreatDoorVb
import Derived.Deep.CutRange
import Derived.WalkMore
namespace Go.Proofs.YthmnhpakgjnngaaGreatDoor
open Go.RowKit Go.Bs Go.Cl Go.Rw Go.Dt Go.Rv
set_option maxHeartbeats 1000000 in
theorem rproper_any (t : Int) (w : World) : Calls Tryz.prog 84 #[.int .i64 t] w fun e w' => e = .returned (.bool (prp t)) ∧ w = w' := by
  go_enter Tryz.func84, Tryz.ntmps84
  go_wp2
  all_goals
    go_ret
    refine ⟨ret_bool ?_, rfl⟩
    simp [prp, *]
    try omega
theorem rproper_eq (t : Int) (r : Bool) (w : World) (h : prp t = r) : Calls Tryz.prog 84 #[.int .i64 t] w fun e w' => e = .returned (.bool r) ∧ w = w' := h ▸ rproper_any t w
set_option maxHeartbeats 1000000 in
theorem rcomponent_any (t : Int) (w : World) : Calls Tryz.prog 46 #[.int .i64 t] w fun e w' => e = .returned (.bool (cmpt t)) ∧ w = w' := by
  go_enter Tryz.func46, Tryz.ntmps46
  go_wp2
  all_goals
    go_ret
    refine ⟨ret_bool ?_, rfl⟩
    simp [cmpt, *]
    try omega
theorem rcomponent_eq (t : Int) (r : Bool) (w : World) (h : cmpt t = r) : Calls Tryz.prog 46 #[.int .i64 t] w fun e w' => e = .returned (.bool r) ∧ w = w' := h ▸ rcomponent_any t w
set_option maxRecDepth 100000 in
set_option maxHeartbeats 1000000 in
theorem rhas_any (v : Value) (l : List Int) (t : Int) (w : World) (hl : l.length ≤ 1000000) (h : Ints [] w v l) : Calls Tryz.prog 80 #[v, .int .i64 t] w fun e w' => e = .returned (.bool (decide (t ∈ l))) ∧ w = w' := by
  obtain ⟨a, cap, rfl⟩ := Raw.slice h
  have H := Lib.hid h; clear h
  go_enter Tryz.func80, Tryz.ntmps80
  go_wp2
  go_loopw [5] (fun i wr => ∃ k : Nat, k ≤ l.length ∧ i = .int .i64 k ∧ w = wr ∧ ∀ j (hj : j < l.length), j < k → l[j] ≠ t) (fun i _ => l.length - (intOf i).toNat)
  case atStart => exact ⟨0, Nat.zero_le _, rfl, rfl, fun j _ hj => absurd hj (Nat.not_lt_zero _)⟩
  case round =>
    obtain ⟨k, hk, rfl, hw, hno⟩ := hrel
    subst hw
    have HN := Lib.hid hno; clear hno
    by_cases hlt : k < l.length
    · obtain ⟨b, off, cp, he, hb, h0⟩ := Ints.elem H.out hlt
      cases he
      obtain ⟨z, hz⟩ : ∃ z, l[k] = z := ⟨_, rfl⟩
      rw [hz] at h0
      have HZ := Lib.hid hz; clear hz
      by_cases e : z = t
      · have HM : Hid (decide (t ∈ l) = true) := Lib.hid (by rw [decide_eq_true_eq, ← e, ← HZ.out]; exact List.getElem_mem hlt)
        subst e
        go_wp2
        go_ret
        exact ⟨ret_bool HM.out.symm, rfl⟩
      · have he : (z == t) = false := by simpa using e
        have HE := Lib.hid e; clear e
        go_wp2
        go_roundw
        case rel => exact ⟨k + 1, hlt, by go_num, by first | trivial | rfl, fun j hj hjk => by
          by_cases hjk2 : j < k
          · exact HN.out j hj hjk2
          · obtain rfl : j = k := by omega
            rw [HZ.out]; exact HE.out⟩
        case measure => simp [intOf]; omega
    · obtain rfl : k = l.length := by omega
      have HM : Hid (decide (t ∈ l) = false) := Lib.hid (by
        rw [decide_eq_false_iff_not]
        intro hm
        obtain ⟨j, hj, e⟩ := List.getElem_of_mem hm
        exact HN.out j hj hj e)
      go_wp2
      go_ret
      exact ⟨ret_bool HM.out.symm, rfl⟩
theorem rhas_eq (v : Value) (l : List Int) (t : Int) (r : Bool) (w : World) (hl : l.length ≤ 1000000) (h : Ints [] w v l) (hr : decide (t ∈ l) = r) : Calls Tryz.prog 80 #[v, .int .i64 t] w fun e w' => e = .returned (.bool r) ∧ w = w' := hr ▸ rhas_any v l t w hl h
theorem okBb_first {r : Int} {l : List Int} (h : r < 0 ∨ 1000000000 < r ∨ (r = 0 ∧ 0 < l.length)) : okBb r l = false := by
  unfold okBb
  rcases h with h | h | ⟨rfl, h2⟩
  · have : ¬ 0 ≤ r := by omega
    simp [this]
  · have : ¬ r ≤ 1000000000 := by omega
    simp [this]
  · have : ¬ l.length = 0 := by omega
    simp only [Int.lt_irrefl, decide_false, Bool.false_or, this, Bool.and_false]
theorem okBb_rest {r : Int} {l : List Int} (h0 : 0 ≤ r) (h1 : r ≤ 1000000000) (h2 : ¬ (r = 0 ∧ 0 < l.length)) : okBb r l = validI l := by
  unfold okBb
  have e1 : decide (0 ≤ r) = true := by simpa using h0
  have e2 : decide (r ≤ 1000000000) = true := by simpa using h1
  have e3 : (decide (0 < r) || decide (l.length = 0)) = true := by
    have : 0 < r ∨ l.length = 0 := by omega
    rcases this with h | h <;> simp [h]
  rw [e1, e2, e3]; simp
set_option maxRecDepth 100000 in
set_option maxHeartbeats 4000000 in
theorem rvalidB_any (r : Int) (v : Value) (l : List Int) (w : World) (hl : l.length ≤ 1000000) (h : Ints [] w v l) : Calls Tryz.prog 63 #[.agg #[.int .i64 r, v]] w fun e w' => e = .returned (.bool (okBb r l)) ∧ Below w.heap.size w w' := by
  obtain ⟨a, cap, rfl⟩ := Raw.slice h
  obtain ⟨W, hW⟩ : ∃ W, W = w.alloc (.cells #[.int .i64 r, .slice a l.length cap] 24) := ⟨_, rfl⟩
  have hb : Below w.heap.size w W := by rw [hW]; exact (Below.refl w.heap.size w).alloc (Nat.le_refl _) _
  have hx : W.heap[w.heap.size]? = some (.cells #[.int .i64 r, .slice a l.length cap] 24 (0, 0)) := by rw [hW]; exact heap_alloc_new w _
  obtain ⟨X, hX⟩ : ∃ X, X = w.heap.size := ⟨_, rfl⟩
  rw [← hX] at hx
  have H := Lib.hid (Raw.below h hb)
  have HB := Lib.hid hb; have HX := Lib.hid hx; have HW := Lib.hid hW; have HXe := Lib.hid hX
  have c0 := box_at hx (j := 0) rfl
  have c1 := box_at hx (j := 1) rfl
  clear h hb hx hW hX
  go_enter Tryz.func63, Tryz.ntmps63
  go_upto_region 1 with (fail)
  rw [← HW.out, ← HXe.out]
  clear HW
  by_cases hf : r < 0 ∨ 1000000000 < r ∨ (r = 0 ∧ 0 < l.length)
  · have HR := Lib.hid (okBb_first hf)
    have HF := Lib.hid hf; clear hf
    go_wp2
    all_goals first
      | (go_ret; exact ⟨ret_bool HR.out.symm, HB.out⟩)
      | (exfalso; have := HF.out; omega)
  · have h0 : 0 ≤ r := by omega
    have h1 : r ≤ 1000000000 := by omega
    have h2 : ¬ (r = 0 ∧ 0 < l.length) := by omega
    have HR := Lib.hid (okBb_rest h0 h1 h2)
    clear hf
    by_cases hr0 : r = 0
    · subst hr0
      have hl0 : ¬ (0 : Int) < l.length := by omega
      clear h2
      go_wp2
      go_loopw [3] (fun i wr => ∃ k : Nat, k ≤ l.length ∧ i = .int .i64 k ∧ Below W.heap.size W wr ∧ ∀ j, j < k → okI l j = true) (fun i _ => l.length - (intOf i).toNat)
      case atStart => exact ⟨0, Nat.zero_le _, rfl, Below.refl _ _, fun j hj => absurd hj (Nat.not_lt_zero _)⟩
      case round =>
        clear c0 c1
        obtain ⟨k, hk, rfl, hbel, hok⟩ := hrel
        have hx2 := (hbel.block X (Array.getElem?_eq_some_iff.1 HX.out).1).trans HX.out
        have HOK := Lib.hid hok; have HBl := Lib.hid hbel; have HX2 := Lib.hid hx2
        have c0 := box_at hx2 (j := 0) rfl
        have c1 := box_at hx2 (j := 1) rfl
        clear hok hx2
        by_cases hlt : k < l.length
        · exfalso; omega
        · obtain rfl : k = l.length := by omega
          have HF : Hid (validI l = true) := Lib.hid (validI_true HOK.out)
          go_wp2
          go_ret
          exact ⟨ret_bool (by rw [HR.out, HF.out]), HB.out.trans (HBl.out.mono HB.out.size)⟩
    · have hr1 : (r == 0) = false := by simpa using hr0
      clear h2 hr0
      go_wp2
      go_loopw [3] (fun i wr => ∃ k : Nat, k ≤ l.length ∧ i = .int .i64 k ∧ Below W.heap.size W wr ∧ ∀ j, j < k → okI l j = true) (fun i _ => l.length - (intOf i).toNat)
      case atStart => exact ⟨0, Nat.zero_le _, rfl, Below.refl _ _, fun j hj => absurd hj (Nat.not_lt_zero _)⟩
      case round =>
        clear c0 c1
        obtain ⟨k, hk, rfl, hbel, hok⟩ := hrel
        have hx2 := (hbel.block X (Array.getElem?_eq_some_iff.1 HX.out).1).trans HX.out
        have HOK := Lib.hid hok; have HBl := Lib.hid hbel; have HX2 := Lib.hid hx2
        have c0 := box_at hx2 (j := 0) rfl
        have c1 := box_at hx2 (j := 1) rfl
        clear hok hx2
        by_cases hlt : k < l.length
        · go_upto_region 6 with (fail)
          have hBl : ∀ q ∈ [X], ∃ cc e f, wr.heap[q]? = some (.cells cc e f) := fun q hq => by rw [List.mem_singleton.1 hq]; exact ⟨_, _, _, HX2.out⟩
          refine Txt.Ty.wp_tree [X] [1] [] [1, 4, 12, 16, 18, 21] [0, 1, 2, 3, 4] (.alt [5, 6, 7, 8, 9, 10, 11, 12, 13, 14, 15, 16, 17, 18, 19, 20, 21, 22, 23, 24] (.done) (.no)) (by kernel_rfl) (by kernel_rfl) (by kernel_rfl) (by kernel_rfl) hBl ?_
          obtain ⟨y0, hy0⟩ : ∃ y, y = wr.drew := ⟨_, rfl⟩
          have hS0 : Hid (Txt.SameB [X] y0 y0) := Lib.hid (by rw [hy0]; exact same_start hBl)
          clear hBl
          rw [← hy0]
          have hd : Below wr.heap.size wr y0 := by rw [hy0]; exact (Below.refl _ _).drew
          have hby := hbel.trans (hd.mono hbel.size)
          have HBY := Lib.hid hby
          have hx3 := (hd.block X (Array.getElem?_eq_some_iff.1 HX2.out).1).trans HX2.out
          have c0 := box_at hx3 (j := 0) rfl
          have c1 := box_at hx3 (j := 1) rfl
          have hI := Raw.below H.out hby
          obtain ⟨b, off, cp, he, hb, h0'⟩ := Ints.elem hI hlt
          cases he
          obtain ⟨z, hz⟩ : ∃ z, l[k] = z := ⟨_, rfl⟩
          rw [hz] at h0'
          have hzz : itAt l k = z := by rw [← hz]; exact (it_get hlt).symm
          have HZ := Lib.hid hzz
          have HI := Lib.hid hI
          clear hz hzz hd hy0 hbel hx3 hby hI
          (try simp only [Txt.pick, List.getElem?_cons_succ, List.getElem?_cons_zero])
          go_wp2
          refine Txt.RunPost.mk ?_
          refine Txt.Ty.wpTr_alt ?_ Txt.Ty.wpTr_no
          (try simp only [Txt.pick, List.getElem?_cons_succ, List.getElem?_cons_zero])
          go_wp2_with fail
          obtain ⟨PB, hPB⟩ : ∃ B, prp z = B := ⟨_, rfl⟩
          refine (rproper_eq z PB _ hPB).mono ?_
          rintro e w' ⟨rfl, rfl⟩
          have HPB := Lib.hid hPB
          clear hPB
          cases PB
          · have HF : Hid (validI l = false) := Lib.hid (validI_false hlt (by unfold okI; rw [HZ.out, HPB.out]; rfl))
            go_wp2
            refine Txt.SegPost.mk (Txt.Ty.Shown.same hS0.out) ?_
            (try simp only [Txt.pick, List.getElem?_cons_succ, List.getElem?_cons_zero])
            go_wp2
            refine Txt.RunPost.mk ?_
            refine Txt.Ty.wpTr_done (by rfl) ⟨.head _, trivial⟩ ?_
            go_wp2
            go_ret
            exact ⟨ret_bool (by rw [HR.out, HF.out]), HB.out.trans (HBY.out.mono HB.out.size)⟩
          · by_cases hk0 : k = 0
            · subst hk0
              have hok0 : Hid (okI l 0 = true) := Lib.hid (by unfold okI; rw [HZ.out, HPB.out]; rfl)
              go_wp2
              refine Txt.SegPost.mk (Txt.Ty.Shown.same hS0.out) ?_
              (try simp only [Txt.pick, List.getElem?_cons_succ, List.getElem?_cons_zero])
              go_wp2
              refine Txt.RunPost.mk ?_
              refine Txt.Ty.wpTr_done (by rfl) ⟨.head _, trivial⟩ ?_
              clear h0' c0 c1
              go_wp2
              go_roundw
              case rel => exact ⟨1, hlt, by go_num, HBY.out, fun j hj => by
                obtain rfl : j = 0 := by omega
                exact hok0.out⟩
              case measure => simp [intOf]; omega
            · obtain ⟨p, rfl⟩ : ∃ p, k = p + 1 := ⟨k - 1, by omega⟩
              have hpl : p < l.length := by omega
              obtain ⟨b2, off2, cp2, he2, hb2, h02⟩ := Ints.elem HI.out hpl
              cases he2
              obtain ⟨y, hy⟩ : ∃ y, l[p] = y := ⟨_, rfl⟩
              rw [hy] at h02
              have hyy : itAt l p = y := by rw [← hy]; exact (it_get hpl).symm
              have HY := Lib.hid hyy
              clear hy hyy
              have hkp : (0 : Int) < ((p + 1 : Nat) : Int) := by omega
              have hkm : ((p + 1 : Nat) : Int) - 1 = (p : Int) := by omega
              by_cases hzy : z ≤ y
              · have HF : Hid (validI l = false) := Lib.hid (validI_false hlt (by
                  unfold okI
                  rw [HZ.out, HPB.out, Nat.add_sub_cancel, HY.out]
                  simp; omega))
                go_wp2
                refine Txt.SegPost.mk (Txt.Ty.Shown.same hS0.out) ?_
                (try simp only [Txt.pick, List.getElem?_cons_succ, List.getElem?_cons_zero])
                go_wp2
                refine Txt.RunPost.mk ?_
                refine Txt.Ty.wpTr_done (by rfl) ⟨.head _, trivial⟩ ?_
                go_wp2
                go_ret
                exact ⟨ret_bool (by rw [HR.out, HF.out]), HB.out.trans (HBY.out.mono HB.out.size)⟩
              · have hokp : Hid (okI l (p + 1) = true) := Lib.hid (by
                  unfold okI
                  rw [HZ.out, HPB.out, Nat.add_sub_cancel, HY.out]
                  simp; omega)
                go_wp2
                refine Txt.SegPost.mk (Txt.Ty.Shown.same hS0.out) ?_
                (try simp only [Txt.pick, List.getElem?_cons_succ, List.getElem?_cons_zero])
                go_wp2
                refine Txt.RunPost.mk ?_
                refine Txt.Ty.wpTr_done (by rfl) ⟨.head _, trivial⟩ ?_
                clear h0' h02 c0 c1
                go_wp2
                go_roundw
                case rel => exact ⟨p + 1 + 1, hlt, by go_num, HBY.out, fun j hj => by
                  by_cases hjk : j < p + 1
                  · exact HOK.out j hjk
                  · obtain rfl : j = p + 1 := by omega
                    exact hokp.out⟩
                case measure => simp [intOf]; omega
        · obtain rfl : k = l.length := by omega
          have HF : Hid (validI l = true) := Lib.hid (validI_true HOK.out)
          go_wp2
          go_ret
          exact ⟨ret_bool (by rw [HR.out, HF.out]), HB.out.trans (HBl.out.mono HB.out.size)⟩
end Go.Proofs.YthmnhpakgjnngaaGreatDoor
