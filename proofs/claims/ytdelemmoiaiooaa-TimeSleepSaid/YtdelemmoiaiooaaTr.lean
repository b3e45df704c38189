/- time: the reference's set -/
import Derived.Test.YtdelemmoiaiooaaTq
namespace Go.Ti
open Go Go.RowKit Go.Bs Go.Cl Go.Rw Go.Wi
theorem users_take {k : Nat} (h : k < 16) : usersL.take (k + 1) = usersL.take k ++ [16 + (k : Int)] := by
  rw [List.take_add_one, at_get (l := usersL) (by simpa [usersL] using h), users_at k h]; rfl
theorem pS_self {l : List Int} {t : Int} {b : Bool} : pS l t b t = b := by simp [pS]
theorem pS_other {l : List Int} {t x : Int} {b : Bool} (h : x ≠ t) : pS l t b x = decide (x ∈ l) := by simp [pS, h]
end Go.Ti
namespace Go.Proofs.Ytdelemmoiaiooaa
open Go.RowKit Go.Bs Go.Cl Go.Rw Go.Ti Go.Wi Go.Sort Go.So
set_option maxRecDepth 100000 in
set_option maxHeartbeats 4000000 in
theorem set_any (v : Value) (l : List Int) (t : Int) (b : Bool) (w : World) (hl : l.length ≤ 1000000) (h : SlT w v l) : Calls Try.prog 47 #[.agg #[v], .int .i64 t, .bool b] w fun e w' => ∃ v', e = .returned (.agg #[v']) ∧ w'.ownsRow w.heap.size 3 1 v' (setR l t b).length ((setR l t b).flatMap encT) ∧ Below w.heap.size w w' := by
  obtain ⟨a, cap, rfl⟩ := Raw.slice h
  obtain ⟨W, hW⟩ : ∃ W, W = ((w.alloc (.cells #[.slice a l.length cap] 24)).alloc (.cells #[.slice none 0 0] 24)).alloc (.cells #[.slice none 0 0] 24) := ⟨_, rfl⟩
  have hb : Below w.heap.size w W := by rw [hW]; exact (((Below.refl w.heap.size w).alloc (Nat.le_refl _) _).alloc (by simp) _).alloc (by simp; omega) _
  have hws : W.heap.size = w.heap.size + 3 := by rw [hW]; simp
  have hx : W.heap[w.heap.size]? = some (.cells #[.slice a l.length cap] 24 (0, 0)) := by
    rw [hW]
    have h1 := heap_alloc_new w (.cells #[.slice a l.length cap] 24)
    have h2 := (Below.heap_alloc (w.alloc (.cells #[.slice a l.length cap] 24)) (.cells #[.slice none 0 0] 24) w.heap.size (by simp)).trans h1
    exact (Below.heap_alloc _ (.cells #[.slice none 0 0] 24) w.heap.size (by simp; omega)).trans h2
  have hr : W.heap[w.heap.size + 1]? = some (.cells #[.slice none 0 0] 24 (0, 0)) := by
    rw [hW]
    have h1 := heap_alloc_new (w.alloc (.cells #[.slice a l.length cap] 24)) (.cells #[.slice none 0 0] 24)
    simp only [World.size_alloc] at h1
    exact (Below.heap_alloc _ (.cells #[.slice none 0 0] 24) (w.heap.size + 1) (by simp)).trans h1
  have hB : W.heap[w.heap.size + 2]? = some (.cells #[.slice none 0 0] 24 (0, 0)) := by
    rw [hW]
    have h1 := heap_alloc_new ((w.alloc (.cells #[.slice a l.length cap] 24)).alloc (.cells #[.slice none 0 0] 24)) (.cells #[.slice none 0 0] 24)
    simp only [World.size_alloc] at h1
    exact h1
  obtain ⟨X, hX⟩ : ∃ X, X = w.heap.size := ⟨_, rfl⟩
  obtain ⟨R, hR⟩ : ∃ R, R = w.heap.size + 1 := ⟨_, rfl⟩
  obtain ⟨B, hBB⟩ : ∃ B, B = w.heap.size + 2 := ⟨_, rfl⟩
  rw [← hX] at hx
  rw [← hR] at hr
  rw [← hBB] at hB
  have H0 := Lib.hid h; have HX := Lib.hid hx; have HR := Lib.hid hr; have HB := Lib.hid hB; have Hb := Lib.hid hb
  have hXW : X < W.heap.size := by omega
  have hRW : R < W.heap.size := by omega
  have hBW : B < W.heap.size := by omega
  have hXB : X ≠ B := by omega
  have hRB : R ≠ B := by omega
  have hwW : w.heap.size ≤ W.heap.size := by omega
  have hwR : w.heap.size ≤ R := by omega
  have hwB : w.heap.size ≤ B := by omega
  have HXe := Lib.hid hX; have HRe := Lib.hid hR; have HBe := Lib.hid hBB; have HWe := Lib.hid hW
  have hR2 : R = X + 1 := by omega
  have hB2 : B = X + 1 + 1 := by omega
  have HR2 := Lib.hid hR2; have HB2 := Lib.hid hB2
  clear h hx hb hr hB hX hR hBB hW hws hR2 hB2
  go_enter Try.func47, Try.ntmps47
  go_upto_region 2 with (fail)
  rw [← HWe.out, ← HXe.out, ← HB2.out, ← HR2.out]
  clear HWe HXe HB2 HR2 HRe HBe
  go_wp2
  go_loopw [8] (fun i wr => ∃ (k : Nat) (ov : Value), k ≤ 16 ∧ i = .int .i64 (16 + (k : Int)) ∧ wr.heap[B]? = some (.cells #[ov] 24 (0, 0)) ∧ wr.ownsRow W.heap.size 3 1 ov ((usersL.take k).filter (pS l t b)).length (((usersL.take k).filter (pS l t b)).flatMap encT) ∧ Keep [B] W wr) (fun i _ => 32 - (intOf i).toNat)
  case atStart => exact ⟨0, .slice none 0 0, by omega, by simp, HB.out, World.ownsRow_nil _ _ _ _, Keep.refl _ _⟩
  case round =>
    obtain ⟨k, ov, hk, rfl, hBr, hrow, hkeep⟩ := hrel
    have HBr := Lib.hid hBr; have Hrow := Lib.hid hrow; have HK := Lib.hid hkeep
    have hsz := hkeep.size
    have hlen : ((usersL.take k).filter (pS l t b)).length ≤ 16 := Nat.le_trans (List.length_filter_le _ _) (by rw [List.length_take]; omega)
    obtain ⟨acc, hacc⟩ : ∃ acc, (usersL.take k).filter (pS l t b) = acc := ⟨_, rfl⟩
    rw [hacc] at Hrow hrow hlen
    have Hacc := Lib.hid hacc
    obtain ⟨oa, oc, rfl⟩ := own_slice hrow
    clear hBr hrow hacc
    by_cases hlt : k < 16
    · have hlt2 : 16 + (k : Int) < 32 := by omega
      have cX := box_at ((hkeep.block X hXW (by simpa using hXB)).trans HX.out) (j := 0) rfl
      have hstep : (usersL.take (k + 1)).filter (pS l t b) = acc ++ [16 + (k : Int)].filter (pS l t b) := by rw [users_take hlt, List.filter_append, Hacc.out]
      have Hstep := Lib.hid hstep
      clear hkeep hstep
      by_cases he : 16 + (k : Int) = t
      · have Hp0 : Hid (pS l t b (16 + (k : Int)) = b) := Lib.hid (by rw [he]; exact pS_self)
        cases b
        · have Hp := Hp0
          have Hrow9 : Hid (wr.ownsRow W.heap.size 3 1 (.slice oa acc.length oc) ((usersL.take (k + 1)).filter (pS l t false)).length (((usersL.take (k + 1)).filter (pS l t false)).flatMap encT)) := Lib.hid (by
            rw [Hstep.out, show [16 + (k : Int)].filter (pS l t false) = [] by simp [Hp.out], List.append_nil]
            exact Hrow.out)
          go_wp2
          go_roundw
          case rel => exact ⟨k + 1, _, hlt, by go_num, HBr.out, Hrow9.out, HK.out⟩
          case measure => simp [intOf]; omega
        · have Hp := Hp0
          have cB := box_at HBr.out (j := 0) rfl
          have hal := (Below.refl wr.heap.size wr).alloc (Nat.le_refl _) (.cells #[.int .i64 t] 3)
          have HA := Lib.hid (own_below Hrow.out hal (Nat.le_refl _))
          have HXa := Lib.hid (boxI wr.heap.size t (heap_alloc_new wr (.cells #[.int .i64 t] 3)))
          have HKa := Lib.hid (HK.out.trans (Keep.of_below' (F := []) hal) (fun f hf => by cases hf))
          have hblt := (Array.getElem?_eq_some_iff.1 HBr.out).1
          have HBa := Lib.hid ((hal.block B hblt).trans HBr.out)
          have Hlow := Lib.hid (hal.mono (show W.heap.size ≤ wr.heap.size by omega))
          clear hal
          go_wp2_with (at_builtin; refine wpList_appF elI Try.underlying22 HA.out HXa.out Hlow.out rfl _ _ rfl rfl rfl ?c3 ?cB ?c5 ?_)
          case c3 => omega
          case cB => exact Nat.le_refl _
          case c5 => (try simp); omega
          intro v8 w8 hown8 hbel8 hk8 hn8
          have hrow8 : w8.ownsRow W.heap.size 3 1 v8 ((usersL.take (k + 1)).filter (pS l t true)).length (((usersL.take (k + 1)).filter (pS l t true)).flatMap encT) := by
            rw [Hstep.out, show [16 + (k : Int)].filter (pS l t true) = [t] by rw [he]; simp [pS_self], List.length_append, List.flatMap_append]
            exact hown8
          have hBk := (hk8.block B (Array.getElem?_eq_some_iff.1 HBa.out).1 (fun hm => by have := (HA.out.lt B (by simpa using hm)).1; omega)).trans HBa.out
          have fB := box_free hBk 0
          have eB := box_at hBk (j := 0) rfl
          have hK8 := HKa.out.trans hk8 (fun f hf => by have := (HA.out.lt f (by simpa using hf)).1; exact .inr (by omega))
          obtain ⟨M, hM⟩ : ∃ M, M = ((usersL.take (k + 1)).filter (pS l t true)).length := ⟨_, rfl⟩
          rw [← hM] at hrow8
          obtain ⟨a8, c8, rfl⟩ := own_slice hrow8
          have hks : Keep [B] w8 (w8.setCell ⟨B, 0, none⟩ (.slice a8 M c8)) := (Keep.refl [B] w8).setCell (by simp) _
          have HB9 := Lib.hid (box_set (u := .slice a8 M c8) hBk)
          have Hrow9 : Hid ((w8.setCell ⟨B, 0, none⟩ (.slice a8 M c8)).ownsRow W.heap.size 3 1 (.slice a8 M c8) ((usersL.take (k + 1)).filter (pS l t true)).length (((usersL.take (k + 1)).filter (pS l t true)).flatMap encT)) := Lib.hid (by
            rw [← hM]
            exact own_keep hrow8 hks (fun r hr hm => by have := (hrow8.lt r hr).1; rw [List.mem_singleton.1 hm] at this; omega))
          have HK9 := Lib.hid (hK8.trans hks (fun f hf => .inl hf))
          clear hown8 hbel8 hk8 hn8 hrow8 hBk hK8 hM hks
          go_wp2
          go_roundw
          case rel => exact ⟨k + 1, _, hlt, by go_num, HB9.out, Hrow9.out, HK9.out⟩
          case measure => simp [intOf]; omega
      · have Hp0 : Hid (pS l t b (16 + (k : Int)) = decide (16 + (k : Int) ∈ l)) := Lib.hid (pS_other he)
        cases hm : decide (16 + (k : Int) ∈ l)
        · have Hp : Hid (pS l t b (16 + (k : Int)) = false) := Lib.hid (Hp0.out.trans hm)
          go_wp2_with fail
          refine (rsleeps_is _ l _ false _ hl (H0.out.below (Hb.out.trans (HK.out.below (B := w.heap.size) hwW (fun f hf => by rw [List.mem_singleton.1 hf]; exact hwB)))) hm).mono ?_
          rintro e w3 ⟨rfl, hb3⟩
          have HBr := Lib.hid ((hb3.block B (Array.getElem?_eq_some_iff.1 HBr.out).1).trans HBr.out)
          have Hrow := Lib.hid (own_below Hrow.out hb3 (Nat.le_refl _))
          have HK := Lib.hid (HK.out.trans (Keep.of_below' (F := []) hb3) (fun f hf => by cases hf))
          have hsz3 := hb3.size
          clear hb3 hm
          have Hrow9 : Hid (w3.ownsRow W.heap.size 3 1 (.slice oa acc.length oc) ((usersL.take (k + 1)).filter (pS l t b)).length (((usersL.take (k + 1)).filter (pS l t b)).flatMap encT)) := Lib.hid (by
            rw [Hstep.out, show [16 + (k : Int)].filter (pS l t b) = [] by simp [Hp.out], List.append_nil]
            exact Hrow.out)
          go_wp2
          go_roundw
          case rel => exact ⟨k + 1, _, hlt, by go_num, HBr.out, Hrow9.out, HK.out⟩
          case measure => simp [intOf]; omega
        · have Hp : Hid (pS l t b (16 + (k : Int)) = true) := Lib.hid (Hp0.out.trans hm)
          go_wp2_with fail
          refine (rsleeps_is _ l _ true _ hl (H0.out.below (Hb.out.trans (HK.out.below (B := w.heap.size) hwW (fun f hf => by rw [List.mem_singleton.1 hf]; exact hwB)))) hm).mono ?_
          rintro e w3 ⟨rfl, hb3⟩
          have HBr := Lib.hid ((hb3.block B (Array.getElem?_eq_some_iff.1 HBr.out).1).trans HBr.out)
          have Hrow := Lib.hid (own_below Hrow.out hb3 (Nat.le_refl _))
          have HK := Lib.hid (HK.out.trans (Keep.of_below' (F := []) hb3) (fun f hf => by cases hf))
          have hsz3 := hb3.size
          clear hb3 hm
          have cB := box_at HBr.out (j := 0) rfl
          have hal := (Below.refl w3.heap.size w3).alloc (Nat.le_refl _) (.cells #[.int .i64 (16 + (k : Int))] 3)
          have HA := Lib.hid (own_below Hrow.out hal (Nat.le_refl _))
          have HXa := Lib.hid (boxI w3.heap.size (16 + (k : Int)) (heap_alloc_new w3 (.cells #[.int .i64 (16 + (k : Int))] 3)))
          have HKa := Lib.hid (HK.out.trans (Keep.of_below' (F := []) hal) (fun f hf => by cases hf))
          have hblt := (Array.getElem?_eq_some_iff.1 HBr.out).1
          have HBa := Lib.hid ((hal.block B hblt).trans HBr.out)
          have Hlow := Lib.hid (hal.mono (show W.heap.size ≤ w3.heap.size by omega))
          clear hal
          go_wp2_with (at_builtin; refine wpList_appF elI Try.underlying22 HA.out HXa.out Hlow.out rfl _ _ rfl rfl rfl ?c3 ?cB ?c5 ?_)
          case c3 => omega
          case cB => exact Nat.le_refl _
          case c5 => (try simp); omega
          intro v8 w8 hown8 hbel8 hk8 hn8
          have hrow8 : w8.ownsRow W.heap.size 3 1 v8 ((usersL.take (k + 1)).filter (pS l t b)).length (((usersL.take (k + 1)).filter (pS l t b)).flatMap encT) := by
            rw [Hstep.out, show [16 + (k : Int)].filter (pS l t b) = [16 + (k : Int)] by simp [Hp.out], List.length_append, List.flatMap_append]
            exact hown8
          have hBk := (hk8.block B (Array.getElem?_eq_some_iff.1 HBa.out).1 (fun hm => by have := (HA.out.lt B (by simpa using hm)).1; omega)).trans HBa.out
          have fB := box_free hBk 0
          have eB := box_at hBk (j := 0) rfl
          have hK8 := HKa.out.trans hk8 (fun f hf => by have := (HA.out.lt f (by simpa using hf)).1; exact .inr (by omega))
          obtain ⟨M, hM⟩ : ∃ M, M = ((usersL.take (k + 1)).filter (pS l t b)).length := ⟨_, rfl⟩
          rw [← hM] at hrow8
          obtain ⟨a8, c8, rfl⟩ := own_slice hrow8
          have hks : Keep [B] w8 (w8.setCell ⟨B, 0, none⟩ (.slice a8 M c8)) := (Keep.refl [B] w8).setCell (by simp) _
          have HB9 := Lib.hid (box_set (u := .slice a8 M c8) hBk)
          have Hrow9 : Hid ((w8.setCell ⟨B, 0, none⟩ (.slice a8 M c8)).ownsRow W.heap.size 3 1 (.slice a8 M c8) ((usersL.take (k + 1)).filter (pS l t b)).length (((usersL.take (k + 1)).filter (pS l t b)).flatMap encT)) := Lib.hid (by
            rw [← hM]
            exact own_keep hrow8 hks (fun r hr hm => by have := (hrow8.lt r hr).1; rw [List.mem_singleton.1 hm] at this; omega))
          have HK9 := Lib.hid (hK8.trans hks (fun f hf => .inl hf))
          clear hown8 hbel8 hk8 hn8 hrow8 hBk hK8 hM hks
          go_wp2
          go_roundw
          case rel => exact ⟨k + 1, _, hlt, by go_num, HB9.out, Hrow9.out, HK9.out⟩
          case measure => simp [intOf]; omega
    · obtain rfl : k = 16 := by omega
      have hR1 := (hkeep.block R hRW (by simpa using hRB)).trans HR.out
      have fR := box_free hR1 0
      have eR := box_at hR1 (j := 0) rfl
      have cB := box_at HBr.out (j := 0) rfl
      have hacc : acc = setR l t b := by rw [← Hacc.out]; rfl
      have Hfin : Hid ((wr.setCell ⟨R, 0, none⟩ (.slice oa acc.length oc)).heap[R]? = some (.cells #[.slice oa acc.length oc] 24 (0, 0)) ∧ (wr.setCell ⟨R, 0, none⟩ (.slice oa acc.length oc)).ownsRow w.heap.size 3 1 (.slice oa acc.length oc) (setR l t b).length ((setR l t b).flatMap encT) ∧ Below w.heap.size w (wr.setCell ⟨R, 0, none⟩ (.slice oa acc.length oc))) := Lib.hid ⟨box_set hR1, by
          rw [← hacc]
          exact own_base (own_keep Hrow.out ((Keep.refl [R] wr).setCell (by simp) _) (fun r hr hm => by have := (Hrow.out.lt r hr).1; rw [List.mem_singleton.1 hm] at this; omega)) hwW, (Hb.out.trans (HK.out.below (B := w.heap.size) hwW (fun f hf => by rw [List.mem_singleton.1 hf]; exact hwB))).setCell hwR _⟩
      clear hkeep hR1 hacc
      go_wp2
      refine bodyPost_ret (results_c rfl _ _ _ _ _ _ _ rfl Hfin.out.1 Try.underlying24 rfl (by kernel_rfl)) rfl ?_
      exact ⟨_, rfl, Hfin.out.2.1, Hfin.out.2.2⟩
end Go.Proofs.Ytdelemmoiaiooaa
