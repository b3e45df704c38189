/- time: the reference's next -/
import Derived.Test.YtdelemmoiaiooaaTr
namespace Go.Ti
open Go Go.RowKit Go.Bs Go.Cl Go.Rw Go.Wi
/-- what the reference's next returns -/
def RetN (r : Option (List Int × List Ef)) (w : World) (e : Ending) (w' : World) : Prop := Below w.heap.size w w' ∧ match r with
  | none => ∃ a n c, e = .returned (.tuple #[.agg #[.slice a n c], .slice none 0 0, .bool false])
  | some (l, es) => ∃ v ev, e = .returned (.tuple #[.agg #[v], ev, .bool true]) ∧ SlT w' v l ∧ SlE w' ev es
theorem box1F {w : World} {F : List Nat} (g : Nat) (x : Ef) {t : TypeId} (h : w.heap[g]? = some (.cells (encE x).toArray t (0, 0))) (hF : g ∉ F) : Raw F 15 w (.slice (some ⟨g, 0, none⟩) 1 1) 1 ([x].flatMap encE) :=
  Raw.of_block (ys := encE x) h hF (fun u hu => encE_one [x] u (by simpa using hu)) rfl (Nat.le_refl _) (by unfold maxLen; omega)
theorem box2F {w : World} {F : List Nat} (g : Nat) (x y : Ef) {t : TypeId} (h : w.heap[g]? = some (.cells (encE x ++ encE y).toArray t (0, 0))) (hF : g ∉ F) : Raw F 15 w (.slice (some ⟨g, 0, none⟩) 2 2) 2 ([x, y].flatMap encE) :=
  Raw.of_block (ys := encE x ++ encE y) h hF (fun u hu => encE_one [x, y] u (by simpa using hu)) rfl (Nat.le_refl _) (by unfold maxLen; omega)
/-- the cell of the result is written -/
theorem fin_set {w0 w : World} {R : Nat} {u v ev : Value} {l : List Int} {es : List Ef} (hb : Below w0.heap.size w0 w) (hR : w0.heap.size ≤ R) (hr : w.heap[R]? = some (.cells #[u] 24 (0, 0)))
    (hv : Raw [R] 1 w v l.length (l.flatMap encT)) (he : Raw [R] 15 w ev es.length (es.flatMap encE)) :
    (w.setCell ⟨R, 0, none⟩ v).heap[R]? = some (.cells #[v] 24 (0, 0)) ∧ SlT (w.setCell ⟨R, 0, none⟩ v) v l ∧ SlE (w.setCell ⟨R, 0, none⟩ v) ev es ∧ Below w0.heap.size w0 (w.setCell ⟨R, 0, none⟩ v) :=
  have hk : Keep [R] w (w.setCell ⟨R, 0, none⟩ v) := (Keep.refl [R] w).setCell (by simp) _
  ⟨box_set hr, Raw.keep hv hk (fun f hf => .inl hf) (fun f hf => by cases hf), Raw.keep he hk (fun f hf => .inl hf) (fun f hf => by cases hf), hb.setCell hR _⟩
end Go.Ti
namespace Go.Proofs.Ytdelemmoiaiooaa
open Go.RowKit Go.Bs Go.Cl Go.Rw Go.Ti Go.Wi Go.Sort Go.So
theorem ruser_is (t : Int) (r : Bool) (w : World) (h : usr t = r) : Calls Try.prog 35 #[.int .i64 t] w fun e w' => e = .returned (.bool r) ∧ w = w' := h ▸ ruser_any t w
set_option maxRecDepth 100000 in
set_option maxHeartbeats 8000000 in
theorem next_dst (v dv : Value) (l : List Int) (m : Ms) (w : World) (hl : l.length ≤ 900) (h : SlT w v l) (hv : validT l = true) (hd : ∃ a n c, dv = .slice a n c) (hdst : m.dst ≠ 10) :
    Calls Try.prog 28 #[.agg #[v], .agg (msgC m dv)] w (RetN (takeT l m) w) := by
  obtain ⟨da, dn, dc, rfl⟩ := hd
  obtain ⟨va, vc, rfl⟩ := Raw.slice h
  obtain ⟨W, hW⟩ : ∃ W, W = ((w.alloc (.cells #[.slice va l.length vc] 24)).alloc (.cells (msgC m (.slice da dn dc)) 28)).alloc (.cells #[.slice none 0 0] 24) := ⟨_, rfl⟩
  have hb : Below w.heap.size w W := by rw [hW]; exact (((Below.refl w.heap.size w).alloc (Nat.le_refl _) _).alloc (by simp) _).alloc (by simp; omega) _
  have hws : W.heap.size = w.heap.size + 3 := by rw [hW]; simp
  have hx : W.heap[w.heap.size]? = some (.cells #[.slice va l.length vc] 24 (0, 0)) := by
    rw [hW]
    have h1 := heap_alloc_new w (.cells #[.slice va l.length vc] 24)
    have h2 := (Below.heap_alloc (w.alloc (.cells #[.slice va l.length vc] 24)) (.cells (msgC m (.slice da dn dc)) 28) w.heap.size (by simp)).trans h1
    exact (Below.heap_alloc _ (.cells #[.slice none 0 0] 24) w.heap.size (by simp; omega)).trans h2
  have hr : W.heap[w.heap.size + 1]? = some (.cells (msgC m (.slice da dn dc)) 28 (0, 0)) := by
    rw [hW]
    have h1 := heap_alloc_new (w.alloc (.cells #[.slice va l.length vc] 24)) (.cells (msgC m (.slice da dn dc)) 28)
    simp only [World.size_alloc] at h1
    exact (Below.heap_alloc _ (.cells #[.slice none 0 0] 24) (w.heap.size + 1) (by simp)).trans h1
  have hB : W.heap[w.heap.size + 2]? = some (.cells #[.slice none 0 0] 24 (0, 0)) := by
    rw [hW]
    have h1 := heap_alloc_new ((w.alloc (.cells #[.slice va l.length vc] 24)).alloc (.cells (msgC m (.slice da dn dc)) 28)) (.cells #[.slice none 0 0] 24)
    simp only [World.size_alloc] at h1
    exact h1
  obtain ⟨X, hX⟩ : ∃ X, X = w.heap.size := ⟨_, rfl⟩
  obtain ⟨M, hM⟩ : ∃ M, M = w.heap.size + 1 := ⟨_, rfl⟩
  obtain ⟨R, hR⟩ : ∃ R, R = w.heap.size + 2 := ⟨_, rfl⟩
  rw [← hX] at hx
  rw [← hM] at hr
  rw [← hR] at hB
  have H0 := Lib.hid h; have HX_W := Lib.hid hx; have HM_W := Lib.hid hr; have HR_W := Lib.hid hB; have Hb_W := Lib.hid hb
  obtain ⟨N3, hN3⟩ : ∃ N3, N3 = W.heap.size := ⟨_, rfl⟩
  have hXN : X < N3 := by omega
  have hMN : M < N3 := by omega
  have hRN : R < N3 := by omega
  have hXR : X < R := by omega
  have hMR : M < R := by omega
  have hwR : w.heap.size ≤ R := by omega
  have hwN : w.heap.size ≤ N3 := by omega
  have hz_W : N3 ≤ W.heap.size := by omega
  have HXe := Lib.hid hX; have HWe := Lib.hid hW
  have hM2 : M = X + 1 := by omega
  have hR2 : R = X + 1 + 1 := by omega
  have HM2 := Lib.hid hM2; have HR2 := Lib.hid hR2
  have Hv := Lib.hid hv
  clear h hx hb hr hB hX hM hR hW hws hM2 hR2 hN3 hv
  unfold msgC at HM_W HWe
  unfold msgC
  have Q_hdst := Lib.hid hdst
  clear hdst
  go_enter Try.func28, Try.ntmps28
  go_upto_region 1 with (fail)
  rw [← HWe.out, ← HXe.out, ← HR2.out, ← HM2.out]
  clear HWe HXe HM2 HR2
  have hdst := Q_hdst.out
  have cX := box_at HX_W.out (j := 0) rfl
  have m0 := box_at HM_W.out (j := 0) rfl
  have m1 := box_at HM_W.out (j := 1) rfl
  have m2 := box_at HM_W.out (j := 2) rfl
  have m4 := box_at HM_W.out (j := 4) rfl
  have m5 := box_at HM_W.out (j := 5) rfl
  have m7 := box_at HM_W.out (j := 7) rfl
  have Hr : Hid (takeT l m = none) := Lib.hid (by unfold takeT; rw [if_pos hdst])
  have FIN := Lib.hid (fin_set (es := []) Hb_W.out hwR HR_W.out (Raw.below (Raw.fresh H0.out (fun f hf => .inr (by rw [List.mem_singleton.1 hf]; exact hwR))) Hb_W.out) (Raw.empty [R] 15 _))
  have rR := box_at HR_W.out (j := 0) rfl
  have rF := box_free HR_W.out 0
  go_wp2
  refine bodyPost_ret (results_ctt rfl _ _ _ _ _ _ _ rfl FIN.out.1 Try.underlying24 rfl (by kernel_rfl)) rfl ?_
  rw [Hr.out]
  exact ⟨FIN.out.2.2.2, _, _, _, rfl⟩
set_option maxRecDepth 100000 in
set_option maxHeartbeats 8000000 in
theorem next_ping (v dv : Value) (l : List Int) (m : Ms) (w : World) (hl : l.length ≤ 900) (h : SlT w v l) (hv : validT l = true) (hd : ∃ a n c, dv = .slice a n c) (hdst : m.dst = 10) (h6 : m.kind = 6) :
    Calls Try.prog 28 #[.agg #[v], .agg (msgC m dv)] w (RetN (takeT l m) w) := by
  obtain ⟨da, dn, dc, rfl⟩ := hd
  obtain ⟨va, vc, rfl⟩ := Raw.slice h
  obtain ⟨W, hW⟩ : ∃ W, W = ((w.alloc (.cells #[.slice va l.length vc] 24)).alloc (.cells (msgC m (.slice da dn dc)) 28)).alloc (.cells #[.slice none 0 0] 24) := ⟨_, rfl⟩
  have hb : Below w.heap.size w W := by rw [hW]; exact (((Below.refl w.heap.size w).alloc (Nat.le_refl _) _).alloc (by simp) _).alloc (by simp; omega) _
  have hws : W.heap.size = w.heap.size + 3 := by rw [hW]; simp
  have hx : W.heap[w.heap.size]? = some (.cells #[.slice va l.length vc] 24 (0, 0)) := by
    rw [hW]
    have h1 := heap_alloc_new w (.cells #[.slice va l.length vc] 24)
    have h2 := (Below.heap_alloc (w.alloc (.cells #[.slice va l.length vc] 24)) (.cells (msgC m (.slice da dn dc)) 28) w.heap.size (by simp)).trans h1
    exact (Below.heap_alloc _ (.cells #[.slice none 0 0] 24) w.heap.size (by simp; omega)).trans h2
  have hr : W.heap[w.heap.size + 1]? = some (.cells (msgC m (.slice da dn dc)) 28 (0, 0)) := by
    rw [hW]
    have h1 := heap_alloc_new (w.alloc (.cells #[.slice va l.length vc] 24)) (.cells (msgC m (.slice da dn dc)) 28)
    simp only [World.size_alloc] at h1
    exact (Below.heap_alloc _ (.cells #[.slice none 0 0] 24) (w.heap.size + 1) (by simp)).trans h1
  have hB : W.heap[w.heap.size + 2]? = some (.cells #[.slice none 0 0] 24 (0, 0)) := by
    rw [hW]
    have h1 := heap_alloc_new ((w.alloc (.cells #[.slice va l.length vc] 24)).alloc (.cells (msgC m (.slice da dn dc)) 28)) (.cells #[.slice none 0 0] 24)
    simp only [World.size_alloc] at h1
    exact h1
  obtain ⟨X, hX⟩ : ∃ X, X = w.heap.size := ⟨_, rfl⟩
  obtain ⟨M, hM⟩ : ∃ M, M = w.heap.size + 1 := ⟨_, rfl⟩
  obtain ⟨R, hR⟩ : ∃ R, R = w.heap.size + 2 := ⟨_, rfl⟩
  rw [← hX] at hx
  rw [← hM] at hr
  rw [← hR] at hB
  have H0 := Lib.hid h; have HX_W := Lib.hid hx; have HM_W := Lib.hid hr; have HR_W := Lib.hid hB; have Hb_W := Lib.hid hb
  obtain ⟨N3, hN3⟩ : ∃ N3, N3 = W.heap.size := ⟨_, rfl⟩
  have hXN : X < N3 := by omega
  have hMN : M < N3 := by omega
  have hRN : R < N3 := by omega
  have hXR : X < R := by omega
  have hMR : M < R := by omega
  have hwR : w.heap.size ≤ R := by omega
  have hwN : w.heap.size ≤ N3 := by omega
  have hz_W : N3 ≤ W.heap.size := by omega
  have HXe := Lib.hid hX; have HWe := Lib.hid hW
  have hM2 : M = X + 1 := by omega
  have hR2 : R = X + 1 + 1 := by omega
  have HM2 := Lib.hid hM2; have HR2 := Lib.hid hR2
  have Hv := Lib.hid hv
  clear h hx hb hr hB hX hM hR hW hws hM2 hR2 hN3 hv
  unfold msgC at HM_W HWe
  unfold msgC
  have Q_hdst := Lib.hid hdst
  have Q_h6 := Lib.hid h6
  clear hdst h6
  go_enter Try.func28, Try.ntmps28
  go_upto_region 1 with (fail)
  rw [← HWe.out, ← HXe.out, ← HR2.out, ← HM2.out]
  clear HWe HXe HM2 HR2
  have hdst := Q_hdst.out
  have h6 := Q_h6.out
  have HTk : Hid (takeT l m = (if m.kind = 6 ∧ m.src = 1 then some (l, [send 1 7 m.a0])
    else if m.kind = 1 then sysT l m
    else if m.kind = 4 ∧ m.src = 0 ∧ usr m.a0 = true then some (delT l m.a0, if m.a0 ∈ l then [reply m.a0 0] else [])
    else if m.kind = 16 ∧ m.src = 3 ∧ usr m.a0 = true then some (delT l m.a0, (if m.a0 ∈ l then [timer (-1) m.a0] else []) ++ [send 3 17 m.a0])
    else none)) := Lib.hid (by unfold takeT; rw [if_neg (by simp [hdst])])
  have cX := box_at HX_W.out (j := 0) rfl
  have m0 := box_at HM_W.out (j := 0) rfl
  have m1 := box_at HM_W.out (j := 1) rfl
  have m2 := box_at HM_W.out (j := 2) rfl
  have m4 := box_at HM_W.out (j := 4) rfl
  have m5 := box_at HM_W.out (j := 5) rfl
  have m7 := box_at HM_W.out (j := 7) rfl
  rw [hdst] at m1
  rw [h6] at m2
  by_cases hs1 : m.src = 1
  · rw [hs1] at m0
    have Hr : Hid (takeT l m = some (l, [send 1 7 m.a0])) := Lib.hid (by rw [HTk.out, if_pos ⟨h6, hs1⟩])
    go_upto_region 5 with (fail)
    have hBl := show ∀ q ∈ [X], ∃ cc e f, W.heap[q]? = some (.cells cc e f) from fun q hq => by rw [List.mem_singleton.1 hq]; exact ⟨_, _, _, HX_W.out⟩
    refine Txt.Ty.wp_tree ([X]) [0] [] [0, 3] [0, 1, 2, 3] (.alt [4] (.alt [5] (.alt [6, 7, 8] (.done) (.no)) (.alt [6] (.alt [5, 7, 8] (.done) (.no)) (.no))) (.no)) (by kernel_rfl) (by kernel_rfl) (by kernel_rfl) (by kernel_rfl) hBl ?_
    obtain ⟨y0, hy0⟩ : ∃ y, y = W.drew := ⟨_, rfl⟩
    have HS0 : Hid (Txt.SameB [X] y0 y0) := Lib.hid (by rw [hy0]; exact same_start hBl)
    clear hBl
    rw [← hy0]
    have hd : Below W.heap.size W y0 := by rw [hy0]; exact (Below.refl _ _).drew
    have HX_y0 := Lib.hid ((hd.block X (by omega)).trans HX_W.out)
    have HM_y0 := Lib.hid ((hd.block M (by omega)).trans HM_W.out)
    have HR_y0 := Lib.hid ((hd.block R (by omega)).trans HR_W.out)
    have Hb_y0 := Lib.hid (Hb_W.out.trans (hd.mono (by omega)))
    have hz_y0 : N3 ≤ y0.heap.size := Nat.le_trans hz_W hd.size
    clear cX m0 m1 m2 m4 m5 m7
    have cX := box_at HX_y0.out (j := 0) rfl
    have m0 := box_at HM_y0.out (j := 0) rfl
    have m1 := box_at HM_y0.out (j := 1) rfl
    have m2 := box_at HM_y0.out (j := 2) rfl
    have m4 := box_at HM_y0.out (j := 4) rfl
    have m5 := box_at HM_y0.out (j := 5) rfl
    have m7 := box_at HM_y0.out (j := 7) rfl
    rw [hdst] at m1
    rw [h6] at m2
    rw [hs1] at m0
    clear hd hy0
    (try simp only [Txt.pick, List.getElem?_cons_succ, List.getElem?_cons_zero])
    go_wp2
    refine Txt.RunPost.mk ?_
    refine Txt.Ty.wpTr_alt ?_ Txt.Ty.wpTr_no
    (try simp only [Txt.pick, List.getElem?_cons_succ, List.getElem?_cons_zero])
    go_wp2_with fail
    refine (rsend_any 1 7 m.a0 _).mono ?_
    rintro e w2 ⟨rfl, hb⟩
    simp only [encE, reply, timer, send]
    have HX_w2 := Lib.hid ((hb.block X (by omega)).trans HX_y0.out)
    have HM_w2 := Lib.hid ((hb.block M (by omega)).trans HM_y0.out)
    have HR_w2 := Lib.hid ((hb.block R (by omega)).trans HR_y0.out)
    have Hb_w2 := Lib.hid (Hb_y0.out.trans (hb.mono (by omega)))
    have hz_w2 : N3 ≤ w2.heap.size := Nat.le_trans hz_y0 hb.size
    have HS2 := Lib.hid (same_below' HS0.out hb)
    have HV2 := Lib.hid (Raw.below (Raw.fresh H0.out (fun f hf => .inr (by rw [List.mem_singleton.1 hf]; exact hwR))) Hb_w2.out)
    clear cX m0 m1 m2 m4 m5 m7
    clear hb
    go_wp2
    refine Txt.SegPost.mk (Txt.Ty.Shown.same HS2.out) ?_
    (try simp only [Txt.pick, List.getElem?_cons_succ, List.getElem?_cons_zero])
    go_wp2
    refine Txt.RunPost.mk ?_
    refine Txt.Ty.wpTr_alt ?_ (Txt.Ty.wpTr_alt ?_ Txt.Ty.wpTr_no)
    · have hal := (Below.refl w2.heap.size w2).alloc (Nat.le_refl _) (.cells (encE (send 1 7 m.a0)).toArray 62)
      have HRa := Lib.hid ((hal.block R (by omega)).trans HR_w2.out)
      have Hba := Lib.hid (Hb_w2.out.trans (hal.mono (by omega)))
      have HVa := Lib.hid (Raw.below HV2.out hal)
      have HEa := Lib.hid (box1F (F := [R]) w2.heap.size (send 1 7 m.a0) (heap_alloc_new w2 (.cells (encE (send 1 7 m.a0)).toArray 62)) (by simp; omega))
      have FIN := Lib.hid (fin_set Hba.out hwR HRa.out HVa.out HEa.out)
      have rR := box_at HRa.out (j := 0) rfl
      have rF := box_free HRa.out 0
      simp only [encE, reply, timer, send, List.cons_append, List.nil_append] at rR rF
      have HSa := Lib.hid (same_below' HS2.out hal)
      have HSb := Lib.hid (same_keep HSa.out ((Keep.refl [R] _).setCell (p := ⟨R, 0, none⟩) (by simp) (.slice va l.length vc)) (fun q hq => by rw [List.mem_singleton.1 hq]; simp; omega))
      clear hal
      (try simp only [Txt.pick, List.getElem?_cons_succ, List.getElem?_cons_zero])
      go_wp2
      refine Txt.SegPost.mk (Txt.Ty.Shown.same HSa.out) ?_
      (try simp only [Txt.pick, List.getElem?_cons_succ, List.getElem?_cons_zero])
      go_wp2
      refine Txt.RunPost.mk ?_
      refine Txt.Ty.wpTr_alt ?_ Txt.Ty.wpTr_no
      (try simp only [Txt.pick, List.getElem?_cons_succ, List.getElem?_cons_zero])
      go_wp2
      refine Txt.SegPost.mk (Txt.Ty.Shown.same HSb.out) ?_
      (try simp only [Txt.pick, List.getElem?_cons_succ, List.getElem?_cons_zero])
      go_wp2
      refine Txt.RunPost.mk ?_
      refine Txt.Ty.wpTr_done (by rfl) ⟨.head _, trivial⟩ ?_
      go_wp2
      refine bodyPost_ret (results_ctt rfl _ _ _ _ _ _ _ rfl FIN.out.1 Try.underlying24 rfl (by kernel_rfl)) rfl ?_
      rw [Hr.out]
      exact ⟨FIN.out.2.2.2, _, _, rfl, FIN.out.2.1, FIN.out.2.2.1⟩
    · have FB := fin_set (es := []) Hb_w2.out hwR HR_w2.out HV2.out (Raw.empty [R] 15 _)
      have hszB : (w2.setCell ⟨R, 0, none⟩ (.slice va l.length vc)).heap.size = w2.heap.size := by simp
      have hal := (Below.refl (w2.setCell ⟨R, 0, none⟩ (.slice va l.length vc)).heap.size (w2.setCell ⟨R, 0, none⟩ (.slice va l.length vc))).alloc (Nat.le_refl _) (.cells (encE (send 1 7 m.a0)).toArray 62)
      have hEB : ((w2.setCell ⟨R, 0, none⟩ (.slice va l.length vc)).alloc (.cells (encE (send 1 7 m.a0)).toArray 62)).heap[w2.heap.size]? = some (.cells (encE (send 1 7 m.a0)).toArray 62 (0, 0)) := by rw [← hszB]; exact heap_alloc_new _ _
      have FIN : Hid (((w2.setCell ⟨R, 0, none⟩ (.slice va l.length vc)).alloc (.cells (encE (send 1 7 m.a0)).toArray 62)).heap[R]? = some (.cells #[(.slice va l.length vc)] 24 (0, 0)) ∧ SlT ((w2.setCell ⟨R, 0, none⟩ (.slice va l.length vc)).alloc (.cells (encE (send 1 7 m.a0)).toArray 62)) (.slice va l.length vc) _ ∧ SlE ((w2.setCell ⟨R, 0, none⟩ (.slice va l.length vc)).alloc (.cells (encE (send 1 7 m.a0)).toArray 62)) (.slice (some ⟨w2.heap.size, 0, none⟩) 1 1) [send 1 7 m.a0] ∧ Below w.heap.size w ((w2.setCell ⟨R, 0, none⟩ (.slice va l.length vc)).alloc (.cells (encE (send 1 7 m.a0)).toArray 62))) :=
        Lib.hid ⟨(hal.block R (by rw [hszB]; omega)).trans FB.1, SlT.below FB.2.1 hal, box1 _ _ hEB, FB.2.2.2.trans (hal.mono (by rw [hszB]; omega))⟩
      have rR := box_at HR_w2.out (j := 0) rfl
      have rF := box_free HR_w2.out 0
      have HSa := Lib.hid (same_keep HS2.out ((Keep.refl [R] _).setCell (p := ⟨R, 0, none⟩) (by simp) (.slice va l.length vc)) (fun q hq => by rw [List.mem_singleton.1 hq]; simp; omega))
      have HSb := Lib.hid (same_below' HSa.out hal)
      clear FB hszB hal hEB
      (try simp only [Txt.pick, List.getElem?_cons_succ, List.getElem?_cons_zero])
      go_wp2
      refine Txt.SegPost.mk (Txt.Ty.Shown.same HSa.out) ?_
      (try simp only [Txt.pick, List.getElem?_cons_succ, List.getElem?_cons_zero])
      go_wp2
      refine Txt.RunPost.mk ?_
      refine Txt.Ty.wpTr_alt ?_ Txt.Ty.wpTr_no
      (try simp only [Txt.pick, List.getElem?_cons_succ, List.getElem?_cons_zero])
      go_wp2
      refine Txt.SegPost.mk (Txt.Ty.Shown.same HSb.out) ?_
      (try simp only [Txt.pick, List.getElem?_cons_succ, List.getElem?_cons_zero])
      go_wp2
      refine Txt.RunPost.mk ?_
      refine Txt.Ty.wpTr_done (by rfl) ⟨.head _, trivial⟩ ?_
      go_wp2
      refine bodyPost_ret (results_ctt rfl _ _ _ _ _ _ _ rfl FIN.out.1 Try.underlying24 rfl (by kernel_rfl)) rfl ?_
      rw [Hr.out]
      exact ⟨FIN.out.2.2.2, _, _, rfl, FIN.out.2.1, FIN.out.2.2.1⟩
  · have Hr : Hid (takeT l m = none) := Lib.hid (by rw [HTk.out, if_neg (by simp [hs1]), if_neg (by omega), if_neg (by omega), if_neg (by omega)])
    have FIN := Lib.hid (fin_set (es := []) Hb_W.out hwR HR_W.out (Raw.below (Raw.fresh H0.out (fun f hf => .inr (by rw [List.mem_singleton.1 hf]; exact hwR))) Hb_W.out) (Raw.empty [R] 15 _))
    have rR := box_at HR_W.out (j := 0) rfl
    have rF := box_free HR_W.out 0
    go_wp2
    refine bodyPost_ret (results_ctt rfl _ _ _ _ _ _ _ rfl FIN.out.1 Try.underlying24 rfl (by kernel_rfl)) rfl ?_
    rw [Hr.out]
    exact ⟨FIN.out.2.2.2, _, _, _, rfl⟩
set_option maxRecDepth 100000 in
set_option maxHeartbeats 8000000 in
theorem next_sys (v dv : Value) (l : List Int) (m : Ms) (w : World) (hl : l.length ≤ 900) (h : SlT w v l) (hv : validT l = true) (hd : ∃ a n c, dv = .slice a n c) (hdst : m.dst = 10) (h1 : m.kind = 1) :
    Calls Try.prog 28 #[.agg #[v], .agg (msgC m dv)] w (RetN (takeT l m) w) := by
  obtain ⟨da, dn, dc, rfl⟩ := hd
  obtain ⟨va, vc, rfl⟩ := Raw.slice h
  obtain ⟨W, hW⟩ : ∃ W, W = ((w.alloc (.cells #[.slice va l.length vc] 24)).alloc (.cells (msgC m (.slice da dn dc)) 28)).alloc (.cells #[.slice none 0 0] 24) := ⟨_, rfl⟩
  have hb : Below w.heap.size w W := by rw [hW]; exact (((Below.refl w.heap.size w).alloc (Nat.le_refl _) _).alloc (by simp) _).alloc (by simp; omega) _
  have hws : W.heap.size = w.heap.size + 3 := by rw [hW]; simp
  have hx : W.heap[w.heap.size]? = some (.cells #[.slice va l.length vc] 24 (0, 0)) := by
    rw [hW]
    have h1 := heap_alloc_new w (.cells #[.slice va l.length vc] 24)
    have h2 := (Below.heap_alloc (w.alloc (.cells #[.slice va l.length vc] 24)) (.cells (msgC m (.slice da dn dc)) 28) w.heap.size (by simp)).trans h1
    exact (Below.heap_alloc _ (.cells #[.slice none 0 0] 24) w.heap.size (by simp; omega)).trans h2
  have hr : W.heap[w.heap.size + 1]? = some (.cells (msgC m (.slice da dn dc)) 28 (0, 0)) := by
    rw [hW]
    have h1 := heap_alloc_new (w.alloc (.cells #[.slice va l.length vc] 24)) (.cells (msgC m (.slice da dn dc)) 28)
    simp only [World.size_alloc] at h1
    exact (Below.heap_alloc _ (.cells #[.slice none 0 0] 24) (w.heap.size + 1) (by simp)).trans h1
  have hB : W.heap[w.heap.size + 2]? = some (.cells #[.slice none 0 0] 24 (0, 0)) := by
    rw [hW]
    have h1 := heap_alloc_new ((w.alloc (.cells #[.slice va l.length vc] 24)).alloc (.cells (msgC m (.slice da dn dc)) 28)) (.cells #[.slice none 0 0] 24)
    simp only [World.size_alloc] at h1
    exact h1
  obtain ⟨X, hX⟩ : ∃ X, X = w.heap.size := ⟨_, rfl⟩
  obtain ⟨M, hM⟩ : ∃ M, M = w.heap.size + 1 := ⟨_, rfl⟩
  obtain ⟨R, hR⟩ : ∃ R, R = w.heap.size + 2 := ⟨_, rfl⟩
  rw [← hX] at hx
  rw [← hM] at hr
  rw [← hR] at hB
  have H0 := Lib.hid h; have HX_W := Lib.hid hx; have HM_W := Lib.hid hr; have HR_W := Lib.hid hB; have Hb_W := Lib.hid hb
  obtain ⟨N3, hN3⟩ : ∃ N3, N3 = W.heap.size := ⟨_, rfl⟩
  have hXN : X < N3 := by omega
  have hMN : M < N3 := by omega
  have hRN : R < N3 := by omega
  have hXR : X < R := by omega
  have hMR : M < R := by omega
  have hwR : w.heap.size ≤ R := by omega
  have hwN : w.heap.size ≤ N3 := by omega
  have hz_W : N3 ≤ W.heap.size := by omega
  have HXe := Lib.hid hX; have HWe := Lib.hid hW
  have hM2 : M = X + 1 := by omega
  have hR2 : R = X + 1 + 1 := by omega
  have HM2 := Lib.hid hM2; have HR2 := Lib.hid hR2
  have Hv := Lib.hid hv
  clear h hx hb hr hB hX hM hR hW hws hM2 hR2 hN3 hv
  unfold msgC at HM_W HWe
  unfold msgC
  have Q_hdst := Lib.hid hdst
  have Q_h1 := Lib.hid h1
  clear hdst h1
  go_enter Try.func28, Try.ntmps28
  go_upto_region 1 with (fail)
  rw [← HWe.out, ← HXe.out, ← HR2.out, ← HM2.out]
  clear HWe HXe HM2 HR2
  have hdst := Q_hdst.out
  have h1 := Q_h1.out
  have HTk : Hid (takeT l m = (if m.kind = 6 ∧ m.src = 1 then some (l, [send 1 7 m.a0])
    else if m.kind = 1 then sysT l m
    else if m.kind = 4 ∧ m.src = 0 ∧ usr m.a0 = true then some (delT l m.a0, if m.a0 ∈ l then [reply m.a0 0] else [])
    else if m.kind = 16 ∧ m.src = 3 ∧ usr m.a0 = true then some (delT l m.a0, (if m.a0 ∈ l then [timer (-1) m.a0] else []) ++ [send 3 17 m.a0])
    else none)) := Lib.hid (by unfold takeT; rw [if_neg (by simp [hdst])])
  have HTs : Hid (takeT l m = sysT l m) := Lib.hid (by rw [HTk.out, if_neg (by omega), if_pos h1])
  have cX := box_at HX_W.out (j := 0) rfl
  have m0 := box_at HM_W.out (j := 0) rfl
  have m1 := box_at HM_W.out (j := 1) rfl
  have m2 := box_at HM_W.out (j := 2) rfl
  have m4 := box_at HM_W.out (j := 4) rfl
  have m5 := box_at HM_W.out (j := 5) rfl
  have m7 := box_at HM_W.out (j := 7) rfl
  rw [hdst] at m1
  rw [h1] at m2
  cases hu : usr m.src
  · go_wp2_with fail
    refine (ruser_is m.src false _ hu).mono ?_
    rintro e w1 ⟨rfl, rfl⟩
    go_wp2_with fail
    refine (ruser_is m.src false _ hu).mono ?_
    rintro e w1 ⟨rfl, rfl⟩
    have Hr : Hid (takeT l m = none) := Lib.hid (by rw [HTs.out]; unfold sysT; rw [if_pos (.inl hu)])
    have FIN := Lib.hid (fin_set (es := []) Hb_W.out hwR HR_W.out (Raw.below (Raw.fresh H0.out (fun f hf => .inr (by rw [List.mem_singleton.1 hf]; exact hwR))) Hb_W.out) (Raw.empty [R] 15 _))
    have rR := box_at HR_W.out (j := 0) rfl
    have rF := box_free HR_W.out 0
    go_wp2
    refine bodyPost_ret (results_ctt rfl _ _ _ _ _ _ _ rfl FIN.out.1 Try.underlying24 rfl (by kernel_rfl)) rfl ?_
    rw [Hr.out]
    exact ⟨FIN.out.2.2.2, _, _, _, rfl⟩
  cases hm : decide (m.src ∈ l)
  rotate_left
  · have hmm : m.src ∈ l := by simpa using hm
    go_wp2_with fail
    refine (ruser_is m.src true _ hu).mono ?_
    rintro e w1 ⟨rfl, rfl⟩
    go_wp2_with fail
    refine (rsleeps_is _ l m.src true _ (by omega) (H0.out.below Hb_W.out) hm).mono ?_
    rintro e w1 ⟨rfl, hb⟩
    have HX_w1 := Lib.hid ((hb.block X (by omega)).trans HX_W.out)
    have HM_w1 := Lib.hid ((hb.block M (by omega)).trans HM_W.out)
    have HR_w1 := Lib.hid ((hb.block R (by omega)).trans HR_W.out)
    have Hb_w1 := Lib.hid (Hb_W.out.trans (hb.mono (by omega)))
    have hz_w1 : N3 ≤ w1.heap.size := Nat.le_trans hz_W hb.size
    clear cX m0 m1 m2 m4 m5 m7
    have cX := box_at HX_w1.out (j := 0) rfl
    have m0 := box_at HM_w1.out (j := 0) rfl
    have m1 := box_at HM_w1.out (j := 1) rfl
    have m2 := box_at HM_w1.out (j := 2) rfl
    have m4 := box_at HM_w1.out (j := 4) rfl
    have m5 := box_at HM_w1.out (j := 5) rfl
    have m7 := box_at HM_w1.out (j := 7) rfl
    rw [hdst] at m1
    rw [h1] at m2
    clear hb
    go_wp2_with fail
    refine (ruser_is m.src true _ hu).mono ?_
    rintro e w1b ⟨rfl, rfl⟩
    go_wp2_with fail
    refine (rsleeps_is _ l m.src true _ (by omega) (H0.out.below Hb_w1.out) hm).mono ?_
    rintro e w2 ⟨rfl, hb⟩
    have HX_w2 := Lib.hid ((hb.block X (by omega)).trans HX_w1.out)
    have HM_w2 := Lib.hid ((hb.block M (by omega)).trans HM_w1.out)
    have HR_w2 := Lib.hid ((hb.block R (by omega)).trans HR_w1.out)
    have Hb_w2 := Lib.hid (Hb_w1.out.trans (hb.mono (by omega)))
    have hz_w2 : N3 ≤ w2.heap.size := Nat.le_trans hz_w1 hb.size
    clear cX m0 m1 m2 m4 m5 m7
    have cX := box_at HX_w2.out (j := 0) rfl
    have m0 := box_at HM_w2.out (j := 0) rfl
    have m1 := box_at HM_w2.out (j := 1) rfl
    have m2 := box_at HM_w2.out (j := 2) rfl
    have m4 := box_at HM_w2.out (j := 4) rfl
    have m5 := box_at HM_w2.out (j := 5) rfl
    have m7 := box_at HM_w2.out (j := 7) rfl
    rw [hdst] at m1
    rw [h1] at m2
    clear hb
    clear hm
    have Hr : Hid (takeT l m = none) := Lib.hid (by rw [HTs.out]; unfold sysT; rw [if_pos (.inr hmm)])
    have FIN := Lib.hid (fin_set (es := []) Hb_w2.out hwR HR_w2.out (Raw.below (Raw.fresh H0.out (fun f hf => .inr (by rw [List.mem_singleton.1 hf]; exact hwR))) Hb_w2.out) (Raw.empty [R] 15 _))
    have rR := box_at HR_w2.out (j := 0) rfl
    have rF := box_free HR_w2.out 0
    go_wp2
    refine bodyPost_ret (results_ctt rfl _ _ _ _ _ _ _ rfl FIN.out.1 Try.underlying24 rfl (by kernel_rfl)) rfl ?_
    rw [Hr.out]
    exact ⟨FIN.out.2.2.2, _, _, _, rfl⟩
  have hnm : m.src ∉ l := by simpa using hm
  have Hs0 : Hid (takeT l m = (if m.a0 = 18 then some (l, [reply m.src m.a3])
    else if m.a0 ≠ 19 then none
    else if m.a1 < 0 ∨ 1000000 < m.a1 then some (l, [reply m.src (-2)])
    else if m.a1 = 0 then some (l, [reply m.src 0])
    else some (insT l m.src, [timer m.a1 m.src]))) := Lib.hid (by rw [HTs.out]; unfold sysT; rw [if_neg]; rintro (h1 | h1); { rw [hu] at h1; cases h1 }; { exact hnm h1 })
  have Hset : Hid (setR l m.src true = insT l m.src) := Lib.hid (set_ins Hv.out hu hnm)
  clear hnm
  go_wp2_with fail
  refine (ruser_is m.src true _ hu).mono ?_
  rintro e w1 ⟨rfl, rfl⟩
  go_wp2_with fail
  refine (rsleeps_is _ l m.src false _ (by omega) (H0.out.below Hb_W.out) hm).mono ?_
  rintro e w1 ⟨rfl, hb⟩
  have HX_w1 := Lib.hid ((hb.block X (by omega)).trans HX_W.out)
  have HM_w1 := Lib.hid ((hb.block M (by omega)).trans HM_W.out)
  have HR_w1 := Lib.hid ((hb.block R (by omega)).trans HR_W.out)
  have Hb_w1 := Lib.hid (Hb_W.out.trans (hb.mono (by omega)))
  have hz_w1 : N3 ≤ w1.heap.size := Nat.le_trans hz_W hb.size
  clear cX m0 m1 m2 m4 m5 m7
  have cX := box_at HX_w1.out (j := 0) rfl
  have m0 := box_at HM_w1.out (j := 0) rfl
  have m1 := box_at HM_w1.out (j := 1) rfl
  have m2 := box_at HM_w1.out (j := 2) rfl
  have m4 := box_at HM_w1.out (j := 4) rfl
  have m5 := box_at HM_w1.out (j := 5) rfl
  have m7 := box_at HM_w1.out (j := 7) rfl
  rw [hdst] at m1
  rw [h1] at m2
  clear hb
  by_cases h18 : m.a0 = 18
  · rw [h18] at m4
    have Hr : Hid (takeT l m = some (l, [reply m.src m.a3])) := Lib.hid (by rw [Hs0.out, if_pos h18])
    clear hu hm
    go_upto_region 7 with (fail)
    have hBl := show ∀ q ∈ [X], ∃ cc e f, w1.heap[q]? = some (.cells cc e f) from fun q hq => by rw [List.mem_singleton.1 hq]; exact ⟨_, _, _, HX_w1.out⟩
    refine Txt.Ty.wp_tree ([X]) [0] [] [0, 2, 5] [0, 1, 2, 3, 4, 5] (.alt [6] (.alt [7] (.alt [8, 9, 10] (.done) (.no)) (.alt [8] (.alt [7, 9, 10] (.done) (.no)) (.no))) (.no)) (by kernel_rfl) (by kernel_rfl) (by kernel_rfl) (by kernel_rfl) hBl ?_
    obtain ⟨y0, hy0⟩ : ∃ y, y = w1.drew := ⟨_, rfl⟩
    have HS0 : Hid (Txt.SameB [X] y0 y0) := Lib.hid (by rw [hy0]; exact same_start hBl)
    clear hBl
    rw [← hy0]
    have hd : Below w1.heap.size w1 y0 := by rw [hy0]; exact (Below.refl _ _).drew
    have HX_y0 := Lib.hid ((hd.block X (by omega)).trans HX_w1.out)
    have HM_y0 := Lib.hid ((hd.block M (by omega)).trans HM_w1.out)
    have HR_y0 := Lib.hid ((hd.block R (by omega)).trans HR_w1.out)
    have Hb_y0 := Lib.hid (Hb_w1.out.trans (hd.mono (by omega)))
    have hz_y0 : N3 ≤ y0.heap.size := Nat.le_trans hz_w1 hd.size
    clear cX m0 m1 m2 m4 m5 m7
    have cX := box_at HX_y0.out (j := 0) rfl
    have m0 := box_at HM_y0.out (j := 0) rfl
    have m1 := box_at HM_y0.out (j := 1) rfl
    have m2 := box_at HM_y0.out (j := 2) rfl
    have m4 := box_at HM_y0.out (j := 4) rfl
    have m5 := box_at HM_y0.out (j := 5) rfl
    have m7 := box_at HM_y0.out (j := 7) rfl
    rw [hdst] at m1
    rw [h1] at m2
    rw [h18] at m4
    clear hd hy0
    (try simp only [Txt.pick, List.getElem?_cons_succ, List.getElem?_cons_zero])
    go_wp2
    refine Txt.RunPost.mk ?_
    refine Txt.Ty.wpTr_alt ?_ Txt.Ty.wpTr_no
    (try simp only [Txt.pick, List.getElem?_cons_succ, List.getElem?_cons_zero])
    go_wp2_with fail
    refine (rreply_any m.src m.a3 _).mono ?_
    rintro e w2 ⟨rfl, hb⟩
    simp only [encE, reply, timer, send]
    have HX_w2 := Lib.hid ((hb.block X (by omega)).trans HX_y0.out)
    have HM_w2 := Lib.hid ((hb.block M (by omega)).trans HM_y0.out)
    have HR_w2 := Lib.hid ((hb.block R (by omega)).trans HR_y0.out)
    have Hb_w2 := Lib.hid (Hb_y0.out.trans (hb.mono (by omega)))
    have hz_w2 : N3 ≤ w2.heap.size := Nat.le_trans hz_y0 hb.size
    have HS2 := Lib.hid (same_below' HS0.out hb)
    have HV2 := Lib.hid (Raw.below (Raw.fresh H0.out (fun f hf => .inr (by rw [List.mem_singleton.1 hf]; exact hwR))) Hb_w2.out)
    clear cX m0 m1 m2 m4 m5 m7
    clear hb
    go_wp2
    refine Txt.SegPost.mk (Txt.Ty.Shown.same HS2.out) ?_
    (try simp only [Txt.pick, List.getElem?_cons_succ, List.getElem?_cons_zero])
    go_wp2
    refine Txt.RunPost.mk ?_
    refine Txt.Ty.wpTr_alt ?_ (Txt.Ty.wpTr_alt ?_ Txt.Ty.wpTr_no)
    · have hal := (Below.refl w2.heap.size w2).alloc (Nat.le_refl _) (.cells (encE (reply m.src m.a3)).toArray 62)
      have HRa := Lib.hid ((hal.block R (by omega)).trans HR_w2.out)
      have Hba := Lib.hid (Hb_w2.out.trans (hal.mono (by omega)))
      have HVa := Lib.hid (Raw.below HV2.out hal)
      have HEa := Lib.hid (box1F (F := [R]) w2.heap.size (reply m.src m.a3) (heap_alloc_new w2 (.cells (encE (reply m.src m.a3)).toArray 62)) (by simp; omega))
      have FIN := Lib.hid (fin_set Hba.out hwR HRa.out HVa.out HEa.out)
      have rR := box_at HRa.out (j := 0) rfl
      have rF := box_free HRa.out 0
      simp only [encE, reply, timer, send, List.cons_append, List.nil_append] at rR rF
      have HSa := Lib.hid (same_below' HS2.out hal)
      have HSb := Lib.hid (same_keep HSa.out ((Keep.refl [R] _).setCell (p := ⟨R, 0, none⟩) (by simp) (.slice va l.length vc)) (fun q hq => by rw [List.mem_singleton.1 hq]; simp; omega))
      clear hal
      (try simp only [Txt.pick, List.getElem?_cons_succ, List.getElem?_cons_zero])
      go_wp2
      refine Txt.SegPost.mk (Txt.Ty.Shown.same HSa.out) ?_
      (try simp only [Txt.pick, List.getElem?_cons_succ, List.getElem?_cons_zero])
      go_wp2
      refine Txt.RunPost.mk ?_
      refine Txt.Ty.wpTr_alt ?_ Txt.Ty.wpTr_no
      (try simp only [Txt.pick, List.getElem?_cons_succ, List.getElem?_cons_zero])
      go_wp2
      refine Txt.SegPost.mk (Txt.Ty.Shown.same HSb.out) ?_
      (try simp only [Txt.pick, List.getElem?_cons_succ, List.getElem?_cons_zero])
      go_wp2
      refine Txt.RunPost.mk ?_
      refine Txt.Ty.wpTr_done (by rfl) ⟨.head _, trivial⟩ ?_
      go_wp2
      refine bodyPost_ret (results_ctt rfl _ _ _ _ _ _ _ rfl FIN.out.1 Try.underlying24 rfl (by kernel_rfl)) rfl ?_
      rw [Hr.out]
      exact ⟨FIN.out.2.2.2, _, _, rfl, FIN.out.2.1, FIN.out.2.2.1⟩
    · have FB := fin_set (es := []) Hb_w2.out hwR HR_w2.out HV2.out (Raw.empty [R] 15 _)
      have hszB : (w2.setCell ⟨R, 0, none⟩ (.slice va l.length vc)).heap.size = w2.heap.size := by simp
      have hal := (Below.refl (w2.setCell ⟨R, 0, none⟩ (.slice va l.length vc)).heap.size (w2.setCell ⟨R, 0, none⟩ (.slice va l.length vc))).alloc (Nat.le_refl _) (.cells (encE (reply m.src m.a3)).toArray 62)
      have hEB : ((w2.setCell ⟨R, 0, none⟩ (.slice va l.length vc)).alloc (.cells (encE (reply m.src m.a3)).toArray 62)).heap[w2.heap.size]? = some (.cells (encE (reply m.src m.a3)).toArray 62 (0, 0)) := by rw [← hszB]; exact heap_alloc_new _ _
      have FIN : Hid (((w2.setCell ⟨R, 0, none⟩ (.slice va l.length vc)).alloc (.cells (encE (reply m.src m.a3)).toArray 62)).heap[R]? = some (.cells #[(.slice va l.length vc)] 24 (0, 0)) ∧ SlT ((w2.setCell ⟨R, 0, none⟩ (.slice va l.length vc)).alloc (.cells (encE (reply m.src m.a3)).toArray 62)) (.slice va l.length vc) _ ∧ SlE ((w2.setCell ⟨R, 0, none⟩ (.slice va l.length vc)).alloc (.cells (encE (reply m.src m.a3)).toArray 62)) (.slice (some ⟨w2.heap.size, 0, none⟩) 1 1) [reply m.src m.a3] ∧ Below w.heap.size w ((w2.setCell ⟨R, 0, none⟩ (.slice va l.length vc)).alloc (.cells (encE (reply m.src m.a3)).toArray 62))) :=
        Lib.hid ⟨(hal.block R (by rw [hszB]; omega)).trans FB.1, SlT.below FB.2.1 hal, box1 _ _ hEB, FB.2.2.2.trans (hal.mono (by rw [hszB]; omega))⟩
      have rR := box_at HR_w2.out (j := 0) rfl
      have rF := box_free HR_w2.out 0
      have HSa := Lib.hid (same_keep HS2.out ((Keep.refl [R] _).setCell (p := ⟨R, 0, none⟩) (by simp) (.slice va l.length vc)) (fun q hq => by rw [List.mem_singleton.1 hq]; simp; omega))
      have HSb := Lib.hid (same_below' HSa.out hal)
      clear FB hszB hal hEB
      (try simp only [Txt.pick, List.getElem?_cons_succ, List.getElem?_cons_zero])
      go_wp2
      refine Txt.SegPost.mk (Txt.Ty.Shown.same HSa.out) ?_
      (try simp only [Txt.pick, List.getElem?_cons_succ, List.getElem?_cons_zero])
      go_wp2
      refine Txt.RunPost.mk ?_
      refine Txt.Ty.wpTr_alt ?_ Txt.Ty.wpTr_no
      (try simp only [Txt.pick, List.getElem?_cons_succ, List.getElem?_cons_zero])
      go_wp2
      refine Txt.SegPost.mk (Txt.Ty.Shown.same HSb.out) ?_
      (try simp only [Txt.pick, List.getElem?_cons_succ, List.getElem?_cons_zero])
      go_wp2
      refine Txt.RunPost.mk ?_
      refine Txt.Ty.wpTr_done (by rfl) ⟨.head _, trivial⟩ ?_
      go_wp2
      refine bodyPost_ret (results_ctt rfl _ _ _ _ _ _ _ rfl FIN.out.1 Try.underlying24 rfl (by kernel_rfl)) rfl ?_
      rw [Hr.out]
      exact ⟨FIN.out.2.2.2, _, _, rfl, FIN.out.2.1, FIN.out.2.2.1⟩
  go_wp2_with fail
  refine (ruser_is m.src true _ hu).mono ?_
  rintro e w1b ⟨rfl, rfl⟩
  go_wp2_with fail
  refine (rsleeps_is _ l m.src false _ (by omega) (H0.out.below Hb_w1.out) hm).mono ?_
  rintro e w3 ⟨rfl, hb⟩
  have HX_w3 := Lib.hid ((hb.block X (by omega)).trans HX_w1.out)
  have HM_w3 := Lib.hid ((hb.block M (by omega)).trans HM_w1.out)
  have HR_w3 := Lib.hid ((hb.block R (by omega)).trans HR_w1.out)
  have Hb_w3 := Lib.hid (Hb_w1.out.trans (hb.mono (by omega)))
  have hz_w3 : N3 ≤ w3.heap.size := Nat.le_trans hz_w1 hb.size
  clear cX m0 m1 m2 m4 m5 m7
  have cX := box_at HX_w3.out (j := 0) rfl
  have m0 := box_at HM_w3.out (j := 0) rfl
  have m1 := box_at HM_w3.out (j := 1) rfl
  have m2 := box_at HM_w3.out (j := 2) rfl
  have m4 := box_at HM_w3.out (j := 4) rfl
  have m5 := box_at HM_w3.out (j := 5) rfl
  have m7 := box_at HM_w3.out (j := 7) rfl
  rw [hdst] at m1
  rw [h1] at m2
  clear hb
  clear hu hm
  by_cases h19 : m.a0 = 19
  rotate_left
  · have Hr : Hid (takeT l m = none) := Lib.hid (by rw [Hs0.out, if_neg h18, if_pos h19])
    have FIN := Lib.hid (fin_set (es := []) Hb_w3.out hwR HR_w3.out (Raw.below (Raw.fresh H0.out (fun f hf => .inr (by rw [List.mem_singleton.1 hf]; exact hwR))) Hb_w3.out) (Raw.empty [R] 15 _))
    have rR := box_at HR_w3.out (j := 0) rfl
    have rF := box_free HR_w3.out 0
    go_wp2
    refine bodyPost_ret (results_ctt rfl _ _ _ _ _ _ _ rfl FIN.out.1 Try.underlying24 rfl (by kernel_rfl)) rfl ?_
    rw [Hr.out]
    exact ⟨FIN.out.2.2.2, _, _, _, rfl⟩
  have Hs1 : Hid (takeT l m = (if m.a1 < 0 ∨ 1000000 < m.a1 then some (l, [reply m.src (-2)])
    else if m.a1 = 0 then some (l, [reply m.src 0])
    else some (insT l m.src, [timer m.a1 m.src]))) := Lib.hid (by rw [Hs0.out, if_neg h18, if_neg (by simp [h19])])
  rw [h19] at m4
  clear h18
  by_cases hn : m.a1 < 0
  · have Hr : Hid (takeT l m = some (l, [reply m.src (-2)])) := Lib.hid (by rw [Hs1.out, if_pos (.inl hn)])
    go_upto_region 11 with (fail)
    have hBl := show ∀ q ∈ [X], ∃ cc e f, w3.heap[q]? = some (.cells cc e f) from fun q hq => by rw [List.mem_singleton.1 hq]; exact ⟨_, _, _, HX_w3.out⟩
    refine Txt.Ty.wp_tree ([X]) [0] [] [0, 2] [0, 1, 2] (.alt [3] (.alt [4] (.alt [5, 6, 7] (.done) (.no)) (.alt [5] (.alt [4, 6, 7] (.done) (.no)) (.no))) (.no)) (by kernel_rfl) (by kernel_rfl) (by kernel_rfl) (by kernel_rfl) hBl ?_
    obtain ⟨y0, hy0⟩ : ∃ y, y = w3.drew := ⟨_, rfl⟩
    have HS0 : Hid (Txt.SameB [X] y0 y0) := Lib.hid (by rw [hy0]; exact same_start hBl)
    clear hBl
    rw [← hy0]
    have hd : Below w3.heap.size w3 y0 := by rw [hy0]; exact (Below.refl _ _).drew
    have HX_y0 := Lib.hid ((hd.block X (by omega)).trans HX_w3.out)
    have HM_y0 := Lib.hid ((hd.block M (by omega)).trans HM_w3.out)
    have HR_y0 := Lib.hid ((hd.block R (by omega)).trans HR_w3.out)
    have Hb_y0 := Lib.hid (Hb_w3.out.trans (hd.mono (by omega)))
    have hz_y0 : N3 ≤ y0.heap.size := Nat.le_trans hz_w3 hd.size
    clear cX m0 m1 m2 m4 m5 m7
    have cX := box_at HX_y0.out (j := 0) rfl
    have m0 := box_at HM_y0.out (j := 0) rfl
    have m1 := box_at HM_y0.out (j := 1) rfl
    have m2 := box_at HM_y0.out (j := 2) rfl
    have m4 := box_at HM_y0.out (j := 4) rfl
    have m5 := box_at HM_y0.out (j := 5) rfl
    have m7 := box_at HM_y0.out (j := 7) rfl
    rw [hdst] at m1
    rw [h1] at m2
    rw [h19] at m4
    clear hd hy0
    (try simp only [Txt.pick, List.getElem?_cons_succ, List.getElem?_cons_zero])
    go_wp2
    refine Txt.RunPost.mk ?_
    refine Txt.Ty.wpTr_alt ?_ Txt.Ty.wpTr_no
    (try simp only [Txt.pick, List.getElem?_cons_succ, List.getElem?_cons_zero])
    go_wp2_with fail
    refine (rreply_any m.src (-2) _).mono ?_
    rintro e w2 ⟨rfl, hb⟩
    simp only [encE, reply, timer, send]
    have HX_w2 := Lib.hid ((hb.block X (by omega)).trans HX_y0.out)
    have HM_w2 := Lib.hid ((hb.block M (by omega)).trans HM_y0.out)
    have HR_w2 := Lib.hid ((hb.block R (by omega)).trans HR_y0.out)
    have Hb_w2 := Lib.hid (Hb_y0.out.trans (hb.mono (by omega)))
    have hz_w2 : N3 ≤ w2.heap.size := Nat.le_trans hz_y0 hb.size
    have HS2 := Lib.hid (same_below' HS0.out hb)
    have HV2 := Lib.hid (Raw.below (Raw.fresh H0.out (fun f hf => .inr (by rw [List.mem_singleton.1 hf]; exact hwR))) Hb_w2.out)
    clear cX m0 m1 m2 m4 m5 m7
    clear hb
    go_wp2
    refine Txt.SegPost.mk (Txt.Ty.Shown.same HS2.out) ?_
    (try simp only [Txt.pick, List.getElem?_cons_succ, List.getElem?_cons_zero])
    go_wp2
    refine Txt.RunPost.mk ?_
    refine Txt.Ty.wpTr_alt ?_ (Txt.Ty.wpTr_alt ?_ Txt.Ty.wpTr_no)
    · have hal := (Below.refl w2.heap.size w2).alloc (Nat.le_refl _) (.cells (encE (reply m.src (-2))).toArray 62)
      have HRa := Lib.hid ((hal.block R (by omega)).trans HR_w2.out)
      have Hba := Lib.hid (Hb_w2.out.trans (hal.mono (by omega)))
      have HVa := Lib.hid (Raw.below HV2.out hal)
      have HEa := Lib.hid (box1F (F := [R]) w2.heap.size (reply m.src (-2)) (heap_alloc_new w2 (.cells (encE (reply m.src (-2))).toArray 62)) (by simp; omega))
      have FIN := Lib.hid (fin_set Hba.out hwR HRa.out HVa.out HEa.out)
      have rR := box_at HRa.out (j := 0) rfl
      have rF := box_free HRa.out 0
      simp only [encE, reply, timer, send, List.cons_append, List.nil_append] at rR rF
      have HSa := Lib.hid (same_below' HS2.out hal)
      have HSb := Lib.hid (same_keep HSa.out ((Keep.refl [R] _).setCell (p := ⟨R, 0, none⟩) (by simp) (.slice va l.length vc)) (fun q hq => by rw [List.mem_singleton.1 hq]; simp; omega))
      clear hal
      (try simp only [Txt.pick, List.getElem?_cons_succ, List.getElem?_cons_zero])
      go_wp2
      refine Txt.SegPost.mk (Txt.Ty.Shown.same HSa.out) ?_
      (try simp only [Txt.pick, List.getElem?_cons_succ, List.getElem?_cons_zero])
      go_wp2
      refine Txt.RunPost.mk ?_
      refine Txt.Ty.wpTr_alt ?_ Txt.Ty.wpTr_no
      (try simp only [Txt.pick, List.getElem?_cons_succ, List.getElem?_cons_zero])
      go_wp2
      refine Txt.SegPost.mk (Txt.Ty.Shown.same HSb.out) ?_
      (try simp only [Txt.pick, List.getElem?_cons_succ, List.getElem?_cons_zero])
      go_wp2
      refine Txt.RunPost.mk ?_
      refine Txt.Ty.wpTr_done (by rfl) ⟨.head _, trivial⟩ ?_
      go_wp2
      refine bodyPost_ret (results_ctt rfl _ _ _ _ _ _ _ rfl FIN.out.1 Try.underlying24 rfl (by kernel_rfl)) rfl ?_
      rw [Hr.out]
      exact ⟨FIN.out.2.2.2, _, _, rfl, FIN.out.2.1, FIN.out.2.2.1⟩
    · have FB := fin_set (es := []) Hb_w2.out hwR HR_w2.out HV2.out (Raw.empty [R] 15 _)
      have hszB : (w2.setCell ⟨R, 0, none⟩ (.slice va l.length vc)).heap.size = w2.heap.size := by simp
      have hal := (Below.refl (w2.setCell ⟨R, 0, none⟩ (.slice va l.length vc)).heap.size (w2.setCell ⟨R, 0, none⟩ (.slice va l.length vc))).alloc (Nat.le_refl _) (.cells (encE (reply m.src (-2))).toArray 62)
      have hEB : ((w2.setCell ⟨R, 0, none⟩ (.slice va l.length vc)).alloc (.cells (encE (reply m.src (-2))).toArray 62)).heap[w2.heap.size]? = some (.cells (encE (reply m.src (-2))).toArray 62 (0, 0)) := by rw [← hszB]; exact heap_alloc_new _ _
      have FIN : Hid (((w2.setCell ⟨R, 0, none⟩ (.slice va l.length vc)).alloc (.cells (encE (reply m.src (-2))).toArray 62)).heap[R]? = some (.cells #[(.slice va l.length vc)] 24 (0, 0)) ∧ SlT ((w2.setCell ⟨R, 0, none⟩ (.slice va l.length vc)).alloc (.cells (encE (reply m.src (-2))).toArray 62)) (.slice va l.length vc) _ ∧ SlE ((w2.setCell ⟨R, 0, none⟩ (.slice va l.length vc)).alloc (.cells (encE (reply m.src (-2))).toArray 62)) (.slice (some ⟨w2.heap.size, 0, none⟩) 1 1) [reply m.src (-2)] ∧ Below w.heap.size w ((w2.setCell ⟨R, 0, none⟩ (.slice va l.length vc)).alloc (.cells (encE (reply m.src (-2))).toArray 62))) :=
        Lib.hid ⟨(hal.block R (by rw [hszB]; omega)).trans FB.1, SlT.below FB.2.1 hal, box1 _ _ hEB, FB.2.2.2.trans (hal.mono (by rw [hszB]; omega))⟩
      have rR := box_at HR_w2.out (j := 0) rfl
      have rF := box_free HR_w2.out 0
      have HSa := Lib.hid (same_keep HS2.out ((Keep.refl [R] _).setCell (p := ⟨R, 0, none⟩) (by simp) (.slice va l.length vc)) (fun q hq => by rw [List.mem_singleton.1 hq]; simp; omega))
      have HSb := Lib.hid (same_below' HSa.out hal)
      clear FB hszB hal hEB
      (try simp only [Txt.pick, List.getElem?_cons_succ, List.getElem?_cons_zero])
      go_wp2
      refine Txt.SegPost.mk (Txt.Ty.Shown.same HSa.out) ?_
      (try simp only [Txt.pick, List.getElem?_cons_succ, List.getElem?_cons_zero])
      go_wp2
      refine Txt.RunPost.mk ?_
      refine Txt.Ty.wpTr_alt ?_ Txt.Ty.wpTr_no
      (try simp only [Txt.pick, List.getElem?_cons_succ, List.getElem?_cons_zero])
      go_wp2
      refine Txt.SegPost.mk (Txt.Ty.Shown.same HSb.out) ?_
      (try simp only [Txt.pick, List.getElem?_cons_succ, List.getElem?_cons_zero])
      go_wp2
      refine Txt.RunPost.mk ?_
      refine Txt.Ty.wpTr_done (by rfl) ⟨.head _, trivial⟩ ?_
      go_wp2
      refine bodyPost_ret (results_ctt rfl _ _ _ _ _ _ _ rfl FIN.out.1 Try.underlying24 rfl (by kernel_rfl)) rfl ?_
      rw [Hr.out]
      exact ⟨FIN.out.2.2.2, _, _, rfl, FIN.out.2.1, FIN.out.2.2.1⟩
  by_cases hx : 1000000 < m.a1
  · have Hr : Hid (takeT l m = some (l, [reply m.src (-2)])) := Lib.hid (by rw [Hs1.out, if_pos (.inr hx)])
    go_upto_region 11 with (fail)
    have hBl := show ∀ q ∈ [X], ∃ cc e f, w3.heap[q]? = some (.cells cc e f) from fun q hq => by rw [List.mem_singleton.1 hq]; exact ⟨_, _, _, HX_w3.out⟩
    refine Txt.Ty.wp_tree ([X]) [0] [] [0, 2] [0, 1, 2] (.alt [3] (.alt [4] (.alt [5, 6, 7] (.done) (.no)) (.alt [5] (.alt [4, 6, 7] (.done) (.no)) (.no))) (.no)) (by kernel_rfl) (by kernel_rfl) (by kernel_rfl) (by kernel_rfl) hBl ?_
    obtain ⟨y0, hy0⟩ : ∃ y, y = w3.drew := ⟨_, rfl⟩
    have HS0 : Hid (Txt.SameB [X] y0 y0) := Lib.hid (by rw [hy0]; exact same_start hBl)
    clear hBl
    rw [← hy0]
    have hd : Below w3.heap.size w3 y0 := by rw [hy0]; exact (Below.refl _ _).drew
    have HX_y0 := Lib.hid ((hd.block X (by omega)).trans HX_w3.out)
    have HM_y0 := Lib.hid ((hd.block M (by omega)).trans HM_w3.out)
    have HR_y0 := Lib.hid ((hd.block R (by omega)).trans HR_w3.out)
    have Hb_y0 := Lib.hid (Hb_w3.out.trans (hd.mono (by omega)))
    have hz_y0 : N3 ≤ y0.heap.size := Nat.le_trans hz_w3 hd.size
    clear cX m0 m1 m2 m4 m5 m7
    have cX := box_at HX_y0.out (j := 0) rfl
    have m0 := box_at HM_y0.out (j := 0) rfl
    have m1 := box_at HM_y0.out (j := 1) rfl
    have m2 := box_at HM_y0.out (j := 2) rfl
    have m4 := box_at HM_y0.out (j := 4) rfl
    have m5 := box_at HM_y0.out (j := 5) rfl
    have m7 := box_at HM_y0.out (j := 7) rfl
    rw [hdst] at m1
    rw [h1] at m2
    rw [h19] at m4
    clear hd hy0
    (try simp only [Txt.pick, List.getElem?_cons_succ, List.getElem?_cons_zero])
    go_wp2
    refine Txt.RunPost.mk ?_
    refine Txt.Ty.wpTr_alt ?_ Txt.Ty.wpTr_no
    (try simp only [Txt.pick, List.getElem?_cons_succ, List.getElem?_cons_zero])
    go_wp2_with fail
    refine (rreply_any m.src (-2) _).mono ?_
    rintro e w2 ⟨rfl, hb⟩
    simp only [encE, reply, timer, send]
    have HX_w2 := Lib.hid ((hb.block X (by omega)).trans HX_y0.out)
    have HM_w2 := Lib.hid ((hb.block M (by omega)).trans HM_y0.out)
    have HR_w2 := Lib.hid ((hb.block R (by omega)).trans HR_y0.out)
    have Hb_w2 := Lib.hid (Hb_y0.out.trans (hb.mono (by omega)))
    have hz_w2 : N3 ≤ w2.heap.size := Nat.le_trans hz_y0 hb.size
    have HS2 := Lib.hid (same_below' HS0.out hb)
    have HV2 := Lib.hid (Raw.below (Raw.fresh H0.out (fun f hf => .inr (by rw [List.mem_singleton.1 hf]; exact hwR))) Hb_w2.out)
    clear cX m0 m1 m2 m4 m5 m7
    clear hb
    go_wp2
    refine Txt.SegPost.mk (Txt.Ty.Shown.same HS2.out) ?_
    (try simp only [Txt.pick, List.getElem?_cons_succ, List.getElem?_cons_zero])
    go_wp2
    refine Txt.RunPost.mk ?_
    refine Txt.Ty.wpTr_alt ?_ (Txt.Ty.wpTr_alt ?_ Txt.Ty.wpTr_no)
    · have hal := (Below.refl w2.heap.size w2).alloc (Nat.le_refl _) (.cells (encE (reply m.src (-2))).toArray 62)
      have HRa := Lib.hid ((hal.block R (by omega)).trans HR_w2.out)
      have Hba := Lib.hid (Hb_w2.out.trans (hal.mono (by omega)))
      have HVa := Lib.hid (Raw.below HV2.out hal)
      have HEa := Lib.hid (box1F (F := [R]) w2.heap.size (reply m.src (-2)) (heap_alloc_new w2 (.cells (encE (reply m.src (-2))).toArray 62)) (by simp; omega))
      have FIN := Lib.hid (fin_set Hba.out hwR HRa.out HVa.out HEa.out)
      have rR := box_at HRa.out (j := 0) rfl
      have rF := box_free HRa.out 0
      simp only [encE, reply, timer, send, List.cons_append, List.nil_append] at rR rF
      have HSa := Lib.hid (same_below' HS2.out hal)
      have HSb := Lib.hid (same_keep HSa.out ((Keep.refl [R] _).setCell (p := ⟨R, 0, none⟩) (by simp) (.slice va l.length vc)) (fun q hq => by rw [List.mem_singleton.1 hq]; simp; omega))
      clear hal
      (try simp only [Txt.pick, List.getElem?_cons_succ, List.getElem?_cons_zero])
      go_wp2
      refine Txt.SegPost.mk (Txt.Ty.Shown.same HSa.out) ?_
      (try simp only [Txt.pick, List.getElem?_cons_succ, List.getElem?_cons_zero])
      go_wp2
      refine Txt.RunPost.mk ?_
      refine Txt.Ty.wpTr_alt ?_ Txt.Ty.wpTr_no
      (try simp only [Txt.pick, List.getElem?_cons_succ, List.getElem?_cons_zero])
      go_wp2
      refine Txt.SegPost.mk (Txt.Ty.Shown.same HSb.out) ?_
      (try simp only [Txt.pick, List.getElem?_cons_succ, List.getElem?_cons_zero])
      go_wp2
      refine Txt.RunPost.mk ?_
      refine Txt.Ty.wpTr_done (by rfl) ⟨.head _, trivial⟩ ?_
      go_wp2
      refine bodyPost_ret (results_ctt rfl _ _ _ _ _ _ _ rfl FIN.out.1 Try.underlying24 rfl (by kernel_rfl)) rfl ?_
      rw [Hr.out]
      exact ⟨FIN.out.2.2.2, _, _, rfl, FIN.out.2.1, FIN.out.2.2.1⟩
    · have FB := fin_set (es := []) Hb_w2.out hwR HR_w2.out HV2.out (Raw.empty [R] 15 _)
      have hszB : (w2.setCell ⟨R, 0, none⟩ (.slice va l.length vc)).heap.size = w2.heap.size := by simp
      have hal := (Below.refl (w2.setCell ⟨R, 0, none⟩ (.slice va l.length vc)).heap.size (w2.setCell ⟨R, 0, none⟩ (.slice va l.length vc))).alloc (Nat.le_refl _) (.cells (encE (reply m.src (-2))).toArray 62)
      have hEB : ((w2.setCell ⟨R, 0, none⟩ (.slice va l.length vc)).alloc (.cells (encE (reply m.src (-2))).toArray 62)).heap[w2.heap.size]? = some (.cells (encE (reply m.src (-2))).toArray 62 (0, 0)) := by rw [← hszB]; exact heap_alloc_new _ _
      have FIN : Hid (((w2.setCell ⟨R, 0, none⟩ (.slice va l.length vc)).alloc (.cells (encE (reply m.src (-2))).toArray 62)).heap[R]? = some (.cells #[(.slice va l.length vc)] 24 (0, 0)) ∧ SlT ((w2.setCell ⟨R, 0, none⟩ (.slice va l.length vc)).alloc (.cells (encE (reply m.src (-2))).toArray 62)) (.slice va l.length vc) _ ∧ SlE ((w2.setCell ⟨R, 0, none⟩ (.slice va l.length vc)).alloc (.cells (encE (reply m.src (-2))).toArray 62)) (.slice (some ⟨w2.heap.size, 0, none⟩) 1 1) [reply m.src (-2)] ∧ Below w.heap.size w ((w2.setCell ⟨R, 0, none⟩ (.slice va l.length vc)).alloc (.cells (encE (reply m.src (-2))).toArray 62))) :=
        Lib.hid ⟨(hal.block R (by rw [hszB]; omega)).trans FB.1, SlT.below FB.2.1 hal, box1 _ _ hEB, FB.2.2.2.trans (hal.mono (by rw [hszB]; omega))⟩
      have rR := box_at HR_w2.out (j := 0) rfl
      have rF := box_free HR_w2.out 0
      have HSa := Lib.hid (same_keep HS2.out ((Keep.refl [R] _).setCell (p := ⟨R, 0, none⟩) (by simp) (.slice va l.length vc)) (fun q hq => by rw [List.mem_singleton.1 hq]; simp; omega))
      have HSb := Lib.hid (same_below' HSa.out hal)
      clear FB hszB hal hEB
      (try simp only [Txt.pick, List.getElem?_cons_succ, List.getElem?_cons_zero])
      go_wp2
      refine Txt.SegPost.mk (Txt.Ty.Shown.same HSa.out) ?_
      (try simp only [Txt.pick, List.getElem?_cons_succ, List.getElem?_cons_zero])
      go_wp2
      refine Txt.RunPost.mk ?_
      refine Txt.Ty.wpTr_alt ?_ Txt.Ty.wpTr_no
      (try simp only [Txt.pick, List.getElem?_cons_succ, List.getElem?_cons_zero])
      go_wp2
      refine Txt.SegPost.mk (Txt.Ty.Shown.same HSb.out) ?_
      (try simp only [Txt.pick, List.getElem?_cons_succ, List.getElem?_cons_zero])
      go_wp2
      refine Txt.RunPost.mk ?_
      refine Txt.Ty.wpTr_done (by rfl) ⟨.head _, trivial⟩ ?_
      go_wp2
      refine bodyPost_ret (results_ctt rfl _ _ _ _ _ _ _ rfl FIN.out.1 Try.underlying24 rfl (by kernel_rfl)) rfl ?_
      rw [Hr.out]
      exact ⟨FIN.out.2.2.2, _, _, rfl, FIN.out.2.1, FIN.out.2.2.1⟩
  have Hs2 : Hid (takeT l m = (if m.a1 = 0 then some (l, [reply m.src 0])
    else some (insT l m.src, [timer m.a1 m.src]))) := Lib.hid (by rw [Hs1.out, if_neg (by omega)])
  have hx' : m.a1 ≤ 1000000 := by omega
  by_cases h0 : m.a1 = 0
  · rw [h0] at m5
    have Hr : Hid (takeT l m = some (l, [reply m.src 0])) := Lib.hid (by rw [Hs2.out, if_pos h0])
    go_upto_region 13 with (fail)
    have hBl := show ∀ q ∈ [X], ∃ cc e f, w3.heap[q]? = some (.cells cc e f) from fun q hq => by rw [List.mem_singleton.1 hq]; exact ⟨_, _, _, HX_w3.out⟩
    refine Txt.Ty.wp_tree ([X]) [0] [] [0, 2] [0, 1, 2] (.alt [3] (.alt [4] (.alt [5, 6, 7] (.done) (.no)) (.alt [5] (.alt [4, 6, 7] (.done) (.no)) (.no))) (.no)) (by kernel_rfl) (by kernel_rfl) (by kernel_rfl) (by kernel_rfl) hBl ?_
    obtain ⟨y0, hy0⟩ : ∃ y, y = w3.drew := ⟨_, rfl⟩
    have HS0 : Hid (Txt.SameB [X] y0 y0) := Lib.hid (by rw [hy0]; exact same_start hBl)
    clear hBl
    rw [← hy0]
    have hd : Below w3.heap.size w3 y0 := by rw [hy0]; exact (Below.refl _ _).drew
    have HX_y0 := Lib.hid ((hd.block X (by omega)).trans HX_w3.out)
    have HM_y0 := Lib.hid ((hd.block M (by omega)).trans HM_w3.out)
    have HR_y0 := Lib.hid ((hd.block R (by omega)).trans HR_w3.out)
    have Hb_y0 := Lib.hid (Hb_w3.out.trans (hd.mono (by omega)))
    have hz_y0 : N3 ≤ y0.heap.size := Nat.le_trans hz_w3 hd.size
    clear cX m0 m1 m2 m4 m5 m7
    have cX := box_at HX_y0.out (j := 0) rfl
    have m0 := box_at HM_y0.out (j := 0) rfl
    have m1 := box_at HM_y0.out (j := 1) rfl
    have m2 := box_at HM_y0.out (j := 2) rfl
    have m4 := box_at HM_y0.out (j := 4) rfl
    have m5 := box_at HM_y0.out (j := 5) rfl
    have m7 := box_at HM_y0.out (j := 7) rfl
    rw [hdst] at m1
    rw [h1] at m2
    rw [h19] at m4
    rw [h0] at m5
    clear hd hy0
    (try simp only [Txt.pick, List.getElem?_cons_succ, List.getElem?_cons_zero])
    go_wp2
    refine Txt.RunPost.mk ?_
    refine Txt.Ty.wpTr_alt ?_ Txt.Ty.wpTr_no
    (try simp only [Txt.pick, List.getElem?_cons_succ, List.getElem?_cons_zero])
    go_wp2_with fail
    refine (rreply_any m.src 0 _).mono ?_
    rintro e w2 ⟨rfl, hb⟩
    simp only [encE, reply, timer, send]
    have HX_w2 := Lib.hid ((hb.block X (by omega)).trans HX_y0.out)
    have HM_w2 := Lib.hid ((hb.block M (by omega)).trans HM_y0.out)
    have HR_w2 := Lib.hid ((hb.block R (by omega)).trans HR_y0.out)
    have Hb_w2 := Lib.hid (Hb_y0.out.trans (hb.mono (by omega)))
    have hz_w2 : N3 ≤ w2.heap.size := Nat.le_trans hz_y0 hb.size
    have HS2 := Lib.hid (same_below' HS0.out hb)
    have HV2 := Lib.hid (Raw.below (Raw.fresh H0.out (fun f hf => .inr (by rw [List.mem_singleton.1 hf]; exact hwR))) Hb_w2.out)
    clear cX m0 m1 m2 m4 m5 m7
    clear hb
    go_wp2
    refine Txt.SegPost.mk (Txt.Ty.Shown.same HS2.out) ?_
    (try simp only [Txt.pick, List.getElem?_cons_succ, List.getElem?_cons_zero])
    go_wp2
    refine Txt.RunPost.mk ?_
    refine Txt.Ty.wpTr_alt ?_ (Txt.Ty.wpTr_alt ?_ Txt.Ty.wpTr_no)
    · have hal := (Below.refl w2.heap.size w2).alloc (Nat.le_refl _) (.cells (encE (reply m.src 0)).toArray 62)
      have HRa := Lib.hid ((hal.block R (by omega)).trans HR_w2.out)
      have Hba := Lib.hid (Hb_w2.out.trans (hal.mono (by omega)))
      have HVa := Lib.hid (Raw.below HV2.out hal)
      have HEa := Lib.hid (box1F (F := [R]) w2.heap.size (reply m.src 0) (heap_alloc_new w2 (.cells (encE (reply m.src 0)).toArray 62)) (by simp; omega))
      have FIN := Lib.hid (fin_set Hba.out hwR HRa.out HVa.out HEa.out)
      have rR := box_at HRa.out (j := 0) rfl
      have rF := box_free HRa.out 0
      simp only [encE, reply, timer, send, List.cons_append, List.nil_append] at rR rF
      have HSa := Lib.hid (same_below' HS2.out hal)
      have HSb := Lib.hid (same_keep HSa.out ((Keep.refl [R] _).setCell (p := ⟨R, 0, none⟩) (by simp) (.slice va l.length vc)) (fun q hq => by rw [List.mem_singleton.1 hq]; simp; omega))
      clear hal
      (try simp only [Txt.pick, List.getElem?_cons_succ, List.getElem?_cons_zero])
      go_wp2
      refine Txt.SegPost.mk (Txt.Ty.Shown.same HSa.out) ?_
      (try simp only [Txt.pick, List.getElem?_cons_succ, List.getElem?_cons_zero])
      go_wp2
      refine Txt.RunPost.mk ?_
      refine Txt.Ty.wpTr_alt ?_ Txt.Ty.wpTr_no
      (try simp only [Txt.pick, List.getElem?_cons_succ, List.getElem?_cons_zero])
      go_wp2
      refine Txt.SegPost.mk (Txt.Ty.Shown.same HSb.out) ?_
      (try simp only [Txt.pick, List.getElem?_cons_succ, List.getElem?_cons_zero])
      go_wp2
      refine Txt.RunPost.mk ?_
      refine Txt.Ty.wpTr_done (by rfl) ⟨.head _, trivial⟩ ?_
      go_wp2
      refine bodyPost_ret (results_ctt rfl _ _ _ _ _ _ _ rfl FIN.out.1 Try.underlying24 rfl (by kernel_rfl)) rfl ?_
      rw [Hr.out]
      exact ⟨FIN.out.2.2.2, _, _, rfl, FIN.out.2.1, FIN.out.2.2.1⟩
    · have FB := fin_set (es := []) Hb_w2.out hwR HR_w2.out HV2.out (Raw.empty [R] 15 _)
      have hszB : (w2.setCell ⟨R, 0, none⟩ (.slice va l.length vc)).heap.size = w2.heap.size := by simp
      have hal := (Below.refl (w2.setCell ⟨R, 0, none⟩ (.slice va l.length vc)).heap.size (w2.setCell ⟨R, 0, none⟩ (.slice va l.length vc))).alloc (Nat.le_refl _) (.cells (encE (reply m.src 0)).toArray 62)
      have hEB : ((w2.setCell ⟨R, 0, none⟩ (.slice va l.length vc)).alloc (.cells (encE (reply m.src 0)).toArray 62)).heap[w2.heap.size]? = some (.cells (encE (reply m.src 0)).toArray 62 (0, 0)) := by rw [← hszB]; exact heap_alloc_new _ _
      have FIN : Hid (((w2.setCell ⟨R, 0, none⟩ (.slice va l.length vc)).alloc (.cells (encE (reply m.src 0)).toArray 62)).heap[R]? = some (.cells #[(.slice va l.length vc)] 24 (0, 0)) ∧ SlT ((w2.setCell ⟨R, 0, none⟩ (.slice va l.length vc)).alloc (.cells (encE (reply m.src 0)).toArray 62)) (.slice va l.length vc) _ ∧ SlE ((w2.setCell ⟨R, 0, none⟩ (.slice va l.length vc)).alloc (.cells (encE (reply m.src 0)).toArray 62)) (.slice (some ⟨w2.heap.size, 0, none⟩) 1 1) [reply m.src 0] ∧ Below w.heap.size w ((w2.setCell ⟨R, 0, none⟩ (.slice va l.length vc)).alloc (.cells (encE (reply m.src 0)).toArray 62))) :=
        Lib.hid ⟨(hal.block R (by rw [hszB]; omega)).trans FB.1, SlT.below FB.2.1 hal, box1 _ _ hEB, FB.2.2.2.trans (hal.mono (by rw [hszB]; omega))⟩
      have rR := box_at HR_w2.out (j := 0) rfl
      have rF := box_free HR_w2.out 0
      have HSa := Lib.hid (same_keep HS2.out ((Keep.refl [R] _).setCell (p := ⟨R, 0, none⟩) (by simp) (.slice va l.length vc)) (fun q hq => by rw [List.mem_singleton.1 hq]; simp; omega))
      have HSb := Lib.hid (same_below' HSa.out hal)
      clear FB hszB hal hEB
      (try simp only [Txt.pick, List.getElem?_cons_succ, List.getElem?_cons_zero])
      go_wp2
      refine Txt.SegPost.mk (Txt.Ty.Shown.same HSa.out) ?_
      (try simp only [Txt.pick, List.getElem?_cons_succ, List.getElem?_cons_zero])
      go_wp2
      refine Txt.RunPost.mk ?_
      refine Txt.Ty.wpTr_alt ?_ Txt.Ty.wpTr_no
      (try simp only [Txt.pick, List.getElem?_cons_succ, List.getElem?_cons_zero])
      go_wp2
      refine Txt.SegPost.mk (Txt.Ty.Shown.same HSb.out) ?_
      (try simp only [Txt.pick, List.getElem?_cons_succ, List.getElem?_cons_zero])
      go_wp2
      refine Txt.RunPost.mk ?_
      refine Txt.Ty.wpTr_done (by rfl) ⟨.head _, trivial⟩ ?_
      go_wp2
      refine bodyPost_ret (results_ctt rfl _ _ _ _ _ _ _ rfl FIN.out.1 Try.underlying24 rfl (by kernel_rfl)) rfl ?_
      rw [Hr.out]
      exact ⟨FIN.out.2.2.2, _, _, rfl, FIN.out.2.1, FIN.out.2.2.1⟩
  have Hr : Hid (takeT l m = some (setR l m.src true, [timer m.a1 m.src])) := Lib.hid (by rw [Hs2.out, if_neg h0, Hset.out])
  have hn' : 0 ≤ m.a1 := by omega
  go_upto_region 14 with (fail)
  have hBl := show ∀ q ∈ [M], ∃ cc e f, w3.heap[q]? = some (.cells cc e f) from fun q hq => by rw [List.mem_singleton.1 hq]; exact ⟨_, _, _, HM_w3.out⟩
  refine Txt.Ty.wp_tree ([M]) [6, 8] [] [0, 2, 6, 8] [0, 1, 2, 4, 5, 6, 7, 8] (.alt [3] (.alt [9] (.alt [10] (.alt [11, 12, 13] (.done) (.no)) (.alt [11] (.alt [10, 12, 13] (.done) (.no)) (.no))) (.no)) (.no)) (by kernel_rfl) (by kernel_rfl) (by kernel_rfl) (by kernel_rfl) hBl ?_
  obtain ⟨y0, hy0⟩ : ∃ y, y = w3.drew := ⟨_, rfl⟩
  have HS0 : Hid (Txt.SameB [M] y0 y0) := Lib.hid (by rw [hy0]; exact same_start hBl)
  clear hBl
  rw [← hy0]
  have hd : Below w3.heap.size w3 y0 := by rw [hy0]; exact (Below.refl _ _).drew
  have HX_y0 := Lib.hid ((hd.block X (by omega)).trans HX_w3.out)
  have HM_y0 := Lib.hid ((hd.block M (by omega)).trans HM_w3.out)
  have HR_y0 := Lib.hid ((hd.block R (by omega)).trans HR_w3.out)
  have Hb_y0 := Lib.hid (Hb_w3.out.trans (hd.mono (by omega)))
  have hz_y0 : N3 ≤ y0.heap.size := Nat.le_trans hz_w3 hd.size
  clear cX m0 m1 m2 m4 m5 m7
  have cX := box_at HX_y0.out (j := 0) rfl
  have m0 := box_at HM_y0.out (j := 0) rfl
  have m1 := box_at HM_y0.out (j := 1) rfl
  have m2 := box_at HM_y0.out (j := 2) rfl
  have m4 := box_at HM_y0.out (j := 4) rfl
  have m5 := box_at HM_y0.out (j := 5) rfl
  have m7 := box_at HM_y0.out (j := 7) rfl
  rw [hdst] at m1
  rw [h1] at m2
  rw [h19] at m4
  clear hd hy0
  (try simp only [Txt.pick, List.getElem?_cons_succ, List.getElem?_cons_zero])
  go_wp2
  refine Txt.RunPost.mk ?_
  refine Txt.Ty.wpTr_alt ?_ Txt.Ty.wpTr_no
  (try simp only [Txt.pick, List.getElem?_cons_succ, List.getElem?_cons_zero])
  go_wp2_with fail
  refine (set_any _ l m.src true _ (by omega) (H0.out.below Hb_y0.out)).mono ?_
  rintro e w4 ⟨v4, rfl, hrow4, hb⟩
  have HX_w4 := Lib.hid ((hb.block X (by omega)).trans HX_y0.out)
  have HM_w4 := Lib.hid ((hb.block M (by omega)).trans HM_y0.out)
  have HR_w4 := Lib.hid ((hb.block R (by omega)).trans HR_y0.out)
  have Hb_w4 := Lib.hid (Hb_y0.out.trans (hb.mono (by omega)))
  have hz_w4 : N3 ≤ w4.heap.size := Nat.le_trans hz_y0 hb.size
  have HS4 := Lib.hid (same_below' HS0.out hb)
  have HV4 := Lib.hid (Raw.of_own (F := [R]) hrow4 (encT_one _) (fun f hf => by rw [List.mem_singleton.1 hf]; omega))
  obtain ⟨L4, hL4⟩ : ∃ L, L = (setR l m.src true).length := ⟨_, rfl⟩
  have HL4 := Lib.hid hL4
  rw [← hL4] at hrow4
  obtain ⟨a4, c4, rfl⟩ := own_slice hrow4
  clear cX m0 m1 m2 m4 m5 m7
  clear hb hrow4 hL4
  go_wp2
  refine Txt.SegPost.mk (Txt.Ty.Shown.same HS4.out) ?_
  (try simp only [Txt.pick, List.getElem?_cons_succ, List.getElem?_cons_zero])
  go_wp2
  refine Txt.RunPost.mk ?_
  refine Txt.Ty.wpTr_alt ?_ Txt.Ty.wpTr_no
  (try simp only [Txt.pick, List.getElem?_cons_succ, List.getElem?_cons_zero])
  go_wp2_with fail
  refine (rtimer_any m.a1 m.src _).mono ?_
  rintro e w2 ⟨rfl, hb⟩
  simp only [encE, reply, timer, send]
  have HX_w2 := Lib.hid ((hb.block X (by omega)).trans HX_w4.out)
  have HM_w2 := Lib.hid ((hb.block M (by omega)).trans HM_w4.out)
  have HR_w2 := Lib.hid ((hb.block R (by omega)).trans HR_w4.out)
  have Hb_w2 := Lib.hid (Hb_w4.out.trans (hb.mono (by omega)))
  have hz_w2 : N3 ≤ w2.heap.size := Nat.le_trans hz_w4 hb.size
  have HS2 := Lib.hid (same_below' HS4.out hb)
  have HV2 := Lib.hid (Raw.below HV4.out hb)
  clear hb
  go_wp2
  refine Txt.SegPost.mk (Txt.Ty.Shown.same HS2.out) ?_
  (try simp only [Txt.pick, List.getElem?_cons_succ, List.getElem?_cons_zero])
  go_wp2
  refine Txt.RunPost.mk ?_
  refine Txt.Ty.wpTr_alt ?_ (Txt.Ty.wpTr_alt ?_ Txt.Ty.wpTr_no)
  · have hal := (Below.refl w2.heap.size w2).alloc (Nat.le_refl _) (.cells (encE (timer m.a1 m.src)).toArray 62)
    have HRa := Lib.hid ((hal.block R (by omega)).trans HR_w2.out)
    have Hba := Lib.hid (Hb_w2.out.trans (hal.mono (by omega)))
    have HVa := Lib.hid (Raw.below HV2.out hal)
    have HEa := Lib.hid (box1F (F := [R]) w2.heap.size (timer m.a1 m.src) (heap_alloc_new w2 (.cells (encE (timer m.a1 m.src)).toArray 62)) (by simp; omega))
    have FIN := Lib.hid (fin_set Hba.out hwR HRa.out HVa.out HEa.out)
    have rR := box_at HRa.out (j := 0) rfl
    have rF := box_free HRa.out 0
    simp only [encE, reply, timer, send, List.cons_append, List.nil_append] at rR rF
    have HSa := Lib.hid (same_below' HS2.out hal)
    have HSb := Lib.hid (same_keep HSa.out ((Keep.refl [R] _).setCell (p := ⟨R, 0, none⟩) (by simp) (.slice a4 L4 c4)) (fun q hq => by rw [List.mem_singleton.1 hq]; simp; omega))
    clear hal
    (try simp only [Txt.pick, List.getElem?_cons_succ, List.getElem?_cons_zero])
    go_wp2
    refine Txt.SegPost.mk (Txt.Ty.Shown.same HSa.out) ?_
    (try simp only [Txt.pick, List.getElem?_cons_succ, List.getElem?_cons_zero])
    go_wp2
    refine Txt.RunPost.mk ?_
    refine Txt.Ty.wpTr_alt ?_ Txt.Ty.wpTr_no
    (try simp only [Txt.pick, List.getElem?_cons_succ, List.getElem?_cons_zero])
    go_wp2
    refine Txt.SegPost.mk (Txt.Ty.Shown.same HSb.out) ?_
    (try simp only [Txt.pick, List.getElem?_cons_succ, List.getElem?_cons_zero])
    go_wp2
    refine Txt.RunPost.mk ?_
    refine Txt.Ty.wpTr_done (by rfl) ⟨.head _, .head _, trivial⟩ ?_
    go_wp2
    refine bodyPost_ret (results_ctt rfl _ _ _ _ _ _ _ rfl FIN.out.1 Try.underlying24 rfl (by kernel_rfl)) rfl ?_
    rw [Hr.out]
    exact ⟨FIN.out.2.2.2, _, _, rfl, FIN.out.2.1, FIN.out.2.2.1⟩
  · have FB := fin_set (es := []) Hb_w2.out hwR HR_w2.out HV2.out (Raw.empty [R] 15 _)
    have hszB : (w2.setCell ⟨R, 0, none⟩ (.slice a4 L4 c4)).heap.size = w2.heap.size := by simp
    have hal := (Below.refl (w2.setCell ⟨R, 0, none⟩ (.slice a4 L4 c4)).heap.size (w2.setCell ⟨R, 0, none⟩ (.slice a4 L4 c4))).alloc (Nat.le_refl _) (.cells (encE (timer m.a1 m.src)).toArray 62)
    have hEB : ((w2.setCell ⟨R, 0, none⟩ (.slice a4 L4 c4)).alloc (.cells (encE (timer m.a1 m.src)).toArray 62)).heap[w2.heap.size]? = some (.cells (encE (timer m.a1 m.src)).toArray 62 (0, 0)) := by rw [← hszB]; exact heap_alloc_new _ _
    have FIN : Hid (((w2.setCell ⟨R, 0, none⟩ (.slice a4 L4 c4)).alloc (.cells (encE (timer m.a1 m.src)).toArray 62)).heap[R]? = some (.cells #[(.slice a4 L4 c4)] 24 (0, 0)) ∧ SlT ((w2.setCell ⟨R, 0, none⟩ (.slice a4 L4 c4)).alloc (.cells (encE (timer m.a1 m.src)).toArray 62)) (.slice a4 L4 c4) _ ∧ SlE ((w2.setCell ⟨R, 0, none⟩ (.slice a4 L4 c4)).alloc (.cells (encE (timer m.a1 m.src)).toArray 62)) (.slice (some ⟨w2.heap.size, 0, none⟩) 1 1) [timer m.a1 m.src] ∧ Below w.heap.size w ((w2.setCell ⟨R, 0, none⟩ (.slice a4 L4 c4)).alloc (.cells (encE (timer m.a1 m.src)).toArray 62))) :=
      Lib.hid ⟨(hal.block R (by rw [hszB]; omega)).trans FB.1, SlT.below FB.2.1 hal, box1 _ _ hEB, FB.2.2.2.trans (hal.mono (by rw [hszB]; omega))⟩
    have rR := box_at HR_w2.out (j := 0) rfl
    have rF := box_free HR_w2.out 0
    have HSa := Lib.hid (same_keep HS2.out ((Keep.refl [R] _).setCell (p := ⟨R, 0, none⟩) (by simp) (.slice a4 L4 c4)) (fun q hq => by rw [List.mem_singleton.1 hq]; simp; omega))
    have HSb := Lib.hid (same_below' HSa.out hal)
    clear FB hszB hal hEB
    (try simp only [Txt.pick, List.getElem?_cons_succ, List.getElem?_cons_zero])
    go_wp2
    refine Txt.SegPost.mk (Txt.Ty.Shown.same HSa.out) ?_
    (try simp only [Txt.pick, List.getElem?_cons_succ, List.getElem?_cons_zero])
    go_wp2
    refine Txt.RunPost.mk ?_
    refine Txt.Ty.wpTr_alt ?_ Txt.Ty.wpTr_no
    (try simp only [Txt.pick, List.getElem?_cons_succ, List.getElem?_cons_zero])
    go_wp2
    refine Txt.SegPost.mk (Txt.Ty.Shown.same HSb.out) ?_
    (try simp only [Txt.pick, List.getElem?_cons_succ, List.getElem?_cons_zero])
    go_wp2
    refine Txt.RunPost.mk ?_
    refine Txt.Ty.wpTr_done (by rfl) ⟨.head _, .head _, trivial⟩ ?_
    go_wp2
    refine bodyPost_ret (results_ctt rfl _ _ _ _ _ _ _ rfl FIN.out.1 Try.underlying24 rfl (by kernel_rfl)) rfl ?_
    rw [Hr.out]
    exact ⟨FIN.out.2.2.2, _, _, rfl, FIN.out.2.1, FIN.out.2.2.1⟩
set_option maxRecDepth 100000 in
set_option maxHeartbeats 8000000 in
theorem next_alarm (v dv : Value) (l : List Int) (m : Ms) (w : World) (hl : l.length ≤ 900) (h : SlT w v l) (hv : validT l = true) (hd : ∃ a n c, dv = .slice a n c) (hdst : m.dst = 10) (hk : m.kind = 4) :
    Calls Try.prog 28 #[.agg #[v], .agg (msgC m dv)] w (RetN (takeT l m) w) := by
  obtain ⟨da, dn, dc, rfl⟩ := hd
  obtain ⟨va, vc, rfl⟩ := Raw.slice h
  obtain ⟨W, hW⟩ : ∃ W, W = ((w.alloc (.cells #[.slice va l.length vc] 24)).alloc (.cells (msgC m (.slice da dn dc)) 28)).alloc (.cells #[.slice none 0 0] 24) := ⟨_, rfl⟩
  have hb : Below w.heap.size w W := by rw [hW]; exact (((Below.refl w.heap.size w).alloc (Nat.le_refl _) _).alloc (by simp) _).alloc (by simp; omega) _
  have hws : W.heap.size = w.heap.size + 3 := by rw [hW]; simp
  have hx : W.heap[w.heap.size]? = some (.cells #[.slice va l.length vc] 24 (0, 0)) := by
    rw [hW]
    have h1 := heap_alloc_new w (.cells #[.slice va l.length vc] 24)
    have h2 := (Below.heap_alloc (w.alloc (.cells #[.slice va l.length vc] 24)) (.cells (msgC m (.slice da dn dc)) 28) w.heap.size (by simp)).trans h1
    exact (Below.heap_alloc _ (.cells #[.slice none 0 0] 24) w.heap.size (by simp; omega)).trans h2
  have hr : W.heap[w.heap.size + 1]? = some (.cells (msgC m (.slice da dn dc)) 28 (0, 0)) := by
    rw [hW]
    have h1 := heap_alloc_new (w.alloc (.cells #[.slice va l.length vc] 24)) (.cells (msgC m (.slice da dn dc)) 28)
    simp only [World.size_alloc] at h1
    exact (Below.heap_alloc _ (.cells #[.slice none 0 0] 24) (w.heap.size + 1) (by simp)).trans h1
  have hB : W.heap[w.heap.size + 2]? = some (.cells #[.slice none 0 0] 24 (0, 0)) := by
    rw [hW]
    have h1 := heap_alloc_new ((w.alloc (.cells #[.slice va l.length vc] 24)).alloc (.cells (msgC m (.slice da dn dc)) 28)) (.cells #[.slice none 0 0] 24)
    simp only [World.size_alloc] at h1
    exact h1
  obtain ⟨X, hX⟩ : ∃ X, X = w.heap.size := ⟨_, rfl⟩
  obtain ⟨M, hM⟩ : ∃ M, M = w.heap.size + 1 := ⟨_, rfl⟩
  obtain ⟨R, hR⟩ : ∃ R, R = w.heap.size + 2 := ⟨_, rfl⟩
  rw [← hX] at hx
  rw [← hM] at hr
  rw [← hR] at hB
  have H0 := Lib.hid h; have HX_W := Lib.hid hx; have HM_W := Lib.hid hr; have HR_W := Lib.hid hB; have Hb_W := Lib.hid hb
  obtain ⟨N3, hN3⟩ : ∃ N3, N3 = W.heap.size := ⟨_, rfl⟩
  have hXN : X < N3 := by omega
  have hMN : M < N3 := by omega
  have hRN : R < N3 := by omega
  have hXR : X < R := by omega
  have hMR : M < R := by omega
  have hwR : w.heap.size ≤ R := by omega
  have hwN : w.heap.size ≤ N3 := by omega
  have hz_W : N3 ≤ W.heap.size := by omega
  have HXe := Lib.hid hX; have HWe := Lib.hid hW
  have hM2 : M = X + 1 := by omega
  have hR2 : R = X + 1 + 1 := by omega
  have HM2 := Lib.hid hM2; have HR2 := Lib.hid hR2
  have Hv := Lib.hid hv
  clear h hx hb hr hB hX hM hR hW hws hM2 hR2 hN3 hv
  unfold msgC at HM_W HWe
  unfold msgC
  have Q_hdst := Lib.hid hdst
  have Q_hk := Lib.hid hk
  clear hdst hk
  go_enter Try.func28, Try.ntmps28
  go_upto_region 1 with (fail)
  rw [← HWe.out, ← HXe.out, ← HR2.out, ← HM2.out]
  clear HWe HXe HM2 HR2
  have hdst := Q_hdst.out
  have hk := Q_hk.out
  have HTk : Hid (takeT l m = (if m.kind = 6 ∧ m.src = 1 then some (l, [send 1 7 m.a0])
    else if m.kind = 1 then sysT l m
    else if m.kind = 4 ∧ m.src = 0 ∧ usr m.a0 = true then some (delT l m.a0, if m.a0 ∈ l then [reply m.a0 0] else [])
    else if m.kind = 16 ∧ m.src = 3 ∧ usr m.a0 = true then some (delT l m.a0, (if m.a0 ∈ l then [timer (-1) m.a0] else []) ++ [send 3 17 m.a0])
    else none)) := Lib.hid (by unfold takeT; rw [if_neg (by simp [hdst])])
  have cX := box_at HX_W.out (j := 0) rfl
  have m0 := box_at HM_W.out (j := 0) rfl
  have m1 := box_at HM_W.out (j := 1) rfl
  have m2 := box_at HM_W.out (j := 2) rfl
  have m4 := box_at HM_W.out (j := 4) rfl
  have m5 := box_at HM_W.out (j := 5) rfl
  have m7 := box_at HM_W.out (j := 7) rfl
  rw [hdst] at m1
  rw [hk] at m2
  by_cases hs0 : m.src = 0
  rotate_left
  · have Hr : Hid (takeT l m = none) := Lib.hid (by rw [HTk.out, if_neg (by omega), if_neg (by omega), if_neg (by omega), if_neg (by omega)])
    have FIN := Lib.hid (fin_set (es := []) Hb_W.out hwR HR_W.out (Raw.below (Raw.fresh H0.out (fun f hf => .inr (by rw [List.mem_singleton.1 hf]; exact hwR))) Hb_W.out) (Raw.empty [R] 15 _))
    have rR := box_at HR_W.out (j := 0) rfl
    have rF := box_free HR_W.out 0
    go_wp2
    refine bodyPost_ret (results_ctt rfl _ _ _ _ _ _ _ rfl FIN.out.1 Try.underlying24 rfl (by kernel_rfl)) rfl ?_
    rw [Hr.out]
    exact ⟨FIN.out.2.2.2, _, _, _, rfl⟩
  rw [hs0] at m0
  cases hu : usr m.a0
  · go_wp2_with fail
    refine (ruser_is m.a0 false _ hu).mono ?_
    rintro e w1 ⟨rfl, rfl⟩
    have Hr : Hid (takeT l m = none) := Lib.hid (by rw [HTk.out, if_neg (by omega), if_neg (by omega), if_neg (fun h => by rw [hu] at h; cases h.2.2), if_neg (fun h => by rw [hu] at h; cases h.2.2)])
    have FIN := Lib.hid (fin_set (es := []) Hb_W.out hwR HR_W.out (Raw.below (Raw.fresh H0.out (fun f hf => .inr (by rw [List.mem_singleton.1 hf]; exact hwR))) Hb_W.out) (Raw.empty [R] 15 _))
    have rR := box_at HR_W.out (j := 0) rfl
    have rF := box_free HR_W.out 0
    go_wp2
    refine bodyPost_ret (results_ctt rfl _ _ _ _ _ _ _ rfl FIN.out.1 Try.underlying24 rfl (by kernel_rfl)) rfl ?_
    rw [Hr.out]
    exact ⟨FIN.out.2.2.2, _, _, _, rfl⟩
  cases hm : decide (m.a0 ∈ l)
  · have hnm : m.a0 ∉ l := by simpa using hm
    have Hr : Hid (takeT l m = some (l, [])) := Lib.hid (by rw [HTk.out, if_neg (by omega), if_neg (by omega), if_pos ⟨hk, hs0, hu⟩, if_neg hnm, delT_out hnm])
    clear hnm
    go_wp2_with fail
    refine (ruser_is m.a0 true _ hu).mono ?_
    rintro e w1 ⟨rfl, rfl⟩
    go_wp2_with fail
    refine (rsleeps_is _ l m.a0 false _ (by omega) (H0.out.below Hb_W.out) hm).mono ?_
    rintro e w1 ⟨rfl, hb⟩
    have HX_w1 := Lib.hid ((hb.block X (by omega)).trans HX_W.out)
    have HM_w1 := Lib.hid ((hb.block M (by omega)).trans HM_W.out)
    have HR_w1 := Lib.hid ((hb.block R (by omega)).trans HR_W.out)
    have Hb_w1 := Lib.hid (Hb_W.out.trans (hb.mono (by omega)))
    have hz_w1 : N3 ≤ w1.heap.size := Nat.le_trans hz_W hb.size
    clear cX m0 m1 m2 m4 m5 m7
    have cX := box_at HX_w1.out (j := 0) rfl
    have m0 := box_at HM_w1.out (j := 0) rfl
    have m1 := box_at HM_w1.out (j := 1) rfl
    have m2 := box_at HM_w1.out (j := 2) rfl
    have m4 := box_at HM_w1.out (j := 4) rfl
    have m5 := box_at HM_w1.out (j := 5) rfl
    have m7 := box_at HM_w1.out (j := 7) rfl
    rw [hdst] at m1
    rw [hk] at m2
    rw [hs0] at m0
    clear hb
    have FIN := Lib.hid (fin_set (es := []) Hb_w1.out hwR HR_w1.out (Raw.below (Raw.fresh H0.out (fun f hf => .inr (by rw [List.mem_singleton.1 hf]; exact hwR))) Hb_w1.out) (Raw.empty [R] 15 _))
    have rR := box_at HR_w1.out (j := 0) rfl
    have rF := box_free HR_w1.out 0
    go_wp2
    refine bodyPost_ret (results_ctt rfl _ _ _ _ _ _ _ rfl FIN.out.1 Try.underlying24 rfl (by kernel_rfl)) rfl ?_
    rw [Hr.out]
    exact ⟨FIN.out.2.2.2, _, _, rfl, FIN.out.2.1, FIN.out.2.2.1⟩
  · have hnm : m.a0 ∈ l := by simpa using hm
    have Hr : Hid (takeT l m = some (setR l m.a0 false, [reply m.a0 0])) := Lib.hid (by rw [HTk.out, if_neg (by omega), if_neg (by omega), if_pos ⟨hk, hs0, hu⟩, if_pos hnm, set_del Hv.out hu])
    clear hnm
    go_wp2_with fail
    refine (ruser_is m.a0 true _ hu).mono ?_
    rintro e w1 ⟨rfl, rfl⟩
    go_wp2_with fail
    refine (rsleeps_is _ l m.a0 true _ (by omega) (H0.out.below Hb_W.out) hm).mono ?_
    rintro e w1 ⟨rfl, hb⟩
    have HX_w1 := Lib.hid ((hb.block X (by omega)).trans HX_W.out)
    have HM_w1 := Lib.hid ((hb.block M (by omega)).trans HM_W.out)
    have HR_w1 := Lib.hid ((hb.block R (by omega)).trans HR_W.out)
    have Hb_w1 := Lib.hid (Hb_W.out.trans (hb.mono (by omega)))
    have hz_w1 : N3 ≤ w1.heap.size := Nat.le_trans hz_W hb.size
    clear cX m0 m1 m2 m4 m5 m7
    have cX := box_at HX_w1.out (j := 0) rfl
    have m0 := box_at HM_w1.out (j := 0) rfl
    have m1 := box_at HM_w1.out (j := 1) rfl
    have m2 := box_at HM_w1.out (j := 2) rfl
    have m4 := box_at HM_w1.out (j := 4) rfl
    have m5 := box_at HM_w1.out (j := 5) rfl
    have m7 := box_at HM_w1.out (j := 7) rfl
    rw [hdst] at m1
    rw [hk] at m2
    rw [hs0] at m0
    clear hb
    clear hu hm
    go_wp2_with fail
    refine (set_any _ l m.a0 false _ (by omega) (H0.out.below Hb_w1.out)).mono ?_
    rintro e w4 ⟨v4, rfl, hrow4, hb⟩
    have HX_w4 := Lib.hid ((hb.block X (by omega)).trans HX_w1.out)
    have HM_w4 := Lib.hid ((hb.block M (by omega)).trans HM_w1.out)
    have HR_w4 := Lib.hid ((hb.block R (by omega)).trans HR_w1.out)
    have Hb_w4 := Lib.hid (Hb_w1.out.trans (hb.mono (by omega)))
    have hz_w4 : N3 ≤ w4.heap.size := Nat.le_trans hz_w1 hb.size
    have HV4 := Lib.hid (Raw.of_own (F := [R]) hrow4 (encT_one _) (fun f hf => by rw [List.mem_singleton.1 hf]; omega))
    obtain ⟨L4, hL4⟩ : ∃ L, L = (setR l m.a0 false).length := ⟨_, rfl⟩
    have HL4 := Lib.hid hL4
    rw [← hL4] at hrow4
    obtain ⟨a4, c4, rfl⟩ := own_slice hrow4
    clear cX m0 m1 m2 m4 m5 m7
    clear hb hrow4 hL4
    go_wp2_with fail
    refine (rreply_any m.a0 0 _).mono ?_
    rintro e w2 ⟨rfl, hb⟩
    simp only [encE, reply, timer, send]
    have HX_w2 := Lib.hid ((hb.block X (by omega)).trans HX_w4.out)
    have HM_w2 := Lib.hid ((hb.block M (by omega)).trans HM_w4.out)
    have HR_w2 := Lib.hid ((hb.block R (by omega)).trans HR_w4.out)
    have Hb_w2 := Lib.hid (Hb_w4.out.trans (hb.mono (by omega)))
    have hz_w2 : N3 ≤ w2.heap.size := Nat.le_trans hz_w4 hb.size
    have HV2 := Lib.hid (Raw.below HV4.out hb)
    clear hb
    have hal := (Below.refl w2.heap.size w2).alloc (Nat.le_refl _) (.cells (encE (reply m.a0 0)).toArray 62)
    have HRa := Lib.hid ((hal.block R (by omega)).trans HR_w2.out)
    have Hba := Lib.hid (Hb_w2.out.trans (hal.mono (by omega)))
    have HVa := Lib.hid (Raw.below HV2.out hal)
    have HEa := Lib.hid (box1F (F := [R]) w2.heap.size (reply m.a0 0) (heap_alloc_new w2 (.cells (encE (reply m.a0 0)).toArray 62)) (by simp; omega))
    have FIN := Lib.hid (fin_set Hba.out hwR HRa.out HVa.out HEa.out)
    have rR := box_at HRa.out (j := 0) rfl
    have rF := box_free HRa.out 0
    simp only [encE, reply, timer, send, List.cons_append, List.nil_append] at rR rF
    clear hal
    go_wp2
    refine bodyPost_ret (results_ctt rfl _ _ _ _ _ _ _ rfl FIN.out.1 Try.underlying24 rfl (by kernel_rfl)) rfl ?_
    rw [Hr.out]
    exact ⟨FIN.out.2.2.2, _, _, rfl, FIN.out.2.1, FIN.out.2.2.1⟩
set_option maxRecDepth 100000 in
set_option maxHeartbeats 8000000 in
theorem next_free (v dv : Value) (l : List Int) (m : Ms) (w : World) (hl : l.length ≤ 900) (h : SlT w v l) (hv : validT l = true) (hd : ∃ a n c, dv = .slice a n c) (hdst : m.dst = 10) (hk : m.kind = 16) :
    Calls Try.prog 28 #[.agg #[v], .agg (msgC m dv)] w (RetN (takeT l m) w) := by
  obtain ⟨da, dn, dc, rfl⟩ := hd
  obtain ⟨va, vc, rfl⟩ := Raw.slice h
  obtain ⟨W, hW⟩ : ∃ W, W = ((w.alloc (.cells #[.slice va l.length vc] 24)).alloc (.cells (msgC m (.slice da dn dc)) 28)).alloc (.cells #[.slice none 0 0] 24) := ⟨_, rfl⟩
  have hb : Below w.heap.size w W := by rw [hW]; exact (((Below.refl w.heap.size w).alloc (Nat.le_refl _) _).alloc (by simp) _).alloc (by simp; omega) _
  have hws : W.heap.size = w.heap.size + 3 := by rw [hW]; simp
  have hx : W.heap[w.heap.size]? = some (.cells #[.slice va l.length vc] 24 (0, 0)) := by
    rw [hW]
    have h1 := heap_alloc_new w (.cells #[.slice va l.length vc] 24)
    have h2 := (Below.heap_alloc (w.alloc (.cells #[.slice va l.length vc] 24)) (.cells (msgC m (.slice da dn dc)) 28) w.heap.size (by simp)).trans h1
    exact (Below.heap_alloc _ (.cells #[.slice none 0 0] 24) w.heap.size (by simp; omega)).trans h2
  have hr : W.heap[w.heap.size + 1]? = some (.cells (msgC m (.slice da dn dc)) 28 (0, 0)) := by
    rw [hW]
    have h1 := heap_alloc_new (w.alloc (.cells #[.slice va l.length vc] 24)) (.cells (msgC m (.slice da dn dc)) 28)
    simp only [World.size_alloc] at h1
    exact (Below.heap_alloc _ (.cells #[.slice none 0 0] 24) (w.heap.size + 1) (by simp)).trans h1
  have hB : W.heap[w.heap.size + 2]? = some (.cells #[.slice none 0 0] 24 (0, 0)) := by
    rw [hW]
    have h1 := heap_alloc_new ((w.alloc (.cells #[.slice va l.length vc] 24)).alloc (.cells (msgC m (.slice da dn dc)) 28)) (.cells #[.slice none 0 0] 24)
    simp only [World.size_alloc] at h1
    exact h1
  obtain ⟨X, hX⟩ : ∃ X, X = w.heap.size := ⟨_, rfl⟩
  obtain ⟨M, hM⟩ : ∃ M, M = w.heap.size + 1 := ⟨_, rfl⟩
  obtain ⟨R, hR⟩ : ∃ R, R = w.heap.size + 2 := ⟨_, rfl⟩
  rw [← hX] at hx
  rw [← hM] at hr
  rw [← hR] at hB
  have H0 := Lib.hid h; have HX_W := Lib.hid hx; have HM_W := Lib.hid hr; have HR_W := Lib.hid hB; have Hb_W := Lib.hid hb
  obtain ⟨N3, hN3⟩ : ∃ N3, N3 = W.heap.size := ⟨_, rfl⟩
  have hXN : X < N3 := by omega
  have hMN : M < N3 := by omega
  have hRN : R < N3 := by omega
  have hXR : X < R := by omega
  have hMR : M < R := by omega
  have hwR : w.heap.size ≤ R := by omega
  have hwN : w.heap.size ≤ N3 := by omega
  have hz_W : N3 ≤ W.heap.size := by omega
  have HXe := Lib.hid hX; have HWe := Lib.hid hW
  have hM2 : M = X + 1 := by omega
  have hR2 : R = X + 1 + 1 := by omega
  have HM2 := Lib.hid hM2; have HR2 := Lib.hid hR2
  have Hv := Lib.hid hv
  clear h hx hb hr hB hX hM hR hW hws hM2 hR2 hN3 hv
  unfold msgC at HM_W HWe
  unfold msgC
  have Q_hdst := Lib.hid hdst
  have Q_hk := Lib.hid hk
  clear hdst hk
  go_enter Try.func28, Try.ntmps28
  go_upto_region 1 with (fail)
  rw [← HWe.out, ← HXe.out, ← HR2.out, ← HM2.out]
  clear HWe HXe HM2 HR2
  have hdst := Q_hdst.out
  have hk := Q_hk.out
  have HTk : Hid (takeT l m = (if m.kind = 6 ∧ m.src = 1 then some (l, [send 1 7 m.a0])
    else if m.kind = 1 then sysT l m
    else if m.kind = 4 ∧ m.src = 0 ∧ usr m.a0 = true then some (delT l m.a0, if m.a0 ∈ l then [reply m.a0 0] else [])
    else if m.kind = 16 ∧ m.src = 3 ∧ usr m.a0 = true then some (delT l m.a0, (if m.a0 ∈ l then [timer (-1) m.a0] else []) ++ [send 3 17 m.a0])
    else none)) := Lib.hid (by unfold takeT; rw [if_neg (by simp [hdst])])
  have cX := box_at HX_W.out (j := 0) rfl
  have m0 := box_at HM_W.out (j := 0) rfl
  have m1 := box_at HM_W.out (j := 1) rfl
  have m2 := box_at HM_W.out (j := 2) rfl
  have m4 := box_at HM_W.out (j := 4) rfl
  have m5 := box_at HM_W.out (j := 5) rfl
  have m7 := box_at HM_W.out (j := 7) rfl
  rw [hdst] at m1
  rw [hk] at m2
  by_cases hs0 : m.src = 3
  rotate_left
  · have Hr : Hid (takeT l m = none) := Lib.hid (by rw [HTk.out, if_neg (by omega), if_neg (by omega), if_neg (by omega), if_neg (by omega)])
    have FIN := Lib.hid (fin_set (es := []) Hb_W.out hwR HR_W.out (Raw.below (Raw.fresh H0.out (fun f hf => .inr (by rw [List.mem_singleton.1 hf]; exact hwR))) Hb_W.out) (Raw.empty [R] 15 _))
    have rR := box_at HR_W.out (j := 0) rfl
    have rF := box_free HR_W.out 0
    go_wp2
    refine bodyPost_ret (results_ctt rfl _ _ _ _ _ _ _ rfl FIN.out.1 Try.underlying24 rfl (by kernel_rfl)) rfl ?_
    rw [Hr.out]
    exact ⟨FIN.out.2.2.2, _, _, _, rfl⟩
  rw [hs0] at m0
  cases hu : usr m.a0
  · go_wp2_with fail
    refine (ruser_is m.a0 false _ hu).mono ?_
    rintro e w1 ⟨rfl, rfl⟩
    have Hr : Hid (takeT l m = none) := Lib.hid (by rw [HTk.out, if_neg (by omega), if_neg (by omega), if_neg (fun h => by rw [hu] at h; cases h.2.2), if_neg (fun h => by rw [hu] at h; cases h.2.2)])
    have FIN := Lib.hid (fin_set (es := []) Hb_W.out hwR HR_W.out (Raw.below (Raw.fresh H0.out (fun f hf => .inr (by rw [List.mem_singleton.1 hf]; exact hwR))) Hb_W.out) (Raw.empty [R] 15 _))
    have rR := box_at HR_W.out (j := 0) rfl
    have rF := box_free HR_W.out 0
    go_wp2
    refine bodyPost_ret (results_ctt rfl _ _ _ _ _ _ _ rfl FIN.out.1 Try.underlying24 rfl (by kernel_rfl)) rfl ?_
    rw [Hr.out]
    exact ⟨FIN.out.2.2.2, _, _, _, rfl⟩
  cases hm : decide (m.a0 ∈ l)
  · have hnm : m.a0 ∉ l := by simpa using hm
    have Hr : Hid (takeT l m = some (l, [send 3 17 m.a0])) := Lib.hid (by rw [HTk.out, if_neg (by omega), if_neg (by omega), if_neg (by omega), if_pos ⟨hk, hs0, hu⟩, if_neg hnm, delT_out hnm]; rfl)
    clear hnm
    go_wp2_with fail
    refine (ruser_is m.a0 true _ hu).mono ?_
    rintro e w1 ⟨rfl, rfl⟩
    go_wp2_with fail
    refine (rsleeps_is _ l m.a0 false _ (by omega) (H0.out.below Hb_W.out) hm).mono ?_
    rintro e w1 ⟨rfl, hb⟩
    have HX_w1 := Lib.hid ((hb.block X (by omega)).trans HX_W.out)
    have HM_w1 := Lib.hid ((hb.block M (by omega)).trans HM_W.out)
    have HR_w1 := Lib.hid ((hb.block R (by omega)).trans HR_W.out)
    have Hb_w1 := Lib.hid (Hb_W.out.trans (hb.mono (by omega)))
    have hz_w1 : N3 ≤ w1.heap.size := Nat.le_trans hz_W hb.size
    clear cX m0 m1 m2 m4 m5 m7
    have cX := box_at HX_w1.out (j := 0) rfl
    have m0 := box_at HM_w1.out (j := 0) rfl
    have m1 := box_at HM_w1.out (j := 1) rfl
    have m2 := box_at HM_w1.out (j := 2) rfl
    have m4 := box_at HM_w1.out (j := 4) rfl
    have m5 := box_at HM_w1.out (j := 5) rfl
    have m7 := box_at HM_w1.out (j := 7) rfl
    rw [hdst] at m1
    rw [hk] at m2
    rw [hs0] at m0
    clear hb
    go_upto_region 21 with (fail)
    have hBl := show ∀ q ∈ [X], ∃ cc e f, w1.heap[q]? = some (.cells cc e f) from fun q hq => by rw [List.mem_singleton.1 hq]; exact ⟨_, _, _, HX_w1.out⟩
    refine Txt.Ty.wp_tree ([X]) [0] [] [0] [0, 1] (.alt [2] (.alt [3] (.alt [4, 5, 6] (.done) (.no)) (.alt [4] (.alt [3, 5, 6] (.done) (.no)) (.no))) (.no)) (by kernel_rfl) (by kernel_rfl) (by kernel_rfl) (by kernel_rfl) hBl ?_
    obtain ⟨y0, hy0⟩ : ∃ y, y = w1.drew := ⟨_, rfl⟩
    have HS0 : Hid (Txt.SameB [X] y0 y0) := Lib.hid (by rw [hy0]; exact same_start hBl)
    clear hBl
    rw [← hy0]
    have hd : Below w1.heap.size w1 y0 := by rw [hy0]; exact (Below.refl _ _).drew
    have HX_y0 := Lib.hid ((hd.block X (by omega)).trans HX_w1.out)
    have HM_y0 := Lib.hid ((hd.block M (by omega)).trans HM_w1.out)
    have HR_y0 := Lib.hid ((hd.block R (by omega)).trans HR_w1.out)
    have Hb_y0 := Lib.hid (Hb_w1.out.trans (hd.mono (by omega)))
    have hz_y0 : N3 ≤ y0.heap.size := Nat.le_trans hz_w1 hd.size
    clear cX m0 m1 m2 m4 m5 m7
    have cX := box_at HX_y0.out (j := 0) rfl
    have m0 := box_at HM_y0.out (j := 0) rfl
    have m1 := box_at HM_y0.out (j := 1) rfl
    have m2 := box_at HM_y0.out (j := 2) rfl
    have m4 := box_at HM_y0.out (j := 4) rfl
    have m5 := box_at HM_y0.out (j := 5) rfl
    have m7 := box_at HM_y0.out (j := 7) rfl
    rw [hdst] at m1
    rw [hk] at m2
    rw [hs0] at m0
    clear hd hy0
    (try simp only [Txt.pick, List.getElem?_cons_succ, List.getElem?_cons_zero])
    go_wp2
    refine Txt.RunPost.mk ?_
    refine Txt.Ty.wpTr_alt ?_ Txt.Ty.wpTr_no
    (try simp only [Txt.pick, List.getElem?_cons_succ, List.getElem?_cons_zero])
    go_wp2_with fail
    refine (rsend_any 3 17 m.a0 _).mono ?_
    rintro e w2 ⟨rfl, hb⟩
    simp only [encE, reply, timer, send]
    have HX_w2 := Lib.hid ((hb.block X (by omega)).trans HX_y0.out)
    have HM_w2 := Lib.hid ((hb.block M (by omega)).trans HM_y0.out)
    have HR_w2 := Lib.hid ((hb.block R (by omega)).trans HR_y0.out)
    have Hb_w2 := Lib.hid (Hb_y0.out.trans (hb.mono (by omega)))
    have hz_w2 : N3 ≤ w2.heap.size := Nat.le_trans hz_y0 hb.size
    have HS2 := Lib.hid (same_below' HS0.out hb)
    have HV2 := Lib.hid (Raw.below (Raw.fresh H0.out (fun f hf => .inr (by rw [List.mem_singleton.1 hf]; exact hwR))) Hb_w2.out)
    clear cX m0 m1 m2 m4 m5 m7
    clear hb
    go_wp2
    refine Txt.SegPost.mk (Txt.Ty.Shown.same HS2.out) ?_
    (try simp only [Txt.pick, List.getElem?_cons_succ, List.getElem?_cons_zero])
    go_wp2
    refine Txt.RunPost.mk ?_
    refine Txt.Ty.wpTr_alt ?_ (Txt.Ty.wpTr_alt ?_ Txt.Ty.wpTr_no)
    · have hal := (Below.refl w2.heap.size w2).alloc (Nat.le_refl _) (.cells (encE (send 3 17 m.a0)).toArray 62)
      have HRa := Lib.hid ((hal.block R (by omega)).trans HR_w2.out)
      have Hba := Lib.hid (Hb_w2.out.trans (hal.mono (by omega)))
      have HVa := Lib.hid (Raw.below HV2.out hal)
      have HEa := Lib.hid (box1F (F := [R]) w2.heap.size (send 3 17 m.a0) (heap_alloc_new w2 (.cells (encE (send 3 17 m.a0)).toArray 62)) (by simp; omega))
      have FIN := Lib.hid (fin_set Hba.out hwR HRa.out HVa.out HEa.out)
      have rR := box_at HRa.out (j := 0) rfl
      have rF := box_free HRa.out 0
      simp only [encE, reply, timer, send, List.cons_append, List.nil_append] at rR rF
      have HSa := Lib.hid (same_below' HS2.out hal)
      have HSb := Lib.hid (same_keep HSa.out ((Keep.refl [R] _).setCell (p := ⟨R, 0, none⟩) (by simp) (.slice va l.length vc)) (fun q hq => by rw [List.mem_singleton.1 hq]; simp; omega))
      clear hal
      (try simp only [Txt.pick, List.getElem?_cons_succ, List.getElem?_cons_zero])
      go_wp2
      refine Txt.SegPost.mk (Txt.Ty.Shown.same HSa.out) ?_
      (try simp only [Txt.pick, List.getElem?_cons_succ, List.getElem?_cons_zero])
      go_wp2
      refine Txt.RunPost.mk ?_
      refine Txt.Ty.wpTr_alt ?_ Txt.Ty.wpTr_no
      (try simp only [Txt.pick, List.getElem?_cons_succ, List.getElem?_cons_zero])
      go_wp2
      refine Txt.SegPost.mk (Txt.Ty.Shown.same HSb.out) ?_
      (try simp only [Txt.pick, List.getElem?_cons_succ, List.getElem?_cons_zero])
      go_wp2
      refine Txt.RunPost.mk ?_
      refine Txt.Ty.wpTr_done (by rfl) ⟨.head _, trivial⟩ ?_
      go_wp2
      refine bodyPost_ret (results_ctt rfl _ _ _ _ _ _ _ rfl FIN.out.1 Try.underlying24 rfl (by kernel_rfl)) rfl ?_
      rw [Hr.out]
      exact ⟨FIN.out.2.2.2, _, _, rfl, FIN.out.2.1, FIN.out.2.2.1⟩
    · have FB := fin_set (es := []) Hb_w2.out hwR HR_w2.out HV2.out (Raw.empty [R] 15 _)
      have hszB : (w2.setCell ⟨R, 0, none⟩ (.slice va l.length vc)).heap.size = w2.heap.size := by simp
      have hal := (Below.refl (w2.setCell ⟨R, 0, none⟩ (.slice va l.length vc)).heap.size (w2.setCell ⟨R, 0, none⟩ (.slice va l.length vc))).alloc (Nat.le_refl _) (.cells (encE (send 3 17 m.a0)).toArray 62)
      have hEB : ((w2.setCell ⟨R, 0, none⟩ (.slice va l.length vc)).alloc (.cells (encE (send 3 17 m.a0)).toArray 62)).heap[w2.heap.size]? = some (.cells (encE (send 3 17 m.a0)).toArray 62 (0, 0)) := by rw [← hszB]; exact heap_alloc_new _ _
      have FIN : Hid (((w2.setCell ⟨R, 0, none⟩ (.slice va l.length vc)).alloc (.cells (encE (send 3 17 m.a0)).toArray 62)).heap[R]? = some (.cells #[(.slice va l.length vc)] 24 (0, 0)) ∧ SlT ((w2.setCell ⟨R, 0, none⟩ (.slice va l.length vc)).alloc (.cells (encE (send 3 17 m.a0)).toArray 62)) (.slice va l.length vc) _ ∧ SlE ((w2.setCell ⟨R, 0, none⟩ (.slice va l.length vc)).alloc (.cells (encE (send 3 17 m.a0)).toArray 62)) (.slice (some ⟨w2.heap.size, 0, none⟩) 1 1) [send 3 17 m.a0] ∧ Below w.heap.size w ((w2.setCell ⟨R, 0, none⟩ (.slice va l.length vc)).alloc (.cells (encE (send 3 17 m.a0)).toArray 62))) :=
        Lib.hid ⟨(hal.block R (by rw [hszB]; omega)).trans FB.1, SlT.below FB.2.1 hal, box1 _ _ hEB, FB.2.2.2.trans (hal.mono (by rw [hszB]; omega))⟩
      have rR := box_at HR_w2.out (j := 0) rfl
      have rF := box_free HR_w2.out 0
      have HSa := Lib.hid (same_keep HS2.out ((Keep.refl [R] _).setCell (p := ⟨R, 0, none⟩) (by simp) (.slice va l.length vc)) (fun q hq => by rw [List.mem_singleton.1 hq]; simp; omega))
      have HSb := Lib.hid (same_below' HSa.out hal)
      clear FB hszB hal hEB
      (try simp only [Txt.pick, List.getElem?_cons_succ, List.getElem?_cons_zero])
      go_wp2
      refine Txt.SegPost.mk (Txt.Ty.Shown.same HSa.out) ?_
      (try simp only [Txt.pick, List.getElem?_cons_succ, List.getElem?_cons_zero])
      go_wp2
      refine Txt.RunPost.mk ?_
      refine Txt.Ty.wpTr_alt ?_ Txt.Ty.wpTr_no
      (try simp only [Txt.pick, List.getElem?_cons_succ, List.getElem?_cons_zero])
      go_wp2
      refine Txt.SegPost.mk (Txt.Ty.Shown.same HSb.out) ?_
      (try simp only [Txt.pick, List.getElem?_cons_succ, List.getElem?_cons_zero])
      go_wp2
      refine Txt.RunPost.mk ?_
      refine Txt.Ty.wpTr_done (by rfl) ⟨.head _, trivial⟩ ?_
      go_wp2
      refine bodyPost_ret (results_ctt rfl _ _ _ _ _ _ _ rfl FIN.out.1 Try.underlying24 rfl (by kernel_rfl)) rfl ?_
      rw [Hr.out]
      exact ⟨FIN.out.2.2.2, _, _, rfl, FIN.out.2.1, FIN.out.2.2.1⟩
  · have hnm : m.a0 ∈ l := by simpa using hm
    have Hr : Hid (takeT l m = some (setR l m.a0 false, [timer (-1) m.a0, send 3 17 m.a0])) := Lib.hid (by rw [HTk.out, if_neg (by omega), if_neg (by omega), if_neg (by omega), if_pos ⟨hk, hs0, hu⟩, if_pos hnm, set_del Hv.out hu]; rfl)
    clear hnm
    go_wp2_with fail
    refine (ruser_is m.a0 true _ hu).mono ?_
    rintro e w1 ⟨rfl, rfl⟩
    go_wp2_with fail
    refine (rsleeps_is _ l m.a0 true _ (by omega) (H0.out.below Hb_W.out) hm).mono ?_
    rintro e w1 ⟨rfl, hb⟩
    have HX_w1 := Lib.hid ((hb.block X (by omega)).trans HX_W.out)
    have HM_w1 := Lib.hid ((hb.block M (by omega)).trans HM_W.out)
    have HR_w1 := Lib.hid ((hb.block R (by omega)).trans HR_W.out)
    have Hb_w1 := Lib.hid (Hb_W.out.trans (hb.mono (by omega)))
    have hz_w1 : N3 ≤ w1.heap.size := Nat.le_trans hz_W hb.size
    clear cX m0 m1 m2 m4 m5 m7
    have cX := box_at HX_w1.out (j := 0) rfl
    have m0 := box_at HM_w1.out (j := 0) rfl
    have m1 := box_at HM_w1.out (j := 1) rfl
    have m2 := box_at HM_w1.out (j := 2) rfl
    have m4 := box_at HM_w1.out (j := 4) rfl
    have m5 := box_at HM_w1.out (j := 5) rfl
    have m7 := box_at HM_w1.out (j := 7) rfl
    rw [hdst] at m1
    rw [hk] at m2
    rw [hs0] at m0
    clear hb
    clear hu hm
    go_wp2_with fail
    refine (set_any _ l m.a0 false _ (by omega) (H0.out.below Hb_w1.out)).mono ?_
    rintro e w4 ⟨v4, rfl, hrow4, hb⟩
    have HX_w4 := Lib.hid ((hb.block X (by omega)).trans HX_w1.out)
    have HM_w4 := Lib.hid ((hb.block M (by omega)).trans HM_w1.out)
    have HR_w4 := Lib.hid ((hb.block R (by omega)).trans HR_w1.out)
    have Hb_w4 := Lib.hid (Hb_w1.out.trans (hb.mono (by omega)))
    have hz_w4 : N3 ≤ w4.heap.size := Nat.le_trans hz_w1 hb.size
    have HV4 := Lib.hid (Raw.of_own (F := [R]) hrow4 (encT_one _) (fun f hf => by rw [List.mem_singleton.1 hf]; omega))
    obtain ⟨L4, hL4⟩ : ∃ L, L = (setR l m.a0 false).length := ⟨_, rfl⟩
    have HL4 := Lib.hid hL4
    rw [← hL4] at hrow4
    obtain ⟨a4, c4, rfl⟩ := own_slice hrow4
    clear cX m0 m1 m2 m4 m5 m7
    clear hb hrow4 hL4
    go_wp2_with fail
    refine (rtimer_any (-1) m.a0 _).mono ?_
    rintro e w5 ⟨rfl, hb⟩
    simp only [encE, reply, timer, send]
    have HX_w5 := Lib.hid ((hb.block X (by omega)).trans HX_w4.out)
    have HM_w5 := Lib.hid ((hb.block M (by omega)).trans HM_w4.out)
    have HR_w5 := Lib.hid ((hb.block R (by omega)).trans HR_w4.out)
    have Hb_w5 := Lib.hid (Hb_w4.out.trans (hb.mono (by omega)))
    have hz_w5 : N3 ≤ w5.heap.size := Nat.le_trans hz_w4 hb.size
    have HV5 := Lib.hid (Raw.below HV4.out hb)
    clear hb
    go_wp2_with fail
    refine (rsend_any 3 17 m.a0 _).mono ?_
    rintro e w2 ⟨rfl, hb⟩
    simp only [encE, reply, timer, send]
    have HX_w2 := Lib.hid ((hb.block X (by omega)).trans HX_w5.out)
    have HM_w2 := Lib.hid ((hb.block M (by omega)).trans HM_w5.out)
    have HR_w2 := Lib.hid ((hb.block R (by omega)).trans HR_w5.out)
    have Hb_w2 := Lib.hid (Hb_w5.out.trans (hb.mono (by omega)))
    have hz_w2 : N3 ≤ w2.heap.size := Nat.le_trans hz_w5 hb.size
    have HV2 := Lib.hid (Raw.below HV5.out hb)
    clear hb
    have hal := (Below.refl w2.heap.size w2).alloc (Nat.le_refl _) (.cells (encE (timer (-1) m.a0) ++ encE (send 3 17 m.a0)).toArray 62)
    have HRa := Lib.hid ((hal.block R (by omega)).trans HR_w2.out)
    have Hba := Lib.hid (Hb_w2.out.trans (hal.mono (by omega)))
    have HVa := Lib.hid (Raw.below HV2.out hal)
    have HEa := Lib.hid (box2F (F := [R]) w2.heap.size (timer (-1) m.a0) (send 3 17 m.a0) (heap_alloc_new w2 (.cells (encE (timer (-1) m.a0) ++ encE (send 3 17 m.a0)).toArray 62)) (by simp; omega))
    have FIN := Lib.hid (fin_set (es := [timer (-1) m.a0, send 3 17 m.a0]) Hba.out hwR HRa.out HVa.out HEa.out)
    have rR := box_at HRa.out (j := 0) rfl
    have rF := box_free HRa.out 0
    simp only [encE, reply, timer, send, List.cons_append, List.nil_append] at rR rF
    clear hal
    go_wp2
    refine bodyPost_ret (results_ctt rfl _ _ _ _ _ _ _ rfl FIN.out.1 Try.underlying24 rfl (by kernel_rfl)) rfl ?_
    rw [Hr.out]
    exact ⟨FIN.out.2.2.2, _, _, rfl, FIN.out.2.1, FIN.out.2.2.1⟩
set_option maxRecDepth 100000 in
set_option maxHeartbeats 8000000 in
theorem next_other (v dv : Value) (l : List Int) (m : Ms) (w : World) (hl : l.length ≤ 900) (h : SlT w v l) (hv : validT l = true) (hd : ∃ a n c, dv = .slice a n c) (hdst : m.dst = 10) (h6 : m.kind ≠ 6) (h1 : m.kind ≠ 1) (h4 : m.kind ≠ 4) (h16 : m.kind ≠ 16) :
    Calls Try.prog 28 #[.agg #[v], .agg (msgC m dv)] w (RetN (takeT l m) w) := by
  obtain ⟨da, dn, dc, rfl⟩ := hd
  obtain ⟨va, vc, rfl⟩ := Raw.slice h
  obtain ⟨W, hW⟩ : ∃ W, W = ((w.alloc (.cells #[.slice va l.length vc] 24)).alloc (.cells (msgC m (.slice da dn dc)) 28)).alloc (.cells #[.slice none 0 0] 24) := ⟨_, rfl⟩
  have hb : Below w.heap.size w W := by rw [hW]; exact (((Below.refl w.heap.size w).alloc (Nat.le_refl _) _).alloc (by simp) _).alloc (by simp; omega) _
  have hws : W.heap.size = w.heap.size + 3 := by rw [hW]; simp
  have hx : W.heap[w.heap.size]? = some (.cells #[.slice va l.length vc] 24 (0, 0)) := by
    rw [hW]
    have h1 := heap_alloc_new w (.cells #[.slice va l.length vc] 24)
    have h2 := (Below.heap_alloc (w.alloc (.cells #[.slice va l.length vc] 24)) (.cells (msgC m (.slice da dn dc)) 28) w.heap.size (by simp)).trans h1
    exact (Below.heap_alloc _ (.cells #[.slice none 0 0] 24) w.heap.size (by simp; omega)).trans h2
  have hr : W.heap[w.heap.size + 1]? = some (.cells (msgC m (.slice da dn dc)) 28 (0, 0)) := by
    rw [hW]
    have h1 := heap_alloc_new (w.alloc (.cells #[.slice va l.length vc] 24)) (.cells (msgC m (.slice da dn dc)) 28)
    simp only [World.size_alloc] at h1
    exact (Below.heap_alloc _ (.cells #[.slice none 0 0] 24) (w.heap.size + 1) (by simp)).trans h1
  have hB : W.heap[w.heap.size + 2]? = some (.cells #[.slice none 0 0] 24 (0, 0)) := by
    rw [hW]
    have h1 := heap_alloc_new ((w.alloc (.cells #[.slice va l.length vc] 24)).alloc (.cells (msgC m (.slice da dn dc)) 28)) (.cells #[.slice none 0 0] 24)
    simp only [World.size_alloc] at h1
    exact h1
  obtain ⟨X, hX⟩ : ∃ X, X = w.heap.size := ⟨_, rfl⟩
  obtain ⟨M, hM⟩ : ∃ M, M = w.heap.size + 1 := ⟨_, rfl⟩
  obtain ⟨R, hR⟩ : ∃ R, R = w.heap.size + 2 := ⟨_, rfl⟩
  rw [← hX] at hx
  rw [← hM] at hr
  rw [← hR] at hB
  have H0 := Lib.hid h; have HX_W := Lib.hid hx; have HM_W := Lib.hid hr; have HR_W := Lib.hid hB; have Hb_W := Lib.hid hb
  obtain ⟨N3, hN3⟩ : ∃ N3, N3 = W.heap.size := ⟨_, rfl⟩
  have hXN : X < N3 := by omega
  have hMN : M < N3 := by omega
  have hRN : R < N3 := by omega
  have hXR : X < R := by omega
  have hMR : M < R := by omega
  have hwR : w.heap.size ≤ R := by omega
  have hwN : w.heap.size ≤ N3 := by omega
  have hz_W : N3 ≤ W.heap.size := by omega
  have HXe := Lib.hid hX; have HWe := Lib.hid hW
  have hM2 : M = X + 1 := by omega
  have hR2 : R = X + 1 + 1 := by omega
  have HM2 := Lib.hid hM2; have HR2 := Lib.hid hR2
  have Hv := Lib.hid hv
  clear h hx hb hr hB hX hM hR hW hws hM2 hR2 hN3 hv
  unfold msgC at HM_W HWe
  unfold msgC
  have Q_hdst := Lib.hid hdst
  have Q_h6 := Lib.hid h6
  have Q_h1 := Lib.hid h1
  have Q_h4 := Lib.hid h4
  have Q_h16 := Lib.hid h16
  clear hdst h6 h1 h4 h16
  go_enter Try.func28, Try.ntmps28
  go_upto_region 1 with (fail)
  rw [← HWe.out, ← HXe.out, ← HR2.out, ← HM2.out]
  clear HWe HXe HM2 HR2
  have hdst := Q_hdst.out
  have h6 := Q_h6.out
  have h1 := Q_h1.out
  have h4 := Q_h4.out
  have h16 := Q_h16.out
  have HTk : Hid (takeT l m = (if m.kind = 6 ∧ m.src = 1 then some (l, [send 1 7 m.a0])
    else if m.kind = 1 then sysT l m
    else if m.kind = 4 ∧ m.src = 0 ∧ usr m.a0 = true then some (delT l m.a0, if m.a0 ∈ l then [reply m.a0 0] else [])
    else if m.kind = 16 ∧ m.src = 3 ∧ usr m.a0 = true then some (delT l m.a0, (if m.a0 ∈ l then [timer (-1) m.a0] else []) ++ [send 3 17 m.a0])
    else none)) := Lib.hid (by unfold takeT; rw [if_neg (by simp [hdst])])
  have cX := box_at HX_W.out (j := 0) rfl
  have m0 := box_at HM_W.out (j := 0) rfl
  have m1 := box_at HM_W.out (j := 1) rfl
  have m2 := box_at HM_W.out (j := 2) rfl
  have m4 := box_at HM_W.out (j := 4) rfl
  have m5 := box_at HM_W.out (j := 5) rfl
  have m7 := box_at HM_W.out (j := 7) rfl
  rw [hdst] at m1
  have Hr : Hid (takeT l m = none) := Lib.hid (by rw [HTk.out, if_neg (by omega), if_neg (by omega), if_neg (by omega), if_neg (by omega)])
  have FIN := Lib.hid (fin_set (es := []) Hb_W.out hwR HR_W.out (Raw.below (Raw.fresh H0.out (fun f hf => .inr (by rw [List.mem_singleton.1 hf]; exact hwR))) Hb_W.out) (Raw.empty [R] 15 _))
  have rR := box_at HR_W.out (j := 0) rfl
  have rF := box_free HR_W.out 0
  go_wp2
  refine bodyPost_ret (results_ctt rfl _ _ _ _ _ _ _ rfl FIN.out.1 Try.underlying24 rfl (by kernel_rfl)) rfl ?_
  rw [Hr.out]
  exact ⟨FIN.out.2.2.2, _, _, _, rfl⟩
theorem next_any (v dv : Value) (l : List Int) (m : Ms) (w : World) (hl : l.length ≤ 900) (h : SlT w v l) (hv : validT l = true) (hd : ∃ a n c, dv = .slice a n c) :
    Calls Try.prog 28 #[.agg #[v], .agg (msgC m dv)] w (RetN (takeT l m) w) := by
  by_cases hdst : m.dst = 10
  rotate_left
  · exact next_dst v dv l m w hl h hv hd hdst
  by_cases h6 : m.kind = 6
  · exact next_ping v dv l m w hl h hv hd hdst h6
  by_cases h1 : m.kind = 1
  · exact next_sys v dv l m w hl h hv hd hdst h1
  by_cases h4 : m.kind = 4
  · exact next_alarm v dv l m w hl h hv hd hdst h4
  by_cases h16 : m.kind = 16
  · exact next_free v dv l m w hl h hv hd hdst h16
  exact next_other v dv l m w hl h hv hd hdst h6 h1 h4 h16
end Go.Proofs.Ytdelemmoiaiooaa
