/- Undo: note, Write -/
import Derived.Test.YtnbngidelpodkaaUi
namespace Go.Proofs.Ytnbngidelpodkaa
open Go.RowKit Go.Bs Go.Cl Go.Rw Go.Un

set_option maxRecDepth 100000 in
set_option maxHeartbeats 1000000 in
theorem note_any {base g : Nat} {iv rv : Value} {img : List UInt8} {rs : List (Rec × Value)} {o : Bool} (f t : Nat) (w : World) (h : LogAt w base g iv rv img rs o) (hft : f ≤ t) (ht : t ≤ img.length) (hil : img.length ≤ 24000) (hrl : rs.length ≤ 1000) (hbase : base ≤ w.heap.size) :
    Calls Try.prog 53 #[.pointer (some ⟨g, 0, none⟩), .int .i64 f, .int .i64 t] w fun e w' => (∃ v, e = .returned v) ∧ ∃ rv' qv, LogAt w' base g iv rv' img (rs ++ [(⟨f, img.length, (img.take t).drop f⟩, qv)]) o ∧ Keep (g :: rv.ownBlock.toList) w w' ∧ (∀ k, rv'.ownBlock = some k → rv.ownBlock = some k ∨ w.heap.size ≤ k) ∧ ∀ X : List Nat, (∀ f ∈ X, f < w.heap.size) → Bytes X w' qv ((img.take t).drop f) := by
  obtain ⟨ia, ic, rfl⟩ := own_slice h.hi
  obtain ⟨ra, rc, rfl⟩ := h.hr.slice
  have c0 : w.cell? ⟨g, 0, none⟩ = some (.slice ia img.length ic) := box_at h.hc rfl
  have c1 : w.cell? ⟨g, 1, none⟩ = some (.slice ra rs.length rc) := box_at h.hc rfl
  have hlt := h.lt
  have hS : ∀ b ∈ [g], ∃ c e f, w.heap[b]? = some (.cells c e f) := fun b hb => by rw [List.mem_singleton.1 hb]; exact ⟨_, _, _, h.hc⟩
  have hBi : Bytes [] w (.slice ia img.length ic) img := Bytes.row h.hi rfl (fun f hf => by cases hf)
  have hic : img.length ≤ ic := by obtain ⟨_, _, a', c', hv, g3, _⟩ := hBi; cases hv; exact g3
  have hicm : ic ≤ maxLen := by obtain ⟨_, _, a', c', hv, g3, g4, _⟩ := hBi; cases hv; exact g4
  have htic : t ≤ ic := by omega
  have hpl : ((img.take t).drop f).length = t - f := by simp; omega
  obtain ⟨part, hpart⟩ : ∃ p, p = (img.take t).drop f := ⟨_, rfl⟩
  have Hsub := Lib.hid (Bytes.sub hBi hft ht)
  rw [← hpart] at Hsub hpl ⊢
  have Hpl := Lib.hid hpl; clear hpl hpart
  have HBi := Lib.hid hBi; clear hBi
  have H := Lib.hid h; clear h
  rcases Decidable.em (f = ic) with rfl | hcf
  · obtain rfl : f = t := by omega
    obtain rfl : part = [] := List.eq_nil_of_length_eq_zero (by rw [Hpl.out]; omega)
    have Hpl : Hid (([] : List UInt8).length = 0) := Lib.hid rfl
    clear Hsub
    go_enter Try.func53, Try.ntmps53
    go_wp2
    refine Txt.wp_cut [19, 2, 1] [g] [4, 9] [24] (by kernel_rfl) (by kernel_rfl) (by kernel_rfl) hS ?_
    simp only [Txt.wpCut, List.take_succ_cons, List.take_zero, List.drop_succ_cons, List.drop_zero]
    go_wp2_with fail
    refine (clone33 (F := []) (n := 0) (xs := bytesV []) _ (by omega) ?hp).mono ?_
    case hp =>
      exact Raw.zero' [] 1 _ _ _ _ rfl (Nat.zero_le _)
    rintro e w1 ⟨v1, rfl, hown1, hb1⟩
    obtain ⟨a1, c1', rfl⟩ := own_slice hown1
    have HS1 := Lib.hid (same_below (same_start hS) hb1 (fun b hb => by rw [List.mem_singleton.1 hb]; exact hlt))
    have hb1 : Below w.heap.size w w1 := (Below.refl w.heap.size w).drew.trans hb1
    have Hown1 : Hid (w1.ownsRow w.heap.size 5 1 (.slice a1 0 c1') 0 (bytesV [])) := Lib.hid hown1
    clear hown1
    have H1 := Lib.hid (LogAt.below H.out hb1)
    have hs1 := hb1.size
    go_wp2
    refine Txt.SegPost.mk HS1.out ?_
    have c0 : w1.cell? ⟨g, 0, none⟩ = some _ := (hb1.cell (p := ⟨g, 0, none⟩) hlt).trans c0
    have c1 : w1.cell? ⟨g, 1, none⟩ = some _ := (hb1.cell (p := ⟨g, 1, none⟩) hlt).trans c1
    go_wp2
    obtain ⟨q, hq⟩ : ∃ q : Rec × Value, q = (⟨f, img.length, []⟩, .slice a1 0 c1') := ⟨_, rfl⟩
    have Hq := Lib.hid hq; clear hq
    have HQ1 : Hid (∀ X : List Nat, (∀ f ∈ X, f < w.heap.size) → Bytes X w1 q.2 q.1.old) := Lib.hid (by
      rw [Hq.out]
      exact fun X hX => Bytes.row Hown1.out Hpl.out.symm hX)
    have hal := (Below.refl w1.heap.size w1).alloc (Nat.le_refl _) (.cells #[.int .i64 f, .int .i64 img.length, .slice a1 0 c1'] 95)
    have HS2 := Lib.hid (same_below HS1.out hal (fun b hb => by rw [List.mem_singleton.1 hb]; omega))
    refine Txt.SegPost.mk HS2.out ?_
    refine wpList_gen (fun z => Below w1.heap.size w1 z ∧ w1.heap.size < z.heap.size ∧ Txt.SameB [g] w.drew z ∧ z.heap[w1.heap.size]? = some (.cells #[.int .i64 f, .int .i64 img.length, .slice a1 0 c1'] 95 (0, 0))) ⟨hal, by simp, HS2.out, heap_alloc_new w1 _⟩ ?_
    clear hal HS2
    rintro w2 ⟨hb2, hs2, hS2, hx2⟩
    have HS2 := Lib.hid hS2; clear hS2
    have H2 := Lib.hid (LogAt.below H1.out hb2)
    have HQ2 : Hid (∀ X : List Nat, (∀ f ∈ X, f < w.heap.size) → Bytes X w2 q.2 q.1.old) := Lib.hid fun X hX => Raw.below (HQ1.out X hX) hb2
    have Hx2 := Lib.hid (show Raw [] 3 w2 (.slice (some ⟨w1.heap.size, 0, none⟩) 1 1) 1 (encR q) from Raw.of_block (ys := encR q) (by rw [Hq.out]; exact hx2) (by intro h; cases h) (by intro u hu; rw [Hq.out] at hu; simp [encR] at hu; rcases hu with rfl | rfl | rfl <;> rfl) rfl (Nat.le_refl _) (by unfold maxLen; omega))
    clear hx2
    have hlt2 : g < w2.heap.size := by omega
    go_wp2_with (at_builtin; refine wpList_append_rowF el29 Try.underlying85 (LogAt.hr H2.out) Hx2.out rfl _ _ rfl rfl rfl ?hm ?c3 ?c5 ?_)
    case hm => exact Nat.zero_lt_one
    case c3 => omega
    case c5 => omega
    intro v3 w3 hown3 hk3 hF3
    obtain ⟨a3, c3, rfl⟩ := own_slice hown3
    have hgn : g ∉ (Value.ownBlock (.slice ra rs.length rc)).toList := fun hm => H2.out.gr (by simpa using hm)
    have hgb := hk3.block g hlt2 hgn
    have hS3 : Txt.SameB [g] w.drew w3 := fun b hb => by
      obtain ⟨⟨c, e', f', h1⟩, h2⟩ := HS2.out b hb
      have e : w3.heap[b]? = w2.heap[b]? := by rw [List.mem_singleton.1 hb]; exact hgb
      exact ⟨⟨c, e', f', e.trans h1⟩, e.trans h2⟩
    refine Txt.SegPost.mk hS3 ?_
    have hc3 := hgb.trans H2.out.hc
    have c1 : w3.cell? ⟨g, 1, none⟩ = some (.slice ra rs.length rc) := box_at hc3 rfl
    have f1 := box_free hc3 1
    have hfin := LogAt.push H2.out hk3 hown3 (by simpa using hF3) (HQ2.out _ fun f hf => (H.out.fbase f hf).2)
    have hqn : ∀ X : List Nat, (∀ f ∈ X, f < w.heap.size) → Bytes X (w3.setCell ⟨g, 1, none⟩ (.slice a3 (rs.length + 1) c3)) q.2 q.1.old := fun X hX =>
      Raw.keep (HQ2.out (X ++ (g :: (Value.ownBlock (.slice ra rs.length rc)).toList)) (fun f hf => by
        rcases List.mem_append.1 hf with hf | hf
        · exact hX f hf
        · refine (H.out.fbase f ?_).2
          rcases List.mem_cons.1 hf with rfl | hf
          · simp [LogF]
          · simp only [LogF, List.mem_cons, List.mem_append]; exact .inr (.inr hf))) hfin.2 (fun f hf => .inl (List.mem_append_right _ hf)) (fun f hf => .inl (List.mem_append_left _ hf))
    have hkw : Keep (g :: (Value.ownBlock (.slice ra rs.length rc)).toList) w (w3.setCell ⟨g, 1, none⟩ (.slice a3 (rs.length + 1) c3)) := (Keep.of_below' (hb1.trans (hb2.mono hs1))).trans hfin.2 (fun f hf => .inl hf)
    have Hfin : Hid (∃ rv' qv, LogAt (w3.setCell ⟨g, 1, none⟩ (.slice a3 (rs.length + 1) c3)) base g (.slice ia img.length _) rv' img (rs ++ [(⟨f, img.length, []⟩, qv)]) o ∧ Keep (g :: (Value.ownBlock (.slice ra rs.length rc)).toList) w (w3.setCell ⟨g, 1, none⟩ (.slice a3 (rs.length + 1) c3)) ∧ (∀ k, rv'.ownBlock = some k → (Value.ownBlock (.slice ra rs.length rc)) = some k ∨ w.heap.size ≤ k) ∧ ∀ X : List Nat, (∀ f ∈ X, f < w.heap.size) → Bytes X (w3.setCell ⟨g, 1, none⟩ (.slice a3 (rs.length + 1) c3)) qv []) := Lib.hid ⟨_, _, by rw [Hq.out] at hfin; exact hfin.1, hkw, fun k hk => by
      rcases hF3 k hk with h | h
      · exact .inl h
      · exact .inr (by omega), by rw [Hq.out] at hqn; exact hqn⟩
    clear hfin hqn hkw hown3 hk3 hF3 hS3 hgb hc3 hgn
    go_wp2
    refine Txt.DrawPost.mk (by rfl) ⟨.head _, .head _, trivial⟩ ?_
    go_end0
    exact ⟨⟨_, rfl⟩, Hfin.out⟩
  · have hcf' : ¬ ic = f := fun e => hcf e.symm
    go_enter Try.func53, Try.ntmps53
    go_wp2
    refine Txt.wp_cut [19, 2, 1] [g] [4, 9] [24] (by kernel_rfl) (by kernel_rfl) (by kernel_rfl) hS ?_
    simp only [Txt.wpCut, List.take_succ_cons, List.take_zero, List.drop_succ_cons, List.drop_zero]
    go_wp2_with fail
    refine (clone33 (F := []) (n := t - f) (xs := bytesV part) _ (by omega) ?hp).mono ?_
    case hp =>
      exact Raw.drew Hsub.out
    rintro e w1 ⟨v1, rfl, hown1, hb1⟩
    obtain ⟨a1, c1', rfl⟩ := own_slice hown1
    have HS1 := Lib.hid (same_below (same_start hS) hb1 (fun b hb => by rw [List.mem_singleton.1 hb]; exact hlt))
    have hb1 : Below w.heap.size w w1 := (Below.refl w.heap.size w).drew.trans hb1
    have Hown1 : Hid (w1.ownsRow w.heap.size 5 1 (.slice a1 (t - f) c1') (t - f) (bytesV part)) := Lib.hid hown1
    clear hown1
    have H1 := Lib.hid (LogAt.below H.out hb1)
    have hs1 := hb1.size
    go_wp2
    refine Txt.SegPost.mk HS1.out ?_
    have c0 : w1.cell? ⟨g, 0, none⟩ = some _ := (hb1.cell (p := ⟨g, 0, none⟩) hlt).trans c0
    have c1 : w1.cell? ⟨g, 1, none⟩ = some _ := (hb1.cell (p := ⟨g, 1, none⟩) hlt).trans c1
    go_wp2
    obtain ⟨q, hq⟩ : ∃ q : Rec × Value, q = (⟨f, img.length, part⟩, .slice a1 (t - f) c1') := ⟨_, rfl⟩
    have Hq := Lib.hid hq; clear hq
    have HQ1 : Hid (∀ X : List Nat, (∀ f ∈ X, f < w.heap.size) → Bytes X w1 q.2 q.1.old) := Lib.hid (by
      rw [Hq.out]
      exact fun X hX => Bytes.row Hown1.out Hpl.out.symm hX)
    have hal := (Below.refl w1.heap.size w1).alloc (Nat.le_refl _) (.cells #[.int .i64 f, .int .i64 img.length, .slice a1 (t - f) c1'] 95)
    have HS2 := Lib.hid (same_below HS1.out hal (fun b hb => by rw [List.mem_singleton.1 hb]; omega))
    refine Txt.SegPost.mk HS2.out ?_
    refine wpList_gen (fun z => Below w1.heap.size w1 z ∧ w1.heap.size < z.heap.size ∧ Txt.SameB [g] w.drew z ∧ z.heap[w1.heap.size]? = some (.cells #[.int .i64 f, .int .i64 img.length, .slice a1 (t - f) c1'] 95 (0, 0))) ⟨hal, by simp, HS2.out, heap_alloc_new w1 _⟩ ?_
    clear hal HS2
    rintro w2 ⟨hb2, hs2, hS2, hx2⟩
    have HS2 := Lib.hid hS2; clear hS2
    have H2 := Lib.hid (LogAt.below H1.out hb2)
    have HQ2 : Hid (∀ X : List Nat, (∀ f ∈ X, f < w.heap.size) → Bytes X w2 q.2 q.1.old) := Lib.hid fun X hX => Raw.below (HQ1.out X hX) hb2
    have Hx2 := Lib.hid (show Raw [] 3 w2 (.slice (some ⟨w1.heap.size, 0, none⟩) 1 1) 1 (encR q) from Raw.of_block (ys := encR q) (by rw [Hq.out]; exact hx2) (by intro h; cases h) (by intro u hu; rw [Hq.out] at hu; simp [encR] at hu; rcases hu with rfl | rfl | rfl <;> rfl) rfl (Nat.le_refl _) (by unfold maxLen; omega))
    clear hx2
    have hlt2 : g < w2.heap.size := by omega
    go_wp2_with (at_builtin; refine wpList_append_rowF el29 Try.underlying85 (LogAt.hr H2.out) Hx2.out rfl _ _ rfl rfl rfl ?hm ?c3 ?c5 ?_)
    case hm => exact Nat.zero_lt_one
    case c3 => omega
    case c5 => omega
    intro v3 w3 hown3 hk3 hF3
    obtain ⟨a3, c3, rfl⟩ := own_slice hown3
    have hgn : g ∉ (Value.ownBlock (.slice ra rs.length rc)).toList := fun hm => H2.out.gr (by simpa using hm)
    have hgb := hk3.block g hlt2 hgn
    have hS3 : Txt.SameB [g] w.drew w3 := fun b hb => by
      obtain ⟨⟨c, e', f', h1⟩, h2⟩ := HS2.out b hb
      have e : w3.heap[b]? = w2.heap[b]? := by rw [List.mem_singleton.1 hb]; exact hgb
      exact ⟨⟨c, e', f', e.trans h1⟩, e.trans h2⟩
    refine Txt.SegPost.mk hS3 ?_
    have hc3 := hgb.trans H2.out.hc
    have c1 : w3.cell? ⟨g, 1, none⟩ = some (.slice ra rs.length rc) := box_at hc3 rfl
    have f1 := box_free hc3 1
    have hfin := LogAt.push H2.out hk3 hown3 (by simpa using hF3) (HQ2.out _ fun f hf => (H.out.fbase f hf).2)
    have hqn : ∀ X : List Nat, (∀ f ∈ X, f < w.heap.size) → Bytes X (w3.setCell ⟨g, 1, none⟩ (.slice a3 (rs.length + 1) c3)) q.2 q.1.old := fun X hX =>
      Raw.keep (HQ2.out (X ++ (g :: (Value.ownBlock (.slice ra rs.length rc)).toList)) (fun f hf => by
        rcases List.mem_append.1 hf with hf | hf
        · exact hX f hf
        · refine (H.out.fbase f ?_).2
          rcases List.mem_cons.1 hf with rfl | hf
          · simp [LogF]
          · simp only [LogF, List.mem_cons, List.mem_append]; exact .inr (.inr hf))) hfin.2 (fun f hf => .inl (List.mem_append_right _ hf)) (fun f hf => .inl (List.mem_append_left _ hf))
    have hkw : Keep (g :: (Value.ownBlock (.slice ra rs.length rc)).toList) w (w3.setCell ⟨g, 1, none⟩ (.slice a3 (rs.length + 1) c3)) := (Keep.of_below' (hb1.trans (hb2.mono hs1))).trans hfin.2 (fun f hf => .inl hf)
    have Hfin : Hid (∃ rv' qv, LogAt (w3.setCell ⟨g, 1, none⟩ (.slice a3 (rs.length + 1) c3)) base g (.slice ia img.length _) rv' img (rs ++ [(⟨f, img.length, part⟩, qv)]) o ∧ Keep (g :: (Value.ownBlock (.slice ra rs.length rc)).toList) w (w3.setCell ⟨g, 1, none⟩ (.slice a3 (rs.length + 1) c3)) ∧ (∀ k, rv'.ownBlock = some k → (Value.ownBlock (.slice ra rs.length rc)) = some k ∨ w.heap.size ≤ k) ∧ ∀ X : List Nat, (∀ f ∈ X, f < w.heap.size) → Bytes X (w3.setCell ⟨g, 1, none⟩ (.slice a3 (rs.length + 1) c3)) qv part) := Lib.hid ⟨_, _, by rw [Hq.out] at hfin; exact hfin.1, hkw, fun k hk => by
      rcases hF3 k hk with h | h
      · exact .inl h
      · exact .inr (by omega), by rw [Hq.out] at hqn; exact hqn⟩
    clear hfin hqn hkw hown3 hk3 hF3 hS3 hgb hc3 hgn
    go_wp2
    refine Txt.DrawPost.mk (by rfl) ⟨.head _, .head _, trivial⟩ ?_
    go_end0
    exact ⟨⟨_, rfl⟩, Hfin.out⟩

/-- the image written in place -/
theorem LogAt.img {w w' : World} {base g : Nat} {iv rv : Value} {img img' : List UInt8} {rs : List (Rec × Value)} {o : Bool} (h : LogAt w base g iv rv img rs o) (hg : w.grownBy w' iv.ownBlock) (hown : w'.ownsRow base 5 1 iv img'.length (bytesV img')) :
    LogAt w' base g iv rv img' rs o ∧ Keep iv.ownBlock.toList w w' := by
  have hk : Keep iv.ownBlock.toList w w' := Keep.of_grown hg (fun k hk => .inl (by simp [hk]))
  have hgn : g ∉ iv.ownBlock.toList := fun hm => h.gi (by simpa using hm)
  refine ⟨⟨h.hg, (hk.block g h.lt hgn).trans h.hc, hown, h.hr.keep hk (fun r hr hm => h.ir (by simpa using hm) hr), fun p hp => (h.hb p hp).keep hk (fun f hf => .inl ?_) (fun f hf => .inl hf)⟩, hk⟩
  simp only [LogF, List.mem_cons, List.mem_append]; exact .inr (.inl hf)

def writeE (img : List UInt8) (off : Int) (b : List UInt8) (o : Bool) : Int := if o then (if off < 0 ∨ (img.length : Int) < off ∨ (img.length : Int) - off < b.length then 2 else 0) else 7

set_option maxHeartbeats 400000 in
theorem write_no {base g : Nat} {iv rv : Value} {img : List UInt8} {rs : List (Rec × Value)} {o : Bool} (bv : Value) (b : List UInt8) (off : Int) (w : World) (h : LogAt w base g iv rv img rs o) (hb : ∃ a c, bv = .slice a b.length c) (hbl : b.length ≤ 1000000) (hil : img.length ≤ 24000) (hoff : -9223372036854775808 ≤ off) (hoff2 : off ≤ 9223372036854775807)
    (hno : writeE img off b o ≠ 0) :
    Calls Try.prog 37 #[.pointer (some ⟨g, 0, none⟩), .int .i64 off, bv] w fun e w' => e = .returned (.int .i64 (writeE img off b o)) ∧ w = w' := by
  obtain ⟨ba, bc, rfl⟩ := hb
  obtain ⟨ia, ic, rfl⟩ := own_slice h.hi
  have c0 : w.cell? ⟨g, 0, none⟩ = some (.slice ia img.length ic) := box_at h.hc rfl
  have H := Lib.hid h; clear h
  cases o
  · go_enter Try.func37, Try.ntmps37
    go_wp2_with (go_at_call 52; refine (closed_any _ H.out).mono ?_; rintro e w' ⟨rfl, rfl⟩)
    go_ret
    exact ⟨rfl, rfl⟩
  · have hbad : off < 0 ∨ (img.length : Int) < off ∨ (img.length : Int) - off < b.length := by
      by_cases h : off < 0 ∨ (img.length : Int) < off ∨ (img.length : Int) - off < b.length
      · exact h
      · exact absurd (by simp [writeE, h]) hno
    have e2 : writeE img off b true = 2 := by simp [writeE, hbad]
    rw [e2]
    clear hno e2
    have Hbad := Lib.hid hbad; clear hbad
    go_enter Try.func37, Try.ntmps37
    go_wp2_with (go_at_call 52; refine (closed_any _ H.out).mono ?_; rintro e w' ⟨rfl, rfl⟩)
    all_goals first
      | (go_ret; exact ⟨rfl, rfl⟩)
      | (exfalso; have := Hbad.out; omega)

end Go.Proofs.Ytnbngidelpodkaa
