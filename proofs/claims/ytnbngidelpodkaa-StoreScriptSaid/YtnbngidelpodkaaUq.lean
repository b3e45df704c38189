/- Undo: Commit, Image, Resize -/
import Derived.Test.YtnbngidelpodkaaUk
import Derived.Test.YtnbngidelpodkaaUp
namespace Go.Un
open Go Go.RowKit Go.Bs Go.Cl Go.Rw
/-- another image, stored into the log -/
theorem LogAt.image {w w3 : World} {base g : Nat} {iv rv iv' : Value} {img img' : List UInt8} {rs : List (Rec × Value)} {o : Bool} (h : LogAt w base g iv rv img rs o) (hb : Below w.heap.size w w3) (hown : w3.ownsRow base 5 1 iv' img'.length (bytesV img'))
    (hnew : ∀ r, iv'.ownBlock = some r → iv.ownBlock = some r ∨ w.heap.size ≤ r) :
    LogAt (w3.setCell ⟨g, 0, none⟩ iv') base g iv' rv img' rs o ∧ Keep [g] w (w3.setCell ⟨g, 0, none⟩ iv') := by
  have hk3 : Keep [] w w3 := Keep.of_below' hb
  have hc3 : w3.heap[g]? = some (.cells #[iv, rv, .bool o] 87 (0, 0)) := (hb.block g h.lt).trans h.hc
  have hk4 : Keep [g] w3 (w3.setCell ⟨g, 0, none⟩ iv') := (Keep.refl [g] w3).setCell (by simp) _
  have hks : Keep [g] w (w3.setCell ⟨g, 0, none⟩ iv') := (hk3.mono (fun f hf => by cases hf)).trans hk4 (fun f hf => .inl hf)
  have hvg : iv'.ownBlock ≠ some g := fun e => by
    rcases hnew g e with h1 | h1
    · exact h.gi h1
    · have := h.lt; omega
  refine ⟨⟨h.hg, ?_, ?_, h.hr.keep hks (fun r hr hm => by rw [List.mem_singleton.1 hm] at hr; exact h.gr hr), fun p hp => ?_⟩, hks⟩
  · simp only [World.setCell, Array.getElem?_modify]
    simp [hc3]
  · refine ⟨hown.1, ?_⟩
    rcases hown.2 with h2 | ⟨g', cap, cur', hv', hb', hg', rest⟩
    · exact .inl h2
    · exact .inr ⟨g', cap, cur', hv', hb', (hk4.block g' (Array.getElem?_eq_some_iff.1 hg').1 (fun hm => by rw [List.mem_singleton.1 hm] at hv'; exact hvg (by rw [hv']; rfl))).trans hg', rest⟩
  · refine (h.hb p hp).keep hks (fun f hf => .inl ?_) (fun f hf => ?_)
    · simp [LogF, List.mem_singleton.1 hf]
    · simp only [LogF, List.mem_cons, List.mem_append] at hf ⊢
      rcases hf with hf | hf | hf
      · exact .inl (.inl hf)
      · rcases hnew f (by simpa using hf) with h1 | h1
        · exact .inl (.inr (.inl (by simpa using h1)))
        · exact .inr h1
      · exact .inl (.inr (.inr hf))
end Go.Un
namespace Go.Proofs.Ytnbngidelpodkaa
open Go.RowKit Go.Bs Go.Cl Go.Rw Go.Un

/-- what a call that changes a log leaves -/
def StepP (w : World) (base g : Nat) (iv rv : Value) (ts : List (Rec × Value)) (img' : List UInt8) (rs' : List Rec) (o' : Bool) (w' : World) : Prop :=
  ∃ iv' rv' rs, rs.map (·.1) = rs' ∧ LogAt w' base g iv' rv' img' rs o' ∧ Keep (LogF g iv rv) w w' ∧ (∀ f ∈ LogF g iv' rv', f ∈ LogF g iv rv ∨ w.heap.size ≤ f) ∧ Fr w ts w' rs
theorem StepP.same {w : World} {base g : Nat} {iv rv : Value} {img : List UInt8} {rs : List (Rec × Value)} {o : Bool} (h : LogAt w base g iv rv img rs o) : StepP w base g iv rv rs img (rs.map (·.1)) o w := ⟨iv, rv, rs, rfl, h, Keep.refl _ _, fun _ hf => .inl hf, Fr.refl _ _⟩

set_option maxHeartbeats 400000 in
theorem commit_any {base g : Nat} {iv rv : Value} {img : List UInt8} {rs : List (Rec × Value)} {o : Bool} (w : World) (h : LogAt w base g iv rv img rs o) :
    Calls Try.prog 39 #[.pointer (some ⟨g, 0, none⟩)] w fun e w' => e = .returned (.int .i64 (if o then 0 else 7)) ∧ StepP w base g iv rv rs img (if o then [] else rs.map (·.1)) false w' := by
  have c1 := box_at h.hc (j := 1) rfl
  have f1 := box_free h.hc 1
  have c2 := box_at h.hc (j := 2) rfl
  have f2 := box_free h.hc 2
  have H := Lib.hid h; clear h
  cases o
  · go_enter Try.func39, Try.ntmps39
    go_wp2_with (go_at_call 52; refine (closed_any _ H.out).mono ?_; rintro e w' ⟨rfl, rfl⟩)
    go_ret
    exact ⟨rfl, StepP.same H.out⟩
  · have h1 := H.out.recs (ts := []) (v3 := .slice none 0 0) (Keep.refl _ _) (.inl (World.ownsRow_nil _ _ _ _)) (fun f hf => by cases hf) (fun p hp => by cases hp)
    have h2 := LogAt.mark h1.1 false
    have hfin : StepP w base g iv rv rs img [] false ((w.setCell ⟨g, 1, none⟩ (.slice none 0 0)).setCell ⟨g, 2, none⟩ (.bool false)) :=
      ⟨iv, .slice none 0 0, [], rfl, h2.1, (h1.2.trans h2.2 (fun f hf => .inl (by simp [List.mem_singleton.1 hf]))).mono (fun f hf => .inl (by
        simp only [LogF, List.mem_cons, List.mem_append] at hf ⊢
        rcases hf with hf | hf
        · exact .inl hf
        · exact .inr (.inr hf))), fun f hf => .inl (by
        simp only [LogF, List.mem_cons, List.mem_append] at hf ⊢
        rcases hf with hf | hf | hf
        · exact .inl hf
        · exact .inr (.inl hf)
        · simp [Value.ownBlock] at hf), Fr.nil _ _ _⟩
    have Hfin := Lib.hid hfin
    clear hfin h1 h2
    go_enter Try.func39, Try.ntmps39
    go_wp2_with (go_at_call 52; refine (closed_any _ H.out).mono ?_; rintro e w' ⟨rfl, rfl⟩)
    go_ret
    exact ⟨rfl, Hfin.out⟩

set_option maxHeartbeats 400000 in
theorem image_any {base g : Nat} {iv rv : Value} {img : List UInt8} {rs : List (Rec × Value)} {o : Bool} (w : World) (h : LogAt w base g iv rv img rs o) (hil : img.length ≤ 24000) :
    Calls Try.prog 35 #[.pointer (some ⟨g, 0, none⟩)] w fun e w' => ∃ v, e = .returned v ∧ w'.ownsRow w.heap.size 5 1 v img.length (bytesV img) ∧ Below w.heap.size w w' := by
  obtain ⟨ia, ic, rfl⟩ := own_slice h.hi
  have c0 := box_at h.hc (j := 0) rfl
  have HB := Lib.hid (Bytes.row (F := []) h.hi rfl (fun f hf => by cases hf))
  clear h
  go_enter Try.func35, Try.ntmps35
  go_wp2_with fail
  refine (clone33 (n := img.length) (xs := bytesV img) _ (by omega) HB.out).mono ?_
  rintro e w1 ⟨v1, rfl, hown1, hb1⟩
  have Hown1 := Lib.hid hown1; clear hown1
  go_wp2
  go_ret
  exact ⟨_, rfl, Hown1.out, hb1⟩
theorem image_nil (w : World) : Calls Try.prog 35 #[.pointer none] w fun e w' => e = .returned (.slice none 0 0) ∧ w = w' := by
  go_enter Try.func35, Try.ntmps35
  go_wp2
  go_ret
  exact ⟨rfl, rfl⟩

def resizeE (n : Int) (o : Bool) : Int := if o then (if n < 0 then 2 else if 24000 < n then 6 else 0) else 7
set_option maxHeartbeats 400000 in
theorem resize_no {base g : Nat} {iv rv : Value} {img : List UInt8} {rs : List (Rec × Value)} {o : Bool} (n : Int) (w : World) (h : LogAt w base g iv rv img rs o) (hno : resizeE n o ≠ 0) :
    Calls Try.prog 36 #[.pointer (some ⟨g, 0, none⟩), .int .i64 n] w fun e w' => e = .returned (.int .i64 (resizeE n o)) ∧ w = w' := by
  have H := Lib.hid h; clear h
  cases o
  · go_enter Try.func36, Try.ntmps36
    go_wp2_with (go_at_call 52; refine (closed_any _ H.out).mono ?_; rintro e w' ⟨rfl, rfl⟩)
    go_ret
    exact ⟨rfl, rfl⟩
  · by_cases h1 : n < 0
    · have e2 : resizeE n true = 2 := by simp [resizeE, h1]
      rw [e2]
      clear hno e2
      go_enter Try.func36, Try.ntmps36
      go_wp2_with (go_at_call 52; refine (closed_any _ H.out).mono ?_; rintro e w' ⟨rfl, rfl⟩)
      go_ret
      exact ⟨rfl, rfl⟩
    · have h2 : 24000 < n := by
        by_cases h2 : 24000 < n
        · exact h2
        · exact absurd (by simp [resizeE, h1, h2]) hno
      have e2 : resizeE n true = 6 := by simp [resizeE, h1, h2]
      rw [e2]
      clear hno e2
      have h1' : 0 ≤ n := by omega
      go_enter Try.func36, Try.ntmps36
      go_wp2_with (go_at_call 52; refine (closed_any _ H.out).mono ?_; rintro e w' ⟨rfl, rfl⟩)
      go_ret
      exact ⟨rfl, rfl⟩

set_option maxRecDepth 100000 in
set_option maxHeartbeats 400000 in
theorem resize_yes {base g : Nat} {iv rv : Value} {img : List UInt8} {rs : List (Rec × Value)} (n : Nat) (w : World) (h : LogAt w base g iv rv img rs true) (hil : img.length ≤ 24000) (hrl : rs.length ≤ 1000) (hbase : base ≤ w.heap.size) (hn : n ≤ 24000) :
    Calls Try.prog 36 #[.pointer (some ⟨g, 0, none⟩), .int .i64 n] w fun e w' => e = .returned (.int .i64 0) ∧ StepP w base g iv rv rs (sized img n) (rs.map (·.1) ++ [⟨((min n img.length : Nat) : Int), img.length, img.drop (min n img.length)⟩]) true w' := by
  obtain ⟨ia, ic, hiv⟩ := own_slice h.hi
  subst hiv
  have c0 : w.cell? ⟨g, 0, none⟩ = some (.slice ia img.length ic) := box_at h.hc rfl
  have hlt := h.lt
  have note := note_any (min n img.length) img.length w.drew (h.below ((Below.refl _ w).drew)) (Nat.min_le_right _ _) (Nat.le_refl _) hil hrl hbase
  rw [List.take_length] at note
  obtain ⟨m, hm⟩ : ∃ m, min n img.length = m := ⟨_, rfl⟩
  have hcase : (n = m ∧ (n : Int) ≤ img.length) ∨ (m = img.length ∧ (img.length : Int) < n) := by omega
  rw [hm] at note ⊢
  clear hm
  obtain ⟨q, hq⟩ : ∃ q : Rec, q = ⟨(m : Nat), img.length, img.drop m⟩ := ⟨_, rfl⟩
  have Hq := Lib.hid hq
  have hold : img.drop m = q.old := by rw [hq]
  rw [← hq, hold] at note
  rw [← hq]
  clear hq hold
  have Note := Lib.hid note; clear note
  have H := Lib.hid h; clear h
  have h1 : (n : Int) ≤ 24000 := by omega
  rcases hcase with ⟨rfl, hle⟩ | ⟨rfl, hle⟩
  all_goals
    go_enter Try.func36, Try.ntmps36
    go_wp2_with (go_at_call 52; refine (closed_any _ H.out).mono ?_; rintro e w' ⟨rfl, rfl⟩)
    refine Txt.wp_txt (by kernel_rfl) (by kernel_rfl) ?_
    go_wp2_with fail
    refine Note.out.mono ?_
    rintro e w1 ⟨⟨v, rfl⟩, rv1, qv, h1', hk1, hF1, hX1⟩
    have hk1 : Keep (g :: rv.ownBlock.toList) w w1 := (Keep.refl (g :: rv.ownBlock.toList) w).drew.trans hk1 (fun f hf => .inl hf)
    have c0 : w1.cell? ⟨g, 0, none⟩ = some (.slice ia img.length ic) := box_at h1'.hc rfl
    have f0 := box_free h1'.hc 0
    have HB1 := Lib.hid (Bytes.row (F := []) h1'.hi rfl (fun f hf => by cases hf))
    have H1 := Lib.hid h1'
    have Hk1 := Lib.hid hk1
    have HF1 := Lib.hid hF1
    have hfr := Fr.snoc (q := (q, qv)) (Fr.keep H.out (hk1.mono (fun f hf => .inl (by
        simp only [LogF, List.mem_cons, List.mem_append] at hf ⊢
        rcases hf with hf | hf
        · exact .inl hf
        · exact .inr (.inr hf)))) fun _ hp => hp) hX1
    have HFr := Lib.hid hfr
    clear h1' hk1 hF1 hX1 hfr
    go_wp2
    refine Txt.DrawPost.mk0 (by rfl) ?_
    go_wp2_with fail
    refine (resized_any n _ (by omega) (by omega) HB1.out).mono ?_
    rintro e w2 ⟨g2, rfl, hg2, hown2, hb2⟩
    have hfin := LogAt.image (img' := sized img n) H1.out hb2 (by rw [sized_len]; exact own_base hown2 (by have := Hk1.out.size; omega)) (fun r hr => .inr (by simp [Value.ownBlock] at hr; omega))
    have Hfin : Hid (StepP w base g (.slice ia img.length ic) rv rs (sized img n) (rs.map (·.1) ++ [q]) true (w2.setCell ⟨g, 0, none⟩ (.slice (some ⟨g2, 0, none⟩) n n))) := Lib.hid
      ⟨_, rv1, _, by simp, hfin.1, (Hk1.out.trans hfin.2 (fun f hf => .inl (by simp [List.mem_singleton.1 hf]))).mono (fun f hf => .inl (by
        simp only [LogF, List.mem_cons, List.mem_append] at hf ⊢
        rcases hf with hf | hf
        · exact .inl hf
        · exact .inr (.inr hf))), fun f hf => by
        have hs := Hk1.out.size
        simp only [LogF, List.mem_cons, List.mem_append] at hf ⊢
        rcases hf with hf | hf | hf
        · exact .inl (.inl hf)
        · simp [Value.ownBlock] at hf; exact .inr (by omega)
        · rcases HF1.out f (by simpa using hf) with h | h
          · exact .inl (.inr (.inr (by simpa using h)))
          · exact .inr h, HFr.out.trans (Fr.keep H1.out (hfin.2.mono fun f hf => .inl (by simp [LogF, List.mem_singleton.1 hf])) fun _ hp => hp) Hk1.out.size⟩
    have hc1 : w2.heap[g]? = some (.cells #[.slice ia img.length ic, rv1, .bool true] 87 (0, 0)) := (hb2.block g H1.out.lt).trans H1.out.hc
    have f0 := box_free hc1 0
    have c0 : w2.cell? ⟨g, 0, none⟩ = some (.slice ia img.length ic) := box_at hc1 rfl
    clear hfin hown2 hc1 hb2
    go_wp2
    go_ret
    exact ⟨rfl, Hfin.out⟩
end Go.Proofs.Ytnbngidelpodkaa
