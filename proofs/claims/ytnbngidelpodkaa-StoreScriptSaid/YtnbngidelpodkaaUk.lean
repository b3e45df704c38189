/- Undo: Write -/
import Derived.Test.YtnbngidelpodkaaUj
namespace Go.Proofs.Ytnbngidelpodkaa
open Go.RowKit Go.Bs Go.Cl Go.Rw Go.Un

def WriteP (w : World) (base g : Nat) (iv rv : Value) (img : List UInt8) (rs : List (Rec × Value)) (off : Nat) (b : List UInt8) (e : Ending) (w' : World) : Prop :=
  e = .returned (.int .i64 0) ∧ ∃ rv' qv, LogAt w' base g iv rv' (Un.written img off b) (rs ++ [(⟨off, img.length, (img.take (off + b.length)).drop off⟩, qv)]) true ∧ Keep (LogF g iv rv) w w' ∧ (∀ f ∈ LogF g iv rv', f ∈ LogF g iv rv ∨ w.heap.size ≤ f) ∧ Fr w rs w' (rs ++ [(⟨off, img.length, (img.take (off + b.length)).drop off⟩, qv)])

set_option maxRecDepth 100000 in
set_option maxHeartbeats 2000000 in
theorem write_yes {base g : Nat} {iv rv : Value} {img : List UInt8} {rs : List (Rec × Value)} (bv : Value) (b : List UInt8) (off : Nat) (w : World) (h : LogAt w base g iv rv img rs true) (hB : Bytes (LogF g iv rv) w bv b) (hil : img.length ≤ 24000) (hrl : rs.length ≤ 1000) (hbase : base ≤ w.heap.size)
    (hoff : off + b.length ≤ img.length) :
    Calls Try.prog 37 #[.pointer (some ⟨g, 0, none⟩), .int .i64 off, bv] w (WriteP w base g iv rv img rs off b) := by
  obtain ⟨ba, bc, rfl⟩ := Raw.slice hB
  obtain ⟨ia, ic, hiv⟩ := own_slice h.hi
  subst hiv
  have HB := Lib.hid hB; clear hB
  have c0 : w.cell? ⟨g, 0, none⟩ = some (.slice ia img.length ic) := box_at h.hc rfl
  have hlt := h.lt
  have hsome : 0 < b.length → ∃ gi, ia = some ⟨gi, 0, none⟩ := fun h0 => by
    rcases own_cases h.hi with ⟨e, h1, _⟩ | ⟨gi, _, e, _⟩
    · have := congrArg (fun v : Value => match v with | .slice _ n _ => n | _ => 0) e
      simp only at this
      omega
    · cases e; exact ⟨gi, rfl⟩
  have hic : img.length ≤ ic := by
    have hr := Raw.of_own (F := []) h.hi (bytesV_one _) (fun f hf => by cases hf)
    obtain ⟨_, _, a', c', e, h2, _⟩ := hr
    cases e; exact h2
  have H := Lib.hid h; clear h
  have h1 : (off : Int) ≤ img.length := by omega
  have h2 : (b.length : Int) ≤ (img.length : Int) - off := by omega
  have h3 : ((off + b.length : Nat) : Int) = (off : Int) + b.length := by omega
  obtain ⟨part, hpart⟩ : ∃ p, p = (img.take (off + b.length)).drop off := ⟨_, rfl⟩
  have Hpart := Lib.hid hpart
  have key : ∀ w1, (∃ rv' qv, LogAt w1 base g (.slice ia img.length ic) rv' img (rs ++ [(⟨off, img.length, part⟩, qv)]) true ∧ Keep (g :: rv.ownBlock.toList) w w1 ∧ (∀ k, rv'.ownBlock = some k → rv.ownBlock = some k ∨ w.heap.size ≤ k) ∧ ∀ X : List Nat, (∀ f ∈ X, f < w.heap.size) → Bytes X w1 qv part) →
      ∃ rv1 qv, LogAt w1 base g (.slice ia img.length ic) rv1 img (rs ++ [(⟨off, img.length, part⟩, qv)]) true ∧ Keep (LogF g (.slice ia img.length ic) rv) w w1 ∧ (∀ f ∈ LogF g (.slice ia img.length ic) rv1, f ∈ LogF g (.slice ia img.length ic) rv ∨ w.heap.size ≤ f) ∧ Bytes (LogF g (.slice ia img.length ic) rv1) w1 (.slice ba b.length bc) b ∧ Fr w rs w1 (rs ++ [(⟨off, img.length, part⟩, qv)]) := fun w1 ⟨rv1, qv, H1, hk1, hF1, hX1⟩ => by
    have hF : ∀ f ∈ LogF g (.slice ia img.length ic) rv1, f ∈ LogF g (.slice ia img.length ic) rv ∨ w.heap.size ≤ f := fun f hf => by
      simp only [LogF, List.mem_cons, List.mem_append] at hf ⊢
      rcases hf with hf | hf | hf
      · exact .inl (.inl hf)
      · exact .inl (.inr (.inl hf))
      · rcases hF1 f (by simpa using hf) with h | h
        · exact .inl (.inr (.inr (by simp [h])))
        · exact .inr h
    have hkk : Keep (LogF g (.slice ia img.length ic) rv) w w1 := hk1.mono fun f hf => .inl (by
      rcases List.mem_cons.1 hf with rfl | hf
      · simp [LogF]
      · simp only [LogF, List.mem_cons, List.mem_append]; exact .inr (.inr hf))
    exact ⟨rv1, qv, H1, hkk, hF, Raw.keep HB.out hkk (fun f hf => .inl hf) hF, Fr.snoc (Fr.keep H.out hkk fun _ hp => hp) hX1⟩
  have Key := Lib.hid key; clear key
  have note := note_any off (off + b.length) w H.out (by omega) hoff hil hrl hbase
  rw [← hpart] at note
  have Note := Lib.hid note; clear note hpart
  by_cases hb0 : b.length = 0
  · have hbn : b = [] := List.eq_nil_of_length_eq_zero hb0
    subst hbn
    rcases Decidable.em (off = ic) with rfl | hco
    all_goals
      try have hco' : ¬ ic = off := fun e => hco e.symm
      go_enter Try.func37, Try.ntmps37
      go_wp2_with (go_at_call 52; refine (closed_any _ H.out).mono ?_; rintro e w' ⟨rfl, rfl⟩)
      refine Note.out.mono ?_
      rintro e w1 ⟨⟨v, rfl⟩, hnote⟩
      obtain ⟨rv1, qv, h1', hkk, hF, hB1, hfr⟩ := Key.out w1 hnote
      have HFr := Lib.hid hfr; clear hfr
      have c0 : w1.cell? ⟨g, 0, none⟩ = some _ := box_at h1'.hc rfl
      have H1 := Lib.hid h1'
      have Hkk := Lib.hid hkk
      have HF := Lib.hid hF
      clear h1' hkk hF hB1 hnote
      go_wp2_with (refine wpList_copy_nothing rfl _ _ 22 22 rfl 5 Try.underlying22 (by kernel_rfl) _ _ _ _ _ _ rfl rfl ?hn ?_)
      case hn => simp
      go_wp2
      go_ret
      exact ⟨rfl, rv1, qv, by rw [show Un.written img _ [] = img by simp [Un.written], ← Hpart.out]; exact H1.out, Hkk.out, HF.out, by rw [← Hpart.out]; exact HFr.out⟩
  · obtain ⟨gi, rfl⟩ := hsome (by omega)
    have hco : ¬ ic = off := by omega
    go_enter Try.func37, Try.ntmps37
    go_wp2_with (go_at_call 52; refine (closed_any _ H.out).mono ?_; rintro e w' ⟨rfl, rfl⟩)
    refine Note.out.mono ?_
    rintro e w1 ⟨⟨v, rfl⟩, hnote⟩
    obtain ⟨rv1, qv, h1', hkk, hF, hB1, hfr⟩ := Key.out w1 hnote
    have HFr := Lib.hid hfr; clear hfr
    have c0 : w1.cell? ⟨g, 0, none⟩ = some (.slice (some ⟨gi, 0, none⟩) img.length ic) := box_at h1'.hc rfl
    have H1 := Lib.hid h1'
    have Hi1 := Lib.hid h1'.hi
    have Hkk := Lib.hid hkk
    have HF := Lib.hid hF
    have HB1 := Lib.hid hB1
    clear h1' hkk hF hB1 hnote
    go_wp2_with (refine wpList_copy_raw el22 Hi1.out HB1.out rfl _ _ rfl rfl rfl (i := off) (d := b.length) ?o1 ?d1 ?d2 ?_)
    case o1 => omega
    case d1 => omega
    case d2 => exact Nat.min_eq_left (by omega)
    intro w2 hown2 hg2 hsz2
    have e : splice (bytesV img) off ((bytesV b).take b.length) = bytesV (Un.written img off b) := by rw [List.take_of_length_le (by rw [bytesV_len]; exact Nat.le_refl _), splice_bytes]
    have hl2 : (Un.written img off b).length = img.length := written_len hoff
    have hfin := LogAt.img (img' := Un.written img off b) H1.out hg2 (by rw [hl2]; simpa [e] using hown2)
    have Hfin : Hid (WriteP w base g (.slice (some ⟨gi, 0, none⟩) img.length ic) rv img rs off b (.returned (.int .i64 0)) w2) := Lib.hid ⟨rfl, rv1, qv, by rw [← Hpart.out]; exact hfin.1, Hkk.out.trans hfin.2 (fun f hf => .inl (by simp only [LogF, List.mem_cons, List.mem_append]; exact .inr (.inl hf))), HF.out, by
      rw [← Hpart.out]
      refine HFr.out.trans (Fr.keep H1.out (hfin.2.mono fun f hf => .inl ?_) fun _ hp => hp) Hkk.out.size
      simp only [LogF, List.mem_cons, List.mem_append]; exact .inr (.inl hf)⟩
    clear hfin hown2 hg2 e hl2
    go_wp2
    go_ret
    exact Hfin.out
end Go.Proofs.Ytnbngidelpodkaa
