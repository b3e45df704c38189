/- Store: the state of the law Script -/
import Derived.Test.YtnbngidelpodkaaPo
namespace Go.Proofs.Ytnbngidelpodkaa
open Go.RowKit Go.Bs Go.Cl Go.Rw Go.Un Go.Im
def Sc (w0 : World) (g : Nat) (s : Ps) (c : Nat) (k : Ps) (R : Nat) (v : Value) (m : Rf) (Q : Nat) (kv : Value) (w : World) : Prop :=
  Below w0.heap.size w0 w ∧ w0.heap.size ≤ R ∧ w0.heap.size ≤ Q ∧ R ≠ Q ∧ RBox w R v ∧ RBox w Q kv ∧ ∃ base h iv rv, w0.heap.size ≤ base ∧ StAt w base g h iv rv s ∧ StV (g :: LogF h iv rv) w c k ∧ RV (g :: LogF h iv rv) w v m ∧ RV (g :: LogF h iv rv) w kv (rfOf k)
variable {w0 w w' : World} {g c R Q : Nat} {s s' k : Ps} {v kv : Value} {m m' : Rf}
theorem _root_.Go.Im.RBox.lt (h : RBox w R v) : R < w.heap.size := (Array.getElem?_eq_some_iff.1 h.2).1
theorem _root_.Go.Im.RBox.below (h : RBox w R v) (hb : Below w.heap.size w w') : RBox w' R v := ⟨h.1, (hb.block R h.lt).trans h.2⟩
theorem _root_.Go.Im.RBox.keep {G : List Nat} (h : RBox w R v) (hk : Keep G w w') (hG : R ∉ G) : RBox w' R v := ⟨h.1, (hk.block R h.lt hG).trans h.2⟩
theorem Sc.below (H : Sc w0 g s c k R v m Q kv w) (hb : Below w.heap.size w w') : Sc w0 g s c k R v m Q kv w' := by
  obtain ⟨h1, h2, h3, h4, h5, h6, base, h, iv, rv, h7, h8, h9, h10, h11⟩ := H
  exact ⟨h1.trans (hb.mono h1.size), h2, h3, h4, h5.below hb, h6.below hb, base, h, iv, rv, h7, h8.below hb, h9.below hb, h10.below hb, h11.below hb⟩
theorem Sc.drew (H : Sc w0 g s c k R v m Q kv w) : Sc w0 g s c k R v m Q kv w.drew := H.below (Below.refl _ w).drew
theorem Sc.good (H : Sc w0 g s c k R v m Q kv w) : s.Good := by
  obtain ⟨h1, h2, h3, h4, h5, h6, base, h, iv, rv, h7, ⟨_, _, _, _, _, h8⟩, _⟩ := H
  exact h8.good
theorem sc_prog {fn : Nat} {args : Array Value} {T : Value} (H : Sc w0 g s c k R v m Q kv w) (hop : Liv w0 g s w → ∀ base h iv rv, w0.heap.size ≤ base → StAt w base g h iv rv s → Calls Try.prog fn args w fun e w' => e = .returned T ∧ StQ w base g h iv rv s' w') :
    Calls Try.prog fn args w fun e w' => e = .returned T ∧ Sc w0 g s' c k R v m Q kv w' := by
  obtain ⟨h1, h2, h3, h4, h5, h6, base, h, iv, rv, h7, h8, h9, h10, h11⟩ := H
  refine (hop ⟨h1, base, h, iv, rv, h7, h8⟩ base h iv rv h7 h8).mono ?_
  rintro e w' ⟨rfl, iv', rv', q1, q2, q3⟩
  obtain ⟨imv, nxv, chv, rz, rs, hb⟩ := h8
  have hR := hb.apartR h5
  have hQ := hb.apartR h6
  have hF : ∀ f ∈ g :: LogF h iv' rv', f ∈ g :: LogF h iv rv ∨ w.heap.size ≤ f := fun f hf => by
    rcases List.mem_cons.1 hf with rfl | hf
    · exact .inl (by simp)
    · exact (q3 f hf).imp (fun h => List.mem_cons_of_mem _ h) id
  exact ⟨rfl, h1.trans (q2.below h1.size (fun f hf => Nat.le_trans h7 (hb.fbase f hf).1)), h2, h3, h4, h5.keep q2 hR, h6.keep q2 hQ, base, h, iv', rv', h7, q1, h9.keep q2 (fun f hf => .inl hf) hF, h10.keep q2 (fun f hf => .inl hf) hF, h11.keep q2 (fun f hf => .inl hf) hF⟩
theorem sc_begin (bv : Value) (b : List UInt8) (H : Sc w0 g s c k R v m Q kv w) (hb : b.length ≤ 24000) (hB : Bytes [] w0 bv b) :
    Calls Try.prog 11 #[.pointer (some ⟨g, 0, none⟩), bv] w fun e w' => e = .returned (.tuple #[.int .i64 (psBegin s b).2.1, .int .i64 (psBegin s b).2.2]) ∧ Sc w0 g (psBegin s b).1 c k R v m Q kv w' := by
  refine sc_prog H fun HL base h iv rv hn h3 => ?_
  have h3' := h3
  obtain ⟨imv, nxv, chv, rz, rs, h4⟩ := h3'
  unfold psBegin
  by_cases hi : s.inst = true
  · rw [if_pos hi]
    refine (stbegin_no bv w h3 hi).mono ?_
    rintro e w' ⟨rfl, rfl⟩
    exact ⟨rfl, StQ.same h3 (Below.refl _ _)⟩
  · rw [if_neg hi]
    have hB' : Bytes (g :: LogF h iv rv) w bv b := Raw.keep (F' := g :: LogF h iv rv) hB (Keep.of_below' (F := []) HL.1) (fun f hf => by cases hf) (fun f hf => .inr (Nat.le_trans hn (h4.fbase f hf).1))
    exact stbegin_yes bv b w h3 (by simpa using hi) hb hB'
theorem sc_step (H : Sc w0 g s c k R v m Q kv w) :
    Calls Try.prog 13 #[.pointer (some ⟨g, 0, none⟩)] w fun e w' => e = .returned (.tuple #[.int .i64 (psStep s).2.1, .int .i64 (psStep s).2.2]) ∧ Sc w0 g (psStep s).1 c k R v m Q kv w' := by
  have hG := H.good
  refine sc_prog H fun HL base h iv rv hn h3 => ?_
  unfold psStep
  by_cases hno : s.inst = false ∨ s.done = s.steps
  · rw [if_pos hno]
    exact ststep_no w h3 hno
  · rw [if_neg hno]
    have hi : s.inst = true := by cases h : s.inst <;> simp_all
    have hd : s.done < s.steps := by have := hG.dl; have : s.done ≠ s.steps := fun e => hno (.inr e); omega
    by_cases hz : rzn s.image s.next ≤ s.done
    · exact ststep_page w h3 hi hd hz
    · have hz1 : rzb s.image s.next = true := by
        rw [rzn_of] at hz
        cases h : rzb s.image s.next <;> simp_all
      exact ststep_size w h3 hi hd hz1 (by rw [rzn_of, hz1] at hz; simp at hz; omega)
theorem sc_commit (H : Sc w0 g s c k R v m Q kv w) (hv : s.ver < 1000000) :
    Calls Try.prog 17 #[.pointer (some ⟨g, 0, none⟩)] w fun e w' => e = .returned (.int .i64 (psCommit s).2) ∧ Sc w0 g (psCommit s).1 c k R v m Q kv w' := by
  have hG := H.good
  refine sc_prog H fun HL base h iv rv hn h3 => ?_
  unfold psCommit
  by_cases hno : s.inst = false ∨ s.done < s.steps
  · rw [if_pos hno]
    exact stcommit_no w h3 hno
  · rw [if_neg hno]
    have hi : s.inst = true := by cases h : s.inst <;> simp_all
    have hd : s.done = s.steps := by have := hG.dl; have : ¬ s.done < s.steps := fun e => hno (.inr e); omega
    exact stcommit_yes w h3 hi hd hv
theorem sc_abort (H : Sc w0 g s c k R v m Q kv w) :
    Calls Try.prog 22 #[.pointer (some ⟨g, 0, none⟩)] w fun e w' => e = .returned (.int .i64 (psAbort s).2) ∧ Sc w0 g (psAbort s).1 c k R v m Q kv w' := by
  refine sc_prog H fun HL base h iv rv hn h3 => ?_
  unfold psAbort
  by_cases hno : s.inst = false
  · rw [if_pos hno]
    refine (stabort_no w h3 hno).mono ?_
    rintro e w' ⟨rfl, rfl⟩
    exact ⟨rfl, StQ.same h3 (Below.refl _ _)⟩
  · rw [if_neg hno]
    exact stabort_yes w h3 (by simpa using hno)
/-- a call of the reference -/
theorem sc_ref {fn : Nat} {args : Array Value} {T : Value → Value} (H : Sc w0 g s c k R v m Q kv w)
    (hop : ∀ F : List Nat, (∀ f ∈ F, f < w.heap.size) → (∀ f ∈ F, w0.heap.size ≤ f) → RV F w v m → Calls Try.prog fn args w fun e w' => ∃ v', e = .returned (T v') ∧ RV F w' v' m' ∧ Below w.heap.size w w') :
    Calls Try.prog fn args w fun e w' => ∃ a1 n1 c1 a2 n2 c2 a3 n3 c3 ver o z a4 n4 c4, e = .returned (T (.agg #[.slice a1 n1 c1, .slice a2 n2 c2, .slice a3 n3 c3, .int .i64 ver, .bool o, .bool z, .slice a4 n4 c4])) ∧ RBox w' R v ∧
      ∀ X : World, X.heap[R]? = some (.cells #[.slice a1 n1 c1, .slice a2 n2 c2, .slice a3 n3 c3, .int .i64 ver, .bool o, .bool z, .slice a4 n4 c4] 47 (0, 0)) → Keep [R] w' X → Sc w0 g s c k R (.agg #[.slice a1 n1 c1, .slice a2 n2 c2, .slice a3 n3 c3, .int .i64 ver, .bool o, .bool z, .slice a4 n4 c4]) m' Q kv X := by
  have H0 := H
  obtain ⟨h1, h2, h3, h4, h5, h6, base, h, iv, rv, h7, h8, h9, h10, h11⟩ := H
  have h8' := h8
  obtain ⟨imv, nxv, chv, rz, rs, hb⟩ := h8'
  refine (hop (g :: LogF h iv rv) (fun f hf => (hb.fbase f hf).2) (fun f hf => Nat.le_trans h7 (hb.fbase f hf).1) h10).mono ?_
  rintro e w' ⟨v', rfl, hv', hbel⟩
  obtain ⟨iv1, wv1, nv1, ver1, o1, z1, tv1, rfl, e1, e2, e3, e4⟩ := hv'.box
  obtain ⟨a1, n1, c1, rfl⟩ := e1
  obtain ⟨a2, n2, c2, rfl⟩ := e2
  obtain ⟨a3, n3, c3, rfl⟩ := e3
  obtain ⟨a4, n4, c4, rfl⟩ := e4
  refine ⟨_, _, _, _, _, _, _, _, _, _, _, _, _, _, _, rfl, h5.below hbel, fun X hX hk => ?_⟩
  have h5' := h5.below hbel; have h6' := h6.below hbel; have h8'' := hb.below hbel
  exact ⟨(h1.trans (hbel.mono h1.size)).trans (hk.below (Nat.le_trans h1.size hbel.size) (fun f hf => by rw [List.mem_singleton.1 hf]; exact h2)), h2, h3, h4, ⟨⟨_, _, _, _, _, _, _, rfl, ⟨_, _, _, rfl⟩, ⟨_, _, _, rfl⟩, ⟨_, _, _, rfl⟩, ⟨_, _, _, rfl⟩⟩, hX⟩, h6'.keep hk (by simpa using (fun e => h4 e.symm)), base, h, iv, rv, h7, ⟨_, _, _, _, _, h8''.beside h5' hk⟩, (h9.below hbel).beside h5' hk, hv'.beside h5' hk, (h11.below hbel).beside h5' hk⟩
/-- same, of the store and the reference's value -/
theorem sc_same (H : Sc w0 g s c k R v (rfOf s) Q kv w) : Calls Try.prog 30 #[.pointer (some ⟨g, 0, none⟩), v] w fun e w' => e = .returned (.bool true) ∧ Sc w0 g s c k R v (rfOf s) Q kv w' := by
  have H0 := H
  obtain ⟨h1, h2, h3, h4, h5, h6, base, h, iv, rv, h7, h8, h9, h10, h11⟩ := H
  refine (same_any v w (h8.view (fun f hf => by cases hf)) (h10.keep (Keep.refl [] w) (by simp) (by simp))).mono ?_
  rintro e w' ⟨rfl, hb⟩
  exact ⟨rfl, H0.below hb⟩
theorem sc_kept (H : Sc w0 g s c k R v m Q kv w) : Calls Try.prog 30 #[.pointer (some ⟨c, 0, none⟩), kv] w fun e w' => e = .returned (.bool true) ∧ Below w0.heap.size w0 w' := by
  obtain ⟨h1, h2, h3, h4, h5, h6, base, h, iv, rv, h7, h8, h9, h10, h11⟩ := H
  refine (same_any kv w (h9.keep (Keep.refl [] w) (by simp) (by simp)) (h11.keep (Keep.refl [] w) (by simp) (by simp))).mono ?_
  rintro e w' ⟨rfl, hb⟩
  exact ⟨rfl, h1.trans (hb.mono h1.size)⟩
/-- a clone, kept with the reference's value -/
theorem sc_clone (H : Sc w0 g s c k R v (rfOf s) Q kv w) : Calls Try.prog 25 #[.pointer (some ⟨g, 0, none⟩)] w fun e w' => ∃ c', e = .returned (.pointer (some ⟨c', 0, none⟩)) ∧ Below w.heap.size w w' ∧ RBox w' R v ∧ RBox w' Q kv ∧
    ∀ X : World, X.heap[Q]? = some (.cells (rfCells v) 47 (0, 0)) → Keep [Q] w' X → Sc w0 g s c' s R v (rfOf s) Q v X := by
  obtain ⟨h1, h2, h3, h4, h5, h6, base, h, iv, rv, h7, h8, h9, h10, h11⟩ := H
  have h8' := h8
  obtain ⟨imv, nxv, chv, rz, rs, hb⟩ := h8'
  refine (clone_any w h8).mono ?_
  rintro e w' ⟨c', rfl, hbel, base', h', iv', rv', hbase, hc⟩
  have h5' := h5.below hbel; have h6' := h6.below hbel; have h8'' := hb.below hbel
  refine ⟨c', rfl, hbel, h5', h6', fun X hX hk => ?_⟩
  have hview : StV (g :: LogF h iv rv) w' c' s := hc.view (fun f hf => by have := (hb.fbase f hf).2; omega)
  exact ⟨(h1.trans (hbel.mono h1.size)).trans (hk.below (Nat.le_trans h1.size hbel.size) (fun f hf => by rw [List.mem_singleton.1 hf]; exact h3)), h2, h3, h4, h5'.keep hk (by simpa using h4), ⟨h5.1, hX⟩, base, h, iv, rv, h7, ⟨_, _, _, _, _, h8''.beside h6' hk⟩, hview.beside h6' hk, (h10.below hbel).beside h6' hk, (h10.below hbel).beside h6' hk⟩
theorem Sc.rbox (H : Sc w0 g s c k R v m Q kv w) : RBox w R v := H.2.2.2.2.1
theorem Sc.qbox (H : Sc w0 g s c k R v m Q kv w) : RBox w Q kv := H.2.2.2.2.2.1
/-- the committed image, handed out -/
theorem sc_img (H : Sc w0 g s c k R v m Q kv w) : Calls Try.prog 16 #[.pointer (some ⟨g, 0, none⟩)] w fun e w' => ∃ a c', e = .returned (.slice a s.image.length c') ∧ w'.ownsRow w.heap.size 5 1 (.slice a s.image.length c') s.image.length (bytesV s.image) ∧ Below w.heap.size w w' := by
  obtain ⟨h1, h2, h3, h4, h5, h6, base, h, iv, rv, h7, h8, h9, h10, h11⟩ := H
  exact view_img (h8.view (F := []) (fun f hf => by cases hf))
end Go.Proofs.Ytnbngidelpodkaa
