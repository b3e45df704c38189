/- names: plain laws of operations; arguments, read -/
import Derived.Test.YtfgbkfifiioeiaaNj
namespace Go.Nm
open Go Go.RowKit Go.Bs Go.Cl Go.Rw Go.Wi
theorem find_filter {l : List Nm} {p q : Nm → Bool} {c : Bool} (h : ∀ z ∈ l, q z = true → p z = c) : (l.filter p).find? q = if c then l.find? q else none := by
  induction l with
  | nil => cases c <;> rfl
  | cons z l ih =>
    have ih := ih (fun y hy => h y (List.mem_cons_of_mem _ hy))
    rw [List.filter_cons, List.find?_cons]
    cases hq : q z
    · split
      · rw [List.find?_cons, hq, ih]
      · exact ih
    · have := h z (by simp) hq
      rw [this]
      cases c
      · simpa using ih
      · simp [hq]
theorem fnd_eq (l : List Nm) (s : List UInt8) : fnd l s = match l.find? (fun x => x.s == s) with | some x => x.t | none => 0 := rfl
theorem fnd_ins_other {l : List Nm} {x : Nm} {n : List UInt8} (h : n ≠ x.s) : fnd (insN l x) n = fnd l n := by
  have e : (insN l x).find? (fun z => z.s == n) = l.find? (fun z => z.s == n) := by
    unfold insN
    have hx : (x.s == n) = false := by simp; exact fun e => h e.symm
    rw [List.find?_append, List.find?_cons, hx]
    have h1 := find_filter (l := l) (p := fun z => slt z.s x.s) (q := fun z => z.s == n) (c := slt n x.s) (fun z _ hz => by simp at hz; simp [hz])
    have h2 := find_filter (l := l) (p := fun z => slt x.s z.s) (q := fun z => z.s == n) (c := slt x.s n) (fun z _ hz => by simp at hz; simp [hz])
    rw [h1]
    simp only [h2]
    rcases slt_total h with hs | hs
    · rw [hs, slt_asymm hs]; simp
    · rw [hs, slt_asymm hs]; simp
  rw [fnd_eq, fnd_eq, e]
theorem fnd_ins_same {l : List Nm} {x : Nm} (hn : ∀ z ∈ l, z.s ≠ x.s) : fnd (insN l x) x.s = x.t := by
  have e : (insN l x).find? (fun z => z.s == x.s) = some x := by
    unfold insN
    rw [List.find?_append, List.find?_eq_none.2 (fun z hz => by have := hn z (List.mem_filter.1 hz).1; simpa using this), List.find?_cons]
    simp
  rw [fnd_eq, e]
theorem fnd_del_other {l : List Nm} {s n : List UInt8} (h : n ≠ s) : fnd (delN l s) n = fnd l n := by
  have e : (delN l s).find? (fun z => z.s == n) = l.find? (fun z => z.s == n) := by
    unfold delN
    rw [find_filter (c := true) (fun z _ hz => by simp at hz; simp [hz, h])]
    simp
  rw [fnd_eq, fnd_eq, e]
theorem fnd_del_same (l : List Nm) (s : List UInt8) : fnd (delN l s) s = 0 := fnd_none fun x hx => by
  have := (List.mem_filter.1 hx).2
  simpa using this
theorem fnd_reg {l : List Nm} {s n : List UInt8} {t : Int} (h : n ≠ s) : fnd (regN l s t).1 n = fnd l n := by
  unfold regN
  split
  · rfl
  split
  · rfl
  split
  · rfl
  · exact fnd_ins_other h
theorem fnd_rel {l : List Nm} {s n : List UInt8} {t : Int} (h : n ≠ s) : fnd (relN l s t).1 n = fnd l n := by
  unfold relN
  split
  · rfl
  split
  · exact fnd_del_other h
  · rfl
/-- an operation on one name does not change what another one leads to -/
theorem fnd_do {l : List Nm} {op : Int} {s n : List UInt8} {t : Int} (h : n ≠ s) : fnd (doN l op s t).1 n = fnd l n := by
  unfold doN
  split
  · rfl
  split
  · rfl
  split
  · exact fnd_reg h
  · exact fnd_rel h
theorem look_do (l : List Nm) (n : List UInt8) (t : Int) : (doN l 0 n t).2 = (if nmOK n = false then (0, 15) else (fnd l n, if fnd l n = 0 then 8 else 0)) := by
  unfold doN
  split <;> rfl
theorem srt_split : ∀ {l : List Nm} {s : List UInt8}, Srt l → (∀ z ∈ l, z.s ≠ s) → l.filter (fun z => slt z.s s) ++ l.filter (fun z => slt s z.s) = l
  | [], _, _, _ => rfl
  | z :: l, s, h, hn => by
    have h' := List.pairwise_cons.1 h
    have ih := srt_split h'.2 (fun y hy => hn y (List.mem_cons_of_mem _ hy))
    rcases slt_total (hn z (by simp)) with hs | hs
    · rw [List.filter_cons, hs, if_pos rfl, List.filter_cons, slt_asymm hs, if_neg (by simp), List.cons_append, ih]
    · have hall : ∀ y ∈ l, slt s y.s = true := fun y hy => slt_trans hs (h'.1 y hy)
      rw [List.filter_cons, slt_asymm hs, if_neg (by simp), List.filter_cons, hs, if_pos rfl, List.filter_eq_nil_iff.2 (fun y hy => by rw [slt_asymm (hall y hy)]; simp), List.filter_eq_self.2 (fun y hy => hall y hy)]
      rfl
theorem del_ins {l : List Nm} {x : Nm} (h : Srt l) (hn : ∀ z ∈ l, z.s ≠ x.s) : delN (insN l x) x.s = l := by
  unfold delN insN
  rw [List.filter_append, List.filter_cons, if_neg (by simp)]
  have e : ∀ p : Nm → Bool, (l.filter p).filter (fun z => z.s != x.s) = l.filter p := fun p => List.filter_eq_self.2 (fun z hz => by have := hn z (List.mem_filter.1 hz).1; simpa using this)
  rw [e, e]
  exact srt_split h hn
/-- registering a name that nobody has -/
theorem back_cases {X : List Nm} (hv : validN X = true) {s : List UInt8} {t : Int} (ht : 1 ≤ t ∧ t ≤ 10) (h8 : (doN X 0 s t).2.2 = 8) :
    doN X 1 s t = (X, 0, 13) ∨ (∃ Y, doN X 1 s t = (Y, t, 0) ∧ validN Y = true ∧ doN Y 2 s t = (X, t, 0) ∧ encV Y ≠ encV X) := by
  have hl := look_do X s t
  rw [hl] at h8
  cases hs : nmOK s
  · rw [if_pos hs] at h8; simp at h8
  rw [if_neg (by simp [hs])] at h8
  by_cases h0 : fnd X s = 0
  · have hnot := (fnd_mem (valid_pos hv)).1 h0
    by_cases hfull : 4 ≤ cnt X t ∨ 40 ≤ X.length
    · left
      have hr := reg_full (t := t) (by omega) h0 hfull
      unfold doN
      rw [if_neg (by simp [hs]), if_neg (by decide), if_pos rfl, hr]
      rfl
    · right
      have hr := reg_new (t := t) (by omega) h0 hfull
      have hvi : validN (insN X ⟨s, t⟩) = true := valid_ins hv hs ht hnot (by omega) (by omega)
      refine ⟨insN X ⟨s, t⟩, ?_, hvi, ?_, ?_⟩
      · unfold doN
        rw [if_neg (by simp [hs]), if_neg (by decide), if_pos rfl, hr]
        rfl
      · have hf : fnd (insN X ⟨s, t⟩) s = t := fnd_ins_same (x := ⟨s, t⟩) hnot
        have hre := rel_own (l := insN X ⟨s, t⟩) (s := s) (t := t) (by omega) hf
        have hd : delN (insN X ⟨s, t⟩) s = X := del_ins (x := ⟨s, t⟩) (valid_srt hv) hnot
        unfold doN
        rw [if_neg (by simp [hs]), if_neg (by decide), if_neg (by decide), hre, hd]
        rfl
      · intro e
        have h1 := decL_enc hvi
        rw [e, decL_enc hv] at h1
        have h2 : X = insN X ⟨s, t⟩ := congrArg Prod.fst h1
        have h3 := len_ins (x := ⟨s, t⟩) hnot
        rw [← h2] at h3
        omega
  · rw [if_neg h0] at h8; simp at h8
end Go.Nm
namespace Go.Proofs.Ytfgbkfifiioeiaa
open Go.ChangeShapes Go.WideShapes Go.ChangeAt Go.RowKit Go.Bs Go.Cl Go.Rw Go.Rd Go.Deep Go.Joins Go.Nm Go.Wi
theorem Try.own : ownKnob Try.prog.godebug = none := by kernel_rfl
theorem Try.laidOut : laidOutB Try.prog = true := by kernel_rfl
theorem Try.cells3' : Try.prog.cellsOf 3 = 1 := by kernel_rfl
theorem Try.cells5' : Try.prog.cellsOf 5 = 1 := by kernel_rfl
theorem Try.cells9' : Try.prog.cellsOf 9 = 1 := by kernel_rfl
theorem Try.cells57' : Try.prog.cellsOf 57 = 2 := by kernel_rfl
theorem Try.cells49' : Try.prog.cellsOf 49 = 3 := by kernel_rfl
theorem wf_bounds {n : Int} (h : (Lit.int .i64 n).wf = true) : -9223372036854775808 ≤ n ∧ n ≤ 9223372036854775807 := by
  simpa [Lit.wf, IntKind.min, IntKind.max, IntKind.signed, IntKind.bits] using h
theorem strOf_of (s : ByteArray) : s = strOf s.data.toList := rfl
set_option maxRecDepth 100000 in
theorem entry_of {H : Type} {enc : TypeId × Value → H} {W : World} (fuel : Nat) (cs : List Value) (x : DataW H × List MemPlace)
    (h : DataW.trod enc Try.prog W 0 (fun _ => true) true fuel 57 cs = some x) : ∃ y : Nm, cs = encN y ∧ Wi.fits y.t := by
  obtain ⟨y0, y1, n, _, hlen, h0, h1⟩ := trod_struct2 Try.underlying57 h
  rw [Try.cells57'] at hlen
  match cs, hlen with
  | [c0, c1], _ =>
    simp only [Try.cells3', Try.cells9', List.drop_succ_cons, List.drop_zero, List.take_succ_cons, List.take_zero] at h0 h1
    obtain ⟨a, e0, _⟩ := DataW.trod_string Try.underlying9 h0
    obtain ⟨b, e1, _, wb⟩ := DataW.trod_int Try.underlying3 h1
    simp at e0 e1
    have hb := wf_bounds wb
    exact ⟨⟨a.data.toList, b⟩, by simp [encN, e0, e1, ← strOf_of], hb.1, hb.2⟩
set_option maxRecDepth 100000 in
theorem read_state {H : Type} {enc : TypeId × Value → H} {W : World} {base : Nat} {v : Value} {d : DataW H} {p : List MemPlace} (hv : Value.okWide Try.prog W .any base 22 v)
    (h : DataW.Trod enc Try.prog W 0 (fun _ => true) true 22 v d p) : ∃ l : List Nm, SlN W v l ∧ ∀ x ∈ l, Wi.fits x.t := by
  obtain ⟨l, h1, h2⟩ := read_val (rd := encN) (Rl := fun y => Wi.fits y.t) Try.cells57' (by omega) encN_len Try.underlying22 (fun y hy u hu => by
    simp [encN] at hu
    rcases hu with rfl | rfl <;> rfl) entry_of hv h
  exact ⟨l, h1, h2⟩
set_option maxRecDepth 100000 in
theorem read_call {H : Type} {enc : TypeId × Value → H} {W : World} {base : Nat} {v : Value} {d : DataW H} {p : List MemPlace} (hv : Value.okWide Try.prog W .any base 49 v)
    (h : DataW.Trod enc Try.prog W 0 (fun _ => true) true 49 v d p) : ∃ (fr op : Int) (s : List UInt8), v = .agg #[.int .i64 fr, .int .i64 op, .string (strOf s)] ∧ s.length ≤ maxLen := by
  obtain ⟨cs, rfl, hs⟩ := okWide_struct Try.underlying49 hv
  rw [Try.cells49'] at hs
  obtain ⟨l⟩ := cs
  match l, hs with
  | [c0, c1, c2], _ =>
    obtain ⟨fuel, hf⟩ := h
    have hf : DataW.trod enc Try.prog W 0 (fun _ => true) true fuel 49 [c0, c1, c2] = some (d, p) := hf
    have g0 := Rl.trod_leaf (e := 3) (o := 0) [0] (by kernel_rfl) (by kernel_rfl) (by rw [Try.cells49']; exact Nat.le_refl _) hf
    have g1 := Rl.trod_leaf (e := 3) (o := 1) [1] (by kernel_rfl) (by kernel_rfl) (by rw [Try.cells49']; exact Nat.le_refl _) hf
    have g2 := Rl.trod_leaf (e := 9) (o := 2) [2] (by kernel_rfl) (by kernel_rfl) (by rw [Try.cells49']; exact Nat.le_refl _) hf
    rw [Try.cells3'] at g0 g1
    rw [Try.cells9'] at g2
    obtain ⟨_, _, g0, _⟩ := g0
    obtain ⟨_, _, g1, _⟩ := g1
    obtain ⟨_, _, g2, _⟩ := g2
    obtain ⟨k0, e0, _⟩ := DataW.trod_int Try.underlying3 g0
    obtain ⟨k1, e1, _⟩ := DataW.trod_int Try.underlying3 g1
    obtain ⟨k2, e2, _, hl⟩ := DataW.trod_string Try.underlying9 g2
    simp at e0 e1 e2
    exact ⟨k0, k1, k2.data.toList, by rw [e0, e1, e2, ← strOf_of], hl⟩
set_option maxRecDepth 100000 in
theorem read_str {H : Type} {enc : TypeId × Value → H} {W : World} {base : Nat} {v : Value} {d : DataW H} {p : List MemPlace} (hv : Value.okWide Try.prog W .any base 9 v)
    (h : DataW.Trod enc Try.prog W 0 (fun _ => true) true 9 v d p) : ∃ s : List UInt8, v = .string (strOf s) ∧ s.length ≤ maxLen := by
  obtain ⟨s0, rfl⟩ := okWide_string Try.underlying9 hv
  obtain ⟨fuel, hf⟩ := h
  obtain ⟨s, e, _, hl⟩ := DataW.trod_string Try.underlying9 hf
  simp [Value.cells] at e
  subst e
  exact ⟨s0.data.toList, by rw [← strOf_of], hl⟩
theorem rname_eq (s : List UInt8) (r : Bool) (w : World) (hs : s.length ≤ 1000000) (h : nmOK s = r) : Calls Try.prog 38 #[.string (strOf s)] w fun e w' => e = .returned (.bool r) ∧ w = w' := h ▸ rname_any s w hs
theorem few_eq (v : Value) (l : List Nm) (r : Bool) (w : World) (h : SlN w v l) (hr : few l = r) : Calls Try.prog 10 #[v] w fun e w' => e = .returned (.bool r) ∧ w = w' := hr ▸ few_any v l w h
theorem rvalid_eq (v : Value) (l : List Nm) (r : Bool) (w : World) (hl : l.length ≤ 1000000) (hsz : ∀ x ∈ l, x.s.length ≤ 1000000) (h : SlN w v l) (hr : validN l = r) : Calls Try.prog 17 #[v] w fun e w' => e = .returned (.bool r) ∧ Below w.heap.size w w' := hr ▸ rvalid_any v l w hl hsz h
theorem _root_.Go.Nm.few_len {l : List Nm} (h : few l = true) : l.length ≤ 50 ∧ ∀ x ∈ l, x.s.length ≤ 40 := by
  unfold few at h
  simp only [Bool.and_eq_true, List.all_eq_true, decide_eq_true_eq] at h
  exact ⟨h.2, h.1⟩
end Go.Proofs.Ytfgbkfifiioeiaa
