/- Revive: plain: the codec of states -/
import Derived.Test.YthmnhpakgjnngaaGreatDoorM2
import Derived.Test.YthmnhpakgjnngaaGreatDoorVa
namespace Go.Rv
open Go Go.RowKit Go.Bs Go.Cl Go.Rw Go.Dt Go.Wi
def encIs (l : List Int) : List UInt8 := encI l.length ++ l.flatMap encI
theorem encIs_flat : ∀ {l : List Int}, (∀ x ∈ l, Wi.fits x) → (l.flatMap encI).length ≤ 10 * l.length
  | [], _ => by simp
  | x :: l, h => by
    have h1 := encI_len (h x (by simp))
    have h2 := encIs_flat (l := l) (fun y hy => h y (by simp [hy]))
    rw [List.flatMap_cons, List.length_append, List.length_cons]; omega
theorem take_ints {l : List Int} {k : Nat} (h : k < l.length) : (l.take (k + 1)).flatMap encI = (l.take k).flatMap encI ++ encI l[k] := by
  rw [← List.take_append_getElem h, List.flatMap_append]; simp only [List.flatMap_cons, List.flatMap_nil, List.append_nil]
theorem encIs_len {l : List Int} (hf : ∀ x ∈ l, Wi.fits x) (hl : l.length ≤ 1000) : (encIs l).length ≤ 10010 := by
  unfold encIs
  have h1 := encIs_flat hf
  have h2 := encI_len (n := (l.length : Int)) (by unfold Wi.fits; omega)
  rw [List.length_append]; omega
theorem brow_nil (e : Nat) (w : World) (base : Nat) : BRow e w base (.slice none 0 0) [] := World.ownsRow_nil _ _ _ _
def encHb (x : Hs) : List UInt8 := encI x.t ++ (encI x.n ++ encI x.c)
def fitsH (x : Hs) : Prop := Wi.fits x.t ∧ Wi.fits x.n ∧ Wi.fits x.c
theorem encHb_len {x : Hs} (h : fitsH x) : (encHb x).length ≤ 30 := by
  have h1 := encI_len h.1
  have h2 := encI_len h.2.1
  have h3 := encI_len h.2.2
  unfold encHb
  rw [List.length_append, List.length_append]; omega
theorem encHs_flat : ∀ {l : List Hs}, (∀ x ∈ l, fitsH x) → (l.flatMap encHb).length ≤ 30 * l.length
  | [], _ => by simp
  | x :: l, h => by
    have h1 := encHb_len (h x (by simp))
    have h2 := encHs_flat (l := l) (fun y hy => h y (by simp [hy]))
    rw [List.flatMap_cons, List.length_append, List.length_cons]; omega
theorem take_hs {l : List Hs} {k : Nat} (h : k < l.length) : (l.take (k + 1)).flatMap encHb = (l.take k).flatMap encHb ++ encHb (hsAt l k) := by
  rw [List.take_add_one, hs_get h]; simp
def encVb (x : Sv) : List UInt8 := encI x.r ++ (encIs x.wt ++ (encI x.hs.length ++ x.hs.flatMap encHb))
/-- what Encode gives -/
def encV (x : Sv) : List UInt8 := if validV x then encVb x else []
theorem vok_fits {x : Sv} (h : VOk x) : Wi.fits x.r ∧ (∀ y ∈ x.wt, Wi.fits y) ∧ (∀ y ∈ x.hs, fitsH y) := by
  have h0 := h.b.r0
  have h1 := h.b.r1
  refine ⟨by unfold Wi.fits; omega, fun y hy => ?_, fun y hy => ?_⟩
  · have := h.w y hy; unfold Wi.fits; omega
  · have := okE_iff.1 (validH_ok h.h y hy)
    unfold fitsH Wi.fits; omega
theorem encV_true {x : Sv} (h : VOk x) : encV x = encVb x := by unfold encV; rw [validV_iff.2 h]; rfl
theorem encV_false {x : Sv} (h : validV x = false) : encV x = [] := by unfold encV; rw [h]; rfl
theorem encVb_len {x : Sv} (h : VOk x) : (encVb x).length ≤ 1000 ∧ 0 < (encVb x).length := by
  obtain ⟨f1, f2, f3⟩ := vok_fits h
  have h1 := encI_len f1
  have h2 := encIs_flat f2
  have h3 := encHs_flat f3
  have h4 := h.len
  have h5 := validH_len h.h
  have h6 := encI_len (n := (x.wt.length : Int)) (by unfold Wi.fits; omega)
  have h7 := encI_len (n := (x.hs.length : Int)) (by unfold Wi.fits; omega)
  have h8 := encI_pos x.r
  unfold encVb encIs
  simp only [List.length_append]
  omega
theorem encV_len (x : Sv) : (encV x).length ≤ 1000 := by
  cases h : validV x
  · rw [encV_false h]; simp
  · rw [encV_true (validV_iff.1 h)]; exact (encVb_len (validV_iff.1 h)).1
/-- so many numbers from a place on, and the place behind them -/
def rdN (b : List UInt8) : Nat → Nat → Option (List Int × Nat)
  | 0, p => some ([], p)
  | n + 1, p => match rdI b p with
    | some (x, m) => (rdN b n (p + m)).map fun q => (x :: q.1, q.2)
    | none => none
def rdL (b : List UInt8) (p : Nat) (most : Int) : Option (List Int × Nat) := match rdB b p 0 most with
  | some (n, m) => rdN b n.toNat (p + m)
  | none => none
/-- what Ints returns, and the reader behind it -/
def rL (b : List UInt8) (most : Int) (s : Nat × Bool) : List Int × Nat × Bool := if s.2 then ([], s) else match rdL b s.1 most with
  | some (l, p) => (l, p, false)
  | none => ([], s.1, true)
theorem rdN_len {b : List UInt8} : ∀ {n p : Nat} {l : List Int} {q : Nat}, rdN b n p = some (l, q) → l.length = n ∧ p + n ≤ q ∧ (p ≤ b.length → q ≤ b.length)
  | 0, p, l, q, h => by
    unfold rdN at h
    injection h with h; injection h with h1 h2
    subst h1; subst h2
    exact ⟨rfl, Nat.le_refl _, id⟩
  | n + 1, p, l, q, h => by
    unfold rdN at h
    cases hd : rdI b p with
    | none => rw [hd] at h; cases h
    | some r =>
      obtain ⟨x, m⟩ := r
      rw [hd] at h
      simp only at h
      cases hn : rdN b n (p + m) with
      | none => rw [hn] at h; cases h
      | some r2 =>
        obtain ⟨l2, q2⟩ := r2
        rw [hn] at h
        injection h with h; injection h with h1 h2
        subst h1; subst h2
        have hm := rdI_le hd
        have ih := rdN_len hn
        refine ⟨by simp [ih.1], by omega, fun _ => ih.2.2 hm.1⟩
theorem rdN_short {b : List UInt8} {n p : Nat} (hp : p ≤ b.length) (h : b.length < p + n) : rdN b n p = none := by
  cases hd : rdN b n p with
  | none => rfl
  | some r =>
    obtain ⟨l, q⟩ := r
    have := rdN_len hd
    have := this.2.2 hp
    omega
theorem rdN_zero (b : List UInt8) (p : Nat) : rdN b 0 p = some ([], p) := rfl
theorem rdN_succ (b : List UInt8) (n p : Nat) : rdN b (n + 1) p = (match rdI b p with
    | some (x, m) => (rdN b n (p + m)).map fun q => (x :: q.1, q.2)
    | none => none) := rfl
/-- a row of numbers of a call's own -/
def encT (x : Int) : List Value := [.int .i64 x]
theorem encT_len (x : Int) : (encT x).length = 1 := rfl
theorem encT_map (l : List Int) : l.flatMap encT = l.map (Value.int .i64) := by
  induction l with
  | nil => rfl
  | cons x l ih => rw [List.flatMap_cons, ih]; rfl
def zs (n : Nat) : List Int := List.replicate n 0
theorem flat_zs (n : Nat) : (zs n).flatMap encT = List.replicate n (.int .i64 0) := by
  induction n with
  | zero => rfl
  | succ n ih =>
    show (0 :: zs n).flatMap encT = _
    rw [List.flatMap_cons, ih]; rfl
theorem make_zs (n : Nat) : (madeCells #[Value.int .i64 0] n).toList = (zs n).flatMap encT := by
  rw [flat_zs]
  apply List.ext_getElem
  · simp [size_madeCells]
  · intro i h1 h2
    simp [madeCells, Nat.mod_one]
/-- x, ok and the place p are what reading a list gives -/
def IsL (b : List UInt8) (at_ : Nat) (most : Int) (x : List Int) (ok : Bool) (p : Nat) : Prop := (ok = true ∧ rdL b at_ most = some (x, p)) ∨ (ok = false ∧ x = [] ∧ rdL b at_ most = none)
theorem IsL.done {b : List UInt8} {at_ p : Nat} {most : Int} {x : List Int} {ok : Bool} (h : IsL b at_ most x ok p) : rL b most (at_, false) = (x, if ok then (p, false) else (at_, true)) := by
  unfold rL
  rcases h with ⟨rfl, h⟩ | ⟨rfl, rfl, h⟩
  · simp [h]
  · simp [h]
theorem rdL_none {b : List UInt8} {at_ : Nat} {most : Int} (h : rdB b at_ 0 most = none) : rdL b at_ most = none := by unfold rdL; rw [h]
theorem rdL_some {b : List UInt8} {at_ m n : Nat} {most : Int} (h : rdB b at_ 0 most = some ((n : Int), m)) : rdL b at_ most = rdN b n (at_ + m) := by unfold rdL; rw [h]; simp
theorem rL_len (b : List UInt8) (most : Int) (h0 : 0 ≤ most) (s : Nat × Bool) : ((rL b most s).1.length : Int) ≤ most := by
  unfold rL
  split
  · simpa using h0
  · unfold rdL
    cases hd : rdB b s.1 0 most with
    | none => simpa using h0
    | some q =>
      obtain ⟨n, m⟩ := q
      have := rdB_some hd
      simp only
      cases hn : rdN b n.toNat (s.1 + m) with
      | none => simpa using h0
      | some q2 =>
        obtain ⟨l, p⟩ := q2
        have := (rdN_len hn).1
        simp only
        omega
theorem rEnd_cases (b : List UInt8) (s : Nat × Bool) : rEnd b s = 0 ∨ rEnd b s = 4 := by
  unfold rEnd
  split
  · exact .inr rfl
  · exact .inl rfl
theorem rdN_enc : ∀ (l : List Int) (p t b : List UInt8), (∀ x ∈ l, Wi.fits x) → b = p ++ (l.flatMap encI ++ t) → rdN b l.length p.length = some (l, (p ++ l.flatMap encI).length)
  | [], p, t, b, _, _ => by simp [rdN]
  | x :: l, p, t, b, hf, hb => by
    have h2 : rdI b p.length = some (x, (encI x).length) := rdI_enc (hf x (by simp)) (t := l.flatMap encI ++ t) (by rw [hb]; simp)
    rw [List.length_cons, rdN_succ, h2]
    simp only
    have := rdN_enc l (p ++ encI x) t b (fun y hy => hf y (by simp [hy])) (by rw [hb]; simp)
    rw [List.length_append] at this
    rw [this]
    simp
theorem rL_enc {l : List Int} {most : Int} (hf : ∀ x ∈ l, Wi.fits x) (hl : (l.length : Int) ≤ most) (hl2 : l.length ≤ 1000000) {b p t : List UInt8} (hb : b = p ++ (encIs l ++ t)) : rL b most (p.length, false) = (l, (p ++ encIs l).length, false) := by
  have hfl : Wi.fits (l.length : Int) := by unfold Wi.fits; omega
  have h0 : rdI b p.length = some ((l.length : Int), (encI l.length).length) := rdI_enc hfl (t := l.flatMap encI ++ t) (by rw [hb]; simp [encIs])
  have h1 : rdB b p.length 0 most = some ((l.length : Int), (encI l.length).length) := by
    unfold rdB; rw [h0]; simp; omega
  have hdn := rdN_enc l (p ++ encI l.length) t b hf (by rw [hb]; simp [encIs])
  unfold rL
  simp only [Bool.false_eq_true, if_false]
  rw [rdL_some h1, ← List.length_append, hdn]
  simp [encIs]
/-- a history read -/
def rH (b : List UInt8) (s : Nat × Bool) : Hs × Nat × Bool := (⟨(rI b s).1, (rI b (rI b s).2).1, (rI b (rI b (rI b s).2).2).1⟩, (rI b (rI b (rI b s).2).2).2)
def rHs (b : List UInt8) : Nat → Nat × Bool → List Hs × Nat × Bool
  | 0, s => ([], s)
  | n + 1, s => ((rH b s).1 :: (rHs b n (rH b s).2).1, (rHs b n (rH b s).2).2)
theorem rHs_len (b : List UInt8) : ∀ (n : Nat) (s : Nat × Bool), (rHs b n s).1.length = n
  | 0, s => rfl
  | n + 1, s => by simp [rHs, rHs_len b n]
theorem rHs_step (b : List UInt8) : ∀ (n : Nat) (s : Nat × Bool), rHs b (n + 1) s = ((rHs b n s).1 ++ [(rH b (rHs b n s).2).1], (rH b (rHs b n s).2).2)
  | 0, s => rfl
  | n + 1, s => by
    show ((rH b s).1 :: (rHs b (n + 1) (rH b s).2).1, (rHs b (n + 1) (rH b s).2).2) = _
    rw [rHs_step b n (rH b s).2]
    rfl
theorem rH_enc {x : Hs} (h : fitsH x) {b p t : List UInt8} (hb : b = p ++ (encHb x ++ t)) : rH b (p.length, false) = (x, (p ++ encHb x).length, false) := by
  have h1 := rI_enc h.1 (b := b) (p := p) (t := encI x.n ++ (encI x.c ++ t)) (by rw [hb]; simp [encHb])
  have h2 := rI_enc h.2.1 (b := b) (p := p ++ encI x.t) (t := encI x.c ++ t) (by rw [hb]; simp [encHb])
  have h3 := rI_enc h.2.2 (b := b) (p := (p ++ encI x.t) ++ encI x.n) (t := t) (by rw [hb]; simp [encHb])
  unfold rH
  rw [h1]
  simp only
  rw [h2]
  simp only
  rw [h3]
  simp [encHb]
theorem rHs_enc : ∀ (l : List Hs) (p t b : List UInt8), (∀ x ∈ l, fitsH x) → b = p ++ (l.flatMap encHb ++ t) → rHs b l.length (p.length, false) = (l, (p ++ l.flatMap encHb).length, false)
  | [], p, t, b, _, _ => by simp [rHs]
  | x :: l, p, t, b, hf, hb => by
    have h1 := rH_enc (hf x (by simp)) (b := b) (p := p) (t := l.flatMap encHb ++ t) (by rw [hb]; simp)
    have h2 := rHs_enc l (p ++ encHb x) t b (fun y hy => hf y (by simp [hy])) (by rw [hb]; simp)
    show ((rH b (p.length, false)).1 :: (rHs b l.length (rH b (p.length, false)).2).1, (rHs b l.length (rH b (p.length, false)).2).2) = _
    rw [h1]
    simp only
    rw [h2]
    simp
/-- what Decode reads, and the reader behind it -/
def rdV (b : List UInt8) (most : Int) : Sv × Nat × Bool :=
  let r := rI b (0, false)
  let l := rL b most r.2
  let n := rB b 0 most l.2
  let h := rHs b n.1.toNat n.2
  (⟨r.1, l.1, h.1⟩, h.2)
def decV (b : List UInt8) (most : Int) : Option Sv := if decide (rEnd b (rdV b most).2 = 0) && validV (rdV b most).1 then some (rdV b most).1 else none
theorem rdV_enc {x : Sv} (h : VOk x) {most : Int} (hm : 9 ≤ most) : rdV (encVb x) most = (x, (encVb x).length, false) := by
  obtain ⟨f1, f2, f3⟩ := vok_fits h
  have l1 := h.len
  have l2 := validH_len h.h
  have h1 := rI_enc f1 (b := encVb x) (p := []) (t := encIs x.wt ++ (encI x.hs.length ++ x.hs.flatMap encHb)) (by simp [encVb])
  have h2 := rL_enc (most := most) f2 (by omega) (by omega) (b := encVb x) (p := [] ++ encI x.r) (t := encI x.hs.length ++ x.hs.flatMap encHb) (by simp [encVb])
  have h3 := rB_enc (n := (x.hs.length : Int)) (lo := 0) (hi := most) (by unfold Wi.fits; omega) (by omega) (b := encVb x) (p := ([] ++ encI x.r) ++ encIs x.wt) (t := x.hs.flatMap encHb) (by simp [encVb])
  have h4 := rHs_enc x.hs ((([] ++ encI x.r) ++ encIs x.wt) ++ encI x.hs.length) [] (encVb x) f3 (by simp [encVb])
  unfold rdV
  rw [List.length_nil] at h1
  rw [h1]
  simp only
  rw [h2]
  simp only
  rw [h3]
  simp only [Int.toNat_natCast]
  rw [h4]
  simp [encVb]
theorem decV_enc {x : Sv} (h : VOk x) {most : Int} (hm : 9 ≤ most) : decV (encVb x) most = some x := by
  unfold decV
  rw [rdV_enc h hm]
  simp only
  rw [validV_iff.2 h]
  simp [rEnd]
theorem decV_ok {b : List UInt8} {most : Int} {x : Sv} (h : decV b most = some x) : VOk x := by
  unfold decV at h
  split at h
  · rename_i hc
    rw [Bool.and_eq_true] at hc
    injection h with h
    rw [← h]
    exact validV_iff.1 hc.2
  · cases h
end Go.Rv
