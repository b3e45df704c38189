/- time: the program reads a list of numbers -/
import Derived.Test.YtdelemmoiaiooaaTd
namespace Go.Ti
open Go Go.RowKit Go.Bs Go.Cl Go.Rw Go.Wi
/-- so many numbers from a place on, and the place behind them -/
def rdN (b : List UInt8) : Nat → Nat → Option (List Int × Nat)
  | 0, p => some ([], p)
  | n + 1, p => match rdI b p with
    | some (x, m) => (rdN b n (p + m)).map fun q => (x :: q.1, q.2)
    | none => none
def rdL (b : List UInt8) (p : Nat) (most : Int) : Option (List Int × Nat) := match rdB b p 0 most with
  | some (n, m) => rdN b n.toNat (p + m)
  | none => none
/-- what Ints returns, and the reader behind it -/
def rL (b : List UInt8) (most : Int) (s : Nat × Bool) : List Int × Nat × Bool := if s.2 then ([], s) else match rdL b s.1 most with
  | some (l, p) => (l, p, false)
  | none => ([], s.1, true)
theorem rdN_len {b : List UInt8} : ∀ {n p : Nat} {l : List Int} {q : Nat}, rdN b n p = some (l, q) → l.length = n ∧ p + n ≤ q ∧ (p ≤ b.length → q ≤ b.length)
  | 0, p, l, q, h => by
    unfold rdN at h
    injection h with h; injection h with h1 h2
    subst h1; subst h2
    exact ⟨rfl, Nat.le_refl _, id⟩
  | n + 1, p, l, q, h => by
    unfold rdN at h
    cases hd : rdI b p with
    | none => rw [hd] at h; cases h
    | some r =>
      obtain ⟨x, m⟩ := r
      rw [hd] at h
      simp only at h
      cases hn : rdN b n (p + m) with
      | none => rw [hn] at h; cases h
      | some r2 =>
        obtain ⟨l2, q2⟩ := r2
        rw [hn] at h
        injection h with h; injection h with h1 h2
        subst h1; subst h2
        have hm := rdI_le hd
        have ih := rdN_len hn
        refine ⟨by simp [ih.1], by omega, fun _ => ih.2.2 hm.1⟩
theorem rdN_short {b : List UInt8} {n p : Nat} (hp : p ≤ b.length) (h : b.length < p + n) : rdN b n p = none := by
  cases hd : rdN b n p with
  | none => rfl
  | some r =>
    obtain ⟨l, q⟩ := r
    have := rdN_len hd
    have := this.2.2 hp
    omega
theorem rdN_zero (b : List UInt8) (p : Nat) : rdN b 0 p = some ([], p) := rfl
theorem rdN_succ (b : List UInt8) (n p : Nat) : rdN b (n + 1) p = (match rdI b p with
    | some (x, m) => (rdN b n (p + m)).map fun q => (x :: q.1, q.2)
    | none => none) := rfl
/-- a row of numbers of a call's own -/
def zs (n : Nat) : List Int := List.replicate n 0
theorem flat_zs (n : Nat) : (zs n).flatMap encT = List.replicate n (.int .i64 0) := by
  induction n with
  | zero => rfl
  | succ n ih =>
    show (0 :: zs n).flatMap encT = _
    rw [List.flatMap_cons, ih]; rfl
end Go.Ti
namespace Go.Proofs.Ytdelemmoiaiooaa
open Go.RowKit Go.Bs Go.Cl Go.Rw Go.Ti Go.Wi
theorem elI : Rw.Elem Try.prog 22 3 1 8 (.int .i64 0) := ⟨Try.underlying22, by kernel_rfl, rfl, by decide⟩
set_option maxRecDepth 100000 in
set_option maxHeartbeats 2000000 in
theorem numbers_any (g : Nat) (bv : Value) (b : List UInt8) (p0 : Nat) (r n cap base : Nat) (w : World) (hbl : b.length ≤ 1000000) (hn : n ≤ 1000000)
    (h : RdO encT 1 85 3 w base g bv b (p0, false) (.slice (some ⟨r, 0, none⟩) n cap) (zs n)) :
    Calls Try.prog 52 #[.pointer (some ⟨g, 0, none⟩), .slice (some ⟨r, 0, none⟩) n cap] w fun e w' => ∃ ok p l, e = .returned (.bool ok) ∧ Keep [g, r] w w' ∧ RdO encT 1 85 3 w' base g bv b (p, false) (.slice (some ⟨r, 0, none⟩) n cap) l ∧
      l.length = n ∧ ((ok = true ∧ rdN b n p0 = some (l, p)) ∨ (ok = false ∧ rdN b n p0 = none)) := by
  have H := Lib.hid h; clear h
  go_enter Try.func52, Try.ntmps52
  go_wp2
  go_loopw [10] (fun i wr => ∃ (k p : Nat) (xs : List Int), k ≤ n ∧ i = .int .i64 k ∧ xs.length = k ∧ Keep [g, r] w wr ∧ RdO encT 1 85 3 wr base g bv b (p, false) (.slice (some ⟨r, 0, none⟩) n cap) (xs ++ zs (n - k)) ∧ rdN b n p0 = (rdN b (n - k) p).map (fun q => (xs ++ q.1, q.2))) (fun i _ => n - (intOf i).toNat)
  case atStart => exact ⟨0, p0, [], Nat.zero_le _, rfl, rfl, Keep.refl _ _, by simpa using H.out, by cases rdN b n p0 <;> simp⟩
  case round =>
    obtain ⟨k, p, xs, hk, rfl, hxs, hkeep, hO, hrd⟩ := hrel
    have HO := Lib.hid hO; have HK := Lib.hid hkeep; have Hrd := Lib.hid hrd; have Hxs := Lib.hid hxs
    clear hO hkeep hrd
    by_cases hlt : k < n
    · have hlt' : (k : Int) < n := by omega
      obtain ⟨d, hd⟩ : ∃ d, n - k = d + 1 := ⟨n - k - 1, by omega⟩
      go_wp2_with fail
      refine (wint63_any g bv b p false _ HO.out.rd hbl).mono ?_
      rintro e w1 ⟨x, ok, p1, rfl, hr1, hk1, hp1, hm⟩
      have hO1 := HO.out.read (s' := (p1, false)) ⟨hr1, hk1⟩
      have HO1 := Lib.hid hO1
      have HK1 := Lib.hid (HK.out.trans hk1 (fun f hf => .inl (by simp at hf ⊢; exact .inl hf)))
      have hR := Hrd.out
      rw [hd, rdN_succ] at hR
      clear hr1 hk1 hO1
      cases hdd : rdI b p with
      | none =>
        rw [hdd] at hm hR
        obtain ⟨rfl, rfl⟩ := hm
        have HRn : Hid (rdN b n p0 = none) := Lib.hid hR
        clear hR hdd
        go_wp2
        go_ret
        exact ⟨false, p1, _, rfl, HK1.out, HO1.out, by simp [zs, Hxs.out]; omega, Or.inr ⟨rfl, HRn.out⟩⟩
      | some q =>
        obtain ⟨y, m⟩ := q
        rw [hdd] at hm hR
        obtain ⟨rfl, rfl, rfl⟩ := hm
        have hz : zs (n - k) = 0 :: zs d := by rw [hd]; rfl
        have hrow := HO1.out.row
        have hnl : (xs ++ zs (n - k)).length = n := by simp [zs, Hxs.out]; omega
        have hget : (xs ++ zs (n - k))[k]? = some 0 := by rw [hz, List.getElem?_append_right (by omega), hxs]; simp
        rw [hnl] at hrow
        have hcell := own_cell hrow rfl (flat_get encT encT_len (xs ++ zs (n - k)) k 0 _ hget (by omega))
        have hcell' : w1.cell? ⟨r, k * 1 + 0, none⟩ = some (.int .i64 0) := hcell
        have hfz := own_frozen hrow (k * 1 + 0)
        have hset := own_set hrow (j := k * 1 + 0) (u := .int .i64 x) (by rw [flat_length encT encT_len, hnl]; omega)
        rw [flat_set encT encT_len (xs ++ zs (n - k)) k 0 0 x _ hget (by omega) rfl] at hset
        have hls : (xs ++ zs (n - k)).set k x = (xs ++ [x]) ++ zs (n - (k + 1)) := by
          rw [hz, List.set_append_right _ _ (by omega), hxs, Nat.sub_self, List.set_cons_zero, show n - (k + 1) = d by omega]; simp
        rw [hls] at hset
        rw [Nat.mul_one, Nat.add_zero] at hcell' hfz hset
        have hks : Keep [r] w1 (w1.setCell ⟨r, k, none⟩ (.int .i64 x)) := (Keep.refl [r] w1).setCell (by simp) _
        have hoff := HO1.out.off
        have hby := HO1.out.by'
        have hO2 : RdO encT 1 85 3 (w1.setCell ⟨r, k, none⟩ (.int .i64 x)) base g bv b (p + m, false) (.slice (some ⟨r, 0, none⟩) n cap) ((xs ++ [x]) ++ zs (n - (k + 1))) :=
          ⟨HO1.out.rd.keep hks (by simpa using fun e => hoff r (by simp [Value.ownBlock]) e.symm) (by simpa [Value.ownBlock] using hby), by rw [show ((xs ++ [x]) ++ zs (n - (k + 1))).length = n by simp [zs, Hxs.out]; omega]; exact hset, hoff,
            Raw.keep hby hks (fun f hf => .inl (by simpa [Value.ownBlock] using hf)) (fun f hf => .inl hf)⟩
        have HO2 := Lib.hid hO2
        have HK2 := Lib.hid (HK1.out.trans hks (fun f hf => .inl (by simp at hf ⊢; exact .inr hf)))
        have HR2 : Hid (rdN b n p0 = (rdN b (n - (k + 1)) (p + m)).map (fun q => ((xs ++ [x]) ++ q.1, q.2))) := Lib.hid (by
          rw [hR, show n - (k + 1) = d by omega]
          simp only [Option.map_map]
          congr 1
          funext q
          simp)
        clear hrow hset hcell hget hR hdd hz hoff hby hks hO2 hls
        go_wp2
        go_roundw
        case rel => exact ⟨k + 1, p + m, xs ++ [x], hlt, by go_num, by simp [Hxs.out], HK2.out, HO2.out, HR2.out⟩
        case measure => simp [intOf]; omega
    · obtain rfl : k = n := by omega
      go_wp2
      go_ret
      have h1 := Hrd.out
      have h2 := HO.out
      rw [Nat.sub_self] at h1 h2
      rw [rdN_zero] at h1
      rw [show xs ++ zs 0 = xs by simp [zs]] at h2
      refine ⟨true, p, xs, rfl, HK.out, h2, Hxs.out, Or.inl ⟨rfl, ?_⟩⟩
      rw [h1]
      simp
end Go.Proofs.Ytdelemmoiaiooaa
