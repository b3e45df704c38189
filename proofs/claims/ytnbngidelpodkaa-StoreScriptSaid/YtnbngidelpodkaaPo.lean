/- Store: a store, a clone and two values of the reference side by side -/
import Derived.Test.YtnbngidelpodkaaPl
import Derived.Test.YtnbngidelpodkaaPm
namespace Go.Im
open Go Go.RowKit Go.Bs Go.Cl Go.Rw Go.Un
/-- the cells of a value of the reference's store -/
def rfCells (v : Value) : Array Value := match v with
  | .agg xs => xs
  | _ => #[]
/-- a value of the reference's store lies at block R -/
def RBox (w : World) (R : Nat) (v : Value) : Prop := (∃ iv wv nv ver o z tv, v = .agg #[iv, wv, nv, .int .i64 ver, .bool o, .bool z, tv] ∧ (∃ a n c, iv = .slice a n c) ∧ (∃ a n c, wv = .slice a n c) ∧ (∃ a n c, nv = .slice a n c) ∧ ∃ a n c, tv = .slice a n c) ∧ w.heap[R]? = some (.cells (rfCells v) 47 (0, 0))
variable {F F' G : List Nat} {w w' : World} {R g : Nat} {v rvv : Value} {l : List UInt8} {s : Ps}
theorem RBox.at (h : RBox w R v) {j : Nat} {x : Value} (hj : w.cell? ⟨R, j, none⟩ = some x) : (j = 0 ∨ j = 1 ∨ j = 2 ∨ j = 6) ∧ (∃ a n c, x = .slice a n c) ∨ j = 3 ∧ (∃ n, x = .int .i64 n) ∨ (j = 4 ∨ j = 5) ∧ ∃ b, x = .bool b := by
  obtain ⟨⟨iv, wv, nv, ver, o, z, tv, rfl, h1, h2, h3, h4⟩, hc⟩ := h
  simp only [World.cell?, hc, rfCells] at hj
  match j, hj with
  | 0, hj => simp at hj; subst hj; exact .inl ⟨.inl rfl, h1⟩
  | 1, hj => simp at hj; subst hj; exact .inl ⟨.inr (.inl rfl), h2⟩
  | 2, hj => simp at hj; subst hj; exact .inl ⟨.inr (.inr (.inl rfl)), h3⟩
  | 3, hj => simp at hj; subst hj; exact .inr (.inl ⟨rfl, _, rfl⟩)
  | 4, hj => simp at hj; subst hj; exact .inr (.inr ⟨.inl rfl, _, rfl⟩)
  | 5, hj => simp at hj; subst hj; exact .inr (.inr ⟨.inr rfl, _, rfl⟩)
  | 6, hj => simp at hj; subst hj; exact .inl ⟨.inr (.inr (.inr rfl)), h4⟩
  | j + 7, hj => simp at hj
theorem bytes_out (h : Bytes F w v l) (hR : RBox w R rvv) : Bytes (R :: F) w v l := by
  obtain ⟨h1, h2, a, cap, rfl, h3, h4, h5⟩ := h
  refine ⟨h1, h2, a, cap, rfl, h3, h4, fun h0 => ?_⟩
  obtain ⟨b, off, rfl, q1, q2, q3⟩ := h5 h0
  refine ⟨b, off, rfl, q1, fun hm => ?_, q3⟩
  rcases List.mem_cons.1 hm with rfl | hm
  · have hc := q3 0 (byteV (l[0]'h0)) (by unfold bytesV; rw [List.getElem?_map, List.getElem?_eq_getElem h0]; rfl)
    rcases hR.at hc with ⟨_, _, _, _, e⟩ | ⟨_, _, e⟩ | ⟨_, _, e⟩
    · cases e
    · simp [byteV] at e
    · cases e
  · exact q2 hm
theorem chr_out {cl : List (Nat × List UInt8)} (h : ChR F w v cl) (hR : RBox w R rvv) : ChR (R :: F) w v cl := by
  obtain ⟨cs, e, h, hb⟩ := h
  refine ⟨cs, e, ?_, fun p hp => bytes_out (hb p hp) hR⟩
  obtain ⟨h1, h2, a, cap, rfl, h3, h4, h5⟩ := h
  refine ⟨h1, h2, a, cap, rfl, h3, h4, fun h0 => ?_⟩
  obtain ⟨b, off, rfl, q1, q2, q3⟩ := h5 h0
  refine ⟨b, off, rfl, q1, fun hm => ?_, q3⟩
  rcases List.mem_cons.1 hm with rfl | hm
  · obtain ⟨p, ps, rfl⟩ : ∃ p ps, cs = p :: ps := by cases cs with
      | nil => simp at h0
      | cons p ps => exact ⟨p, ps, rfl⟩
    obtain ⟨pa, pc, hpv⟩ := Raw.slice (hb p (by simp))
    have c0 := q3 0 (.int .i64 p.1.1) (by simp [encC])
    have c1 := q3 1 p.2 (by simp [encC])
    rw [hpv] at c1
    rcases hR.at c0 with ⟨_, _, _, _, e⟩ | ⟨e3, _⟩ | ⟨_, _, e⟩
    · cases e
    · rcases hR.at c1 with ⟨e4, _⟩ | ⟨_, _, e⟩ | ⟨_, _, e⟩
      · omega
      · cases e
      · cases e
    · cases e
  · exact q2 hm
theorem RV.out {m : Rf} (h : RV F w v m) (hR : RBox w R rvv) : RV (R :: F) w v m := by
  obtain ⟨iv, wv, nv, tv, rfl, h1, h2, h3, h4⟩ := h
  exact ⟨iv, wv, nv, tv, rfl, bytes_out h1 hR, bytes_out h2 hR, bytes_out h3 hR, chr_out h4 hR⟩
/-- under a change of R alone -/
theorem RV.beside {m : Rf} (h : RV F w v m) (hR : RBox w R rvv) (hk : Keep [R] w w') : RV F w' v m :=
  (h.out hR).keep hk (fun f hf => .inl (by rw [List.mem_singleton.1 hf]; simp)) (fun f hf => .inl (List.mem_cons_of_mem _ hf))
theorem RV.box {m : Rf} (h : RV F w v m) : ∃ iv wv nv ver o z tv, v = .agg #[iv, wv, nv, .int .i64 ver, .bool o, .bool z, tv] ∧ (∃ a n c, iv = .slice a n c) ∧ (∃ a n c, wv = .slice a n c) ∧ (∃ a n c, nv = .slice a n c) ∧ ∃ a n c, tv = .slice a n c := by
  obtain ⟨iv, wv, nv, tv, rfl, h1, h2, h3, h4⟩ := h
  obtain ⟨a1, c1, e1⟩ := Raw.slice h1
  obtain ⟨a2, c2, e2⟩ := Raw.slice h2
  obtain ⟨a3, c3, e3⟩ := Raw.slice h3
  obtain ⟨a4, c4, e4⟩ := h4.slice
  exact ⟨iv, wv, nv, _, _, _, tv, rfl, ⟨_, _, _, e1⟩, ⟨_, _, _, e2⟩, ⟨_, _, _, e3⟩, ⟨_, _, _, e4⟩⟩
theorem StV.beside (H : StV F w g s) (hR : RBox w R rvv) (hk : Keep [R] w w') : StV F w' g s := by
  obtain ⟨hg, h, iv, rv, imv, nxv, chv, rz, h1, h2, h3, h4, h5, h6⟩ := H
  have ne : ∀ {k : Nat} {cs : Array Value} {t : TypeId}, w.heap[k]? = some (.cells cs t (0, 0)) → t ≠ 47 → k ∉ [R] := fun hq ht hm => by
    rw [List.mem_singleton] at hm; subst hm; rw [hR.2] at hq; cases hq; exact ht rfl
  have kp : ∀ {x : Value} {l : List UInt8}, Bytes F w x l → Bytes F w' x l := fun hx => Raw.keep (bytes_out hx hR) hk (fun f hf => .inl (by rw [List.mem_singleton.1 hf]; simp)) (fun f hf => .inl (List.mem_cons_of_mem _ hf))
  exact ⟨hg, h, iv, rv, imv, nxv, chv, rz, (hk.block g (Array.getElem?_eq_some_iff.1 h1).1 (ne h1 (by decide))).trans h1, h2, (hk.block h (Array.getElem?_eq_some_iff.1 h3).1 (ne h3 (by decide))).trans h3, h4, kp h5, kp h6⟩
theorem StB.apartR {base h : Nat} {iv rv imv nxv chv : Value} {rz : Bool} {rs : List (Rec × Value)} (H : StB w base g h iv rv imv nxv chv rz rs s) (hR : RBox w R rvv) : R ∉ g :: LogF h iv rv := fun hm => by
  have ne : ∀ {k : Nat} {cs : Array Value} {t : TypeId}, w.heap[k]? = some (.cells cs t (0, 0)) → t ≠ 47 → R ≠ k := fun hk ht hm => by
    subst hm; rw [hR.2] at hk; cases hk; exact ht rfl
  simp only [LogF, List.mem_cons, List.mem_append] at hm
  rcases hm with rfl | rfl | hm | hm
  · exact ne H.hc (by decide) rfl
  · exact ne H.hl.hc (by decide) rfl
  · obtain ⟨cur, hc⟩ := own_type H.hl.hi (r := R) (by simpa using hm)
    exact ne hc (by decide) rfl
  · obtain ⟨cur, hc⟩ := H.hl.hr.type (r := R) (by simpa using hm)
    exact ne hc (by decide) rfl
theorem StB.beside {base h : Nat} {iv rv imv nxv chv : Value} {rz : Bool} {rs : List (Rec × Value)} (H : StB w base g h iv rv imv nxv chv rz rs s) (hR : RBox w R rvv) (hk : Keep [R] w w') : StB w' base g h iv rv imv nxv chv rz rs s := by
  have hn := H.apartR hR
  have hnl : R ∉ LogF h iv rv := fun hm => hn (List.mem_cons_of_mem _ hm)
  have kp : ∀ {F : List Nat} {x : Value} {l : List UInt8}, Bytes F w x l → Bytes F w' x l := fun hx => Raw.keep (bytes_out hx hR) hk (fun f hf => .inl (by rw [List.mem_singleton.1 hf]; simp)) (fun f hf => .inl (List.mem_cons_of_mem _ hf))
  have hgR : g ∉ [R] := fun hm => hn (by rw [List.mem_singleton] at hm; simp [hm])
  have hll := LogAt.beside H.hl hk hnl (fun p hp => Raw.keep (F' := [R]) (bytes_out (H.hr p hp) hR) (Keep.refl [] w) (by simp) (fun f hf => .inl (by rw [List.mem_singleton.1 hf]; simp)))
  have hcc := (chr_out H.hch hR).keepc hk (fun f hf => .inl (by rw [List.mem_singleton.1 hf]; simp)) (fun f hf => .inl (List.mem_cons_of_mem _ hf))
  exact { good := H.good, hg := H.hg, hc := (hk.block g H.lt hgR).trans H.hc, hl := hll, hn := H.hn, hi := kp H.hi, hx := kp H.hx, hch := hcc, hr := fun p hp => kp (H.hr p hp), ok := H.ok, tk := H.tk, rl := H.rl, rzv := H.rzv }
end Go.Im
