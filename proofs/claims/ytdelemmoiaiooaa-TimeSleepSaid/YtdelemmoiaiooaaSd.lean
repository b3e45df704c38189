/- time: the script's calls, whether they are fair -/
import Derived.Test.YtdelemmoiaiooaaSc
namespace Go.Ti
open Go Go.RowKit Go.Bs Go.Cl Go.Rw Go.Wi
/-- a call of the script -/
structure Ca where
  op : Int
  tk : Int
  n : Int
  ti : Int
def encC (x : Ca) : List Value := [.int .i64 x.op, .int .i64 x.tk, .int .i64 x.n, .int .i64 x.ti]
theorem encC_len (x : Ca) : (encC x).length = 4 := rfl
theorem encC_one (l : List Ca) : ∀ u ∈ l.flatMap encC, u.oneCell' = true := by
  intro u hu
  obtain ⟨x, _, h⟩ := List.mem_flatMap.1 hu
  simp [encC] at h
  rcases h with rfl | rfl | rfl | rfl <;> rfl
def SlC (w : World) (v : Value) (l : List Ca) : Prop := Raw [] 4 w v l.length (l.flatMap encC)
theorem SlC.below {w w' : World} {v : Value} {l : List Ca} (h : SlC w v l) (hb : Below w.heap.size w w') : SlC w' v l := Raw.below h hb
def caAt (l : List Ca) (k : Nat) : Ca := l.getD k ⟨0, 0, 0, 0⟩
theorem ca_get {l : List Ca} {k : Nat} (h : k < l.length) : l[k]? = some (caAt l k) := by simp [caAt, h]
theorem SlC.elem {w : World} {a : Option Addr} {n c : Nat} {l : List Ca} (h : SlC w (.slice a n c) l) {k : Nat} (hk : k < l.length) :
    ∃ b off, a = some ⟨b, off, none⟩ ∧ b < w.heap.size ∧ ∀ j u, (encC (caAt l k))[j]? = some u → w.cell? ⟨b, off + (k * 4 + j), none⟩ = some u := by
  rcases Raw.cases h with ⟨h0, _⟩ | ⟨_, b, off, cap, hv, _, _, hb, _, hc⟩
  · omega
  · cases hv
    refine ⟨b, off, rfl, hb, fun j u hu => hc _ _ ?_⟩
    have hj : j < 4 := by
      have := (List.getElem?_eq_some_iff.1 hu).1
      rwa [encC_len] at this
    exact (flat_get encC encC_len l k j _ (ca_get hk) hj).trans hu
def okC (x : Ca) : Prop := 0 ≤ x.op ∧ x.op ≤ 2 ∧ 16 ≤ x.tk ∧ x.tk < 32 ∧ 0 ≤ x.ti ∧ x.ti ≤ 20
instance (x : Ca) : Decidable (okC x) := by unfold okC; infer_instance
def fairC (l : List Ca) : Bool := (List.range l.length).all (fun k => decide (okC (caAt l k))) && decide (l.length ≤ 30)
theorem fair_ok {l : List Ca} (h : fairC l = true) : (∀ k, k < l.length → okC (caAt l k)) ∧ l.length ≤ 30 := by
  unfold fairC at h
  rw [Bool.and_eq_true, List.all_eq_true, decide_eq_true_eq] at h
  exact ⟨fun k hk => of_decide_eq_true (h.1 k (List.mem_range.2 hk)), h.2⟩
theorem fair_no {l : List Ca} {k : Nat} (hk : k < l.length) (h : ¬ okC (caAt l k)) : fairC l = false := by
  cases hf : fairC l with
  | false => rfl
  | true => exact absurd ((fair_ok hf).1 k hk) h
theorem fair_len {l : List Ca} (h : ∀ k, k < l.length → okC (caAt l k)) : fairC l = decide (l.length ≤ 30) := by
  unfold fairC
  rw [List.all_eq_true.2 (fun k hk => decide_eq_true (h k (List.mem_range.1 hk))), Bool.true_and]
/-- an array of numbers -/
def ints (f : Nat → Int) : Array Value := Array.ofFn (n := 32) fun j => Value.int .i64 (f j.val)
def ArAt (w : World) (v : Nat) (f : Nat → Int) : Prop := w.heap[v]? = some (.cells (ints f) 52 (0, 0))
theorem ints_size (f : Nat → Int) : (ints f).size = 32 := by simp [ints]
theorem ints_get (f : Nat → Int) {j : Nat} (hj : j < 32) : (ints f)[j]? = some (.int .i64 (f j)) := by simp [ints, Array.getElem?_ofFn, hj]
variable {w w' : World} {v : Nat} {f : Nat → Int}
theorem ArAt.lt (h : ArAt w v f) : v < w.heap.size := (Array.getElem?_eq_some_iff.1 h).1
theorem ArAt.keep {F : List Nat} (h : ArAt w v f) (hk : Keep F w w') (hF : v ∉ F) : ArAt w' v f := (hk.block v h.lt hF).trans h
theorem ArAt.cell (h : ArAt w v f) {j : Nat} (hj : j < 32) : w.cell? ⟨v, j, none⟩ = some (.int .i64 (f j)) := box_at h (ints_get f hj)
theorem ArAt.free (h : ArAt w v f) (j : Nat) : w.frozen? ⟨v, j, none⟩ = false := box_free h j
theorem ArAt.set (h : ArAt w v f) {j : Nat} (hj : j < 32) (x : Int) : ArAt (w.setCell ⟨v, j, none⟩ (.int .i64 x)) v (upd f j x) := by
  unfold ArAt at h ⊢
  rw [heap_setCell_same w v j _ 52 _ h]
  have he : (ints f).setIfInBounds j (.int .i64 x) = ints (upd f j x) := by
    apply Array.ext_getElem?
    intro i
    rw [Array.getElem?_setIfInBounds, ints_size]
    by_cases hi : i < 32
    · rw [ints_get f hi, ints_get (upd f j x) hi]
      by_cases hij : i = j
      · subst hij; rw [upd_same]; simp [hi]
      · rw [if_neg (fun e => hij e.symm), upd_other f hij]
    · rw [if_neg (by omega), Array.getElem?_eq_none (by rw [ints_size]; omega), Array.getElem?_eq_none (by rw [ints_size]; omega)]
  rw [he]
/-- bytes do not lie in an array of numbers -/
theorem bytes_out {F : List Nat} {u : Value} {l : List UInt8} (h : Bytes F w u l) (hA : ArAt w v f) : Bytes (v :: F) w u l := by
  have h0 := h
  obtain ⟨h1, h2, a, cap, rfl, h3, h4, h5⟩ := h
  refine ⟨h1, h2, a, cap, rfl, h3, h4, fun hp => ?_⟩
  obtain ⟨b, off, rfl, hb, hn, hc⟩ := h5 hp
  refine ⟨b, off, rfl, hb, fun hm => ?_, hc⟩
  rcases List.mem_cons.1 hm with rfl | hm
  · obtain ⟨x, l', rfl⟩ : ∃ x l', l = x :: l' := by
      cases l with
      | nil => exact absurd hp (Nat.lt_irrefl _)
      | cons x l' => exact ⟨x, l', rfl⟩
    have := hc 0 (byteV x) rfl
    rw [Nat.add_zero] at this
    by_cases hlt : off < 32
    · rw [hA.cell hlt] at this
      injection this with this
      cases this
    · have h9 : w.cell? ⟨b, off, none⟩ = none := by
        have hh : w.heap[b]? = some (.cells (ints f) 52 (0, 0)) := hA
        simp only [World.cell?, hh]
        simp [ints]
        omega
      rw [h9] at this
      cases this
  · exact hn hm
end Go.Ti
namespace Go.Proofs.Ytdelemmoiaiooaa
open Go.RowKit Go.Bs Go.Cl Go.Rw Go.Ti Go.Wi
set_option maxRecDepth 100000 in
set_option maxHeartbeats 4000000 in
theorem fair_any (v : Value) (l : List Ca) (w : World) (h : SlC w v l) :
    Calls Try.prog 21 #[v] w fun e w' => e = .returned (.bool (fairC l)) ∧ w = w' := by
  obtain ⟨a, cap, rfl⟩ := Raw.slice h
  have hml : l.length ≤ maxLen := by
    have h' : Raw [] 4 w _ _ _ := h
    obtain ⟨_, _, _, _, e, q1, q2, _⟩ := h'
    injection e with e1 e2 e3
    omega
  have hml2 : (l.length : Int) ≤ 9223372036854775807 := by unfold maxLen at hml; omega
  have H := Lib.hid h
  clear h hml
  go_enter Try.func21, Try.ntmps21
  go_wp2
  go_loopw [3] (fun i wr => wr = w ∧ ∃ k : Nat, k ≤ l.length ∧ i = .int .i64 k ∧ ∀ j, j < k → okC (caAt l j)) (fun i _ => l.length - (intOf i).toNat)
  case atStart => exact ⟨rfl, 0, Nat.zero_le _, rfl, fun j hj => by omega⟩
  case round =>
    obtain ⟨rfl, k, hk, rfl, hno⟩ := hrel
    have HNO := Lib.hid hno
    clear hno
    by_cases hlt : k < l.length
    · obtain ⟨b, off, rfl, hb, hc⟩ := H.out.elem hlt
      obtain ⟨x, hx⟩ : ∃ x, caAt l k = x := ⟨_, rfl⟩
      rw [hx] at hc
      have HX := Lib.hid hx
      clear hx
      have a_0 := hc 0 _ rfl
      have a_1 := hc 1 _ rfl
      have a_3 := hc 3 _ rfl
      simp only [← Nat.add_assoc, Nat.add_zero] at a_0 a_1 a_3
      clear hc
      by_cases h0 : 0 ≤ x.op
      rotate_left
      · have hb' : x.op < 0 := by omega
        have HV := Lib.hid (fair_no hlt (fun this => by rw [HX.out] at this; exact h0 this.1))
        go_wp2
        go_ret
        rw [HV.out]
        exact ⟨rfl, by first | rfl | trivial⟩
      by_cases h1 : x.op ≤ 2
      rotate_left
      · have hb' : 2 < x.op := by omega
        have HV := Lib.hid (fair_no hlt (fun this => by rw [HX.out] at this; exact h1 this.2.1))
        go_wp2
        go_ret
        rw [HV.out]
        exact ⟨rfl, by first | rfl | trivial⟩
      by_cases h2 : 16 ≤ x.tk
      rotate_left
      · have hb' : x.tk < 16 := by omega
        have HV := Lib.hid (fair_no hlt (fun this => by rw [HX.out] at this; exact h2 this.2.2.1))
        go_wp2
        go_ret
        rw [HV.out]
        exact ⟨rfl, by first | rfl | trivial⟩
      by_cases h3 : x.tk < 32
      rotate_left
      · have hb' : 32 ≤ x.tk := by omega
        have HV := Lib.hid (fair_no hlt (fun this => by rw [HX.out] at this; exact h3 this.2.2.2.1))
        go_wp2
        go_ret
        rw [HV.out]
        exact ⟨rfl, by first | rfl | trivial⟩
      by_cases h4 : 0 ≤ x.ti
      rotate_left
      · have hb' : x.ti < 0 := by omega
        have HV := Lib.hid (fair_no hlt (fun this => by rw [HX.out] at this; exact h4 this.2.2.2.2.1))
        go_wp2
        go_ret
        rw [HV.out]
        exact ⟨rfl, by first | rfl | trivial⟩
      by_cases h5 : x.ti ≤ 20
      rotate_left
      · have hb' : 20 < x.ti := by omega
        have HV := Lib.hid (fair_no hlt (fun this => by rw [HX.out] at this; exact h5 this.2.2.2.2.2))
        go_wp2
        go_ret
        rw [HV.out]
        exact ⟨rfl, by first | rfl | trivial⟩
      have HN2 : Hid (∀ j, j < k + 1 → okC (caAt l j)) := Lib.hid (fun j hj => by
        by_cases e : j = k
        · rw [e, HX.out]; exact ⟨h0, h1, h2, h3, h4, h5⟩
        · exact HNO.out j (by omega))
      go_wp2
      go_roundw
      case rel => exact ⟨by first | rfl | trivial, k + 1, by omega, by go_num, HN2.out⟩
      case measure => simp [intOf]; omega
    · obtain rfl : k = l.length := by omega
      have HF := Lib.hid (fair_len HNO.out)
      go_wp2
      go_ret
      rw [HF.out]
      exact ⟨ret_bool (by rw [Bool.eq_iff_iff, decide_eq_true_eq, decide_eq_true_eq]; omega), by first | rfl | trivial⟩
end Go.Proofs.Ytdelemmoiaiooaa
