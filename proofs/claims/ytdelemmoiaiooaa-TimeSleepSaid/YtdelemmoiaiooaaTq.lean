/- time: the reference's Sleeps and set; what set gives -/
import Derived.Test.YtdelemmoiaiooaaTp
namespace Go.Ti
open Go Go.RowKit Go.Bs Go.Cl Go.Rw Go.Wi
def usersL : List Int := [16, 17, 18, 19, 20, 21, 22, 23, 24, 25, 26, 27, 28, 29, 30, 31]
def pS (l : List Int) (t : Int) (b : Bool) (x : Int) : Bool := (decide (x = t) && b) || (!decide (x = t) && decide (x ∈ l))
def setR (l : List Int) (t : Int) (b : Bool) : List Int := usersL.filter (pS l t b)
theorem users_at : ∀ k, k < 16 → at_ usersL k = 16 + k := by decide
theorem users_mem (x : Int) : x ∈ usersL ↔ usr x = true := by
  constructor
  · intro h
    have := (by decide : ∀ y ∈ usersL, usr y = true)
    exact this x h
  · intro h
    unfold usr at h
    simp at h
    have : x = 16 ∨ x = 17 ∨ x = 18 ∨ x = 19 ∨ x = 20 ∨ x = 21 ∨ x = 22 ∨ x = 23 ∨ x = 24 ∨ x = 25 ∨ x = 26 ∨ x = 27 ∨ x = 28 ∨ x = 29 ∨ x = 30 ∨ x = 31 := by omega
    rcases this with rfl | rfl | rfl | rfl | rfl | rfl | rfl | rfl | rfl | rfl | rfl | rfl | rfl | rfl | rfl | rfl <;> decide
theorem asc_eq : ∀ {l m : List Int}, l.Pairwise (· < ·) → m.Pairwise (· < ·) → (∀ x, x ∈ l ↔ x ∈ m) → l = m
  | [], [], _, _, _ => rfl
  | [], y :: m, _, _, h => by have := (h y).2 (by simp); simp at this
  | x :: l, [], _, _, h => by have := (h x).1 (by simp); simp at this
  | x :: l, y :: m, hl, hm, h => by
    have h1 := List.pairwise_cons.1 hl
    have h2 := List.pairwise_cons.1 hm
    have hxy : x = y := by
      rcases List.mem_cons.1 ((h x).1 (by simp)) with e | e
      · exact e
      · rcases List.mem_cons.1 ((h y).2 (by simp)) with e2 | e2
        · exact e2.symm
        · have := h1.1 y e2; have := h2.1 x e; omega
    subst hxy
    rw [asc_eq h1.2 h2.2 fun z => ?_]
    constructor
    · intro hz
      rcases List.mem_cons.1 ((h z).1 (List.mem_cons_of_mem _ hz)) with e | e
      · subst e; have := h1.1 z hz; omega
      · exact e
    · intro hz
      rcases List.mem_cons.1 ((h z).2 (List.mem_cons_of_mem _ hz)) with e | e
      · subst e; have := h2.1 z hz; omega
      · exact e
theorem valid_step {l : List Int} (h : validT l = true) {k : Nat} (hk : k + 1 < l.length) : at_ l k < at_ l (k + 1) := by
  have := validT_at h hk
  unfold okT at this
  simp at this
  exact this.2
theorem valid_lt {l : List Int} (h : validT l = true) (i : Nat) : ∀ j, i < j → j < l.length → at_ l i < at_ l j
  | 0, hij, _ => by omega
  | j + 1, hij, hj => by
    have h1 := valid_step h hj
    rcases Nat.lt_or_ge i j with h2 | h2
    · have := valid_lt h i j h2 (by omega); omega
    · obtain rfl : i = j := by omega
      exact h1
theorem valid_asc {l : List Int} (h : validT l = true) : l.Pairwise (· < ·) := by
  rw [List.pairwise_iff_getElem]
  intro i j hi hj hij
  have := valid_lt h i j hij hj
  simpa [at_, hi, hj] using this
theorem valid_usr {l : List Int} (h : validT l = true) : ∀ x ∈ l, usr x = true := by
  intro x hx
  obtain ⟨k, hk, rfl⟩ := List.mem_iff_getElem.1 hx
  have := validT_at h hk
  unfold okT at this
  rw [show at_ l k = l[k] by simp [at_, hk]] at this
  simp at this
  exact this.1
theorem mem_at' {l : List Int} {k : Nat} (h : k < l.length) : at_ l k ∈ l := by
  rw [show at_ l k = l[k] by simp [at_, h]]
  exact List.getElem_mem h
theorem valid_of {l : List Int} (h : l.Pairwise (· < ·)) (hu : ∀ x ∈ l, usr x = true) : validT l = true := by
  refine validT_true fun k hk => ?_
  unfold okT
  rw [hu _ (mem_at' hk)]
  rw [Bool.true_and]
  cases k with
  | zero => rfl
  | succ k =>
    rw [List.pairwise_iff_getElem] at h
    have := h k (k + 1) (by omega) hk (by omega)
    simp [at_, hk, show k < l.length by omega]
    omega
theorem users_asc : usersL.Pairwise (· < ·) := by decide
theorem set_asc (l : List Int) (t : Int) (b : Bool) : (setR l t b).Pairwise (· < ·) := users_asc.sublist List.filter_sublist
theorem set_mem {l : List Int} {t : Int} {b : Bool} (hl : ∀ x ∈ l, usr x = true) (ht : usr t = true) (x : Int) : x ∈ setR l t b ↔ (x = t ∧ b = true) ∨ (x ≠ t ∧ x ∈ l) := by
  unfold setR pS
  rw [List.mem_filter, users_mem]
  simp only [Bool.or_eq_true, Bool.and_eq_true, decide_eq_true_eq, Bool.not_eq_true', decide_eq_false_iff_not]
  constructor
  · exact fun h => h.2
  · intro h
    refine ⟨?_, h⟩
    rcases h with ⟨rfl, _⟩ | ⟨_, h⟩
    · exact ht
    · exact hl x h
theorem del_mem {l : List Int} {t x : Int} : x ∈ delT l t ↔ x ≠ t ∧ x ∈ l := by
  unfold delT
  rw [List.mem_filter]
  simp
  exact ⟨fun h => ⟨h.2, h.1⟩, fun h => ⟨h.2, h.1⟩⟩
theorem ins_mem {l : List Int} {t x : Int} : x ∈ insT l t ↔ x = t ∨ x ∈ l := by
  unfold insT
  rw [List.mem_mergeSort]
  simp
  exact Or.comm
theorem del_asc {l : List Int} (h : l.Pairwise (· < ·)) (t : Int) : (delT l t).Pairwise (· < ·) := h.sublist List.filter_sublist
theorem ins_asc {l : List Int} (h : l.Pairwise (· < ·)) {t : Int} (ht : t ∉ l) : (insT l t).Pairwise (· < ·) := by
  have h1 : (insT l t).Pairwise (fun x y => decide (x ≤ y) = true) := List.pairwise_mergeSort (fun a b c h1 h2 => by simp at *; omega) (fun a b => by simp; omega) (l ++ [t])
  have hn : (l ++ [t]).Nodup := by
    rw [List.nodup_append]
    refine ⟨h.imp (fun h => by omega), by simp, fun a ha b hb => ?_⟩
    simp at hb
    subst hb
    intro e; subst e; exact ht ha
  have h2 : (insT l t).Nodup := ((List.mergeSort_perm (l ++ [t]) _).nodup_iff).2 hn
  refine (List.Pairwise.and h1 h2).imp fun h => ?_
  have := h.1
  simp at this
  have := h.2
  omega
theorem set_ins {l : List Int} (hv : validT l = true) {t : Int} (hu : usr t = true) (ht : t ∉ l) : setR l t true = insT l t :=
  asc_eq (set_asc _ _ _) (ins_asc (valid_asc hv) ht) fun x => by
    rw [set_mem (valid_usr hv) hu, ins_mem]
    constructor
    · rintro (⟨h, _⟩ | ⟨_, h⟩)
      · exact .inl h
      · exact .inr h
    · rintro (h | h)
      · exact .inl ⟨h, rfl⟩
      · exact .inr ⟨fun e => ht (e ▸ h), h⟩
theorem set_del {l : List Int} (hv : validT l = true) {t : Int} (hu : usr t = true) : setR l t false = delT l t :=
  asc_eq (set_asc _ _ _) (del_asc (valid_asc hv) t) fun x => by
    rw [set_mem (valid_usr hv) hu, del_mem]
    simp
theorem valid_ins {l : List Int} (hv : validT l = true) {t : Int} (hu : usr t = true) (ht : t ∉ l) : validT (insT l t) = true :=
  valid_of (ins_asc (valid_asc hv) ht) fun x hx => by
    rcases ins_mem.1 hx with rfl | h
    · exact hu
    · exact valid_usr hv x h
theorem valid_del {l : List Int} (hv : validT l = true) (t : Int) : validT (delT l t) = true :=
  valid_of (del_asc (valid_asc hv) t) fun x hx => valid_usr hv x (del_mem.1 hx).2
theorem valid_take {l l' : List Int} {m : Ms} {es : List Ef} (hv : validT l = true) (h : takeT l m = some (l', es)) : validT l' = true := by
  unfold takeT sysT at h
  repeat' split at h
  all_goals first
    | (cases h; done)
    | (cases h; exact hv)
    | (cases h; exact valid_del hv _)
    | (rename_i h1 _ _ _ _; cases h; simp only [not_or, Bool.not_eq_false] at h1; exact valid_ins hv h1.1 h1.2)
end Go.Ti
namespace Go.Proofs.Ytdelemmoiaiooaa
open Go.RowKit Go.Bs Go.Cl Go.Rw Go.Ti Go.Wi Go.Sort Go.So
set_option maxRecDepth 100000 in
set_option maxHeartbeats 1000000 in
theorem rsleeps_any (v : Value) (l : List Int) (t : Int) (w : World) (hl : l.length ≤ 1000000) (h : SlT w v l) : Calls Try.prog 25 #[.agg #[v], .int .i64 t] w fun e w' => e = .returned (.bool (decide (t ∈ l))) ∧ Below w.heap.size w w' := by
  obtain ⟨a, cap, rfl⟩ := Raw.slice h
  obtain ⟨W, hW⟩ : ∃ W, W = w.alloc (.cells #[.slice a l.length cap] 24) := ⟨_, rfl⟩
  have hb : Below w.heap.size w W := by rw [hW]; exact (Below.refl w.heap.size w).alloc (Nat.le_refl _) _
  have hx : W.heap[w.heap.size]? = some (.cells #[.slice a l.length cap] 24 (0, 0)) := by rw [hW]; exact heap_alloc_new w _
  have hws : w.heap.size < W.heap.size := (Array.getElem?_eq_some_iff.1 hx).1
  have H := Lib.hid (h.below hb); have HX := Lib.hid hx; have HB := Lib.hid hb
  clear h hx hb
  go_enter Try.func25, Try.ntmps25
  go_upto_region 1 with (fail)
  rw [← hW]
  clear hW
  go_wp2
  go_loopw [5] (fun i wr => ∃ k : Nat, k ≤ l.length ∧ i = .int .i64 k ∧ Below W.heap.size W wr ∧ ∀ j, j < k → at_ l j ≠ t) (fun i _ => l.length - (intOf i).toNat)
  case atStart => exact ⟨0, Nat.zero_le _, rfl, Below.refl _ _, fun j hj => by omega⟩
  case round =>
    obtain ⟨k, hk, rfl, hbel, hno⟩ := hrel
    have Hbel := Lib.hid hbel
    have Hno := Lib.hid hno
    have c0 := box_at ((hbel.block _ hws).trans HX.out) (j := 0) rfl
    clear hno
    by_cases hlt : k < l.length
    · obtain ⟨b, off, rfl, hb, h0⟩ := (H.out.below hbel).elem hlt
      clear hbel
      by_cases he : at_ l k = t
      · rw [he] at h0
        have hm : Hid (decide (t ∈ l) = true) := Lib.hid (by simpa using he ▸ mem_at hlt)
        go_wp2
        go_ret
        exact ⟨by rw [hm.out]; rfl, HB.out.trans (Hbel.out.mono (by omega))⟩
      · go_wp2
        go_roundw
        case rel => exact ⟨k + 1, hlt, by go_num, Hbel.out, fun j hj => by
            rcases Nat.lt_or_ge j k with h | h
            · exact Hno.out j h
            · obtain rfl : j = k := by omega
              exact he⟩
        case measure => simp [intOf]; omega
    · obtain rfl : k = l.length := by omega
      have hm : Hid (decide (t ∈ l) = false) := Lib.hid (by simpa using not_mem_at Hno.out)
      go_wp2
      go_ret
      exact ⟨by rw [hm.out]; rfl, HB.out.trans (Hbel.out.mono (by omega))⟩
theorem rsleeps_is (v : Value) (l : List Int) (t : Int) (r : Bool) (w : World) (hl : l.length ≤ 1000000) (h : SlT w v l) (hr : decide (t ∈ l) = r) : Calls Try.prog 25 #[.agg #[v], .int .i64 t] w fun e w' => e = .returned (.bool r) ∧ Below w.heap.size w w' := hr ▸ rsleeps_any v l t w hl h
end Go.Proofs.Ytdelemmoiaiooaa
