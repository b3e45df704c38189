/- time: the example; what a step leads to -/
import Derived.Test.YtdelemmoiaiooaaTu
namespace Go.Ti
open Go Go.RowKit Go.Bs Go.Cl Go.Rw Go.Wi
theorem stp_err {b : List UInt8} {m : Ms} {c : Int} (h : stpT b m = .error c) : c = 4 ∨ c = 23 := by
  unfold stpT at h
  split at h
  · injection h with h; exact .inl h.symm
  · split at h
    · injection h with h; exact .inr h.symm
    · cases h
theorem stp_ok {b : List UInt8} {m : Ms} {l : List Int} {es : List Ef} (h : stpT b m = .ok (l, es)) : validT (decT b).1 = true ∧ takeT (decT b).1 m = some (l, es) := by
  unfold stpT at h
  split at h
  · cases h
  · rename_i h0
    split at h
    · cases h
    · rename_i r hr
      injection h with h
      subst h
      rcases dec_cases b with ⟨_, _, hv⟩ | hb
      · exact ⟨hv, hr⟩
      · rw [hb] at h0; simp at h0
theorem stp_valid {b : List UInt8} {m : Ms} {l : List Int} {es : List Ef} (h : stpT b m = .ok (l, es)) : validT l = true := valid_take (stp_ok h).1 (stp_ok h).2
theorem take_es {l l' : List Int} {m : Ms} {es : List Ef} (h : takeT l m = some (l', es)) : es.length ≤ 2 := by
  unfold takeT sysT at h
  repeat' split at h
  all_goals first
    | (cases h; done)
    | (cases h; simp <;> split <;> simp)
theorem stp_es {b : List UInt8} {m : Ms} {l : List Int} {es : List Ef} (h : stpT b m = .ok (l, es)) : es.length ≤ 2 := take_es (stp_ok h).2
theorem stp_of {l l' : List Int} {m : Ms} {es : List Ef} (hv : validT l = true) (h : takeT l m = some (l', es)) : stpT (encS l) m = .ok (l', es) := by
  unfold stpT
  rw [decT_encS, hv]
  simp [h]
theorem stp_bad {l : List Int} {m : Ms} (hv : validT l = false) : stpT (encS l) m = .error 4 := by
  unfold stpT
  rw [decT_encS, hv]
  rfl
/-- the law's end -/
def RetOK (w : World) (e : Ending) (w' : World) : Prop := e = .returned (.bool true) ∧ Below w.heap.size w w'
/-- the cells of an effect -/
theorem SlE.cells {w : World} {a : Option Addr} {n c : Nat} {l : List Ef} (h : SlE w (.slice a n c) l) {k : Nat} {x : Ef} (hk : l[k]? = some x) :
    ∃ b off, a = some ⟨b, off, none⟩ ∧ b < w.heap.size ∧ ∀ j u, (encE x)[j]? = some u → w.cell? ⟨b, off + (k * 15 + j), none⟩ = some u := by
  have hlt : k < l.length := (List.getElem?_eq_some_iff.1 hk).1
  have he : efAt l k = x := by simp [efAt, hk]
  rw [← he]
  exact h.elem hlt
theorem alloc_sz (w : World) (o : Obj) : (w.alloc o).heap.size = w.heap.size + 1 := by simp
theorem alloc_old (w : World) (o : Obj) {k : Nat} (hk : k < w.heap.size) : (w.alloc o).heap[k]? = w.heap[k]? := ((Below.refl w.heap.size w).alloc (Nat.le_refl _) o).block k hk
theorem a1_0 (w : World) (c : Array Value) (t : TypeId) : (w.alloc (.cells c t)).heap[w.heap.size]? = some (.cells c t (0, 0)) := heap_alloc_new w _
theorem a2_0 (w : World) (c d : Array Value) (t u : TypeId) : ((w.alloc (.cells c t)).alloc (.cells d u)).heap[w.heap.size]? = some (.cells c t (0, 0)) := by
  rw [alloc_old _ _ (by rw [alloc_sz]; omega)]; exact a1_0 w c t
theorem a2_1 (w : World) (c d : Array Value) (t u : TypeId) : ((w.alloc (.cells c t)).alloc (.cells d u)).heap[w.heap.size + 1]? = some (.cells d u (0, 0)) := by
  have h := a1_0 (w.alloc (.cells c t)) d u; rwa [alloc_sz] at h
theorem a3_0 (w : World) (c d e : Array Value) (t u v : TypeId) : (((w.alloc (.cells c t)).alloc (.cells d u)).alloc (.cells e v)).heap[w.heap.size]? = some (.cells c t (0, 0)) := by
  rw [alloc_old _ _ (by rw [alloc_sz, alloc_sz]; omega)]; exact a2_0 w c d t u
theorem a3_1 (w : World) (c d e : Array Value) (t u v : TypeId) : (((w.alloc (.cells c t)).alloc (.cells d u)).alloc (.cells e v)).heap[w.heap.size + 1]? = some (.cells d u (0, 0)) := by
  rw [alloc_old _ _ (by rw [alloc_sz, alloc_sz]; omega)]; exact a2_1 w c d t u
theorem a3_2 (w : World) (c d e : Array Value) (t u v : TypeId) : (((w.alloc (.cells c t)).alloc (.cells d u)).alloc (.cells e v)).heap[w.heap.size + 2]? = some (.cells e v (0, 0)) := by
  have h := a1_0 ((w.alloc (.cells c t)).alloc (.cells d u)) e v; rwa [alloc_sz, alloc_sz] at h
end Go.Ti
namespace Go.Proofs.Ytdelemmoiaiooaa
open Go.RowKit Go.Bs Go.Cl Go.Rw Go.Ti Go.Wi
theorem valid_nil : validT [] = true := rfl
theorem valid_16 : validT [16] = true := by decide
theorem ins_16 : insT [] 16 = [16] := by simp [insT]
theorem stp_1 : stpT (Ti.encS []) ⟨16, 10, 1, 0, 19, 5, 0, 0⟩ = .ok ([16], [timer 5 16]) := stp_of valid_nil (by simp [takeT, sysT, usr, ins_16])
theorem stp_2 : stpT (Ti.encS [16]) ⟨0, 10, 4, 0, 16, 5, 0, 0⟩ = .ok ([], [reply 16 0]) := stp_of valid_16 (by simp [takeT, usr, delT])
set_option maxRecDepth 100000 in
theorem new_any (w : World) : Calls Try.prog 22 #[] w fun e w' => e = .returned (.agg #[.slice none 0 0]) ∧ Below w.heap.size w w' := by
  go_enter Try.func22, Try.ntmps22
  go_wp2
  refine bodyPost_ret (results_c rfl _ _ _ _ _ _ _ rfl (heap_alloc_new w _) Try.underlying37 rfl (by kernel_rfl)) rfl ?_
  exact ⟨rfl, (Below.refl _ _).alloc (Nat.le_refl _) _⟩
set_option maxRecDepth 100000 in
set_option maxHeartbeats 4000000 in
theorem awake_any (w : World) : Calls Try.prog 9 #[] w fun e w' => e = .returned (.bool true) ∧ Below w.heap.size w w' := by
  have D1 := Lib.hid stp_1
  have D2 := Lib.hid stp_2
  have hg25 := eg25
  go_enter Try.func9, Try.ntmps9
  go_wp2_with fail
  refine (new_any _).mono ?_
  rintro e w0 ⟨rfl, bel0⟩
  go_wp2_with fail
  refine (encode_any _ [] _ (by simp) (Raw.empty _ _ _)).mono ?_
  rintro e w1 ⟨v1, rfl, hr1, hb1⟩
  have bel1 := bel0.trans (hb1.mono bel0.size)
  have HB1 := Lib.hid (RetB.raw hr1)
  obtain ⟨a1, c1, rfl⟩ := own_slice hr1
  clear hr1 hb1
  go_wp2_with fail
  refine (step_any _ (.slice none 0 0) _ ⟨16, 10, 1, 0, 19, 5, 0, 0⟩ _ HB1.out (Nat.le_trans encS_len (by decide)) ⟨_, _, _, rfl⟩).mono ?_
  rw [D1.out]
  rintro e w2 ⟨hb2, iv2, ev2, rfl, hr2, hE2⟩
  have bel2 := bel1.trans (hb2.mono bel1.size)
  have HB2 := Lib.hid (RetB.raw hr2)
  obtain ⟨a2, c2, rfl⟩ := own_slice hr2
  obtain ⟨ea2, ec2, rfl⟩ := Raw.slice hE2
  have HE2 := Lib.hid hE2
  clear hr2 hb2 HB1 hE2
  go_wp2_with fail
  refine (step_any _ (.slice none 0 0) _ ⟨0, 10, 4, 0, 16, 5, 0, 0⟩ _ HB2.out (Nat.le_trans encS_len (by decide)) ⟨_, _, _, rfl⟩).mono ?_
  rw [D2.out]
  rintro e w3 ⟨hb3, iv3, ev3, rfl, hr3, hE3⟩
  have bel3 := bel2.trans (hb3.mono bel2.size)
  obtain ⟨a3, c3, rfl⟩ := own_slice hr3
  obtain ⟨ea3, ec3, rfl⟩ := Raw.slice hE3
  obtain ⟨q1, o1, rfl, _, hc1⟩ := SlE.cells (HE2.out.below hb3) (k := 0) rfl
  obtain ⟨q2, o2, rfl, _, hc2⟩ := SlE.cells hE3 (k := 0) rfl
  clear hr3 hb3 HB2 hE3 HE2
  have a_0 := hc1 0 _ rfl
  have b_0 := hc2 0 _ rfl
  have a_1 := hc1 1 _ rfl
  have b_1 := hc2 1 _ rfl
  have a_2 := hc1 2 _ rfl
  have b_2 := hc2 2 _ rfl
  have a_3 := hc1 3 _ rfl
  have b_3 := hc2 3 _ rfl
  have a_4 := hc1 4 _ rfl
  have b_4 := hc2 4 _ rfl
  simp only [Nat.zero_mul, Nat.zero_add, Nat.add_zero] at a_0 b_0 a_1 b_1 a_2 b_2 a_3 b_3 a_4 b_4
  clear hc1 hc2
  go_wp2
  go_ret
  exact ⟨rfl, bel3⟩
end Go.Proofs.Ytdelemmoiaiooaa
