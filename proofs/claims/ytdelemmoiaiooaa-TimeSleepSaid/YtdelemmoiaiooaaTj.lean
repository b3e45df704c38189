/- time: what decoding took is what encoding gives; Same, SameInts -/
import Derived.Test.YtdelemmoiaiooaaTi
namespace Go.Ti
open Go Go.RowKit Go.Bs Go.Cl Go.Rw Go.Wi
theorem valid_lo {l : List Int} (h : validT l = true) : ∀ k, k < l.length → 16 + (k : Int) ≤ at_ l k ∧ at_ l k < 32
  | 0, hk => by
    have := validT_at h hk
    unfold okT usr at this
    simp at this
    omega
  | k + 1, hk => by
    have h1 := valid_lo h k (by omega)
    have := validT_at h hk
    unfold okT usr at this
    simp at this
    omega
theorem valid_len {l : List Int} (h : validT l = true) : l.length ≤ 16 := by
  rcases Nat.lt_or_ge 16 l.length with h1 | h1
  · have := valid_lo h 16 h1
    omega
  · exact h1
theorem rdN_enc : ∀ (l : List Int) (p t b : List UInt8), (∀ x ∈ l, Wi.fits x) → b = p ++ (l.flatMap encI ++ t) → rdN b l.length p.length = some (l, (p ++ l.flatMap encI).length)
  | [], p, t, b, _, _ => by simp [rdN]
  | x :: l, p, t, b, hf, hb => by
    have h2 : rdI b p.length = some (x, (encI x).length) := rdI_enc (hf x (by simp)) (t := l.flatMap encI ++ t) (by rw [hb]; simp)
    rw [List.length_cons, rdN_succ, h2]
    simp only
    have := rdN_enc l (p ++ encI x) t b (fun y hy => hf y (by simp [hy])) (by rw [hb]; simp)
    rw [List.length_append] at this
    rw [this]
    simp
theorem decT_enc {l : List Int} (hv : validT l = true) : decT (encIs l) = (l, 0) := by
  have hl := valid_len hv
  have hfl : Wi.fits (l.length : Int) := by unfold Wi.fits; omega
  have h0 : rdI (encIs l) 0 = some ((l.length : Int), (encI l.length).length) := rdI_enc hfl (t := l.flatMap encI) rfl
  have h1 : rdB (encIs l) 0 0 32 = some ((l.length : Int), (encI l.length).length) := by
    unfold rdB; rw [h0]; simp; omega
  have hdn := rdN_enc l (encI l.length) [] (encIs l) (valid_fits hv) (by simp [encIs])
  have h2 : rL (encIs l) 32 (0, false) = (l, (encIs l).length, false) := by
    unfold rL
    simp only [Bool.false_eq_true, if_false]
    rw [rdL_some h1, Nat.zero_add, hdn]
    rfl
  unfold decT
  rw [h2]
  simp [rEnd, hv]
theorem decT_nil : decT [] = ([], 4) := by rfl
theorem rdN_out {b : List UInt8} : ∀ (n p : Nat) (l : List Int) (q : Nat), rdN b n p = some (l, q) → b.drop p = l.flatMap encI ++ b.drop q
  | 0, p, l, q, h => by
    rw [rdN_zero] at h
    injection h with h; injection h with h1 h2
    subst h1 h2; rfl
  | n + 1, p, l, q, h => by
    rw [rdN_succ] at h
    cases hd : rdI b p with
    | none => rw [hd] at h; cases h
    | some r =>
      obtain ⟨x, m⟩ := r
      rw [hd] at h
      simp only at h
      cases hn : rdN b n (p + m) with
      | none => rw [hn] at h; cases h
      | some r2 =>
        obtain ⟨l2, q2⟩ := r2
        rw [hn] at h
        injection h with h; injection h with h1 h2
        subst h1 h2
        have ih := rdN_out _ _ _ _ hn
        obtain ⟨_, rfl, t, ht⟩ := rdI_out hd
        simp only
        rw [List.flatMap_cons, List.append_assoc, ← ih, ht, ← List.drop_drop, ht, List.drop_left]
theorem dec_cases (b : List UInt8) : ((decT b).2 = 0 ∧ encIs (decT b).1 = b ∧ validT (decT b).1 = true) ∨ decT b = ([], 4) := by
  unfold decT
  simp only
  obtain ⟨r, hr⟩ : ∃ r, rL b 32 (0, false) = r := ⟨_, rfl⟩
  rw [hr]
  obtain ⟨l, q, f⟩ := r
  split
  · rename_i hc
    rw [Bool.and_eq_true, decide_eq_true_eq] at hc
    obtain ⟨he, hv⟩ := hc
    unfold rEnd at he
    simp only at he
    split at he
    · cases he
    · rename_i hq
      simp only [Bool.or_eq_true, decide_eq_true_eq, not_or, Bool.not_eq_true] at hq
      obtain ⟨rfl, hq⟩ := hq
      refine .inl ⟨rfl, ?_, hv⟩
      simp only
      unfold rL at hr
      simp only [Bool.false_eq_true, if_false] at hr
      unfold rdL at hr
      cases hd : rdB b 0 0 32 with
      | none => rw [hd] at hr; simp at hr
      | some r2 =>
        obtain ⟨n, m⟩ := r2
        rw [hd] at hr
        simp only at hr
        obtain ⟨hdi, hn0, hn1⟩ := rdB_some hd
        cases hn : rdN b n.toNat (0 + m) with
        | none => rw [hn] at hr; simp at hr
        | some r3 =>
          obtain ⟨l3, q3⟩ := r3
          rw [hn] at hr
          simp only [Prod.mk.injEq, and_true] at hr
          obtain ⟨rfl, rfl⟩ := hr
          have hl := (rdN_len hn).1
          have ho := rdN_out _ _ _ _ hn
          obtain ⟨_, rfl, t, ht⟩ := rdI_out hdi
          have e : (l3.length : Int) = n := by omega
          rw [Nat.zero_add] at ho
          rw [List.drop_zero] at ht
          rw [encIs, e]
          have e3 : b.drop q3 = [] := List.drop_eq_nil_of_le (by omega)
          rw [e3, List.append_nil] at ho
          rw [← ho]
          conv => lhs; rw [ht]
          rw [List.drop_left, ← ht]
  · exact .inr rfl
theorem encS_true {l : List Int} (h : validT l = true) : encS l = encIs l := by unfold encS; rw [h]; rfl
theorem encS_false {l : List Int} (h : validT l = false) : encS l = [] := by unfold encS; rw [h]; rfl
theorem encS_len {l : List Int} : (encS l).length ≤ 10010 := by
  cases h : validT l
  · rw [encS_false h]; simp
  · rw [encS_true h]; exact encIs_len (valid_fits h) (by have := valid_len h; omega)
theorem decT_encS (l : List Int) : decT (encS l) = if validT l then (l, 0) else ([], 4) := by
  cases h : validT l
  · rw [encS_false h]; rfl
  · rw [encS_true h, decT_enc h]; rfl
theorem RetB.raw {l : List UInt8} {w : World} {base : Nat} {v : Value} (h : BRow 5 w base v l) : Bytes [] w v l := BRow.bytes (F := []) h (fun f hf => by cases hf)
end Go.Ti
namespace Go.Proofs.Ytdelemmoiaiooaa
open Go.RowKit Go.Bs Go.Cl Go.Rw Go.Ti Go.Wi
set_option maxRecDepth 100000 in
theorem same_any (v1 v2 : Value) (l1 l2 : List UInt8) (w : World) (h1 : Bytes [] w v1 l1) (h2 : Bytes [] w v2 l2) : Calls Try.prog 13 #[v1, v2] w fun e w' => e = .returned (.bool (decide (l1 = l2))) ∧ w = w' := by
  have k1 := run_str h1 26 5 9 Try.underlying26 Try.underlying5 Try.underlying9
  have k2 := run_str h2 26 5 9 Try.underlying26 Try.underlying5 Try.underlying9
  go_enter Try.func13, Try.ntmps13
  by_cases h : l1 = l2
  · subst h
    go_wp2
    go_ret
    exact ⟨by simp, rfl⟩
  · have hs : ¬ strOf l1 = strOf l2 := fun e => h (strOf_inj e)
    go_wp2
    go_ret
    refine ⟨?_, rfl⟩
    have e : ∀ l : List UInt8, (strOf l).toList = l := fun l => ByteArray.toList_mk l
    simp [h, e]
set_option maxRecDepth 100000 in
set_option maxHeartbeats 1000000 in
theorem sameints_any (v1 v2 : Value) (l m : List Int) (w : World) (hl : l.length ≤ 1000000) (hm : m.length ≤ 1000000) (h1 : SlT w v1 l) (h2 : SlT w v2 m) : Calls Try.prog 19 #[v1, v2] w fun e w' => e = .returned (.bool (decide (l = m))) ∧ Below w.heap.size w w' := by
  obtain ⟨a, cap, rfl⟩ := Raw.slice h1
  obtain ⟨a2, cap2, rfl⟩ := Raw.slice h2
  have H1 := Lib.hid h1; have H2 := Lib.hid h2; clear h1 h2
  by_cases hlen : l.length = m.length
  · go_enter Try.func19, Try.ntmps19
    go_wp2
    go_loopw [5] (fun i wr => ∃ k : Nat, k ≤ l.length ∧ i = .int .i64 k ∧ Below w.heap.size w wr ∧ ∀ j, j < k → at_ l j = at_ m j) (fun i _ => l.length - (intOf i).toNat)
    case atStart => exact ⟨0, Nat.zero_le _, rfl, Below.refl _ _, fun j hj => by omega⟩
    case round =>
      obtain ⟨k, hk, rfl, hbel, heq⟩ := hrel
      have Hbel := Lib.hid hbel
      have Heq := Lib.hid heq
      clear heq
      by_cases hlt : k < l.length
      · have hlt2 : k < m.length := by omega
        obtain ⟨b, off, rfl, hb, h0⟩ := (H1.out.below hbel).elem hlt
        obtain ⟨b2, off2, rfl, hb2, h02⟩ := (H2.out.below hbel).elem hlt2
        clear hbel
        by_cases he : at_ l k = at_ m k
        · rw [he] at h0
          go_wp2
          refine Txt.wp_txt (by kernel_rfl) (by kernel_rfl) ?_
          go_wp2
          refine Txt.DrawPost.mk0 (by rfl) ?_
          go_wp2
          go_roundw
          case rel => exact ⟨k + 1, hlt, by go_num, Hbel.out.drew, fun j hj => by
            rcases Nat.lt_or_ge j k with h | h
            · exact Heq.out j h
            · obtain rfl : j = k := by omega
              exact he⟩
          case measure => simp [intOf]; omega
        · have hne : l ≠ m := fun e => he (by rw [e])
          have Hne := Lib.hid hne
          clear hne
          go_wp2
          refine Txt.wp_txt (by kernel_rfl) (by kernel_rfl) ?_
          go_wp2
          refine Txt.DrawPost.mk0 (by rfl) ?_
          go_wp2
          go_ret
          exact ⟨by simp [Hne.out], Hbel.out.drew⟩
      · obtain rfl : k = l.length := by omega
        have he : Hid (l = m) := Lib.hid (List.ext_getElem? fun i => by
          rcases Nat.lt_or_ge i l.length with h | h
          · rw [at_get h, at_get (l := m) (by omega), Heq.out i h]
          · rw [List.getElem?_eq_none h, List.getElem?_eq_none (by omega)])
        go_wp2
        go_ret
        exact ⟨by simp [he.out], Hbel.out⟩
  · have hne : Hid (l ≠ m) := Lib.hid (fun e => hlen (by rw [e]))
    have hlen2 : ¬ (l.length : Int) = m.length := by omega
    go_enter Try.func19, Try.ntmps19
    go_wp2
    go_ret
    exact ⟨by simp [hne.out], Below.refl _ _⟩
end Go.Proofs.Ytdelemmoiaiooaa
