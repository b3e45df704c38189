/- names: NamesOwners -/
import Derived.Test.YtfgbkfifiioeiaaNl
namespace Go.Nm
open Go Go.RowKit Go.Bs Go.Cl Go.Rw Go.Wi
structure Cl3 where
  fr : Int
  op : Int
  s : List UInt8
def enc3 (x : Cl3) : List Value := [.int .i64 x.fr, .int .i64 x.op, .string (strOf x.s)]
theorem enc3_len (x : Cl3) : (enc3 x).length = 3 := rfl
def clAt (l : List Cl3) (k : Nat) : Cl3 := l.getD k ⟨0, 0, []⟩
theorem cl_get {l : List Cl3} {i : Nat} (h : i < l.length) : l[i]? = some (clAt l i) := by simp [clAt, h]
theorem enc3_one (l : List Cl3) : ∀ u ∈ l.flatMap enc3, u.oneCell' = true := by
  intro u hu
  obtain ⟨x, _, h⟩ := List.mem_flatMap.1 hu
  simp [enc3] at h
  rcases h with rfl | rfl | rfl <;> rfl
def Sl3 (w : World) (v : Value) (l : List Cl3) : Prop := Raw [] 3 w v l.length (l.flatMap enc3)
theorem Sl3.elem {w : World} {a : Option Addr} {n c : Nat} {l : List Cl3} (h : Sl3 w (.slice a n c) l) {i : Nat} (hi : i < l.length) :
    ∃ b off, a = some ⟨b, off, none⟩ ∧ b < w.heap.size ∧ w.cell? ⟨b, off + i * 3, none⟩ = some (.int .i64 (clAt l i).fr) ∧ w.cell? ⟨b, off + i * 3 + 1, none⟩ = some (.int .i64 (clAt l i).op) ∧ w.cell? ⟨b, off + i * 3 + 2, none⟩ = some (.string (strOf (clAt l i).s)) := by
  have hget := cl_get hi
  rcases Raw.cases h with ⟨h0, _⟩ | ⟨_, b, off, cap, hv, _, _, hb, _, hc⟩
  · omega
  · cases hv
    exact ⟨b, off, rfl, hb, hc _ _ (flat_get enc3 enc3_len l i 0 _ hget (by omega)), hc _ _ (flat_get enc3 enc3_len l i 1 _ hget (by omega)), hc _ _ (flat_get enc3 enc3_len l i 2 _ hget (by omega))⟩
theorem Sl3.below {w w1 : World} {v : Value} {l : List Cl3} (h : Sl3 w v l) (hb : Below w.heap.size w w1) : Sl3 w1 v l := Raw.below h hb
theorem own_task {X : List Nm} {op : Int} {s : List UInt8} {t : Int} (he : (doN X op s t).2.2 = 0) (ho : op ≠ 0) : (doN X op s t).2.1 = t := by
  unfold doN at he ⊢
  split at he
  · simp at he
  rename_i h1
  rw [if_neg h1, if_neg ho] at *
  split at he
  · rename_i h2; rw [if_pos h2]; simp only at he ⊢; rw [if_pos he]
  · rename_i h2; rw [if_neg h2]; simp only at he ⊢; rw [if_pos he]
theorem own_look {X : List Nm} {s : List UInt8} {t : Int} (he : (doN X 0 s t).2.2 = 0) : (doN X 0 s t).2.1 = fnd X s := by
  have h := look_do X s t
  rw [h] at he ⊢
  split at he
  · simp at he
  · rename_i h1; rw [if_neg h1]
theorem reg_ok {X : List Nm} {s : List UInt8} {t : Int} (h : (regN X s t).2 = 0) : (fnd X s = 0 ∨ fnd X s = t) ∧ (validN X = true → t ≠ 0 → fnd (regN X s t).1 s = t) := by
  unfold regN at h ⊢
  split
  · rename_i h1; exact ⟨.inr h1, fun _ _ => h1⟩
  rename_i h1
  rw [if_neg h1] at h
  split
  · rename_i h2; rw [if_pos h2] at h; simp at h
  rename_i h2
  rw [if_neg h2] at h
  split
  · rename_i h3; rw [if_pos h3] at h; simp at h
  · have h0 : fnd X s = 0 := by omega
    exact ⟨.inl h0, fun hv _ => fnd_ins_same (x := ⟨s, t⟩) ((fnd_mem (valid_pos hv)).1 h0)⟩
theorem rel_ok {X : List Nm} {s : List UInt8} {t : Int} (h : (relN X s t).2 = 0) : fnd X s = t ∧ fnd (relN X s t).1 s = 0 := by
  unfold relN at h ⊢
  split
  · rename_i h1; rw [if_pos h1] at h; simp at h
  rename_i h1
  rw [if_neg h1] at h
  split
  · rename_i h2; exact ⟨h2, fnd_del_same X s⟩
  · rename_i h2; rw [if_neg h2] at h; simp at h
theorem own_reg {X : List Nm} {s : List UInt8} {t : Int} (hv : validN X = true) (ht : t ≠ 0) (he : (doN X 1 s t).2.2 = 0) : (fnd X s = 0 ∨ fnd X s = t) ∧ fnd (doN X 1 s t).1 s = t := by
  unfold doN at he ⊢
  split at he
  · simp at he
  rename_i h1
  rw [if_neg (by decide), if_pos rfl] at he
  rw [if_neg h1, if_neg (by decide), if_pos rfl]
  have := reg_ok he
  exact ⟨this.1, this.2 hv ht⟩
theorem own_rel {X : List Nm} {s : List UInt8} {t : Int} (he : (doN X 2 s t).2.2 = 0) : fnd X s = t ∧ fnd (doN X 2 s t).1 s = 0 := by
  unfold doN at he ⊢
  split at he
  · simp at he
  rename_i h1
  rw [if_neg (by decide), if_neg (by decide)] at he
  rw [if_neg h1, if_neg (by decide), if_neg (by decide)]
  exact rel_ok he
theorem own_fail {X : List Nm} {op : Int} {s : List UInt8} {t : Int} (he : (doN X op s t).2.2 ≠ 0) : (doN X op s t).1 = X := by
  unfold doN at he ⊢
  split
  · rfl
  rename_i h1
  rw [if_neg h1] at he
  split
  · rfl
  rename_i h2
  rw [if_neg h2] at he
  split
  · rename_i h3
    rw [if_pos h3] at he
    simp only at he ⊢
    unfold regN at he ⊢
    split
    · rfl
    split
    · rfl
    split
    · rfl
    · rename_i a b c; rw [if_neg a, if_neg b, if_neg c] at he; simp at he
  · rename_i h3
    rw [if_neg h3] at he
    simp only at he ⊢
    unfold relN at he ⊢
    split
    · rfl
    split
    · rename_i a b; rw [if_neg a, if_pos b] at he; simp at he
    · rfl
theorem look_fnd {X : List Nm} (op0 : Int) {s : List UInt8} {t : Int} : (doN X 0 s t).1 = X := by unfold doN; split <;> rfl
theorem fnd_bad {X : List Nm} (hv : validN X = true) {n : List UInt8} (hn : nmOK n = false) : fnd X n = 0 := fnd_none fun x hx e => by
  have := valid_ok hv x hx
  simp only [okE, Bool.and_eq_true] at this
  rw [e, hn] at this
  simp at this
end Go.Nm
namespace Go.Proofs.Ytfgbkfifiioeiaa
open Go.ChangeShapes Go.WideShapes Go.ChangeAt Go.RowKit Go.Bs Go.Cl Go.Rw Go.Rd Go.Deep Go.Joins Go.Nm Go.Wi
set_option maxRecDepth 100000 in
set_option maxHeartbeats 8000000 in
theorem owners_any (lv : Value) (l : List Cl3) (nm : List UInt8) (w : World) (hL : Sl3 w lv l) :
    Calls Try.prog 5 #[lv, .string (strOf nm)] w fun e w' => e = .returned (.bool true) ∧ Below w.heap.size w w' := by
  obtain ⟨la, lc, rfl⟩ := Raw.slice hL
  have HL := Lib.hid hL; clear hL
  have zn : ((strOf nm).size : Int) = nm.length := by rw [strOf_size]
  have ZN := Lib.hid zn
  clear zn
  by_cases hc0 : l.length ≤ 40 ∧ nm.length ≤ 100
  rotate_left
  · have HNC := Lib.hid hc0
    clear hc0
    go_enter Try.func5, Try.ntmps5
    go_wp2_with fail
    refine (awake_any _).mono ?_
    rintro e w1 ⟨rfl, hb1⟩
    go_wp2_with fail
    all_goals first
      | (go_ret
         exact ⟨rfl, hb1⟩)
      | (exfalso
         have h1 := HNC.out
         have h2 := ZN.out
         (try simp only [decide_eq_false_iff_not, decide_eq_true_eq, beq_eq_false_iff_ne, ne_eq] at *)
         apply h1
         refine ⟨?_, ?_⟩ <;> first | omega | assumption)
  obtain ⟨hl40, hn100⟩ := hc0
  have g1 : ¬ (40 : Int) < (l.length : Int) := by omega
  have g2 : ¬ (100 : Int) < ((strOf nm).size : Int) := by have := ZN.out; omega
  have v0 : validN [] = true := rfl
  go_enter Try.func5, Try.ntmps5
  go_wp2_with fail
  refine (awake_any _).mono ?_
  rintro e w1 ⟨rfl, hb1⟩
  go_wp2_with fail
  have hnew : Calls Try.prog 21 #[] w1 fun e w' => e = .returned (.slice none 0 0) ∧ w1 = w' := by
    go_enter Try.func21, Try.ntmps21
    go_wp2
    go_ret
    exact ⟨rfl, rfl⟩
  refine hnew.mono ?_
  rintro e w' ⟨rfl, rfl⟩
  clear hnew
  go_wp2_with fail
  refine (encode_any _ [] _ (by simp) (Raw.empty _ _ _) (fun x hx => by cases hx)).mono ?_
  rintro e w2 ⟨v2, rfl, hr2, hb2⟩
  have bel2 := hb1.trans (hb2.mono hb1.size)
  have HB2 := Lib.hid (BRow.bytes (F := []) hr2 (fun f hf => by cases hf))
  clear hr2 hb2 hb1
  go_wp2
  go_loopw [5, 6, 32] (fun iv ow i wr => ∃ (k : Nat) (X : List Nm), k ≤ l.length ∧ i = .int .i64 k ∧ ow = .int .i64 (fnd X nm) ∧ validN X = true ∧ Bytes [] wr iv (encV X) ∧ Below w.heap.size w wr) (fun _ _ i _ => l.length - (intOf i).toNat)
  case atStart => exact ⟨0, [], Nat.zero_le _, rfl, rfl, v0, HB2.out, bel2⟩
  case round =>
    clear HB2 bel2 v0
    obtain ⟨k, X, hk, rfl, rfl, hv, hB, bel⟩ := hrel
    obtain ⟨ia, ic, rfl⟩ := Raw.slice hB
    have HV := Lib.hid hv; have HB := Lib.hid hB
    clear hv hB
    have hsz := bel.size
    obtain ⟨F, hF⟩ : ∃ F, fnd X nm = F := ⟨_, rfl⟩
    rw [hF]
    have HF := Lib.hid hF
    clear hF
    by_cases hlt : k < l.length
    · obtain ⟨b, off, hla, hb, h0, h1, h2⟩ := (HL.out.below bel).elem hlt
      subst hla
      obtain ⟨z, hz⟩ : ∃ z, clAt l k = z := ⟨_, rfl⟩
      rw [hz] at h0 h1 h2
      clear hz
      have zs : ((strOf z.s).size : Int) = z.s.length := by rw [strOf_size]
      have ZS := Lib.hid zs
      clear zs
      have bel1 := bel.alloc hsz (.cells #[.int .i64 z.fr, .int .i64 z.op, .string (strOf z.s)] 49)
      by_cases hc : ((z.s.length ≤ 100 ∧ (1 ≤ z.fr ∧ z.fr ≤ 10 ∧ z.fr ≠ 2)) ∧ (0 ≤ z.op ∧ z.op ≤ 2))
      rotate_left
      · have HNC := Lib.hid hc
        clear hc
        go_wp2_with fail
        all_goals first
          | (go_ret
             first
               | exact ⟨rfl, bel1⟩
               | exact ⟨rfl, bel.alloc hsz _⟩)
          | (exfalso
             have q1 := HNC.out
             have q2 := ZS.out
             (try simp only [decide_eq_false_iff_not, decide_eq_true_eq, beq_eq_false_iff_ne, ne_eq] at *)
             apply q1
             refine ⟨⟨?_, ?_, ?_, ?_⟩, ?_, ?_⟩ <;> first | omega | assumption)
      obtain ⟨⟨hs1, f1, f2, f3⟩, o1, o2⟩ := hc
      have g3 : ¬ (100 : Int) < ((strOf z.s).size : Int) := by have := ZS.out; omega
      have g4 : ¬ z.fr < 1 := by omega
      have g5 : ¬ 10 < z.fr := by omega
      have g6 : (z.fr == 2) = false := by simp [f3]
      have g7 : ¬ z.op < 0 := by omega
      have g8 : ¬ 2 < z.op := by omega
      have HF3 := Lib.hid f3
      clear f3
      obtain ⟨E, hE⟩ : ∃ E, E = wr.heap.size := ⟨_, rfl⟩
      obtain ⟨wa, hwa⟩ : ∃ W, W = wr.alloc (.cells #[.int .i64 z.fr, .int .i64 z.op, .string (strOf z.s)] 49) := ⟨_, rfl⟩
      have hal : Below wr.heap.size wr wa := by rw [hwa]; exact (Below.refl _ wr).alloc (Nat.le_refl _) _
      have HX : Hid (wa.heap[E]? = some (.cells #[.int .i64 z.fr, .int .i64 z.op, .string (strOf z.s)] 49 (0, 0))) := Lib.hid (by rw [hwa, hE]; exact heap_alloc_new wr _)
      have HBa := Lib.hid (Raw.below HB.out hal)
      have bela := bel.trans (hal.mono hsz)
      have HWA := Lib.hid hwa; have HEE := Lib.hid hE
      obtain ⟨DD, hDD⟩ : ∃ D, doN X z.op z.s z.fr = D := ⟨_, rfl⟩
      have hvd := valid_do (op := z.op) (s := z.s) HV.out ⟨f1, f2⟩
      rw [hDD] at hvd
      have HVD := Lib.hid hvd; have HDD := Lib.hid hDD
      clear hvd hDD hal hwa hE HB bel1
      go_wp2_with fail
      rw [← HWA.out]
      refine (ask_any _ X z.fr z.op z.s _ HV.out ⟨f1, f2, HF3.out⟩ ⟨o1, o2⟩ (by omega) HBa.out).mono ?_
      rw [HDD.out]
      rintro e w5 ⟨v5, rfl, hr5, hb5⟩
      (try rw [← HEE.out])
      have bel5 := bela.trans (hb5.mono bela.size)
      have HB5 := Lib.hid (BRow.bytes (F := []) hr5 (fun f hf => by cases hf))
      have HX5 := Lib.hid ((hb5.block E (Array.getElem?_eq_some_iff.1 HX.out).1).trans HX.out)
      clear hr5 hb5 h0 h1 h2 HWA HEE HBa HX bela
      have c_0 : w5.cell? ⟨E, 0, none⟩ = some (.int .i64 z.fr) := box_at HX5.out rfl
      have c_1 : w5.cell? ⟨E, 1, none⟩ = some (.int .i64 z.op) := box_at HX5.out rfl
      have c_2 : w5.cell? ⟨E, 2, none⟩ = some (.string (strOf z.s)) := box_at HX5.out rfl
      obtain ⟨Y, task, ee⟩ := DD
      simp only at HB5 HVD ⊢
      have HVY : Hid (validN Y = true) := Lib.hid HVD.out
      by_cases he : ee = 0
      rotate_left
      · have hfy : fnd Y nm = F := by
          have := own_fail (X := X) (op := z.op) (s := z.s) (t := z.fr) (by rw [HDD.out]; exact he)
          rw [HDD.out] at this
          simp only at this
          rw [this]; exact HF.out
        have HFY := Lib.hid hfy
        have e0 : (ee == 0) = false := by simp [he]
        clear he hfy
        go_wp2
        all_goals
          go_roundw
          case rel => exact ⟨k + 1, Y, by omega, by go_num, by rw [HFY.out], HVY.out, HB5.out, bel5⟩
          case measure => simp [intOf]; omega
      subst he
      have q3 : ((strOf z.s).toList == (strOf nm).toList) = decide (z.s = nm) := by rw [strOf_list, strOf_list]; rw [Bool.eq_iff_iff]; simp
      have hop : z.op = 0 ∨ z.op = 1 ∨ z.op = 2 := by omega
      by_cases hsn : z.s = nm
      · have q4 : ((strOf z.s).toList == (strOf nm).toList) = true := by rw [q3]; simp [hsn]
        clear q3
        rcases hop with ho | ho | ho
        · have hD := HDD.out
          rw [ho] at hD
          have htk := own_look (X := X) (s := z.s) (t := z.fr) (by rw [hD])
          rw [hD] at htk
          rw [hsn, HF.out] at htk
          simp only at htk
          subst htk
          have hfy : fnd Y nm = task := by
            have := look_fnd (X := X) 0 (s := z.s) (t := z.fr)
            rw [hD] at this
            simp only at this
            rw [this]; exact HF.out
          have HFY := Lib.hid hfy
          have e1 : (z.op == 0) = true := by simp [ho]
          have e2 : (z.op == 1) = false := by simp [ho]
          have e3 : (z.op == 2) = false := by simp [ho]
          have e4 : (z.op != 0) = false := by simp [ho]
          clear hD ho hfy hsn
          go_wp2
          go_roundw
          case rel => exact ⟨k + 1, Y, by omega, by go_num, by rw [HFY.out], HVY.out, HB5.out, bel5⟩
          case measure => simp [intOf]; omega
        · have hD := HDD.out
          rw [ho] at hD
          have htk := own_task (X := X) (op := z.op) (s := z.s) (t := z.fr) (by rw [HDD.out]) (by omega)
          have hrg := own_reg (X := X) (s := z.s) (t := z.fr) HV.out (by omega) (by rw [hD])
          rw [HDD.out] at htk
          rw [hD] at hrg
          rw [hsn, HF.out] at hrg
          simp only at htk hrg
          subst htk
          have HFY := Lib.hid hrg.2
          have e1 : (z.op == 0) = false := by simp [ho]
          have e2 : (z.op == 1) = true := by simp [ho]
          have e4 : (z.op != 0) = true := by simp [ho]
          have e5 : F = 0 ∨ F = z.fr := hrg.1
          clear hD ho hrg hsn
          rcases e5 with rfl | rfl
          · go_wp2
            go_roundw
            case rel => exact ⟨k + 1, Y, by omega, by go_num, by rw [HFY.out], HVY.out, HB5.out, bel5⟩
            case measure => simp [intOf]; omega
          · go_wp2
            go_roundw
            case rel => exact ⟨k + 1, Y, by omega, by go_num, by rw [HFY.out], HVY.out, HB5.out, bel5⟩
            case measure => simp [intOf]; omega
        · have hD := HDD.out
          rw [ho] at hD
          have htk := own_task (X := X) (op := z.op) (s := z.s) (t := z.fr) (by rw [HDD.out]) (by omega)
          have hrl := own_rel (X := X) (s := z.s) (t := z.fr) (by rw [hD])
          rw [HDD.out] at htk
          rw [hD] at hrl
          rw [hsn, HF.out] at hrl
          simp only at htk hrl
          subst htk
          have HFY := Lib.hid hrl.2
          have e1 : (z.op == 0) = false := by simp [ho]
          have e2 : (z.op == 1) = false := by simp [ho]
          have e3 : (z.op == 2) = true := by simp [ho]
          have e4 : (z.op != 0) = true := by simp [ho]
          have e5 : F = z.fr := hrl.1
          clear hD ho hrl hsn
          subst e5
          go_wp2
          go_roundw
          case rel => exact ⟨k + 1, Y, by omega, by go_num, by rw [HFY.out], HVY.out, HB5.out, bel5⟩
          case measure => simp [intOf]; omega
      · have q4 : ((strOf z.s).toList == (strOf nm).toList) = false := by rw [q3]; simp [hsn]
        have hfy : fnd Y nm = F := by
          have := fnd_do (l := X) (op := z.op) (s := z.s) (n := nm) (t := z.fr) (fun e => hsn e.symm)
          rw [HDD.out, HF.out] at this
          exact this
        have HFY := Lib.hid hfy
        clear q3 hsn hfy
        rcases hop with ho | ho
        · have e1 : (z.op == 0) = true := by simp [ho]
          have e4 : (z.op != 0) = false := by simp [ho]
          clear ho
          go_wp2
          go_roundw
          case rel => exact ⟨k + 1, Y, by omega, by go_num, by rw [HFY.out], HVY.out, HB5.out, bel5⟩
          case measure => simp [intOf]; omega
        · have htk := own_task (X := X) (op := z.op) (s := z.s) (t := z.fr) (by rw [HDD.out]) (by omega)
          rw [HDD.out] at htk
          simp only at htk
          subst htk
          have e1 : (z.op == 0) = false := by simp; omega
          have e4 : (z.op != 0) = true := by simp; omega
          clear ho
          go_wp2
          go_roundw
          case rel => exact ⟨k + 1, Y, by omega, by go_num, by rw [HFY.out], HVY.out, HB5.out, bel5⟩
          case measure => simp [intOf]; omega
    · obtain rfl : k = l.length := by omega
      have hlk := look_do X nm 9
      obtain ⟨Z, hZ⟩ : ∃ Z, doN X 0 nm 9 = Z := ⟨_, rfl⟩
      rw [hZ, HF.out] at hlk
      have HZ := Lib.hid hZ; have HLK := Lib.hid hlk
      clear hZ hlk
      go_wp2_with fail
      refine (ask_any _ X 9 0 nm _ HV.out (by decide) (by decide) (by omega) HB.out).mono ?_
      rw [HZ.out]
      rintro e w5 ⟨v5, rfl, hr5, hb5⟩
      have bel5 := bel.trans (hb5.mono hsz)
      rw [HLK.out]
      clear hr5 hb5
      cases hn : nmOK nm
      · have hF0 := fnd_bad HV.out hn
        rw [HF.out] at hF0
        subst hF0
        simp only [if_true]
        clear hn
        go_wp2
        go_ret
        exact ⟨rfl, bel5⟩
      · simp only [Bool.true_eq_false, if_false]
        by_cases h0 : F = 0
        · subst h0
          simp only [if_true]
          go_wp2
          go_ret
          exact ⟨rfl, bel5⟩
        · rw [if_neg h0]
          have e0 : (F == 0) = false := by simp [h0]
          clear h0
          go_wp2
          go_ret
          exact ⟨by simp, bel5⟩
set_option maxRecDepth 100000 in
theorem call_of {H : Type} {enc : TypeId × Value → H} {W : World} (fuel : Nat) (cs : List Value) (x : DataW H × List MemPlace)
    (h : DataW.trod enc Try.prog W 0 (fun _ => true) true fuel 49 cs = some x) : ∃ y : Cl3, cs = enc3 y ∧ True := by
  obtain ⟨d, p⟩ := x
  obtain ⟨_, _, _, _, hlen, _⟩ := DataW.trod_struct Try.underlying49 h
  rw [Try.cells49'] at hlen
  match cs, hlen with
  | [c0, c1, c2], _ =>
    have g0 := Rl.trod_leaf (e := 3) (o := 0) [0] (by kernel_rfl) (by kernel_rfl) (by rw [Try.cells49']; exact Nat.le_refl _) h
    have g1 := Rl.trod_leaf (e := 3) (o := 1) [1] (by kernel_rfl) (by kernel_rfl) (by rw [Try.cells49']; exact Nat.le_refl _) h
    have g2 := Rl.trod_leaf (e := 9) (o := 2) [2] (by kernel_rfl) (by kernel_rfl) (by rw [Try.cells49']; exact Nat.le_refl _) h
    rw [Try.cells3'] at g0 g1
    rw [Try.cells9'] at g2
    obtain ⟨_, _, g0, _⟩ := g0
    obtain ⟨_, _, g1, _⟩ := g1
    obtain ⟨_, _, g2, _⟩ := g2
    obtain ⟨k0, e0, _⟩ := DataW.trod_int Try.underlying3 g0
    obtain ⟨k1, e1, _⟩ := DataW.trod_int Try.underlying3 g1
    obtain ⟨k2, e2, _, hl⟩ := DataW.trod_string Try.underlying9 g2
    simp at e0 e1 e2
    exact ⟨⟨k0, k1, k2.data.toList⟩, by simp [enc3, e0, e1, e2, ← strOf_of], trivial⟩
set_option maxRecDepth 100000 in
theorem read_calls {H : Type} {enc : TypeId × Value → H} {W : World} {base : Nat} {v : Value} {d : DataW H} {p : List MemPlace} (hv : Value.okWide Try.prog W .any base 46 v)
    (h : DataW.Trod enc Try.prog W 0 (fun _ => true) true 46 v d p) : ∃ l : List Cl3, Sl3 W v l := by
  obtain ⟨l, h1, _⟩ := read_val (rd := enc3) (Rl := fun _ => True) Try.cells49' (by omega) enc3_len Try.underlying46 (fun y _ u hu => by
    simp [enc3] at hu
    rcases hu with rfl | rfl | rfl <;> rfl) call_of hv h
  exact ⟨l, h1⟩
end Go.Proofs.Ytfgbkfifiioeiaa
