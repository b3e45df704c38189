/- Revive: the reference's Handle -/
import Derived.Test.YthmnhpakgjnngaaGreatDoorYc
import Derived.Test.YthmnhpakgjnngaaGreatDoorYh
import Derived.Test.YthmnhpakgjnngaaGreatDoorYi
import Derived.Deep.CutRange
import Derived.WalkMore
namespace Go.Rv
open Go Go.RowKit Go.Bs Go.Cl Go.Rw Go.Dt
theorem tmod_two {n : Int} (h : 0 ≤ n) : n.tmod 2 = 0 ∨ n.tmod 2 = 1 := by
  rw [Int.tmod_eq_emod_of_nonneg h]; omega
end Go.Rv
namespace Go.Proofs.YthmnhpakgjnngaaGreatDoor
open Go.RowKit Go.Bs Go.Cl Go.Rw Go.Dt Go.Rv
theorem hv_not {x : Sv} {m : Ms} {dn : Nat} (h : ¬ mine m.kind) : handleV x m dn = none := by
  have h4 : m.kind ≠ 4 := fun e => h (.inl e)
  have h5 : m.kind ≠ 5 := fun e => h (.inr (.inl e))
  have h7 : m.kind ≠ 7 := fun e => h (.inr (.inr e))
  unfold handleV
  rw [if_neg h5, if_neg h4, if_neg h7]
  split <;> rfl
theorem hv_dst {x : Sv} {m : Ms} {dn : Nat} (h : m.dst ≠ 1) : handleV x m dn = none := by
  unfold handleV
  rw [if_neg (by simp [h])]
theorem hv_perm {x : Sv} {m : Ms} {dn : Nat} (h : permP m dn = false) : handleV x m dn = none := by
  unfold handleV
  rw [if_neg (by simp [h])]
theorem hv_5 {x : Sv} {m : Ms} {dn : Nat} (hd : m.dst = 1) (h : permP m dn = true) (hk : m.kind = 5) : handleV x m dn = failedV x m := by
  unfold handleV
  rw [if_pos (by simp [hd, h]), if_pos hk]
theorem hv_4 {x : Sv} {m : Ms} {dn : Nat} (hd : m.dst = 1) (h : permP m dn = true) (hk : m.kind = 4) : handleV x m dn = if m.a0 = 1 then some (alarmV x) else none := by
  unfold handleV
  rw [if_pos (by simp [hd, h]), if_neg (by omega), if_pos hk]
theorem hv_7 {x : Sv} {m : Ms} {dn : Nat} (hd : m.dst = 1) (h : permP m dn = true) (hk : m.kind = 7) : handleV x m dn = some (pongV x m.src m.a0, []) := by
  unfold handleV
  rw [if_pos (by simp [hd, h]), if_neg (by omega), if_neg (by omega), if_pos hk]
theorem mode_eq {l : List Hs} {t c : Int} (h : validH l = true) : 1 - (cntH (failH l t c) t).tmod 2 = modeH l t ∧ 0 ≤ cntH (failH l t c) t ∧ cntH (failH l t c) t ≤ 1000000000 := by
  have hc := cnt_ok h t
  rw [cnt_fail h, if_pos rfl]
  have h0 : 0 ≤ min (cntH l t + 1) 1000000000 := by omega
  refine ⟨?_, by omega, by omega⟩
  unfold modeH
  rw [Int.tmod_eq_emod_of_nonneg h0]
  split <;> omega
/-- what the reference's Handle returns -/
def RetHR (r : Option (Sv × List Ef)) (er : Int) (F : List Nat) (w : World) (e : Ending) (w' : World) : Prop := Below w.heap.size w w' ∧ match r with
  | none => e = .returned (.tuple #[.agg #[.int .i64 0, .slice none 0 0, .slice none 0 0], .slice none 0 0, .int .i64 er])
  | some (x, es) => ∃ sv ev, e = .returned (.tuple #[sv, ev, .int .i64 0]) ∧ SvN F w' sv x ∧ Raw F 15 w' ev es.length (es.flatMap encE)
theorem raw_3 {F : List Nat} {S M R k n : Nat} {w : World} {v : Value} {xs : List Value} (h : Raw (S :: M :: R :: F) k w v n xs) : Raw F k w v n xs := by
  obtain ⟨h1, ho, a, cap, rfl, h2, h3, h4⟩ := h
  refine ⟨h1, ho, a, cap, rfl, h2, h3, fun h0 => ?_⟩
  obtain ⟨b, off, rfl, h5, h6, h7⟩ := h4 h0
  exact ⟨b, off, rfl, h5, fun hm => h6 (by simp [hm]), h7⟩
theorem put_len9 {l : List Hs} (h : validH l = true) (t c : Int) : (failH l t c).length ≤ 10 := by
  have h1 := validH_len h
  have h2 := put_len l ⟨t, min (cntH l t + 1) 1000000000, c⟩ (validH_srt h)
  unfold failH; omega
set_option maxRecDepth 100000 in
set_option maxHeartbeats 4000000 in
theorem rhandle_bad (x : Sv) (wv hv : Value) (m : Ms) (da : Option Addr) (dn dc : Nat) (w : World) (hl1 : x.wt.length ≤ 1000) (hl2 : x.hs.length ≤ 1000) (h1 : Ints [] w wv x.wt) (h2 : SlH w hv x.hs) (hbad : validV x = false) :
    Calls Tryz.prog 20 #[.agg #[.int .i64 x.r, wv, hv], .agg (msgC m (.slice da dn dc))] w (RetHR none 1 [] w) := by
  have HV := Lib.hid hbad
  clear hbad
  obtain ⟨ms, md, mk, mq, m0, m1, m2, m3⟩ := m
  obtain ⟨wa, wc, rfl⟩ := Raw.slice h1
  obtain ⟨ha, hc, rfl⟩ := Raw.slice h2
  unfold msgC
  dsimp only
  obtain ⟨C1, hC1⟩ : ∃ C : Array Value, C = #[.int .i64 x.r, .slice wa x.wt.length wc, .slice ha x.hs.length hc] := ⟨_, rfl⟩
  obtain ⟨C2, hC2⟩ : ∃ C : Array Value, C = #[.int .i64 ms, .int .i64 md, .int .i64 mk, .int .i64 mq, .int .i64 m0, .int .i64 m1, .int .i64 m2, .int .i64 m3, .slice da dn dc] := ⟨_, rfl⟩
  obtain ⟨b1, hb1⟩ : ∃ X, X = w.alloc (.cells C1 27) := ⟨_, rfl⟩
  obtain ⟨b2, hb2⟩ : ∃ X, X = b1.alloc (.cells C2 31) := ⟨_, rfl⟩
  obtain ⟨w1, hb3⟩ : ∃ X, X = b2.alloc (.cells #[.int .i64 0, .slice none 0 0, .slice none 0 0] 27) := ⟨_, rfl⟩
  have z1 : b1.heap.size = w.heap.size + 1 := by rw [hb1]; simp
  have z2 : b2.heap.size = w.heap.size + 1 + 1 := by rw [hb2]; simp [z1]
  have e1 : Below w.heap.size w b1 := by rw [hb1]; exact (Below.refl _ w).alloc (Nat.le_refl _) _
  have n1 : b1.heap[w.heap.size]? = some (.cells C1 27 (0, 0)) := by rw [hb1]; exact heap_alloc_new w _
  have e2 : Below b1.heap.size b1 b2 := by rw [hb2]; exact (Below.refl _ b1).alloc (Nat.le_refl _) _
  have n2 : b2.heap[w.heap.size + 1]? = some (.cells C2 31 (0, 0)) := by rw [hb2, ← z1]; exact heap_alloc_new b1 _
  have e3 : Below b2.heap.size b2 w1 := by rw [hb3]; exact (Below.refl _ b2).alloc (Nat.le_refl _) _
  have n3 : w1.heap[w.heap.size + 1 + 1]? = some (.cells #[.int .i64 0, .slice none 0 0, .slice none 0 0] 27 (0, 0)) := by rw [hb3, ← z2]; exact heap_alloc_new b2 _
  have t2 := e1.trans (e2.mono e1.size)
  have bel1 := t2.trans (e3.mono t2.size)
  have HS1 := Lib.hid ((e3.block w.heap.size (by omega)).trans ((e2.block w.heap.size (by omega)).trans n1))
  have HM1 := Lib.hid ((e3.block (w.heap.size + 1) (by omega)).trans n2)
  have HR1 := Lib.hid n3
  rw [hC1] at HS1 hb1
  rw [hC2] at HM1 hb2
  have HW1 := Lib.hid hb1; have HW2 := Lib.hid hb2; have HW3 := Lib.hid hb3
  have HI1 := Lib.hid (Raw.below (raw_at (raw_at (raw_at h1 (N := w.heap.size + 1 + 1) (by omega)) (N := w.heap.size + 1) (by omega)) (N := w.heap.size) (Nat.le_refl _)) bel1)
  have HJ1 := Lib.hid (Raw.below (raw_at (raw_at (raw_at h2 (N := w.heap.size + 1 + 1) (by omega)) (N := w.heap.size + 1) (by omega)) (N := w.heap.size) (Nat.le_refl _)) bel1)
  clear hC1 hC2 hb1 hb2 hb3 e1 n1 e2 n2 e3 n3 t2 h1 h2 C1 C2
  go_enter Tryz.func20, Tryz.ntmps20
  go_upto_region 1 with (fail)
  rw [← HW1.out, ← HW2.out, ← HW3.out]
  obtain ⟨S, hS⟩ : ∃ A, A = w.heap.size := ⟨_, rfl⟩
  obtain ⟨M, hM⟩ : ∃ A, A = w.heap.size + 1 := ⟨_, rfl⟩
  obtain ⟨R, hR⟩ : ∃ A, A = w.heap.size + 1 + 1 := ⟨_, rfl⟩
  rw [← hR, ← hM, ← hS]
  rw [← hS] at HS1
  rw [← hM] at HM1
  rw [← hR] at HR1
  rw [← hR, ← hM, ← hS] at HI1 HJ1
  have hwS : w.heap.size ≤ S := by omega
  have hwM : w.heap.size ≤ M := by omega
  have hwR : w.heap.size ≤ R := by omega
  have hSM : S < M := by omega
  have hMR : M < R := by omega
  obtain ⟨W, hWe⟩ : ∃ W, W = w1 := ⟨_, rfl⟩
  have hz1 : W.heap.size ≤ w1.heap.size := by rw [hWe]; exact Nat.le_refl _
  have hRW : R < W.heap.size := by rw [hWe]; exact (Array.getElem?_eq_some_iff.1 HR1.out).1
  clear hS hM hR z1 z2 HW1 HW2 HW3 hWe
  have cS_0 := box_at HS1.out (j := 0) rfl
  have cS_1 := box_at HS1.out (j := 1) rfl
  have cS_2 := box_at HS1.out (j := 2) rfl
  go_wp2_with fail
  refine (rvalidV_any x _ _ w1 hl1 hl2 (Raw.to_nil HI1.out) (Raw.to_nil HJ1.out)).mono ?_
  rw [HV.out]
  rintro e w2 ⟨rfl, hb2⟩
  clear cS_0 cS_1 cS_2
  have HS2 := Lib.hid ((hb2.block S (Array.getElem?_eq_some_iff.1 HS1.out).1).trans HS1.out)
  have HM2 := Lib.hid ((hb2.block M (Array.getElem?_eq_some_iff.1 HM1.out).1).trans HM1.out)
  have HR2 := Lib.hid ((hb2.block R (Array.getElem?_eq_some_iff.1 HR1.out).1).trans HR1.out)
  have HI2 := Lib.hid (Raw.below HI1.out hb2)
  have HJ2 := Lib.hid (Raw.below HJ1.out hb2)
  have bel2 := bel1.trans (hb2.mono bel1.size)
  have hz2 := Nat.le_trans hz1 hb2.size
  clear HS1 HM1 HR1 HI1 HJ1
  have cR_0 := box_at HR2.out (j := 0) rfl
  have fR_0 := box_free HR2.out 0
  have cR_1 := box_at HR2.out (j := 1) rfl
  have fR_1 := box_free HR2.out 1
  have cR_2 := box_at HR2.out (j := 2) rfl
  have fR_2 := box_free HR2.out 2
  go_wp2
  refine bodyPost_ret (results_ctt rfl _ _ _ _ _ _ _ rfl (heap_set3 HR2.out _ _ _) Tryz.underlying27 rfl (by kernel_rfl)) rfl ?_
  refine ⟨bel2.trans ((keep_set3 w2 R _ _ _).below bel2.size (fun f hf => by rw [List.mem_singleton.1 hf]; exact hwR)), ?_⟩
  rfl
set_option maxRecDepth 100000 in
set_option maxHeartbeats 16000000 in
theorem rhandle_any (x : Sv) (wv hv : Value) (m : Ms) (da : Option Addr) (dn dc : Nat) (F : List Nat) (w : World) (hok : VOk x) (hF : ∀ f ∈ F, f < w.heap.size) (h1 : Ints F w wv x.wt) (h2 : Raw F 3 w hv x.hs.length (x.hs.flatMap encH)) :
    Calls Tryz.prog 20 #[.agg #[.int .i64 x.r, wv, hv], .agg (msgC m (.slice da dn dc))] w (RetHR (handleV x m dn) 23 F w) := by
  have hl1 : x.wt.length ≤ 1000 := by have := hok.len; omega
  have hl2 : x.hs.length ≤ 1000 := by have := validH_len hok.h; omega
  have HV := Lib.hid (validV_iff.2 hok)
  have HOK := Lib.hid hok
  have HF := Lib.hid hF
  clear hok hF
  obtain ⟨ms, md, mk, mq, m0, m1, m2, m3⟩ := m
  obtain ⟨wa, wc, rfl⟩ := Raw.slice h1
  obtain ⟨ha, hc, rfl⟩ := Raw.slice h2
  unfold msgC
  dsimp only
  obtain ⟨C1, hC1⟩ : ∃ C : Array Value, C = #[.int .i64 x.r, .slice wa x.wt.length wc, .slice ha x.hs.length hc] := ⟨_, rfl⟩
  obtain ⟨C2, hC2⟩ : ∃ C : Array Value, C = #[.int .i64 ms, .int .i64 md, .int .i64 mk, .int .i64 mq, .int .i64 m0, .int .i64 m1, .int .i64 m2, .int .i64 m3, .slice da dn dc] := ⟨_, rfl⟩
  obtain ⟨b1, hb1⟩ : ∃ X, X = w.alloc (.cells C1 27) := ⟨_, rfl⟩
  obtain ⟨b2, hb2⟩ : ∃ X, X = b1.alloc (.cells C2 31) := ⟨_, rfl⟩
  obtain ⟨w1, hb3⟩ : ∃ X, X = b2.alloc (.cells #[.int .i64 0, .slice none 0 0, .slice none 0 0] 27) := ⟨_, rfl⟩
  have z1 : b1.heap.size = w.heap.size + 1 := by rw [hb1]; simp
  have z2 : b2.heap.size = w.heap.size + 1 + 1 := by rw [hb2]; simp [z1]
  have e1 : Below w.heap.size w b1 := by rw [hb1]; exact (Below.refl _ w).alloc (Nat.le_refl _) _
  have n1 : b1.heap[w.heap.size]? = some (.cells C1 27 (0, 0)) := by rw [hb1]; exact heap_alloc_new w _
  have e2 : Below b1.heap.size b1 b2 := by rw [hb2]; exact (Below.refl _ b1).alloc (Nat.le_refl _) _
  have n2 : b2.heap[w.heap.size + 1]? = some (.cells C2 31 (0, 0)) := by rw [hb2, ← z1]; exact heap_alloc_new b1 _
  have e3 : Below b2.heap.size b2 w1 := by rw [hb3]; exact (Below.refl _ b2).alloc (Nat.le_refl _) _
  have n3 : w1.heap[w.heap.size + 1 + 1]? = some (.cells #[.int .i64 0, .slice none 0 0, .slice none 0 0] 27 (0, 0)) := by rw [hb3, ← z2]; exact heap_alloc_new b2 _
  have t2 := e1.trans (e2.mono e1.size)
  have bel1 := t2.trans (e3.mono t2.size)
  have HS1 := Lib.hid ((e3.block w.heap.size (by omega)).trans ((e2.block w.heap.size (by omega)).trans n1))
  have HM1 := Lib.hid ((e3.block (w.heap.size + 1) (by omega)).trans n2)
  have HR1 := Lib.hid n3
  rw [hC1] at HS1 hb1
  rw [hC2] at HM1 hb2
  have HW1 := Lib.hid hb1; have HW2 := Lib.hid hb2; have HW3 := Lib.hid hb3
  have HI1 := Lib.hid (Raw.below (raw_at (raw_at (raw_at h1 (N := w.heap.size + 1 + 1) (by omega)) (N := w.heap.size + 1) (by omega)) (N := w.heap.size) (Nat.le_refl _)) bel1)
  have HJ1 := Lib.hid (Raw.below (raw_at (raw_at (raw_at h2 (N := w.heap.size + 1 + 1) (by omega)) (N := w.heap.size + 1) (by omega)) (N := w.heap.size) (Nat.le_refl _)) bel1)
  clear hC1 hC2 hb1 hb2 hb3 e1 n1 e2 n2 e3 n3 t2 h1 h2 C1 C2
  go_enter Tryz.func20, Tryz.ntmps20
  go_upto_region 1 with (fail)
  rw [← HW1.out, ← HW2.out, ← HW3.out]
  obtain ⟨S, hS⟩ : ∃ A, A = w.heap.size := ⟨_, rfl⟩
  obtain ⟨M, hM⟩ : ∃ A, A = w.heap.size + 1 := ⟨_, rfl⟩
  obtain ⟨R, hR⟩ : ∃ A, A = w.heap.size + 1 + 1 := ⟨_, rfl⟩
  rw [← hR, ← hM, ← hS]
  rw [← hS] at HS1
  rw [← hM] at HM1
  rw [← hR] at HR1
  rw [← hR, ← hM, ← hS] at HI1 HJ1
  have hwS : w.heap.size ≤ S := by omega
  have hwM : w.heap.size ≤ M := by omega
  have hwR : w.heap.size ≤ R := by omega
  have hSM : S < M := by omega
  have hMR : M < R := by omega
  obtain ⟨W, hWe⟩ : ∃ W, W = w1 := ⟨_, rfl⟩
  have hz1 : W.heap.size ≤ w1.heap.size := by rw [hWe]; exact Nat.le_refl _
  have hRW : R < W.heap.size := by rw [hWe]; exact (Array.getElem?_eq_some_iff.1 HR1.out).1
  clear hS hM hR z1 z2 HW1 HW2 HW3 hWe
  have cS_0 := box_at HS1.out (j := 0) rfl
  have cS_1 := box_at HS1.out (j := 1) rfl
  have cS_2 := box_at HS1.out (j := 2) rfl
  go_wp2_with fail
  refine (rvalidV_any x _ _ w1 hl1 hl2 (Raw.to_nil HI1.out) (Raw.to_nil HJ1.out)).mono ?_
  rw [HV.out]
  rintro e w2 ⟨rfl, hb2⟩
  clear cS_0 cS_1 cS_2
  have HS2 := Lib.hid ((hb2.block S (Array.getElem?_eq_some_iff.1 HS1.out).1).trans HS1.out)
  have HM2 := Lib.hid ((hb2.block M (Array.getElem?_eq_some_iff.1 HM1.out).1).trans HM1.out)
  have HR2 := Lib.hid ((hb2.block R (Array.getElem?_eq_some_iff.1 HR1.out).1).trans HR1.out)
  have HI2 := Lib.hid (Raw.below HI1.out hb2)
  have HJ2 := Lib.hid (Raw.below HJ1.out hb2)
  have bel2 := bel1.trans (hb2.mono bel1.size)
  have hz2 := Nat.le_trans hz1 hb2.size
  clear HS1 HM1 HR1 HI1 HJ1
  clear hb2
  have cM_0 := box_at HM2.out (j := 0) rfl
  have cM_1 := box_at HM2.out (j := 1) rfl
  have cM_2 := box_at HM2.out (j := 2) rfl
  have cM_3 := box_at HM2.out (j := 3) rfl
  have cM_4 := box_at HM2.out (j := 4) rfl
  have cM_5 := box_at HM2.out (j := 5) rfl
  have cM_6 := box_at HM2.out (j := 6) rfl
  have cM_7 := box_at HM2.out (j := 7) rfl
  have cM_8 := box_at HM2.out (j := 8) rfl
  go_wp2_with fail
  refine (rperm_any ⟨ms, md, mk, mq, m0, m1, m2, m3⟩ da dn dc w2).mono ?_
  rintro e w3 ⟨⟨b, rfl, hpb⟩, hb3⟩
  clear cM_0 cM_1 cM_2 cM_3 cM_4 cM_5 cM_6 cM_7 cM_8
  have HS3 := Lib.hid ((hb3.block S (Array.getElem?_eq_some_iff.1 HS2.out).1).trans HS2.out)
  have HM3 := Lib.hid ((hb3.block M (Array.getElem?_eq_some_iff.1 HM2.out).1).trans HM2.out)
  have HR3 := Lib.hid ((hb3.block R (Array.getElem?_eq_some_iff.1 HR2.out).1).trans HR2.out)
  have HI3 := Lib.hid (Raw.below HI2.out hb3)
  have HJ3 := Lib.hid (Raw.below HJ2.out hb3)
  have bel3 := bel2.trans (hb3.mono bel2.size)
  have hz3 := Nat.le_trans hz2 hb3.size
  clear HS2 HM2 HR2 HI2 HJ2
  have HPB := Lib.hid hpb
  clear hpb hb3
  have cS_0 := box_at HS3.out (j := 0) rfl
  have cS_1 := box_at HS3.out (j := 1) rfl
  have cS_2 := box_at HS3.out (j := 2) rfl
  have cM_0 := box_at HM3.out (j := 0) rfl
  have cM_1 := box_at HM3.out (j := 1) rfl
  have cM_2 := box_at HM3.out (j := 2) rfl
  have cM_3 := box_at HM3.out (j := 3) rfl
  have cM_4 := box_at HM3.out (j := 4) rfl
  have cM_5 := box_at HM3.out (j := 5) rfl
  have cM_6 := box_at HM3.out (j := 6) rfl
  have cM_7 := box_at HM3.out (j := 7) rfl
  have cM_8 := box_at HM3.out (j := 8) rfl
  cases b
  · have HHV : Hid (handleV x ⟨ms, md, mk, mq, m0, m1, m2, m3⟩ dn = none) := Lib.hid (by
      by_cases h : mine mk
      · exact hv_perm (HPB.out h).symm
      · exact hv_not h)
    have cR_0 := box_at HR3.out (j := 0) rfl
    have fR_0 := box_free HR3.out 0
    have cR_1 := box_at HR3.out (j := 1) rfl
    have fR_1 := box_free HR3.out 1
    have cR_2 := box_at HR3.out (j := 2) rfl
    have fR_2 := box_free HR3.out 2
    go_wp2
    refine bodyPost_ret (results_ctt rfl _ _ _ _ _ _ _ rfl (heap_set3 HR3.out _ _ _) Tryz.underlying27 rfl (by kernel_rfl)) rfl ?_
    refine ⟨bel3.trans ((keep_set3 w3 R _ _ _).below bel3.size (fun f hf => by rw [List.mem_singleton.1 hf]; exact hwR)), ?_⟩
    rw [HHV.out]
    rfl
  · by_cases hd : md = 1
    · subst hd
      by_cases hk5 : mk = 5
      · subst hk5
        have HP : Hid (permP ⟨ms, 1, 5, mq, m0, m1, m2, m3⟩ dn = true) := Lib.hid (HPB.out (.inr (.inl rfl))).symm
        have HH5 := Lib.hid (hv_5 (x := x) (m := ⟨ms, 1, 5, mq, m0, m1, m2, m3⟩) (dn := dn) rfl HP.out rfl)
        obtain ⟨CB, hCB⟩ : ∃ B, cmpt m0 = B := ⟨_, rfl⟩
        have HCB := Lib.hid hCB
        clear hCB
        go_wp2_with fail
        refine (rcomponent_eq m0 CB _ HCB.out).mono ?_
        rintro e w' ⟨rfl, rfl⟩
        by_cases hok5 : CB = true ∧ 1 ≤ m1 ∧ m1 ≤ 6
        · obtain ⟨rfl, hm1, hm2⟩ := hok5
          have HHV : Hid (handleV x ⟨ms, 1, 5, mq, m0, m1, m2, m3⟩ dn = some ({ x with hs := failH x.hs m0 m1 }, [rstE m0 (modeH x.hs m0)])) := Lib.hid (by rw [HH5.out]; unfold failedV; rw [if_pos (by simp [HCB.out, hm1, hm2])])
          obtain ⟨hmo, hmn0, hmn1⟩ := mode_eq (t := m0) (c := m1) HOK.out.h
          obtain ⟨q, hq⟩ : ∃ q, cntH (failH x.hs m0 m1) m0 = q := ⟨_, rfl⟩
          rw [hq] at hmo hmn0 hmn1
          obtain ⟨md', hmd⟩ : ∃ z, modeH x.hs m0 = z := ⟨_, rfl⟩
          rw [hmd] at hmo
          have HQ := Lib.hid hq; have HMD := Lib.hid hmd
          have hqt := tmod_two hmn0
          obtain ⟨q2, hq2⟩ : ∃ z, q.tmod 2 = z := ⟨_, rfl⟩
          rw [hq2] at hqt hmo
          have HMO := Lib.hid hmo
          clear hq hmd hmo
          go_wp2_with fail
          refine (rfailed_any x _ _ m0 m1 w3 HOK.out.h (Raw.to_nil HJ3.out) ⟨_, _, _, rfl⟩).mono ?_
          rintro e w4 ⟨hv', rfl, hfr, hb4⟩
          obtain ⟨ja, jc, rfl⟩ := Raw.slice hfr
          have hrg : ∀ f ∈ S :: M :: R :: F, f < w3.heap.size := fun f hf => by
            simp only [List.mem_cons] at hf
            rcases hf with hf | hf | hf | hf
            · omega
            · omega
            · omega
            · have := HF.out f hf; omega
          clear cS_0 cS_1 cS_2 cM_0 cM_1 cM_2 cM_3 cM_4 cM_5 cM_6 cM_7 cM_8
          have HS4 := Lib.hid ((hb4.block S (Array.getElem?_eq_some_iff.1 HS3.out).1).trans HS3.out)
          have HM4 := Lib.hid ((hb4.block M (Array.getElem?_eq_some_iff.1 HM3.out).1).trans HM3.out)
          have HR4 := Lib.hid ((hb4.block R (Array.getElem?_eq_some_iff.1 HR3.out).1).trans HR3.out)
          have HI4 := Lib.hid (Raw.below HI3.out hb4)
          have HJ4 := Lib.hid (Raw.below HJ3.out hb4)
          have bel4 := bel3.trans (hb4.mono bel3.size)
          have hz4 := Nat.le_trans hz3 hb4.size
          clear HS3 HM3 HR3 HI3 HJ3
          have HG4 := Lib.hid (raw_range hfr hrg)
          clear hfr hrg hb4
          have cS_0 := box_at HS4.out (j := 0) rfl
          have fS_0 := box_free HS4.out 0
          have cS_1 := box_at HS4.out (j := 1) rfl
          have fS_1 := box_free HS4.out 1
          have cS_2 := box_at HS4.out (j := 2) rfl
          have fS_2 := box_free HS4.out 2
          go_upto_region 7 with (fail)
          clear cS_0 fS_0 cS_1 fS_1 cS_2 fS_2
          obtain ⟨w5, hw5⟩ : ∃ Y, Y = (((w4.setCell ⟨S, 0, none⟩ (.int .i64 x.r)).setCell ⟨S, 1, none⟩ (.slice wa x.wt.length wc)).setCell ⟨S, 2, none⟩ (.slice ja (failH x.hs m0 m1).length jc)) := ⟨_, rfl⟩
          have hk5 : Keep [S] w4 w5 := by rw [hw5]; exact keep_set3 w4 S _ _ _
          have hx5 := heap_set3 HS4.out (.int .i64 x.r) (.slice wa x.wt.length wc) (.slice ja (failH x.hs m0 m1).length jc)
          rw [← hw5] at hx5
          have HS5 := Lib.hid hx5
          have HM5 := Lib.hid ((hk5.block M (Array.getElem?_eq_some_iff.1 HM4.out).1 (by simp only [List.mem_singleton]; omega)).trans HM4.out)
          have HR5 := Lib.hid ((hk5.block R (Array.getElem?_eq_some_iff.1 HR4.out).1 (by simp only [List.mem_singleton]; omega)).trans HR4.out)
          have HI5 := Lib.hid (raw_set HI4.out hk5 (fun f hf => by rw [List.mem_singleton.1 hf]; simp))
          have HJ5 := Lib.hid (raw_set HJ4.out hk5 (fun f hf => by rw [List.mem_singleton.1 hf]; simp))
          have HG5 := Lib.hid (raw_set HG4.out hk5 (fun f hf => by rw [List.mem_singleton.1 hf]; simp))
          have bel5 := bel4.trans (hk5.below bel4.size (fun f hf => by rw [List.mem_singleton.1 hf]; exact hwS))
          have hz5 := Nat.le_trans hz4 hk5.size
          clear hx5
          clear HS4 HM4 HR4 HI4 HJ4 HG4
          rw [← hw5]
          clear hw5
          have cS_0 := box_at HS5.out (j := 0) rfl
          have cS_1 := box_at HS5.out (j := 1) rfl
          have cS_2 := box_at HS5.out (j := 2) rfl
          have cM_4 := box_at HM5.out (j := 4) rfl
          go_wp2_with fail
          refine (rfails_any x.r _ _ (failH x.hs m0 m1) m0 w5 (by have := put_len9 HOK.out.h m0 m1; omega) (Raw.to_nil HG5.out)).mono ?_
          rw [HQ.out]
          rintro e w6 ⟨rfl, hb6⟩
          clear cS_0 cS_1 cS_2 cM_4
          have HS6 := Lib.hid ((hb6.block S (Array.getElem?_eq_some_iff.1 HS5.out).1).trans HS5.out)
          have HM6 := Lib.hid ((hb6.block M (Array.getElem?_eq_some_iff.1 HM5.out).1).trans HM5.out)
          have HR6 := Lib.hid ((hb6.block R (Array.getElem?_eq_some_iff.1 HR5.out).1).trans HR5.out)
          have HI6 := Lib.hid (Raw.below HI5.out hb6)
          have HJ6 := Lib.hid (Raw.below HJ5.out hb6)
          have HG6 := Lib.hid (Raw.below HG5.out hb6)
          have bel6 := bel5.trans (hb6.mono bel5.size)
          have hz6 := Nat.le_trans hz5 hb6.size
          clear HS5 HM5 HR5 HI5 HJ5 HG5
          clear hb6
          have cS_0 := box_at HS6.out (j := 0) rfl
          have cS_1 := box_at HS6.out (j := 1) rfl
          have cS_2 := box_at HS6.out (j := 2) rfl
          have cM_0 := box_at HM6.out (j := 0) rfl
          have cM_1 := box_at HM6.out (j := 1) rfl
          have cM_2 := box_at HM6.out (j := 2) rfl
          have cM_3 := box_at HM6.out (j := 3) rfl
          have cM_4 := box_at HM6.out (j := 4) rfl
          have cM_5 := box_at HM6.out (j := 5) rfl
          have cM_6 := box_at HM6.out (j := 6) rfl
          have cM_7 := box_at HM6.out (j := 7) rfl
          have cM_8 := box_at HM6.out (j := 8) rfl
          have hmb : md' = 0 ∨ md' = 1 := by have := HMO.out; omega
          have hmo := HMO.out
          go_upto_region 8 with (fail)
          clear hmo
          go_upto_region 8 with (fail)
          clear cS_0 cS_1 cS_2 cM_0 cM_1 cM_2 cM_3 cM_4 cM_5 cM_6 cM_7 cM_8
          have hBl : ∀ q ∈ [S, M], ∃ cc e f, w6.heap[q]? = some (.cells cc e f) := by
            intro q hq
            simp only [List.mem_cons, List.not_mem_nil, or_false] at hq
            rcases hq with rfl | rfl <;> first | exact ⟨_, _, _, HS6.out⟩ | exact ⟨_, _, _, HM6.out⟩
          refine Txt.Ty.wp_tree [S, M] [0, 3] [] [0, 3] [0, 1, 2, 3, 4, 5, 6] (.alt [7] (.alt [8, 9, 10] (.done) (.no)) (.alt [8] (.alt [7, 9, 10] (.done) (.no)) (.no))) (by kernel_rfl) (by kernel_rfl) (by kernel_rfl) (by kernel_rfl) hBl ?_
          obtain ⟨w7, hwd⟩ : ∃ y, y = w6.drew := ⟨_, rfl⟩
          have HSB7 : Hid (Txt.SameB [S, M] w7 w7) := Lib.hid (by rw [hwd]; exact same_start hBl)
          clear hBl
          rw [← hwd]
          have hdr : Below w6.heap.size w6 w7 := by rw [hwd]; exact (Below.refl _ _).drew
          have HS7 := Lib.hid ((hdr.block S (Array.getElem?_eq_some_iff.1 HS6.out).1).trans HS6.out)
          have HM7 := Lib.hid ((hdr.block M (Array.getElem?_eq_some_iff.1 HM6.out).1).trans HM6.out)
          have HR7 := Lib.hid ((hdr.block R (Array.getElem?_eq_some_iff.1 HR6.out).1).trans HR6.out)
          have HI7 := Lib.hid (Raw.below HI6.out hdr)
          have HJ7 := Lib.hid (Raw.below HJ6.out hdr)
          have HG7 := Lib.hid (Raw.below HG6.out hdr)
          have bel7 := bel6.trans (hdr.mono bel6.size)
          have hz7 := Nat.le_trans hz6 hdr.size
          clear HS6 HM6 HR6 HI6 HJ6 HG6
          clear hdr hwd
          have cS_0 := box_at HS7.out (j := 0) rfl
          have cS_1 := box_at HS7.out (j := 1) rfl
          have cS_2 := box_at HS7.out (j := 2) rfl
          have cM_4 := box_at HM7.out (j := 4) rfl
          (try simp only [Txt.pick, List.getElem?_cons_succ, List.getElem?_cons_zero])
          go_wp2
          refine Txt.RunPost.mk ?_
          clear cS_0 cS_1 cS_2 cM_4
          refine Txt.Ty.wpTr_alt ?_ (Txt.Ty.wpTr_alt ?_ Txt.Ty.wpTr_no)
          · (try simp only [Txt.pick, List.getElem?_cons_succ, List.getElem?_cons_zero])
            go_wp2
            obtain ⟨E, hE⟩ : ∃ O, O = w7.heap.size := ⟨_, rfl⟩
            obtain ⟨w8, hw8⟩ : ∃ W, W = w7.alloc (.cells #[.int .i64 16, .int .i64 m0, .int .i64 md', .int .i64 0, .int .i64 0, .int .i64 0, .int .i64 0, .int .i64 0, .int .i64 0, .int .i64 0, .int .i64 0, .int .i64 0, .int .i64 0, .slice none 0 0, .slice none 0 0] 58) := ⟨_, rfl⟩
            have hb8 : Below w7.heap.size w7 w8 := by rw [hw8]; exact (Below.refl _ _).alloc (Nat.le_refl _) _
            have hxE : w8.heap[E]? = some (.cells #[.int .i64 16, .int .i64 m0, .int .i64 md', .int .i64 0, .int .i64 0, .int .i64 0, .int .i64 0, .int .i64 0, .int .i64 0, .int .i64 0, .int .i64 0, .int .i64 0, .int .i64 0, .slice none 0 0, .slice none 0 0] 58 (0, 0)) := by rw [hw8, hE]; exact heap_alloc_new w7 _
            rw [← hw8, ← hE]
            have hlE : w7.heap.size ≤ E := by omega
            have lt_S_E : S < E := Nat.lt_of_lt_of_le (Array.getElem?_eq_some_iff.1 HS7.out).1 hlE
            have lt_M_E : M < E := Nat.lt_of_lt_of_le (Array.getElem?_eq_some_iff.1 HM7.out).1 hlE
            have lt_R_E : R < E := Nat.lt_of_lt_of_le (Array.getElem?_eq_some_iff.1 HR7.out).1 hlE
            clear hw8 hE
            have HS8 := Lib.hid ((hb8.block S (Array.getElem?_eq_some_iff.1 HS7.out).1).trans HS7.out)
            have HM8 := Lib.hid ((hb8.block M (Array.getElem?_eq_some_iff.1 HM7.out).1).trans HM7.out)
            have HR8 := Lib.hid ((hb8.block R (Array.getElem?_eq_some_iff.1 HR7.out).1).trans HR7.out)
            have HI8 := Lib.hid (Raw.below HI7.out hb8)
            have HJ8 := Lib.hid (Raw.below HJ7.out hb8)
            have HG8 := Lib.hid (Raw.below HG7.out hb8)
            have HSB8 := Lib.hid (same_below' HSB7.out hb8)
            have bel8 := bel7.trans (hb8.mono bel7.size)
            have hz8 := Nat.le_trans hz7 hb8.size
            clear HS7 HM7 HR7 HI7 HJ7 HG7
            have HE8 := Lib.hid (hxE)
            clear hb8 hxE
            refine Txt.SegPost.mk (Txt.Ty.Shown.same HSB8.out) ?_
            (try simp only [Txt.pick, List.getElem?_cons_succ, List.getElem?_cons_zero])
            go_wp2
            refine Txt.RunPost.mk ?_
            refine Txt.Ty.wpTr_alt ?_ Txt.Ty.wpTr_no
            (try simp only [Txt.pick, List.getElem?_cons_succ, List.getElem?_cons_zero])
            have cR_0 := box_at HR8.out (j := 0) rfl
            have fR_0 := box_free HR8.out 0
            have cR_1 := box_at HR8.out (j := 1) rfl
            have fR_1 := box_free HR8.out 1
            have cR_2 := box_at HR8.out (j := 2) rfl
            have fR_2 := box_free HR8.out 2
            go_wp2
            clear cR_0 fR_0 cR_1 fR_1 cR_2 fR_2
            obtain ⟨w9, hw9⟩ : ∃ Y, Y = (((w8.setCell ⟨R, 0, none⟩ (.int .i64 x.r)).setCell ⟨R, 1, none⟩ (.slice wa x.wt.length wc)).setCell ⟨R, 2, none⟩ (.slice ja (failH x.hs m0 m1).length jc)) := ⟨_, rfl⟩
            have hk9 : Keep [R] w8 w9 := by rw [hw9]; exact keep_set3 w8 R _ _ _
            have hx9 := heap_set3 HR8.out (.int .i64 x.r) (.slice wa x.wt.length wc) (.slice ja (failH x.hs m0 m1).length jc)
            rw [← hw9] at hx9
            have HS9 := Lib.hid ((hk9.block S (Array.getElem?_eq_some_iff.1 HS8.out).1 (by simp only [List.mem_singleton]; omega)).trans HS8.out)
            have HM9 := Lib.hid ((hk9.block M (Array.getElem?_eq_some_iff.1 HM8.out).1 (by simp only [List.mem_singleton]; omega)).trans HM8.out)
            have HR9 := Lib.hid hx9
            have HI9 := Lib.hid (raw_set HI8.out hk9 (fun f hf => by rw [List.mem_singleton.1 hf]; simp))
            have HJ9 := Lib.hid (raw_set HJ8.out hk9 (fun f hf => by rw [List.mem_singleton.1 hf]; simp))
            have HG9 := Lib.hid (raw_set HG8.out hk9 (fun f hf => by rw [List.mem_singleton.1 hf]; simp))
            have HE9 := Lib.hid ((hk9.block E (Array.getElem?_eq_some_iff.1 HE8.out).1 (by simp only [List.mem_singleton]; omega)).trans HE8.out)
            have bel9 := bel8.trans (hk9.below bel8.size (fun f hf => by rw [List.mem_singleton.1 hf]; exact hwR))
            have hz9 := Nat.le_trans hz8 hk9.size
            clear hx9
            clear HS8 HM8 HR8 HI8 HJ8 HG8 HE8
            rw [← hw9]
            clear hw9
            have HSB9 := Lib.hid (same_keep HSB8.out hk9 (fun q hq hm => by simp only [List.mem_cons, List.not_mem_nil, or_false] at hq hm; rcases hq with rfl | rfl <;> omega))
            clear HSB8
            refine Txt.SegPost.mk (Txt.Ty.Shown.same HSB9.out) ?_
            (try simp only [Txt.pick, List.getElem?_cons_succ, List.getElem?_cons_zero])
            go_wp2
            refine Txt.RunPost.mk ?_
            refine Txt.Ty.wpTr_done (by rfl) ⟨.head _, .tail _ (.head _), trivial⟩ ?_
            clear HSB9
            go_wp2
            refine bodyPost_ret (results_ctt rfl _ _ _ _ _ _ _ rfl HR9.out Tryz.underlying27 rfl (by kernel_rfl)) rfl ?_
            refine ⟨bel9, ?_⟩
            rw [HHV.out, HMD.out]
            exact ⟨_, _, rfl, ⟨_, _, rfl, raw_3 HI9.out, raw_3 HG9.out⟩, boxEf' E (rstE m0 md') HE9.out (F := F) (fun f hf => by have := HF.out f hf; omega)⟩
          · (try simp only [Txt.pick, List.getElem?_cons_succ, List.getElem?_cons_zero])
            have cR_0 := box_at HR7.out (j := 0) rfl
            have fR_0 := box_free HR7.out 0
            have cR_1 := box_at HR7.out (j := 1) rfl
            have fR_1 := box_free HR7.out 1
            have cR_2 := box_at HR7.out (j := 2) rfl
            have fR_2 := box_free HR7.out 2
            go_wp2
            clear cR_0 fR_0 cR_1 fR_1 cR_2 fR_2
            obtain ⟨w8, hw8⟩ : ∃ Y, Y = (((w7.setCell ⟨R, 0, none⟩ (.int .i64 x.r)).setCell ⟨R, 1, none⟩ (.slice wa x.wt.length wc)).setCell ⟨R, 2, none⟩ (.slice ja (failH x.hs m0 m1).length jc)) := ⟨_, rfl⟩
            have hk8 : Keep [R] w7 w8 := by rw [hw8]; exact keep_set3 w7 R _ _ _
            have hx8 := heap_set3 HR7.out (.int .i64 x.r) (.slice wa x.wt.length wc) (.slice ja (failH x.hs m0 m1).length jc)
            rw [← hw8] at hx8
            have HS8 := Lib.hid ((hk8.block S (Array.getElem?_eq_some_iff.1 HS7.out).1 (by simp only [List.mem_singleton]; omega)).trans HS7.out)
            have HM8 := Lib.hid ((hk8.block M (Array.getElem?_eq_some_iff.1 HM7.out).1 (by simp only [List.mem_singleton]; omega)).trans HM7.out)
            have HR8 := Lib.hid hx8
            have HI8 := Lib.hid (raw_set HI7.out hk8 (fun f hf => by rw [List.mem_singleton.1 hf]; simp))
            have HJ8 := Lib.hid (raw_set HJ7.out hk8 (fun f hf => by rw [List.mem_singleton.1 hf]; simp))
            have HG8 := Lib.hid (raw_set HG7.out hk8 (fun f hf => by rw [List.mem_singleton.1 hf]; simp))
            have bel8 := bel7.trans (hk8.below bel7.size (fun f hf => by rw [List.mem_singleton.1 hf]; exact hwR))
            have hz8 := Nat.le_trans hz7 hk8.size
            clear hx8
            clear HS7 HM7 HR7 HI7 HJ7 HG7
            rw [← hw8]
            clear hw8
            have HSB8 := Lib.hid (same_keep HSB7.out hk8 (fun q hq hm => by simp only [List.mem_cons, List.not_mem_nil, or_false] at hq hm; rcases hq with rfl | rfl <;> omega))
            clear HSB7
            refine Txt.SegPost.mk (Txt.Ty.Shown.same HSB8.out) ?_
            (try simp only [Txt.pick, List.getElem?_cons_succ, List.getElem?_cons_zero])
            go_wp2
            refine Txt.RunPost.mk ?_
            refine Txt.Ty.wpTr_alt ?_ Txt.Ty.wpTr_no
            (try simp only [Txt.pick, List.getElem?_cons_succ, List.getElem?_cons_zero])
            go_wp2
            obtain ⟨E, hE⟩ : ∃ O, O = w8.heap.size := ⟨_, rfl⟩
            obtain ⟨w9, hw9⟩ : ∃ W, W = w8.alloc (.cells #[.int .i64 16, .int .i64 m0, .int .i64 md', .int .i64 0, .int .i64 0, .int .i64 0, .int .i64 0, .int .i64 0, .int .i64 0, .int .i64 0, .int .i64 0, .int .i64 0, .int .i64 0, .slice none 0 0, .slice none 0 0] 58) := ⟨_, rfl⟩
            have hb9 : Below w8.heap.size w8 w9 := by rw [hw9]; exact (Below.refl _ _).alloc (Nat.le_refl _) _
            have hxE : w9.heap[E]? = some (.cells #[.int .i64 16, .int .i64 m0, .int .i64 md', .int .i64 0, .int .i64 0, .int .i64 0, .int .i64 0, .int .i64 0, .int .i64 0, .int .i64 0, .int .i64 0, .int .i64 0, .int .i64 0, .slice none 0 0, .slice none 0 0] 58 (0, 0)) := by rw [hw9, hE]; exact heap_alloc_new w8 _
            rw [← hw9, ← hE]
            have hlE : w8.heap.size ≤ E := by omega
            have lt_S_E : S < E := Nat.lt_of_lt_of_le (Array.getElem?_eq_some_iff.1 HS8.out).1 hlE
            have lt_M_E : M < E := Nat.lt_of_lt_of_le (Array.getElem?_eq_some_iff.1 HM8.out).1 hlE
            have lt_R_E : R < E := Nat.lt_of_lt_of_le (Array.getElem?_eq_some_iff.1 HR8.out).1 hlE
            clear hw9 hE
            have HS9 := Lib.hid ((hb9.block S (Array.getElem?_eq_some_iff.1 HS8.out).1).trans HS8.out)
            have HM9 := Lib.hid ((hb9.block M (Array.getElem?_eq_some_iff.1 HM8.out).1).trans HM8.out)
            have HR9 := Lib.hid ((hb9.block R (Array.getElem?_eq_some_iff.1 HR8.out).1).trans HR8.out)
            have HI9 := Lib.hid (Raw.below HI8.out hb9)
            have HJ9 := Lib.hid (Raw.below HJ8.out hb9)
            have HG9 := Lib.hid (Raw.below HG8.out hb9)
            have HSB9 := Lib.hid (same_below' HSB8.out hb9)
            have bel9 := bel8.trans (hb9.mono bel8.size)
            have hz9 := Nat.le_trans hz8 hb9.size
            clear HS8 HM8 HR8 HI8 HJ8 HG8
            have HE9 := Lib.hid (hxE)
            clear hb9 hxE
            refine Txt.SegPost.mk (Txt.Ty.Shown.same HSB9.out) ?_
            (try simp only [Txt.pick, List.getElem?_cons_succ, List.getElem?_cons_zero])
            go_wp2
            refine Txt.RunPost.mk ?_
            refine Txt.Ty.wpTr_done (by rfl) ⟨.head _, .tail _ (.head _), trivial⟩ ?_
            clear HSB9
            go_wp2
            refine bodyPost_ret (results_ctt rfl _ _ _ _ _ _ _ rfl HR9.out Tryz.underlying27 rfl (by kernel_rfl)) rfl ?_
            refine ⟨bel9, ?_⟩
            rw [HHV.out, HMD.out]
            exact ⟨_, _, rfl, ⟨_, _, rfl, raw_3 HI9.out, raw_3 HG9.out⟩, boxEf' E (rstE m0 md') HE9.out (F := F) (fun f hf => by have := HF.out f hf; omega)⟩
        · have HHV : Hid (handleV x ⟨ms, 1, 5, mq, m0, m1, m2, m3⟩ dn = none) := Lib.hid (by rw [HH5.out]; unfold failedV; rw [if_neg (by simp only [HCB.out, Bool.and_eq_true, decide_eq_true_eq]; intro h; exact hok5 ⟨h.1, h.2.1, h.2.2⟩)])
          cases CB
          · clear hok5
            have cR_0 := box_at HR3.out (j := 0) rfl
            have fR_0 := box_free HR3.out 0
            have cR_1 := box_at HR3.out (j := 1) rfl
            have fR_1 := box_free HR3.out 1
            have cR_2 := box_at HR3.out (j := 2) rfl
            have fR_2 := box_free HR3.out 2
            go_wp2
            refine bodyPost_ret (results_ctt rfl _ _ _ _ _ _ _ rfl (heap_set3 HR3.out _ _ _) Tryz.underlying27 rfl (by kernel_rfl)) rfl ?_
            refine ⟨bel3.trans ((keep_set3 w3 R _ _ _).below bel3.size (fun f hf => by rw [List.mem_singleton.1 hf]; exact hwR)), ?_⟩
            rw [HHV.out]
            rfl
          · by_cases h1 : 1 ≤ m1
            · have h2 : ¬ m1 ≤ 6 := fun h => hok5 ⟨rfl, h1, h⟩
              clear hok5
              have cR_0 := box_at HR3.out (j := 0) rfl
              have fR_0 := box_free HR3.out 0
              have cR_1 := box_at HR3.out (j := 1) rfl
              have fR_1 := box_free HR3.out 1
              have cR_2 := box_at HR3.out (j := 2) rfl
              have fR_2 := box_free HR3.out 2
              go_wp2
              refine bodyPost_ret (results_ctt rfl _ _ _ _ _ _ _ rfl (heap_set3 HR3.out _ _ _) Tryz.underlying27 rfl (by kernel_rfl)) rfl ?_
              refine ⟨bel3.trans ((keep_set3 w3 R _ _ _).below bel3.size (fun f hf => by rw [List.mem_singleton.1 hf]; exact hwR)), ?_⟩
              rw [HHV.out]
              rfl
            · clear hok5
              have cR_0 := box_at HR3.out (j := 0) rfl
              have fR_0 := box_free HR3.out 0
              have cR_1 := box_at HR3.out (j := 1) rfl
              have fR_1 := box_free HR3.out 1
              have cR_2 := box_at HR3.out (j := 2) rfl
              have fR_2 := box_free HR3.out 2
              go_wp2
              refine bodyPost_ret (results_ctt rfl _ _ _ _ _ _ _ rfl (heap_set3 HR3.out _ _ _) Tryz.underlying27 rfl (by kernel_rfl)) rfl ?_
              refine ⟨bel3.trans ((keep_set3 w3 R _ _ _).below bel3.size (fun f hf => by rw [List.mem_singleton.1 hf]; exact hwR)), ?_⟩
              rw [HHV.out]
              rfl
      by_cases hk4 : mk = 4
      · subst hk4
        have HP : Hid (permP ⟨ms, 1, 4, mq, m0, m1, m2, m3⟩ dn = true) := Lib.hid (HPB.out (.inl rfl)).symm
        have HH4 := Lib.hid (hv_4 (x := x) (m := ⟨ms, 1, 4, mq, m0, m1, m2, m3⟩) (dn := dn) rfl HP.out rfl)
        by_cases ha : m0 = 1
        · subst ha
          have HHV : Hid (handleV x ⟨ms, 1, 4, mq, 1, m1, m2, m3⟩ dn = some (alarmV x)) := Lib.hid (by rw [HH4.out]; rfl)
          have hrg : ∀ f ∈ S :: M :: R :: F, f < w3.heap.size := fun f hf => by
            simp only [List.mem_cons] at hf
            rcases hf with hf | hf | hf | hf
            · omega
            · omega
            · omega
            · have := HF.out f hf; omega
          go_wp2_with fail
          refine (ralarm_any x _ _ (S :: M :: R :: F) w3 HOK.out hrg HI3.out HJ3.out).mono ?_
          rintro e w4 ⟨hb4, pv, qv, ev, rfl, hp, hq, he⟩
          obtain ⟨x', hx'⟩ : ∃ z, (alarmV x).1 = z := ⟨_, rfl⟩
          obtain ⟨es', hes'⟩ : ∃ z, (alarmV x).2 = z := ⟨_, rfl⟩
          rw [hx'] at hp hq
          rw [hes'] at he
          have HX' : Hid (alarmV x = (x', es')) := Lib.hid (by rw [← hx', ← hes'])
          clear hrg
          clear cS_0 cS_1 cS_2 cM_0 cM_1 cM_2 cM_3 cM_4 cM_5 cM_6 cM_7 cM_8
          have HS4 := Lib.hid ((hb4.block S (Array.getElem?_eq_some_iff.1 HS3.out).1).trans HS3.out)
          have HM4 := Lib.hid ((hb4.block M (Array.getElem?_eq_some_iff.1 HM3.out).1).trans HM3.out)
          have HR4 := Lib.hid ((hb4.block R (Array.getElem?_eq_some_iff.1 HR3.out).1).trans HR3.out)
          have HI4 := Lib.hid (Raw.below HI3.out hb4)
          have HJ4 := Lib.hid (Raw.below HJ3.out hb4)
          have bel4 := bel3.trans (hb4.mono bel3.size)
          have hz4 := Nat.le_trans hz3 hb4.size
          clear HS3 HM3 HR3 HI3 HJ3
          rw [hx']
          clear hx' hes'
          obtain ⟨pa, pc, rfl⟩ := Raw.slice hp
          obtain ⟨qa, qc, rfl⟩ := Raw.slice hq
          obtain ⟨ea, ec, rfl⟩ := Raw.slice he
          have HP4 : Hid (Ints (S :: M :: R :: F) w4 (.slice pa x'.wt.length pc) x'.wt) := Lib.hid (hp)
          have HQ4 := Lib.hid (hq)
          have HE4 := Lib.hid (he)
          clear hp hq he hb4
          obtain ⟨K, hK⟩ : ∃ O, O = w4.heap.size := ⟨_, rfl⟩
          obtain ⟨w5, hw5⟩ : ∃ W, W = w4.alloc (.cells #[.int .i64 x'.r, .slice pa x'.wt.length pc, .slice qa x'.hs.length qc] 27) := ⟨_, rfl⟩
          have hb5 : Below w4.heap.size w4 w5 := by rw [hw5]; exact (Below.refl _ _).alloc (Nat.le_refl _) _
          have hxK : w5.heap[K]? = some (.cells #[.int .i64 x'.r, .slice pa x'.wt.length pc, .slice qa x'.hs.length qc] 27 (0, 0)) := by rw [hw5, hK]; exact heap_alloc_new w4 _
          have HW5 := Lib.hid hw5
          have HRRK := Lib.hid hK
          go_upto_region 11 with (fail)
          rw [← HW5.out, ← HRRK.out]
          clear HW5 HRRK
          have hlK : w4.heap.size ≤ K := by omega
          have lt_S_K : S < K := Nat.lt_of_lt_of_le (Array.getElem?_eq_some_iff.1 HS4.out).1 hlK
          have lt_M_K : M < K := Nat.lt_of_lt_of_le (Array.getElem?_eq_some_iff.1 HM4.out).1 hlK
          have lt_R_K : R < K := Nat.lt_of_lt_of_le (Array.getElem?_eq_some_iff.1 HR4.out).1 hlK
          clear hw5 hK
          have HS5 := Lib.hid ((hb5.block S (Array.getElem?_eq_some_iff.1 HS4.out).1).trans HS4.out)
          have HM5 := Lib.hid ((hb5.block M (Array.getElem?_eq_some_iff.1 HM4.out).1).trans HM4.out)
          have HR5 := Lib.hid ((hb5.block R (Array.getElem?_eq_some_iff.1 HR4.out).1).trans HR4.out)
          have HI5 := Lib.hid (Raw.below HI4.out hb5)
          have HJ5 := Lib.hid (Raw.below HJ4.out hb5)
          have HP5 := Lib.hid (Raw.below HP4.out hb5)
          have HQ5 := Lib.hid (Raw.below HQ4.out hb5)
          have HE5 := Lib.hid (Raw.below HE4.out hb5)
          have bel5 := bel4.trans (hb5.mono bel4.size)
          have hz5 := Nat.le_trans hz4 hb5.size
          clear HS4 HM4 HR4 HI4 HJ4 HP4 HQ4 HE4
          have HK5 := Lib.hid (hxK)
          clear hb5 hxK
          have cK_0 := box_at HK5.out (j := 0) rfl
          have cK_1 := box_at HK5.out (j := 1) rfl
          have cK_2 := box_at HK5.out (j := 2) rfl
          have cR_0 := box_at HR5.out (j := 0) rfl
          have fR_0 := box_free HR5.out 0
          have cR_1 := box_at HR5.out (j := 1) rfl
          have fR_1 := box_free HR5.out 1
          have cR_2 := box_at HR5.out (j := 2) rfl
          have fR_2 := box_free HR5.out 2
          go_wp2
          refine bodyPost_ret (results_ctt rfl _ _ _ _ _ _ _ rfl (heap_set3 HR5.out _ _ _) Tryz.underlying27 rfl (by kernel_rfl)) rfl ?_
          have hk := keep_set3 w5 R (.int .i64 x'.r) (.slice pa x'.wt.length pc) (.slice qa x'.hs.length qc)
          refine ⟨bel5.trans (hk.below bel5.size (fun f hf => by rw [List.mem_singleton.1 hf]; exact hwR)), ?_⟩
          rw [HHV.out, HX'.out]
          have hin : ∀ f ∈ [R], f ∈ S :: M :: R :: F := fun f hf => by rw [List.mem_singleton.1 hf]; simp
          exact ⟨_, _, rfl, ⟨_, _, rfl, raw_3 (raw_set HP5.out hk hin), raw_3 (raw_set HQ5.out hk hin)⟩, raw_3 (raw_set HE5.out hk hin)⟩
        · have ha1 : (m0 == 1) = false := by simpa using ha
          have HHV : Hid (handleV x ⟨ms, 1, 4, mq, m0, m1, m2, m3⟩ dn = none) := Lib.hid (by rw [HH4.out]; exact if_neg ha)
          clear ha
          have cR_0 := box_at HR3.out (j := 0) rfl
          have fR_0 := box_free HR3.out 0
          have cR_1 := box_at HR3.out (j := 1) rfl
          have fR_1 := box_free HR3.out 1
          have cR_2 := box_at HR3.out (j := 2) rfl
          have fR_2 := box_free HR3.out 2
          go_wp2
          refine bodyPost_ret (results_ctt rfl _ _ _ _ _ _ _ rfl (heap_set3 HR3.out _ _ _) Tryz.underlying27 rfl (by kernel_rfl)) rfl ?_
          refine ⟨bel3.trans ((keep_set3 w3 R _ _ _).below bel3.size (fun f hf => by rw [List.mem_singleton.1 hf]; exact hwR)), ?_⟩
          rw [HHV.out]
          rfl
      by_cases hk7 : mk = 7
      · subst hk7
        have HP : Hid (permP ⟨ms, 1, 7, mq, m0, m1, m2, m3⟩ dn = true) := Lib.hid (HPB.out (.inr (.inr rfl))).symm
        have HHV := Lib.hid (hv_7 (x := x) (m := ⟨ms, 1, 7, mq, m0, m1, m2, m3⟩) (dn := dn) rfl HP.out rfl)
        go_wp2_with fail
        refine (rpong_any x.r ms m0 _ x.wt w3 hl1 (Raw.to_nil HI3.out) HOK.out.b).mono ?_
        rintro e w4 ⟨hb4, hres⟩
        have hrg : ∀ f ∈ S :: M :: R :: F, f < w3.heap.size := fun f hf => by
          simp only [List.mem_cons] at hf
          rcases hf with hf | hf | hf | hf
          · omega
          · omega
          · omega
          · have := HF.out f hf; omega
        clear cS_0 cS_1 cS_2 cM_0 cM_1 cM_2 cM_3 cM_4 cM_5 cM_6 cM_7 cM_8
        have HS4 := Lib.hid ((hb4.block S (Array.getElem?_eq_some_iff.1 HS3.out).1).trans HS3.out)
        have HM4 := Lib.hid ((hb4.block M (Array.getElem?_eq_some_iff.1 HM3.out).1).trans HM3.out)
        have HR4 := Lib.hid ((hb4.block R (Array.getElem?_eq_some_iff.1 HR3.out).1).trans HR3.out)
        have HI4 := Lib.hid (Raw.below HI3.out hb4)
        have HJ4 := Lib.hid (Raw.below HJ3.out hb4)
        have bel4 := bel3.trans (hb4.mono bel3.size)
        have hz4 := Nat.le_trans hz3 hb4.size
        clear HS3 HM3 HR3 HI3 HJ3
        clear hb4
        by_cases hpg : ms ∈ x.wt ∧ m0 = x.r
        · rw [if_pos hpg] at hres
          have HPG : Hid (pongV x ms m0 = { x with wt := less x.wt ms }) := Lib.hid (by unfold pongV; rw [if_pos hpg])
          obtain ⟨pv, rfl, hp⟩ := hres
          obtain ⟨pa, pc, rfl⟩ := Raw.slice hp
          clear hpg
          have HP4 := Lib.hid (raw_range hp hrg)
          clear hp hrg
          obtain ⟨K, hK⟩ : ∃ O, O = w4.heap.size := ⟨_, rfl⟩
          obtain ⟨w5, hw5⟩ : ∃ W, W = w4.alloc (.cells #[.int .i64 x.r, .slice pa (less x.wt ms).length pc] 24) := ⟨_, rfl⟩
          have hb5 : Below w4.heap.size w4 w5 := by rw [hw5]; exact (Below.refl _ _).alloc (Nat.le_refl _) _
          have hxK : w5.heap[K]? = some (.cells #[.int .i64 x.r, .slice pa (less x.wt ms).length pc] 24 (0, 0)) := by rw [hw5, hK]; exact heap_alloc_new w4 _
          have HW5 := Lib.hid hw5
          have HRRK := Lib.hid hK
          go_upto_region 14 with (fail)
          rw [← HW5.out, ← HRRK.out]
          clear HW5 HRRK
          have hlK : w4.heap.size ≤ K := by omega
          have lt_S_K : S < K := Nat.lt_of_lt_of_le (Array.getElem?_eq_some_iff.1 HS4.out).1 hlK
          have lt_M_K : M < K := Nat.lt_of_lt_of_le (Array.getElem?_eq_some_iff.1 HM4.out).1 hlK
          have lt_R_K : R < K := Nat.lt_of_lt_of_le (Array.getElem?_eq_some_iff.1 HR4.out).1 hlK
          clear hw5 hK
          have HS5 := Lib.hid ((hb5.block S (Array.getElem?_eq_some_iff.1 HS4.out).1).trans HS4.out)
          have HM5 := Lib.hid ((hb5.block M (Array.getElem?_eq_some_iff.1 HM4.out).1).trans HM4.out)
          have HR5 := Lib.hid ((hb5.block R (Array.getElem?_eq_some_iff.1 HR4.out).1).trans HR4.out)
          have HI5 := Lib.hid (Raw.below HI4.out hb5)
          have HJ5 := Lib.hid (Raw.below HJ4.out hb5)
          have HP5 := Lib.hid (Raw.below HP4.out hb5)
          have bel5 := bel4.trans (hb5.mono bel4.size)
          have hz5 := Nat.le_trans hz4 hb5.size
          clear HS4 HM4 HR4 HI4 HJ4 HP4
          have HK5 := Lib.hid (hxK)
          clear hb5 hxK
          have cK_0 := box_at HK5.out (j := 0) rfl
          have cK_1 := box_at HK5.out (j := 1) rfl
          have cS_0 := box_at HS5.out (j := 0) rfl
          have fS_0 := box_free HS5.out 0
          have cS_1 := box_at HS5.out (j := 1) rfl
          have fS_1 := box_free HS5.out 1
          have cS_2 := box_at HS5.out (j := 2) rfl
          have fS_2 := box_free HS5.out 2
          go_upto_region 16 with (fail)
          clear cK_0 cK_1 cS_0 fS_0 cS_1 fS_1 cS_2 fS_2
          obtain ⟨w6, hw6⟩ : ∃ Y, Y = ((w5.setCell ⟨S, 0, none⟩ (.int .i64 x.r)).setCell ⟨S, 1, none⟩ (.slice pa (less x.wt ms).length pc)) := ⟨_, rfl⟩
          have hk6 : Keep [S] w5 w6 := by rw [hw6]; exact keep_set2 w5 S _ _
          have hx6 := heap_put01 HS5.out (.int .i64 x.r) (.slice pa (less x.wt ms).length pc)
          rw [← hw6] at hx6
          have HS6 := Lib.hid hx6
          have HM6 := Lib.hid ((hk6.block M (Array.getElem?_eq_some_iff.1 HM5.out).1 (by simp only [List.mem_singleton]; omega)).trans HM5.out)
          have HR6 := Lib.hid ((hk6.block R (Array.getElem?_eq_some_iff.1 HR5.out).1 (by simp only [List.mem_singleton]; omega)).trans HR5.out)
          have HI6 := Lib.hid (raw_set HI5.out hk6 (fun f hf => by rw [List.mem_singleton.1 hf]; simp))
          have HJ6 := Lib.hid (raw_set HJ5.out hk6 (fun f hf => by rw [List.mem_singleton.1 hf]; simp))
          have HP6 := Lib.hid (raw_set HP5.out hk6 (fun f hf => by rw [List.mem_singleton.1 hf]; simp))
          have HK6 := Lib.hid ((hk6.block K (Array.getElem?_eq_some_iff.1 HK5.out).1 (by simp only [List.mem_singleton]; omega)).trans HK5.out)
          have bel6 := bel5.trans (hk6.below bel5.size (fun f hf => by rw [List.mem_singleton.1 hf]; exact hwS))
          have hz6 := Nat.le_trans hz5 hk6.size
          clear hx6
          clear HS5 HM5 HR5 HI5 HJ5 HP5 HK5
          rw [← hw6]
          clear hw6
          have cS_0 := box_at HS6.out (j := 0) rfl
          have cS_1 := box_at HS6.out (j := 1) rfl
          have cS_2 := box_at HS6.out (j := 2) rfl
          have cR_0 := box_at HR6.out (j := 0) rfl
          have fR_0 := box_free HR6.out 0
          have cR_1 := box_at HR6.out (j := 1) rfl
          have fR_1 := box_free HR6.out 1
          have cR_2 := box_at HR6.out (j := 2) rfl
          have fR_2 := box_free HR6.out 2
          go_wp2
          refine bodyPost_ret (results_ctt rfl _ _ _ _ _ _ _ rfl (heap_set3 HR6.out _ _ _) Tryz.underlying27 rfl (by kernel_rfl)) rfl ?_
          have hk := keep_set3 w6 R (.int .i64 x.r) (.slice pa (less x.wt ms).length pc) (.slice ha x.hs.length hc)
          refine ⟨bel6.trans (hk.below bel6.size (fun f hf => by rw [List.mem_singleton.1 hf]; exact hwR)), ?_⟩
          rw [HHV.out, HPG.out]
          have hin : ∀ f ∈ [R], f ∈ S :: M :: R :: F := fun f hf => by rw [List.mem_singleton.1 hf]; simp
          exact ⟨_, _, rfl, ⟨_, _, rfl, raw_3 (raw_set HP6.out hk hin), raw_3 (raw_set HJ6.out hk hin)⟩, Raw.empty _ _ _⟩
        · rw [if_neg hpg] at hres
          have HPG : Hid (pongV x ms m0 = x) := Lib.hid (by unfold pongV; rw [if_neg hpg])
          subst hres
          clear hpg hrg
          obtain ⟨K, hK⟩ : ∃ O, O = w4.heap.size := ⟨_, rfl⟩
          obtain ⟨w5, hw5⟩ : ∃ W, W = w4.alloc (.cells #[.int .i64 0, .slice none 0 0] 24) := ⟨_, rfl⟩
          have hb5 : Below w4.heap.size w4 w5 := by rw [hw5]; exact (Below.refl _ _).alloc (Nat.le_refl _) _
          have hxK : w5.heap[K]? = some (.cells #[.int .i64 0, .slice none 0 0] 24 (0, 0)) := by rw [hw5, hK]; exact heap_alloc_new w4 _
          have HW5 := Lib.hid hw5
          have HRRK := Lib.hid hK
          go_upto_region 14 with (fail)
          rw [← HW5.out, ← HRRK.out]
          clear HW5 HRRK
          have hlK : w4.heap.size ≤ K := by omega
          have lt_S_K : S < K := Nat.lt_of_lt_of_le (Array.getElem?_eq_some_iff.1 HS4.out).1 hlK
          have lt_M_K : M < K := Nat.lt_of_lt_of_le (Array.getElem?_eq_some_iff.1 HM4.out).1 hlK
          have lt_R_K : R < K := Nat.lt_of_lt_of_le (Array.getElem?_eq_some_iff.1 HR4.out).1 hlK
          clear hw5 hK
          have HS5 := Lib.hid ((hb5.block S (Array.getElem?_eq_some_iff.1 HS4.out).1).trans HS4.out)
          have HM5 := Lib.hid ((hb5.block M (Array.getElem?_eq_some_iff.1 HM4.out).1).trans HM4.out)
          have HR5 := Lib.hid ((hb5.block R (Array.getElem?_eq_some_iff.1 HR4.out).1).trans HR4.out)
          have HI5 := Lib.hid (Raw.below HI4.out hb5)
          have HJ5 := Lib.hid (Raw.below HJ4.out hb5)
          have bel5 := bel4.trans (hb5.mono bel4.size)
          have hz5 := Nat.le_trans hz4 hb5.size
          clear HS4 HM4 HR4 HI4 HJ4
          have HK5 := Lib.hid (hxK)
          clear hb5 hxK
          have cS_0 := box_at HS5.out (j := 0) rfl
          have cS_1 := box_at HS5.out (j := 1) rfl
          have cS_2 := box_at HS5.out (j := 2) rfl
          have cR_0 := box_at HR5.out (j := 0) rfl
          have fR_0 := box_free HR5.out 0
          have cR_1 := box_at HR5.out (j := 1) rfl
          have fR_1 := box_free HR5.out 1
          have cR_2 := box_at HR5.out (j := 2) rfl
          have fR_2 := box_free HR5.out 2
          go_wp2
          refine bodyPost_ret (results_ctt rfl _ _ _ _ _ _ _ rfl (heap_set3 HR5.out _ _ _) Tryz.underlying27 rfl (by kernel_rfl)) rfl ?_
          have hk := keep_set3 w5 R (.int .i64 x.r) (.slice wa x.wt.length wc) (.slice ha x.hs.length hc)
          refine ⟨bel5.trans (hk.below bel5.size (fun f hf => by rw [List.mem_singleton.1 hf]; exact hwR)), ?_⟩
          rw [HHV.out, HPG.out]
          have hin : ∀ f ∈ [R], f ∈ S :: M :: R :: F := fun f hf => by rw [List.mem_singleton.1 hf]; simp
          exact ⟨_, _, rfl, ⟨_, _, rfl, raw_3 (raw_set HI5.out hk hin), raw_3 (raw_set HJ5.out hk hin)⟩, Raw.empty _ _ _⟩
      have HHV : Hid (handleV x ⟨ms, 1, mk, mq, m0, m1, m2, m3⟩ dn = none) := Lib.hid (hv_not (by intro h; rcases h with h | h | h <;> simp_all))
      have cR_0 := box_at HR3.out (j := 0) rfl
      have fR_0 := box_free HR3.out 0
      have cR_1 := box_at HR3.out (j := 1) rfl
      have fR_1 := box_free HR3.out 1
      have cR_2 := box_at HR3.out (j := 2) rfl
      have fR_2 := box_free HR3.out 2
      go_wp2
      refine bodyPost_ret (results_ctt rfl _ _ _ _ _ _ _ rfl (heap_set3 HR3.out _ _ _) Tryz.underlying27 rfl (by kernel_rfl)) rfl ?_
      refine ⟨bel3.trans ((keep_set3 w3 R _ _ _).below bel3.size (fun f hf => by rw [List.mem_singleton.1 hf]; exact hwR)), ?_⟩
      rw [HHV.out]
      rfl
    · have hd1 : (md != 1) = true := by simpa using hd
      have hd2 : (md == 1) = false := by simpa using hd
      have HHV : Hid (handleV x ⟨ms, md, mk, mq, m0, m1, m2, m3⟩ dn = none) := Lib.hid (hv_dst hd)
      clear hd
      have cR_0 := box_at HR3.out (j := 0) rfl
      have fR_0 := box_free HR3.out 0
      have cR_1 := box_at HR3.out (j := 1) rfl
      have fR_1 := box_free HR3.out 1
      have cR_2 := box_at HR3.out (j := 2) rfl
      have fR_2 := box_free HR3.out 2
      go_wp2
      refine bodyPost_ret (results_ctt rfl _ _ _ _ _ _ _ rfl (heap_set3 HR3.out _ _ _) Tryz.underlying27 rfl (by kernel_rfl)) rfl ?_
      refine ⟨bel3.trans ((keep_set3 w3 R _ _ _).below bel3.size (fun f hf => by rw [List.mem_singleton.1 hf]; exact hwR)), ?_⟩
      rw [HHV.out]
      rfl
end Go.Proofs.YthmnhpakgjnngaaGreatDoor
