/- Revive: the reference's Step -/
import Derived.Test.YthmnhpakgjnngaaGreatDoorXg
import Derived.Test.YthmnhpakgjnngaaGreatDoorYj
import Derived.Test.YthmnhpakgjnngaaGreatDoorYk
import Derived.Test.YthmnhpakgjnngaaGreatDoorYl
import Derived.Deep.CutRange
import Derived.WalkMore
namespace Go.Rv
open Go Go.RowKit Go.Bs Go.Cl Go.Rw Go.Dt Go.Wi
theorem rI_sticky {b : List UInt8} {s : Nat × Bool} (h : (rI b s).2.2 = false) : s.2 = false := by
  unfold rI at h
  split at h
  · rename_i hs; rw [h] at hs; cases hs
  · rename_i hs; simpa using hs
theorem rH_sticky {b : List UInt8} {s : Nat × Bool} (h : (rH b s).2.2 = false) : s.2 = false := rI_sticky (rI_sticky (rI_sticky h))
theorem rHs_sticky {b : List UInt8} : ∀ {n : Nat} {s : Nat × Bool}, (rHs b n s).2.2 = false → s.2 = false
  | 0, s, h => h
  | n + 1, s, h => rH_sticky (rHs_sticky (n := n) h)
theorem rB_sticky {b : List UInt8} {lo hi : Int} {s : Nat × Bool} (h : (rB b lo hi s).2.2 = false) : s.2 = false := by
  unfold rB at h
  split at h
  · rename_i hs; rw [h] at hs; cases hs
  · rename_i hs; simpa using hs
theorem rL_sticky {b : List UInt8} {m : Int} {s : Nat × Bool} (h : (rL b m s).2.2 = false) : s.2 = false := by
  unfold rL at h
  split at h
  · rename_i hs; rw [h] at hs; cases hs
  · rename_i hs; simpa using hs
theorem rdB_most {b : List UInt8} {p k : Nat} {m m' n : Int} (h : rdB b p 0 m = some (n, k)) (hn : n ≤ 9) (hm : 9 ≤ m') : rdB b p 0 m' = some (n, k) := by
  obtain ⟨h1, h2, h3⟩ := rdB_some h
  unfold rdB
  rw [h1]
  simp only
  rw [if_pos ⟨h2, by omega⟩]
theorem rB_most {b : List UInt8} {s : Nat × Bool} {m m' : Int} (h : (rB b 0 m s).2.2 = false) (hn : (rB b 0 m s).1 ≤ 9) (hm : 9 ≤ m') : rB b 0 m' s = rB b 0 m s := by
  have hs := rB_sticky h
  cases hd : rdB b s.1 0 m with
  | none =>
    unfold rB at h
    rw [hs, hd] at h
    simp at h
  | some r =>
    obtain ⟨n, k⟩ := r
    have h1 : rB b 0 m s = (n, s.1 + k, false) := by unfold rB; rw [hs, hd]; rfl
    rw [h1] at hn
    have h2 := rdB_most hd hn hm
    rw [h1]
    unfold rB; rw [hs, h2]; rfl
theorem rL_most {b : List UInt8} {s : Nat × Bool} {m m' : Int} (h : (rL b m s).2.2 = false) (hn : (rL b m s).1.length ≤ 9) (hm : 9 ≤ m') : rL b m' s = rL b m s := by
  have hs := rL_sticky h
  cases hd : rdB b s.1 0 m with
  | none =>
    unfold rL rdL at h
    rw [hs, hd] at h
    simp at h
  | some r =>
    obtain ⟨n, k⟩ := r
    cases hN : rdN b n.toNat (s.1 + k) with
    | none =>
      unfold rL rdL at h
      rw [hs, hd] at h
      simp only at h
      rw [hN] at h
      simp at h
    | some q =>
      obtain ⟨l, p⟩ := q
      have h1 : rL b m s = (l, p, false) := by unfold rL rdL; rw [hs, hd]; simp only; rw [hN]; rfl
      rw [h1] at hn
      have hl := (rdN_len hN).1
      have h2 := rdB_most hd (by simp only at hn; omega) hm
      rw [h1]
      unfold rL rdL; rw [hs, h2]; simp only; rw [hN]; rfl
theorem rEnd_ok {b : List UInt8} {s : Nat × Bool} (h : rEnd b s = 0) : s.2 = false := by
  unfold rEnd at h
  cases hs : s.2
  · rfl
  · rw [hs] at h; simp at h
theorem decV_to {b : List UInt8} {m m' : Int} {x : Sv} (h : decV b m = some x) (hm : 9 ≤ m') : decV b m' = some x := by
  have hok := decV_ok h
  have hlen := hok.len
  have hhl := validH_len hok.h
  have hx : (rdV b m).1 = x ∧ rEnd b (rdV b m).2 = 0 := by
    unfold decV at h
    split at h
    · rename_i hc
      rw [Bool.and_eq_true, decide_eq_true_eq] at hc
      injection h with h
      exact ⟨h, hc.1⟩
    · cases h
  obtain ⟨hx, he⟩ := hx
  have hf := rEnd_ok he
  have e3 : (rB b 0 m (rL b m (rI b (0, false)).2).2).2.2 = false := rHs_sticky (n := (rB b 0 m (rL b m (rI b (0, false)).2).2).1.toNat) hf
  have e2 : (rL b m (rI b (0, false)).2).2.2 = false := rB_sticky e3
  have l1 : (rL b m (rI b (0, false)).2).1.length ≤ 9 := by
    have : (rdV b m).1.wt = (rL b m (rI b (0, false)).2).1 := rfl
    rw [← this, hx]; exact hlen
  have l2 : (rB b 0 m (rL b m (rI b (0, false)).2).2).1 ≤ 9 := by
    have h1 : (rdV b m).1.hs = (rHs b (rB b 0 m (rL b m (rI b (0, false)).2).2).1.toNat (rB b 0 m (rL b m (rI b (0, false)).2).2).2).1 := rfl
    have h2 := rHs_len b (rB b 0 m (rL b m (rI b (0, false)).2).2).1.toNat (rB b 0 m (rL b m (rI b (0, false)).2).2).2
    rw [← h1, hx] at h2
    omega
  have key : rdV b m' = rdV b m := by
    unfold rdV
    simp only
    rw [rL_most e2 l1 hm, rB_most e3 l2 hm]
  unfold decV at h ⊢
  rw [key]; exact h
theorem decV_32 (b : List UInt8) : decV b 32 = decV b 10 := by
  cases h : decV b 10 with
  | some x => exact decV_to h (by omega)
  | none =>
    cases h2 : decV b 32 with
    | none => rfl
    | some x => rw [decV_to h2 (by omega)] at h; cases h
end Go.Rv
namespace Go.Proofs.YthmnhpakgjnngaaGreatDoor
open Go.RowKit Go.Bs Go.Cl Go.Rw Go.Dt Go.Rv Go.Wi
set_option maxRecDepth 100000 in
set_option maxHeartbeats 4000000 in
theorem rstep_any (bv : Value) (b : List UInt8) (m : Ms) (da : Option Addr) (dn dc : Nat) (w : World) (hB : Bytes [] w bv b) (hbl : b.length ≤ 1000000) :
    Calls Tryz.prog 7 #[bv, .agg (msgC m (.slice da dn dc))] w (RetP b m dn w) := by
  obtain ⟨ms, md, mk, mq, m0, m1, m2, m3⟩ := m
  obtain ⟨ba, bc, rfl⟩ := Raw.slice hB
  unfold msgC
  dsimp only
  obtain ⟨M, hM⟩ : ∃ M, M = w.heap.size := ⟨_, rfl⟩
  obtain ⟨W, hW⟩ : ∃ W, W = w.alloc (.cells #[.int .i64 ms, .int .i64 md, .int .i64 mk, .int .i64 mq, .int .i64 m0, .int .i64 m1, .int .i64 m2, .int .i64 m3, .slice da dn dc] 31) := ⟨_, rfl⟩
  have hb : Below w.heap.size w W := by rw [hW]; exact (Below.refl w.heap.size w).alloc (Nat.le_refl _) _
  have hx : W.heap[M]? = some (.cells #[.int .i64 ms, .int .i64 md, .int .i64 mk, .int .i64 mq, .int .i64 m0, .int .i64 m1, .int .i64 m2, .int .i64 m3, .slice da dn dc] 31 (0, 0)) := by rw [hW, hM]; exact heap_alloc_new w _
  have HB := Lib.hid (Raw.below hB hb); have Hb := Lib.hid hb; have HMx := Lib.hid hx
  have HW := Lib.hid hW; have HMe := Lib.hid hM
  clear hB hb hx hW hM
  obtain ⟨D, hD⟩ : ∃ D, decV b 10 = D := ⟨_, rfl⟩
  have HD := Lib.hid hD
  rw [← decV_32] at hD
  go_enter Tryz.func7, Tryz.ntmps7
  go_wp2_with fail
  rw [← HW.out, ← HMe.out]
  clear HW
  refine (rdecode_any _ b W HB.out hbl).mono ?_
  rintro e w1 ⟨hb1, hres⟩
  rw [hD] at hres
  clear hD
  have HM1 := Lib.hid ((hb1.block M (Array.getElem?_eq_some_iff.1 HMx.out).1).trans HMx.out)
  have Hb1 := Lib.hid (Hb.out.trans (hb1.mono Hb.out.size))
  clear hb1 HMx Hb HB
  cases D with
  | none =>
    obtain rfl := hres
    go_wp2
    go_ret3
    refine ⟨?_, ?_⟩
    · exact Hb1.out.alloc (Hb1.out.size) _
    · rw [HD.out]; rfl
  | some x =>
    obtain ⟨sv, rfl, hsv⟩ := hres
    have hok := decV_ok HD.out
    obtain ⟨wv, hv, rfl, i1, s1⟩ := hsv.toV
    clear hsv
    obtain ⟨a, cap, rfl⟩ := Raw.slice i1
    obtain ⟨ha, hc, rfl⟩ := Raw.slice s1
    have HI := Lib.hid i1; have HS := Lib.hid s1; have HOK := Lib.hid hok
    clear i1 s1 hok
    obtain ⟨S, hS⟩ : ∃ M, M = w1.heap.size := ⟨_, rfl⟩
    obtain ⟨w2, hw2⟩ : ∃ W, W = w1.alloc (.cells #[.int .i64 x.r, .slice a x.wt.length cap, .slice ha x.hs.length hc] 27) := ⟨_, rfl⟩
    have hb2 : Below w1.heap.size w1 w2 := by rw [hw2]; exact (Below.refl w1.heap.size w1).alloc (Nat.le_refl _) _
    have hx2 : w2.heap[S]? = some (.cells #[.int .i64 x.r, .slice a x.wt.length cap, .slice ha x.hs.length hc] 27 (0, 0)) := by rw [hw2, hS]; exact heap_alloc_new w1 _
    have s0 := box_at hx2 (j := 0) rfl
    have s1 := box_at hx2 (j := 1) rfl
    have s2 := box_at hx2 (j := 2) rfl
    have Hx2 := Lib.hid hx2
    have hMS : M ≠ S := by have := (Array.getElem?_eq_some_iff.1 HM1.out).1; omega
    have hm2 := (hb2.block M (Array.getElem?_eq_some_iff.1 HM1.out).1).trans HM1.out
    have k0 := box_at hm2 (j := 0) rfl
    have k1 := box_at hm2 (j := 1) rfl
    have k2 := box_at hm2 (j := 2) rfl
    have k3 := box_at hm2 (j := 3) rfl
    have k4 := box_at hm2 (j := 4) rfl
    have k5 := box_at hm2 (j := 5) rfl
    have k6 := box_at hm2 (j := 6) rfl
    have k7 := box_at hm2 (j := 7) rfl
    have k8 := box_at hm2 (j := 8) rfl
    have Hb1s := Lib.hid Hb1.out.size
    have HI2 := Lib.hid (Raw.below (raw_at HI.out (N := S) (by omega)) hb2); have HS2 := Lib.hid (Raw.below (raw_at HS.out (N := S) (by omega)) hb2)
    have Hb2 := Lib.hid (Hb1.out.trans (hb2.mono Hb1.out.size))
    have Hw2 := Lib.hid hw2; have HSe := Lib.hid hS
    clear hb2 hx2 hm2 hw2 hS HI HS Hb1 HM1
    go_upto_region 4 with (fail)
    rw [← Hw2.out, ← HSe.out]
    clear Hw2
    go_wp2_with fail
    refine (rhandle_any x _ _ ⟨ms, md, mk, mq, m0, m1, m2, m3⟩ da dn dc [S] w2 HOK.out (fun f hf => by rw [List.mem_singleton.1 hf]; exact (Array.getElem?_eq_some_iff.1 Hx2.out).1) HI2.out HS2.out).mono ?_
    rintro e w3 ⟨hb3, hres⟩
    obtain ⟨RS, hRS⟩ : ∃ r, handleV x ⟨ms, md, mk, mq, m0, m1, m2, m3⟩ dn = r := ⟨_, rfl⟩
    rw [hRS] at hres
    have HRS := Lib.hid hRS
    have Hb3 := Lib.hid (Hb2.out.trans (hb3.mono Hb2.out.size))
    have Hx3 := Lib.hid ((hb3.block S (Array.getElem?_eq_some_iff.1 Hx2.out).1).trans Hx2.out)
    have hSw : w.heap.size ≤ S := by have := Hb1s.out; have := HSe.out; omega
    clear hb3 hRS s0 s1 s2 k0 k1 k2 k3 k4 k5 k6 k7 k8 HI2 HS2 Hb2 Hx2 Hb1s
    have q0 := box_at Hx3.out (j := 0) rfl
    have q1 := box_at Hx3.out (j := 1) rfl
    have q2 := box_at Hx3.out (j := 2) rfl
    have p0 := box_free Hx3.out 0
    have p1 := box_free Hx3.out 1
    have p2 := box_free Hx3.out 2
    cases RS with
    | none =>
      obtain rfl := hres
      go_wp2
      go_ret3
      refine ⟨Hb3.out.trans (Keep.below (F := [S]) (keep_set3 w3 S (.int .i64 0) (.slice none 0 0) (.slice none 0 0)) Hb3.out.size (fun f hf => by rw [List.mem_singleton.1 hf]; exact hSw)), ?_⟩
      rw [HD.out]
      simp only
      rw [HRS.out]
      rfl
    | some q =>
      obtain ⟨x', es⟩ := q
      obtain ⟨hok', hes⟩ := handle_ok HOK.out HRS.out
      obtain ⟨sv, ev, rfl, hsv, hse⟩ := hres
      obtain ⟨wv', hv', rfl, i1, t1⟩ := hsv
      obtain ⟨a', cap', rfl⟩ := Raw.slice i1
      obtain ⟨ha', hc', rfl⟩ := Raw.slice t1
      obtain ⟨ea, ec, rfl⟩ := Raw.slice hse
      have hl1 := hok'.len
      have hl2 := validH_len hok'.h
      obtain ⟨w4, hw4⟩ : ∃ W, W = ((w3.setCell ⟨S, 0, none⟩ (.int .i64 x'.r)).setCell ⟨S, 1, none⟩ (.slice a' x'.wt.length cap')).setCell ⟨S, 2, none⟩ (.slice ha' x'.hs.length hc') := ⟨_, rfl⟩
      have hk4 : Keep [S] w3 w4 := by rw [hw4]; exact keep_set3 w3 S _ _ _
      have hx4 : w4.heap[S]? = some (.cells #[.int .i64 x'.r, .slice a' x'.wt.length cap', .slice ha' x'.hs.length hc'] 27 (0, 0)) := by rw [hw4]; exact heap_set3 Hx3.out _ _ _
      have hin : ∀ f ∈ [S], f ∈ [S] ∨ w3.heap.size ≤ f := fun f hf => .inl hf
      have HI4 := Lib.hid (Raw.keep (F' := []) i1 hk4 hin (fun f hf => by cases hf)); have HS4 : Hid (SlH w4 (.slice ha' x'.hs.length hc') x'.hs) := Lib.hid (Raw.keep (F' := []) t1 hk4 hin (fun f hf => by cases hf))
      have HE4 : Hid (SlE w4 (.slice ea es.length ec) es) := Lib.hid (Raw.keep (F' := []) hse hk4 hin (fun f hf => by cases hf))
      have Hx4 := Lib.hid hx4
      clear hx4
      have Hb4 := Lib.hid (Hb3.out.trans (hk4.below (B := w.heap.size) Hb3.out.size (fun f hf => by rw [List.mem_singleton.1 hf]; exact hSw)))
      have Hw4 := Lib.hid hw4
      clear hin hk4 hw4 Hb3 i1 t1 hse Hx3
      go_upto_region 7 with (fail)
      rw [← Hw4.out]
      clear Hw4 p0 p1 p2 q0 q1 q2
      have s0 := box_at Hx4.out (j := 0) rfl
      have s1 := box_at Hx4.out (j := 1) rfl
      have s2 := box_at Hx4.out (j := 2) rfl
      go_wp2_with fail
      refine (rencode_any x' _ _ w4 (by omega) (by omega) HI4.out HS4.out).mono ?_
      rintro e w5 ⟨v5, rfl, hr5, hb5⟩
      obtain ⟨a5, c5, rfl⟩ := own_slice hr5
      have HR5 := Lib.hid hr5
      have HE5 := Lib.hid (SlE.below HE4.out hb5)
      have Hb5 := Lib.hid (Hb4.out.trans (hb5.mono Hb4.out.size))
      have hs4 := Hb4.out.size
      clear hr5 hb5 s0 s1 s2 HI4 HS4 HE4
      go_wp2
      go_ret3
      refine ⟨Hb5.out, ?_⟩
      rw [HD.out]
      simp only
      rw [HRS.out]
      exact ⟨_, _, rfl, own_base HR5.out hs4, HE5.out⟩
end Go.Proofs.YthmnhpakgjnngaaGreatDoor
