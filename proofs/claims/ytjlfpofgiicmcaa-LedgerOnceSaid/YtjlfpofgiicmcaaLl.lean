/- Ledger: the walk of LedgerOnce -/
import Derived.Test.YtjlfpofgiicmcaaLk
namespace Go.Lg
open Go Go.RowKit Go.Bs Go.Cl Go.Rw
/-- the block N holds the 32 numbers S -/
def Arr (w : World) (N : Nat) (S : Nat → Int) : Prop := ∀ j, j < 32 → w.cell? ⟨N, j, none⟩ = some (.int .i64 (S j)) ∧ w.frozen? ⟨N, j, none⟩ = false
theorem Arr.below {w w' : World} {N M : Nat} {S : Nat → Int} (h : Arr w N S) (hb : Below M w w') (hN : N < M) : Arr w' N S := fun j hj =>
  ⟨(hb.cell (p := ⟨N, j, none⟩) hN).trans (h j hj).1, (World.frozen?_of_block (w := w) (hb.block N hN)).trans (h j hj).2⟩
theorem Arr.setCell {w : World} {N : Nat} {S : Nat → Int} (h : Arr w N S) {t : Nat} (ht : t < 32) (x : Int) : Arr (w.setCell ⟨N, t, none⟩ (.int .i64 x)) N (fun j => if j = t then x else S j) := fun j hj => by
  refine ⟨?_, by simp [(h j hj).2]⟩
  by_cases e : j = t
  · subst e; simp only [if_true]; exact World.cell?_setCell_same _ _ _ (h j hj).1
  · simp only [if_neg e]; rw [World.cell?_setCell_other]
    · exact (h j hj).1
    · intro hh; exact e (by cases hh; rfl)
theorem bytes_at {w : World} {a : Option Addr} {n c : Nat} {l : List UInt8} (h : Bytes [] w (.slice a n c) l) {i : Nat} (hi : i < l.length) : ∃ b off x, a = some ⟨b, off, none⟩ ∧ b < w.heap.size ∧ x < 256 ∧ w.cell? ⟨b, off + i, none⟩ = some (.int .u8 (x : Nat)) := by
  rcases Raw.cases h with ⟨h0, _⟩ | ⟨_, b, off, cap, hv, _, _, hb, _, hc⟩
  · omega
  · cases hv
    exact ⟨b, off, l[i].toNat, rfl, hb, l[i].toNat_lt, hc i _ (by simp [bytesV, hi, byteV])⟩
theorem rem32 (x : Nat) (h : x < 256) : ∃ t : Nat, t < 32 ∧ (x : Int) % 32 = (t : Nat) := ⟨x % 32, Nat.mod_lt _ (by omega), by omega⟩
end Go.Lg
namespace Go.Proofs.Ytjlfpofgiicmcaa
open Go.RowKit Go.Bs Go.Cl Go.Rw Go.Lg

theorem equal_refl {v1 v2 : Value} {l : List Lt} {w : World} (hl : l.length ≤ 1000000) (h1 : SlL w v1 l) (h2 : SlL w v2 l) :
    Calls Try.prog 18 #[v1, v2] w fun e w' => e = .returned (.bool true) ∧ Below w.heap.size w w' := by
  have := equal_any v1 v2 l l w hl hl h1 h2
  rwa [eqL_refl] at this

set_option maxRecDepth 100000 in
set_option maxHeartbeats 8000000 in
theorem once_any (v u : Value) (l m : List UInt8) (w : World) (h : Bytes [] w v l) (hm : Bytes [] w u m) :
    Calls Try.prog 6 #[v, u] w fun e w' => e = .returned (.bool true) ∧ Below w.heap.size w w' := by
  obtain ⟨a, cap, rfl⟩ := Raw.slice h
  obtain ⟨am, capm, rfl⟩ := Raw.slice hm
  have H := Lib.hid h; clear h
  have M := Lib.hid hm; clear hm
  by_cases h1 : 60 < l.length
  · have g1 : (60 : Int) < l.length := by omega
    go_enter Try.func6, Try.ntmps6
    go_wp2_with fail
    refine (awake_any _).mono ?_
    rintro e w1 ⟨rfl, hb1⟩
    go_wp2
    go_ret
    exact ⟨rfl, hb1⟩
  have g1 : (l.length : Int) ≤ 60 := by omega
  by_cases h2 : 60 < m.length
  · have g2 : (60 : Int) < m.length := by omega
    go_enter Try.func6, Try.ntmps6
    go_wp2_with fail
    refine (awake_any _).mono ?_
    rintro e w1 ⟨rfl, hb1⟩
    go_wp2
    go_ret
    exact ⟨rfl, hb1⟩
  have g2 : (m.length : Int) ≤ 60 := by omega
  go_enter Try.func6, Try.ntmps6
  go_wp2_with fail
  refine (awake_any _).mono ?_
  rintro e w1 ⟨rfl, hb1⟩
  go_wp2
  rw [show (#[Value.int IntKind.i64 0, Value.int IntKind.i64 0, Value.int IntKind.i64 0, Value.int IntKind.i64 0, Value.int IntKind.i64 0, Value.int IntKind.i64 0, Value.int IntKind.i64 0, Value.int IntKind.i64 0, Value.int IntKind.i64 0, Value.int IntKind.i64 0, Value.int IntKind.i64 0, Value.int IntKind.i64 0, Value.int IntKind.i64 0, Value.int IntKind.i64 0, Value.int IntKind.i64 0, Value.int IntKind.i64 0, Value.int IntKind.i64 0, Value.int IntKind.i64 0, Value.int IntKind.i64 0, Value.int IntKind.i64 0, Value.int IntKind.i64 0, Value.int IntKind.i64 0, Value.int IntKind.i64 0, Value.int IntKind.i64 0, Value.int IntKind.i64 0, Value.int IntKind.i64 0, Value.int IntKind.i64 0, Value.int IntKind.i64 0, Value.int IntKind.i64 0, Value.int IntKind.i64 0, Value.int IntKind.i64 0, Value.int IntKind.i64 0] : Array Value) = Array.replicate 32 (.int .i64 0) from rfl]
  have hN0 : w.heap.size ≤ w1.heap.size := hb1.size
  obtain ⟨N, hN⟩ : ∃ N, w1.heap.size = N := ⟨_, rfl⟩
  have HN := Lib.hid hN
  have hbel2 : Below w.heap.size w (w1.alloc (.cells (Array.replicate 32 (.int .i64 0)) 44)) := hb1.alloc hN0 _
  have harr : Arr (w1.alloc (.cells (Array.replicate 32 (.int .i64 0)) 44)) N (fun _ => 0) := fun j hj => by
    rw [← hN]
    refine ⟨?_, ?_⟩
    · rw [World.cell?_alloc_mark]; simp [hj]
    · exact World.frozen?_alloc_at _ _ _ _ rfl
  have hsz2 : N < (w1.alloc (.cells (Array.replicate 32 (.int .i64 0)) 44)).heap.size := by simp [← hN]
  rw [hN] at hN0
  rw [hN]
  clear hN hb1
  have HA := Lib.hid harr; clear harr
  go_loopw [5, 7] (fun lv i wr => ∃ (k : Nat) (cur : List Lt) (S : Nat → Int), k ≤ l.length ∧ i = .int .i64 k ∧ Raw [N] 2 wr lv cur.length (cur.flatMap encL) ∧ cur.length ≤ k ∧ validL cur = true ∧ (∀ t : Nat, t < 32 → seenL cur t = S t ∧ 0 ≤ S t ∧ S t ≤ k) ∧ Arr wr N S ∧ Below w.heap.size w wr ∧ N < wr.heap.size) (fun _ i _ => l.length - (intOf i).toNat)
  case atStart => exact ⟨0, [], fun _ => 0, Nat.zero_le _, rfl, Raw.empty _ _ _, Nat.le_refl _, rfl, fun _ _ => ⟨rfl, Int.le_refl _, Int.le_refl _⟩, HA.out, hbel2, hsz2⟩
  case round =>
    obtain ⟨k, cur, S, hk, rfl, hl, hcl, hv, hS, ha, hbel, hsz⟩ := hrel
    obtain ⟨la, lc, rfl⟩ := Raw.slice hl
    have HL := Lib.hid hl; clear hl
    have HV := Lib.hid hv; clear hv
    have HS := Lib.hid hS; clear hS
    have HA := Lib.hid ha; clear ha
    have hcl3 : cur.length ≤ 1000 := by omega
    by_cases hlt : k < l.length
    · have hlt' : (k : Int) < l.length := by omega
      obtain ⟨b, off, x, rfl, hbw, hx256, hx⟩ := bytes_at (Raw.below H.out hbel) hlt
      obtain ⟨t, ht, hrem⟩ := rem32 x hx256
      have ht' : (t : Int) < 32 := by omega
      obtain ⟨hac, haf⟩ := HA.out t ht
      obtain ⟨hs1, hs2, hs3⟩ := HS.out t ht
      have Hs1 := Lib.hid hs1; clear hs1
      obtain ⟨St, hSt⟩ : ∃ St, S t = St := ⟨_, rfl⟩
      rw [hSt] at hac hs2 hs3 Hs1
      have HSt := Lib.hid hSt; clear hSt
      have hbN : b ≠ N := by
        rcases Raw.cases H.out with ⟨h, _⟩ | ⟨_, _, _, _, hv, _, _, hb, _⟩
        · omega
        · cases hv; omega
      have hsee : seeL cur t (St + 1) = (putL cur ⟨t, St + 1⟩, 1, 0) := see_new HV.out (by simp [propL]; omega) (by omega) (by rw [Hs1.out]; omega)
      obtain ⟨nx, hnx⟩ : ∃ nx, putL cur ⟨t, St + 1⟩ = nx := ⟨_, rfl⟩
      have hnv : validL nx = true := by rw [← hnx]; exact put_valid HV.out (by simp [okE, propL]; omega)
      have hnl : nx.length ≤ k + 1 := by rw [← hnx]; have := put_len cur ⟨t, St + 1⟩ (valid_srt HV.out); omega
      have hnS : ∀ j : Nat, j < 32 → seenL nx j = (if j = t then St + 1 else S j) ∧ 0 ≤ (if j = t then St + 1 else S j) ∧ (if j = t then St + 1 else S j) ≤ (k + 1 : Nat) := fun j hj => by
        rw [← hnx, seen_put (valid_srt HV.out)]
        obtain ⟨q1, q2, q3⟩ := HS.out j hj
        by_cases e : j = t
        · subst e; simp only [if_true]; exact ⟨trivial, by omega, by omega⟩
        · have e' : ¬ ((j : Nat) : Int) = (⟨t, St + 1⟩ : Lt).t := by show ¬ (j : Int) = (t : Int); omega
          rw [if_neg e', if_neg e]; exact ⟨q1, q2, by omega⟩
      rw [hnx] at hsee
      have Hsee := Lib.hid hsee; clear hsee
      have Hnv := Lib.hid hnv; clear hnv
      have HnS := Lib.hid hnS; clear hnS
      clear hnx
      have hn3 : nx.length ≤ 1000 := by omega
      have hn6 : nx.length ≤ 1000000 := by omega
      have ha2 := HA.out.setCell ht (St + 1)
      have hl2 : Raw [N] 2 (wr.setCell ⟨N, t, none⟩ (.int .i64 (St + 1))) (.slice la cur.length lc) cur.length (cur.flatMap encL) := HL.out.keep (G := [N]) ((Keep.refl [N] wr).setCell (.inl (by simp)) _) (fun f hf => .inl hf) (fun f hf => .inl hf)
      have hbel2 : Below w.heap.size w (wr.setCell ⟨N, t, none⟩ (.int .i64 (St + 1))) := hbel.setCell (p := ⟨N, t, none⟩) hN0 _
      have hsz2 : N < (wr.setCell ⟨N, t, none⟩ (.int .i64 (St + 1))).heap.size := by simpa [World.setCell] using hsz
      have HA2 := Lib.hid ha2; clear ha2
      have HL2 := Lib.hid hl2; clear hl2
      have hc1 : -9223372036854775808 ≤ St + 1 := by omega
      have hc2 : St + 1 ≤ 9223372036854775807 := by omega
      have hc := see_low _ cur t (St + 1) _ hcl3 (Raw.to_nil HL2.out) hc1 hc2
      rw [Hsee.out] at hc
      have Hc := Lib.hid hc; clear hc hc1 hc2
      have hs60 : St ≤ 60 := by omega
      clear hs3
      go_wp2_with fail
      refine Hc.out.mono ?_
      rintro e w2 ⟨v2, rfl, hlow, hb2⟩
      have h2 := hlow [N] (fun f hf => by rw [List.mem_singleton.1 hf]; exact hsz2)
      obtain ⟨a2, c2, rfl⟩ := Raw.slice h2
      have HN2 := Lib.hid h2; clear h2 hlow
      have HA3 := Lib.hid (HA2.out.below hb2 hsz2)
      have hbel3 := hbel2.trans (hb2.mono hbel2.size)
      have hsz3 : N < w2.heap.size := Nat.lt_of_lt_of_le hsz2 hb2.size
      clear hb2
      by_cases hm : m.length ≤ k
      · have hm' : (m.length : Int) ≤ k := by omega
        go_wp2
        go_roundw
        · exact ⟨k + 1, nx, _, hlt, by simp, HN2.out, hnl, Hnv.out, HnS.out, HA3.out, hbel3, hsz3⟩
        · simp only [intOf]
          omega
      have hm' : (k : Int) < m.length := by omega
      obtain ⟨bm, om, y, ham, hbm, hy256, hy⟩ := bytes_at (Raw.below M.out hbel3) (show k < m.length by omega)
      subst ham
      obtain ⟨t2, ht2, hrem2⟩ := rem32 y hy256
      have ht2' : (t2 : Int) < 32 := by omega
      have hac3 := (HA3.out t2 ht2).1
      obtain ⟨q1, q2, q3⟩ := HnS.out t2 ht2
      obtain ⟨S2, hS2⟩ : ∃ S2, (if t2 = t then St + 1 else S t2) = S2 := ⟨_, rfl⟩
      rw [hS2] at q1 q2 q3
      have hac2 : w2.cell? ⟨N, t2, none⟩ = some (.int .i64 S2) := by rw [← hS2]; exact hac3
      clear hS2 hac3
      have Q1 := Lib.hid q1; clear q1
      by_cases hz : S2 = 0
      · subst hz
        go_wp2
        go_roundw
        · exact ⟨k + 1, nx, _, hlt, by simp, HN2.out, hnl, Hnv.out, HnS.out, HA3.out, hbel3, hsz3⟩
        · simp only [intOf]
          omega
      have hz2 : (S2 == 0) = false := by simpa using hz
      obtain ⟨r, hr⟩ : ∃ r, (y : Int).tmod S2 = r := ⟨_, rfl⟩
      have hr0 : 0 ≤ r := by rw [← hr]; exact Int.tmod_nonneg _ (by omega)
      have hr1 : r < S2 := by rw [← hr]; exact Int.tmod_lt_of_pos _ (by omega)
      have hrep : seeL nx t2 (1 + r) = (nx, 2, 0) := see_rep Hnv.out (by simp [propL]; omega) (by omega) (by rw [Q1.out]; omega)
      have Hrep := Lib.hid hrep; clear hrep
      have hr60 : r ≤ 62 := by omega
      go_wp2
      refine Txt.wp_txt (by kernel_rfl) (by kernel_rfl) ?_
      have hc1 : -9223372036854775808 ≤ 1 + r := by omega
      have hc2 : 1 + r ≤ 9223372036854775807 := by omega
      have hc := see_low _ nx t2 (1 + r) w2.drew hn3 (Raw.to_nil (Raw.drew HN2.out)) hc1 hc2
      rw [Hrep.out] at hc
      have Hc2 := Lib.hid hc; clear hc hc1 hc2
      go_wp2_with (go_at_call 9; refine Hc2.out.mono ?_; rintro e w3 ⟨v3, rfl, hlow3, hb3⟩)
      obtain ⟨a3, c3, rfl⟩ := Raw.slice hlow3.sl
      have HN3 := Lib.hid hlow3.sl; clear hlow3
      have hb3 : Below w2.heap.size w2 w3 := (Below.refl _ w2).drew.trans hb3
      have HA4 := Lib.hid (HA3.out.below hb3 hsz3)
      have HN4 := Lib.hid (Raw.below HN2.out hb3)
      have hbel4 := hbel3.trans (hb3.mono hbel3.size)
      have hsz4 : N < w3.heap.size := Nat.lt_of_lt_of_le hsz3 hb3.size
      clear hb3
      go_wp2
      refine Txt.DrawPost.mk0 (by rfl) ?_
      go_wp2_with fail
      refine (equal_refl hn6 HN3.out (Raw.to_nil HN4.out)).mono ?_
      rintro e w4 ⟨rfl, hb4⟩
      have HA5 := Lib.hid (HA4.out.below hb4 hsz4)
      have HN5 := Lib.hid (Raw.below HN4.out hb4)
      have hbel5 := hbel4.trans (hb4.mono hbel4.size)
      have hsz5 : N < w4.heap.size := Nat.lt_of_lt_of_le hsz4 hb4.size
      clear hb4
      go_wp2
      go_roundw
      · exact ⟨k + 1, nx, _, hlt, by simp, HN5.out, hnl, Hnv.out, HnS.out, HA5.out, hbel5, hsz5⟩
      · simp only [intOf]
        omega
    · go_wp2
      go_ret
      exact ⟨rfl, hbel⟩
end Go.Proofs.Ytjlfpofgiicmcaa
