/- The walk of slices.Insert of one element into a row of the call's own: its elements, the new one, the rest. -/
import Derived.Test.YthmnhpakgjnngaaGreatDoorRows
import Derived.Test.YthmnhpakgjnngaaGreatDoorM1
namespace Go.Proofs.YthmnhpakgjnngaaGreatDoor
open Go.RowKit Go.Bs Go.Cl Go.In

theorem Tryz.infoI68 : (Tryz.prog.info? 68).map (fun i => (i.zero, i.size, i.bytes)) = some (some (.agg #[.int .i64 0, .int .i64 0, .int .i64 0]), 3, 24) := by kernel_rfl

/-- at the end: append -/
theorem insert_end (base n : Nat) (v : Value) (xs ys : List Value) (vb vc : Nat) (w : World) (hbase : base ≤ w.heap.size) (hn : n ≤ 1000000) (hown : w.ownsRow base 68 3 v n xs)
    (hy : ys.length = 3) (hys : w.heap[vb]? = some (.cells ys.toArray 68 (0, 0))) (h1y : ∀ u ∈ ys, u.oneCell' = true) :
    Calls Tryz.prog 87 #[v, .int .i64 n, .slice (some ⟨vb, 0, none⟩) 1 vc] w fun e w' => ∃ v', e = .returned v' ∧ w'.ownsRow base 68 3 v' (n + 1) (xs ++ ys) ∧ w.grownBy w' v.ownBlock := by
  obtain ⟨i0, hi, hz0, hz1, hz2⟩ := info_parts Tryz.infoI68
  have Hi := Lib.hid hi; clear hi
  have Hz0 := Lib.hid hz0; clear hz0
  have Hz1 := Lib.hid hz1; clear hz1
  have Hz2 := Lib.hid hz2; clear hz2
  have Hown := Lib.hid hown
  have H1y := Lib.hid h1y; clear h1y
  have Hy := Lib.hid (show ys.length = 1 * 3 by omega)
  have Hn := Lib.hid (show 0 < 1 → ∃ a', (some ⟨vb, 0, none⟩ : Option Addr) = some a' ∧ ∀ j u, ys[j]? = some u → w.cell? (a'.add j) = some u from fun _ =>
    ⟨_, rfl, fun j u hj => by rw [Addr.add_lit]; simp [World.cell?, hys]; simpa using hj⟩)
  clear hys
  have hf : ∃ a cap, v = .slice a n cap ∧ n ≤ cap ∧ (a = none ∨ ∃ g, a = some ⟨g, 0, none⟩) := by
    rcases own_cases hown with ⟨rfl, rfl, _⟩ | ⟨g, cap, rfl, _, _, h⟩
    · exact ⟨_, _, rfl, Nat.le_refl _, .inl rfl⟩
    · exact ⟨_, _, rfl, h, .inr ⟨g, rfl⟩⟩
  obtain ⟨a, cap, rfl, hc, ha⟩ := hf
  clear hown
  rcases ha with rfl | ⟨g, rfl⟩
  all_goals
    go_enter Tryz.func87, Tryz.ntmps87
    by_cases hcn : cap = n
    all_goals
      go_wp2_with (at_builtin; refine Ml.wpList_append_own2 _ rfl _ _ 39 39 rfl base 68 i0 (.agg #[.int .i64 0, .int .i64 0, .int .i64 0]) 3 24 Tryz.underlying39 Tryz.underlying39 Hi.out Hz0.out Hz1.out Hz2.out rfl _ n xs rfl Hown.out (some ⟨vb, 0, none⟩) 1 vc ys rfl Hy.out Hn.out H1y.out ?c3 ?c4 ?c5 ?_)
      case c3 => unfold maxLen; omega
      case c4 => omega
      case c5 => exact hbase
      · intro v' w1 hown' hgrow
        have Hown' := Lib.hid hown'; clear hown'
        have Hg := Lib.hid hgrow; clear hgrow
        go_wp2
        go_ret
        exact ⟨_, rfl, Hown'.out, Hg.out⟩
end Go.Proofs.YthmnhpakgjnngaaGreatDoor
namespace Go.Proofs.YthmnhpakgjnngaaGreatDoor
open Go.RowKit Go.Bs Go.Cl Go.In

theorem row_cell {w : World} {g j : Nat} {cur : Array Value} {t : TypeId} {v : Value} (hg : w.heap[g]? = some (.cells cur t (0, 0))) (hj : cur.toList[j]? = some v) : w.cell? ⟨g, j, none⟩ = some v := by
  simp [World.cell?, hg]; simpa using hj
theorem grown_two {w w1 w2 : World} {g : Option Nat} (h1 : w.grownBy w1 g) (h2 : w1.grownBy w2 g) : w.grownBy w2 g :=
  ⟨h2.os.trans h1.os, h2.tape.trans h1.tape, h2.output.trans h1.output, Nat.le_trans h1.size h2.size, fun k hk hg => (h2.block k (Nat.lt_of_lt_of_le hk h1.size) hg).trans (h1.block k hk hg)⟩
theorem grown_drew {w w1 : World} {g : Option Nat} (h1 : w.drew.grownBy w1 g) : w.grownBy w1 g := ⟨h1.os, h1.tape, h1.output, h1.size, h1.block⟩
theorem grown_drew' {w w1 : World} {g : Option Nat} (h1 : w.grownBy w1 g) : w.grownBy w1.drew g := ⟨h1.os, h1.tape, h1.output, h1.size, h1.block⟩
theorem insert_overlaps (vb m vc g off lb cb : Nat) (w : World) (c1 c2 : Array Value) (t1 t2 : TypeId) (hne : vb ≠ g) (h1 : w.heap[vb]? = some (.cells c1 t1 (0, 0))) (h2 : w.heap[g]? = some (.cells c2 t2 (0, 0))) (hz : c2.size ≠ 0) :
    (callFunc 100 #[.slice (some ⟨vb, 0, none⟩) m vc, .slice (some ⟨g, off, none⟩) lb cb]).run Tryz.prog w = .ok (.value (.bool false)) w := by
  obtain ⟨i0, hi, hz0, hz1, hz2⟩ := info_parts Tryz.infoI68
  rw [run_callFunc_extern Tryz.func100 (by kernel_rfl) (by kernel_rfl) (by kernel_rfl) (e := Extern.SlicesOverlaps.overlaps #[39, 39] #[4]) (by kernel_rfl),
    Lib.run_overlaps_apart w 39 4 68 Tryz.underlying39 3 (fun w => by simp [sizeOf, typeInfo, hi, hz1]) ⟨vb, 0, none⟩ ⟨g, off, none⟩ m vc lb cb hne t1 t2 c1.size c2.size
      (by simp [World.shape?, h1]) (by simp [World.shape?, h2]) hz (by simp [World.frozen?, h1]) (by simp [World.frozen?, h1])]
  rfl

set_option maxRecDepth 100000 in
set_option maxHeartbeats 1000000 in
/-- in place -/
theorem insert_room (base n i g cap : Nat) (xs ys : List Value) (vb vc : Nat) (w : World) (hn : n ≤ 1000000) (hi : i < n) (hroom : n + 1 ≤ cap) (hown : w.ownsRow base 68 3 (.slice (some ⟨g, 0, none⟩) n cap) n xs)
    (hy : ys.length = 3) (hne : vb ≠ g) (hys : w.heap[vb]? = some (.cells ys.toArray 68 (0, 0))) (h1y : ∀ u ∈ ys, u.oneCell' = true) (h1x : ∀ u ∈ xs, u.oneCell' = true) :
    Calls Tryz.prog 87 #[.slice (some ⟨g, 0, none⟩) n cap, .int .i64 i, .slice (some ⟨vb, 0, none⟩) 1 vc] w fun e w' => ∃ v', e = .returned v' ∧ w'.ownsRow base 68 3 v' (n + 1) (xs.take (i * 3) ++ ys ++ xs.drop (i * 3)) ∧ w.grownBy w' (some g) := by
  obtain ⟨hxl, hc⟩ := hown
  rcases hc with ⟨hc, _⟩ | ⟨g', cap', cur, hv, hbase, hg, hnc, hcm, hcs, htk⟩
  · cases hc
  cases hv
  have hcl : cur.toList.length = cap * 3 := by simpa using hcs
  obtain ⟨ht1, ht2⟩ := insert_in_place (iK := i * 3) (K := 3) htk hxl (by omega) hy (by omega)
  have hov := fun off lb cb => insert_overlaps vb 1 vc g off lb cb w ys.toArray cur 68 68 hne hys hg (by omega)
  have hz : (Tryz.prog.info? 68).map (·.size) = some 3 := by
    obtain ⟨i0, hi, hz0, hz1, hz2⟩ := info_parts Tryz.infoI68
    rw [hi]; simp [hz1]
  have Ht1 := Lib.hid ht1; clear ht1
  have Ht2 := Lib.hid ht2; clear ht2
  have Hg := Lib.hid hg; clear hg
  have Hys := Lib.hid hys; clear hys
  have Htk := Lib.hid htk; clear htk
  have H1x := Lib.hid h1x; clear h1x
  have H1y := Lib.hid h1y; clear h1y
  have Hz := Lib.hid hz; clear hz
  have hb1 : ¬ cap = i := by omega
  have hb2 : ¬ cap = i + 1 := by omega
  have hb3 : ¬ ((cap : Int) < (n : Int) + 1) := by omega
  go_enter Tryz.func87, Tryz.ntmps87
  go_wp2_with (simp only [hov])
  refine Txt.wp_txt (by kernel_rfl) (by kernel_rfl) ?_
  go_wp2_with (refine In.wpList_copyk rfl _ _ 39 39 rfl 68 3 Tryz.underlying39 Hz.out g ((i + 1) * 3) (n - i) (cap - (i + 1)) ⟨g, i * 3, none⟩ (n + 1 - i) (cap - i) rfl rfl cur.toList 68 Hg.out (xs.drop (i * 3)) (n - i) ?d4 ?d5 ?d6 ?d7 ?d8 ?_)
  case d4 => simp only [Nat.min_def]; split <;> omega
  case d5 => rw [List.length_drop]; omega
  case d6 => 
    intro j v hj
    rw [Addr.add_lit]
    rw [List.getElem?_drop, ← Htk.out, List.getElem?_take] at hj
    split at hj
    · exact row_cell (w := w) Hg.out hj
    · cases hj
  case d7 => rw [List.length_drop]; omega
  case d8 => exact fun u hu => H1x.out u (List.mem_of_mem_drop hu)
  intro w1 hg1 hgr1 hsz1
  have Hg1 := Lib.hid hg1; clear hg1
  have Hgr1 := Lib.hid hgr1; clear hgr1
  go_wp2
  refine Txt.DrawPost.mk0 (by rfl) ?_
  go_wp2_with (refine In.wpList_copyk rfl _ _ 39 39 rfl 68 3 Tryz.underlying39 Hz.out g (i * 3) (n + 1 - i) (cap - i) ⟨vb, 0, none⟩ 1 vc rfl rfl _ 68 Hg1.out ys 1 ?e4 ?e5 ?e6 ?e7 H1y.out ?_)
  case e4 => simp only [Nat.min_def]; split <;> omega
  case e5 => omega
  case e6 =>
    intro j v hj
    rw [Addr.add_lit, Nat.zero_add]
    exact row_cell (w := w1) ((Hgr1.out.block vb (Array.getElem?_eq_some_iff.1 Hys.out).1 (by simpa using hne)).trans Hys.out) (by simpa using hj)
  case e7 => rw [length_splice _ _ _ (by rw [List.length_drop]; omega)]; omega
  intro w2 hg2 hgr2 hsz2
  have Hg2 := Lib.hid hg2; clear hg2
  have Hgr2 := Lib.hid (grown_two (grown_drew Hgr1.out) hgr2); clear hgr2
  go_wp2
  go_ret
  refine ⟨_, rfl, ⟨?_, .inr ⟨g, cap, _, rfl, hbase, Hg2.out, hroom, hcm, ?_, ?_⟩⟩, Hgr2.out⟩
  · simp only [List.length_append, List.length_take, List.length_drop]; omega
  · have := Ht2.out
    simp only [List.size_toArray]
    rw [show (i + 1) * 3 = i * 3 + 3 by omega]
    omega
  · have := Ht1.out
    rw [show (i + 1) * 3 = i * 3 + 3 by omega, show (n + 1) * 3 = n * 3 + 3 by omega]
    exact this
end Go.Proofs.YthmnhpakgjnngaaGreatDoor
namespace Go.Proofs.YthmnhpakgjnngaaGreatDoor
open Go.RowKit Go.Bs Go.Cl Go.In

set_option maxRecDepth 100000 in
set_option maxHeartbeats 1000000 in
/-- in a new row -/
theorem insert_new (base n i g cap : Nat) (xs ys : List Value) (vb vc : Nat) (w : World) (hn : n ≤ 1000000) (hi : i < n) (hroom : cap < n + 1) (hbw : base ≤ w.heap.size) (hown : w.ownsRow base 68 3 (.slice (some ⟨g, 0, none⟩) n cap) n xs)
    (hy : ys.length = 3) (hys : w.heap[vb]? = some (.cells ys.toArray 68 (0, 0))) (h1y : ∀ u ∈ ys, u.oneCell' = true) (h1x : ∀ u ∈ xs, u.oneCell' = true) :
    Calls Tryz.prog 87 #[.slice (some ⟨g, 0, none⟩) n cap, .int .i64 i, .slice (some ⟨vb, 0, none⟩) 1 vc] w fun e w' => ∃ v', e = .returned v' ∧ w'.ownsRow base 68 3 v' (n + 1) (xs.take (i * 3) ++ ys ++ xs.drop (i * 3)) ∧ w.grownBy w' (some g) := by
  obtain ⟨i0, hi0, hz0, hz1, hz2⟩ := info_parts Tryz.infoI68
  have hown0 := hown
  obtain ⟨hxl, hc⟩ := hown
  rcases hc with ⟨hc, _⟩ | ⟨g', cap', cur, hv, hbase, hg, hnc, hcm, hcs, htk⟩
  · cases hc
  cases hv
  have hz : (Tryz.prog.info? 68).map (·.size) = some 3 := by rw [hi0]; simp [hz1]
  have hgw : g < w.heap.size := (Array.getElem?_eq_some_iff.1 hg).1
  have hvw : vb < w.heap.size := (Array.getElem?_eq_some_iff.1 hys).1
  have hol : (xs.take (i * 3)).length = i * 3 := by rw [List.length_take]; omega
  have hxc : ∀ j u, xs[j]? = some u → w.cell? ⟨g, j, none⟩ = some u := fun j u hj => own_cell hown0 rfl hj
  have hold : ∀ j u, (xs.take (i * 3))[j]? = some u → w.cell? ⟨g, 0 + j, none⟩ = some u := fun j u hj => by
    rw [Nat.zero_add]
    rw [List.getElem?_take] at hj
    split at hj
    · exact hxc j u hj
    · cases hj
  have hwr : IntKind.i64.wrap ((n : Int) + 1 - i) = ((n + 1 - i : Nat) : Int) := by rw [IntKind.wrap_i64]; omega
  clear hown0
  have Hi := Lib.hid hi0; clear hi0
  have Hz0 := Lib.hid hz0; clear hz0
  have Hz1 := Lib.hid hz1; clear hz1
  have Hz2 := Lib.hid hz2; clear hz2
  have Hxc := Lib.hid hxc; clear hxc
  have Hold := Lib.hid hold; clear hold
  have Hol := Lib.hid hol; clear hol
  have Hg := Lib.hid hg; clear hg
  have Hys := Lib.hid hys; clear hys
  have Htk := Lib.hid htk; clear htk
  have H1x := Lib.hid h1x; clear h1x
  have H1y := Lib.hid h1y; clear h1y
  have Hz := Lib.hid hz; clear hz
  obtain rfl : cap = n := by omega
  have hb1 : ¬ cap = i := by omega
  go_enter Tryz.func87, Tryz.ntmps87
  go_wp2_with (at_builtin; refine In.wpList_append_make rfl _ _ 39 3 rfl 68 i0 (.agg #[.int .i64 0, .int .i64 0, .int .i64 0]) 3 24 .i64 .i64 Tryz.underlying39 Tryz.underlying3 Hi.out Hz0.out Hz1.out Hz2.out rfl (by decide) g 0 i cap (xs.take (i * 3)) rfl Hol.out Hold.out (cap + 1 - i) _ rfl ?a1 ?a2 ?a3 ?a4 ?a5 ?_)
  case a1 => omega
  case a2 => omega
  case a3 => omega
  case a4 => omega
  case a5 => unfold maxLen; omega
  intro w1 cap1 cur1 hg1 hc1 hm1 hl1' hgr1 hsz1
  have hl1 : (xs.take (i * 3) ++ cur1).length = cap1 * 3 := by rw [List.length_append, Hol.out]; omega
  clear hl1'
  obtain ⟨ht1, ht2⟩ := insert_anew (iK := i * 3) (K := 3) hxl (by omega) hy (show cap * 3 + 3 ≤ (xs.take (i * 3) ++ cur1).length by rw [hl1]; omega)
  have Ht1 := Lib.hid ht1; clear ht1
  have Ht2 := Lib.hid ht2; clear ht2
  have Hg1 := Lib.hid hg1; clear hg1
  have Hgr1 := Lib.hid hgr1; clear hgr1
  have Hl1 := Lib.hid hl1; clear hl1
  have hik : i + (cap + 1 - i) = cap + 1 := by omega
  rw [hik] at hc1
  rw [hik]
  clear hik hwr
  have hb2 : ¬ cap1 = i := by omega
  have hb3 : ¬ cap1 = i + 1 := by omega
  go_wp2_with (refine In.wpList_copyk rfl _ _ 39 39 rfl 68 3 Tryz.underlying39 Hz.out w.heap.size (i * 3) (cap + 1 - i) (cap1 - i) ⟨vb, 0, none⟩ 1 vc rfl rfl _ 68 Hg1.out ys 1 ?e4 ?e5 ?e6 ?e7 H1y.out ?_)
  case e4 => simp only [Nat.min_def]; split <;> omega
  case e5 => omega
  case e6 =>
    intro j v hj
    rw [Addr.add_lit, Nat.zero_add]
    exact row_cell (w := w1) ((Hgr1.out.block vb hvw (by simp)).trans Hys.out) (by simpa using hj)
  case e7 => rw [Hl1.out]; omega
  intro w2 hg2 hgr2 hsz2
  have Hg2 := Lib.hid hg2; clear hg2
  have Hgr2 := Lib.hid hgr2; clear hgr2
  go_wp2
  refine Txt.wp_txt (by kernel_rfl) (by kernel_rfl) ?_
  go_wp2_with (refine In.wpList_copyk rfl _ _ 39 39 rfl 68 3 Tryz.underlying39 Hz.out w.heap.size ((i + 1) * 3) (cap - i) (cap1 - (i + 1)) ⟨g, i * 3, none⟩ (cap - i) (cap - i) rfl rfl _ 68 Hg2.out (xs.drop (i * 3)) (cap - i) ?d4 ?d5 ?d6 ?d7 ?d8 ?_)
  case d4 => simp only [Nat.min_def]; split <;> omega
  case d5 => rw [List.length_drop]; omega
  case d6 =>
    intro j v hj
    rw [Addr.add_lit]
    rw [List.getElem?_drop, ← Htk.out, List.getElem?_take] at hj
    split at hj
    · exact row_cell (w := w2) ((Hgr2.out.block g (Nat.lt_trans hgw hsz1) (by simp; omega)).trans ((Hgr1.out.block g hgw (by simp)).trans Hg.out)) hj
    · cases hj
  case d7 =>
    have := Hl1.out
    rw [length_splice _ _ _ (by omega), List.length_drop]; omega
  case d8 => exact fun u hu => H1x.out u (List.mem_of_mem_drop hu)
  intro w3 hg3 hgr3 hsz3
  have Hg3 := Lib.hid hg3; clear hg3
  have Hgr3 := Lib.hid hgr3; clear hgr3
  go_wp2
  refine Txt.DrawPost.mk0 (by rfl) ?_
  go_wp2
  go_ret
  refine ⟨_, rfl, ⟨?_, .inr ⟨w.heap.size, cap1, _, rfl, hbw, Hg3.out, hc1, hm1, ?_, ?_⟩⟩, ?_⟩
  · simp only [List.length_append, List.length_take, List.length_drop]; omega
  · have := Ht2.out
    simp only [List.size_toArray]
    rw [show (i + 1) * 3 = i * 3 + 3 by omega, this, Hl1.out]
  · have := Ht1.out
    rw [show (i + 1) * 3 = i * 3 + 3 by omega, show (cap + 1) * 3 = cap * 3 + 3 by omega]
    exact this
  · exact ⟨Hgr3.out.os.trans (Hgr2.out.os.trans Hgr1.out.os), Hgr3.out.tape.trans (Hgr2.out.tape.trans Hgr1.out.tape), Hgr3.out.output.trans (Hgr2.out.output.trans Hgr1.out.output),
      Nat.le_trans Hgr1.out.size (Nat.le_trans Hgr2.out.size Hgr3.out.size), fun k hk _ =>
        (Hgr3.out.block k (by have := Hgr2.out.size; show k < w2.heap.size; omega) (by simp; omega)).trans ((Hgr2.out.block k (by omega) (by simp; omega)).trans (Hgr1.out.block k hk (by simp)))⟩

/-- Insert of one element into a row of the call's own -/
theorem insert_own (base n i : Nat) (v : Value) (xs ys : List Value) (vb vc : Nat) (w : World) (hn : n ≤ 1000000) (hi : i ≤ n) (hbw : base ≤ w.heap.size) (hown : w.ownsRow base 68 3 v n xs)
    (hy : ys.length = 3) (hne : v.ownBlock ≠ some vb) (hys : w.heap[vb]? = some (.cells ys.toArray 68 (0, 0))) (h1y : ∀ u ∈ ys, u.oneCell' = true) (h1x : ∀ u ∈ xs, u.oneCell' = true) :
    Calls Tryz.prog 87 #[v, .int .i64 i, .slice (some ⟨vb, 0, none⟩) 1 vc] w fun e w' => ∃ v', e = .returned v' ∧ w'.ownsRow base 68 3 v' (n + 1) (xs.take (i * 3) ++ ys ++ xs.drop (i * 3)) ∧ w.grownBy w' v.ownBlock := by
  by_cases hin : i = n
  · subst hin
    have hxl := hown.1
    rw [List.take_of_length_le (by omega), List.drop_eq_nil_of_le (by omega), List.append_nil]
    exact insert_end base i v xs ys vb vc w hbw hn hown hy hys h1y
  · rcases own_cases hown with ⟨rfl, h0, _⟩ | ⟨g, cap, rfl, hg1, hg2, hnc⟩
    · omega
    · by_cases hr : n + 1 ≤ cap
      · exact insert_room base n i g cap xs ys vb vc w hn (by omega) hr hown hy (fun e => hne (by simp [Value.ownBlock, e])) hys h1y h1x
      · exact insert_new base n i g cap xs ys vb vc w hn (by omega) (by omega) hbw hown hy hys h1y h1x
end Go.Proofs.YthmnhpakgjnngaaGreatDoor
