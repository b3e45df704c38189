/- Undo: the reference's Sized, Written (results in new blocks), Resize, Write -/
import Derived.Test.YteefimjgcabpoaaVj
import Derived.Test.YteefimjgcabpoaaTy
import Derived.Test.YteefimjgcabpoaaSl
namespace Go.Un
open Go Go.RowKit Go.Bs Go.Cl Go.Rw
def rsz (b : List UInt8) (n : Int) : (List UInt8 × Rec) × Int :=
  if n < 0 then (([], ⟨0, 0, []⟩), 2) else if 24000 < n then (([], ⟨0, 0, []⟩), 6) else ((sized b n.toNat, ⟨((min n.toNat b.length : Nat) : Int), b.length, b.drop (min n.toNat b.length)⟩), 0)
def rwr (b : List UInt8) (n : Int) (d : List UInt8) : (List UInt8 × Rec) × Int :=
  if n < 0 ∨ (b.length : Int) < n ∨ (b.length : Int) - n < d.length then (([], ⟨0, 0, []⟩), 2) else ((written b n.toNat d, ⟨n, b.length, (b.take (n.toNat + d.length)).drop n.toNat⟩), 0)
/-- an image, a record and an error are handed out, in new blocks -/
def WR (w : World) (r : (List UInt8 × Rec) × Int) (e : Ending) (w' : World) : Prop :=
  ∃ v ov, e = .returned (.tuple #[v, .agg #[.int .i64 r.1.2.off, .int .i64 r.1.2.len, ov], .int .i64 r.2]) ∧ Bytes (old w) w' v r.1.1 ∧ Bytes (old w) w' ov r.1.2.old ∧ Below w.heap.size w w'
theorem WR.none {w w' : World} {n : Int} (h : Below w.heap.size w w') : WR w (([], ⟨0, 0, []⟩), n) (.returned (.tuple #[.slice none 0 0, .agg #[.int .i64 0, .int .i64 0, .slice none 0 0], .int .i64 n])) w' :=
  ⟨_, _, rfl, Raw.empty _ _ _, Raw.empty _ _ _, h⟩
end Go.Un
namespace Go.Proofs.Yteefimjgcabpoaa
open Go.RowKit Go.Bs Go.Cl Go.Rw Go.Un
set_option maxRecDepth 100000 in
set_option maxHeartbeats 1000000 in
theorem rwritten_fr (bv xv : Value) (b x : List UInt8) (o : Nat) (w : World) (hb : b.length ≤ 1000000) (ho : o + x.length ≤ b.length) (hB : Bytes [] w bv b) (hX : Bytes [] w xv x) :
    Calls Try.prog 57 #[bv, .int .i64 o, xv] w fun e w' => ∃ v', e = .returned v' ∧ Bytes (old w) w' v' (Un.written b o x) ∧ Below w.heap.size w w' := by
  obtain ⟨xa, xc, rfl⟩ := Raw.slice hX
  have HX := Lib.hid hX; clear hX
  have Hemp := Lib.hid (own_empty w w.heap.size 5 1 (Nat.le_refl _))
  have hal := (Below.refl w.heap.size w).alloc (Nat.le_refl _) (.cells #[] 5)
  have HB := Lib.hid hB
  rcases Raw.cases hB with ⟨h0, _, a, cap, rfl, hcm⟩ | ⟨h0, bb, off, cap, rfl, hc, hcm, hbb, _, _⟩
  · have hb0 : b = [] := List.eq_nil_of_length_eq_zero h0
    subst hb0
    simp only [List.length_nil] at ho
    obtain rfl : o = 0 := by omega
    have hx0 : x = [] := List.eq_nil_of_length_eq_zero (by omega)
    subst hx0
    clear hB
    rcases a with _ | ad
    all_goals by_cases hc0 : cap = 0
    all_goals
      go_enter Try.func57, Try.ntmps57
      go_wp2_with (at_builtin; refine wpList_app el22 Try.underlying22 Hemp.out (Raw.zero [] 1 _ _ _ ?cz) hal rfl _ _ rfl rfl rfl ?c3 (Nat.le_refl _) ?c5 ?_)
      case cz => first | exact hcm | (unfold maxLen; omega)
      case c3 => omega
      case c5 => simp
      intro v1 w1 hown1 hb1 hg1 hs1
      have Hown1 := Lib.hid hown1; clear hown1 hg1 hs1
      have hsz := hb1.size
      go_wp2
      refine Txt.wp_txt (by kernel_rfl) (by kernel_rfl) ?_
      go_wp2_with (at_builtin; refine wpList_app el22 Try.underlying22 Hown1.out (Raw.drew (Raw.below HX.out hb1)) hb1.drew rfl _ _ rfl rfl rfl ?c3 (Nat.le_refl _) ?c5 ?_)
      case c3 => simp
      case c5 => simp; omega
      intro v2 w2 hown2 hb2 hg2 hs2
      have Hown2 := Lib.hid hown2; clear hown2 hg2 hs2
      have hsz2 := hb2.size
      go_wp2_with (at_builtin; refine wpList_app el22 Try.underlying22 Hown2.out (Raw.zero [] 1 _ _ _ ?cz) hb2 rfl _ _ rfl rfl rfl ?c3 (Nat.le_refl _) ?c5 ?_)
      case cz => first | exact hcm | (unfold maxLen; omega)
      case c3 => simp
      case c5 => omega
      intro v3 w3 hown3 hb3 hg3 hs3
      have Hown3 := Lib.hid hown3; clear hown3 hg3 hs3
      go_wp2
      refine Txt.DrawPost.mk0 (by rfl) ?_
      go_wp2
      go_ret
      exact ⟨_, rfl, Bytes.of_own (l := []) (by simpa [bytesV] using Hown3.out) rfl old_lt, hb3⟩
  · have Htk := Lib.hid (Raw.alloc (Raw.take hB (m := o) (c := cap) (by omega) (by omega) (Nat.le_refl _)) (.cells #[] 5))
    have htl : (Raw.take hB (m := o) (c := cap) (by omega) (by omega) (Nat.le_refl _)).len = (Raw.take hB (m := o) (c := cap) (by omega) (by omega) (Nat.le_refl _)).len := rfl
    clear htl
    by_cases hdr : o + x.length < b.length
    · have Hdr := Lib.hid (Raw.drop (k := 1) (m := o + x.length) hB hdr (n' := b.length - (o + x.length)) (c := cap - (o + x.length)) rfl rfl (off' := off + (o + x.length)) (by omega))
      have hck : ¬ cap = o + x.length := by omega
      clear hB
      go_enter Try.func57, Try.ntmps57
      go_wp2_with (at_builtin; refine wpList_app el22 Try.underlying22 Hemp.out Htk.out hal rfl _ _ rfl rfl rfl ?c3 (Nat.le_refl _) ?c5 ?_)
      case c3 => omega
      case c5 => simp
      intro v1 w1 hown1 hb1 hg1 hs1
      have Hown1 := Lib.hid hown1; clear hown1 hg1 hs1
      have hsz := hb1.size
      go_wp2
      refine Txt.wp_txt (by kernel_rfl) (by kernel_rfl) ?_
      go_wp2_with (at_builtin; refine wpList_app el22 Try.underlying22 Hown1.out (Raw.drew (Raw.below HX.out hb1)) hb1.drew rfl _ _ rfl rfl rfl ?c3 (Nat.le_refl _) ?c5 ?_)
      case c3 => omega
      case c5 => simp; omega
      intro v2 w2 hown2 hb2 hg2 hs2
      have Hown2 := Lib.hid hown2; clear hown2 hg2 hs2
      have hsz2 := hb2.size
      go_wp2_with (at_builtin; refine wpList_app el22 Try.underlying22 Hown2.out (Raw.below Hdr.out hb2) hb2 rfl _ _ rfl rfl rfl ?c3 (Nat.le_refl _) ?c5 ?_)
      case c3 => omega
      case c5 => omega
      intro v3 w3 hown3 hb3 hg3 hs3
      have Hown3 := Lib.hid hown3; clear hown3 hg3 hs3
      go_wp2
      refine Txt.DrawPost.mk0 (by rfl) ?_
      go_wp2
      go_ret
      have e : w3.ownsRow w.heap.size 5 1 v3 (o + x.length + (b.length - (o + x.length))) (bytesV (Un.written b o x)) := by
        have h := Hown3.out
        have hl : o + x.length + (b.length - (o + x.length)) = b.length := by omega
        rw [hl]
        simp only [Un.written, bytesV_append, ← bytesV_take, ← bytesV_drop]
        simpa [hl] using h
      exact ⟨_, rfl, Bytes.of_own e (by rw [written_len ho]; omega) old_lt, hb3⟩
    · have Hz := Lib.hid (show cap - (o + x.length) ≤ maxLen by omega)
      have hon : b.length = o + x.length := by omega
      have Hon := Lib.hid hon
      rw [hon] at hc hb h0 ⊢
      have HB0 := Hon
      clear hB hdr ho hon HB
      have hck : cap = o + x.length ∨ o + x.length < cap := by omega
      rcases hck with rfl | hck
      all_goals
        go_enter Try.func57, Try.ntmps57
        go_wp2_with (at_builtin; refine wpList_app el22 Try.underlying22 Hemp.out Htk.out hal rfl _ _ rfl rfl rfl ?c3 (Nat.le_refl _) ?c5 ?_)
        case c3 => omega
        case c5 => simp
        intro v1 w1 hown1 hb1 hg1 hs1
        have Hown1 := Lib.hid hown1; clear hown1 hg1 hs1
        have hsz := hb1.size
        go_wp2
        refine Txt.wp_txt (by kernel_rfl) (by kernel_rfl) ?_
        go_wp2_with (at_builtin; refine wpList_app el22 Try.underlying22 Hown1.out (Raw.drew (Raw.below HX.out hb1)) hb1.drew rfl _ _ rfl rfl rfl ?c3 (Nat.le_refl _) ?c5 ?_)
        case c3 => omega
        case c5 => simp; omega
        intro v2 w2 hown2 hb2 hg2 hs2
        have Hown2 := Lib.hid hown2; clear hown2 hg2 hs2
        have hsz2 := hb2.size
        go_wp2_with (at_builtin; refine wpList_app el22 Try.underlying22 Hown2.out (Raw.zero' [] 1 _ _ _ _ ?cm ?cz) hb2 rfl _ _ rfl rfl rfl ?c3 (Nat.le_refl _) ?c5 ?_)
        case cm => omega
        case cz => first | exact Hz.out | (unfold maxLen; omega) | (have := Hz.out; omega)
        case c3 => omega
        case c5 => omega
        intro v3 w3 hown3 hb3 hg3 hs3
        have Hown3 := Lib.hid hown3; clear hown3 hg3 hs3
        go_wp2
        refine Txt.DrawPost.mk0 (by rfl) ?_
        go_wp2
        go_ret
        have e : w3.ownsRow w.heap.size 5 1 v3 (o + x.length) (bytesV (Un.written b o x)) := by
          have h := Hown3.out
          have hd : b.drop (o + x.length) = [] := List.drop_eq_nil_of_le (by rw [Hon.out]; exact Nat.le_refl _)
          simp only [Un.written, bytesV_append, ← bytesV_take, hd]
          simpa [bytesV] using h
        exact ⟨_, rfl, Bytes.of_own e (by rw [written_len (by rw [Hon.out]; exact Nat.le_refl _), Hon.out]) old_lt, hb3⟩

set_option maxRecDepth 100000 in
set_option maxHeartbeats 1000000 in
theorem rsized_fr (bv : Value) (b : List UInt8) (n : Nat) (w : World) (hb : b.length ≤ 1000000) (hn : n ≤ 1000000) (hB : Bytes [] w bv b) :
    Calls Try.prog 58 #[bv, .int .i64 n] w fun e w' => ∃ v', e = .returned v' ∧ Bytes (old w) w' v' (sized b n) ∧ Below w.heap.size w w' := by
  obtain ⟨xa, xc, rfl⟩ := Raw.slice hB
  have HB := Lib.hid (Raw.alloc hB (.cells #[] 5)); clear hB
  have Hemp := Lib.hid (own_empty w w.heap.size 5 1 (Nat.le_refl _))
  have hal := (Below.refl w.heap.size w).alloc (Nat.le_refl _) (.cells #[] 5)
  go_enter Try.func58, Try.ntmps58
  go_wp2_with (at_builtin; refine wpList_app el22 Try.underlying22 Hemp.out HB.out hal rfl _ _ rfl rfl rfl ?c3 (Nat.le_refl _) ?c5 ?_)
  case c3 => omega
  case c5 => simp
  intro v1 w1 hown1 hb1 hg1 hs1
  obtain ⟨a1, c1, rfl⟩ := own_slice hown1
  have Hown1 : Hid (w1.ownsRow w.heap.size 5 1 (.slice a1 (b.length + 0) c1) (b.length + 0) (bytesV (b ++ List.replicate 0 0))) := Lib.hid (by simpa using hown1)
  clear hown1 hg1 hs1
  go_wp2
  go_loopw [5] (fun v wr => ∃ j : Nat, (j = 0 ∨ b.length + j ≤ n) ∧ ∃ a c, v = .slice a (b.length + j) c ∧ wr.ownsRow w.heap.size 5 1 (.slice a (b.length + j) c) (b.length + j) (bytesV (b ++ List.replicate j 0)) ∧ Below w.heap.size w wr) (fun v _ => n - lenOf v)
  case atStart => exact ⟨0, .inl rfl, a1, c1, by simp, Hown1.out, hb1⟩
  case round =>
    obtain ⟨j, hj, a, c, rfl, hown, hbel⟩ := hrel
    have hsz := hbel.size
    by_cases hlt : b.length + j < n
    · have Hown := Lib.hid hown; clear hown
      have Hone := Lib.hid (Raw.of_block (F := []) (k := 1) (m := 1) (cap := 1) (ys := bytesV [0]) (heap_alloc_new wr (.cells (bytesV [0]).toArray 5)) (by intro h; cases h) (bytesV_one _) rfl (Nat.le_refl _) (by unfold maxLen; omega))
      have hbel1 := hbel.alloc hsz (.cells (bytesV [0]).toArray 5)
      go_wp2_with (at_builtin; refine wpList_app el22 Try.underlying22 (Hown.out.alloc _) Hone.out hbel1 rfl _ _ rfl rfl rfl ?c3 (Nat.le_refl _) ?c5 ?_)
      case c3 => omega
      case c5 => simp; omega
      intro v2 w2 hown2 hb2 hg2 hs2
      obtain ⟨a2, c2, rfl⟩ := own_slice hown2
      have Hown2 : Hid (w2.ownsRow w.heap.size 5 1 (.slice a2 (b.length + (j + 1)) c2) (b.length + (j + 1)) (bytesV (b ++ List.replicate (j + 1) 0))) := Lib.hid (by
        rw [List.replicate_succ', ← List.append_assoc, bytesV_append]; exact hown2)
      clear hown2 hg2 hs2
      go_wp2
      go_roundw
      case rel => exact ⟨j + 1, .inr (by omega), a2, c2, by simp [Nat.add_assoc], Hown2.out, hb2⟩
      case measure => simp [lenOf]; omega
    · have hr := Raw.of_own (F := old w) hown (bytesV_one _) old_lt
      have htk := Raw.take hr (m := n) (c := c) (by omega) (by have := hr.2.2; obtain ⟨_, _, e, h, _⟩ := this; cases e; omega) (Nat.le_refl _)
      have hs : (bytesV (b ++ List.replicate j 0)).take (n * 1) = bytesV (sized b n) := by
        rw [Nat.mul_one, bytesV_take]
        congr 1
        unfold sized
        rw [List.take_append]
        congr 1
        rcases hj with rfl | hj
        · rw [show n - b.length = 0 by omega]; simp
        · rw [List.take_of_length_le (by simp; omega)]; congr 1; omega
      rw [hs] at htk
      have Htk : Hid (Bytes (old w) wr (.slice a n c) (sized b n)) := Lib.hid (by unfold Bytes; rw [sized_len]; exact htk)
      have hcap : b.length + j ≤ c := by have := hr.2.2; obtain ⟨_, _, e, h, _⟩ := this; cases e; exact h
      clear hs htk hr hown
      go_wp2
      go_ret
      exact ⟨_, rfl, Htk.out, hbel⟩

set_option maxRecDepth 100000 in
set_option maxHeartbeats 2000000 in
theorem rresize_any (bv : Value) (b : List UInt8) (n : Int) (w : World) (hb : b.length ≤ 24000) (hn1 : -9223372036854775808 ≤ n) (hn2 : n ≤ 9223372036854775807) (hB : Bytes [] w bv b) :
    Calls Try.prog 38 #[bv, .int .i64 n] w (WR w (rsz b n)) := by
  obtain ⟨xa, xc, rfl⟩ := Raw.slice hB
  by_cases h1 : n < 0
  · have e1 : rsz b n = (([], ⟨0, 0, []⟩), 2) := by simp [rsz, h1]
    rw [e1]; clear e1 hB
    go_enter Try.func38, Try.ntmps38
    go_wp2
    refine bodyPost_ret (results_tct rfl _ _ _ _ _ _ _ rfl (heap_alloc_new w _) Try.underlying66 rfl (by kernel_rfl)) rfl ?_
    exact WR.none ((Below.refl _ _).alloc (Nat.le_refl _) _)
  by_cases h2 : 24000 < n
  · have e1 : rsz b n = (([], ⟨0, 0, []⟩), 6) := by simp [rsz, h1, h2]
    rw [e1]; clear e1 hB
    go_enter Try.func38, Try.ntmps38
    go_wp2
    refine bodyPost_ret (results_tct rfl _ _ _ _ _ _ _ rfl (heap_alloc_new w _) Try.underlying66 rfl (by kernel_rfl)) rfl ?_
    exact WR.none ((Below.refl _ _).alloc (Nat.le_refl _) _)
  obtain ⟨k, rfl⟩ : ∃ k : Nat, n = k := ⟨n.toNat, by omega⟩
  have e1 : rsz b k = ((sized b k, ⟨((min k b.length : Nat) : Int), b.length, b.drop (min k b.length)⟩), 0) := by simp only [rsz]; simp only [h1, h2, if_false]; rfl
  rw [e1]; clear e1
  by_cases hlt : k < b.length
  · have hmin : min k b.length = k := by omega
    rw [hmin]
    have hlt' : ¬ b.length < k := by omega
    obtain ⟨ta, hsl, hT⟩ := Raw.from hB Try.underlying22 (show (Try.prog.info? 5).map (·.size) = some 1 by kernel_rfl) (lo := k) (by omega)
    rw [Nat.mul_one, bytesV_drop] at hT
    have HT := Lib.hid hT; clear hT
    have HB := Lib.hid hB; clear hB hmin
    go_enter Try.func38, Try.ntmps38
    go_wp2
    refine Txt.Ty.wp_tree [] [] [] [] [0, 1, 3, 4, 5, 7, 8, 9] (.alt [2] (.alt [6] (.alt [10, 11, 12] (.alt [13, 14] (.done) (.no)) (.no)) (.no)) (.alt [6] (.alt [2] (.alt [10, 11, 12] (.alt [13, 14] (.done) (.no)) (.no)) (.no)) (.no))) (by kernel_rfl) (by kernel_rfl) (by kernel_rfl) (by kernel_rfl) (fun b hb => by cases hb) ?_
    (try simp only [Txt.pick, List.getElem?_cons_succ, List.getElem?_cons_zero])
    go_wp2
    refine Txt.RunPost.mk ?_
    obtain ⟨u, hu⟩ : ∃ u, u = (w.alloc (.cells #[.int .i64 0, .int .i64 0, .slice none 0 0] 66)).drew := ⟨_, rfl⟩
    have hbel : Below w.heap.size w u := hu ▸ ((Below.refl w.heap.size w).alloc (Nat.le_refl _) _).drew
    have hus : w.heap.size < u.heap.size := by rw [hu]; simp
    have HG : Hid (u.heap[w.heap.size]? = some (.cells #[.int .i64 0, .int .i64 0, .slice none 0 0] 66 (0, 0))) := Lib.hid (by rw [hu]; exact heap_alloc_new w _)
    have hal := (Below.refl w.heap.size w).alloc (Nat.le_refl _) (.cells #[.int .i64 0, .int .i64 0, .slice none 0 0] 66)
    have HBu : Hid (Bytes [] u (.slice xa b.length xc) b) := Lib.hid (by rw [hu]; exact Raw.drew (Raw.below HB.out hal))
    have HTu : Hid (Raw [] 1 u (.slice ta (b.length - k) (xc - k)) (b.length - k) (bytesV (b.drop (k)))) := Lib.hid (by rw [hu]; exact Raw.drew (Raw.below HT.out hal))
    rw [← hu]
    clear hu hal
    refine Txt.Ty.wpTr_alt ?_ ?_
    · (try simp only [Txt.pick, List.getElem?_cons_succ, List.getElem?_cons_zero])
      go_wp2_with fail
      refine (rsized_fr _ b k _ (by omega) (by omega) HBu.out).mono ?_
      rintro e w1 ⟨v, rfl, hv1, hb1⟩
      have hs1 := hb1.size
      have hbel1 := hbel.trans (hb1.mono (by omega))
      have HG1 := Lib.hid ((hb1.block _ (by omega)).trans HG.out)
      have HV1 := Lib.hid hv1
      have HT1 := Lib.hid (Raw.below HTu.out hb1)
      clear hv1 hb1
      go_wp2
      refine Txt.SegPost.mk Txt.Ty.Shown.none ?_
      refine Txt.RunPost.mk ?_
      refine Txt.Ty.wpTr_alt ?_ Txt.Ty.wpTr_no
      (try simp only [Txt.pick, List.getElem?_cons_succ, List.getElem?_cons_zero])
      go_wp2
      refine Txt.SegPost.mk Txt.Ty.Shown.none ?_
      refine Txt.RunPost.mk ?_
      have hal := (Below.refl w1.heap.size w1).alloc (Nat.le_refl _) (.cells #[] 5)
      obtain ⟨q, hq⟩ : ∃ q, q = w1.heap.size := ⟨_, rfl⟩
      have HO := Lib.hid (own_empty w1 q 5 1 (by omega))
      have HT2 := Lib.hid (Raw.below HT1.out hal)
      have hbel2 := hbel1.trans (hal.mono (by omega))
      have hqb : w.heap.size ≤ q := by omega
      have HG2 := Lib.hid ((hal.block w.heap.size (by omega)).trans HG1.out)
      have hGq : w.heap.size < (w1.alloc (.cells #[] 5)).heap.size := by simp; omega
      have HV2 : Hid (Bytes (q :: w.heap.size :: old w) (w1.alloc (.cells #[] 5)) v (sized b k)) := Lib.hid (Raw.keep HV1.out (Keep.of_below' (F := []) hal) (fun f hf => by cases hf) (fun f hf => by
        rcases List.mem_cons.1 hf with rfl | hf
        · exact .inr (by omega)
        · rcases List.mem_cons.1 hf with rfl | hf
          · exact .inl (List.mem_range.2 (by omega))
          · exact .inl (List.mem_range.2 (by have := old_lt f hf; omega))))
      have hwq : w.heap.size < q := by omega
      have hq2 : q ≤ (w1.alloc (.cells #[] 5)).heap.size := by simp; omega
      obtain ⟨u2, hu2⟩ : ∃ u2, u2 = w1.alloc (.cells #[] 5) := ⟨_, rfl⟩
      rw [← hq] at HO ⊢
      rw [← hu2] at HO HT2 HV2 HG2 hbel2 hGq hq2 ⊢
      clear hal hu2 hq HV1 HT1 HG1 hbel1 hs1
      refine Txt.Ty.wpTr_alt ?_ Txt.Ty.wpTr_no
      (try simp only [Txt.pick, List.getElem?_cons_succ, List.getElem?_cons_zero])
      go_wp2_with (at_builtin; refine wpList_app el22 Try.underlying22 HO.out HT2.out hbel2 rfl _ _ rfl rfl rfl ?c3 hqb ?c5 ?_)
      case c3 => omega
      case c5 => omega
      intro v4 w4 hown4 hb4 hg4 hs4
      try simp only [Nat.zero_add, List.nil_append] at hown4
      have hG4 : w4.heap[w.heap.size]? = some (.cells #[.int .i64 0, .int .i64 0, .slice none 0 0] 66 (0, 0)) := (hg4.block _ hGq (by intro h; simp [Value.ownBlock] at h; omega)).trans HG2.out
      have hV4 : Bytes (w.heap.size :: old w) w4 v (sized b k) := Raw.keep HV2.out (Keep.of_grown (F := [q]) hg4 (fun f hf => by simp [Value.ownBlock] at hf; exact .inl (by simp; omega))) (fun f hf => .inl (by rw [List.mem_singleton.1 hf]; simp)) (fun f hf => .inl (List.mem_cons_of_mem _ hf))
      have hO4 : Bytes (w.heap.size :: old w) w4 v4 (b.drop (k)) := Bytes.row (n := b.length - k) (base := q) (e := 5) (by simpa using hown4) (by simp) (fun f hf => by
        rcases List.mem_cons.1 hf with rfl | hf
        · omega
        · have := old_lt f hf; omega)
      have hsz4 : w.heap.size < w4.heap.size := by omega
      obtain ⟨a4, c4, rfl⟩ := own_slice hown4
      have HG4 := Lib.hid hG4
      have c0 := box_at hG4 (j := 0) rfl
      have c1 := box_at hG4 (j := 1) rfl
      have c2 := box_at hG4 (j := 2) rfl
      have f0 := box_free hG4 0
      have f1 := box_free hG4 1
      have f2 := box_free hG4 2
      have hbel5 := ((hb4.setCell (p := ⟨w.heap.size, 0, none⟩) (Nat.le_refl _) (.int .i64 k)).setCell (p := ⟨w.heap.size, 1, none⟩) (Nat.le_refl _) (.int .i64 b.length)).setCell (p := ⟨w.heap.size, 2, none⟩) (Nat.le_refl _) (.slice a4 (b.length - k) c4)
      have hk5 : Keep [w.heap.size] w4 (((w4.setCell ⟨w.heap.size, 0, none⟩ (.int .i64 k)).setCell ⟨w.heap.size, 1, none⟩ (.int .i64 b.length)).setCell ⟨w.heap.size, 2, none⟩ (.slice a4 (b.length - k) c4)) := (((Keep.refl [w.heap.size] w4).setCell (by simp) _).setCell (by simp) _).setCell (by simp) _
      have HV5 := Lib.hid (Raw.keep hV4 hk5 (fun f hf => .inl (by rw [List.mem_singleton.1 hf]; simp)) (fun f hf => .inl (List.mem_cons_of_mem _ hf)))
      have HO5 := Lib.hid (Raw.keep hO4 hk5 (fun f hf => .inl (by rw [List.mem_singleton.1 hf]; simp)) (fun f hf => .inl (List.mem_cons_of_mem _ hf)))
      clear hown4 hg4 hs4 hV4 hO4 hG4 hk5
      go_wp2
      refine Txt.SegPost.mk Txt.Ty.Shown.none ?_
      (try simp only [Txt.pick, List.getElem?_cons_succ, List.getElem?_cons_zero])
      go_wp2
      refine Txt.RunPost.mk ?_
      refine Txt.Ty.wpTr_alt ?_ Txt.Ty.wpTr_no
      (try simp only [Txt.pick, List.getElem?_cons_succ, List.getElem?_cons_zero])
      go_wp2
      refine Txt.SegPost.mk Txt.Ty.Shown.none ?_
      (try simp only [Txt.pick, List.getElem?_cons_succ, List.getElem?_cons_zero])
      go_wp2
      refine Txt.RunPost.mk ?_
      refine Txt.Ty.wpTr_done (by rfl) trivial ?_
      go_wp2
      refine bodyPost_ret (results_tct rfl _ _ _ _ _ _ _ rfl (heap_set3 HG4.out _ _ _) Try.underlying66 rfl (by kernel_rfl)) rfl ?_
      exact ⟨_, _, rfl, HV5.out, HO5.out, hbel5⟩
    · refine Txt.Ty.wpTr_alt ?_ Txt.Ty.wpTr_no
      (try simp only [Txt.pick, List.getElem?_cons_succ, List.getElem?_cons_zero])
      go_wp2
      refine Txt.SegPost.mk Txt.Ty.Shown.none ?_
      refine Txt.RunPost.mk ?_
      have hal := (Below.refl u.heap.size u).alloc (Nat.le_refl _) (.cells #[] 5)
      obtain ⟨q, hq⟩ : ∃ q, q = u.heap.size := ⟨_, rfl⟩
      have HO1 := Lib.hid (own_empty u q 5 1 (by omega))
      have HB1 := Lib.hid (Raw.below HBu.out hal)
      have HT1 := Lib.hid (Raw.below HTu.out hal)
      have hbel1 := hbel.trans (hal.mono (by omega))
      have HG1 := Lib.hid ((hal.block w.heap.size (by omega)).trans HG.out)
      have hqs : (u.alloc (.cells #[] 5)).heap.size = q + 1 := by simp; omega
      obtain ⟨u1, hu1⟩ : ∃ u1, u1 = u.alloc (.cells #[] 5) := ⟨_, rfl⟩
      rw [← hq] at HO1 ⊢
      rw [← hu1] at HO1 HB1 HT1 HG1 hbel1 hqs ⊢
      clear hal hu1
      refine Txt.Ty.wpTr_alt ?_ Txt.Ty.wpTr_no
      (try simp only [Txt.pick, List.getElem?_cons_succ, List.getElem?_cons_zero])
      go_wp2_with fail
      refine (rsized_fr _ b k _ (by omega) (by omega) HB1.out).mono ?_
      rintro e u2 ⟨v, rfl, hv1, hb1⟩
      have hs1 := hb1.size
      have hbel2 := hbel1.trans (hb1.mono (by omega))
      have HG2 := Lib.hid ((hb1.block _ (by omega)).trans HG1.out)
      have HV2 : Hid (Bytes (q :: w.heap.size :: old w) u2 v (sized b k)) := Lib.hid (Raw.apart hv1 (fun f hf => by
        rcases List.mem_cons.1 hf with rfl | hf
        · omega
        · rcases List.mem_cons.1 hf with rfl | hf
          · omega
          · have := old_lt f hf; omega))
      have HT2 := Lib.hid (Raw.below HT1.out hb1)
      have HO := Lib.hid (own_below HO1.out hb1 (Nat.le_refl _))
      have hqb : w.heap.size ≤ q := by omega
      have hGq : w.heap.size < u2.heap.size := by omega
      have hwq : w.heap.size < q := by omega
      have hq2 : q ≤ u2.heap.size := by omega
      clear hv1 hb1 HG1 HT1 HO1 HB1 hbel1 hq hqs hs1
      go_wp2
      refine Txt.SegPost.mk Txt.Ty.Shown.none ?_
      refine Txt.RunPost.mk ?_
      refine Txt.Ty.wpTr_alt ?_ Txt.Ty.wpTr_no
      (try simp only [Txt.pick, List.getElem?_cons_succ, List.getElem?_cons_zero])
      go_wp2_with (at_builtin; refine wpList_app el22 Try.underlying22 HO.out HT2.out hbel2 rfl _ _ rfl rfl rfl ?c3 hqb ?c5 ?_)
      case c3 => omega
      case c5 => omega
      intro v4 w4 hown4 hb4 hg4 hs4
      try simp only [Nat.zero_add, List.nil_append] at hown4
      have hG4 : w4.heap[w.heap.size]? = some (.cells #[.int .i64 0, .int .i64 0, .slice none 0 0] 66 (0, 0)) := (hg4.block _ hGq (by intro h; simp [Value.ownBlock] at h; omega)).trans HG2.out
      have hV4 : Bytes (w.heap.size :: old w) w4 v (sized b k) := Raw.keep HV2.out (Keep.of_grown (F := [q]) hg4 (fun f hf => by simp [Value.ownBlock] at hf; exact .inl (by simp; omega))) (fun f hf => .inl (by rw [List.mem_singleton.1 hf]; simp)) (fun f hf => .inl (List.mem_cons_of_mem _ hf))
      have hO4 : Bytes (w.heap.size :: old w) w4 v4 (b.drop (k)) := Bytes.row (n := b.length - k) (base := q) (e := 5) (by simpa using hown4) (by simp) (fun f hf => by
        rcases List.mem_cons.1 hf with rfl | hf
        · omega
        · have := old_lt f hf; omega)
      have hsz4 : w.heap.size < w4.heap.size := by omega
      obtain ⟨a4, c4, rfl⟩ := own_slice hown4
      have HG4 := Lib.hid hG4
      have c0 := box_at hG4 (j := 0) rfl
      have c1 := box_at hG4 (j := 1) rfl
      have c2 := box_at hG4 (j := 2) rfl
      have f0 := box_free hG4 0
      have f1 := box_free hG4 1
      have f2 := box_free hG4 2
      have hbel5 := ((hb4.setCell (p := ⟨w.heap.size, 0, none⟩) (Nat.le_refl _) (.int .i64 k)).setCell (p := ⟨w.heap.size, 1, none⟩) (Nat.le_refl _) (.int .i64 b.length)).setCell (p := ⟨w.heap.size, 2, none⟩) (Nat.le_refl _) (.slice a4 (b.length - k) c4)
      have hk5 : Keep [w.heap.size] w4 (((w4.setCell ⟨w.heap.size, 0, none⟩ (.int .i64 k)).setCell ⟨w.heap.size, 1, none⟩ (.int .i64 b.length)).setCell ⟨w.heap.size, 2, none⟩ (.slice a4 (b.length - k) c4)) := (((Keep.refl [w.heap.size] w4).setCell (by simp) _).setCell (by simp) _).setCell (by simp) _
      have HV5 := Lib.hid (Raw.keep hV4 hk5 (fun f hf => .inl (by rw [List.mem_singleton.1 hf]; simp)) (fun f hf => .inl (List.mem_cons_of_mem _ hf)))
      have HO5 := Lib.hid (Raw.keep hO4 hk5 (fun f hf => .inl (by rw [List.mem_singleton.1 hf]; simp)) (fun f hf => .inl (List.mem_cons_of_mem _ hf)))
      clear hown4 hg4 hs4 hV4 hO4 hG4 hk5
      go_wp2
      refine Txt.SegPost.mk Txt.Ty.Shown.none ?_
      (try simp only [Txt.pick, List.getElem?_cons_succ, List.getElem?_cons_zero])
      go_wp2
      refine Txt.RunPost.mk ?_
      refine Txt.Ty.wpTr_alt ?_ Txt.Ty.wpTr_no
      (try simp only [Txt.pick, List.getElem?_cons_succ, List.getElem?_cons_zero])
      go_wp2
      refine Txt.SegPost.mk Txt.Ty.Shown.none ?_
      (try simp only [Txt.pick, List.getElem?_cons_succ, List.getElem?_cons_zero])
      go_wp2
      refine Txt.RunPost.mk ?_
      refine Txt.Ty.wpTr_done (by rfl) trivial ?_
      go_wp2
      refine bodyPost_ret (results_tct rfl _ _ _ _ _ _ _ rfl (heap_set3 HG4.out _ _ _) Try.underlying66 rfl (by kernel_rfl)) rfl ?_
      exact ⟨_, _, rfl, HV5.out, HO5.out, hbel5⟩
  by_cases hkl : k = b.length
  · subst hkl
    have hmin : min b.length b.length = b.length := by omega
    rw [hmin]
    clear hlt
    obtain ⟨ta, hsl, hT⟩ := Raw.from hB Try.underlying22 (show (Try.prog.info? 5).map (·.size) = some 1 by kernel_rfl) (lo := b.length) (by omega)
    rw [Nat.mul_one, bytesV_drop] at hT
    rw [Nat.sub_self] at hT hsl
    have HT := Lib.hid hT; clear hT
    have HB := Lib.hid hB; clear hB hmin
    go_enter Try.func38, Try.ntmps38
    go_wp2
    refine Txt.Ty.wp_tree [] [] [] [] [0, 1, 3, 4, 5, 7, 8, 9] (.alt [2] (.alt [6] (.alt [10, 11, 12] (.alt [13, 14] (.done) (.no)) (.no)) (.no)) (.alt [6] (.alt [2] (.alt [10, 11, 12] (.alt [13, 14] (.done) (.no)) (.no)) (.no)) (.no))) (by kernel_rfl) (by kernel_rfl) (by kernel_rfl) (by kernel_rfl) (fun b hb => by cases hb) ?_
    (try simp only [Txt.pick, List.getElem?_cons_succ, List.getElem?_cons_zero])
    go_wp2
    refine Txt.RunPost.mk ?_
    obtain ⟨u, hu⟩ : ∃ u, u = (w.alloc (.cells #[.int .i64 0, .int .i64 0, .slice none 0 0] 66)).drew := ⟨_, rfl⟩
    have hbel : Below w.heap.size w u := hu ▸ ((Below.refl w.heap.size w).alloc (Nat.le_refl _) _).drew
    have hus : w.heap.size < u.heap.size := by rw [hu]; simp
    have HG : Hid (u.heap[w.heap.size]? = some (.cells #[.int .i64 0, .int .i64 0, .slice none 0 0] 66 (0, 0))) := Lib.hid (by rw [hu]; exact heap_alloc_new w _)
    have hal := (Below.refl w.heap.size w).alloc (Nat.le_refl _) (.cells #[.int .i64 0, .int .i64 0, .slice none 0 0] 66)
    have HBu : Hid (Bytes [] u (.slice xa b.length xc) b) := Lib.hid (by rw [hu]; exact Raw.drew (Raw.below HB.out hal))
    have HTu : Hid (Raw [] 1 u (.slice ta (0) (xc - b.length)) (0) (bytesV (b.drop (b.length)))) := Lib.hid (by rw [hu]; exact Raw.drew (Raw.below HT.out hal))
    rw [← hu]
    clear hu hal
    refine Txt.Ty.wpTr_alt ?_ ?_
    · (try simp only [Txt.pick, List.getElem?_cons_succ, List.getElem?_cons_zero])
      go_wp2_with fail
      refine (rsized_fr _ b b.length _ (by omega) (by omega) HBu.out).mono ?_
      rintro e w1 ⟨v, rfl, hv1, hb1⟩
      have hs1 := hb1.size
      have hbel1 := hbel.trans (hb1.mono (by omega))
      have HG1 := Lib.hid ((hb1.block _ (by omega)).trans HG.out)
      have HV1 := Lib.hid hv1
      have HT1 := Lib.hid (Raw.below HTu.out hb1)
      clear hv1 hb1
      go_wp2
      refine Txt.SegPost.mk Txt.Ty.Shown.none ?_
      refine Txt.RunPost.mk ?_
      refine Txt.Ty.wpTr_alt ?_ Txt.Ty.wpTr_no
      (try simp only [Txt.pick, List.getElem?_cons_succ, List.getElem?_cons_zero])
      go_wp2
      refine Txt.SegPost.mk Txt.Ty.Shown.none ?_
      refine Txt.RunPost.mk ?_
      have hal := (Below.refl w1.heap.size w1).alloc (Nat.le_refl _) (.cells #[] 5)
      obtain ⟨q, hq⟩ : ∃ q, q = w1.heap.size := ⟨_, rfl⟩
      have HO := Lib.hid (own_empty w1 q 5 1 (by omega))
      have HT2 := Lib.hid (Raw.below HT1.out hal)
      have hbel2 := hbel1.trans (hal.mono (by omega))
      have hqb : w.heap.size ≤ q := by omega
      have HG2 := Lib.hid ((hal.block w.heap.size (by omega)).trans HG1.out)
      have hGq : w.heap.size < (w1.alloc (.cells #[] 5)).heap.size := by simp; omega
      have HV2 : Hid (Bytes (q :: w.heap.size :: old w) (w1.alloc (.cells #[] 5)) v (sized b b.length)) := Lib.hid (Raw.keep HV1.out (Keep.of_below' (F := []) hal) (fun f hf => by cases hf) (fun f hf => by
        rcases List.mem_cons.1 hf with rfl | hf
        · exact .inr (by omega)
        · rcases List.mem_cons.1 hf with rfl | hf
          · exact .inl (List.mem_range.2 (by omega))
          · exact .inl (List.mem_range.2 (by have := old_lt f hf; omega))))
      have hwq : w.heap.size < q := by omega
      have hq2 : q ≤ (w1.alloc (.cells #[] 5)).heap.size := by simp; omega
      obtain ⟨u2, hu2⟩ : ∃ u2, u2 = w1.alloc (.cells #[] 5) := ⟨_, rfl⟩
      rw [← hq] at HO ⊢
      rw [← hu2] at HO HT2 HV2 HG2 hbel2 hGq hq2 ⊢
      clear hal hu2 hq HV1 HT1 HG1 hbel1 hs1
      refine Txt.Ty.wpTr_alt ?_ Txt.Ty.wpTr_no
      (try simp only [Txt.pick, List.getElem?_cons_succ, List.getElem?_cons_zero])
      go_wp2_with (at_builtin; refine wpList_app el22 Try.underlying22 HO.out HT2.out hbel2 rfl _ _ rfl rfl rfl ?c3 hqb ?c5 ?_)
      case c3 => omega
      case c5 => omega
      intro v4 w4 hown4 hb4 hg4 hs4
      try simp only [Nat.zero_add, List.nil_append] at hown4
      have hG4 : w4.heap[w.heap.size]? = some (.cells #[.int .i64 0, .int .i64 0, .slice none 0 0] 66 (0, 0)) := (hg4.block _ hGq (by intro h; simp [Value.ownBlock] at h; omega)).trans HG2.out
      have hV4 : Bytes (w.heap.size :: old w) w4 v (sized b b.length) := Raw.keep HV2.out (Keep.of_grown (F := [q]) hg4 (fun f hf => by simp [Value.ownBlock] at hf; exact .inl (by simp; omega))) (fun f hf => .inl (by rw [List.mem_singleton.1 hf]; simp)) (fun f hf => .inl (List.mem_cons_of_mem _ hf))
      have hO4 : Bytes (w.heap.size :: old w) w4 v4 (b.drop (b.length)) := Bytes.row (n := 0) (base := q) (e := 5) (by simpa using hown4) (by simp) (fun f hf => by
        rcases List.mem_cons.1 hf with rfl | hf
        · omega
        · have := old_lt f hf; omega)
      have hsz4 : w.heap.size < w4.heap.size := by omega
      obtain ⟨a4, c4, rfl⟩ := own_slice hown4
      have HG4 := Lib.hid hG4
      have c0 := box_at hG4 (j := 0) rfl
      have c1 := box_at hG4 (j := 1) rfl
      have c2 := box_at hG4 (j := 2) rfl
      have f0 := box_free hG4 0
      have f1 := box_free hG4 1
      have f2 := box_free hG4 2
      have hbel5 := ((hb4.setCell (p := ⟨w.heap.size, 0, none⟩) (Nat.le_refl _) (.int .i64 b.length)).setCell (p := ⟨w.heap.size, 1, none⟩) (Nat.le_refl _) (.int .i64 b.length)).setCell (p := ⟨w.heap.size, 2, none⟩) (Nat.le_refl _) (.slice a4 (0) c4)
      have hk5 : Keep [w.heap.size] w4 (((w4.setCell ⟨w.heap.size, 0, none⟩ (.int .i64 b.length)).setCell ⟨w.heap.size, 1, none⟩ (.int .i64 b.length)).setCell ⟨w.heap.size, 2, none⟩ (.slice a4 (0) c4)) := (((Keep.refl [w.heap.size] w4).setCell (by simp) _).setCell (by simp) _).setCell (by simp) _
      have HV5 := Lib.hid (Raw.keep hV4 hk5 (fun f hf => .inl (by rw [List.mem_singleton.1 hf]; simp)) (fun f hf => .inl (List.mem_cons_of_mem _ hf)))
      have HO5 := Lib.hid (Raw.keep hO4 hk5 (fun f hf => .inl (by rw [List.mem_singleton.1 hf]; simp)) (fun f hf => .inl (List.mem_cons_of_mem _ hf)))
      clear hown4 hg4 hs4 hV4 hO4 hG4 hk5
      go_wp2
      refine Txt.SegPost.mk Txt.Ty.Shown.none ?_
      (try simp only [Txt.pick, List.getElem?_cons_succ, List.getElem?_cons_zero])
      go_wp2
      refine Txt.RunPost.mk ?_
      refine Txt.Ty.wpTr_alt ?_ Txt.Ty.wpTr_no
      (try simp only [Txt.pick, List.getElem?_cons_succ, List.getElem?_cons_zero])
      go_wp2
      refine Txt.SegPost.mk Txt.Ty.Shown.none ?_
      (try simp only [Txt.pick, List.getElem?_cons_succ, List.getElem?_cons_zero])
      go_wp2
      refine Txt.RunPost.mk ?_
      refine Txt.Ty.wpTr_done (by rfl) trivial ?_
      go_wp2
      refine bodyPost_ret (results_tct rfl _ _ _ _ _ _ _ rfl (heap_set3 HG4.out _ _ _) Try.underlying66 rfl (by kernel_rfl)) rfl ?_
      exact ⟨_, _, rfl, HV5.out, HO5.out, hbel5⟩
    · refine Txt.Ty.wpTr_alt ?_ Txt.Ty.wpTr_no
      (try simp only [Txt.pick, List.getElem?_cons_succ, List.getElem?_cons_zero])
      go_wp2
      refine Txt.SegPost.mk Txt.Ty.Shown.none ?_
      refine Txt.RunPost.mk ?_
      have hal := (Below.refl u.heap.size u).alloc (Nat.le_refl _) (.cells #[] 5)
      obtain ⟨q, hq⟩ : ∃ q, q = u.heap.size := ⟨_, rfl⟩
      have HO1 := Lib.hid (own_empty u q 5 1 (by omega))
      have HB1 := Lib.hid (Raw.below HBu.out hal)
      have HT1 := Lib.hid (Raw.below HTu.out hal)
      have hbel1 := hbel.trans (hal.mono (by omega))
      have HG1 := Lib.hid ((hal.block w.heap.size (by omega)).trans HG.out)
      have hqs : (u.alloc (.cells #[] 5)).heap.size = q + 1 := by simp; omega
      obtain ⟨u1, hu1⟩ : ∃ u1, u1 = u.alloc (.cells #[] 5) := ⟨_, rfl⟩
      rw [← hq] at HO1 ⊢
      rw [← hu1] at HO1 HB1 HT1 HG1 hbel1 hqs ⊢
      clear hal hu1
      refine Txt.Ty.wpTr_alt ?_ Txt.Ty.wpTr_no
      (try simp only [Txt.pick, List.getElem?_cons_succ, List.getElem?_cons_zero])
      go_wp2_with fail
      refine (rsized_fr _ b b.length _ (by omega) (by omega) HB1.out).mono ?_
      rintro e u2 ⟨v, rfl, hv1, hb1⟩
      have hs1 := hb1.size
      have hbel2 := hbel1.trans (hb1.mono (by omega))
      have HG2 := Lib.hid ((hb1.block _ (by omega)).trans HG1.out)
      have HV2 : Hid (Bytes (q :: w.heap.size :: old w) u2 v (sized b b.length)) := Lib.hid (Raw.apart hv1 (fun f hf => by
        rcases List.mem_cons.1 hf with rfl | hf
        · omega
        · rcases List.mem_cons.1 hf with rfl | hf
          · omega
          · have := old_lt f hf; omega))
      have HT2 := Lib.hid (Raw.below HT1.out hb1)
      have HO := Lib.hid (own_below HO1.out hb1 (Nat.le_refl _))
      have hqb : w.heap.size ≤ q := by omega
      have hGq : w.heap.size < u2.heap.size := by omega
      have hwq : w.heap.size < q := by omega
      have hq2 : q ≤ u2.heap.size := by omega
      clear hv1 hb1 HG1 HT1 HO1 HB1 hbel1 hq hqs hs1
      go_wp2
      refine Txt.SegPost.mk Txt.Ty.Shown.none ?_
      refine Txt.RunPost.mk ?_
      refine Txt.Ty.wpTr_alt ?_ Txt.Ty.wpTr_no
      (try simp only [Txt.pick, List.getElem?_cons_succ, List.getElem?_cons_zero])
      go_wp2_with (at_builtin; refine wpList_app el22 Try.underlying22 HO.out HT2.out hbel2 rfl _ _ rfl rfl rfl ?c3 hqb ?c5 ?_)
      case c3 => omega
      case c5 => omega
      intro v4 w4 hown4 hb4 hg4 hs4
      try simp only [Nat.zero_add, List.nil_append] at hown4
      have hG4 : w4.heap[w.heap.size]? = some (.cells #[.int .i64 0, .int .i64 0, .slice none 0 0] 66 (0, 0)) := (hg4.block _ hGq (by intro h; simp [Value.ownBlock] at h; omega)).trans HG2.out
      have hV4 : Bytes (w.heap.size :: old w) w4 v (sized b b.length) := Raw.keep HV2.out (Keep.of_grown (F := [q]) hg4 (fun f hf => by simp [Value.ownBlock] at hf; exact .inl (by simp; omega))) (fun f hf => .inl (by rw [List.mem_singleton.1 hf]; simp)) (fun f hf => .inl (List.mem_cons_of_mem _ hf))
      have hO4 : Bytes (w.heap.size :: old w) w4 v4 (b.drop (b.length)) := Bytes.row (n := 0) (base := q) (e := 5) (by simpa using hown4) (by simp) (fun f hf => by
        rcases List.mem_cons.1 hf with rfl | hf
        · omega
        · have := old_lt f hf; omega)
      have hsz4 : w.heap.size < w4.heap.size := by omega
      obtain ⟨a4, c4, rfl⟩ := own_slice hown4
      have HG4 := Lib.hid hG4
      have c0 := box_at hG4 (j := 0) rfl
      have c1 := box_at hG4 (j := 1) rfl
      have c2 := box_at hG4 (j := 2) rfl
      have f0 := box_free hG4 0
      have f1 := box_free hG4 1
      have f2 := box_free hG4 2
      have hbel5 := ((hb4.setCell (p := ⟨w.heap.size, 0, none⟩) (Nat.le_refl _) (.int .i64 b.length)).setCell (p := ⟨w.heap.size, 1, none⟩) (Nat.le_refl _) (.int .i64 b.length)).setCell (p := ⟨w.heap.size, 2, none⟩) (Nat.le_refl _) (.slice a4 (0) c4)
      have hk5 : Keep [w.heap.size] w4 (((w4.setCell ⟨w.heap.size, 0, none⟩ (.int .i64 b.length)).setCell ⟨w.heap.size, 1, none⟩ (.int .i64 b.length)).setCell ⟨w.heap.size, 2, none⟩ (.slice a4 (0) c4)) := (((Keep.refl [w.heap.size] w4).setCell (by simp) _).setCell (by simp) _).setCell (by simp) _
      have HV5 := Lib.hid (Raw.keep hV4 hk5 (fun f hf => .inl (by rw [List.mem_singleton.1 hf]; simp)) (fun f hf => .inl (List.mem_cons_of_mem _ hf)))
      have HO5 := Lib.hid (Raw.keep hO4 hk5 (fun f hf => .inl (by rw [List.mem_singleton.1 hf]; simp)) (fun f hf => .inl (List.mem_cons_of_mem _ hf)))
      clear hown4 hg4 hs4 hV4 hO4 hG4 hk5
      go_wp2
      refine Txt.SegPost.mk Txt.Ty.Shown.none ?_
      (try simp only [Txt.pick, List.getElem?_cons_succ, List.getElem?_cons_zero])
      go_wp2
      refine Txt.RunPost.mk ?_
      refine Txt.Ty.wpTr_alt ?_ Txt.Ty.wpTr_no
      (try simp only [Txt.pick, List.getElem?_cons_succ, List.getElem?_cons_zero])
      go_wp2
      refine Txt.SegPost.mk Txt.Ty.Shown.none ?_
      (try simp only [Txt.pick, List.getElem?_cons_succ, List.getElem?_cons_zero])
      go_wp2
      refine Txt.RunPost.mk ?_
      refine Txt.Ty.wpTr_done (by rfl) trivial ?_
      go_wp2
      refine bodyPost_ret (results_tct rfl _ _ _ _ _ _ _ rfl (heap_set3 HG4.out _ _ _) Try.underlying66 rfl (by kernel_rfl)) rfl ?_
      exact ⟨_, _, rfl, HV5.out, HO5.out, hbel5⟩
  · have hmin : min k b.length = b.length := by omega
    rw [hmin]
    have hlt' : b.length < k := by omega
    clear hlt hkl
    obtain ⟨ta, hsl, hT⟩ := Raw.from hB Try.underlying22 (show (Try.prog.info? 5).map (·.size) = some 1 by kernel_rfl) (lo := b.length) (by omega)
    rw [Nat.mul_one, bytesV_drop] at hT
    rw [Nat.sub_self] at hT hsl
    have HT := Lib.hid hT; clear hT
    have HB := Lib.hid hB; clear hB hmin
    go_enter Try.func38, Try.ntmps38
    go_wp2
    refine Txt.Ty.wp_tree [] [] [] [] [0, 1, 3, 4, 5, 7, 8, 9] (.alt [2] (.alt [6] (.alt [10, 11, 12] (.alt [13, 14] (.done) (.no)) (.no)) (.no)) (.alt [6] (.alt [2] (.alt [10, 11, 12] (.alt [13, 14] (.done) (.no)) (.no)) (.no)) (.no))) (by kernel_rfl) (by kernel_rfl) (by kernel_rfl) (by kernel_rfl) (fun b hb => by cases hb) ?_
    (try simp only [Txt.pick, List.getElem?_cons_succ, List.getElem?_cons_zero])
    go_wp2
    refine Txt.RunPost.mk ?_
    obtain ⟨u, hu⟩ : ∃ u, u = (w.alloc (.cells #[.int .i64 0, .int .i64 0, .slice none 0 0] 66)).drew := ⟨_, rfl⟩
    have hbel : Below w.heap.size w u := hu ▸ ((Below.refl w.heap.size w).alloc (Nat.le_refl _) _).drew
    have hus : w.heap.size < u.heap.size := by rw [hu]; simp
    have HG : Hid (u.heap[w.heap.size]? = some (.cells #[.int .i64 0, .int .i64 0, .slice none 0 0] 66 (0, 0))) := Lib.hid (by rw [hu]; exact heap_alloc_new w _)
    have hal := (Below.refl w.heap.size w).alloc (Nat.le_refl _) (.cells #[.int .i64 0, .int .i64 0, .slice none 0 0] 66)
    have HBu : Hid (Bytes [] u (.slice xa b.length xc) b) := Lib.hid (by rw [hu]; exact Raw.drew (Raw.below HB.out hal))
    have HTu : Hid (Raw [] 1 u (.slice ta (0) (xc - b.length)) (0) (bytesV (b.drop (b.length)))) := Lib.hid (by rw [hu]; exact Raw.drew (Raw.below HT.out hal))
    rw [← hu]
    clear hu hal
    refine Txt.Ty.wpTr_alt ?_ ?_
    · (try simp only [Txt.pick, List.getElem?_cons_succ, List.getElem?_cons_zero])
      go_wp2_with fail
      refine (rsized_fr _ b k _ (by omega) (by omega) HBu.out).mono ?_
      rintro e w1 ⟨v, rfl, hv1, hb1⟩
      have hs1 := hb1.size
      have hbel1 := hbel.trans (hb1.mono (by omega))
      have HG1 := Lib.hid ((hb1.block _ (by omega)).trans HG.out)
      have HV1 := Lib.hid hv1
      have HT1 := Lib.hid (Raw.below HTu.out hb1)
      clear hv1 hb1
      go_wp2
      refine Txt.SegPost.mk Txt.Ty.Shown.none ?_
      refine Txt.RunPost.mk ?_
      refine Txt.Ty.wpTr_alt ?_ Txt.Ty.wpTr_no
      (try simp only [Txt.pick, List.getElem?_cons_succ, List.getElem?_cons_zero])
      go_wp2
      refine Txt.SegPost.mk Txt.Ty.Shown.none ?_
      refine Txt.RunPost.mk ?_
      have hal := (Below.refl w1.heap.size w1).alloc (Nat.le_refl _) (.cells #[] 5)
      obtain ⟨q, hq⟩ : ∃ q, q = w1.heap.size := ⟨_, rfl⟩
      have HO := Lib.hid (own_empty w1 q 5 1 (by omega))
      have HT2 := Lib.hid (Raw.below HT1.out hal)
      have hbel2 := hbel1.trans (hal.mono (by omega))
      have hqb : w.heap.size ≤ q := by omega
      have HG2 := Lib.hid ((hal.block w.heap.size (by omega)).trans HG1.out)
      have hGq : w.heap.size < (w1.alloc (.cells #[] 5)).heap.size := by simp; omega
      have HV2 : Hid (Bytes (q :: w.heap.size :: old w) (w1.alloc (.cells #[] 5)) v (sized b k)) := Lib.hid (Raw.keep HV1.out (Keep.of_below' (F := []) hal) (fun f hf => by cases hf) (fun f hf => by
        rcases List.mem_cons.1 hf with rfl | hf
        · exact .inr (by omega)
        · rcases List.mem_cons.1 hf with rfl | hf
          · exact .inl (List.mem_range.2 (by omega))
          · exact .inl (List.mem_range.2 (by have := old_lt f hf; omega))))
      have hwq : w.heap.size < q := by omega
      have hq2 : q ≤ (w1.alloc (.cells #[] 5)).heap.size := by simp; omega
      obtain ⟨u2, hu2⟩ : ∃ u2, u2 = w1.alloc (.cells #[] 5) := ⟨_, rfl⟩
      rw [← hq] at HO ⊢
      rw [← hu2] at HO HT2 HV2 HG2 hbel2 hGq hq2 ⊢
      clear hal hu2 hq HV1 HT1 HG1 hbel1 hs1
      refine Txt.Ty.wpTr_alt ?_ Txt.Ty.wpTr_no
      (try simp only [Txt.pick, List.getElem?_cons_succ, List.getElem?_cons_zero])
      go_wp2_with (at_builtin; refine wpList_app el22 Try.underlying22 HO.out HT2.out hbel2 rfl _ _ rfl rfl rfl ?c3 hqb ?c5 ?_)
      case c3 => omega
      case c5 => omega
      intro v4 w4 hown4 hb4 hg4 hs4
      try simp only [Nat.zero_add, List.nil_append] at hown4
      have hG4 : w4.heap[w.heap.size]? = some (.cells #[.int .i64 0, .int .i64 0, .slice none 0 0] 66 (0, 0)) := (hg4.block _ hGq (by intro h; simp [Value.ownBlock] at h; omega)).trans HG2.out
      have hV4 : Bytes (w.heap.size :: old w) w4 v (sized b k) := Raw.keep HV2.out (Keep.of_grown (F := [q]) hg4 (fun f hf => by simp [Value.ownBlock] at hf; exact .inl (by simp; omega))) (fun f hf => .inl (by rw [List.mem_singleton.1 hf]; simp)) (fun f hf => .inl (List.mem_cons_of_mem _ hf))
      have hO4 : Bytes (w.heap.size :: old w) w4 v4 (b.drop (b.length)) := Bytes.row (n := 0) (base := q) (e := 5) (by simpa using hown4) (by simp) (fun f hf => by
        rcases List.mem_cons.1 hf with rfl | hf
        · omega
        · have := old_lt f hf; omega)
      have hsz4 : w.heap.size < w4.heap.size := by omega
      obtain ⟨a4, c4, rfl⟩ := own_slice hown4
      have HG4 := Lib.hid hG4
      have c0 := box_at hG4 (j := 0) rfl
      have c1 := box_at hG4 (j := 1) rfl
      have c2 := box_at hG4 (j := 2) rfl
      have f0 := box_free hG4 0
      have f1 := box_free hG4 1
      have f2 := box_free hG4 2
      have hbel5 := ((hb4.setCell (p := ⟨w.heap.size, 0, none⟩) (Nat.le_refl _) (.int .i64 b.length)).setCell (p := ⟨w.heap.size, 1, none⟩) (Nat.le_refl _) (.int .i64 b.length)).setCell (p := ⟨w.heap.size, 2, none⟩) (Nat.le_refl _) (.slice a4 (0) c4)
      have hk5 : Keep [w.heap.size] w4 (((w4.setCell ⟨w.heap.size, 0, none⟩ (.int .i64 b.length)).setCell ⟨w.heap.size, 1, none⟩ (.int .i64 b.length)).setCell ⟨w.heap.size, 2, none⟩ (.slice a4 (0) c4)) := (((Keep.refl [w.heap.size] w4).setCell (by simp) _).setCell (by simp) _).setCell (by simp) _
      have HV5 := Lib.hid (Raw.keep hV4 hk5 (fun f hf => .inl (by rw [List.mem_singleton.1 hf]; simp)) (fun f hf => .inl (List.mem_cons_of_mem _ hf)))
      have HO5 := Lib.hid (Raw.keep hO4 hk5 (fun f hf => .inl (by rw [List.mem_singleton.1 hf]; simp)) (fun f hf => .inl (List.mem_cons_of_mem _ hf)))
      clear hown4 hg4 hs4 hV4 hO4 hG4 hk5
      go_wp2
      refine Txt.SegPost.mk Txt.Ty.Shown.none ?_
      (try simp only [Txt.pick, List.getElem?_cons_succ, List.getElem?_cons_zero])
      go_wp2
      refine Txt.RunPost.mk ?_
      refine Txt.Ty.wpTr_alt ?_ Txt.Ty.wpTr_no
      (try simp only [Txt.pick, List.getElem?_cons_succ, List.getElem?_cons_zero])
      go_wp2
      refine Txt.SegPost.mk Txt.Ty.Shown.none ?_
      (try simp only [Txt.pick, List.getElem?_cons_succ, List.getElem?_cons_zero])
      go_wp2
      refine Txt.RunPost.mk ?_
      refine Txt.Ty.wpTr_done (by rfl) trivial ?_
      go_wp2
      refine bodyPost_ret (results_tct rfl _ _ _ _ _ _ _ rfl (heap_set3 HG4.out _ _ _) Try.underlying66 rfl (by kernel_rfl)) rfl ?_
      exact ⟨_, _, rfl, HV5.out, HO5.out, hbel5⟩
    · refine Txt.Ty.wpTr_alt ?_ Txt.Ty.wpTr_no
      (try simp only [Txt.pick, List.getElem?_cons_succ, List.getElem?_cons_zero])
      go_wp2
      refine Txt.SegPost.mk Txt.Ty.Shown.none ?_
      refine Txt.RunPost.mk ?_
      have hal := (Below.refl u.heap.size u).alloc (Nat.le_refl _) (.cells #[] 5)
      obtain ⟨q, hq⟩ : ∃ q, q = u.heap.size := ⟨_, rfl⟩
      have HO1 := Lib.hid (own_empty u q 5 1 (by omega))
      have HB1 := Lib.hid (Raw.below HBu.out hal)
      have HT1 := Lib.hid (Raw.below HTu.out hal)
      have hbel1 := hbel.trans (hal.mono (by omega))
      have HG1 := Lib.hid ((hal.block w.heap.size (by omega)).trans HG.out)
      have hqs : (u.alloc (.cells #[] 5)).heap.size = q + 1 := by simp; omega
      obtain ⟨u1, hu1⟩ : ∃ u1, u1 = u.alloc (.cells #[] 5) := ⟨_, rfl⟩
      rw [← hq] at HO1 ⊢
      rw [← hu1] at HO1 HB1 HT1 HG1 hbel1 hqs ⊢
      clear hal hu1
      refine Txt.Ty.wpTr_alt ?_ Txt.Ty.wpTr_no
      (try simp only [Txt.pick, List.getElem?_cons_succ, List.getElem?_cons_zero])
      go_wp2_with fail
      refine (rsized_fr _ b k _ (by omega) (by omega) HB1.out).mono ?_
      rintro e u2 ⟨v, rfl, hv1, hb1⟩
      have hs1 := hb1.size
      have hbel2 := hbel1.trans (hb1.mono (by omega))
      have HG2 := Lib.hid ((hb1.block _ (by omega)).trans HG1.out)
      have HV2 : Hid (Bytes (q :: w.heap.size :: old w) u2 v (sized b k)) := Lib.hid (Raw.apart hv1 (fun f hf => by
        rcases List.mem_cons.1 hf with rfl | hf
        · omega
        · rcases List.mem_cons.1 hf with rfl | hf
          · omega
          · have := old_lt f hf; omega))
      have HT2 := Lib.hid (Raw.below HT1.out hb1)
      have HO := Lib.hid (own_below HO1.out hb1 (Nat.le_refl _))
      have hqb : w.heap.size ≤ q := by omega
      have hGq : w.heap.size < u2.heap.size := by omega
      have hwq : w.heap.size < q := by omega
      have hq2 : q ≤ u2.heap.size := by omega
      clear hv1 hb1 HG1 HT1 HO1 HB1 hbel1 hq hqs hs1
      go_wp2
      refine Txt.SegPost.mk Txt.Ty.Shown.none ?_
      refine Txt.RunPost.mk ?_
      refine Txt.Ty.wpTr_alt ?_ Txt.Ty.wpTr_no
      (try simp only [Txt.pick, List.getElem?_cons_succ, List.getElem?_cons_zero])
      go_wp2_with (at_builtin; refine wpList_app el22 Try.underlying22 HO.out HT2.out hbel2 rfl _ _ rfl rfl rfl ?c3 hqb ?c5 ?_)
      case c3 => omega
      case c5 => omega
      intro v4 w4 hown4 hb4 hg4 hs4
      try simp only [Nat.zero_add, List.nil_append] at hown4
      have hG4 : w4.heap[w.heap.size]? = some (.cells #[.int .i64 0, .int .i64 0, .slice none 0 0] 66 (0, 0)) := (hg4.block _ hGq (by intro h; simp [Value.ownBlock] at h; omega)).trans HG2.out
      have hV4 : Bytes (w.heap.size :: old w) w4 v (sized b k) := Raw.keep HV2.out (Keep.of_grown (F := [q]) hg4 (fun f hf => by simp [Value.ownBlock] at hf; exact .inl (by simp; omega))) (fun f hf => .inl (by rw [List.mem_singleton.1 hf]; simp)) (fun f hf => .inl (List.mem_cons_of_mem _ hf))
      have hO4 : Bytes (w.heap.size :: old w) w4 v4 (b.drop (b.length)) := Bytes.row (n := 0) (base := q) (e := 5) (by simpa using hown4) (by simp) (fun f hf => by
        rcases List.mem_cons.1 hf with rfl | hf
        · omega
        · have := old_lt f hf; omega)
      have hsz4 : w.heap.size < w4.heap.size := by omega
      obtain ⟨a4, c4, rfl⟩ := own_slice hown4
      have HG4 := Lib.hid hG4
      have c0 := box_at hG4 (j := 0) rfl
      have c1 := box_at hG4 (j := 1) rfl
      have c2 := box_at hG4 (j := 2) rfl
      have f0 := box_free hG4 0
      have f1 := box_free hG4 1
      have f2 := box_free hG4 2
      have hbel5 := ((hb4.setCell (p := ⟨w.heap.size, 0, none⟩) (Nat.le_refl _) (.int .i64 b.length)).setCell (p := ⟨w.heap.size, 1, none⟩) (Nat.le_refl _) (.int .i64 b.length)).setCell (p := ⟨w.heap.size, 2, none⟩) (Nat.le_refl _) (.slice a4 (0) c4)
      have hk5 : Keep [w.heap.size] w4 (((w4.setCell ⟨w.heap.size, 0, none⟩ (.int .i64 b.length)).setCell ⟨w.heap.size, 1, none⟩ (.int .i64 b.length)).setCell ⟨w.heap.size, 2, none⟩ (.slice a4 (0) c4)) := (((Keep.refl [w.heap.size] w4).setCell (by simp) _).setCell (by simp) _).setCell (by simp) _
      have HV5 := Lib.hid (Raw.keep hV4 hk5 (fun f hf => .inl (by rw [List.mem_singleton.1 hf]; simp)) (fun f hf => .inl (List.mem_cons_of_mem _ hf)))
      have HO5 := Lib.hid (Raw.keep hO4 hk5 (fun f hf => .inl (by rw [List.mem_singleton.1 hf]; simp)) (fun f hf => .inl (List.mem_cons_of_mem _ hf)))
      clear hown4 hg4 hs4 hV4 hO4 hG4 hk5
      go_wp2
      refine Txt.SegPost.mk Txt.Ty.Shown.none ?_
      (try simp only [Txt.pick, List.getElem?_cons_succ, List.getElem?_cons_zero])
      go_wp2
      refine Txt.RunPost.mk ?_
      refine Txt.Ty.wpTr_alt ?_ Txt.Ty.wpTr_no
      (try simp only [Txt.pick, List.getElem?_cons_succ, List.getElem?_cons_zero])
      go_wp2
      refine Txt.SegPost.mk Txt.Ty.Shown.none ?_
      (try simp only [Txt.pick, List.getElem?_cons_succ, List.getElem?_cons_zero])
      go_wp2
      refine Txt.RunPost.mk ?_
      refine Txt.Ty.wpTr_done (by rfl) trivial ?_
      go_wp2
      refine bodyPost_ret (results_tct rfl _ _ _ _ _ _ _ rfl (heap_set3 HG4.out _ _ _) Try.underlying66 rfl (by kernel_rfl)) rfl ?_
      exact ⟨_, _, rfl, HV5.out, HO5.out, hbel5⟩
end Go.Proofs.Yteefimjgcabpoaa
