/- Space: walks: proper, Valid, find -/
import Derived.Test.YtlomhelcphhinaaRows
import Derived.Test.YtlomhelcphhinaaSa
namespace Go.Proofs.Ytlomhelcphhinaa
open Go.RowKit Go.Bs Go.Sp

set_option maxHeartbeats 400000 in
theorem proper_any (p f : Int) (wr : Bool) (w : World) :
    Calls Try.prog 33 #[.agg #[.int .i64 p, .int .i64 f, .bool wr]] w fun e w' => e = .returned (.bool (properB p f)) ∧ Below w.heap.size w w' := by
  go_enter Try.func33, Try.ntmps33
  go_wp2
  all_goals
    go_ret
    refine ⟨by unfold properB; congr 2; simp [*]; try omega, (Below.refl _ _).alloc (Nat.le_refl _) _⟩

set_option maxHeartbeats 400000 in
theorem valid_any (b off cap : Nat) (l : List Ent) (w : World) (hl : l.length ≤ 1000000) (hb : b < w.heap.size) (hE : EntsAt w b off l) :
    Calls Try.prog 19 #[.slice (some ⟨b, off, none⟩) l.length cap] w fun e w' => e = .returned (.bool (validB l)) ∧ Below w.heap.size w w' := by
  have HE := Lib.hid hE; clear hE
  go_enter Try.func19, Try.ntmps19
  go_wp2
  go_loopw [7] (fun i wr => ∃ k : Nat, k ≤ l.length ∧ i = .int .i64 k ∧ Below w.heap.size w wr ∧ ∀ j, j < k → okAt l j = true) (fun i _ => l.length - (intOf i).toNat)
  case atStart => exact ⟨0, Nat.zero_le _, rfl, Below.refl _ _, fun j hj => absurd hj (Nat.not_lt_zero _)⟩
  case round =>
    obtain ⟨k, hk, rfl, hbel, hok⟩ := hrel
    have Hok := Lib.hid hok; clear hok
    obtain ⟨hc, hf⟩ := bcell hbel
    have hsz := hbel.size
    have hb' : b ≤ wr.heap.size := by omega
    have hb'' : b < wr.heap.size + 1 := by omega
    have hb3 : b < wr.heap.size := by omega
    by_cases hlt : k < l.length
    · obtain ⟨h0, h1, h2⟩ := HE.out k hlt
      obtain ⟨f0, _, _⟩ := HE.out (k - 1) (by omega)
      go_wp2
      refine Txt.wp_txt (by kernel_rfl) (by kernel_rfl) ?_
      go_wp2_with (go_at_call 33; refine (proper_any _ _ _ _).mono ?_; rintro e w1 ⟨rfl, hb1⟩; obtain ⟨hc1, hf1⟩ := bcellN (N := wr.heap.size + 1) hb1 (by simp))
      all_goals (refine Txt.DrawPost.mk0 (by rfl) ?_; go_wp2)
      all_goals have hfin : Below w.heap.size w w1 := ((hbel.alloc hsz _).drew).trans (hb1.mono (by simp; omega))
      all_goals first
        | (go_ret; exact ⟨ret_bool (validB_false hlt (by unfold okAt; simp [*]; try omega)).symm, hfin⟩)
        | (go_roundw
           case rel =>
             refine ⟨k + 1, by omega, by go_num, hfin, fun j hj => ?_⟩
             by_cases hjk : j < k
             · exact Hok.out j hjk
             · obtain rfl : j = k := by omega
               unfold okAt; simp [*]; try omega
           case measure => simp [intOf]; omega)
    · go_wp2
      go_ret
      exact ⟨ret_bool (validB_true fun j hj => Hok.out j (by omega)).symm, hbel⟩

set_option maxHeartbeats 400000 in
theorem valid_empty (a : Option Addr) (cap : Nat) (w : World) :
    Calls Try.prog 19 #[.slice a 0 cap] w fun e w' => e = .returned (.bool true) ∧ Below w.heap.size w w' := by
  go_enter Try.func19, Try.ntmps19
  go_wp2
  refine wp_loop_once ?_
  go_wp2
  go_ret
  exact ⟨rfl, Below.refl _ _⟩

theorem valid_sl {w : World} {v : Value} {l : List Ent} (h : SlE w v l) (hl : l.length ≤ 1000000) :
    Calls Try.prog 19 #[v] w fun e w' => e = .returned (.bool (validB l)) ∧ Below w.heap.size w w' := by
  obtain ⟨a, cap, rfl, hc, hh⟩ := h
  by_cases hl0 : 0 < l.length
  · obtain ⟨b, off, rfl, hlt, he⟩ := hh hl0
    exact valid_any b off cap l w hl hlt he
  · have : l = [] := List.length_eq_zero_iff.1 (by omega)
    subst this
    exact valid_empty a cap w
theorem valid_eq {w : World} {v : Value} {l : List Ent} {r : Bool} (h : SlE w v l) (hl : l.length ≤ 1000000) (hr : validB l = r) :
    Calls Try.prog 19 #[v] w fun e w' => e = .returned (.bool r) ∧ Below w.heap.size w w' := hr ▸ valid_sl h hl

set_option maxHeartbeats 400000 in
theorem find1_any (b off cap p2 p3 i : Nat) (l : List Ent) (page : Int) (w : World) (hl : l.length ≤ 1000000) (hi : i < l.length) (hb : b < w.heap.size) (hE : EntsAt w b off l)
    (h2 : w.cell? ⟨p2, 0, none⟩ = some (.slice (some ⟨b, off, none⟩) l.length cap)) (h3 : w.cell? ⟨p3, 0, none⟩ = some (.int .i64 page)) :
    Calls Try.prog 41 #[.int .i64 i, .pointer (some ⟨p3, 0, none⟩), .pointer (some ⟨p2, 0, none⟩)] w fun e w' => e = .returned (.int .i64 (wrap64 (page - (ent l i).p))) ∧ Below w.heap.size w w' := by
  obtain ⟨h0, _, _⟩ := hE i hi
  clear hE
  go_enter Try.func41, Try.ntmps41
  go_wp2
  refine Txt.wp_txt (by kernel_rfl) (by kernel_rfl) ?_
  go_wp2
  refine Txt.DrawPost.mk0 (by rfl) ?_
  go_wp2
  go_ret
  exact ⟨rfl, (Below.refl _ _).drew⟩

theorem find1_int (b off cap p2 p3 : Nat) (ii : Int) (l : List Ent) (page : Int) (w : World) (hl : l.length ≤ 1000000) (hi0 : 0 ≤ ii) (hi : ii < l.length) (hb : b < w.heap.size) (hE : EntsAt w b off l)
    (h2 : w.cell? ⟨p2, 0, none⟩ = some (.slice (some ⟨b, off, none⟩) l.length cap)) (h3 : w.cell? ⟨p3, 0, none⟩ = some (.int .i64 page)) :
    Calls Try.prog 41 #[.int .i64 ii, .pointer (some ⟨p3, 0, none⟩), .pointer (some ⟨p2, 0, none⟩)] w fun e w' => e = .returned (.int .i64 (wrap64 (page - (ent l ii.toNat).p))) ∧ Below w.heap.size w w' := by
  obtain ⟨n, rfl⟩ := Int.eq_ofNat_of_zero_le hi0
  exact find1_any b off cap p2 p3 n l page w hl (by omega) hb hE h2 h3

set_option maxHeartbeats 400000 in
theorem sortFind_any (b off cap p2 p3 : Nat) (l : List Ent) (page : Int) (w : World) (hl : l.length ≤ 1000000) (hb : b < w.heap.size) (hb2 : p2 < w.heap.size) (hb3 : p3 < w.heap.size) (hE : EntsAt w b off l) (hv : validB l = true)
    (hp1 : -9223372036854775808 ≤ page) (hp2 : page ≤ 9223372036854775807)
    (h2 : w.cell? ⟨p2, 0, none⟩ = some (.slice (some ⟨b, off, none⟩) l.length cap)) (h3 : w.cell? ⟨p3, 0, none⟩ = some (.int .i64 page)) :
    Calls Try.prog 40 #[.int .i64 l.length, .func (.func 41) #[] #[.pointer (some ⟨p3, 0, none⟩), .pointer (some ⟨p2, 0, none⟩)]] w fun e w' => ∃ (i : Nat) (fd : Bool), e = .returned (.tuple #[.int .i64 i, .bool fd]) ∧ Sp.Found l page i fd ∧ Below w.heap.size w w' := by
  have HE := Lib.hid hE; clear hE
  have Hv := Lib.hid hv; clear hv
  have H2 := Lib.hid h2; clear h2
  have H3 := Lib.hid h3; clear h3
  go_enter Try.func40, Try.ntmps40
  go_wp2
  go_loopw [4, 6] (fun ii jj wr => ∃ i j : Nat, i ≤ j ∧ j ≤ l.length ∧ ii = .int .i64 i ∧ jj = .int .i64 j ∧ Below w.heap.size w wr ∧ (0 ≤ page → page < 32 → (∀ k, k < i → (ent l k).p < page) ∧ (∀ k, j ≤ k → k < l.length → page ≤ (ent l k).p))) (fun ii jj _ => (intOf jj).toNat - (intOf ii).toNat)
  case atStart => exact ⟨0, l.length, Nat.zero_le _, Nat.le_refl _, rfl, rfl, Below.refl _ _, fun _ _ => ⟨fun k hk => by omega, fun k hk hk' => by omega⟩⟩
  case round =>
    obtain ⟨i, j, hij, hj, rfl, rfl, hbel, hpos⟩ := hrel
    have Hpos := Lib.hid hpos; clear hpos
    have hsz := hbel.size
    have hE' : EntsAt wr b off l := HE.out.below hbel hb
    have HE' := Lib.hid hE'; clear hE'
    have h2' : wr.cell? ⟨p2, 0, none⟩ = some (.slice (some ⟨b, off, none⟩) l.length cap) := (hbel.cell (p := ⟨p2, 0, none⟩) hb2).trans H2.out
    have h3' : wr.cell? ⟨p3, 0, none⟩ = some (.int .i64 page) := (hbel.cell (p := ⟨p3, 0, none⟩) hb3).trans H3.out
    have H2' := Lib.hid h2'; clear h2'
    have H3' := Lib.hid h3'; clear h3'
    by_cases hlt : i < j
    · have hm0 : (0 : Int) ≤ ((i : Int) + j) / 2 := by omega
      have hm1 : ((i : Int) + j) / 2 < (l.length : Int) := by omega
      have hmn : (((i : Int) + j) / 2).toNat = (i + j) / 2 := by omega
      have Hmn := Lib.hid hmn; clear hmn
      go_wp2_with fail
      refine (find1_int b off cap p2 p3 _ l page wr hl hm0 hm1 (by omega) HE'.out H2'.out H3'.out).mono ?_
      rintro e w1 ⟨rfl, hb1⟩
      have hfin := hbel.trans (hb1.mono hsz)
      rw [Hmn.out]
      go_wp2_with fail
      all_goals
        go_roundw
        case rel =>
          first
          | (refine ⟨(i + j) / 2 + 1, j, by omega, hj, by go_num, rfl, hfin, fun q1 q2 => ⟨fun k hk => ?_, (Hpos.out q1 q2).2⟩⟩
             have hvb := valid_bounds Hv.out (show (i + j) / 2 < l.length by omega)
             have hg : 0 < wrap64 (page - (ent l ((i + j) / 2)).p) := by assumption
             rw [wrap_pos q1 q2 hvb.1 hvb.2.1] at hg
             have := valid_le Hv.out (show k ≤ (i + j) / 2 by omega) (by omega)
             omega)
          | (refine ⟨i, (i + j) / 2, by omega, by omega, rfl, by go_num, hfin, fun q1 q2 => ⟨(Hpos.out q1 q2).1, fun k hk hk' => ?_⟩⟩
             have hvb := valid_bounds Hv.out (show (i + j) / 2 < l.length by omega)
             have hg : wrap64 (page - (ent l ((i + j) / 2)).p) ≤ 0 := by assumption
             rw [wrap_pos q1 q2 hvb.1 hvb.2.1] at hg
             have := valid_le Hv.out hk hk'
             omega)
        case measure => simp [intOf]; omega
    · obtain rfl : i = j := by omega
      by_cases hin : i < l.length
      · have hi0 : (0 : Int) ≤ (i : Int) := by omega
        have hi1 : (i : Int) < (l.length : Int) := by omega
        have hvb := valid_bounds Hv.out hin
        have hwz := wrap_zero hp1 hp2 hvb.1 hvb.2.1
        have Hwz := Lib.hid hwz; clear hwz hvb
        go_wp2_with (go_at_call 41; refine (find1_int b off cap p2 p3 _ l page wr hl hi0 hi1 (by omega) HE'.out H2'.out H3'.out).mono ?_; rintro e w1 ⟨rfl, hb1⟩)
        all_goals
          go_ret2
          refine ⟨i, _, rfl, ?_, hbel.trans (hb1.mono hsz)⟩
          refine Found.of Hv.out (by omega) Hpos.out (fun hf => ⟨hin, ?_⟩) (fun hf _ => ?_)
          · simp at hf
            exact Hwz.out.1 hf
          · simp at hf
            exact fun e => hf (Hwz.out.2 e)
      · go_wp2
        go_ret2
        refine ⟨i, _, rfl, ?_, hbel⟩
        exact Found.of Hv.out (by omega) Hpos.out (fun hf => by cases hf) (fun hf h => absurd h hin)
end Go.Proofs.Ytlomhelcphhinaa
