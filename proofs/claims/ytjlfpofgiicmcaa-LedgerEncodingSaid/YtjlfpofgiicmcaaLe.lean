/- Ledger: walks: the reference's with, See -/
import Derived.Test.YtjlfpofgiicmcaaLd
namespace Go.Lg
open Go Go.RowKit Go.Bs Go.Cl Go.Rw
theorem take_succ_lt {l : List Lt} {k : Nat} (hk : k < l.length) : l.take (k + 1) = l.take k ++ [ltAt l k] := by
  rw [List.take_add_one, lt_get hk]; rfl
theorem put_snoc {a : List Lt} {z x : Lt} (h : x.t < z.t) : putL (a ++ [z]) x = putL a x ++ [z] := by
  unfold putL
  have h1 : ¬ z.t < x.t := by omega
  simp [List.filter_append, h, h1]
theorem put_first {a : List Lt} {z x : Lt} (ha : ∀ y ∈ a, y.t < x.t) (h : x.t ≤ z.t) : putL (a ++ [z]) x = if z.t = x.t then a ++ [x] else a ++ [x] ++ [z] := by
  unfold putL
  have e1 : a.filter (fun y => y.t < x.t) = a := List.filter_eq_self.2 (fun y hy => by simpa using ha y hy)
  have e2 : a.filter (fun y => x.t < y.t) = [] := List.filter_eq_nil_iff.2 (fun y hy => by have := ha y hy; simp; omega)
  rw [List.filter_append, List.filter_append, e1, e2]
  have h1 : ¬ z.t < x.t := by omega
  by_cases h2 : z.t = x.t
  · have h3 : ¬ x.t < z.t := by omega
    simp [h1, h2]
  · have h3 : x.t < z.t := by omega
    simp [h1, h2, h3]
theorem put_last {a : List Lt} {x : Lt} (ha : ∀ y ∈ a, y.t < x.t) : putL a x = a ++ [x] := by
  unfold putL
  have e1 : a.filter (fun y => y.t < x.t) = a := List.filter_eq_self.2 (fun y hy => by simpa using ha y hy)
  have e2 : a.filter (fun y => x.t < y.t) = [] := List.filter_eq_nil_iff.2 (fun y hy => by have := ha y hy; simp; omega)
  rw [e1, e2]
/-- what the reference has when k elements are over -/
def WithAt (l : List Lt) (x : Lt) (k : Nat) (done : Bool) (out : List Lt) : Prop :=
  (done = false ∧ (∀ j, j < k → (ltAt l j).t < x.t) ∧ out = l.take k) ∨ (done = true ∧ (∃ j, j < k ∧ x.t ≤ (ltAt l j).t) ∧ out = putL (l.take k) x)
theorem WithAt.len {l : List Lt} {x : Lt} {k : Nat} {d : Bool} {out : List Lt} (h : WithAt l x k d out) (hs : Srt l) (hk : k ≤ l.length) : out.length ≤ l.length + 1 := by
  rcases h with ⟨_, _, rfl⟩ | ⟨_, _, rfl⟩
  · simp; omega
  · have := put_len (l.take k) x (List.Pairwise.take hs); simp at this ⊢; omega
end Go.Lg
namespace Go.Proofs.Ytjlfpofgiicmcaa
open Go.RowKit Go.Bs Go.Cl Go.Rw Go.Lg
theorem own_list {w : World} {base e n : Nat} {v : Value} {xs : List Value} {l : List Lt} (h : w.ownsRow base e 2 v n xs) (hx : l.flatMap encL = xs) : w.ownsRow base e 2 v l.length (l.flatMap encL) := by
  subst hx
  have hn : n = l.length := by have := h.1; rw [flat_length encL encL_len] at this; omega
  subst hn; exact h
theorem el22 : Rw.Elem Try.prog 22 30 2 16 (.agg #[.int .i64 0, .int .i64 0]) := ⟨Try.underlying22, by kernel_rfl, rfl, by decide⟩
theorem box2 {w : World} (g : Nat) (x : Lt) {t : TypeId} (h : w.heap[g]? = some (.cells #[.int .i64 x.t, .int .i64 x.q] t (0, 0))) : Raw [] 2 w (.slice (some ⟨g, 0, none⟩) 1 1) 1 (encL x) :=
  Raw.of_block (ys := encL x) h (by intro h; cases h) (by intro u hu; simp [encL] at hu; rcases hu with rfl | rfl <;> rfl) rfl (Nat.le_refl _) (by unfold maxLen; omega)

set_option maxRecDepth 100000 in
set_option maxHeartbeats 2000000 in
theorem with_any (v : Value) (l : List Lt) (t s : Int) (w : World) (hl : l.length ≤ 1000) (h : SlL w v l) (hs : Srt l) :
    Calls Try.prog 29 #[v, .int .i64 t, .int .i64 s] w fun e w' => ∃ v', e = .returned v' ∧ SlL w' v' (putL l ⟨t, s⟩) ∧ Below w.heap.size w w' := by
  obtain ⟨a, cap, rfl⟩ := Raw.slice h
  have H := Lib.hid h; clear h
  have Hs := Lib.hid hs; clear hs
  go_enter Try.func29, Try.ntmps29
  go_wp2
  go_loopw [7, 8, 9] (fun ov dv i wr => ∃ (k : Nat) (done : Bool) (out : List Lt), k ≤ l.length ∧ i = .int .i64 k ∧ dv = .bool done ∧ WithAt l ⟨t, s⟩ k done out ∧ wr.ownsRow w.heap.size 30 2 ov out.length (out.flatMap encL) ∧ Below w.heap.size w wr) (fun _ _ i _ => l.length - (intOf i).toNat)
  case atStart => exact ⟨0, false, [], Nat.zero_le _, rfl, rfl, .inl ⟨rfl, fun j h => absurd h (Nat.not_lt_zero _), rfl⟩, World.ownsRow_nil _ _ _ _, Below.refl _ _⟩
  case round =>
    obtain ⟨k, done, out, hk, rfl, rfl, hW, hown, hbel⟩ := hrel
    have hol := hW.len Hs.out hk
    obtain ⟨oa, oc, rfl⟩ := own_slice hown
    have hsz := hbel.size
    have Hown := Lib.hid hown; clear hown
    by_cases hlt : k < l.length
    · obtain ⟨b, off, rfl, hb, h0, h1⟩ := (H.out.below hbel).elem hlt
      have htk := take_succ_lt hlt
      have Htk := Lib.hid htk; clear htk
      obtain ⟨z, hz⟩ : ∃ z, ltAt l k = z := ⟨_, rfl⟩
      rw [hz] at h0 h1
      have Hz := Lib.hid hz; clear hz
      have hbw : b < wr.heap.size := hb
      rcases hW with ⟨rfl, hlow, rfl⟩ | ⟨rfl, ⟨j, hj, hge⟩, rfl⟩
      · have htake : ∀ y ∈ l.take k, y.t < (⟨t, s⟩ : Lt).t := take_lt hlow
        have Htake := Lib.hid htake
        have Hlow := Lib.hid hlow
        clear hlow htake
        by_cases hc : z.t < t
        · -- t_k < task: the element
          have hne : (z.t == t) = false := by simp; omega
          have hne2 : (z.t != t) = true := by simp; omega
          have hn3 : ¬ t ≤ z.t := by omega
          have hbel1 := hbel.alloc hsz (.cells #[.int .i64 z.t, .int .i64 z.q] 30)
          have Hx := Lib.hid (box2 wr.heap.size z (heap_alloc_new wr (.cells #[.int .i64 z.t, .int .i64 z.q] 30)))
          go_wp2_with (at_builtin; refine wpList_app el22 Try.underlying22 (Hown.out.alloc _) Hx.out hbel1 rfl _ _ rfl rfl rfl ?c3 (Nat.le_refl _) ?c5 ?_)
          case c3 => omega
          case c5 => first | omega | (simp; omega)
          intro v2 w2 hown2 hb2 hg2 hs2
          have Hfin : Hid (w2.ownsRow w.heap.size 30 2 v2 (l.take (k + 1)).length ((l.take (k + 1)).flatMap encL)) := Lib.hid (own_list hown2 (by rw [Htk.out, Hz.out]; simp))
          clear hown2 hg2
          go_wp2
          go_roundw
          case rel => exact ⟨k + 1, false, _, by omega, by go_num, rfl, .inl ⟨rfl, fun j hj => by
            by_cases hjk : j < k
            · exact Hlow.out j hjk
            · obtain rfl : j = k := by omega
              rw [Hz.out]; exact hc, rfl⟩, Hfin.out, hb2⟩
          case measure => simp [intOf]; omega
        · have hge : t ≤ z.t := by omega
          have hbel1 := hbel.alloc hsz (.cells #[.int .i64 t, .int .i64 s] 30)
          have Hx := Lib.hid (box2 wr.heap.size ⟨t, s⟩ (heap_alloc_new wr (.cells #[.int .i64 t, .int .i64 s] 30)))
          have Hpf := Lib.hid (put_first (z := z) (x := ⟨t, s⟩) Htake.out hge)
          by_cases he : z.t = t
          · have hne : (z.t == t) = true := by simpa using he
            have hne2 : (z.t != t) = false := by simp [he]
            have He := Lib.hid he; clear he
            go_wp2_with (at_builtin; refine wpList_app el22 Try.underlying22 (Hown.out.alloc _) Hx.out hbel1 rfl _ _ rfl rfl rfl ?c3 (Nat.le_refl _) ?c5 ?_)
            case c3 => omega
            case c5 => first | omega | (simp; omega)
            intro v2 w2 hown2 hb2 hg2 hs2
            have h0' : w2.cell? ⟨b, off + k * 2, none⟩ = some (.int .i64 z.t) := by
              have hb0 : b < w.heap.size := by
                rcases Raw.cases H.out with ⟨h, _⟩ | ⟨_, _, _, _, hv, _, _, hb0, _⟩
                · omega
                · cases hv; exact hb0
              rw [hb2.cell (p := ⟨b, off + k * 2, none⟩) hb0, ← hbel.cell (p := ⟨b, off + k * 2, none⟩) hb0]; exact h0
            have Hfin : Hid (w2.ownsRow w.heap.size 30 2 v2 (putL (l.take (k + 1)) ⟨t, s⟩).length ((putL (l.take (k + 1)) ⟨t, s⟩).flatMap encL)) := Lib.hid (own_list hown2 (by rw [Htk.out, Hz.out, Hpf.out, if_pos He.out]; simp))
            clear hown2 hg2
            go_wp2
            go_roundw
            case rel => exact ⟨k + 1, true, _, by omega, by go_num, rfl, .inr ⟨rfl, ⟨k, by omega, by rw [Hz.out]; exact hge⟩, rfl⟩, Hfin.out, hb2⟩
            case measure => simp [intOf]; omega
          · have hne : (z.t == t) = false := by simpa using he
            have hne2 : (z.t != t) = true := by simp [he]
            have He := Lib.hid he; clear he
            go_wp2_with (at_builtin; refine wpList_app el22 Try.underlying22 (Hown.out.alloc _) Hx.out hbel1 rfl _ _ rfl rfl rfl ?c3 (Nat.le_refl _) ?c5 ?_)
            case c3 => omega
            case c5 => first | omega | (simp; omega)
            intro v2 w2 hown2 hb2 hg2 hs2
            have hb0 : b < w.heap.size := by
              rcases Raw.cases H.out with ⟨h, _⟩ | ⟨_, _, _, _, hv, _, _, hb0, _⟩
              · omega
              · cases hv; exact hb0
            have h0' : w2.cell? ⟨b, off + k * 2, none⟩ = some (.int .i64 z.t) := by
              rw [hb2.cell (p := ⟨b, off + k * 2, none⟩) hb0, ← hbel.cell (p := ⟨b, off + k * 2, none⟩) hb0]; exact h0
            have h1' : w2.cell? ⟨b, off + k * 2 + 1, none⟩ = some (.int .i64 z.q) := by
              rw [hb2.cell (p := ⟨b, off + k * 2 + 1, none⟩) hb0, ← hbel.cell (p := ⟨b, off + k * 2 + 1, none⟩) hb0]; exact h1
            obtain ⟨a2, c2, rfl⟩ := own_slice hown2
            have Hown2 := Lib.hid hown2
            have hbel2 := hb2
            have hsz2 := hbel2.size
            have Hx2 := Lib.hid (box2 w2.heap.size z (heap_alloc_new w2 (.cells #[.int .i64 z.t, .int .i64 z.q] 30)))
            have hbel3 := hbel2.alloc hsz2 (.cells #[.int .i64 z.t, .int .i64 z.q] 30)
            clear hown2 hg2
            go_wp2_with (at_builtin; refine wpList_app el22 Try.underlying22 (Hown2.out.alloc _) Hx2.out hbel3 rfl _ _ rfl rfl rfl ?c3 (Nat.le_refl _) ?c5 ?_)
            case c3 => omega
            case c5 => first | omega | (simp; omega)
            intro v4 w4 hown4 hb4 hg4 hs4
            have Hfin : Hid (w4.ownsRow w.heap.size 30 2 v4 (putL (l.take (k + 1)) ⟨t, s⟩).length ((putL (l.take (k + 1)) ⟨t, s⟩).flatMap encL)) := Lib.hid (own_list hown4 (by rw [Htk.out, Hz.out, Hpf.out, if_neg He.out]; simp))
            clear hown4 hg4
            go_wp2
            go_roundw
            case rel => exact ⟨k + 1, true, _, by omega, by go_num, rfl, .inr ⟨rfl, ⟨k, by omega, by rw [Hz.out]; exact hge⟩, rfl⟩, Hfin.out, hb4⟩
            case measure => simp [intOf]; omega
      · have hgt : t < z.t := by
          have := srt_at Hs.out hj hlt
          rw [Hz.out] at this
          simp only at hge; omega
        have hne : (z.t == t) = false := by simp; omega
        have hne2 : (z.t != t) = true := by simp; omega
        have Hps := Lib.hid (put_snoc (a := l.take k) (z := z) (x := ⟨t, s⟩) hgt)
        have hbel1 := hbel.alloc hsz (.cells #[.int .i64 z.t, .int .i64 z.q] 30)
        have Hx := Lib.hid (box2 wr.heap.size z (heap_alloc_new wr (.cells #[.int .i64 z.t, .int .i64 z.q] 30)))
        go_wp2_with (at_builtin; refine wpList_app el22 Try.underlying22 (Hown.out.alloc _) Hx.out hbel1 rfl _ _ rfl rfl rfl ?c3 (Nat.le_refl _) ?c5 ?_)
        case c3 => omega
        case c5 => first | omega | (simp; omega)
        intro v2 w2 hown2 hb2 hg2 hs2
        have Hfin : Hid (w2.ownsRow w.heap.size 30 2 v2 (putL (l.take (k + 1)) ⟨t, s⟩).length ((putL (l.take (k + 1)) ⟨t, s⟩).flatMap encL)) := Lib.hid (own_list hown2 (by rw [Htk.out, Hz.out, Hps.out]; simp))
        clear hown2 hg2
        go_wp2
        go_roundw
        case rel => exact ⟨k + 1, true, _, by omega, by go_num, rfl, .inr ⟨rfl, ⟨j, by omega, hge⟩, rfl⟩, Hfin.out, hb2⟩
        case measure => simp [intOf]; omega
    · obtain rfl : k = l.length := by omega
      rcases hW with ⟨rfl, hlow, rfl⟩ | ⟨rfl, _, hout⟩
      · have Hpl := Lib.hid (put_last (a := l) (x := ⟨t, s⟩) (fun y hy => by
          obtain ⟨j, hj, rfl⟩ := lt_mem.1 hy
          exact hlow j hj))
        clear hlow
        have hbel1 := hbel.alloc hsz (.cells #[.int .i64 t, .int .i64 s] 30)
        have Hx := Lib.hid (box2 wr.heap.size ⟨t, s⟩ (heap_alloc_new wr (.cells #[.int .i64 t, .int .i64 s] 30)))
        go_wp2_with (at_builtin; refine wpList_app el22 Try.underlying22 (Hown.out.alloc _) Hx.out hbel1 rfl _ _ rfl rfl rfl ?c3 (Nat.le_refl _) ?c5 ?_)
        case c3 => omega
        case c5 => first | omega | (simp; omega)
        intro v2 w2 hown2 hb2 hg2 hs2
        have Hfin : Hid (SlL w2 v2 (putL l ⟨t, s⟩)) := Lib.hid (SlL.of_own (own_list hown2 (by rw [Hpl.out]; simp)))
        clear hown2 hg2
        go_wp2
        go_ret
        exact ⟨_, rfl, Hfin.out, hb2⟩
      · rw [List.take_length] at hout
        subst hout
        have Hfin : Hid (SlL wr (.slice oa (putL l ⟨t, s⟩).length oc) (putL l ⟨t, s⟩)) := Lib.hid (SlL.of_own Hown.out)
        go_wp2
        go_ret
        exact ⟨_, rfl, Hfin.out, hbel⟩
end Go.Proofs.Ytjlfpofgiicmcaa
