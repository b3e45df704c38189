/- Space: walks: from, Same -/
import Derived.Test.YtlomhelcphhinaaSp
namespace Go.Proofs.Ytlomhelcphhinaa
open Go.RowKit Go.Bs Go.Sp
theorem Try.info50 : (Try.prog.info? 50).map (fun i => (i.zero, i.size, i.bytes)) = some (some (.agg #[.int .i64 0, .int .i64 0, .bool false]), 3, 24) := by kernel_rfl
set_option maxHeartbeats 400000 in
theorem from_any (b off cap : Nat) (l : List Ent) (w : World) (hl : l.length ≤ 1000000) (hb : b < w.heap.size) (hE : EntsAt w b off l) :
    Calls Try.prog 23 #[.slice (some ⟨b, off, none⟩) l.length cap] w fun e w' => ∃ v, e = .returned v ∧ w'.ownsRow w.heap.size 50 3 v l.length (l.flatMap encE) ∧ Below w.heap.size w w' := by
  have HE := Lib.hid hE; clear hE
  obtain ⟨i0, hi, hz0, hz1, hz2⟩ := info_parts Try.info50
  have Hi := Lib.hid hi; clear hi
  have Hz0 := Lib.hid hz0; clear hz0
  have Hz1 := Lib.hid hz1; clear hz1
  have Hz2 := Lib.hid hz2; clear hz2
  go_enter Try.func23, Try.ntmps23
  go_wp2
  go_loopw [3, 7] (fun v i wr => ∃ k : Nat, k ≤ l.length ∧ i = .int .i64 k ∧ wr.ownsRow w.heap.size 50 3 v k ((l.take k).flatMap encE) ∧ Below w.heap.size w wr) (fun _ i _ => l.length - (intOf i).toNat)
  case atStart => exact ⟨0, Nat.zero_le _, rfl, World.ownsRow_nil _ _ _ _, Below.refl _ _⟩
  case round =>
    obtain ⟨k, hk, rfl, hown, hbel⟩ := hrel
    have Hown := Lib.hid hown; clear hown
    obtain ⟨hc, hf⟩ := bcell hbel
    have hsz := hbel.size
    by_cases hlt : k < l.length
    · obtain ⟨h0, h1, h2⟩ := HE.out k hlt
      go_wp2_with (at_builtin; refine wpList_append_own _ rfl _ _ 23 rfl w.heap.size 50 i0 (.agg #[.int .i64 0, .int .i64 0, .bool false]) 3 24 Try.underlying23 Hi.out Hz0.out Hz1.out Hz2.out rfl (by decide) _ _ _ rfl (Hown.out.alloc _) ⟨wr.heap.size, 0, none⟩ 1 1 (encE (ent l k)) rfl rfl ?c1 ?c2 ?c3 ?c4 ?c5 ?_)
      case c1 =>
        intro j u hj
        match j, hj with
        | 0, hj => simp [encE] at hj; subst hj; simp [Addr.add]
        | 1, hj => simp [encE] at hj; subst hj; simp [Addr.add]
        | 2, hj => simp [encE] at hj; subst hj; simp [Addr.add]
        | j + 3, hj => simp [encE] at hj
      case c2 => intro u hu; simp [encE] at hu; rcases hu with rfl | rfl | rfl <;> rfl
      case c3 => unfold maxLen; omega
      case c4 => omega
      case c5 => simp; omega
      · intro v' w1 hown' hgrow _
        have hfin : Below w.heap.size w w1 := (hbel.alloc hsz _).grown hgrow (by simp; omega) (fun q hq => (Hown.out.lt q hq).1)
        have ht : (l.take (k + 1)).flatMap encE = (l.take k).flatMap encE ++ encE (ent l k) := by
          rw [List.take_add_one, ent_get hlt]; simp
        have Hown' : Hid (w1.ownsRow w.heap.size 50 3 v' (k + 1) ((l.take (k + 1)).flatMap encE)) := by rw [ht]; exact hown'
        clear hown' hgrow ht
        go_wp2
        go_roundw
        case rel => exact ⟨k + 1, by omega, by go_num, Hown'.out, hfin⟩
        case measure => simp [intOf]; omega
    · obtain rfl : k = l.length := by omega
      go_wp2
      go_ret
      exact ⟨_, rfl, by simpa using Hown.out, hbel⟩

set_option maxHeartbeats 400000 in
theorem from_sl (v : Value) (l : List Ent) (w : World) (hl : l.length ≤ 1000000) (hs : SlE w v l) :
    Calls Try.prog 23 #[v] w fun e w' => ∃ v', e = .returned v' ∧ w'.ownsRow w.heap.size 50 3 v' l.length (l.flatMap encE) ∧ Below w.heap.size w w' := by
  obtain ⟨a, cap, rfl, hc, hh⟩ := hs
  by_cases hl0 : 0 < l.length
  · obtain ⟨b, off, rfl, hlt, he⟩ := hh hl0
    exact from_any b off cap l w hl hlt he
  · have : l = [] := List.length_eq_zero_iff.1 (by omega)
    subst this
    clear hh hl0 hc
    go_enter Try.func23, Try.ntmps23
    go_wp2
    refine wp_loop_once ?_
    go_wp2
    go_ret
    exact ⟨_, rfl, World.ownsRow_nil _ _ _ _, Below.refl _ _⟩


set_option maxHeartbeats 400000 in
theorem esame_sl (v1 v2 : Value) (l : List Ent) (w : World) (hl : l.length ≤ 1000000) (hs1 : SlE w v1 l) (hs2 : SlE w v2 l) :
    Calls Try.prog 22 #[v1, v2] w fun e w' => e = .returned (.bool true) ∧ Below w.heap.size w w' := by
  obtain ⟨a, cap, rfl, hc, hh⟩ := hs1
  obtain ⟨a2, cap2, rfl, hc2, hh2⟩ := hs2
  have Hh := Lib.hid hh; clear hh
  have Hh2 := Lib.hid hh2; clear hh2
  go_enter Try.func22, Try.ntmps22
  go_wp2
  go_loopw [5] (fun i wr => ∃ k : Nat, k ≤ l.length ∧ i = .int .i64 k ∧ Below w.heap.size w wr) (fun i _ => l.length - (intOf i).toNat)
  case atStart => exact ⟨0, Nat.zero_le _, rfl, Below.refl _ _⟩
  case round =>
    obtain ⟨k, hk, rfl, hbel⟩ := hrel
    by_cases hlt : k < l.length
    · obtain ⟨g, o, rfl, hg, hP⟩ := Hh.out (by omega)
      obtain ⟨g2, o2, rfl, hg2, hP2⟩ := Hh2.out (by omega)
      obtain ⟨h0, h1, h2⟩ := (hP.below hbel hg) k hlt
      obtain ⟨q0, q1, q2⟩ := (hP2.below hbel hg2) k hlt
      clear hP hP2
      go_wp2
      refine Txt.wp_txt (by kernel_rfl) (by kernel_rfl) ?_
      go_wp2
      refine Txt.DrawPost.mk0 (by rfl) ?_
      go_wp2
      go_roundw
      case rel => exact ⟨k + 1, by omega, by go_num, hbel.drew⟩
      case measure => simp [intOf]; omega
    · go_wp2
      go_ret
      exact ⟨rfl, hbel⟩
end Go.Proofs.Ytlomhelcphhinaa
