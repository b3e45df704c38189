/- Space: walks: own, Join, SamePieces -/
import Derived.Test.YtlomhelcphhinaaSf
import Derived.Test.YtlomhelcphhinaaSi
import Derived.Test.YtlomhelcphhinaaMl
namespace Go.Proofs.Ytlomhelcphhinaa
open Go.RowKit Go.Bs Go.Sp

theorem Try.info71 : (Try.prog.info? 71).map (fun i => (i.zero, i.size, i.bytes)) = some (some (.agg #[.int .i64 0, .int .i64 0, .int .i64 0, .int .i64 0]), 4, 32) := by kernel_rfl

set_option maxHeartbeats 400000 in
theorem own_sl (v : Value) (l : List Pc) (w : World) (hl : l.length ≤ 1000000) (hs : SlP w v l) :
    Calls Try.prog 15 #[v] w fun e w' => ∃ v', e = .returned v' ∧ w'.ownsRow w.heap.size 71 4 v' l.length (l.flatMap encP) ∧ Below w.heap.size w w' := by
  obtain ⟨a, cap, rfl, hc, hh⟩ := hs
  have Hh := Lib.hid hh; clear hh
  obtain ⟨i0, hi, hz0, hz1, hz2⟩ := info_parts Try.info71
  have Hi := Lib.hid hi; clear hi
  have Hz0 := Lib.hid hz0; clear hz0
  have Hz1 := Lib.hid hz1; clear hz1
  have Hz2 := Lib.hid hz2; clear hz2
  go_enter Try.func15, Try.ntmps15
  go_wp2
  go_loopw [3, 7] (fun v i wr => ∃ k : Nat, k ≤ l.length ∧ i = .int .i64 k ∧ wr.ownsRow w.heap.size 71 4 v k ((l.take k).flatMap encP) ∧ Below w.heap.size w wr) (fun _ i _ => l.length - (intOf i).toNat)
  case atStart => exact ⟨0, Nat.zero_le _, rfl, World.ownsRow_nil _ _ _ _, Below.refl _ _⟩
  case round =>
    obtain ⟨k, hk, rfl, hown, hbel⟩ := hrel
    have Hown := Lib.hid hown; clear hown
    have hsz := hbel.size
    by_cases hlt : k < l.length
    · obtain ⟨g, rfl, hg, hP⟩ := Hh.out (by omega)
      obtain ⟨h0, h1, h2, h3⟩ := (hP.below hbel hg) k hlt
      clear hP
      go_wp2_with (at_builtin; refine wpList_append_own _ rfl _ _ 41 rfl w.heap.size 71 i0 (.agg #[.int .i64 0, .int .i64 0, .int .i64 0, .int .i64 0]) 4 32 Try.underlying41 Hi.out Hz0.out Hz1.out Hz2.out rfl (by decide) _ _ _ rfl (Hown.out.alloc _) ⟨wr.heap.size, 0, none⟩ 1 1 (encP (pc l k)) rfl rfl ?c1 ?c2 ?c3 ?c4 ?c5 ?_)
      case c1 =>
        intro j u hj
        match j, hj with
        | 0, hj => simp [encP] at hj; subst hj; simp [Addr.add]
        | 1, hj => simp [encP] at hj; subst hj; simp [Addr.add]
        | 2, hj => simp [encP] at hj; subst hj; simp [Addr.add]
        | 3, hj => simp [encP] at hj; subst hj; simp [Addr.add]
        | j + 4, hj => simp [encP] at hj
      case c2 => intro u hu; simp [encP] at hu; rcases hu with rfl | rfl | rfl | rfl <;> rfl
      case c3 => unfold maxLen; omega
      case c4 => omega
      case c5 => simp; omega
      · intro v' w1 hown' hgrow _
        have hfin : Below w.heap.size w w1 := (hbel.alloc hsz _).grown hgrow (by simp; omega) (fun q hq => (Hown.out.lt q hq).1)
        have ht : (l.take (k + 1)).flatMap encP = (l.take k).flatMap encP ++ encP (pc l k) := by
          rw [List.take_add_one, pc_get hlt]; simp
        have Hown' : Hid (w1.ownsRow w.heap.size 71 4 v' (k + 1) ((l.take (k + 1)).flatMap encP)) := by rw [ht]; exact hown'
        clear hown' hgrow ht
        go_wp2
        go_roundw
        case rel => exact ⟨k + 1, by omega, by go_num, Hown'.out, hfin⟩
        case measure => simp [intOf]; omega
    · obtain rfl : k = l.length := by omega
      go_wp2
      go_ret
      exact ⟨_, rfl, by simpa using Hown.out, hbel⟩

set_option maxRecDepth 100000 in
set_option maxHeartbeats 400000 in
theorem same_sl (v1 v2 : Value) (l : List Pc) (w : World) (hl : l.length ≤ 1000000) (hs1 : SlP w v1 l) (hs2 : SlP w v2 l) :
    Calls Try.prog 14 #[v1, v2] w fun e w' => e = .returned (.bool true) ∧ Below w.heap.size w w' := by
  obtain ⟨a, cap, rfl, hc, hh⟩ := hs1
  obtain ⟨a2, cap2, rfl, hc2, hh2⟩ := hs2
  have Hh := Lib.hid hh; clear hh
  have Hh2 := Lib.hid hh2; clear hh2
  go_enter Try.func14, Try.ntmps14
  go_wp2
  go_loopw [5] (fun i wr => ∃ k : Nat, k ≤ l.length ∧ i = .int .i64 k ∧ Below w.heap.size w wr) (fun i _ => l.length - (intOf i).toNat)
  case atStart => exact ⟨0, Nat.zero_le _, rfl, Below.refl _ _⟩
  case round =>
    obtain ⟨k, hk, rfl, hbel⟩ := hrel
    by_cases hlt : k < l.length
    · obtain ⟨g, rfl, hg, hP⟩ := Hh.out (by omega)
      obtain ⟨g2, rfl, hg2, hP2⟩ := Hh2.out (by omega)
      obtain ⟨h0, h1, h2, h3⟩ := (hP.below hbel hg) k hlt
      obtain ⟨q0, q1, q2, q3⟩ := (hP2.below hbel hg2) k hlt
      clear hP hP2
      go_wp2
      refine Txt.wp_txt (by kernel_rfl) (by kernel_rfl) ?_
      go_wp2
      refine Txt.DrawPost.mk0 (by rfl) ?_
      go_wp2
      go_roundw
      case rel => exact ⟨k + 1, by omega, by go_num, hbel.drew⟩
      case measure => simp [intOf]; omega
    · go_wp2
      go_ret
      exact ⟨rfl, hbel⟩
end Go.Proofs.Ytlomhelcphhinaa
