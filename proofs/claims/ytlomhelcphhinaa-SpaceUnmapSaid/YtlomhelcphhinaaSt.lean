/- Space: walks: the reference's without -/
import Derived.Test.YtlomhelcphhinaaSq
namespace Go.Sp
open Go Go.RowKit Go.Bs
def wo (l : List Ent) (page : Int) : List Ent := l.filter (fun z => z.p != page)
theorem wo_step {l : List Ent} {k : Nat} (hk : k < l.length) (page : Int) : wo (l.take (k + 1)) page = if (ent l k).p != page then wo (l.take k) page ++ [ent l k] else wo (l.take k) page := by
  unfold wo
  rw [List.take_add_one, ent_get hk, List.filter_append]
  by_cases h : (ent l k).p != page <;> simp [h]
theorem wo_len (l : List Ent) (page : Int) : (wo l page).length ≤ l.length := List.length_filter_le _ _
end Go.Sp
namespace Go.Proofs.Ytlomhelcphhinaa
open Go.RowKit Go.Bs Go.Sp

set_option maxHeartbeats 400000 in
theorem without_any (b off cap : Nat) (l : List Ent) (page : Int) (w : World) (hl : l.length ≤ 1000000) (hb : b < w.heap.size) (hE : EntsAt w b off l) :
    Calls Try.prog 35 #[.slice (some ⟨b, off, none⟩) l.length cap, .int .i64 page] w fun e w' => ∃ v, e = .returned v ∧ w'.ownsRow w.heap.size 50 3 v (wo l page).length ((wo l page).flatMap encE) ∧ Below w.heap.size w w' := by
  have HE := Lib.hid hE; clear hE
  obtain ⟨i0, hi, hz0, hz1, hz2⟩ := info_parts Try.info50
  have Hi := Lib.hid hi; clear hi
  have Hz0 := Lib.hid hz0; clear hz0
  have Hz1 := Lib.hid hz1; clear hz1
  have Hz2 := Lib.hid hz2; clear hz2
  go_enter Try.func35, Try.ntmps35
  go_wp2
  go_loopw [5, 6] (fun v i wr => ∃ k : Nat, k ≤ l.length ∧ i = .int .i64 k ∧ wr.ownsRow w.heap.size 50 3 v (wo (l.take k) page).length ((wo (l.take k) page).flatMap encE) ∧ Below w.heap.size w wr) (fun _ i _ => l.length - (intOf i).toNat)
  case atStart => exact ⟨0, Nat.zero_le _, rfl, World.ownsRow_nil _ _ _ _, Below.refl _ _⟩
  case round =>
    obtain ⟨k, hk, rfl, hown, hbel⟩ := hrel
    have Hown := Lib.hid hown; clear hown
    obtain ⟨hc, hf⟩ := bcell hbel
    have hsz := hbel.size
    by_cases hlt : k < l.length
    · obtain ⟨h0, h1, h2⟩ := HE.out k hlt
      have hst := wo_step hlt page
      have hwl : (wo (l.take k) page).length ≤ k := Nat.le_trans (wo_len _ _) (by simp; omega)
      cases hne : ((ent l k).p != page)
      · rw [hne] at hst
        simp only [Bool.false_eq_true, if_false] at hst
        have Hst := Lib.hid hst; clear hst
        go_wp2
        go_roundw
        case rel => exact ⟨k + 1, by omega, by go_num, by rw [Hst.out]; exact Hown.out, hbel⟩
        case measure => simp [intOf]; omega
      · rw [hne] at hst
        simp only [if_true] at hst
        have Hst := Lib.hid hst; clear hst
        go_wp2_with (at_builtin; refine wpList_append_own _ rfl _ _ 23 rfl w.heap.size 50 i0 (.agg #[.int .i64 0, .int .i64 0, .bool false]) 3 24 Try.underlying23 Hi.out Hz0.out Hz1.out Hz2.out rfl (by decide) _ _ _ rfl (Hown.out.alloc _) ⟨wr.heap.size, 0, none⟩ 1 1 (encE (ent l k)) rfl rfl ?c1 ?c2 ?c3 ?c4 ?c5 ?_)
        case c1 =>
          intro j u hj
          match j, hj with
          | 0, hj => simp [encE] at hj; subst hj; simp [Addr.add]
          | 1, hj => simp [encE] at hj; subst hj; simp [Addr.add]
          | 2, hj => simp [encE] at hj; subst hj; simp [Addr.add]
          | j + 3, hj => simp [encE] at hj
        case c2 => intro u hu; simp [encE] at hu; rcases hu with rfl | rfl | rfl <;> rfl
        case c3 => unfold maxLen; omega
        case c4 => omega
        case c5 => simp; omega
        · intro v' w1 hown' hgrow _
          have hfin : Below w.heap.size w w1 := (hbel.alloc hsz _).grown hgrow (by simp; omega) (fun q hq => (Hown.out.lt q hq).1)
          have Hown' : Hid (w1.ownsRow w.heap.size 50 3 v' (wo (l.take (k + 1)) page).length ((wo (l.take (k + 1)) page).flatMap encE)) := by
            rw [Hst.out]
            have h := hown'
            rw [List.flatMap_append, List.length_append]
            exact Lib.hid (by simpa using h)
          clear hown' hgrow
          go_wp2
          go_roundw
          case rel => exact ⟨k + 1, by omega, by go_num, Hown'.out, hfin⟩
          case measure => simp [intOf]; omega
    · obtain rfl : k = l.length := by omega
      go_wp2
      go_ret
      exact ⟨_, rfl, by simpa using Hown.out, hbel⟩

set_option maxHeartbeats 400000 in
theorem without_sl (v : Value) (l : List Ent) (page : Int) (w : World) (hl : l.length ≤ 1000000) (hs : SlE w v l) :
    Calls Try.prog 35 #[v, .int .i64 page] w fun e w' => ∃ v', e = .returned v' ∧ w'.ownsRow w.heap.size 50 3 v' (wo l page).length ((wo l page).flatMap encE) ∧ Below w.heap.size w w' := by
  obtain ⟨a, cap, rfl, hc, hh⟩ := hs
  by_cases hl0 : 0 < l.length
  · obtain ⟨b, off, rfl, hlt, he⟩ := hh hl0
    exact without_any b off cap l page w hl hlt he
  · have : l = [] := List.length_eq_zero_iff.1 (by omega)
    subst this
    clear hh hl0 hc
    go_enter Try.func35, Try.ntmps35
    go_wp2
    refine wp_loop_once ?_
    go_wp2
    go_ret
    exact ⟨_, rfl, World.ownsRow_nil _ _ _ _, Below.refl _ _⟩
end Go.Proofs.Ytlomhelcphhinaa
