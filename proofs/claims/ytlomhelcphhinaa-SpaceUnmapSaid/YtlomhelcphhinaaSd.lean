/- Space: walks: to, Pieces -/
import Derived.Test.YtlomhelcphhinaaSc
namespace Go.Proofs.Ytlomhelcphhinaa
open Go.RowKit Go.Bs Go.Sp

theorem Try.info53 : (Try.prog.info? 53).map (fun i => (i.zero, i.size, i.bytes)) = some (some (.agg #[.int .i64 0, .int .i64 0, .bool false]), 3, 24) := by kernel_rfl
theorem Try.info35 : (Try.prog.info? 35).map (fun i => (i.zero, i.size, i.bytes)) = some (some (.agg #[.int .i64 0, .int .i64 0, .int .i64 0, .int .i64 0]), 4, 32) := by kernel_rfl

theorem flat_snoc {α : Type} (enc : α → List Value) (l : List α) (x : α) : (l ++ [x]).flatMap enc = l.flatMap enc ++ enc x := by simp

set_option maxHeartbeats 400000 in
theorem to_any (b off cap : Nat) (l : List Ent) (w : World) (hl : l.length ≤ 1000000) (hb : b < w.heap.size) (hE : EntsAt w b off l) :
    Calls Try.prog 12 #[.slice (some ⟨b, off, none⟩) l.length cap] w fun e w' => ∃ v, e = .returned v ∧ w'.ownsRow w.heap.size 53 3 v l.length (l.flatMap encE) ∧ Below w.heap.size w w' := by
  have HE := Lib.hid hE; clear hE
  obtain ⟨i0, hi, hz0, hz1, hz2⟩ := info_parts Try.info53
  have Hi := Lib.hid hi; clear hi
  have Hz0 := Lib.hid hz0; clear hz0
  have Hz1 := Lib.hid hz1; clear hz1
  have Hz2 := Lib.hid hz2; clear hz2
  go_enter Try.func12, Try.ntmps12
  go_wp2
  go_loopw [3, 7] (fun v i wr => ∃ k : Nat, k ≤ l.length ∧ i = .int .i64 k ∧ wr.ownsRow w.heap.size 53 3 v k ((l.take k).flatMap encE) ∧ Below w.heap.size w wr) (fun _ i _ => l.length - (intOf i).toNat)
  case atStart => exact ⟨0, Nat.zero_le _, rfl, World.ownsRow_nil _ _ _ _, Below.refl _ _⟩
  case round =>
    obtain ⟨k, hk, rfl, hown, hbel⟩ := hrel
    have Hown := Lib.hid hown; clear hown
    obtain ⟨hc, hf⟩ := bcell hbel
    have hsz := hbel.size
    by_cases hlt : k < l.length
    · obtain ⟨h0, h1, h2⟩ := HE.out k hlt
      go_wp2_with (at_builtin; refine wpList_append_own _ rfl _ _ 32 rfl w.heap.size 53 i0 (.agg #[.int .i64 0, .int .i64 0, .bool false]) 3 24 Try.underlying32 Hi.out Hz0.out Hz1.out Hz2.out rfl (by decide) _ _ _ rfl (Hown.out.alloc _) ⟨wr.heap.size, 0, none⟩ 1 1 (encE (ent l k)) rfl rfl ?c1 ?c2 ?c3 ?c4 ?c5 ?_)
      case c1 =>
        intro j u hj
        match j, hj with
        | 0, hj => simp [encE] at hj; subst hj; simp [Addr.add]
        | 1, hj => simp [encE] at hj; subst hj; simp [Addr.add]
        | 2, hj => simp [encE] at hj; subst hj; simp [Addr.add]
        | j + 3, hj => simp [encE] at hj
      case c2 => intro u hu; simp [encE] at hu; rcases hu with rfl | rfl | rfl <;> rfl
      case c3 => unfold maxLen; omega
      case c4 => omega
      case c5 => simp; omega
      · intro v' w1 hown' hgrow _
        have hfin : Below w.heap.size w w1 := (hbel.alloc hsz _).grown hgrow (by simp; omega) (fun q hq => (Hown.out.lt q hq).1)
        have ht : (l.take (k + 1)).flatMap encE = (l.take k).flatMap encE ++ encE (ent l k) := by
          rw [List.take_add_one, ent_get hlt]; simp
        have Hown' : Hid (w1.ownsRow w.heap.size 53 3 v' (k + 1) ((l.take (k + 1)).flatMap encE)) := by rw [ht]; exact hown'
        clear hown' hgrow ht
        go_wp2
        go_roundw
        case rel => exact ⟨k + 1, by omega, by go_num, Hown'.out, hfin⟩
        case measure => simp [intOf]; omega
    · obtain rfl : k = l.length := by omega
      go_wp2
      go_ret
      exact ⟨_, rfl, by simpa using Hown.out, hbel⟩

set_option maxHeartbeats 400000 in
theorem to_sl (v : Value) (l : List Ent) (w : World) (hl : l.length ≤ 1000000) (hs : SlE w v l) :
    Calls Try.prog 12 #[v] w fun e w' => ∃ v', e = .returned v' ∧ w'.ownsRow w.heap.size 53 3 v' l.length (l.flatMap encE) ∧ Below w.heap.size w w' := by
  obtain ⟨a, cap, rfl, hc, hh⟩ := hs
  by_cases hl0 : 0 < l.length
  · obtain ⟨b, off, rfl, hlt, he⟩ := hh hl0
    exact to_any b off cap l w hl hlt he
  · have : l = [] := List.length_eq_zero_iff.1 (by omega)
    subst this
    clear hh hl0 hc
    go_enter Try.func12, Try.ntmps12
    go_wp2
    refine wp_loop_once ?_
    go_wp2
    go_ret
    exact ⟨_, rfl, World.ownsRow_nil _ _ _ _, Below.refl _ _⟩

theorem pieces_inv {l : List Ent} {a n : Int} {wr : Bool} (h : validB l = false) : pieces l a n wr = ([], 0, 1) := by simp [pieces, h]
theorem pieces_rng {l : List Ent} {a n : Int} {wr : Bool} (h : validB l = true) (h2 : a < 0 ∨ n < 0 ∨ 4096 < a ∨ 4096 - a < n) : pieces l a n wr = ([], 0, 2) := by
  unfold pieces; rw [if_pos h, if_pos]; simp; omega
theorem pieces_ok {l : List Ent} {a n : Int} {wr : Bool} (h : validB l = true) (h1 : 0 ≤ a) (h2 : 0 ≤ n) (h3 : a ≤ 4096) (h4 : n ≤ 4096 - a) : pieces l a n wr = pcs l wr n.toNat a n [] := by
  unfold pieces; rw [if_pos h, if_neg]; simp; omega
/-- what Pieces hands back -/
def RetP (r : List Pc × Int × Int) (w : World) (e : Ending) (w' : World) : Prop :=
  ∃ v, e = .returned (.tuple #[v, .int .i64 r.2.1, .int .i64 r.2.2]) ∧ w'.ownsRow w.heap.size 35 4 v r.1.length (r.1.flatMap encP) ∧ Below w.heap.size w w'
theorem RetP.nil {p e : Int} {w w' : World} (hb : Below w.heap.size w w') : RetP ([], p, e) w (.returned (.tuple #[.slice none 0 0, .int .i64 p, .int .i64 e])) w' :=
  ⟨_, rfl, World.ownsRow_nil _ _ _ _, hb⟩

set_option maxRecDepth 100000 in
set_option maxHeartbeats 800000 in
theorem pieces_sl (v : Value) (l : List Ent) (a n : Int) (wb : Bool) (w : World) (hl : l.length ≤ 1000000) (hs : SlE w v l) :
    Calls Try.prog 11 #[v, .int .i64 a, .int .i64 n, .bool wb] w (RetP (pieces l a n wb) w) := by
  have Hs := Lib.hid hs; clear hs
  cases hv : validB l
  · rw [pieces_inv hv]
    have Hv := Lib.hid hv; clear hv
    go_enter Try.func11, Try.ntmps11
    go_wp2_with (go_at_call 19; refine (valid_eq Hs.out hl Hv.out).mono ?_; rintro e w1 ⟨rfl, hb1⟩)
    go_ret3
    exact RetP.nil hb1
  · by_cases hr : a < 0 ∨ n < 0 ∨ 4096 < a ∨ 4096 - a < n
    · rw [pieces_rng hv hr]
      have Hv := Lib.hid hv; clear hv
      have Hr := Lib.hid hr; clear hr
      go_enter Try.func11, Try.ntmps11
      go_wp2_with (go_at_call 19; refine (valid_eq Hs.out hl Hv.out).mono ?_; rintro e w1 ⟨rfl, hb1⟩)
      all_goals first
        | (go_ret3; exact RetP.nil hb1)
        | (exfalso; have := Hr.out; omega)
    · have h1 : 0 ≤ a := by omega
      have h2 : 0 ≤ n := by omega
      have h3 : a ≤ 4096 := by omega
      have h4 : n ≤ 4096 - a := by omega
      rw [pieces_ok hv h1 h2 h3 h4]
      clear hr
      have Hv := Lib.hid hv; clear hv
      obtain ⟨R, hR⟩ : ∃ R, R = pcs l wb n.toNat a n [] := ⟨_, rfl⟩
      rw [← hR]
      have HR := Lib.hid hR; clear hR
      obtain ⟨i0, hi, hz0, hz1, hz2⟩ := info_parts Try.info35
      have Hi := Lib.hid hi; clear hi
      have Hz0 := Lib.hid hz0; clear hz0
      have Hz1 := Lib.hid hz1; clear hz1
      have Hz2 := Lib.hid hz2; clear hz2
      go_enter Try.func11, Try.ntmps11
      go_wp2_with (go_at_call 19; refine (valid_eq Hs.out hl Hv.out).mono ?_; rintro e w1 ⟨rfl, hb1⟩)
      go_loopw [1, 2, 8] (fun aa nn vv wv => ∃ (fuel : Nat) (a' n' : Int) (acc : List Pc), 0 ≤ a' ∧ 0 ≤ n' ∧ n' ≤ fuel ∧ a' + n' ≤ 4096 ∧ acc.length ≤ a' ∧ aa = .int .i64 a' ∧ nn = .int .i64 n' ∧ wv.ownsRow w.heap.size 35 4 vv acc.length (acc.flatMap encP) ∧ Below w.heap.size w wv ∧ Hid (R = pcs l wb fuel a' n' acc)) (fun _ nn _ _ => (intOf nn).toNat)
      case atStart => exact ⟨n.toNat, a, n, [], h1, h2, by omega, by omega, by simp; omega, rfl, rfl, World.ownsRow_nil _ _ _ _, hb1, HR⟩
      case round =>
        obtain ⟨fuel, a', n', acc, q1, q2, q3, q4, q5, rfl, rfl, hown, hbel, HR'⟩ := hrel
        have Hown := Lib.hid hown; clear hown
        have hsz := hbel.size
        clear h1 h2 h3 h4
        by_cases hn0 : n' ≤ 0
        · have hfin : R = (acc, 0, 0) := by
            rw [HR'.out]
            cases fuel with
            | zero => rfl
            | succ f => rw [pcs, if_pos hn0]
          have Hfin := Lib.hid hfin; clear hfin
          go_wp2
          go_ret3
          rw [Hfin.out]
          exact ⟨_, rfl, Hown.out, hbel⟩
        · obtain ⟨f, rfl⟩ : ∃ f, fuel = f + 1 := ⟨fuel - 1, by omega⟩
          obtain ⟨fr, er, htl⟩ : ∃ fr er, tlate l (a' / 128) wb = (fr, er) := ⟨_, _, rfl⟩
          have hstep : R = if er ≠ 0 then ([], a' / 128, er) else pcs l wb f (a' + chunk a' n') (n' - chunk a' n') (acc ++ [⟨a' / 128, fr, a' % 128, chunk a' n'⟩]) := by
            rw [HR'.out, pcs, if_neg hn0, htl]
          have hc0 : 1 ≤ chunk a' n' ∧ chunk a' n' ≤ n' ∧ chunk a' n' ≤ 128 := by unfold chunk; split <;> omega
          have Hstep := Lib.hid hstep; clear hstep
          have Htl := Lib.hid htl; clear htl
          go_wp2_with fail
          refine (translate_sl v l (a' / 128) wb wr hl (Hs.out.below hbel) (by omega) (by omega)).mono ?_
          rintro e w2 ⟨rfl, hb2⟩
          rw [Htl.out]
          have hbel2 := hbel.trans (hb2.mono hsz)
          have Hown2 := Lib.hid (own_below Hown.out hb2 (Nat.le_refl _))
          by_cases her : er = 0
          · subst her
            rw [if_neg (by simp)] at Hstep
            have hsz2 := hbel2.size
            by_cases hmin : 128 - a' % 128 < n'
            all_goals
              have hck : chunk a' n' = if 128 - a' % 128 < n' then 128 - a' % 128 else n' := rfl
              simp only [hmin, if_true, if_false] at hck
              have Hck := Lib.hid hck; clear hck
              go_wp2_with (at_builtin; refine wpList_append_own _ rfl _ _ 27 rfl w.heap.size 35 i0 (.agg #[.int .i64 0, .int .i64 0, .int .i64 0, .int .i64 0]) 4 32 Try.underlying27 Hi.out Hz0.out Hz1.out Hz2.out rfl (by decide) _ _ _ rfl (Hown2.out.alloc _) ⟨w2.heap.size, 0, none⟩ 1 1 (encP ⟨a' / 128, fr, a' % 128, chunk a' n'⟩) rfl rfl ?c1 ?c2 ?c3 ?c4 ?c5 ?_)
              case c1 =>
                rw [Hck.out]
                intro j u hj
                match j, hj with
                | 0, hj => simp [encP] at hj; subst hj; simp [Addr.add]
                | 1, hj => simp [encP] at hj; subst hj; simp [Addr.add]
                | 2, hj => simp [encP] at hj; subst hj; simp [Addr.add]
                | 3, hj => simp [encP] at hj; subst hj; simp [Addr.add]
                | j + 4, hj => simp [encP] at hj
              case c2 => intro u hu; simp [encP] at hu; rcases hu with rfl | rfl | rfl | rfl <;> rfl
              case c3 => unfold maxLen; omega
              case c4 => omega
              case c5 => simp; omega
              · intro v' w3 hown' hgrow _
                have hfin : Below w.heap.size w w3 := (hbel2.alloc hsz2 _).grown hgrow (by simp; omega) (fun q hq => (Hown2.out.lt q hq).1)
                have hown2 : w3.ownsRow w.heap.size 35 4 v' (acc ++ [(⟨a' / 128, fr, a' % 128, chunk a' n'⟩ : Pc)]).length ((acc ++ [(⟨a' / 128, fr, a' % 128, chunk a' n'⟩ : Pc)]).flatMap encP) := by
                  simpa using hown'
                have Hown' := Lib.hid hown2; clear hown2
                clear hown' hgrow
                go_wp2
                go_roundw
                case rel =>
                  refine ⟨f, _, _, _, ?_, ?_, ?_, ?_, ?_, ?_, ?_, Hown'.out, hfin, Hstep⟩
                  all_goals (try rw [Hck.out])
                  all_goals first | omega | (simp; omega) | go_num
                case measure => simp [intOf]; omega
          · have her' : (er == 0) = false := by simpa using her
            go_wp2_with fail
            go_ret3
            rw [Hstep.out, if_pos her]
            exact RetP.nil hbel2
end Go.Proofs.Ytlomhelcphhinaa
