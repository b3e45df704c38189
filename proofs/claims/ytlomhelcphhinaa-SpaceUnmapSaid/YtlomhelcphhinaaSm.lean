/- Space: walks: Clone, Protect -/
import Derived.Test.YtlomhelcphhinaaSd
import Derived.Test.YtlomhelcphhinaaCl
namespace Go.Sp
open Go Go.RowKit Go.Bs Go.Cl
theorem EntsAt.cells {w : World} {b off : Nat} {l : List Ent} (h : EntsAt w b off l) (j : Nat) (u : Value) (hj : (l.flatMap encE)[j]? = some u) : w.cell? ((⟨b, off, none⟩ : Addr).add j) = some u := by
  obtain ⟨x, hx, hu, hd, hm, he⟩ := flat_cell encE encE_len (by omega) hj
  have hxe : x = ent l (j / 3) := by have := ent_get hd; rw [hx] at this; exact Option.some.inj this
  have ha : (⟨b, off, none⟩ : Addr).add j = ⟨b, off + j, none⟩ := Addr.add_lit ..
  obtain ⟨h0, h1, h2⟩ := h (j / 3) hd
  rw [ha]
  have hr : j % 3 = 0 ∨ j % 3 = 1 ∨ j % 3 = 2 := by omega
  rcases hr with hr | hr | hr
  · rw [hr] at hu; simp [encE] at hu
    rw [show off + j = off + j / 3 * 3 by omega, h0, ← hxe, hu]
  · rw [hr] at hu; simp [encE] at hu
    rw [show off + j = off + j / 3 * 3 + 1 by omega, h1, ← hxe, hu]
  · rw [hr] at hu; simp [encE] at hu
    rw [show off + j = off + j / 3 * 3 + 2 by omega, h2, ← hxe, hu]
theorem encE_one (l : List Ent) : ∀ u ∈ l.flatMap encE, u.oneCell' = true := by
  intro u hu
  obtain ⟨x, _, h⟩ := List.mem_flatMap.1 hu
  simp [encE] at h
  rcases h with rfl | rfl | rfl <;> rfl
/-- an entry that may not be written -/
def Ent.ro (x : Ent) : Ent := ⟨x.p, x.f, false⟩
def prot (l : List Ent) : List Ent := l.map Ent.ro
def protTo (l : List Ent) (k : Nat) : List Ent := prot (l.take k) ++ l.drop k
theorem protTo_len (l : List Ent) (k : Nat) : (protTo l k).length = l.length := by simp [protTo, prot]; omega
theorem protTo_step {l : List Ent} {k : Nat} (hk : k < l.length) : ((protTo l k).flatMap encE).set (k * 3 + 2) (.bool false) = (protTo l (k + 1)).flatMap encE := by
  have hl : (prot (l.take k)).length = k := by simp [prot]; omega
  have hget : (protTo l k)[k]? = some (ent l k) := by
    unfold protTo
    rw [List.getElem?_append_right (by omega), hl, Nat.sub_self, List.getElem?_drop, Nat.add_zero, ent_get hk]
  rw [flat_set encE encE_len _ k 2 (ent l k) (ent l k).ro (.bool false) hget (by omega) rfl]
  congr 1
  unfold protTo
  rw [List.set_append_right _ _ (by omega), hl, Nat.sub_self, List.take_add_one, ent_get hk]
  have hd : l.drop k = ent l k :: l.drop (k + 1) := by
    rw [List.drop_eq_getElem_cons hk]
    have := ent_get hk
    rw [List.getElem?_eq_getElem hk] at this
    rw [Option.some.inj this]
  rw [hd]
  simp [prot]
theorem protTo_all (l : List Ent) : protTo l l.length = prot l := by simp [protTo]
theorem protTo_zero (l : List Ent) : protTo l 0 = l := by simp [protTo, prot]
end Go.Sp
namespace Go.Proofs.Ytlomhelcphhinaa
open Go.RowKit Go.Bs Go.Sp Go.Cl

set_option maxHeartbeats 400000 in
theorem clone_sl (v : Value) (l : List Ent) (w : World) (hl : l.length ≤ 1000000) (hs : SlE w v l) :
    Calls Try.prog 32 #[v] w fun e w' => ∃ v', e = .returned v' ∧ w'.ownsRow w.heap.size 53 3 v' l.length (l.flatMap encE) ∧ Below w.heap.size w w' := by
  obtain ⟨a, cap, rfl, hc, hh⟩ := hs
  obtain ⟨i0, hi, hz0, hz1, hz2⟩ := info_parts Try.info53
  have Hi := Lib.hid hi; clear hi
  have Hz0 := Lib.hid hz0; clear hz0
  have Hz1 := Lib.hid hz1; clear hz1
  have Hz2 := Lib.hid hz2; clear hz2
  have Hh := Lib.hid hh; clear hh
  have q32 : ∀ (w : World) (a : Option Addr) (n c n' c' : Nat), (binOp .eql 32 (.slice a n c) (.slice none n' c')).run Try.prog w = .ok (.bool a.isNone) w := fun w a n c n' c' => Lib.run_eql_slice_nil w _ _ a n c n' c' Try.underlying32
  cases a with
  | none =>
    have h0 : l = [] := by
      by_cases h : 0 < l.length
      · obtain ⟨_, _, h', _⟩ := Hh.out h; cases h'
      · exact List.length_eq_zero_iff.1 (by omega)
    subst h0
    go_enter Try.func32, Try.ntmps32
    go_wp2
    go_ret
    exact ⟨_, rfl, World.ownsRow_nil _ _ _ _, Below.refl _ _⟩
  | some ad =>
    have Hn := Lib.hid (show 0 < l.length → ∃ a', (some ad) = some a' ∧ ∀ j u, (l.flatMap encE)[j]? = some u → (w.alloc (.cells #[] 53)).cell? (a'.add j) = some u from fun h => by
      obtain ⟨b, off, hb, hlt, he⟩ := Hh.out h
      exact ⟨_, hb, EntsAt.cells (he.below ((Below.refl w.heap.size w).alloc (Nat.le_refl _) _) hlt)⟩)
    have Hone := Lib.hid (encE_one l)
    have Hlen := Lib.hid (flat_length encE encE_len l)
    have Hemp := Lib.hid (own_empty w w.heap.size 53 3 (Nat.le_refl _))
    go_enter Try.func32, Try.ntmps32
    go_wp2_with (at_builtin; refine Ml.wpList_append_own2 _ rfl _ _ 32 32 rfl w.heap.size 53 i0 (.agg #[.int .i64 0, .int .i64 0, .bool false]) 3 24 Try.underlying32 Try.underlying32 Hi.out Hz0.out Hz1.out Hz2.out rfl _ 0 [] rfl Hemp.out (some ad) l.length cap (l.flatMap encE) rfl Hlen.out Hn.out Hone.out ?c3 ?c4 ?c5 ?_)
    case c3 => unfold maxLen; omega
    case c4 => omega
    case c5 => simp
    · intro v' w1 hown hgrow
      have hfin : Below w.heap.size w w1 := ((Below.refl w.heap.size w).alloc (Nat.le_refl _) _).grown hgrow (by simp) (fun q hq => by simp [Value.ownBlock] at hq; omega)
      have hown' : w1.ownsRow w.heap.size 53 3 v' l.length (l.flatMap encE) := by simpa using hown
      have Hown := Lib.hid hown'; clear hown hown' hgrow
      go_wp2
      go_ret
      exact ⟨_, rfl, Hown.out, hfin⟩

set_option maxHeartbeats 400000 in
theorem protect_sl (v : Value) (l : List Ent) (w : World) (hl : l.length ≤ 1000000) (hs : SlE w v l) :
    Calls Try.prog 18 #[v] w fun e w' => ∃ v', e = .returned v' ∧ w'.ownsRow w.heap.size 53 3 v' l.length ((prot l).flatMap encE) ∧ Below w.heap.size w w' := by
  have Hs := Lib.hid hs; clear hs
  go_enter Try.func18, Try.ntmps18
  go_wp2_with fail
  refine (clone_sl v l _ hl Hs.out).mono ?_
  rintro e w1 ⟨v', rfl, hown, hb1⟩
  rcases own_cases hown with ⟨rfl, h0, _⟩ | ⟨g, cap, rfl, hg1, hg2, hnc⟩
  · have : l = [] := List.length_eq_zero_iff.1 h0
    subst this
    go_wp2
    refine wp_loop_once ?_
    go_wp2
    go_ret
    exact ⟨_, rfl, World.ownsRow_nil _ _ _ _, hb1⟩
  · have hown : w1.ownsRow w.heap.size 53 3 (.slice (some ⟨g, 0, none⟩) l.length cap) l.length ((protTo l 0).flatMap encE) := by rw [protTo_zero]; exact hown
    have Hown1 := Lib.hid hown; clear hown
    go_wp2
    go_loopw [9] (fun i wr => ∃ k : Nat, k ≤ l.length ∧ i = .int .i64 k ∧ wr.ownsRow w.heap.size 53 3 (.slice (some ⟨g, 0, none⟩) l.length cap) l.length ((protTo l k).flatMap encE) ∧ Below w.heap.size w wr) (fun i _ => l.length - (intOf i).toNat)
    case atStart => exact ⟨0, Nat.zero_le _, rfl, Hown1.out, hb1⟩
    case round =>
      obtain ⟨k, hk, rfl, hown, hbel⟩ := hrel
      by_cases hlt : k < l.length
      · have hlen : ((protTo l k).flatMap encE).length = l.length * 3 := by rw [flat_length encE encE_len, protTo_len]
        obtain ⟨u, hu⟩ : ∃ u, ((protTo l k).flatMap encE)[k * 3 + 2]? = some u := ⟨_, List.getElem?_eq_getElem (by omega)⟩
        have hcell := own_cell hown rfl hu
        have hfz := own_frozen hown (k * 3 + 2)
        have hset := own_set hown (j := k * 3 + 2) (u := .bool false) (by omega)
        rw [protTo_step hlt] at hset
        have Hset := Lib.hid hset; clear hset
        have hbel2 := below_set hbel hg1 (j := k * 3 + 2) (.bool false)
        clear hown hu hlen
        go_wp2
        go_roundw
        case rel => exact ⟨k + 1, by omega, by go_num, Hset.out, hbel2⟩
        case measure => simp [intOf]; omega
      · obtain rfl : k = l.length := by omega
        rw [protTo_all] at hown
        have Hown := Lib.hid hown; clear hown
        go_wp2
        go_ret
        exact ⟨_, rfl, Hown.out, hbel⟩

/-! the reference's Valid -/
set_option maxHeartbeats 400000 in
theorem rpage_any (p : Int) (w : World) :
    Calls Try.prog 42 #[.int .i64 p] w fun e w' => e = .returned (.bool (decide (0 ≤ p) && decide (p < 32))) ∧ Below w.heap.size w w' := by
  go_enter Try.func42, Try.ntmps42
  go_wp2
  all_goals
    go_ret
    refine ⟨by congr 2; simp [*]; try omega, Below.refl _ _⟩

set_option maxHeartbeats 400000 in
theorem rproper_any (p f : Int) (wr : Bool) (w : World) :
    Calls Try.prog 31 #[.agg #[.int .i64 p, .int .i64 f, .bool wr]] w fun e w' => e = .returned (.bool (properB p f)) ∧ Below w.heap.size w w' := by
  go_enter Try.func31, Try.ntmps31
  go_wp2_with (go_at_call 42; refine (rpage_any _ _).mono ?_; rintro e w1 ⟨rfl, hb1⟩; obtain ⟨hc1, hf1⟩ := bcellN (N := w.heap.size + 1) hb1 (by simp))
  all_goals
    go_ret
    refine ⟨?_, ((Below.refl _ _).alloc (Nat.le_refl _) _).trans (hb1.mono (by simp))⟩
    unfold properB; congr 2; simp [*]; try omega

set_option maxHeartbeats 400000 in
theorem rvalid_any (b off cap : Nat) (l : List Ent) (w : World) (hl : l.length ≤ 1000000) (hb : b < w.heap.size) (hE : EntsAt w b off l) :
    Calls Try.prog 17 #[.slice (some ⟨b, off, none⟩) l.length cap] w fun e w' => e = .returned (.bool (validB l)) ∧ Below w.heap.size w w' := by
  have HE := Lib.hid hE; clear hE
  go_enter Try.func17, Try.ntmps17
  go_wp2
  go_loopw [3] (fun i wr => ∃ k : Nat, k ≤ l.length ∧ i = .int .i64 k ∧ Below w.heap.size w wr ∧ ∀ j, j < k → okAt l j = true) (fun i _ => l.length - (intOf i).toNat)
  case atStart => exact ⟨0, Nat.zero_le _, rfl, Below.refl _ _, fun j hj => absurd hj (Nat.not_lt_zero _)⟩
  case round =>
    obtain ⟨k, hk, rfl, hbel, hok⟩ := hrel
    have Hok := Lib.hid hok; clear hok
    obtain ⟨hc, hf⟩ := bcell hbel
    have hsz := hbel.size
    have hb' : b ≤ wr.heap.size := by omega
    have hb'' : b < wr.heap.size + 1 := by omega
    have hb3 : b < wr.heap.size := by omega
    by_cases hlt : k < l.length
    · obtain ⟨h0, h1, h2⟩ := HE.out k hlt
      obtain ⟨f0, _, _⟩ := HE.out (k - 1) (by omega)
      go_wp2
      refine Txt.wp_txt (by kernel_rfl) (by kernel_rfl) ?_
      go_wp2_with (go_at_call 31; refine (rproper_any _ _ _ _).mono ?_; rintro e w1 ⟨rfl, hb1⟩; obtain ⟨hc1, hf1⟩ := bcellN (N := wr.heap.size) hb1 (by simp))
      all_goals (refine Txt.DrawPost.mk0 (by rfl) ?_; go_wp2)
      all_goals have hfin : Below w.heap.size w w1 := hbel.drew.trans (hb1.mono (by simp; omega))
      all_goals first
        | (go_ret; exact ⟨ret_bool (validB_false hlt (by unfold okAt; simp [*]; try omega)).symm, hfin⟩)
        | (go_roundw
           case rel =>
             refine ⟨k + 1, by omega, by go_num, hfin, fun j hj => ?_⟩
             by_cases hjk : j < k
             · exact Hok.out j hjk
             · obtain rfl : j = k := by omega
               unfold okAt; simp [*]; try omega
           case measure => simp [intOf]; omega)
    · go_wp2
      go_ret
      exact ⟨ret_bool (validB_true fun j hj => Hok.out j (by omega)).symm, hbel⟩

set_option maxHeartbeats 400000 in
theorem rvalid_empty (a : Option Addr) (cap : Nat) (w : World) :
    Calls Try.prog 17 #[.slice a 0 cap] w fun e w' => e = .returned (.bool true) ∧ Below w.heap.size w w' := by
  go_enter Try.func17, Try.ntmps17
  go_wp2
  refine wp_loop_once ?_
  go_wp2
  go_ret
  exact ⟨rfl, Below.refl _ _⟩

theorem rvalid_sl {w : World} {v : Value} {l : List Ent} (h : SlE w v l) (hl : l.length ≤ 1000000) :
    Calls Try.prog 17 #[v] w fun e w' => e = .returned (.bool (validB l)) ∧ Below w.heap.size w w' := by
  obtain ⟨a, cap, rfl, hc, hh⟩ := h
  by_cases hl0 : 0 < l.length
  · obtain ⟨b, off, rfl, hlt, he⟩ := hh hl0
    exact rvalid_any b off cap l w hl hlt he
  · have : l = [] := List.length_eq_zero_iff.1 (by omega)
    subst this
    exact rvalid_empty a cap w
end Go.Proofs.Ytlomhelcphhinaa
