/- Space: walks: find, Translate -/
import Derived.Test.YtlomhelcphhinaaSb
namespace Go.Proofs.Ytlomhelcphhinaa
open Go.RowKit Go.Bs Go.Sp

set_option maxHeartbeats 400000 in
theorem sortFind_zero (f : Value) (w : World) :
    Calls Try.prog 40 #[.int .i64 0, f] w fun e w' => e = .returned (.tuple #[.int .i64 0, .bool false]) ∧ Below w.heap.size w w' := by
  go_enter Try.func40, Try.ntmps40
  go_wp2
  refine wp_loop_once ?_
  go_wp2
  go_ret2
  exact ⟨rfl, Below.refl _ _⟩

set_option maxHeartbeats 400000 in
theorem find_sl (v : Value) (l : List Ent) (page : Int) (w : World) (hl : l.length ≤ 1000000) (hs : SlE w v l) (hv : validB l = true)
    (hp1 : -9223372036854775808 ≤ page) (hp2 : page ≤ 9223372036854775807) :
    Calls Try.prog 30 #[v, .int .i64 page] w fun e w' => ∃ (i : Nat) (fd : Bool), e = .returned (.tuple #[.int .i64 i, .bool fd]) ∧ Sp.Found l page i fd ∧ Below w.heap.size w w' := by
  obtain ⟨a, cap, rfl, hc, hh⟩ := hs
  have Hv := Lib.hid hv; clear hv
  by_cases hl0 : 0 < l.length
  · obtain ⟨b, off, rfl, hlt, he⟩ := hh hl0
    have He := Lib.hid he; clear he
    clear hh
    go_enter Try.func30, Try.ntmps30
    go_wp2_with fail
    refine (sortFind_any b off cap w.heap.size (w.heap.size + 1) l page _ hl (by simp; omega) (by simp; omega) (by simp) (He.out.below (((Below.refl w.heap.size w).alloc (Nat.le_refl _) _).alloc (by simp) _) hlt) Hv.out hp1 hp2 (by go_simp) (by go_simp)).mono ?_
    rintro e w1 ⟨i, fd, rfl, hf, hb1⟩
    have Hf := Lib.hid hf; clear hf
    go_wp2
    go_ret2
    exact ⟨i, fd, rfl, Hf.out, (((Below.refl w.heap.size w).alloc (Nat.le_refl _) _).alloc (by simp) _).trans (hb1.mono (by simp; omega))⟩
  · have : l = [] := List.length_eq_zero_iff.1 (by omega)
    subst this
    clear hh hl0 hc
    go_enter Try.func30, Try.ntmps30
    go_wp2_with (go_at_call 40; refine (sortFind_zero _ _).mono ?_; rintro e w1 ⟨rfl, hb1⟩)
    go_ret2
    exact ⟨0, false, rfl, Found.of Hv.out (by simp) (fun _ _ => ⟨fun k hk => by omega, fun k _ hk => by simp at hk⟩) (fun h => by cases h) (fun _ h => by simp at h), (((Below.refl w.heap.size w).alloc (Nat.le_refl _) _).alloc (by simp) _).trans (hb1.mono (by simp; omega))⟩

theorem tlate_inv {l : List Ent} {page : Int} {wr : Bool} (h : validB l = false) : tlate l page wr = (0, 1) := by simp [tlate, h]
theorem tlate_no {l : List Ent} {page : Int} {wr : Bool} {i : Nat} (h : validB l = true) (hf : Sp.Found l page i false) : tlate l page wr = (0, 11) := by simp [tlate, h, hf.look_no]
theorem tlate_yes {l : List Ent} {page : Int} {wr : Bool} {i : Nat} (h : validB l = true) (hf : Sp.Found l page i true) : tlate l page wr = if wr && !(ent l i).wr then (0, 11) else ((ent l i).f, 0) := by simp [tlate, h, hf.look_yes h]
theorem ret_pair {a b c d : Int} (h : (a, b) = (c, d)) : Ending.returned (.tuple #[.int .i64 a, .int .i64 b]) = .returned (.tuple #[.int .i64 c, .int .i64 d]) := by cases h; rfl

set_option maxHeartbeats 400000 in
theorem translate_sl (v : Value) (l : List Ent) (page : Int) (wr : Bool) (w : World) (hl : l.length ≤ 1000000) (hs : SlE w v l)
    (hp1 : -9223372036854775808 ≤ page) (hp2 : page ≤ 9223372036854775807) :
    Calls Try.prog 13 #[v, .int .i64 page, .bool wr] w fun e w' => e = .returned (.tuple #[.int .i64 (tlate l page wr).1, .int .i64 (tlate l page wr).2]) ∧ Below w.heap.size w w' := by
  have Hs := Lib.hid hs
  cases hv : validB l
  · have ht : tlate l page wr = (0, 1) := tlate_inv hv
    rw [ht]
    clear ht hs
    have Hv := Lib.hid hv; clear hv
    go_enter Try.func13, Try.ntmps13
    go_wp2_with (go_at_call 19; refine (valid_eq Hs.out hl Hv.out).mono ?_; rintro e w1 ⟨rfl, hb1⟩)
    go_ret2
    exact ⟨rfl, hb1⟩
  · have Hv := Lib.hid hv; clear hv
    obtain ⟨a, cap, rfl, hc, hh⟩ := hs
    have Hh := Lib.hid hh; clear hh
    go_enter Try.func13, Try.ntmps13
    go_wp2_with (go_at_call 19; refine (valid_eq Hs.out hl Hv.out).mono ?_; rintro e w1 ⟨rfl, hb1⟩)
    refine (find_sl _ l page w1 hl (Hs.out.below hb1) Hv.out hp1 hp2).mono ?_
    rintro e w2 ⟨i, fd, rfl, hf, hb2⟩
    have hfin := hb1.trans (hb2.mono hb1.size)
    have Hf := Lib.hid hf; clear hf
    cases fd
    · go_wp2
      go_ret2
      exact ⟨ret_pair (tlate_no Hv.out Hf.out).symm, hfin⟩
    · have hi := (Hf.out.yes rfl).1
      obtain ⟨b, off, rfl, hlt, he⟩ := Hh.out (by omega)
      obtain ⟨_, h1, h2⟩ := he i hi
      clear he
      obtain ⟨hc2, _⟩ := bcell hfin
      cases hwr : (ent l i).wr
      all_goals
        rw [hwr] at h2
        cases wr
        all_goals
          go_wp2
          go_ret2
          exact ⟨ret_pair (by rw [tlate_yes Hv.out Hf.out]; simp [hwr]), hfin⟩
end Go.Proofs.Ytlomhelcphhinaa
