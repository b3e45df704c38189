/- Space: walks: Map -/
import Derived.Test.YtlomhelcphhinaaSo
import Derived.Test.YtlomhelcphhinaaIw
namespace Go.Sp
open Go Go.RowKit Go.Bs
/-- what a function hands back that gives an address space and an error -/
def RetE (r : List Ent × Int) (w : World) (e : Ending) (w' : World) : Prop :=
  ∃ v, e = .returned (.tuple #[v, .int .i64 r.2]) ∧ w'.ownsRow w.heap.size 53 3 v r.1.length (r.1.flatMap encE) ∧ Below w.heap.size w w'
theorem RetE.nil {x : Int} {w w' : World} (hb : Below w.heap.size w w') : RetE ([], x) w (.returned (.tuple #[.slice none 0 0, .int .i64 x])) w' :=
  ⟨_, rfl, World.ownsRow_nil _ _ _ _, hb⟩
open Go.Cl in
theorem ins_flat (l : List Ent) (i : Nat) (x : Ent) : (l.flatMap encE).take (i * 3) ++ encE x ++ (l.flatMap encE).drop (i * 3) = (l.take i ++ x :: l.drop i).flatMap encE := by
  rw [flat_take encE encE_len, flat_drop encE encE_len]; simp
open Go.Cl in
theorem set_flat (l : List Ent) (i : Nat) (x : Ent) (hi : i < l.length) : (((l.flatMap encE).set (i * 3) (.int .i64 x.p)).set (i * 3 + 1) (.int .i64 x.f)).set (i * 3 + 2) (.bool x.wr) = (l.set i x).flatMap encE := by
  have e0 := flat_set encE encE_len l i 0 (ent l i) ⟨x.p, (ent l i).f, (ent l i).wr⟩ (.int .i64 x.p) (ent_get hi) (by omega) rfl
  have e1 := flat_set encE encE_len (l.set i ⟨x.p, (ent l i).f, (ent l i).wr⟩) i 1 ⟨x.p, (ent l i).f, (ent l i).wr⟩ ⟨x.p, x.f, (ent l i).wr⟩ (.int .i64 x.f) (by simp [hi]) (by omega) rfl
  have e2 := flat_set encE encE_len (l.set i ⟨x.p, x.f, (ent l i).wr⟩) i 2 ⟨x.p, x.f, (ent l i).wr⟩ x (.bool x.wr) (by simp [hi]) (by omega) rfl
  rw [Nat.add_zero] at e0
  rw [List.set_set] at e1 e2
  rw [e0, e1, e2]
theorem own_ne {w : World} {base e size : Nat} {v : Value} {n : Nat} {xs : List Value} (h : w.ownsRow base e size v n xs) : v.ownBlock ≠ some w.heap.size := by
  rcases own_cases h with ⟨rfl, _⟩ | ⟨g, cap, rfl, _, hg, _⟩
  · simp [Value.ownBlock]
  · simp [Value.ownBlock]; omega
theorem own_row {w : World} {base e size : Nat} {v : Value} {n : Nat} {xs : List Value} (h : w.ownsRow base e size v n xs) {k : Nat} (hk : v.ownBlock = some k) : base ≤ k := by
  rcases own_cases h with ⟨rfl, _⟩ | ⟨g, cap, rfl, hb, hg, _⟩
  · simp [Value.ownBlock] at hk
  · simp [Value.ownBlock] at hk; omega
end Go.Sp
namespace Go.Proofs.Ytlomhelcphhinaa
open Go.RowKit Go.Bs Go.Sp Go.Cl

theorem proper_eq (p f : Int) (wr : Bool) (w : World) (r : Bool) (h : properB p f = r) :
    Calls Try.prog 33 #[.agg #[.int .i64 p, .int .i64 f, .bool wr]] w fun e w' => e = .returned (.bool r) ∧ Below w.heap.size w w' := h ▸ proper_any p f wr w

set_option maxRecDepth 100000 in
set_option maxHeartbeats 1000000 in
theorem map_sl (v : Value) (l : List Ent) (x : Ent) (w : World) (hl : l.length ≤ 1000) (hs : SlE w v l)
    (hp1 : -9223372036854775808 ≤ x.p) (hp2 : x.p ≤ 9223372036854775807) :
    Calls Try.prog 20 #[v, .agg #[.int .i64 x.p, .int .i64 x.f, .bool x.wr]] w (RetE (mapE l x) w) := by
  obtain ⟨p, f, wb⟩ := x
  have Hs := Lib.hid hs; clear hs
  have hl6 : l.length ≤ 1000000 := by omega
  have hal := fun o => (Below.refl w.heap.size w).alloc (Nat.le_refl _) o
  cases hv : validB l
  · have hm : mapE l ⟨p, f, wb⟩ = ([], 1) := by unfold mapE; rw [hv]; rfl
    rw [hm]; clear hm
    have Hv := Lib.hid hv; clear hv
    go_enter Try.func20, Try.ntmps20
    go_wp2_with fail
    refine (valid_eq (Hs.out.below (hal _)) hl6 Hv.out).mono ?_
    rintro e w1 ⟨rfl, hb1⟩
    have hfin := (hal _).trans (hb1.mono (by simp))
    go_wp2
    go_ret2
    exact RetE.nil hfin
  · cases hok : properB p f
    · have hm : mapE l ⟨p, f, wb⟩ = ([], 2) := by unfold mapE Ent.ok; rw [hv, hok]; rfl
      rw [hm]; clear hm
      have Hv := Lib.hid hv; clear hv
      have Hok := Lib.hid hok; clear hok
      go_enter Try.func20, Try.ntmps20
      go_wp2_with fail
      refine (valid_eq (Hs.out.below (hal _)) hl6 Hv.out).mono ?_
      rintro e w1 ⟨rfl, hb1⟩
      have hfin := (hal _).trans (hb1.mono (by simp))
      have hw1 : w.heap.size < w1.heap.size := by have := hb1.size; simp at this; omega
      obtain ⟨hc1, hf1⟩ := bcellN (N := w.heap.size + 1) hb1 (by simp)
      go_wp2_with fail
      refine (proper_eq _ _ _ _ _ Hok.out).mono ?_
      rintro e w2 ⟨rfl, hb2⟩
      have hfin2 := hfin.trans (hb2.mono (by omega))
      go_wp2
      go_ret2
      exact RetE.nil hfin2
    · have hm : mapE l ⟨p, f, wb⟩ = (insE l ⟨p, f, wb⟩, 0) := by unfold mapE Ent.ok; rw [hv, hok]; rfl
      rw [hm]; clear hm
      have hsrt := valid_srt hv
      have Hsrt := Lib.hid hsrt; clear hsrt
      have Hv := Lib.hid hv; clear hv
      have Hok := Lib.hid hok; clear hok
      go_enter Try.func20, Try.ntmps20
      go_wp2_with fail
      refine (valid_eq (Hs.out.below (hal _)) hl6 Hv.out).mono ?_
      rintro e w1 ⟨rfl, hb1⟩
      have hbel1 := (hal (.cells #[.int .i64 p, .int .i64 f, .bool wb] 53)).trans (hb1.mono (by simp))
      have hw1 : w.heap.size < w1.heap.size := by have := hb1.size; simp at this; omega
      obtain ⟨hc1, hf1⟩ := bcellN (N := w.heap.size + 1) hb1 (by simp)
      have c0 : w1.cell? ⟨w.heap.size, 0, none⟩ = some (.int .i64 p) := by go_simp
      have c1 : w1.cell? ⟨w.heap.size, 1, none⟩ = some (.int .i64 f) := by go_simp
      have c2 : w1.cell? ⟨w.heap.size, 2, none⟩ = some (.bool wb) := by go_simp
      clear hc1 hf1 hb1
      go_wp2_with fail
      refine (proper_eq _ _ _ _ _ Hok.out).mono ?_
      rintro e w2 ⟨rfl, hb2⟩
      have hbel2 := hbel1.trans (hb2.mono (by omega))
      have hw2 : w.heap.size < w2.heap.size := by have := hb2.size; omega
      have c0 : w2.cell? ⟨w.heap.size, 0, none⟩ = some (.int .i64 p) := (hb2.cell (p := ⟨w.heap.size, 0, none⟩) (by simp; omega)).trans c0
      have c1 : w2.cell? ⟨w.heap.size, 1, none⟩ = some (.int .i64 f) := (hb2.cell (p := ⟨w.heap.size, 1, none⟩) (by simp; omega)).trans c1
      have c2 : w2.cell? ⟨w.heap.size, 2, none⟩ = some (.bool wb) := (hb2.cell (p := ⟨w.heap.size, 2, none⟩) (by simp; omega)).trans c2
      clear hbel1 hb2 hw1
      go_wp2_with fail
      refine (clone_sl v l _ hl6 (Hs.out.below hbel2)).mono ?_
      rintro e w3 ⟨v1, rfl, hown, hb3⟩
      have hbel3 := hbel2.trans (hb3.mono (by omega))
      have hw3 : w2.heap.size ≤ w3.heap.size := hb3.size
      have c0 : w3.cell? ⟨w.heap.size, 0, none⟩ = some (.int .i64 p) := (hb3.cell (p := ⟨w.heap.size, 0, none⟩) (by simp; omega)).trans c0
      have c1 : w3.cell? ⟨w.heap.size, 1, none⟩ = some (.int .i64 f) := (hb3.cell (p := ⟨w.heap.size, 1, none⟩) (by simp; omega)).trans c1
      have c2 : w3.cell? ⟨w.heap.size, 2, none⟩ = some (.bool wb) := (hb3.cell (p := ⟨w.heap.size, 2, none⟩) (by simp; omega)).trans c2
      have Hown := Lib.hid hown; clear hown
      clear hbel2 hb3
      go_wp2_with fail
      refine (find_sl v1 l p _ hl6 (SlE.of_own Hown.out) Hv.out hp1 hp2).mono ?_
      rintro e w4 ⟨i, fd, rfl, hfound, hb4⟩
      have hbel4 := hbel3.trans (hb4.mono (by omega))
      have hw4 : w3.heap.size ≤ w4.heap.size := hb4.size
      have c0 : w4.cell? ⟨w.heap.size, 0, none⟩ = some (.int .i64 p) := (hb4.cell (p := ⟨w.heap.size, 0, none⟩) (by simp; omega)).trans c0
      have c1 : w4.cell? ⟨w.heap.size, 1, none⟩ = some (.int .i64 f) := (hb4.cell (p := ⟨w.heap.size, 1, none⟩) (by simp; omega)).trans c1
      have c2 : w4.cell? ⟨w.heap.size, 2, none⟩ = some (.bool wb) := (hb4.cell (p := ⟨w.heap.size, 2, none⟩) (by simp; omega)).trans c2
      have Hown4 := Lib.hid (own_below Hown.out hb4 (Nat.le_refl _))
      have hpb : 0 ≤ p ∧ p < 32 := by
        have := Hok.out
        simp [properB] at this
        exact ⟨this.1.1.1, this.1.1.2⟩
      obtain ⟨q1, q2⟩ := hfound.pos hpb.1 hpb.2
      cases fd
      · have hins := found_take (x := ⟨p, f, wb⟩) hfound.le q1 q2 (hfound.no rfl)
        have hil := hfound.le
        have Hins := Lib.hid hins; clear hins
        clear hfound q1 q2 hb4 hbel3 Hown
        go_wp2_with fail
        refine (insert_own w2.heap.size l.length i v1 (l.flatMap encE) (encE ⟨p, f, wb⟩) w4.heap.size 1 _ (by omega) hil (by simp; omega) (own_below Hown4.out ((Below.refl _ _).alloc (Nat.le_refl _) _) (Nat.le_refl _)) rfl (own_ne Hown4.out) (heap_alloc_new w4 _)
          (fun u hu => by simp [encE] at hu; rcases hu with rfl | rfl | rfl <;> rfl) (encE_one l)).mono ?_
        rintro e w5 ⟨v2, rfl, hown5, hgr5⟩
        rw [ins_flat, ← Hins.out] at hown5
        have hlen : l.length + 1 = (insE l ⟨p, f, wb⟩).length := by rw [Hins.out]; simp; omega
        rw [hlen] at hown5
        have hfin : Below w.heap.size w w5 := (hbel4.alloc (by omega) _).grown hgr5 (by simp; omega) (fun k hk => by have := own_row Hown4.out hk; omega)
        have Hown5 := Lib.hid (own_base hown5 (Nat.le_of_lt hw2)); clear hown5
        clear hgr5
        go_wp2
        go_ret2
        exact ⟨v2, rfl, Hown5.out, hfin⟩
      · obtain ⟨hil, hie⟩ := hfound.yes rfl
        have hins := found_set (x := ⟨p, f, wb⟩) Hsrt.out hil hie
        have Hins := Lib.hid hins; clear hins
        clear hfound q1 q2 hb4 hbel3 Hown
        rcases own_cases Hown4.out with ⟨rfl, h0, _⟩ | ⟨g, cap, rfl, hg1, hg2, hnc⟩
        · omega
        · have hen := ent_get hil
          have hz : ∀ j u, (encE (ent l i))[j]? = some u → j < 3 → w4.cell? ⟨g, i * 3 + j, none⟩ = some u := fun j u hu hj => own_cell Hown4.out rfl ((flat_get encE encE_len l i j _ hen hj).trans hu)
          have k0 : w4.cell? ⟨g, i * 3, none⟩ = _ := hz 0 _ rfl (by omega)
          have k1 : w4.cell? ⟨g, i * 3 + 1, none⟩ = _ := hz 1 _ rfl (by omega)
          have k2 : w4.cell? ⟨g, i * 3 + 2, none⟩ = _ := hz 2 _ rfl (by omega)
          have hfz : ∀ j, w4.frozen? ⟨g, j, none⟩ = false := own_frozen Hown4.out
          have hlen : (l.flatMap encE).length = l.length * 3 := flat_length encE encE_len l
          have hset := own_set (own_set (own_set Hown4.out (j := i * 3) (u := .int .i64 p) (by omega)) (j := i * 3 + 1) (u := .int .i64 f) (by rw [List.length_set]; omega)) (j := i * 3 + 2) (u := .bool wb) (by rw [List.length_set, List.length_set]; omega)
          rw [set_flat l i ⟨p, f, wb⟩ hil, ← Hins.out] at hset
          have hlen2 : l.length = (insE l ⟨p, f, wb⟩).length := by rw [Hins.out]; simp
          have Hset := Lib.hid (own_base hset (Nat.le_of_lt hw2)); clear hset
          have hfin := below_set (below_set (below_set hbel4 (show w.heap.size ≤ g by omega) (j := i * 3) (.int .i64 p)) (show w.heap.size ≤ g by omega) (j := i * 3 + 1) (.int .i64 f)) (show w.heap.size ≤ g by omega) (j := i * 3 + 2) (.bool wb)
          clear hen hz hlen
          go_wp2
          go_ret2
          refine ⟨_, rfl, ?_, hfin⟩
          show World.ownsRow _ _ _ _ _ (insE l ⟨p, f, wb⟩).length _
          rw [← hlen2]
          exact Hset.out
end Go.Proofs.Ytlomhelcphhinaa
