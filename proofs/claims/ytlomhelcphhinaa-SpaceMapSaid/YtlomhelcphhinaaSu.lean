/- Space: walks: the reference's Map -/
import Derived.Test.YtlomhelcphhinaaSt
import Derived.Test.YtlomhelcphhinaaTw
namespace Go.Proofs.Ytlomhelcphhinaa
open Go.RowKit Go.Bs Go.Sp Go.Cl

theorem rproper_eq (p f : Int) (wr : Bool) (w : World) (r : Bool) (h : properB p f = r) :
    Calls Try.prog 31 #[.agg #[.int .i64 p, .int .i64 f, .bool wr]] w fun e w' => e = .returned (.bool r) ∧ Below w.heap.size w w' := h ▸ rproper_any p f wr w

theorem rvalid_eq {w : World} {v : Value} {l : List Ent} {r : Bool} (h : SlE w v l) (hl : l.length ≤ 1000000) (hr : validB l = r) :
    Calls Try.prog 17 #[v] w fun e w' => e = .returned (.bool r) ∧ Below w.heap.size w w' := hr ▸ rvalid_sl h hl


theorem box_cells {u : World} {n : Nat} {p f : Int} {wb : Bool} (h : u.heap[n]? = some (.cells #[.int .i64 p, .int .i64 f, .bool wb] 50 (0, 0))) :
    0 < 1 → ∃ a', (some ⟨n, 0, none⟩ : Option Addr) = some a' ∧ ∀ j x, (encE ⟨p, f, wb⟩)[j]? = some x → u.cell? (a'.add j) = some x := fun _ => ⟨_, rfl, fun j x hj => by
  rw [Addr.add_lit]
  match j, hj with
  | 0, hj => simp [encE] at hj; subst hj; simp [World.cell?, h]
  | 1, hj => simp [encE] at hj; subst hj; simp [World.cell?, h]
  | 2, hj => simp [encE] at hj; subst hj; simp [World.cell?, h]
  | j + 3, hj => simp [encE] at hj⟩
theorem ins_at {l : List Ent} (h : Srt l) {x : Ent} {l' : List Ent} (hl' : l' = wo l x.p) {k : Nat} (hk : k ≤ l'.length) (hlow : ∀ j, j < k → (ent l' j).p < x.p) (hhi : k < l'.length → x.p ≤ (ent l' k).p) :
    l'.take k ++ [x] ++ l'.drop k = insE l x := by
  have hs : Srt l' := by rw [hl']; exact srt_filter h _
  have hne : ∀ z ∈ l', z.p ≠ x.p := by rw [hl']; intro z hz; have := (List.mem_filter.1 hz).2; simpa using this
  have ht : ∀ z ∈ l'.take k, z.p < x.p := by
    intro z hz
    obtain ⟨i, hi, rfl⟩ := List.mem_iff_getElem.1 hz
    have hi' : i < k := by simp at hi; omega
    have := hlow i hi'
    simpa [ent, show i < l'.length by omega] using this
  have hd : ∀ z ∈ l'.drop k, x.p < z.p := by
    intro z hz
    obtain ⟨i, hi, rfl⟩ := List.mem_iff_getElem.1 hz
    have hi' : k + i < l'.length := by simp at hi; omega
    have h1 := hhi (by omega)
    have h2 : (ent l' k).p ≤ (ent l' (k + i)).p := by
      by_cases e : i = 0
      · subst e; exact Int.le_refl _
      · have := srt_at hs (show k < k + i by omega) hi'; omega
    have h3 : (ent l' (k + i)).p ≠ x.p := hne _ (ent_mem.2 ⟨k + i, hi', rfl⟩)
    have h4 : (l'.drop k)[i] = ent l' (k + i) := by simp [ent, hi']
    rw [h4]; omega
  refine srt_eq ?_ (ins_srt h x) fun z => ?_
  · rw [List.append_assoc]
    refine srt_append (List.Pairwise.take hs) (List.pairwise_cons.2 ⟨hd, List.Pairwise.drop hs⟩) ?_
    intro a ha y hy
    have h1 := ht a ha
    rcases List.mem_cons.1 hy with rfl | hy
    · exact h1
    · have := hd y hy; omega
  · rw [ins_mem]
    have hm : z ∈ l' ↔ z ∈ l ∧ z.p ≠ x.p := by rw [hl']; simp [wo]
    rw [← hm]
    have e : z ∈ l' ↔ z ∈ l'.take k ∨ z ∈ l'.drop k := by rw [← List.mem_append, List.take_append_drop]
    rw [e]
    simp only [List.mem_append, List.mem_singleton]
    constructor
    · rintro ((h | h) | h)
      · exact .inr (.inl h)
      · exact .inl h
      · exact .inr (.inr h)
    · rintro (h | h | h)
      · exact .inl (.inr h)
      · exact .inl (.inl h)
      · exact .inr h
theorem fin_of {l : List Ent} {x : Ent} {l' : List Ent} {k : Nat} (B : Nat) (h : l'.take k ++ [x] ++ l'.drop k = insE l x) (hk : k ≤ l'.length := by first | omega | simp) :
    Hid (∀ (z : World) (v : Value), z.ownsRow B 50 3 v (k + 1 + (l'.length - k)) (((l'.take k ++ [x]).flatMap encE) ++ ((l'.drop k).flatMap encE)) → z.ownsRow B 50 3 v (insE l x).length ((insE l x).flatMap encE)) :=
  Lib.hid fun z v h' => by
    rw [← h, List.flatMap_append]
    have e : (l'.take k ++ [x] ++ l'.drop k).length = k + 1 + (l'.length - k) := by simp; omega
    rw [e]; exact h'
/-- what lies at a slice's address -/
def NewsAt (w : World) (a : Option Addr) (n : Nat) (o : Nat) (l : List Ent) : Prop := 0 < n → ∃ a', a.map (·.add o) = some a' ∧ ∀ j x, (l.flatMap encE)[j]? = some x → w.cell? (a'.add j) = some x
/-- what the reference's Map hands back -/
def RetR (r : List Ent × Int) (w : World) (e : Ending) (w' : World) : Prop :=
  ∃ v, e = .returned (.tuple #[v, .int .i64 r.2]) ∧ w'.ownsRow w.heap.size 50 3 v r.1.length (r.1.flatMap encE) ∧ Below w.heap.size w w'
theorem RetR.nil {x : Int} {w w' : World} (hb : Below w.heap.size w w') : RetR ([], x) w (.returned (.tuple #[.slice none 0 0, .int .i64 x])) w' :=
  ⟨_, rfl, World.ownsRow_nil _ _ _ _, hb⟩

set_option maxRecDepth 100000 in
set_option maxHeartbeats 4000000 in
theorem rmap_sl (v : Value) (l : List Ent) (p f : Int) (wb : Bool) (w : World) (hl : l.length ≤ 1000) (hs : SlE w v l)
    (hp1 : -9223372036854775808 ≤ p) (hp2 : p ≤ 9223372036854775807) :
    Calls Try.prog 21 #[v, .agg #[.int .i64 p, .int .i64 f, .bool wb]] w (RetR (mapE l ⟨p, f, wb⟩) w) := by
  have Hs := Lib.hid hs; clear hs
  have hl6 : l.length ≤ 1000000 := by omega
  have hal := fun o => (Below.refl w.heap.size w).alloc (Nat.le_refl _) o
  cases hv : validB l
  · have hm : mapE l ⟨p, f, wb⟩ = ([], 1) := by unfold mapE; rw [hv]; rfl
    rw [hm]; clear hm
    have Hv := Lib.hid hv; clear hv
    go_enter Try.func21, Try.ntmps21
    go_wp2_with fail
    refine (rvalid_eq (Hs.out.below (hal _)) hl6 Hv.out).mono ?_
    rintro e w1 ⟨rfl, hb1⟩
    have hfin := (hal _).trans (hb1.mono (by simp))
    go_wp2
    go_ret2
    exact RetR.nil hfin
  · cases hok : properB p f
    · have hm : mapE l ⟨p, f, wb⟩ = ([], 2) := by unfold mapE Ent.ok; rw [hv, hok]; rfl
      rw [hm]; clear hm
      have Hv := Lib.hid hv; clear hv
      have Hok := Lib.hid hok; clear hok
      go_enter Try.func21, Try.ntmps21
      go_wp2_with fail
      refine (rvalid_eq (Hs.out.below (hal _)) hl6 Hv.out).mono ?_
      rintro e w1 ⟨rfl, hb1⟩
      have hfin := (hal _).trans (hb1.mono (by simp))
      have hw1 : w.heap.size < w1.heap.size := by have := hb1.size; simp at this; omega
      obtain ⟨hc1, hf1⟩ := bcellN (N := w.heap.size + 1) hb1 (by simp)
      go_wp2_with fail
      refine (rproper_eq _ _ _ _ _ Hok.out).mono ?_
      rintro e w2 ⟨rfl, hb2⟩
      have hfin2 := hfin.trans (hb2.mono (by omega))
      go_wp2
      go_ret2
      exact RetR.nil hfin2
    · have hm : mapE l ⟨p, f, wb⟩ = (insE l ⟨p, f, wb⟩, 0) := by unfold mapE Ent.ok; rw [hv, hok]; rfl
      rw [hm]; clear hm
      have hsrt := valid_srt hv
      have Hsrt := Lib.hid hsrt; clear hsrt
      have Hv := Lib.hid hv; clear hv
      have Hok := Lib.hid hok; clear hok
      go_enter Try.func21, Try.ntmps21
      go_wp2_with fail
      refine (rvalid_eq (Hs.out.below (hal _)) hl6 Hv.out).mono ?_
      rintro e w1 ⟨rfl, hb1⟩
      have hbel1 := (hal (.cells #[.int .i64 p, .int .i64 f, .bool wb] 50)).trans (hb1.mono (by simp))
      have hw1 : w.heap.size < w1.heap.size := by have := hb1.size; simp at this; omega
      obtain ⟨hc1, hf1⟩ := bcellN (N := w.heap.size + 1) hb1 (by simp)
      have c0 : w1.cell? ⟨w.heap.size, 0, none⟩ = some (.int .i64 p) := by go_simp
      have c1 : w1.cell? ⟨w.heap.size, 1, none⟩ = some (.int .i64 f) := by go_simp
      have c2 : w1.cell? ⟨w.heap.size, 2, none⟩ = some (.bool wb) := by go_simp
      clear hc1 hf1 hb1
      go_wp2_with fail
      refine (rproper_eq _ _ _ _ _ Hok.out).mono ?_
      rintro e w2 ⟨rfl, hb2⟩
      have hbel2 := hbel1.trans (hb2.mono (by omega))
      have hw2 : w.heap.size < w2.heap.size := by have := hb2.size; omega
      have c0 : w2.cell? ⟨w.heap.size, 0, none⟩ = some (.int .i64 p) := (hb2.cell (p := ⟨w.heap.size, 0, none⟩) (by simp; omega)).trans c0
      have c1 : w2.cell? ⟨w.heap.size, 1, none⟩ = some (.int .i64 f) := (hb2.cell (p := ⟨w.heap.size, 1, none⟩) (by simp; omega)).trans c1
      have c2 : w2.cell? ⟨w.heap.size, 2, none⟩ = some (.bool wb) := (hb2.cell (p := ⟨w.heap.size, 2, none⟩) (by simp; omega)).trans c2
      clear hbel1 hb2 hw1
      go_wp2_with fail
      refine (without_sl v l p _ hl6 (Hs.out.below hbel2)).mono ?_
      rintro e w3 ⟨v1, rfl, hown, hb3⟩
      have hbel3 := hbel2.trans (hb3.mono (by omega))
      have hw3 : w2.heap.size ≤ w3.heap.size := hb3.size
      have c0 : w3.cell? ⟨w.heap.size, 0, none⟩ = some (.int .i64 p) := (hb3.cell (p := ⟨w.heap.size, 0, none⟩) (by simp; omega)).trans c0
      have c1 : w3.cell? ⟨w.heap.size, 1, none⟩ = some (.int .i64 f) := (hb3.cell (p := ⟨w.heap.size, 1, none⟩) (by simp; omega)).trans c1
      have c2 : w3.cell? ⟨w.heap.size, 2, none⟩ = some (.bool wb) := (hb3.cell (p := ⟨w.heap.size, 2, none⟩) (by simp; omega)).trans c2
      have hwl := wo_len l p
      obtain ⟨i0, hi, hz0, hz1, hz2⟩ := info_parts Try.info50
      have Hi := Lib.hid hi; clear hi
      have Hz0 := Lib.hid hz0; clear hz0
      have Hz1 := Lib.hid hz1; clear hz1
      have Hz2 := Lib.hid hz2; clear hz2
      obtain ⟨l', hl'⟩ : ∃ l', l' = wo l p := ⟨_, rfl⟩
      rw [← hl'] at hown hwl
      have Hl' := Lib.hid hl'; clear hl'
      clear hbel2 hb3
      have hwlt : w.heap.size < w3.heap.size := by omega
      have Hone7 := Lib.hid (show ∀ u ∈ encE ⟨p, f, wb⟩, u.oneCell' = true from fun u hu => by simp [encE] at hu; rcases hu with rfl | rfl | rfl <;> rfl)
      rcases own_cases hown with ⟨rfl, h0, _⟩ | ⟨g, cap1, rfl, hg1, hg2, hcap1⟩
      · have hnil : l' = [] := List.length_eq_zero_iff.1 h0
        subst hnil
        obtain ⟨k, hk0⟩ : ∃ k : Nat, k = 0 := ⟨0, rfl⟩
        have Hnews := Lib.hid (show ∀ z : World, Below w3.heap.size w3 z → 0 < 0 → ∃ a', (none : Option Addr) = some a' ∧ ∀ j x, ((([] : List Ent).take 0).flatMap encE)[j]? = some x → z.cell? (a'.add j) = some x from fun _ _ h => absurd h (Nat.lt_irrefl _))
        have Hnews2 := Lib.hid (show ∀ z : World, Below w3.heap.size w3 z → 0 < 0 → ∃ a', (none : Option Addr) = some a' ∧ ∀ j x, ((([] : List Ent).drop 0).flatMap encE)[j]? = some x → z.cell? (a'.add j) = some x from fun _ _ h => absurd h (Nat.lt_irrefl _))
        have Hone4 := Lib.hid (show ∀ u ∈ (([] : List Ent).take 0).flatMap encE, u.oneCell' = true from fun u hu => by simp at hu)
        have Hone5 := Lib.hid (show ∀ u ∈ (([] : List Ent).drop 0).flatMap encE, u.oneCell' = true from fun u hu => by simp at hu)
        have Hlen4 := Lib.hid (show ((([] : List Ent).take 0).flatMap encE).length = 0 * 3 by rfl)
        have Hlen5 := Lib.hid (show ((([] : List Ent).drop 0).flatMap encE).length = (([] : List Ent).length - 0) * 3 by rfl)
        have hfin0 := ins_at Hsrt.out (x := ⟨p, f, wb⟩) Hl'.out (k := 0) (Nat.le_refl _) (fun j hj => absurd hj (Nat.not_lt_zero _)) (fun h => absurd h (Nat.lt_irrefl _))
        have Hfin := fin_of (w3.heap.size) hfin0
        clear hfin0 hown hk0 k
        have hb3 := Below.refl w3.heap.size w3
        go_wp2
        refine wp_loop_once ?_
        go_wp2
        refine Txt.wp_txt (by kernel_rfl) (by kernel_rfl) ?_
        go_wp2
        refine Txt.DrawPost.mk0 (by rfl) ?_
        go_wp2
        refine Txt.wp_tree [1, 2, 3, 8, 9, 10] (.alt [0] (.alt [4] (.alt [5] (.alt [6] (.alt [7] (.alt [11, 12, 13] (.done) (.no)) (.no)) (.no)) (.no)) (.alt [5] (.alt [4] (.alt [6] (.alt [7] (.alt [11, 12, 13] (.done) (.no)) (.no)) (.no)) (.alt [6] (.alt [4] (.alt [7] (.alt [11, 12, 13] (.done) (.no)) (.no)) (.no)) (.no))) (.no))) (.alt [5] (.alt [0] (.alt [4] (.alt [6] (.alt [7] (.alt [11, 12, 13] (.done) (.no)) (.no)) (.no)) (.alt [6] (.alt [4] (.alt [7] (.alt [11, 12, 13] (.done) (.no)) (.no)) (.no)) (.no))) (.alt [6] (.alt [0] (.alt [4] (.alt [7] (.alt [11, 12, 13] (.done) (.no)) (.no)) (.no)) (.no)) (.no))) (.no))) (by kernel_rfl) (by kernel_rfl) (by kernel_rfl) (by kernel_rfl) ?_
        simp only [Txt.pick, List.getElem?_cons_succ, List.getElem?_cons_zero]
        go_wp2
        refine Txt.RunPost.mk ?_
        refine Txt.wpTr_gen (I := fun z => Below w3.heap.size w3 z) (by repeat (first | assumption | exact Below.refl _ _ | refine Below.drew ?_)) ?_
        intro u0 hbu0
        obtain ⟨hcu0, hfu0⟩ := bcell hbu0
        have hzu0 : w3.heap.size ≤ u0.heap.size := hbu0.size
        refine Txt.wpTr_alt ?_ ?_
        · simp only [Txt.pick, List.getElem?_cons_succ, List.getElem?_cons_zero]
          go_wp2
          refine Txt.RunPost.mk ?_
          refine Txt.wpTr_gen (I := fun z => Below w3.heap.size w3 z ∧ u0.heap.size < z.heap.size ∧ z.ownsRow w3.heap.size 50 3 (.slice (some ⟨u0.heap.size, 0, none⟩) 0 0) 0 []) ⟨hbu0.alloc hzu0 _, by simp, own_empty _ _ _ _ hzu0⟩ ?_
          rintro u1 ⟨hbu1, hsu1, hou1⟩
          obtain ⟨hcu1, hfu1⟩ := bcell hbu1
          have hzu1 : w3.heap.size ≤ u1.heap.size := hbu1.size
          have HOu1 := Lib.hid hou1; clear hou1
          refine Txt.wpTr_alt ?_ ?_
          · simp only [Txt.pick, List.getElem?_cons_succ, List.getElem?_cons_zero]
            have Hnu1 := Lib.hid (Hnews.out u1 hbu1)
            go_wp2_with (at_builtin; refine Ml.wpList_append_own2 _ rfl _ _ 23 23 rfl w3.heap.size 50 i0 (.agg #[.int .i64 0, .int .i64 0, .bool false]) 3 24 Try.underlying23 Try.underlying23 Hi.out Hz0.out Hz1.out Hz2.out rfl _ 0 [] rfl HOu1.out _ 0 _ ((([] : List Ent).take 0).flatMap encE) rfl Hlen4.out Hnu1.out Hone4.out ?c3 ?c4 ?c5 ?_)
            case c3 => unfold maxLen; omega
            case c4 => omega
            case c5 => omega
            intro vu2 u2 hown hgrow
            refine Txt.RunPost.mk ?_
            have hbu2 : Below w3.heap.size w3 u2 := hbu1.grown hgrow hzu1 (fun q hq => by simp [Value.ownBlock] at hq; omega)
            have HOu2 : Hid (u2.ownsRow w3.heap.size 50 3 vu2 0 ((([] : List Ent).take 0).flatMap encE)) := Lib.hid (by simpa using hown)
            obtain ⟨hcu2, hfu2⟩ := bcell hbu2
            have hzu2 : w3.heap.size ≤ u2.heap.size := hbu2.size
            have hsu2 : u1.heap.size ≤ u2.heap.size := hgrow.size
            clear hown hgrow
            refine Txt.wpTr_alt ?_ ?_
            · simp only [Txt.pick, List.getElem?_cons_succ, List.getElem?_cons_zero]
              go_wp2
              refine Txt.RunPost.mk ?_
              refine Txt.wpTr_alt ?_ ?_
              · simp only [Txt.pick, List.getElem?_cons_succ, List.getElem?_cons_zero]
                go_wp2
                refine Txt.RunPost.mk ?_
                refine Txt.wpTr_gen (I := fun z => Below w3.heap.size w3 z ∧ u2.heap.size < z.heap.size ∧ z.heap[u2.heap.size]? = some (.cells #[.int .i64 p, .int .i64 f, .bool wb] 50 (0, 0)) ∧ z.ownsRow w3.heap.size 50 3 vu2 0 ((([] : List Ent).take 0).flatMap encE)) ⟨hbu2.alloc hzu2 _, by simp, heap_alloc_new u2 _, HOu2.out.alloc _⟩ ?_
                rintro u3 ⟨hbu3, hsu3, hxu3, hou3⟩
                obtain ⟨hcu3, hfu3⟩ := bcell hbu3
                have hzu3 : w3.heap.size ≤ u3.heap.size := hbu3.size
                have HOu3 := Lib.hid hou3; clear hou3
                refine Txt.wpTr_alt ?_ ?_
                · simp only [Txt.pick, List.getElem?_cons_succ, List.getElem?_cons_zero]
                  have Hnu3 := Lib.hid (box_cells hxu3)
                  go_wp2_with (at_builtin; refine Ml.wpList_append_own2 _ rfl _ _ 23 23 rfl w3.heap.size 50 i0 (.agg #[.int .i64 0, .int .i64 0, .bool false]) 3 24 Try.underlying23 Try.underlying23 Hi.out Hz0.out Hz1.out Hz2.out rfl _ 0 _ rfl HOu3.out _ 1 1 (encE ⟨p, f, wb⟩) rfl rfl Hnu3.out Hone7.out ?c3 ?c4 ?c5 ?_)
                  case c3 => unfold maxLen; omega
                  case c4 => omega
                  case c5 => omega
                  intro vu4 u4 hown hgrow
                  refine Txt.RunPost.mk ?_
                  have hbu4 : Below w3.heap.size w3 u4 := hbu3.grown hgrow hzu3 (fun q hq => own_row HOu3.out hq)
                  have HOu4 : Hid (u4.ownsRow w3.heap.size 50 3 vu4 (0 + 1) ((([] : List Ent).take 0 ++ [(⟨p, f, wb⟩ : Ent)]).flatMap encE)) := Lib.hid (by simpa using hown)
                  obtain ⟨hcu4, hfu4⟩ := bcell hbu4
                  have hzu4 : w3.heap.size ≤ u4.heap.size := hbu4.size
                  clear hown hgrow
                  refine Txt.wpTr_alt ?_ ?_
                  · simp only [Txt.pick, List.getElem?_cons_succ, List.getElem?_cons_zero]
                    have Hnu4 := Lib.hid (Hnews2.out u4 hbu4)
                    go_wp2_with (at_builtin; refine Ml.wpList_append_own2 _ rfl _ _ 23 23 rfl w3.heap.size 50 i0 (.agg #[.int .i64 0, .int .i64 0, .bool false]) 3 24 Try.underlying23 Try.underlying23 Hi.out Hz0.out Hz1.out Hz2.out rfl _ (0 + 1) _ rfl HOu4.out _ (([] : List Ent).length - 0) _ ((([] : List Ent).drop 0).flatMap encE) rfl Hlen5.out Hnu4.out Hone5.out ?c3 ?c4 ?c5 ?_)
                    case c3 => unfold maxLen; omega
                    case c4 => omega
                    case c5 => omega
                    intro vu5 u5 hown hgrow
                    have hbu5 : Below w3.heap.size w3 u5 := hbu4.grown hgrow hzu4 (fun q hq => own_row HOu4.out hq)
                    have HOu5 := Lib.hid (Hfin.out _ _ (by simpa using hown))
                    clear hown hgrow
                    go_wp2
                    refine Txt.RunPost.mk ?_
                    refine Txt.wpTr_done ?_
                    go_wp2
                    go_ret2
                    exact ⟨_, rfl, own_base HOu5.out (by omega), hbel3.trans (hbu5.mono (by omega))⟩
                  · exact Txt.wpTr_no
                · exact Txt.wpTr_no
              · exact Txt.wpTr_no
            · exact Txt.wpTr_no
          · skip
            refine Txt.wpTr_alt ?_ ?_
            · simp only [Txt.pick, List.getElem?_cons_succ, List.getElem?_cons_zero]
              go_wp2
              refine Txt.RunPost.mk ?_
              refine Txt.wpTr_alt ?_ ?_
              · simp only [Txt.pick, List.getElem?_cons_succ, List.getElem?_cons_zero]
                have Hnu1 := Lib.hid (Hnews.out u1 hbu1)
                go_wp2_with (at_builtin; refine Ml.wpList_append_own2 _ rfl _ _ 23 23 rfl w3.heap.size 50 i0 (.agg #[.int .i64 0, .int .i64 0, .bool false]) 3 24 Try.underlying23 Try.underlying23 Hi.out Hz0.out Hz1.out Hz2.out rfl _ 0 [] rfl HOu1.out _ 0 _ ((([] : List Ent).take 0).flatMap encE) rfl Hlen4.out Hnu1.out Hone4.out ?c3 ?c4 ?c5 ?_)
                case c3 => unfold maxLen; omega
                case c4 => omega
                case c5 => omega
                intro vu6 u6 hown hgrow
                refine Txt.RunPost.mk ?_
                have hbu6 : Below w3.heap.size w3 u6 := hbu1.grown hgrow hzu1 (fun q hq => by simp [Value.ownBlock] at hq; omega)
                have HOu6 : Hid (u6.ownsRow w3.heap.size 50 3 vu6 0 ((([] : List Ent).take 0).flatMap encE)) := Lib.hid (by simpa using hown)
                obtain ⟨hcu6, hfu6⟩ := bcell hbu6
                have hzu6 : w3.heap.size ≤ u6.heap.size := hbu6.size
                have hsu6 : u1.heap.size ≤ u6.heap.size := hgrow.size
                clear hown hgrow
                refine Txt.wpTr_alt ?_ ?_
                · simp only [Txt.pick, List.getElem?_cons_succ, List.getElem?_cons_zero]
                  go_wp2
                  refine Txt.RunPost.mk ?_
                  refine Txt.wpTr_gen (I := fun z => Below w3.heap.size w3 z ∧ u6.heap.size < z.heap.size ∧ z.heap[u6.heap.size]? = some (.cells #[.int .i64 p, .int .i64 f, .bool wb] 50 (0, 0)) ∧ z.ownsRow w3.heap.size 50 3 vu6 0 ((([] : List Ent).take 0).flatMap encE)) ⟨hbu6.alloc hzu6 _, by simp, heap_alloc_new u6 _, HOu6.out.alloc _⟩ ?_
                  rintro u7 ⟨hbu7, hsu7, hxu7, hou7⟩
                  obtain ⟨hcu7, hfu7⟩ := bcell hbu7
                  have hzu7 : w3.heap.size ≤ u7.heap.size := hbu7.size
                  have HOu7 := Lib.hid hou7; clear hou7
                  refine Txt.wpTr_alt ?_ ?_
                  · simp only [Txt.pick, List.getElem?_cons_succ, List.getElem?_cons_zero]
                    have Hnu7 := Lib.hid (box_cells hxu7)
                    go_wp2_with (at_builtin; refine Ml.wpList_append_own2 _ rfl _ _ 23 23 rfl w3.heap.size 50 i0 (.agg #[.int .i64 0, .int .i64 0, .bool false]) 3 24 Try.underlying23 Try.underlying23 Hi.out Hz0.out Hz1.out Hz2.out rfl _ 0 _ rfl HOu7.out _ 1 1 (encE ⟨p, f, wb⟩) rfl rfl Hnu7.out Hone7.out ?c3 ?c4 ?c5 ?_)
                    case c3 => unfold maxLen; omega
                    case c4 => omega
                    case c5 => omega
                    intro vu8 u8 hown hgrow
                    refine Txt.RunPost.mk ?_
                    have hbu8 : Below w3.heap.size w3 u8 := hbu7.grown hgrow hzu7 (fun q hq => own_row HOu7.out hq)
                    have HOu8 : Hid (u8.ownsRow w3.heap.size 50 3 vu8 (0 + 1) ((([] : List Ent).take 0 ++ [(⟨p, f, wb⟩ : Ent)]).flatMap encE)) := Lib.hid (by simpa using hown)
                    obtain ⟨hcu8, hfu8⟩ := bcell hbu8
                    have hzu8 : w3.heap.size ≤ u8.heap.size := hbu8.size
                    clear hown hgrow
                    refine Txt.wpTr_alt ?_ ?_
                    · simp only [Txt.pick, List.getElem?_cons_succ, List.getElem?_cons_zero]
                      have Hnu8 := Lib.hid (Hnews2.out u8 hbu8)
                      go_wp2_with (at_builtin; refine Ml.wpList_append_own2 _ rfl _ _ 23 23 rfl w3.heap.size 50 i0 (.agg #[.int .i64 0, .int .i64 0, .bool false]) 3 24 Try.underlying23 Try.underlying23 Hi.out Hz0.out Hz1.out Hz2.out rfl _ (0 + 1) _ rfl HOu8.out _ (([] : List Ent).length - 0) _ ((([] : List Ent).drop 0).flatMap encE) rfl Hlen5.out Hnu8.out Hone5.out ?c3 ?c4 ?c5 ?_)
                      case c3 => unfold maxLen; omega
                      case c4 => omega
                      case c5 => omega
                      intro vu9 u9 hown hgrow
                      have hbu9 : Below w3.heap.size w3 u9 := hbu8.grown hgrow hzu8 (fun q hq => own_row HOu8.out hq)
                      have HOu9 := Lib.hid (Hfin.out _ _ (by simpa using hown))
                      clear hown hgrow
                      go_wp2
                      refine Txt.RunPost.mk ?_
                      refine Txt.wpTr_done ?_
                      go_wp2
                      go_ret2
                      exact ⟨_, rfl, own_base HOu9.out (by omega), hbel3.trans (hbu9.mono (by omega))⟩
                    · exact Txt.wpTr_no
                  · exact Txt.wpTr_no
                · exact Txt.wpTr_no
              · skip
                refine Txt.wpTr_alt ?_ ?_
                · simp only [Txt.pick, List.getElem?_cons_succ, List.getElem?_cons_zero]
                  go_wp2
                  refine Txt.RunPost.mk ?_
                  refine Txt.wpTr_gen (I := fun z => Below w3.heap.size w3 z ∧ u1.heap.size < z.heap.size ∧ z.heap[u1.heap.size]? = some (.cells #[.int .i64 p, .int .i64 f, .bool wb] 50 (0, 0)) ∧ z.ownsRow w3.heap.size 50 3 (.slice (some ⟨u0.heap.size, 0, none⟩) 0 0) 0 []) ⟨hbu1.alloc hzu1 _, by simp, heap_alloc_new u1 _, HOu1.out.alloc _⟩ ?_
                  rintro u10 ⟨hbu10, hsu10, hxu10, hou10⟩
                  obtain ⟨hcu10, hfu10⟩ := bcell hbu10
                  have hzu10 : w3.heap.size ≤ u10.heap.size := hbu10.size
                  have HOu10 := Lib.hid hou10; clear hou10
                  refine Txt.wpTr_alt ?_ ?_
                  · simp only [Txt.pick, List.getElem?_cons_succ, List.getElem?_cons_zero]
                    have Hnu10 := Lib.hid (Hnews.out u10 hbu10)
                    go_wp2_with (at_builtin; refine Ml.wpList_append_own2 _ rfl _ _ 23 23 rfl w3.heap.size 50 i0 (.agg #[.int .i64 0, .int .i64 0, .bool false]) 3 24 Try.underlying23 Try.underlying23 Hi.out Hz0.out Hz1.out Hz2.out rfl _ 0 [] rfl HOu10.out _ 0 _ ((([] : List Ent).take 0).flatMap encE) rfl Hlen4.out Hnu10.out Hone4.out ?c3 ?c4 ?c5 ?_)
                    case c3 => unfold maxLen; omega
                    case c4 => omega
                    case c5 => omega
                    intro vu11 u11 hown hgrow
                    refine Txt.RunPost.mk ?_
                    have hbu11 : Below w3.heap.size w3 u11 := hbu10.grown hgrow hzu10 (fun q hq => by simp [Value.ownBlock] at hq; omega)
                    have HOu11 : Hid (u11.ownsRow w3.heap.size 50 3 vu11 0 ((([] : List Ent).take 0).flatMap encE)) := Lib.hid (by simpa using hown)
                    have hxu11 := (hgrow.block u1.heap.size (by omega) (by simp [Value.ownBlock]; omega)).trans hxu10
                    obtain ⟨hcu11, hfu11⟩ := bcell hbu11
                    have hzu11 : w3.heap.size ≤ u11.heap.size := hbu11.size
                    have hsu11 : u10.heap.size ≤ u11.heap.size := hgrow.size
                    clear hown hgrow
                    refine Txt.wpTr_alt ?_ ?_
                    · simp only [Txt.pick, List.getElem?_cons_succ, List.getElem?_cons_zero]
                      have Hnu11 := Lib.hid (box_cells hxu11)
                      go_wp2_with (at_builtin; refine Ml.wpList_append_own2 _ rfl _ _ 23 23 rfl w3.heap.size 50 i0 (.agg #[.int .i64 0, .int .i64 0, .bool false]) 3 24 Try.underlying23 Try.underlying23 Hi.out Hz0.out Hz1.out Hz2.out rfl _ 0 _ rfl HOu11.out _ 1 1 (encE ⟨p, f, wb⟩) rfl rfl Hnu11.out Hone7.out ?c3 ?c4 ?c5 ?_)
                      case c3 => unfold maxLen; omega
                      case c4 => omega
                      case c5 => omega
                      intro vu12 u12 hown hgrow
                      refine Txt.RunPost.mk ?_
                      have hbu12 : Below w3.heap.size w3 u12 := hbu11.grown hgrow hzu11 (fun q hq => own_row HOu11.out hq)
                      have HOu12 : Hid (u12.ownsRow w3.heap.size 50 3 vu12 (0 + 1) ((([] : List Ent).take 0 ++ [(⟨p, f, wb⟩ : Ent)]).flatMap encE)) := Lib.hid (by simpa using hown)
                      obtain ⟨hcu12, hfu12⟩ := bcell hbu12
                      have hzu12 : w3.heap.size ≤ u12.heap.size := hbu12.size
                      clear hown hgrow
                      refine Txt.wpTr_alt ?_ ?_
                      · simp only [Txt.pick, List.getElem?_cons_succ, List.getElem?_cons_zero]
                        have Hnu12 := Lib.hid (Hnews2.out u12 hbu12)
                        go_wp2_with (at_builtin; refine Ml.wpList_append_own2 _ rfl _ _ 23 23 rfl w3.heap.size 50 i0 (.agg #[.int .i64 0, .int .i64 0, .bool false]) 3 24 Try.underlying23 Try.underlying23 Hi.out Hz0.out Hz1.out Hz2.out rfl _ (0 + 1) _ rfl HOu12.out _ (([] : List Ent).length - 0) _ ((([] : List Ent).drop 0).flatMap encE) rfl Hlen5.out Hnu12.out Hone5.out ?c3 ?c4 ?c5 ?_)
                        case c3 => unfold maxLen; omega
                        case c4 => omega
                        case c5 => omega
                        intro vu13 u13 hown hgrow
                        have hbu13 : Below w3.heap.size w3 u13 := hbu12.grown hgrow hzu12 (fun q hq => own_row HOu12.out hq)
                        have HOu13 := Lib.hid (Hfin.out _ _ (by simpa using hown))
                        clear hown hgrow
                        go_wp2
                        refine Txt.RunPost.mk ?_
                        refine Txt.wpTr_done ?_
                        go_wp2
                        go_ret2
                        exact ⟨_, rfl, own_base HOu13.out (by omega), hbel3.trans (hbu13.mono (by omega))⟩
                      · exact Txt.wpTr_no
                    · exact Txt.wpTr_no
                  · exact Txt.wpTr_no
                · exact Txt.wpTr_no
            · exact Txt.wpTr_no
        · skip
          refine Txt.wpTr_alt ?_ ?_
          · simp only [Txt.pick, List.getElem?_cons_succ, List.getElem?_cons_zero]
            go_wp2
            refine Txt.RunPost.mk ?_
            refine Txt.wpTr_alt ?_ ?_
            · simp only [Txt.pick, List.getElem?_cons_succ, List.getElem?_cons_zero]
              go_wp2
              refine Txt.RunPost.mk ?_
              refine Txt.wpTr_gen (I := fun z => Below w3.heap.size w3 z ∧ u0.heap.size < z.heap.size ∧ z.ownsRow w3.heap.size 50 3 (.slice (some ⟨u0.heap.size, 0, none⟩) 0 0) 0 []) ⟨hbu0.alloc hzu0 _, by simp, own_empty _ _ _ _ hzu0⟩ ?_
              rintro u14 ⟨hbu14, hsu14, hou14⟩
              obtain ⟨hcu14, hfu14⟩ := bcell hbu14
              have hzu14 : w3.heap.size ≤ u14.heap.size := hbu14.size
              have HOu14 := Lib.hid hou14; clear hou14
              refine Txt.wpTr_alt ?_ ?_
              · simp only [Txt.pick, List.getElem?_cons_succ, List.getElem?_cons_zero]
                have Hnu14 := Lib.hid (Hnews.out u14 hbu14)
                go_wp2_with (at_builtin; refine Ml.wpList_append_own2 _ rfl _ _ 23 23 rfl w3.heap.size 50 i0 (.agg #[.int .i64 0, .int .i64 0, .bool false]) 3 24 Try.underlying23 Try.underlying23 Hi.out Hz0.out Hz1.out Hz2.out rfl _ 0 [] rfl HOu14.out _ 0 _ ((([] : List Ent).take 0).flatMap encE) rfl Hlen4.out Hnu14.out Hone4.out ?c3 ?c4 ?c5 ?_)
                case c3 => unfold maxLen; omega
                case c4 => omega
                case c5 => omega
                intro vu15 u15 hown hgrow
                refine Txt.RunPost.mk ?_
                have hbu15 : Below w3.heap.size w3 u15 := hbu14.grown hgrow hzu14 (fun q hq => by simp [Value.ownBlock] at hq; omega)
                have HOu15 : Hid (u15.ownsRow w3.heap.size 50 3 vu15 0 ((([] : List Ent).take 0).flatMap encE)) := Lib.hid (by simpa using hown)
                obtain ⟨hcu15, hfu15⟩ := bcell hbu15
                have hzu15 : w3.heap.size ≤ u15.heap.size := hbu15.size
                have hsu15 : u14.heap.size ≤ u15.heap.size := hgrow.size
                clear hown hgrow
                refine Txt.wpTr_alt ?_ ?_
                · simp only [Txt.pick, List.getElem?_cons_succ, List.getElem?_cons_zero]
                  go_wp2
                  refine Txt.RunPost.mk ?_
                  refine Txt.wpTr_gen (I := fun z => Below w3.heap.size w3 z ∧ u15.heap.size < z.heap.size ∧ z.heap[u15.heap.size]? = some (.cells #[.int .i64 p, .int .i64 f, .bool wb] 50 (0, 0)) ∧ z.ownsRow w3.heap.size 50 3 vu15 0 ((([] : List Ent).take 0).flatMap encE)) ⟨hbu15.alloc hzu15 _, by simp, heap_alloc_new u15 _, HOu15.out.alloc _⟩ ?_
                  rintro u16 ⟨hbu16, hsu16, hxu16, hou16⟩
                  obtain ⟨hcu16, hfu16⟩ := bcell hbu16
                  have hzu16 : w3.heap.size ≤ u16.heap.size := hbu16.size
                  have HOu16 := Lib.hid hou16; clear hou16
                  refine Txt.wpTr_alt ?_ ?_
                  · simp only [Txt.pick, List.getElem?_cons_succ, List.getElem?_cons_zero]
                    have Hnu16 := Lib.hid (box_cells hxu16)
                    go_wp2_with (at_builtin; refine Ml.wpList_append_own2 _ rfl _ _ 23 23 rfl w3.heap.size 50 i0 (.agg #[.int .i64 0, .int .i64 0, .bool false]) 3 24 Try.underlying23 Try.underlying23 Hi.out Hz0.out Hz1.out Hz2.out rfl _ 0 _ rfl HOu16.out _ 1 1 (encE ⟨p, f, wb⟩) rfl rfl Hnu16.out Hone7.out ?c3 ?c4 ?c5 ?_)
                    case c3 => unfold maxLen; omega
                    case c4 => omega
                    case c5 => omega
                    intro vu17 u17 hown hgrow
                    refine Txt.RunPost.mk ?_
                    have hbu17 : Below w3.heap.size w3 u17 := hbu16.grown hgrow hzu16 (fun q hq => own_row HOu16.out hq)
                    have HOu17 : Hid (u17.ownsRow w3.heap.size 50 3 vu17 (0 + 1) ((([] : List Ent).take 0 ++ [(⟨p, f, wb⟩ : Ent)]).flatMap encE)) := Lib.hid (by simpa using hown)
                    obtain ⟨hcu17, hfu17⟩ := bcell hbu17
                    have hzu17 : w3.heap.size ≤ u17.heap.size := hbu17.size
                    clear hown hgrow
                    refine Txt.wpTr_alt ?_ ?_
                    · simp only [Txt.pick, List.getElem?_cons_succ, List.getElem?_cons_zero]
                      have Hnu17 := Lib.hid (Hnews2.out u17 hbu17)
                      go_wp2_with (at_builtin; refine Ml.wpList_append_own2 _ rfl _ _ 23 23 rfl w3.heap.size 50 i0 (.agg #[.int .i64 0, .int .i64 0, .bool false]) 3 24 Try.underlying23 Try.underlying23 Hi.out Hz0.out Hz1.out Hz2.out rfl _ (0 + 1) _ rfl HOu17.out _ (([] : List Ent).length - 0) _ ((([] : List Ent).drop 0).flatMap encE) rfl Hlen5.out Hnu17.out Hone5.out ?c3 ?c4 ?c5 ?_)
                      case c3 => unfold maxLen; omega
                      case c4 => omega
                      case c5 => omega
                      intro vu18 u18 hown hgrow
                      have hbu18 : Below w3.heap.size w3 u18 := hbu17.grown hgrow hzu17 (fun q hq => own_row HOu17.out hq)
                      have HOu18 := Lib.hid (Hfin.out _ _ (by simpa using hown))
                      clear hown hgrow
                      go_wp2
                      refine Txt.RunPost.mk ?_
                      refine Txt.wpTr_done ?_
                      go_wp2
                      go_ret2
                      exact ⟨_, rfl, own_base HOu18.out (by omega), hbel3.trans (hbu18.mono (by omega))⟩
                    · exact Txt.wpTr_no
                  · exact Txt.wpTr_no
                · exact Txt.wpTr_no
              · skip
                refine Txt.wpTr_alt ?_ ?_
                · simp only [Txt.pick, List.getElem?_cons_succ, List.getElem?_cons_zero]
                  go_wp2
                  refine Txt.RunPost.mk ?_
                  refine Txt.wpTr_gen (I := fun z => Below w3.heap.size w3 z ∧ u14.heap.size < z.heap.size ∧ z.heap[u14.heap.size]? = some (.cells #[.int .i64 p, .int .i64 f, .bool wb] 50 (0, 0)) ∧ z.ownsRow w3.heap.size 50 3 (.slice (some ⟨u0.heap.size, 0, none⟩) 0 0) 0 []) ⟨hbu14.alloc hzu14 _, by simp, heap_alloc_new u14 _, HOu14.out.alloc _⟩ ?_
                  rintro u19 ⟨hbu19, hsu19, hxu19, hou19⟩
                  obtain ⟨hcu19, hfu19⟩ := bcell hbu19
                  have hzu19 : w3.heap.size ≤ u19.heap.size := hbu19.size
                  have HOu19 := Lib.hid hou19; clear hou19
                  refine Txt.wpTr_alt ?_ ?_
                  · simp only [Txt.pick, List.getElem?_cons_succ, List.getElem?_cons_zero]
                    have Hnu19 := Lib.hid (Hnews.out u19 hbu19)
                    go_wp2_with (at_builtin; refine Ml.wpList_append_own2 _ rfl _ _ 23 23 rfl w3.heap.size 50 i0 (.agg #[.int .i64 0, .int .i64 0, .bool false]) 3 24 Try.underlying23 Try.underlying23 Hi.out Hz0.out Hz1.out Hz2.out rfl _ 0 [] rfl HOu19.out _ 0 _ ((([] : List Ent).take 0).flatMap encE) rfl Hlen4.out Hnu19.out Hone4.out ?c3 ?c4 ?c5 ?_)
                    case c3 => unfold maxLen; omega
                    case c4 => omega
                    case c5 => omega
                    intro vu20 u20 hown hgrow
                    refine Txt.RunPost.mk ?_
                    have hbu20 : Below w3.heap.size w3 u20 := hbu19.grown hgrow hzu19 (fun q hq => by simp [Value.ownBlock] at hq; omega)
                    have HOu20 : Hid (u20.ownsRow w3.heap.size 50 3 vu20 0 ((([] : List Ent).take 0).flatMap encE)) := Lib.hid (by simpa using hown)
                    have hxu20 := (hgrow.block u14.heap.size (by omega) (by simp [Value.ownBlock]; omega)).trans hxu19
                    obtain ⟨hcu20, hfu20⟩ := bcell hbu20
                    have hzu20 : w3.heap.size ≤ u20.heap.size := hbu20.size
                    have hsu20 : u19.heap.size ≤ u20.heap.size := hgrow.size
                    clear hown hgrow
                    refine Txt.wpTr_alt ?_ ?_
                    · simp only [Txt.pick, List.getElem?_cons_succ, List.getElem?_cons_zero]
                      have Hnu20 := Lib.hid (box_cells hxu20)
                      go_wp2_with (at_builtin; refine Ml.wpList_append_own2 _ rfl _ _ 23 23 rfl w3.heap.size 50 i0 (.agg #[.int .i64 0, .int .i64 0, .bool false]) 3 24 Try.underlying23 Try.underlying23 Hi.out Hz0.out Hz1.out Hz2.out rfl _ 0 _ rfl HOu20.out _ 1 1 (encE ⟨p, f, wb⟩) rfl rfl Hnu20.out Hone7.out ?c3 ?c4 ?c5 ?_)
                      case c3 => unfold maxLen; omega
                      case c4 => omega
                      case c5 => omega
                      intro vu21 u21 hown hgrow
                      refine Txt.RunPost.mk ?_
                      have hbu21 : Below w3.heap.size w3 u21 := hbu20.grown hgrow hzu20 (fun q hq => own_row HOu20.out hq)
                      have HOu21 : Hid (u21.ownsRow w3.heap.size 50 3 vu21 (0 + 1) ((([] : List Ent).take 0 ++ [(⟨p, f, wb⟩ : Ent)]).flatMap encE)) := Lib.hid (by simpa using hown)
                      obtain ⟨hcu21, hfu21⟩ := bcell hbu21
                      have hzu21 : w3.heap.size ≤ u21.heap.size := hbu21.size
                      clear hown hgrow
                      refine Txt.wpTr_alt ?_ ?_
                      · simp only [Txt.pick, List.getElem?_cons_succ, List.getElem?_cons_zero]
                        have Hnu21 := Lib.hid (Hnews2.out u21 hbu21)
                        go_wp2_with (at_builtin; refine Ml.wpList_append_own2 _ rfl _ _ 23 23 rfl w3.heap.size 50 i0 (.agg #[.int .i64 0, .int .i64 0, .bool false]) 3 24 Try.underlying23 Try.underlying23 Hi.out Hz0.out Hz1.out Hz2.out rfl _ (0 + 1) _ rfl HOu21.out _ (([] : List Ent).length - 0) _ ((([] : List Ent).drop 0).flatMap encE) rfl Hlen5.out Hnu21.out Hone5.out ?c3 ?c4 ?c5 ?_)
                        case c3 => unfold maxLen; omega
                        case c4 => omega
                        case c5 => omega
                        intro vu22 u22 hown hgrow
                        have hbu22 : Below w3.heap.size w3 u22 := hbu21.grown hgrow hzu21 (fun q hq => own_row HOu21.out hq)
                        have HOu22 := Lib.hid (Hfin.out _ _ (by simpa using hown))
                        clear hown hgrow
                        go_wp2
                        refine Txt.RunPost.mk ?_
                        refine Txt.wpTr_done ?_
                        go_wp2
                        go_ret2
                        exact ⟨_, rfl, own_base HOu22.out (by omega), hbel3.trans (hbu22.mono (by omega))⟩
                      · exact Txt.wpTr_no
                    · exact Txt.wpTr_no
                  · exact Txt.wpTr_no
                · exact Txt.wpTr_no
            · skip
              refine Txt.wpTr_alt ?_ ?_
              · simp only [Txt.pick, List.getElem?_cons_succ, List.getElem?_cons_zero]
                go_wp2
                refine Txt.RunPost.mk ?_
                refine Txt.wpTr_gen (I := fun z => Below w3.heap.size w3 z ∧ u0.heap.size < z.heap.size ∧ z.heap[u0.heap.size]? = some (.cells #[.int .i64 p, .int .i64 f, .bool wb] 50 (0, 0))) ⟨hbu0.alloc hzu0 _, by simp, heap_alloc_new u0 _⟩ ?_
                rintro u23 ⟨hbu23, hsu23, hxu23⟩
                obtain ⟨hcu23, hfu23⟩ := bcell hbu23
                have hzu23 : w3.heap.size ≤ u23.heap.size := hbu23.size
                refine Txt.wpTr_alt ?_ ?_
                · simp only [Txt.pick, List.getElem?_cons_succ, List.getElem?_cons_zero]
                  go_wp2
                  refine Txt.RunPost.mk ?_
                  refine Txt.wpTr_gen (I := fun z => Below w3.heap.size w3 z ∧ u23.heap.size < z.heap.size ∧ z.ownsRow w3.heap.size 50 3 (.slice (some ⟨u23.heap.size, 0, none⟩) 0 0) 0 [] ∧ z.heap[u0.heap.size]? = some (.cells #[.int .i64 p, .int .i64 f, .bool wb] 50 (0, 0))) ⟨hbu23.alloc hzu23 _, by simp, own_empty _ _ _ _ hzu23, (Below.heap_alloc u23 _ _ (by omega)).trans hxu23⟩ ?_
                  rintro u24 ⟨hbu24, hsu24, hou24, hxu24⟩
                  obtain ⟨hcu24, hfu24⟩ := bcell hbu24
                  have hzu24 : w3.heap.size ≤ u24.heap.size := hbu24.size
                  have HOu24 := Lib.hid hou24; clear hou24
                  refine Txt.wpTr_alt ?_ ?_
                  · simp only [Txt.pick, List.getElem?_cons_succ, List.getElem?_cons_zero]
                    have Hnu24 := Lib.hid (Hnews.out u24 hbu24)
                    go_wp2_with (at_builtin; refine Ml.wpList_append_own2 _ rfl _ _ 23 23 rfl w3.heap.size 50 i0 (.agg #[.int .i64 0, .int .i64 0, .bool false]) 3 24 Try.underlying23 Try.underlying23 Hi.out Hz0.out Hz1.out Hz2.out rfl _ 0 [] rfl HOu24.out _ 0 _ ((([] : List Ent).take 0).flatMap encE) rfl Hlen4.out Hnu24.out Hone4.out ?c3 ?c4 ?c5 ?_)
                    case c3 => unfold maxLen; omega
                    case c4 => omega
                    case c5 => omega
                    intro vu25 u25 hown hgrow
                    refine Txt.RunPost.mk ?_
                    have hbu25 : Below w3.heap.size w3 u25 := hbu24.grown hgrow hzu24 (fun q hq => by simp [Value.ownBlock] at hq; omega)
                    have HOu25 : Hid (u25.ownsRow w3.heap.size 50 3 vu25 0 ((([] : List Ent).take 0).flatMap encE)) := Lib.hid (by simpa using hown)
                    have hxu25 := (hgrow.block u0.heap.size (by omega) (by simp [Value.ownBlock]; omega)).trans hxu24
                    obtain ⟨hcu25, hfu25⟩ := bcell hbu25
                    have hzu25 : w3.heap.size ≤ u25.heap.size := hbu25.size
                    have hsu25 : u24.heap.size ≤ u25.heap.size := hgrow.size
                    clear hown hgrow
                    refine Txt.wpTr_alt ?_ ?_
                    · simp only [Txt.pick, List.getElem?_cons_succ, List.getElem?_cons_zero]
                      have Hnu25 := Lib.hid (box_cells hxu25)
                      go_wp2_with (at_builtin; refine Ml.wpList_append_own2 _ rfl _ _ 23 23 rfl w3.heap.size 50 i0 (.agg #[.int .i64 0, .int .i64 0, .bool false]) 3 24 Try.underlying23 Try.underlying23 Hi.out Hz0.out Hz1.out Hz2.out rfl _ 0 _ rfl HOu25.out _ 1 1 (encE ⟨p, f, wb⟩) rfl rfl Hnu25.out Hone7.out ?c3 ?c4 ?c5 ?_)
                      case c3 => unfold maxLen; omega
                      case c4 => omega
                      case c5 => omega
                      intro vu26 u26 hown hgrow
                      refine Txt.RunPost.mk ?_
                      have hbu26 : Below w3.heap.size w3 u26 := hbu25.grown hgrow hzu25 (fun q hq => own_row HOu25.out hq)
                      have HOu26 : Hid (u26.ownsRow w3.heap.size 50 3 vu26 (0 + 1) ((([] : List Ent).take 0 ++ [(⟨p, f, wb⟩ : Ent)]).flatMap encE)) := Lib.hid (by simpa using hown)
                      obtain ⟨hcu26, hfu26⟩ := bcell hbu26
                      have hzu26 : w3.heap.size ≤ u26.heap.size := hbu26.size
                      clear hown hgrow
                      refine Txt.wpTr_alt ?_ ?_
                      · simp only [Txt.pick, List.getElem?_cons_succ, List.getElem?_cons_zero]
                        have Hnu26 := Lib.hid (Hnews2.out u26 hbu26)
                        go_wp2_with (at_builtin; refine Ml.wpList_append_own2 _ rfl _ _ 23 23 rfl w3.heap.size 50 i0 (.agg #[.int .i64 0, .int .i64 0, .bool false]) 3 24 Try.underlying23 Try.underlying23 Hi.out Hz0.out Hz1.out Hz2.out rfl _ (0 + 1) _ rfl HOu26.out _ (([] : List Ent).length - 0) _ ((([] : List Ent).drop 0).flatMap encE) rfl Hlen5.out Hnu26.out Hone5.out ?c3 ?c4 ?c5 ?_)
                        case c3 => unfold maxLen; omega
                        case c4 => omega
                        case c5 => omega
                        intro vu27 u27 hown hgrow
                        have hbu27 : Below w3.heap.size w3 u27 := hbu26.grown hgrow hzu26 (fun q hq => own_row HOu26.out hq)
                        have HOu27 := Lib.hid (Hfin.out _ _ (by simpa using hown))
                        clear hown hgrow
                        go_wp2
                        refine Txt.RunPost.mk ?_
                        refine Txt.wpTr_done ?_
                        go_wp2
                        go_ret2
                        exact ⟨_, rfl, own_base HOu27.out (by omega), hbel3.trans (hbu27.mono (by omega))⟩
                      · exact Txt.wpTr_no
                    · exact Txt.wpTr_no
                  · exact Txt.wpTr_no
                · exact Txt.wpTr_no
              · exact Txt.wpTr_no
          · exact Txt.wpTr_no
      · have Hat := Lib.hid (show ∀ (j : Nat) (u : Value), (l'.flatMap encE)[j]? = some u → w3.cell? ⟨g, j, none⟩ = some u from fun j u h => own_cell hown rfl h)
        have Hsl := SlE.of_own hown
        obtain ⟨a9, c9, e9, _, he9⟩ := Hsl
        cases e9
        have He := Lib.hid he9; clear he9 hown
        have Hsl := 0
        clear Hsl
        go_wp2
        go_loopw [7] (fun i wr => ∃ k : Nat, k ≤ l'.length ∧ i = .int .i64 k ∧ (∀ j, j < k → (ent l' j).p < p) ∧ Below w3.heap.size w3 wr) (fun i _ => l'.length - (intOf i).toNat)
        case atStart => exact ⟨0, Nat.zero_le _, rfl, fun j hj => absurd hj (Nat.not_lt_zero _), Below.refl _ _⟩
        case round =>
          obtain ⟨k, hk, rfl, hlow, hbel⟩ := hrel
          have Hlow := Lib.hid hlow; clear hlow
          obtain ⟨hc, hf⟩ := bcell hbel
          have hsz := hbel.size
          have hone : ∀ l : List Ent, ∀ u ∈ l.flatMap encE, u.oneCell' = true := encE_one
          have Hone4 := Lib.hid (hone (l'.take k))
          have Hone5 := Lib.hid (hone (l'.drop k))
          clear hone
          have Hlen4 := Lib.hid (show ((l'.take k).flatMap encE).length = k * 3 by rw [flat_length encE encE_len, List.length_take, Nat.min_eq_left hk])
          have Hlen5 := Lib.hid (show ((l'.drop k).flatMap encE).length = (l'.length - k) * 3 by rw [flat_length encE encE_len, List.length_drop])
          have Hnews := Lib.hid (show ∀ z : World, Below w3.heap.size w3 z → 0 < k → ∃ a', (some ⟨g, 0, none⟩ : Option Addr) = some a' ∧ ∀ j x, ((l'.take k).flatMap encE)[j]? = some x → z.cell? (a'.add j) = some x from fun z hz _ => ⟨_, rfl, fun j x hj => by
            rw [Addr.add_lit, Nat.zero_add]
            refine (hz.cell (p := ⟨g, j, none⟩) hg2).trans (Hat.out _ _ ?_)
            rw [← flat_take encE encE_len] at hj
            rw [List.getElem?_take] at hj
            split at hj
            · exact hj
            · cases hj⟩)
          have Hnews2 := Lib.hid (show ∀ z : World, Below w3.heap.size w3 z → 0 < l'.length - k → ∃ a', (some ⟨g, k * 3, none⟩ : Option Addr) = some a' ∧ ∀ j x, ((l'.drop k).flatMap encE)[j]? = some x → z.cell? (a'.add j) = some x from fun z hz _ => ⟨_, rfl, fun j x hj => by
            rw [Addr.add_lit]
            refine (hz.cell (p := ⟨g, k * 3 + j, none⟩) hg2).trans (Hat.out _ _ ?_)
            rw [← flat_drop encE encE_len, List.getElem?_drop] at hj
            exact hj⟩)
          have hb3 : Below w3.heap.size w3 wr := hbel
          by_cases hlt : k < l'.length
          · obtain ⟨b, off, hbo, hb, he⟩ := He.out (by omega)
            cases hbo
            obtain ⟨h0, _, _⟩ := he k hlt
            clear he
            simp only [Nat.zero_add] at h0
            have hck : ¬ cap1 = k := by omega
            by_cases hpk : (ent l' k).p < p
            · go_wp2
              refine Txt.wp_txt (by kernel_rfl) (by kernel_rfl) ?_
              go_wp2
              refine Txt.DrawPost.mk0 (by rfl) ?_
              go_wp2
              go_roundw
              case rel => exact ⟨k + 1, by omega, by go_num, fun j hj => by
                 by_cases hjk : j < k
                 · exact Hlow.out j hjk
                 · obtain rfl : j = k := by omega
                   assumption, hbel.drew⟩
              case measure => simp [intOf]; omega
            · have hfin0 := ins_at Hsrt.out (x := ⟨p, f, wb⟩) Hl'.out (k := k) hk Hlow.out (fun _ => by simp; omega)
              have Hfin := fin_of (w3.heap.size) hfin0
              clear hfin0
              go_wp2
              refine Txt.wp_txt (by kernel_rfl) (by kernel_rfl) ?_
              go_wp2
              refine Txt.DrawPost.mk0 (by rfl) ?_
              go_wp2
              refine Txt.wp_tree [1, 2, 3, 8, 9, 10] (.alt [0] (.alt [4] (.alt [5] (.alt [6] (.alt [7] (.alt [11, 12, 13] (.done) (.no)) (.no)) (.no)) (.no)) (.alt [5] (.alt [4] (.alt [6] (.alt [7] (.alt [11, 12, 13] (.done) (.no)) (.no)) (.no)) (.alt [6] (.alt [4] (.alt [7] (.alt [11, 12, 13] (.done) (.no)) (.no)) (.no)) (.no))) (.no))) (.alt [5] (.alt [0] (.alt [4] (.alt [6] (.alt [7] (.alt [11, 12, 13] (.done) (.no)) (.no)) (.no)) (.alt [6] (.alt [4] (.alt [7] (.alt [11, 12, 13] (.done) (.no)) (.no)) (.no)) (.no))) (.alt [6] (.alt [0] (.alt [4] (.alt [7] (.alt [11, 12, 13] (.done) (.no)) (.no)) (.no)) (.no)) (.no))) (.no))) (by kernel_rfl) (by kernel_rfl) (by kernel_rfl) (by kernel_rfl) ?_
              simp only [Txt.pick, List.getElem?_cons_succ, List.getElem?_cons_zero]
              go_wp2
              refine Txt.RunPost.mk ?_
              refine Txt.wpTr_gen (I := fun z => Below w3.heap.size w3 z) (by repeat (first | assumption | exact Below.refl _ _ | refine Below.drew ?_)) ?_
              intro u0 hbu0
              obtain ⟨hcu0, hfu0⟩ := bcell hbu0
              have hzu0 : w3.heap.size ≤ u0.heap.size := hbu0.size
              refine Txt.wpTr_alt ?_ ?_
              · simp only [Txt.pick, List.getElem?_cons_succ, List.getElem?_cons_zero]
                go_wp2
                refine Txt.RunPost.mk ?_
                refine Txt.wpTr_gen (I := fun z => Below w3.heap.size w3 z ∧ u0.heap.size < z.heap.size ∧ z.ownsRow w3.heap.size 50 3 (.slice (some ⟨u0.heap.size, 0, none⟩) 0 0) 0 []) ⟨hbu0.alloc hzu0 _, by simp, own_empty _ _ _ _ hzu0⟩ ?_
                rintro u28 ⟨hbu28, hsu28, hou28⟩
                obtain ⟨hcu28, hfu28⟩ := bcell hbu28
                have hzu28 : w3.heap.size ≤ u28.heap.size := hbu28.size
                have HOu28 := Lib.hid hou28; clear hou28
                refine Txt.wpTr_alt ?_ ?_
                · simp only [Txt.pick, List.getElem?_cons_succ, List.getElem?_cons_zero]
                  have Hnu28 := Lib.hid (Hnews.out u28 hbu28)
                  go_wp2_with (at_builtin; refine Ml.wpList_append_own2 _ rfl _ _ 23 23 rfl w3.heap.size 50 i0 (.agg #[.int .i64 0, .int .i64 0, .bool false]) 3 24 Try.underlying23 Try.underlying23 Hi.out Hz0.out Hz1.out Hz2.out rfl _ 0 [] rfl HOu28.out _ k _ ((l'.take k).flatMap encE) rfl Hlen4.out Hnu28.out Hone4.out ?c3 ?c4 ?c5 ?_)
                  case c3 => unfold maxLen; omega
                  case c4 => omega
                  case c5 => omega
                  intro vu29 u29 hown hgrow
                  refine Txt.RunPost.mk ?_
                  have hbu29 : Below w3.heap.size w3 u29 := hbu28.grown hgrow hzu28 (fun q hq => by simp [Value.ownBlock] at hq; omega)
                  have HOu29 : Hid (u29.ownsRow w3.heap.size 50 3 vu29 k ((l'.take k).flatMap encE)) := Lib.hid (by simpa using hown)
                  obtain ⟨hcu29, hfu29⟩ := bcell hbu29
                  have hzu29 : w3.heap.size ≤ u29.heap.size := hbu29.size
                  have hsu29 : u28.heap.size ≤ u29.heap.size := hgrow.size
                  clear hown hgrow
                  refine Txt.wpTr_alt ?_ ?_
                  · simp only [Txt.pick, List.getElem?_cons_succ, List.getElem?_cons_zero]
                    go_wp2
                    refine Txt.RunPost.mk ?_
                    refine Txt.wpTr_alt ?_ ?_
                    · simp only [Txt.pick, List.getElem?_cons_succ, List.getElem?_cons_zero]
                      go_wp2
                      refine Txt.RunPost.mk ?_
                      refine Txt.wpTr_gen (I := fun z => Below w3.heap.size w3 z ∧ u29.heap.size < z.heap.size ∧ z.heap[u29.heap.size]? = some (.cells #[.int .i64 p, .int .i64 f, .bool wb] 50 (0, 0)) ∧ z.ownsRow w3.heap.size 50 3 vu29 k ((l'.take k).flatMap encE)) ⟨hbu29.alloc hzu29 _, by simp, heap_alloc_new u29 _, HOu29.out.alloc _⟩ ?_
                      rintro u30 ⟨hbu30, hsu30, hxu30, hou30⟩
                      obtain ⟨hcu30, hfu30⟩ := bcell hbu30
                      have hzu30 : w3.heap.size ≤ u30.heap.size := hbu30.size
                      have HOu30 := Lib.hid hou30; clear hou30
                      refine Txt.wpTr_alt ?_ ?_
                      · simp only [Txt.pick, List.getElem?_cons_succ, List.getElem?_cons_zero]
                        have Hnu30 := Lib.hid (box_cells hxu30)
                        go_wp2_with (at_builtin; refine Ml.wpList_append_own2 _ rfl _ _ 23 23 rfl w3.heap.size 50 i0 (.agg #[.int .i64 0, .int .i64 0, .bool false]) 3 24 Try.underlying23 Try.underlying23 Hi.out Hz0.out Hz1.out Hz2.out rfl _ k _ rfl HOu30.out _ 1 1 (encE ⟨p, f, wb⟩) rfl rfl Hnu30.out Hone7.out ?c3 ?c4 ?c5 ?_)
                        case c3 => unfold maxLen; omega
                        case c4 => omega
                        case c5 => omega
                        intro vu31 u31 hown hgrow
                        refine Txt.RunPost.mk ?_
                        have hbu31 : Below w3.heap.size w3 u31 := hbu30.grown hgrow hzu30 (fun q hq => own_row HOu30.out hq)
                        have HOu31 : Hid (u31.ownsRow w3.heap.size 50 3 vu31 (k + 1) ((l'.take k ++ [(⟨p, f, wb⟩ : Ent)]).flatMap encE)) := Lib.hid (by simpa using hown)
                        obtain ⟨hcu31, hfu31⟩ := bcell hbu31
                        have hzu31 : w3.heap.size ≤ u31.heap.size := hbu31.size
                        clear hown hgrow
                        refine Txt.wpTr_alt ?_ ?_
                        · simp only [Txt.pick, List.getElem?_cons_succ, List.getElem?_cons_zero]
                          have Hnu31 := Lib.hid (Hnews2.out u31 hbu31)
                          go_wp2_with (at_builtin; refine Ml.wpList_append_own2 _ rfl _ _ 23 23 rfl w3.heap.size 50 i0 (.agg #[.int .i64 0, .int .i64 0, .bool false]) 3 24 Try.underlying23 Try.underlying23 Hi.out Hz0.out Hz1.out Hz2.out rfl _ (k + 1) _ rfl HOu31.out _ (l'.length - k) _ ((l'.drop k).flatMap encE) rfl Hlen5.out Hnu31.out Hone5.out ?c3 ?c4 ?c5 ?_)
                          case c3 => unfold maxLen; omega
                          case c4 => omega
                          case c5 => omega
                          intro vu32 u32 hown hgrow
                          have hbu32 : Below w3.heap.size w3 u32 := hbu31.grown hgrow hzu31 (fun q hq => own_row HOu31.out hq)
                          have HOu32 := Lib.hid (Hfin.out _ _ (by simpa using hown))
                          clear hown hgrow
                          go_wp2
                          refine Txt.RunPost.mk ?_
                          refine Txt.wpTr_done ?_
                          go_wp2
                          go_ret2
                          exact ⟨_, rfl, own_base HOu32.out (by omega), hbel3.trans (hbu32.mono (by omega))⟩
                        · exact Txt.wpTr_no
                      · exact Txt.wpTr_no
                    · exact Txt.wpTr_no
                  · exact Txt.wpTr_no
                · skip
                  refine Txt.wpTr_alt ?_ ?_
                  · simp only [Txt.pick, List.getElem?_cons_succ, List.getElem?_cons_zero]
                    go_wp2
                    refine Txt.RunPost.mk ?_
                    refine Txt.wpTr_alt ?_ ?_
                    · simp only [Txt.pick, List.getElem?_cons_succ, List.getElem?_cons_zero]
                      have Hnu28 := Lib.hid (Hnews.out u28 hbu28)
                      go_wp2_with (at_builtin; refine Ml.wpList_append_own2 _ rfl _ _ 23 23 rfl w3.heap.size 50 i0 (.agg #[.int .i64 0, .int .i64 0, .bool false]) 3 24 Try.underlying23 Try.underlying23 Hi.out Hz0.out Hz1.out Hz2.out rfl _ 0 [] rfl HOu28.out _ k _ ((l'.take k).flatMap encE) rfl Hlen4.out Hnu28.out Hone4.out ?c3 ?c4 ?c5 ?_)
                      case c3 => unfold maxLen; omega
                      case c4 => omega
                      case c5 => omega
                      intro vu33 u33 hown hgrow
                      refine Txt.RunPost.mk ?_
                      have hbu33 : Below w3.heap.size w3 u33 := hbu28.grown hgrow hzu28 (fun q hq => by simp [Value.ownBlock] at hq; omega)
                      have HOu33 : Hid (u33.ownsRow w3.heap.size 50 3 vu33 k ((l'.take k).flatMap encE)) := Lib.hid (by simpa using hown)
                      obtain ⟨hcu33, hfu33⟩ := bcell hbu33
                      have hzu33 : w3.heap.size ≤ u33.heap.size := hbu33.size
                      have hsu33 : u28.heap.size ≤ u33.heap.size := hgrow.size
                      clear hown hgrow
                      refine Txt.wpTr_alt ?_ ?_
                      · simp only [Txt.pick, List.getElem?_cons_succ, List.getElem?_cons_zero]
                        go_wp2
                        refine Txt.RunPost.mk ?_
                        refine Txt.wpTr_gen (I := fun z => Below w3.heap.size w3 z ∧ u33.heap.size < z.heap.size ∧ z.heap[u33.heap.size]? = some (.cells #[.int .i64 p, .int .i64 f, .bool wb] 50 (0, 0)) ∧ z.ownsRow w3.heap.size 50 3 vu33 k ((l'.take k).flatMap encE)) ⟨hbu33.alloc hzu33 _, by simp, heap_alloc_new u33 _, HOu33.out.alloc _⟩ ?_
                        rintro u34 ⟨hbu34, hsu34, hxu34, hou34⟩
                        obtain ⟨hcu34, hfu34⟩ := bcell hbu34
                        have hzu34 : w3.heap.size ≤ u34.heap.size := hbu34.size
                        have HOu34 := Lib.hid hou34; clear hou34
                        refine Txt.wpTr_alt ?_ ?_
                        · simp only [Txt.pick, List.getElem?_cons_succ, List.getElem?_cons_zero]
                          have Hnu34 := Lib.hid (box_cells hxu34)
                          go_wp2_with (at_builtin; refine Ml.wpList_append_own2 _ rfl _ _ 23 23 rfl w3.heap.size 50 i0 (.agg #[.int .i64 0, .int .i64 0, .bool false]) 3 24 Try.underlying23 Try.underlying23 Hi.out Hz0.out Hz1.out Hz2.out rfl _ k _ rfl HOu34.out _ 1 1 (encE ⟨p, f, wb⟩) rfl rfl Hnu34.out Hone7.out ?c3 ?c4 ?c5 ?_)
                          case c3 => unfold maxLen; omega
                          case c4 => omega
                          case c5 => omega
                          intro vu35 u35 hown hgrow
                          refine Txt.RunPost.mk ?_
                          have hbu35 : Below w3.heap.size w3 u35 := hbu34.grown hgrow hzu34 (fun q hq => own_row HOu34.out hq)
                          have HOu35 : Hid (u35.ownsRow w3.heap.size 50 3 vu35 (k + 1) ((l'.take k ++ [(⟨p, f, wb⟩ : Ent)]).flatMap encE)) := Lib.hid (by simpa using hown)
                          obtain ⟨hcu35, hfu35⟩ := bcell hbu35
                          have hzu35 : w3.heap.size ≤ u35.heap.size := hbu35.size
                          clear hown hgrow
                          refine Txt.wpTr_alt ?_ ?_
                          · simp only [Txt.pick, List.getElem?_cons_succ, List.getElem?_cons_zero]
                            have Hnu35 := Lib.hid (Hnews2.out u35 hbu35)
                            go_wp2_with (at_builtin; refine Ml.wpList_append_own2 _ rfl _ _ 23 23 rfl w3.heap.size 50 i0 (.agg #[.int .i64 0, .int .i64 0, .bool false]) 3 24 Try.underlying23 Try.underlying23 Hi.out Hz0.out Hz1.out Hz2.out rfl _ (k + 1) _ rfl HOu35.out _ (l'.length - k) _ ((l'.drop k).flatMap encE) rfl Hlen5.out Hnu35.out Hone5.out ?c3 ?c4 ?c5 ?_)
                            case c3 => unfold maxLen; omega
                            case c4 => omega
                            case c5 => omega
                            intro vu36 u36 hown hgrow
                            have hbu36 : Below w3.heap.size w3 u36 := hbu35.grown hgrow hzu35 (fun q hq => own_row HOu35.out hq)
                            have HOu36 := Lib.hid (Hfin.out _ _ (by simpa using hown))
                            clear hown hgrow
                            go_wp2
                            refine Txt.RunPost.mk ?_
                            refine Txt.wpTr_done ?_
                            go_wp2
                            go_ret2
                            exact ⟨_, rfl, own_base HOu36.out (by omega), hbel3.trans (hbu36.mono (by omega))⟩
                          · exact Txt.wpTr_no
                        · exact Txt.wpTr_no
                      · exact Txt.wpTr_no
                    · skip
                      refine Txt.wpTr_alt ?_ ?_
                      · simp only [Txt.pick, List.getElem?_cons_succ, List.getElem?_cons_zero]
                        go_wp2
                        refine Txt.RunPost.mk ?_
                        refine Txt.wpTr_gen (I := fun z => Below w3.heap.size w3 z ∧ u28.heap.size < z.heap.size ∧ z.heap[u28.heap.size]? = some (.cells #[.int .i64 p, .int .i64 f, .bool wb] 50 (0, 0)) ∧ z.ownsRow w3.heap.size 50 3 (.slice (some ⟨u0.heap.size, 0, none⟩) 0 0) 0 []) ⟨hbu28.alloc hzu28 _, by simp, heap_alloc_new u28 _, HOu28.out.alloc _⟩ ?_
                        rintro u37 ⟨hbu37, hsu37, hxu37, hou37⟩
                        obtain ⟨hcu37, hfu37⟩ := bcell hbu37
                        have hzu37 : w3.heap.size ≤ u37.heap.size := hbu37.size
                        have HOu37 := Lib.hid hou37; clear hou37
                        refine Txt.wpTr_alt ?_ ?_
                        · simp only [Txt.pick, List.getElem?_cons_succ, List.getElem?_cons_zero]
                          have Hnu37 := Lib.hid (Hnews.out u37 hbu37)
                          go_wp2_with (at_builtin; refine Ml.wpList_append_own2 _ rfl _ _ 23 23 rfl w3.heap.size 50 i0 (.agg #[.int .i64 0, .int .i64 0, .bool false]) 3 24 Try.underlying23 Try.underlying23 Hi.out Hz0.out Hz1.out Hz2.out rfl _ 0 [] rfl HOu37.out _ k _ ((l'.take k).flatMap encE) rfl Hlen4.out Hnu37.out Hone4.out ?c3 ?c4 ?c5 ?_)
                          case c3 => unfold maxLen; omega
                          case c4 => omega
                          case c5 => omega
                          intro vu38 u38 hown hgrow
                          refine Txt.RunPost.mk ?_
                          have hbu38 : Below w3.heap.size w3 u38 := hbu37.grown hgrow hzu37 (fun q hq => by simp [Value.ownBlock] at hq; omega)
                          have HOu38 : Hid (u38.ownsRow w3.heap.size 50 3 vu38 k ((l'.take k).flatMap encE)) := Lib.hid (by simpa using hown)
                          have hxu38 := (hgrow.block u28.heap.size (by omega) (by simp [Value.ownBlock]; omega)).trans hxu37
                          obtain ⟨hcu38, hfu38⟩ := bcell hbu38
                          have hzu38 : w3.heap.size ≤ u38.heap.size := hbu38.size
                          have hsu38 : u37.heap.size ≤ u38.heap.size := hgrow.size
                          clear hown hgrow
                          refine Txt.wpTr_alt ?_ ?_
                          · simp only [Txt.pick, List.getElem?_cons_succ, List.getElem?_cons_zero]
                            have Hnu38 := Lib.hid (box_cells hxu38)
                            go_wp2_with (at_builtin; refine Ml.wpList_append_own2 _ rfl _ _ 23 23 rfl w3.heap.size 50 i0 (.agg #[.int .i64 0, .int .i64 0, .bool false]) 3 24 Try.underlying23 Try.underlying23 Hi.out Hz0.out Hz1.out Hz2.out rfl _ k _ rfl HOu38.out _ 1 1 (encE ⟨p, f, wb⟩) rfl rfl Hnu38.out Hone7.out ?c3 ?c4 ?c5 ?_)
                            case c3 => unfold maxLen; omega
                            case c4 => omega
                            case c5 => omega
                            intro vu39 u39 hown hgrow
                            refine Txt.RunPost.mk ?_
                            have hbu39 : Below w3.heap.size w3 u39 := hbu38.grown hgrow hzu38 (fun q hq => own_row HOu38.out hq)
                            have HOu39 : Hid (u39.ownsRow w3.heap.size 50 3 vu39 (k + 1) ((l'.take k ++ [(⟨p, f, wb⟩ : Ent)]).flatMap encE)) := Lib.hid (by simpa using hown)
                            obtain ⟨hcu39, hfu39⟩ := bcell hbu39
                            have hzu39 : w3.heap.size ≤ u39.heap.size := hbu39.size
                            clear hown hgrow
                            refine Txt.wpTr_alt ?_ ?_
                            · simp only [Txt.pick, List.getElem?_cons_succ, List.getElem?_cons_zero]
                              have Hnu39 := Lib.hid (Hnews2.out u39 hbu39)
                              go_wp2_with (at_builtin; refine Ml.wpList_append_own2 _ rfl _ _ 23 23 rfl w3.heap.size 50 i0 (.agg #[.int .i64 0, .int .i64 0, .bool false]) 3 24 Try.underlying23 Try.underlying23 Hi.out Hz0.out Hz1.out Hz2.out rfl _ (k + 1) _ rfl HOu39.out _ (l'.length - k) _ ((l'.drop k).flatMap encE) rfl Hlen5.out Hnu39.out Hone5.out ?c3 ?c4 ?c5 ?_)
                              case c3 => unfold maxLen; omega
                              case c4 => omega
                              case c5 => omega
                              intro vu40 u40 hown hgrow
                              have hbu40 : Below w3.heap.size w3 u40 := hbu39.grown hgrow hzu39 (fun q hq => own_row HOu39.out hq)
                              have HOu40 := Lib.hid (Hfin.out _ _ (by simpa using hown))
                              clear hown hgrow
                              go_wp2
                              refine Txt.RunPost.mk ?_
                              refine Txt.wpTr_done ?_
                              go_wp2
                              go_ret2
                              exact ⟨_, rfl, own_base HOu40.out (by omega), hbel3.trans (hbu40.mono (by omega))⟩
                            · exact Txt.wpTr_no
                          · exact Txt.wpTr_no
                        · exact Txt.wpTr_no
                      · exact Txt.wpTr_no
                  · exact Txt.wpTr_no
              · skip
                refine Txt.wpTr_alt ?_ ?_
                · simp only [Txt.pick, List.getElem?_cons_succ, List.getElem?_cons_zero]
                  go_wp2
                  refine Txt.RunPost.mk ?_
                  refine Txt.wpTr_alt ?_ ?_
                  · simp only [Txt.pick, List.getElem?_cons_succ, List.getElem?_cons_zero]
                    go_wp2
                    refine Txt.RunPost.mk ?_
                    refine Txt.wpTr_gen (I := fun z => Below w3.heap.size w3 z ∧ u0.heap.size < z.heap.size ∧ z.ownsRow w3.heap.size 50 3 (.slice (some ⟨u0.heap.size, 0, none⟩) 0 0) 0 []) ⟨hbu0.alloc hzu0 _, by simp, own_empty _ _ _ _ hzu0⟩ ?_
                    rintro u41 ⟨hbu41, hsu41, hou41⟩
                    obtain ⟨hcu41, hfu41⟩ := bcell hbu41
                    have hzu41 : w3.heap.size ≤ u41.heap.size := hbu41.size
                    have HOu41 := Lib.hid hou41; clear hou41
                    refine Txt.wpTr_alt ?_ ?_
                    · simp only [Txt.pick, List.getElem?_cons_succ, List.getElem?_cons_zero]
                      have Hnu41 := Lib.hid (Hnews.out u41 hbu41)
                      go_wp2_with (at_builtin; refine Ml.wpList_append_own2 _ rfl _ _ 23 23 rfl w3.heap.size 50 i0 (.agg #[.int .i64 0, .int .i64 0, .bool false]) 3 24 Try.underlying23 Try.underlying23 Hi.out Hz0.out Hz1.out Hz2.out rfl _ 0 [] rfl HOu41.out _ k _ ((l'.take k).flatMap encE) rfl Hlen4.out Hnu41.out Hone4.out ?c3 ?c4 ?c5 ?_)
                      case c3 => unfold maxLen; omega
                      case c4 => omega
                      case c5 => omega
                      intro vu42 u42 hown hgrow
                      refine Txt.RunPost.mk ?_
                      have hbu42 : Below w3.heap.size w3 u42 := hbu41.grown hgrow hzu41 (fun q hq => by simp [Value.ownBlock] at hq; omega)
                      have HOu42 : Hid (u42.ownsRow w3.heap.size 50 3 vu42 k ((l'.take k).flatMap encE)) := Lib.hid (by simpa using hown)
                      obtain ⟨hcu42, hfu42⟩ := bcell hbu42
                      have hzu42 : w3.heap.size ≤ u42.heap.size := hbu42.size
                      have hsu42 : u41.heap.size ≤ u42.heap.size := hgrow.size
                      clear hown hgrow
                      refine Txt.wpTr_alt ?_ ?_
                      · simp only [Txt.pick, List.getElem?_cons_succ, List.getElem?_cons_zero]
                        go_wp2
                        refine Txt.RunPost.mk ?_
                        refine Txt.wpTr_gen (I := fun z => Below w3.heap.size w3 z ∧ u42.heap.size < z.heap.size ∧ z.heap[u42.heap.size]? = some (.cells #[.int .i64 p, .int .i64 f, .bool wb] 50 (0, 0)) ∧ z.ownsRow w3.heap.size 50 3 vu42 k ((l'.take k).flatMap encE)) ⟨hbu42.alloc hzu42 _, by simp, heap_alloc_new u42 _, HOu42.out.alloc _⟩ ?_
                        rintro u43 ⟨hbu43, hsu43, hxu43, hou43⟩
                        obtain ⟨hcu43, hfu43⟩ := bcell hbu43
                        have hzu43 : w3.heap.size ≤ u43.heap.size := hbu43.size
                        have HOu43 := Lib.hid hou43; clear hou43
                        refine Txt.wpTr_alt ?_ ?_
                        · simp only [Txt.pick, List.getElem?_cons_succ, List.getElem?_cons_zero]
                          have Hnu43 := Lib.hid (box_cells hxu43)
                          go_wp2_with (at_builtin; refine Ml.wpList_append_own2 _ rfl _ _ 23 23 rfl w3.heap.size 50 i0 (.agg #[.int .i64 0, .int .i64 0, .bool false]) 3 24 Try.underlying23 Try.underlying23 Hi.out Hz0.out Hz1.out Hz2.out rfl _ k _ rfl HOu43.out _ 1 1 (encE ⟨p, f, wb⟩) rfl rfl Hnu43.out Hone7.out ?c3 ?c4 ?c5 ?_)
                          case c3 => unfold maxLen; omega
                          case c4 => omega
                          case c5 => omega
                          intro vu44 u44 hown hgrow
                          refine Txt.RunPost.mk ?_
                          have hbu44 : Below w3.heap.size w3 u44 := hbu43.grown hgrow hzu43 (fun q hq => own_row HOu43.out hq)
                          have HOu44 : Hid (u44.ownsRow w3.heap.size 50 3 vu44 (k + 1) ((l'.take k ++ [(⟨p, f, wb⟩ : Ent)]).flatMap encE)) := Lib.hid (by simpa using hown)
                          obtain ⟨hcu44, hfu44⟩ := bcell hbu44
                          have hzu44 : w3.heap.size ≤ u44.heap.size := hbu44.size
                          clear hown hgrow
                          refine Txt.wpTr_alt ?_ ?_
                          · simp only [Txt.pick, List.getElem?_cons_succ, List.getElem?_cons_zero]
                            have Hnu44 := Lib.hid (Hnews2.out u44 hbu44)
                            go_wp2_with (at_builtin; refine Ml.wpList_append_own2 _ rfl _ _ 23 23 rfl w3.heap.size 50 i0 (.agg #[.int .i64 0, .int .i64 0, .bool false]) 3 24 Try.underlying23 Try.underlying23 Hi.out Hz0.out Hz1.out Hz2.out rfl _ (k + 1) _ rfl HOu44.out _ (l'.length - k) _ ((l'.drop k).flatMap encE) rfl Hlen5.out Hnu44.out Hone5.out ?c3 ?c4 ?c5 ?_)
                            case c3 => unfold maxLen; omega
                            case c4 => omega
                            case c5 => omega
                            intro vu45 u45 hown hgrow
                            have hbu45 : Below w3.heap.size w3 u45 := hbu44.grown hgrow hzu44 (fun q hq => own_row HOu44.out hq)
                            have HOu45 := Lib.hid (Hfin.out _ _ (by simpa using hown))
                            clear hown hgrow
                            go_wp2
                            refine Txt.RunPost.mk ?_
                            refine Txt.wpTr_done ?_
                            go_wp2
                            go_ret2
                            exact ⟨_, rfl, own_base HOu45.out (by omega), hbel3.trans (hbu45.mono (by omega))⟩
                          · exact Txt.wpTr_no
                        · exact Txt.wpTr_no
                      · exact Txt.wpTr_no
                    · skip
                      refine Txt.wpTr_alt ?_ ?_
                      · simp only [Txt.pick, List.getElem?_cons_succ, List.getElem?_cons_zero]
                        go_wp2
                        refine Txt.RunPost.mk ?_
                        refine Txt.wpTr_gen (I := fun z => Below w3.heap.size w3 z ∧ u41.heap.size < z.heap.size ∧ z.heap[u41.heap.size]? = some (.cells #[.int .i64 p, .int .i64 f, .bool wb] 50 (0, 0)) ∧ z.ownsRow w3.heap.size 50 3 (.slice (some ⟨u0.heap.size, 0, none⟩) 0 0) 0 []) ⟨hbu41.alloc hzu41 _, by simp, heap_alloc_new u41 _, HOu41.out.alloc _⟩ ?_
                        rintro u46 ⟨hbu46, hsu46, hxu46, hou46⟩
                        obtain ⟨hcu46, hfu46⟩ := bcell hbu46
                        have hzu46 : w3.heap.size ≤ u46.heap.size := hbu46.size
                        have HOu46 := Lib.hid hou46; clear hou46
                        refine Txt.wpTr_alt ?_ ?_
                        · simp only [Txt.pick, List.getElem?_cons_succ, List.getElem?_cons_zero]
                          have Hnu46 := Lib.hid (Hnews.out u46 hbu46)
                          go_wp2_with (at_builtin; refine Ml.wpList_append_own2 _ rfl _ _ 23 23 rfl w3.heap.size 50 i0 (.agg #[.int .i64 0, .int .i64 0, .bool false]) 3 24 Try.underlying23 Try.underlying23 Hi.out Hz0.out Hz1.out Hz2.out rfl _ 0 [] rfl HOu46.out _ k _ ((l'.take k).flatMap encE) rfl Hlen4.out Hnu46.out Hone4.out ?c3 ?c4 ?c5 ?_)
                          case c3 => unfold maxLen; omega
                          case c4 => omega
                          case c5 => omega
                          intro vu47 u47 hown hgrow
                          refine Txt.RunPost.mk ?_
                          have hbu47 : Below w3.heap.size w3 u47 := hbu46.grown hgrow hzu46 (fun q hq => by simp [Value.ownBlock] at hq; omega)
                          have HOu47 : Hid (u47.ownsRow w3.heap.size 50 3 vu47 k ((l'.take k).flatMap encE)) := Lib.hid (by simpa using hown)
                          have hxu47 := (hgrow.block u41.heap.size (by omega) (by simp [Value.ownBlock]; omega)).trans hxu46
                          obtain ⟨hcu47, hfu47⟩ := bcell hbu47
                          have hzu47 : w3.heap.size ≤ u47.heap.size := hbu47.size
                          have hsu47 : u46.heap.size ≤ u47.heap.size := hgrow.size
                          clear hown hgrow
                          refine Txt.wpTr_alt ?_ ?_
                          · simp only [Txt.pick, List.getElem?_cons_succ, List.getElem?_cons_zero]
                            have Hnu47 := Lib.hid (box_cells hxu47)
                            go_wp2_with (at_builtin; refine Ml.wpList_append_own2 _ rfl _ _ 23 23 rfl w3.heap.size 50 i0 (.agg #[.int .i64 0, .int .i64 0, .bool false]) 3 24 Try.underlying23 Try.underlying23 Hi.out Hz0.out Hz1.out Hz2.out rfl _ k _ rfl HOu47.out _ 1 1 (encE ⟨p, f, wb⟩) rfl rfl Hnu47.out Hone7.out ?c3 ?c4 ?c5 ?_)
                            case c3 => unfold maxLen; omega
                            case c4 => omega
                            case c5 => omega
                            intro vu48 u48 hown hgrow
                            refine Txt.RunPost.mk ?_
                            have hbu48 : Below w3.heap.size w3 u48 := hbu47.grown hgrow hzu47 (fun q hq => own_row HOu47.out hq)
                            have HOu48 : Hid (u48.ownsRow w3.heap.size 50 3 vu48 (k + 1) ((l'.take k ++ [(⟨p, f, wb⟩ : Ent)]).flatMap encE)) := Lib.hid (by simpa using hown)
                            obtain ⟨hcu48, hfu48⟩ := bcell hbu48
                            have hzu48 : w3.heap.size ≤ u48.heap.size := hbu48.size
                            clear hown hgrow
                            refine Txt.wpTr_alt ?_ ?_
                            · simp only [Txt.pick, List.getElem?_cons_succ, List.getElem?_cons_zero]
                              have Hnu48 := Lib.hid (Hnews2.out u48 hbu48)
                              go_wp2_with (at_builtin; refine Ml.wpList_append_own2 _ rfl _ _ 23 23 rfl w3.heap.size 50 i0 (.agg #[.int .i64 0, .int .i64 0, .bool false]) 3 24 Try.underlying23 Try.underlying23 Hi.out Hz0.out Hz1.out Hz2.out rfl _ (k + 1) _ rfl HOu48.out _ (l'.length - k) _ ((l'.drop k).flatMap encE) rfl Hlen5.out Hnu48.out Hone5.out ?c3 ?c4 ?c5 ?_)
                              case c3 => unfold maxLen; omega
                              case c4 => omega
                              case c5 => omega
                              intro vu49 u49 hown hgrow
                              have hbu49 : Below w3.heap.size w3 u49 := hbu48.grown hgrow hzu48 (fun q hq => own_row HOu48.out hq)
                              have HOu49 := Lib.hid (Hfin.out _ _ (by simpa using hown))
                              clear hown hgrow
                              go_wp2
                              refine Txt.RunPost.mk ?_
                              refine Txt.wpTr_done ?_
                              go_wp2
                              go_ret2
                              exact ⟨_, rfl, own_base HOu49.out (by omega), hbel3.trans (hbu49.mono (by omega))⟩
                            · exact Txt.wpTr_no
                          · exact Txt.wpTr_no
                        · exact Txt.wpTr_no
                      · exact Txt.wpTr_no
                  · skip
                    refine Txt.wpTr_alt ?_ ?_
                    · simp only [Txt.pick, List.getElem?_cons_succ, List.getElem?_cons_zero]
                      go_wp2
                      refine Txt.RunPost.mk ?_
                      refine Txt.wpTr_gen (I := fun z => Below w3.heap.size w3 z ∧ u0.heap.size < z.heap.size ∧ z.heap[u0.heap.size]? = some (.cells #[.int .i64 p, .int .i64 f, .bool wb] 50 (0, 0))) ⟨hbu0.alloc hzu0 _, by simp, heap_alloc_new u0 _⟩ ?_
                      rintro u50 ⟨hbu50, hsu50, hxu50⟩
                      obtain ⟨hcu50, hfu50⟩ := bcell hbu50
                      have hzu50 : w3.heap.size ≤ u50.heap.size := hbu50.size
                      refine Txt.wpTr_alt ?_ ?_
                      · simp only [Txt.pick, List.getElem?_cons_succ, List.getElem?_cons_zero]
                        go_wp2
                        refine Txt.RunPost.mk ?_
                        refine Txt.wpTr_gen (I := fun z => Below w3.heap.size w3 z ∧ u50.heap.size < z.heap.size ∧ z.ownsRow w3.heap.size 50 3 (.slice (some ⟨u50.heap.size, 0, none⟩) 0 0) 0 [] ∧ z.heap[u0.heap.size]? = some (.cells #[.int .i64 p, .int .i64 f, .bool wb] 50 (0, 0))) ⟨hbu50.alloc hzu50 _, by simp, own_empty _ _ _ _ hzu50, (Below.heap_alloc u50 _ _ (by omega)).trans hxu50⟩ ?_
                        rintro u51 ⟨hbu51, hsu51, hou51, hxu51⟩
                        obtain ⟨hcu51, hfu51⟩ := bcell hbu51
                        have hzu51 : w3.heap.size ≤ u51.heap.size := hbu51.size
                        have HOu51 := Lib.hid hou51; clear hou51
                        refine Txt.wpTr_alt ?_ ?_
                        · simp only [Txt.pick, List.getElem?_cons_succ, List.getElem?_cons_zero]
                          have Hnu51 := Lib.hid (Hnews.out u51 hbu51)
                          go_wp2_with (at_builtin; refine Ml.wpList_append_own2 _ rfl _ _ 23 23 rfl w3.heap.size 50 i0 (.agg #[.int .i64 0, .int .i64 0, .bool false]) 3 24 Try.underlying23 Try.underlying23 Hi.out Hz0.out Hz1.out Hz2.out rfl _ 0 [] rfl HOu51.out _ k _ ((l'.take k).flatMap encE) rfl Hlen4.out Hnu51.out Hone4.out ?c3 ?c4 ?c5 ?_)
                          case c3 => unfold maxLen; omega
                          case c4 => omega
                          case c5 => omega
                          intro vu52 u52 hown hgrow
                          refine Txt.RunPost.mk ?_
                          have hbu52 : Below w3.heap.size w3 u52 := hbu51.grown hgrow hzu51 (fun q hq => by simp [Value.ownBlock] at hq; omega)
                          have HOu52 : Hid (u52.ownsRow w3.heap.size 50 3 vu52 k ((l'.take k).flatMap encE)) := Lib.hid (by simpa using hown)
                          have hxu52 := (hgrow.block u0.heap.size (by omega) (by simp [Value.ownBlock]; omega)).trans hxu51
                          obtain ⟨hcu52, hfu52⟩ := bcell hbu52
                          have hzu52 : w3.heap.size ≤ u52.heap.size := hbu52.size
                          have hsu52 : u51.heap.size ≤ u52.heap.size := hgrow.size
                          clear hown hgrow
                          refine Txt.wpTr_alt ?_ ?_
                          · simp only [Txt.pick, List.getElem?_cons_succ, List.getElem?_cons_zero]
                            have Hnu52 := Lib.hid (box_cells hxu52)
                            go_wp2_with (at_builtin; refine Ml.wpList_append_own2 _ rfl _ _ 23 23 rfl w3.heap.size 50 i0 (.agg #[.int .i64 0, .int .i64 0, .bool false]) 3 24 Try.underlying23 Try.underlying23 Hi.out Hz0.out Hz1.out Hz2.out rfl _ k _ rfl HOu52.out _ 1 1 (encE ⟨p, f, wb⟩) rfl rfl Hnu52.out Hone7.out ?c3 ?c4 ?c5 ?_)
                            case c3 => unfold maxLen; omega
                            case c4 => omega
                            case c5 => omega
                            intro vu53 u53 hown hgrow
                            refine Txt.RunPost.mk ?_
                            have hbu53 : Below w3.heap.size w3 u53 := hbu52.grown hgrow hzu52 (fun q hq => own_row HOu52.out hq)
                            have HOu53 : Hid (u53.ownsRow w3.heap.size 50 3 vu53 (k + 1) ((l'.take k ++ [(⟨p, f, wb⟩ : Ent)]).flatMap encE)) := Lib.hid (by simpa using hown)
                            obtain ⟨hcu53, hfu53⟩ := bcell hbu53
                            have hzu53 : w3.heap.size ≤ u53.heap.size := hbu53.size
                            clear hown hgrow
                            refine Txt.wpTr_alt ?_ ?_
                            · simp only [Txt.pick, List.getElem?_cons_succ, List.getElem?_cons_zero]
                              have Hnu53 := Lib.hid (Hnews2.out u53 hbu53)
                              go_wp2_with (at_builtin; refine Ml.wpList_append_own2 _ rfl _ _ 23 23 rfl w3.heap.size 50 i0 (.agg #[.int .i64 0, .int .i64 0, .bool false]) 3 24 Try.underlying23 Try.underlying23 Hi.out Hz0.out Hz1.out Hz2.out rfl _ (k + 1) _ rfl HOu53.out _ (l'.length - k) _ ((l'.drop k).flatMap encE) rfl Hlen5.out Hnu53.out Hone5.out ?c3 ?c4 ?c5 ?_)
                              case c3 => unfold maxLen; omega
                              case c4 => omega
                              case c5 => omega
                              intro vu54 u54 hown hgrow
                              have hbu54 : Below w3.heap.size w3 u54 := hbu53.grown hgrow hzu53 (fun q hq => own_row HOu53.out hq)
                              have HOu54 := Lib.hid (Hfin.out _ _ (by simpa using hown))
                              clear hown hgrow
                              go_wp2
                              refine Txt.RunPost.mk ?_
                              refine Txt.wpTr_done ?_
                              go_wp2
                              go_ret2
                              exact ⟨_, rfl, own_base HOu54.out (by omega), hbel3.trans (hbu54.mono (by omega))⟩
                            · exact Txt.wpTr_no
                          · exact Txt.wpTr_no
                        · exact Txt.wpTr_no
                      · exact Txt.wpTr_no
                    · exact Txt.wpTr_no
                · exact Txt.wpTr_no
          · obtain rfl : k = l'.length := by omega
            have hfin0 := ins_at Hsrt.out (x := ⟨p, f, wb⟩) Hl'.out (k := l'.length) hk Hlow.out (fun h => absurd h (Nat.lt_irrefl _))
            have Hfin := fin_of (w3.heap.size) hfin0
            clear hfin0
            by_cases hck : cap1 = l'.length
            all_goals
              go_wp2
              refine Txt.wp_txt (by kernel_rfl) (by kernel_rfl) ?_
              go_wp2
              refine Txt.DrawPost.mk0 (by rfl) ?_
              go_wp2
              refine Txt.wp_tree [1, 2, 3, 8, 9, 10] (.alt [0] (.alt [4] (.alt [5] (.alt [6] (.alt [7] (.alt [11, 12, 13] (.done) (.no)) (.no)) (.no)) (.no)) (.alt [5] (.alt [4] (.alt [6] (.alt [7] (.alt [11, 12, 13] (.done) (.no)) (.no)) (.no)) (.alt [6] (.alt [4] (.alt [7] (.alt [11, 12, 13] (.done) (.no)) (.no)) (.no)) (.no))) (.no))) (.alt [5] (.alt [0] (.alt [4] (.alt [6] (.alt [7] (.alt [11, 12, 13] (.done) (.no)) (.no)) (.no)) (.alt [6] (.alt [4] (.alt [7] (.alt [11, 12, 13] (.done) (.no)) (.no)) (.no)) (.no))) (.alt [6] (.alt [0] (.alt [4] (.alt [7] (.alt [11, 12, 13] (.done) (.no)) (.no)) (.no)) (.no)) (.no))) (.no))) (by kernel_rfl) (by kernel_rfl) (by kernel_rfl) (by kernel_rfl) ?_
              simp only [Txt.pick, List.getElem?_cons_succ, List.getElem?_cons_zero]
              go_wp2
              refine Txt.RunPost.mk ?_
              refine Txt.wpTr_gen (I := fun z => Below w3.heap.size w3 z) (by repeat (first | assumption | exact Below.refl _ _ | refine Below.drew ?_)) ?_
              intro u0 hbu0
              obtain ⟨hcu0, hfu0⟩ := bcell hbu0
              have hzu0 : w3.heap.size ≤ u0.heap.size := hbu0.size
              refine Txt.wpTr_alt ?_ ?_
              · simp only [Txt.pick, List.getElem?_cons_succ, List.getElem?_cons_zero]
                go_wp2
                refine Txt.RunPost.mk ?_
                refine Txt.wpTr_gen (I := fun z => Below w3.heap.size w3 z ∧ u0.heap.size < z.heap.size ∧ z.ownsRow w3.heap.size 50 3 (.slice (some ⟨u0.heap.size, 0, none⟩) 0 0) 0 []) ⟨hbu0.alloc hzu0 _, by simp, own_empty _ _ _ _ hzu0⟩ ?_
                rintro u55 ⟨hbu55, hsu55, hou55⟩
                obtain ⟨hcu55, hfu55⟩ := bcell hbu55
                have hzu55 : w3.heap.size ≤ u55.heap.size := hbu55.size
                have HOu55 := Lib.hid hou55; clear hou55
                refine Txt.wpTr_alt ?_ ?_
                · simp only [Txt.pick, List.getElem?_cons_succ, List.getElem?_cons_zero]
                  have Hnu55 := Lib.hid (Hnews.out u55 hbu55)
                  go_wp2_with (at_builtin; refine Ml.wpList_append_own2 _ rfl _ _ 23 23 rfl w3.heap.size 50 i0 (.agg #[.int .i64 0, .int .i64 0, .bool false]) 3 24 Try.underlying23 Try.underlying23 Hi.out Hz0.out Hz1.out Hz2.out rfl _ 0 [] rfl HOu55.out _ l'.length _ ((l'.take l'.length).flatMap encE) rfl Hlen4.out Hnu55.out Hone4.out ?c3 ?c4 ?c5 ?_)
                  case c3 => unfold maxLen; omega
                  case c4 => omega
                  case c5 => omega
                  intro vu56 u56 hown hgrow
                  refine Txt.RunPost.mk ?_
                  have hbu56 : Below w3.heap.size w3 u56 := hbu55.grown hgrow hzu55 (fun q hq => by simp [Value.ownBlock] at hq; omega)
                  have HOu56 : Hid (u56.ownsRow w3.heap.size 50 3 vu56 l'.length ((l'.take l'.length).flatMap encE)) := Lib.hid (by simpa using hown)
                  obtain ⟨hcu56, hfu56⟩ := bcell hbu56
                  have hzu56 : w3.heap.size ≤ u56.heap.size := hbu56.size
                  have hsu56 : u55.heap.size ≤ u56.heap.size := hgrow.size
                  clear hown hgrow
                  refine Txt.wpTr_alt ?_ ?_
                  · simp only [Txt.pick, List.getElem?_cons_succ, List.getElem?_cons_zero]
                    go_wp2
                    refine Txt.RunPost.mk ?_
                    refine Txt.wpTr_alt ?_ ?_
                    · simp only [Txt.pick, List.getElem?_cons_succ, List.getElem?_cons_zero]
                      go_wp2
                      refine Txt.RunPost.mk ?_
                      refine Txt.wpTr_gen (I := fun z => Below w3.heap.size w3 z ∧ u56.heap.size < z.heap.size ∧ z.heap[u56.heap.size]? = some (.cells #[.int .i64 p, .int .i64 f, .bool wb] 50 (0, 0)) ∧ z.ownsRow w3.heap.size 50 3 vu56 l'.length ((l'.take l'.length).flatMap encE)) ⟨hbu56.alloc hzu56 _, by simp, heap_alloc_new u56 _, HOu56.out.alloc _⟩ ?_
                      rintro u57 ⟨hbu57, hsu57, hxu57, hou57⟩
                      obtain ⟨hcu57, hfu57⟩ := bcell hbu57
                      have hzu57 : w3.heap.size ≤ u57.heap.size := hbu57.size
                      have HOu57 := Lib.hid hou57; clear hou57
                      refine Txt.wpTr_alt ?_ ?_
                      · simp only [Txt.pick, List.getElem?_cons_succ, List.getElem?_cons_zero]
                        have Hnu57 := Lib.hid (box_cells hxu57)
                        go_wp2_with (at_builtin; refine Ml.wpList_append_own2 _ rfl _ _ 23 23 rfl w3.heap.size 50 i0 (.agg #[.int .i64 0, .int .i64 0, .bool false]) 3 24 Try.underlying23 Try.underlying23 Hi.out Hz0.out Hz1.out Hz2.out rfl _ l'.length _ rfl HOu57.out _ 1 1 (encE ⟨p, f, wb⟩) rfl rfl Hnu57.out Hone7.out ?c3 ?c4 ?c5 ?_)
                        case c3 => unfold maxLen; omega
                        case c4 => omega
                        case c5 => omega
                        intro vu58 u58 hown hgrow
                        refine Txt.RunPost.mk ?_
                        have hbu58 : Below w3.heap.size w3 u58 := hbu57.grown hgrow hzu57 (fun q hq => own_row HOu57.out hq)
                        have HOu58 : Hid (u58.ownsRow w3.heap.size 50 3 vu58 (l'.length + 1) ((l'.take l'.length ++ [(⟨p, f, wb⟩ : Ent)]).flatMap encE)) := Lib.hid (by simpa using hown)
                        obtain ⟨hcu58, hfu58⟩ := bcell hbu58
                        have hzu58 : w3.heap.size ≤ u58.heap.size := hbu58.size
                        clear hown hgrow
                        refine Txt.wpTr_alt ?_ ?_
                        · simp only [Txt.pick, List.getElem?_cons_succ, List.getElem?_cons_zero]
                          go_wp2_with (at_builtin; refine Ml.wpList_append_own2 _ rfl _ _ 23 23 rfl w3.heap.size 50 i0 (.agg #[.int .i64 0, .int .i64 0, .bool false]) 3 24 Try.underlying23 Try.underlying23 Hi.out Hz0.out Hz1.out Hz2.out rfl _ (l'.length + 1) _ rfl HOu58.out _ 0 _ ([] : List Value) rfl rfl (fun h => absurd h (Nat.lt_irrefl _)) (fun u h => by cases h) ?c3 ?c4 ?c5 ?_)
                          case c3 => unfold maxLen; omega
                          case c4 => omega
                          case c5 => omega
                          intro vu59 u59 hown hgrow
                          have hbu59 : Below w3.heap.size w3 u59 := hbu58.grown hgrow hzu58 (fun q hq => own_row HOu58.out hq)
                          have HOu59 := Lib.hid (Hfin.out _ _ (by simpa using hown))
                          clear hown hgrow
                          go_wp2
                          refine Txt.RunPost.mk ?_
                          refine Txt.wpTr_done ?_
                          go_wp2
                          go_ret2
                          exact ⟨_, rfl, own_base HOu59.out (by omega), hbel3.trans (hbu59.mono (by omega))⟩
                        · exact Txt.wpTr_no
                      · exact Txt.wpTr_no
                    · exact Txt.wpTr_no
                  · exact Txt.wpTr_no
                · skip
                  refine Txt.wpTr_alt ?_ ?_
                  · simp only [Txt.pick, List.getElem?_cons_succ, List.getElem?_cons_zero]
                    go_wp2
                    refine Txt.RunPost.mk ?_
                    refine Txt.wpTr_alt ?_ ?_
                    · simp only [Txt.pick, List.getElem?_cons_succ, List.getElem?_cons_zero]
                      have Hnu55 := Lib.hid (Hnews.out u55 hbu55)
                      go_wp2_with (at_builtin; refine Ml.wpList_append_own2 _ rfl _ _ 23 23 rfl w3.heap.size 50 i0 (.agg #[.int .i64 0, .int .i64 0, .bool false]) 3 24 Try.underlying23 Try.underlying23 Hi.out Hz0.out Hz1.out Hz2.out rfl _ 0 [] rfl HOu55.out _ l'.length _ ((l'.take l'.length).flatMap encE) rfl Hlen4.out Hnu55.out Hone4.out ?c3 ?c4 ?c5 ?_)
                      case c3 => unfold maxLen; omega
                      case c4 => omega
                      case c5 => omega
                      intro vu60 u60 hown hgrow
                      refine Txt.RunPost.mk ?_
                      have hbu60 : Below w3.heap.size w3 u60 := hbu55.grown hgrow hzu55 (fun q hq => by simp [Value.ownBlock] at hq; omega)
                      have HOu60 : Hid (u60.ownsRow w3.heap.size 50 3 vu60 l'.length ((l'.take l'.length).flatMap encE)) := Lib.hid (by simpa using hown)
                      obtain ⟨hcu60, hfu60⟩ := bcell hbu60
                      have hzu60 : w3.heap.size ≤ u60.heap.size := hbu60.size
                      have hsu60 : u55.heap.size ≤ u60.heap.size := hgrow.size
                      clear hown hgrow
                      refine Txt.wpTr_alt ?_ ?_
                      · simp only [Txt.pick, List.getElem?_cons_succ, List.getElem?_cons_zero]
                        go_wp2
                        refine Txt.RunPost.mk ?_
                        refine Txt.wpTr_gen (I := fun z => Below w3.heap.size w3 z ∧ u60.heap.size < z.heap.size ∧ z.heap[u60.heap.size]? = some (.cells #[.int .i64 p, .int .i64 f, .bool wb] 50 (0, 0)) ∧ z.ownsRow w3.heap.size 50 3 vu60 l'.length ((l'.take l'.length).flatMap encE)) ⟨hbu60.alloc hzu60 _, by simp, heap_alloc_new u60 _, HOu60.out.alloc _⟩ ?_
                        rintro u61 ⟨hbu61, hsu61, hxu61, hou61⟩
                        obtain ⟨hcu61, hfu61⟩ := bcell hbu61
                        have hzu61 : w3.heap.size ≤ u61.heap.size := hbu61.size
                        have HOu61 := Lib.hid hou61; clear hou61
                        refine Txt.wpTr_alt ?_ ?_
                        · simp only [Txt.pick, List.getElem?_cons_succ, List.getElem?_cons_zero]
                          have Hnu61 := Lib.hid (box_cells hxu61)
                          go_wp2_with (at_builtin; refine Ml.wpList_append_own2 _ rfl _ _ 23 23 rfl w3.heap.size 50 i0 (.agg #[.int .i64 0, .int .i64 0, .bool false]) 3 24 Try.underlying23 Try.underlying23 Hi.out Hz0.out Hz1.out Hz2.out rfl _ l'.length _ rfl HOu61.out _ 1 1 (encE ⟨p, f, wb⟩) rfl rfl Hnu61.out Hone7.out ?c3 ?c4 ?c5 ?_)
                          case c3 => unfold maxLen; omega
                          case c4 => omega
                          case c5 => omega
                          intro vu62 u62 hown hgrow
                          refine Txt.RunPost.mk ?_
                          have hbu62 : Below w3.heap.size w3 u62 := hbu61.grown hgrow hzu61 (fun q hq => own_row HOu61.out hq)
                          have HOu62 : Hid (u62.ownsRow w3.heap.size 50 3 vu62 (l'.length + 1) ((l'.take l'.length ++ [(⟨p, f, wb⟩ : Ent)]).flatMap encE)) := Lib.hid (by simpa using hown)
                          obtain ⟨hcu62, hfu62⟩ := bcell hbu62
                          have hzu62 : w3.heap.size ≤ u62.heap.size := hbu62.size
                          clear hown hgrow
                          refine Txt.wpTr_alt ?_ ?_
                          · simp only [Txt.pick, List.getElem?_cons_succ, List.getElem?_cons_zero]
                            go_wp2_with (at_builtin; refine Ml.wpList_append_own2 _ rfl _ _ 23 23 rfl w3.heap.size 50 i0 (.agg #[.int .i64 0, .int .i64 0, .bool false]) 3 24 Try.underlying23 Try.underlying23 Hi.out Hz0.out Hz1.out Hz2.out rfl _ (l'.length + 1) _ rfl HOu62.out _ 0 _ ([] : List Value) rfl rfl (fun h => absurd h (Nat.lt_irrefl _)) (fun u h => by cases h) ?c3 ?c4 ?c5 ?_)
                            case c3 => unfold maxLen; omega
                            case c4 => omega
                            case c5 => omega
                            intro vu63 u63 hown hgrow
                            have hbu63 : Below w3.heap.size w3 u63 := hbu62.grown hgrow hzu62 (fun q hq => own_row HOu62.out hq)
                            have HOu63 := Lib.hid (Hfin.out _ _ (by simpa using hown))
                            clear hown hgrow
                            go_wp2
                            refine Txt.RunPost.mk ?_
                            refine Txt.wpTr_done ?_
                            go_wp2
                            go_ret2
                            exact ⟨_, rfl, own_base HOu63.out (by omega), hbel3.trans (hbu63.mono (by omega))⟩
                          · exact Txt.wpTr_no
                        · exact Txt.wpTr_no
                      · exact Txt.wpTr_no
                    · skip
                      refine Txt.wpTr_alt ?_ ?_
                      · simp only [Txt.pick, List.getElem?_cons_succ, List.getElem?_cons_zero]
                        go_wp2
                        refine Txt.RunPost.mk ?_
                        refine Txt.wpTr_gen (I := fun z => Below w3.heap.size w3 z ∧ u55.heap.size < z.heap.size ∧ z.heap[u55.heap.size]? = some (.cells #[.int .i64 p, .int .i64 f, .bool wb] 50 (0, 0)) ∧ z.ownsRow w3.heap.size 50 3 (.slice (some ⟨u0.heap.size, 0, none⟩) 0 0) 0 []) ⟨hbu55.alloc hzu55 _, by simp, heap_alloc_new u55 _, HOu55.out.alloc _⟩ ?_
                        rintro u64 ⟨hbu64, hsu64, hxu64, hou64⟩
                        obtain ⟨hcu64, hfu64⟩ := bcell hbu64
                        have hzu64 : w3.heap.size ≤ u64.heap.size := hbu64.size
                        have HOu64 := Lib.hid hou64; clear hou64
                        refine Txt.wpTr_alt ?_ ?_
                        · simp only [Txt.pick, List.getElem?_cons_succ, List.getElem?_cons_zero]
                          have Hnu64 := Lib.hid (Hnews.out u64 hbu64)
                          go_wp2_with (at_builtin; refine Ml.wpList_append_own2 _ rfl _ _ 23 23 rfl w3.heap.size 50 i0 (.agg #[.int .i64 0, .int .i64 0, .bool false]) 3 24 Try.underlying23 Try.underlying23 Hi.out Hz0.out Hz1.out Hz2.out rfl _ 0 [] rfl HOu64.out _ l'.length _ ((l'.take l'.length).flatMap encE) rfl Hlen4.out Hnu64.out Hone4.out ?c3 ?c4 ?c5 ?_)
                          case c3 => unfold maxLen; omega
                          case c4 => omega
                          case c5 => omega
                          intro vu65 u65 hown hgrow
                          refine Txt.RunPost.mk ?_
                          have hbu65 : Below w3.heap.size w3 u65 := hbu64.grown hgrow hzu64 (fun q hq => by simp [Value.ownBlock] at hq; omega)
                          have HOu65 : Hid (u65.ownsRow w3.heap.size 50 3 vu65 l'.length ((l'.take l'.length).flatMap encE)) := Lib.hid (by simpa using hown)
                          have hxu65 := (hgrow.block u55.heap.size (by omega) (by simp [Value.ownBlock]; omega)).trans hxu64
                          obtain ⟨hcu65, hfu65⟩ := bcell hbu65
                          have hzu65 : w3.heap.size ≤ u65.heap.size := hbu65.size
                          have hsu65 : u64.heap.size ≤ u65.heap.size := hgrow.size
                          clear hown hgrow
                          refine Txt.wpTr_alt ?_ ?_
                          · simp only [Txt.pick, List.getElem?_cons_succ, List.getElem?_cons_zero]
                            have Hnu65 := Lib.hid (box_cells hxu65)
                            go_wp2_with (at_builtin; refine Ml.wpList_append_own2 _ rfl _ _ 23 23 rfl w3.heap.size 50 i0 (.agg #[.int .i64 0, .int .i64 0, .bool false]) 3 24 Try.underlying23 Try.underlying23 Hi.out Hz0.out Hz1.out Hz2.out rfl _ l'.length _ rfl HOu65.out _ 1 1 (encE ⟨p, f, wb⟩) rfl rfl Hnu65.out Hone7.out ?c3 ?c4 ?c5 ?_)
                            case c3 => unfold maxLen; omega
                            case c4 => omega
                            case c5 => omega
                            intro vu66 u66 hown hgrow
                            refine Txt.RunPost.mk ?_
                            have hbu66 : Below w3.heap.size w3 u66 := hbu65.grown hgrow hzu65 (fun q hq => own_row HOu65.out hq)
                            have HOu66 : Hid (u66.ownsRow w3.heap.size 50 3 vu66 (l'.length + 1) ((l'.take l'.length ++ [(⟨p, f, wb⟩ : Ent)]).flatMap encE)) := Lib.hid (by simpa using hown)
                            obtain ⟨hcu66, hfu66⟩ := bcell hbu66
                            have hzu66 : w3.heap.size ≤ u66.heap.size := hbu66.size
                            clear hown hgrow
                            refine Txt.wpTr_alt ?_ ?_
                            · simp only [Txt.pick, List.getElem?_cons_succ, List.getElem?_cons_zero]
                              go_wp2_with (at_builtin; refine Ml.wpList_append_own2 _ rfl _ _ 23 23 rfl w3.heap.size 50 i0 (.agg #[.int .i64 0, .int .i64 0, .bool false]) 3 24 Try.underlying23 Try.underlying23 Hi.out Hz0.out Hz1.out Hz2.out rfl _ (l'.length + 1) _ rfl HOu66.out _ 0 _ ([] : List Value) rfl rfl (fun h => absurd h (Nat.lt_irrefl _)) (fun u h => by cases h) ?c3 ?c4 ?c5 ?_)
                              case c3 => unfold maxLen; omega
                              case c4 => omega
                              case c5 => omega
                              intro vu67 u67 hown hgrow
                              have hbu67 : Below w3.heap.size w3 u67 := hbu66.grown hgrow hzu66 (fun q hq => own_row HOu66.out hq)
                              have HOu67 := Lib.hid (Hfin.out _ _ (by simpa using hown))
                              clear hown hgrow
                              go_wp2
                              refine Txt.RunPost.mk ?_
                              refine Txt.wpTr_done ?_
                              go_wp2
                              go_ret2
                              exact ⟨_, rfl, own_base HOu67.out (by omega), hbel3.trans (hbu67.mono (by omega))⟩
                            · exact Txt.wpTr_no
                          · exact Txt.wpTr_no
                        · exact Txt.wpTr_no
                      · exact Txt.wpTr_no
                  · exact Txt.wpTr_no
              · skip
                refine Txt.wpTr_alt ?_ ?_
                · simp only [Txt.pick, List.getElem?_cons_succ, List.getElem?_cons_zero]
                  go_wp2
                  refine Txt.RunPost.mk ?_
                  refine Txt.wpTr_alt ?_ ?_
                  · simp only [Txt.pick, List.getElem?_cons_succ, List.getElem?_cons_zero]
                    go_wp2
                    refine Txt.RunPost.mk ?_
                    refine Txt.wpTr_gen (I := fun z => Below w3.heap.size w3 z ∧ u0.heap.size < z.heap.size ∧ z.ownsRow w3.heap.size 50 3 (.slice (some ⟨u0.heap.size, 0, none⟩) 0 0) 0 []) ⟨hbu0.alloc hzu0 _, by simp, own_empty _ _ _ _ hzu0⟩ ?_
                    rintro u68 ⟨hbu68, hsu68, hou68⟩
                    obtain ⟨hcu68, hfu68⟩ := bcell hbu68
                    have hzu68 : w3.heap.size ≤ u68.heap.size := hbu68.size
                    have HOu68 := Lib.hid hou68; clear hou68
                    refine Txt.wpTr_alt ?_ ?_
                    · simp only [Txt.pick, List.getElem?_cons_succ, List.getElem?_cons_zero]
                      have Hnu68 := Lib.hid (Hnews.out u68 hbu68)
                      go_wp2_with (at_builtin; refine Ml.wpList_append_own2 _ rfl _ _ 23 23 rfl w3.heap.size 50 i0 (.agg #[.int .i64 0, .int .i64 0, .bool false]) 3 24 Try.underlying23 Try.underlying23 Hi.out Hz0.out Hz1.out Hz2.out rfl _ 0 [] rfl HOu68.out _ l'.length _ ((l'.take l'.length).flatMap encE) rfl Hlen4.out Hnu68.out Hone4.out ?c3 ?c4 ?c5 ?_)
                      case c3 => unfold maxLen; omega
                      case c4 => omega
                      case c5 => omega
                      intro vu69 u69 hown hgrow
                      refine Txt.RunPost.mk ?_
                      have hbu69 : Below w3.heap.size w3 u69 := hbu68.grown hgrow hzu68 (fun q hq => by simp [Value.ownBlock] at hq; omega)
                      have HOu69 : Hid (u69.ownsRow w3.heap.size 50 3 vu69 l'.length ((l'.take l'.length).flatMap encE)) := Lib.hid (by simpa using hown)
                      obtain ⟨hcu69, hfu69⟩ := bcell hbu69
                      have hzu69 : w3.heap.size ≤ u69.heap.size := hbu69.size
                      have hsu69 : u68.heap.size ≤ u69.heap.size := hgrow.size
                      clear hown hgrow
                      refine Txt.wpTr_alt ?_ ?_
                      · simp only [Txt.pick, List.getElem?_cons_succ, List.getElem?_cons_zero]
                        go_wp2
                        refine Txt.RunPost.mk ?_
                        refine Txt.wpTr_gen (I := fun z => Below w3.heap.size w3 z ∧ u69.heap.size < z.heap.size ∧ z.heap[u69.heap.size]? = some (.cells #[.int .i64 p, .int .i64 f, .bool wb] 50 (0, 0)) ∧ z.ownsRow w3.heap.size 50 3 vu69 l'.length ((l'.take l'.length).flatMap encE)) ⟨hbu69.alloc hzu69 _, by simp, heap_alloc_new u69 _, HOu69.out.alloc _⟩ ?_
                        rintro u70 ⟨hbu70, hsu70, hxu70, hou70⟩
                        obtain ⟨hcu70, hfu70⟩ := bcell hbu70
                        have hzu70 : w3.heap.size ≤ u70.heap.size := hbu70.size
                        have HOu70 := Lib.hid hou70; clear hou70
                        refine Txt.wpTr_alt ?_ ?_
                        · simp only [Txt.pick, List.getElem?_cons_succ, List.getElem?_cons_zero]
                          have Hnu70 := Lib.hid (box_cells hxu70)
                          go_wp2_with (at_builtin; refine Ml.wpList_append_own2 _ rfl _ _ 23 23 rfl w3.heap.size 50 i0 (.agg #[.int .i64 0, .int .i64 0, .bool false]) 3 24 Try.underlying23 Try.underlying23 Hi.out Hz0.out Hz1.out Hz2.out rfl _ l'.length _ rfl HOu70.out _ 1 1 (encE ⟨p, f, wb⟩) rfl rfl Hnu70.out Hone7.out ?c3 ?c4 ?c5 ?_)
                          case c3 => unfold maxLen; omega
                          case c4 => omega
                          case c5 => omega
                          intro vu71 u71 hown hgrow
                          refine Txt.RunPost.mk ?_
                          have hbu71 : Below w3.heap.size w3 u71 := hbu70.grown hgrow hzu70 (fun q hq => own_row HOu70.out hq)
                          have HOu71 : Hid (u71.ownsRow w3.heap.size 50 3 vu71 (l'.length + 1) ((l'.take l'.length ++ [(⟨p, f, wb⟩ : Ent)]).flatMap encE)) := Lib.hid (by simpa using hown)
                          obtain ⟨hcu71, hfu71⟩ := bcell hbu71
                          have hzu71 : w3.heap.size ≤ u71.heap.size := hbu71.size
                          clear hown hgrow
                          refine Txt.wpTr_alt ?_ ?_
                          · simp only [Txt.pick, List.getElem?_cons_succ, List.getElem?_cons_zero]
                            go_wp2_with (at_builtin; refine Ml.wpList_append_own2 _ rfl _ _ 23 23 rfl w3.heap.size 50 i0 (.agg #[.int .i64 0, .int .i64 0, .bool false]) 3 24 Try.underlying23 Try.underlying23 Hi.out Hz0.out Hz1.out Hz2.out rfl _ (l'.length + 1) _ rfl HOu71.out _ 0 _ ([] : List Value) rfl rfl (fun h => absurd h (Nat.lt_irrefl _)) (fun u h => by cases h) ?c3 ?c4 ?c5 ?_)
                            case c3 => unfold maxLen; omega
                            case c4 => omega
                            case c5 => omega
                            intro vu72 u72 hown hgrow
                            have hbu72 : Below w3.heap.size w3 u72 := hbu71.grown hgrow hzu71 (fun q hq => own_row HOu71.out hq)
                            have HOu72 := Lib.hid (Hfin.out _ _ (by simpa using hown))
                            clear hown hgrow
                            go_wp2
                            refine Txt.RunPost.mk ?_
                            refine Txt.wpTr_done ?_
                            go_wp2
                            go_ret2
                            exact ⟨_, rfl, own_base HOu72.out (by omega), hbel3.trans (hbu72.mono (by omega))⟩
                          · exact Txt.wpTr_no
                        · exact Txt.wpTr_no
                      · exact Txt.wpTr_no
                    · skip
                      refine Txt.wpTr_alt ?_ ?_
                      · simp only [Txt.pick, List.getElem?_cons_succ, List.getElem?_cons_zero]
                        go_wp2
                        refine Txt.RunPost.mk ?_
                        refine Txt.wpTr_gen (I := fun z => Below w3.heap.size w3 z ∧ u68.heap.size < z.heap.size ∧ z.heap[u68.heap.size]? = some (.cells #[.int .i64 p, .int .i64 f, .bool wb] 50 (0, 0)) ∧ z.ownsRow w3.heap.size 50 3 (.slice (some ⟨u0.heap.size, 0, none⟩) 0 0) 0 []) ⟨hbu68.alloc hzu68 _, by simp, heap_alloc_new u68 _, HOu68.out.alloc _⟩ ?_
                        rintro u73 ⟨hbu73, hsu73, hxu73, hou73⟩
                        obtain ⟨hcu73, hfu73⟩ := bcell hbu73
                        have hzu73 : w3.heap.size ≤ u73.heap.size := hbu73.size
                        have HOu73 := Lib.hid hou73; clear hou73
                        refine Txt.wpTr_alt ?_ ?_
                        · simp only [Txt.pick, List.getElem?_cons_succ, List.getElem?_cons_zero]
                          have Hnu73 := Lib.hid (Hnews.out u73 hbu73)
                          go_wp2_with (at_builtin; refine Ml.wpList_append_own2 _ rfl _ _ 23 23 rfl w3.heap.size 50 i0 (.agg #[.int .i64 0, .int .i64 0, .bool false]) 3 24 Try.underlying23 Try.underlying23 Hi.out Hz0.out Hz1.out Hz2.out rfl _ 0 [] rfl HOu73.out _ l'.length _ ((l'.take l'.length).flatMap encE) rfl Hlen4.out Hnu73.out Hone4.out ?c3 ?c4 ?c5 ?_)
                          case c3 => unfold maxLen; omega
                          case c4 => omega
                          case c5 => omega
                          intro vu74 u74 hown hgrow
                          refine Txt.RunPost.mk ?_
                          have hbu74 : Below w3.heap.size w3 u74 := hbu73.grown hgrow hzu73 (fun q hq => by simp [Value.ownBlock] at hq; omega)
                          have HOu74 : Hid (u74.ownsRow w3.heap.size 50 3 vu74 l'.length ((l'.take l'.length).flatMap encE)) := Lib.hid (by simpa using hown)
                          have hxu74 := (hgrow.block u68.heap.size (by omega) (by simp [Value.ownBlock]; omega)).trans hxu73
                          obtain ⟨hcu74, hfu74⟩ := bcell hbu74
                          have hzu74 : w3.heap.size ≤ u74.heap.size := hbu74.size
                          have hsu74 : u73.heap.size ≤ u74.heap.size := hgrow.size
                          clear hown hgrow
                          refine Txt.wpTr_alt ?_ ?_
                          · simp only [Txt.pick, List.getElem?_cons_succ, List.getElem?_cons_zero]
                            have Hnu74 := Lib.hid (box_cells hxu74)
                            go_wp2_with (at_builtin; refine Ml.wpList_append_own2 _ rfl _ _ 23 23 rfl w3.heap.size 50 i0 (.agg #[.int .i64 0, .int .i64 0, .bool false]) 3 24 Try.underlying23 Try.underlying23 Hi.out Hz0.out Hz1.out Hz2.out rfl _ l'.length _ rfl HOu74.out _ 1 1 (encE ⟨p, f, wb⟩) rfl rfl Hnu74.out Hone7.out ?c3 ?c4 ?c5 ?_)
                            case c3 => unfold maxLen; omega
                            case c4 => omega
                            case c5 => omega
                            intro vu75 u75 hown hgrow
                            refine Txt.RunPost.mk ?_
                            have hbu75 : Below w3.heap.size w3 u75 := hbu74.grown hgrow hzu74 (fun q hq => own_row HOu74.out hq)
                            have HOu75 : Hid (u75.ownsRow w3.heap.size 50 3 vu75 (l'.length + 1) ((l'.take l'.length ++ [(⟨p, f, wb⟩ : Ent)]).flatMap encE)) := Lib.hid (by simpa using hown)
                            obtain ⟨hcu75, hfu75⟩ := bcell hbu75
                            have hzu75 : w3.heap.size ≤ u75.heap.size := hbu75.size
                            clear hown hgrow
                            refine Txt.wpTr_alt ?_ ?_
                            · simp only [Txt.pick, List.getElem?_cons_succ, List.getElem?_cons_zero]
                              go_wp2_with (at_builtin; refine Ml.wpList_append_own2 _ rfl _ _ 23 23 rfl w3.heap.size 50 i0 (.agg #[.int .i64 0, .int .i64 0, .bool false]) 3 24 Try.underlying23 Try.underlying23 Hi.out Hz0.out Hz1.out Hz2.out rfl _ (l'.length + 1) _ rfl HOu75.out _ 0 _ ([] : List Value) rfl rfl (fun h => absurd h (Nat.lt_irrefl _)) (fun u h => by cases h) ?c3 ?c4 ?c5 ?_)
                              case c3 => unfold maxLen; omega
                              case c4 => omega
                              case c5 => omega
                              intro vu76 u76 hown hgrow
                              have hbu76 : Below w3.heap.size w3 u76 := hbu75.grown hgrow hzu75 (fun q hq => own_row HOu75.out hq)
                              have HOu76 := Lib.hid (Hfin.out _ _ (by simpa using hown))
                              clear hown hgrow
                              go_wp2
                              refine Txt.RunPost.mk ?_
                              refine Txt.wpTr_done ?_
                              go_wp2
                              go_ret2
                              exact ⟨_, rfl, own_base HOu76.out (by omega), hbel3.trans (hbu76.mono (by omega))⟩
                            · exact Txt.wpTr_no
                          · exact Txt.wpTr_no
                        · exact Txt.wpTr_no
                      · exact Txt.wpTr_no
                  · skip
                    refine Txt.wpTr_alt ?_ ?_
                    · simp only [Txt.pick, List.getElem?_cons_succ, List.getElem?_cons_zero]
                      go_wp2
                      refine Txt.RunPost.mk ?_
                      refine Txt.wpTr_gen (I := fun z => Below w3.heap.size w3 z ∧ u0.heap.size < z.heap.size ∧ z.heap[u0.heap.size]? = some (.cells #[.int .i64 p, .int .i64 f, .bool wb] 50 (0, 0))) ⟨hbu0.alloc hzu0 _, by simp, heap_alloc_new u0 _⟩ ?_
                      rintro u77 ⟨hbu77, hsu77, hxu77⟩
                      obtain ⟨hcu77, hfu77⟩ := bcell hbu77
                      have hzu77 : w3.heap.size ≤ u77.heap.size := hbu77.size
                      refine Txt.wpTr_alt ?_ ?_
                      · simp only [Txt.pick, List.getElem?_cons_succ, List.getElem?_cons_zero]
                        go_wp2
                        refine Txt.RunPost.mk ?_
                        refine Txt.wpTr_gen (I := fun z => Below w3.heap.size w3 z ∧ u77.heap.size < z.heap.size ∧ z.ownsRow w3.heap.size 50 3 (.slice (some ⟨u77.heap.size, 0, none⟩) 0 0) 0 [] ∧ z.heap[u0.heap.size]? = some (.cells #[.int .i64 p, .int .i64 f, .bool wb] 50 (0, 0))) ⟨hbu77.alloc hzu77 _, by simp, own_empty _ _ _ _ hzu77, (Below.heap_alloc u77 _ _ (by omega)).trans hxu77⟩ ?_
                        rintro u78 ⟨hbu78, hsu78, hou78, hxu78⟩
                        obtain ⟨hcu78, hfu78⟩ := bcell hbu78
                        have hzu78 : w3.heap.size ≤ u78.heap.size := hbu78.size
                        have HOu78 := Lib.hid hou78; clear hou78
                        refine Txt.wpTr_alt ?_ ?_
                        · simp only [Txt.pick, List.getElem?_cons_succ, List.getElem?_cons_zero]
                          have Hnu78 := Lib.hid (Hnews.out u78 hbu78)
                          go_wp2_with (at_builtin; refine Ml.wpList_append_own2 _ rfl _ _ 23 23 rfl w3.heap.size 50 i0 (.agg #[.int .i64 0, .int .i64 0, .bool false]) 3 24 Try.underlying23 Try.underlying23 Hi.out Hz0.out Hz1.out Hz2.out rfl _ 0 [] rfl HOu78.out _ l'.length _ ((l'.take l'.length).flatMap encE) rfl Hlen4.out Hnu78.out Hone4.out ?c3 ?c4 ?c5 ?_)
                          case c3 => unfold maxLen; omega
                          case c4 => omega
                          case c5 => omega
                          intro vu79 u79 hown hgrow
                          refine Txt.RunPost.mk ?_
                          have hbu79 : Below w3.heap.size w3 u79 := hbu78.grown hgrow hzu78 (fun q hq => by simp [Value.ownBlock] at hq; omega)
                          have HOu79 : Hid (u79.ownsRow w3.heap.size 50 3 vu79 l'.length ((l'.take l'.length).flatMap encE)) := Lib.hid (by simpa using hown)
                          have hxu79 := (hgrow.block u0.heap.size (by omega) (by simp [Value.ownBlock]; omega)).trans hxu78
                          obtain ⟨hcu79, hfu79⟩ := bcell hbu79
                          have hzu79 : w3.heap.size ≤ u79.heap.size := hbu79.size
                          have hsu79 : u78.heap.size ≤ u79.heap.size := hgrow.size
                          clear hown hgrow
                          refine Txt.wpTr_alt ?_ ?_
                          · simp only [Txt.pick, List.getElem?_cons_succ, List.getElem?_cons_zero]
                            have Hnu79 := Lib.hid (box_cells hxu79)
                            go_wp2_with (at_builtin; refine Ml.wpList_append_own2 _ rfl _ _ 23 23 rfl w3.heap.size 50 i0 (.agg #[.int .i64 0, .int .i64 0, .bool false]) 3 24 Try.underlying23 Try.underlying23 Hi.out Hz0.out Hz1.out Hz2.out rfl _ l'.length _ rfl HOu79.out _ 1 1 (encE ⟨p, f, wb⟩) rfl rfl Hnu79.out Hone7.out ?c3 ?c4 ?c5 ?_)
                            case c3 => unfold maxLen; omega
                            case c4 => omega
                            case c5 => omega
                            intro vu80 u80 hown hgrow
                            refine Txt.RunPost.mk ?_
                            have hbu80 : Below w3.heap.size w3 u80 := hbu79.grown hgrow hzu79 (fun q hq => own_row HOu79.out hq)
                            have HOu80 : Hid (u80.ownsRow w3.heap.size 50 3 vu80 (l'.length + 1) ((l'.take l'.length ++ [(⟨p, f, wb⟩ : Ent)]).flatMap encE)) := Lib.hid (by simpa using hown)
                            obtain ⟨hcu80, hfu80⟩ := bcell hbu80
                            have hzu80 : w3.heap.size ≤ u80.heap.size := hbu80.size
                            clear hown hgrow
                            refine Txt.wpTr_alt ?_ ?_
                            · simp only [Txt.pick, List.getElem?_cons_succ, List.getElem?_cons_zero]
                              go_wp2_with (at_builtin; refine Ml.wpList_append_own2 _ rfl _ _ 23 23 rfl w3.heap.size 50 i0 (.agg #[.int .i64 0, .int .i64 0, .bool false]) 3 24 Try.underlying23 Try.underlying23 Hi.out Hz0.out Hz1.out Hz2.out rfl _ (l'.length + 1) _ rfl HOu80.out _ 0 _ ([] : List Value) rfl rfl (fun h => absurd h (Nat.lt_irrefl _)) (fun u h => by cases h) ?c3 ?c4 ?c5 ?_)
                              case c3 => unfold maxLen; omega
                              case c4 => omega
                              case c5 => omega
                              intro vu81 u81 hown hgrow
                              have hbu81 : Below w3.heap.size w3 u81 := hbu80.grown hgrow hzu80 (fun q hq => own_row HOu80.out hq)
                              have HOu81 := Lib.hid (Hfin.out _ _ (by simpa using hown))
                              clear hown hgrow
                              go_wp2
                              refine Txt.RunPost.mk ?_
                              refine Txt.wpTr_done ?_
                              go_wp2
                              go_ret2
                              exact ⟨_, rfl, own_base HOu81.out (by omega), hbel3.trans (hbu81.mono (by omega))⟩
                            · exact Txt.wpTr_no
                          · exact Txt.wpTr_no
                        · exact Txt.wpTr_no
                      · exact Txt.wpTr_no
                    · exact Txt.wpTr_no
                · exact Txt.wpTr_no
end Go.Proofs.Ytlomhelcphhinaa
