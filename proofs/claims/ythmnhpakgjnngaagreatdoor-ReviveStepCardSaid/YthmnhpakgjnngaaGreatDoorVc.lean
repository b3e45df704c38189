/- Revive: the search, fail -/
import Derived.Test.YthmnhpakgjnngaaGreatDoorVb
import Derived.Test.YthmnhpakgjnngaaGreatDoorIw
namespace Go.Rv
open Go Go.RowKit Go.Bs Go.Cl Go.Rw Go.Dt
theorem hs_range {l : List Hs} (h : validH l = true) : ∀ k, k < l.length → 2 ≤ (hsAt l k).t ∧ (hsAt l k).t ≤ 10 := fun k hk => by
  have := okE_iff.1 (validH_ok h _ (hs_mem.2 ⟨k, hk, rfl⟩)); omega
end Go.Rv
namespace Go.Proofs.YthmnhpakgjnngaaGreatDoor
open Go.RowKit Go.Bs Go.Cl Go.Rw Go.Dt Go.Rv
/-- slices.Clone of histories -/
theorem elH : Rw.Elem Tryz.prog 39 68 3 24 (.agg #[.int .i64 0, .int .i64 0, .int .i64 0]) := ⟨Tryz.underlying39, by kernel_rfl, rfl, by decide⟩
set_option maxHeartbeats 400000 in
theorem cloneH {F : List Nat} {v : Value} {n : Nat} {xs : List Value} (w : World) (hl : n ≤ 1000000) (hr : Raw F 3 w v n xs) :
    Calls Tryz.prog 40 #[v] w fun e w' => ∃ v', e = .returned v' ∧ w'.ownsRow w.heap.size 68 3 v' n xs ∧ Below w.heap.size w w' := by
  have q32 : ∀ (w : World) (a : Option Addr) (n c n' c' : Nat), (binOp .eql 39 (.slice a n c) (.slice none n' c')).run Tryz.prog w = .ok (.bool a.isNone) w := fun w a n c n' c' => Lib.run_eql_slice_nil w _ _ a n c n' c' Tryz.underlying39
  obtain ⟨a, cap, hv⟩ : ∃ a cap, v = .slice a n cap := by obtain ⟨_, _, a, cap, h, _⟩ := hr; exact ⟨a, cap, h⟩
  have Hr := Lib.hid (hr.alloc (.cells #[] 68))
  have Hemp := Lib.hid (own_empty w w.heap.size 68 3 (Nat.le_refl _))
  cases a with
  | none =>
    have h0 : n = 0 ∧ xs = [] := by
      rcases hr.cases with ⟨h0, h1, _⟩ | ⟨_, b, off, c, h, _⟩
      · exact ⟨h0, h1⟩
      · rw [hv] at h; cases h
    obtain ⟨rfl, rfl⟩ := h0
    subst hv
    go_enter Tryz.func40, Tryz.ntmps40
    go_wp2
    go_ret
    exact ⟨_, rfl, World.ownsRow_nil _ _ _ _, Below.refl _ _⟩
  | some ad =>
    subst hv
    clear hr
    go_enter Tryz.func40, Tryz.ntmps40
    go_wp2_with (at_builtin; refine wpList_append_raw elH Tryz.underlying39 Hemp.out Hr.out rfl _ _ rfl rfl rfl ?c3 ?c4 ?c5 ?_)
    case c3 => unfold maxLen; omega
    case c4 => omega
    case c5 => simp
    · intro v' w1 hown hgrow
      have hfin : Below w.heap.size w w1 := ((Below.refl w.heap.size w).alloc (Nat.le_refl _) _).grown hgrow (by simp) (fun q hq => by simp [Value.ownBlock] at hq; omega)
      have Hown : Hid (w1.ownsRow w.heap.size 68 3 v' n xs) := Lib.hid (by simpa using hown)
      clear hown hgrow
      go_wp2
      go_ret
      exact ⟨_, rfl, Hown.out, hfin⟩
set_option maxHeartbeats 400000 in
theorem failc_eq (x : Hs) (t c : Int) (w : World) (h1 : 2 ≤ x.t) (h2 : x.t ≤ 10) (h3 : 2 ≤ t) (h4 : t ≤ 10) (h : x.t - t = c) : Calls Tryz.prog 86 #[.agg #[.int .i64 x.t, .int .i64 x.n, .int .i64 x.c], .int .i64 t] w fun e w' => e = .returned (.int .i64 c) ∧ Below w.heap.size w w' := by
  obtain ⟨xt, xn, xc⟩ := x
  dsimp only at h1 h2 h ⊢
  subst h
  go_enter Tryz.func86, Tryz.ntmps86
  go_wp2
  go_ret
  exact ⟨rfl, (Below.refl _ _).alloc (Nat.le_refl _) _⟩
def BsP (l : List Hs) (t : Int) (w : World) (e : Ending) (w' : World) : Prop :=
  ∃ i : Nat, i ≤ l.length ∧ (∀ k, k < i → (hsAt l k).t < t) ∧ (∀ k, i ≤ k → k < l.length → t ≤ (hsAt l k).t) ∧ e = .returned (.tuple #[.int .i64 i, .bool (decide (i < l.length) && decide ((hsAt l i).t = t))]) ∧ Below w.heap.size w w'

set_option maxRecDepth 100000 in
set_option maxHeartbeats 1000000 in
theorem bsearch_any (v : Value) (l : List Hs) (t : Int) (w : World) (hl : l.length ≤ 1000000) (h : SlH w v l) (hs : Srt l) (hr : ∀ k, k < l.length → 2 ≤ (hsAt l k).t ∧ (hsAt l k).t ≤ 10) (ht1 : 2 ≤ t) (ht2 : t ≤ 10) :
    Calls Tryz.prog 85 #[v, .int .i64 t, .func (.func 86) #[] #[]] w (BsP l t w) := by
  obtain ⟨a, cap, rfl⟩ := Raw.slice h
  have H := Lib.hid h; clear h
  have Hs := Lib.hid hs; clear hs
  have Hr := Lib.hid hr; clear hr
  go_enter Tryz.func85, Tryz.ntmps85
  go_wp2
  go_loopw [9, 10] (fun ii jj wr => ∃ i j : Nat, i ≤ j ∧ j ≤ l.length ∧ ii = .int .i64 i ∧ jj = .int .i64 j ∧ Below w.heap.size w wr ∧ (∀ k, k < i → (hsAt l k).t < t) ∧ (∀ k, j ≤ k → k < l.length → t ≤ (hsAt l k).t)) (fun ii jj _ => (intOf jj).toNat - (intOf ii).toNat)
  case atStart => exact ⟨0, l.length, Nat.zero_le _, Nat.le_refl _, rfl, rfl, Below.refl _ _, fun k hk => by omega, fun k hk hk' => by omega⟩
  case round =>
    obtain ⟨i, j, hij, hj, rfl, rfl, hbel, hlo, hhi⟩ := hrel
    have Hlo := Lib.hid hlo; clear hlo
    have Hhi := Lib.hid hhi; clear hhi
    have hsz := hbel.size
    by_cases hlt : i < j
    · obtain ⟨m, hm⟩ : ∃ m : Nat, ((i : Int) + j) / 2 = m := ⟨(i + j) / 2, by omega⟩
      have hmi : i ≤ m := by omega
      have hmj : m < j := by omega
      have hml : m < l.length := by omega
      obtain ⟨b, off, rfl, hb, h0, h1, h2⟩ := (H.out.below hbel).elem hml
      have hm1 : (m : Int) < (l.length : Int) := by omega
      have hsrt : ∀ k, k ≤ m → (hsAt l k).t ≤ (hsAt l m).t := fun k hk => by
        by_cases e : k = m
        · rw [e]; exact Int.le_refl _
        · have := srt_at Hs.out (show k < m by omega) hml; omega
      have hsrt2 : ∀ k, m ≤ k → k < l.length → (hsAt l m).t ≤ (hsAt l k).t := fun k hk hk2 => by
        by_cases e : k = m
        · rw [e]; exact Int.le_refl _
        · have := srt_at Hs.out (show m < k by omega) hk2; omega
      have Hs1 := Lib.hid hsrt
      have Hs2 := Lib.hid hsrt2
      clear hsrt hsrt2
      by_cases hc : (hsAt l m).t < t
      · have Hc := Lib.hid (show (hsAt l m).t - t < 0 by omega)
        have Hlt := Lib.hid hc; clear hc
        obtain ⟨c, hcc⟩ : ∃ c, (hsAt l m).t - t = c := ⟨_, rfl⟩
        have hcn : c < 0 := by rw [← hcc]; exact Hc.out
        have HC := Lib.hid hcc; clear hcc
        go_wp2_with fail
        refine (failc_eq _ t c _ (Hr.out m hml).1 (Hr.out m hml).2 ht1 ht2 HC.out).mono ?_
        rintro e w1 ⟨rfl, hb1⟩
        have hfin := hbel.trans (hb1.mono hsz)
        go_wp2
        go_roundw
        case rel => exact ⟨m + 1, j, by omega, hj, by go_num, rfl, hfin, fun k hk => by have := Hs1.out k (by omega); have := Hlt.out; omega, Hhi.out⟩
        case measure => simp [intOf]; omega
      · have hc1 : 0 ≤ (hsAt l m).t - t := by omega
        obtain ⟨c, hcc⟩ : ∃ c, (hsAt l m).t - t = c := ⟨_, rfl⟩
        rw [hcc] at hc1
        have Hc := Lib.hid hcc; clear hcc
        have Hlt := Lib.hid hc; clear hc
        go_wp2_with fail
        refine (failc_eq _ t c _ (Hr.out m hml).1 (Hr.out m hml).2 ht1 ht2 Hc.out).mono ?_
        rintro e w1 ⟨rfl, hb1⟩
        have hfin := hbel.trans (hb1.mono hsz)
        go_wp2
        go_roundw
        case rel => exact ⟨i, m, by omega, by omega, rfl, rfl, hfin, Hlo.out, fun k hk hk2 => by have := Hs2.out k hk hk2; have := Hlt.out; omega⟩
        case measure => simp [intOf]; omega
    · obtain rfl : i = j := by omega
      by_cases hin : i < l.length
      · obtain ⟨b, off, rfl, hb, h0, h1, h2⟩ := (H.out.below hbel).elem hin
        have hi1 : (i : Int) < (l.length : Int) := by omega
        obtain ⟨c, hcc⟩ : ∃ c, (hsAt l i).t - t = c := ⟨_, rfl⟩
        have hcz : (c = 0) = ((hsAt l i).t = t) := by
          rw [← hcc]; apply propext; omega
        have Hcz := Lib.hid hcz
        have Hc := Lib.hid hcc
        clear hcc hcz
        go_wp2_with fail
        refine (failc_eq _ t c _ (Hr.out i hin).1 (Hr.out i hin).2 ht1 ht2 Hc.out).mono ?_
        rintro e w1 ⟨rfl, hb1⟩
        have hfin := hbel.trans (hb1.mono hsz)
        go_wp2
        go_ret2
        refine ⟨i, hj, Hlo.out, Hhi.out, ?_, hfin⟩
        congr 1
        have hz := Hcz.out
        have : (c == 0) = decide ((hsAt l i).t = t) := by rw [Bool.eq_iff_iff]; simp [← hz]
        simp [hin, this]
      · go_wp2
        go_ret2
        exact ⟨i, hj, Hlo.out, Hhi.out, by simp [hin], hbel⟩

/-- the state's block, its histories a row of the call's own -/
structure St (w : World) (base s : Nat) (r : Int) (wv hv : Value) (l : List Hs) : Prop where
  box : w.heap[s]? = some (.cells #[.int .i64 r, wv, hv] 41 (0, 0))
  row : w.ownsRow base 68 3 hv l.length (l.flatMap encH)
  ne : ∀ q, hv.ownBlock = some q → q ≠ s
  lo : base ≤ s
theorem St.lt {w : World} {base s : Nat} {r : Int} {wv hv : Value} {l : List Hs} (h : St w base s r wv hv l) : s < w.heap.size := (Array.getElem?_eq_some_iff.1 h.box).1
theorem St.below {w w' : World} {base s : Nat} {r : Int} {wv hv : Value} {l : List Hs} (h : St w base s r wv hv l) (hb : Below w.heap.size w w') : St w' base s r wv hv l := ⟨(hb.block s h.lt).trans h.box, own_below h.row hb (Nat.le_refl _), h.ne, h.lo⟩
theorem St.keep {w w' : World} {base s : Nat} {r : Int} {wv hv : Value} {l : List Hs} {G : List Nat} (h : St w base s r wv hv l) (hk : Keep G w w') (hs : s ∉ G) (hv' : ∀ q, hv.ownBlock = some q → q ∉ G) : St w' base s r wv hv l := ⟨(hk.block s h.lt hs).trans h.box, own_keep h.row hk hv', h.ne, h.lo⟩
theorem own_type {w : World} {base e k n : Nat} {v : Value} {xs : List Value} (h : w.ownsRow base e k v n xs) {r : Nat} (hr : v.ownBlock = some r) : ∃ cur, w.heap[r]? = some (.cells cur e (0, 0)) := RowF.type (.inl h) hr
/-- blocks that are no histories and not s stay -/
structure KT (s : Nat) (w w' : World) : Prop where
  size : w.heap.size ≤ w'.heap.size
  block : ∀ b, b < w.heap.size → b ≠ s → (∀ cs fr, w.heap[b]? ≠ some (.cells cs 68 fr)) → w'.heap[b]? = w.heap[b]?
theorem KT.of_below {s : Nat} {w w' : World} (h : Below w.heap.size w w') : KT s w w' := ⟨h.size, fun b hb _ _ => h.block b hb⟩
theorem KT.trans {s : Nat} {a b c : World} (h : KT s a b) (k : KT s b c) : KT s a c := ⟨Nat.le_trans h.size k.size, fun x hx hs ht => (k.block x (Nat.lt_of_lt_of_le hx h.size) hs (fun cs fr => by rw [h.block x hx hs ht]; exact ht cs fr)).trans (h.block x hx hs ht)⟩
/-- a store into a row of histories or into s -/
theorem KT.put {s g : Nat} {a b c : World} (h : KT s a b) (hk : Keep [g] b c) (hg : g = s ∨ a.heap.size ≤ g ∨ ∃ cs fr, b.heap[g]? = some (.cells cs 68 fr)) : KT s a c := ⟨Nat.le_trans h.size hk.size, fun x hx hs ht => by
  rw [← h.block x hx hs ht]
  refine hk.block x (Nat.lt_of_lt_of_le hx h.size) (fun hm => ?_)
  rw [List.mem_singleton] at hm
  subst hm
  rcases hg with hg | hg | ⟨cs, fr, hg⟩
  · exact hs hg
  · omega
  · rw [h.block x hx hs ht] at hg; exact ht cs fr hg⟩
theorem KT.cells {s : Nat} {w w' : World} (h : KT s w w') {b : Nat} {cs : Array Value} {t : TypeId} {fr : Nat × Nat} (hb : w.heap[b]? = some (.cells cs t fr)) (hs : b ≠ s) (ht : t ≠ 68) : w'.heap[b]? = some (.cells cs t fr) :=
  (h.block b (Array.getElem?_eq_some_iff.1 hb).1 hs (fun cs' fr' e => by rw [hb] at e; cases e; exact ht rfl)).trans hb
def RetF (r : Int) (wv : Value) (l : List Hs) (m : Int) (base s : Nat) (w : World) (e : Ending) (w' : World) : Prop :=
  ∃ hv', e = .returned (.int .i64 m) ∧ St w' base s r wv hv' l ∧ Below base w w' ∧ KT s w w'
theorem min_eq (n : Int) : min (n + 1) 1000000000 = if n + 1 ≤ 1000000000 then n + 1 else 1000000000 := by omega
set_option maxRecDepth 100000 in
set_option maxHeartbeats 2000000 in
theorem fail_any (base s : Nat) (r : Int) (wv hv : Value) (l : List Hs) (t c : Int) (w : World) (hl : validH l = true) (ht1 : 2 ≤ t) (ht2 : t ≤ 10) (h : St w base s r wv hv l) :
    Calls Tryz.prog 66 #[.pointer (some ⟨s, 0, none⟩), .int .i64 t, .int .i64 c] w (RetF r wv (failH l t c) (modeH l t) base s w) := by
  obtain ⟨a, cap, rfl⟩ := own_slice h.row
  have H := Lib.hid h
  have c2 := box_at h.box (j := 2) rfl
  have hsl := h.lt
  have hlo := h.lo
  clear h
  have hlen := validH_len hl
  have hl6 : l.length ≤ 1000000 := by omega
  have HL := Lib.hid hl; clear hl
  have Hsrt := Lib.hid (validH_srt HL.out)
  go_enter Tryz.func66, Tryz.ntmps66
  go_wp2_with fail
  refine (bsearch_any _ l t _ hl6 (SlH.of_own H.out.row) Hsrt.out (hs_range HL.out) ht1 ht2).mono ?_
  rintro e w1 ⟨i, hi, hlo1, hhi, rfl, hb1⟩
  have H1 := Lib.hid (H.out.below hb1)
  have hs1 := hb1.size
  have HB1 := Lib.hid hb1
  have c2 := box_at H1.out.box (j := 2) rfl
  have f2 := box_free H1.out.box 2
  clear hb1
  by_cases hf : i < l.length ∧ (hsAt l i).t = t
  · obtain ⟨hil, hit⟩ := hf
    obtain ⟨x, hx⟩ : ∃ x, x = hsAt l i := ⟨_, rfl⟩
    have hcnt : cntH l t = x.n := by rw [hx]; exact seen_first hil (fun k hk => by have := hlo1 k hk; omega) hit
    have hxn := okE_iff.1 (validH_ok HL.out x (hs_mem.2 ⟨i, hil, hx.symm⟩))
    obtain ⟨m, hm⟩ : ∃ m, m = min (x.n + 1) 1000000000 := ⟨_, rfl⟩
    have hfail : failH l t c = l.set i ⟨t, m, c⟩ := by
      unfold failH; rw [hcnt, ← hm]
      exact (put_set (x := ⟨t, m, c⟩) Hsrt.out hil hit).symm
    have hmode : modeH l t = if m % 2 = 1 then 0 else 1 := by unfold modeH; rw [hcnt, ← hm]
    have htrue : (decide (i < l.length) && decide ((hsAt l i).t = t)) = true := by simp [hil, hit]
    rw [htrue]
    rcases own_cases H1.out.row with ⟨e, h0, _⟩ | ⟨g, c9, e, hg1, hg2, hcc⟩
    · omega
    cases e
    have hgs : g ≠ s := H1.out.ne g rfl
    have hget := hs_get hil
    have hn := own_cell H1.out.row rfl (flat_get encH encH_len l i 1 _ hget (by omega))
    have hfn := own_frozen H1.out.row (i * 3 + 1)
    have hset1 := own_set H1.out.row (j := i * 3 + 1) (u := .int .i64 m) (by rw [flat_length encH encH_len]; omega)
    rw [flat_set encH encH_len l i 1 (hsAt l i) ⟨t, m, x.c⟩ _ hget (by omega) (by rw [← hx]; rw [← hx] at hit; rw [← hit]; rfl)] at hset1
    have hxs1 : (l.set i ⟨t, m, x.c⟩)[i]? = some ⟨t, m, x.c⟩ := by simp [hil]
    have hset2 := own_set hset1 (j := i * 3 + 2) (u := .int .i64 c) (by rw [flat_length encH encH_len]; simp; omega)
    rw [flat_set encH encH_len _ i 2 ⟨t, m, x.c⟩ ⟨t, m, c⟩ _ hxs1 (by omega) rfl, List.set_set, ← hfail] at hset2
    have hpl : (failH l t c).length = l.length := by rw [hfail]; simp
    obtain ⟨w3, hw3⟩ : ∃ W, W = (w1.setCell ⟨g, i * 3 + 1, none⟩ (.int .i64 m)).setCell ⟨g, i * 3 + 2, none⟩ (.int .i64 c) := ⟨_, rfl⟩
    have hk3 : Keep [g] w1 w3 := by rw [hw3]; exact ((Keep.refl [g] w1).setCell (by simp) _).setCell (by simp) _
    have hrow : w3.ownsRow base 68 3 (.slice (some ⟨g, 0, none⟩) l.length cap) (failH l t c).length ((failH l t c).flatMap encH) := by
      rw [hw3, hpl]; exact hset2
    have HST : Hid (St w3 base s r wv (.slice (some ⟨g, 0, none⟩) l.length cap) (failH l t c)) := Lib.hid ⟨(hk3.block s H1.out.lt (by simp; omega)).trans H1.out.box, hrow, fun q hq => by simp [Value.ownBlock] at hq; omega, H1.out.lo⟩
    have HKB : Hid (Below base w w3) := Lib.hid ((HB1.out.mono (by omega)).trans (hk3.below (by omega) (fun f hf => by rw [List.mem_singleton.1 hf]; exact hg1)))
    have HK : Hid (KT s w w3) := Lib.hid ((KT.of_below HB1.out).put hk3 (.inr (.inr (by obtain ⟨cur, hc⟩ := own_type H1.out.row (r := g) rfl; exact ⟨_, _, hc⟩))))
    have hc3 : w1.cell? ⟨g, i * 3 + 2, none⟩ = some (.int .i64 x.c) := by rw [hx]; exact own_cell H1.out.row rfl (flat_get encH encH_len l i 2 _ hget (by omega))
    have hn' : w1.cell? ⟨g, i * 3 + 1, none⟩ = some (.int .i64 x.n) := by rw [hx]; exact hn
    have hn2 : ((w1.setCell ⟨g, i * 3 + 1, none⟩ (.int .i64 m)).setCell ⟨g, i * 3 + 2, none⟩ (.int .i64 c)).cell? ⟨g, i * 3 + 1, none⟩ = some (.int .i64 m) := by
      have h1 : (l.set i ⟨t, m, c⟩)[i]? = some ⟨t, m, c⟩ := by simp [hil]
      rw [hfail] at hset2
      exact own_cell hset2 rfl (flat_get encH encH_len _ i 1 _ h1 (by omega))
    have hfc := own_frozen hset1 (i * 3 + 2)
    have hil' : (i : Int) < (l.length : Int) := by omega
    have HW3 := Lib.hid hw3
    have HM := Lib.hid hmode
    have hm1 : 0 ≤ m := by omega
    have hm2 : m % 2 < 2 := by omega
    have hxn1 : 1 ≤ x.n := hxn.2.2.1
    have hxn2 : x.n ≤ 1000000000 := hxn.2.2.2.1
    have hmin : min (x.n + 1) 1000000000 = m := hm.symm
    clear hn hset1 hset2 hrow hw3 hmode hxs1 hpl hfail hk3 hcnt htrue hit hxn hm hx hget hm2
    by_cases hp : m % 2 = 1
    · go_wp2
      go_ret
      rw [← HW3.out]
      exact ⟨_, by rw [HM.out, if_pos hp]; rfl, HST.out, HKB.out, HK.out⟩
    · have hp2 : (m % 2 == 1) = false := by simpa using hp
      go_wp2
      go_ret
      rw [← HW3.out]
      exact ⟨_, by rw [HM.out, if_neg hp]; rfl, HST.out, HKB.out, HK.out⟩
  · have hfalse : (decide (i < l.length) && decide ((hsAt l i).t = t)) = false := by
      rw [Bool.eq_false_iff]; simpa using hf
    have hgt : ∀ k, i ≤ k → k < l.length → t < (hsAt l k).t := fun k hk hk2 => by
      have h1 := hhi i (Nat.le_refl _) (by omega)
      have h2 : (hsAt l i).t ≠ t := fun e => hf ⟨by omega, e⟩
      by_cases e : k = i
      · subst e; omega
      · have := srt_at Hsrt.out (show i < k by omega) hk2; omega
    have hcnt : cntH l t = 0 := seen_none fun k hk => by
      by_cases hki : k < i
      · have := hlo1 k hki; omega
      · have := hgt k (by omega) hk; omega
    have hfail : failH l t c = l.take i ++ ⟨t, 1, c⟩ :: l.drop i := by
      unfold failH; rw [hcnt]
      exact (put_ins (x := ⟨t, min (0 + 1) 1000000000, c⟩) hlo1 hgt).symm
    have hmode : modeH l t = 0 := by unfold modeH; rw [hcnt]; rfl
    rw [hfalse]
    have HF := Lib.hid hfail
    have HM := Lib.hid hmode
    have HB2 := Lib.hid ((Below.refl w1.heap.size w1).alloc (Nat.le_refl _) (.cells (encH ⟨t, 0, 0⟩).toArray 68))
    have H2 := Lib.hid (H1.out.below HB2.out)
    have hbw : base ≤ w1.heap.size := by omega
    have hz2 : base ≤ (w1.alloc (.cells (encH ⟨t, 0, 0⟩).toArray 68)).heap.size := by simp; omega
    have HNE : Hid ((Value.slice a l.length cap).ownBlock ≠ some w1.heap.size) := Lib.hid (fun e => by have := (H1.out.row.lt _ e).2; omega)
    have Hlo := Lib.hid hlo1; have Hhi := Lib.hid hhi; have Hgt := Lib.hid hgt; have Hf := Lib.hid hf
    clear hfalse hgt hcnt hfail hmode hf hlo1 hhi
    go_wp2_with fail
    refine (insert_own base l.length i _ (l.flatMap encH) (encH ⟨t, 0, 0⟩) w1.heap.size _ _ hl6 hi hz2 H2.out.row rfl HNE.out (heap_alloc_new w1 _) (by intro u hu; simp [encH] at hu; rcases hu with rfl | rfl <;> rfl) (encH_one l)).mono ?_
    rintro e w6 ⟨v6, rfl, hown6, hg6⟩
    obtain ⟨L0, hL0⟩ : ∃ L, L = l.take i ++ ⟨t, 0, 0⟩ :: l.drop i := ⟨_, rfl⟩
    have hflat : (l.flatMap encH).take (i * 3) ++ encH ⟨t, 0, 0⟩ ++ (l.flatMap encH).drop (i * 3) = L0.flatMap encH := by
      rw [hL0, flat_take encH encH_len, flat_drop encH encH_len]; simp
    rw [hflat] at hown6
    have hlen0 : L0.length = l.length + 1 := by rw [hL0]; simp; omega
    have hset : L0.set i ⟨t, 1, c⟩ = failH l t c := by
      rw [HF.out, hL0, List.set_append_right _ _ (by simp; omega)]
      have : i - (l.take i).length = 0 := by simp; omega
      rw [this]; rfl
    have hgi : L0[i]? = some ⟨t, 0, 0⟩ := by
      rw [hL0, List.getElem?_append_right (by simp; omega)]
      have : i - (l.take i).length = 0 := by simp; omega
      rw [this]; rfl
    have hkg : Keep (Value.slice a l.length cap).ownBlock.toList (w1.alloc (.cells (encH ⟨t, 0, 0⟩).toArray 68)) w6 := Keep.of_grown hg6 (fun k hk => .inl (by rw [hk]; simp))
    have hs2 : s < (w1.alloc (.cells (encH ⟨t, 0, 0⟩).toArray 68)).heap.size := H2.out.lt
    have hbox6 : w6.heap[s]? = some (.cells #[.int .i64 r, wv, .slice a l.length cap] 41 (0, 0)) := (hkg.block s hs2 (fun hm => by simp at hm; exact H1.out.ne s hm rfl)).trans H2.out.box
    have hKT6 : KT s w w6 := ((KT.of_below HB1.out).trans (KT.of_below HB2.out)).trans ⟨hkg.size, fun b hb hbs ht => hkg.block b hb (fun hm => by
      simp at hm
      obtain ⟨cur, hc⟩ := own_type H2.out.row hm
      exact ht _ _ hc)⟩
    have hB6 : Below base w w6 := ((HB1.out.mono (by omega)).trans (HB2.out.mono (by omega))).trans (hkg.below hz2 (fun f hf => by simp at hf; exact (H2.out.row.lt f hf).1))
    have hs6 := hkg.size
    rcases own_cases hown6 with ⟨_, h0, _⟩ | ⟨g, c9, e6, hg1, hg2, hcc⟩
    · omega
    subst e6
    have hgs : g ≠ s := fun e => by
      obtain ⟨cur, hc⟩ := own_type hown6 (r := g) rfl
      rw [e, hbox6] at hc; cases hc
    have d2 := box_at hbox6 (j := 2) rfl
    have g2 := box_free hbox6 2
    have HG6 := Lib.hid hg6; have HO6 := Lib.hid hown6; have HX6 := Lib.hid hbox6; have HK6 := Lib.hid hKT6; have HB6 := Lib.hid hB6
    have HL0 := Lib.hid hL0; have HLEN := Lib.hid hlen0; have HSET := Lib.hid hset; have HGI := Lib.hid hgi
    have hs6' : s < w6.heap.size := by omega
    clear c2 f2 hL0 hflat hlen0 hset hgi hkg hbox6 hKT6 hB6 hown6 hg6
    go_upto_region 4 with (fail)
    obtain ⟨w7, hw7⟩ : ∃ W, W = w6.setCell ⟨s, 2, none⟩ (.slice (some ⟨g, 0, none⟩) (l.length + 1) c9) := ⟨_, rfl⟩
    rw [← hw7]
    have hk7 : Keep [s] w6 w7 := by rw [hw7]; exact (Keep.refl [s] w6).setCell (by simp) _
    have hb7 : w7.heap[s]? = some (.cells #[.int .i64 r, wv, .slice (some ⟨g, 0, none⟩) (l.length + 1) c9] 41 (0, 0)) := by
      rw [hw7]; simp only [World.setCell, Array.getElem?_modify]; simp [HX6.out]
    have hown7 := own_keep HO6.out hk7 (fun q hq hm => by simp [Value.ownBlock] at hq; simp at hm; omega)
    have hget := HGI.out
    have hlen0 := HLEN.out
    have hn := own_cell hown7 rfl (flat_get encH encH_len L0 i 1 _ hget (by omega))
    have hn3 := own_cell hown7 rfl (flat_get encH encH_len L0 i 2 _ hget (by omega))
    have hfn := own_frozen hown7 (i * 3 + 1)
    have hset1 := own_set hown7 (j := i * 3 + 1) (u := .int .i64 1) (by rw [flat_length encH encH_len, hlen0]; omega)
    rw [flat_set encH encH_len L0 i 1 ⟨t, 0, 0⟩ ⟨t, 1, 0⟩ _ hget (by omega) rfl] at hset1
    have hxs1 : (L0.set i ⟨t, 1, 0⟩)[i]? = some ⟨t, 1, 0⟩ := by
      rw [List.getElem?_set_self (by omega)]
    have hfc := own_frozen hset1 (i * 3 + 2)
    have hset2 := own_set hset1 (j := i * 3 + 2) (u := .int .i64 c) (by rw [flat_length encH encH_len]; simp; omega)
    rw [flat_set encH encH_len _ i 2 ⟨t, 1, 0⟩ ⟨t, 1, c⟩ _ hxs1 (by omega) rfl, List.set_set, HSET.out] at hset2
    have hpl : (failH l t c).length = l.length + 1 := by rw [← HSET.out]; simp [hlen0]
    have hn2 : ((w7.setCell ⟨g, i * 3 + 1, none⟩ (.int .i64 1)).setCell ⟨g, i * 3 + 2, none⟩ (.int .i64 c)).cell? ⟨g, i * 3 + 1, none⟩ = some (.int .i64 1) := by
      have h1 : (failH l t c)[i]? = some ⟨t, 1, c⟩ := by rw [← HSET.out, List.getElem?_set_self (by omega)]
      exact own_cell hset2 rfl (flat_get encH encH_len _ i 1 _ h1 (by omega))
    have hr0 : w7.cell? ⟨g, i * 3 + 1, none⟩ = some (.int .i64 0) := hn
    have hr1 : w7.cell? ⟨g, i * 3 + 2, none⟩ = some (.int .i64 0) := hn3
    obtain ⟨w9, hw9⟩ : ∃ W, W = (w7.setCell ⟨g, i * 3 + 1, none⟩ (.int .i64 1)).setCell ⟨g, i * 3 + 2, none⟩ (.int .i64 c) := ⟨_, rfl⟩
    have hk9 : Keep [g] w7 w9 := by rw [hw9]; exact ((Keep.refl [g] w7).setCell (by simp) _).setCell (by simp) _
    have HST : Hid (St w9 base s r wv (.slice (some ⟨g, 0, none⟩) (l.length + 1) c9) (failH l t c)) := Lib.hid ⟨(hk9.block s (Array.getElem?_eq_some_iff.1 hb7).1 (by simp; omega)).trans hb7, by rw [hw9, hpl]; exact hset2, fun q hq => by simp [Value.ownBlock] at hq; omega, hlo⟩
    have hs7 := hk7.size
    have HKB : Hid (Below base w w9) := Lib.hid ((HB6.out.trans (hk7.below (by omega) (fun f hf => by rw [List.mem_singleton.1 hf]; exact hlo))).trans (hk9.below (by omega) (fun f hf => by rw [List.mem_singleton.1 hf]; exact hg1)))
    have HK : Hid (KT s w w9) := Lib.hid ((HK6.out.put hk7 (.inl rfl)).put hk9 (.inr (.inr (by obtain ⟨cur, hc⟩ := own_type hown7 (r := g) rfl; exact ⟨_, _, hc⟩))))
    have d2 := box_at hb7 (j := 2) rfl
    have HW9 := Lib.hid hw9
    have hil : i < l.length + 1 := by omega
    have hmin : min (1 : Int) 1000000000 = 1 := by decide
    clear hw7 hw9 hk7 hk9 hb7 hown7 hget hlen0 hn hn3 hset1 hset2 hxs1 hpl hs7
    go_wp2
    go_ret
    rw [← HW9.out]
    exact ⟨_, by rw [HM.out]; rfl, HST.out, HKB.out, HK.out⟩
end Go.Proofs.YthmnhpakgjnngaaGreatDoor
