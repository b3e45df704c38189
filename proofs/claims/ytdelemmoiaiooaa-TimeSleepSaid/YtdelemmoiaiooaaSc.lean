/- time: what the law's world keeps; tick -/
import Derived.Test.YtdelemmoiaiooaaSb
namespace Go.Ti
open Go Go.RowKit Go.Bs Go.Cl Go.Rw Go.Wi
def pend (S : Wd) (t : Nat) : Int := if S.en t = 0 then 0 else 1
structure Inv (S : Wd) (b : Nat) : Prop where
  v : validT S.L = true
  de : ∀ t, t < 32 → S.due t = S.en t
  me : ∀ t : Nat, t < 32 → ((t : Int) ∈ S.L ↔ S.en t ≠ 0)
  ge : ∀ t, t < 32 → S.en t ≠ 0 → S.now ≤ S.en t
  gt : ∀ t, t < 32 → t < b → S.en t ≠ 0 → S.now < S.en t
  an : ∀ t, t < 32 → 0 ≤ S.ans t
  ok : S.failed = false
  n0 : 0 ≤ S.now
structure Rel (S S' : Wd) : Prop where
  fr : S'.freed = S.freed
  su : ∀ t, t < 32 → S'.ans t + pend S' t = S.ans t + pend S t
theorem Rel.refl (S : Wd) : Rel S S := ⟨rfl, fun _ _ => rfl⟩
theorem Rel.trans {A B C : Wd} (h : Rel A B) (k : Rel B C) : Rel A C := ⟨k.fr.trans h.fr, fun t ht => (k.su t ht).trans (h.su t ht)⟩
theorem pend_nn (S : Wd) (t : Nat) : 0 ≤ pend S t ∧ pend S t ≤ 1 := by unfold pend; split <;> omega
theorem pend_upd (S S' : Wd) (t k : Nat) (x : Int) (h : S'.en = upd S.en k x) : pend S' t = if t = k then (if x = 0 then 0 else 1) else pend S t := by
  unfold pend
  rw [h]
  by_cases e : t = k
  · subst e; rw [upd_same, if_pos rfl]
  · rw [upd_other _ e, if_neg e]
theorem upd_id {f : Nat → Int} {k : Nat} {x : Int} (h : f k = x) : upd f k x = f := by
  funext j; unfold upd; split
  · subst_vars; rfl
  · rfl
theorem Inv.usr {S : Wd} {b : Nat} (h : Inv S b) {t : Nat} (ht : t < 32) (hn : S.en t ≠ 0) : usr t = true := valid_usr h.v _ ((h.me t ht).2 hn)
theorem Inv.next {S : Wd} (h : Inv S 32) : Inv { S with now := S.now + 1 } 0 :=
  { v := h.v, de := h.de, me := h.me, ge := fun t ht hn => by have := h.gt t ht ht hn; simp only; omega, gt := fun t _ hb => absurd hb (Nat.not_lt_zero _), an := h.an, ok := h.ok, n0 := by have := h.n0; simp only; omega }
theorem Inv.skip {S : Wd} {k : Nat} (h : Inv S k) (hk : S.en k = 0 ∨ S.now < S.en k) : Inv S (k + 1) :=
  ⟨h.v, h.de, h.me, h.ge, fun t ht hb hn => by
    by_cases e : t = k
    · subst e
      rcases hk with h0 | h1
      · exact absurd h0 hn
      · exact h1
    · exact h.gt t ht (by omega) hn, h.an, h.ok, h.n0⟩
theorem int_ne {t k : Nat} (h : t ≠ k) : (t : Int) ≠ (k : Int) := by omega
theorem upd_en {S : Wd} {k t : Nat} (h : upd S.en k 0 t ≠ 0) : t ≠ k ∧ S.en t ≠ 0 ∧ upd S.en k 0 t = S.en t := by
  by_cases e : t = k
  · subst e; rw [upd_same] at h; exact absurd rfl h
  · have := upd_other S.en e 0
    exact ⟨e, by rwa [this] at h, this⟩
/-- the state in which a sleep has ended -/
def fire (S : Wd) (k : Nat) : Wd := { L := delT S.L k, now := S.now, due := upd S.due k 0, en := upd S.en k 0, ans := upd S.ans k (S.ans k + 1), freed := S.freed, failed := false }
theorem Inv.fire {S : Wd} {k : Nat} (h : Inv S k) (hk : k < 32) (hn : S.en k ≠ 0) (hl : S.en k ≤ S.now) : Inv (fire S k) (k + 1) ∧ Rel S (fire S k) ∧ S.en k = S.now := by
  have h1 := h.ge k hk hn
  refine ⟨{ v := valid_del h.v _, de := fun t ht => ?_, me := fun t ht => ?_, ge := fun t ht hz => ?_, gt := fun t ht hb hz => ?_, an := fun t ht => ?_, ok := rfl, n0 := h.n0 }, ⟨rfl, fun t ht => ?_⟩, by omega⟩
  · show upd S.due k 0 t = upd S.en k 0 t
    unfold upd; split
    · rfl
    · exact h.de t ht
  · show (t : Int) ∈ delT S.L k ↔ upd S.en k 0 t ≠ 0
    rw [del_mem, h.me t ht]
    by_cases e : t = k
    · subst e; rw [upd_same]; simp
    · rw [upd_other _ e]
      constructor
      · exact fun h => h.2
      · exact fun h => ⟨int_ne e, h⟩
  · have hz := upd_en hz
    show S.now ≤ upd S.en k 0 t
    rw [hz.2.2]; exact h.ge t ht hz.2.1
  · have hz := upd_en hz
    show S.now < upd S.en k 0 t
    rw [hz.2.2]; exact h.gt t ht (by omega) hz.2.1
  · show 0 ≤ upd S.ans k (S.ans k + 1) t
    unfold upd; split
    · have := h.an k hk; omega
    · exact h.an t ht
  · show upd S.ans k (S.ans k + 1) t + pend (Ti.fire S k) t = S.ans t + pend S t
    rw [pend_upd S (Ti.fire S k) t k 0 rfl]
    by_cases e : t = k
    · subst e; rw [upd_same, if_pos rfl, if_pos rfl, pend, if_neg hn]; omega
    · rw [upd_other _ e, if_neg e]
theorem fire_eq {S : Wd} {k : Nat} (hf : S.failed = false) (he : S.en k = S.now) (r : Int) : [reply k r].foldl effS { S with due := upd S.due k 0, L := delT S.L k } = fire S k := by
  simp only [List.foldl_cons, List.foldl_nil, effS_reply, fire, hf, he]
  simp
/-- the state in which a sleep has been freed -/
def freeS (S : Wd) (t : Nat) : Wd := { L := delT S.L t, now := S.now, due := upd S.due t 0, en := upd S.en t 0, ans := S.ans, freed := S.freed + 1, failed := S.failed }
theorem Inv.free {S : Wd} (h : Inv S 32) {k : Nat} (_hk : k < 32) : Inv (freeS S k) 32 :=
  { v := valid_del h.v _
    de := fun t ht => by
      show upd S.due k 0 t = upd S.en k 0 t
      unfold upd; split
      · rfl
      · exact h.de t ht
    me := fun t ht => by
      show (t : Int) ∈ delT S.L k ↔ upd S.en k 0 t ≠ 0
      rw [del_mem, h.me t ht]
      by_cases e : t = k
      · subst e; rw [upd_same]; simp
      · rw [upd_other _ e]
        constructor
        · exact fun h => h.2
        · exact fun h => ⟨int_ne e, h⟩
    ge := fun t ht hz => by
      have hz := upd_en hz
      show S.now ≤ upd S.en k 0 t
      rw [hz.2.2]; exact h.ge t ht hz.2.1
    gt := fun t ht hb hz => by
      have hz := upd_en hz
      show S.now < upd S.en k 0 t
      rw [hz.2.2]; exact h.gt t ht hb hz.2.1
    an := h.an, ok := h.ok, n0 := h.n0 }
theorem free_eq {S : Wd} (h : Inv S 32) {k : Nat} (hk : k < 32) : ((if (k : Int) ∈ S.L then [timer (-1) k] else []) ++ [send 3 17 k]).foldl effS { S with en := upd S.en k 0, L := delT S.L k } = freeS S k := by
  by_cases hm : (k : Int) ∈ S.L
  · rw [if_pos hm]
    simp only [List.cons_append, List.nil_append, List.foldl_cons, List.foldl_nil, effS_timer, effS_send, freeS]
    simp
  · rw [if_neg hm]
    have h0 : S.en k = 0 := Classical.not_not.1 (fun hn => hm ((h.me k hk).2 hn))
    have h1 : S.due k = 0 := (h.de k hk).trans h0
    simp only [List.nil_append, List.foldl_cons, List.foldl_nil, effS_send, freeS, upd_id h1]
/-- the state behind an answer -/
def ansS (S : Wd) (t : Nat) : Wd := { S with ans := upd S.ans t (S.ans t + 1) }
theorem Inv.ans {S : Wd} (h : Inv S 32) {k : Nat} (hk : k < 32) : Inv (ansS S k) 32 :=
  ⟨h.v, h.de, h.me, h.ge, h.gt, fun t ht => by
    show 0 ≤ upd S.ans k (S.ans k + 1) t
    unfold upd; split
    · have := h.an k hk; omega
    · exact h.an t ht, h.ok, h.n0⟩
theorem ans_eq {S : Wd} {k : Nat} (hf : S.failed = false) (he : S.en k = 0) (r : Int) : [reply k r].foldl effS { S with L := S.L } = ansS S k := by
  simp only [List.foldl_cons, List.foldl_nil, effS_reply, ansS, hf, he, upd_id he]
  simp
/-- the state in which a task has begun to sleep -/
def sleepS (S : Wd) (t : Nat) (n : Int) : Wd := { L := insT S.L t, now := S.now, due := upd S.due t (S.now + n), en := upd S.en t (S.now + n), ans := S.ans, freed := S.freed, failed := S.failed }
theorem Inv.sleep {S : Wd} (h : Inv S 32) {k : Nat} (hk : k < 32) (hu : Ti.usr k = true) (he : S.en k = 0) {n : Int} (hn : 1 ≤ n) : Inv (sleepS S k n) 32 :=
  have hm : (k : Int) ∉ S.L := fun hm => (h.me k hk).1 hm he
  have hn0 := h.n0
  { v := valid_ins h.v hu hm
    de := fun t ht => by
      show upd S.due k _ t = upd S.en k _ t
      unfold upd; split
      · rfl
      · exact h.de t ht
    me := fun t ht => by
      show (t : Int) ∈ insT S.L k ↔ upd S.en k _ t ≠ 0
      rw [ins_mem, h.me t ht]
      by_cases e : t = k
      · subst e; rw [upd_same]; constructor
        · intro _; omega
        · intro _; exact .inl rfl
      · rw [upd_other _ e]
        constructor
        · exact fun h => h.resolve_left (int_ne e)
        · exact .inr
    ge := fun t ht hz => by
      show S.now ≤ upd S.en k _ t
      by_cases e : t = k
      · subst e; rw [upd_same]; omega
      · rw [upd_other _ e]; exact h.ge t ht (by have hz : upd S.en k _ t ≠ 0 := hz; rwa [upd_other _ e] at hz)
    gt := fun t ht hb hz => by
      show S.now < upd S.en k _ t
      by_cases e : t = k
      · subst e; rw [upd_same]; omega
      · rw [upd_other _ e]; exact h.gt t ht hb (by have hz : upd S.en k _ t ≠ 0 := hz; rwa [upd_other _ e] at hz)
    an := h.an, ok := h.ok, n0 := h.n0 }
theorem sleep_eq {S : Wd} {k : Nat} {n : Int} (hn : 1 ≤ n) : [timer n k].foldl effS { S with en := upd S.en k (S.now + n), L := insT S.L k } = sleepS S k n := by
  simp only [List.foldl_cons, List.foldl_nil, effS_timer, sleepS]
  rw [if_pos (by omega)]
theorem Inv.bnd {S : Wd} {b : Nat} (h : Inv S b) (hn : S.now ≤ 1000000) (ha : ∀ t, t < 32 → S.ans t ≤ 1000000) (h0 : 0 ≤ S.freed) (h1 : S.freed ≤ 1000000) : Bnd S 0 := ⟨h.n0, hn, h.an, fun t ht => by have := ha t ht; omega, h0, by omega⟩
theorem ok_reply {t : Nat} (ht : t < 32) (r : Int) : ∀ e ∈ [reply t r], okE e := fun e he => by
  rw [List.mem_singleton.1 he]; exact .inl ⟨t, r, ht, rfl⟩
theorem ok_timer {t : Nat} (ht : t < 32) {n : Int} (h1 : 1 ≤ n) (h2 : n ≤ 1000000) : ∀ e ∈ [timer n t], okE e := fun e he => by
  rw [List.mem_singleton.1 he]; exact .inr (.inl ⟨t, n, ht, by omega, h2, rfl⟩)
theorem ok_free {t : Nat} (ht : t < 32) (l : List Int) : ∀ e ∈ (if (t : Int) ∈ l then [timer (-1) t] else []) ++ [send 3 17 t], okE e := fun e he => by
  rcases List.mem_append.1 he with he | he
  · split at he
    · rw [List.mem_singleton.1 he]; exact .inr (.inl ⟨t, -1, ht, by omega, by omega, rfl⟩)
    · cases he
  · rw [List.mem_singleton.1 he]; exact .inr (.inr ⟨t, rfl⟩)
theorem take_time {l : List Int} {q t a1 a2 a3 : Int} (hu : usr t = true) (ht : t ∉ l) : takeT l ⟨t, 10, 1, q, 18, a1, a2, a3⟩ = some (l, [reply t a3]) := by simp [takeT, sysT, hu, ht]
theorem take_bad {l : List Int} {q t n a2 a3 : Int} (hu : usr t = true) (ht : t ∉ l) (h : n < 0 ∨ 1000000 < n) : takeT l ⟨t, 10, 1, q, 19, n, a2, a3⟩ = some (l, [reply t (-2)]) := by simp [takeT, sysT, hu, ht, h]
theorem take_zero {l : List Int} {q t a2 a3 : Int} (hu : usr t = true) (ht : t ∉ l) : takeT l ⟨t, 10, 1, q, 19, 0, a2, a3⟩ = some (l, [reply t 0]) := by simp [takeT, sysT, hu, ht]
end Go.Ti
namespace Go.Proofs.Ytdelemmoiaiooaa
open Go.RowKit Go.Bs Go.Cl Go.Rw Go.Ti Go.Wi
set_option maxRecDepth 100000 in
set_option maxHeartbeats 4000000 in
theorem tick_any (g : Nat) (iv : Value) (S : Wd) (w : World) (hW : WdAt w g iv S) (hB : Bytes [g] w iv (Ti.encS S.L)) (hI : Inv S 32) (hs : ∀ t, t < 32 → S.ans t + pend S t ≤ 1000) (hn : S.now ≤ 100000) (h0 : 0 ≤ S.freed) (h1 : S.freed ≤ 1000) :
    Calls Try.prog 23 #[.pointer (some ⟨g, 0, none⟩)] w fun e w' => e = .returned (.tuple #[]) ∧ ∃ iv' S', WdAt w' g iv' S' ∧ Bytes [g] w' iv' (Ti.encS S'.L) ∧ Inv S' 32 ∧ S'.now = S.now + 1 ∧ Rel S S' ∧ Keep [g] w w' := by
  have c1 := hW.now
  have f1 := hW.free 1
  have hn0 := hI.n0
  have H1 := Lib.hid (hW.setNow (S.now + 1))
  have HB := Lib.hid (Raw.keep hB ((Keep.refl [g] w).setCell (p := ⟨g, 1, none⟩) (.inl (by simp)) (.int .i64 (S.now + 1))) (fun f hf => .inl hf) (fun f hf => .inl hf) : Bytes [g] _ _ _)
  have HI := Lib.hid hI.next
  have HS := Lib.hid hs
  clear hW hB hI hs
  go_enter Try.func23, Try.ntmps23
  go_wp2
  go_loopw [2] (fun i wr => ∃ k : Nat, k ≤ 32 ∧ i = .int .i64 k ∧ ∃ iv' T, WdAt wr g iv' T ∧ Bytes [g] wr iv' (Ti.encS T.L) ∧ Inv T k ∧ T.now = S.now + 1 ∧ Rel S T ∧ Keep [g] w wr) (fun i _ => 32 - (intOf i).toNat)
  case atStart => exact ⟨0, by omega, rfl, _, _, H1.out, HB.out, HI.out, rfl, ⟨rfl, fun _ _ => rfl⟩, (Keep.refl _ _).setCell (.inl (by simp)) _⟩
  case round =>
    obtain ⟨k, hk, rfl, jv, T, hT, hB, hI, hnw, hR, hkp⟩ := hrel
    by_cases hlt : k < 32
    · have d1 := hT.cdue hlt
      have fd := hT.free (2 + k)
      have cn := hT.now
      have hde := hI.de k hlt
      have HT := Lib.hid hT
      have HBT := Lib.hid hB
      have HIT := Lib.hid hI
      have HR := Lib.hid hR
      have HK := Lib.hid hkp
      have HN := Lib.hid hnw
      rw [hde] at d1
      clear hT hB hI hR hkp hnw
      have HDE := Lib.hid hde
      clear hde
      by_cases h0 : T.en k = 0
      · go_wp2
        refine Txt.wp_txt (by kernel_rfl) (by kernel_rfl) ?_
        go_wp2
        refine Txt.DrawPost.mk0 (by rfl) ?_
        go_wp2
        go_roundw
        case rel => exact ⟨k + 1, hlt, by go_num, jv, T, HT.out, HBT.out, HIT.out.skip (.inl h0), HN.out, HR.out, HK.out.drew⟩
        case measure => simp [intOf]; omega
      by_cases h2 : T.now < T.en k
      · have g0 : (T.en k != 0) = true := by simp [h0]
        go_wp2
        refine Txt.wp_txt (by kernel_rfl) (by kernel_rfl) ?_
        go_wp2
        refine Txt.DrawPost.mk0 (by rfl) ?_
        go_wp2
        go_roundw
        case rel => exact ⟨k + 1, hlt, by go_num, jv, T, HT.out, HBT.out, HIT.out.skip (.inr h2), HN.out, HR.out, HK.out.drew⟩
        case measure => simp [intOf]; omega
      have g0 : (T.en k != 0) = true := by simp [h0]
      have g1 : T.en k ≤ T.now := by omega
      obtain ⟨hi', hr', he'⟩ := HIT.out.fire hlt h0 g1
      have HI' := Lib.hid hi'
      have HR' := Lib.hid hr'
      have HE' := Lib.hid he'
      have HU := Lib.hid (HIT.out.usr hlt h0)
      clear hi' hr' he'
      go_wp2
      refine Txt.wp_txt (by kernel_rfl) (by kernel_rfl) ?_
      go_wp2
      refine Txt.DrawPost.mk0 (by rfl) ?_
      obtain ⟨w1, hw1⟩ : ∃ W, W = (wr.setCell ⟨g, 2 + k, none⟩ (.int .i64 0)).drew := ⟨_, rfl⟩
      have HT1 : Hid (WdAt w1 g jv { T with due := upd T.due k 0 }) := Lib.hid (by rw [hw1]; exact HT.out.setDue hlt 0)
      have K1 : Keep [g] wr w1 := by rw [hw1]; exact ((Keep.refl [g] wr).setCell (.inl (by simp)) _).drew
      have HK1 := Lib.hid (HK.out.trans K1 (fun f hf => .inl hf))
      have HB1 := Lib.hid (Raw.keep HBT.out K1 (fun f hf => .inl hf) (fun f hf => .inl hf) : Bytes [g] w1 jv (Ti.encS T.L))
      have c1 := HT1.out.now
      simp only at c1
      have HW1 := Lib.hid hw1
      clear hw1 K1
      go_upto_region 6 with (fail)
      rw [← HW1.out]
      clear HW1 d1 fd cn
      have hsum : ∀ t, t < 32 → T.ans t ≤ 1000 := fun t ht => by
        have := HR.out.su t ht; have := HS.out t ht; have := pend_nn T t; omega
      go_wp2_with fail
      refine (tell_any g jv { T with due := upd T.due k 0 } (delT T.L k) [reply k 0] 0 0 4 0 k T.now 0 0 w1 HT1.out HB1.out (by
        have := stp_of (m := ⟨0, 10, 4, 0, k, T.now, 0, 0⟩) HIT.out.v (take_alarm HU.out)
        rw [if_pos ((HIT.out.me k hlt).2 h0)] at this
        exact this) (ok_reply hlt 0) ⟨HIT.out.n0, by have := HN.out; simp only; omega, HIT.out.an, fun t ht => by have := hsum t ht; simp only; omega, by have := HR.out.fr; simp only; omega, by have := HR.out.fr; simp only; omega⟩).mono ?_
      rw [fire_eq HIT.out.ok HE'.out]
      rintro e w2 ⟨rfl, kv, hT2, hB2, hK2⟩
      have HT2 := Lib.hid hT2
      have HB2 := Lib.hid hB2
      have HK2 := Lib.hid (HK1.out.trans hK2 (fun f hf => .inl hf))
      clear hT2 hB2 hK2 hsum
      go_wp2
      go_roundw
      case rel => exact ⟨k + 1, hlt, by go_num, kv, _, HT2.out, HB2.out, HI'.out, HN.out, HR.out.trans HR'.out, HK2.out⟩
      case measure => simp [intOf]; omega
    · obtain rfl : k = 32 := by omega
      have HT := Lib.hid hT
      have HBT := Lib.hid hB
      have HIT := Lib.hid hI
      have HR := Lib.hid hR
      have HK := Lib.hid hkp
      have HN := Lib.hid hnw
      clear hT hB hI hR hkp hnw
      go_wp2
      refine bodyPost_end (results_none rfl _ _ _) rfl ?_
      exact ⟨rfl, jv, T, HT.out, HBT.out, HIT.out, HN.out, HR.out, HK.out⟩
end Go.Proofs.Ytdelemmoiaiooaa
