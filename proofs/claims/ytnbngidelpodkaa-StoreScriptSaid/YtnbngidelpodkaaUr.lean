/- Undo: Back, Rollback -/
import Derived.Test.YtnbngidelpodkaaUq
namespace Go.Un
open Go Go.RowKit Go.Bs Go.Cl Go.Rw
/-- the first n elements of a row, with no room behind them -/
theorem RowF.cut {w : World} {base e k N c n : Nat} {a : Option Addr} {xs : List Value} (h : RowF w base e k (.slice a N c) N xs) (hn : n ≤ N) : RowF w base e k (.slice a n n) n (xs.take (n * k)) := by
  have hl := h.len
  have hlen : (xs.take (n * k)).length = n * k := by rw [List.length_take, hl]; exact Nat.min_eq_left (Nat.mul_le_mul_right _ hn)
  rcases h with ⟨_, ⟨hv, h0⟩ | ⟨g, cap, cur, hv, hb, hg, hnc, hm, hs, ht⟩⟩ | ⟨r, cur, hv, h2, h3, h4, h5, h6⟩
  · cases hv
    obtain rfl : n = 0 := by omega
    exact .inl (by simpa using World.ownsRow_nil w base e k)
  · cases hv
    refine .inr ⟨g, cur, rfl, hb, hg, by omega, hlen, ?_⟩
    rw [← ht, List.take_take, Nat.min_eq_left (Nat.mul_le_mul_right _ hn)]
  · cases hv
    refine .inr ⟨r, cur, rfl, h2, h3, by omega, hlen, ?_⟩
    rw [← h6, List.take_take, Nat.min_eq_left (Nat.mul_le_mul_right _ hn)]
/-- a slice behind its first n elements -/
theorem Raw.low {F : List Nat} {w : World} {a : Option Addr} {N c k n : Nat} {xs : List Value} (h : Raw F k w (.slice a N c) N xs) (hn : n ≤ N) (hc : n ≠ c) :
    Raw F k w (.slice (a.map fun x => x.add (n * k)) (N - n) (c - n)) (N - n) (xs.drop (n * k)) := by
  have hm : c ≤ maxLen := by obtain ⟨_, _, _, _, hv, _, h4, _⟩ := h; cases hv; exact h4
  by_cases e : n = N
  · subst e
    rw [show xs.drop (n * k) = [] from List.drop_eq_nil_of_le (by rw [h.len]; exact Nat.le_refl _)]
    exact Raw.zero' F k w _ _ _ (Nat.sub_self _) (by omega)
  · have h' := h
    obtain ⟨_, _, a', c', hv, _, _, h5⟩ := h'
    cases hv
    have h0 : 0 < N := by omega
    obtain ⟨b, off, rfl, _⟩ := h5 h0
    rw [Option.map_some, Addr.add_lit]
    exact Raw.drop h (m := n) (by omega) rfl rfl rfl
theorem Raw.low' {F : List Nat} {w : World} {a : Option Addr} {N c k n : Nat} {xs : List Value} (h : Raw F k w (.slice a N c) N xs) (hn : n ≤ N) (hc : n = c) :
    Raw F k w (.slice a (N - n) 0) (N - n) (xs.drop (n * k)) := by
  have h3 : N ≤ c := by obtain ⟨_, _, _, _, hv, h4, _⟩ := h; cases hv; exact h4
  obtain rfl : n = N := by omega
  rw [show xs.drop (n * k) = [] from List.drop_eq_nil_of_le (by rw [h.len]; exact Nat.le_refl _)]
  exact Raw.zero' F k w _ _ _ (Nat.sub_self _) (Nat.zero_le _)
end Go.Un
namespace Go.Proofs.Ytnbngidelpodkaa
open Go.RowKit Go.Bs Go.Cl Go.Rw Go.Un

def backE (len : Nat) (n : Int) (o : Bool) : Int := if o then (if n < 0 ∨ (len : Int) < n then 2 else 0) else 7
set_option maxHeartbeats 400000 in
theorem back_no {base g : Nat} {iv rv : Value} {img : List UInt8} {rs : List (Rec × Value)} {o : Bool} (n : Int) (w : World) (h : LogAt w base g iv rv img rs o) (hno : backE rs.length n o ≠ 0) :
    Calls Try.prog 55 #[.pointer (some ⟨g, 0, none⟩), .int .i64 n] w fun e w' => e = .returned (.int .i64 (backE rs.length n o)) ∧ w = w' := by
  obtain ⟨ra, rc, rfl⟩ := h.hr.slice
  have c1 : w.cell? ⟨g, 1, none⟩ = some (.slice ra rs.length rc) := box_at h.hc rfl
  have H := Lib.hid h; clear h
  cases o
  · go_enter Try.func55, Try.ntmps55
    go_wp2_with (go_at_call 52; refine (closed_any _ H.out).mono ?_; rintro e w' ⟨rfl, rfl⟩)
    go_ret
    exact ⟨rfl, rfl⟩
  · by_cases h1 : n < 0
    · have e2 : backE rs.length n true = 2 := by simp [backE, h1]
      rw [e2]
      clear hno e2
      go_enter Try.func55, Try.ntmps55
      go_wp2_with (go_at_call 52; refine (closed_any _ H.out).mono ?_; rintro e w' ⟨rfl, rfl⟩)
      go_ret
      exact ⟨rfl, rfl⟩
    · have h2 : (rs.length : Int) < n := by
        by_cases h2 : (rs.length : Int) < n
        · exact h2
        · exact absurd (by simp [backE, h1, h2]) hno
      have e2 : backE rs.length n true = 2 := by simp [backE, h2]
      rw [e2]
      clear hno e2
      have h1' : 0 ≤ n := by omega
      go_enter Try.func55, Try.ntmps55
      go_wp2_with (go_at_call 52; refine (closed_any _ H.out).mono ?_; rintro e w' ⟨rfl, rfl⟩)
      go_ret
      exact ⟨rfl, rfl⟩

theorem back_fin {w w2 : World} {base g n rc : Nat} {iv v2 : Value} {ra : Option Addr} {img img2 : List UInt8} {rs : List (Rec × Value)} (h : LogAt w base g iv (.slice ra rs.length rc) img rs true) (hn : n ≤ rs.length)
    (hb2 : Below w.heap.size w w2) (hown2 : w2.ownsRow base 5 1 v2 img2.length (bytesV img2)) (hnew2 : v2 = iv ∨ ∀ r, v2.ownBlock = some r → w.heap.size ≤ r) :
    StepP w base g iv (.slice ra rs.length rc) rs img2 ((rs.take n).map (·.1)) true ((w2.setCell ⟨g, 0, none⟩ v2).setCell ⟨g, 1, none⟩ (.slice ra n n)) := by
  have hF2 : ∀ f, v2.ownBlock = some f → iv.ownBlock = some f ∨ w.heap.size ≤ f := fun f hf => by
    rcases hnew2 with rfl | h
    · exact .inl hf
    · exact .inr (h f hf)
  have him := LogAt.image h hb2 hown2 hF2
  have hob : (Value.slice ra n n).ownBlock = (Value.slice ra rs.length rc).ownBlock := by cases ra <;> rfl
  have hcut := RowF.cut him.1.hr hn
  have htl : (rs.take n).length = n := by rw [List.length_take]; omega
  rw [flat_take encR encR_len] at hcut
  have hrc2 := LogAt.recs (ts := rs.take n) (v3 := .slice ra n n) him.1 (Keep.refl _ _) (by rw [htl]; exact hcut) (fun f hf => .inl (by rw [← hob]; exact hf)) (fun p hp => him.1.hb p (List.mem_of_mem_take hp))
  refine ⟨v2, _, rs.take n, rfl, hrc2.1, ((him.2.mono (F' := LogF g iv (.slice ra rs.length rc)) (fun f hf => .inl (by simp [LogF, List.mem_singleton.1 hf]))).trans hrc2.2 (fun f hf => .inl ?_)), fun f hf => ?_, ?_⟩
  · simp only [LogF, List.mem_cons, List.mem_append] at hf ⊢
    rcases hf with hf | hf
    · exact .inl hf
    · exact .inr (.inr hf)
  · simp only [LogF, List.mem_cons, List.mem_append] at hf ⊢
    rw [hob] at hf
    rcases hf with hf | hf | hf
    · exact .inl (.inl hf)
    · rcases hF2 f (by simpa using hf) with h1 | h1
      · exact .inl (.inr (.inl (by simpa using h1)))
      · exact .inr h1
    · exact .inl (.inr (.inr hf))
  · refine (Fr.keep h (him.2.mono fun f hf => .inl (by simp [LogF, List.mem_singleton.1 hf])) fun _ hp => hp).trans (Fr.keep him.1 ((Keep.refl [g] _).setCell (by simp) _ |>.mono fun f hf => .inl (by simp [LogF, List.mem_singleton.1 hf])) fun _ hp => List.mem_of_mem_take hp) him.2.size

set_option maxRecDepth 100000 in
set_option maxHeartbeats 1000000 in
theorem back_yes {base g : Nat} {iv rv : Value} {img : List UInt8} {rs : List (Rec × Value)} (n : Nat) (w : World) (h : LogAt w base g iv rv img rs true) (hil : img.length ≤ 24000) (hrl : rs.length ≤ 1000) (hbase : base ≤ w.heap.size) (hn : n ≤ rs.length) (hok : ∀ p ∈ rs, p.1.ok = true) :
    Calls Try.prog 55 #[.pointer (some ⟨g, 0, none⟩), .int .i64 n] w fun e w' => e = .returned (.int .i64 0) ∧ StepP w base g iv rv rs (takeAll img ((rs.drop n).map (·.1))) ((rs.take n).map (·.1)) true w' := by
  obtain ⟨ia, ic, hiv⟩ := own_slice h.hi
  subst hiv
  obtain ⟨ra, rc, hrv⟩ := h.hr.slice
  subst hrv
  have c0 : w.cell? ⟨g, 0, none⟩ = some (.slice ia img.length ic) := box_at h.hc rfl
  have c1 : w.cell? ⟨g, 1, none⟩ = some (.slice ra rs.length rc) := box_at h.hc rfl
  have hlt := h.lt
  have hraw := RowF.raw (F := []) h.hr (encR_one h.hb) (fun f hf => by cases hf)
  have hrc : rs.length ≤ rc := by obtain ⟨_, _, a', c', hv, g3, _⟩ := hraw; cases hv; exact g3
  have hnrc : n ≤ rc := by omega
  have H := Lib.hid h; clear h
  have Hraw := Lib.hid hraw; clear hraw
  have h2 : (n : Int) ≤ rs.length := by omega
  have Hok := Lib.hid hok; clear hok
  have hdl : (rs.drop n).length = rs.length - n := List.length_drop
  have htl : (rs.take n).length = n := by rw [List.length_take]; omega
  have Hdl := Lib.hid hdl; clear hdl
  have Htl := Lib.hid htl; clear htl
  obtain ⟨im2, him2⟩ : ∃ im2, takeAll img ((rs.drop n).map (·.1)) = im2 := ⟨_, rfl⟩
  obtain ⟨rt, hrt⟩ : ∃ rt, (rs.take n).map (·.1) = rt := ⟨_, rfl⟩
  rw [him2, hrt]
  have Him2 := Lib.hid him2; clear him2
  have Hrt := Lib.hid hrt; clear hrt
  rcases Decidable.em (n = rc) with hco | hco
  · have hR := Raw.low' Hraw.out hn hco
    rw [flat_drop encR encR_len, ← Hdl.out] at hR
    have tk := taken_own (F := []) (.slice ia img.length ic) _ img (rs.drop n) base w.drew (by rw [Hdl.out]; omega) (by omega) H.out.hi hbase (Raw.drew hR) (fun p hp => Hok.out p (List.mem_of_mem_drop hp)) (fun p hp => Raw.to_nil (H.out.hb p (List.mem_of_mem_drop hp)))
    rw [Hdl.out, show rs.length - n = 0 by omega] at tk
    rw [Him2.out] at tk
    have Tk := Lib.hid tk; clear tk hR
    subst hco
    go_enter Try.func55, Try.ntmps55
    go_wp2_with (go_at_call 52; refine (closed_any _ H.out).mono ?_; rintro e w' ⟨rfl, rfl⟩)
    refine Txt.wp_txt (by kernel_rfl) (by kernel_rfl) ?_
    go_wp2_with fail
    refine Tk.out.mono ?_
    rintro e w2 ⟨v2, rfl, hown2, hnew2, hb2⟩
    obtain ⟨a2, c2, rfl⟩ := own_slice hown2
    have hb2 : Below w.heap.size w w2 := (Below.refl _ w).drew.trans hb2
    have hlt2 : g < w2.heap.size := Nat.lt_of_lt_of_le hlt hb2.size
    have hc2 : w2.heap[g]? = some (.cells #[.slice ia img.length ic, .slice ra rs.length _, .bool true] 87 (0, 0)) := (hb2.block g hlt).trans H.out.hc
    have c0 : w2.cell? ⟨g, 0, none⟩ = some (.slice ia img.length ic) := box_at hc2 rfl
    have f0 := box_free hc2 0
    have c1 : w2.cell? ⟨g, 1, none⟩ = some (.slice ra rs.length _) := box_at hc2 rfl
    have f1 := box_free hc2 1
    have hfin := back_fin H.out hn hb2 hown2 hnew2
    rw [Hrt.out] at hfin
    have Hfin := Lib.hid hfin
    clear hfin hown2 hnew2 hc2 hb2
    go_wp2
    refine Txt.DrawPost.mk0 (by rfl) ?_
    go_wp2
    go_ret
    exact ⟨rfl, Hfin.out⟩
  · have hR := Raw.low Hraw.out hn hco
    rw [flat_drop encR encR_len, ← Hdl.out] at hR
    have tk := taken_own (F := []) (.slice ia img.length ic) _ img (rs.drop n) base w.drew (by rw [Hdl.out]; omega) (by omega) H.out.hi hbase (Raw.drew hR) (fun p hp => Hok.out p (List.mem_of_mem_drop hp)) (fun p hp => Raw.to_nil (H.out.hb p (List.mem_of_mem_drop hp)))
    rw [Hdl.out] at tk
    rw [Him2.out] at tk
    have Tk := Lib.hid tk; clear tk hR
    have hco' : ¬ rc = n := fun e => hco e.symm
    go_enter Try.func55, Try.ntmps55
    go_wp2_with (go_at_call 52; refine (closed_any _ H.out).mono ?_; rintro e w' ⟨rfl, rfl⟩)
    refine Txt.wp_txt (by kernel_rfl) (by kernel_rfl) ?_
    go_wp2_with fail
    refine Tk.out.mono ?_
    rintro e w2 ⟨v2, rfl, hown2, hnew2, hb2⟩
    obtain ⟨a2, c2, rfl⟩ := own_slice hown2
    have hb2 : Below w.heap.size w w2 := (Below.refl _ w).drew.trans hb2
    have hlt2 : g < w2.heap.size := Nat.lt_of_lt_of_le hlt hb2.size
    have hc2 : w2.heap[g]? = some (.cells #[.slice ia img.length ic, .slice ra rs.length _, .bool true] 87 (0, 0)) := (hb2.block g hlt).trans H.out.hc
    have c0 : w2.cell? ⟨g, 0, none⟩ = some (.slice ia img.length ic) := box_at hc2 rfl
    have f0 := box_free hc2 0
    have c1 : w2.cell? ⟨g, 1, none⟩ = some (.slice ra rs.length _) := box_at hc2 rfl
    have f1 := box_free hc2 1
    have hfin := back_fin H.out hn hb2 hown2 hnew2
    rw [Hrt.out] at hfin
    have Hfin := Lib.hid hfin
    clear hfin hown2 hnew2 hc2 hb2
    go_wp2
    refine Txt.DrawPost.mk0 (by rfl) ?_
    go_wp2
    go_ret
    exact ⟨rfl, Hfin.out⟩
end Go.Proofs.Ytnbngidelpodkaa
