/- Undo: a call of a step -/
import Derived.Test.YteefimjgcabpoaaUs
namespace Go.Un
open Go Go.RowKit Go.Bs Go.Cl Go.Rw
structure St where
  img : List UInt8
  rs : List Rec
  o : Bool
/-- a call: the state behind it, and the error -/
def stp (s : St) (op n : Int) (d : List UInt8) : St × Int :=
  if op = 0 then ({ s with o := true }, if s.o then 7 else 0)
  else if s.o = false then (s, 7)
  else if op = 1 then (if n < 0 ∨ (s.img.length : Int) < n ∨ (s.img.length : Int) - n < d.length then (s, 2) else (⟨written s.img n.toNat d, s.rs ++ [⟨n, s.img.length, (s.img.take (n.toNat + d.length)).drop n.toNat⟩], true⟩, 0))
  else if op = 2 then (if n < 0 then (s, 2) else if 24000 < n then (s, 6) else (⟨sized s.img n.toNat, s.rs ++ [⟨((min n.toNat s.img.length : Nat) : Int), s.img.length, s.img.drop (min n.toNat s.img.length)⟩], true⟩, 0))
  else if op = 3 then (if n < 0 ∨ (s.rs.length : Int) < n then (s, 2) else (⟨takeAll s.img (s.rs.drop n.toNat), s.rs.take n.toNat, true⟩, 0))
  else if op = 4 then (⟨s.img, [], false⟩, 0)
  else (⟨takeAll s.img s.rs, [], false⟩, 0)
theorem stp_closed {img : List UInt8} {rs : List Rec} {op n : Int} {d : List UInt8} (h : op ≠ 0) : stp ⟨img, rs, false⟩ op n d = (⟨img, rs, false⟩, 7) := by simp [stp, h]
theorem stp_write_bad {img : List UInt8} {rs : List Rec} {n : Int} {d : List UInt8} (h : n < 0 ∨ (img.length : Int) < n ∨ (img.length : Int) - n < d.length) : stp ⟨img, rs, true⟩ 1 n d = (⟨img, rs, true⟩, 2) := by simp [stp, h]
theorem stp_write {img : List UInt8} {rs : List Rec} {m : Nat} {d : List UInt8} (h : ¬ ((m : Int) < 0 ∨ (img.length : Int) < m ∨ (img.length : Int) - m < d.length)) : stp ⟨img, rs, true⟩ 1 m d = (⟨written img m d, rs ++ [⟨m, img.length, (img.take (m + d.length)).drop m⟩], true⟩, 0) := by
  simp only [stp]; simp only [h, if_false]; rfl
theorem stp_resize_neg {img : List UInt8} {rs : List Rec} {n : Int} {d : List UInt8} (h : n < 0) : stp ⟨img, rs, true⟩ 2 n d = (⟨img, rs, true⟩, 2) := by simp [stp, h]
theorem stp_resize_big {img : List UInt8} {rs : List Rec} {n : Int} {d : List UInt8} (h : ¬ n < 0) (h2 : 24000 < n) : stp ⟨img, rs, true⟩ 2 n d = (⟨img, rs, true⟩, 6) := by simp [stp, h, h2]
theorem stp_resize {img : List UInt8} {rs : List Rec} {m : Nat} {d : List UInt8} (h2 : ¬ 24000 < (m : Int)) : stp ⟨img, rs, true⟩ 2 m d = (⟨sized img m, rs ++ [⟨((min m img.length : Nat) : Int), img.length, img.drop (min m img.length)⟩], true⟩, 0) := by
  have h : ¬ (m : Int) < 0 := by omega
  simp only [stp]; simp only [h, h2, if_false]; rfl
theorem stp_back_bad {img : List UInt8} {rs : List Rec} {n : Int} {d : List UInt8} (h : n < 0 ∨ (rs.length : Int) < n) : stp ⟨img, rs, true⟩ 3 n d = (⟨img, rs, true⟩, 2) := by simp [stp, h]
theorem stp_back {img : List UInt8} {rs : List Rec} {m : Nat} {d : List UInt8} (h : ¬ ((m : Int) < 0 ∨ (rs.length : Int) < m)) : stp ⟨img, rs, true⟩ 3 m d = (⟨takeAll img (rs.drop m), rs.take m, true⟩, 0) := by
  simp only [stp]; simp only [h, if_false]; rfl
theorem stp_commit {img : List UInt8} {rs : List Rec} {n : Int} {d : List UInt8} : stp ⟨img, rs, true⟩ 4 n d = (⟨img, [], false⟩, 0) := rfl
theorem stp_roll {img : List UInt8} {rs : List Rec} {op n : Int} {d : List UInt8} (e0 : op ≠ 0) (e1 : op ≠ 1) (e2 : op ≠ 2) (e3 : op ≠ 3) (e4 : op ≠ 4) : stp ⟨img, rs, true⟩ op n d = (⟨takeAll img rs, [], false⟩, 0) := by simp [stp, e0, e1, e2, e3, e4]
end Go.Un
namespace Go.Proofs.Yteefimjgcabpoaa
open Go.RowKit Go.Bs Go.Cl Go.Rw Go.Un
/-- the call e, w' has made the step r of the log -/
def DoP (w : World) (base g : Nat) (iv rv : Value) (rs : List (Rec × Value)) (r : St × Int) (e : Ending) (w' : World) : Prop := e = .returned (.int .i64 r.2) ∧ StepP w base g iv rv rs r.1.img r.1.rs r.1.o w'
theorem StepP.from {w w1 w' : World} {base g : Nat} {iv rv : Value} {img : List UInt8} {rs : List (Rec × Value)} {ss : List Rec} {o : Bool} (hb : Below w.heap.size w w1) (h : StepP w1 base g iv rv rs img ss o w') : StepP w base g iv rv rs img ss o w' := by
  obtain ⟨iv2, rv2, rs2, e, h3, hk2, hF2, hfr⟩ := h
  exact ⟨iv2, rv2, rs2, e, h3, (Keep.of_below' (F := LogF g iv rv) hb).trans hk2 (fun f hf => .inl hf), fun f hf => by
    rcases hF2 f hf with h | h
    · exact .inl h
    · exact .inr (Nat.le_trans hb.size h), (Fr.below hb rs).trans hfr hb.size⟩
theorem StepP.begun {w w' : World} {base g : Nat} {iv rv : Value} {img : List UInt8} {rs : List (Rec × Value)} {o : Bool} {o1 : Bool} (h0 : LogAt w base g iv rv img rs o1) (h : LogAt w' base g iv rv img rs o) (hk : Keep [g] w w') : StepP w base g iv rv rs img (rs.map (·.1)) o w' :=
  have hk2 := hk.mono (F' := LogF g iv rv) (fun f hf => .inl (by simp [LogF, List.mem_singleton.1 hf]))
  ⟨iv, rv, rs, rfl, h, hk2, fun f hf => .inl hf, Fr.keep h0 hk2 fun _ hp => hp⟩
theorem WriteP.step {w w' : World} {base g : Nat} {iv rv : Value} {img : List UInt8} {rs : List (Rec × Value)} {off : Nat} {b : List UInt8} {e : Ending} (h : WriteP w base g iv rv img rs off b e w') :
    e = .returned (.int .i64 0) ∧ StepP w base g iv rv rs (Un.written img off b) (rs.map (·.1) ++ [⟨off, img.length, (img.take (off + b.length)).drop off⟩]) true w' := by
  obtain ⟨rfl, rv', qv, h1, h2, h3, h4⟩ := h
  exact ⟨rfl, iv, rv', _, by simp, h1, h2, h3, h4⟩

/-- the call in the world behind the box -/
theorem step_any {base g : Nat} {iv rv : Value} {img : List UInt8} {rs : List (Rec × Value)} {o : Bool} (op n : Int) (dv : Value) (d : List UInt8) (w : World) (h : LogAt w base g iv rv img rs o) (hil : img.length ≤ 24000) (hrl : rs.length ≤ 1000) (hbase : base ≤ w.heap.size) (hok : ∀ p ∈ rs, p.1.ok = true)
    (hd : Bytes (LogF g iv rv) w dv d) (hdl : d.length ≤ 1000000) (hn1 : -9223372036854775808 ≤ n) (hn2 : n ≤ 9223372036854775807) :
    (op = 0 → Calls Try.prog 16 #[.pointer (some ⟨g, 0, none⟩)] w (DoP w base g iv rv rs (stp ⟨img, rs.map (·.1), o⟩ op n d))) ∧
    (op = 1 → Calls Try.prog 31 #[.pointer (some ⟨g, 0, none⟩), .int .i64 n, dv] w (DoP w base g iv rv rs (stp ⟨img, rs.map (·.1), o⟩ op n d))) ∧
    (op = 2 → Calls Try.prog 26 #[.pointer (some ⟨g, 0, none⟩), .int .i64 n] w (DoP w base g iv rv rs (stp ⟨img, rs.map (·.1), o⟩ op n d))) ∧
    (op = 3 → Calls Try.prog 24 #[.pointer (some ⟨g, 0, none⟩), .int .i64 n] w (DoP w base g iv rv rs (stp ⟨img, rs.map (·.1), o⟩ op n d))) ∧
    (op = 4 → Calls Try.prog 36 #[.pointer (some ⟨g, 0, none⟩)] w (DoP w base g iv rv rs (stp ⟨img, rs.map (·.1), o⟩ op n d))) ∧
    (op ≠ 0 → op ≠ 1 → op ≠ 2 → op ≠ 3 → op ≠ 4 → Calls Try.prog 25 #[.pointer (some ⟨g, 0, none⟩)] w (DoP w base g iv rv rs (stp ⟨img, rs.map (·.1), o⟩ op n d))) := by
  have hS : StepP w base g iv rv rs img (rs.map (·.1)) o w := StepP.same h
  have hds : ∃ a c, dv = .slice a d.length c := Raw.slice hd
  refine ⟨fun e => ?_, fun e => ?_, fun e => ?_, fun e => ?_, fun e => ?_, fun e0 e1 e2 e3 e4 => ?_⟩
  · subst e
    refine (begin_any w h).mono ?_
    rintro e w' ⟨rfl, h1, h2⟩
    exact ⟨rfl, StepP.begun h h1 h2⟩
  · subst e
    cases o
    · refine (write_no dv d n w h hds hdl hil hn1 hn2 (by simp [writeE])).mono ?_
      rintro e w' ⟨rfl, rfl⟩
      rw [stp_closed (by decide)]
      exact ⟨rfl, hS⟩
    by_cases hb : n < 0 ∨ (img.length : Int) < n ∨ (img.length : Int) - n < d.length
    · have hE : writeE img n d true = 2 := by simp [writeE, hb]
      refine (write_no dv d n w h hds hdl hil hn1 hn2 (by rw [hE]; decide)).mono ?_
      rintro e w' ⟨rfl, rfl⟩
      rw [stp_write_bad hb]
      exact ⟨by rw [hE], hS⟩
    · obtain ⟨m, rfl⟩ : ∃ m : Nat, n = m := ⟨n.toNat, by omega⟩
      refine (write_yes dv d m w h hd hil hrl hbase (by omega)).mono ?_
      intro e w' hw
      rw [stp_write hb]
      exact WriteP.step hw
  · subst e
    cases o
    · refine (resize_no n w h (by simp [resizeE])).mono ?_
      rintro e w' ⟨rfl, rfl⟩
      rw [stp_closed (by decide)]
      exact ⟨rfl, hS⟩
    by_cases h1 : n < 0
    · have hE : resizeE n true = 2 := by simp [resizeE, h1]
      refine (resize_no n w h (by rw [hE]; decide)).mono ?_
      rintro e w' ⟨rfl, rfl⟩
      rw [stp_resize_neg h1]
      exact ⟨by rw [hE], hS⟩
    by_cases h2 : 24000 < n
    · have hE : resizeE n true = 6 := by simp [resizeE, h1, h2]
      refine (resize_no n w h (by rw [hE]; decide)).mono ?_
      rintro e w' ⟨rfl, rfl⟩
      rw [stp_resize_big h1 h2]
      exact ⟨by rw [hE], hS⟩
    · obtain ⟨m, rfl⟩ : ∃ m : Nat, n = m := ⟨n.toNat, by omega⟩
      refine (resize_yes m w h hil hrl hbase (by omega)).mono ?_
      intro e w' hw
      rw [stp_resize h2]
      exact hw
  · subst e
    have hl : (rs.map (·.1)).length = rs.length := List.length_map _
    cases o
    · refine (back_no n w h (by simp [backE])).mono ?_
      rintro e w' ⟨rfl, rfl⟩
      rw [stp_closed (by decide)]
      exact ⟨rfl, hS⟩
    by_cases hb : n < 0 ∨ (rs.length : Int) < n
    · have hE : backE rs.length n true = 2 := by simp [backE, hb]
      refine (back_no n w h (by rw [hE]; decide)).mono ?_
      rintro e w' ⟨rfl, rfl⟩
      rw [stp_back_bad (by rw [hl]; exact hb)]
      exact ⟨by rw [hE], hS⟩
    · obtain ⟨m, rfl⟩ : ∃ m : Nat, n = m := ⟨n.toNat, by omega⟩
      refine (back_yes m w h hil hrl hbase (by omega) hok).mono ?_
      intro e w' hw
      rw [stp_back (by rw [hl]; exact hb)]
      rw [List.map_drop, List.map_take] at hw
      exact hw
  · subst e
    refine (commit_any w h).mono ?_
    rintro e w' ⟨rfl, h1⟩
    cases o
    · exact ⟨rfl, h1⟩
    · exact ⟨rfl, h1⟩
  · refine (rollback_any w h hil hrl hbase hok).mono ?_
    rintro e w' ⟨rfl, h1⟩
    cases o
    · rw [stp_closed e0]
      exact ⟨rfl, h1⟩
    · rw [stp_roll e0 e1 e2 e3 e4]
      exact ⟨rfl, h1⟩

set_option maxHeartbeats 1000000 in
theorem do_any {base g : Nat} {iv rv : Value} {img : List UInt8} {rs : List (Rec × Value)} {o : Bool} (op n : Int) (dv : Value) (d : List UInt8) (w : World) (h : LogAt w base g iv rv img rs o) (hil : img.length ≤ 24000) (hrl : rs.length ≤ 1000) (hbase : base ≤ w.heap.size) (hok : ∀ p ∈ rs, p.1.ok = true)
    (hd : Bytes (LogF g iv rv) w dv d) (hdl : d.length ≤ 1000000) (hn1 : -9223372036854775808 ≤ n) (hn2 : n ≤ 9223372036854775807) :
    Calls Try.prog 18 #[.pointer (some ⟨g, 0, none⟩), .agg #[.int .i64 op, .int .i64 n, dv]] w (DoP w base g iv rv rs (stp ⟨img, rs.map (·.1), o⟩ op n d)) := by
  obtain ⟨da, dc, rfl⟩ := Raw.slice hd
  have hb := (Below.refl w.heap.size w).alloc (Nat.le_refl _) (.cells #[.int .i64 op, .int .i64 n, .slice da d.length dc] 41)
  have hst := step_any op n _ d _ (h.below hb) hil hrl (Nat.le_trans hbase hb.size) hok (Raw.below hd hb) hdl hn1 hn2
  obtain ⟨r, hr⟩ : ∃ r, stp ⟨img, rs.map (·.1), o⟩ op n d = r := ⟨_, rfl⟩
  rw [hr] at hst ⊢
  have Hst := Lib.hid hst; clear hst hr
  have Hb := Lib.hid hb; clear hb h hd hok
  obtain ⟨s0, s1, s2, s3, s4, s5⟩ := Hst.out
  clear Hst
  by_cases e0 : op = 0
  · have S := Lib.hid (s0 e0); subst e0; clear s0 s1 s2 s3 s4 s5
    go_enter Try.func18, Try.ntmps18
    go_wp2_with fail
    refine S.out.mono ?_
    rintro e w' ⟨rfl, h1⟩
    have Hf := Lib.hid (StepP.from Hb.out h1); clear h1
    go_wp2
    go_ret
    exact ⟨rfl, Hf.out⟩
  by_cases e1 : op = 1
  · have S := Lib.hid (s1 e1); subst e1; clear s0 s1 s2 s3 s4 s5
    go_enter Try.func18, Try.ntmps18
    go_wp2_with fail
    refine S.out.mono ?_
    rintro e w' ⟨rfl, h1⟩
    have Hf := Lib.hid (StepP.from Hb.out h1); clear h1
    go_wp2
    go_ret
    exact ⟨rfl, Hf.out⟩
  by_cases e2 : op = 2
  · have S := Lib.hid (s2 e2); subst e2; clear s0 s1 s2 s3 s4 s5
    go_enter Try.func18, Try.ntmps18
    go_wp2_with fail
    refine S.out.mono ?_
    rintro e w' ⟨rfl, h1⟩
    have Hf := Lib.hid (StepP.from Hb.out h1); clear h1
    go_wp2
    go_ret
    exact ⟨rfl, Hf.out⟩
  by_cases e3 : op = 3
  · have S := Lib.hid (s3 e3); subst e3; clear s0 s1 s2 s3 s4 s5
    go_enter Try.func18, Try.ntmps18
    go_wp2_with fail
    refine S.out.mono ?_
    rintro e w' ⟨rfl, h1⟩
    have Hf := Lib.hid (StepP.from Hb.out h1); clear h1
    go_wp2
    go_ret
    exact ⟨rfl, Hf.out⟩
  by_cases e4 : op = 4
  · have S := Lib.hid (s4 e4); subst e4; clear s0 s1 s2 s3 s4 s5
    go_enter Try.func18, Try.ntmps18
    go_wp2_with fail
    refine S.out.mono ?_
    rintro e w' ⟨rfl, h1⟩
    have Hf := Lib.hid (StepP.from Hb.out h1); clear h1
    go_wp2
    go_ret
    exact ⟨rfl, Hf.out⟩
  have S := Lib.hid (s5 e0 e1 e2 e3 e4); clear s0 s1 s2 s3 s4 s5
  have e0' : (op == 0) = false := by simpa using e0
  have e1' : (op == 1) = false := by simpa using e1
  have e2' : (op == 2) = false := by simpa using e2
  have e3' : (op == 3) = false := by simpa using e3
  have e4' : (op == 4) = false := by simpa using e4
  go_enter Try.func18, Try.ntmps18
  go_wp2_with fail
  refine S.out.mono ?_
  rintro e w' ⟨rfl, h1⟩
  have Hf := Lib.hid (StepP.from Hb.out h1); clear h1
  go_wp2
  go_ret
  exact ⟨rfl, Hf.out⟩
end Go.Proofs.Yteefimjgcabpoaa
