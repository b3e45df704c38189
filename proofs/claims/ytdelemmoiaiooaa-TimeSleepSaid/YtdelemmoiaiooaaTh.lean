/- time: the reference's Reader.Ints -/
import Derived.Test.YtdelemmoiaiooaaTg
import Derived.Deep.CutRange
import Derived.WalkMore
namespace Go.Ti
open Go Go.RowKit Go.Bs Go.Cl Go.Rw Go.Wi
def fromN (b : List UInt8) (at_ n p : Nat) (acc : List Int) : List Int × Nat × Bool := match rdN b n p with
  | some (x, q) => (acc ++ x, q, false)
  | none => ([], at_, true)
theorem rL_start (b : List UInt8) (most : Int) (at_ : Nat) (fl : Bool) : ((rB b 0 most (at_, fl)).2.2 = true ∧ (rB b 0 most (at_, fl)).1 = 0 ∧ rL b most (at_, fl) = ([], at_, true)) ∨
    ((rB b 0 most (at_, fl)).2.2 = false ∧ rL b most (at_, fl) = fromN b at_ (rB b 0 most (at_, fl)).1.toNat (rB b 0 most (at_, fl)).2.1 []) := by
  unfold rL rB rdL fromN
  cases fl
  · cases h : rdB b at_ 0 most with
    | none => left; simp
    | some q =>
      obtain ⟨n, m⟩ := q
      right
      refine ⟨by simp, ?_⟩
      simp only [Bool.false_eq_true, if_false]
      cases rdN b n.toNat (at_ + m) <;> simp
  · left; simp
theorem boxI {w : World} (g : Nat) (x : Int) {t : TypeId} (h : w.heap[g]? = some (.cells #[.int .i64 x] t (0, 0))) : Raw [] 1 w (.slice (some ⟨g, 0, none⟩) 1 1) 1 (encT x) :=
  Raw.of_block (ys := encT x) h (by intro h; cases h) (fun u hu => by simp [encT] at hu; rw [hu]; rfl) rfl (Nat.le_refl _) (by unfold maxLen; omega)
end Go.Ti
namespace Go.Proofs.Ytdelemmoiaiooaa
open Go.RowKit Go.Bs Go.Cl Go.Rw Go.Ti Go.Wi
set_option maxRecDepth 100000 in
set_option maxHeartbeats 2000000 in
theorem rInts_any (g : Nat) (rv : Value) (b : List UInt8) (at_ : Nat) (fl : Bool) (most : Int) (hm0 : 0 ≤ most) (hmost : most ≤ 1000000) (w : World) (h : RdAt 77 w g rv b at_ fl) (hbl : b.length ≤ 1000000) :
    Calls Try.prog 36 #[.pointer (some ⟨g, 0, none⟩), .int .i64 most] w (RetL 77 w g rv b (rL b most (at_, fl))) := by
  have f1 : w.cell? ⟨g, 1, none⟩ = some (.int .i64 at_) := box_at h.hc rfl
  have hgw := h.lt
  have hat := h.ha
  have H := Lib.hid h; clear h
  have hbd := rB_bound b (lo := 0) (hi := most) (by omega) (by omega) (at_, fl)
  have hst := rL_start b most at_ fl
  obtain ⟨rv0, hr0⟩ : ∃ r, rB b 0 most (at_, fl) = r := ⟨_, rfl⟩
  obtain ⟨R, hR⟩ : ∃ R, rL b most (at_, fl) = R := ⟨_, rfl⟩
  rw [hr0] at hbd hst
  rw [hR] at hst ⊢
  clear hR
  obtain ⟨nI, p0, f0⟩ := rv0
  simp only at hbd hst
  obtain ⟨n, rfl⟩ : ∃ n : Nat, nI = n := ⟨nI.toNat, by omega⟩
  have Hst := Lib.hid hst; clear hst
  have Hr0 := Lib.hid hr0; clear hr0
  have hn6 : n ≤ 1000000 := by omega
  go_enter Try.func36, Try.ntmps36
  go_wp2_with fail
  refine (rBounded_any g rv b at_ fl 0 most _ H.out hbl).mono ?_
  rw [Hr0.out]
  rintro e w2 ⟨rfl, hR2⟩
  have hs2 := hR2.2.size
  have HK2 := Lib.hid hR2.2
  have HO := Lib.hid (RdO.start (enc := encT) (k := 1) (e := 3) (base := w.heap.size) hR2.1)
  clear hR2 f1
  go_wp2
  go_loopw [6, 8] (fun ov i wr => ∃ (k p : Nat) (f : Bool) (acc : List Int), k ≤ n ∧ i = .int .i64 k ∧ acc.length = k ∧ Keep [g] w wr ∧ RdO encT 1 77 3 wr w.heap.size g rv b (p, f) ov acc ∧ ((f = true ∧ R = ([], at_, true)) ∨ (f = false ∧ R = fromN b at_ (n - k) p acc))) (fun _ i _ => n - (intOf i).toNat)
  case atStart =>
    refine ⟨0, p0, f0, [], Nat.zero_le _, rfl, rfl, HK2.out, HO.out, ?_⟩
    rcases Hst.out with ⟨h1, _, h2⟩ | ⟨h1, h2⟩
    · exact .inl ⟨h1, h2⟩
    · exact .inr ⟨h1, by simpa using h2⟩
  case round =>
    clear HO HK2
    obtain ⟨k, p, f, acc, hk, rfl, hacc, hkeep, hO, hres⟩ := hrel
    obtain ⟨oa, oc, rfl⟩ := own_slice hO.row
    have HO := Lib.hid hO; have HK := Lib.hid hkeep; have Hres := Lib.hid hres; have Hacc := Lib.hid hacc
    have hsz := hkeep.size
    have c2 : wr.cell? ⟨g, 2, none⟩ = some (.bool f) := box_at hO.rd.hc rfl
    have c1 : wr.cell? ⟨g, 1, none⟩ = some (.int .i64 p) := box_at hO.rd.hc rfl
    have f1 := box_free hO.rd.hc 1
    have hdone : f = true → RdR 77 w g rv b (at_, true) (wr.setCell ⟨g, 1, none⟩ (.int .i64 at_)) := fun hf => by
      subst hf
      have h1 := HO.out.rd.pos (p := at_) (x := at_) hat rfl
      exact ⟨h1.1, HK.out.trans h1.2 (fun f hf => .inl hf)⟩
    have Hdone := Lib.hid hdone
    clear hO hkeep hres hdone hacc
    by_cases hlt : k < n
    · have hlt' : (k : Int) < n := by omega
      cases f
      · rcases Hres.out with ⟨h1, _⟩ | ⟨_, hRes⟩
        · cases h1
        obtain ⟨d, hd⟩ : ∃ d, n - k = d + 1 := ⟨n - k - 1, by omega⟩
        obtain ⟨r1, hr1⟩ : ∃ r, rI b (p, false) = r := ⟨_, rfl⟩
        obtain ⟨x, p1, fl1⟩ := r1
        have Hr1 := Lib.hid hr1
        have hnew : (fl1 = true ∧ R = ([], at_, true)) ∨ (fl1 = false ∧ R = fromN b at_ (n - (k + 1)) p1 (acc ++ [x])) := by
          rw [hRes, hd, show n - (k + 1) = d by omega]
          unfold fromN
          rw [rdN_succ]
          unfold rI at hr1
          cases hdd : rdI b p with
          | none =>
            rw [hdd] at hr1
            simp at hr1
            left
            exact ⟨hr1.2.2, by simp⟩
          | some q =>
            obtain ⟨y, m⟩ := q
            rw [hdd] at hr1
            simp at hr1
            obtain ⟨rfl, rfl, rfl⟩ := hr1
            right
            refine ⟨rfl, ?_⟩
            simp only
            cases rdN b d (p + m) with
            | none => rfl
            | some q2 => simp
        have Hnew := Lib.hid hnew
        clear hnew hr1 hRes Hres
        go_wp2_with fail
        refine (rInt_any g rv b p false _ HO.out.rd hbl).mono ?_
        rw [Hr1.out]
        rintro e w5 ⟨rfl, hR5⟩
        have hs5 := hR5.2.size
        have hO5 := HO.out.read hR5
        have hK5 := HK.out.trans hR5.2 (fun f hf => .inl hf)
        have hal5 := (Below.refl w5.heap.size w5).alloc (Nat.le_refl _) (.cells #[.int .i64 x] 3)
        have HO7 := Lib.hid (hO5.below hal5)
        have HK7 := Lib.hid (hK5.trans (Keep.of_below' (F := []) hal5) (fun f hf => by cases hf))
        have HX7 := Lib.hid (boxI w5.heap.size x (heap_alloc_new w5 (.cells #[.int .i64 x] 3)))
        have hb7 : Below w.heap.size w5 (w5.alloc (.cells #[.int .i64 x] 3)) := hal5.mono (by omega)
        clear hR5 hO5 hal5 hK5 c1 c2 f1
        simp only
        go_wp2_with (at_builtin; refine wpList_appF elI Try.underlying22 HO7.out.row HX7.out hb7 rfl _ _ rfl rfl rfl ?c3 ?cB ?c5 ?_)
        case c3 => have := Hacc.out; omega
        case c5 => omega
        intro v8 w8 hown8 hbel8 hk8 hn8
        have HO8 := Lib.hid (HO7.out.push (x := x) hown8 hk8 (by simpa using hn8))
        have HK8 := Lib.hid ((HK7.out.trans hk8 (fun f hf => by have := (HO7.out.row.lt f (by simpa using hf)).1; exact .inr this)))
        obtain ⟨a8, c8, rfl⟩ := own_slice hown8
        clear hown8 hk8 hn8
        go_wp2
        go_roundw
        case rel => exact ⟨k + 1, p1, fl1, acc ++ [x], hlt, by go_num, by have := Hacc.out; simp; omega, HK8.out, HO8.out, Hnew.out⟩
        case measure => simp [intOf]; omega
      · rcases Hres.out with ⟨_, hRes⟩ | ⟨h1, _⟩
        · have HRes := Lib.hid hRes
          have HD := Lib.hid (Hdone.out rfl)
          clear hRes Hdone
          go_wp2
          go_ret
          rw [HRes.out]
          exact ⟨_, rfl, World.ownsRow_nil _ _ _ _, HD.out⟩
        · cases h1
    · obtain rfl : k = n := by omega
      cases f
      · rcases Hres.out with ⟨h1, _⟩ | ⟨_, hRes⟩
        · cases h1
        rw [Nat.sub_self] at hRes
        unfold fromN at hRes
        rw [rdN_zero] at hRes
        simp only [List.append_nil] at hRes
        have HRes := Lib.hid hRes
        clear hRes Hdone
        go_wp2
        go_ret
        rw [HRes.out]
        exact ⟨_, rfl, HO.out.row, HO.out.rd, HK.out⟩
      · rcases Hres.out with ⟨_, hRes⟩ | ⟨h1, _⟩
        · have HRes := Lib.hid hRes
          have HD := Lib.hid (Hdone.out rfl)
          clear hRes Hdone
          go_wp2
          go_ret
          rw [HRes.out]
          exact ⟨_, rfl, World.ownsRow_nil _ _ _ _, HD.out⟩
        · cases h1
end Go.Proofs.Ytdelemmoiaiooaa
