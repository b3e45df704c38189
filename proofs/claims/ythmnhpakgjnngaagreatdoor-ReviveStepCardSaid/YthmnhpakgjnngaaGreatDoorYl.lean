/- Revive: the reference's reader of lists, Decode -/
import Derived.Test.YthmnhpakgjnngaaGreatDoorXd
import Derived.Test.YthmnhpakgjnngaaGreatDoorXf
import Derived.Test.YthmnhpakgjnngaaGreatDoorYi
import Derived.Deep.CutRange
import Derived.WalkMore
namespace Go.Rv
open Go Go.RowKit Go.Bs Go.Cl Go.Rw Go.Dt Go.Wi
def fromN (b : List UInt8) (at_ n p : Nat) (acc : List Int) : List Int × Nat × Bool := match rdN b n p with
  | some (x, q) => (acc ++ x, q, false)
  | none => ([], at_, true)
theorem rL_start (b : List UInt8) (most : Int) (at_ : Nat) (fl : Bool) : ((rB b 0 most (at_, fl)).2.2 = true ∧ (rB b 0 most (at_, fl)).1 = 0 ∧ rL b most (at_, fl) = ([], at_, true)) ∨
    ((rB b 0 most (at_, fl)).2.2 = false ∧ rL b most (at_, fl) = fromN b at_ (rB b 0 most (at_, fl)).1.toNat (rB b 0 most (at_, fl)).2.1 []) := by
  unfold rL rB rdL fromN
  cases fl
  · cases h : rdB b at_ 0 most with
    | none => left; simp
    | some q =>
      obtain ⟨n, m⟩ := q
      right
      refine ⟨by simp, ?_⟩
      simp only [Bool.false_eq_true, if_false]
      cases rdN b n.toNat (at_ + m) <;> simp
  · left; simp
theorem boxI {w : World} (g : Nat) (x : Int) {t : TypeId} (h : w.heap[g]? = some (.cells #[.int .i64 x] t (0, 0))) : Raw [] 1 w (.slice (some ⟨g, 0, none⟩) 1 1) 1 (encT x) :=
  Raw.of_block (ys := encT x) h (by intro h; cases h) (fun u hu => by simp [encT] at hu; rw [hu]; rfl) rfl (Nat.le_refl _) (by unfold maxLen; omega)
end Go.Rv
namespace Go.Proofs.YthmnhpakgjnngaaGreatDoor
open Go.RowKit Go.Bs Go.Cl Go.Rw Go.Dt Go.Rv Go.Wi
set_option maxRecDepth 100000 in
set_option maxHeartbeats 2000000 in
theorem rInts_any (g : Nat) (rv : Value) (b : List UInt8) (at_ : Nat) (fl : Bool) (most : Int) (hm0 : 0 ≤ most) (hmost : most ≤ 1000000) (w : World) (h : RdAt 73 w g rv b at_ fl) (hbl : b.length ≤ 1000000) :
    Calls Tryz.prog 28 #[.pointer (some ⟨g, 0, none⟩), .int .i64 most] w (RetL 73 w g rv b (rL b most (at_, fl))) := by
  have f1 : w.cell? ⟨g, 1, none⟩ = some (.int .i64 at_) := box_at h.hc rfl
  have hgw := h.lt
  have hat := h.ha
  have H := Lib.hid h; clear h
  have hbd := rB_bound b (lo := 0) (hi := most) (by omega) (by omega) (at_, fl)
  have hst := rL_start b most at_ fl
  obtain ⟨rv0, hr0⟩ : ∃ r, rB b 0 most (at_, fl) = r := ⟨_, rfl⟩
  obtain ⟨R, hR⟩ : ∃ R, rL b most (at_, fl) = R := ⟨_, rfl⟩
  rw [hr0] at hbd hst
  rw [hR] at hst ⊢
  clear hR
  obtain ⟨nI, p0, f0⟩ := rv0
  simp only at hbd hst
  obtain ⟨n, rfl⟩ : ∃ n : Nat, nI = n := ⟨nI.toNat, by omega⟩
  have Hst := Lib.hid hst; clear hst
  have Hr0 := Lib.hid hr0; clear hr0
  have hn6 : n ≤ 1000000 := by omega
  go_enter Tryz.func28, Tryz.ntmps28
  go_wp2_with fail
  refine (rBounded_any g rv b at_ fl 0 most _ H.out hbl).mono ?_
  rw [Hr0.out]
  rintro e w2 ⟨rfl, hR2⟩
  have hs2 := hR2.2.size
  have HK2 := Lib.hid hR2.2
  have HO := Lib.hid (RdO.start (enc := encT) (k := 1) (e := 3) (base := w.heap.size) hR2.1)
  clear hR2 f1
  go_wp2
  go_loopw [6, 8] (fun ov i wr => ∃ (k p : Nat) (f : Bool) (acc : List Int), k ≤ n ∧ i = .int .i64 k ∧ acc.length = k ∧ Keep [g] w wr ∧ RdO encT 1 73 3 wr w.heap.size g rv b (p, f) ov acc ∧ ((f = true ∧ R = ([], at_, true)) ∨ (f = false ∧ R = fromN b at_ (n - k) p acc))) (fun _ i _ => n - (intOf i).toNat)
  case atStart =>
    refine ⟨0, p0, f0, [], Nat.zero_le _, rfl, rfl, HK2.out, HO.out, ?_⟩
    rcases Hst.out with ⟨h1, _, h2⟩ | ⟨h1, h2⟩
    · exact .inl ⟨h1, h2⟩
    · exact .inr ⟨h1, by simpa using h2⟩
  case round =>
    clear HO HK2
    obtain ⟨k, p, f, acc, hk, rfl, hacc, hkeep, hO, hres⟩ := hrel
    obtain ⟨oa, oc, rfl⟩ := own_slice hO.row
    have HO := Lib.hid hO; have HK := Lib.hid hkeep; have Hres := Lib.hid hres; have Hacc := Lib.hid hacc
    have hsz := hkeep.size
    have c2 : wr.cell? ⟨g, 2, none⟩ = some (.bool f) := box_at hO.rd.hc rfl
    have c1 : wr.cell? ⟨g, 1, none⟩ = some (.int .i64 p) := box_at hO.rd.hc rfl
    have f1 := box_free hO.rd.hc 1
    have hdone : f = true → RdR 73 w g rv b (at_, true) (wr.setCell ⟨g, 1, none⟩ (.int .i64 at_)) := fun hf => by
      subst hf
      have h1 := HO.out.rd.pos (p := at_) (x := at_) hat rfl
      exact ⟨h1.1, HK.out.trans h1.2 (fun f hf => .inl hf)⟩
    have Hdone := Lib.hid hdone
    clear hO hkeep hres hdone hacc
    by_cases hlt : k < n
    · have hlt' : (k : Int) < n := by omega
      cases f
      · rcases Hres.out with ⟨h1, _⟩ | ⟨_, hRes⟩
        · cases h1
        obtain ⟨d, hd⟩ : ∃ d, n - k = d + 1 := ⟨n - k - 1, by omega⟩
        obtain ⟨r1, hr1⟩ : ∃ r, rI b (p, false) = r := ⟨_, rfl⟩
        obtain ⟨x, p1, fl1⟩ := r1
        have Hr1 := Lib.hid hr1
        have hnew : (fl1 = true ∧ R = ([], at_, true)) ∨ (fl1 = false ∧ R = fromN b at_ (n - (k + 1)) p1 (acc ++ [x])) := by
          rw [hRes, hd, show n - (k + 1) = d by omega]
          unfold fromN
          rw [rdN_succ]
          unfold rI at hr1
          cases hdd : rdI b p with
          | none =>
            rw [hdd] at hr1
            simp at hr1
            left
            exact ⟨hr1.2.2, by simp⟩
          | some q =>
            obtain ⟨y, m⟩ := q
            rw [hdd] at hr1
            simp at hr1
            obtain ⟨rfl, rfl, rfl⟩ := hr1
            right
            refine ⟨rfl, ?_⟩
            simp only
            cases rdN b d (p + m) with
            | none => rfl
            | some q2 => simp
        have Hnew := Lib.hid hnew
        clear hnew hr1 hRes Hres
        go_wp2_with fail
        refine (rInt_any g rv b p false _ HO.out.rd hbl).mono ?_
        rw [Hr1.out]
        rintro e w5 ⟨rfl, hR5⟩
        have hs5 := hR5.2.size
        have hO5 := HO.out.read hR5
        have hK5 := HK.out.trans hR5.2 (fun f hf => .inl hf)
        have hal5 := (Below.refl w5.heap.size w5).alloc (Nat.le_refl _) (.cells #[.int .i64 x] 3)
        have HO7 := Lib.hid (hO5.below hal5)
        have HK7 := Lib.hid (hK5.trans (Keep.of_below' (F := []) hal5) (fun f hf => by cases hf))
        have HX7 := Lib.hid (boxI w5.heap.size x (heap_alloc_new w5 (.cells #[.int .i64 x] 3)))
        have hb7 : Below w.heap.size w5 (w5.alloc (.cells #[.int .i64 x] 3)) := hal5.mono (by omega)
        clear hR5 hO5 hal5 hK5 c1 c2 f1
        simp only
        go_wp2_with (at_builtin; refine wpList_appF elN Tryz.underlying22 HO7.out.row HX7.out hb7 rfl _ _ rfl rfl rfl ?c3 ?cB ?c5 ?_)
        case c3 => have := Hacc.out; omega
        case c5 => omega
        intro v8 w8 hown8 hbel8 hk8 hn8
        have HO8 := Lib.hid (HO7.out.push (x := x) hown8 hk8 (by simpa using hn8))
        have HK8 := Lib.hid ((HK7.out.trans hk8 (fun f hf => by have := (HO7.out.row.lt f (by simpa using hf)).1; exact .inr this)))
        obtain ⟨a8, c8, rfl⟩ := own_slice hown8
        clear hown8 hk8 hn8
        go_wp2
        go_roundw
        case rel => exact ⟨k + 1, p1, fl1, acc ++ [x], hlt, by go_num, by have := Hacc.out; simp; omega, HK8.out, HO8.out, Hnew.out⟩
        case measure => simp [intOf]; omega
      · rcases Hres.out with ⟨_, hRes⟩ | ⟨h1, _⟩
        · have HRes := Lib.hid hRes
          have HD := Lib.hid (Hdone.out rfl)
          clear hRes Hdone
          go_wp2
          go_ret
          rw [HRes.out]
          exact ⟨_, rfl, World.ownsRow_nil _ _ _ _, HD.out⟩
        · cases h1
    · obtain rfl : k = n := by omega
      cases f
      · rcases Hres.out with ⟨h1, _⟩ | ⟨_, hRes⟩
        · cases h1
        rw [Nat.sub_self] at hRes
        unfold fromN at hRes
        rw [rdN_zero] at hRes
        simp only [List.append_nil] at hRes
        have HRes := Lib.hid hRes
        clear hRes Hdone
        go_wp2
        go_ret
        rw [HRes.out]
        exact ⟨_, rfl, HO.out.row, HO.out.rd, HK.out⟩
      · rcases Hres.out with ⟨_, hRes⟩ | ⟨h1, _⟩
        · have HRes := Lib.hid hRes
          have HD := Lib.hid (Hdone.out rfl)
          clear hRes Hdone
          go_wp2
          go_ret
          rw [HRes.out]
          exact ⟨_, rfl, World.ownsRow_nil _ _ _ _, HD.out⟩
        · cases h1
set_option maxRecDepth 100000 in
set_option maxHeartbeats 8000000 in
theorem rdecode_any (bv : Value) (b : List UInt8) (w : World) (hB : Bytes [] w bv b) (hbl : b.length ≤ 1000000) :
    Calls Tryz.prog 9 #[bv] w (RetD (decV b 32) w) := by
  obtain ⟨ba, bc, rfl⟩ := Raw.slice hB
  obtain ⟨r1, hr1⟩ : ∃ r, rI b (0, false) = r := ⟨_, rfl⟩
  obtain ⟨z, s1⟩ := r1
  obtain ⟨r2, hr2⟩ : ∃ r, rL b 32 s1 = r := ⟨_, rfl⟩
  have hl10 := rL_len b 32 (by omega) s1
  rw [hr2] at hl10
  obtain ⟨l, s2⟩ := r2
  obtain ⟨r3, hr3⟩ : ∃ r, rB b 0 32 s2 = r := ⟨_, rfl⟩
  have hbd := rB_bound b (lo := 0) (hi := 32) (by omega) (by omega) s2
  rw [hr3] at hbd
  obtain ⟨nI, s3⟩ := r3
  simp only at hl10 hbd
  obtain ⟨n, rfl⟩ : ∃ n : Nat, nI = n := ⟨nI.toNat, by omega⟩
  have hn10 : n ≤ 32 := by omega
  have hdec : ∀ hs s4, rHs b n s3 = (hs, s4) → decV b 32 = if decide (rEnd b s4 = 0) && validV ⟨z, l, hs⟩ then some ⟨z, l, hs⟩ else none := fun hs s4 h => by
    have hrd : rdV b 32 = (⟨z, l, hs⟩, s4) := by
      unfold rdV
      rw [hr1]
      simp only
      rw [hr2]
      simp only
      rw [hr3]
      simp only [Int.toNat_natCast]
      rw [h]
    unfold decV
    rw [hrd]
  have Hdec := Lib.hid hdec; have Hr1 := Lib.hid hr1; have Hr2 := Lib.hid hr2; have Hr3 := Lib.hid hr3
  clear hdec hr1 hr2 hr3 hbd
  obtain ⟨R, hR⟩ : ∃ R, R = w.heap.size := ⟨_, rfl⟩
  obtain ⟨W, hW⟩ : ∃ W, W = w.alloc (.cells #[.int .i64 0, .slice none 0 0, .slice none 0 0] 27) := ⟨_, rfl⟩
  have hb : Below w.heap.size w W := by rw [hW]; exact (Below.refl w.heap.size w).alloc (Nat.le_refl _) _
  have h3 : W.heap[R]? = some (.cells #[.int .i64 0, .slice none 0 0, .slice none 0 0] 27 (0, 0)) := by rw [hW, hR]; exact heap_alloc_new w _
  have hws : W.heap.size = R + 1 := by rw [hW, hR]; simp
  have hbB := Raw.below hB hb
  have hal := (Below.refl W.heap.size W).alloc (Nat.le_refl _) (.cells #[] 5)
  have Hemp := Lib.hid (own_empty W W.heap.size 5 1 (Nat.le_refl _))
  have HB1 := Lib.hid (Raw.below hbB hal)
  have Hb := Lib.hid hb
  have Hx := Lib.hid h3
  have HRe := Lib.hid hR; have HWe := Lib.hid hW; have Hws := Lib.hid hws
  clear hB h3 hb hR hW hws hbB
  go_enter Tryz.func9, Tryz.ntmps9
  go_upto_region 1 with (fail)
  rw [← HWe.out, ← HRe.out]
  go_wp2_with (at_builtin; refine wpList_app elB Tryz.underlying28 Hemp.out HB1.out hal rfl _ _ rfl rfl rfl ?a3 ?aB ?a5 ?_)
  case a3 => omega
  case aB => exact Nat.le_refl _
  case a5 => simp
  intro v2 wq hown2 hb2 hg2 hs2
  have hrow : BRow 5 wq W.heap.size v2 b := by show wq.ownsRow W.heap.size 5 1 v2 b.length (bytesV b); simpa using hown2
  obtain ⟨a2, c2, rfl⟩ := own_slice hrow
  obtain ⟨g, hg⟩ : ∃ g, g = wq.heap.size := ⟨_, rfl⟩
  obtain ⟨w1, hw1⟩ : ∃ y, y = wq.alloc (.cells #[.slice a2 b.length c2, .int .i64 0, .bool false] 73) := ⟨_, rfl⟩
  have hal2 : Below wq.heap.size wq w1 := by rw [hw1]; exact (Below.refl wq.heap.size wq).alloc (Nat.le_refl _) _
  have hby : Bytes [g] w1 (.slice a2 b.length c2) b := by
    rw [hw1, hg]
    exact Raw.keep (BRow.bytes (F := []) hrow (fun f hf => by cases hf)) (Keep.of_below' (F := []) ((Below.refl wq.heap.size wq).alloc (Nat.le_refl _) _)) (fun f hf => by cases hf) (fun f hf => by rw [List.mem_singleton.1 hf]; exact .inr (Nat.le_refl _))
  have hrd : RdAt 73 w1 g (.slice a2 b.length c2) b 0 false := ⟨by rw [hw1, hg]; exact heap_alloc_new wq _, hby, Nat.zero_le _⟩
  have hb1 : Below W.heap.size W w1 := hb2.trans (hal2.mono hb2.size)
  have hgl := hrd.lt
  have hRg : R < g := by have := Hws.out; have := hb2.size; omega
  have Hrd := Lib.hid hrd
  have hRl : R < W.heap.size := by have := Hws.out; omega
  have Hx1 := Lib.hid ((hb1.block _ hRl).trans Hx.out)
  have Hb1 := Lib.hid (Hb.out.trans (hb1.mono Hb.out.size))
  have Hw1 := Lib.hid hw1; have Hge := Lib.hid hg
  clear hrd hb1 Hb Hx HB1 Hemp hal hown2 hb2 hg2 hs2 hrow hg hw1 hal2 hby
  obtain ⟨rv, hrv⟩ : ∃ rv, rv = Value.slice a2 b.length c2 := ⟨_, rfl⟩
  obtain ⟨S, hS⟩ : ∃ S, S = w1.heap.size := ⟨_, rfl⟩
  obtain ⟨w2, hw2⟩ : ∃ W, W = w1.alloc (.cells #[.int .i64 0, .slice none 0 0, .slice none 0 0] 27) := ⟨_, rfl⟩
  have hb2 : Below w1.heap.size w1 w2 := by rw [hw2]; exact (Below.refl _ w1).alloc (Nat.le_refl _) _
  have hx2 : w2.heap[S]? = some (.cells #[.int .i64 0, .slice none 0 0, .slice none 0 0] 27 (0, 0)) := by rw [hw2, hS]; exact heap_alloc_new w1 _
  have hrd2 := Hrd.out.below hb2
  have hbs2 : Bytes [S] w2 (.slice a2 b.length c2) b := Raw.below (Raw.fresh (Raw.to_nil Hrd.out.hb) (fun f hf => by rw [List.mem_singleton.1 hf, hS]; exact .inr (Nat.le_refl _))) hb2
  have HSg1 : Hid (S = g + 1) := Lib.hid (by rw [hS, Hw1.out, Hge.out]; simp)
  have hSg : S ≠ g := by omega
  have hRS : R < S := by omega
  have HRx2 := Lib.hid ((hb2.block R (by omega)).trans Hx1.out)
  have Hb2 := Lib.hid (Hb1.out.trans (hb2.mono Hb1.out.size))
  rw [← hrv] at hrd2 hbs2
  have HSe := Lib.hid hS; have Hw2 := Lib.hid hw2; have Hx2 := Lib.hid hx2; have Hrd2 := Lib.hid hrd2; have Hbs2 := Lib.hid hbs2; have Hrv := Lib.hid hrv
  clear hb2 hx2 hrd2 hbs2 hS hw2 Hrd Hx1 Hb1 hgl hrv
  go_upto_region 3 with (fail)
  rw [← Hw1.out, ← Hge.out, ← Hw2.out, ← HSg1.out]
  clear HSg1 HSe Hw2 HWe Hws Hw1 Hge
  go_wp2_with fail
  refine (rInt_any g rv b 0 false _ Hrd2.out hbl).mono ?_
  rw [Hr1.out]
  rintro e w3 ⟨rfl, hR3⟩
  have hx3 := (hR3.2.block S (Array.getElem?_eq_some_iff.1 Hx2.out).1 (by simpa using hSg)).trans Hx2.out
  have hbs3 := bytes_read (s := (0, false)) Hrd2.out Hbs2.out hR3
  have hrx3 := (hR3.2.block R (by have := (Array.getElem?_eq_some_iff.1 HRx2.out).1; omega) (by simp; omega)).trans HRx2.out
  have hb3 := Hb2.out.trans (hR3.2.below (B := w.heap.size) Hb2.out.size (fun f hf => by rw [List.mem_singleton.1 hf]; have := HRe.out; omega))
  have f3 := box_free hx3 0
  have c3 := box_at hx3 (j := 0) rfl
  clear Hrd2 Hbs2 Hx2 HRx2 Hb2
  obtain ⟨w4, hw4⟩ : ∃ W, W = w3.setCell ⟨S, 0, none⟩ (.int .i64 z) := ⟨_, rfl⟩
  have hk4 : Keep [S] w3 w4 := by rw [hw4]; exact (Keep.refl [S] w3).setCell (by simp) _
  have hx4 : w4.heap[S]? = some (.cells #[.int .i64 z, .slice none 0 0, .slice none 0 0] 27 (0, 0)) := by
    rw [hw4]; simp only [World.setCell, Array.getElem?_modify]; simp [hx3]
  have hrd4 := hR3.1.keep hk4 (by simpa using hSg.symm) hbs3
  have hbs4 : Bytes [S] w4 rv b := Raw.keep hbs3 hk4 (fun f hf => .inl hf) (fun f hf => .inl hf)
  have hrx4 := (hk4.block R (by have := (Array.getElem?_eq_some_iff.1 hrx3).1; omega) (by simp; omega)).trans hrx3
  have hb4 := hb3.trans (hk4.below (B := w.heap.size) hb3.size (fun f hf => by rw [List.mem_singleton.1 hf]; have := HRe.out; omega))
  have Hw4 := Lib.hid hw4; have Hx4 := Lib.hid hx4; have Hrd4 := Lib.hid hrd4; have Hbs4 := Lib.hid hbs4; have HRx4 := Lib.hid hrx4; have Hb4 := Lib.hid hb4
  clear hw4 hk4 hx4 hrd4 hbs4 hrx4 hb4 hb3 hrx3 hbs3 hx3 hR3
  go_upto_region 4 with (fail)
  rw [← Hw4.out]
  clear Hw4 f3 c3
  go_wp2_with fail
  refine (rInts_any g rv b s1.1 s1.2 32 (by omega) (by omega) _ Hrd4.out hbl).mono ?_
  rw [show ((s1.1, s1.2) : Nat × Bool) = s1 from rfl, Hr2.out]
  rintro e w5 ⟨lv, rfl, hrow5, hR5⟩
  have hs5 := hR5.2.size
  have hSl4 := (Array.getElem?_eq_some_iff.1 Hx4.out).1
  have hx5 := (hR5.2.block S hSl4 (by simpa using hSg)).trans Hx4.out
  have hbs5 := bytes_read (s := s1) Hrd4.out Hbs4.out hR5
  have hrx5 := (hR5.2.block R (by omega) (by simp; omega)).trans HRx4.out
  have hb5 := Hb4.out.trans (hR5.2.below (B := w.heap.size) Hb4.out.size (fun f hf => by rw [List.mem_singleton.1 hf]; have := HRe.out; omega))
  obtain ⟨la, lc, rfl⟩ := own_slice hrow5
  have hlv : ∀ r, (Value.slice la l.length lc).ownBlock = some r → w4.heap.size ≤ r := fun r hr => (hrow5.lt r hr).1
  have f5 := box_free hx5 1
  have c5 := box_at hx5 (j := 1) rfl
  obtain ⟨w6, hw6⟩ : ∃ W, W = w5.setCell ⟨S, 1, none⟩ (.slice la l.length lc) := ⟨_, rfl⟩
  have hk6 : Keep [S] w5 w6 := by rw [hw6]; exact (Keep.refl [S] w5).setCell (by simp) _
  have hx6 : w6.heap[S]? = some (.cells #[.int .i64 z, .slice la l.length lc, .slice none 0 0] 27 (0, 0)) := by
    rw [hw6]; simp only [World.setCell, Array.getElem?_modify]; simp [hx5]
  have hrd6 := hR5.1.keep hk6 (by simpa using hSg.symm) hbs5
  have hbs6 : Bytes [S] w6 rv b := Raw.keep hbs5 hk6 (fun f hf => .inl hf) (fun f hf => .inl hf)
  have hrx6 := (hk6.block R (by omega) (by simp; omega)).trans hrx5
  have hb6 := hb5.trans (hk6.below (B := w.heap.size) hb5.size (fun f hf => by rw [List.mem_singleton.1 hf]; have := HRe.out; omega))
  have hrow6 : w6.ownsRow w.heap.size 3 1 (.slice la l.length lc) l.length (l.flatMap encT) := own_base (own_keep hrow5 hk6 (fun r hr hm => by have := hlv r hr; rw [List.mem_singleton] at hm; omega)) Hb4.out.size
  have Hlv : Hid (∀ r, (Value.slice la l.length lc).ownBlock = some r → r ≠ g ∧ r ≠ S) := Lib.hid (fun r hr => by have := hlv r hr; have := Hrd4.out.lt; omega)
  have Hw6 := Lib.hid hw6; have Hx6 := Lib.hid hx6; have Hrd6 := Lib.hid hrd6; have Hbs6 := Lib.hid hbs6; have HRx6 := Lib.hid hrx6; have Hb6 := Lib.hid hb6; have Hrow6 := Lib.hid hrow6
  clear hw6 hk6 hx6 hrd6 hbs6 hrx6 hb6 hb5 hrx5 hbs5 hx5 hR5 hrow5 hrow6 hlv Hx4 Hrd4 Hbs4 HRx4 Hb4 hs5 hSl4
  go_upto_region 5 with (fail)
  rw [← Hw6.out]
  clear Hw6 f5 c5
  go_wp2_with fail
  refine (rBounded_any g rv b s2.1 s2.2 0 32 _ Hrd6.out hbl).mono ?_
  rw [show ((s2.1, s2.2) : Nat × Bool) = s2 from rfl, Hr3.out]
  rintro e u ⟨rfl, hR7⟩
  have hSl6 := (Array.getElem?_eq_some_iff.1 Hx6.out).1
  have hs7 := hR7.2.size
  have hd7 : DecAt 73 74 27 u u S g rv b s3 z (.slice la l.length lc) (.slice none 0 0) [] :=
    ⟨RdO.start hR7.1, bytes_read (s := s2) Hrd6.out Hbs6.out hR7, Keep.refl _ _, (hR7.2.block S hSl6 (by simpa using hSg)).trans Hx6.out, hR7.1.lt, by omega, hSg⟩
  have HD7 := Lib.hid hd7
  have HRx7 := Lib.hid ((hR7.2.block R (by omega) (by simp; omega)).trans HRx6.out)
  have Hb7 := Lib.hid (Hb6.out.trans (hR7.2.below (B := w.heap.size) Hb6.out.size (fun f hf => by rw [List.mem_singleton.1 hf]; have := HRe.out; omega)))
  have Hrow7 := Lib.hid (own_keep Hrow6.out hR7.2 (fun r hr hm => (Hlv.out r hr).1 (List.mem_singleton.1 hm)))
  have hRu : R < u.heap.size := by omega
  clear hd7 hR7 Hx6 Hrd6 Hbs6 HRx6 Hb6 Hrow6 hSl6 hs7
  have HlowB : Hid (∀ wr, Keep [g, S] u wr → Below w.heap.size w wr) := Lib.hid (fun wr hk => Hb7.out.trans (hk.below Hb7.out.size (fun f hf => by have := HRe.out; simp at hf; omega)))
  simp only
  go_wp2
  go_loopw [7] (fun i wr => ∃ (k : Nat) (acc : List Hs) (s : Nat × Bool) (ov : Value), k ≤ n ∧ i = .int .i64 k ∧ rHs b k s3 = (acc, s) ∧ DecAt 73 74 27 u wr S g rv b s z (.slice la l.length lc) ov acc) (fun i _ => n - (intOf i).toNat)
  case atStart => exact ⟨0, [], s3, _, Nat.zero_le _, rfl, rfl, HD7.out⟩
  case round =>
    clear HD7
    obtain ⟨k, acc, s, ov, hk, rfl, hacc, hD⟩ := hrel
    obtain ⟨oa, oc, rfl⟩ := own_slice hD.o.row
    have hal : acc.length = k := by have := rHs_len b k s3; rw [hacc] at this; exact this
    have HD := Lib.hid hD; have Hacc := Lib.hid hacc; have Hal := Lib.hid hal
    clear hD hacc hal
    by_cases hlt : k < n
    · have hlt' : (k : Int) < n := by omega
      obtain ⟨q1, hq1⟩ : ∃ r, rI b s = r := ⟨_, rfl⟩
      obtain ⟨x1, sa⟩ := q1
      obtain ⟨q2, hq2⟩ : ∃ r, rI b sa = r := ⟨_, rfl⟩
      obtain ⟨x2, sb⟩ := q2
      obtain ⟨q3, hq3⟩ : ∃ r, rI b sb = r := ⟨_, rfl⟩
      obtain ⟨x3, sc⟩ := q3
      have Hstep : Hid (rHs b (k + 1) s3 = (acc ++ [⟨x1, x2, x3⟩], sc)) := Lib.hid (by
        rw [rHs_step, Hacc.out]
        unfold rH
        simp only
        rw [hq1]
        simp only
        rw [hq2]
        simp only
        rw [hq3])
      have Hq1 := Lib.hid hq1; have Hq2 := Lib.hid hq2; have Hq3 := Lib.hid hq3
      clear hq1 hq2 hq3
      go_upto_region 9 with (fail)
      have hBl := show ∀ q ∈ [S], ∃ cc e f, wr.heap[q]? = some (.cells cc e f) from fun q hq => by rw [List.mem_singleton.1 hq]; exact ⟨_, _, _, HD.out.sx⟩
      refine Txt.Ty.wp_tree [S] [1] [12] [1] [0, 1, 2, 4, 6] (.alt [3] (.alt [5] (.alt [7, 8] (.alt [9] (.alt [10, 11] (.alt [12] (.done) (.no)) (.no)) (.no)) (.no)) (.no)) (.no)) (by kernel_rfl) (by kernel_rfl) (by kernel_rfl) (by kernel_rfl) hBl ?_
      obtain ⟨y0, hy0⟩ : ∃ y, y = wr.drew := ⟨_, rfl⟩
      have HS0 : Hid (Txt.SameB [S] y0 y0) := Lib.hid (by rw [hy0]; exact same_start hBl)
      clear hBl
      rw [← hy0]
      have hd : Below wr.heap.size wr y0 := by rw [hy0]; exact (Below.refl _ _).drew
      have HD0 := Lib.hid (HD.out.below hd)
      clear hy0 hd HD
      have e2 := box_at HD0.out.sx (j := 2) rfl
      have e0 := box_at HD0.out.sx (j := 0) rfl
      (try simp only [Txt.pick, List.getElem?_cons_succ, List.getElem?_cons_zero])
      go_wp2
      refine Txt.RunPost.mk ?_
      clear e2 e0
      refine Txt.Ty.wpTr_alt ?_ Txt.Ty.wpTr_no
      (try simp only [Txt.pick, List.getElem?_cons_succ, List.getElem?_cons_zero])
      go_wp2_with fail
      refine (rInt_any g rv b s.1 s.2 _ HD0.out.o.rd hbl).mono ?_
      rw [show ((s.1, s.2) : Nat × Bool) = s from rfl, Hq1.out]
      rintro e wa ⟨rfl, hRa⟩
      have HDa := Lib.hid (HD0.out.read hRa)
      have HSa := Lib.hid (same_keep HS0.out hRa.2 (fun q hq => by rw [List.mem_singleton.1 hq]; simpa using hSg))
      clear hRa HD0 HS0
      simp only
      go_wp2
      refine Txt.SegPost.mk (Txt.Ty.Shown.same HSa.out) ?_
      (try simp only [Txt.pick, List.getElem?_cons_succ, List.getElem?_cons_zero])
      go_wp2
      refine Txt.RunPost.mk ?_
      refine Txt.Ty.wpTr_alt ?_ Txt.Ty.wpTr_no
      (try simp only [Txt.pick, List.getElem?_cons_succ, List.getElem?_cons_zero])
      go_wp2_with fail
      refine (rInt_any g rv b sa.1 sa.2 _ HDa.out.o.rd hbl).mono ?_
      rw [show ((sa.1, sa.2) : Nat × Bool) = sa from rfl, Hq2.out]
      rintro e wc ⟨rfl, hRc⟩
      have HDc := Lib.hid (HDa.out.read hRc)
      have HSc := Lib.hid (same_keep HSa.out hRc.2 (fun q hq => by rw [List.mem_singleton.1 hq]; simpa using hSg))
      clear hRc HDa HSa
      simp only
      go_wp2
      refine Txt.SegPost.mk (Txt.Ty.Shown.same HSc.out) ?_
      (try simp only [Txt.pick, List.getElem?_cons_succ, List.getElem?_cons_zero])
      go_wp2
      refine Txt.RunPost.mk ?_
      refine Txt.Ty.wpTr_alt ?_ Txt.Ty.wpTr_no
      (try simp only [Txt.pick, List.getElem?_cons_succ, List.getElem?_cons_zero])
      go_wp2_with fail
      refine (rInt_any g rv b sb.1 sb.2 _ HDc.out.o.rd hbl).mono ?_
      rw [show ((sb.1, sb.2) : Nat × Bool) = sb from rfl, Hq3.out]
      rintro e we ⟨rfl, hRe⟩
      have HDe := Lib.hid (HDc.out.read hRe)
      have HSe := Lib.hid (same_keep HSc.out hRe.2 (fun q hq => by rw [List.mem_singleton.1 hq]; simpa using hSg))
      clear hRe HDc HSc
      simp only
      go_wp2
      refine Txt.SegPost.mk (Txt.Ty.Shown.same HSe.out) ?_
      (try simp only [Txt.pick, List.getElem?_cons_succ, List.getElem?_cons_zero])
      go_wp2
      refine Txt.RunPost.mk ?_
      refine Txt.Ty.wpTr_alt ?_ Txt.Ty.wpTr_no
      (try simp only [Txt.pick, List.getElem?_cons_succ, List.getElem?_cons_zero])
      go_wp2
      obtain ⟨Y, hY⟩ : ∃ Y, Y = we.heap.size := ⟨_, rfl⟩
      obtain ⟨wf, hwf⟩ : ∃ Z, Z = we.alloc (.cells #[.int .i64 x1, .int .i64 x2, .int .i64 x3] 74) := ⟨_, rfl⟩
      rw [← hwf, ← hY]
      have hb : Below we.heap.size we wf := by rw [hwf]; exact (Below.refl _ _).alloc (Nat.le_refl _) _
      have hYb : wf.heap[Y]? = some (.cells #[.int .i64 x1, .int .i64 x2, .int .i64 x3] 74 (0, 0)) := by rw [hwf, hY]; exact heap_alloc_new we _
      have HXr := Lib.hid (boxH Y ⟨x1, x2, x3⟩ hYb)
      have HDg := Lib.hid (HDe.out.below hb)
      have HSg := Lib.hid (same_below' HSe.out hb)
      have hbg := HlowB.out _ HDg.out.kp
      have hug := HDg.out.kp.size
      clear hb hYb hwf hY HDe HSe
      refine Txt.SegPost.mk (Txt.Ty.Shown.same HSg.out) ?_
      (try simp only [Txt.pick, List.getElem?_cons_succ, List.getElem?_cons_zero])
      go_wp2
      refine Txt.RunPost.mk ?_
      refine Txt.Ty.wpTr_alt ?_ Txt.Ty.wpTr_no
      (try simp only [Txt.pick, List.getElem?_cons_succ, List.getElem?_cons_zero])
      have hal33 : acc.length ≤ 33 := by have := Hal.out; omega
      go_wp2_with (at_builtin; refine wpList_appF elG Tryz.underlying25 HDg.out.o.row HXr.out hbg rfl _ _ rfl rfl rfl ?h3 ?hB ?h5 ?_)
      all_goals try (first | exact Nat.le_refl _ | omega | exact Hb7.out.size | exact hug)
      intro v8 w8 hown8 hbel8 hk8 hn8
      have hd8 := HDg.out.push (x := ⟨x1, x2, x3⟩) hown8 hk8 (by simpa using hn8)
      have hnS : S ∉ (Value.slice oa acc.length oc).ownBlock.toList := fun hm => by have := HDg.out.low S hm; have := HDg.out.hS; omega
      have h8x : w8.heap[S]? = some (.cells #[.int .i64 z, .slice la l.length lc, .slice oa acc.length oc] 27 (0, 0)) := (hk8.block S HDg.out.lt hnS).trans HDg.out.sx
      have HSh := Lib.hid (same_keep HSg.out hk8 (fun q hq => by rw [List.mem_singleton.1 hq]; exact hnS))
      have H8x := Lib.hid h8x
      have HD8 := Lib.hid hd8
      obtain ⟨a8, d8, rfl⟩ := own_slice hown8
      clear hown8 hk8 hn8 hd8 h8x hbel8 HDg HXr hbg hug hnS HSg
      go_wp2
      refine Txt.SegPost.mk (Txt.Ty.Shown.same HSh.out) ?_
      (try simp only [Txt.pick, List.getElem?_cons_succ, List.getElem?_cons_zero])
      go_wp2
      refine Txt.RunPost.mk ?_
      refine Txt.Ty.wpTr_alt ?_ Txt.Ty.wpTr_no
      (try simp only [Txt.pick, List.getElem?_cons_succ, List.getElem?_cons_zero])
      have f8 := box_free H8x.out 2
      have c8 := box_at H8x.out (j := 2) rfl
      go_wp2
      refine Txt.SegPost.mk (Txt.Ty.Shown.last rfl) ?_
      (try simp only [Txt.pick, List.getElem?_cons_succ, List.getElem?_cons_zero])
      go_wp2
      refine Txt.RunPost.mk ?_
      refine Txt.Ty.wpTr_done (by rfl) ⟨.head _, trivial⟩ ?_
      clear f8 c8 H8x HSh
      go_wp2
      go_roundw
      case rel => exact ⟨k + 1, _, sc, _, hlt, by go_num, Hstep.out, HD8.out⟩
      case measure => simp [intOf]; omega
    · obtain rfl : k = n := by omega
      have hfin := Hdec.out _ _ Hacc.out
      have hacc9 : acc.length ≤ 1000 := by have := Hal.out; omega
      have hl9 : l.length ≤ 1000 := by omega
      have Hfin := Lib.hid hfin
      have hkp := HD.out.kp
      have hbw := HlowB.out _ hkp
      have Hbw := Lib.hid hbw
      have HRw := Lib.hid ((hkp.block R hRu (by simp; omega)).trans HRx7.out)
      have Hrow8 := Lib.hid (own_keep Hrow7.out hkp (fun r hr hm => by have := Hlv.out r hr; simp at hm; omega))
      have hru2 := hkp.size
      clear hfin hkp hbw
      go_wp2_with fail
      refine (rend_any g rv b s.1 s.2 _ HD.out.o.rd hbl).mono ?_
      rintro e y ⟨rfl, hby⟩
      rw [show ((s.1, s.2) : Nat × Bool) = s from rfl]
      have HDy := Lib.hid (HD.out.below hby)
      have HRy := Lib.hid ((hby.block R (by omega)).trans HRw.out)
      have Hby := Lib.hid (Hbw.out.trans (hby.mono Hbw.out.size))
      have Hrowy := Lib.hid (own_below Hrow8.out hby (Nat.le_refl _))
      clear hby HD HRw Hbw Hrow8
      have e0 := box_at HDy.out.sx (j := 0) rfl
      have e1 := box_at HDy.out.sx (j := 1) rfl
      have e2 := box_at HDy.out.sx (j := 2) rfl
      have r0 := box_at HRy.out (j := 0) rfl
      have r1 := box_at HRy.out (j := 1) rfl
      have r2 := box_at HRy.out (j := 2) rfl
      have k0 := box_free HRy.out 0
      have k1 := box_free HRy.out 1
      have k2 := box_free HRy.out 2
      have HI : Hid (Ints [] y (.slice la l.length lc) l) := Lib.hid (Ints.of_own (by have := Hrowy.out; rw [encT_map] at this; exact this))
      have HH := Lib.hid (SlH.of_own HDy.out.o.row)
      rcases rEnd_cases b s with hre | hre
      · rw [hre] at Hfin ⊢
        obtain ⟨VB, hVB⟩ : ∃ V, validV ⟨z, l, acc⟩ = V := ⟨_, rfl⟩
        go_wp2_with fail
        refine (rvalidV_any ⟨z, l, acc⟩ _ _ _ hl9 hacc9 HI.out HH.out).mono ?_
        rw [hVB]
        rintro e y2 ⟨rfl, hb2⟩
        rw [hVB] at Hfin
        have hD2 := HDy.out.below hb2
        have hR2 := (hb2.block R (by have := (Array.getElem?_eq_some_iff.1 HRy.out).1; omega)).trans HRy.out
        have HB2 := Lib.hid (Hby.out.trans (hb2.mono Hby.out.size))
        have Hrow2 := Lib.hid (own_below Hrowy.out hb2 (Nat.le_refl _))
        have e0 := box_at hD2.sx (j := 0) rfl
        have e1 := box_at hD2.sx (j := 1) rfl
        have e2 := box_at hD2.sx (j := 2) rfl
        have r0 := box_at hR2 (j := 0) rfl
        have r1 := box_at hR2 (j := 1) rfl
        have r2 := box_at hR2 (j := 2) rfl
        have k0 := box_free hR2 0
        have k1 := box_free hR2 1
        have k2 := box_free hR2 2
        have HD2 := Lib.hid hD2; have HR2 := Lib.hid hR2; have HVB := Lib.hid hVB
        clear hb2 hD2 hR2 hVB HDy HRy Hby Hrowy HI HH
        have hbel : ∀ a b' c', Below w.heap.size w (((y2.setCell ⟨R, 0, none⟩ a).setCell ⟨R, 1, none⟩ b').setCell ⟨R, 2, none⟩ c') := fun a b' c' => HB2.out.trans (Keep.below (F := [R]) ((((Keep.refl [R] y2).setCell (by simp) _).setCell (by simp) _).setCell (by simp) _) HB2.out.size (fun f hf => by rw [List.mem_singleton.1 hf]; have := HRe.out; omega))
        have HBL := Lib.hid hbel; clear hbel
        cases VB
        · have Hd : Hid (decV b 32 = none) := Lib.hid (by rw [Hfin.out]; rfl)
          go_wp2
          refine bodyPost_ret (results_ct rfl _ _ _ _ _ _ _ rfl (heap_set3 HR2.out _ _ _) Tryz.underlying27 rfl (by kernel_rfl)) rfl ?_
          rw [Hd.out]
          exact ⟨HBL.out _ _ _, rfl⟩
        · have Hd : Hid (decV b 32 = some ⟨z, l, acc⟩) := Lib.hid (by rw [Hfin.out]; rfl)
          have hkR : Keep [R] y2 (((y2.setCell ⟨R, 0, none⟩ (.int .i64 z)).setCell ⟨R, 1, none⟩ (.slice la l.length lc)).setCell ⟨R, 2, none⟩ (.slice oa acc.length oc)) := (((Keep.refl [R] y2).setCell (by simp) _).setCell (by simp) _).setCell (by simp) _
          have ho1 := own_keep Hrow2.out hkR (fun r hr hm => by
            rw [List.mem_singleton] at hm
            obtain ⟨cur, hc⟩ := RowF.type (.inl Hrow2.out) (r := r) hr
            rw [hm, HR2.out] at hc; cases hc)
          have ho2 := own_keep HD2.out.o.row hkR (fun r hr hm => by
            have := (HD2.out.o.row.lt r hr).1
            rw [List.mem_singleton] at hm; omega)
          have HO1 := Lib.hid ho1; have HO2 := Lib.hid ho2
          clear hkR ho1 ho2
          go_wp2
          refine bodyPost_ret (results_ct rfl _ _ _ _ _ _ _ rfl (heap_set3 HR2.out _ _ _) Tryz.underlying27 rfl (by kernel_rfl)) rfl ?_
          rw [Hd.out]
          refine ⟨HBL.out _ _ _, _, rfl, _, _, rfl, ?_, ?_⟩
          · have := HO1.out
            rw [encT_map] at this
            exact Raw.of_own this (ivs_one _) (fun f hf => List.mem_range.1 hf)
          · exact Raw.of_own (own_base HO2.out Hb7.out.size) (encH_one _) (fun f hf => List.mem_range.1 hf)
      · rw [hre] at Hfin ⊢
        have Hd : Hid (decV b 32 = none) := Lib.hid (by rw [Hfin.out]; rfl)
        have hbel : ∀ a b' c', Below w.heap.size w (((y.setCell ⟨R, 0, none⟩ a).setCell ⟨R, 1, none⟩ b').setCell ⟨R, 2, none⟩ c') := fun a b' c' => Hby.out.trans (Keep.below (F := [R]) ((((Keep.refl [R] y).setCell (by simp) _).setCell (by simp) _).setCell (by simp) _) Hby.out.size (fun f hf => by rw [List.mem_singleton.1 hf]; have := HRe.out; omega))
        have HBL := Lib.hid hbel; clear hbel
        go_wp2
        refine bodyPost_ret (results_ct rfl _ _ _ _ _ _ _ rfl (heap_set3 HRy.out _ _ _) Tryz.underlying27 rfl (by kernel_rfl)) rfl ?_
        rw [Hd.out]
        exact ⟨HBL.out _ _ _, rfl⟩
end Go.Proofs.YthmnhpakgjnngaaGreatDoor
