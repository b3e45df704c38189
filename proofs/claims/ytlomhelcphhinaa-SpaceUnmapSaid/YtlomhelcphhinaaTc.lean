/- Space: the walk of SpaceEntries -/
import Derived.Test.YtlomhelcphhinaaTb
namespace Go.Proofs.Ytlomhelcphhinaa
open Go.RowKit Go.Bs Go.Sp Go.Cl Go.Rw
def BX (w W : World) (x : Ent) : Prop := W.heap[w.heap.size]? = some (.cells #[.int .i64 x.p, .int .i64 x.f, .bool x.wr] 50 (0, 0)) ∧ Below w.heap.size w W ∧ w.heap.size < W.heap.size
theorem BX.start (w : World) (x : Ent) : BX w (w.alloc (.cells #[.int .i64 x.p, .int .i64 x.f, .bool x.wr] 50)) x := ⟨heap_alloc_new w _, (Below.refl _ _).alloc (Nat.le_refl _) _, by simp⟩
theorem BX.next {w W W' : World} {x : Ent} (h : BX w W x) (hb : Below W.heap.size W W') : BX w W' x :=
  ⟨(hb.block _ h.2.2).trans h.1, h.2.1.trans (hb.mono h.2.1.size), Nat.lt_of_lt_of_le h.2.2 hb.size⟩
theorem pair_of {a b : Int × Int} (h : a = b) : a.1 = b.1 ∧ a.2 = b.2 := by subst h; exact ⟨rfl, rfl⟩
theorem tl_eq {v : Value} {l : List Ent} {page : Int} {wr : Bool} {w : World} {r : Int × Int} (hr : tlate l page wr = r) (hl : l.length ≤ 1000000) (hs : SlE w v l) (hp1 : -9223372036854775808 ≤ page) (hp2 : page ≤ 9223372036854775807) :
    Calls Try.prog 13 #[v, .int .i64 page, .bool wr] w fun e w' => e = .returned (.tuple #[.int .i64 r.1, .int .i64 r.2]) ∧ Below w.heap.size w w' := by subst hr; exact translate_sl v l page wr w hl hs hp1 hp2
set_option maxRecDepth 100000 in
set_option maxHeartbeats 8000000 in
theorem entries_any (v : Value) (l : List Ent) (x : Ent) (q : Int) (w : World) (hs : SlE w v l) (hx1 : -9223372036854775808 ≤ x.p) (hx2 : x.p ≤ 9223372036854775807) (hq1 : -9223372036854775808 ≤ q) (hq2 : q ≤ 9223372036854775807) :
    Calls Try.prog 8 #[v, .agg #[.int .i64 x.p, .int .i64 x.f, .bool x.wr], .int .i64 q] w fun e w' => e = .returned (.bool true) ∧ Below w.heap.size w w' := by
  obtain ⟨p, f, wr⟩ := x
  have Hs := Lib.hid hs
  obtain ⟨ad, cap, rfl, hcap, hxx⟩ := hs
  clear hxx
  have HB0 := Lib.hid (BX.start w ⟨p, f, wr⟩)
  by_cases hbad : 60 < l.length
  · have g1 : (60 : Int) < l.length := by omega
    go_enter Try.func8, Try.ntmps8
    go_wp2_with fail
    refine (awake_any _).mono ?_
    rintro e w1 ⟨rfl, hb⟩
    have HB1 := Lib.hid (HB0.out.next hb)
    clear hb
    have x0 := box_at HB1.out.1 (j := 0) rfl
    have x1 := box_at HB1.out.1 (j := 1) rfl
    have x2 := box_at HB1.out.1 (j := 2) rfl
    go_wp2_with fail
    refine (awake_any _).mono ?_
    rintro e w2 ⟨rfl, hb⟩
    have HB2 := Lib.hid (HB1.out.next hb)
    clear hb x0 x1 x2
    have x0 := box_at HB2.out.1 (j := 0) rfl
    have x1 := box_at HB2.out.1 (j := 1) rfl
    have x2 := box_at HB2.out.1 (j := 2) rfl
    go_wp2
    go_ret
    exact ⟨rfl, HB2.out.2.1⟩
  have hl' : l.length ≤ 1000000 := by omega
  have hl3 : l.length ≤ 1000 := by omega
  have g1 : (l.length : Int) ≤ 60 := by omega
  have g2 : decide ((60 : Int) < l.length) = false := by simp; omega
  obtain ⟨z, hz⟩ : ∃ z, z = mapE l ⟨p, f, wr⟩ := ⟨_, rfl⟩
  have HZ := Lib.hid hz
  obtain ⟨la, er⟩ := z
  clear hz
  go_enter Try.func8, Try.ntmps8
  go_wp2_with fail
  refine (awake_any _).mono ?_
  rintro e w1 ⟨rfl, hb⟩
  have HB1 := Lib.hid (HB0.out.next hb)
  clear hb
  have x0 := box_at HB1.out.1 (j := 0) rfl
  have x1 := box_at HB1.out.1 (j := 1) rfl
  have x2 := box_at HB1.out.1 (j := 2) rfl
  go_wp2
  have hBl : ∀ b ∈ [w.heap.size], ∃ c e f, w1.heap[b]? = some (.cells c e f) := fun b hb => by rw [List.mem_singleton.1 hb]; exact ⟨_, _, _, HB1.out.1⟩
  have HS1 := Lib.hid (same_start hBl)
  have HB1' := Lib.hid (HB1.out.next (Below.refl w1.heap.size w1).drew)
  refine Txt.Ty.wp_tree [w.heap.size] [2] [] [2] [0, 2] (.alt [1] (.alt [3, 4, 5, 6, 7, 8] (.done) (.no)) (.no)) (by kernel_rfl) (by kernel_rfl) (by kernel_rfl) (by kernel_rfl) hBl ?_
  clear hBl
  (try simp only [Txt.pick, List.getElem?_cons_succ, List.getElem?_cons_zero])
  go_wp2
  refine Txt.RunPost.mk ?_
  refine Txt.Ty.wpTr_alt ?_ Txt.Ty.wpTr_no
  (try simp only [Txt.pick, List.getElem?_cons_succ, List.getElem?_cons_zero])
  go_wp2_with fail
  refine (to_sl _ l _ hl' (Hs.out.below HB1'.out.2.1)).mono ?_
  rintro e w2 ⟨v2, rfl, hown2, hb⟩
  have HB2 := Lib.hid (HB1'.out.next hb)
  have HS2 := Lib.hid (same_below' HS1.out hb)
  have HT2 := Lib.hid (SlE.of_own hown2)
  obtain ⟨a2, c2, rfl⟩ := own_form hown2
  clear hb hown2 x0 x1 x2
  go_wp2
  refine Txt.SegPost.mk (Txt.Ty.Shown.same HS2.out) ?_
  refine Txt.RunPost.mk ?_
  refine Txt.Ty.wpTr_alt ?_ Txt.Ty.wpTr_no
  (try simp only [Txt.pick, List.getElem?_cons_succ, List.getElem?_cons_zero])
  have st := map_sl _ l ⟨p, f, wr⟩ w2 hl3 HT2.out hx1 hx2
  rw [← HZ.out] at st
  have St := Lib.hid st
  clear st
  go_wp2_with fail
  refine St.out.mono ?_
  rintro e w3 ⟨v3, rfl, hown3, hb⟩
  have HB3 := Lib.hid (HB2.out.next hb)
  have HS3 := Lib.hid (same_below' HS2.out hb)
  have HO3 := Lib.hid hown3
  obtain ⟨a3, c3, rfl⟩ := own_form hown3
  clear hb hown3 St
  simp only
  go_wp2
  refine Txt.SegPost.mk (Txt.Ty.Shown.same HS3.out) ?_
  (try simp only [Txt.pick, List.getElem?_cons_succ, List.getElem?_cons_zero])
  go_wp2
  refine Txt.RunPost.mk ?_
  refine Txt.Ty.wpTr_done (by rfl) ⟨.head _, trivial⟩ ?_
  cases hv : validB l
  · have hz : ((la, er) : List Ent × Int) = ([], 1) := by rw [HZ.out]; unfold mapE; rw [hv]; rfl
    obtain ⟨rfl, rfl⟩ := Prod.mk.inj hz
    clear hz hv
    go_wp2
    go_ret
    exact ⟨rfl, HB3.out.2.1⟩
  cases hok : (⟨p, f, wr⟩ : Ent).ok
  · have hz : ((la, er) : List Ent × Int) = ([], 2) := by rw [HZ.out]; unfold mapE; rw [hv, hok]; rfl
    obtain ⟨rfl, rfl⟩ := Prod.mk.inj hz
    clear hz hv hok
    go_wp2
    go_ret
    exact ⟨rfl, HB3.out.2.1⟩
  have hz : ((la, er) : List Ent × Int) = (insE l ⟨p, f, wr⟩, 0) := by rw [HZ.out]; unfold mapE; rw [hv, hok]; rfl
  obtain ⟨hla, rfl⟩ := Prod.mk.inj hz
  have hE := entries hv hok
  rw [← hla] at hE
  have hll : la.length ≤ 1000 := by have := ins_len (x := ⟨p, f, wr⟩) (valid_srt hv); rw [← hla] at this; omega
  have HE := Lib.hid hE
  obtain ⟨⟨n6, e6⟩, hr6⟩ : ∃ r, r = tlate la p true := ⟨_, rfl⟩
  have hee : (e6 == 0) = wr := by
    have := hE.2.2.1
    rw [← hr6] at this
    cases wr <;> simp at this <;> simp [this]
  have He6 := Lib.hid hee
  have Hr6 := Lib.hid hr6.symm
  clear hee hr6
  have HA3 := Lib.hid (SlE.of_own HO3.out)
  have hll' : la.length ≤ 1000000 := by omega
  obtain ⟨lb, hlb⟩ : ∃ lb, lb = wo la p := ⟨_, rfl⟩
  have hlbl : lb.length ≤ 1000000 := by rw [hlb]; have := wo_len la p; omega
  have HLb := Lib.hid hlb
  clear hz hv hok hla hE hlb HZ
  have x0 := box_at HB3.out.1 (j := 0) rfl
  have x1 := box_at HB3.out.1 (j := 1) rfl
  have x2 := box_at HB3.out.1 (j := 2) rfl
  have st := unmap_sl _ la p w3 hll HA3.out hx1 hx2
  rw [HE.out.1, ← HLb.out] at st
  have St := Lib.hid st
  clear st
  go_wp2_with fail
  refine (St.out).mono ?_
  rintro e w4 ⟨v4, rfl, hown4, hb⟩
  have HB4 := Lib.hid (HB3.out.next hb)
  have HA4 := Lib.hid (HA3.out.below hb)
  have HC4 := Lib.hid (SlE.of_own hown4)
  obtain ⟨a4, c4, rfl⟩ := own_form hown4
  clear hown4
  clear hb x0 x1 x2 St
  simp only
  have x0 := box_at HB4.out.1 (j := 0) rfl
  have x1 := box_at HB4.out.1 (j := 1) rfl
  have x2 := box_at HB4.out.1 (j := 2) rfl
  go_wp2_with fail
  refine (tl_eq HE.out.2.1 hll' HA4.out hx1 hx2).mono ?_
  rintro e w5 ⟨rfl, hb⟩
  have HB5 := Lib.hid (HB4.out.next hb)
  have HA5 := Lib.hid (HA4.out.below hb)
  have HC5 := Lib.hid (HC4.out.below hb)
  clear hb x0 x1 x2
  have x0 := box_at HB5.out.1 (j := 0) rfl
  have x1 := box_at HB5.out.1 (j := 1) rfl
  have x2 := box_at HB5.out.1 (j := 2) rfl
  go_wp2_with fail
  refine (tl_eq Hr6.out hll' HA5.out hx1 hx2).mono ?_
  rintro e w6 ⟨rfl, hb⟩
  have HB6 := Lib.hid (HB5.out.next hb)
  have HA6 := Lib.hid (HA5.out.below hb)
  have HC6 := Lib.hid (HC5.out.below hb)
  clear hb x0 x1 x2
  have x0 := box_at HB6.out.1 (j := 0) rfl
  have x1 := box_at HB6.out.1 (j := 1) rfl
  have x2 := box_at HB6.out.1 (j := 2) rfl
  have he6 : (e6 == 0) = wr := He6.out
  have t7 : tlate lb p false = (0, 11) := by rw [HLb.out]; exact HE.out.2.2.2.1
  have T7 := Lib.hid t7; clear t7
  have v8 : validB la = true := HE.out.2.2.2.2.1
  have v9 : validB lb = true := by rw [HLb.out]; exact HE.out.2.2.2.2.2.1
  have V8 := Lib.hid v8; have V9 := Lib.hid v9
  clear v8 v9
  go_wp2_with fail
  refine (tl_eq T7.out hlbl HC6.out hx1 hx2).mono ?_
  rintro e w7 ⟨rfl, hb⟩
  have HB7 := Lib.hid (HB6.out.next hb)
  have HA7 := Lib.hid (HA6.out.below hb)
  have HC7 := Lib.hid (HC6.out.below hb)
  clear hb x0 x1 x2
  have x0 := box_at HB7.out.1 (j := 0) rfl
  have x1 := box_at HB7.out.1 (j := 1) rfl
  have x2 := box_at HB7.out.1 (j := 2) rfl
  simp only
  go_wp2_with fail
  refine (valid_eq HA7.out hll' V8.out).mono ?_
  rintro e w8 ⟨rfl, hb⟩
  have HB8 := Lib.hid (HB7.out.next hb)
  have HA8 := Lib.hid (HA7.out.below hb)
  have HC8 := Lib.hid (HC7.out.below hb)
  clear hb x0 x1 x2
  have x0 := box_at HB8.out.1 (j := 0) rfl
  have x1 := box_at HB8.out.1 (j := 1) rfl
  have x2 := box_at HB8.out.1 (j := 2) rfl
  go_wp2_with fail
  refine (valid_eq HC8.out hlbl V9.out).mono ?_
  rintro e w9 ⟨rfl, hb⟩
  have HB9 := Lib.hid (HB8.out.next hb)
  have HA9 := Lib.hid (HA8.out.below hb)
  have HC9 := Lib.hid (HC8.out.below hb)
  clear hb x0 x1 x2
  have x0 := box_at HB9.out.1 (j := 0) rfl
  have x1 := box_at HB9.out.1 (j := 1) rfl
  have x2 := box_at HB9.out.1 (j := 2) rfl
  by_cases hqp : q = p
  · have hqp' : (q == p) = true := by simpa using hqp
    go_wp2
    go_ret
    exact ⟨rfl, HB9.out.2.1⟩
  · have hqp' : (q == p) = false := by simpa using hqp
    have Hqp := Lib.hid hqp
    clear hqp
    go_wp2
    have hbu := HB9.out.2.1.alloc (Nat.le_of_lt HB9.out.2.2) (.cells #[.bool false, .bool true] 4)
    have hau := HA9.out.below ((Below.refl w9.heap.size w9).alloc (Nat.le_refl _) (.cells #[.bool false, .bool true] 4))
    have hcu := HC9.out.below ((Below.refl w9.heap.size w9).alloc (Nat.le_refl _) (.cells #[.bool false, .bool true] 4))
    have hnu := heap_alloc_new w9 (.cells #[.bool false, .bool true] 4)
    obtain ⟨G, hG⟩ : ∃ G, G = w9.heap.size := ⟨_, rfl⟩
    obtain ⟨u, hu⟩ : ∃ u, u = w9.alloc (.cells #[.bool false, .bool true] 4) := ⟨_, rfl⟩
    rw [← hG, ← hu] at hnu
    rw [← hu] at hbu hau hcu
    have HBu := Lib.hid hbu; have HAu := Lib.hid hau; have HCu := Lib.hid hcu; have HNu := Lib.hid hnu
    rw [← hG, ← hu]
    clear hG hu hbu hau hcu hnu x0 x1 x2
    go_loopw [114] (fun i wr => ∃ k : Nat, k ≤ 2 ∧ i = .int .i64 k ∧ Below u.heap.size u wr) (fun i _ => 2 - (intOf i).toNat)
    case atStart => exact ⟨0, Nat.zero_le _, rfl, Below.refl _ _⟩
    case round =>
      obtain ⟨k, hk, rfl, hbr⟩ := hrel
      obtain ⟨r0, hr0⟩ : ∃ r0, r0 = wr := ⟨_, rfl⟩
      have hnr := (hbr.block G (Array.getElem?_eq_some_iff.1 HNu.out).1).trans HNu.out
      have y0 := box_at hnr (j := 0) rfl
      have y1 := box_at hnr (j := 1) rfl
      have hwr := HBu.out.trans (hbr.mono HBu.out.size)
      have HWr := Lib.hid hwr
      have HAr := Lib.hid (HAu.out.below hbr)
      have HCr := Lib.hid (HCu.out.below hbr)
      have HBr := Lib.hid hbr
      clear hnr hwr hbr
      by_cases hlt : k < 2
      · have hk2 : k = 0 ∨ k = 1 := by omega
        obtain ⟨b, hb0⟩ : ∃ b : Bool, b = decide (k = 1) := ⟨_, rfl⟩
        obtain ⟨⟨tn, te⟩, ht⟩ : ∃ r, r = tlate l q b := ⟨_, rfl⟩
        have HT := Lib.hid ht.symm
        have HTa : Hid (tlate la q b = (tn, te)) := Lib.hid (by rw [ht]; exact (HE.out.2.2.2.2.2.2 q b Hqp.out).1)
        have HTb : Hid (tlate lb q b = (tn, te)) := Lib.hid (by rw [ht, HLb.out]; exact (HE.out.2.2.2.2.2.2 q b Hqp.out).2)
        clear ht
        rcases hk2 with rfl | rfl
        all_goals
          subst hb0
          go_wp2_with fail
          refine (to_sl _ l _ hl' (Hs.out.below HWr.out)).mono ?_
          rintro e z1 ⟨vz, rfl, hownz, hb⟩
          have HZ1 := Lib.hid (SlE.of_own hownz)
          obtain ⟨az, cz, rfl⟩ := own_form hownz
          have hbz1 := HBr.out.trans (hb.mono HBr.out.size)
          clear hownz hb
          go_wp2_with fail
          refine (tl_eq HT.out hl' HZ1.out hq1 hq2).mono ?_
          rintro e z2 ⟨rfl, hb⟩
          have hbz2 := hbz1.trans (hb.mono hbz1.size)
          clear hb
          go_wp2_with fail
          refine (tl_eq HTa.out hll' (HAu.out.below hbz2) hq1 hq2).mono ?_
          rintro e z3 ⟨rfl, hb⟩
          have hbz3 := hbz2.trans (hb.mono hbz2.size)
          clear hb
          go_wp2_with fail
          refine (tl_eq HTb.out hlbl (HCu.out.below hbz3) hq1 hq2).mono ?_
          rintro e z4 ⟨rfl, hb⟩
          have hbz4 := hbz3.trans (hb.mono hbz3.size)
          clear hb
          simp only
          go_wp2
          go_roundw
          case rel => first | exact ⟨1, by omega, rfl, hbz4⟩ | exact ⟨2, by omega, rfl, hbz4⟩
          case measure => simp [intOf]
      · obtain rfl : k = 2 := by omega
        go_wp2
        go_ret
        exact ⟨rfl, HWr.out⟩
end Go.Proofs.Ytlomhelcphhinaa
