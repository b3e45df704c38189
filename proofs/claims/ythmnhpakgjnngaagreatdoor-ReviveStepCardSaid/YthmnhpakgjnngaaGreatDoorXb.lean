/- Revive: the program reads a list of numbers -/
import Derived.Test.YthmnhpakgjnngaaGreatDoorXa
import Derived.Deep.CutRange
import Derived.WalkMore
namespace Go.Rv
open Go Go.RowKit Go.Bs Go.Cl Go.Rw Go.Dt Go.Wi
/-- what Ints returns -/
def RetL (T : TypeId) (w : World) (g : Nat) (bv : Value) (b : List UInt8) (r : List Int × Nat × Bool) (e : Ending) (w' : World) : Prop := ∃ v, e = .returned v ∧ w'.ownsRow w.heap.size 3 1 v r.1.length (r.1.flatMap encT) ∧ RdR T w g bv b r.2 w'
end Go.Rv
namespace Go.Proofs.YthmnhpakgjnngaaGreatDoor
open Go.RowKit Go.Bs Go.Cl Go.Rw Go.Dt Go.Rv Go.Wi
theorem elN : Rw.Elem Tryz.prog 22 3 1 8 (.int .i64 0) := ⟨Tryz.underlying22, by kernel_rfl, rfl, by decide⟩
set_option maxRecDepth 100000 in
set_option maxHeartbeats 2000000 in
theorem numbers_any (g : Nat) (bv : Value) (b : List UInt8) (p0 : Nat) (r n cap base : Nat) (w : World) (hbl : b.length ≤ 1000000) (hn : n ≤ 1000000)
    (h : RdO encT 1 96 3 w base g bv b (p0, false) (.slice (some ⟨r, 0, none⟩) n cap) (zs n)) :
    Calls Tryz.prog 56 #[.pointer (some ⟨g, 0, none⟩), .slice (some ⟨r, 0, none⟩) n cap] w fun e w' => ∃ ok p l, e = .returned (.bool ok) ∧ Keep [g, r] w w' ∧ RdO encT 1 96 3 w' base g bv b (p, false) (.slice (some ⟨r, 0, none⟩) n cap) l ∧
      l.length = n ∧ ((ok = true ∧ rdN b n p0 = some (l, p)) ∨ (ok = false ∧ rdN b n p0 = none)) := by
  have H := Lib.hid h; clear h
  go_enter Tryz.func56, Tryz.ntmps56
  go_wp2
  go_loopw [10] (fun i wr => ∃ (k p : Nat) (xs : List Int), k ≤ n ∧ i = .int .i64 k ∧ xs.length = k ∧ Keep [g, r] w wr ∧ RdO encT 1 96 3 wr base g bv b (p, false) (.slice (some ⟨r, 0, none⟩) n cap) (xs ++ zs (n - k)) ∧ rdN b n p0 = (rdN b (n - k) p).map (fun q => (xs ++ q.1, q.2))) (fun i _ => n - (intOf i).toNat)
  case atStart => exact ⟨0, p0, [], Nat.zero_le _, rfl, rfl, Keep.refl _ _, by simpa using H.out, by cases rdN b n p0 <;> simp⟩
  case round =>
    obtain ⟨k, p, xs, hk, rfl, hxs, hkeep, hO, hrd⟩ := hrel
    have HO := Lib.hid hO; have HK := Lib.hid hkeep; have Hrd := Lib.hid hrd; have Hxs := Lib.hid hxs
    clear hO hkeep hrd
    by_cases hlt : k < n
    · have hlt' : (k : Int) < n := by omega
      obtain ⟨d, hd⟩ : ∃ d, n - k = d + 1 := ⟨n - k - 1, by omega⟩
      go_wp2_with fail
      refine (wint63_any g bv b p false _ HO.out.rd hbl).mono ?_
      rintro e w1 ⟨x, ok, p1, rfl, hr1, hk1, hp1, hm⟩
      have hO1 := HO.out.read (s' := (p1, false)) ⟨hr1, hk1⟩
      have HO1 := Lib.hid hO1
      have HK1 := Lib.hid (HK.out.trans hk1 (fun f hf => .inl (by simp at hf ⊢; exact .inl hf)))
      have hR := Hrd.out
      rw [hd, rdN_succ] at hR
      clear hr1 hk1 hO1
      cases hdd : rdI b p with
      | none =>
        rw [hdd] at hm hR
        obtain ⟨rfl, rfl⟩ := hm
        have HRn : Hid (rdN b n p0 = none) := Lib.hid hR
        clear hR hdd
        go_wp2
        go_ret
        exact ⟨false, p1, _, rfl, HK1.out, HO1.out, by simp [zs, Hxs.out]; omega, Or.inr ⟨rfl, HRn.out⟩⟩
      | some q =>
        obtain ⟨y, m⟩ := q
        rw [hdd] at hm hR
        obtain ⟨rfl, rfl, rfl⟩ := hm
        have hz : zs (n - k) = 0 :: zs d := by rw [hd]; rfl
        have hrow := HO1.out.row
        have hnl : (xs ++ zs (n - k)).length = n := by simp [zs, Hxs.out]; omega
        have hget : (xs ++ zs (n - k))[k]? = some 0 := by rw [hz, List.getElem?_append_right (by omega), hxs]; simp
        rw [hnl] at hrow
        have hcell := own_cell hrow rfl (flat_get encT encT_len (xs ++ zs (n - k)) k 0 _ hget (by omega))
        have hcell' : w1.cell? ⟨r, k * 1 + 0, none⟩ = some (.int .i64 0) := hcell
        have hfz := own_frozen hrow (k * 1 + 0)
        have hset := own_set hrow (j := k * 1 + 0) (u := .int .i64 x) (by rw [flat_length encT encT_len, hnl]; omega)
        rw [flat_set encT encT_len (xs ++ zs (n - k)) k 0 0 x _ hget (by omega) rfl] at hset
        have hls : (xs ++ zs (n - k)).set k x = (xs ++ [x]) ++ zs (n - (k + 1)) := by
          rw [hz, List.set_append_right _ _ (by omega), hxs, Nat.sub_self, List.set_cons_zero, show n - (k + 1) = d by omega]; simp
        rw [hls] at hset
        rw [Nat.mul_one, Nat.add_zero] at hcell' hfz hset
        have hks : Keep [r] w1 (w1.setCell ⟨r, k, none⟩ (.int .i64 x)) := (Keep.refl [r] w1).setCell (by simp) _
        have hoff := HO1.out.off
        have hby := HO1.out.by'
        have hO2 : RdO encT 1 96 3 (w1.setCell ⟨r, k, none⟩ (.int .i64 x)) base g bv b (p + m, false) (.slice (some ⟨r, 0, none⟩) n cap) ((xs ++ [x]) ++ zs (n - (k + 1))) :=
          ⟨HO1.out.rd.keep hks (by simpa using fun e => hoff r (by simp [Value.ownBlock]) e.symm) (by simpa [Value.ownBlock] using hby), by rw [show ((xs ++ [x]) ++ zs (n - (k + 1))).length = n by simp [zs, Hxs.out]; omega]; exact hset, hoff,
            Raw.keep hby hks (fun f hf => .inl (by simpa [Value.ownBlock] using hf)) (fun f hf => .inl hf)⟩
        have HO2 := Lib.hid hO2
        have HK2 := Lib.hid (HK1.out.trans hks (fun f hf => .inl (by simp at hf ⊢; exact .inr hf)))
        have HR2 : Hid (rdN b n p0 = (rdN b (n - (k + 1)) (p + m)).map (fun q => ((xs ++ [x]) ++ q.1, q.2))) := Lib.hid (by
          rw [hR, show n - (k + 1) = d by omega]
          simp only [Option.map_map]
          congr 1
          funext q
          simp)
        clear hrow hset hcell hget hR hdd hz hoff hby hks hO2 hls
        go_wp2
        go_roundw
        case rel => exact ⟨k + 1, p + m, xs ++ [x], hlt, by go_num, by simp [Hxs.out], HK2.out, HO2.out, HR2.out⟩
        case measure => simp [intOf]; omega
    · obtain rfl : k = n := by omega
      go_wp2
      go_ret
      have h1 := Hrd.out
      have h2 := HO.out
      rw [Nat.sub_self] at h1 h2
      rw [rdN_zero] at h1
      rw [show xs ++ zs 0 = xs by simp [zs]] at h2
      refine ⟨true, p, xs, rfl, HK.out, h2, Hxs.out, Or.inl ⟨rfl, ?_⟩⟩
      rw [h1]
      simp
set_option maxRecDepth 100000 in
set_option maxHeartbeats 2000000 in
/-- the closure of Ints -/
theorem wintsC_any (g r0 r1 r2 : Nat) (bv : Value) (b : List UInt8) (at_ : Nat) (most : Int) (hmost : most ≤ 1000000) (w : World) (h : RdAt 96 w g bv b at_ false) (hbl : b.length ≤ 1000000)
    (c0 : w.cell? ⟨r0, 0, none⟩ = some (.pointer (some ⟨g, 0, none⟩))) (c1 : w.cell? ⟨r1, 0, none⟩ = some (.int .i64 most)) (hr0 : r0 ≠ g) (hl0 : r0 < w.heap.size)
    (h2 : w.heap[r2]? = some (.cells #[.slice none 0 0] 22 (0, 0))) (hr2 : r2 ≠ g) (hb2 : Bytes [r2] w bv b) :
    Calls Tryz.prog 54 #[.pointer (some ⟨r0, 0, none⟩), .pointer (some ⟨r1, 0, none⟩), .pointer (some ⟨r2, 0, none⟩)] w fun e w1 => ∃ ok p, e = .returned (.bool ok) ∧ RdAt 96 w1 g bv b p false ∧
      (Keep [g, r2] w w1 ∧ ∃ v x, w1.heap[r2]? = some (.cells #[v] 22 (0, 0)) ∧ w1.ownsRow w.heap.size 3 1 v x.length (x.flatMap encT) ∧ IsL b at_ most x ok p) := by
  obtain ⟨ba, bc, rfl⟩ := Raw.slice h.hb
  have hl2 : r2 < w.heap.size := (Array.getElem?_eq_some_iff.1 h2).1
  have hgl := h.lt
  have H := Lib.hid h; clear h
  have H2 := Lib.hid h2; clear h2
  have HB2 := Lib.hid hb2; clear hb2
  go_enter Tryz.func54, Tryz.ntmps54
  go_wp2_with fail
  refine (wbounded_any g _ b at_ false 0 most _ H.out hbl).mono ?_
  rintro e w1 ⟨n, ok, p, rfl, hr, hk, hp, hm⟩
  have hh2 := (hk.block r2 hl2 (by simpa using hr2)).trans H2.out
  have HB1 := Lib.hid (Raw.keep (F' := [r2]) (Raw.both H.out.hb HB2.out) hk (fun f hf => .inl (by simp at hf ⊢; exact .inl hf)) (fun f hf => .inl (by simp at hf ⊢; exact .inr hf)))
  have hk1 := hk.mono (F' := [g, r2]) (fun f hf => .inl (by simp at hf ⊢; exact .inl hf))
  have f0 : w1.cell? ⟨g, 0, none⟩ = some (.slice ba b.length bc) := box_at hr.hc rfl
  have f1 : w1.cell? ⟨g, 1, none⟩ = some (.int .i64 p) := box_at hr.hc rfl
  have c0' : w1.cell? ⟨r0, 0, none⟩ = some (.pointer (some ⟨g, 0, none⟩)) := by
    rw [← c0]; simp only [World.cell?]; rw [hk.block r0 hl0 (by simpa using hr0)]
  have hpl := hr.ha
  have hs1 := hk.size
  have Hr := Lib.hid hr
  have Hk := Lib.hid hk1
  have HH2 := Lib.hid hh2
  clear hr hk hk1 hh2 c0
  cases hd : rdB b at_ 0 most with
  | none =>
    rw [hd] at hm
    simp only at hm
    subst hm
    have Hy : Hid (IsL b at_ most [] false p) := Lib.hid (.inr ⟨rfl, rfl, rdL_none hd⟩)
    clear hd
    go_wp2
    refine Txt.wp_txt (by kernel_rfl) (by kernel_rfl) ?_
    go_wp2
    refine Txt.DrawPost.mk0 (by rfl) ?_
    go_wp2
    go_ret
    exact ⟨false, p, rfl, Hr.out.drew, Hk.out.drew, _, [], HH2.out, World.ownsRow_nil _ _ _ _, Hy.out⟩
  | some q =>
    obtain ⟨y, m⟩ := q
    rw [hd] at hm
    obtain ⟨rfl, rfl, hpm⟩ := hm
    obtain ⟨hdi, hn0, hn1⟩ := rdB_some hd
    obtain ⟨k, rfl⟩ : ∃ k : Nat, n = k := ⟨n.toNat, by omega⟩
    have hL := rdL_some hd
    rw [← hpm] at hL
    have HL := Lib.hid hL
    clear hd hL hdi
    by_cases hsh : b.length < p + k
    · have hsh' : (b.length : Int) - p < k := by omega
      have Hy : Hid (IsL b at_ most [] false p) := Lib.hid (.inr ⟨rfl, rfl, by rw [HL.out]; exact rdN_short hpl hsh⟩)
      clear hpm hn0
      go_wp2
      refine Txt.wp_txt (by kernel_rfl) (by kernel_rfl) ?_
      go_wp2
      refine Txt.DrawPost.mk0 (by rfl) ?_
      go_wp2
      go_ret
      exact ⟨false, p, rfl, Hr.out.drew, Hk.out.drew, _, [], HH2.out, World.ownsRow_nil _ _ _ _, Hy.out⟩
    · have hsh' : (k : Int) ≤ (b.length : Int) - p := by omega
      have hk6 : k ≤ 1000000 := by omega
      clear hpm
      go_wp2
      refine Txt.wp_txt (by kernel_rfl) (by kernel_rfl) ?_
      go_wp2
      refine Txt.DrawPost.mk0 (by rfl) ?_
      go_wp2_with (refine wpList_make elN w.heap.size k rfl _ _ rfl rfl rfl rfl rfl ?c1 ?c2 (by simpa using hs1) ?_)
      case c1 => omega
      case c2 => unfold maxLen; omega
      intro w2 hown hgrow hsz
      have hb2 : Below w1.heap.size w1 w2 := ((Below.refl w1.heap.size w1).drew).grown hgrow (Nat.le_refl _) (fun k h => by cases h)
      rw [make_zs] at hown
      have hO : RdO encT 1 96 3 w2 w.heap.size g (.slice ba b.length bc) b (p, false) (.slice (some ⟨w1.heap.size, 0, none⟩) k k) (zs k) :=
        ⟨Hr.out.below hb2, by simpa [zs] using hown, fun f hf => by simp [Value.ownBlock] at hf; omega, Raw.keep Hr.out.hb (Keep.of_below' (F := []) hb2) (fun f hf => by cases hf) (fun f hf => .inr (by simp [Value.ownBlock] at hf; omega))⟩
      have HO := Lib.hid hO
      have c0'' : w2.cell? ⟨r0, 0, none⟩ = some (.pointer (some ⟨g, 0, none⟩)) := (hb2.cell (p := ⟨r0, 0, none⟩) (show r0 < w1.heap.size by omega)).trans c0'
      have HHa := Lib.hid ((hb2.block r2 (show r2 < w1.heap.size by omega)).trans HH2.out)
      have HBa := Lib.hid (Raw.both (Raw.below HB1.out hb2) (Raw.below Hr.out.hb hb2))
      have HKa := Lib.hid (Hk.out.trans (Keep.of_below' (F := []) hb2) (fun f hf => by cases hf))
      clear hown hgrow hO hb2 c0' f0 f1
      go_wp2_with fail
      refine (numbers_any g _ b p w1.heap.size k k w.heap.size _ hbl hk6 HO.out).mono ?_
      rintro e w3 ⟨ok, p3, l, rfl, hk3, hO3, hll, hres⟩
      have hh3 := (hk3.block r2 (show r2 < w2.heap.size by omega) (by simp; omega)).trans HHa.out
      have HK3 := Lib.hid (HKa.out.trans hk3 (fun f hf => by simp at hf ⊢; omega))
      have HO3 := Lib.hid hO3
      have HB3 : Hid (Bytes [r2] w3 (.slice ba b.length bc) b) := Lib.hid (Raw.keep (Raw.both HBa.out HO.out.by') hk3 (fun f hf => .inl (by
        simp [Value.ownBlock] at hf ⊢
        omega)) (fun f hf => .inl (by simp at hf ⊢; omega)))
      have HH3 := Lib.hid hh3
      have Hll := Lib.hid hll
      clear hk3 hO3 hh3 hll
      rcases hres with ⟨rfl, hres⟩ | ⟨rfl, hres⟩
      · have Hy : Hid (IsL b at_ most l true p3) := Lib.hid (.inl ⟨rfl, by rw [HL.out, hres]⟩)
        have c2 := box_at HH3.out (j := 0) rfl
        have f2 := box_free HH3.out 0
        have hks : Keep [r2] w3 (w3.setCell ⟨r2, 0, none⟩ (.slice (some ⟨w1.heap.size, 0, none⟩) k k)) := (Keep.refl [r2] w3).setCell (by simp) _
        have hc := box_set (u := .slice (some ⟨w1.heap.size, 0, none⟩) k k) HH3.out
        have hrd := HO3.out.rd.keep hks (by simp; exact fun e => hr2 e.symm) HB3.out
        have hrow := own_keep HO3.out.row hks (fun r hr hm => by simp [Value.ownBlock] at hr hm; omega)
        have Hf := Lib.hid (And.intro hrd (And.intro (HK3.out.trans hks (fun f hf => .inl (by simp at hf ⊢; exact .inr hf))) (And.intro hc hrow)))
        clear hks hc hrd hrow hres
        go_wp2
        go_ret
        exact ⟨true, p3, rfl, Hf.out.1, Hf.out.2.1, _, l, Hf.out.2.2.1, Hf.out.2.2.2, Hy.out⟩
      · have Hy : Hid (IsL b at_ most [] false p3) := Lib.hid (.inr ⟨rfl, rfl, by rw [HL.out, hres]⟩)
        clear hres
        go_wp2
        go_ret
        exact ⟨false, p3, rfl, HO3.out.rd, HK3.out, _, [], HH3.out, World.ownsRow_nil _ _ _ _, Hy.out⟩
set_option maxHeartbeats 1000000 in
theorem wInts_any (g : Nat) (bv : Value) (b : List UInt8) (at_ : Nat) (fl : Bool) (most : Int) (hmost : most ≤ 1000000) (w : World) (h : RdAt 96 w g bv b at_ fl) (hbl : b.length ≤ 1000000) :
    Calls Tryz.prog 23 #[.pointer (some ⟨g, 0, none⟩), .int .i64 most] w (RetL 96 w g bv b (rL b most (at_, fl))) := by
  obtain ⟨W, hW⟩ : ∃ W, W = ((w.alloc (.cells #[.pointer (some ⟨g, 0, none⟩)] 62)).alloc (.cells #[.int .i64 most] 3)).alloc (.cells #[.slice none 0 0] 22) := ⟨_, rfl⟩
  have hb : Below w.heap.size w W := by
    rw [hW]
    exact (((Below.refl w.heap.size w).alloc (Nat.le_refl _) _).alloc (by simp) _).alloc (by simp; omega) _
  have hsz : W.heap.size = w.heap.size + 3 := by rw [hW]; simp
  have c0 : W.cell? ⟨w.heap.size, 0, none⟩ = some (.pointer (some ⟨g, 0, none⟩)) := by rw [hW]; go_simp
  have c1 : W.cell? ⟨w.heap.size + 1, 0, none⟩ = some (.int .i64 most) := by rw [hW]; go_simp
  have h3 : W.heap[w.heap.size + 2]? = some (.cells #[.slice none 0 0] 22 (0, 0)) := by
    rw [hW]
    have := heap_alloc_new ((w.alloc (.cells #[.pointer (some ⟨g, 0, none⟩)] 62)).alloc (.cells #[.int .i64 most] 3)) (.cells #[.slice none 0 0] 22)
    simpa using this
  have hlt := h.lt
  have H := Lib.hid (h.below hb)
  have hB1 : Bytes [w.heap.size + 2] W bv b := Raw.keep h.hb (Keep.of_below' (F := []) hb) (fun f hf => by cases hf) (fun f hf => by rw [List.mem_singleton.1 hf]; exact .inr (by omega))
  have Hw := Lib.hid h.hb
  have HB1 := Lib.hid hB1
  have Hb := Lib.hid hb
  have H3 := Lib.hid h3
  have Hsz := Lib.hid hsz
  clear hb hB1 h
  cases fl
  · have hcl := wintsC_any g w.heap.size (w.heap.size + 1) (w.heap.size + 2) bv b at_ most hmost _ H.out hbl c0 c1 (by omega) (by omega) h3 (by omega) HB1.out
    have htry := wtry_any g bv b at_ _ _ _ _ H.out (run_enter Tryz.func54 (by kernel_rfl) rfl _) hcl
    have Htry := Lib.hid htry; clear htry hcl c0 c1 h3 hsz
    go_enter Tryz.func23, Tryz.ntmps23
    go_wp2_with fail
    rw [← hW]
    refine Htry.out.mono ?_
    rintro e w1 ⟨⟨u, rfl⟩, ok, p, w2, ⟨hk, v, x, hn, hrow, hm⟩, hfin⟩
    clear hW
    have hrow0 : w2.ownsRow w.heap.size 3 1 v x.length (x.flatMap encT) := own_base hrow (by rw [Hsz.out]; omega)
    have hk1 : RdR 96 w g bv b (if ok then (p, false) else (at_, true)) w1 ∧ w1.heap[w.heap.size + 2]? = some (.cells #[v] 22 (0, 0)) ∧ w1.ownsRow w.heap.size 3 1 v x.length (x.flatMap encT) := by
      have hkw : Keep [g] w w2 := ((Keep.of_below' (F := [g, w.heap.size + 2]) Hb.out).trans hk (fun f hf => .inl hf)).mono (fun f hf => by simp at hf ⊢; omega)
      have hs2 : w.heap.size + 2 < w2.heap.size := by have := hk.size; rw [Hsz.out] at this; omega
      cases ok
      · obtain ⟨h1, h2⟩ := hfin
        have hk2 := hkw.trans h2 (fun f hf => .inl hf)
        exact ⟨⟨h1, hk2⟩, (h2.block _ hs2 (by simp; omega)).trans hn, own_keep hrow0 h2 (fun r hr hm => by have := (hrow.lt r hr).1; rw [List.mem_singleton.1 hm, Hsz.out] at this; omega)⟩
      · obtain ⟨rfl, h1⟩ := hfin
        exact ⟨⟨h1, hkw⟩, hn, hrow0⟩
    obtain ⟨hR, hn1, hrow1⟩ := hk1
    have hrr : ∀ r, v.ownBlock = some r → w.heap.size + 3 ≤ r := fun r hr => by have := (hrow.lt r hr).1; rw [Hsz.out] at this; exact this
    obtain ⟨va, vc, hve⟩ := own_slice hrow1
    subst hve
    have c1 := box_at hn1 (j := 0) rfl
    have f1 := box_free hn1 0
    have hks : Keep [w.heap.size + 2] w1 (w1.setCell ⟨w.heap.size + 2, 0, none⟩ (.slice va x.length vc)) := (Keep.refl [w.heap.size + 2] w1).setCell (by simp) _
    have hend : RdR 96 w g bv b (if ok then (p, false) else (at_, true)) (w1.setCell ⟨w.heap.size + 2, 0, none⟩ (.slice va x.length vc)) :=
      ⟨hR.1.keep hks (by simp; omega) (Raw.keep Hw.out hR.2 (fun f hf => .inl hf) (fun f hf => .inr (by simp at hf; omega))), (hR.2.trans hks (fun f hf => .inr (by simp at hf; omega)))⟩
    have hrow2 : (w1.setCell ⟨w.heap.size + 2, 0, none⟩ (.slice va x.length vc)).ownsRow w.heap.size 3 1 (.slice va x.length vc) x.length (x.flatMap encT) := own_keep hrow1 hks (fun r hr hm => by have := hrr r hr; rw [List.mem_singleton.1 hm] at this; omega)
    have hd := hm.done
    have Hend := Lib.hid hend
    have Hrow2 := Lib.hid hrow2
    have Hd := Lib.hid hd
    have Hn1 := Lib.hid (box_at (box_set (u := .slice va x.length vc) hn1) (j := 0) rfl)
    clear hk hn hm hfin hR hend hd hn1 hks hrow hrow0 hrow1 hrow2 hrr
    go_wp2
    refine bodyPost_ret (results_cell1 rfl _ rfl Tryz.underlying22 rfl Hn1.out) rfl ?_
    rw [Hd.out]
    exact ⟨_, rfl, Hrow2.out, Hend.out⟩
  · have hks : Keep [w.heap.size + 2] W (W.setCell ⟨w.heap.size + 2, 0, none⟩ (.slice none 0 0)) := (Keep.refl [w.heap.size + 2] W).setCell (by simp) _
    have Hend : Hid (RdR 96 w g bv b (at_, true) (W.setCell ⟨w.heap.size + 2, 0, none⟩ (.slice none 0 0))) := Lib.hid ⟨H.out.keep hks (by simp; omega) HB1.out, (Keep.of_below' Hb.out).trans hks (fun f hf => .inr (by simp at hf; omega))⟩
    have c3 : W.cell? ⟨w.heap.size + 1 + 1, 0, none⟩ = some (.slice none 0 0) := box_at h3 (j := 0) rfl
    have f3 : W.frozen? ⟨w.heap.size + 1 + 1, 0, none⟩ = false := box_free h3 0
    have Hn1 := Lib.hid (box_at (box_set (u := .slice none 0 0) h3) (j := 0) rfl)
    clear hks
    have Htry := Lib.hid (fun fn => wtry_failed g bv b at_ fn _ H.out)
    clear h3 hsz
    go_enter Tryz.func23, Tryz.ntmps23
    go_wp2_with fail
    rw [← hW]
    refine (Htry.out _).mono ?_
    rintro e w1 ⟨⟨v, rfl⟩, rfl⟩
    clear hW
    go_wp2
    refine bodyPost_ret (results_cell1 rfl _ rfl Tryz.underlying22 rfl Hn1.out) rfl ?_
    exact ⟨_, rfl, World.ownsRow_nil _ _ _ _, Hend.out⟩
end Go.Proofs.YthmnhpakgjnngaaGreatDoor
