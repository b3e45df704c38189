/- time: the program's Reader.Ints -/
import Derived.Test.YtdelemmoiaiooaaTe
namespace Go.Ti
open Go Go.RowKit Go.Bs Go.Cl Go.Rw Go.Wi
theorem make_zs (n : Nat) : (madeCells #[Value.int .i64 0] n).toList = (zs n).flatMap encT := by
  rw [flat_zs]
  apply List.ext_getElem
  · simp [size_madeCells]
  · intro i h1 h2
    simp [madeCells, Nat.mod_one]
/-- x, ok and the place p are what reading a list gives -/
def IsL (b : List UInt8) (at_ : Nat) (most : Int) (x : List Int) (ok : Bool) (p : Nat) : Prop := (ok = true ∧ rdL b at_ most = some (x, p)) ∨ (ok = false ∧ x = [] ∧ rdL b at_ most = none)
theorem IsL.done {b : List UInt8} {at_ p : Nat} {most : Int} {x : List Int} {ok : Bool} (h : IsL b at_ most x ok p) : rL b most (at_, false) = (x, if ok then (p, false) else (at_, true)) := by
  unfold rL
  rcases h with ⟨rfl, h⟩ | ⟨rfl, rfl, h⟩
  · simp [h]
  · simp [h]
theorem rdL_none {b : List UInt8} {at_ : Nat} {most : Int} (h : rdB b at_ 0 most = none) : rdL b at_ most = none := by unfold rdL; rw [h]
theorem rdL_some {b : List UInt8} {at_ m n : Nat} {most : Int} (h : rdB b at_ 0 most = some ((n : Int), m)) : rdL b at_ most = rdN b n (at_ + m) := by unfold rdL; rw [h]; simp
end Go.Ti
namespace Go.Proofs.Ytdelemmoiaiooaa
open Go.RowKit Go.Bs Go.Cl Go.Rw Go.Ti Go.Wi
set_option maxRecDepth 100000 in
set_option maxHeartbeats 2000000 in
/-- the closure of Ints -/
theorem wintsC_any (g r0 r1 r2 : Nat) (bv : Value) (b : List UInt8) (at_ : Nat) (most : Int) (hmost : most ≤ 1000000) (w : World) (h : RdAt 85 w g bv b at_ false) (hbl : b.length ≤ 1000000)
    (c0 : w.cell? ⟨r0, 0, none⟩ = some (.pointer (some ⟨g, 0, none⟩))) (c1 : w.cell? ⟨r1, 0, none⟩ = some (.int .i64 most)) (hr0 : r0 ≠ g) (hl0 : r0 < w.heap.size)
    (h2 : w.heap[r2]? = some (.cells #[.slice none 0 0] 22 (0, 0))) (hr2 : r2 ≠ g) (hb2 : Bytes [r2] w bv b) :
    Calls Try.prog 50 #[.pointer (some ⟨r0, 0, none⟩), .pointer (some ⟨r1, 0, none⟩), .pointer (some ⟨r2, 0, none⟩)] w fun e w1 => ∃ ok p, e = .returned (.bool ok) ∧ RdAt 85 w1 g bv b p false ∧
      (Keep [g, r2] w w1 ∧ ∃ v x, w1.heap[r2]? = some (.cells #[v] 22 (0, 0)) ∧ w1.ownsRow w.heap.size 3 1 v x.length (x.flatMap encT) ∧ IsL b at_ most x ok p) := by
  obtain ⟨ba, bc, rfl⟩ := Raw.slice h.hb
  have hl2 : r2 < w.heap.size := (Array.getElem?_eq_some_iff.1 h2).1
  have hgl := h.lt
  have H := Lib.hid h; clear h
  have H2 := Lib.hid h2; clear h2
  have HB2 := Lib.hid hb2; clear hb2
  go_enter Try.func50, Try.ntmps50
  go_wp2_with fail
  refine (wbounded_any g _ b at_ false 0 most _ H.out hbl).mono ?_
  rintro e w1 ⟨n, ok, p, rfl, hr, hk, hp, hm⟩
  have hh2 := (hk.block r2 hl2 (by simpa using hr2)).trans H2.out
  have HB1 := Lib.hid (Raw.keep (F' := [r2]) (Raw.both H.out.hb HB2.out) hk (fun f hf => .inl (by simp at hf ⊢; exact .inl hf)) (fun f hf => .inl (by simp at hf ⊢; exact .inr hf)))
  have hk1 := hk.mono (F' := [g, r2]) (fun f hf => .inl (by simp at hf ⊢; exact .inl hf))
  have f0 : w1.cell? ⟨g, 0, none⟩ = some (.slice ba b.length bc) := box_at hr.hc rfl
  have f1 : w1.cell? ⟨g, 1, none⟩ = some (.int .i64 p) := box_at hr.hc rfl
  have c0' : w1.cell? ⟨r0, 0, none⟩ = some (.pointer (some ⟨g, 0, none⟩)) := by
    rw [← c0]; simp only [World.cell?]; rw [hk.block r0 hl0 (by simpa using hr0)]
  have hpl := hr.ha
  have hs1 := hk.size
  have Hr := Lib.hid hr
  have Hk := Lib.hid hk1
  have HH2 := Lib.hid hh2
  clear hr hk hk1 hh2 c0
  cases hd : rdB b at_ 0 most with
  | none =>
    rw [hd] at hm
    simp only at hm
    subst hm
    have Hy : Hid (IsL b at_ most [] false p) := Lib.hid (.inr ⟨rfl, rfl, rdL_none hd⟩)
    clear hd
    go_wp2
    refine Txt.wp_txt (by kernel_rfl) (by kernel_rfl) ?_
    go_wp2
    refine Txt.DrawPost.mk0 (by rfl) ?_
    go_wp2
    go_ret
    exact ⟨false, p, rfl, Hr.out.drew, Hk.out.drew, _, [], HH2.out, World.ownsRow_nil _ _ _ _, Hy.out⟩
  | some q =>
    obtain ⟨y, m⟩ := q
    rw [hd] at hm
    obtain ⟨rfl, rfl, hpm⟩ := hm
    obtain ⟨hdi, hn0, hn1⟩ := rdB_some hd
    obtain ⟨k, rfl⟩ : ∃ k : Nat, n = k := ⟨n.toNat, by omega⟩
    have hL := rdL_some hd
    rw [← hpm] at hL
    have HL := Lib.hid hL
    clear hd hL hdi
    by_cases hsh : b.length < p + k
    · have hsh' : (b.length : Int) - p < k := by omega
      have Hy : Hid (IsL b at_ most [] false p) := Lib.hid (.inr ⟨rfl, rfl, by rw [HL.out]; exact rdN_short hpl hsh⟩)
      clear hpm hn0
      go_wp2
      refine Txt.wp_txt (by kernel_rfl) (by kernel_rfl) ?_
      go_wp2
      refine Txt.DrawPost.mk0 (by rfl) ?_
      go_wp2
      go_ret
      exact ⟨false, p, rfl, Hr.out.drew, Hk.out.drew, _, [], HH2.out, World.ownsRow_nil _ _ _ _, Hy.out⟩
    · have hsh' : (k : Int) ≤ (b.length : Int) - p := by omega
      have hk6 : k ≤ 1000000 := by omega
      clear hpm
      go_wp2
      refine Txt.wp_txt (by kernel_rfl) (by kernel_rfl) ?_
      go_wp2
      refine Txt.DrawPost.mk0 (by rfl) ?_
      go_wp2_with (refine wpList_make elI w.heap.size k rfl _ _ rfl rfl rfl rfl rfl ?c1 ?c2 (by simpa using hs1) ?_)
      case c1 => omega
      case c2 => unfold maxLen; omega
      intro w2 hown hgrow hsz
      have hb2 : Below w1.heap.size w1 w2 := ((Below.refl w1.heap.size w1).drew).grown hgrow (Nat.le_refl _) (fun k h => by cases h)
      rw [make_zs] at hown
      have hO : RdO encT 1 85 3 w2 w.heap.size g (.slice ba b.length bc) b (p, false) (.slice (some ⟨w1.heap.size, 0, none⟩) k k) (zs k) :=
        ⟨Hr.out.below hb2, by simpa [zs] using hown, fun f hf => by simp [Value.ownBlock] at hf; omega, Raw.keep Hr.out.hb (Keep.of_below' (F := []) hb2) (fun f hf => by cases hf) (fun f hf => .inr (by simp [Value.ownBlock] at hf; omega))⟩
      have HO := Lib.hid hO
      have c0'' : w2.cell? ⟨r0, 0, none⟩ = some (.pointer (some ⟨g, 0, none⟩)) := (hb2.cell (p := ⟨r0, 0, none⟩) (show r0 < w1.heap.size by omega)).trans c0'
      have HHa := Lib.hid ((hb2.block r2 (show r2 < w1.heap.size by omega)).trans HH2.out)
      have HBa := Lib.hid (Raw.both (Raw.below HB1.out hb2) (Raw.below Hr.out.hb hb2))
      have HKa := Lib.hid (Hk.out.trans (Keep.of_below' (F := []) hb2) (fun f hf => by cases hf))
      clear hown hgrow hO hb2 c0' f0 f1
      go_wp2_with fail
      refine (numbers_any g _ b p w1.heap.size k k w.heap.size _ hbl hk6 HO.out).mono ?_
      rintro e w3 ⟨ok, p3, l, rfl, hk3, hO3, hll, hres⟩
      have hh3 := (hk3.block r2 (show r2 < w2.heap.size by omega) (by simp; omega)).trans HHa.out
      have HK3 := Lib.hid (HKa.out.trans hk3 (fun f hf => by simp at hf ⊢; omega))
      have HO3 := Lib.hid hO3
      have HB3 : Hid (Bytes [r2] w3 (.slice ba b.length bc) b) := Lib.hid (Raw.keep (Raw.both HBa.out HO.out.by') hk3 (fun f hf => .inl (by
        simp [Value.ownBlock] at hf ⊢
        omega)) (fun f hf => .inl (by simp at hf ⊢; omega)))
      have HH3 := Lib.hid hh3
      have Hll := Lib.hid hll
      clear hk3 hO3 hh3 hll
      rcases hres with ⟨rfl, hres⟩ | ⟨rfl, hres⟩
      · have Hy : Hid (IsL b at_ most l true p3) := Lib.hid (.inl ⟨rfl, by rw [HL.out, hres]⟩)
        have c2 := box_at HH3.out (j := 0) rfl
        have f2 := box_free HH3.out 0
        have hks : Keep [r2] w3 (w3.setCell ⟨r2, 0, none⟩ (.slice (some ⟨w1.heap.size, 0, none⟩) k k)) := (Keep.refl [r2] w3).setCell (by simp) _
        have hc := box_set (u := .slice (some ⟨w1.heap.size, 0, none⟩) k k) HH3.out
        have hrd := HO3.out.rd.keep hks (by simp; exact fun e => hr2 e.symm) HB3.out
        have hrow := own_keep HO3.out.row hks (fun r hr hm => by simp [Value.ownBlock] at hr hm; omega)
        have Hf := Lib.hid (And.intro hrd (And.intro (HK3.out.trans hks (fun f hf => .inl (by simp at hf ⊢; exact .inr hf))) (And.intro hc hrow)))
        clear hks hc hrd hrow hres
        go_wp2
        go_ret
        exact ⟨true, p3, rfl, Hf.out.1, Hf.out.2.1, _, l, Hf.out.2.2.1, Hf.out.2.2.2, Hy.out⟩
      · have Hy : Hid (IsL b at_ most [] false p3) := Lib.hid (.inr ⟨rfl, rfl, by rw [HL.out, hres]⟩)
        clear hres
        go_wp2
        go_ret
        exact ⟨false, p3, rfl, HO3.out.rd, HK3.out, _, [], HH3.out, World.ownsRow_nil _ _ _ _, Hy.out⟩
end Go.Proofs.Ytdelemmoiaiooaa
