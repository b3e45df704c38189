/- The wire's readers: the program's Read and End; the reference's begins -/
import Derived.Test.YteefimjgcabpoaaWg
namespace Go.Wi
open Go Go.RowKit Go.Bs Go.Cl Go.Rw
def rEnd (b : List UInt8) (s : Nat × Bool) : Int := if s.2 || decide (s.1 < b.length) then 4 else 0
/-- begins -/
def pre (x r : List UInt8) : Bool := decide (r.take x.length = x)
theorem pre_short {x r : List UInt8} (h : r.length < x.length) : pre x r = false := by
  unfold pre
  simp only [decide_eq_false_iff_not]
  intro e
  have := congrArg List.length e
  simp at this; omega
theorem pre_all {x b : List UInt8} {at_ : Nat} (hl : at_ + x.length ≤ b.length) (h : ∀ i (h1 : i < x.length) (h2 : at_ + i < b.length), b[at_ + i] = x[i]) : pre x (b.drop at_) = true := by
  unfold pre
  simp only [decide_eq_true_eq]
  apply List.ext_getElem
  · simp; omega
  · intro i h1 h2
    simp at h1 ⊢
    exact h i h2 (by omega)
theorem pre_diff {x b : List UInt8} {at_ i : Nat} (h1 : i < x.length) (h2 : at_ + i < b.length) (h : ¬ b[at_ + i] = x[i]) : pre x (b.drop at_) = false := by
  unfold pre
  simp only [decide_eq_false_iff_not]
  intro e
  apply h
  have : ((b.drop at_).take x.length)[i]? = x[i]? := by rw [e]
  simp [h1, h2] at this
  exact this
theorem pre_iff {x r : List UInt8} : pre x r = true ↔ ∃ t, r = x ++ t := by
  unfold pre
  simp only [decide_eq_true_eq]
  constructor
  · intro h; exact ⟨r.drop x.length, by conv => lhs; rw [← List.take_append_drop x.length r, h]⟩
  · rintro ⟨t, rfl⟩; simp
end Go.Wi
namespace Go.Proofs.Yteefimjgcabpoaa
open Go.RowKit Go.Bs Go.Cl Go.Rw Go.Wi
set_option maxHeartbeats 1000000 in
theorem wread_any (v : Value) (b : List UInt8) (w : World) (hB : Bytes [] w v b) (hbl : b.length ≤ 1000000) :
    Calls Try.prog 43 #[v] w fun e w' => ∃ g rv, e = .returned (.pointer (some ⟨g, 0, none⟩)) ∧ RdAt 93 w' g rv b 0 false ∧ w.heap.size ≤ g ∧ Below w.heap.size w w' := by
  obtain ⟨ba, bc, rfl⟩ := Raw.slice hB
  have hal := (Below.refl w.heap.size w).alloc (Nat.le_refl _) (.cells #[] 5)
  have Hemp := Lib.hid (own_empty w w.heap.size 5 1 (Nat.le_refl _))
  have HB1 := Lib.hid (Raw.below hB hal)
  go_enter Try.func43, Try.ntmps43
  go_wp2_with (at_builtin; refine wpList_app elB Try.underlying22 Hemp.out HB1.out hal rfl _ _ rfl rfl rfl ?c3 ?cB ?c5 ?_)
  case c3 => omega
  case cB => exact Nat.le_refl _
  case c5 => simp
  intro v2 w2 hown2 hb2 hg2 hs2
  have hrow : BRow 5 w2 w.heap.size v2 b := by show w2.ownsRow w.heap.size 5 1 v2 b.length (bytesV b); simpa using hown2
  obtain ⟨a2, c2, rfl⟩ := own_slice hrow
  have hal2 := (Below.refl w2.heap.size w2).alloc (Nat.le_refl _) (.cells #[.slice a2 b.length c2, .int .i64 0, .bool false] 93)
  have hby : Bytes [w2.heap.size] (w2.alloc (.cells #[.slice a2 b.length c2, .int .i64 0, .bool false] 93)) (.slice a2 b.length c2) b :=
    Raw.keep (BRow.bytes (F := []) hrow (fun f hf => by cases hf)) (Keep.of_below' (F := []) hal2) (fun f hf => by cases hf) (fun f hf => by rw [List.mem_singleton.1 hf]; exact .inr (Nat.le_refl _))
  have hrd : RdAt 93 (w2.alloc (.cells #[.slice a2 b.length c2, .int .i64 0, .bool false] 93)) w2.heap.size (.slice a2 b.length c2) b 0 false := ⟨heap_alloc_new w2 _, hby, Nat.zero_le _⟩
  have Hrd := Lib.hid hrd
  have hsz := hb2.size
  have hbel := hb2.trans (hal2.mono hsz)
  have Hbel := Lib.hid hbel
  clear hrow hown2 hg2 hal2 hby hrd hbel
  go_wp2
  go_ret
  exact ⟨w2.heap.size, _, rfl, Hrd.out, hsz, Hbel.out⟩
set_option maxHeartbeats 1000000 in
theorem wend_any (g : Nat) (bv : Value) (b : List UInt8) (at_ : Nat) (fl : Bool) (w : World) (h : RdAt 93 w g bv b at_ fl) (hbl : b.length ≤ 1000000) :
    Calls Try.prog 47 #[.pointer (some ⟨g, 0, none⟩)] w fun e w' => e = .returned (.int .i64 (rEnd b (at_, fl))) ∧ Below w.heap.size w w' := by
  obtain ⟨ba, bc, rfl⟩ := Raw.slice h.hb
  have c0 := box_at h.hc (j := 0) rfl
  have c1 := box_at h.hc (j := 1) rfl
  have c2 := box_at h.hc (j := 2) rfl
  have ha := h.ha
  clear h
  have hd := (Below.refl w.heap.size w).drew
  cases fl
  · by_cases hlt : at_ < b.length
    · have hlt' : (at_ : Int) < b.length := by omega
      have He : Hid (rEnd b (at_, false) = 4) := Lib.hid (by simp [rEnd, hlt])
      go_enter Try.func47, Try.ntmps47
      go_wp2
      refine Txt.wp_txt (by kernel_rfl) (by kernel_rfl) ?_
      go_wp2
      refine Txt.DrawPost.mk0 (by rfl) ?_
      go_wp2
      go_ret
      exact ⟨ret_int He.out.symm, hd⟩
    · have hlt' : (b.length : Int) ≤ at_ := by omega
      have He : Hid (rEnd b (at_, false) = 0) := Lib.hid (by simp [rEnd]; omega)
      go_enter Try.func47, Try.ntmps47
      go_wp2
      refine Txt.wp_txt (by kernel_rfl) (by kernel_rfl) ?_
      go_wp2
      refine Txt.DrawPost.mk0 (by rfl) ?_
      go_wp2
      go_ret
      exact ⟨ret_int He.out.symm, hd⟩
  · have He : Hid (rEnd b (at_, true) = 4) := Lib.hid (by simp [rEnd])
    go_enter Try.func47, Try.ntmps47
    go_wp2
    refine Txt.wp_txt (by kernel_rfl) (by kernel_rfl) ?_
    go_wp2
    refine Txt.DrawPost.mk0 (by rfl) ?_
    go_wp2
    go_ret
    exact ⟨ret_int He.out.symm, hd⟩
set_option maxHeartbeats 1000000 in
theorem rbegins_any (g : Nat) (bv xv : Value) (b x : List UInt8) (at_ : Nat) (fl : Bool) (w : World) (h : RdAt 86 w g bv b at_ fl) (hbl : b.length ≤ 1000000) (hX : Bytes [] w xv x) (hxl : x.length ≤ 1000000) :
    Calls Try.prog 69 #[.pointer (some ⟨g, 0, none⟩), xv] w fun e w' => e = .returned (.bool (pre x (b.drop at_))) ∧ Below w.heap.size w w' := by
  obtain ⟨ba, bc, rfl⟩ := Raw.slice h.hb
  obtain ⟨xa, xc, rfl⟩ := Raw.slice hX
  have ha := h.ha
  have H := Lib.hid h; clear h
  have HX := Lib.hid hX; clear hX
  have c0 : w.cell? ⟨g, 0, none⟩ = some (.slice ba b.length bc) := box_at H.out.hc rfl
  have c1 : w.cell? ⟨g, 1, none⟩ = some (.int .i64 at_) := box_at H.out.hc rfl
  by_cases hsh : b.length - at_ < x.length
  · have hsh' : (b.length : Int) - at_ < x.length := by omega
    have He := Lib.hid (pre_short (x := x) (r := b.drop at_) (by simp; omega))
    go_enter Try.func69, Try.ntmps69
    go_wp2
    refine Txt.wp_txt (by kernel_rfl) (by kernel_rfl) ?_
    go_wp2
    refine Txt.DrawPost.mk0 (by rfl) ?_
    go_wp2
    go_ret
    exact ⟨ret_bool He.out.symm, (Below.refl w.heap.size w).drew⟩
  have hsh' : (x.length : Int) ≤ (b.length : Int) - at_ := by omega
  go_enter Try.func69, Try.ntmps69
  go_wp2
  refine Txt.wp_txt (by kernel_rfl) (by kernel_rfl) ?_
  go_wp2
  refine Txt.DrawPost.mk0 (by rfl) ?_
  go_wp2
  go_loopw [5] (fun i wr => ∃ k : Nat, k ≤ x.length ∧ i = .int .i64 k ∧ (∀ j (h1 : j < x.length) (h2 : at_ + j < b.length), j < k → b[at_ + j] = x[j]) ∧ Below w.heap.size w wr) (fun i _ => x.length - (intOf i).toNat)
  case atStart => exact ⟨0, Nat.zero_le _, rfl, fun j _ _ h => absurd h (Nat.not_lt_zero _), (Below.refl w.heap.size w).drew⟩
  case round =>
    clear c0 c1
    obtain ⟨k, hk, rfl, hall, hbel⟩ := hrel
    have Hall := Lib.hid hall; clear hall
    have hr := H.out.below hbel
    by_cases hlt : k < x.length
    · have c0 : wr.cell? ⟨g, 0, none⟩ = some (.slice ba b.length bc) := box_at hr.hc rfl
      have c1 : wr.cell? ⟨g, 1, none⟩ = some (.int .i64 at_) := box_at hr.hc rfl
      have hab : at_ + k < b.length := by omega
      obtain ⟨q, off, c, hbe, hcb⟩ := hr.byte hab
      have hXr := Raw.below HX.out hbel
      rcases Raw.cases hXr with ⟨h0, _⟩ | ⟨_, q2, off2, c', hxe, _, _, _, _, hcx⟩
      · omega
      have hcx := hcx k (byteV x[k]) (by simp [bytesV, hlt])
      cases hbe; cases hxe
      obtain ⟨y, hy⟩ : ∃ y, b[at_ + k].toNat = y := ⟨_, rfl⟩
      obtain ⟨z, hz⟩ : ∃ z, x[k].toNat = z := ⟨_, rfl⟩
      unfold byteV at hcb hcx
      rw [hy] at hcb
      rw [hz] at hcx
      have hab' : (at_ : Int) + k < b.length := by omega
      have hak : ((at_ + k : Nat) : Int) = (at_ : Int) + k := by omega
      have hlt' : (k : Int) < x.length := by omega
      clear hr hXr
      by_cases heq : y = z
      · have hsame : b[at_ + k] = x[k] := UInt8.toNat_inj.1 (by rw [hy, hz, heq])
        have hall' : ∀ j (h1 : j < x.length) (h2 : at_ + j < b.length), j < k + 1 → b[at_ + j] = x[j] := fun j h1 h2 hj => by
          by_cases e : j = k
          · subst e; exact hsame
          · exact Hall.out j h1 h2 (by omega)
        have Hall' := Lib.hid hall'
        clear hsame hall' hy hz
        subst heq
        go_wp2
        refine Txt.wp_txt (by kernel_rfl) (by kernel_rfl) ?_
        go_wp2
        refine Txt.DrawPost.mk0 (by rfl) ?_
        go_wp2
        go_roundw
        case rel => exact ⟨k + 1, hlt, by go_num, Hall'.out, hbel.drew⟩
        case measure => simp [intOf]; omega
      · have hne : ¬ b[at_ + k] = x[k] := fun e => heq (by rw [← hy, ← hz, e])
        have He := Lib.hid (pre_diff hlt hab hne)
        have hyz : ((y : Int) != z) = true := by simp; omega
        clear hne hy hz
        go_wp2
        refine Txt.wp_txt (by kernel_rfl) (by kernel_rfl) ?_
        go_wp2
        refine Txt.DrawPost.mk0 (by rfl) ?_
        go_wp2
        go_ret
        exact ⟨ret_bool He.out.symm, hbel.drew⟩
    · obtain rfl : k = x.length := by omega
      have He := Lib.hid (pre_all (x := x) (b := b) (at_ := at_) (by omega) (fun i h1 h2 => Hall.out i h1 h2 h1))
      go_wp2
      go_ret
      exact ⟨ret_bool He.out.symm, hbel⟩
end Go.Proofs.Yteefimjgcabpoaa
