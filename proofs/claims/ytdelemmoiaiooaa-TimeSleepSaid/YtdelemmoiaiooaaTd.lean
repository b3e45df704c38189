/- time: both encoders of a list of numbers -/
import Derived.Test.YtdelemmoiaiooaaM2
import Derived.Test.YtdelemmoiaiooaaTc
import Derived.Deep.CutRange
import Derived.WalkMore
namespace Go.Ti
open Go Go.RowKit Go.Bs Go.Cl Go.Rw Go.Wi
def encIs (l : List Int) : List UInt8 := encI l.length ++ l.flatMap encI
theorem encIs_flat : ∀ {l : List Int}, (∀ x ∈ l, Wi.fits x) → (l.flatMap encI).length ≤ 10 * l.length
  | [], _ => by simp
  | x :: l, h => by
    have h1 := encI_len (h x (by simp))
    have h2 := encIs_flat (l := l) (fun y hy => h y (by simp [hy]))
    rw [List.flatMap_cons, List.length_append, List.length_cons]; omega
theorem take_ints {l : List Int} {k : Nat} (h : k < l.length) : (l.take (k + 1)).flatMap encI = (l.take k).flatMap encI ++ encI (at_ l k) := by
  rw [List.take_add_one, at_get h]; simp
theorem encIs_len {l : List Int} (hf : ∀ x ∈ l, Wi.fits x) (hl : l.length ≤ 1000) : (encIs l).length ≤ 10010 := by
  unfold encIs
  have h1 := encIs_flat hf
  have h2 := encI_len (n := (l.length : Int)) (by unfold Wi.fits; omega)
  rw [List.length_append]; omega
theorem brow_nil (e : Nat) (w : World) (base : Nat) : BRow e w base (.slice none 0 0) [] := World.ownsRow_nil _ _ _ _
theorem brow_app {e m : Nat} {w : World} {base : Nat} {v : Value} {l1 l2 : List UInt8} (hm : m = l2.length) (h : w.ownsRow base e 1 v (l1.length + m) (bytesV l1 ++ bytesV l2)) : BRow e w base v (l1 ++ l2) := by
  subst hm
  show w.ownsRow base e 1 v (l1 ++ l2).length (bytesV (l1 ++ l2))
  rw [List.length_append, bytesV_append]; exact h
def RetB (l : List UInt8) (w : World) (e : Ending) (w' : World) : Prop := ∃ v, e = .returned v ∧ BRow 5 w' w.heap.size v l ∧ Below w.heap.size w w'
end Go.Ti
namespace Go.Proofs.Ytdelemmoiaiooaa
open Go.RowKit Go.Bs Go.Cl Go.Rw Go.Ti Go.Wi
set_option maxRecDepth 100000 in
set_option maxHeartbeats 4000000 in
theorem ints_any (v : Value) (l : List Int) (w : World) (hl : l.length ≤ 1000) (h : SlT w v l) (hf : ∀ x ∈ l, Wi.fits x) :
    Calls Try.prog 33 #[.slice none 0 0, v] w (RetB (encIs l) w) := by
  obtain ⟨a, cap, rfl⟩ := Raw.slice h
  have H := Lib.hid h; clear h
  have HF := Lib.hid hf; clear hf
  have hfl : Wi.fits (l.length : Int) := by unfold Wi.fits; omega
  have Hfl := Lib.hid hfl; clear hfl
  go_enter Try.func33, Try.ntmps33
  go_wp2_with fail
  refine (wint_any _ [] (l.length : Int) w.heap.size _ Hfl.out (by simp) (World.ownsRow_nil _ _ _ _) (Nat.le_refl _)).mono ?_
  rintro e w2 ⟨v2, rfl, hg2⟩
  have hbel2 := hg2.below (brow_nil _ _ _) (Nat.le_refl _) (Nat.le_refl _) (Below.refl _ _)
  have HR2 := Lib.hid hg2.row
  clear hg2
  go_wp2
  go_loopw [0, 13] (fun bv i wr => ∃ k : Nat, k ≤ l.length ∧ i = .int .i64 k ∧ BRow 5 wr w.heap.size bv (encI l.length ++ (l.take k).flatMap encI) ∧ Below w.heap.size w wr) (fun _ i _ => l.length - (intOf i).toNat)
  case atStart => exact ⟨0, Nat.zero_le _, rfl, by simpa using HR2.out, hbel2⟩
  case round =>
    obtain ⟨k, hk, rfl, hrow, hbel⟩ := hrel
    have hsz := hbel.size
    have hfk := encIs_flat (l := l.take k) (fun x hx => HF.out x (List.mem_of_mem_take hx))
    have hel := encI_len Hfl.out
    have hacc : (encI l.length ++ (l.take k).flatMap encI).length ≤ 900000 := by
      rw [List.length_append]
      have : (l.take k).length ≤ l.length := by simp; omega
      omega
    obtain ⟨acc, hac⟩ : ∃ acc, encI l.length ++ (l.take k).flatMap encI = acc := ⟨_, rfl⟩
    rw [hac] at hrow hacc
    have Hac := Lib.hid hac; clear hac
    obtain ⟨ra, rc, rfl⟩ := own_slice hrow
    have HR := Lib.hid hrow
    clear hrow hfk hel
    by_cases hlt : k < l.length
    · obtain ⟨b, off, rfl, hb, h0⟩ := (H.out.below hbel).elem hlt
      have htf := take_ints hlt
      have hfz := HF.out _ (List.mem_of_getElem? (at_get hlt))
      obtain ⟨z, hz⟩ : ∃ z, at_ l k = z := ⟨_, rfl⟩
      rw [hz] at h0 htf hfz
      have Htf := Lib.hid htf; have Hfz := Lib.hid hfz; clear htf hfz hz
      go_wp2_with fail
      refine (wint_any _ acc z w.heap.size _ Hfz.out (by omega) HR.out hbel.size).mono ?_
      rintro e w4 ⟨v4, rfl, hg4⟩
      have hbel4 := hg4.below HR.out (Nat.le_refl _) hbel.size hbel
      have hrow4 : BRow 5 w4 w.heap.size v4 (encI l.length ++ (l.take (k + 1)).flatMap encI) := by
        rw [Htf.out, ← List.append_assoc, Hac.out]; exact hg4.row
      have HR4 := Lib.hid hrow4
      clear hg4 hrow4 h0
      go_wp2
      go_roundw
      case rel => exact ⟨k + 1, hlt, by go_num, HR4.out, hbel4⟩
      case measure => simp [intOf]; omega
    · obtain rfl : k = l.length := by omega
      rw [List.take_length] at Hac
      go_wp2
      go_ret
      unfold encIs
      rw [Hac.out]
      exact ⟨_, rfl, HR.out, hbel⟩
set_option maxRecDepth 100000 in
set_option maxHeartbeats 4000000 in
theorem rints_any (v : Value) (l : List Int) (w : World) (hl : l.length ≤ 1000) (h : SlT w v l) (hf : ∀ x ∈ l, Wi.fits x) :
    Calls Try.prog 26 #[v] w (RetB (encIs l) w) := by
  obtain ⟨a, cap, rfl⟩ := Raw.slice h
  have H := Lib.hid h; clear h
  have HF := Lib.hid hf; clear hf
  have hfl : Wi.fits (l.length : Int) := by unfold Wi.fits; omega
  have Hfl := Lib.hid hfl; clear hfl
  go_enter Try.func26, Try.ntmps26
  go_wp2_with fail
  refine (rint_any (l.length : Int) _ Hfl.out).mono ?_
  rintro e w2 ⟨v2, rfl, hr2, hbel2⟩
  have HR2 := Lib.hid hr2
  clear hr2
  go_wp2
  go_loopw [3, 4] (fun bv i wr => ∃ k : Nat, k ≤ l.length ∧ i = .int .i64 k ∧ BRow 5 wr w.heap.size bv (encI l.length ++ (l.take k).flatMap encI) ∧ Below w.heap.size w wr) (fun _ i _ => l.length - (intOf i).toNat)
  case atStart => exact ⟨0, Nat.zero_le _, rfl, by simpa using HR2.out, hbel2⟩
  case round =>
    obtain ⟨k, hk, rfl, hrow, hbel⟩ := hrel
    have hsz := hbel.size
    have hfk := encIs_flat (l := l.take k) (fun x hx => HF.out x (List.mem_of_mem_take hx))
    have hel := encI_len Hfl.out
    have hacc : (encI l.length ++ (l.take k).flatMap encI).length ≤ 900000 := by
      rw [List.length_append]
      have : (l.take k).length ≤ l.length := by simp; omega
      omega
    obtain ⟨acc, hac⟩ : ∃ acc, encI l.length ++ (l.take k).flatMap encI = acc := ⟨_, rfl⟩
    rw [hac] at hrow hacc
    have Hac := Lib.hid hac; clear hac
    obtain ⟨ra, rc, rfl⟩ := own_slice hrow
    have HR := Lib.hid hrow
    clear hrow hfk hel
    by_cases hlt : k < l.length
    · obtain ⟨b, off, rfl, hb, h0⟩ := (H.out.below hbel).elem hlt
      have htf := take_ints hlt
      have hfz := HF.out _ (List.mem_of_getElem? (at_get hlt))
      obtain ⟨z, hz⟩ : ∃ z, at_ l k = z := ⟨_, rfl⟩
      rw [hz] at h0 htf hfz
      have Htf := Lib.hid htf; have Hfz := Lib.hid hfz; clear htf hfz hz
      go_wp2_with fail
      refine (rint_any z _ Hfz.out).mono ?_
      rintro e w5 ⟨v5, rfl, hr5, hb5⟩
      have hbel5 := hbel.trans (hb5.mono hbel.size)
      have HR5 := Lib.hid (BRow.below HR.out hb5)
      have HX5 := Lib.hid (BRow.bytes (F := []) hr5 (fun f hf => by cases hf))
      obtain ⟨a5, c5', rfl⟩ := own_slice hr5
      have hl5 : (encI z).length ≤ 120 := by have := encI_len Hfz.out; omega
      have Hl5 := Lib.hid hl5
      clear hr5 hb5 hl5 h0
      go_wp2_with (at_builtin; refine wpList_appF elB Try.underlying26 HR5.out HX5.out hbel5 rfl _ _ rfl rfl rfl ?c3 ?cB ?c5 ?_)
      case c3 => have := Hl5.out; omega
      case cB => exact Nat.le_refl _
      case c5 => exact hbel5.size
      intro v6 w6 hown6 hbel6 hk6 hn6
      have hrow6 := brow_app rfl hown6
      clear hown6 hk6 hn6
      have hrow6' : BRow 5 w6 w.heap.size v6 (encI l.length ++ (l.take (k + 1)).flatMap encI) := by
        rw [Htf.out, ← List.append_assoc, Hac.out]; exact hrow6
      have HR6 := Lib.hid hrow6'
      clear hrow6 hrow6'
      go_wp2
      go_roundw
      case rel => exact ⟨k + 1, hlt, by go_num, HR6.out, hbel6⟩
      case measure => simp [intOf]; omega
    · obtain rfl : k = l.length := by omega
      rw [List.take_length] at Hac
      go_wp2
      go_ret
      unfold encIs
      rw [Hac.out]
      exact ⟨_, rfl, HR.out, hbel⟩
end Go.Proofs.Ytdelemmoiaiooaa
