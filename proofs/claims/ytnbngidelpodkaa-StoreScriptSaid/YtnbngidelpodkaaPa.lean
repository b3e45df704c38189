/- Store: plain facts: working images. No program in sight. -/
import Derived.Test.YtnbngidelpodkaaKb
namespace Go.Im
open Go Go.RowKit Go.Bs Go.Cl Go.Rw Go.Un
theorem takeAll_snoc (b : List UInt8) (l : List Rec) (r : Rec) : takeAll b (l ++ [r]) = takeAll (takeR b r) l := by simp [takeAll]
/-- r takes the image b' back to b -/
def Undoes (r : Rec) (b' b : List UInt8) : Prop := r.ok = true ∧ takeR b' r = b
theorem undoes_write {img : List UInt8} {m : Nat} {d : List UInt8} (hl : img.length ≤ 24000) (h : m + d.length ≤ img.length) :
    Undoes ⟨m, img.length, (img.take (m + d.length)).drop m⟩ (Un.written img m d) img := by
  have hold : ((img.take (m + d.length)).drop m).length = d.length := by simp; omega
  have hok : (⟨m, img.length, (img.take (m + d.length)).drop m⟩ : Rec).ok = true := by rw [Rec.ok_iff]; simp only [hold]; omega
  refine ⟨hok, List.ext_getElem? fun p => ?_⟩
  show (Un.written (sized (Un.written img m d) (img.length : Int).toNat) (m : Int).toNat _)[p]? = _
  rw [Int.toNat_natCast, Int.toNat_natCast, written_get (by rw [sized_len, hold]; omega), sized_get, hold]
  by_cases h1 : m ≤ p ∧ p < m + d.length
  · rw [if_pos h1, List.getElem?_drop, List.getElem?_take, if_pos (by omega)]
    congr 1; omega
  · rw [if_neg h1]
    by_cases h2 : img.length ≤ p
    · rw [if_pos h2, List.getElem?_eq_none h2]
    · rw [if_neg h2, written_get h, if_neg h1]
      rw [List.getElem?_eq_getElem (by omega)]
      rfl
theorem undoes_resize {img : List UInt8} {n : Nat} (hl : img.length ≤ 24000) : Undoes ⟨((min n img.length : Nat) : Int), img.length, img.drop (min n img.length)⟩ (sized img n) img := by
  have hold : (img.drop (min n img.length)).length = img.length - min n img.length := by simp
  have hok : (⟨((min n img.length : Nat) : Int), img.length, img.drop (min n img.length)⟩ : Rec).ok = true := by rw [Rec.ok_iff]; simp only [hold]; omega
  refine ⟨hok, List.ext_getElem? fun p => ?_⟩
  show (Un.written (sized (sized img n) (img.length : Int).toNat) ((min n img.length : Nat) : Int).toNat _)[p]? = _
  rw [Int.toNat_natCast, Int.toNat_natCast, written_get (by rw [sized_len, hold]; omega), sized_get, hold, sized_get]
  by_cases h1 : min n img.length ≤ p ∧ p < min n img.length + (img.length - min n img.length)
  · rw [if_pos h1, List.getElem?_drop]
    congr 1; omega
  · rw [if_neg h1]
    by_cases h2 : img.length ≤ p
    · rw [if_pos h2, List.getElem?_eq_none h2]
    · rw [if_neg h2, if_neg (by omega), List.getElem?_eq_getElem (by omega)]
      rfl
/-- is a resizing the first step? -/
def rzb (a b : List UInt8) : Bool := decide (b.length ≠ a.length)
def rzn (a b : List UInt8) : Nat := if b.length ≠ a.length then 1 else 0
/-- the number of steps -/
def tot (a b : List UInt8) : Nat := (dif a b).length + rzn a b
def wrAll (x : List UInt8) (l : List (Nat × List UInt8)) : List UInt8 := l.foldl (fun x c => Un.written x (c.1 * 128) c.2) x
/-- the working image after k steps -/
def wk (a b : List UInt8) (k : Nat) : List UInt8 := if k < rzn a b then a else wrAll (sized a b.length) ((dif a b).take (k - rzn a b))
theorem sized_same (a : List UInt8) : sized a a.length = a := by simp [sized]
theorem wk_zero (a b : List UInt8) : wk a b 0 = a := by
  unfold wk rzn
  by_cases h : b.length ≠ a.length
  · rw [if_pos h, if_pos (by omega)]
  · have h' : b.length = a.length := by omega
    rw [if_neg h, if_neg (by omega)]
    simp [wrAll, h', sized_same]
theorem dif_mem {a b : List UInt8} {c : Nat × List UInt8} (h : c ∈ dif a b) : c.1 < cnt b.length ∧ c.2 = pg b c.1 := by
  unfold dif difK at h
  simp only [List.mem_map, List.mem_filter, List.mem_range] at h
  obtain ⟨i, ⟨h1, _⟩, rfl⟩ := h
  exact ⟨h1, rfl⟩
theorem dif_fit {a b : List UInt8} {c : Nat × List UInt8} (h : c ∈ dif a b) : c.1 * 128 + c.2.length ≤ b.length := by
  obtain ⟨h1, h2⟩ := dif_mem h
  rw [h2, pg_len]
  exact (sz_pos h1).2
theorem dif_len (a b : List UInt8) : (dif a b).length ≤ cnt b.length := difK_len a b _
theorem wrAll_len {l : List (Nat × List UInt8)} : ∀ {x : List UInt8}, (∀ c ∈ l, c.1 * 128 + c.2.length ≤ x.length) → (wrAll x l).length = x.length := by
  induction l with
  | nil => intro x _; rfl
  | cons c l ih =>
    intro x h
    have h0 := written_len (h c (by simp))
    show (wrAll (Un.written x (c.1 * 128) c.2) l).length = _
    rw [ih (fun d hd => by rw [h0]; exact h d (by simp [hd])), h0]
theorem wk_len (a b : List UInt8) (k : Nat) : (wk a b k).length = if k < rzn a b then a.length else b.length := by
  unfold wk
  split
  · rfl
  · rw [wrAll_len (fun c hc => by rw [sized_len]; exact dif_fit (List.mem_of_mem_take hc)), sized_len]
theorem wk_le {a b : List UInt8} (ha : a.length ≤ 24000) (hb : b.length ≤ 24000) (k : Nat) : (wk a b k).length ≤ 24000 := by rw [wk_len]; split <;> assumption
/-- the first step, where it is a resizing -/
theorem wk_one {a b : List UInt8} (h : rzb a b = true) : wk a b 1 = sized (wk a b 0) b.length := by
  have h' : b.length ≠ a.length := by simpa [rzb] using h
  have e : rzn a b = 1 := by rw [rzn, if_pos h']
  rw [wk_zero]
  unfold wk
  rw [e, if_neg (by omega)]
  simp [wrAll]
theorem rzn_of {a b : List UInt8} : rzn a b = (rzb a b).toNat := by
  unfold rzn rzb
  by_cases h : b.length ≠ a.length <;> simp [h]
/-- a step that writes a page -/
theorem wk_step {a b : List UInt8} {k : Nat} (h : rzn a b ≤ k) {c : Nat × List UInt8} (hc : (dif a b)[k - rzn a b]? = some c) : wk a b (k + 1) = Un.written (wk a b k) (c.1 * 128) c.2 ∧ c.1 * 128 + c.2.length ≤ (wk a b k).length := by
  have hm := List.mem_of_getElem? hc
  refine ⟨?_, by rw [wk_len, if_neg (by omega)]; exact dif_fit hm⟩
  unfold wk
  rw [if_neg (by omega), if_neg (by omega), show k + 1 - rzn a b = (k - rzn a b) + 1 by omega, List.take_add_one, hc]
  simp [wrAll]
theorem pg_get (b : List UInt8) (k q : Nat) : (pg b k)[q]? = if q < 128 then b[k * 128 + q]? else none := by
  unfold pg
  rw [List.getElem?_take]
  split
  · rw [List.getElem?_drop]
  · rfl
theorem pg_ext {x y : List UInt8} (h : ∀ k, pg x k = pg y k) : x = y := by
  refine List.ext_getElem? fun p => ?_
  have := congrArg (fun l => l[p % 128]?) (h (p / 128))
  simp only [pg_get, if_pos (Nat.mod_lt p (show 0 < 128 by omega))] at this
  rw [show p / 128 * 128 + p % 128 = p by omega] at this
  exact this
theorem wrAll_snoc (x : List UInt8) (l : List (Nat × List UInt8)) (c : Nat × List UInt8) : wrAll x (l ++ [c]) = Un.written (wrAll x l) (c.1 * 128) c.2 := by simp [wrAll]
/-- a page after some of the first n pages' changes were written -/
theorem wrAll_pg {a b x : List UInt8} (hx : x.length = b.length) (m i : Nat) : ∀ n, n ≤ cnt b.length → pg (wrAll x ((difK a b n).take m)) i = if i < n ∧ pg a i ≠ pg b i ∧ (difK a b i).length < m then pg b i else pg x i
  | 0, _ => by simp [difK, wrAll]
  | n + 1, hn => by
    have ih := wrAll_pg (a := a) hx m i n (by omega)
    rw [difK_succ]
    by_cases hd : pg a n = pg b n
    · rw [if_pos hd, ih]
      by_cases hin : i = n
      · subst hin
        rw [if_neg (by omega), if_neg (by simp [hd])]
      · congr 1
        simp only [show i < n ↔ i < n + 1 by omega]
    · rw [if_neg hd]
      by_cases hm : m ≤ (difK a b n).length
      · rw [List.take_append_of_le_length hm, ih]
        by_cases hin : i = n
        · subst hin
          rw [if_neg (by omega), if_neg (by omega)]
        · congr 1
          simp only [show i < n ↔ i < n + 1 by omega]
      · have ht : (difK a b n ++ [(n, pg b n)]).take m = difK a b n ++ [(n, pg b n)] := List.take_of_length_le (by simp; omega)
        rw [ht, wrAll_snoc]
        have ht2 : (difK a b n).take m = difK a b n := List.take_of_length_le (by omega)
        rw [ht2] at ih
        have hfit : ∀ c ∈ difK a b n, c.1 * 128 + c.2.length ≤ b.length := fun c hc => by
          unfold difK at hc
          simp only [List.mem_map, List.mem_filter, List.mem_range] at hc
          obtain ⟨j, ⟨h1, _⟩, rfl⟩ := hc
          show j * 128 + (pg b j).length ≤ b.length
          rw [pg_len]; exact (sz_pos (by omega)).2
        have hwl : (wrAll x (difK a b n)).length = b.length := by rw [wrAll_len (fun c hc => by rw [hx]; exact hfit c hc), hx]
        have hpl := pg_len b n
        have hsp := sz_pos (show n < cnt b.length by omega)
        have hfit2 : n * 128 + (pg b n).length ≤ (wrAll x (difK a b n)).length := by rw [hwl, hpl]; exact hsp.2
        refine List.ext_getElem? fun q => ?_
        rw [pg_get]
        by_cases hq : q < 128
        · rw [if_pos hq]
          show (Un.written (wrAll x (difK a b n)) (n * 128) (pg b n))[i * 128 + q]? = _
          rw [written_get hfit2]
          by_cases hin : i = n
          · subst hin
            rw [if_pos (show i < i + 1 ∧ pg a i ≠ pg b i ∧ (difK a b i).length < m from ⟨by omega, hd, by omega⟩)]
            by_cases hqs : q < (pg b i).length
            · rw [if_pos (by omega), Nat.add_sub_cancel_left]
            · rw [if_neg (by omega), List.getElem?_eq_none (show (pg b i).length ≤ q by omega)]
              apply List.getElem?_eq_none
              rw [hwl]
              rw [hpl] at hqs
              unfold sz at hqs
              omega
          · have hne : ¬ (n * 128 ≤ i * 128 + q ∧ i * 128 + q < n * 128 + (pg b n).length) := by
              have : (pg b n).length ≤ 128 := by rw [hpl]; unfold sz; omega
              omega
            rw [if_neg hne]
            have := congrArg (fun l => l[q]?) ih
            simp only [pg_get, if_pos hq] at this
            rw [this]
            simp only [show i < n ↔ i < n + 1 by omega]
        · rw [if_neg hq]
          symm
          apply List.getElem?_eq_none
          split
          · rw [pg_len]; unfold sz; omega
          · rw [pg_len]; unfold sz; omega
theorem pg_sized {a b : List UInt8} {i : Nat} (hi : i < cnt b.length) (h : sz a.length i = sz b.length i) : pg (sized a b.length) i = pg a i := by
  refine List.ext_getElem? fun q => ?_
  rw [pg_get, pg_get]
  split
  · rename_i hq
    rw [sized_get]
    have hp := sz_pos hi
    by_cases hlt : i * 128 + q < a.length
    · have : ¬ b.length ≤ i * 128 + q := by unfold sz at h; omega
      rw [if_neg this, List.getElem?_eq_getElem hlt]; rfl
    · have : b.length ≤ i * 128 + q := by unfold sz at h; unfold sz at hp; omega
      rw [if_pos this, List.getElem?_eq_none (by omega)]
  · rfl
theorem pg_none {b : List UInt8} {i : Nat} (h : cnt b.length ≤ i) : pg b i = [] := List.eq_nil_of_length_eq_zero (by rw [pg_len]; exact sz_zero.2 h)
/-- a page of the working image -/
theorem wk_pg {a b : List UInt8} {k i : Nat} (hk : rzn a b ≤ k) (hi : i < cnt b.length) :
    (pg a i = pg b i → pg (wk a b k) i = pg b i) ∧
    (pg a i ≠ pg b i → (difK a b i).length + 1 + rzn a b ≤ k → pg (wk a b k) i = pg b i) ∧
    (pg a i ≠ pg b i → k < (difK a b i).length + 1 + rzn a b → (pg a i).length = (pg b i).length → pg (wk a b k) i = pg a i) := by
  have e : wk a b k = wrAll (sized a b.length) ((difK a b (cnt b.length)).take (k - rzn a b)) := by unfold wk dif; rw [if_neg (by omega)]
  have h := wrAll_pg (a := a) (b := b) (x := sized a b.length) (sized_len a b.length) (k - rzn a b) i (cnt b.length) (Nat.le_refl _)
  rw [e, h]
  refine ⟨fun h1 => ?_, fun h1 h2 => ?_, fun h1 h2 h3 => ?_⟩
  · rw [if_neg (by simp [h1]), pg_sized hi (by rw [← pg_len, ← pg_len, h1]), h1]
  · rw [if_pos ⟨hi, h1, by omega⟩]
  · rw [if_neg (by omega), pg_sized hi (by rw [← pg_len, ← pg_len, h3])]
/-- all steps -/
theorem wk_all (a b : List UInt8) : wk a b (tot a b) = b := by
  have hk : rzn a b ≤ tot a b := by unfold tot; omega
  refine pg_ext fun i => ?_
  by_cases hi : i < cnt b.length
  · obtain ⟨h1, h2, _⟩ := wk_pg hk hi
    by_cases hd : pg a i = pg b i
    · exact h1 hd
    · refine h2 hd ?_
      have hmono : ∀ n m, n ≤ m → (difK a b n).length ≤ (difK a b m).length := fun n m hnm => by
        induction m with
        | zero => obtain rfl : n = 0 := by omega
                  exact Nat.le_refl _
        | succ m ih =>
          by_cases e : n = m + 1
          · subst e; exact Nat.le_refl _
          · refine Nat.le_trans (ih (by omega)) ?_
            rw [difK_succ]; split <;> simp
      have h3 := hmono (i + 1) (cnt b.length) hi
      rw [difK_succ, if_neg hd, List.length_append] at h3
      unfold tot dif
      simp at h3
      omega
  · have hl : (wk a b (tot a b)).length = b.length := by rw [wk_len, if_neg (by omega)]
    have hi' : cnt b.length ≤ i := by omega
    rw [pg_none (b := b) hi', pg_none (b := wk a b (tot a b)) (by rw [hl]; exact hi')]
theorem tot_le (a b : List UInt8) : tot a b ≤ cnt b.length + 1 := by unfold tot rzn; have := dif_len a b; split <;> omega
theorem tot_zero {a b : List UInt8} : tot a b = 0 ↔ a = b := by
  constructor
  · intro h
    have := wk_all a b
    rw [h, wk_zero] at this
    exact this
  · rintro rfl
    unfold tot rzn dif difK
    simp
end Go.Im
