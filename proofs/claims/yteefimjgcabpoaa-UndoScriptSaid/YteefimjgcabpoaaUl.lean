/- Undo: Records -/
import Derived.Test.YteefimjgcabpoaaUk
namespace Go.Proofs.Yteefimjgcabpoaa
open Go.RowKit Go.Bs Go.Cl Go.Rw Go.Un

set_option maxRecDepth 100000 in
set_option maxHeartbeats 1000000 in
theorem records_any {base g : Nat} {iv rv : Value} {img : List UInt8} {rs : List (Rec × Value)} {o : Bool} (w : World) (h : LogAt w base g iv rv img rs o) (hrl : rs.length ≤ 1000) (hold : ∀ p ∈ rs, p.1.old.length ≤ 1000000) :
    Calls Try.prog 19 #[.pointer (some ⟨g, 0, none⟩)] w fun e w' => ∃ v, e = .returned v ∧ RecsO w' w.heap.size 65 v (rs.map (·.1)) ∧ Below w.heap.size w w' := by
  obtain ⟨ra, rc, rfl⟩ := h.hr.slice
  have c1 : w.cell? ⟨g, 1, none⟩ = some (.slice ra rs.length rc) := box_at h.hc rfl
  have H := Lib.hid h
  have Hold := Lib.hid hold; clear hold
  have hraw := RowF.raw (F := []) h.hr (encR_one h.hb) (fun f hf => by cases hf)
  have Hraw := Lib.hid hraw; clear hraw h
  go_enter Try.func19, Try.ntmps19
  go_wp2_with fail
  refine (clone37 _ (by omega) Hraw.out).mono ?_
  rintro e w1 ⟨v1, rfl, hown1, hb1⟩
  rcases own_cases hown1 with ⟨rfl, h0, _⟩ | ⟨gr, cap, rfl, hg1, hg2, hcap⟩
  · have hnil : rs = [] := List.eq_nil_of_length_eq_zero h0
    subst hnil
    clear hown1
    go_wp2
    refine wp_loop_once ?_
    go_wp2
    go_ret
    exact ⟨_, rfl, ⟨[], rfl, World.ownsRow_nil _ _ _ _, fun p h => by cases h⟩, hb1⟩
  · have Hby1 : Hid (∀ p ∈ rs, Bytes [gr] w1 p.2 p.1.old) := Lib.hid fun p hp => Raw.keep (H.out.hb p hp) (Keep.of_below' (F := []) hb1) (fun f hf => by cases hf) (fun f hf => by rw [List.mem_singleton.1 hf]; exact .inr hg1)
    have Hown1 := Lib.hid hown1; clear hown1
    go_wp2
    go_loopw [14] (fun i wr => ∃ k : Nat, k ≤ rs.length ∧ i = .int .i64 k ∧ (∃ ts : List (Rec × Value), ts.map (·.1) = rs.map (·.1) ∧ wr.ownsRow w.heap.size 65 3 (.slice (some ⟨gr, 0, none⟩) rs.length cap) rs.length (ts.flatMap encR) ∧ ∀ p ∈ ts, Bytes [gr] wr p.2 p.1.old) ∧ Below w.heap.size w wr) (fun i _ => rs.length - (intOf i).toNat)
    case atStart => exact ⟨0, Nat.zero_le _, rfl, ⟨rs, rfl, Hown1.out, Hby1.out⟩, hb1⟩
    case round =>
      obtain ⟨k, hk, rfl, ⟨ts, hts, hown, hby⟩, hbel⟩ := hrel
      have htl : ts.length = rs.length := by have := congrArg List.length hts; simpa using this
      by_cases hlt : k < rs.length
      · have hkt : k < ts.length := by omega
        have hget := recAt_get hkt
        have hm := List.mem_of_getElem? hget
        obtain ⟨qa, qc, hq⟩ := Raw.slice (hby _ hm)
        have hcell := own_cell hown rfl (flat_get encR encR_len ts k 2 _ hget (by omega))
        have hfz := own_frozen hown (k * 3 + 2)
        have hsz := hbel.size
        have hgw : gr < wr.heap.size := (hown.lt gr rfl).2
        have hoq : (recAt ts k).1.old.length ≤ 1000000 := by
          have : (recAt ts k).1 ∈ rs.map (·.1) := by rw [← hts]; exact List.mem_map.2 ⟨_, hm, rfl⟩
          obtain ⟨p, hp, he⟩ := List.mem_map.1 this
          rw [← he]; exact Hold.out p hp
        obtain ⟨q, hqq⟩ : ∃ q, q = recAt ts k := ⟨_, rfl⟩
        rw [← hqq] at hq hcell hoq hget hm
        have HQ := Lib.hid (hby _ hm)
        obtain ⟨⟨qo, ql, qb⟩, qv⟩ := q
        simp only at hq hoq
        subst hq
        have hcell' : wr.cell? ⟨gr, k * 3 + 2, none⟩ = some (.slice qa qb.length qc) := hcell
        have Hts := Lib.hid hts
        have Hown := Lib.hid hown
        have Hby := Lib.hid hby
        have Hget := Lib.hid hget
        have Htl := Lib.hid htl
        clear hts hown hby hget hqq hcell htl hm
        go_wp2_with fail
        refine (clone33 _ hoq HQ.out).mono ?_
        rintro e w2 ⟨v2, rfl, hown2, hb2⟩
        obtain ⟨a2, c2, rfl⟩ := own_slice hown2
        have hf2 := (hb2.frozen (p := ⟨gr, k * 3 + 2, none⟩) hgw).trans hfz
        have hc2 : w2.cell? ⟨gr, k * 3 + 2, none⟩ = some (.slice qa qb.length qc) := (hb2.cell (p := ⟨gr, k * 3 + 2, none⟩) hgw).trans hcell'
        have hown' := own_below Hown.out hb2 (Nat.le_refl _)
        have hset := own_set hown' (j := k * 3 + 2) (u := .slice a2 qb.length c2) (by rw [flat_length encR encR_len]; omega)
        rw [flat_set encR encR_len ts k 2 (⟨qo, ql, qb⟩, .slice qa qb.length qc) (⟨qo, ql, qb⟩, .slice a2 qb.length c2) _ Hget.out (by omega) rfl] at hset
        have hk3 : Keep [gr] w2 (w2.setCell ⟨gr, k * 3 + 2, none⟩ (.slice a2 qb.length c2)) := (Keep.refl [gr] w2).setCell (by simp) _
        have hnew : Bytes [gr] w2 (.slice a2 qb.length c2) qb := Bytes.row hown2 rfl (fun f hf => by rw [List.mem_singleton.1 hf]; exact hgw)
        have hfin : (∃ ts' : List (Rec × Value), ts'.map (·.1) = rs.map (·.1) ∧ (w2.setCell ⟨gr, k * 3 + 2, none⟩ (.slice a2 qb.length c2)).ownsRow w.heap.size 65 3 (.slice (some ⟨gr, 0, none⟩) rs.length cap) rs.length (ts'.flatMap encR) ∧ ∀ p ∈ ts', Bytes [gr] (w2.setCell ⟨gr, k * 3 + 2, none⟩ (.slice a2 qb.length c2)) p.2 p.1.old) := by
          refine ⟨_, ?_, hset, fun p hp => ?_⟩
          · rw [List.map_set, Hts.out]
            apply List.ext_getElem?
            intro i
            rw [List.getElem?_set]
            split
            · rename_i hi
              subst hi
              have h1 : (ts.map (·.1))[k]? = some ⟨qo, ql, qb⟩ := by rw [List.getElem?_map, Hget.out]; rfl
              rw [Hts.out] at h1
              rw [h1]; simp; omega
            · rfl
          · rcases List.mem_or_eq_of_mem_set hp with hp | hp
            · exact Raw.keep (Raw.below (Hby.out p hp) hb2) hk3 (fun f hf => .inl hf) (fun f hf => .inl hf)
            · rw [hp]; exact Raw.keep hnew hk3 (fun f hf => .inl hf) (fun f hf => .inl hf)
        have Hfin := Lib.hid hfin
        have hbel3 := (hbel.trans (hb2.mono hsz)).setCell (p := ⟨gr, k * 3 + 2, none⟩) hg1 (.slice a2 qb.length c2)
        clear hfin hset hk3 hnew hown' hown2
        go_wp2
        go_roundw
        case rel => exact ⟨k + 1, by omega, by go_num, Hfin.out, hbel3⟩
        case measure => simp [intOf]; omega
      · obtain rfl : k = rs.length := by omega
        have Hfin : Hid (RecsO wr w.heap.size 65 (.slice (some ⟨gr, 0, none⟩) rs.length cap) (rs.map (·.1))) := Lib.hid ⟨ts, hts, by rw [htl]; exact hown, hby⟩
        clear hts hown hby
        go_wp2
        go_ret
        exact ⟨_, rfl, Hfin.out, hbel⟩
end Go.Proofs.Yteefimjgcabpoaa
