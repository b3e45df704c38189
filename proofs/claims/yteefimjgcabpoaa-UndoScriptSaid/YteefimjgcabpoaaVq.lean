/- Undo: the reference's model: Write and Resize -/
import Derived.Test.YteefimjgcabpoaaVp
namespace Go.Un
open Go Go.RowKit Go.Bs Go.Cl Go.Rw
def wrM (m : Md) (z : (List UInt8 × Rec) × Int) : Md × Int := if z.2 = 0 then (⟨z.1.1, m.past ++ [m.img], m.rs ++ [z.1.2], true⟩, 0) else (m, z.2)
theorem nxt_rsz {m : Md} {n : Int} {d : List UInt8} (hf : m.fin = true) : nxt m 2 n d = wrM m (rsz m.img n) := by
  by_cases h1 : n < 0
  · simp [nxt, wrM, rsz, hf, h1]
  · by_cases h2 : 24000 < n
    · simp [nxt, wrM, rsz, hf, h1, h2]
    · simp [nxt, wrM, rsz, hf, h1, h2]
theorem nxt_rwr {m : Md} {n : Int} {d : List UInt8} (hf : m.fin = true) : nxt m 1 n d = wrM m (rwr m.img n d) := by
  by_cases h1 : n < 0 ∨ (m.img.length : Int) < n ∨ (m.img.length : Int) - n < d.length
  · simp only [nxt, wrM, rwr, hf]; simp [h1]
  · simp only [nxt, wrM, rwr, hf]; simp [h1]
variable {F : List Nat} {w u y : World} {g q n a2n : Nat} {iv pv rv ov v v2 : Value} {img img' : List UInt8} {past : List (List UInt8)} {rs : List Rec} {r : Rec} {pvs : List (List UInt8 × Value)} {rvs : List (Rec × Value)}
theorem Mid.old {W : World} {m : Md} (h : Mid F w W g iv pv rv m r ov v img') {k n : Nat} {x : Value} {xs : List Value} (hr : Raw F k w x n xs) : Raw (g :: B3 w ++ F) k W x n xs :=
  hr.keep (G := []) (Keep.of_below' h.bel) (fun f hf => by cases hf) (fun f hf => by
    have hgg := h.hg
    simp only [B3, List.cons_append, List.nil_append, List.mem_cons] at hf
    rcases hf with rfl | rfl | rfl | hf
    · exact .inr (by omega)
    · exact .inr (Nat.le_refl _)
    · exact .inr (by omega)
    · exact .inl hf)
theorem rel18 (hM2 : Mid F w y g iv pv rv ⟨img, past, rs, true⟩ r ov v img') (hM : Mid F w u g iv pv rv ⟨img, past, rs, true⟩ r ov v img') (hown : y.ownsRow q 22 1 v2 (pvs.length + 1) (pvs.map (·.2) ++ [iv])) (hqb : u.heap.size ≤ q)
    (hlt : ∀ f ∈ g :: B3 w ++ F, f < u.heap.size) (h3 : pvs.map (·.1) = past) (h4 : ∀ p ∈ pvs, Bytes (g :: B3 w ++ F) u p.2 p.1) (hb : Below u.heap.size u y) :
    ∃ pv2, Mid F w (y.setCell ⟨w.heap.size, 1, none⟩ v2) g iv pv2 rv ⟨img, past ++ [img], rs, true⟩ r ov v img' := by
  refine ⟨v2, hM2.put (iv2 := iv) (pv2 := v2) (rv2 := rv) rfl ⟨hM2.md.img, ⟨pvs ++ [(img, iv)], ?_, by simp [h3], fun p hp => ?_⟩, hM2.md.recs⟩⟩
  · have := Raw.of_own (F := g :: B3 w ++ F) hown (fun x hx => by
      rcases List.mem_append.1 hx with hx | hx
      · obtain ⟨p, hp, rfl⟩ := List.mem_map.1 hx
        obtain ⟨a, c, e⟩ := Raw.slice (h4 p hp)
        rw [e]; rfl
      · rw [List.mem_singleton.1 hx]
        obtain ⟨a, c, e⟩ := Raw.slice hM2.md.img
        rw [e]; rfl) (fun f hf => Nat.lt_of_lt_of_le (hlt f hf) hqb)
    simpa using this
  · rcases List.mem_append.1 hp with hp | hp
    · exact Raw.below (h4 p hp) hb
    · rw [List.mem_singleton.1 hp]; exact hM2.md.img
theorem rel19 (hM2 : Mid F w y g iv pv rv ⟨img, past, rs, true⟩ r ov v img') (hM : Mid F w u g iv pv rv ⟨img, past, rs, true⟩ r ov v img') (hown : y.ownsRow q 66 3 v2 (rvs.length + 1) (rvs.flatMap encR ++ [.int .i64 r.off, .int .i64 r.len, ov])) (hqb : u.heap.size ≤ q)
    (hlt : ∀ f ∈ g :: B3 w ++ F, f < u.heap.size) (h5 : (∀ p ∈ rvs, Bytes (g :: B3 w ++ F) u p.2 p.1.old) ∧ rvs.map (·.1) = rs) (hb : Below u.heap.size u y) :
    ∃ rv2, Mid F w (y.setCell ⟨w.heap.size, 2, none⟩ v2) g iv pv rv2 ⟨img, past, rs ++ [r], true⟩ r ov v img' := by
  have hbs : ∀ p ∈ rvs ++ [(r, ov)], Bytes (g :: B3 w ++ F) y p.2 p.1.old := fun p hp => by
    rcases List.mem_append.1 hp with hp | hp
    · exact Raw.below (h5.1 p hp) hb
    · rw [List.mem_singleton.1 hp]; exact hM2.hov
  refine ⟨v2, hM2.put (iv2 := iv) (pv2 := pv) (rv2 := v2) rfl ⟨hM2.md.img, hM2.md.past, rvs ++ [(r, ov)], ⟨?_, hbs⟩, by simp [h5.2]⟩⟩
  have e : rvs.flatMap encR ++ [.int .i64 r.off, .int .i64 r.len, ov] = (rvs ++ [(r, ov)]).flatMap encR := by simp [encR]
  rw [e] at hown
  have := Raw.of_own (F := g :: B3 w ++ F) hown (encR_one hbs) (fun f hf => Nat.lt_of_lt_of_le (hlt f hf) hqb)
  simpa using this
end Go.Un
namespace Go.Proofs.Yteefimjgcabpoaa
open Go.RowKit Go.Bs Go.Cl Go.Rw Go.Un
set_option maxRecDepth 100000 in
set_option maxHeartbeats 8000000 in
theorem next_resize {F : List Nat} (iv pv rv dv : Value) (m : Md) (n : Int) (d : List UInt8) (w : World) (hF : ∀ f ∈ F, f < w.heap.size) (hil : m.img.length ≤ 24000) (hpl : m.past.length ≤ 1000) (hrl : m.rs.length ≤ 1000) (hdl : d.length ≤ 1000000) (hn1 : -9223372036854775808 ≤ n) (hn2 : n ≤ 9223372036854775807) (hf : m.fin = true) (h : MdAt F w iv pv rv m) (hd : Bytes [] w dv d) :
    Calls Try.prog 20 #[.agg #[iv, pv, rv, .bool m.fin], .agg #[.int .i64 2, .int .i64 n, dv]] w (NX F w (nxt m 2 n d)) := by
  rw [nxt_rsz hf]
  obtain ⟨img, past, rs, fin⟩ := m
  simp only at hf hil hpl hrl
  subst hf
  have h' := h
  obtain ⟨h1, ⟨pvs, h2, h3, h4⟩, rvs, h5, h6⟩ := h'
  simp only at h1 h3 h6
  have hpv : pvs.length ≤ 1000 := by rw [← h3, List.length_map] at hpl; exact hpl
  have hrv : rvs.length ≤ 1000 := by rw [← h6, List.length_map] at hrl; exact hrl
  obtain ⟨ia, ic, rfl⟩ := Raw.slice h1
  obtain ⟨pa, pc, rfl⟩ := Raw.slice h2
  obtain ⟨ra, rc, rfl⟩ := Raw.slice h5.1
  obtain ⟨da, dc, rfl⟩ := Raw.slice hd
  have H := Lib.hid h
  have HF := Lib.hid hF
  have H20 := Lib.hid h2; have H30 := Lib.hid h3; have H40 := Lib.hid h4; have H50 := Lib.hid h5; have H60 := Lib.hid h6
  have bel3 := below_alloc3 w (.cells #[.slice ia img.length ic, .slice pa pvs.length pc, .slice ra rvs.length rc, .bool true] 48) (.cells #[.int .i64 2, .int .i64 n, .slice da d.length dc] 41) (.cells #[.slice none 0 0, .slice none 0 0, .slice none 0 0, .bool false] 48)
  have hsz3 : w.heap.size + 1 + 1 < (((w.alloc (.cells #[.slice ia img.length ic, .slice pa pvs.length pc, .slice ra rvs.length rc, .bool true] 48)).alloc (.cells #[.int .i64 2, .int .i64 n, .slice da d.length dc] 41)).alloc (.cells #[.slice none 0 0, .slice none 0 0, .slice none 0 0, .bool false] 48)).heap.size := by simp
  have HA := Lib.hid (heap_alloc3_0 w (.cells #[.slice ia img.length ic, .slice pa pvs.length pc, .slice ra rvs.length rc, .bool true] 48) (.cells #[.int .i64 2, .int .i64 n, .slice da d.length dc] 41) (.cells #[.slice none 0 0, .slice none 0 0, .slice none 0 0, .bool false] 48))
  have HB := Lib.hid (heap_alloc3_1 w (.cells #[.slice ia img.length ic, .slice pa pvs.length pc, .slice ra rvs.length rc, .bool true] 48) (.cells #[.int .i64 2, .int .i64 n, .slice da d.length dc] 41) (.cells #[.slice none 0 0, .slice none 0 0, .slice none 0 0, .bool false] 48))
  have HC := Lib.hid (heap_alloc3 w (.cells #[.slice ia img.length ic, .slice pa pvs.length pc, .slice ra rvs.length rc, .bool true] 48) (.cells #[.int .i64 2, .int .i64 n, .slice da d.length dc] 41) (.cells #[.slice none 0 0, .slice none 0 0, .slice none 0 0, .bool false] 48))
  have HI := Lib.hid (Raw.below (Raw.to_nil h1) bel3)
  have HD := Lib.hid (Raw.below hd bel3)
  obtain ⟨z, hz⟩ : ∃ z, z = rsz img n := ⟨_, rfl⟩
  rw [← hz]
  have HZ := Lib.hid hz
  clear hz h h1 h2 h3 h4 h5 h6 hd hF hpl hrl
  obtain ⟨⟨img', r⟩, er⟩ := z
  go_enter Try.func20, Try.ntmps20
  go_wp2_with fail
  obtain ⟨u3, hu3⟩ : ∃ u3, u3 = (((w.alloc (.cells #[.slice ia img.length ic, .slice pa pvs.length pc, .slice ra rvs.length rc, .bool true] 48)).alloc (.cells #[.int .i64 2, .int .i64 n, .slice da d.length dc] 41)).alloc (.cells #[.slice none 0 0, .slice none 0 0, .slice none 0 0, .bool false] 48)) := ⟨_, rfl⟩
  rw [← hu3] at bel3 hsz3 HA HB HC HI HD ⊢
  clear hu3
  have st := rresize_any _ img n u3 hil hn1 hn2 HI.out
  rw [← HZ.out] at st
  refine st.mono ?_
  rintro e w4 ⟨v, ov, rfl, hv, hov, hb4⟩
  have hM := Mid.start (r := r) H.out HF.out bel3 hsz3 HA.out HC.out hb4 hv hov
  obtain ⟨va, vc, rfl⟩ := Raw.slice hv
  obtain ⟨oa, oc, rfl⟩ := Raw.slice hov
  simp only
  have HM := Lib.hid hM
  have al := hb4.trans (((Below.refl w4.heap.size w4).alloc (Nat.le_refl _) (.cells #[.int .i64 r.off, .int .i64 r.len, .slice oa r.old.length oc] 66)).mono hb4.size)
  have b5 := box_at ((al.block _ (by omega)).trans HB.out) (j := 0) rfl
  clear al hM hv hov hb4 HA HB HC HI HD H HZ bel3 hsz3
  go_upto_region 16 with (fail)
  obtain ⟨g, hg⟩ : ∃ g, g = w4.heap.size := ⟨_, rfl⟩
  obtain ⟨W, hW⟩ : ∃ W, W = w4.alloc (.cells #[.int .i64 r.off, .int .i64 r.len, .slice oa r.old.length oc] 66) := ⟨_, rfl⟩
  rw [← hg, ← hW] at HM
  rw [← hg, ← hW]
  clear hg hW b5
  have b0 := box_at HM.out.box (j := 0) rfl
  have b1 := box_at HM.out.box (j := 1) rfl
  have b2 := box_at HM.out.box (j := 2) rfl
  have b3 := box_at HM.out.box (j := 3) rfl
  have q0 := box_at HM.out.res (j := 0) rfl
  have q1 := box_at HM.out.res (j := 1) rfl
  have q2 := box_at HM.out.res (j := 2) rfl
  have q3 := box_at HM.out.res (j := 3) rfl
  have t0 := box_free HM.out.res 0
  have t1 := box_free HM.out.res 1
  have t2 := box_free HM.out.res 2
  have t3 := box_free HM.out.res 3
  by_cases hz : er = 0
  · subst hz
    have e1 : wrM ⟨img, past, rs, true⟩ ((img', r), 0) = (⟨img', past ++ [img], rs ++ [r], true⟩, 0) := rfl
    have E1 := Lib.hid e1; clear e1
    clear b0 b1 b2 b3 q0 q1 q2 q3 t0 t1 t2 t3
    go_wp2
    go_cut [] from 62 to 70 (fun wx => ∃ pv2, Mid F w wx g (.slice ia img.length ic) pv2 (.slice ra rvs.length rc) ⟨img, past ++ [img], rs, true⟩ r (.slice oa r.old.length oc) (.slice va img'.length vc) img')
    case first =>
      have hBl : ∀ b ∈ [w.heap.size], ∃ c e f, W.heap[b]? = some (.cells c e f) := fun b hb => by rw [List.mem_singleton.1 hb]; exact ⟨_, _, _, HM.out.box⟩
      have hS := same_start hBl
      have hM := HM.out.below (Below.refl W.heap.size W).drew
      have hbz : ∀ b ∈ [w.heap.size], b < W.drew.heap.size := fun b hb => by rw [List.mem_singleton.1 hb]; exact (Array.getElem?_eq_some_iff.1 hM.box).1
      refine Txt.Ty.wp_tree [w.heap.size] [2, 5] [9] [2, 5] [1, 2, 4, 5] (.alt [0] (.alt [3] (.alt [6] (.alt [7, 8] (.alt [9] (.done) (.no)) (.no)) (.no)) (.alt [6] (.alt [3] (.alt [7, 8] (.alt [9] (.done) (.no)) (.no)) (.no)) (.no))) (.alt [6] (.alt [0] (.alt [3] (.alt [7, 8] (.alt [9] (.done) (.no)) (.no)) (.no)) (.no)) (.no))) (by kernel_rfl) (by kernel_rfl) (by kernel_rfl) (by kernel_rfl) hBl ?_
      obtain ⟨u, hu⟩ : ∃ u, u = W.drew := ⟨_, rfl⟩
      rw [← hu] at hS hM hbz ⊢
      have HMu := Lib.hid hM
      have HSu := Lib.hid hS
      have HBl := Lib.hid hbz
      have HBu := Lib.hid (Below.refl u.heap.size u)
      have H3 := H30
      have H4 : Hid (∀ p ∈ pvs, Bytes (g :: B3 w ++ F) u p.2 p.1) := Lib.hid fun p hp => hM.old (H40.out p hp)
      have HPu := Lib.hid (Raw.to_nil (hM.old H20.out))
      have b0 := box_at hM.box (j := 0) rfl
      have b1 := box_at hM.box (j := 1) rfl
      clear hu hS hM hbz hBl HM
      have HM := HMu
      (try simp only [Txt.pick, List.getElem?_cons_succ, List.getElem?_cons_zero])
      go_wp2
      refine Txt.RunPost.mk ?_
      refine Txt.Ty.wpTr_alt ?_ ?_
      · (try simp only [Txt.pick, List.getElem?_cons_succ, List.getElem?_cons_zero])
        go_wp2
        obtain ⟨q, hq⟩ : ∃ q, q = u.heap.size := ⟨_, rfl⟩
        obtain ⟨y1, hny1⟩ : ∃ x, x = u.alloc (.cells #[] 22) := ⟨_, rfl⟩
        have al : Below u.heap.size u y1 := hny1 ▸ (Below.refl _ _).alloc (Nat.le_refl _) _
        have HOy1 : Hid (y1.ownsRow q 22 1 (.slice (some ⟨q, 0, none⟩) 0 0) 0 []) := Lib.hid (by rw [hny1, hq]; exact own_empty u u.heap.size 22 1 (Nat.le_refl _))
        have HPy1 := Lib.hid (Raw.below HPu.out al)
        have hqs : q < y1.heap.size := by rw [hq, hny1]; simp
        have hqb : u.heap.size ≤ q := by have := HBu.out.size; omega
        have HBy1 := Lib.hid (HBu.out.trans (al.mono HBu.out.size))
        have HSy1 := Lib.hid (same_below' HSu.out al)
        rw [← hq, ← hny1]
        clear al hny1 hq
        refine Txt.SegPost.mk (Txt.Ty.Shown.same HSy1.out) ?_
        refine Txt.RunPost.mk ?_
        refine Txt.Ty.wpTr_alt ?_ ?_
        · (try simp only [Txt.pick, List.getElem?_cons_succ, List.getElem?_cons_zero])
          go_wp2_with (at_builtin; refine wpList_app el46 Try.underlying46 HOy1.out HPy1.out HBy1.out rfl _ _ rfl rfl rfl ?c3 hqb ?c5 ?_)
          case c3 => omega
          case c5 => omega
          intro v1 y2 hown hbel hg hsz
          have HOy2 : Hid (y2.ownsRow q 22 1 v1 (pvs.length) (pvs.map (·.2))) := Lib.hid (by simpa using hown)
          have HSy2 := Lib.hid (same_keep HSy1.out (Keep.of_grown (F := [q]) hg (fun f hf => by simp [Value.ownBlock] at hf; exact .inl (by simp; omega))) (fun b hb hm => by have := HBl.out b hb; rw [List.mem_singleton.1 hm] at this; omega))
          have HBy2 := Lib.hid hbel
          have hqs : q < y2.heap.size := Nat.lt_of_lt_of_le hqs hsz
          obtain ⟨a1, c1, rfl⟩ := own_slice HOy2.out
          clear hown hbel hg hsz
          try simp only [Nat.zero_add]
          go_wp2
          refine Txt.SegPost.mk (Txt.Ty.Shown.same HSy2.out) ?_
          refine Txt.RunPost.mk ?_
          refine Txt.Ty.wpTr_alt ?_ Txt.Ty.wpTr_no
          (try simp only [Txt.pick, List.getElem?_cons_succ, List.getElem?_cons_zero])
          go_wp2
          obtain ⟨x, hx⟩ : ∃ q, q = y2.heap.size := ⟨_, rfl⟩
          obtain ⟨y3, hny3⟩ : ∃ x, x = y2.alloc (.cells (#[.slice ia img.length ic]) 22) := ⟨_, rfl⟩
          have al : Below y2.heap.size y2 y3 := hny3 ▸ (Below.refl _ _).alloc (Nat.le_refl _) _
          have HXy3 : Hid (Raw [q] 1 y3 (.slice (some ⟨x, 0, none⟩) 1 1) 1 ([.slice ia img.length ic])) := Lib.hid (Raw.of_block (ys := [.slice ia img.length ic]) (by rw [hny3, hx]; exact heap_alloc_new y2 _) (by simp; omega) (by intro z hz; simp at hz; (try rcases hz with rfl | rfl | rfl) <;> (try subst hz) <;> rfl) rfl (Nat.le_refl _) (by unfold maxLen; omega))
          have HOy3 := Lib.hid (own_below HOy2.out al (Nat.le_refl _))
          have hqs : q < y3.heap.size := Nat.lt_of_lt_of_le hqs al.size
          have HBy3 := Lib.hid (HBy2.out.trans (al.mono HBy2.out.size))
          have HSy3 := Lib.hid (same_below' HSy2.out al)
          rw [← hx, ← hny3]
          clear al hny3 hx
          refine Txt.SegPost.mk (Txt.Ty.Shown.same HSy3.out) ?_
          refine Txt.RunPost.mk ?_
          refine Txt.Ty.wpTr_alt ?_ Txt.Ty.wpTr_no
          (try simp only [Txt.pick, List.getElem?_cons_succ, List.getElem?_cons_zero])
          go_wp2_with (at_builtin; refine wpList_app el46 Try.underlying46 HOy3.out HXy3.out HBy3.out rfl _ _ rfl rfl rfl ?c3 hqb ?c5 ?_)
          case c3 => omega
          case c5 => omega
          intro v2 y4 hown hbel hg hsz
          have HOy4 := Lib.hid hown
          have HBy4 := Lib.hid hbel
          have HSy4 := Lib.hid (same_below' (w1 := u) HSu.out hbel)
          have hM := HM.out.below hbel
          have HM2 := Lib.hid hM
          have ec := box_at hM.box (j := 1) rfl
          have ef := box_free hM.box 1
          obtain ⟨a2, c2, rfl⟩ := own_slice HOy4.out
          clear hown hbel hg hsz hM
          go_wp2
          refine Txt.SegPost.mk (Txt.Ty.Shown.same HSy4.out) ?_
          (try simp only [Txt.pick, List.getElem?_cons_succ, List.getElem?_cons_zero])
          go_wp2
          refine Txt.RunPost.mk ?_
          refine Txt.Ty.wpTr_alt ?_ Txt.Ty.wpTr_no
          (try simp only [Txt.pick, List.getElem?_cons_succ, List.getElem?_cons_zero])
          go_wp2
          refine Txt.SegPost.mk (Txt.Ty.Shown.last rfl) ?_
          (try simp only [Txt.pick, List.getElem?_cons_succ, List.getElem?_cons_zero])
          try go_wp2
          refine Txt.RunPost.mk ?_
          refine Txt.Ty.wpTr_done (by rfl) ⟨.head _, .head _, trivial⟩ ?_
          go_wp2
          go_meet
          case rel => exact rel18 HM2.out HM.out HOy4.out hqb (HM.out.lt HF.out) H3.out H4.out HBy4.out
        · refine Txt.Ty.wpTr_alt ?_ Txt.Ty.wpTr_no
          (try simp only [Txt.pick, List.getElem?_cons_succ, List.getElem?_cons_zero])
          go_wp2
          obtain ⟨x, hx⟩ : ∃ q, q = y1.heap.size := ⟨_, rfl⟩
          obtain ⟨y2, hny2⟩ : ∃ x, x = y1.alloc (.cells (#[.slice ia img.length ic]) 22) := ⟨_, rfl⟩
          have al : Below y1.heap.size y1 y2 := hny2 ▸ (Below.refl _ _).alloc (Nat.le_refl _) _
          have HXy2 : Hid (Raw [q] 1 y2 (.slice (some ⟨x, 0, none⟩) 1 1) 1 ([.slice ia img.length ic])) := Lib.hid (Raw.of_block (ys := [.slice ia img.length ic]) (by rw [hny2, hx]; exact heap_alloc_new y1 _) (by simp; omega) (by intro z hz; simp at hz; (try rcases hz with rfl | rfl | rfl) <;> (try subst hz) <;> rfl) rfl (Nat.le_refl _) (by unfold maxLen; omega))
          have HPy2 := Lib.hid (Raw.below HPy1.out al)
          have HOy2 := Lib.hid (own_below HOy1.out al (Nat.le_refl _))
          have hqs : q < y2.heap.size := Nat.lt_of_lt_of_le hqs al.size
          have HBy2 := Lib.hid (HBy1.out.trans (al.mono HBy1.out.size))
          have HSy2 := Lib.hid (same_below' HSy1.out al)
          rw [← hx, ← hny2]
          clear al hny2 hx
          refine Txt.SegPost.mk (Txt.Ty.Shown.same HSy2.out) ?_
          refine Txt.RunPost.mk ?_
          refine Txt.Ty.wpTr_alt ?_ Txt.Ty.wpTr_no
          (try simp only [Txt.pick, List.getElem?_cons_succ, List.getElem?_cons_zero])
          go_wp2_with (at_builtin; refine wpList_app el46 Try.underlying46 HOy2.out HPy2.out HBy2.out rfl _ _ rfl rfl rfl ?c3 hqb ?c5 ?_)
          case c3 => omega
          case c5 => omega
          intro v1 y3 hown hbel hg hsz
          have HOy3 : Hid (y3.ownsRow q 22 1 v1 (pvs.length) (pvs.map (·.2))) := Lib.hid (by simpa using hown)
          have HXy3 := Lib.hid (Raw.keep (F' := []) HXy2.out (Keep.of_grown (F := [q]) hg (fun f hf => by simp [Value.ownBlock] at hf; exact .inl (by simp; omega))) (fun f hf => .inl hf) (fun f hf => by cases hf))
          have HSy3 := Lib.hid (same_keep HSy2.out (Keep.of_grown (F := [q]) hg (fun f hf => by simp [Value.ownBlock] at hf; exact .inl (by simp; omega))) (fun b hb hm => by have := HBl.out b hb; rw [List.mem_singleton.1 hm] at this; omega))
          have HBy3 := Lib.hid hbel
          have hqs : q < y3.heap.size := Nat.lt_of_lt_of_le hqs hsz
          obtain ⟨a1, c1, rfl⟩ := own_slice HOy3.out
          clear hown hbel hg hsz
          try simp only [Nat.zero_add]
          go_wp2
          refine Txt.SegPost.mk (Txt.Ty.Shown.same HSy3.out) ?_
          refine Txt.RunPost.mk ?_
          refine Txt.Ty.wpTr_alt ?_ Txt.Ty.wpTr_no
          (try simp only [Txt.pick, List.getElem?_cons_succ, List.getElem?_cons_zero])
          go_wp2_with (at_builtin; refine wpList_app el46 Try.underlying46 HOy3.out HXy3.out HBy3.out rfl _ _ rfl rfl rfl ?c3 hqb ?c5 ?_)
          case c3 => omega
          case c5 => omega
          intro v2 y4 hown hbel hg hsz
          have HOy4 := Lib.hid hown
          have HBy4 := Lib.hid hbel
          have HSy4 := Lib.hid (same_below' (w1 := u) HSu.out hbel)
          have hM := HM.out.below hbel
          have HM2 := Lib.hid hM
          have ec := box_at hM.box (j := 1) rfl
          have ef := box_free hM.box 1
          obtain ⟨a2, c2, rfl⟩ := own_slice HOy4.out
          clear hown hbel hg hsz hM
          go_wp2
          refine Txt.SegPost.mk (Txt.Ty.Shown.same HSy4.out) ?_
          (try simp only [Txt.pick, List.getElem?_cons_succ, List.getElem?_cons_zero])
          go_wp2
          refine Txt.RunPost.mk ?_
          refine Txt.Ty.wpTr_alt ?_ Txt.Ty.wpTr_no
          (try simp only [Txt.pick, List.getElem?_cons_succ, List.getElem?_cons_zero])
          go_wp2
          refine Txt.SegPost.mk (Txt.Ty.Shown.last rfl) ?_
          (try simp only [Txt.pick, List.getElem?_cons_succ, List.getElem?_cons_zero])
          try go_wp2
          refine Txt.RunPost.mk ?_
          refine Txt.Ty.wpTr_done (by rfl) ⟨.head _, .head _, trivial⟩ ?_
          go_wp2
          go_meet
          case rel => exact rel18 HM2.out HM.out HOy4.out hqb (HM.out.lt HF.out) H3.out H4.out HBy4.out
      · refine Txt.Ty.wpTr_alt ?_ Txt.Ty.wpTr_no
        (try simp only [Txt.pick, List.getElem?_cons_succ, List.getElem?_cons_zero])
        go_wp2
        obtain ⟨x, hx⟩ : ∃ q, q = u.heap.size := ⟨_, rfl⟩
        obtain ⟨y1, hny1⟩ : ∃ x, x = u.alloc (.cells (#[.slice ia img.length ic]) 22) := ⟨_, rfl⟩
        have al : Below u.heap.size u y1 := hny1 ▸ (Below.refl _ _).alloc (Nat.le_refl _) _
        have HXy1 : Hid (Raw [] 1 y1 (.slice (some ⟨x, 0, none⟩) 1 1) 1 ([.slice ia img.length ic])) := Lib.hid (Raw.of_block (ys := [.slice ia img.length ic]) (by rw [hny1, hx]; exact heap_alloc_new u _) (by simp) (by intro z hz; simp at hz; (try rcases hz with rfl | rfl | rfl) <;> (try subst hz) <;> rfl) rfl (Nat.le_refl _) (by unfold maxLen; omega))
        have HPy1 := Lib.hid (Raw.below HPu.out al)
        have HBy1 := Lib.hid (HBu.out.trans (al.mono HBu.out.size))
        have HSy1 := Lib.hid (same_below' HSu.out al)
        rw [← hx, ← hny1]
        clear al hny1 hx
        refine Txt.SegPost.mk (Txt.Ty.Shown.same HSy1.out) ?_
        refine Txt.RunPost.mk ?_
        refine Txt.Ty.wpTr_alt ?_ Txt.Ty.wpTr_no
        (try simp only [Txt.pick, List.getElem?_cons_succ, List.getElem?_cons_zero])
        go_wp2
        obtain ⟨q, hq⟩ : ∃ q, q = y1.heap.size := ⟨_, rfl⟩
        obtain ⟨y2, hny2⟩ : ∃ x, x = y1.alloc (.cells #[] 22) := ⟨_, rfl⟩
        have al : Below y1.heap.size y1 y2 := hny2 ▸ (Below.refl _ _).alloc (Nat.le_refl _) _
        have HOy2 : Hid (y2.ownsRow q 22 1 (.slice (some ⟨q, 0, none⟩) 0 0) 0 []) := Lib.hid (by rw [hny2, hq]; exact own_empty y1 y1.heap.size 22 1 (Nat.le_refl _))
        have HPy2 := Lib.hid (Raw.below HPy1.out al)
        have hqs : q < y2.heap.size := by rw [hq, hny2]; simp
        have hqb : u.heap.size ≤ q := by have := HBy1.out.size; omega
        have HXy2 : Hid (Raw [q] 1 y2 (.slice (some ⟨x, 0, none⟩) 1 1) 1 ([.slice ia img.length ic])) := Lib.hid (Raw.keep HXy1.out (Keep.of_below' (F := []) al) (fun f hf => by cases hf) (fun f hf => .inr (by rw [List.mem_singleton.1 hf, hq]; exact Nat.le_refl _)))
        have HBy2 := Lib.hid (HBy1.out.trans (al.mono HBy1.out.size))
        have HSy2 := Lib.hid (same_below' HSy1.out al)
        rw [← hq, ← hny2]
        clear al hny2 hq
        refine Txt.SegPost.mk (Txt.Ty.Shown.same HSy2.out) ?_
        refine Txt.RunPost.mk ?_
        refine Txt.Ty.wpTr_alt ?_ Txt.Ty.wpTr_no
        (try simp only [Txt.pick, List.getElem?_cons_succ, List.getElem?_cons_zero])
        go_wp2_with (at_builtin; refine wpList_app el46 Try.underlying46 HOy2.out HPy2.out HBy2.out rfl _ _ rfl rfl rfl ?c3 hqb ?c5 ?_)
        case c3 => omega
        case c5 => omega
        intro v1 y3 hown hbel hg hsz
        have HOy3 : Hid (y3.ownsRow q 22 1 v1 (pvs.length) (pvs.map (·.2))) := Lib.hid (by simpa using hown)
        have HXy3 := Lib.hid (Raw.keep (F' := []) HXy2.out (Keep.of_grown (F := [q]) hg (fun f hf => by simp [Value.ownBlock] at hf; exact .inl (by simp; omega))) (fun f hf => .inl hf) (fun f hf => by cases hf))
        have HSy3 := Lib.hid (same_keep HSy2.out (Keep.of_grown (F := [q]) hg (fun f hf => by simp [Value.ownBlock] at hf; exact .inl (by simp; omega))) (fun b hb hm => by have := HBl.out b hb; rw [List.mem_singleton.1 hm] at this; omega))
        have HBy3 := Lib.hid hbel
        have hqs : q < y3.heap.size := Nat.lt_of_lt_of_le hqs hsz
        obtain ⟨a1, c1, rfl⟩ := own_slice HOy3.out
        clear hown hbel hg hsz
        try simp only [Nat.zero_add]
        go_wp2
        refine Txt.SegPost.mk (Txt.Ty.Shown.same HSy3.out) ?_
        refine Txt.RunPost.mk ?_
        refine Txt.Ty.wpTr_alt ?_ Txt.Ty.wpTr_no
        (try simp only [Txt.pick, List.getElem?_cons_succ, List.getElem?_cons_zero])
        go_wp2_with (at_builtin; refine wpList_app el46 Try.underlying46 HOy3.out HXy3.out HBy3.out rfl _ _ rfl rfl rfl ?c3 hqb ?c5 ?_)
        case c3 => omega
        case c5 => omega
        intro v2 y4 hown hbel hg hsz
        have HOy4 := Lib.hid hown
        have HBy4 := Lib.hid hbel
        have HSy4 := Lib.hid (same_below' (w1 := u) HSu.out hbel)
        have hM := HM.out.below hbel
        have HM2 := Lib.hid hM
        have ec := box_at hM.box (j := 1) rfl
        have ef := box_free hM.box 1
        obtain ⟨a2, c2, rfl⟩ := own_slice HOy4.out
        clear hown hbel hg hsz hM
        go_wp2
        refine Txt.SegPost.mk (Txt.Ty.Shown.same HSy4.out) ?_
        (try simp only [Txt.pick, List.getElem?_cons_succ, List.getElem?_cons_zero])
        go_wp2
        refine Txt.RunPost.mk ?_
        refine Txt.Ty.wpTr_alt ?_ Txt.Ty.wpTr_no
        (try simp only [Txt.pick, List.getElem?_cons_succ, List.getElem?_cons_zero])
        go_wp2
        refine Txt.SegPost.mk (Txt.Ty.Shown.last rfl) ?_
        (try simp only [Txt.pick, List.getElem?_cons_succ, List.getElem?_cons_zero])
        try go_wp2
        refine Txt.RunPost.mk ?_
        refine Txt.Ty.wpTr_done (by rfl) ⟨.head _, .head _, trivial⟩ ?_
        go_wp2
        go_meet
        case rel => exact rel18 HM2.out HM.out HOy4.out hqb (HM.out.lt HF.out) H3.out H4.out HBy4.out
    case rest =>
      obtain ⟨pv2, hM⟩ := hcut
      clear HM
      obtain ⟨a18, n18, c18, rfl⟩ : ∃ a n c, pv2 = .slice a n c := by obtain ⟨_, hp, _⟩ := hM.md.past; obtain ⟨a, c, e⟩ := Raw.slice hp; exact ⟨_, _, _, e⟩
      obtain ⟨W, hW⟩ : ∃ W, W = wc := ⟨_, rfl⟩
      rw [← hW] at hM ⊢
      clear hW
      have HM := Lib.hid hM; clear hM
      go_wp2
      go_cut [] from 71 to 78 (fun wx => ∃ rv2, Mid F w wx g (.slice ia img.length ic) (.slice a18 n18 c18) rv2 ⟨img, past ++ [img], rs ++ [r], true⟩ r (.slice oa r.old.length oc) (.slice va img'.length vc) img')
      case first =>
        have hBl : ∀ b ∈ [w.heap.size, g], ∃ c e f, W.heap[b]? = some (.cells c e f) := fun b hb => by
          rcases List.mem_cons.1 hb with rfl | hb
          · exact ⟨_, _, _, HM.out.box⟩
          · rw [List.mem_singleton.1 hb]; exact ⟨_, _, _, HM.out.rcd⟩
        have hS := same_start hBl
        have hM := HM.out.below (Below.refl W.heap.size W).drew
        have hbz : ∀ b ∈ [w.heap.size, g], b < W.drew.heap.size := fun b hb => by
          rcases List.mem_cons.1 hb with rfl | hb
          · exact (Array.getElem?_eq_some_iff.1 hM.box).1
          · rw [List.mem_singleton.1 hb]; exact hM.gs
        refine Txt.Ty.wp_tree [w.heap.size, g] [2, 4] [8] [2, 4] [1, 2, 4] (.alt [0] (.alt [3] (.alt [5] (.alt [6, 7] (.alt [8] (.done) (.no)) (.no)) (.no)) (.alt [5] (.alt [3] (.alt [6, 7] (.alt [8] (.done) (.no)) (.no)) (.no)) (.no))) (.alt [5] (.alt [0] (.alt [3] (.alt [6, 7] (.alt [8] (.done) (.no)) (.no)) (.no)) (.no)) (.no))) (by kernel_rfl) (by kernel_rfl) (by kernel_rfl) (by kernel_rfl) hBl ?_
        obtain ⟨u, hu⟩ : ∃ u, u = W.drew := ⟨_, rfl⟩
        rw [← hu] at hS hM hbz ⊢
        have HMu := Lib.hid hM
        have HSu := Lib.hid hS
        have HBl := Lib.hid hbz
        have HBu := Lib.hid (Below.refl u.heap.size u)
        have H5 : Hid ((∀ p ∈ rvs, Bytes (g :: B3 w ++ F) u p.2 p.1.old) ∧ rvs.map (·.1) = rs) := Lib.hid ⟨fun p hp => hM.old (H50.out.2 p hp), H60.out⟩
        have HPu := Lib.hid (Raw.to_nil (hM.old H50.out.1))
        have b2 := box_at hM.box (j := 2) rfl
        have r0c := box_at hM.rcd (j := 0) rfl
        have r1c := box_at hM.rcd (j := 1) rfl
        have r2c := box_at hM.rcd (j := 2) rfl
        clear hu hS hM hbz hBl HM
        have HM := HMu
        (try simp only [Txt.pick, List.getElem?_cons_succ, List.getElem?_cons_zero])
        go_wp2
        refine Txt.RunPost.mk ?_
        refine Txt.Ty.wpTr_alt ?_ ?_
        · (try simp only [Txt.pick, List.getElem?_cons_succ, List.getElem?_cons_zero])
          go_wp2
          obtain ⟨q, hq⟩ : ∃ q, q = u.heap.size := ⟨_, rfl⟩
          obtain ⟨y1, hny1⟩ : ∃ x, x = u.alloc (.cells #[] 66) := ⟨_, rfl⟩
          have al : Below u.heap.size u y1 := hny1 ▸ (Below.refl _ _).alloc (Nat.le_refl _) _
          have HOy1 : Hid (y1.ownsRow q 66 3 (.slice (some ⟨q, 0, none⟩) 0 0) 0 []) := Lib.hid (by rw [hny1, hq]; exact own_empty u u.heap.size 66 3 (Nat.le_refl _))
          have HPy1 := Lib.hid (Raw.below HPu.out al)
          have hqs : q < y1.heap.size := by rw [hq, hny1]; simp
          have hqb : u.heap.size ≤ q := by have := HBu.out.size; omega
          have HBy1 := Lib.hid (HBu.out.trans (al.mono HBu.out.size))
          have HSy1 := Lib.hid (same_below' HSu.out al)
          rw [← hq, ← hny1]
          clear al hny1 hq
          refine Txt.SegPost.mk (Txt.Ty.Shown.same HSy1.out) ?_
          refine Txt.RunPost.mk ?_
          refine Txt.Ty.wpTr_alt ?_ ?_
          · (try simp only [Txt.pick, List.getElem?_cons_succ, List.getElem?_cons_zero])
            go_wp2_with (at_builtin; refine wpList_app el23 Try.underlying23 HOy1.out HPy1.out HBy1.out rfl _ _ rfl rfl rfl ?c3 hqb ?c5 ?_)
            case c3 => omega
            case c5 => omega
            intro v1 y2 hown hbel hg hsz
            have HOy2 : Hid (y2.ownsRow q 66 3 v1 (rvs.length) (rvs.flatMap encR)) := Lib.hid (by simpa using hown)
            have HSy2 := Lib.hid (same_keep HSy1.out (Keep.of_grown (F := [q]) hg (fun f hf => by simp [Value.ownBlock] at hf; exact .inl (by simp; omega))) (fun b hb hm => by have := HBl.out b hb; rw [List.mem_singleton.1 hm] at this; omega))
            have HBy2 := Lib.hid hbel
            have hqs : q < y2.heap.size := Nat.lt_of_lt_of_le hqs hsz
            obtain ⟨a1, c1, rfl⟩ := own_slice HOy2.out
            clear hown hbel hg hsz
            try simp only [Nat.zero_add]
            go_wp2
            refine Txt.SegPost.mk (Txt.Ty.Shown.same HSy2.out) ?_
            refine Txt.RunPost.mk ?_
            refine Txt.Ty.wpTr_alt ?_ Txt.Ty.wpTr_no
            (try simp only [Txt.pick, List.getElem?_cons_succ, List.getElem?_cons_zero])
            go_wp2
            obtain ⟨x, hx⟩ : ∃ q, q = y2.heap.size := ⟨_, rfl⟩
            obtain ⟨y3, hny3⟩ : ∃ x, x = y2.alloc (.cells (#[.int .i64 r.off, .int .i64 r.len, .slice oa r.old.length oc]) 66) := ⟨_, rfl⟩
            have al : Below y2.heap.size y2 y3 := hny3 ▸ (Below.refl _ _).alloc (Nat.le_refl _) _
            have HXy3 : Hid (Raw [q] 3 y3 (.slice (some ⟨x, 0, none⟩) 1 1) 1 ([.int .i64 r.off, .int .i64 r.len, .slice oa r.old.length oc])) := Lib.hid (Raw.of_block (ys := [.int .i64 r.off, .int .i64 r.len, .slice oa r.old.length oc]) (by rw [hny3, hx]; exact heap_alloc_new y2 _) (by simp; omega) (by intro z hz; simp at hz; (try rcases hz with rfl | rfl | rfl) <;> (try subst hz) <;> rfl) rfl (Nat.le_refl _) (by unfold maxLen; omega))
            have HOy3 := Lib.hid (own_below HOy2.out al (Nat.le_refl _))
            have hqs : q < y3.heap.size := Nat.lt_of_lt_of_le hqs al.size
            have HBy3 := Lib.hid (HBy2.out.trans (al.mono HBy2.out.size))
            have HSy3 := Lib.hid (same_below' HSy2.out al)
            rw [← hx, ← hny3]
            clear al hny3 hx
            refine Txt.SegPost.mk (Txt.Ty.Shown.same HSy3.out) ?_
            refine Txt.RunPost.mk ?_
            refine Txt.Ty.wpTr_alt ?_ Txt.Ty.wpTr_no
            (try simp only [Txt.pick, List.getElem?_cons_succ, List.getElem?_cons_zero])
            go_wp2_with (at_builtin; refine wpList_app el23 Try.underlying23 HOy3.out HXy3.out HBy3.out rfl _ _ rfl rfl rfl ?c3 hqb ?c5 ?_)
            case c3 => omega
            case c5 => omega
            intro v2 y4 hown hbel hg hsz
            have HOy4 := Lib.hid hown
            have HBy4 := Lib.hid hbel
            have HSy4 := Lib.hid (same_below' (w1 := u) HSu.out hbel)
            have hM := HM.out.below hbel
            have HM2 := Lib.hid hM
            have ec := box_at hM.box (j := 2) rfl
            have ef := box_free hM.box 2
            obtain ⟨a2, c2, rfl⟩ := own_slice HOy4.out
            clear hown hbel hg hsz hM
            go_wp2
            refine Txt.SegPost.mk (Txt.Ty.Shown.same HSy4.out) ?_
            (try simp only [Txt.pick, List.getElem?_cons_succ, List.getElem?_cons_zero])
            go_wp2
            refine Txt.RunPost.mk ?_
            refine Txt.Ty.wpTr_alt ?_ Txt.Ty.wpTr_no
            (try simp only [Txt.pick, List.getElem?_cons_succ, List.getElem?_cons_zero])
            go_wp2
            refine Txt.SegPost.mk (Txt.Ty.Shown.last rfl) ?_
            (try simp only [Txt.pick, List.getElem?_cons_succ, List.getElem?_cons_zero])
            try go_wp2
            refine Txt.RunPost.mk ?_
            refine Txt.Ty.wpTr_done (by rfl) ⟨.head _, .tail _ (.head _), trivial⟩ ?_
            go_wp2
            go_meet
            case rel => exact rel19 HM2.out HM.out HOy4.out hqb (HM.out.lt HF.out) H5.out HBy4.out
          · refine Txt.Ty.wpTr_alt ?_ Txt.Ty.wpTr_no
            (try simp only [Txt.pick, List.getElem?_cons_succ, List.getElem?_cons_zero])
            go_wp2
            obtain ⟨x, hx⟩ : ∃ q, q = y1.heap.size := ⟨_, rfl⟩
            obtain ⟨y2, hny2⟩ : ∃ x, x = y1.alloc (.cells (#[.int .i64 r.off, .int .i64 r.len, .slice oa r.old.length oc]) 66) := ⟨_, rfl⟩
            have al : Below y1.heap.size y1 y2 := hny2 ▸ (Below.refl _ _).alloc (Nat.le_refl _) _
            have HXy2 : Hid (Raw [q] 3 y2 (.slice (some ⟨x, 0, none⟩) 1 1) 1 ([.int .i64 r.off, .int .i64 r.len, .slice oa r.old.length oc])) := Lib.hid (Raw.of_block (ys := [.int .i64 r.off, .int .i64 r.len, .slice oa r.old.length oc]) (by rw [hny2, hx]; exact heap_alloc_new y1 _) (by simp; omega) (by intro z hz; simp at hz; (try rcases hz with rfl | rfl | rfl) <;> (try subst hz) <;> rfl) rfl (Nat.le_refl _) (by unfold maxLen; omega))
            have HPy2 := Lib.hid (Raw.below HPy1.out al)
            have HOy2 := Lib.hid (own_below HOy1.out al (Nat.le_refl _))
            have hqs : q < y2.heap.size := Nat.lt_of_lt_of_le hqs al.size
            have HBy2 := Lib.hid (HBy1.out.trans (al.mono HBy1.out.size))
            have HSy2 := Lib.hid (same_below' HSy1.out al)
            rw [← hx, ← hny2]
            clear al hny2 hx
            refine Txt.SegPost.mk (Txt.Ty.Shown.same HSy2.out) ?_
            refine Txt.RunPost.mk ?_
            refine Txt.Ty.wpTr_alt ?_ Txt.Ty.wpTr_no
            (try simp only [Txt.pick, List.getElem?_cons_succ, List.getElem?_cons_zero])
            go_wp2_with (at_builtin; refine wpList_app el23 Try.underlying23 HOy2.out HPy2.out HBy2.out rfl _ _ rfl rfl rfl ?c3 hqb ?c5 ?_)
            case c3 => omega
            case c5 => omega
            intro v1 y3 hown hbel hg hsz
            have HOy3 : Hid (y3.ownsRow q 66 3 v1 (rvs.length) (rvs.flatMap encR)) := Lib.hid (by simpa using hown)
            have HXy3 := Lib.hid (Raw.keep (F' := []) HXy2.out (Keep.of_grown (F := [q]) hg (fun f hf => by simp [Value.ownBlock] at hf; exact .inl (by simp; omega))) (fun f hf => .inl hf) (fun f hf => by cases hf))
            have HSy3 := Lib.hid (same_keep HSy2.out (Keep.of_grown (F := [q]) hg (fun f hf => by simp [Value.ownBlock] at hf; exact .inl (by simp; omega))) (fun b hb hm => by have := HBl.out b hb; rw [List.mem_singleton.1 hm] at this; omega))
            have HBy3 := Lib.hid hbel
            have hqs : q < y3.heap.size := Nat.lt_of_lt_of_le hqs hsz
            obtain ⟨a1, c1, rfl⟩ := own_slice HOy3.out
            clear hown hbel hg hsz
            try simp only [Nat.zero_add]
            go_wp2
            refine Txt.SegPost.mk (Txt.Ty.Shown.same HSy3.out) ?_
            refine Txt.RunPost.mk ?_
            refine Txt.Ty.wpTr_alt ?_ Txt.Ty.wpTr_no
            (try simp only [Txt.pick, List.getElem?_cons_succ, List.getElem?_cons_zero])
            go_wp2_with (at_builtin; refine wpList_app el23 Try.underlying23 HOy3.out HXy3.out HBy3.out rfl _ _ rfl rfl rfl ?c3 hqb ?c5 ?_)
            case c3 => omega
            case c5 => omega
            intro v2 y4 hown hbel hg hsz
            have HOy4 := Lib.hid hown
            have HBy4 := Lib.hid hbel
            have HSy4 := Lib.hid (same_below' (w1 := u) HSu.out hbel)
            have hM := HM.out.below hbel
            have HM2 := Lib.hid hM
            have ec := box_at hM.box (j := 2) rfl
            have ef := box_free hM.box 2
            obtain ⟨a2, c2, rfl⟩ := own_slice HOy4.out
            clear hown hbel hg hsz hM
            go_wp2
            refine Txt.SegPost.mk (Txt.Ty.Shown.same HSy4.out) ?_
            (try simp only [Txt.pick, List.getElem?_cons_succ, List.getElem?_cons_zero])
            go_wp2
            refine Txt.RunPost.mk ?_
            refine Txt.Ty.wpTr_alt ?_ Txt.Ty.wpTr_no
            (try simp only [Txt.pick, List.getElem?_cons_succ, List.getElem?_cons_zero])
            go_wp2
            refine Txt.SegPost.mk (Txt.Ty.Shown.last rfl) ?_
            (try simp only [Txt.pick, List.getElem?_cons_succ, List.getElem?_cons_zero])
            try go_wp2
            refine Txt.RunPost.mk ?_
            refine Txt.Ty.wpTr_done (by rfl) ⟨.head _, .tail _ (.head _), trivial⟩ ?_
            go_wp2
            go_meet
            case rel => exact rel19 HM2.out HM.out HOy4.out hqb (HM.out.lt HF.out) H5.out HBy4.out
        · refine Txt.Ty.wpTr_alt ?_ Txt.Ty.wpTr_no
          (try simp only [Txt.pick, List.getElem?_cons_succ, List.getElem?_cons_zero])
          go_wp2
          obtain ⟨x, hx⟩ : ∃ q, q = u.heap.size := ⟨_, rfl⟩
          obtain ⟨y1, hny1⟩ : ∃ x, x = u.alloc (.cells (#[.int .i64 r.off, .int .i64 r.len, .slice oa r.old.length oc]) 66) := ⟨_, rfl⟩
          have al : Below u.heap.size u y1 := hny1 ▸ (Below.refl _ _).alloc (Nat.le_refl _) _
          have HXy1 : Hid (Raw [] 3 y1 (.slice (some ⟨x, 0, none⟩) 1 1) 1 ([.int .i64 r.off, .int .i64 r.len, .slice oa r.old.length oc])) := Lib.hid (Raw.of_block (ys := [.int .i64 r.off, .int .i64 r.len, .slice oa r.old.length oc]) (by rw [hny1, hx]; exact heap_alloc_new u _) (by simp) (by intro z hz; simp at hz; (try rcases hz with rfl | rfl | rfl) <;> (try subst hz) <;> rfl) rfl (Nat.le_refl _) (by unfold maxLen; omega))
          have HPy1 := Lib.hid (Raw.below HPu.out al)
          have HBy1 := Lib.hid (HBu.out.trans (al.mono HBu.out.size))
          have HSy1 := Lib.hid (same_below' HSu.out al)
          rw [← hx, ← hny1]
          clear al hny1 hx
          refine Txt.SegPost.mk (Txt.Ty.Shown.same HSy1.out) ?_
          refine Txt.RunPost.mk ?_
          refine Txt.Ty.wpTr_alt ?_ Txt.Ty.wpTr_no
          (try simp only [Txt.pick, List.getElem?_cons_succ, List.getElem?_cons_zero])
          go_wp2
          obtain ⟨q, hq⟩ : ∃ q, q = y1.heap.size := ⟨_, rfl⟩
          obtain ⟨y2, hny2⟩ : ∃ x, x = y1.alloc (.cells #[] 66) := ⟨_, rfl⟩
          have al : Below y1.heap.size y1 y2 := hny2 ▸ (Below.refl _ _).alloc (Nat.le_refl _) _
          have HOy2 : Hid (y2.ownsRow q 66 3 (.slice (some ⟨q, 0, none⟩) 0 0) 0 []) := Lib.hid (by rw [hny2, hq]; exact own_empty y1 y1.heap.size 66 3 (Nat.le_refl _))
          have HPy2 := Lib.hid (Raw.below HPy1.out al)
          have hqs : q < y2.heap.size := by rw [hq, hny2]; simp
          have hqb : u.heap.size ≤ q := by have := HBy1.out.size; omega
          have HXy2 : Hid (Raw [q] 3 y2 (.slice (some ⟨x, 0, none⟩) 1 1) 1 ([.int .i64 r.off, .int .i64 r.len, .slice oa r.old.length oc])) := Lib.hid (Raw.keep HXy1.out (Keep.of_below' (F := []) al) (fun f hf => by cases hf) (fun f hf => .inr (by rw [List.mem_singleton.1 hf, hq]; exact Nat.le_refl _)))
          have HBy2 := Lib.hid (HBy1.out.trans (al.mono HBy1.out.size))
          have HSy2 := Lib.hid (same_below' HSy1.out al)
          rw [← hq, ← hny2]
          clear al hny2 hq
          refine Txt.SegPost.mk (Txt.Ty.Shown.same HSy2.out) ?_
          refine Txt.RunPost.mk ?_
          refine Txt.Ty.wpTr_alt ?_ Txt.Ty.wpTr_no
          (try simp only [Txt.pick, List.getElem?_cons_succ, List.getElem?_cons_zero])
          go_wp2_with (at_builtin; refine wpList_app el23 Try.underlying23 HOy2.out HPy2.out HBy2.out rfl _ _ rfl rfl rfl ?c3 hqb ?c5 ?_)
          case c3 => omega
          case c5 => omega
          intro v1 y3 hown hbel hg hsz
          have HOy3 : Hid (y3.ownsRow q 66 3 v1 (rvs.length) (rvs.flatMap encR)) := Lib.hid (by simpa using hown)
          have HXy3 := Lib.hid (Raw.keep (F' := []) HXy2.out (Keep.of_grown (F := [q]) hg (fun f hf => by simp [Value.ownBlock] at hf; exact .inl (by simp; omega))) (fun f hf => .inl hf) (fun f hf => by cases hf))
          have HSy3 := Lib.hid (same_keep HSy2.out (Keep.of_grown (F := [q]) hg (fun f hf => by simp [Value.ownBlock] at hf; exact .inl (by simp; omega))) (fun b hb hm => by have := HBl.out b hb; rw [List.mem_singleton.1 hm] at this; omega))
          have HBy3 := Lib.hid hbel
          have hqs : q < y3.heap.size := Nat.lt_of_lt_of_le hqs hsz
          obtain ⟨a1, c1, rfl⟩ := own_slice HOy3.out
          clear hown hbel hg hsz
          try simp only [Nat.zero_add]
          go_wp2
          refine Txt.SegPost.mk (Txt.Ty.Shown.same HSy3.out) ?_
          refine Txt.RunPost.mk ?_
          refine Txt.Ty.wpTr_alt ?_ Txt.Ty.wpTr_no
          (try simp only [Txt.pick, List.getElem?_cons_succ, List.getElem?_cons_zero])
          go_wp2_with (at_builtin; refine wpList_app el23 Try.underlying23 HOy3.out HXy3.out HBy3.out rfl _ _ rfl rfl rfl ?c3 hqb ?c5 ?_)
          case c3 => omega
          case c5 => omega
          intro v2 y4 hown hbel hg hsz
          have HOy4 := Lib.hid hown
          have HBy4 := Lib.hid hbel
          have HSy4 := Lib.hid (same_below' (w1 := u) HSu.out hbel)
          have hM := HM.out.below hbel
          have HM2 := Lib.hid hM
          have ec := box_at hM.box (j := 2) rfl
          have ef := box_free hM.box 2
          obtain ⟨a2, c2, rfl⟩ := own_slice HOy4.out
          clear hown hbel hg hsz hM
          go_wp2
          refine Txt.SegPost.mk (Txt.Ty.Shown.same HSy4.out) ?_
          (try simp only [Txt.pick, List.getElem?_cons_succ, List.getElem?_cons_zero])
          go_wp2
          refine Txt.RunPost.mk ?_
          refine Txt.Ty.wpTr_alt ?_ Txt.Ty.wpTr_no
          (try simp only [Txt.pick, List.getElem?_cons_succ, List.getElem?_cons_zero])
          go_wp2
          refine Txt.SegPost.mk (Txt.Ty.Shown.last rfl) ?_
          (try simp only [Txt.pick, List.getElem?_cons_succ, List.getElem?_cons_zero])
          try go_wp2
          refine Txt.RunPost.mk ?_
          refine Txt.Ty.wpTr_done (by rfl) ⟨.head _, .tail _ (.head _), trivial⟩ ?_
          go_wp2
          go_meet
          case rel => exact rel19 HM2.out HM.out HOy4.out hqb (HM.out.lt HF.out) H5.out HBy4.out
      case rest =>
        obtain ⟨rv2, hM⟩ := hcut
        clear HM
        obtain ⟨a19, n19, c19, rfl⟩ : ∃ a n c, rv2 = .slice a n c := by obtain ⟨_, hp, _⟩ := hM.md.recs; obtain ⟨a, c, e⟩ := Raw.slice hp.1; exact ⟨_, _, _, e⟩
        have hM2 := hM.put (j := 0) (u := .slice va img'.length vc) (iv2 := .slice va img'.length vc) (pv2 := .slice a18 n18 c18) (rv2 := .slice a19 n19 c19) (m2 := ⟨img', past ++ [img], rs ++ [r], true⟩) rfl ⟨hM.hv, hM.md.past, hM.md.recs⟩
        have b0 := box_at hM.box (j := 0) rfl
        have f0 := box_free hM.box 0
        have HM := Lib.hid hM2
        clear hM hM2
        go_upto_region 21 with (fail)
        obtain ⟨W, hW⟩ : ∃ W, W = wc.setCell ⟨w.heap.size, 0, none⟩ (.slice va img'.length vc) := ⟨_, rfl⟩
        rw [← hW] at HM
        rw [← hW]
        clear hW b0 f0
        have b0 := box_at HM.out.box (j := 0) rfl
        have b1 := box_at HM.out.box (j := 1) rfl
        have b2 := box_at HM.out.box (j := 2) rfl
        have b3 := box_at HM.out.box (j := 3) rfl
        have q0 := box_at HM.out.res (j := 0) rfl
        have q1 := box_at HM.out.res (j := 1) rfl
        have q2 := box_at HM.out.res (j := 2) rfl
        have q3 := box_at HM.out.res (j := 3) rfl
        have t0 := box_free HM.out.res 0
        have t1 := box_free HM.out.res 1
        have t2 := box_free HM.out.res 2
        have t3 := box_free HM.out.res 3

        go_wp2
        refine bodyPost_ret (results_ct rfl _ _ _ _ _ _ _ rfl (heap_set4 HM.out.res _ _ _ _) Try.underlying48 rfl (by kernel_rfl)) rfl ?_
        rw [E1.out]
        exact ⟨_, _, _, rfl, (HM.out.out _ _ _ _).1, (HM.out.out (fin := true) _ _ _ _).2⟩
  · have e1 : wrM ⟨img, past, rs, true⟩ ((img', r), er) = (⟨img, past, rs, true⟩, er) := by simp [wrM, hz]
    have E1 := Lib.hid e1; clear e1
    have hz1 : (er != 0) = true := by simpa using hz
    clear hz
    go_wp2
    refine bodyPost_ret (results_ct rfl _ _ _ _ _ _ _ rfl (heap_set4 HM.out.res _ _ _ _) Try.underlying48 rfl (by kernel_rfl)) rfl ?_
    rw [E1.out]
    exact ⟨_, _, _, rfl, (HM.out.out _ _ _ _).1, (HM.out.out (fin := true) _ _ _ _).2⟩
set_option maxRecDepth 100000 in
set_option maxHeartbeats 8000000 in
theorem next_write {F : List Nat} (iv pv rv dv : Value) (m : Md) (n : Int) (d : List UInt8) (w : World) (hF : ∀ f ∈ F, f < w.heap.size) (hil : m.img.length ≤ 24000) (hpl : m.past.length ≤ 1000) (hrl : m.rs.length ≤ 1000) (hdl : d.length ≤ 1000000) (hn1 : -9223372036854775808 ≤ n) (hn2 : n ≤ 9223372036854775807) (hf : m.fin = true) (h : MdAt F w iv pv rv m) (hd : Bytes [] w dv d) :
    Calls Try.prog 20 #[.agg #[iv, pv, rv, .bool m.fin], .agg #[.int .i64 1, .int .i64 n, dv]] w (NX F w (nxt m 1 n d)) := by
  rw [nxt_rwr hf]
  obtain ⟨img, past, rs, fin⟩ := m
  simp only at hf hil hpl hrl
  subst hf
  have h' := h
  obtain ⟨h1, ⟨pvs, h2, h3, h4⟩, rvs, h5, h6⟩ := h'
  simp only at h1 h3 h6
  have hpv : pvs.length ≤ 1000 := by rw [← h3, List.length_map] at hpl; exact hpl
  have hrv : rvs.length ≤ 1000 := by rw [← h6, List.length_map] at hrl; exact hrl
  obtain ⟨ia, ic, rfl⟩ := Raw.slice h1
  obtain ⟨pa, pc, rfl⟩ := Raw.slice h2
  obtain ⟨ra, rc, rfl⟩ := Raw.slice h5.1
  obtain ⟨da, dc, rfl⟩ := Raw.slice hd
  have H := Lib.hid h
  have HF := Lib.hid hF
  have H20 := Lib.hid h2; have H30 := Lib.hid h3; have H40 := Lib.hid h4; have H50 := Lib.hid h5; have H60 := Lib.hid h6
  have bel3 := below_alloc3 w (.cells #[.slice ia img.length ic, .slice pa pvs.length pc, .slice ra rvs.length rc, .bool true] 48) (.cells #[.int .i64 1, .int .i64 n, .slice da d.length dc] 41) (.cells #[.slice none 0 0, .slice none 0 0, .slice none 0 0, .bool false] 48)
  have hsz3 : w.heap.size + 1 + 1 < (((w.alloc (.cells #[.slice ia img.length ic, .slice pa pvs.length pc, .slice ra rvs.length rc, .bool true] 48)).alloc (.cells #[.int .i64 1, .int .i64 n, .slice da d.length dc] 41)).alloc (.cells #[.slice none 0 0, .slice none 0 0, .slice none 0 0, .bool false] 48)).heap.size := by simp
  have HA := Lib.hid (heap_alloc3_0 w (.cells #[.slice ia img.length ic, .slice pa pvs.length pc, .slice ra rvs.length rc, .bool true] 48) (.cells #[.int .i64 1, .int .i64 n, .slice da d.length dc] 41) (.cells #[.slice none 0 0, .slice none 0 0, .slice none 0 0, .bool false] 48))
  have HB := Lib.hid (heap_alloc3_1 w (.cells #[.slice ia img.length ic, .slice pa pvs.length pc, .slice ra rvs.length rc, .bool true] 48) (.cells #[.int .i64 1, .int .i64 n, .slice da d.length dc] 41) (.cells #[.slice none 0 0, .slice none 0 0, .slice none 0 0, .bool false] 48))
  have HC := Lib.hid (heap_alloc3 w (.cells #[.slice ia img.length ic, .slice pa pvs.length pc, .slice ra rvs.length rc, .bool true] 48) (.cells #[.int .i64 1, .int .i64 n, .slice da d.length dc] 41) (.cells #[.slice none 0 0, .slice none 0 0, .slice none 0 0, .bool false] 48))
  have HI := Lib.hid (Raw.below (Raw.to_nil h1) bel3)
  have HD := Lib.hid (Raw.below hd bel3)
  obtain ⟨z, hz⟩ : ∃ z, z = rwr img n d := ⟨_, rfl⟩
  rw [← hz]
  have HZ := Lib.hid hz
  clear hz h h1 h2 h3 h4 h5 h6 hd hF hpl hrl
  obtain ⟨⟨img', r⟩, er⟩ := z
  go_enter Try.func20, Try.ntmps20
  go_wp2_with fail
  obtain ⟨u3, hu3⟩ : ∃ u3, u3 = (((w.alloc (.cells #[.slice ia img.length ic, .slice pa pvs.length pc, .slice ra rvs.length rc, .bool true] 48)).alloc (.cells #[.int .i64 1, .int .i64 n, .slice da d.length dc] 41)).alloc (.cells #[.slice none 0 0, .slice none 0 0, .slice none 0 0, .bool false] 48)) := ⟨_, rfl⟩
  rw [← hu3] at bel3 hsz3 HA HB HC HI HD ⊢
  clear hu3
  have st := rresize_any _ img n u3 hil hn1 hn2 HI.out
  obtain ⟨z0, hz0⟩ : ∃ z, z = rsz img n := ⟨_, rfl⟩
  rw [← hz0] at st
  clear hz0
  obtain ⟨⟨img0, r0⟩, er0⟩ := z0
  refine st.mono ?_
  rintro e w4 ⟨v0, ov0, rfl, hv, hov, hb4⟩
  have hM0 := Mid.start (r := r0) H.out HF.out bel3 hsz3 HA.out HC.out hb4 hv hov
  obtain ⟨va0, vc0, rfl⟩ := Raw.slice hv
  obtain ⟨oa0, oc0, rfl⟩ := Raw.slice hov
  simp only
  have HM0 := Lib.hid hM0
  have al := hb4.trans (((Below.refl w4.heap.size w4).alloc (Nat.le_refl _) (.cells #[.int .i64 r0.off, .int .i64 r0.len, .slice oa0 r0.old.length oc0] 66)).mono hb4.size)
  have HI4 := Lib.hid (Raw.below HI.out al)
  have HD4 := Lib.hid (Raw.below HD.out al)
  have b0 := box_at ((al.block _ (by omega)).trans HA.out) (j := 0) rfl
  have d1 : (w4.alloc (.cells #[.int .i64 r0.off, .int .i64 r0.len, .slice oa0 r0.old.length oc0] 66)).heap[w.heap.size + 1]? = some (.cells #[.int .i64 1, .int .i64 n, .slice da d.length dc] 41 (0, 0)) := (al.block _ (by omega)).trans HB.out
  have b5 := box_at d1 (j := 0) rfl
  have b6 := box_at d1 (j := 1) rfl
  have b7 := box_at d1 (j := 2) rfl
  clear hM0 hv hov hb4 HA HB HC HI HD H bel3 hsz3 d1 al
  obtain ⟨g, hg⟩ : ∃ g, g = w4.heap.size := ⟨_, rfl⟩
  go_upto_region 14 with (fail)
  obtain ⟨W0, hW⟩ : ∃ W, W = w4.alloc (.cells #[.int .i64 r0.off, .int .i64 r0.len, .slice oa0 r0.old.length oc0] 66) := ⟨_, rfl⟩
  rw [← hg, ← hW] at HM0
  rw [← hW] at HI4 HD4 b0 b5 b6 b7
  rw [← hg, ← hW]
  clear hg hW
  go_wp2_with fail
  have st := rwrite_any _ _ img d n W0 hil hdl hn1 hn2 HI4.out HD4.out
  rw [← HZ.out] at st
  refine st.mono ?_
  rintro e w5 ⟨v, ov, rfl, hv, hov, hb5⟩
  have hM5 := HM0.out.below hb5
  have hlt := HM0.out.lt HF.out
  have hM := Mid.rewrite (r := r) hM5 (Raw.apart hv hlt) (Raw.apart hov hlt)
  obtain ⟨va, vc, rfl⟩ := Raw.slice hv
  obtain ⟨oa, oc, rfl⟩ := Raw.slice hov
  have r0c := box_at hM5.rcd (j := 0) rfl
  have r1c := box_at hM5.rcd (j := 1) rfl
  have r2c := box_at hM5.rcd (j := 2) rfl
  have r0f := box_free hM5.rcd 0
  have r1f := box_free hM5.rcd 1
  have r2f := box_free hM5.rcd 2
  simp only
  have HM := Lib.hid hM
  clear hM hM5 hv hov hb5 hlt HZ HI4 HD4 b0 b5 b6 b7
  go_upto_region 16 with (fail)
  obtain ⟨W, hW⟩ : ∃ W, W = ((w5.setCell ⟨g, 0, none⟩ (.int .i64 r.off)).setCell ⟨g, 1, none⟩ (.int .i64 r.len)).setCell ⟨g, 2, none⟩ (.slice oa r.old.length oc) := ⟨_, rfl⟩
  rw [← hW] at HM
  rw [← hW]
  clear hW r0c r1c r2c r0f r1f r2f HM0
  have b0 := box_at HM.out.box (j := 0) rfl
  have b1 := box_at HM.out.box (j := 1) rfl
  have b2 := box_at HM.out.box (j := 2) rfl
  have b3 := box_at HM.out.box (j := 3) rfl
  have q0 := box_at HM.out.res (j := 0) rfl
  have q1 := box_at HM.out.res (j := 1) rfl
  have q2 := box_at HM.out.res (j := 2) rfl
  have q3 := box_at HM.out.res (j := 3) rfl
  have t0 := box_free HM.out.res 0
  have t1 := box_free HM.out.res 1
  have t2 := box_free HM.out.res 2
  have t3 := box_free HM.out.res 3
  by_cases hz : er = 0
  · subst hz
    have e1 : wrM ⟨img, past, rs, true⟩ ((img', r), 0) = (⟨img', past ++ [img], rs ++ [r], true⟩, 0) := rfl
    have E1 := Lib.hid e1; clear e1
    clear b0 b1 b2 b3 q0 q1 q2 q3 t0 t1 t2 t3
    go_wp2
    go_cut [] from 62 to 70 (fun wx => ∃ pv2, Mid F w wx g (.slice ia img.length ic) pv2 (.slice ra rvs.length rc) ⟨img, past ++ [img], rs, true⟩ r (.slice oa r.old.length oc) (.slice va img'.length vc) img')
    case first =>
      have hBl : ∀ b ∈ [w.heap.size], ∃ c e f, W.heap[b]? = some (.cells c e f) := fun b hb => by rw [List.mem_singleton.1 hb]; exact ⟨_, _, _, HM.out.box⟩
      have hS := same_start hBl
      have hM := HM.out.below (Below.refl W.heap.size W).drew
      have hbz : ∀ b ∈ [w.heap.size], b < W.drew.heap.size := fun b hb => by rw [List.mem_singleton.1 hb]; exact (Array.getElem?_eq_some_iff.1 hM.box).1
      refine Txt.Ty.wp_tree [w.heap.size] [2, 5] [9] [2, 5] [1, 2, 4, 5] (.alt [0] (.alt [3] (.alt [6] (.alt [7, 8] (.alt [9] (.done) (.no)) (.no)) (.no)) (.alt [6] (.alt [3] (.alt [7, 8] (.alt [9] (.done) (.no)) (.no)) (.no)) (.no))) (.alt [6] (.alt [0] (.alt [3] (.alt [7, 8] (.alt [9] (.done) (.no)) (.no)) (.no)) (.no)) (.no))) (by kernel_rfl) (by kernel_rfl) (by kernel_rfl) (by kernel_rfl) hBl ?_
      obtain ⟨u, hu⟩ : ∃ u, u = W.drew := ⟨_, rfl⟩
      rw [← hu] at hS hM hbz ⊢
      have HMu := Lib.hid hM
      have HSu := Lib.hid hS
      have HBl := Lib.hid hbz
      have HBu := Lib.hid (Below.refl u.heap.size u)
      have H3 := H30
      have H4 : Hid (∀ p ∈ pvs, Bytes (g :: B3 w ++ F) u p.2 p.1) := Lib.hid fun p hp => hM.old (H40.out p hp)
      have HPu := Lib.hid (Raw.to_nil (hM.old H20.out))
      have b0 := box_at hM.box (j := 0) rfl
      have b1 := box_at hM.box (j := 1) rfl
      clear hu hS hM hbz hBl HM
      have HM := HMu
      (try simp only [Txt.pick, List.getElem?_cons_succ, List.getElem?_cons_zero])
      go_wp2
      refine Txt.RunPost.mk ?_
      refine Txt.Ty.wpTr_alt ?_ ?_
      · (try simp only [Txt.pick, List.getElem?_cons_succ, List.getElem?_cons_zero])
        go_wp2
        obtain ⟨q, hq⟩ : ∃ q, q = u.heap.size := ⟨_, rfl⟩
        obtain ⟨y1, hny1⟩ : ∃ x, x = u.alloc (.cells #[] 22) := ⟨_, rfl⟩
        have al : Below u.heap.size u y1 := hny1 ▸ (Below.refl _ _).alloc (Nat.le_refl _) _
        have HOy1 : Hid (y1.ownsRow q 22 1 (.slice (some ⟨q, 0, none⟩) 0 0) 0 []) := Lib.hid (by rw [hny1, hq]; exact own_empty u u.heap.size 22 1 (Nat.le_refl _))
        have HPy1 := Lib.hid (Raw.below HPu.out al)
        have hqs : q < y1.heap.size := by rw [hq, hny1]; simp
        have hqb : u.heap.size ≤ q := by have := HBu.out.size; omega
        have HBy1 := Lib.hid (HBu.out.trans (al.mono HBu.out.size))
        have HSy1 := Lib.hid (same_below' HSu.out al)
        rw [← hq, ← hny1]
        clear al hny1 hq
        refine Txt.SegPost.mk (Txt.Ty.Shown.same HSy1.out) ?_
        refine Txt.RunPost.mk ?_
        refine Txt.Ty.wpTr_alt ?_ ?_
        · (try simp only [Txt.pick, List.getElem?_cons_succ, List.getElem?_cons_zero])
          go_wp2_with (at_builtin; refine wpList_app el46 Try.underlying46 HOy1.out HPy1.out HBy1.out rfl _ _ rfl rfl rfl ?c3 hqb ?c5 ?_)
          case c3 => omega
          case c5 => omega
          intro v1 y2 hown hbel hg hsz
          have HOy2 : Hid (y2.ownsRow q 22 1 v1 (pvs.length) (pvs.map (·.2))) := Lib.hid (by simpa using hown)
          have HSy2 := Lib.hid (same_keep HSy1.out (Keep.of_grown (F := [q]) hg (fun f hf => by simp [Value.ownBlock] at hf; exact .inl (by simp; omega))) (fun b hb hm => by have := HBl.out b hb; rw [List.mem_singleton.1 hm] at this; omega))
          have HBy2 := Lib.hid hbel
          have hqs : q < y2.heap.size := Nat.lt_of_lt_of_le hqs hsz
          obtain ⟨a1, c1, rfl⟩ := own_slice HOy2.out
          clear hown hbel hg hsz
          try simp only [Nat.zero_add]
          go_wp2
          refine Txt.SegPost.mk (Txt.Ty.Shown.same HSy2.out) ?_
          refine Txt.RunPost.mk ?_
          refine Txt.Ty.wpTr_alt ?_ Txt.Ty.wpTr_no
          (try simp only [Txt.pick, List.getElem?_cons_succ, List.getElem?_cons_zero])
          go_wp2
          obtain ⟨x, hx⟩ : ∃ q, q = y2.heap.size := ⟨_, rfl⟩
          obtain ⟨y3, hny3⟩ : ∃ x, x = y2.alloc (.cells (#[.slice ia img.length ic]) 22) := ⟨_, rfl⟩
          have al : Below y2.heap.size y2 y3 := hny3 ▸ (Below.refl _ _).alloc (Nat.le_refl _) _
          have HXy3 : Hid (Raw [q] 1 y3 (.slice (some ⟨x, 0, none⟩) 1 1) 1 ([.slice ia img.length ic])) := Lib.hid (Raw.of_block (ys := [.slice ia img.length ic]) (by rw [hny3, hx]; exact heap_alloc_new y2 _) (by simp; omega) (by intro z hz; simp at hz; (try rcases hz with rfl | rfl | rfl) <;> (try subst hz) <;> rfl) rfl (Nat.le_refl _) (by unfold maxLen; omega))
          have HOy3 := Lib.hid (own_below HOy2.out al (Nat.le_refl _))
          have hqs : q < y3.heap.size := Nat.lt_of_lt_of_le hqs al.size
          have HBy3 := Lib.hid (HBy2.out.trans (al.mono HBy2.out.size))
          have HSy3 := Lib.hid (same_below' HSy2.out al)
          rw [← hx, ← hny3]
          clear al hny3 hx
          refine Txt.SegPost.mk (Txt.Ty.Shown.same HSy3.out) ?_
          refine Txt.RunPost.mk ?_
          refine Txt.Ty.wpTr_alt ?_ Txt.Ty.wpTr_no
          (try simp only [Txt.pick, List.getElem?_cons_succ, List.getElem?_cons_zero])
          go_wp2_with (at_builtin; refine wpList_app el46 Try.underlying46 HOy3.out HXy3.out HBy3.out rfl _ _ rfl rfl rfl ?c3 hqb ?c5 ?_)
          case c3 => omega
          case c5 => omega
          intro v2 y4 hown hbel hg hsz
          have HOy4 := Lib.hid hown
          have HBy4 := Lib.hid hbel
          have HSy4 := Lib.hid (same_below' (w1 := u) HSu.out hbel)
          have hM := HM.out.below hbel
          have HM2 := Lib.hid hM
          have ec := box_at hM.box (j := 1) rfl
          have ef := box_free hM.box 1
          obtain ⟨a2, c2, rfl⟩ := own_slice HOy4.out
          clear hown hbel hg hsz hM
          go_wp2
          refine Txt.SegPost.mk (Txt.Ty.Shown.same HSy4.out) ?_
          (try simp only [Txt.pick, List.getElem?_cons_succ, List.getElem?_cons_zero])
          go_wp2
          refine Txt.RunPost.mk ?_
          refine Txt.Ty.wpTr_alt ?_ Txt.Ty.wpTr_no
          (try simp only [Txt.pick, List.getElem?_cons_succ, List.getElem?_cons_zero])
          go_wp2
          refine Txt.SegPost.mk (Txt.Ty.Shown.last rfl) ?_
          (try simp only [Txt.pick, List.getElem?_cons_succ, List.getElem?_cons_zero])
          try go_wp2
          refine Txt.RunPost.mk ?_
          refine Txt.Ty.wpTr_done (by rfl) ⟨.head _, .head _, trivial⟩ ?_
          go_wp2
          go_meet
          case rel => exact rel18 HM2.out HM.out HOy4.out hqb (HM.out.lt HF.out) H3.out H4.out HBy4.out
        · refine Txt.Ty.wpTr_alt ?_ Txt.Ty.wpTr_no
          (try simp only [Txt.pick, List.getElem?_cons_succ, List.getElem?_cons_zero])
          go_wp2
          obtain ⟨x, hx⟩ : ∃ q, q = y1.heap.size := ⟨_, rfl⟩
          obtain ⟨y2, hny2⟩ : ∃ x, x = y1.alloc (.cells (#[.slice ia img.length ic]) 22) := ⟨_, rfl⟩
          have al : Below y1.heap.size y1 y2 := hny2 ▸ (Below.refl _ _).alloc (Nat.le_refl _) _
          have HXy2 : Hid (Raw [q] 1 y2 (.slice (some ⟨x, 0, none⟩) 1 1) 1 ([.slice ia img.length ic])) := Lib.hid (Raw.of_block (ys := [.slice ia img.length ic]) (by rw [hny2, hx]; exact heap_alloc_new y1 _) (by simp; omega) (by intro z hz; simp at hz; (try rcases hz with rfl | rfl | rfl) <;> (try subst hz) <;> rfl) rfl (Nat.le_refl _) (by unfold maxLen; omega))
          have HPy2 := Lib.hid (Raw.below HPy1.out al)
          have HOy2 := Lib.hid (own_below HOy1.out al (Nat.le_refl _))
          have hqs : q < y2.heap.size := Nat.lt_of_lt_of_le hqs al.size
          have HBy2 := Lib.hid (HBy1.out.trans (al.mono HBy1.out.size))
          have HSy2 := Lib.hid (same_below' HSy1.out al)
          rw [← hx, ← hny2]
          clear al hny2 hx
          refine Txt.SegPost.mk (Txt.Ty.Shown.same HSy2.out) ?_
          refine Txt.RunPost.mk ?_
          refine Txt.Ty.wpTr_alt ?_ Txt.Ty.wpTr_no
          (try simp only [Txt.pick, List.getElem?_cons_succ, List.getElem?_cons_zero])
          go_wp2_with (at_builtin; refine wpList_app el46 Try.underlying46 HOy2.out HPy2.out HBy2.out rfl _ _ rfl rfl rfl ?c3 hqb ?c5 ?_)
          case c3 => omega
          case c5 => omega
          intro v1 y3 hown hbel hg hsz
          have HOy3 : Hid (y3.ownsRow q 22 1 v1 (pvs.length) (pvs.map (·.2))) := Lib.hid (by simpa using hown)
          have HXy3 := Lib.hid (Raw.keep (F' := []) HXy2.out (Keep.of_grown (F := [q]) hg (fun f hf => by simp [Value.ownBlock] at hf; exact .inl (by simp; omega))) (fun f hf => .inl hf) (fun f hf => by cases hf))
          have HSy3 := Lib.hid (same_keep HSy2.out (Keep.of_grown (F := [q]) hg (fun f hf => by simp [Value.ownBlock] at hf; exact .inl (by simp; omega))) (fun b hb hm => by have := HBl.out b hb; rw [List.mem_singleton.1 hm] at this; omega))
          have HBy3 := Lib.hid hbel
          have hqs : q < y3.heap.size := Nat.lt_of_lt_of_le hqs hsz
          obtain ⟨a1, c1, rfl⟩ := own_slice HOy3.out
          clear hown hbel hg hsz
          try simp only [Nat.zero_add]
          go_wp2
          refine Txt.SegPost.mk (Txt.Ty.Shown.same HSy3.out) ?_
          refine Txt.RunPost.mk ?_
          refine Txt.Ty.wpTr_alt ?_ Txt.Ty.wpTr_no
          (try simp only [Txt.pick, List.getElem?_cons_succ, List.getElem?_cons_zero])
          go_wp2_with (at_builtin; refine wpList_app el46 Try.underlying46 HOy3.out HXy3.out HBy3.out rfl _ _ rfl rfl rfl ?c3 hqb ?c5 ?_)
          case c3 => omega
          case c5 => omega
          intro v2 y4 hown hbel hg hsz
          have HOy4 := Lib.hid hown
          have HBy4 := Lib.hid hbel
          have HSy4 := Lib.hid (same_below' (w1 := u) HSu.out hbel)
          have hM := HM.out.below hbel
          have HM2 := Lib.hid hM
          have ec := box_at hM.box (j := 1) rfl
          have ef := box_free hM.box 1
          obtain ⟨a2, c2, rfl⟩ := own_slice HOy4.out
          clear hown hbel hg hsz hM
          go_wp2
          refine Txt.SegPost.mk (Txt.Ty.Shown.same HSy4.out) ?_
          (try simp only [Txt.pick, List.getElem?_cons_succ, List.getElem?_cons_zero])
          go_wp2
          refine Txt.RunPost.mk ?_
          refine Txt.Ty.wpTr_alt ?_ Txt.Ty.wpTr_no
          (try simp only [Txt.pick, List.getElem?_cons_succ, List.getElem?_cons_zero])
          go_wp2
          refine Txt.SegPost.mk (Txt.Ty.Shown.last rfl) ?_
          (try simp only [Txt.pick, List.getElem?_cons_succ, List.getElem?_cons_zero])
          try go_wp2
          refine Txt.RunPost.mk ?_
          refine Txt.Ty.wpTr_done (by rfl) ⟨.head _, .head _, trivial⟩ ?_
          go_wp2
          go_meet
          case rel => exact rel18 HM2.out HM.out HOy4.out hqb (HM.out.lt HF.out) H3.out H4.out HBy4.out
      · refine Txt.Ty.wpTr_alt ?_ Txt.Ty.wpTr_no
        (try simp only [Txt.pick, List.getElem?_cons_succ, List.getElem?_cons_zero])
        go_wp2
        obtain ⟨x, hx⟩ : ∃ q, q = u.heap.size := ⟨_, rfl⟩
        obtain ⟨y1, hny1⟩ : ∃ x, x = u.alloc (.cells (#[.slice ia img.length ic]) 22) := ⟨_, rfl⟩
        have al : Below u.heap.size u y1 := hny1 ▸ (Below.refl _ _).alloc (Nat.le_refl _) _
        have HXy1 : Hid (Raw [] 1 y1 (.slice (some ⟨x, 0, none⟩) 1 1) 1 ([.slice ia img.length ic])) := Lib.hid (Raw.of_block (ys := [.slice ia img.length ic]) (by rw [hny1, hx]; exact heap_alloc_new u _) (by simp) (by intro z hz; simp at hz; (try rcases hz with rfl | rfl | rfl) <;> (try subst hz) <;> rfl) rfl (Nat.le_refl _) (by unfold maxLen; omega))
        have HPy1 := Lib.hid (Raw.below HPu.out al)
        have HBy1 := Lib.hid (HBu.out.trans (al.mono HBu.out.size))
        have HSy1 := Lib.hid (same_below' HSu.out al)
        rw [← hx, ← hny1]
        clear al hny1 hx
        refine Txt.SegPost.mk (Txt.Ty.Shown.same HSy1.out) ?_
        refine Txt.RunPost.mk ?_
        refine Txt.Ty.wpTr_alt ?_ Txt.Ty.wpTr_no
        (try simp only [Txt.pick, List.getElem?_cons_succ, List.getElem?_cons_zero])
        go_wp2
        obtain ⟨q, hq⟩ : ∃ q, q = y1.heap.size := ⟨_, rfl⟩
        obtain ⟨y2, hny2⟩ : ∃ x, x = y1.alloc (.cells #[] 22) := ⟨_, rfl⟩
        have al : Below y1.heap.size y1 y2 := hny2 ▸ (Below.refl _ _).alloc (Nat.le_refl _) _
        have HOy2 : Hid (y2.ownsRow q 22 1 (.slice (some ⟨q, 0, none⟩) 0 0) 0 []) := Lib.hid (by rw [hny2, hq]; exact own_empty y1 y1.heap.size 22 1 (Nat.le_refl _))
        have HPy2 := Lib.hid (Raw.below HPy1.out al)
        have hqs : q < y2.heap.size := by rw [hq, hny2]; simp
        have hqb : u.heap.size ≤ q := by have := HBy1.out.size; omega
        have HXy2 : Hid (Raw [q] 1 y2 (.slice (some ⟨x, 0, none⟩) 1 1) 1 ([.slice ia img.length ic])) := Lib.hid (Raw.keep HXy1.out (Keep.of_below' (F := []) al) (fun f hf => by cases hf) (fun f hf => .inr (by rw [List.mem_singleton.1 hf, hq]; exact Nat.le_refl _)))
        have HBy2 := Lib.hid (HBy1.out.trans (al.mono HBy1.out.size))
        have HSy2 := Lib.hid (same_below' HSy1.out al)
        rw [← hq, ← hny2]
        clear al hny2 hq
        refine Txt.SegPost.mk (Txt.Ty.Shown.same HSy2.out) ?_
        refine Txt.RunPost.mk ?_
        refine Txt.Ty.wpTr_alt ?_ Txt.Ty.wpTr_no
        (try simp only [Txt.pick, List.getElem?_cons_succ, List.getElem?_cons_zero])
        go_wp2_with (at_builtin; refine wpList_app el46 Try.underlying46 HOy2.out HPy2.out HBy2.out rfl _ _ rfl rfl rfl ?c3 hqb ?c5 ?_)
        case c3 => omega
        case c5 => omega
        intro v1 y3 hown hbel hg hsz
        have HOy3 : Hid (y3.ownsRow q 22 1 v1 (pvs.length) (pvs.map (·.2))) := Lib.hid (by simpa using hown)
        have HXy3 := Lib.hid (Raw.keep (F' := []) HXy2.out (Keep.of_grown (F := [q]) hg (fun f hf => by simp [Value.ownBlock] at hf; exact .inl (by simp; omega))) (fun f hf => .inl hf) (fun f hf => by cases hf))
        have HSy3 := Lib.hid (same_keep HSy2.out (Keep.of_grown (F := [q]) hg (fun f hf => by simp [Value.ownBlock] at hf; exact .inl (by simp; omega))) (fun b hb hm => by have := HBl.out b hb; rw [List.mem_singleton.1 hm] at this; omega))
        have HBy3 := Lib.hid hbel
        have hqs : q < y3.heap.size := Nat.lt_of_lt_of_le hqs hsz
        obtain ⟨a1, c1, rfl⟩ := own_slice HOy3.out
        clear hown hbel hg hsz
        try simp only [Nat.zero_add]
        go_wp2
        refine Txt.SegPost.mk (Txt.Ty.Shown.same HSy3.out) ?_
        refine Txt.RunPost.mk ?_
        refine Txt.Ty.wpTr_alt ?_ Txt.Ty.wpTr_no
        (try simp only [Txt.pick, List.getElem?_cons_succ, List.getElem?_cons_zero])
        go_wp2_with (at_builtin; refine wpList_app el46 Try.underlying46 HOy3.out HXy3.out HBy3.out rfl _ _ rfl rfl rfl ?c3 hqb ?c5 ?_)
        case c3 => omega
        case c5 => omega
        intro v2 y4 hown hbel hg hsz
        have HOy4 := Lib.hid hown
        have HBy4 := Lib.hid hbel
        have HSy4 := Lib.hid (same_below' (w1 := u) HSu.out hbel)
        have hM := HM.out.below hbel
        have HM2 := Lib.hid hM
        have ec := box_at hM.box (j := 1) rfl
        have ef := box_free hM.box 1
        obtain ⟨a2, c2, rfl⟩ := own_slice HOy4.out
        clear hown hbel hg hsz hM
        go_wp2
        refine Txt.SegPost.mk (Txt.Ty.Shown.same HSy4.out) ?_
        (try simp only [Txt.pick, List.getElem?_cons_succ, List.getElem?_cons_zero])
        go_wp2
        refine Txt.RunPost.mk ?_
        refine Txt.Ty.wpTr_alt ?_ Txt.Ty.wpTr_no
        (try simp only [Txt.pick, List.getElem?_cons_succ, List.getElem?_cons_zero])
        go_wp2
        refine Txt.SegPost.mk (Txt.Ty.Shown.last rfl) ?_
        (try simp only [Txt.pick, List.getElem?_cons_succ, List.getElem?_cons_zero])
        try go_wp2
        refine Txt.RunPost.mk ?_
        refine Txt.Ty.wpTr_done (by rfl) ⟨.head _, .head _, trivial⟩ ?_
        go_wp2
        go_meet
        case rel => exact rel18 HM2.out HM.out HOy4.out hqb (HM.out.lt HF.out) H3.out H4.out HBy4.out
    case rest =>
      obtain ⟨pv2, hM⟩ := hcut
      clear HM
      obtain ⟨a18, n18, c18, rfl⟩ : ∃ a n c, pv2 = .slice a n c := by obtain ⟨_, hp, _⟩ := hM.md.past; obtain ⟨a, c, e⟩ := Raw.slice hp; exact ⟨_, _, _, e⟩
      obtain ⟨W, hW⟩ : ∃ W, W = wc := ⟨_, rfl⟩
      rw [← hW] at hM ⊢
      clear hW
      have HM := Lib.hid hM; clear hM
      go_wp2
      go_cut [] from 71 to 78 (fun wx => ∃ rv2, Mid F w wx g (.slice ia img.length ic) (.slice a18 n18 c18) rv2 ⟨img, past ++ [img], rs ++ [r], true⟩ r (.slice oa r.old.length oc) (.slice va img'.length vc) img')
      case first =>
        have hBl : ∀ b ∈ [w.heap.size, g], ∃ c e f, W.heap[b]? = some (.cells c e f) := fun b hb => by
          rcases List.mem_cons.1 hb with rfl | hb
          · exact ⟨_, _, _, HM.out.box⟩
          · rw [List.mem_singleton.1 hb]; exact ⟨_, _, _, HM.out.rcd⟩
        have hS := same_start hBl
        have hM := HM.out.below (Below.refl W.heap.size W).drew
        have hbz : ∀ b ∈ [w.heap.size, g], b < W.drew.heap.size := fun b hb => by
          rcases List.mem_cons.1 hb with rfl | hb
          · exact (Array.getElem?_eq_some_iff.1 hM.box).1
          · rw [List.mem_singleton.1 hb]; exact hM.gs
        refine Txt.Ty.wp_tree [w.heap.size, g] [2, 4] [8] [2, 4] [1, 2, 4] (.alt [0] (.alt [3] (.alt [5] (.alt [6, 7] (.alt [8] (.done) (.no)) (.no)) (.no)) (.alt [5] (.alt [3] (.alt [6, 7] (.alt [8] (.done) (.no)) (.no)) (.no)) (.no))) (.alt [5] (.alt [0] (.alt [3] (.alt [6, 7] (.alt [8] (.done) (.no)) (.no)) (.no)) (.no)) (.no))) (by kernel_rfl) (by kernel_rfl) (by kernel_rfl) (by kernel_rfl) hBl ?_
        obtain ⟨u, hu⟩ : ∃ u, u = W.drew := ⟨_, rfl⟩
        rw [← hu] at hS hM hbz ⊢
        have HMu := Lib.hid hM
        have HSu := Lib.hid hS
        have HBl := Lib.hid hbz
        have HBu := Lib.hid (Below.refl u.heap.size u)
        have H5 : Hid ((∀ p ∈ rvs, Bytes (g :: B3 w ++ F) u p.2 p.1.old) ∧ rvs.map (·.1) = rs) := Lib.hid ⟨fun p hp => hM.old (H50.out.2 p hp), H60.out⟩
        have HPu := Lib.hid (Raw.to_nil (hM.old H50.out.1))
        have b2 := box_at hM.box (j := 2) rfl
        have r0c := box_at hM.rcd (j := 0) rfl
        have r1c := box_at hM.rcd (j := 1) rfl
        have r2c := box_at hM.rcd (j := 2) rfl
        clear hu hS hM hbz hBl HM
        have HM := HMu
        (try simp only [Txt.pick, List.getElem?_cons_succ, List.getElem?_cons_zero])
        go_wp2
        refine Txt.RunPost.mk ?_
        refine Txt.Ty.wpTr_alt ?_ ?_
        · (try simp only [Txt.pick, List.getElem?_cons_succ, List.getElem?_cons_zero])
          go_wp2
          obtain ⟨q, hq⟩ : ∃ q, q = u.heap.size := ⟨_, rfl⟩
          obtain ⟨y1, hny1⟩ : ∃ x, x = u.alloc (.cells #[] 66) := ⟨_, rfl⟩
          have al : Below u.heap.size u y1 := hny1 ▸ (Below.refl _ _).alloc (Nat.le_refl _) _
          have HOy1 : Hid (y1.ownsRow q 66 3 (.slice (some ⟨q, 0, none⟩) 0 0) 0 []) := Lib.hid (by rw [hny1, hq]; exact own_empty u u.heap.size 66 3 (Nat.le_refl _))
          have HPy1 := Lib.hid (Raw.below HPu.out al)
          have hqs : q < y1.heap.size := by rw [hq, hny1]; simp
          have hqb : u.heap.size ≤ q := by have := HBu.out.size; omega
          have HBy1 := Lib.hid (HBu.out.trans (al.mono HBu.out.size))
          have HSy1 := Lib.hid (same_below' HSu.out al)
          rw [← hq, ← hny1]
          clear al hny1 hq
          refine Txt.SegPost.mk (Txt.Ty.Shown.same HSy1.out) ?_
          refine Txt.RunPost.mk ?_
          refine Txt.Ty.wpTr_alt ?_ ?_
          · (try simp only [Txt.pick, List.getElem?_cons_succ, List.getElem?_cons_zero])
            go_wp2_with (at_builtin; refine wpList_app el23 Try.underlying23 HOy1.out HPy1.out HBy1.out rfl _ _ rfl rfl rfl ?c3 hqb ?c5 ?_)
            case c3 => omega
            case c5 => omega
            intro v1 y2 hown hbel hg hsz
            have HOy2 : Hid (y2.ownsRow q 66 3 v1 (rvs.length) (rvs.flatMap encR)) := Lib.hid (by simpa using hown)
            have HSy2 := Lib.hid (same_keep HSy1.out (Keep.of_grown (F := [q]) hg (fun f hf => by simp [Value.ownBlock] at hf; exact .inl (by simp; omega))) (fun b hb hm => by have := HBl.out b hb; rw [List.mem_singleton.1 hm] at this; omega))
            have HBy2 := Lib.hid hbel
            have hqs : q < y2.heap.size := Nat.lt_of_lt_of_le hqs hsz
            obtain ⟨a1, c1, rfl⟩ := own_slice HOy2.out
            clear hown hbel hg hsz
            try simp only [Nat.zero_add]
            go_wp2
            refine Txt.SegPost.mk (Txt.Ty.Shown.same HSy2.out) ?_
            refine Txt.RunPost.mk ?_
            refine Txt.Ty.wpTr_alt ?_ Txt.Ty.wpTr_no
            (try simp only [Txt.pick, List.getElem?_cons_succ, List.getElem?_cons_zero])
            go_wp2
            obtain ⟨x, hx⟩ : ∃ q, q = y2.heap.size := ⟨_, rfl⟩
            obtain ⟨y3, hny3⟩ : ∃ x, x = y2.alloc (.cells (#[.int .i64 r.off, .int .i64 r.len, .slice oa r.old.length oc]) 66) := ⟨_, rfl⟩
            have al : Below y2.heap.size y2 y3 := hny3 ▸ (Below.refl _ _).alloc (Nat.le_refl _) _
            have HXy3 : Hid (Raw [q] 3 y3 (.slice (some ⟨x, 0, none⟩) 1 1) 1 ([.int .i64 r.off, .int .i64 r.len, .slice oa r.old.length oc])) := Lib.hid (Raw.of_block (ys := [.int .i64 r.off, .int .i64 r.len, .slice oa r.old.length oc]) (by rw [hny3, hx]; exact heap_alloc_new y2 _) (by simp; omega) (by intro z hz; simp at hz; (try rcases hz with rfl | rfl | rfl) <;> (try subst hz) <;> rfl) rfl (Nat.le_refl _) (by unfold maxLen; omega))
            have HOy3 := Lib.hid (own_below HOy2.out al (Nat.le_refl _))
            have hqs : q < y3.heap.size := Nat.lt_of_lt_of_le hqs al.size
            have HBy3 := Lib.hid (HBy2.out.trans (al.mono HBy2.out.size))
            have HSy3 := Lib.hid (same_below' HSy2.out al)
            rw [← hx, ← hny3]
            clear al hny3 hx
            refine Txt.SegPost.mk (Txt.Ty.Shown.same HSy3.out) ?_
            refine Txt.RunPost.mk ?_
            refine Txt.Ty.wpTr_alt ?_ Txt.Ty.wpTr_no
            (try simp only [Txt.pick, List.getElem?_cons_succ, List.getElem?_cons_zero])
            go_wp2_with (at_builtin; refine wpList_app el23 Try.underlying23 HOy3.out HXy3.out HBy3.out rfl _ _ rfl rfl rfl ?c3 hqb ?c5 ?_)
            case c3 => omega
            case c5 => omega
            intro v2 y4 hown hbel hg hsz
            have HOy4 := Lib.hid hown
            have HBy4 := Lib.hid hbel
            have HSy4 := Lib.hid (same_below' (w1 := u) HSu.out hbel)
            have hM := HM.out.below hbel
            have HM2 := Lib.hid hM
            have ec := box_at hM.box (j := 2) rfl
            have ef := box_free hM.box 2
            obtain ⟨a2, c2, rfl⟩ := own_slice HOy4.out
            clear hown hbel hg hsz hM
            go_wp2
            refine Txt.SegPost.mk (Txt.Ty.Shown.same HSy4.out) ?_
            (try simp only [Txt.pick, List.getElem?_cons_succ, List.getElem?_cons_zero])
            go_wp2
            refine Txt.RunPost.mk ?_
            refine Txt.Ty.wpTr_alt ?_ Txt.Ty.wpTr_no
            (try simp only [Txt.pick, List.getElem?_cons_succ, List.getElem?_cons_zero])
            go_wp2
            refine Txt.SegPost.mk (Txt.Ty.Shown.last rfl) ?_
            (try simp only [Txt.pick, List.getElem?_cons_succ, List.getElem?_cons_zero])
            try go_wp2
            refine Txt.RunPost.mk ?_
            refine Txt.Ty.wpTr_done (by rfl) ⟨.head _, .tail _ (.head _), trivial⟩ ?_
            go_wp2
            go_meet
            case rel => exact rel19 HM2.out HM.out HOy4.out hqb (HM.out.lt HF.out) H5.out HBy4.out
          · refine Txt.Ty.wpTr_alt ?_ Txt.Ty.wpTr_no
            (try simp only [Txt.pick, List.getElem?_cons_succ, List.getElem?_cons_zero])
            go_wp2
            obtain ⟨x, hx⟩ : ∃ q, q = y1.heap.size := ⟨_, rfl⟩
            obtain ⟨y2, hny2⟩ : ∃ x, x = y1.alloc (.cells (#[.int .i64 r.off, .int .i64 r.len, .slice oa r.old.length oc]) 66) := ⟨_, rfl⟩
            have al : Below y1.heap.size y1 y2 := hny2 ▸ (Below.refl _ _).alloc (Nat.le_refl _) _
            have HXy2 : Hid (Raw [q] 3 y2 (.slice (some ⟨x, 0, none⟩) 1 1) 1 ([.int .i64 r.off, .int .i64 r.len, .slice oa r.old.length oc])) := Lib.hid (Raw.of_block (ys := [.int .i64 r.off, .int .i64 r.len, .slice oa r.old.length oc]) (by rw [hny2, hx]; exact heap_alloc_new y1 _) (by simp; omega) (by intro z hz; simp at hz; (try rcases hz with rfl | rfl | rfl) <;> (try subst hz) <;> rfl) rfl (Nat.le_refl _) (by unfold maxLen; omega))
            have HPy2 := Lib.hid (Raw.below HPy1.out al)
            have HOy2 := Lib.hid (own_below HOy1.out al (Nat.le_refl _))
            have hqs : q < y2.heap.size := Nat.lt_of_lt_of_le hqs al.size
            have HBy2 := Lib.hid (HBy1.out.trans (al.mono HBy1.out.size))
            have HSy2 := Lib.hid (same_below' HSy1.out al)
            rw [← hx, ← hny2]
            clear al hny2 hx
            refine Txt.SegPost.mk (Txt.Ty.Shown.same HSy2.out) ?_
            refine Txt.RunPost.mk ?_
            refine Txt.Ty.wpTr_alt ?_ Txt.Ty.wpTr_no
            (try simp only [Txt.pick, List.getElem?_cons_succ, List.getElem?_cons_zero])
            go_wp2_with (at_builtin; refine wpList_app el23 Try.underlying23 HOy2.out HPy2.out HBy2.out rfl _ _ rfl rfl rfl ?c3 hqb ?c5 ?_)
            case c3 => omega
            case c5 => omega
            intro v1 y3 hown hbel hg hsz
            have HOy3 : Hid (y3.ownsRow q 66 3 v1 (rvs.length) (rvs.flatMap encR)) := Lib.hid (by simpa using hown)
            have HXy3 := Lib.hid (Raw.keep (F' := []) HXy2.out (Keep.of_grown (F := [q]) hg (fun f hf => by simp [Value.ownBlock] at hf; exact .inl (by simp; omega))) (fun f hf => .inl hf) (fun f hf => by cases hf))
            have HSy3 := Lib.hid (same_keep HSy2.out (Keep.of_grown (F := [q]) hg (fun f hf => by simp [Value.ownBlock] at hf; exact .inl (by simp; omega))) (fun b hb hm => by have := HBl.out b hb; rw [List.mem_singleton.1 hm] at this; omega))
            have HBy3 := Lib.hid hbel
            have hqs : q < y3.heap.size := Nat.lt_of_lt_of_le hqs hsz
            obtain ⟨a1, c1, rfl⟩ := own_slice HOy3.out
            clear hown hbel hg hsz
            try simp only [Nat.zero_add]
            go_wp2
            refine Txt.SegPost.mk (Txt.Ty.Shown.same HSy3.out) ?_
            refine Txt.RunPost.mk ?_
            refine Txt.Ty.wpTr_alt ?_ Txt.Ty.wpTr_no
            (try simp only [Txt.pick, List.getElem?_cons_succ, List.getElem?_cons_zero])
            go_wp2_with (at_builtin; refine wpList_app el23 Try.underlying23 HOy3.out HXy3.out HBy3.out rfl _ _ rfl rfl rfl ?c3 hqb ?c5 ?_)
            case c3 => omega
            case c5 => omega
            intro v2 y4 hown hbel hg hsz
            have HOy4 := Lib.hid hown
            have HBy4 := Lib.hid hbel
            have HSy4 := Lib.hid (same_below' (w1 := u) HSu.out hbel)
            have hM := HM.out.below hbel
            have HM2 := Lib.hid hM
            have ec := box_at hM.box (j := 2) rfl
            have ef := box_free hM.box 2
            obtain ⟨a2, c2, rfl⟩ := own_slice HOy4.out
            clear hown hbel hg hsz hM
            go_wp2
            refine Txt.SegPost.mk (Txt.Ty.Shown.same HSy4.out) ?_
            (try simp only [Txt.pick, List.getElem?_cons_succ, List.getElem?_cons_zero])
            go_wp2
            refine Txt.RunPost.mk ?_
            refine Txt.Ty.wpTr_alt ?_ Txt.Ty.wpTr_no
            (try simp only [Txt.pick, List.getElem?_cons_succ, List.getElem?_cons_zero])
            go_wp2
            refine Txt.SegPost.mk (Txt.Ty.Shown.last rfl) ?_
            (try simp only [Txt.pick, List.getElem?_cons_succ, List.getElem?_cons_zero])
            try go_wp2
            refine Txt.RunPost.mk ?_
            refine Txt.Ty.wpTr_done (by rfl) ⟨.head _, .tail _ (.head _), trivial⟩ ?_
            go_wp2
            go_meet
            case rel => exact rel19 HM2.out HM.out HOy4.out hqb (HM.out.lt HF.out) H5.out HBy4.out
        · refine Txt.Ty.wpTr_alt ?_ Txt.Ty.wpTr_no
          (try simp only [Txt.pick, List.getElem?_cons_succ, List.getElem?_cons_zero])
          go_wp2
          obtain ⟨x, hx⟩ : ∃ q, q = u.heap.size := ⟨_, rfl⟩
          obtain ⟨y1, hny1⟩ : ∃ x, x = u.alloc (.cells (#[.int .i64 r.off, .int .i64 r.len, .slice oa r.old.length oc]) 66) := ⟨_, rfl⟩
          have al : Below u.heap.size u y1 := hny1 ▸ (Below.refl _ _).alloc (Nat.le_refl _) _
          have HXy1 : Hid (Raw [] 3 y1 (.slice (some ⟨x, 0, none⟩) 1 1) 1 ([.int .i64 r.off, .int .i64 r.len, .slice oa r.old.length oc])) := Lib.hid (Raw.of_block (ys := [.int .i64 r.off, .int .i64 r.len, .slice oa r.old.length oc]) (by rw [hny1, hx]; exact heap_alloc_new u _) (by simp) (by intro z hz; simp at hz; (try rcases hz with rfl | rfl | rfl) <;> (try subst hz) <;> rfl) rfl (Nat.le_refl _) (by unfold maxLen; omega))
          have HPy1 := Lib.hid (Raw.below HPu.out al)
          have HBy1 := Lib.hid (HBu.out.trans (al.mono HBu.out.size))
          have HSy1 := Lib.hid (same_below' HSu.out al)
          rw [← hx, ← hny1]
          clear al hny1 hx
          refine Txt.SegPost.mk (Txt.Ty.Shown.same HSy1.out) ?_
          refine Txt.RunPost.mk ?_
          refine Txt.Ty.wpTr_alt ?_ Txt.Ty.wpTr_no
          (try simp only [Txt.pick, List.getElem?_cons_succ, List.getElem?_cons_zero])
          go_wp2
          obtain ⟨q, hq⟩ : ∃ q, q = y1.heap.size := ⟨_, rfl⟩
          obtain ⟨y2, hny2⟩ : ∃ x, x = y1.alloc (.cells #[] 66) := ⟨_, rfl⟩
          have al : Below y1.heap.size y1 y2 := hny2 ▸ (Below.refl _ _).alloc (Nat.le_refl _) _
          have HOy2 : Hid (y2.ownsRow q 66 3 (.slice (some ⟨q, 0, none⟩) 0 0) 0 []) := Lib.hid (by rw [hny2, hq]; exact own_empty y1 y1.heap.size 66 3 (Nat.le_refl _))
          have HPy2 := Lib.hid (Raw.below HPy1.out al)
          have hqs : q < y2.heap.size := by rw [hq, hny2]; simp
          have hqb : u.heap.size ≤ q := by have := HBy1.out.size; omega
          have HXy2 : Hid (Raw [q] 3 y2 (.slice (some ⟨x, 0, none⟩) 1 1) 1 ([.int .i64 r.off, .int .i64 r.len, .slice oa r.old.length oc])) := Lib.hid (Raw.keep HXy1.out (Keep.of_below' (F := []) al) (fun f hf => by cases hf) (fun f hf => .inr (by rw [List.mem_singleton.1 hf, hq]; exact Nat.le_refl _)))
          have HBy2 := Lib.hid (HBy1.out.trans (al.mono HBy1.out.size))
          have HSy2 := Lib.hid (same_below' HSy1.out al)
          rw [← hq, ← hny2]
          clear al hny2 hq
          refine Txt.SegPost.mk (Txt.Ty.Shown.same HSy2.out) ?_
          refine Txt.RunPost.mk ?_
          refine Txt.Ty.wpTr_alt ?_ Txt.Ty.wpTr_no
          (try simp only [Txt.pick, List.getElem?_cons_succ, List.getElem?_cons_zero])
          go_wp2_with (at_builtin; refine wpList_app el23 Try.underlying23 HOy2.out HPy2.out HBy2.out rfl _ _ rfl rfl rfl ?c3 hqb ?c5 ?_)
          case c3 => omega
          case c5 => omega
          intro v1 y3 hown hbel hg hsz
          have HOy3 : Hid (y3.ownsRow q 66 3 v1 (rvs.length) (rvs.flatMap encR)) := Lib.hid (by simpa using hown)
          have HXy3 := Lib.hid (Raw.keep (F' := []) HXy2.out (Keep.of_grown (F := [q]) hg (fun f hf => by simp [Value.ownBlock] at hf; exact .inl (by simp; omega))) (fun f hf => .inl hf) (fun f hf => by cases hf))
          have HSy3 := Lib.hid (same_keep HSy2.out (Keep.of_grown (F := [q]) hg (fun f hf => by simp [Value.ownBlock] at hf; exact .inl (by simp; omega))) (fun b hb hm => by have := HBl.out b hb; rw [List.mem_singleton.1 hm] at this; omega))
          have HBy3 := Lib.hid hbel
          have hqs : q < y3.heap.size := Nat.lt_of_lt_of_le hqs hsz
          obtain ⟨a1, c1, rfl⟩ := own_slice HOy3.out
          clear hown hbel hg hsz
          try simp only [Nat.zero_add]
          go_wp2
          refine Txt.SegPost.mk (Txt.Ty.Shown.same HSy3.out) ?_
          refine Txt.RunPost.mk ?_
          refine Txt.Ty.wpTr_alt ?_ Txt.Ty.wpTr_no
          (try simp only [Txt.pick, List.getElem?_cons_succ, List.getElem?_cons_zero])
          go_wp2_with (at_builtin; refine wpList_app el23 Try.underlying23 HOy3.out HXy3.out HBy3.out rfl _ _ rfl rfl rfl ?c3 hqb ?c5 ?_)
          case c3 => omega
          case c5 => omega
          intro v2 y4 hown hbel hg hsz
          have HOy4 := Lib.hid hown
          have HBy4 := Lib.hid hbel
          have HSy4 := Lib.hid (same_below' (w1 := u) HSu.out hbel)
          have hM := HM.out.below hbel
          have HM2 := Lib.hid hM
          have ec := box_at hM.box (j := 2) rfl
          have ef := box_free hM.box 2
          obtain ⟨a2, c2, rfl⟩ := own_slice HOy4.out
          clear hown hbel hg hsz hM
          go_wp2
          refine Txt.SegPost.mk (Txt.Ty.Shown.same HSy4.out) ?_
          (try simp only [Txt.pick, List.getElem?_cons_succ, List.getElem?_cons_zero])
          go_wp2
          refine Txt.RunPost.mk ?_
          refine Txt.Ty.wpTr_alt ?_ Txt.Ty.wpTr_no
          (try simp only [Txt.pick, List.getElem?_cons_succ, List.getElem?_cons_zero])
          go_wp2
          refine Txt.SegPost.mk (Txt.Ty.Shown.last rfl) ?_
          (try simp only [Txt.pick, List.getElem?_cons_succ, List.getElem?_cons_zero])
          try go_wp2
          refine Txt.RunPost.mk ?_
          refine Txt.Ty.wpTr_done (by rfl) ⟨.head _, .tail _ (.head _), trivial⟩ ?_
          go_wp2
          go_meet
          case rel => exact rel19 HM2.out HM.out HOy4.out hqb (HM.out.lt HF.out) H5.out HBy4.out
      case rest =>
        obtain ⟨rv2, hM⟩ := hcut
        clear HM
        obtain ⟨a19, n19, c19, rfl⟩ : ∃ a n c, rv2 = .slice a n c := by obtain ⟨_, hp, _⟩ := hM.md.recs; obtain ⟨a, c, e⟩ := Raw.slice hp.1; exact ⟨_, _, _, e⟩
        have hM2 := hM.put (j := 0) (u := .slice va img'.length vc) (iv2 := .slice va img'.length vc) (pv2 := .slice a18 n18 c18) (rv2 := .slice a19 n19 c19) (m2 := ⟨img', past ++ [img], rs ++ [r], true⟩) rfl ⟨hM.hv, hM.md.past, hM.md.recs⟩
        have b0 := box_at hM.box (j := 0) rfl
        have f0 := box_free hM.box 0
        have HM := Lib.hid hM2
        clear hM hM2
        go_upto_region 21 with (fail)
        obtain ⟨W, hW⟩ : ∃ W, W = wc.setCell ⟨w.heap.size, 0, none⟩ (.slice va img'.length vc) := ⟨_, rfl⟩
        rw [← hW] at HM
        rw [← hW]
        clear hW b0 f0
        have b0 := box_at HM.out.box (j := 0) rfl
        have b1 := box_at HM.out.box (j := 1) rfl
        have b2 := box_at HM.out.box (j := 2) rfl
        have b3 := box_at HM.out.box (j := 3) rfl
        have q0 := box_at HM.out.res (j := 0) rfl
        have q1 := box_at HM.out.res (j := 1) rfl
        have q2 := box_at HM.out.res (j := 2) rfl
        have q3 := box_at HM.out.res (j := 3) rfl
        have t0 := box_free HM.out.res 0
        have t1 := box_free HM.out.res 1
        have t2 := box_free HM.out.res 2
        have t3 := box_free HM.out.res 3

        go_wp2
        refine bodyPost_ret (results_ct rfl _ _ _ _ _ _ _ rfl (heap_set4 HM.out.res _ _ _ _) Try.underlying48 rfl (by kernel_rfl)) rfl ?_
        rw [E1.out]
        exact ⟨_, _, _, rfl, (HM.out.out _ _ _ _).1, (HM.out.out (fin := true) _ _ _ _).2⟩
  · have e1 : wrM ⟨img, past, rs, true⟩ ((img', r), er) = (⟨img, past, rs, true⟩, er) := by simp [wrM, hz]
    have E1 := Lib.hid e1; clear e1
    have hz1 : (er != 0) = true := by simpa using hz
    clear hz
    go_wp2
    refine bodyPost_ret (results_ct rfl _ _ _ _ _ _ _ rfl (heap_set4 HM.out.res _ _ _ _) Try.underlying48 rfl (by kernel_rfl)) rfl ?_
    rw [E1.out]
    exact ⟨_, _, _, rfl, (HM.out.out _ _ _ _).1, (HM.out.out (fin := true) _ _ _ _).2⟩
end Go.Proofs.Yteefimjgcabpoaa
