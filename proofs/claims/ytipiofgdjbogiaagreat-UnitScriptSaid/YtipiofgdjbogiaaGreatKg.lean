/- the reference's store: New, Commit, Abort -/
import Derived.Test.YtipiofgdjbogiaaGreatKf
set_option maxRecDepth 100000
set_option maxHeartbeats 2000000
namespace Go.Im
open Go Go.Txt Go.RowKit Go.Bs Go.Cl Go.Rw Go.Un
theorem heap_set7 {w:World} {g:Nat} {x0 x1 x2 x3 x4 x5 x6:Value} {t:TypeId} (h:w.heap[g]? =some (.cells #[x0,x1,x2,x3,x4,x5,x6] t (0,0))) (a0 a1 a2 a3 a4 a5 a6:Value):
  (((((((w.setCell ⟨g,0,none⟩ a0).setCell ⟨g,1,none⟩ a1).setCell ⟨g,2,none⟩ a2).setCell ⟨g,3,none⟩ a3).setCell ⟨g,4,none⟩ a4).setCell ⟨g,5,none⟩ a5).setCell ⟨g,6,none⟩ a6).heap[g]? =some (.cells #[a0,a1,a2,a3,a4,a5,a6] t (0,0))∧
  Keep [g] w (((((((w.setCell ⟨g,0,none⟩ a0).setCell ⟨g,1,none⟩ a1).setCell ⟨g,2,none⟩ a2).setCell ⟨g,3,none⟩ a3).setCell ⟨g,4,none⟩ a4).setCell ⟨g,5,none⟩ a5).setCell ⟨g,6,none⟩ a6):=by
 obtain ⟨w1,e1⟩:∃w1,w1=w.setCell ⟨g,0,none⟩ a0:=⟨_,rfl⟩
 have h0:w1.heap[g]? =some (.cells #[a0,x1,x2,x3,x4,x5,x6] t (0,0)):=by rw[e1];exact heap_setCell_same w g 0 _ t a0 h
 have k0:Keep [g] w w1:=by rw[e1];exact Keep.setCell (Keep.refl [g] w) (by simp) _
 obtain ⟨w2,e2⟩:∃w2,w2=w1.setCell ⟨g,1,none⟩ a1:=⟨_,rfl⟩
 have h1:w2.heap[g]? =some (.cells #[a0,a1,x2,x3,x4,x5,x6] t (0,0)):=by rw[e2];exact heap_setCell_same w1 g 1 _ t a1 h0
 have k1:Keep [g] w w2:=by rw[e2];exact Keep.setCell k0 (by simp) _
 obtain ⟨w3,e3⟩:∃w3,w3=w2.setCell ⟨g,2,none⟩ a2:=⟨_,rfl⟩
 have h2:w3.heap[g]? =some (.cells #[a0,a1,a2,x3,x4,x5,x6] t (0,0)):=by rw[e3];exact heap_setCell_same w2 g 2 _ t a2 h1
 have k2:Keep [g] w w3:=by rw[e3];exact Keep.setCell k1 (by simp) _
 obtain ⟨w4,e4⟩:∃w4,w4=w3.setCell ⟨g,3,none⟩ a3:=⟨_,rfl⟩
 have h3:w4.heap[g]? =some (.cells #[a0,a1,a2,a3,x4,x5,x6] t (0,0)):=by rw[e4];exact heap_setCell_same w3 g 3 _ t a3 h2
 have k3:Keep [g] w w4:=by rw[e4];exact Keep.setCell k2 (by simp) _
 obtain ⟨w5,e5⟩:∃w5,w5=w4.setCell ⟨g,4,none⟩ a4:=⟨_,rfl⟩
 have h4:w5.heap[g]? =some (.cells #[a0,a1,a2,a3,a4,x5,x6] t (0,0)):=by rw[e5];exact heap_setCell_same w4 g 4 _ t a4 h3
 have k4:Keep [g] w w5:=by rw[e5];exact Keep.setCell k3 (by simp) _
 obtain ⟨w6,e6⟩:∃w6,w6=w5.setCell ⟨g,5,none⟩ a5:=⟨_,rfl⟩
 have h5:w6.heap[g]? =some (.cells #[a0,a1,a2,a3,a4,a5,x6] t (0,0)):=by rw[e6];exact heap_setCell_same w5 g 5 _ t a5 h4
 have k5:Keep [g] w w6:=by rw[e6];exact Keep.setCell k4 (by simp) _
 obtain ⟨w7,e7⟩:∃w7,w7=w6.setCell ⟨g,6,none⟩ a6:=⟨_,rfl⟩
 have h6:w7.heap[g]? =some (.cells #[a0,a1,a2,a3,a4,a5,a6] t (0,0)):=by rw[e7];exact heap_setCell_same w6 g 6 _ t a6 h5
 have k6:Keep [g] w w7:=by rw[e7];exact Keep.setCell k5 (by simp) _
 rw[←e1,←e2,←e3,←e4,←e5,←e6,←e7]
 exact ⟨h6,k6⟩
theorem RV.sets {F:List Nat} {w u:World} {r:Nat} (x0 x1 x2 x3 x4 x5 x6:Value) {t:TypeId} (hr:w.heap[r]? =some (.cells #[x0,x1,x2,x3,x4,x5,x6] t (0,0))) (hb:Below u.heap.size u w) (hur:u.heap.size≤r) {iv wv nv tv:Value} {m:Rf} (h:RV (r::F) w (.agg #[iv,wv,nv,.int .i64 m.ver,.bool m.inst,.bool m.rz,tv]) m):
  let W:=(((((((w.setCell ⟨r,0,none⟩ iv).setCell ⟨r,1,none⟩ wv).setCell ⟨r,2,none⟩ nv).setCell ⟨r,3,none⟩ (.int .i64 m.ver)).setCell ⟨r,4,none⟩ (.bool m.inst)).setCell ⟨r,5,none⟩ (.bool m.rz)).setCell ⟨r,6,none⟩ tv)
  W.heap[r]? =some (.cells #[iv,wv,nv,.int .i64 m.ver,.bool m.inst,.bool m.rz,tv] t (0,0))∧RV F W (.agg #[iv,wv,nv,.int .i64 m.ver,.bool m.inst,.bool m.rz,tv]) m∧Below u.heap.size u W:=by
 obtain ⟨h1,h2⟩:=heap_set7 hr iv wv nv (.int .i64 m.ver) (.bool m.inst) (.bool m.rz) tv
 exact ⟨h1,h.keep h2 (fun f hf=> .inl (by rw[M1' hf];simp)) (fun f hf=> .inl (List.mem_cons_of_mem _ hf)),hb.trans (h2.below (B:=u.heap.size) hb.size (fun f hf=>by rw[M1' hf];exact hur))⟩
theorem heap_alloc2 (w:World) (A B:Obj):((w.alloc A).alloc B).heap[w.heap.size+1]? =some B:=by simpa only[World.size_alloc] using heap_alloc_new (w.alloc A) B
theorem heap_alloc2_0 (w:World) (A B:Obj):((w.alloc A).alloc B).heap[w.heap.size]? =some A:=(((Br (w.alloc A).heap.size (w.alloc A)).alloc (Nr _) B).block w.heap.size (by simp)).trans (heap_alloc_new w A)
theorem below_alloc2 (w:World) (A B:Obj):Below w.heap.size w ((w.alloc A).alloc B):=((Br w.heap.size w).alloc (Nr _) A).alloc (by simp) B
end Go.Im
namespace Go.Proofs.YtipiofgdjbogiaaGreat
open Go.Txt Go.RowKit Go.Bs Go.Cl Go.Rw Go.Un Go.Im
theorem rnew_any {F:List Nat} (bv:Value) (b:List UInt8) (w:World) (hb:b.length≤24000) (hF:∀f∈F,f<w.heap.size) (hB:Bytes F w bv b):
  Calls Tryz.prog 31 #[bv] w (RE F w (rfNew b) 0):=by
 obtain ⟨ba,bc,rfl⟩:=Rs hB
 have hwu:Below w.heap.size w (w.alloc (.cells #[.slice none 0 0,.slice none 0 0,.slice none 0 0,.int .i64 0,.bool false,.bool false,.slice none 0 0] 32)):=(Br w.heap.size w).alloc (Nr _) _
 have HR:Hid ((w.alloc (.cells #[.slice none 0 0,.slice none 0 0,.slice none 0 0,.int .i64 0,.bool false,.bool false,.slice none 0 0] 32)).heap[w.heap.size]? =some (.cells #[.slice none 0 0,.slice none 0 0,.slice none 0 0,.int .i64 0,.bool false,.bool false,.slice none 0 0] 32 (0,0))):=Hj (heap_alloc_new w _)
 have hbl:(b.length:Int)≤24000:=by omega
 have HO:Hid (((w.alloc (.cells #[.slice none 0 0,.slice none 0 0,.slice none 0 0,.int .i64 0,.bool false,.bool false,.slice none 0 0] 32)).alloc (.cells #[] 5)).ownsRow (w.heap.size+1) 5 1 (.slice (some ⟨w.heap.size+1,0,none⟩) 0 0) 0 []):=Hj (by simpa only[World.size_alloc] using own_empty (w.alloc (.cells #[.slice none 0 0,.slice none 0 0,.slice none 0 0,.int .i64 0,.bool false,.bool false,.slice none 0 0] 32)) (w.alloc (.cells #[.slice none 0 0,.slice none 0 0,.slice none 0 0,.int .i64 0,.bool false,.bool false,.slice none 0 0] 32)).heap.size 5 1 (Nr _))
 have al:=(Br (w.alloc (.cells #[.slice none 0 0,.slice none 0 0,.slice none 0 0,.int .i64 0,.bool false,.bool false,.slice none 0 0] 32)).heap.size (w.alloc (.cells #[.slice none 0 0,.slice none 0 0,.slice none 0 0,.int .i64 0,.bool false,.bool false,.slice none 0 0] 32))).alloc (Nr _) (.cells #[] 5)
 rw[World.size_alloc] at al
 have HB:=Hj (Rb hB hwu)
 have HB1:=Hj (Raw.alloc HB.out (.cells #[] 5))
 clear hB
 go_enter Tryz.func31,Tryz.ntmps31
 go_wp2_with (at_builtin;refine wpList_app el22 Tryz.underlying22 HO.out HB1.out al rfl _ _ rfl rfl rfl ?c3 (Nr _) ?c5 ?_)
 case c3=>omega
 case c5=>simp
 intro v1 w1 hown1 hb1 _ _
 have hs1:=hb1.size
 have HV1:Hid (Bytes (w.heap.size::F) w1 v1 b):=Hj (Bytes.of_own hown1 rfl (fun f hf=>by
  rcases List.mem_cons.1 hf with rfl | hf
  ·omega
  have:=hF f hf;omega))
 have hbw1:=hwu.trans (hb1.mono (by omega))
 have HB2:=Hj (Rb HB.out (by rw[World.size_alloc];exact hb1))
 have HB3:=Hj (Raw.alloc HB2.out (.cells #[] 5))
 have HR1:=Hj ((hb1.block w.heap.size (by omega)).trans HR.out)
 have HO1:=Hj (own_empty w1 w1.heap.size 5 1 (Nr _))
 have al1:=(Br w1.heap.size w1).alloc (Nr _) (.cells #[] 5)
 obtain ⟨va,vc,rfl⟩:=Oq hown1
 clear hown1 HO al HB1
 go_wp2_with (at_builtin;refine wpList_app el22 Tryz.underlying22 HO1.out HB3.out al1 rfl _ _ rfl rfl rfl ?c3 (Nr _) ?c5 ?_)
 case c3=>omega
 case c5=>simp
 intro v2 w2 hown2 hb2 _ _
 have hs2:=hb2.size
 have hs1':=hbw1.size
 have HV2:Hid (Bytes (w.heap.size::F) w2 v2 b):=Hj (Bytes.of_own hown2 rfl (fun f hf=>by
  rcases List.mem_cons.1 hf with rfl | hf
  ·simp at hs1;omega
  have:=hF f hf;omega))
 have HR2:=Hj ((hb2.block w.heap.size (by simp at hs1;omega)).trans HR1.out)
 obtain ⟨vb,vd,rfl⟩:=Oq hown2
 clear hown2
 have r0:=Bj HR2.out 0 rfl
 have r1:=Bj HR2.out 1 rfl
 have r2:=Bj HR2.out 2 rfl
 have r3:=Bj HR2.out 3 rfl
 have r4:=Bj HR2.out 4 rfl
 have r5:=Bj HR2.out 5 rfl
 have r6:=Bj HR2.out 6 rfl
 have fr0:=Bf HR2.out 0
 have fr1:=Bf HR2.out 1
 have fr2:=Bf HR2.out 2
 have fr3:=Bf HR2.out 3
 have fr4:=Bf HR2.out 4
 have fr5:=Bf HR2.out 5
 have fr6:=Bf HR2.out 6
 obtain ⟨q1,q2,q3⟩:=RV.sets (u:=w) (F:=F) _ _ _ _ _ _ _ HR2.out (hbw1.trans (hb2.mono hs1')) (Nr _) (m:=rfNew b) ⟨_,_,_,_,rfl,Rb HV1.out hb2,HV2.out,Raw.empty _ _ _,ChR.empty _ _⟩
 simp only[rfNew] at q1 q2 q3
 have Q1:=Hj q1;have Q2:=Hj q2;have Q3:=Hj q3
 clear q1 q2 q3
 go_wp2
 refine bodyPost_ret (results_ct rfl _ _ _ _ _ _ _ rfl Q1.out Tryz.underlying32 rfl (by kernel_rfl)) rfl ?_
 exact ⟨_,rfl,Q2.out,Q3.out⟩
theorem rcommit_any {F:List Nat} (v:Value) (m:Rf) (w:World) (hg:m.Good) (h:RV F w v m):
  Calls Tryz.prog 55 #[v] w (RE F w (rfCommit m).1 (rfCommit m).2):=by
 obtain ⟨image,working,next,ver,inst,rz,todo⟩:=m
 have hv:(ver:Int)≤1000000:=by have:=hg.vl;simp only at this;omega
 have htl:todo.length≤1000:=hg.tl
 obtain ⟨iv,wv,nv,tv,rfl,h1,h2,h3,h4⟩:=h
 obtain ⟨ia,ic,rfl⟩:=Rs h1
 obtain ⟨wa,wc,rfl⟩:=Rs h2
 obtain ⟨na,nc,rfl⟩:=Rs h3
 obtain ⟨ta,tc,rfl⟩:=h4.slice
 have H1:=Hj h1;have H2:=Hj h2;have H3:=Hj h3;have H4:=Hj h4
 simp only at H1 H2 H3 H4
 clear h1 h2 h3 h4 hg
 cases inst
 ·have e1:rfCommit ⟨image,working,next,ver,false,rz,todo⟩=(⟨image,working,next,ver,false,rz,todo⟩,7):=by simp[rfCommit]
  rw[e1]
  clear e1
  go_enter Tryz.func55,Tryz.ntmps55
  go_wp2
  refine bodyPost_ret (results_ct rfl _ _ _ _ _ _ _ rfl (heap_alloc2 _ _ _) Tryz.underlying32 rfl (by kernel_rfl)) rfl ?_
  exact ⟨_,rfl,RV.below ⟨_,_,_,_,rfl,H1.out,H2.out,H3.out,H4.out⟩ (below_alloc2 _ _ _),below_alloc2 _ _ _⟩
 obtain ⟨lf,hlf⟩:∃lf,lf=Rf.left ⟨image,working,next,ver,true,rz,todo⟩:=⟨_,rfl⟩
 have hll:lf≤1001:=by rw[hlf];unfold Rf.left;simp only;split <;> omega
 have HW:Hid (RV F w (.agg #[.slice ia image.length ic,.slice wa working.length wc,.slice na next.length nc,.int .i64 ver,.bool true,.bool rz,.slice ta todo.length tc]) ⟨image,working,next,ver,true,rz,todo⟩):=Hj ⟨_,_,_,_,rfl,H1.out,H2.out,H3.out,H4.out⟩
 have hbw:=below_alloc2 w (.cells #[.slice ia image.length ic,.slice wa working.length wc,.slice na next.length nc,.int .i64 ver,.bool true,.bool rz,.slice ta todo.length tc] 32) (.cells #[.slice none 0 0,.slice none 0 0,.slice none 0 0,.int .i64 0,.bool false,.bool false,.slice none 0 0] 32)
 have HB0:=Hj (heap_alloc2_0 w (.cells #[.slice ia image.length ic,.slice wa working.length wc,.slice na next.length nc,.int .i64 ver,.bool true,.bool rz,.slice ta todo.length tc] 32) (.cells #[.slice none 0 0,.slice none 0 0,.slice none 0 0,.int .i64 0,.bool false,.bool false,.slice none 0 0] 32))
 have HR0:=Hj (heap_alloc2 w (.cells #[.slice ia image.length ic,.slice wa working.length wc,.slice na next.length nc,.int .i64 ver,.bool true,.bool rz,.slice ta todo.length tc] 32) (.cells #[.slice none 0 0,.slice none 0 0,.slice none 0 0,.int .i64 0,.bool false,.bool false,.slice none 0 0] 32))
 have hz0:((w.alloc (.cells #[.slice ia image.length ic,.slice wa working.length wc,.slice na next.length nc,.int .i64 ver,.bool true,.bool rz,.slice ta todo.length tc] 32)).alloc (.cells #[.slice none 0 0,.slice none 0 0,.slice none 0 0,.int .i64 0,.bool false,.bool false,.slice none 0 0] 32)).heap.size=w.heap.size+2:=by simp
 have HV:=Hj (RV.below (F:=F) (w':=((w.alloc (.cells #[.slice ia image.length ic,.slice wa working.length wc,.slice na next.length nc,.int .i64 ver,.bool true,.bool rz,.slice ta todo.length tc] 32)).alloc (.cells #[.slice none 0 0,.slice none 0 0,.slice none 0 0,.int .i64 0,.bool false,.bool false,.slice none 0 0] 32))) (m:=⟨image,working,next,ver,true,rz,todo⟩) ⟨_,_,_,_,rfl,H1.out,H2.out,H3.out,H4.out⟩ hbw)
 by_cases hp:0<lf
 ·have e1:rfCommit ⟨image,working,next,ver,true,rz,todo⟩=(⟨image,working,next,ver,true,rz,todo⟩,7):=by simp[rfCommit,←hlf,hp]
  rw[e1]
  have hp':(0:Int)<lf:=by omega
  clear e1 hp
  go_enter Tryz.func55,Tryz.ntmps55
  go_wp2_with fail
  refine (rleft_any _ _ _ htl HV.out).mono ?_
  rw[←hlf]
  rintro e w1 ⟨rfl,hb1⟩
  rw[hz0] at hb1
  have hs1:=hb1.size
  have hB1:=(hb1.block w.heap.size (by omega)).trans HB0.out
  have hR1:=(hb1.block (w.heap.size+1) (by omega)).trans HR0.out
  obtain ⟨g,hg⟩:∃g,g=w.heap.size+1:=⟨_,rfl⟩
  obtain ⟨p,hpp⟩:∃p,p=w.heap.size:=⟨_,rfl⟩
  rw[←hg] at hR1
  rw[←hg,←hpp]
  rw[←hpp] at hB1
  have c0:w1.cell? ⟨p,0,none⟩=some (.slice ia image.length ic):=Bj hB1 0 rfl
  have c1:w1.cell? ⟨p,1,none⟩=some (.slice wa working.length wc):=Bj hB1 1 rfl
  have c2:w1.cell? ⟨p,2,none⟩=some (.slice na next.length nc):=Bj hB1 2 rfl
  have c3:w1.cell? ⟨p,3,none⟩=some (.int .i64 ver):=Bj hB1 3 rfl
  have c4:w1.cell? ⟨p,4,none⟩=some (.bool true):=Bj hB1 4 rfl
  have c5:w1.cell? ⟨p,5,none⟩=some (.bool rz):=Bj hB1 5 rfl
  have c6:w1.cell? ⟨p,6,none⟩=some (.slice ta todo.length tc):=Bj hB1 6 rfl
  have r0:w1.cell? ⟨g,0,none⟩=some (.slice none 0 0):=Bj hR1 0 rfl
  have r1:w1.cell? ⟨g,1,none⟩=some (.slice none 0 0):=Bj hR1 1 rfl
  have r2:w1.cell? ⟨g,2,none⟩=some (.slice none 0 0):=Bj hR1 2 rfl
  have r3:w1.cell? ⟨g,3,none⟩=some (.int .i64 0):=Bj hR1 3 rfl
  have r4:w1.cell? ⟨g,4,none⟩=some (.bool false):=Bj hR1 4 rfl
  have r5:w1.cell? ⟨g,5,none⟩=some (.bool false):=Bj hR1 5 rfl
  have r6:w1.cell? ⟨g,6,none⟩=some (.slice none 0 0):=Bj hR1 6 rfl
  have f0:=Bf hR1 0
  have f1:=Bf hR1 1
  have f2:=Bf hR1 2
  have f3:=Bf hR1 3
  have f4:=Bf hR1 4
  have f5:=Bf hR1 5
  have f6:=Bf hR1 6
  have HRx:=Hj hR1;have HBw:=Hj (hbw.trans (hb1.mono (show w.heap.size≤w.heap.size+2 by omega)))
  have HG:Hid (w.heap.size≤g):=Hj (by omega)
  have HKw:Hid (Keep [] w w1):=Hj (Keep.of_below' HBw.out)
  have HgF:Hid (∀f∈g::F,f∈F∨w.heap.size≤f):=Hj (fun f hf=>by
   rcases List.mem_cons.1 hf with rfl | hf
   ·exact .inr HG.out
   exact .inl hf)
  clear hB1 hR1 hz0 hbw hs1 hb1 hg hpp HV HB0 HR0
  clear hlf
  go_wp2
  obtain ⟨q1,q2,q3⟩:=RV.sets (u:=w) (F:=F) _ _ _ _ _ _ _ HRx.out HBw.out HG.out (m:=⟨image,working,next,ver,true,rz,todo⟩) (iv:= .slice ia image.length ic) (wv:= .slice wa working.length wc) (nv:= .slice na next.length nc) (tv:= .slice ta todo.length tc) (HW.out.keep (F':=g::F) HKw.out (by simp) HgF.out)
  refine bodyPost_ret (results_ct rfl _ _ _ _ _ _ _ rfl q1 Tryz.underlying32 rfl (by kernel_rfl)) rfl ?_
  exact ⟨_,rfl,q2,q3⟩
 have hl0:lf=0:=by omega
 have e1:rfCommit ⟨image,working,next,ver,true,rz,todo⟩=(⟨next,next,[],ver+1,false,false,[]⟩,0):=by simp[rfCommit,←hlf,hl0]
 rw[e1]
 clear e1 hp
 go_enter Tryz.func55,Tryz.ntmps55
 go_wp2_with fail
 refine (rleft_any _ _ _ htl HV.out).mono ?_
 rw[←hlf,hl0]
 rintro e w1 ⟨rfl,hb1⟩
 rw[hz0] at hb1
 have hs1:=hb1.size
 have hB1:=(hb1.block w.heap.size (by omega)).trans HB0.out
 have hR1:=(hb1.block (w.heap.size+1) (by omega)).trans HR0.out
 obtain ⟨g,hg⟩:∃g,g=w.heap.size+1:=⟨_,rfl⟩
 obtain ⟨p,hpp⟩:∃p,p=w.heap.size:=⟨_,rfl⟩
 rw[←hg] at hR1
 rw[←hg,←hpp]
 rw[←hpp] at hB1
 have c0:w1.cell? ⟨p,0,none⟩=some (.slice ia image.length ic):=Bj hB1 0 rfl
 have c1:w1.cell? ⟨p,1,none⟩=some (.slice wa working.length wc):=Bj hB1 1 rfl
 have c2:w1.cell? ⟨p,2,none⟩=some (.slice na next.length nc):=Bj hB1 2 rfl
 have c3:w1.cell? ⟨p,3,none⟩=some (.int .i64 ver):=Bj hB1 3 rfl
 have c4:w1.cell? ⟨p,4,none⟩=some (.bool true):=Bj hB1 4 rfl
 have c5:w1.cell? ⟨p,5,none⟩=some (.bool rz):=Bj hB1 5 rfl
 have c6:w1.cell? ⟨p,6,none⟩=some (.slice ta todo.length tc):=Bj hB1 6 rfl
 have r0:w1.cell? ⟨g,0,none⟩=some (.slice none 0 0):=Bj hR1 0 rfl
 have r1:w1.cell? ⟨g,1,none⟩=some (.slice none 0 0):=Bj hR1 1 rfl
 have r2:w1.cell? ⟨g,2,none⟩=some (.slice none 0 0):=Bj hR1 2 rfl
 have r3:w1.cell? ⟨g,3,none⟩=some (.int .i64 0):=Bj hR1 3 rfl
 have r4:w1.cell? ⟨g,4,none⟩=some (.bool false):=Bj hR1 4 rfl
 have r5:w1.cell? ⟨g,5,none⟩=some (.bool false):=Bj hR1 5 rfl
 have r6:w1.cell? ⟨g,6,none⟩=some (.slice none 0 0):=Bj hR1 6 rfl
 have f0:=Bf hR1 0
 have f1:=Bf hR1 1
 have f2:=Bf hR1 2
 have f3:=Bf hR1 3
 have f4:=Bf hR1 4
 have f5:=Bf hR1 5
 have f6:=Bf hR1 6
 have HRx:=Hj hR1;have HBw:=Hj (hbw.trans (hb1.mono (show w.heap.size≤w.heap.size+2 by omega)))
 have HG:Hid (w.heap.size≤g):=Hj (by omega)
 have HKw:Hid (Keep [] w w1):=Hj (Keep.of_below' HBw.out)
 have HgF:Hid (∀f∈g::F,f∈F∨w.heap.size≤f):=Hj (fun f hf=>by
  rcases List.mem_cons.1 hf with rfl | hf
  ·exact .inr HG.out
  exact .inl hf)
 clear hB1 hR1 hz0 hbw hs1 hb1 hg hpp HV HB0 HR0
 clear hlf hl0
 go_wp2
 have hx:RV F w (.agg #[.slice na next.length nc,.slice na next.length nc,.slice none 0 0,.int .i64 ((ver+1:Nat):Int),.bool false,.bool false,.slice none 0 0]) ⟨next,next,[],ver+1,false,false,[]⟩:=⟨_,_,_,_,rfl,H3.out,H3.out,Raw.empty _ _ _,ChR.empty _ _⟩
 obtain ⟨q1,q2,q3⟩:=RV.sets (u:=w) (F:=F) _ _ _ _ _ _ _ HRx.out HBw.out HG.out (m:=⟨next,next,[],ver+1,false,false,[]⟩) (iv:= .slice na next.length nc) (wv:= .slice na next.length nc) (nv:= .slice none 0 0) (tv:= .slice none 0 0) (hx.keep (F':=g::F) HKw.out (by simp) HgF.out)
 refine bodyPost_ret (results_ct rfl _ _ _ _ _ _ _ rfl q1 Tryz.underlying32 rfl (by kernel_rfl)) rfl ?_
 exact ⟨_,rfl,q2,q3⟩
end Go.Proofs.YtipiofgdjbogiaaGreat
