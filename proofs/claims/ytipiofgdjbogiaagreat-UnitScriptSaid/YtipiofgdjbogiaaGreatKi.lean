/- the reference's store: Step -/
import Derived.Test.YtipiofgdjbogiaaGreatKh
set_option maxRecDepth 100000
set_option maxHeartbeats 4000000
namespace Go.Im
open Go Go.Txt Go.RowKit Go.Bs Go.Cl Go.Rw Go.Un
theorem heap_put15 {w:World} {g:Nat} {x0 x1 x2 x3 x4 x5 x6:Value} {t:TypeId} (h:w.heap[g]? =some (.cells #[x0,x1,x2,x3,x4,x5,x6] t (0,0))) (a1 a5:Value):
  ((w.setCell ⟨g,1,none⟩ a1).setCell ⟨g,5,none⟩ a5).heap[g]? =some (.cells #[x0,a1,x2,x3,x4,a5,x6] t (0,0))∧Keep [g] w ((w.setCell ⟨g,1,none⟩ a1).setCell ⟨g,5,none⟩ a5):=by
 obtain ⟨w1,e1⟩:∃w1,w1=w.setCell ⟨g,1,none⟩ a1:=⟨_,rfl⟩
 have h1:w1.heap[g]? =some (.cells #[x0,a1,x2,x3,x4,x5,x6] t (0,0)):=by rw[e1];exact heap_setCell_same w g 1 _ t a1 h
 have k1:Keep [g] w w1:=by rw[e1];exact (Keep.refl [g] w).setCell (by simp) _
 rw[←e1]
 exact ⟨heap_setCell_same w1 g 5 _ t a5 h1,k1.setCell (by simp) _⟩
end Go.Im
namespace Go.Proofs.YtipiofgdjbogiaaGreat
open Go.Txt Go.RowKit Go.Bs Go.Cl Go.Rw Go.Un Go.Im
theorem rstep_no {F:List Nat} (v:Value) (m:Rf) (w:World) (hg:m.Good) (hF:∀f∈F,f<w.heap.size) (h:RV F w v m) (hno:m.inst=false∨m.left=0):
  Calls Tryz.prog 54 #[v] w (RN F w m 0 7):=by
 obtain ⟨image,working,next,ver,inst,rz,todo⟩:=m
 have hv:(ver:Int)≤1000000:=by have:=hg.vl;simp only at this;omega
 have htl:todo.length≤1000:=hg.tl
 obtain ⟨iv,wv,nv,tv,rfl,h1,h2,h3,h4⟩:=h
 obtain ⟨ia,ic,rfl⟩:=Rs h1
 obtain ⟨wa,wc,rfl⟩:=Rs h2
 obtain ⟨na,nc,rfl⟩:=Rs h3
 obtain ⟨ta,tc,rfl⟩:=h4.slice
 have H1:=Hj h1;have H2:=Hj h2;have H3:=Hj h3;have H4:=Hj h4
 simp only at H1 H2 H3 H4
 clear h1 h2 h3 h4 hg
 cases inst
 ·clear hno
  go_enter Tryz.func54,Tryz.ntmps54
  go_wp2
  refine bodyPost_ret (results_ctt rfl _ _ _ _ _ _ _ rfl (heap_alloc2 _ _ _) Tryz.underlying32 rfl (by kernel_rfl)) rfl ?_
  exact ⟨_,rfl,RV.below ⟨_,_,_,_,rfl,H1.out,H2.out,H3.out,H4.out⟩ (below_alloc2 _ _ _),below_alloc2 _ _ _⟩
 have hl0:Rf.left ⟨image,working,next,ver,true,rz,todo⟩=0:=by rcases hno with h | h;cases h;exact h
 have HW:Hid (RV F w (.agg #[.slice ia image.length ic,.slice wa working.length wc,.slice na next.length nc,.int .i64 ver,.bool true,.bool rz,.slice ta todo.length tc]) ⟨image,working,next,ver,true,rz,todo⟩):=Hj ⟨_,_,_,_,rfl,H1.out,H2.out,H3.out,H4.out⟩
 have hbw:=below_alloc2 w (.cells #[.slice ia image.length ic,.slice wa working.length wc,.slice na next.length nc,.int .i64 ver,.bool true,.bool rz,.slice ta todo.length tc] 32) (.cells #[.slice none 0 0,.slice none 0 0,.slice none 0 0,.int .i64 0,.bool false,.bool false,.slice none 0 0] 32)
 have HB0:=Hj (heap_alloc2_0 w (.cells #[.slice ia image.length ic,.slice wa working.length wc,.slice na next.length nc,.int .i64 ver,.bool true,.bool rz,.slice ta todo.length tc] 32) (.cells #[.slice none 0 0,.slice none 0 0,.slice none 0 0,.int .i64 0,.bool false,.bool false,.slice none 0 0] 32))
 have HR0:=Hj (heap_alloc2 w (.cells #[.slice ia image.length ic,.slice wa working.length wc,.slice na next.length nc,.int .i64 ver,.bool true,.bool rz,.slice ta todo.length tc] 32) (.cells #[.slice none 0 0,.slice none 0 0,.slice none 0 0,.int .i64 0,.bool false,.bool false,.slice none 0 0] 32))
 have hz0:((w.alloc (.cells #[.slice ia image.length ic,.slice wa working.length wc,.slice na next.length nc,.int .i64 ver,.bool true,.bool rz,.slice ta todo.length tc] 32)).alloc (.cells #[.slice none 0 0,.slice none 0 0,.slice none 0 0,.int .i64 0,.bool false,.bool false,.slice none 0 0] 32)).heap.size=w.heap.size+2:=by simp
 have HV:=Hj (RV.below (F:=F) (w':=((w.alloc (.cells #[.slice ia image.length ic,.slice wa working.length wc,.slice na next.length nc,.int .i64 ver,.bool true,.bool rz,.slice ta todo.length tc] 32)).alloc (.cells #[.slice none 0 0,.slice none 0 0,.slice none 0 0,.int .i64 0,.bool false,.bool false,.slice none 0 0] 32))) (m:=⟨image,working,next,ver,true,rz,todo⟩) ⟨_,_,_,_,rfl,H1.out,H2.out,H3.out,H4.out⟩ hbw)
 clear hno
 go_enter Tryz.func54,Tryz.ntmps54
 go_wp2_with fail
 refine (rleft_any _ _ _ htl HV.out).mono ?_
 rw[hl0]
 rintro e w1 ⟨rfl,hb1⟩
 rw[hz0] at hb1
 have hs1:=hb1.size
 have hB1:=(hb1.block w.heap.size (by omega)).trans HB0.out
 have hR1:=(hb1.block (w.heap.size+1) (by omega)).trans HR0.out
 obtain ⟨g,hg⟩:∃g,g=w.heap.size+1:=⟨_,rfl⟩
 obtain ⟨p,hpp⟩:∃p,p=w.heap.size:=⟨_,rfl⟩
 rw[←hg] at hR1
 rw[←hg,←hpp]
 rw[←hpp] at hB1
 have c0:w1.cell? ⟨p,0,none⟩=some (.slice ia image.length ic):=Bj hB1 0 rfl
 have c1:w1.cell? ⟨p,1,none⟩=some (.slice wa working.length wc):=Bj hB1 1 rfl
 have c2:w1.cell? ⟨p,2,none⟩=some (.slice na next.length nc):=Bj hB1 2 rfl
 have c3:w1.cell? ⟨p,3,none⟩=some (.int .i64 ver):=Bj hB1 3 rfl
 have c4:w1.cell? ⟨p,4,none⟩=some (.bool true):=Bj hB1 4 rfl
 have c5:w1.cell? ⟨p,5,none⟩=some (.bool rz):=Bj hB1 5 rfl
 have c6:w1.cell? ⟨p,6,none⟩=some (.slice ta todo.length tc):=Bj hB1 6 rfl
 have r0:w1.cell? ⟨g,0,none⟩=some (.slice none 0 0):=Bj hR1 0 rfl
 have r1:w1.cell? ⟨g,1,none⟩=some (.slice none 0 0):=Bj hR1 1 rfl
 have r2:w1.cell? ⟨g,2,none⟩=some (.slice none 0 0):=Bj hR1 2 rfl
 have r3:w1.cell? ⟨g,3,none⟩=some (.int .i64 0):=Bj hR1 3 rfl
 have r4:w1.cell? ⟨g,4,none⟩=some (.bool false):=Bj hR1 4 rfl
 have r5:w1.cell? ⟨g,5,none⟩=some (.bool false):=Bj hR1 5 rfl
 have r6:w1.cell? ⟨g,6,none⟩=some (.slice none 0 0):=Bj hR1 6 rfl
 have f0:=Bf hR1 0
 have f1:=Bf hR1 1
 have f2:=Bf hR1 2
 have f3:=Bf hR1 3
 have f4:=Bf hR1 4
 have f5:=Bf hR1 5
 have f6:=Bf hR1 6
 have HRx:=Hj hR1;have HBw:=Hj (hbw.trans (hb1.mono (show w.heap.size≤w.heap.size+2 by omega)))
 have HG:Hid (w.heap.size≤g):=Hj (by omega)
 have HKw:Hid (Keep [] w w1):=Hj (Keep.of_below' HBw.out)
 have HgF:Hid (∀f∈g::F,f∈F∨w.heap.size≤f):=Hj (fun f hf=>by
  rcases List.mem_cons.1 hf with rfl | hf
  ·exact .inr HG.out
  exact .inl hf)
 have HP1:=Hj hB1
 have HGw:Hid (w.heap.size≤g):=HG
 have HPw:Hid (w.heap.size≤p):=Hj (by omega)
 have Hgp:Hid (g≠p):=Hj (by omega)
 have HFw:Hid (∀f∈p::g::F,f<w1.heap.size):=Hj (fun f hf=>by
  rcases List.mem_cons.1 hf with rfl | hf
  ·omega
  rcases List.mem_cons.1 hf with rfl | hf
  ·omega
  have:=hF f hf;omega)
 have HFp:Hid (∀f∈p::g::F,f∈F∨w.heap.size≤f):=Hj (fun f hf=>by
  rcases List.mem_cons.1 hf with rfl | hf
  ·exact .inr HPw.out
  rcases List.mem_cons.1 hf with rfl | hf
  ·exact .inr HGw.out
  exact .inl hf)
 clear hB1 hR1 hz0 hbw hs1 hb1 hg hpp HV HB0 HR0
 clear hl0
 go_wp2
 obtain ⟨q1,q2,q3⟩:=RV.sets (u:=w) (F:=F) _ _ _ _ _ _ _ HRx.out HBw.out HG.out (m:=⟨image,working,next,ver,true,rz,todo⟩) (iv:= .slice ia image.length ic) (wv:= .slice wa working.length wc) (nv:= .slice na next.length nc) (tv:= .slice ta todo.length tc) (HW.out.keep (F':=g::F) HKw.out (by simp) HgF.out)
 refine bodyPost_ret (results_ctt rfl _ _ _ _ _ _ _ rfl q1 Tryz.underlying32 rfl (by kernel_rfl)) rfl ?_
 exact ⟨_,rfl,q2,q3⟩
theorem rstep_size {F:List Nat} (v:Value) (m:Rf) (w:World) (hg:m.Good) (hF:∀f∈F,f<w.heap.size) (h:RV F w v m) (hi:m.inst=true) (hr:m.rz=true):
  Calls Tryz.prog 54 #[v] w (RN F w (rfStep m).1 (rfStep m).2.1 (rfStep m).2.2):=by
 have hwl:m.working.length≤24000:=hg.wl
 have hnl:m.next.length≤24000:=hg.nl
 obtain ⟨image,working,next,ver,inst,rz,todo⟩:=m
 have hv:(ver:Int)≤1000000:=by have:=hg.vl;simp only at this;omega
 have htl:todo.length≤1000:=hg.tl
 obtain ⟨iv,wv,nv,tv,rfl,h1,h2,h3,h4⟩:=h
 obtain ⟨ia,ic,rfl⟩:=Rs h1
 obtain ⟨wa,wc,rfl⟩:=Rs h2
 obtain ⟨na,nc,rfl⟩:=Rs h3
 obtain ⟨ta,tc,rfl⟩:=h4.slice
 have H1:=Hj h1;have H2:=Hj h2;have H3:=Hj h3;have H4:=Hj h4
 simp only at H1 H2 H3 H4
 clear h1 h2 h3 h4 hg
 simp only at hi hr hwl hnl
 subst hi hr
 have Hdl:Hid (todo.length≤1000):=Hj htl
 obtain ⟨mm,hmm⟩:∃mm:Rf,mm=⟨image,sized working next.length,next,ver,true,false,todo⟩:=⟨_,rfl⟩
 obtain ⟨nn,hnn⟩:∃nn:Nat,nn=mm.left:=⟨_,rfl⟩
 have e1:rfStep ⟨image,working,next,ver,true,true,todo⟩=(mm,nn,0):=by rw[hnn,hmm];simp[rfStep,Rf.left]
 rw[e1]
 have Hmm:=Hj hmm;have Hnn:=Hj hnn
 clear e1 hmm hnn
 obtain ⟨lf,hlf⟩:∃lf,lf=Rf.left ⟨image,working,next,ver,true,true,todo⟩:=⟨_,rfl⟩
 have hlp:(lf==0)=false:=by rw[hlf];simp[Rf.left]
 have hlp':((lf:Int)==0)=false:=by simpa using hlp
 have hbw:=below_alloc2 w (.cells #[.slice ia image.length ic,.slice wa working.length wc,.slice na next.length nc,.int .i64 ver,.bool true,.bool true,.slice ta todo.length tc] 32) (.cells #[.slice none 0 0,.slice none 0 0,.slice none 0 0,.int .i64 0,.bool false,.bool false,.slice none 0 0] 32)
 have HB0:=Hj (heap_alloc2_0 w (.cells #[.slice ia image.length ic,.slice wa working.length wc,.slice na next.length nc,.int .i64 ver,.bool true,.bool true,.slice ta todo.length tc] 32) (.cells #[.slice none 0 0,.slice none 0 0,.slice none 0 0,.int .i64 0,.bool false,.bool false,.slice none 0 0] 32))
 have HR0:=Hj (heap_alloc2 w (.cells #[.slice ia image.length ic,.slice wa working.length wc,.slice na next.length nc,.int .i64 ver,.bool true,.bool true,.slice ta todo.length tc] 32) (.cells #[.slice none 0 0,.slice none 0 0,.slice none 0 0,.int .i64 0,.bool false,.bool false,.slice none 0 0] 32))
 have hz0:((w.alloc (.cells #[.slice ia image.length ic,.slice wa working.length wc,.slice na next.length nc,.int .i64 ver,.bool true,.bool true,.slice ta todo.length tc] 32)).alloc (.cells #[.slice none 0 0,.slice none 0 0,.slice none 0 0,.int .i64 0,.bool false,.bool false,.slice none 0 0] 32)).heap.size=w.heap.size+2:=by simp
 have HV:=Hj (RV.below (F:=F) (w':=((w.alloc (.cells #[.slice ia image.length ic,.slice wa working.length wc,.slice na next.length nc,.int .i64 ver,.bool true,.bool true,.slice ta todo.length tc] 32)).alloc (.cells #[.slice none 0 0,.slice none 0 0,.slice none 0 0,.int .i64 0,.bool false,.bool false,.slice none 0 0] 32))) (m:=⟨image,working,next,ver,true,true,todo⟩) ⟨_,_,_,_,rfl,H1.out,H2.out,H3.out,H4.out⟩ hbw)
 go_enter Tryz.func54,Tryz.ntmps54
 go_wp2_with fail
 refine (rleft_any _ _ _ htl HV.out).mono ?_
 rw[←hlf]
 rintro e w1 ⟨rfl,hb1⟩
 rw[hz0] at hb1
 have hs1:=hb1.size
 have hB1:=(hb1.block w.heap.size (by omega)).trans HB0.out
 have hR1:=(hb1.block (w.heap.size+1) (by omega)).trans HR0.out
 obtain ⟨g,hg⟩:∃g,g=w.heap.size+1:=⟨_,rfl⟩
 obtain ⟨p,hpp⟩:∃p,p=w.heap.size:=⟨_,rfl⟩
 rw[←hg] at hR1
 rw[←hg,←hpp]
 rw[←hpp] at hB1
 have c0:w1.cell? ⟨p,0,none⟩=some (.slice ia image.length ic):=Bj hB1 0 rfl
 have c1:w1.cell? ⟨p,1,none⟩=some (.slice wa working.length wc):=Bj hB1 1 rfl
 have c2:w1.cell? ⟨p,2,none⟩=some (.slice na next.length nc):=Bj hB1 2 rfl
 have c3:w1.cell? ⟨p,3,none⟩=some (.int .i64 ver):=Bj hB1 3 rfl
 have c4:w1.cell? ⟨p,4,none⟩=some (.bool true):=Bj hB1 4 rfl
 have c5:w1.cell? ⟨p,5,none⟩=some (.bool true):=Bj hB1 5 rfl
 have c6:w1.cell? ⟨p,6,none⟩=some (.slice ta todo.length tc):=Bj hB1 6 rfl
 have r0:w1.cell? ⟨g,0,none⟩=some (.slice none 0 0):=Bj hR1 0 rfl
 have r1:w1.cell? ⟨g,1,none⟩=some (.slice none 0 0):=Bj hR1 1 rfl
 have r2:w1.cell? ⟨g,2,none⟩=some (.slice none 0 0):=Bj hR1 2 rfl
 have r3:w1.cell? ⟨g,3,none⟩=some (.int .i64 0):=Bj hR1 3 rfl
 have r4:w1.cell? ⟨g,4,none⟩=some (.bool false):=Bj hR1 4 rfl
 have r5:w1.cell? ⟨g,5,none⟩=some (.bool false):=Bj hR1 5 rfl
 have r6:w1.cell? ⟨g,6,none⟩=some (.slice none 0 0):=Bj hR1 6 rfl
 have f0:=Bf hR1 0
 have f1:=Bf hR1 1
 have f2:=Bf hR1 2
 have f3:=Bf hR1 3
 have f4:=Bf hR1 4
 have f5:=Bf hR1 5
 have f6:=Bf hR1 6
 have HRx:=Hj hR1;have HBw:=Hj (hbw.trans (hb1.mono (show w.heap.size≤w.heap.size+2 by omega)))
 have HG:Hid (w.heap.size≤g):=Hj (by omega)
 have HKw:Hid (Keep [] w w1):=Hj (Keep.of_below' HBw.out)
 have HgF:Hid (∀f∈g::F,f∈F∨w.heap.size≤f):=Hj (fun f hf=>by
  rcases List.mem_cons.1 hf with rfl | hf
  ·exact .inr HG.out
  exact .inl hf)
 have HP1:=Hj hB1
 have HGw:Hid (w.heap.size≤g):=HG
 have HPw:Hid (w.heap.size≤p):=Hj (by omega)
 have Hgp:Hid (g≠p):=Hj (by omega)
 have HFw:Hid (∀f∈p::g::F,f<w1.heap.size):=Hj (fun f hf=>by
  rcases List.mem_cons.1 hf with rfl | hf
  ·omega
  rcases List.mem_cons.1 hf with rfl | hf
  ·omega
  have:=hF f hf;omega)
 have HFp:Hid (∀f∈p::g::F,f∈F∨w.heap.size≤f):=Hj (fun f hf=>by
  rcases List.mem_cons.1 hf with rfl | hf
  ·exact .inr HPw.out
  rcases List.mem_cons.1 hf with rfl | hf
  ·exact .inr HGw.out
  exact .inl hf)
 clear hB1 hR1 hz0 hbw hs1 hb1 hg hpp HV HB0 HR0
 have HWk:Hid (Bytes [] w1 (.slice wa working.length wc) working):=Hj (Raw.keep (F':=[]) H2.out HKw.out (by simp) (fun f hf=>by cases hf))
 clear hlf r0 r1 r2 r3 r4 r5 r6 f0 f1 f2 f3 f4 f5 f6
 go_wp2_with fail
 refine (rsized_fr _ working next.length _ (by omega) (by omega) HWk.out).mono ?_
 rintro e w2 ⟨x,rfl,hx,hb2⟩
 obtain ⟨xa,xc,rfl⟩:=Rs hx
 have HX:=Hj (Raw.apart hx HFw.out)
 have HP2:=Hj (Kb hb2 HP1.out)
 have HG2:=Hj (Kb hb2 HRx.out)
 have HB2:Hid (Below w.heap.size w w2):=Hj (HBw.out.trans (hb2.mono HBw.out.size))
 have d1:w2.cell? ⟨p,1,none⟩=some (.slice wa working.length wc):=Bj HP2.out 1 rfl
 have d5:w2.cell? ⟨p,5,none⟩=some (.bool true):=Bj HP2.out 5 rfl
 have e1:=Bf HP2.out 1
 have e5:=Bf HP2.out 5
 clear hx hb2 c0 c1 c2 c3 c4 c5 c6
 go_upto_region 5 with (fail)
 obtain ⟨X,hX⟩:∃X,X=(w2.setCell ⟨p,1,none⟩ (.slice xa (sized working next.length).length xc)).setCell ⟨p,5,none⟩ (.bool false):=⟨_,rfl⟩
 rw[←hX]
 obtain ⟨y1,y2⟩:=heap_put15 HP2.out (.slice xa (sized working next.length).length xc) (.bool false)
 rw[←hX] at y1 y2
 have HPc:=Hj y1
 have HGc:=Hj ((y2.block g (Al HG2.out) (by simpa using Hgp.out)).trans HG2.out)
 have HBwc:Hid (Below w.heap.size w X):=Hj (HB2.out.trans (y2.below (B:=w.heap.size) HB2.out.size (fun f hf=>by rw[M1' hf];exact HPw.out)))
 have HRV:Hid (RV (p::g::F) X (.agg #[.slice ia image.length ic,.slice xa (sized working next.length).length xc,.slice na next.length nc,.int .i64 ver,.bool true,.bool false,.slice ta todo.length tc]) ⟨image,sized working next.length,next,ver,true,false,todo⟩):=Hj (by
  have tr:=fun {l:List UInt8} {x:Value} (hx:Bytes F w x l)=>Raw.keep (F':=p::g::F) (Raw.keep (F':=p::g::F) hx (Keep.of_below' (F:=[]) HB2.out) (by simp) HFp.out) y2 (fun f hf=> .inl (by rw[M1' hf];simp)) (fun f hf=> .inl hf)
  exact ⟨_,_,_,_,rfl,tr H1.out,Raw.keep HX.out y2 (fun f hf=> .inl (by rw[M1' hf];simp)) (fun f hf=> .inl hf),tr H3.out,ChR.keep (H4.out.keep (F':=p::g::F) (Keep.of_below' (F:=[]) HB2.out) (by simp) HFp.out) y2 (fun f hf=> .inl (by rw[M1' hf];simp)) (fun f hf=> .inl hf)⟩)
 clear y1 y2 hX d1 d5 e1 e5 HP2 HG2 HX HP1 HRx
 have hBl:∀x∈[p],∃c e f,X.heap[x]? =some (.cells c e f):=fun x hx=>by rw[M1' hx];exact ⟨_,_,_,HPc.out⟩
 have HS0:=Hj (same_start hBl)
 have c0:X.cell? ⟨p,0,none⟩=some (.slice ia image.length ic):=Bj HPc.out 0 rfl
 have c1:X.cell? ⟨p,1,none⟩=some (.slice xa (sized working next.length).length xc):=Bj HPc.out 1 rfl
 have c2:X.cell? ⟨p,2,none⟩=some (.slice na next.length nc):=Bj HPc.out 2 rfl
 have c3:X.cell? ⟨p,3,none⟩=some (.int .i64 ver):=Bj HPc.out 3 rfl
 have c4:X.cell? ⟨p,4,none⟩=some (.bool true):=Bj HPc.out 4 rfl
 have c5:X.cell? ⟨p,5,none⟩=some (.bool false):=Bj HPc.out 5 rfl
 have c6:X.cell? ⟨p,6,none⟩=some (.slice ta todo.length tc):=Bj HPc.out 6 rfl
 go_wp2
 refine Ty.wp_tree [p] [0,1] [3] [0,1] [0,1] (.alt [2] (.alt [3,4,5] (.done) (.no)) (.no)) (by kernel_rfl) (by kernel_rfl) (by kernel_rfl) (by kernel_rfl) hBl ?_
 clear hBl
 try simp only[pick,Gs,Gz]
 go_wp2
 refine Rm ?_
 refine Wq ?_
 try simp only[pick,Gs,Gz]
 go_wp2_with fail
 refine (rleft_any (F:=p::g::F) _ ⟨image,sized working next.length,next,ver,true,false,todo⟩ _ Hdl.out (HRV.out.below (Br X.heap.size X).drew)).mono ?_
 rw[←Hmm.out,←Hnn.out]
 rintro e w9 ⟨rfl,hb9⟩
 have HB9:Hid (Below X.heap.size X w9):=Hj ((Br X.heap.size X).drew.trans hb9)
 have HS9:=Hj (same_below' HS0.out hb9)
 have HG9:=Hj ((HB9.out.block g (Al HGc.out)).trans HGc.out)
 have r0:w9.cell? ⟨g,0,none⟩=some (.slice none 0 0):=Bj HG9.out 0 rfl
 have r1:w9.cell? ⟨g,1,none⟩=some (.slice none 0 0):=Bj HG9.out 1 rfl
 have r2:w9.cell? ⟨g,2,none⟩=some (.slice none 0 0):=Bj HG9.out 2 rfl
 have r3:w9.cell? ⟨g,3,none⟩=some (.int .i64 0):=Bj HG9.out 3 rfl
 have r4:w9.cell? ⟨g,4,none⟩=some (.bool false):=Bj HG9.out 4 rfl
 have r5:w9.cell? ⟨g,5,none⟩=some (.bool false):=Bj HG9.out 5 rfl
 have r6:w9.cell? ⟨g,6,none⟩=some (.slice none 0 0):=Bj HG9.out 6 rfl
 have f0:=Bf HG9.out 0
 have f1:=Bf HG9.out 1
 have f2:=Bf HG9.out 2
 have f3:=Bf HG9.out 3
 have f4:=Bf HG9.out 4
 have f5:=Bf HG9.out 5
 have f6:=Bf HG9.out 6
 clear hb9
 go_wp2
 refine Sm (Ss HS9.out) ?_
 refine Rm ?_
 refine Wq ?_
 try simp only[pick,Gs,Gz]
 go_wp2
 refine Sm (Ty.Shown.last rfl) ?_
 try simp only[pick,Gs,Gz]
 go_wp2
 refine Rm ?_
 refine Wd (by rfl) ⟨.head _,.head _,trivial⟩ ?_
 go_wp2
 obtain ⟨s1,s2,s3⟩:=RV.sets (u:=w) (F:=F) _ _ _ _ _ _ _ HG9.out (HBwc.out.trans (HB9.out.mono HBwc.out.size)) HGw.out (m:=⟨image,sized working next.length,next,ver,true,false,todo⟩) (iv:= .slice ia image.length ic) (wv:= .slice xa (sized working next.length).length xc) (nv:= .slice na next.length nc) (tv:= .slice ta todo.length tc)
  ((RV.below HRV.out HB9.out).keep (F':=g::F) (Keep.refl [] w9) (by simp) (fun f hf=> .inl (List.mem_cons_of_mem _ hf)))
 refine bodyPost_ret (results_ctt rfl _ _ _ _ _ _ _ rfl s1 Tryz.underlying32 rfl (by kernel_rfl)) rfl ?_
 exact ⟨_,rfl,by rw[Hmm.out];exact s2,s3⟩
end Go.Proofs.YtipiofgdjbogiaaGreat
