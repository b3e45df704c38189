/- unit: Finish -/
import Derived.Test.YtipiofgdjbogiaaGreatHd
set_option maxRecDepth 100000
set_option maxHeartbeats 8000000
namespace Go.Im
open Go Go.Txt Go.RowKit Go.Bs Go.Cl Go.Rw Go.Un Go.Fa
structure FR where
 x:Us
 s:Ps
 c:Int
 st:Int
 e:Int
def downed (x:Us) (n:Int):Us:={x with down:=true,att:=x.att+1,lost:=wrap64 (x.lost+n)}
def finU (x:Us) (s:Ps) (p:FP) (ms mq:Int) (a b:Oc) (pm:Bool):FR:=
 if x.down then ⟨x,s,0,0,7⟩
 else if (Lg.seeL x.led ms mq).2.2≠0 then ⟨x,s,0,0,(Lg.seeL x.led ms mq).2.2⟩
 else if (Lg.seeL x.led ms mq).2.1≠1 then ⟨x,s,0,0,23⟩
 else if judge a b pm=0 then
  (if cutd p (p.hits x.task x.num x.att) (tot s.image a.im)=tot s.image a.im then ⟨{x with led:=(Lg.seeL x.led ms mq).1,num:=x.num+1,att:=1},⟨a.im,s.ver+1,false,[],0⟩,0,wrap64 (wrap64 (jst a b+(tot s.image a.im:Nat))+1),0⟩
  else ⟨downed x (wrap64 (jst a b+(cutd p (p.hits x.task x.num x.att) (tot s.image a.im):Nat))),⟨s.image,s.ver,false,[],0⟩,6,wrap64 (jst a b+(cutd p (p.hits x.task x.num x.att) (tot s.image a.im):Nat)),0⟩)
 else ⟨downed x (jst a b),s,judge a b pm,jst a b,0⟩
def MsC (ms md mk mq m0 m1 m2 m3:Int) (mv:Value):Array Value:=#[.int .i64 ms,.int .i64 md,.int .i64 mk,.int .i64 mq,.int .i64 m0,.int .i64 m1,.int .i64 m2,.int .i64 m3,mv]
end Go.Im
namespace Go.Proofs.YtipiofgdjbogiaaGreat
open Go.Txt Go.RowKit Go.Bs Go.Cl Go.Rw Go.Un Go.Im Go.Fa
theorem finish_live {base u g h:Nat} {iv rv lv:Value} {x:Us} {s:Ps} {w:World} (H:UAt w base u g h iv rv lv x s) (L0:List Nat) (h0:∀z∈L0,z<w.heap.size∧z∉UF u g h iv rv) (hr:Raw (L0++UF u g h iv rv) 2 w lv x.led.length (x.led.flatMap Lg.encL)) (p:FP) (a b:Oc) (i1 e1 i2 e2:Value) (ms md mk mq m0 m1 m2 m3:Int) (mv:Value) (pm:Bool) (hs:s.inst=false) (hv:s.ver<1000000) (hll:x.led.length≤1000) (hq1: -9223372036854775808≤mq) (hq2:mq≤9223372036854775807) (hn:0≤x.num∧x.num≤1000000) (ha:0≤x.att∧x.att≤1000000) (hal:a.im.length≤24000) (hI1:Bytes (UF u g h iv rv) w i1 a.im) (hE1:Bytes (UF u g h iv rv) w e1 a.ef) (hI2:Bytes (UF u g h iv rv) w i2 b.im) (hE2:Bytes (UF u g h iv rv) w e2 b.ef):
  Calls Tryz.prog 18 #[.pointer (some ⟨u,0,none⟩),.agg p.cs,.agg (MsC ms md mk mq m0 m1 m2 m3 mv),.agg #[.int .i64 a.en,.int .i64 a.st,.int .i64 a.er,i1,e1],.agg #[.int .i64 b.en,.int .i64 b.st,.int .i64 b.er,i2,e2],.bool pm] w fun e w'=>∃(r:FR) (lv':Value),r=finU x s p ms mq a b pm∧
   e= .returned (.tuple #[.agg #[.int .i64 r.c,.int .i64 r.st],.int .i64 r.e])∧UQ w base u g h iv rv lv' r.x r.s L0 [] w':=by
 obtain ⟨la,lc,rfl⟩:=Rs H.hl
 obtain ⟨ai,ac,rfl⟩:=Rs hI1
 obtain ⟨ae,aec,rfl⟩:=Rs hE1
 obtain ⟨bi,bc,rfl⟩:=Rs hI2
 obtain ⟨be,bec,rfl⟩:=Rs hE2
 have hul:=H.lt
 have hull:∀z,w.heap.size≤z→z∉UF u g h iv rv:=fun z hz hm=>by have:=H.ufl z hm;omega
 obtain ⟨ha1,ha2⟩:=ha
 obtain ⟨hn1,hn2⟩:=hn
 have HUL:=Hj hull
 clear hull
 simp only[FP.cs,MsC]
 obtain ⟨W1,hW1⟩:∃W,W=w.alloc (.cells #[.int .i64 p.c,.int .i64 p.n,.int .i64 p.e,.int .i64 p.k,.int .i64 p.s,.int .i64 p.pl,.int .i64 p.m] 56):=⟨_,rfl⟩
 obtain ⟨W2,hW2⟩:∃W,W=W1.alloc (.cells #[.int .i64 ms,.int .i64 md,.int .i64 mk,.int .i64 mq,.int .i64 m0,.int .i64 m1,.int .i64 m2,.int .i64 m3,mv] 44):=⟨_,rfl⟩
 obtain ⟨W3,hW3⟩:∃W,W=W2.alloc (.cells #[.int .i64 a.en,.int .i64 a.st,.int .i64 a.er,(.slice ai a.im.length ac),(.slice ae a.ef.length aec)] 61):=⟨_,rfl⟩
 obtain ⟨W4,hW4⟩:∃W,W=W3.alloc (.cells #[.int .i64 b.en,.int .i64 b.st,.int .i64 b.er,(.slice bi b.im.length bc),(.slice be b.ef.length bec)] 61):=⟨_,rfl⟩
 obtain ⟨W,hW⟩:∃W,W=W4.alloc (.cells #[.int .i64 0,.int .i64 0] 68):=⟨_,rfl⟩
 have HW1:=Hj hW1;have HW2:=Hj hW2;have HW3:=Hj hW3;have HW4:=Hj hW4;have HW:=Hj hW
 have z1:W1.heap.size=w.heap.size+1:=by rw[hW1];simp
 have z2:W2.heap.size=w.heap.size+1+1:=by rw[hW2];simp[z1]
 have z3:W3.heap.size=w.heap.size+1+1+1:=by rw[hW3];simp[z2]
 have z4:W4.heap.size=w.heap.size+1+1+1+1:=by rw[hW4];simp[z3]
 have z5:W.heap.size=w.heap.size+1+1+1+1+1:=by rw[hW];simp[z4]
 have b5:Below W4.heap.size W4 W:=by rw[hW];exact (Br _ _).alloc (Nr _) _
 have b4:Below W3.heap.size W3 W:=(show Below W3.heap.size W3 W4 by rw[hW4];exact (Br _ _).alloc (Nr _) _).trans (b5.mono (by omega))
 have b3':Below W2.heap.size W2 W:=(show Below W2.heap.size W2 W3 by rw[hW3];exact (Br _ _).alloc (Nr _) _).trans (b4.mono (by omega))
 have b2:Below W1.heap.size W1 W:=(show Below W1.heap.size W1 W2 by rw[hW2];exact (Br _ _).alloc (Nr _) _).trans (b3'.mono (by omega))
 have b1:Below w.heap.size w W:=(show Below w.heap.size w W1 by rw[hW1];exact (Br _ _).alloc (Nr _) _).trans (b2.mono (by omega))
 have HPW:Hid (W.heap[w.heap.size]? =some (.cells #[.int .i64 p.c,.int .i64 p.n,.int .i64 p.e,.int .i64 p.k,.int .i64 p.s,.int .i64 p.pl,.int .i64 p.m] 56 (0,0))):=Hj ((b2.block _ (by omega)).trans (by rw[hW1];exact heap_alloc_new w _))
 have HMW:Hid (W.heap[w.heap.size+1]? =some (.cells #[.int .i64 ms,.int .i64 md,.int .i64 mk,.int .i64 mq,.int .i64 m0,.int .i64 m1,.int .i64 m2,.int .i64 m3,mv] 44 (0,0))):=Hj ((b3'.block _ (by omega)).trans (by rw[hW2,←z1];exact heap_alloc_new W1 _))
 have HAW:Hid (W.heap[w.heap.size+1+1]? =some (.cells #[.int .i64 a.en,.int .i64 a.st,.int .i64 a.er,(.slice ai a.im.length ac),(.slice ae a.ef.length aec)] 61 (0,0))):=Hj ((b4.block _ (by omega)).trans (by rw[hW3,←z2];exact heap_alloc_new W2 _))
 have HBW:Hid (W.heap[w.heap.size+1+1+1]? =some (.cells #[.int .i64 b.en,.int .i64 b.st,.int .i64 b.er,(.slice bi b.im.length bc),(.slice be b.ef.length bec)] 61 (0,0))):=Hj ((b5.block _ (by omega)).trans (by rw[hW4,←z3];exact heap_alloc_new W3 _))
 have HRW:Hid (W.heap[w.heap.size+1+1+1+1]? =some (.cells #[.int .i64 0,.int .i64 0] 68 (0,0))):=Hj (by rw[hW,←z4];exact heap_alloc_new W4 _)
 have HL:=Hj b1
 have HI1:=Hj (Rb hI1 b1);have HE1:=Hj (Rb hE1 b1);have HI2:=Hj (Rb hI2 b1);have HE2:=Hj (Rb hE2 b1)
 have HIW:=Hj hI1
 have HQ:=Hj (UQ.start' (L:=[w.heap.size,w.heap.size+1,w.heap.size+1+1,w.heap.size+1+1+1,w.heap.size+1+1+1+1]++L0) H h0 hr b1 (fun z hz=>by
  simp only[List.mem_append,List.mem_cons,List.not_mem_nil,or_false] at hz
  rcases hz with (h | h | h | h | h) | h
  ·exact .inr (by omega)
  ·exact .inr (by omega)
  ·exact .inr (by omega)
  ·exact .inr (by omega)
  ·exact .inr (by omega)
  exact .inl h))
 have H0L:=Hj (fun z (hz:z∈L0)=>(h0 z hz).1)
 clear h0 hr
 clear hW1 hW2 hW3 hW4 hW b1 b2 b3' b4 b5 hI1 hE1 hI2 hE2 H
 go_enter Tryz.func18,Tryz.ntmps18
 go_upto_region 1 with (fail)
 rw[←HW1.out,←HW2.out,←HW3.out,←HW4.out,←HW.out]
 obtain ⟨P,hP⟩:∃P,P=w.heap.size:=⟨_,rfl⟩
 obtain ⟨M,hM⟩:∃P,P=w.heap.size+1:=⟨_,rfl⟩
 obtain ⟨A,hA⟩:∃A,A=w.heap.size+1+1:=⟨_,rfl⟩
 obtain ⟨B,hB⟩:∃B,B=w.heap.size+1+1+1:=⟨_,rfl⟩
 obtain ⟨R,hR⟩:∃R,R=w.heap.size+1+1+1+1:=⟨_,rfl⟩
 rw[←hR,←hB,←hA,←hM,←hP]
 rw[←hR,←hB,←hA,←hM,←hP] at HQ
 rw[←hP] at HPW;rw[←hM] at HMW;rw[←hA] at HAW;rw[←hB] at HBW;rw[←hR] at HRW
 have hwP:w.heap.size≤P:=by omega
 have hPM:P<M:=by omega
 have hMA:M<A:=by omega
 have hAB:A<B:=by omega
 have hBR:B<R:=by omega
 have hRW:R<W.heap.size:=by omega
 have hwW:w.heap.size≤W.heap.size:=by omega
 have huP:u<P:=by omega
 clear hP hM hA hB hR z1 z2 z3 z4 z5 HW1 HW2 HW3 HW4 HW
 have hu:=HQ.out.cells
 have u0:W.cell? ⟨u,0,none⟩=some (.int .i64 x.task):=Bo hu rfl
 have u1:W.cell? ⟨u,1,none⟩=some (.pointer (some ⟨g,0,none⟩)):=Bo hu rfl
 have u2:W.cell? ⟨u,2,none⟩=some (_):=Bo hu rfl
 have u3:W.cell? ⟨u,3,none⟩=some (.int .i64 x.num):=Bo hu rfl
 have u4:W.cell? ⟨u,4,none⟩=some (.int .i64 x.att):=Bo hu rfl
 have u5:W.cell? ⟨u,5,none⟩=some (.int .i64 x.i0):=Bo hu rfl
 have u6:W.cell? ⟨u,6,none⟩=some (.int .i64 x.i1):=Bo hu rfl
 have u7:W.cell? ⟨u,7,none⟩=some (.int .i64 x.gr):=Bo hu rfl
 have u8:W.cell? ⟨u,8,none⟩=some (.bool x.down):=Bo hu rfl
 have u9:W.cell? ⟨u,9,none⟩=some (.int .i64 x.lost):=Bo hu rfl
 clear hu
 cases hd:x.down
 rotate_left
 ·rw[hd] at u8
  have r0:=Bj HRW.out 0 rfl
  have r1:=Bj HRW.out 1 rfl
  have f0:=Bf HRW.out 0
  have f1:=Bf HRW.out 1
  go_wp2
  clear r0 r1 f0 f1
  obtain ⟨XR,hN⟩:∃X,X=((W.setCell ⟨R,0,none⟩ (.int .i64 0)).setCell ⟨R,1,none⟩ (.int .i64 0)):=⟨_,rfl⟩
  rw[←hN]
  obtain ⟨hNb,hNk⟩:=puts_at [(0,.int .i64 0),(1,.int .i64 0)] HRW.out
  have hNe:puts W R [(0,.int .i64 0),(1,.int .i64 0)]=XR:=hN.symm
  have hNz:=puts_size [(0,.int .i64 0),(1,.int .i64 0)] W R
  rw[hNe] at hNb hNk hNz
  have HKr:=Hj hNk
  have HZr:=Hj hNz
  have hXR:XR.heap[R]? =some (.cells #[.int .i64 0,.int .i64 0] 68 (0,0)):=hNb
  refine bodyPost_ret (results_ct rfl _ _ _ _ _ _ _ rfl hXR Tryz.underlying68 rfl (by kernel_rfl)) rfl ?_
  exact ⟨_,_,(show (⟨x,s,0,0,7⟩:FR)=finU x s p ms mq a b pm by unfold finU;rw[if_pos hd]),rfl,((HQ.out.below (Br _ W)).own (z:=R) (by simp) (by omega) ⟨_,_,HRW.out⟩ HKr.out).sub (fun z hz=>by simp[hz])⟩
 have HF0:=Hj (show finU x s p ms mq a b pm=_ by unfold finU;rw[if_neg (by simp[hd])])
 rw[hd] at u8
 have m_0:W.cell? ⟨M,0,none⟩=some (.int .i64 ms):=Bo HMW.out rfl
 have m_3:W.cell? ⟨M,3,none⟩=some (.int .i64 mq):=Bo HMW.out rfl
 go_upto_region 3 with (fail)
 have HSL:Hid (Lg.SlL W.drew (.slice la x.led.length lc) x.led):=Hj (by obtain ⟨_,_,h⟩:=HQ.out.at;exact Rb (Raw.to_nil h.hl) (Br _ W).drew)
 refine Ty.wp_tree [] [] [] [3,5,7] [0,1,2,3,4,5,6,7] (.alt [8,9,10,11,12,13,14,15] (.done) (.no)) (by kernel_rfl) (by kernel_rfl) (by kernel_rfl) (by kernel_rfl) (fun z hz=>by cases hz) ?_
 try simp only[pick,Gs,Gz]
 go_wp2
 refine Rm ?_
 refine Wq ?_
 try simp only[pick,Gs,Gz]
 go_wp2_with fail
 refine (Ldg.see_low _ x.led ms mq _ hll HSL.out hq1 hq2).mono ?_
 rintro e w1 ⟨nv,rfl,hnl,hb1⟩
 obtain ⟨S,hS⟩:∃S,S=Lg.seeL x.led ms mq:=⟨_,rfl⟩
 rw[←hS] at hnl⊢
 rw[←hS] at HF0
 have HS:=Hj hS
 clear hS HSL
 have hb1':Below W.heap.size W w1:=(Br _ W).drew.trans hb1
 have HQ1:=Hj (HQ.out.row hb1' (fun z hz=>by
  simp only[List.mem_append,List.mem_cons,List.not_mem_nil,or_false] at hz
  rcases hz with (h | h | h | h | h) | h <;> first | omega | (have:=H0L.out z h;omega)) (l:=S.1) hnl)
 obtain ⟨na,nc,rfl⟩:∃a c,nv= .slice a S.1.length c:=Rs hnl.sl
 have hs1:=hb1'.size
 have HP1:=Hj ((hb1'.block P (by omega)).trans HPW.out)
 have HA1:=Hj ((hb1'.block A (by omega)).trans HAW.out)
 have HB1:=Hj ((hb1'.block B (by omega)).trans HBW.out)
 have HR1:=Hj ((hb1'.block R (by omega)).trans HRW.out)
 have HIa1:=Hj (Rb HI1.out hb1');have HEa1:=Hj (Rb HE1.out hb1');have HIb1:=Hj (Rb HI2.out hb1');have HEb1:=Hj (Rb HE2.out hb1')
 have hwW1:w.heap.size≤w1.heap.size:=by omega
 have hRW1:R<w1.heap.size:=by omega
 obtain ⟨nl,kd,er⟩:=S
 clear hb1 hb1' hnl HQ HPW HMW HAW HBW HRW HI1 HE1 HI2 HE2 u0 u1 u2 u3 u4 u5 u6 u7 u8 u9 m_0 m_3 hs1 hRW hwW HL
 go_wp2
 refine Sm (Ty.Shown.none) ?_
 try simp only[pick,Gs,Gz]
 go_wp2
 refine Rm ?_
 refine Wd (by rfl) trivial ?_
 by_cases her:er=0
 rotate_left
 ·have ee:(er != 0)=true:=by simp[her]
  have HER:=Hj her
  clear her
  have r0:=Bj HR1.out 0 rfl
  have r1:=Bj HR1.out 1 rfl
  have f0:=Bf HR1.out 0
  have f1:=Bf HR1.out 1
  go_wp2
  clear r0 r1 f0 f1
  obtain ⟨XR,hN⟩:∃X,X=((w1.setCell ⟨R,0,none⟩ (.int .i64 0)).setCell ⟨R,1,none⟩ (.int .i64 0)):=⟨_,rfl⟩
  rw[←hN]
  obtain ⟨hNb,hNk⟩:=puts_at [(0,.int .i64 0),(1,.int .i64 0)] HR1.out
  have hNe:puts w1 R [(0,.int .i64 0),(1,.int .i64 0)]=XR:=hN.symm
  have hNz:=puts_size [(0,.int .i64 0),(1,.int .i64 0)] w1 R
  rw[hNe] at hNb hNk hNz
  have HKr:=Hj hNk
  have HZr:=Hj hNz
  have hXR:XR.heap[R]? =some (.cells #[.int .i64 0,.int .i64 0] 68 (0,0)):=hNb
  refine bodyPost_ret (results_ct rfl _ _ _ _ _ _ _ rfl hXR Tryz.underlying68 rfl (by kernel_rfl)) rfl ?_
  exact ⟨_,_,(show (⟨x,s,0,0,er⟩:FR)=finU x s p ms mq a b pm by rw[HF0.out,if_pos HER.out]),rfl,((HQ1.out.below (Br _ w1)).own (z:=R) (by simp) (by omega) ⟨_,_,HR1.out⟩ HKr.out).sub (fun z hz=>by simp[hz])⟩
 subst her
 by_cases hkd:kd=1
 rotate_left
 ·have ek:(kd != 1)=true:=by simp[hkd]
  have HKD:=Hj hkd
  clear hkd
  have r0:=Bj HR1.out 0 rfl
  have r1:=Bj HR1.out 1 rfl
  have f0:=Bf HR1.out 0
  have f1:=Bf HR1.out 1
  go_wp2
  clear r0 r1 f0 f1
  obtain ⟨XR,hN⟩:∃X,X=((w1.setCell ⟨R,0,none⟩ (.int .i64 0)).setCell ⟨R,1,none⟩ (.int .i64 0)):=⟨_,rfl⟩
  rw[←hN]
  obtain ⟨hNb,hNk⟩:=puts_at [(0,.int .i64 0),(1,.int .i64 0)] HR1.out
  have hNe:puts w1 R [(0,.int .i64 0),(1,.int .i64 0)]=XR:=hN.symm
  have hNz:=puts_size [(0,.int .i64 0),(1,.int .i64 0)] w1 R
  rw[hNe] at hNb hNk hNz
  have HKr:=Hj hNk
  have HZr:=Hj hNz
  have hXR:XR.heap[R]? =some (.cells #[.int .i64 0,.int .i64 0] 68 (0,0)):=hNb
  refine bodyPost_ret (results_ct rfl _ _ _ _ _ _ _ rfl hXR Tryz.underlying68 rfl (by kernel_rfl)) rfl ?_
  exact ⟨_,_,(show (⟨x,s,0,0,23⟩:FR)=finU x s p ms mq a b pm by rw[HF0.out,if_neg (by simp),if_pos HKD.out]),rfl,((HQ1.out.below (Br _ w1)).own (z:=R) (by simp) (by omega) ⟨_,_,HR1.out⟩ HKr.out).sub (fun z hz=>by simp[hz])⟩
 subst hkd
 have HF1:=Hj (show finU x s p ms mq a b pm=_ by rw[HF0.out,if_neg (by simp),if_neg (by simp)])
 clear HF0
 have a_0:w1.cell? ⟨A,0,none⟩=some (.int .i64 a.en):=Bo HA1.out rfl
 have a_1:w1.cell? ⟨A,1,none⟩=some (.int .i64 a.st):=Bo HA1.out rfl
 have a_2:w1.cell? ⟨A,2,none⟩=some (.int .i64 a.er):=Bo HA1.out rfl
 have a_3:w1.cell? ⟨A,3,none⟩=some (.slice ai a.im.length ac):=Bo HA1.out rfl
 have a_4:w1.cell? ⟨A,4,none⟩=some (.slice ae a.ef.length aec):=Bo HA1.out rfl
 have b_0:w1.cell? ⟨B,0,none⟩=some (.int .i64 b.en):=Bo HB1.out rfl
 have b_1:w1.cell? ⟨B,1,none⟩=some (.int .i64 b.st):=Bo HB1.out rfl
 have b_2:w1.cell? ⟨B,2,none⟩=some (.int .i64 b.er):=Bo HB1.out rfl
 have b_3:w1.cell? ⟨B,3,none⟩=some (.slice bi b.im.length bc):=Bo HB1.out rfl
 have b_4:w1.cell? ⟨B,4,none⟩=some (.slice be b.ef.length bec):=Bo HB1.out rfl
 go_upto_region 8 with (fail)
 go_wp2_with fail
 refine (judge_any (UF u g h iv rv) a b _ _ _ _ pm _ HIa1.out HEa1.out HIb1.out HEb1.out).mono ?_
 rintro e w2 ⟨rfl,hb2⟩
 obtain ⟨C,hC⟩:∃C,C=judge a b pm:=⟨_,rfl⟩
 obtain ⟨ST,hST⟩:∃C,C=jst a b:=⟨_,rfl⟩
 rw[←hC,←hST] at HF1⊢
 clear hC hST
 have hs2:=hb2.size
 have HQ2:=Hj (HQ1.out.below hb2)
 have HP2:=Hj ((hb2.block P (by omega)).trans HP1.out)
 have HA2:=Hj ((hb2.block A (by omega)).trans HA1.out)
 have HR2:=Hj ((hb2.block R (by omega)).trans HR1.out)
 have hwW2:w.heap.size≤w2.heap.size:=by omega
 have hRW2:R<w2.heap.size:=by omega
 clear hb2 HQ1 HP1 HA1 HB1 HR1 HIa1 HEa1 HIb1 HEb1 a_0 a_1 a_2 a_3 a_4 b_0 b_1 b_2 b_3 b_4 hs2 hwW1 hRW1
 go_upto_region 9 with (fail)
 obtain ⟨V,hV⟩:∃V,V=w2.heap.size:=⟨_,rfl⟩
 obtain ⟨w3,hw3⟩:∃X,X=w2.alloc (.cells #[.int .i64 C,.int .i64 ST] 68):=⟨_,rfl⟩
 rw[←hw3,←hV]
 have hb3:Below w2.heap.size w2 w3:=by rw[hw3];exact (Br _ w2).alloc (Nr _) _
 have HV3:Hid (w3.heap[V]? =some (.cells #[.int .i64 C,.int .i64 ST] 68 (0,0))):=Hj (by rw[hw3,hV];exact heap_alloc_new w2 _)
 have hVW:V<w3.heap.size:=(Al HV3.out)
 have hs3:=hb3.size
 have HQ3:=Hj (HQ2.out.more (L':=[P,M,A,B,R,V]++L0) hb3 (fun z hz=>by
  simp only[List.mem_append,List.mem_cons,List.not_mem_nil,or_false] at hz
  rcases hz with (h | h | h | h | h | h) | h
  ·exact .inl (by simp[h])
  ·exact .inl (by simp[h])
  ·exact .inl (by simp[h])
  ·exact .inl (by simp[h])
  ·exact .inl (by simp[h])
  ·exact .inr (by omega)
  exact .inl (by simp[h])))
 have HP3:=Hj ((hb3.block P (by omega)).trans HP2.out)
 have HA3:=Hj ((hb3.block A (by omega)).trans HA2.out)
 have HR3:=Hj ((hb3.block R (by omega)).trans HR2.out)
 have hRV:R<V:=by omega
 have hwV:w.heap.size≤V:=by omega
 clear hb3 hw3 hV HQ2 HP2 HA2 HR2 hwW2 hRW2 hs3
 have v_0:w3.cell? ⟨V,0,none⟩=some (.int .i64 C):=Bo HV3.out rfl
 have v_1:w3.cell? ⟨V,1,none⟩=some (.int .i64 ST):=Bo HV3.out rfl
 by_cases hc0:C=0
 rotate_left
 ·have ec:(C==0)=false:=by simp[hc0]
  have HF2:=Hj (HF1.out.trans (by rw[if_neg hc0]))
  clear hc0 HF1
  go_upto_region 21 with (fail)
  have hu:=HQ3.out.cells
  have HU0:=Hj hu
  have u0:w3.cell? ⟨u,0,none⟩=some (.int .i64 x.task):=Bo hu rfl
  have u1:w3.cell? ⟨u,1,none⟩=some (.pointer (some ⟨g,0,none⟩)):=Bo hu rfl
  have u2:w3.cell? ⟨u,2,none⟩=some ((.slice la x.led.length lc)):=Bo hu rfl
  have u3:w3.cell? ⟨u,3,none⟩=some (.int .i64 x.num):=Bo hu rfl
  have u4:w3.cell? ⟨u,4,none⟩=some (.int .i64 x.att):=Bo hu rfl
  have u5:w3.cell? ⟨u,5,none⟩=some (.int .i64 x.i0):=Bo hu rfl
  have u6:w3.cell? ⟨u,6,none⟩=some (.int .i64 x.i1):=Bo hu rfl
  have u7:w3.cell? ⟨u,7,none⟩=some (.int .i64 x.gr):=Bo hu rfl
  have u8:w3.cell? ⟨u,8,none⟩=some (.bool x.down):=Bo hu rfl
  have u9:w3.cell? ⟨u,9,none⟩=some (.int .i64 x.lost):=Bo hu rfl
  have g8:=Bf hu 8
  clear hu
  go_upto_region 22 with (fail)
  clear u0 u1 u2 u3 u4 u5 u6 u7 u8 u9
  clear g8
  obtain ⟨X1,hN⟩:∃X,X=(w3.setCell ⟨u,8,none⟩ (.bool true)):=⟨_,rfl⟩
  rw[←hN]
  obtain ⟨hNb,hNk⟩:=puts_at [(8,.bool true)] HU0.out
  have hNe:puts w3 u [(8,.bool true)]=X1:=hN.symm
  have hNz:=puts_size [(8,.bool true)] w3 u
  rw[hNe] at hNb hNk hNz
  have HK1:=Hj hNk
  have HZ1:=Hj hNz
  have HU1:Hid (X1.heap[u]? =some (.cells (UCells {x with down:=true} g (.slice la x.led.length lc)) 90 (0,0))):=Hj hNb
  have HVa:=Hj ((hNk.block V (by have:=(Al HV3.out);omega) (by simp;omega)).trans HV3.out)
  have HRa:=Hj ((hNk.block R (by have:=(Al HR3.out);omega) (by simp;omega)).trans HR3.out)
  clear hN hNb hNk hNe hNz
  have u0:X1.cell? ⟨u,0,none⟩=some (.int .i64 x.task):=Bo HU1.out rfl
  have u1:X1.cell? ⟨u,1,none⟩=some (.pointer (some ⟨g,0,none⟩)):=Bo HU1.out rfl
  have u2:X1.cell? ⟨u,2,none⟩=some ((.slice la x.led.length lc)):=Bo HU1.out rfl
  have u3:X1.cell? ⟨u,3,none⟩=some (.int .i64 x.num):=Bo HU1.out rfl
  have u4:X1.cell? ⟨u,4,none⟩=some (.int .i64 x.att):=Bo HU1.out rfl
  have u5:X1.cell? ⟨u,5,none⟩=some (.int .i64 x.i0):=Bo HU1.out rfl
  have u6:X1.cell? ⟨u,6,none⟩=some (.int .i64 x.i1):=Bo HU1.out rfl
  have u7:X1.cell? ⟨u,7,none⟩=some (.int .i64 x.gr):=Bo HU1.out rfl
  have u8:X1.cell? ⟨u,8,none⟩=some (.bool true):=Bo HU1.out rfl
  have u9:X1.cell? ⟨u,9,none⟩=some (.int .i64 x.lost):=Bo HU1.out rfl
  have g4:=Bf HU1.out 4
  go_upto_region 23 with (fail)
  clear u0 u1 u2 u3 u4 u5 u6 u7 u8 u9
  clear g4
  obtain ⟨X2,hN⟩:∃X,X=(X1.setCell ⟨u,4,none⟩ (.int .i64 (x.att+1))):=⟨_,rfl⟩
  rw[←hN]
  obtain ⟨hNb,hNk⟩:=puts_at [(4,.int .i64 (x.att+1))] HU1.out
  have hNe:puts X1 u [(4,.int .i64 (x.att+1))]=X2:=hN.symm
  have hNz:=puts_size [(4,.int .i64 (x.att+1))] X1 u
  rw[hNe] at hNb hNk hNz
  have HK2:=Hj hNk
  have HZ2:=Hj hNz
  have HU2:Hid (X2.heap[u]? =some (.cells (UCells {x with down:=true,att:=x.att+1} g (.slice la x.led.length lc)) 90 (0,0))):=Hj hNb
  have HVb:=Hj ((hNk.block V (Al HVa.out) (by simp;omega)).trans HVa.out)
  have HRb:=Hj ((hNk.block R (Al HRa.out) (by simp;omega)).trans HRa.out)
  clear hN hNb hNk hNe hNz
  have u0:X2.cell? ⟨u,0,none⟩=some (.int .i64 x.task):=Bo HU2.out rfl
  have u1:X2.cell? ⟨u,1,none⟩=some (.pointer (some ⟨g,0,none⟩)):=Bo HU2.out rfl
  have u2:X2.cell? ⟨u,2,none⟩=some ((.slice la x.led.length lc)):=Bo HU2.out rfl
  have u3:X2.cell? ⟨u,3,none⟩=some (.int .i64 x.num):=Bo HU2.out rfl
  have u4:X2.cell? ⟨u,4,none⟩=some (.int .i64 (x.att+1)):=Bo HU2.out rfl
  have u5:X2.cell? ⟨u,5,none⟩=some (.int .i64 x.i0):=Bo HU2.out rfl
  have u6:X2.cell? ⟨u,6,none⟩=some (.int .i64 x.i1):=Bo HU2.out rfl
  have u7:X2.cell? ⟨u,7,none⟩=some (.int .i64 x.gr):=Bo HU2.out rfl
  have u8:X2.cell? ⟨u,8,none⟩=some (.bool true):=Bo HU2.out rfl
  have u9:X2.cell? ⟨u,9,none⟩=some (.int .i64 x.lost):=Bo HU2.out rfl
  have g9:=Bf HU2.out 9
  clear v_0 v_1
  have v_0:X2.cell? ⟨V,0,none⟩=some (.int .i64 C):=Bo HVb.out rfl
  have v_1:X2.cell? ⟨V,1,none⟩=some (.int .i64 ST):=Bo HVb.out rfl
  refine Ty.wp_tree [] [] [9] [3,5] [0,1,2,3,4,5,6,7,8] (.alt [9] (.done) (.no)) (by kernel_rfl) (by kernel_rfl) (by kernel_rfl) (by kernel_rfl) (fun z hz=>by cases hz) ?_
  try simp only[pick,Gs,Gz]
  go_wp2
  refine Rm ?_
  refine Wq ?_
  try simp only[pick,Gs,Gz]
  go_wp2
  refine Sm (Ty.Shown.last rfl) ?_
  try simp only[pick,Gs,Gz]
  go_wp2
  refine Rm ?_
  refine Wd (by rfl) trivial ?_
  clear u0 u1 u2 u3 u4 u5 u6 u7 u8 u9
  clear g9 v_0 v_1
  obtain ⟨X3,hN⟩:∃X,X=(X2.setCell ⟨u,9,none⟩ (.int .i64 (wrap64 (x.lost+ST)))):=⟨_,rfl⟩
  rw[←hN]
  obtain ⟨hNb,hNk⟩:=puts_at [(9,.int .i64 (wrap64 (x.lost+ST)))] HU2.out
  have hNe:puts X2 u [(9,.int .i64 (wrap64 (x.lost+ST)))]=X3:=hN.symm
  have hNz:=puts_size [(9,.int .i64 (wrap64 (x.lost+ST)))] X2 u
  rw[hNe] at hNb hNk hNz
  have HK3:=Hj hNk
  have HZ3:=Hj hNz
  have HU3:Hid (X3.heap[u]? =some (.cells (UCells (downed x ST) g (.slice la x.led.length lc)) 90 (0,0))):=Hj hNb
  obtain ⟨X4,hX4⟩:∃X,X=X3.drew:=⟨_,rfl⟩
  rw[←hX4]
  have hdr:Below X3.heap.size X3 X4:=by rw[hX4];exact (Br _ X3).drew
  have HVc:=Hj ((hdr.block V (by have:=(Al HVb.out);omega)).trans ((hNk.block V (Al HVb.out) (by simp;omega)).trans HVb.out))
  have HRc:=Hj ((hdr.block R (by have:=(Al HRb.out);omega)).trans ((hNk.block R (Al HRb.out) (by simp;omega)).trans HRb.out))
  have HQx:=Hj ((HQ3.out.set (x':=downed x ST) ((HK1.out.trans HK2.out (fun f hf=> .inl hf)).trans hNk (fun f hf=> .inl hf)) HU3.out (.inl ⟨rfl,rfl⟩)).below hdr)
  clear hX4 hdr
  clear hN hNb hNk hNe hNz
  have v_0:X4.cell? ⟨V,0,none⟩=some (.int .i64 C):=Bo HVc.out rfl
  have v_1:X4.cell? ⟨V,1,none⟩=some (.int .i64 ST):=Bo HVc.out rfl
  have r0:=Bj HRc.out 0 rfl
  have r1:=Bj HRc.out 1 rfl
  have f0:=Bf HRc.out 0
  have f1:=Bf HRc.out 1
  go_wp2
  clear r0 r1 f0 f1
  obtain ⟨XR,hN⟩:∃X,X=((X4.setCell ⟨R,0,none⟩ (.int .i64 C)).setCell ⟨R,1,none⟩ (.int .i64 ST)):=⟨_,rfl⟩
  rw[←hN]
  obtain ⟨hNb,hNk⟩:=puts_at [(0,.int .i64 C),(1,.int .i64 ST)] HRc.out
  have hNe:puts X4 R [(0,.int .i64 C),(1,.int .i64 ST)]=XR:=hN.symm
  have hNz:=puts_size [(0,.int .i64 C),(1,.int .i64 ST)] X4 R
  rw[hNe] at hNb hNk hNz
  have HKr:=Hj hNk
  have HZr:=Hj hNz
  have hXR:XR.heap[R]? =some (.cells #[.int .i64 C,.int .i64 ST] 68 (0,0)):=hNb
  refine bodyPost_ret (results_ct rfl _ _ _ _ _ _ _ rfl hXR Tryz.underlying68 rfl (by kernel_rfl)) rfl ?_
  exact ⟨_,_,HF2.out.symm,rfl,((HQx.out).own (z:=R) (by simp) (by omega) ⟨_,_,HRc.out⟩ HKr.out).sub (fun z hz=>by simp[hz])⟩
 have ec:(C==0)=true:=by simp[hc0]
 have HF2:=Hj (HF1.out.trans (by rw[if_pos hc0]))
 have HC00:=Hj hc0
 clear hc0 HF1
 have a_0:w3.cell? ⟨A,0,none⟩=some (.int .i64 a.en):=Bo HA3.out rfl
 have a_1:w3.cell? ⟨A,1,none⟩=some (.int .i64 a.st):=Bo HA3.out rfl
 have a_2:w3.cell? ⟨A,2,none⟩=some (.int .i64 a.er):=Bo HA3.out rfl
 have a_3:w3.cell? ⟨A,3,none⟩=some (.slice ai a.im.length ac):=Bo HA3.out rfl
 have a_4:w3.cell? ⟨A,4,none⟩=some (.slice ae a.ef.length aec):=Bo HA3.out rfl
 have hlim:¬(24000:Int)<a.im.length:=by omega
 have hlim2:¬((a.im.length:Int)>24000):=by omega
 go_upto_region 12 with (fail)
 obtain ⟨iv1,rv1,hat,hLn,hby,hnx,hnq⟩:=HQ3.out.take (fun z hz=>by
  simp only[List.mem_append,List.mem_cons,List.not_mem_nil,or_false] at hz
  rcases hz with (h | h | h | h | h | h) | h <;> first | omega | (have:=H0L.out z h;omega))
 have HAT:=Hj hat;have HBY:=Hj (hby HIW.out);have HNQ:=Hj hnq
 have hVn:V∉UF u g h iv1 rv1:=hLn V (by simp)
 have hRn:R∉UF u g h iv1 rv1:=hLn R (by simp)
 clear hat hby hnq hnx hLn
 have p_0:w3.cell? ⟨P,0,none⟩=some (.int .i64 p.c):=Bo HP3.out rfl
 have p_1:w3.cell? ⟨P,1,none⟩=some (.int .i64 p.n):=Bo HP3.out rfl
 have p_2:w3.cell? ⟨P,2,none⟩=some (.int .i64 p.e):=Bo HP3.out rfl
 have p_3:w3.cell? ⟨P,3,none⟩=some (.int .i64 p.k):=Bo HP3.out rfl
 have p_4:w3.cell? ⟨P,4,none⟩=some (.int .i64 p.s):=Bo HP3.out rfl
 have p_5:w3.cell? ⟨P,5,none⟩=some (.int .i64 p.pl):=Bo HP3.out rfl
 have p_6:w3.cell? ⟨P,6,none⟩=some (.int .i64 p.m):=Bo HP3.out rfl
 go_wp2_with fail
 refine (install_any HAT.out p a.im _ hs hal HBY.out).mono ?_
 obtain ⟨D,hD⟩:∃D,D=cutd p (p.hits x.task x.num x.att) (tot s.image a.im):=⟨_,rfl⟩
 obtain ⟨N,hN⟩:∃D,D=tot s.image a.im:=⟨_,rfl⟩
 rw[←hD,←hN] at HF2⊢
 have hN':N≤1000:=by rw[hN];exact tot_le1000 hal
 have hDN:D≤N:=by rw[hD,←hN];exact cutd_le _ _ _
 have HN:=Hj hN
 clear hD hN
 rintro e w4 ⟨rfl,hq⟩
 have hs4:=hq.size
 have HQ4:=Hj (HNQ.out _ _ _ _ hq)
 have HV4:=Hj ((hq.block hVW hVn).trans HV3.out)
 have HR4:=Hj ((hq.block (by omega) hRn).trans HR3.out)
 clear hq HNQ HBY HAT hVn hRn HQ3 HP3 HA3 HR3 HV3 a_0 a_1 a_2 a_3 a_4 p_0 p_1 p_2 p_3 p_4 p_5 p_6 v_0 v_1 hlim hlim2
 have v_0:w4.cell? ⟨V,0,none⟩=some (.int .i64 C):=Bo HV4.out rfl
 have v_1:w4.cell? ⟨V,1,none⟩=some (.int .i64 ST):=Bo HV4.out rfl
 have f1:=Bf HV4.out 1
 go_upto_region 14 with (fail)
 clear v_0 v_1 f1
 obtain ⟨w5,hN⟩:∃X,X=(w4.setCell ⟨V,1,none⟩ (.int .i64 (wrap64 (ST+D)))):=⟨_,rfl⟩
 rw[←hN]
 obtain ⟨hNb,hNk⟩:=puts_at [(1,.int .i64 (wrap64 (ST+D)))] HV4.out
 have hNe:puts w4 V [(1,.int .i64 (wrap64 (ST+D)))]=w5:=hN.symm
 have hNz:=puts_size [(1,.int .i64 (wrap64 (ST+D)))] w4 V
 rw[hNe] at hNb hNk hNz
 have HK5:=Hj hNk
 have HZ5:=Hj hNz
 have HV5:Hid (w5.heap[V]? =some (.cells #[.int .i64 C,.int .i64 (wrap64 (ST+D))] 68 (0,0))):=Hj hNb
 have HR5:=Hj ((hNk.block R (by omega) (by simp;omega)).trans HR4.out)
 have HQ5:=Hj (HQ4.out.own (z:=V) (by simp) hwV ⟨_,_,HV4.out⟩ hNk)
 clear hN hNb hNk hNe hNz HQ4 HV4 HR4
 have hz5:=HZ5.out
 have v_0:w5.cell? ⟨V,0,none⟩=some (.int .i64 C):=Bo HV5.out rfl
 have v_1:w5.cell? ⟨V,1,none⟩=some (.int .i64 (wrap64 (ST+D))):=Bo HV5.out rfl
 obtain ⟨T,hT⟩:∃T,T=wrap64 (ST+D):=⟨_,rfl⟩
 rw[←hT] at HF2 HV5 v_1⊢
 have HTT:=Hj hT
 clear hT
 by_cases hDe:D=N
 ·subst hDe
  have HF3:=Hj (HF2.out.trans (by rw[if_pos rfl]))
  have HDd:=Hj (show decide (D=D)=true by simp)
  have f1:=Bf HV5.out 1
  rw[HDd.out]
  go_upto_region 16 with (fail)
  clear v_0 v_1 f1
  obtain ⟨w6,hN⟩:∃X,X=(w5.setCell ⟨V,1,none⟩ (.int .i64 (wrap64 (T+1)))):=⟨_,rfl⟩
  rw[←hN]
  obtain ⟨hNb,hNk⟩:=puts_at [(1,.int .i64 (wrap64 (T+1)))] HV5.out
  have hNe:puts w5 V [(1,.int .i64 (wrap64 (T+1)))]=w6:=hN.symm
  have hNz:=puts_size [(1,.int .i64 (wrap64 (T+1)))] w5 V
  rw[hNe] at hNb hNk hNz
  have HK6:=Hj hNk
  have HZ6:=Hj hNz
  have HV6:Hid (w6.heap[V]? =some (.cells #[.int .i64 C,.int .i64 (wrap64 (T+1))] 68 (0,0))):=Hj hNb
  have HR6:=Hj ((hNk.block R (by omega) (by simp;omega)).trans HR5.out)
  have HQ6:=Hj (HQ5.out.own (z:=V) (by simp) hwV ⟨_,_,HV5.out⟩ hNk)
  clear hN hNb hNk hNe hNz HQ5 HV5 HR5
  have hz6:=HZ6.out
  have hV6:V<w6.heap.size:=by omega
  obtain ⟨T2,hT2⟩:∃T2,T2=wrap64 (T+1):=⟨_,rfl⟩
  rw[←HTT.out] at HF3
  rw[←hT2] at HF3 HV6
  clear hT2
  obtain ⟨iv2,rv2,hat,hLn,hby,hnx,hnq⟩:=HQ6.out.take (fun z hz=>by
   simp only[List.mem_append,List.mem_cons,List.not_mem_nil,or_false] at hz
   rcases hz with (h | h | h | h | h | h) | h <;> first | omega | (have:=H0L.out z h;omega))
  have HAT2:=Hj hat;have HNX:=Hj hnx
  have hVn:V∉g::LogF h iv2 rv2:=fun hm=>hLn V (by simp) (List.mem_cons_of_mem _ hm)
  have hRn:R∉g::LogF h iv2 rv2:=fun hm=>hLn R (by simp) (List.mem_cons_of_mem _ hm)
  clear hat hby hnq hnx hLn
  have hu:=HAT2.out.hu
  have u0:w6.cell? ⟨u,0,none⟩=some (.int .i64 x.task):=Bo hu rfl
  have u1:w6.cell? ⟨u,1,none⟩=some (.pointer (some ⟨g,0,none⟩)):=Bo hu rfl
  have u2:w6.cell? ⟨u,2,none⟩=some ((.slice la x.led.length lc)):=Bo hu rfl
  have u3:w6.cell? ⟨u,3,none⟩=some (.int .i64 x.num):=Bo hu rfl
  have u4:w6.cell? ⟨u,4,none⟩=some (.int .i64 x.att):=Bo hu rfl
  have u5:w6.cell? ⟨u,5,none⟩=some (.int .i64 x.i0):=Bo hu rfl
  have u6:w6.cell? ⟨u,6,none⟩=some (.int .i64 x.i1):=Bo hu rfl
  have u7:w6.cell? ⟨u,7,none⟩=some (.int .i64 x.gr):=Bo hu rfl
  have u8:w6.cell? ⟨u,8,none⟩=some (.bool x.down):=Bo hu rfl
  have u9:w6.cell? ⟨u,9,none⟩=some (.int .i64 x.lost):=Bo hu rfl
  clear hu
  go_wp2_with fail
  refine (stcommit_yes _ HAT2.out.hs rfl (by show D=tot s.image a.im;exact HN.out) hv).mono ?_
  rintro e w7 ⟨rfl,hq⟩
  have hk7:Keep (g::LogF h iv2 rv2) w6 w7:=by obtain ⟨_,_,_,k,_⟩:=hq;exact k
  have hs7:=hk7.size
  have HQ7:=Hj (HNX.out _ _ hq)
  have HV7:=Hj ((hk7.block V (by omega) hVn).trans HV6.out)
  have HR7:=Hj ((hk7.block R (by omega) hRn).trans HR6.out)
  clear hq HNX HAT2 hVn hRn hk7 HQ6 HV6 HR6
  clear u0 u1 u2 u3 u4 u5 u6 u7 u8 u9
  have hu:=HQ7.out.cells
  have HU7:=Hj hu
  have u0:w7.cell? ⟨u,0,none⟩=some (.int .i64 x.task):=Bo hu rfl
  have u1:w7.cell? ⟨u,1,none⟩=some (.pointer (some ⟨g,0,none⟩)):=Bo hu rfl
  have u2:w7.cell? ⟨u,2,none⟩=some ((.slice la x.led.length lc)):=Bo hu rfl
  have u3:w7.cell? ⟨u,3,none⟩=some (.int .i64 x.num):=Bo hu rfl
  have u4:w7.cell? ⟨u,4,none⟩=some (.int .i64 x.att):=Bo hu rfl
  have u5:w7.cell? ⟨u,5,none⟩=some (.int .i64 x.i0):=Bo hu rfl
  have u6:w7.cell? ⟨u,6,none⟩=some (.int .i64 x.i1):=Bo hu rfl
  have u7:w7.cell? ⟨u,7,none⟩=some (.int .i64 x.gr):=Bo hu rfl
  have u8:w7.cell? ⟨u,8,none⟩=some (.bool x.down):=Bo hu rfl
  have u9:w7.cell? ⟨u,9,none⟩=some (.int .i64 x.lost):=Bo hu rfl
  have g2:=Bf hu 2
  have g3:=Bf hu 3
  have g4:=Bf hu 4
  clear hu
  go_upto_region 18 with (fail)
  clear u0 u1 u2 u3 u4 u5 u6 u7 u8 u9 g2 g3 g4
  obtain ⟨w8,hN⟩:∃X,X=(((w7.setCell ⟨u,2,none⟩ (.slice na nl.length nc)).setCell ⟨u,3,none⟩ (.int .i64 (x.num+1))).setCell ⟨u,4,none⟩ (.int .i64 1)):=⟨_,rfl⟩
  rw[←hN]
  obtain ⟨hNb,hNk⟩:=puts_at [(2,.slice na nl.length nc),(3,.int .i64 (x.num+1)),(4,.int .i64 1)] HU7.out
  have hNe:puts w7 u [(2,.slice na nl.length nc),(3,.int .i64 (x.num+1)),(4,.int .i64 1)]=w8:=hN.symm
  have hNz:=puts_size [(2,.slice na nl.length nc),(3,.int .i64 (x.num+1)),(4,.int .i64 1)] w7 u
  rw[hNe] at hNb hNk hNz
  have HK8:=Hj hNk
  have HZ8:=Hj hNz
  have hu8:w8.heap[u]? =some (.cells (UCells {x with led:=nl,num:=x.num+1,att:=1} g (.slice na nl.length nc)) 90 (0,0)):=hNb
  have HV8:=Hj ((hNk.block V (by omega) (by simp;omega)).trans HV7.out)
  have HR8:=Hj ((hNk.block R (by omega) (by simp;omega)).trans HR7.out)
  have HQ8:=Hj (HQ7.out.set hNk hu8 (.inr (by simp)))
  clear hN hNb hNk hNe hNz HQ7 hu8 HV7 HR7
  have v_0:w8.cell? ⟨V,0,none⟩=some (.int .i64 C):=Bo HV8.out rfl
  have v_1:w8.cell? ⟨V,1,none⟩=some (.int .i64 T2):=Bo HV8.out rfl
  have r0:=Bj HR8.out 0 rfl
  have r1:=Bj HR8.out 1 rfl
  have f0:=Bf HR8.out 0
  have f1:=Bf HR8.out 1
  go_wp2
  clear r0 r1 f0 f1
  obtain ⟨XR,hN⟩:∃X,X=((w8.setCell ⟨R,0,none⟩ (.int .i64 C)).setCell ⟨R,1,none⟩ (.int .i64 T2)):=⟨_,rfl⟩
  rw[←hN]
  obtain ⟨hNb,hNk⟩:=puts_at [(0,.int .i64 C),(1,.int .i64 T2)] HR8.out
  have hNe:puts w8 R [(0,.int .i64 C),(1,.int .i64 T2)]=XR:=hN.symm
  have hNz:=puts_size [(0,.int .i64 C),(1,.int .i64 T2)] w8 R
  rw[hNe] at hNb hNk hNz
  have HKr:=Hj hNk
  have HZr:=Hj hNz
  have hXR:XR.heap[R]? =some (.cells #[.int .i64 C,.int .i64 T2] 68 (0,0)):=hNb
  refine bodyPost_ret (results_ct rfl _ _ _ _ _ _ _ rfl hXR Tryz.underlying68 rfl (by kernel_rfl)) rfl ?_
  exact ⟨_,_,(show (⟨{x with led:=nl,num:=x.num+1,att:=1},⟨a.im,s.ver+1,false,[],0⟩,C,T2,0⟩:FR)=_ by rw[HF3.out,HC00.out]),rfl,((HQ8.out).own (z:=R) (by simp) (by omega) ⟨_,_,HR8.out⟩ HKr.out).sub (fun z hz=>by simp[hz])⟩
 have HF3:=Hj (HF2.out.trans (by rw[if_neg hDe]))
 have HDd:=Hj (show decide (D=N)=false by simp[hDe])
 rw[HDd.out]
 go_upto_region 19 with (fail)
 obtain ⟨iv2,rv2,hat,hLn,hby,hnx,hnq⟩:=HQ5.out.take (fun z hz=>by
  simp only[List.mem_append,List.mem_cons,List.not_mem_nil,or_false] at hz
  rcases hz with (h | h | h | h | h | h) | h <;> first | omega | (have:=H0L.out z h;omega))
 have HAT2:=Hj hat;have HNX:=Hj hnx
 have hVn:V∉g::LogF h iv2 rv2:=fun hm=>hLn V (by simp) (List.mem_cons_of_mem _ hm)
 have hRn:R∉g::LogF h iv2 rv2:=fun hm=>hLn R (by simp) (List.mem_cons_of_mem _ hm)
 clear hat hby hnq hnx hLn
 have hu:=HAT2.out.hu
 have u0:w5.cell? ⟨u,0,none⟩=some (.int .i64 x.task):=Bo hu rfl
 have u1:w5.cell? ⟨u,1,none⟩=some (.pointer (some ⟨g,0,none⟩)):=Bo hu rfl
 have u2:w5.cell? ⟨u,2,none⟩=some ((.slice la x.led.length lc)):=Bo hu rfl
 have u3:w5.cell? ⟨u,3,none⟩=some (.int .i64 x.num):=Bo hu rfl
 have u4:w5.cell? ⟨u,4,none⟩=some (.int .i64 x.att):=Bo hu rfl
 have u5:w5.cell? ⟨u,5,none⟩=some (.int .i64 x.i0):=Bo hu rfl
 have u6:w5.cell? ⟨u,6,none⟩=some (.int .i64 x.i1):=Bo hu rfl
 have u7:w5.cell? ⟨u,7,none⟩=some (.int .i64 x.gr):=Bo hu rfl
 have u8:w5.cell? ⟨u,8,none⟩=some (.bool x.down):=Bo hu rfl
 have u9:w5.cell? ⟨u,9,none⟩=some (.int .i64 x.lost):=Bo hu rfl
 clear hu
 go_wp2_with fail
 refine (stabort_yes _ HAT2.out.hs rfl).mono ?_
 rintro e w7 ⟨rfl,hq⟩
 have hk7:Keep (g::LogF h iv2 rv2) w5 w7:=by obtain ⟨_,_,_,k,_⟩:=hq;exact k
 have hs7:=hk7.size
 have HQ7:=Hj (HNX.out _ _ hq)
 have HV7:=Hj ((hk7.block V (by omega) hVn).trans HV5.out)
 have HR7:=Hj ((hk7.block R (by omega) hRn).trans HR5.out)
 clear hq HNX HAT2 hVn hRn hk7 HQ5 HV5 HR5
 clear u0 u1 u2 u3 u4 u5 u6 u7 u8 u9 v_0 v_1
 have v_0:w7.cell? ⟨V,0,none⟩=some (.int .i64 C):=Bo HV7.out rfl
 have v_1:w7.cell? ⟨V,1,none⟩=some (.int .i64 T):=Bo HV7.out rfl
 have f0:=Bf HV7.out 0
 go_upto_region 21 with (fail)
 clear v_0 v_1 f0
 obtain ⟨w8,hN⟩:∃X,X=(w7.setCell ⟨V,0,none⟩ (.int .i64 6)):=⟨_,rfl⟩
 rw[←hN]
 obtain ⟨hNb,hNk⟩:=puts_at [(0,.int .i64 6)] HV7.out
 have hNe:puts w7 V [(0,.int .i64 6)]=w8:=hN.symm
 have hNz:=puts_size [(0,.int .i64 6)] w7 V
 rw[hNe] at hNb hNk hNz
 have HK8:=Hj hNk
 have HZ8:=Hj hNz
 have HV8:Hid (w8.heap[V]? =some (.cells #[.int .i64 6,.int .i64 T] 68 (0,0))):=Hj hNb
 have HR8:=Hj ((hNk.block R (by omega) (by simp;omega)).trans HR7.out)
 have HQ8:=Hj (HQ7.out.own (z:=V) (by simp) hwV ⟨_,_,HV7.out⟩ hNk)
 clear hN hNb hNk hNe hNz HQ7 HV7 HR7
 have hz8:=HZ8.out
 have v_0:w8.cell? ⟨V,0,none⟩=some (.int .i64 6):=Bo HV8.out rfl
 have v_1:w8.cell? ⟨V,1,none⟩=some (.int .i64 T):=Bo HV8.out rfl
 have hu:=HQ8.out.cells
 have HU0:=Hj hu
 have u0:w8.cell? ⟨u,0,none⟩=some (.int .i64 x.task):=Bo hu rfl
 have u1:w8.cell? ⟨u,1,none⟩=some (.pointer (some ⟨g,0,none⟩)):=Bo hu rfl
 have u2:w8.cell? ⟨u,2,none⟩=some ((.slice la x.led.length lc)):=Bo hu rfl
 have u3:w8.cell? ⟨u,3,none⟩=some (.int .i64 x.num):=Bo hu rfl
 have u4:w8.cell? ⟨u,4,none⟩=some (.int .i64 x.att):=Bo hu rfl
 have u5:w8.cell? ⟨u,5,none⟩=some (.int .i64 x.i0):=Bo hu rfl
 have u6:w8.cell? ⟨u,6,none⟩=some (.int .i64 x.i1):=Bo hu rfl
 have u7:w8.cell? ⟨u,7,none⟩=some (.int .i64 x.gr):=Bo hu rfl
 have u8:w8.cell? ⟨u,8,none⟩=some (.bool x.down):=Bo hu rfl
 have u9:w8.cell? ⟨u,9,none⟩=some (.int .i64 x.lost):=Bo hu rfl
 have g8:=Bf hu 8
 clear hu
 go_upto_region 22 with (fail)
 clear u0 u1 u2 u3 u4 u5 u6 u7 u8 u9
 clear g8
 obtain ⟨X1,hN⟩:∃X,X=(w8.setCell ⟨u,8,none⟩ (.bool true)):=⟨_,rfl⟩
 rw[←hN]
 obtain ⟨hNb,hNk⟩:=puts_at [(8,.bool true)] HU0.out
 have hNe:puts w8 u [(8,.bool true)]=X1:=hN.symm
 have hNz:=puts_size [(8,.bool true)] w8 u
 rw[hNe] at hNb hNk hNz
 have HK1:=Hj hNk
 have HZ1:=Hj hNz
 have HU1:Hid (X1.heap[u]? =some (.cells (UCells {x with down:=true} g (.slice la x.led.length lc)) 90 (0,0))):=Hj hNb
 have HVa:=Hj ((hNk.block V (by have:=(Al HV8.out);omega) (by simp;omega)).trans HV8.out)
 have HRa:=Hj ((hNk.block R (by have:=(Al HR8.out);omega) (by simp;omega)).trans HR8.out)
 clear hN hNb hNk hNe hNz
 have u0:X1.cell? ⟨u,0,none⟩=some (.int .i64 x.task):=Bo HU1.out rfl
 have u1:X1.cell? ⟨u,1,none⟩=some (.pointer (some ⟨g,0,none⟩)):=Bo HU1.out rfl
 have u2:X1.cell? ⟨u,2,none⟩=some ((.slice la x.led.length lc)):=Bo HU1.out rfl
 have u3:X1.cell? ⟨u,3,none⟩=some (.int .i64 x.num):=Bo HU1.out rfl
 have u4:X1.cell? ⟨u,4,none⟩=some (.int .i64 x.att):=Bo HU1.out rfl
 have u5:X1.cell? ⟨u,5,none⟩=some (.int .i64 x.i0):=Bo HU1.out rfl
 have u6:X1.cell? ⟨u,6,none⟩=some (.int .i64 x.i1):=Bo HU1.out rfl
 have u7:X1.cell? ⟨u,7,none⟩=some (.int .i64 x.gr):=Bo HU1.out rfl
 have u8:X1.cell? ⟨u,8,none⟩=some (.bool true):=Bo HU1.out rfl
 have u9:X1.cell? ⟨u,9,none⟩=some (.int .i64 x.lost):=Bo HU1.out rfl
 have g4:=Bf HU1.out 4
 go_upto_region 23 with (fail)
 clear u0 u1 u2 u3 u4 u5 u6 u7 u8 u9
 clear g4
 obtain ⟨X2,hN⟩:∃X,X=(X1.setCell ⟨u,4,none⟩ (.int .i64 (x.att+1))):=⟨_,rfl⟩
 rw[←hN]
 obtain ⟨hNb,hNk⟩:=puts_at [(4,.int .i64 (x.att+1))] HU1.out
 have hNe:puts X1 u [(4,.int .i64 (x.att+1))]=X2:=hN.symm
 have hNz:=puts_size [(4,.int .i64 (x.att+1))] X1 u
 rw[hNe] at hNb hNk hNz
 have HK2:=Hj hNk
 have HZ2:=Hj hNz
 have HU2:Hid (X2.heap[u]? =some (.cells (UCells {x with down:=true,att:=x.att+1} g (.slice la x.led.length lc)) 90 (0,0))):=Hj hNb
 have HVb:=Hj ((hNk.block V (Al HVa.out) (by simp;omega)).trans HVa.out)
 have HRb:=Hj ((hNk.block R (Al HRa.out) (by simp;omega)).trans HRa.out)
 clear hN hNb hNk hNe hNz
 have u0:X2.cell? ⟨u,0,none⟩=some (.int .i64 x.task):=Bo HU2.out rfl
 have u1:X2.cell? ⟨u,1,none⟩=some (.pointer (some ⟨g,0,none⟩)):=Bo HU2.out rfl
 have u2:X2.cell? ⟨u,2,none⟩=some ((.slice la x.led.length lc)):=Bo HU2.out rfl
 have u3:X2.cell? ⟨u,3,none⟩=some (.int .i64 x.num):=Bo HU2.out rfl
 have u4:X2.cell? ⟨u,4,none⟩=some (.int .i64 (x.att+1)):=Bo HU2.out rfl
 have u5:X2.cell? ⟨u,5,none⟩=some (.int .i64 x.i0):=Bo HU2.out rfl
 have u6:X2.cell? ⟨u,6,none⟩=some (.int .i64 x.i1):=Bo HU2.out rfl
 have u7:X2.cell? ⟨u,7,none⟩=some (.int .i64 x.gr):=Bo HU2.out rfl
 have u8:X2.cell? ⟨u,8,none⟩=some (.bool true):=Bo HU2.out rfl
 have u9:X2.cell? ⟨u,9,none⟩=some (.int .i64 x.lost):=Bo HU2.out rfl
 have g9:=Bf HU2.out 9
 clear v_0 v_1
 have v_0:X2.cell? ⟨V,0,none⟩=some (.int .i64 6):=Bo HVb.out rfl
 have v_1:X2.cell? ⟨V,1,none⟩=some (.int .i64 T):=Bo HVb.out rfl
 refine Ty.wp_tree [] [] [9] [3,5] [0,1,2,3,4,5,6,7,8] (.alt [9] (.done) (.no)) (by kernel_rfl) (by kernel_rfl) (by kernel_rfl) (by kernel_rfl) (fun z hz=>by cases hz) ?_
 try simp only[pick,Gs,Gz]
 go_wp2
 refine Rm ?_
 refine Wq ?_
 try simp only[pick,Gs,Gz]
 go_wp2
 refine Sm (Ty.Shown.last rfl) ?_
 try simp only[pick,Gs,Gz]
 go_wp2
 refine Rm ?_
 refine Wd (by rfl) trivial ?_
 clear u0 u1 u2 u3 u4 u5 u6 u7 u8 u9
 clear g9 v_0 v_1
 obtain ⟨X3,hN⟩:∃X,X=(X2.setCell ⟨u,9,none⟩ (.int .i64 (wrap64 (x.lost+T)))):=⟨_,rfl⟩
 rw[←hN]
 obtain ⟨hNb,hNk⟩:=puts_at [(9,.int .i64 (wrap64 (x.lost+T)))] HU2.out
 have hNe:puts X2 u [(9,.int .i64 (wrap64 (x.lost+T)))]=X3:=hN.symm
 have hNz:=puts_size [(9,.int .i64 (wrap64 (x.lost+T)))] X2 u
 rw[hNe] at hNb hNk hNz
 have HK3:=Hj hNk
 have HZ3:=Hj hNz
 have HU3:Hid (X3.heap[u]? =some (.cells (UCells (downed x T) g (.slice la x.led.length lc)) 90 (0,0))):=Hj hNb
 obtain ⟨X4,hX4⟩:∃X,X=X3.drew:=⟨_,rfl⟩
 rw[←hX4]
 have hdr:Below X3.heap.size X3 X4:=by rw[hX4];exact (Br _ X3).drew
 have HVc:=Hj ((hdr.block V (by have:=(Al HVb.out);omega)).trans ((hNk.block V (Al HVb.out) (by simp;omega)).trans HVb.out))
 have HRc:=Hj ((hdr.block R (by have:=(Al HRb.out);omega)).trans ((hNk.block R (Al HRb.out) (by simp;omega)).trans HRb.out))
 have HQx:=Hj ((HQ8.out.set (x':=downed x T) ((HK1.out.trans HK2.out (fun f hf=> .inl hf)).trans hNk (fun f hf=> .inl hf)) HU3.out (.inl ⟨rfl,rfl⟩)).below hdr)
 clear hX4 hdr
 clear hN hNb hNk hNe hNz
 have v_0:X4.cell? ⟨V,0,none⟩=some (.int .i64 6):=Bo HVc.out rfl
 have v_1:X4.cell? ⟨V,1,none⟩=some (.int .i64 T):=Bo HVc.out rfl
 have r0:=Bj HRc.out 0 rfl
 have r1:=Bj HRc.out 1 rfl
 have f0:=Bf HRc.out 0
 have f1:=Bf HRc.out 1
 go_wp2
 clear r0 r1 f0 f1
 obtain ⟨XR,hN⟩:∃X,X=((X4.setCell ⟨R,0,none⟩ (.int .i64 6)).setCell ⟨R,1,none⟩ (.int .i64 T)):=⟨_,rfl⟩
 rw[←hN]
 obtain ⟨hNb,hNk⟩:=puts_at [(0,.int .i64 6),(1,.int .i64 T)] HRc.out
 have hNe:puts X4 R [(0,.int .i64 6),(1,.int .i64 T)]=XR:=hN.symm
 have hNz:=puts_size [(0,.int .i64 6),(1,.int .i64 T)] X4 R
 rw[hNe] at hNb hNk hNz
 have HKr:=Hj hNk
 have HZr:=Hj hNz
 have hXR:XR.heap[R]? =some (.cells #[.int .i64 6,.int .i64 T] 68 (0,0)):=hNb
 refine bodyPost_ret (results_ct rfl _ _ _ _ _ _ _ rfl hXR Tryz.underlying68 rfl (by kernel_rfl)) rfl ?_
 exact ⟨_,_,HF3.out.symm,rfl,((HQx.out).own (z:=R) (by simp) (by omega) ⟨_,_,HRc.out⟩ HKr.out).sub (fun z hz=>by simp[hz])⟩
end Go.Proofs.YtipiofgdjbogiaaGreat
