/- UnitScript: the reference's unit: Finish -/
import Derived.Test.YtipiofgdjbogiaaGreatYh
import Derived.Test.YtipiofgdjbogiaaGreatPk
import Derived.Test.YtipiofgdjbogiaaGreatLz
set_option maxRecDepth 100000
set_option maxHeartbeats 16000000
namespace Go.Im
open Go Go.Txt Go.RowKit Go.Bs Go.Cl Go.Rw Go.Un Go.Fa
theorem RV.row {F:List Nat} {w:World} {v:Value} {img b:List UInt8} {ver k:Nat} (h:RV F w v (rfOf ⟨img,ver,true,b,k⟩)):∃a1 n1 c1 a2 n2 c2 a3 n3 c3 rz a4 n4 c4,v= .agg #[.slice a1 n1 c1,.slice a2 n2 c2,.slice a3 n3 c3,.int .i64 ver,.bool true,.bool rz,.slice a4 n4 c4]:=by
 obtain ⟨iv,wv,nv,tv,rfl,h1,h2,h3,h4⟩:=h
 obtain ⟨a1,c1,rfl⟩:=Rs h1
 obtain ⟨a2,c2,rfl⟩:=Rs h2
 obtain ⟨a3,c3,rfl⟩:=Rs h3
 obtain ⟨a4,c4,rfl⟩:=h4.slice
 exact ⟨_,_,_,_,_,_,_,_,_,_,_,_,_,rfl⟩
theorem RV.done {F:List Nat} {w:World} {v:Value} {b:List UInt8} {ver:Nat} (h:RV F w v (rfOf ⟨b,ver,false,[],0⟩)):∃iv wv nv tv,v= .agg #[iv,wv,nv,.int .i64 ver,.bool false,.bool false,tv]∧Bytes F w iv b∧Bytes F w wv b∧Bytes F w nv []∧ChR F w tv []:=by
 obtain ⟨iv,wv,nv,tv,rfl,h1,h2,h3,h4⟩:=h
 exact ⟨_,_,_,_,rfl,h1,h2,h3,h4⟩
theorem cut_of {x:Us} {p q:FP} {n:Nat} (hq:qof x p=q):cutd p (p.hits x.task x.num x.att) n=if q.k=8∧q.s<n then q.s.toNat else n:=by
 unfold qof at hq
 unfold cutd
 cases hh:p.hits x.task x.num x.att
 ·rw[hh] at hq
  rw[if_neg (by simp),if_neg (by rw[←hq];simp[FP.none])]
 rw[hh,if_pos rfl] at hq
 subst hq
 have hok:p.ok=true:=by unfold FP.hits at hh;simp only[Bool.and_eq_true] at hh;exact hh.1
 by_cases h8:p.k=8
 ·have hs:0≤p.s:=by
   unfold FP.ok at hok
   rw[if_neg (by omega),if_neg (by omega),if_neg (by omega),if_pos h8] at hok
   simp only[Bool.and_eq_true,inR,decide_eq_true_eq] at hok
   omega
  by_cases hn:p.s<n
  ·rw[if_pos ⟨h8,rfl,hs,hn⟩,if_pos ⟨h8,hn⟩]
  rw[if_neg (by omega),if_neg (by omega)]
 rw[if_neg (by omega),if_neg (by omega)]
theorem cut_pos {x:Us} {p q:FP} (hq:qof x p=q) (h8:q.k=8):0≤q.s:=by
 unfold qof at hq
 cases hh:p.hits x.task x.num x.att
 ·rw[hh] at hq;rw[←hq] at h8;simp[FP.none] at h8
 rw[hh,if_pos rfl] at hq
 subst hq
 have hok:p.ok=true:=by unfold FP.hits at hh;simp only[Bool.and_eq_true] at hh;exact hh.1
 unfold FP.ok at hok
 rw[if_neg (by omega),if_neg (by omega),if_neg (by omega),if_pos h8] at hok
 simp only[Bool.and_eq_true,inR,decide_eq_true_eq] at hok
 omega
theorem fin_cut {x:Us} {s:Ps} {p q:FP} {ms mq:Int} {a b:Oc} {pm:Bool} {l:List Lg.Lt} (hd:x.down=false) (hs:Lg.seeL x.led ms mq=(l,1,0)) (hj:judge a b pm=0) (hq:qof x p=q) (h8:q.k=8) (hn:q.s<tot s.image a.im):
  finU x s p ms mq a b pm=⟨downed x (wrap64 (jst a b+q.s)),⟨s.image,s.ver,false,[],0⟩,6,wrap64 (jst a b+q.s),0⟩:=by
 have hc:=cut_of (n:=tot s.image a.im) hq
 rw[if_pos ⟨h8,hn⟩] at hc
 have h0:=cut_pos hq h8
 unfold finU
 rw[if_neg (by simp[hd]),hs,if_neg (by simp),if_neg (by simp),if_pos hj,hc,if_neg (by omega),Int.toNat_of_nonneg h0]
theorem fin_whole {x:Us} {s:Ps} {p q:FP} {ms mq:Int} {a b:Oc} {pm:Bool} {l:List Lg.Lt} (hd:x.down=false) (hs:Lg.seeL x.led ms mq=(l,1,0)) (hj:judge a b pm=0) (hq:qof x p=q) (hn:¬(q.k=8∧q.s<tot s.image a.im)):
  finU x s p ms mq a b pm=⟨{x with led:=l,num:=x.num+1,att:=1},⟨a.im,s.ver+1,false,[],0⟩,0,wrap64 (wrap64 (jst a b+(tot s.image a.im:Nat))+1),0⟩:=by
 have hc:=cut_of (n:=tot s.image a.im) hq
 rw[if_neg hn] at hc
 unfold finU
 rw[if_neg (by simp[hd]),hs,if_neg (by simp),if_neg (by simp),if_pos hj,hc,if_pos rfl]
theorem results_cct {P:Program} {fn:Func} {q r s:Tmp} {ty ty2:TypeId} (h:fn.results=#[.cell q ty,.cell r ty2,.tmp s]) (tmps:Array Value) (w:World) (g g':Nat) (cs cs':Array Value) (t t':TypeId) (d d2:TypeDesc)
  (hp:tmps.getD q undef= .pointer (some ⟨g,0,none⟩)) (hg:w.heap[g]? =some (.cells cs t (0,0))) (hp':tmps.getD r undef= .pointer (some ⟨g',0,none⟩)) (hg':w.heap[g']? =some (.cells cs' t' (0,0)))
  (hu:P.underlying ty=some d) (hd:(match d with | .struct _ | .array _ _=>true | _=>false)=true) (hu2:P.underlying ty2=some d2) (hd2:(match d2 with | .struct _ | .array _ _=>true | _=>false)=true) (hi:(P.info? ty).map (·.size)=some cs.size) (hi':(P.info? ty2).map (·.size)=some cs'.size):
  (results fn tmps).run P w= .ok (.tuple #[.agg cs,.agg cs',tmps.getD s undef]) w:=by
 have hq:tmps[q]?.getD undef= .pointer (some ⟨g,0,none⟩):=by simpa using hp
 have hr:tmps[r]?.getD undef= .pointer (some ⟨g',0,none⟩):=by simpa using hp'
 simp[results,h,hq,hr,asAddr,run_loadVar_row w g t ty cs (0,0) d hg hu hd hi,run_loadVar_row w g' t' ty2 cs' (0,0) d2 hg' hu2 hd2 hi']
end Go.Im
namespace Go.Proofs.YtipiofgdjbogiaaGreat
open Go.Txt Go.RowKit Go.Bs Go.Cl Go.Rw Go.Un Go.Im Go.Fa Go.Wi
theorem rfinish31_any {F:List Nat} (v:Value) (x:Us) (img:List UInt8) (ver:Nat) (p:FP) (a b:Oc) (i1 e1 i2 e2:Value) (ms md mk mq m0 m1 m2 m3:Int) (mv:Value) (pm:Bool) (w:World) (hll:x.led.length≤1000) (hq1: -9223372036854775808≤mq) (hq2:mq≤9223372036854775807) (hn:0≤x.num∧x.num≤1000000) (ha:0≤x.att∧x.att≤1000000) (hal:a.im.length≤24000) (hil:img.length≤24000) (hver:ver<1000000) (hF:∀f∈F,f<w.heap.size) (hv:RUV F w v x img ver) (hI1:Bytes F w i1 a.im) (hE1:Bytes F w e1 a.ef) (hI2:Bytes F w i2 b.im) (hE2:Bytes F w e2 b.ef):
  Calls Tryz.prog 19 #[v,.agg p.cs,.agg #[.int .i64 ms,.int .i64 md,.int .i64 mk,.int .i64 mq,.int .i64 m0,.int .i64 m1,.int .i64 m2,.int .i64 m3,mv],.agg #[.int .i64 a.en,.int .i64 a.st,.int .i64 a.er,i1,e1],.agg #[.int .i64 b.en,.int .i64 b.st,.int .i64 b.er,i2,e2],.bool pm] w fun e w'=>∃v' r,r=finU x ⟨img,ver,false,[],0⟩ p ms mq a b pm∧e= .returned (.tuple #[v',.agg #[.int .i64 r.c,.int .i64 r.st],.int .i64 r.e])∧RUV F w' v' r.x r.s.image r.s.ver∧Below w.heap.size w w':=by
 obtain ⟨xtask,xled,xnum,xatt,xi0,xi1,xgr,xdown,xlost⟩:=x
 dsimp only at hll hn ha⊢
 simp only[FP.cs]
 obtain ⟨iv,wv,nv,tv,lv,rfl,hiv,hwv,hnv,htv,hlv⟩:=hv
 obtain ⟨ia,ic,rfl⟩:=Rs hiv
 obtain ⟨wa,wc,rfl⟩:=Rs hwv
 obtain ⟨na,nc,rfl⟩:=Rs hnv
 obtain ⟨ta,tc,rfl⟩:=htv.slice
 obtain ⟨la,lc,rfl⟩:=Rs hlv
 simp only[RUc,List.length_nil] at hnv htv⊢
 have HIV:=Hj hiv;have HWV:=Hj hwv;have HNV:=Hj hnv;have HTV:=Hj htv;have HLV:=Hj hlv
 clear hiv hwv hnv htv hlv
 obtain ⟨ai,ac,rfl⟩:=Rs hI1
 obtain ⟨ae,aec,rfl⟩:=Rs hE1
 obtain ⟨bi,bc,rfl⟩:=Rs hI2
 obtain ⟨be,bec,rfl⟩:=Rs hE2
 have HI1:=Hj hI1;have HE1:=Hj hE1;have HI2:=Hj hI2;have HE2:=Hj hE2
 have HFF:=Hj hF
 clear hI1 hE1 hI2 hE2 hF
 simp only at*
 obtain ⟨w1,hw1⟩:∃W,W=w.alloc (.cells #[.int .i64 xtask,.slice ia img.length ic,.slice wa img.length wc,.slice na 0 nc,.int .i64 ver,.bool false,.bool false,.slice ta 0 tc,.slice la xled.length lc,.int .i64 xnum,.int .i64 xatt,.int .i64 xi0,.int .i64 xi1,.int .i64 xgr,.bool xdown,.int .i64 xlost] 36):=⟨_,rfl⟩
 obtain ⟨w2,hw2⟩:∃W,W=w1.alloc (.cells #[.int .i64 p.c,.int .i64 p.n,.int .i64 p.e,.int .i64 p.k,.int .i64 p.s,.int .i64 p.pl,.int .i64 p.m] 41):=⟨_,rfl⟩
 obtain ⟨w3,hw3⟩:∃W,W=w2.alloc (.cells #[.int .i64 ms,.int .i64 md,.int .i64 mk,.int .i64 mq,.int .i64 m0,.int .i64 m1,.int .i64 m2,.int .i64 m3,mv] 44):=⟨_,rfl⟩
 obtain ⟨w4,hw4⟩:∃W,W=w3.alloc (.cells #[.int .i64 a.en,.int .i64 a.st,.int .i64 a.er,.slice ai a.im.length ac,.slice ae a.ef.length aec] 46):=⟨_,rfl⟩
 obtain ⟨w5,hw5⟩:∃W,W=w4.alloc (.cells #[.int .i64 b.en,.int .i64 b.st,.int .i64 b.er,.slice bi b.im.length bc,.slice be b.ef.length bec] 46):=⟨_,rfl⟩
 obtain ⟨w6,hw6⟩:∃W,W=w5.alloc (.cells #[.int .i64 0,.slice none 0 0,.slice none 0 0,.slice none 0 0,.int .i64 0,.bool false,.bool false,.slice none 0 0,.slice none 0 0,.int .i64 0,.int .i64 0,.int .i64 0,.int .i64 0,.int .i64 0,.bool false,.int .i64 0] 36):=⟨_,rfl⟩
 obtain ⟨w7,hw7⟩:∃W,W=w6.alloc (.cells #[.int .i64 0,.int .i64 0] 71):=⟨_,rfl⟩
 have z1:w1.heap.size=w.heap.size+1:=by rw[hw1];simp
 have z2:w2.heap.size=w.heap.size+1+1:=by rw[hw2];simp[z1]
 have z3:w3.heap.size=w.heap.size+1+1+1:=by rw[hw3];simp[z2]
 have z4:w4.heap.size=w.heap.size+1+1+1+1:=by rw[hw4];simp[z3]
 have z5:w5.heap.size=w.heap.size+1+1+1+1+1:=by rw[hw5];simp[z4]
 have z6:w6.heap.size=w.heap.size+1+1+1+1+1+1:=by rw[hw6];simp[z5]
 have z7:w7.heap.size=w.heap.size+1+1+1+1+1+1+1:=by rw[hw7];simp[z6]
 have b1:Below w.heap.size w w1:=by rw[hw1];exact (Br _ w).alloc (Nr _) _
 have n1:w1.heap[w.heap.size]? =some (.cells #[.int .i64 xtask,.slice ia img.length ic,.slice wa img.length wc,.slice na 0 nc,.int .i64 ver,.bool false,.bool false,.slice ta 0 tc,.slice la xled.length lc,.int .i64 xnum,.int .i64 xatt,.int .i64 xi0,.int .i64 xi1,.int .i64 xgr,.bool xdown,.int .i64 xlost] 36 (0,0)):=by rw[hw1];exact heap_alloc_new w _
 have b2:Below w1.heap.size w1 w2:=by rw[hw2];exact (Br _ w1).alloc (Nr _) _
 have n2:w2.heap[w.heap.size+1]? =some (.cells #[.int .i64 p.c,.int .i64 p.n,.int .i64 p.e,.int .i64 p.k,.int .i64 p.s,.int .i64 p.pl,.int .i64 p.m] 41 (0,0)):=by rw[hw2,←z1];exact heap_alloc_new w1 _
 have b3:Below w2.heap.size w2 w3:=by rw[hw3];exact (Br _ w2).alloc (Nr _) _
 have n3:w3.heap[w.heap.size+1+1]? =some (.cells #[.int .i64 ms,.int .i64 md,.int .i64 mk,.int .i64 mq,.int .i64 m0,.int .i64 m1,.int .i64 m2,.int .i64 m3,mv] 44 (0,0)):=by rw[hw3,←z2];exact heap_alloc_new w2 _
 have b4:Below w3.heap.size w3 w4:=by rw[hw4];exact (Br _ w3).alloc (Nr _) _
 have n4:w4.heap[w.heap.size+1+1+1]? =some (.cells #[.int .i64 a.en,.int .i64 a.st,.int .i64 a.er,.slice ai a.im.length ac,.slice ae a.ef.length aec] 46 (0,0)):=by rw[hw4,←z3];exact heap_alloc_new w3 _
 have b5:Below w4.heap.size w4 w5:=by rw[hw5];exact (Br _ w4).alloc (Nr _) _
 have n5:w5.heap[w.heap.size+1+1+1+1]? =some (.cells #[.int .i64 b.en,.int .i64 b.st,.int .i64 b.er,.slice bi b.im.length bc,.slice be b.ef.length bec] 46 (0,0)):=by rw[hw5,←z4];exact heap_alloc_new w4 _
 have b6:Below w5.heap.size w5 w6:=by rw[hw6];exact (Br _ w5).alloc (Nr _) _
 have n6:w6.heap[w.heap.size+1+1+1+1+1]? =some (.cells #[.int .i64 0,.slice none 0 0,.slice none 0 0,.slice none 0 0,.int .i64 0,.bool false,.bool false,.slice none 0 0,.slice none 0 0,.int .i64 0,.int .i64 0,.int .i64 0,.int .i64 0,.int .i64 0,.bool false,.int .i64 0] 36 (0,0)):=by rw[hw6,←z5];exact heap_alloc_new w5 _
 have b7:Below w6.heap.size w6 w7:=by rw[hw7];exact (Br _ w6).alloc (Nr _) _
 have n7:w7.heap[w.heap.size+1+1+1+1+1+1]? =some (.cells #[.int .i64 0,.int .i64 0] 71 (0,0)):=by rw[hw7,←z6];exact heap_alloc_new w6 _
 have t1:=b1
 have t2:=t1.trans (b2.mono t1.size)
 have t3:=t2.trans (b3.mono t2.size)
 have t4:=t3.trans (b4.mono t3.size)
 have t5:=t4.trans (b5.mono t4.size)
 have t6:=t5.trans (b6.mono t5.size)
 have t7:=t6.trans (b7.mono t6.size)
 have HU7:=Hj ((b7.block _ (by omega)).trans ((b6.block _ (by omega)).trans ((b5.block _ (by omega)).trans ((b4.block _ (by omega)).trans ((b3.block _ (by omega)).trans ((b2.block _ (by omega)).trans (n1)))))))
 have HP7:=Hj ((b7.block _ (by omega)).trans ((b6.block _ (by omega)).trans ((b5.block _ (by omega)).trans ((b4.block _ (by omega)).trans ((b3.block _ (by omega)).trans (n2))))))
 have HM7:=Hj ((b7.block _ (by omega)).trans ((b6.block _ (by omega)).trans ((b5.block _ (by omega)).trans ((b4.block _ (by omega)).trans (n3)))))
 have HA7:=Hj ((b7.block _ (by omega)).trans ((b6.block _ (by omega)).trans ((b5.block _ (by omega)).trans (n4))))
 have HB7:=Hj ((b7.block _ (by omega)).trans ((b6.block _ (by omega)).trans (n5)))
 have HR7:=Hj ((b7.block _ (by omega)).trans (n6))
 have HT7:=Hj (n7)
 have HW1:=Hj hw1
 have HW2:=Hj hw2
 have HW3:=Hj hw3
 have HW4:=Hj hw4
 have HW5:=Hj hw5
 have HW6:=Hj hw6
 have HW7:=Hj hw7
 have bel7:=t7
 have hz7:=t7.size
 clear hw1 b1 n1 t1 hw2 b2 n2 t2 hw3 b3 n3 t3 hw4 b4 n4 t4 hw5 b5 n5 t5 hw6 b6 n6 t6 hw7 b7 n7 t7
 go_enter Tryz.func19,Tryz.ntmps19
 go_upto_region 1 with (fail)
 rw[←HW1.out,←HW2.out,←HW3.out,←HW4.out,←HW5.out,←HW6.out,←HW7.out]
 obtain ⟨U,hU⟩:∃A,A=w.heap.size:=⟨_,rfl⟩
 obtain ⟨P,hP⟩:∃A,A=w.heap.size+1:=⟨_,rfl⟩
 obtain ⟨M,hM⟩:∃A,A=w.heap.size+1+1:=⟨_,rfl⟩
 obtain ⟨A,hA⟩:∃A,A=w.heap.size+1+1+1:=⟨_,rfl⟩
 obtain ⟨B,hB⟩:∃A,A=w.heap.size+1+1+1+1:=⟨_,rfl⟩
 obtain ⟨R,hR⟩:∃A,A=w.heap.size+1+1+1+1+1:=⟨_,rfl⟩
 obtain ⟨T,hT⟩:∃A,A=w.heap.size+1+1+1+1+1+1:=⟨_,rfl⟩
 rw[←hT,←hR,←hB,←hA,←hM,←hP,←hU]
 rw[←hU] at HU7
 rw[←hP] at HP7
 rw[←hM] at HM7
 rw[←hA] at HA7
 rw[←hB] at HB7
 rw[←hR] at HR7
 rw[←hT] at HT7
 have qU:w.heap.size≤U:=by omega
 have lU:U<w7.heap.size:=by omega
 have qP:w.heap.size≤P:=by omega
 have lP:P<w7.heap.size:=by omega
 have qM:w.heap.size≤M:=by omega
 have lM:M<w7.heap.size:=by omega
 have qA:w.heap.size≤A:=by omega
 have lA:A<w7.heap.size:=by omega
 have qB:w.heap.size≤B:=by omega
 have lB:B<w7.heap.size:=by omega
 have qR:w.heap.size≤R:=by omega
 have lR:R<w7.heap.size:=by omega
 have qT:w.heap.size≤T:=by omega
 have lT:T<w7.heap.size:=by omega
 have dU:U<P:=by omega
 have dP:P<M:=by omega
 have dM:M<A:=by omega
 have dA:A<B:=by omega
 have dB:B<R:=by omega
 have dR:R<T:=by omega
 clear hU hP hM hA hB hR hT z1 HW1 z2 HW2 z3 HW3 z4 HW4 z5 HW5 z6 HW6 z7 HW7
 have HSZ7:=Hj (Nr w7.heap.size)
 cases xdown
 rotate_left
 ·skip
  have cU_0:=Bj HU7.out 0 rfl
  have cU_1:=Bj HU7.out 1 rfl
  have cU_2:=Bj HU7.out 2 rfl
  have cU_3:=Bj HU7.out 3 rfl
  have cU_4:=Bj HU7.out 4 rfl
  have cU_5:=Bj HU7.out 5 rfl
  have cU_6:=Bj HU7.out 6 rfl
  have cU_7:=Bj HU7.out 7 rfl
  have cU_8:=Bj HU7.out 8 rfl
  have cU_9:=Bj HU7.out 9 rfl
  have cU_10:=Bj HU7.out 10 rfl
  have cU_11:=Bj HU7.out 11 rfl
  have cU_12:=Bj HU7.out 12 rfl
  have cU_13:=Bj HU7.out 13 rfl
  have cU_14:=Bj HU7.out 14 rfl
  have cU_15:=Bj HU7.out 15 rfl
  go_upto_region 2 with (fail)
  clear cU_0 cU_1 cU_2 cU_3 cU_4 cU_5 cU_6 cU_7 cU_8 cU_9 cU_10 cU_11 cU_12 cU_13 cU_14 cU_15
  go_step
  refine wpList_load_row rfl 36 _ rfl U rfl 36 #[.int .i64 xtask,.slice ia img.length ic,.slice wa img.length wc,.slice na 0 nc,.int .i64 ver,.bool false,.bool false,.slice ta 0 tc,.slice la xled.length lc,.int .i64 xnum,.int .i64 xatt,.int .i64 xi0,.int .i64 xi1,.int .i64 xgr,.bool true,.int .i64 xlost] (0,0) _ HU7.out Tryz.underlying36 rfl (by kernel_rfl) ?_
  go_wp2_with (first | refine wpList_store_row rfl 36 _ _ rfl R #[.int .i64 xtask,.slice ia img.length ic,.slice wa img.length wc,.slice na 0 nc,.int .i64 ver,.bool false,.bool false,.slice ta 0 tc,.slice la xled.length lc,.int .i64 xnum,.int .i64 xatt,.int .i64 xi0,.int .i64 xi1,.int .i64 xgr,.bool true,.int .i64 xlost] rfl rfl 36 #[.int .i64 0,.slice none 0 0,.slice none 0 0,.slice none 0 0,.int .i64 0,.bool false,.bool false,.slice none 0 0,.slice none 0 0,.int .i64 0,.int .i64 0,.int .i64 0,.int .i64 0,.int .i64 0,.bool false,.int .i64 0] HR7.out (by kernel_rfl) rfl (by kernel_rfl) ?_ | refine wpList_store_row rfl 71 _ _ rfl T #[.int .i64 0,.int .i64 0] rfl rfl 71 #[.int .i64 0,.int .i64 0] (by rw[setRow_other _ _ _ _ (by omega)];exact HT7.out) (by kernel_rfl) rfl (by kernel_rfl) ?_)
  obtain ⟨wz,hwz⟩:∃X,X=(w7.setRow R #[.int .i64 xtask,.slice ia img.length ic,.slice wa img.length wc,.slice na 0 nc,.int .i64 ver,.bool false,.bool false,.slice ta 0 tc,.slice la xled.length lc,.int .i64 xnum,.int .i64 xatt,.int .i64 xi0,.int .i64 xi1,.int .i64 xgr,.bool true,.int .i64 xlost]).setRow T #[.int .i64 0,.int .i64 0]:=⟨_,rfl⟩
  rw[←hwz]
  have hk:Keep [R,T] w7 wz:=by rw[hwz];exact (keep_weak2 (keep_setRow _ _ _)).trans (keep_setRow _ _ _) (fun f hf=> .inl (by simp at hf;simp[hf]))
  have hR:wz.heap[R]? =some (.cells #[.int .i64 xtask,.slice ia img.length ic,.slice wa img.length wc,.slice na 0 nc,.int .i64 ver,.bool false,.bool false,.slice ta 0 tc,.slice la xled.length lc,.int .i64 xnum,.int .i64 xatt,.int .i64 xi0,.int .i64 xi1,.int .i64 xgr,.bool true,.int .i64 xlost] 36 (0,0)):=by rw[hwz,setRow_other _ _ _ _ (by omega)];exact setRow_heap _ _ _ _ _ _ HR7.out
  have hT:wz.heap[T]? =some (.cells #[.int .i64 0,.int .i64 0] 71 (0,0)):=by rw[hwz];exact setRow_heap _ _ _ _ _ _ (by rw[setRow_other _ _ _ _ (by omega)];exact HT7.out)
  refine bodyPost_ret (results_cct rfl _ _ _ _ _ _ _ _ _ _ rfl hR rfl hT Tryz.underlying36 rfl Tryz.underlying71 rfl (by kernel_rfl) (by kernel_rfl)) rfl ?_
  have hn:∀f∈[R,T],w.heap.size≤f:=fun f hf=>by simp only[List.mem_cons,List.not_mem_nil,or_false] at hf;omega
  have belz:=below_keep bel7 hk hn
  exact ⟨_,⟨⟨xtask,xled,xnum,xatt,xi0,xi1,xgr,true,xlost⟩,⟨img,ver,false,[],0⟩,0,0,7⟩,rfl,rfl,⟨_,_,_,_,_,rfl,Rb HIV.out belz,Rb HWV.out belz,Rb HNV.out belz,HTV.out.below belz,Rb HLV.out belz⟩,belz⟩
 have cU_0:=Bj HU7.out 0 rfl
 have cU_1:=Bj HU7.out 1 rfl
 have cU_2:=Bj HU7.out 2 rfl
 have cU_3:=Bj HU7.out 3 rfl
 have cU_4:=Bj HU7.out 4 rfl
 have cU_5:=Bj HU7.out 5 rfl
 have cU_6:=Bj HU7.out 6 rfl
 have cU_7:=Bj HU7.out 7 rfl
 have cU_8:=Bj HU7.out 8 rfl
 have cU_9:=Bj HU7.out 9 rfl
 have cU_10:=Bj HU7.out 10 rfl
 have cU_11:=Bj HU7.out 11 rfl
 have cU_12:=Bj HU7.out 12 rfl
 have cU_13:=Bj HU7.out 13 rfl
 have cU_14:=Bj HU7.out 14 rfl
 have cU_15:=Bj HU7.out 15 rfl
 have cM_0:=Bj HM7.out 0 rfl
 have cM_1:=Bj HM7.out 1 rfl
 have cM_2:=Bj HM7.out 2 rfl
 have cM_3:=Bj HM7.out 3 rfl
 have cM_4:=Bj HM7.out 4 rfl
 have cM_5:=Bj HM7.out 5 rfl
 have cM_6:=Bj HM7.out 6 rfl
 have cM_7:=Bj HM7.out 7 rfl
 have cM_8:=Bj HM7.out 8 rfl
 go_wp2_with fail
 refine (Ldg.rsee_low _ xled ms mq _ (by omega) (Raw.to_nil (Rb HLV.out bel7)) hq1 hq2).mono ?_
 rintro e w8 ⟨v8,rfl,hl8,hb8⟩
 clear cU_0 cU_1 cU_2 cU_3 cU_4 cU_5 cU_6 cU_7 cU_8 cU_9 cU_10 cU_11 cU_12 cU_13 cU_14 cU_15 cM_0 cM_1 cM_2 cM_3 cM_4 cM_5 cM_6 cM_7 cM_8
 have HU8:=Hj (Kb hb8 HU7.out)
 have HP8:=Hj (Kb hb8 HP7.out)
 have HM8:=Hj (Kb hb8 HM7.out)
 have HA8:=Hj (Kb hb8 HA7.out)
 have HB8:=Hj (Kb hb8 HB7.out)
 have HR8:=Hj (Kb hb8 HR7.out)
 have HT8:=Hj (Kb hb8 HT7.out)
 have HSZ8:=Hj (Nat.le_trans HSZ7.out (hb8).size)
 clear HU7 HP7 HM7 HA7 HB7 HR7 HT7 HSZ7
 have bel8:=bel7.trans (hb8.mono bel7.size)
 obtain ⟨sl,hsl⟩:∃sl,sl=Lg.seeL xled ms mq:=⟨_,rfl⟩
 rw[←hsl] at hl8⊢
 have HSL:=Hj hsl
 obtain ⟨na2,nc2,rfl⟩:=Rs hl8.sl
 have HX8:Hid (Raw (U::R::T::F) 2 w8 (.slice na2 sl.1.length nc2) sl.1.length (sl.1.flatMap Lg.encL)):=Hj (hl8 _ (fun f hf=>by
  simp only[List.mem_cons] at hf
  rcases hf with rfl | rfl | rfl | hf
  ·exact lU
  ·exact lR
  ·exact lT
  have:=HFF.out f hf;omega))
 clear hsl hl8 hb8
 obtain ⟨sl1,sk,se⟩:=sl
 simp only at*
 by_cases he:se=0
 rotate_left
 ·have HE5:=Hj he
  have heb:(se != 0)=true:=by simpa using he
  clear he
  go_upto_region 5 with (fail)
  go_step
  refine wpList_load_row rfl 36 _ rfl U rfl 36 #[.int .i64 xtask,.slice ia img.length ic,.slice wa img.length wc,.slice na 0 nc,.int .i64 ver,.bool false,.bool false,.slice ta 0 tc,.slice la xled.length lc,.int .i64 xnum,.int .i64 xatt,.int .i64 xi0,.int .i64 xi1,.int .i64 xgr,.bool false,.int .i64 xlost] (0,0) _ HU8.out Tryz.underlying36 rfl (by kernel_rfl) ?_
  go_wp2_with (first | refine wpList_store_row rfl 36 _ _ rfl R #[.int .i64 xtask,.slice ia img.length ic,.slice wa img.length wc,.slice na 0 nc,.int .i64 ver,.bool false,.bool false,.slice ta 0 tc,.slice la xled.length lc,.int .i64 xnum,.int .i64 xatt,.int .i64 xi0,.int .i64 xi1,.int .i64 xgr,.bool false,.int .i64 xlost] rfl rfl 36 #[.int .i64 0,.slice none 0 0,.slice none 0 0,.slice none 0 0,.int .i64 0,.bool false,.bool false,.slice none 0 0,.slice none 0 0,.int .i64 0,.int .i64 0,.int .i64 0,.int .i64 0,.int .i64 0,.bool false,.int .i64 0] HR8.out (by kernel_rfl) rfl (by kernel_rfl) ?_ | refine wpList_store_row rfl 71 _ _ rfl T #[.int .i64 0,.int .i64 0] rfl rfl 71 #[.int .i64 0,.int .i64 0] (by rw[setRow_other _ _ _ _ (by omega)];exact HT8.out) (by kernel_rfl) rfl (by kernel_rfl) ?_)
  obtain ⟨wz,hwz⟩:∃X,X=(w8.setRow R #[.int .i64 xtask,.slice ia img.length ic,.slice wa img.length wc,.slice na 0 nc,.int .i64 ver,.bool false,.bool false,.slice ta 0 tc,.slice la xled.length lc,.int .i64 xnum,.int .i64 xatt,.int .i64 xi0,.int .i64 xi1,.int .i64 xgr,.bool false,.int .i64 xlost]).setRow T #[.int .i64 0,.int .i64 0]:=⟨_,rfl⟩
  rw[←hwz]
  have hk:Keep [R,T] w8 wz:=by rw[hwz];exact (keep_weak2 (keep_setRow _ _ _)).trans (keep_setRow _ _ _) (fun f hf=> .inl (by simp at hf;simp[hf]))
  have hR:wz.heap[R]? =some (.cells #[.int .i64 xtask,.slice ia img.length ic,.slice wa img.length wc,.slice na 0 nc,.int .i64 ver,.bool false,.bool false,.slice ta 0 tc,.slice la xled.length lc,.int .i64 xnum,.int .i64 xatt,.int .i64 xi0,.int .i64 xi1,.int .i64 xgr,.bool false,.int .i64 xlost] 36 (0,0)):=by rw[hwz,setRow_other _ _ _ _ (by omega)];exact setRow_heap _ _ _ _ _ _ HR8.out
  have hT:wz.heap[T]? =some (.cells #[.int .i64 0,.int .i64 0] 71 (0,0)):=by rw[hwz];exact setRow_heap _ _ _ _ _ _ (by rw[setRow_other _ _ _ _ (by omega)];exact HT8.out)
  refine bodyPost_ret (results_cct rfl _ _ _ _ _ _ _ _ _ _ rfl hR rfl hT Tryz.underlying36 rfl Tryz.underlying71 rfl (by kernel_rfl) (by kernel_rfl)) rfl ?_
  have hn:∀f∈[R,T],w.heap.size≤f:=fun f hf=>by simp only[List.mem_cons,List.not_mem_nil,or_false] at hf;omega
  have belz:=below_keep bel8 hk hn
  exact ⟨_,⟨⟨xtask,xled,xnum,xatt,xi0,xi1,xgr,false,xlost⟩,⟨img,ver,false,[],0⟩,0,0,se⟩,(show _=finU ⟨xtask,xled,xnum,xatt,xi0,xi1,xgr,false,xlost⟩ ⟨img,ver,false,[],0⟩ p ms mq a b pm by unfold finU;rw[if_neg (by simp),←HSL.out,if_pos HE5.out]),rfl,⟨_,_,_,_,_,rfl,Rb HIV.out belz,Rb HWV.out belz,Rb HNV.out belz,HTV.out.below belz,Rb HLV.out belz⟩,belz⟩
 obtain rfl:se=0:=he
 by_cases hk1:sk=1
 rotate_left
 ·have HE7:=Hj hk1
  have hkb:(sk != 1)=true:=by simpa using hk1
  clear hk1
  go_upto_region 7 with (fail)
  go_step
  refine wpList_load_row rfl 36 _ rfl U rfl 36 #[.int .i64 xtask,.slice ia img.length ic,.slice wa img.length wc,.slice na 0 nc,.int .i64 ver,.bool false,.bool false,.slice ta 0 tc,.slice la xled.length lc,.int .i64 xnum,.int .i64 xatt,.int .i64 xi0,.int .i64 xi1,.int .i64 xgr,.bool false,.int .i64 xlost] (0,0) _ HU8.out Tryz.underlying36 rfl (by kernel_rfl) ?_
  go_wp2_with (first | refine wpList_store_row rfl 36 _ _ rfl R #[.int .i64 xtask,.slice ia img.length ic,.slice wa img.length wc,.slice na 0 nc,.int .i64 ver,.bool false,.bool false,.slice ta 0 tc,.slice la xled.length lc,.int .i64 xnum,.int .i64 xatt,.int .i64 xi0,.int .i64 xi1,.int .i64 xgr,.bool false,.int .i64 xlost] rfl rfl 36 #[.int .i64 0,.slice none 0 0,.slice none 0 0,.slice none 0 0,.int .i64 0,.bool false,.bool false,.slice none 0 0,.slice none 0 0,.int .i64 0,.int .i64 0,.int .i64 0,.int .i64 0,.int .i64 0,.bool false,.int .i64 0] HR8.out (by kernel_rfl) rfl (by kernel_rfl) ?_ | refine wpList_store_row rfl 71 _ _ rfl T #[.int .i64 0,.int .i64 0] rfl rfl 71 #[.int .i64 0,.int .i64 0] (by rw[setRow_other _ _ _ _ (by omega)];exact HT8.out) (by kernel_rfl) rfl (by kernel_rfl) ?_)
  obtain ⟨wz,hwz⟩:∃X,X=(w8.setRow R #[.int .i64 xtask,.slice ia img.length ic,.slice wa img.length wc,.slice na 0 nc,.int .i64 ver,.bool false,.bool false,.slice ta 0 tc,.slice la xled.length lc,.int .i64 xnum,.int .i64 xatt,.int .i64 xi0,.int .i64 xi1,.int .i64 xgr,.bool false,.int .i64 xlost]).setRow T #[.int .i64 0,.int .i64 0]:=⟨_,rfl⟩
  rw[←hwz]
  have hk:Keep [R,T] w8 wz:=by rw[hwz];exact (keep_weak2 (keep_setRow _ _ _)).trans (keep_setRow _ _ _) (fun f hf=> .inl (by simp at hf;simp[hf]))
  have hR:wz.heap[R]? =some (.cells #[.int .i64 xtask,.slice ia img.length ic,.slice wa img.length wc,.slice na 0 nc,.int .i64 ver,.bool false,.bool false,.slice ta 0 tc,.slice la xled.length lc,.int .i64 xnum,.int .i64 xatt,.int .i64 xi0,.int .i64 xi1,.int .i64 xgr,.bool false,.int .i64 xlost] 36 (0,0)):=by rw[hwz,setRow_other _ _ _ _ (by omega)];exact setRow_heap _ _ _ _ _ _ HR8.out
  have hT:wz.heap[T]? =some (.cells #[.int .i64 0,.int .i64 0] 71 (0,0)):=by rw[hwz];exact setRow_heap _ _ _ _ _ _ (by rw[setRow_other _ _ _ _ (by omega)];exact HT8.out)
  refine bodyPost_ret (results_cct rfl _ _ _ _ _ _ _ _ _ _ rfl hR rfl hT Tryz.underlying36 rfl Tryz.underlying71 rfl (by kernel_rfl) (by kernel_rfl)) rfl ?_
  have hn:∀f∈[R,T],w.heap.size≤f:=fun f hf=>by simp only[List.mem_cons,List.not_mem_nil,or_false] at hf;omega
  have belz:=below_keep bel8 hk hn
  exact ⟨_,⟨⟨xtask,xled,xnum,xatt,xi0,xi1,xgr,false,xlost⟩,⟨img,ver,false,[],0⟩,0,0,23⟩,(show _=finU ⟨xtask,xled,xnum,xatt,xi0,xi1,xgr,false,xlost⟩ ⟨img,ver,false,[],0⟩ p ms mq a b pm by unfold finU;rw[if_neg (by simp),←HSL.out,if_neg (by simp),if_pos HE7.out]),rfl,⟨_,_,_,_,_,rfl,Rb HIV.out belz,Rb HWV.out belz,Rb HNV.out belz,HTV.out.below belz,Rb HLV.out belz⟩,belz⟩
 obtain rfl:sk=1:=hk1
 go_upto_region 8 with (fail)
 go_wp2_with (first | refine wpList_load_row rfl 46 _ rfl A rfl 46 #[.int .i64 a.en,.int .i64 a.st,.int .i64 a.er,.slice ai a.im.length ac,.slice ae a.ef.length aec] (0,0) _ HA8.out Tryz.underlying46 rfl (by kernel_rfl) ?_ | refine wpList_load_row rfl 46 _ rfl B rfl 46 #[.int .i64 b.en,.int .i64 b.st,.int .i64 b.er,.slice bi b.im.length bc,.slice be b.ef.length bec] (0,0) _ HB8.out Tryz.underlying46 rfl (by kernel_rfl) ?_ | fail)
 refine (rjudge_any a b _ _ _ _ pm _ (Raw.to_nil (Rb HI1.out bel8)) (Raw.to_nil (Rb HE1.out bel8)) (Raw.to_nil (Rb HI2.out bel8)) (Raw.to_nil (Rb HE2.out bel8))).mono ?_
 rintro e w9 ⟨rfl,hb9⟩
 have HU9:=Hj (Kb hb9 HU8.out)
 have HP9:=Hj (Kb hb9 HP8.out)
 have HM9:=Hj (Kb hb9 HM8.out)
 have HA9:=Hj (Kb hb9 HA8.out)
 have HB9:=Hj (Kb hb9 HB8.out)
 have HR9:=Hj (Kb hb9 HR8.out)
 have HT9:=Hj (Kb hb9 HT8.out)
 have HSZ9:=Hj (Nat.le_trans HSZ8.out (hb9).size)
 have HX9:=Hj (Rb HX8.out hb9)
 clear HU8 HP8 HM8 HA8 HB8 HR8 HT8 HSZ8 HX8
 have bel9:=bel8.trans (hb9.mono bel8.size)
 clear hb9
 obtain ⟨jc,hjc⟩:∃jc,jc=judge a b pm:=⟨_,rfl⟩
 obtain ⟨jt,hjt⟩:∃jt,jt=jst a b:=⟨_,rfl⟩
 rw[←hjc,←hjt]
 have HJC:=Hj hjc;have HJT:=Hj hjt
 clear hjc hjt
 go_upto_region 9 with (refine wpList_store_row rfl 71 _ _ rfl w9.heap.size #[.int .i64 jc,.int .i64 jt] rfl rfl 71 #[.int .i64 0,.int .i64 0] (heap_alloc_new w9 _) (by kernel_rfl) rfl (by kernel_rfl) ?_)
 rw[World.setRow_alloc_new]
 obtain ⟨V,hV⟩:∃S,S=w9.heap.size:=⟨_,rfl⟩
 obtain ⟨w10,hw10⟩:∃W,W=w9.alloc (.cells #[.int .i64 jc,.int .i64 jt] 71):=⟨_,rfl⟩
 rw[←hw10,←hV]
 have hb10:Below w9.heap.size w9 w10:=by rw[hw10];exact (Br _ _).alloc (Nr _) _
 have hxV:w10.heap[V]? =some (.cells #[.int .i64 jc,.int .i64 jt] 71 (0,0)):=by rw[hw10,hV];exact heap_alloc_new w9 _
 have qV:w.heap.size≤V:=by have:=bel9.size;omega
 have dUV:U<V:=by have:=(Al HU9.out);omega
 have dPV:P<V:=by have:=(Al HP9.out);omega
 have dMV:M<V:=by have:=(Al HM9.out);omega
 have dAV:A<V:=by have:=(Al HA9.out);omega
 have dBV:B<V:=by have:=(Al HB9.out);omega
 have dRV:R<V:=by have:=(Al HR9.out);omega
 have dTV:T<V:=by have:=(Al HT9.out);omega
 have HX9:=Hj (Raw.fresh (F':=V::U::R::T::F) HX9.out (fun f hf=>by rcases List.mem_cons.1 hf with rfl | hf;exact .inr (Nat.le_of_eq hV.symm);exact .inl hf))
 clear hw10 hV
 have HU10:=Hj (Kb hb10 HU9.out)
 have HP10:=Hj (Kb hb10 HP9.out)
 have HM10:=Hj (Kb hb10 HM9.out)
 have HA10:=Hj (Kb hb10 HA9.out)
 have HB10:=Hj (Kb hb10 HB9.out)
 have HR10:=Hj (Kb hb10 HR9.out)
 have HT10:=Hj (Kb hb10 HT9.out)
 have HSZ10:=Hj (Nat.le_trans HSZ9.out (hb10).size)
 have HX10:=Hj (Rb HX9.out hb10)
 clear HU9 HP9 HM9 HA9 HB9 HR9 HT9 HSZ9 HX9
 have bel10:=bel9.trans (hb10.mono bel9.size)
 have HV10:=Hj hxV
 clear hxV hb10
 have lV:=(Al HV10.out)
 by_cases hj0:jc=0
 rotate_left
 ·have HJ0:=Hj hj0
  have hjb:(jc != 0)=true:=by simpa using hj0
  clear hj0
  have cV_0:=Bj HV10.out 0 rfl
  have cV_1:=Bj HV10.out 1 rfl
  go_upto_region 10 with (fail)
  have hrt:∀f∈R::T::F,f∈F∨w.heap.size≤f:=fun f hf=>by
   simp only[List.mem_cons] at hf
   rcases hf with rfl | rfl | hf
   ·exact .inr qR
   ·exact .inr qT
   exact .inl hf
  have HRUV:Hid (RUV (R::T::F) w (.agg #[.int .i64 xtask,.slice ia img.length ic,.slice wa img.length wc,.slice na 0 nc,.int .i64 ver,.bool false,.bool false,.slice ta 0 tc,.slice la xled.length lc,.int .i64 xnum,.int .i64 xatt,.int .i64 xi0,.int .i64 xi1,.int .i64 xgr,.bool false,.int .i64 xlost]) ⟨xtask,xled,xnum,xatt,xi0,xi1,xgr,false,xlost⟩ img ver):=Hj ⟨_,_,_,_,_,rfl,Raw.fresh HIV.out hrt,Raw.fresh HWV.out hrt,Raw.fresh HNV.out hrt,HTV.out.keep (Keep.refl [] _) (fun f hf=>by cases hf) hrt,Raw.fresh HLV.out hrt⟩
  clear cV_0 cV_1
  go_upto_region 10 with (fail)
  have HBL10:Hid (∀q∈[U,V],∃cc e f,w10.heap[q]? =some (.cells cc e f)):=Hj (by
   intro q hq
   simp only[List.mem_cons,List.not_mem_nil,or_false] at hq
   rcases hq with rfl | rfl <;> first | exact ⟨_,_,_,HU10.out⟩ | exact ⟨_,_,_,HV10.out⟩)
  have hBl:=show∀q∈[U,V],∃cc e f,w10.heap[q]? =some (.cells cc e f) from HBL10.out
  clear HBL10
  refine Ty.wp_tree [U,V] [4] [] [0,2,4] [0,1,2,4] (.alt [3] (.alt [5] (.alt [6,7] (.done) (.no)) (.no)) (.no)) (by kernel_rfl) (by kernel_rfl) (by kernel_rfl) (by kernel_rfl) hBl ?_
  obtain ⟨w11,hwd⟩:∃y,y=w10.drew:=⟨_,rfl⟩
  have HS11:Hid (SameB [U,V] w11 w11):=Hj (by rw[hwd];exact same_start hBl)
  clear hBl
  rw[←hwd]
  have hdr:Below w10.heap.size w10 w11:=by rw[hwd];exact (Br _ _).drew
  have HU11:=Hj (Kb hdr HU10.out)
  have HP11:=Hj (Kb hdr HP10.out)
  have HM11:=Hj (Kb hdr HM10.out)
  have HA11:=Hj (Kb hdr HA10.out)
  have HB11:=Hj (Kb hdr HB10.out)
  have HR11:=Hj (Kb hdr HR10.out)
  have HT11:=Hj (Kb hdr HT10.out)
  have HSZ11:=Hj (Nat.le_trans HSZ10.out (hdr).size)
  have HX11:=Hj (Rb HX10.out hdr)
  have HV11:=Hj (Kb hdr HV10.out)
  clear HU10 HP10 HM10 HA10 HB10 HR10 HT10 HSZ10 HX10 HV10
  have bel11:=bel10.trans (hdr.mono bel10.size)
  clear hdr hwd
  have cV_1:=Bj HV11.out 1 rfl
  try simp only[pick,Gs,Gz]
  go_wp2_with (first | refine wpList_load_row rfl 36 _ rfl U rfl 36 #[.int .i64 xtask,.slice ia img.length ic,.slice wa img.length wc,.slice na 0 nc,.int .i64 ver,.bool false,.bool false,.slice ta 0 tc,.slice la xled.length lc,.int .i64 xnum,.int .i64 xatt,.int .i64 xi0,.int .i64 xi1,.int .i64 xgr,.bool false,.int .i64 xlost] (0,0) _ HU11.out Tryz.underlying36 rfl (by kernel_rfl) ?_ | (refine wpList_load_row rfl 71 _ rfl V rfl 71 #[.int .i64 jc,.int .i64 jt] (0,0) _ HV11.out Tryz.underlying71 rfl (by kernel_rfl) ?_))
  refine Rm ?_
  refine Wq ?_
  try simp only[pick,Gs,Gz]
  go_wp2_with fail
  refine (rfailed31_any (F:=R::T::F) _ ⟨xtask,xled,xnum,xatt,xi0,xi1,xgr,false,xlost⟩ img ver jt _ ha (HRUV.out.below bel11)).mono ?_
  rintro e w12 ⟨v12,rfl,hr12,hb12⟩
  clear cV_1
  have HU12:=Hj (Kb hb12 HU11.out)
  have HP12:=Hj (Kb hb12 HP11.out)
  have HM12:=Hj (Kb hb12 HM11.out)
  have HA12:=Hj (Kb hb12 HA11.out)
  have HB12:=Hj (Kb hb12 HB11.out)
  have HR12:=Hj (Kb hb12 HR11.out)
  have HT12:=Hj (Kb hb12 HT11.out)
  have HSZ12:=Hj (Nat.le_trans HSZ11.out (hb12).size)
  have HX12:=Hj (Rb HX11.out hb12)
  have HV12:=Hj (Kb hb12 HV11.out)
  clear HU11 HP11 HM11 HA11 HB11 HR11 HT11 HSZ11 HX11 HV11
  have bel12:=bel11.trans (hb12.mono bel11.size)
  have HS12:=Hj (same_below' HS11.out hb12)
  obtain ⟨iv2,wv2,nv2,tv2,lv2,rfl,hiv,hwv,hnv,htv,hlv⟩:=hr12
  obtain ⟨ia2,ic2,rfl⟩:=Rs hiv
  obtain ⟨wa2,wc2,rfl⟩:=Rs hwv
  obtain ⟨na3,nc3,rfl⟩:=Rs hnv
  obtain ⟨ta2,tc2,rfl⟩:=htv.slice
  obtain ⟨la2,lc2,rfl⟩:=Rs hlv
  simp only[RUc,List.length_nil,downed] at hnv htv hlv⊢
  have HRS:=Hj (show RUV (R::T::F) w12 _ (downed ⟨xtask,xled,xnum,xatt,xi0,xi1,xgr,false,xlost⟩ jt) img ver from ⟨_,_,_,_,_,rfl,hiv,hwv,hnv,htv,hlv⟩)
  clear hiv hwv hnv htv hlv hb12
  go_wp2
  refine Sm (Ss HS12.out) ?_
  try simp only[pick,Gs,Gz]
  go_wp2
  refine Rm ?_
  refine Wq ?_
  try simp only[pick,Gs,Gz]
  go_wp2_with (refine wpList_store_row rfl 36 _ _ rfl R #[.int .i64 xtask,.slice ia2 img.length ic2,.slice wa2 img.length wc2,.slice na3 0 nc3,.int .i64 ver,.bool false,.bool false,.slice ta2 0 tc2,.slice la2 xled.length lc2,.int .i64 xnum,.int .i64 (xatt+1),.int .i64 xi0,.int .i64 xi1,.int .i64 xgr,.bool true,.int .i64 (wrap64 (xlost+jt))] rfl rfl 36 #[.int .i64 0,.slice none 0 0,.slice none 0 0,.slice none 0 0,.int .i64 0,.bool false,.bool false,.slice none 0 0,.slice none 0 0,.int .i64 0,.int .i64 0,.int .i64 0,.int .i64 0,.int .i64 0,.bool false,.int .i64 0] HR12.out (by kernel_rfl) rfl (by kernel_rfl) ?_)
  obtain ⟨w13,hN⟩:∃X,X=w12.setRow R #[.int .i64 xtask,.slice ia2 img.length ic2,.slice wa2 img.length wc2,.slice na3 0 nc3,.int .i64 ver,.bool false,.bool false,.slice ta2 0 tc2,.slice la2 xled.length lc2,.int .i64 xnum,.int .i64 (xatt+1),.int .i64 xi0,.int .i64 xi1,.int .i64 xgr,.bool true,.int .i64 (wrap64 (xlost+jt))]:=⟨_,rfl⟩
  rw[←hN]
  have hNk:Keep [R] w12 w13:=by rw[hN];exact keep_setRow _ _ _
  have HR13:Hid (w13.heap[R]? =some (.cells #[.int .i64 xtask,.slice ia2 img.length ic2,.slice wa2 img.length wc2,.slice na3 0 nc3,.int .i64 ver,.bool false,.bool false,.slice ta2 0 tc2,.slice la2 xled.length lc2,.int .i64 xnum,.int .i64 (xatt+1),.int .i64 xi0,.int .i64 xi1,.int .i64 xgr,.bool true,.int .i64 (wrap64 (xlost+jt))] 36 (0,0))):=Hj (by rw[hN];exact setRow_heap _ _ _ _ _ _ HR12.out)
  have hNz:=hNk.size
  have HU13:=Hj ((hNk.block U (Al HU12.out) (by simp;omega)).trans HU12.out)
  have HP13:=Hj ((hNk.block P (Al HP12.out) (by simp;omega)).trans HP12.out)
  have HM13:=Hj ((hNk.block M (Al HM12.out) (by simp;omega)).trans HM12.out)
  have HA13:=Hj ((hNk.block A (Al HA12.out) (by simp;omega)).trans HA12.out)
  have HB13:=Hj ((hNk.block B (Al HB12.out) (by simp;omega)).trans HB12.out)
  have HT13:=Hj ((hNk.block T (Al HT12.out) (by simp;omega)).trans HT12.out)
  have HSZ13:=Hj (Nat.le_trans HSZ12.out hNz)
  have HX13:=Hj (Raw.keep (F':=V::U::R::T::F) HX12.out hNk (fun f hf=>by rw[M1' hf];exact .inl (by simp)) (fun f hf=> .inl hf))
  have HV13:=Hj ((hNk.block V (Al HV12.out) (by simp;omega)).trans HV12.out)
  clear hN HU12 HP12 HM12 HA12 HB12 HR12 HT12 HSZ12 HX12 HV12
  have bel13:Below w.heap.size w w13:=below_keep bel12 hNk (fun f hf=>by rw[M1' hf];exact qR)
  have HK13:=Hj hNk
  clear hNk
  have HS13:=Hj (same_keepR HS12.out (w':=w13) (g:=R) HK13.out (by intro q hq;simp only[List.mem_cons,List.not_mem_nil,or_false] at hq;omega))
  refine Sm (Ss HS13.out) ?_
  try simp only[pick,Gs,Gz]
  go_wp2
  refine Rm ?_
  refine Wq ?_
  try simp only[pick,Gs,Gz]
  go_wp2_with (refine wpList_store_row rfl 71 _ _ rfl T #[.int .i64 jc,.int .i64 jt] rfl rfl 71 #[.int .i64 0,.int .i64 0] HT13.out (by kernel_rfl) rfl (by kernel_rfl) ?_)
  obtain ⟨w14,hN⟩:∃X,X=w13.setRow T #[.int .i64 jc,.int .i64 jt]:=⟨_,rfl⟩
  rw[←hN]
  have hNk:Keep [T] w13 w14:=by rw[hN];exact keep_setRow _ _ _
  have HT14:Hid (w14.heap[T]? =some (.cells #[.int .i64 jc,.int .i64 jt] 71 (0,0))):=Hj (by rw[hN];exact setRow_heap _ _ _ _ _ _ HT13.out)
  have hNz:=hNk.size
  have HU14:=Hj ((hNk.block U (Al HU13.out) (by simp;omega)).trans HU13.out)
  have HP14:=Hj ((hNk.block P (Al HP13.out) (by simp;omega)).trans HP13.out)
  have HM14:=Hj ((hNk.block M (Al HM13.out) (by simp;omega)).trans HM13.out)
  have HA14:=Hj ((hNk.block A (Al HA13.out) (by simp;omega)).trans HA13.out)
  have HB14:=Hj ((hNk.block B (Al HB13.out) (by simp;omega)).trans HB13.out)
  have HR14:=Hj ((hNk.block R (Al HR13.out) (by simp;omega)).trans HR13.out)
  have HSZ14:=Hj (Nat.le_trans HSZ13.out hNz)
  have HX14:=Hj (Raw.keep (F':=V::U::R::T::F) HX13.out hNk (fun f hf=>by rw[M1' hf];exact .inl (by simp)) (fun f hf=> .inl hf))
  have HV14:=Hj ((hNk.block V (Al HV13.out) (by simp;omega)).trans HV13.out)
  clear hN HU13 HP13 HM13 HA13 HB13 HR13 HT13 HSZ13 HX13 HV13
  have bel14:Below w.heap.size w w14:=below_keep bel13 hNk (fun f hf=>by rw[M1' hf];exact qT)
  have HK14:=Hj hNk
  clear hNk
  have HS14:=Hj (same_keepR HS13.out (w':=w14) (g:=T) HK14.out (by intro q hq;simp only[List.mem_cons,List.not_mem_nil,or_false] at hq;omega))
  refine Sm (Ss HS14.out) ?_
  try simp only[pick,Gs,Gz]
  go_wp2
  refine Rm ?_
  refine Wd (by rfl) ⟨.tail _ (.head _),trivial⟩ ?_
  go_wp2
  refine bodyPost_ret (results_cct rfl _ _ _ _ _ _ _ _ _ _ rfl HR14.out rfl HT14.out Tryz.underlying36 rfl Tryz.underlying71 rfl (by kernel_rfl) (by kernel_rfl)) rfl ?_
  have hkk:Keep [R,T] w12 w14:=(keep_weak2 HK13.out).trans HK14.out (fun f hf=> .inl (by simp at hf;simp[hf]))
  have hsame:RUV F w14 _ (downed ⟨xtask,xled,xnum,xatt,xi0,xi1,xgr,false,xlost⟩ jt) img ver:=HRS.out.keep hkk (fun f hf=> .inl (by simp at hf;rcases hf with rfl | rfl <;> simp)) (fun f hf=> .inl (by simp[hf]))
  exact ⟨_,⟨downed ⟨xtask,xled,xnum,xatt,xi0,xi1,xgr,false,xlost⟩ jt,⟨img,ver,false,[],0⟩,jc,jt,0⟩,(show _=finU ⟨xtask,xled,xnum,xatt,xi0,xi1,xgr,false,xlost⟩ ⟨img,ver,false,[],0⟩ p ms mq a b pm by unfold finU;rw[if_neg (by simp),←HSL.out,if_neg (by simp),if_neg (by simp),←HJC.out,←HJT.out,if_neg HJ0.out]),rfl,hsame,bel14⟩
 obtain rfl:jc=0:=hj0
 have HGD:Hid (Ps.Good ⟨img,ver,false,[],0⟩):=Hj ⟨hil,by simp,Nat.le_of_lt hver,Nat.zero_le _,fun _=>rfl⟩
 have hrt:∀f∈V::U::R::T::F,f∈F∨w.heap.size≤f:=fun f hf=>by
  simp only[List.mem_cons] at hf
  rcases hf with rfl | rfl | rfl | rfl | hf
  ·exact .inr qV
  ·exact .inr qU
  ·exact .inr qR
  ·exact .inr qT
  exact .inl hf
 have hft:∀f∈V::U::R::T::F,f<w10.heap.size:=fun f hf=>by
  have:=HSZ10.out
  simp only[List.mem_cons] at hf
  rcases hf with rfl | rfl | rfl | rfl | hf
  ·exact lV
  ·omega
  ·omega
  ·omega
  have:=HFF.out f hf;omega
 have cV_0:=Bj HV10.out 0 rfl
 have cV_1:=Bj HV10.out 1 rfl
 have cU_0:=Bj HU10.out 0 rfl
 have cU_1:=Bj HU10.out 1 rfl
 have cU_2:=Bj HU10.out 2 rfl
 have cU_3:=Bj HU10.out 3 rfl
 have cU_4:=Bj HU10.out 4 rfl
 have cU_5:=Bj HU10.out 5 rfl
 have cU_6:=Bj HU10.out 6 rfl
 have cU_7:=Bj HU10.out 7 rfl
 have cU_8:=Bj HU10.out 8 rfl
 have cU_9:=Bj HU10.out 9 rfl
 have cU_10:=Bj HU10.out 10 rfl
 have cU_11:=Bj HU10.out 11 rfl
 have cU_12:=Bj HU10.out 12 rfl
 have cU_13:=Bj HU10.out 13 rfl
 have cU_14:=Bj HU10.out 14 rfl
 have cU_15:=Bj HU10.out 15 rfl
 have cA_0:=Bj HA10.out 0 rfl
 have cA_1:=Bj HA10.out 1 rfl
 have cA_2:=Bj HA10.out 2 rfl
 have cA_3:=Bj HA10.out 3 rfl
 have cA_4:=Bj HA10.out 4 rfl
 go_upto_region 11 with (fail)
 have HM:Hid (RV (V::U::R::T::F) w10 (.agg #[.slice ia img.length ic,.slice wa img.length wc,.slice na 0 nc,.int .i64 ver,.bool false,.bool false,.slice ta 0 tc]) (rfOf ⟨img,ver,false,[],0⟩)):=Hj ⟨_,_,_,_,rfl,Rb (Raw.fresh HIV.out hrt) bel10,Rb (Raw.fresh HWV.out hrt) bel10,Rb (Raw.fresh HNV.out hrt) bel10,(HTV.out.keep (Keep.refl [] _) (fun f hf=>by cases hf) hrt).below bel10⟩
 go_wp2_with fail
 refine (rbegin_any (F:=V::U::R::T::F) _ _ (rfOf ⟨img,ver,false,[],0⟩) a.im _ (rfOf_good HGD.out) hal hft HM.out (Rb (Raw.fresh HI1.out hrt) bel10)).mono ?_
 rw[rf_begin HGD.out]
 rintro e w11 ⟨v11,rfl,hr11,hb11⟩
 clear cV_0 cV_1 cU_0 cU_1 cU_2 cU_3 cU_4 cU_5 cU_6 cU_7 cU_8 cU_9 cU_10 cU_11 cU_12 cU_13 cU_14 cU_15 cA_0 cA_1 cA_2 cA_3 cA_4
 have HU11:=Hj (Kb hb11 HU10.out)
 have HP11:=Hj (Kb hb11 HP10.out)
 have HM11:=Hj (Kb hb11 HM10.out)
 have HA11:=Hj (Kb hb11 HA10.out)
 have HB11:=Hj (Kb hb11 HB10.out)
 have HR11:=Hj (Kb hb11 HR10.out)
 have HT11:=Hj (Kb hb11 HT10.out)
 have HSZ11:=Hj (Nat.le_trans HSZ10.out (hb11).size)
 have HX11:=Hj (Rb HX10.out hb11)
 have HV11:=Hj (Kb hb11 HV10.out)
 clear HU10 HP10 HM10 HA10 HB10 HR10 HT10 HSZ10 HX10 HV10
 have bel11:=bel10.trans (hb11.mono bel10.size)
 have hpb:psBegin ⟨img,ver,false,[],0⟩ a.im=(⟨img,ver,true,a.im,0⟩,tot img a.im,0):=rfl
 rw[hpb] at hr11⊢
 clear hpb
 obtain ⟨n,hn'⟩:∃n,n=tot img a.im:=⟨_,rfl⟩
 have hnl:n≤1000:=by rw[hn'];exact tot_le1000 hal
 rw[←hn']
 have HN:=Hj hn'
 obtain ⟨a1,n1,c1,a2,n2,c2,a3,n3,c3,rz,a4,n4,c4,rfl⟩:=RV.row hr11
 have HRV11:Hid (RV (V::U::R::T::F) w11 (.agg #[.slice a1 n1 c1,.slice a2 n2 c2,.slice a3 n3 c3,.int .i64 ver,.bool true,.bool rz,.slice a4 n4 c4]) (rfOf ⟨img,ver,true,a.im,0⟩)):=Hj hr11
 clear hn' hr11 hb11 hft
 go_upto_region 12 with (refine wpList_store_row rfl 32 _ _ rfl w11.heap.size #[.slice a1 n1 c1,.slice a2 n2 c2,.slice a3 n3 c3,.int .i64 ver,.bool true,.bool rz,.slice a4 n4 c4] rfl rfl 32 #[.slice none 0 0,.slice none 0 0,.slice none 0 0,.int .i64 0,.bool false,.bool false,.slice none 0 0] (heap_alloc_new w11 _) (by kernel_rfl) rfl (by kernel_rfl) ?_)
 rw[World.setRow_alloc_new]
 obtain ⟨S,hS⟩:∃S,S=w11.heap.size:=⟨_,rfl⟩
 obtain ⟨w12,hw12⟩:∃W,W=w11.alloc (.cells #[.slice a1 n1 c1,.slice a2 n2 c2,.slice a3 n3 c3,.int .i64 ver,.bool true,.bool rz,.slice a4 n4 c4] 32):=⟨_,rfl⟩
 rw[←hw12,←hS]
 have hb12:Below w11.heap.size w11 w12:=by rw[hw12];exact (Br _ _).alloc (Nr _) _
 have hxS:w12.heap[S]? =some (.cells #[.slice a1 n1 c1,.slice a2 n2 c2,.slice a3 n3 c3,.int .i64 ver,.bool true,.bool rz,.slice a4 n4 c4] 32 (0,0)):=by rw[hw12,hS];exact heap_alloc_new w11 _
 have qS:w.heap.size≤S:=by have:=bel11.size;omega
 have dUS:U<S:=by have:=(Al HU11.out);omega
 have dPS:P<S:=by have:=(Al HP11.out);omega
 have dMS:M<S:=by have:=(Al HM11.out);omega
 have dAS:A<S:=by have:=(Al HA11.out);omega
 have dBS:B<S:=by have:=(Al HB11.out);omega
 have dRS:R<S:=by have:=(Al HR11.out);omega
 have dTS:T<S:=by have:=(Al HT11.out);omega
 have HX11:=Hj (Raw.fresh (F':=S::V::U::R::T::F) HX11.out (fun f hf=>by rcases List.mem_cons.1 hf with rfl | hf;exact .inr (Nat.le_of_eq hS.symm);exact .inl hf))
 have dVS:V<S:=by have:=(Al HV11.out);omega
 have HRV11:=Hj (RV.keep (F':=S::V::U::R::T::F) HRV11.out (Keep.refl [] _) (fun f hf=>by cases hf) (fun f hf=>by rcases List.mem_cons.1 hf with rfl | hf;exact .inr (Nat.le_of_eq hS.symm);exact .inl hf))
 clear hw12 hS
 have HU12:=Hj (Kb hb12 HU11.out)
 have HP12:=Hj (Kb hb12 HP11.out)
 have HM12:=Hj (Kb hb12 HM11.out)
 have HA12:=Hj (Kb hb12 HA11.out)
 have HB12:=Hj (Kb hb12 HB11.out)
 have HR12:=Hj (Kb hb12 HR11.out)
 have HT12:=Hj (Kb hb12 HT11.out)
 have HSZ12:=Hj (Nat.le_trans HSZ11.out (hb12).size)
 have HX12:=Hj (Rb HX11.out hb12)
 have HV12:=Hj (Kb hb12 HV11.out)
 have HRV12:=Hj (RV.below HRV11.out hb12)
 clear HU11 HP11 HM11 HA11 HB11 HR11 HT11 HSZ11 HX11 HV11 HRV11
 have bel12:=bel11.trans (hb12.mono bel11.size)
 have HS12:=Hj hxS
 clear hxS hb12
 have lS:=(Al HS12.out)
 go_upto_region 14 with (fail)
 have hfs:∀f∈S::V::U::R::T::F,f<w12.heap.size:=fun f hf=>by
  have:=HSZ12.out
  simp only[List.mem_cons] at hf
  rcases hf with rfl | rfl | rfl | rfl | rfl | hf
  ·exact lS
  ·omega
  ·omega
  ·omega
  ·omega
  have:=HFF.out f hf;omega
 have HSY12:=Hj (Nr w12.heap.size)
 have HRUV:Hid (RUV F w (.agg #[.int .i64 xtask,.slice ia img.length ic,.slice wa img.length wc,.slice na 0 nc,.int .i64 ver,.bool false,.bool false,.slice ta 0 tc,.slice la xled.length lc,.int .i64 xnum,.int .i64 xatt,.int .i64 xi0,.int .i64 xi1,.int .i64 xgr,.bool false,.int .i64 xlost]) ⟨xtask,xled,xnum,xatt,xi0,xi1,xgr,false,xlost⟩ img ver):=Hj ⟨_,_,_,_,_,rfl,HIV.out,HWV.out,HNV.out,HTV.out,HLV.out⟩
 go_wp2_with (first | refine wpList_load_row rfl 36 _ rfl U rfl 36 #[.int .i64 xtask,.slice ia img.length ic,.slice wa img.length wc,.slice na 0 nc,.int .i64 ver,.bool false,.bool false,.slice ta 0 tc,.slice la xled.length lc,.int .i64 xnum,.int .i64 xatt,.int .i64 xi0,.int .i64 xi1,.int .i64 xgr,.bool false,.int .i64 xlost] (0,0) _ HU12.out Tryz.underlying36 rfl (by kernel_rfl) ?_ | refine wpList_load_row rfl 41 _ rfl P rfl 41 #[.int .i64 p.c,.int .i64 p.n,.int .i64 p.e,.int .i64 p.k,.int .i64 p.s,.int .i64 p.pl,.int .i64 p.m] (0,0) _ HP12.out Tryz.underlying41 rfl (by kernel_rfl) ?_ | fail)
 refine (rhits31_any _ ⟨xtask,xled,xnum,xatt,xi0,xi1,xgr,false,xlost⟩ img ver p _ (HRUV.out.below bel12)).mono ?_
 rintro e w13 ⟨rfl,hb13⟩
 have HU13:=Hj (Kb hb13 HU12.out)
 have HP13:=Hj (Kb hb13 HP12.out)
 have HM13:=Hj (Kb hb13 HM12.out)
 have HA13:=Hj (Kb hb13 HA12.out)
 have HB13:=Hj (Kb hb13 HB12.out)
 have HR13:=Hj (Kb hb13 HR12.out)
 have HT13:=Hj (Kb hb13 HT12.out)
 have HSZ13:=Hj (Nat.le_trans HSZ12.out (hb13).size)
 have HX13:=Hj (Rb HX12.out hb13)
 have HV13:=Hj (Kb hb13 HV12.out)
 have HRV13:=Hj (RV.below HRV12.out hb13)
 have HS13:=Hj (Kb hb13 HS12.out)
 have HSY13:=Hj (Nat.le_trans HSY12.out (hb13).size)
 clear HU12 HP12 HM12 HA12 HB12 HR12 HT12 HSZ12 HX12 HV12 HRV12 HS12 HSY12
 have bel13:=bel12.trans (hb13.mono bel12.size)
 obtain ⟨q,hq⟩:∃q,q=qof ⟨xtask,xled,xnum,xatt,xi0,xi1,xgr,false,xlost⟩ p:=⟨_,rfl⟩
 rw[←hq]
 have HQ:=Hj hq
 obtain ⟨qc,qn,qe,qk,qs,qp,qm⟩:=q
 simp only[FP.cs]
 clear hq hb13 HRUV
 go_upto_region 15 with (refine wpList_store_row rfl 41 _ _ rfl w13.heap.size #[.int .i64 qc,.int .i64 qn,.int .i64 qe,.int .i64 qk,.int .i64 qs,.int .i64 qp,.int .i64 qm] rfl rfl 41 #[.int .i64 0,.int .i64 0,.int .i64 0,.int .i64 0,.int .i64 0,.int .i64 0,.int .i64 0] (heap_alloc_new w13 _) (by kernel_rfl) rfl (by kernel_rfl) ?_)
 rw[World.setRow_alloc_new]
 obtain ⟨Q,hQ⟩:∃S,S=w13.heap.size:=⟨_,rfl⟩
 obtain ⟨w14,hw14⟩:∃W,W=w13.alloc (.cells #[.int .i64 qc,.int .i64 qn,.int .i64 qe,.int .i64 qk,.int .i64 qs,.int .i64 qp,.int .i64 qm] 41):=⟨_,rfl⟩
 rw[←hw14,←hQ]
 have hb14:Below w13.heap.size w13 w14:=by rw[hw14];exact (Br _ _).alloc (Nr _) _
 have hxQ:w14.heap[Q]? =some (.cells #[.int .i64 qc,.int .i64 qn,.int .i64 qe,.int .i64 qk,.int .i64 qs,.int .i64 qp,.int .i64 qm] 41 (0,0)):=by rw[hw14,hQ];exact heap_alloc_new w13 _
 have qQ:w.heap.size≤Q:=by have:=bel13.size;omega
 have dUQ:U<Q:=by have:=(Al HU13.out);omega
 have dPQ:P<Q:=by have:=(Al HP13.out);omega
 have dMQ:M<Q:=by have:=(Al HM13.out);omega
 have dAQ:A<Q:=by have:=(Al HA13.out);omega
 have dBQ:B<Q:=by have:=(Al HB13.out);omega
 have dRQ:R<Q:=by have:=(Al HR13.out);omega
 have dTQ:T<Q:=by have:=(Al HT13.out);omega
 have HX13:=Hj (Raw.fresh (F':=Q::S::V::U::R::T::F) HX13.out (fun f hf=>by rcases List.mem_cons.1 hf with rfl | hf;exact .inr (Nat.le_of_eq hQ.symm);exact .inl hf))
 have dVQ:V<Q:=by have:=(Al HV13.out);omega
 have HRV13:=Hj (RV.keep (F':=Q::S::V::U::R::T::F) HRV13.out (Keep.refl [] _) (fun f hf=>by cases hf) (fun f hf=>by rcases List.mem_cons.1 hf with rfl | hf;exact .inr (Nat.le_of_eq hQ.symm);exact .inl hf))
 have dSQ:S<Q:=by have:=(Al HS13.out);omega
 clear hw14 hQ
 have HU14:=Hj (Kb hb14 HU13.out)
 have HP14:=Hj (Kb hb14 HP13.out)
 have HM14:=Hj (Kb hb14 HM13.out)
 have HA14:=Hj (Kb hb14 HA13.out)
 have HB14:=Hj (Kb hb14 HB13.out)
 have HR14:=Hj (Kb hb14 HR13.out)
 have HT14:=Hj (Kb hb14 HT13.out)
 have HSZ14:=Hj (Nat.le_trans HSZ13.out (hb14).size)
 have HX14:=Hj (Rb HX13.out hb14)
 have HV14:=Hj (Kb hb14 HV13.out)
 have HRV14:=Hj (RV.below HRV13.out hb14)
 have HS14:=Hj (Kb hb14 HS13.out)
 have HSY14:=Hj (Nat.le_trans HSY13.out (hb14).size)
 clear HU13 HP13 HM13 HA13 HB13 HR13 HT13 HSZ13 HX13 HV13 HRV13 HS13 HSY13
 have bel14:=bel13.trans (hb14.mono bel13.size)
 have HQ14:=Hj hxQ
 clear hxQ hb14
 have lQ:=(Al HQ14.out)
 have cQ_0:=Bj HQ14.out 0 rfl
 have cQ_1:=Bj HQ14.out 1 rfl
 have cQ_2:=Bj HQ14.out 2 rfl
 have cQ_3:=Bj HQ14.out 3 rfl
 have cQ_4:=Bj HQ14.out 4 rfl
 have cQ_5:=Bj HQ14.out 5 rfl
 have cQ_6:=Bj HQ14.out 6 rfl
 by_cases hct:qk=8∧qs<n
 ·have HCT:=Hj hct
  obtain ⟨hc1,hc2⟩:=hct
  subst hc1
  go_upto_region 16 with (fail)
  clear cQ_0 cQ_1 cQ_2 cQ_3 cQ_4 cQ_5 cQ_6
  clear HRV14
  clear HS14
  clear HX14
  go_upto_region 16 with (fail)
  have HBL14:Hid (∀q∈[Q],∃cc e f,w14.heap[q]? =some (.cells cc e f)):=Hj (by
   intro q hq
   simp only[List.mem_cons,List.not_mem_nil,or_false] at hq
   rcases hq with rfl <;> first | exact ⟨_,_,_,HQ14.out⟩)
  have hBl:=show∀q∈[Q],∃cc e f,w14.heap[q]? =some (.cells cc e f) from HBL14.out
  clear HBL14
  refine Ty.wp_tree [Q] [3] [] [1,3] [0,1,2,3,4,5] (.alt [6,7] (.alt [8] (.done) (.no)) (.no)) (by kernel_rfl) (by kernel_rfl) (by kernel_rfl) (by kernel_rfl) hBl ?_
  obtain ⟨w15,hwd⟩:∃y,y=w14.drew:=⟨_,rfl⟩
  have HS15:Hid (SameB [Q] w15 w15):=Hj (by rw[hwd];exact same_start hBl)
  clear hBl
  rw[←hwd]
  have hdr:Below w14.heap.size w14 w15:=by rw[hwd];exact (Br _ _).drew
  have HU15:=Hj (Kb hdr HU14.out)
  have HP15:=Hj (Kb hdr HP14.out)
  have HM15:=Hj (Kb hdr HM14.out)
  have HA15:=Hj (Kb hdr HA14.out)
  have HB15:=Hj (Kb hdr HB14.out)
  have HR15:=Hj (Kb hdr HR14.out)
  have HT15:=Hj (Kb hdr HT14.out)
  have HSZ15:=Hj (Nat.le_trans HSZ14.out (hdr).size)
  have HV15:=Hj (Kb hdr HV14.out)
  have HSY15:=Hj (Nat.le_trans HSY14.out (hdr).size)
  have HQ15:=Hj (Kb hdr HQ14.out)
  clear HU14 HP14 HM14 HA14 HB14 HR14 HT14 HSZ14 HV14 HSY14 HQ14
  have bel15:=bel14.trans (hdr.mono bel14.size)
  clear hdr hwd
  have cQ_0:=Bj HQ15.out 0 rfl
  have cQ_1:=Bj HQ15.out 1 rfl
  have cQ_2:=Bj HQ15.out 2 rfl
  have cQ_3:=Bj HQ15.out 3 rfl
  have cQ_4:=Bj HQ15.out 4 rfl
  have cQ_5:=Bj HQ15.out 5 rfl
  have cQ_6:=Bj HQ15.out 6 rfl
  have cV_0:=Bj HV15.out 0 rfl
  have cV_1:=Bj HV15.out 1 rfl
  have gV_0:=Bf HV15.out 0
  have gV_1:=Bf HV15.out 1
  try simp only[pick,Gs,Gz]
  go_wp2
  refine Rm ?_
  refine Wq ?_
  try simp only[pick,Gs,Gz]
  go_wp2
  obtain ⟨w16,hN⟩:∃X,X=(w15.setCell ⟨V,0,none⟩ (.int .i64 6)):=⟨_,rfl⟩
  rw[←hN]
  obtain ⟨hNb,hNk⟩:=puts_at [(0,.int .i64 6)] HV15.out
  have hNe:puts w15 V [(0,.int .i64 6)]=w16:=hN.symm
  rw[hNe] at hNb hNk
  have HV16:Hid (w16.heap[V]? =some (.cells #[.int .i64 6,.int .i64 jt] 71 (0,0))):=Hj hNb
  have hNz:=hNk.size
  clear cQ_0 cQ_1 cQ_2 cQ_3 cQ_4 cQ_5 cQ_6 cV_0 cV_1 gV_0 gV_1
  have HU16:=Hj ((hNk.block U (Al HU15.out) (by simp;omega)).trans HU15.out)
  have HP16:=Hj ((hNk.block P (Al HP15.out) (by simp;omega)).trans HP15.out)
  have HM16:=Hj ((hNk.block M (Al HM15.out) (by simp;omega)).trans HM15.out)
  have HA16:=Hj ((hNk.block A (Al HA15.out) (by simp;omega)).trans HA15.out)
  have HB16:=Hj ((hNk.block B (Al HB15.out) (by simp;omega)).trans HB15.out)
  have HR16:=Hj ((hNk.block R (Al HR15.out) (by simp;omega)).trans HR15.out)
  have HT16:=Hj ((hNk.block T (Al HT15.out) (by simp;omega)).trans HT15.out)
  have HSZ16:=Hj (Nat.le_trans HSZ15.out hNz)
  have HSY16:=Hj (Nat.le_trans HSY15.out hNz)
  have HQ16:=Hj ((hNk.block Q (Al HQ15.out) (by simp;omega)).trans HQ15.out)
  clear hN hNe hNb HU15 HP15 HM15 HA15 HB15 HR15 HT15 HSZ15 HV15 HSY15 HQ15
  have bel16:Below w.heap.size w w16:=below_keep bel15 hNk (fun f hf=>by rw[M1' hf];exact qV)
  have HKp16:=Hj hNk
  clear hNk
  have HS16:=Hj (same_keepR HS15.out (w':=w16) (g:=V) HKp16.out (by intro q hq;simp only[List.mem_cons,List.not_mem_nil,or_false] at hq;omega))
  have cV_0:=Bj HV16.out 0 rfl
  have cV_1:=Bj HV16.out 1 rfl
  have gV_1:=Bf HV16.out 1
  refine Sm (Ss HS16.out) ?_
  try simp only[pick,Gs,Gz]
  go_wp2
  refine Rm ?_
  refine Wq ?_
  try simp only[pick,Gs,Gz]
  go_wp2
  obtain ⟨w17,hN⟩:∃X,X=(w16.setCell ⟨V,1,none⟩ (.int .i64 (wrap64 (jt+qs)))):=⟨_,rfl⟩
  rw[←hN]
  obtain ⟨hNb,hNk⟩:=puts_at [(1,.int .i64 (wrap64 (jt+qs)))] HV16.out
  have hNe:puts w16 V [(1,.int .i64 (wrap64 (jt+qs)))]=w17:=hN.symm
  rw[hNe] at hNb hNk
  have HV17:Hid (w17.heap[V]? =some (.cells #[.int .i64 6,.int .i64 (wrap64 (jt+qs))] 71 (0,0))):=Hj hNb
  have hNz:=hNk.size
  clear cV_0 cV_1 gV_1
  have HU17:=Hj ((hNk.block U (Al HU16.out) (by simp;omega)).trans HU16.out)
  have HP17:=Hj ((hNk.block P (Al HP16.out) (by simp;omega)).trans HP16.out)
  have HM17:=Hj ((hNk.block M (Al HM16.out) (by simp;omega)).trans HM16.out)
  have HA17:=Hj ((hNk.block A (Al HA16.out) (by simp;omega)).trans HA16.out)
  have HB17:=Hj ((hNk.block B (Al HB16.out) (by simp;omega)).trans HB16.out)
  have HR17:=Hj ((hNk.block R (Al HR16.out) (by simp;omega)).trans HR16.out)
  have HT17:=Hj ((hNk.block T (Al HT16.out) (by simp;omega)).trans HT16.out)
  have HSZ17:=Hj (Nat.le_trans HSZ16.out hNz)
  have HSY17:=Hj (Nat.le_trans HSY16.out hNz)
  have HQ17:=Hj ((hNk.block Q (Al HQ16.out) (by simp;omega)).trans HQ16.out)
  clear hN hNe hNb HU16 HP16 HM16 HA16 HB16 HR16 HT16 HSZ16 HV16 HSY16 HQ16
  have bel17:Below w.heap.size w w17:=below_keep bel16 hNk (fun f hf=>by rw[M1' hf];exact qV)
  have HKp17:=Hj hNk
  clear hNk
  have HS17:=Hj (same_keepR HS16.out (w':=w17) (g:=V) HKp17.out (by intro q hq;simp only[List.mem_cons,List.not_mem_nil,or_false] at hq;omega))
  refine Sm (Ss HS17.out) ?_
  try simp only[pick,Gs,Gz]
  go_wp2
  refine Rm ?_
  refine Wd (by rfl) ⟨.head _,trivial⟩ ?_
  go_upto_region 17 with (fail)
  clear hrt
  have hrt:∀f∈R::T::F,f∈F∨w.heap.size≤f:=fun f hf=>by
   simp only[List.mem_cons] at hf
   rcases hf with rfl | rfl | hf
   ·exact .inr qR
   ·exact .inr qT
   exact .inl hf
  have HRUV:Hid (RUV (R::T::F) w (.agg #[.int .i64 xtask,.slice ia img.length ic,.slice wa img.length wc,.slice na 0 nc,.int .i64 ver,.bool false,.bool false,.slice ta 0 tc,.slice la xled.length lc,.int .i64 xnum,.int .i64 xatt,.int .i64 xi0,.int .i64 xi1,.int .i64 xgr,.bool false,.int .i64 xlost]) ⟨xtask,xled,xnum,xatt,xi0,xi1,xgr,false,xlost⟩ img ver):=Hj ⟨_,_,_,_,_,rfl,Raw.fresh HIV.out hrt,Raw.fresh HWV.out hrt,Raw.fresh HNV.out hrt,HTV.out.keep (Keep.refl [] _) (fun f hf=>by cases hf) hrt,Raw.fresh HLV.out hrt⟩
  go_upto_region 17 with (fail)
  have HBL17:Hid (∀q∈[U,V],∃cc e f,w17.heap[q]? =some (.cells cc e f)):=Hj (by
   intro q hq
   simp only[List.mem_cons,List.not_mem_nil,or_false] at hq
   rcases hq with rfl | rfl <;> first | exact ⟨_,_,_,HU17.out⟩ | exact ⟨_,_,_,HV17.out⟩)
  have hBl:=show∀q∈[U,V],∃cc e f,w17.heap[q]? =some (.cells cc e f) from HBL17.out
  clear HBL17
  refine Ty.wp_tree [U,V] [4] [] [0,2,4] [0,1,2,4] (.alt [3] (.alt [5] (.alt [6,7] (.done) (.no)) (.no)) (.no)) (by kernel_rfl) (by kernel_rfl) (by kernel_rfl) (by kernel_rfl) hBl ?_
  obtain ⟨w18,hwd⟩:∃y,y=w17.drew:=⟨_,rfl⟩
  have HS18:Hid (SameB [U,V] w18 w18):=Hj (by rw[hwd];exact same_start hBl)
  clear hBl
  rw[←hwd]
  have hdr:Below w17.heap.size w17 w18:=by rw[hwd];exact (Br _ _).drew
  have HU18:=Hj (Kb hdr HU17.out)
  have HP18:=Hj (Kb hdr HP17.out)
  have HM18:=Hj (Kb hdr HM17.out)
  have HA18:=Hj (Kb hdr HA17.out)
  have HB18:=Hj (Kb hdr HB17.out)
  have HR18:=Hj (Kb hdr HR17.out)
  have HT18:=Hj (Kb hdr HT17.out)
  have HSZ18:=Hj (Nat.le_trans HSZ17.out (hdr).size)
  have HV18:=Hj (Kb hdr HV17.out)
  have HSY18:=Hj (Nat.le_trans HSY17.out (hdr).size)
  have HQ18:=Hj (Kb hdr HQ17.out)
  clear HU17 HP17 HM17 HA17 HB17 HR17 HT17 HSZ17 HV17 HSY17 HQ17
  have bel18:=bel17.trans (hdr.mono bel17.size)
  clear hdr hwd
  have cV_1:=Bj HV18.out 1 rfl
  try simp only[pick,Gs,Gz]
  go_wp2_with (first | refine wpList_load_row rfl 36 _ rfl U rfl 36 #[.int .i64 xtask,.slice ia img.length ic,.slice wa img.length wc,.slice na 0 nc,.int .i64 ver,.bool false,.bool false,.slice ta 0 tc,.slice la xled.length lc,.int .i64 xnum,.int .i64 xatt,.int .i64 xi0,.int .i64 xi1,.int .i64 xgr,.bool false,.int .i64 xlost] (0,0) _ HU18.out Tryz.underlying36 rfl (by kernel_rfl) ?_ | (refine wpList_load_row rfl 71 _ rfl V rfl 71 #[.int .i64 6,.int .i64 (wrap64 (jt+qs))] (0,0) _ HV18.out Tryz.underlying71 rfl (by kernel_rfl) ?_))
  refine Rm ?_
  refine Wq ?_
  try simp only[pick,Gs,Gz]
  go_wp2_with fail
  refine (rfailed31_any (F:=R::T::F) _ ⟨xtask,xled,xnum,xatt,xi0,xi1,xgr,false,xlost⟩ img ver (wrap64 (jt+qs)) _ ha (HRUV.out.below bel18)).mono ?_
  rintro e w19 ⟨v19,rfl,hr19,hb19⟩
  clear cV_1
  have HU19:=Hj (Kb hb19 HU18.out)
  have HP19:=Hj (Kb hb19 HP18.out)
  have HM19:=Hj (Kb hb19 HM18.out)
  have HA19:=Hj (Kb hb19 HA18.out)
  have HB19:=Hj (Kb hb19 HB18.out)
  have HR19:=Hj (Kb hb19 HR18.out)
  have HT19:=Hj (Kb hb19 HT18.out)
  have HSZ19:=Hj (Nat.le_trans HSZ18.out (hb19).size)
  have HV19:=Hj (Kb hb19 HV18.out)
  have HSY19:=Hj (Nat.le_trans HSY18.out (hb19).size)
  have HQ19:=Hj (Kb hb19 HQ18.out)
  clear HU18 HP18 HM18 HA18 HB18 HR18 HT18 HSZ18 HV18 HSY18 HQ18
  have bel19:=bel18.trans (hb19.mono bel18.size)
  have HS19:=Hj (same_below' HS18.out hb19)
  obtain ⟨iv2,wv2,nv2,tv2,lv2,rfl,hiv,hwv,hnv,htv,hlv⟩:=hr19
  obtain ⟨ia2,ic2,rfl⟩:=Rs hiv
  obtain ⟨wa2,wc2,rfl⟩:=Rs hwv
  obtain ⟨na3,nc3,rfl⟩:=Rs hnv
  obtain ⟨ta2,tc2,rfl⟩:=htv.slice
  obtain ⟨la2,lc2,rfl⟩:=Rs hlv
  simp only[RUc,List.length_nil,downed] at hnv htv hlv⊢
  have HRS:=Hj (show RUV (R::T::F) w19 _ (downed ⟨xtask,xled,xnum,xatt,xi0,xi1,xgr,false,xlost⟩ (wrap64 (jt+qs))) img ver from ⟨_,_,_,_,_,rfl,hiv,hwv,hnv,htv,hlv⟩)
  clear hiv hwv hnv htv hlv hb19
  go_wp2
  refine Sm (Ss HS19.out) ?_
  try simp only[pick,Gs,Gz]
  go_wp2
  refine Rm ?_
  refine Wq ?_
  try simp only[pick,Gs,Gz]
  go_wp2_with (refine wpList_store_row rfl 36 _ _ rfl R #[.int .i64 xtask,.slice ia2 img.length ic2,.slice wa2 img.length wc2,.slice na3 0 nc3,.int .i64 ver,.bool false,.bool false,.slice ta2 0 tc2,.slice la2 xled.length lc2,.int .i64 xnum,.int .i64 (xatt+1),.int .i64 xi0,.int .i64 xi1,.int .i64 xgr,.bool true,.int .i64 (wrap64 (xlost+(wrap64 (jt+qs))))] rfl rfl 36 #[.int .i64 0,.slice none 0 0,.slice none 0 0,.slice none 0 0,.int .i64 0,.bool false,.bool false,.slice none 0 0,.slice none 0 0,.int .i64 0,.int .i64 0,.int .i64 0,.int .i64 0,.int .i64 0,.bool false,.int .i64 0] HR19.out (by kernel_rfl) rfl (by kernel_rfl) ?_)
  obtain ⟨w20,hN⟩:∃X,X=w19.setRow R #[.int .i64 xtask,.slice ia2 img.length ic2,.slice wa2 img.length wc2,.slice na3 0 nc3,.int .i64 ver,.bool false,.bool false,.slice ta2 0 tc2,.slice la2 xled.length lc2,.int .i64 xnum,.int .i64 (xatt+1),.int .i64 xi0,.int .i64 xi1,.int .i64 xgr,.bool true,.int .i64 (wrap64 (xlost+(wrap64 (jt+qs))))]:=⟨_,rfl⟩
  rw[←hN]
  have hNk:Keep [R] w19 w20:=by rw[hN];exact keep_setRow _ _ _
  have HR20:Hid (w20.heap[R]? =some (.cells #[.int .i64 xtask,.slice ia2 img.length ic2,.slice wa2 img.length wc2,.slice na3 0 nc3,.int .i64 ver,.bool false,.bool false,.slice ta2 0 tc2,.slice la2 xled.length lc2,.int .i64 xnum,.int .i64 (xatt+1),.int .i64 xi0,.int .i64 xi1,.int .i64 xgr,.bool true,.int .i64 (wrap64 (xlost+(wrap64 (jt+qs))))] 36 (0,0))):=Hj (by rw[hN];exact setRow_heap _ _ _ _ _ _ HR19.out)
  have hNz:=hNk.size
  have HU20:=Hj ((hNk.block U (Al HU19.out) (by simp;omega)).trans HU19.out)
  have HP20:=Hj ((hNk.block P (Al HP19.out) (by simp;omega)).trans HP19.out)
  have HM20:=Hj ((hNk.block M (Al HM19.out) (by simp;omega)).trans HM19.out)
  have HA20:=Hj ((hNk.block A (Al HA19.out) (by simp;omega)).trans HA19.out)
  have HB20:=Hj ((hNk.block B (Al HB19.out) (by simp;omega)).trans HB19.out)
  have HT20:=Hj ((hNk.block T (Al HT19.out) (by simp;omega)).trans HT19.out)
  have HSZ20:=Hj (Nat.le_trans HSZ19.out hNz)
  have HV20:=Hj ((hNk.block V (Al HV19.out) (by simp;omega)).trans HV19.out)
  have HSY20:=Hj (Nat.le_trans HSY19.out hNz)
  have HQ20:=Hj ((hNk.block Q (Al HQ19.out) (by simp;omega)).trans HQ19.out)
  clear hN HU19 HP19 HM19 HA19 HB19 HR19 HT19 HSZ19 HV19 HSY19 HQ19
  have bel20:Below w.heap.size w w20:=below_keep bel19 hNk (fun f hf=>by rw[M1' hf];exact qR)
  have HK20:=Hj hNk
  clear hNk
  have HS20:=Hj (same_keepR HS19.out (w':=w20) (g:=R) HK20.out (by intro q hq;simp only[List.mem_cons,List.not_mem_nil,or_false] at hq;omega))
  refine Sm (Ss HS20.out) ?_
  try simp only[pick,Gs,Gz]
  go_wp2
  refine Rm ?_
  refine Wq ?_
  try simp only[pick,Gs,Gz]
  go_wp2_with (refine wpList_store_row rfl 71 _ _ rfl T #[.int .i64 6,.int .i64 (wrap64 (jt+qs))] rfl rfl 71 #[.int .i64 0,.int .i64 0] HT20.out (by kernel_rfl) rfl (by kernel_rfl) ?_)
  obtain ⟨w21,hN⟩:∃X,X=w20.setRow T #[.int .i64 6,.int .i64 (wrap64 (jt+qs))]:=⟨_,rfl⟩
  rw[←hN]
  have hNk:Keep [T] w20 w21:=by rw[hN];exact keep_setRow _ _ _
  have HT21:Hid (w21.heap[T]? =some (.cells #[.int .i64 6,.int .i64 (wrap64 (jt+qs))] 71 (0,0))):=Hj (by rw[hN];exact setRow_heap _ _ _ _ _ _ HT20.out)
  have hNz:=hNk.size
  have HU21:=Hj ((hNk.block U (Al HU20.out) (by simp;omega)).trans HU20.out)
  have HP21:=Hj ((hNk.block P (Al HP20.out) (by simp;omega)).trans HP20.out)
  have HM21:=Hj ((hNk.block M (Al HM20.out) (by simp;omega)).trans HM20.out)
  have HA21:=Hj ((hNk.block A (Al HA20.out) (by simp;omega)).trans HA20.out)
  have HB21:=Hj ((hNk.block B (Al HB20.out) (by simp;omega)).trans HB20.out)
  have HR21:=Hj ((hNk.block R (Al HR20.out) (by simp;omega)).trans HR20.out)
  have HSZ21:=Hj (Nat.le_trans HSZ20.out hNz)
  have HV21:=Hj ((hNk.block V (Al HV20.out) (by simp;omega)).trans HV20.out)
  have HSY21:=Hj (Nat.le_trans HSY20.out hNz)
  have HQ21:=Hj ((hNk.block Q (Al HQ20.out) (by simp;omega)).trans HQ20.out)
  clear hN HU20 HP20 HM20 HA20 HB20 HR20 HT20 HSZ20 HV20 HSY20 HQ20
  have bel21:Below w.heap.size w w21:=below_keep bel20 hNk (fun f hf=>by rw[M1' hf];exact qT)
  have HK21:=Hj hNk
  clear hNk
  have HS21:=Hj (same_keepR HS20.out (w':=w21) (g:=T) HK21.out (by intro q hq;simp only[List.mem_cons,List.not_mem_nil,or_false] at hq;omega))
  refine Sm (Ss HS21.out) ?_
  try simp only[pick,Gs,Gz]
  go_wp2
  refine Rm ?_
  refine Wd (by rfl) ⟨.tail _ (.head _),trivial⟩ ?_
  go_wp2
  refine bodyPost_ret (results_cct rfl _ _ _ _ _ _ _ _ _ _ rfl HR21.out rfl HT21.out Tryz.underlying36 rfl Tryz.underlying71 rfl (by kernel_rfl) (by kernel_rfl)) rfl ?_
  have hkk:Keep [R,T] w19 w21:=(keep_weak2 HK20.out).trans HK21.out (fun f hf=> .inl (by simp at hf;simp[hf]))
  have hsame:RUV F w21 _ (downed ⟨xtask,xled,xnum,xatt,xi0,xi1,xgr,false,xlost⟩ (wrap64 (jt+qs))) img ver:=HRS.out.keep hkk (fun f hf=> .inl (by simp at hf;rcases hf with rfl | rfl <;> simp)) (fun f hf=> .inl (by simp[hf]))
  exact ⟨_,⟨downed ⟨xtask,xled,xnum,xatt,xi0,xi1,xgr,false,xlost⟩ (wrap64 (jt+qs)),⟨img,ver,false,[],0⟩,6,(wrap64 (jt+qs)),0⟩,(by rw[HJT.out];exact (fin_cut (x:=⟨xtask,xled,xnum,xatt,xi0,xi1,xgr,false,xlost⟩) (s:=⟨img,ver,false,[],0⟩) rfl HSL.out.symm HJC.out.symm HQ.out.symm rfl (show qs<(tot img a.im:Nat) from by rw[←HN.out];exact HCT.out.2)).symm),rfl,hsame,bel21⟩
 have HCT:=Hj hct
 have hfsq:=hfs
 clear hrt hfs
 have hb8:((qk==8)=true∧¬qs<n)∨(qk==8)=false:=by
  by_cases h:qk=8
  ·exact .inl ⟨by simpa using h,fun h2=>hct ⟨h,h2⟩⟩
  exact .inr (by simpa using h)
 clear hct
 rcases hb8 with ⟨q8,hge⟩ | q8
 all_goals
  clear HQ14
  clear HA14
  clear HP14
  clear HM14
  clear HB14
  have hs0:=lS
  have hsy:=HSY14.out
  go_wp2
  clear cQ_0 cQ_1 cQ_2 cQ_3 cQ_4 cQ_5 cQ_6
  go_loopw [22] (fun i wr=>∃k:Nat,k≤n∧i= .int .i64 k∧∃b1 m1 d1 b2 m2 d2 b3 m3 d3 ry b4 m4 d4,wr.heap[S]? =some (.cells #[.slice b1 m1 d1,.slice b2 m2 d2,.slice b3 m3 d3,.int .i64 ver,.bool true,.bool ry,.slice b4 m4 d4] 32 (0,0))∧RV (S::V::U::R::T::F) wr (.agg #[.slice b1 m1 d1,.slice b2 m2 d2,.slice b3 m3 d3,.int .i64 ver,.bool true,.bool ry,.slice b4 m4 d4]) (rfOf ⟨img,ver,true,a.im,k⟩)∧wr.heap[U]? =some (.cells #[.int .i64 xtask,.slice ia img.length ic,.slice wa img.length wc,.slice na 0 nc,.int .i64 ver,.bool false,.bool false,.slice ta 0 tc,.slice la xled.length lc,.int .i64 xnum,.int .i64 xatt,.int .i64 xi0,.int .i64 xi1,.int .i64 xgr,.bool false,.int .i64 xlost] 36 (0,0))∧wr.heap[V]? =some (.cells #[.int .i64 0,.int .i64 jt] 71 (0,0))∧wr.heap[R]? =some (.cells #[.int .i64 0,.slice none 0 0,.slice none 0 0,.slice none 0 0,.int .i64 0,.bool false,.bool false,.slice none 0 0,.slice none 0 0,.int .i64 0,.int .i64 0,.int .i64 0,.int .i64 0,.int .i64 0,.bool false,.int .i64 0] 36 (0,0))∧wr.heap[T]? =some (.cells #[.int .i64 0,.int .i64 0] 71 (0,0))∧Raw (S::V::U::R::T::F) 2 wr (.slice na2 sl1.length nc2) sl1.length (sl1.flatMap Lg.encL)∧Below w.heap.size w wr∧w14.heap.size≤wr.heap.size) (fun i _=>n - (intOf i).toNat)
  case atStart=>exact ⟨0,Nat.zero_le _,rfl,a1,n1,c1,a2,n2,c2,a3,n3,c3,rz,a4,n4,c4,HS14.out,(HRV14.out.keep (Keep.refl [] _) (fun f hf=>by cases hf) (fun f hf=> .inl (by simp only[List.mem_cons] at hf⊢;rcases hf with h | h | h | h | h | h <;> simp[h]))),HU14.out,HV14.out,HR14.out,HT14.out,Raw.fresh HX14.out (fun f hf=> .inl (by simp only[List.mem_cons] at hf⊢;rcases hf with h | h | h | h | h | h <;> simp[h])),bel14,Nr _⟩
  case round=>
   rename World=>w50
   obtain ⟨k,hk,rfl,b1,m1,d1,b2,m2,d2,b3,m3,d3,ry,b4,m4,d4,hS,hRV,hU,hV,hR,hT,hX,bel50,hsz⟩:=hrel
   have HS50:=Hj hS;have HRV50:=Hj hRV;have HU50:=Hj hU;have HV50:=Hj hV;have HR50:=Hj hR;have HT50:=Hj hT;have HX50:=Hj hX;have HSZ50:=Hj hsz
   clear hS hRV hU hV hR hT hX
   have HGK:Hid (Ps.Good ⟨img,ver,true,a.im,k⟩):=Hj ⟨hil,hal,Nat.le_of_lt hver,by show k≤tot img a.im;rw[←HN.out];exact hk,fun h=>by cases h⟩
   have hfk:∀f∈S::V::U::R::T::F,f<w50.heap.size:=fun f hf=>by have:=hfsq f hf;omega
   by_cases hlt:k<n
   ·skip
    go_wp2_with (first | refine wpList_load_row rfl 32 _ rfl S rfl 32 #[.slice b1 m1 d1,.slice b2 m2 d2,.slice b3 m3 d3,.int .i64 ver,.bool true,.bool ry,.slice b4 m4 d4] (0,0) _ HS50.out Tryz.underlying32 rfl (by kernel_rfl) ?_ | fail)
    refine (rstepf_any (F:=S::V::U::R::T::F) _ (rfOf ⟨img,ver,true,a.im,k⟩) _ (rfOf_good HGK.out) hfk HRV50.out).mono ?_
    rw[rf_step HGK.out]
    rintro e w51 ⟨v51,rfl,hr51,hb51⟩
    have HS51:=Hj (Kb hb51 HS50.out)
    have HU51:=Hj (Kb hb51 HU50.out)
    have HV51:=Hj (Kb hb51 HV50.out)
    have HR51:=Hj (Kb hb51 HR50.out)
    have HT51:=Hj (Kb hb51 HT50.out)
    have HX51:=Hj (Rb HX50.out hb51)
    have HSZ51:=Hj (Nat.le_trans HSZ50.out (hb51).size)
    clear HS50 HU50 HV50 HR50 HT50 HX50 HSZ50
    have bel51:=bel50.trans (hb51.mono bel50.size)
    have hst:(psStep ⟨img,ver,true,a.im,k⟩).1=⟨img,ver,true,a.im,(k+1)⟩:=by
     unfold psStep
     rw[if_neg (by rintro (h | h);cases h;have h2:k=tot img a.im:=h;rw[←HN.out] at h2;omega)]
     rfl
    rw[hst] at hr51
    clear hst
    obtain ⟨e1,k1,f1,e2,k2,f2,e3,k3,f3,rx,e4,k4,f4,rfl⟩:=RV.row hr51
    have HRW51:=Hj hr51
    clear hr51 hb51
    go_wp2_with (refine wpList_store_row rfl 32 _ _ rfl S #[.slice e1 k1 f1,.slice e2 k2 f2,.slice e3 k3 f3,.int .i64 ver,.bool true,.bool rx,.slice e4 k4 f4] rfl rfl 32 #[.slice b1 m1 d1,.slice b2 m2 d2,.slice b3 m3 d3,.int .i64 ver,.bool true,.bool ry,.slice b4 m4 d4] HS51.out (by kernel_rfl) rfl (by kernel_rfl) ?_)
    obtain ⟨w52,hN⟩:∃X,X=w51.setRow S #[.slice e1 k1 f1,.slice e2 k2 f2,.slice e3 k3 f3,.int .i64 ver,.bool true,.bool rx,.slice e4 k4 f4]:=⟨_,rfl⟩
    rw[←hN]
    have hNk:Keep [S] w51 w52:=by rw[hN];exact keep_setRow _ _ _
    have HS52:Hid (w52.heap[S]? =some (.cells #[.slice e1 k1 f1,.slice e2 k2 f2,.slice e3 k3 f3,.int .i64 ver,.bool true,.bool rx,.slice e4 k4 f4] 32 (0,0))):=Hj (by rw[hN];exact setRow_heap _ _ _ _ _ _ HS51.out)
    have hNz:=hNk.size
    have HU52:=Hj ((hNk.block U (Al HU51.out) (by simp;omega)).trans HU51.out)
    have HV52:=Hj ((hNk.block V (Al HV51.out) (by simp;omega)).trans HV51.out)
    have HR52:=Hj ((hNk.block R (Al HR51.out) (by simp;omega)).trans HR51.out)
    have HT52:=Hj ((hNk.block T (Al HT51.out) (by simp;omega)).trans HT51.out)
    have HX52:=Hj (Raw.keep (F':=S::V::U::R::T::F) HX51.out hNk (fun f hf=>by rw[M1' hf];exact .inl (by simp)) (fun f hf=> .inl hf))
    have HSZ52:=Hj (Nat.le_trans HSZ51.out hNz)
    have HRW52:=Hj (RV.keep (F':=S::V::U::R::T::F) HRW51.out hNk (fun f hf=>by rw[M1' hf];exact .inl (by simp)) (fun f hf=> .inl hf))
    clear hN HS51 HU51 HV51 HR51 HT51 HX51 HSZ51 HRW51
    have bel52:Below w.heap.size w w52:=below_keep bel51 hNk (fun f hf=>by rw[M1' hf];exact qS)
    have HK52:=Hj hNk
    clear hNk
    go_roundw
    case rel=>exact ⟨k+1,hlt,by go_num,_,_,_,_,_,_,_,_,_,_,_,_,_,HS52.out,HRW52.out,HU52.out,HV52.out,HR52.out,HT52.out,HX52.out,bel52,HSZ52.out⟩
    case measure=>simp[intOf];omega
   skip
   obtain rfl:k=n:=by omega
   clear hlt hk
   go_upto_region 22 with (fail)
   go_wp2_with (first | refine wpList_load_row rfl 32 _ rfl S rfl 32 #[.slice b1 m1 d1,.slice b2 m2 d2,.slice b3 m3 d3,.int .i64 ver,.bool true,.bool ry,.slice b4 m4 d4] (0,0) _ HS50.out Tryz.underlying32 rfl (by kernel_rfl) ?_ | fail)
   refine (rcommit_any (F:=S::V::U::R::T::F) _ (rfOf ⟨img,ver,true,a.im,k⟩) _ (rfOf_good HGK.out) HRV50.out).mono ?_
   rw[rf_commit HGK.out]
   rintro e w51 ⟨v51,rfl,hr51,hb51⟩
   have HS51:=Hj (Kb hb51 HS50.out)
   have HU51:=Hj (Kb hb51 HU50.out)
   have HV51:=Hj (Kb hb51 HV50.out)
   have HR51:=Hj (Kb hb51 HR50.out)
   have HT51:=Hj (Kb hb51 HT50.out)
   have HX51:=Hj (Rb HX50.out hb51)
   have HSZ51:=Hj (Nat.le_trans HSZ50.out (hb51).size)
   clear HS50 HU50 HV50 HR50 HT50 HX50 HSZ50
   have bel51:=bel50.trans (hb51.mono bel50.size)
   obtain ⟨v1,hv1⟩:∃v1,v1=ver+1:=⟨_,rfl⟩
   have hst:psCommit ⟨img,ver,true,a.im,k⟩=(⟨a.im,v1,false,[],0⟩,0):=by
    rw[hv1]
    unfold psCommit
    rw[if_neg (by rintro (h | h);cases h;have h2:k<tot img a.im:=h;rw[←HN.out] at h2;omega)]
    rfl
   rw[hst] at hr51⊢
   clear hst
   have HV1:=Hj hv1
   clear hv1
   obtain ⟨iv2,wv2,nv2,tv2,rfl,hiv,hwv,hnv,htv⟩:=RV.done hr51
   obtain ⟨ia2,ic2,hi2⟩:=Rs hiv
   obtain ⟨wa2,wc2,hw2⟩:=Rs hwv
   obtain ⟨na3,nc3,hn2⟩:=Rs hnv
   obtain ⟨ta2,tc2,ht2⟩:=htv.slice
   have HIW51:Hid (Raw (S::V::U::R::T::F) 1 w51 (.slice ia2 a.im.length ic2) a.im.length (bytesV a.im)):=Hj (by rw[hi2] at hiv;exact hiv)
   have HWW51:Hid (Raw (S::V::U::R::T::F) 1 w51 (.slice wa2 a.im.length wc2) a.im.length (bytesV a.im)):=Hj (by rw[hw2] at hwv;exact hwv)
   have HNW51:Hid (Raw (S::V::U::R::T::F) 1 w51 (.slice na3 0 nc3) 0 (bytesV [])):=Hj (by rw[hn2] at hnv;exact hnv)
   have HTW51:Hid (ChR (S::V::U::R::T::F) w51 (.slice ta2 0 tc2) []):=Hj (by rw[ht2] at htv;exact htv)
   have e1:iv2= .slice ia2 a.im.length ic2:=hi2
   have e2:wv2= .slice wa2 a.im.length wc2:=hw2
   have e3:nv2= .slice na3 0 nc3:=hn2
   have e4:tv2= .slice ta2 0 tc2:=ht2
   subst e1 e2 e3 e4
   clear hiv hwv hnv htv hi2 hw2 hn2 ht2 hb51
   clear HS51
   have cU_0:=Bj HU51.out 0 rfl
   have cU_1:=Bj HU51.out 1 rfl
   have cU_2:=Bj HU51.out 2 rfl
   have cU_3:=Bj HU51.out 3 rfl
   have cU_4:=Bj HU51.out 4 rfl
   have cU_5:=Bj HU51.out 5 rfl
   have cU_6:=Bj HU51.out 6 rfl
   have cU_7:=Bj HU51.out 7 rfl
   have cU_8:=Bj HU51.out 8 rfl
   have cU_9:=Bj HU51.out 9 rfl
   have cU_10:=Bj HU51.out 10 rfl
   have cU_11:=Bj HU51.out 11 rfl
   have cU_12:=Bj HU51.out 12 rfl
   have cU_13:=Bj HU51.out 13 rfl
   have cU_14:=Bj HU51.out 14 rfl
   have cU_15:=Bj HU51.out 15 rfl
   have gU_1:=Bf HU51.out 1
   have gU_2:=Bf HU51.out 2
   have gU_3:=Bf HU51.out 3
   have gU_4:=Bf HU51.out 4
   have gU_5:=Bf HU51.out 5
   have gU_6:=Bf HU51.out 6
   have gU_7:=Bf HU51.out 7
   go_upto_region 23 with (fail)
   obtain ⟨w52,hN⟩:∃X,X=(((((((w51.setCell ⟨U,1,none⟩ (.slice ia2 a.im.length ic2)).setCell ⟨U,2,none⟩ (.slice wa2 a.im.length wc2)).setCell ⟨U,3,none⟩ (.slice na3 0 nc3)).setCell ⟨U,4,none⟩ (.int .i64 v1)).setCell ⟨U,5,none⟩ (.bool false)).setCell ⟨U,6,none⟩ (.bool false)).setCell ⟨U,7,none⟩ (.slice ta2 0 tc2)):=⟨_,rfl⟩
   rw[←hN]
   obtain ⟨hNb,hNk⟩:=puts_at [(1,.slice ia2 a.im.length ic2),(2,.slice wa2 a.im.length wc2),(3,.slice na3 0 nc3),(4,.int .i64 v1),(5,.bool false),(6,.bool false),(7,.slice ta2 0 tc2)] HU51.out
   have hNe:puts w51 U [(1,.slice ia2 a.im.length ic2),(2,.slice wa2 a.im.length wc2),(3,.slice na3 0 nc3),(4,.int .i64 v1),(5,.bool false),(6,.bool false),(7,.slice ta2 0 tc2)]=w52:=hN.symm
   rw[hNe] at hNb hNk
   have HU52:Hid (w52.heap[U]? =some (.cells #[.int .i64 xtask,.slice ia2 a.im.length ic2,.slice wa2 a.im.length wc2,.slice na3 0 nc3,.int .i64 v1,.bool false,.bool false,.slice ta2 0 tc2,.slice la xled.length lc,.int .i64 xnum,.int .i64 xatt,.int .i64 xi0,.int .i64 xi1,.int .i64 xgr,.bool false,.int .i64 xlost] 36 (0,0))):=Hj hNb
   have hNz:=hNk.size
   clear cU_0 cU_1 cU_2 cU_3 cU_4 cU_5 cU_6 cU_7 cU_8 cU_9 cU_10 cU_11 cU_12 cU_13 cU_14 cU_15 gU_1 gU_2 gU_3 gU_4 gU_5 gU_6 gU_7
   have HV52:=Hj ((hNk.block V (Al HV51.out) (by simp;omega)).trans HV51.out)
   have HR52:=Hj ((hNk.block R (Al HR51.out) (by simp;omega)).trans HR51.out)
   have HT52:=Hj ((hNk.block T (Al HT51.out) (by simp;omega)).trans HT51.out)
   have HX52:=Hj (Raw.keep (F':=S::V::U::R::T::F) HX51.out hNk (fun f hf=>by rw[M1' hf];exact .inl (by simp)) (fun f hf=> .inl hf))
   have HSZ52:=Hj (Nat.le_trans HSZ51.out hNz)
   have HIW52:=Hj (Raw.keep (F':=S::V::U::R::T::F) HIW51.out hNk (fun f hf=>by rw[M1' hf];exact .inl (by simp)) (fun f hf=> .inl hf))
   have HWW52:=Hj (Raw.keep (F':=S::V::U::R::T::F) HWW51.out hNk (fun f hf=>by rw[M1' hf];exact .inl (by simp)) (fun f hf=> .inl hf))
   have HNW52:=Hj (Raw.keep (F':=S::V::U::R::T::F) HNW51.out hNk (fun f hf=>by rw[M1' hf];exact .inl (by simp)) (fun f hf=> .inl hf))
   have HTW52:=Hj (ChR.keep (F':=S::V::U::R::T::F) HTW51.out hNk (fun f hf=>by rw[M1' hf];exact .inl (by simp)) (fun f hf=> .inl hf))
   clear hN hNe hNb HU51 HV51 HR51 HT51 HX51 HSZ51 HIW51 HWW51 HNW51 HTW51
   have bel52:Below w.heap.size w w52:=below_keep bel51 hNk (fun f hf=>by rw[M1' hf];exact qU)
   have HKp52:=Hj hNk
   clear hNk
   have cU_0:=Bj HU52.out 0 rfl
   have cU_1:=Bj HU52.out 1 rfl
   have cU_2:=Bj HU52.out 2 rfl
   have cU_3:=Bj HU52.out 3 rfl
   have cU_4:=Bj HU52.out 4 rfl
   have cU_5:=Bj HU52.out 5 rfl
   have cU_6:=Bj HU52.out 6 rfl
   have cU_7:=Bj HU52.out 7 rfl
   have cU_8:=Bj HU52.out 8 rfl
   have cU_9:=Bj HU52.out 9 rfl
   have cU_10:=Bj HU52.out 10 rfl
   have cU_11:=Bj HU52.out 11 rfl
   have cU_12:=Bj HU52.out 12 rfl
   have cU_13:=Bj HU52.out 13 rfl
   have cU_14:=Bj HU52.out 14 rfl
   have cU_15:=Bj HU52.out 15 rfl
   have gU_8:=Bf HU52.out 8
   have gU_9:=Bf HU52.out 9
   have gU_10:=Bf HU52.out 10
   go_upto_region 24 with (fail)
   obtain ⟨w53,hN⟩:∃X,X=(((w52.setCell ⟨U,8,none⟩ (.slice na2 sl1.length nc2)).setCell ⟨U,9,none⟩ (.int .i64 (xnum+1))).setCell ⟨U,10,none⟩ (.int .i64 1)):=⟨_,rfl⟩
   rw[←hN]
   obtain ⟨hNb,hNk⟩:=puts_at [(8,.slice na2 sl1.length nc2),(9,.int .i64 (xnum+1)),(10,.int .i64 1)] HU52.out
   have hNe:puts w52 U [(8,.slice na2 sl1.length nc2),(9,.int .i64 (xnum+1)),(10,.int .i64 1)]=w53:=hN.symm
   rw[hNe] at hNb hNk
   have HU53:Hid (w53.heap[U]? =some (.cells #[.int .i64 xtask,.slice ia2 a.im.length ic2,.slice wa2 a.im.length wc2,.slice na3 0 nc3,.int .i64 v1,.bool false,.bool false,.slice ta2 0 tc2,.slice na2 sl1.length nc2,.int .i64 (xnum+1),.int .i64 1,.int .i64 xi0,.int .i64 xi1,.int .i64 xgr,.bool false,.int .i64 xlost] 36 (0,0))):=Hj hNb
   have hNz:=hNk.size
   clear cU_0 cU_1 cU_2 cU_3 cU_4 cU_5 cU_6 cU_7 cU_8 cU_9 cU_10 cU_11 cU_12 cU_13 cU_14 cU_15 gU_8 gU_9 gU_10
   have HV53:=Hj ((hNk.block V (Al HV52.out) (by simp;omega)).trans HV52.out)
   have HR53:=Hj ((hNk.block R (Al HR52.out) (by simp;omega)).trans HR52.out)
   have HT53:=Hj ((hNk.block T (Al HT52.out) (by simp;omega)).trans HT52.out)
   have HX53:=Hj (Raw.keep (F':=S::V::U::R::T::F) HX52.out hNk (fun f hf=>by rw[M1' hf];exact .inl (by simp)) (fun f hf=> .inl hf))
   have HSZ53:=Hj (Nat.le_trans HSZ52.out hNz)
   have HIW53:=Hj (Raw.keep (F':=S::V::U::R::T::F) HIW52.out hNk (fun f hf=>by rw[M1' hf];exact .inl (by simp)) (fun f hf=> .inl hf))
   have HWW53:=Hj (Raw.keep (F':=S::V::U::R::T::F) HWW52.out hNk (fun f hf=>by rw[M1' hf];exact .inl (by simp)) (fun f hf=> .inl hf))
   have HNW53:=Hj (Raw.keep (F':=S::V::U::R::T::F) HNW52.out hNk (fun f hf=>by rw[M1' hf];exact .inl (by simp)) (fun f hf=> .inl hf))
   have HTW53:=Hj (ChR.keep (F':=S::V::U::R::T::F) HTW52.out hNk (fun f hf=>by rw[M1' hf];exact .inl (by simp)) (fun f hf=> .inl hf))
   clear hN hNe hNb HU52 HV52 HR52 HT52 HX52 HSZ52 HIW52 HWW52 HNW52 HTW52
   have bel53:Below w.heap.size w w53:=below_keep bel52 hNk (fun f hf=>by rw[M1' hf];exact qU)
   have HKp53:=Hj hNk
   clear hNk
   have cV_0:=Bj HV53.out 0 rfl
   have cV_1:=Bj HV53.out 1 rfl
   have gV_1:=Bf HV53.out 1
   go_upto_region 25 with (fail)
   obtain ⟨w54,hN⟩:∃X,X=(w53.setCell ⟨V,1,none⟩ (.int .i64 (wrap64 (wrap64 (jt+k)+1)))):=⟨_,rfl⟩
   rw[←hN]
   obtain ⟨hNb,hNk⟩:=puts_at [(1,.int .i64 (wrap64 (wrap64 (jt+k)+1)))] HV53.out
   have hNe:puts w53 V [(1,.int .i64 (wrap64 (wrap64 (jt+k)+1)))]=w54:=hN.symm
   rw[hNe] at hNb hNk
   have HV54:Hid (w54.heap[V]? =some (.cells #[.int .i64 0,.int .i64 (wrap64 (wrap64 (jt+k)+1))] 71 (0,0))):=Hj hNb
   have hNz:=hNk.size
   clear cV_0 cV_1 gV_1
   have HU54:=Hj ((hNk.block U (Al HU53.out) (by simp;omega)).trans HU53.out)
   have HR54:=Hj ((hNk.block R (Al HR53.out) (by simp;omega)).trans HR53.out)
   have HT54:=Hj ((hNk.block T (Al HT53.out) (by simp;omega)).trans HT53.out)
   have HX54:=Hj (Raw.keep (F':=S::V::U::R::T::F) HX53.out hNk (fun f hf=>by rw[M1' hf];exact .inl (by simp)) (fun f hf=> .inl hf))
   have HSZ54:=Hj (Nat.le_trans HSZ53.out hNz)
   have HIW54:=Hj (Raw.keep (F':=S::V::U::R::T::F) HIW53.out hNk (fun f hf=>by rw[M1' hf];exact .inl (by simp)) (fun f hf=> .inl hf))
   have HWW54:=Hj (Raw.keep (F':=S::V::U::R::T::F) HWW53.out hNk (fun f hf=>by rw[M1' hf];exact .inl (by simp)) (fun f hf=> .inl hf))
   have HNW54:=Hj (Raw.keep (F':=S::V::U::R::T::F) HNW53.out hNk (fun f hf=>by rw[M1' hf];exact .inl (by simp)) (fun f hf=> .inl hf))
   have HTW54:=Hj (ChR.keep (F':=S::V::U::R::T::F) HTW53.out hNk (fun f hf=>by rw[M1' hf];exact .inl (by simp)) (fun f hf=> .inl hf))
   clear hN hNe hNb HU53 HV53 HR53 HT53 HX53 HSZ53 HIW53 HWW53 HNW53 HTW53
   have bel54:Below w.heap.size w w54:=below_keep bel53 hNk (fun f hf=>by rw[M1' hf];exact qV)
   have HKp54:=Hj hNk
   clear hNk
   go_upto_region 25 with (fail)
   have HBL54:Hid (∀q∈[U,V],∃cc e f,w54.heap[q]? =some (.cells cc e f)):=Hj (by
    intro q hq
    simp only[List.mem_cons,List.not_mem_nil,or_false] at hq
    rcases hq with rfl | rfl <;> first | exact ⟨_,_,_,HU54.out⟩ | exact ⟨_,_,_,HV54.out⟩)
   have hBl:=show∀q∈[U,V],∃cc e f,w54.heap[q]? =some (.cells cc e f) from HBL54.out
   clear HBL54
   refine Ty.wp_tree [U,V] [1] [] [0,1] [0,1] (.alt [2] (.alt [3,4] (.done) (.no)) (.no)) (by kernel_rfl) (by kernel_rfl) (by kernel_rfl) (by kernel_rfl) hBl ?_
   obtain ⟨w55,hwd⟩:∃y,y=w54.drew:=⟨_,rfl⟩
   have HS55:Hid (SameB [U,V] w55 w55):=Hj (by rw[hwd];exact same_start hBl)
   clear hBl
   rw[←hwd]
   have hdr:Below w54.heap.size w54 w55:=by rw[hwd];exact (Br _ _).drew
   have HU55:=Hj (Kb hdr HU54.out)
   have HV55:=Hj (Kb hdr HV54.out)
   have HR55:=Hj (Kb hdr HR54.out)
   have HT55:=Hj (Kb hdr HT54.out)
   have HX55:=Hj (Rb HX54.out hdr)
   have HSZ55:=Hj (Nat.le_trans HSZ54.out (hdr).size)
   have HIW55:=Hj (Rb HIW54.out hdr)
   have HWW55:=Hj (Rb HWW54.out hdr)
   have HNW55:=Hj (Rb HNW54.out hdr)
   have HTW55:=Hj (ChR.below HTW54.out hdr)
   clear HU54 HV54 HR54 HT54 HX54 HSZ54 HIW54 HWW54 HNW54 HTW54
   have bel55:=bel54.trans (hdr.mono bel54.size)
   clear hdr hwd
   try simp only[pick,Gs,Gz]
   go_wp2_with (first | refine wpList_load_row rfl 36 _ rfl U rfl 36 #[.int .i64 xtask,.slice ia2 a.im.length ic2,.slice wa2 a.im.length wc2,.slice na3 0 nc3,.int .i64 v1,.bool false,.bool false,.slice ta2 0 tc2,.slice na2 sl1.length nc2,.int .i64 (xnum+1),.int .i64 1,.int .i64 xi0,.int .i64 xi1,.int .i64 xgr,.bool false,.int .i64 xlost] (0,0) _ HU55.out Tryz.underlying36 rfl (by kernel_rfl) ?_ | refine wpList_load_row rfl 71 _ rfl V rfl 71 #[.int .i64 0,.int .i64 (wrap64 (wrap64 (jt+k)+1))] (0,0) _ HV55.out Tryz.underlying71 rfl (by kernel_rfl) ?_)
   refine Rm ?_
   refine Wq ?_
   try simp only[pick,Gs,Gz]
   go_wp2_with (refine wpList_store_row rfl 36 _ _ rfl R #[.int .i64 xtask,.slice ia2 a.im.length ic2,.slice wa2 a.im.length wc2,.slice na3 0 nc3,.int .i64 v1,.bool false,.bool false,.slice ta2 0 tc2,.slice na2 sl1.length nc2,.int .i64 (xnum+1),.int .i64 1,.int .i64 xi0,.int .i64 xi1,.int .i64 xgr,.bool false,.int .i64 xlost] rfl rfl 36 #[.int .i64 0,.slice none 0 0,.slice none 0 0,.slice none 0 0,.int .i64 0,.bool false,.bool false,.slice none 0 0,.slice none 0 0,.int .i64 0,.int .i64 0,.int .i64 0,.int .i64 0,.int .i64 0,.bool false,.int .i64 0] HR55.out (by kernel_rfl) rfl (by kernel_rfl) ?_)
   obtain ⟨w56,hN⟩:∃X,X=w55.setRow R #[.int .i64 xtask,.slice ia2 a.im.length ic2,.slice wa2 a.im.length wc2,.slice na3 0 nc3,.int .i64 v1,.bool false,.bool false,.slice ta2 0 tc2,.slice na2 sl1.length nc2,.int .i64 (xnum+1),.int .i64 1,.int .i64 xi0,.int .i64 xi1,.int .i64 xgr,.bool false,.int .i64 xlost]:=⟨_,rfl⟩
   rw[←hN]
   have hNk:Keep [R] w55 w56:=by rw[hN];exact keep_setRow _ _ _
   have HR56:Hid (w56.heap[R]? =some (.cells #[.int .i64 xtask,.slice ia2 a.im.length ic2,.slice wa2 a.im.length wc2,.slice na3 0 nc3,.int .i64 v1,.bool false,.bool false,.slice ta2 0 tc2,.slice na2 sl1.length nc2,.int .i64 (xnum+1),.int .i64 1,.int .i64 xi0,.int .i64 xi1,.int .i64 xgr,.bool false,.int .i64 xlost] 36 (0,0))):=Hj (by rw[hN];exact setRow_heap _ _ _ _ _ _ HR55.out)
   have hNz:=hNk.size
   have HU56:=Hj ((hNk.block U (Al HU55.out) (by simp;omega)).trans HU55.out)
   have HV56:=Hj ((hNk.block V (Al HV55.out) (by simp;omega)).trans HV55.out)
   have HT56:=Hj ((hNk.block T (Al HT55.out) (by simp;omega)).trans HT55.out)
   have HX56:=Hj (Raw.keep (F':=S::V::U::R::T::F) HX55.out hNk (fun f hf=>by rw[M1' hf];exact .inl (by simp)) (fun f hf=> .inl hf))
   have HSZ56:=Hj (Nat.le_trans HSZ55.out hNz)
   have HIW56:=Hj (Raw.keep (F':=S::V::U::R::T::F) HIW55.out hNk (fun f hf=>by rw[M1' hf];exact .inl (by simp)) (fun f hf=> .inl hf))
   have HWW56:=Hj (Raw.keep (F':=S::V::U::R::T::F) HWW55.out hNk (fun f hf=>by rw[M1' hf];exact .inl (by simp)) (fun f hf=> .inl hf))
   have HNW56:=Hj (Raw.keep (F':=S::V::U::R::T::F) HNW55.out hNk (fun f hf=>by rw[M1' hf];exact .inl (by simp)) (fun f hf=> .inl hf))
   have HTW56:=Hj (ChR.keep (F':=S::V::U::R::T::F) HTW55.out hNk (fun f hf=>by rw[M1' hf];exact .inl (by simp)) (fun f hf=> .inl hf))
   clear hN HU55 HV55 HR55 HT55 HX55 HSZ55 HIW55 HWW55 HNW55 HTW55
   have bel56:Below w.heap.size w w56:=below_keep bel55 hNk (fun f hf=>by rw[M1' hf];exact qR)
   have HK56:=Hj hNk
   clear hNk
   have HS56:=Hj (same_keepR HS55.out (w':=w56) (g:=R) HK56.out (by intro q hq;simp only[List.mem_cons,List.not_mem_nil,or_false] at hq;omega))
   refine Sm (Ss HS56.out) ?_
   try simp only[pick,Gs,Gz]
   go_wp2
   refine Rm ?_
   refine Wq ?_
   try simp only[pick,Gs,Gz]
   go_wp2_with (refine wpList_store_row rfl 71 _ _ rfl T #[.int .i64 0,.int .i64 (wrap64 (wrap64 (jt+k)+1))] rfl rfl 71 #[.int .i64 0,.int .i64 0] HT56.out (by kernel_rfl) rfl (by kernel_rfl) ?_)
   obtain ⟨w57,hN⟩:∃X,X=w56.setRow T #[.int .i64 0,.int .i64 (wrap64 (wrap64 (jt+k)+1))]:=⟨_,rfl⟩
   rw[←hN]
   have hNk:Keep [T] w56 w57:=by rw[hN];exact keep_setRow _ _ _
   have HT57:Hid (w57.heap[T]? =some (.cells #[.int .i64 0,.int .i64 (wrap64 (wrap64 (jt+k)+1))] 71 (0,0))):=Hj (by rw[hN];exact setRow_heap _ _ _ _ _ _ HT56.out)
   have hNz:=hNk.size
   have HU57:=Hj ((hNk.block U (Al HU56.out) (by simp;omega)).trans HU56.out)
   have HV57:=Hj ((hNk.block V (Al HV56.out) (by simp;omega)).trans HV56.out)
   have HR57:=Hj ((hNk.block R (Al HR56.out) (by simp;omega)).trans HR56.out)
   have HX57:=Hj (Raw.keep (F':=S::V::U::R::T::F) HX56.out hNk (fun f hf=>by rw[M1' hf];exact .inl (by simp)) (fun f hf=> .inl hf))
   have HSZ57:=Hj (Nat.le_trans HSZ56.out hNz)
   have HIW57:=Hj (Raw.keep (F':=S::V::U::R::T::F) HIW56.out hNk (fun f hf=>by rw[M1' hf];exact .inl (by simp)) (fun f hf=> .inl hf))
   have HWW57:=Hj (Raw.keep (F':=S::V::U::R::T::F) HWW56.out hNk (fun f hf=>by rw[M1' hf];exact .inl (by simp)) (fun f hf=> .inl hf))
   have HNW57:=Hj (Raw.keep (F':=S::V::U::R::T::F) HNW56.out hNk (fun f hf=>by rw[M1' hf];exact .inl (by simp)) (fun f hf=> .inl hf))
   have HTW57:=Hj (ChR.keep (F':=S::V::U::R::T::F) HTW56.out hNk (fun f hf=>by rw[M1' hf];exact .inl (by simp)) (fun f hf=> .inl hf))
   clear hN HU56 HV56 HR56 HT56 HX56 HSZ56 HIW56 HWW56 HNW56 HTW56
   have bel57:Below w.heap.size w w57:=below_keep bel56 hNk (fun f hf=>by rw[M1' hf];exact qT)
   have HK57:=Hj hNk
   clear hNk
   have HS57:=Hj (same_keepR HS56.out (w':=w57) (g:=T) HK57.out (by intro q hq;simp only[List.mem_cons,List.not_mem_nil,or_false] at hq;omega))
   refine Sm (Ss HS57.out) ?_
   try simp only[pick,Gs,Gz]
   go_wp2
   refine Rm ?_
   refine Wd (by rfl) ⟨.tail _ (.head _),trivial⟩ ?_
   go_wp2
   refine bodyPost_ret (results_cct rfl _ _ _ _ _ _ _ _ _ _ rfl HR57.out rfl HT57.out Tryz.underlying36 rfl Tryz.underlying71 rfl (by kernel_rfl) (by kernel_rfl)) rfl ?_
   have hsub:∀f∈F,f∈S::V::U::R::T::F∨w57.heap.size≤f:=fun f hf=> .inl (by simp[hf])
   have hfc:=fin_whole (x:=⟨xtask,xled,xnum,xatt,xi0,xi1,xgr,false,xlost⟩) (s:=⟨img,ver,false,[],0⟩) (p:=p) (ms:=ms) (mq:=mq) (a:=a) (b:=b) (pm:=pm) rfl HSL.out.symm HJC.out.symm HQ.out.symm (fun h=>HCT.out ⟨h.1,by rw[HN.out];exact h.2⟩)
   rw[←HV1.out] at hfc
   exact ⟨_,_,hfc.symm,(by rw[←HJT.out,←HN.out];rfl),⟨_,_,_,_,_,rfl,Raw.fresh HIW57.out hsub,Raw.fresh HWW57.out hsub,Raw.fresh HNW57.out hsub,HTW57.out.keep (Keep.refl [] _) (fun f hf=>by cases hf) hsub,Raw.fresh HX57.out hsub⟩,bel57⟩
end Go.Proofs.YtipiofgdjbogiaaGreat
