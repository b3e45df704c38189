/- unit: hits, Outcomes -/
import Derived.Test.YtipiofgdjbogiaaGreatHb
set_option maxRecDepth 100000
set_option maxHeartbeats 8000000
namespace Go.Fa
open Go
def FP.none:FP:=⟨0,0,0,0,0,0,0⟩
end Go.Fa
namespace Go.Im
open Go Go.Txt Go.RowKit Go.Bs Go.Cl Go.Rw Go.Un
theorem results_cc {P:Program} {fn:Func} {q r:Tmp} {ty:TypeId} (h:fn.results=#[.cell q ty,.cell r ty]) (tmps:Array Value) (w:World) (g g':Nat) (cs cs':Array Value) (t t':TypeId) (d:TypeDesc)
  (hp:tmps.getD q undef= .pointer (some ⟨g,0,none⟩)) (hg:w.heap[g]? =some (.cells cs t (0,0))) (hp':tmps.getD r undef= .pointer (some ⟨g',0,none⟩)) (hg':w.heap[g']? =some (.cells cs' t' (0,0)))
  (hu:P.underlying ty=some d) (hd:(match d with | .struct _ | .array _ _=>true | _=>false)=true) (hi:(P.info? ty).map (·.size)=some cs.size) (hi':(P.info? ty).map (·.size)=some cs'.size):
  (results fn tmps).run P w= .ok (.tuple #[.agg cs,.agg cs']) w:=by
 have hq:tmps[q]?.getD undef= .pointer (some ⟨g,0,none⟩):=by simpa using hp
 have hr:tmps[r]?.getD undef= .pointer (some ⟨g',0,none⟩):=by simpa using hp'
 simp[results,h,hq,hr,asAddr,run_loadVar_row w g t ty cs (0,0) d hg hu hd hi,run_loadVar_row w g' t' ty cs' (0,0) d hg' hu hd hi']
end Go.Im
namespace Go.Proofs.YtipiofgdjbogiaaGreat
open Go.Txt Go.RowKit Go.Bs Go.Cl Go.Rw Go.Un Go.Im Go.Fa
theorem uhits_any {base u g h:Nat} {iv rv lv:Value} {x:Us} {s:Ps} {w:World} (H:UAt w base u g h iv rv lv x s) (p:FP):Calls Tryz.prog 36 #[.pointer (some ⟨u,0,none⟩),.agg p.cs] w fun e w'=>e= .returned (.bool (p.hits x.task x.num x.att))∧Below w.heap.size w w':=by
 simp only[FP.cs]
 obtain ⟨P,hP⟩:∃P,P=w.heap.size:=⟨_,rfl⟩
 obtain ⟨W,hW⟩:∃W,W=w.alloc (.cells #[.int .i64 p.c,.int .i64 p.n,.int .i64 p.e,.int .i64 p.k,.int .i64 p.s,.int .i64 p.pl,.int .i64 p.m] 56):=⟨_,rfl⟩
 have HW:=Hj hW
 have hb:Below w.heap.size w W:=by rw[hW];exact (Br _ w).alloc (Nr _) _
 have HBW:=Hj hb
 have HU:=Hj (H.below hb)
 have HP:Hid (W.heap[P]? =some (.cells #[.int .i64 p.c,.int .i64 p.n,.int .i64 p.e,.int .i64 p.k,.int .i64 p.s,.int .i64 p.pl,.int .i64 p.m] 56 (0,0))):=Hj (by rw[hW,hP];exact heap_alloc_new w _)
 clear hW hb H
 go_enter Tryz.func36,Tryz.ntmps36
 go_upto_region 1 with (fail)
 rw[←HW.out,←hP]
 clear hP HW
 have hu:=HU.out.hu
 have u0:W.cell? ⟨u,0,none⟩=some (.int .i64 x.task):=Bo hu rfl
 have u1:W.cell? ⟨u,1,none⟩=some (.pointer (some ⟨g,0,none⟩)):=Bo hu rfl
 have u2:W.cell? ⟨u,2,none⟩=some (_):=Bo hu rfl
 have u3:W.cell? ⟨u,3,none⟩=some (.int .i64 x.num):=Bo hu rfl
 have u4:W.cell? ⟨u,4,none⟩=some (.int .i64 x.att):=Bo hu rfl
 have u5:W.cell? ⟨u,5,none⟩=some (.int .i64 x.i0):=Bo hu rfl
 have u6:W.cell? ⟨u,6,none⟩=some (.int .i64 x.i1):=Bo hu rfl
 have u7:W.cell? ⟨u,7,none⟩=some (.int .i64 x.gr):=Bo hu rfl
 have u8:W.cell? ⟨u,8,none⟩=some (.bool x.down):=Bo hu rfl
 have u9:W.cell? ⟨u,9,none⟩=some (.int .i64 x.lost):=Bo hu rfl
 have p_0:W.cell? ⟨P,0,none⟩=some (.int .i64 p.c):=Bo HP.out rfl
 have p_1:W.cell? ⟨P,1,none⟩=some (.int .i64 p.n):=Bo HP.out rfl
 have p_2:W.cell? ⟨P,2,none⟩=some (.int .i64 p.e):=Bo HP.out rfl
 have p_3:W.cell? ⟨P,3,none⟩=some (.int .i64 p.k):=Bo HP.out rfl
 have p_4:W.cell? ⟨P,4,none⟩=some (.int .i64 p.s):=Bo HP.out rfl
 have p_5:W.cell? ⟨P,5,none⟩=some (.int .i64 p.pl):=Bo HP.out rfl
 have p_6:W.cell? ⟨P,6,none⟩=some (.int .i64 p.m):=Bo HP.out rfl
 clear hu
 refine wp_txt (by kernel_rfl) (by kernel_rfl) ?_
 go_wp2_with fail
 refine (hits_any p x.task x.num x.att _).mono ?_
 rintro e w1 ⟨rfl,hb1⟩
 have HB1:=Hj (HBW.out.drew.trans (hb1.mono HBW.out.size))
 clear hb1
 go_wp2
 refine DrawPost.mk0 (by rfl) ?_
 go_wp2
 go_ret
 exact ⟨rfl,HB1.out⟩
theorem outcomes_any {base u g h:Nat} {iv rv lv:Value} {x:Us} {s:Ps} {w:World} (H:UAt w base u g h iv rv lv x s) (p:FP) (a b:Oc) (i1 e1 i2 e2:Value) (hal:a.im.length≤24000) (hael:a.ef.length≤24000) (hbl:b.im.length≤24000) (hbel:b.ef.length≤24000) (hI1:Bytes [] w i1 a.im) (hE1:Bytes [] w e1 a.ef) (hI2:Bytes [] w i2 b.im) (hE2:Bytes [] w e2 b.ef):
  Calls Tryz.prog 15 #[.pointer (some ⟨u,0,none⟩),.agg p.cs,.agg #[.int .i64 a.en,.int .i64 a.st,.int .i64 a.er,i1,e1],.agg #[.int .i64 b.en,.int .i64 b.st,.int .i64 b.er,i2,e2]] w fun e w'=>∃fa fb ia ea ib eb,fa=fout (if p.hits x.task x.num x.att then p else FP.none) 0 a∧fb=fout (if p.hits x.task x.num x.att then p else FP.none) 1 b∧
   e= .returned (.tuple #[.agg #[.int .i64 fa.en,.int .i64 fa.st,.int .i64 fa.er,ia,ea],.agg #[.int .i64 fb.en,.int .i64 fb.st,.int .i64 fb.er,ib,eb]])∧
   w'.ownsRow w.heap.size 5 1 ia fa.im.length (bytesV fa.im)∧w'.ownsRow w.heap.size 5 1 ea fa.ef.length (bytesV fa.ef)∧w'.ownsRow w.heap.size 5 1 ib fb.im.length (bytesV fb.im)∧w'.ownsRow w.heap.size 5 1 eb fb.ef.length (bytesV fb.ef)∧Below w.heap.size w w':=by
 obtain ⟨q,hq⟩:∃q,q=(if p.hits x.task x.num x.att then p else FP.none):=⟨_,rfl⟩
 rw[←hq]
 have HQ:=Hj hq
 clear hq
 have HUH:=Hj H
 obtain ⟨ai,ac,rfl⟩:=Rs hI1
 obtain ⟨ae,aec,rfl⟩:=Rs hE1
 obtain ⟨bi,bc,rfl⟩:=Rs hI2
 obtain ⟨be,bec,rfl⟩:=Rs hE2
 have hul:=H.lt
 clear H
 simp only[FP.cs]
 obtain ⟨W1,hW1⟩:∃W,W=w.alloc (.cells #[.int .i64 p.c,.int .i64 p.n,.int .i64 p.e,.int .i64 p.k,.int .i64 p.s,.int .i64 p.pl,.int .i64 p.m] 56):=⟨_,rfl⟩
 obtain ⟨W2,hW2⟩:∃W,W=W1.alloc (.cells #[.int .i64 a.en,.int .i64 a.st,.int .i64 a.er,(.slice ai a.im.length ac),(.slice ae a.ef.length aec)] 61):=⟨_,rfl⟩
 obtain ⟨W3,hW3⟩:∃W,W=W2.alloc (.cells #[.int .i64 b.en,.int .i64 b.st,.int .i64 b.er,(.slice bi b.im.length bc),(.slice be b.ef.length bec)] 61):=⟨_,rfl⟩
 obtain ⟨W4,hW4⟩:∃W,W=W3.alloc (.cells #[.int .i64 0,.int .i64 0,.int .i64 0,.slice none 0 0,.slice none 0 0] 61):=⟨_,rfl⟩
 obtain ⟨W,hW⟩:∃W,W=W4.alloc (.cells #[.int .i64 0,.int .i64 0,.int .i64 0,.slice none 0 0,.slice none 0 0] 61):=⟨_,rfl⟩
 have HW1:=Hj hW1;have HW2:=Hj hW2;have HW3:=Hj hW3;have HW4:=Hj hW4;have HW:=Hj hW
 have z1:W1.heap.size=w.heap.size+1:=by rw[hW1];simp
 have z2:W2.heap.size=w.heap.size+1+1:=by rw[hW2];simp[z1]
 have z3:W3.heap.size=w.heap.size+1+1+1:=by rw[hW3];simp[z2]
 have z4:W4.heap.size=w.heap.size+1+1+1+1:=by rw[hW4];simp[z3]
 have z5:W.heap.size=w.heap.size+1+1+1+1+1:=by rw[hW];simp[z4]
 have b5:Below W4.heap.size W4 W:=by rw[hW];exact (Br _ _).alloc (Nr _) _
 have b4:Below W3.heap.size W3 W:=(show Below W3.heap.size W3 W4 by rw[hW4];exact (Br _ _).alloc (Nr _) _).trans (b5.mono (by omega))
 have b3':Below W2.heap.size W2 W:=(show Below W2.heap.size W2 W3 by rw[hW3];exact (Br _ _).alloc (Nr _) _).trans (b4.mono (by omega))
 have b2:Below W1.heap.size W1 W:=(show Below W1.heap.size W1 W2 by rw[hW2];exact (Br _ _).alloc (Nr _) _).trans (b3'.mono (by omega))
 have b1:Below w.heap.size w W:=(show Below w.heap.size w W1 by rw[hW1];exact (Br _ _).alloc (Nr _) _).trans (b2.mono (by omega))
 have HPW:Hid (W.heap[w.heap.size]? =some (.cells #[.int .i64 p.c,.int .i64 p.n,.int .i64 p.e,.int .i64 p.k,.int .i64 p.s,.int .i64 p.pl,.int .i64 p.m] 56 (0,0))):=Hj ((b2.block _ (by omega)).trans (by rw[hW1];exact heap_alloc_new w _))
 have HAW:Hid (W.heap[w.heap.size+1]? =some (.cells #[.int .i64 a.en,.int .i64 a.st,.int .i64 a.er,(.slice ai a.im.length ac),(.slice ae a.ef.length aec)] 61 (0,0))):=Hj ((b3'.block _ (by omega)).trans (by rw[hW2,←z1];exact heap_alloc_new W1 _))
 have HBW:Hid (W.heap[w.heap.size+1+1]? =some (.cells #[.int .i64 b.en,.int .i64 b.st,.int .i64 b.er,(.slice bi b.im.length bc),(.slice be b.ef.length bec)] 61 (0,0))):=Hj ((b4.block _ (by omega)).trans (by rw[hW3,←z2];exact heap_alloc_new W2 _))
 have HR1W:Hid (W.heap[w.heap.size+1+1+1]? =some (.cells #[.int .i64 0,.int .i64 0,.int .i64 0,.slice none 0 0,.slice none 0 0] 61 (0,0))):=Hj ((b5.block _ (by omega)).trans (by rw[hW4,←z3];exact heap_alloc_new W3 _))
 have HR2W:Hid (W.heap[w.heap.size+1+1+1+1]? =some (.cells #[.int .i64 0,.int .i64 0,.int .i64 0,.slice none 0 0,.slice none 0 0] 61 (0,0))):=Hj (by rw[hW,←z4];exact heap_alloc_new W4 _)
 have HL:=Hj b1
 have HI0:=Hj hI1;have HE0:=Hj hE1;have HJ0:=Hj hI2;have HF0:=Hj hE2
 have HI1:=Hj (Rb hI1 b1);have HE1:=Hj (Rb hE1 b1);have HI2:=Hj (Rb hI2 b1);have HE2:=Hj (Rb hE2 b1)
 have HUW:=Hj (HUH.out.below b1)
 clear hW1 hW2 hW3 hW4 hW b1 b2 b3' b4 b5 hI1 hE1 hI2 hE2
 go_enter Tryz.func15,Tryz.ntmps15
 go_upto_region 1 with (fail)
 rw[←HW1.out,←HW2.out,←HW3.out,←HW4.out,←HW.out]
 obtain ⟨P,hP⟩:∃P,P=w.heap.size:=⟨_,rfl⟩
 obtain ⟨A,hA⟩:∃A,A=w.heap.size+1:=⟨_,rfl⟩
 obtain ⟨B,hB⟩:∃B,B=w.heap.size+1+1:=⟨_,rfl⟩
 obtain ⟨R,hR⟩:∃R,R=w.heap.size+1+1+1:=⟨_,rfl⟩
 obtain ⟨S,hS⟩:∃S,S=w.heap.size+1+1+1+1:=⟨_,rfl⟩
 rw[←hS,←hR,←hB,←hA,←hP]
 rw[←hP] at HPW;rw[←hA] at HAW;rw[←hB] at HBW;rw[←hR] at HR1W;rw[←hS] at HR2W
 have hwP:w.heap.size≤P:=by omega
 have hPA:P<A:=by omega
 have hAB:A<B:=by omega
 have hBR:B<R:=by omega
 have hRS:R<S:=by omega
 have hSW:S<W.heap.size:=by omega
 have hwW:w.heap.size≤W.heap.size:=by omega
 have huP:u<P:=by omega
 clear hP hA hB hR hS z1 z2 z3 z4 z5 HW1 HW2 HW3 HW4 HW
 have p_0:W.cell? ⟨P,0,none⟩=some (.int .i64 p.c):=Bo HPW.out rfl
 have p_1:W.cell? ⟨P,1,none⟩=some (.int .i64 p.n):=Bo HPW.out rfl
 have p_2:W.cell? ⟨P,2,none⟩=some (.int .i64 p.e):=Bo HPW.out rfl
 have p_3:W.cell? ⟨P,3,none⟩=some (.int .i64 p.k):=Bo HPW.out rfl
 have p_4:W.cell? ⟨P,4,none⟩=some (.int .i64 p.s):=Bo HPW.out rfl
 have p_5:W.cell? ⟨P,5,none⟩=some (.int .i64 p.pl):=Bo HPW.out rfl
 have p_6:W.cell? ⟨P,6,none⟩=some (.int .i64 p.m):=Bo HPW.out rfl
 go_wp2_with fail
 refine (uhits_any HUW.out p).mono ?_
 rintro e w1 ⟨rfl,hb1⟩
 have hs1:=hb1.size
 have HL1:=Hj (HL.out.trans (hb1.mono HL.out.size))
 have HP1:=Hj ((hb1.block P (by omega)).trans HPW.out)
 have HA1:=Hj ((hb1.block A (by omega)).trans HAW.out)
 have HB1:=Hj ((hb1.block B (by omega)).trans HBW.out)
 have HR1:=Hj ((hb1.block R (by omega)).trans HR1W.out)
 have HS1:=Hj ((hb1.block S hSW).trans HR2W.out)
 have HIa1:=Hj (Rb HI1.out hb1);have HEa1:=Hj (Rb HE1.out hb1);have HIb1:=Hj (Rb HI2.out hb1);have HEb1:=Hj (Rb HE2.out hb1)
 clear hb1 p_0 p_1 p_2 p_3 p_4 p_5 p_6
 cases hh:p.hits x.task x.num x.att
 ·have hq:=HQ.out
  rw[hh,if_neg (by simp)] at hq
  subst hq
  clear HQ
  have p_0:w1.cell? ⟨P,0,none⟩=some (.int .i64 p.c):=Bo HP1.out rfl
  have p_1:w1.cell? ⟨P,1,none⟩=some (.int .i64 p.n):=Bo HP1.out rfl
  have p_2:w1.cell? ⟨P,2,none⟩=some (.int .i64 p.e):=Bo HP1.out rfl
  have p_3:w1.cell? ⟨P,3,none⟩=some (.int .i64 p.k):=Bo HP1.out rfl
  have p_4:w1.cell? ⟨P,4,none⟩=some (.int .i64 p.s):=Bo HP1.out rfl
  have p_5:w1.cell? ⟨P,5,none⟩=some (.int .i64 p.pl):=Bo HP1.out rfl
  have p_6:w1.cell? ⟨P,6,none⟩=some (.int .i64 p.m):=Bo HP1.out rfl
  have f0:=Bf HP1.out 0
  have f1:=Bf HP1.out 1
  have f2:=Bf HP1.out 2
  have f3:=Bf HP1.out 3
  have f4:=Bf HP1.out 4
  have f5:=Bf HP1.out 5
  have f6:=Bf HP1.out 6
  go_upto_region 5 with (fail)
  clear f0 f1 f2 f3 f4 f5 f6 p_0 p_1 p_2 p_3 p_4 p_5 p_6
  obtain ⟨wn,hN⟩:∃X,X=(((((((w1.setCell ⟨P,0,none⟩ (.int .i64 0)).setCell ⟨P,1,none⟩ (.int .i64 0)).setCell ⟨P,2,none⟩ (.int .i64 0)).setCell ⟨P,3,none⟩ (.int .i64 0)).setCell ⟨P,4,none⟩ (.int .i64 0)).setCell ⟨P,5,none⟩ (.int .i64 0)).setCell ⟨P,6,none⟩ (.int .i64 0)):=⟨_,rfl⟩
  rw[←hN]
  obtain ⟨hNb,hNk⟩:=puts_at [(0,.int .i64 0),(1,.int .i64 0),(2,.int .i64 0),(3,.int .i64 0),(4,.int .i64 0),(5,.int .i64 0),(6,.int .i64 0)] HP1.out
  have hNe:puts w1 P [(0,.int .i64 0),(1,.int .i64 0),(2,.int .i64 0),(3,.int .i64 0),(4,.int .i64 0),(5,.int .i64 0),(6,.int .i64 0)]=wn:=hN.symm
  have hNz:=puts_size [(0,.int .i64 0),(1,.int .i64 0),(2,.int .i64 0),(3,.int .i64 0),(4,.int .i64 0),(5,.int .i64 0),(6,.int .i64 0)] w1 P
  rw[hNe] at hNb hNk hNz
  have HK3:=Hj hNk
  have HZ3:=Hj hNz
  have HPn:Hid (wn.heap[P]? =some (.cells #[.int .i64 FP.none.c,.int .i64 FP.none.n,.int .i64 FP.none.e,.int .i64 FP.none.k,.int .i64 FP.none.s,.int .i64 FP.none.pl,.int .i64 FP.none.m] 56 (0,0))):=Hj hNb
  have HLn:=Hj (HL1.out.trans (hNk.below HL1.out.size (G1 (by omega))))
  have HAn:=Hj ((hNk.block A (by omega) (by simp;omega)).trans HA1.out)
  have HBn:=Hj ((hNk.block B (by omega) (by simp;omega)).trans HB1.out)
  have HRn:=Hj ((hNk.block R (by omega) (by simp;omega)).trans HR1.out)
  have HSn:=Hj ((hNk.block S (by omega) (by simp;omega)).trans HS1.out)
  have hzn:S<wn.heap.size:=by have:=HZ3.out;omega
  have hwx0:w.heap.size≤wn.heap.size:=by omega
  have HIan:=Hj (Rb HI0.out HLn.out);have HEan:=Hj (Rb HE0.out HLn.out);have HIbn:=Hj (Rb HJ0.out HLn.out);have HEbn:=Hj (Rb HF0.out HLn.out)
  clear hN hNb hNk hNe hNz
  clear hh
  have P_0:wn.cell? ⟨P,0,none⟩=some (.int .i64 FP.none.c):=Bo HPn.out rfl
  have P_1:wn.cell? ⟨P,1,none⟩=some (.int .i64 FP.none.n):=Bo HPn.out rfl
  have P_2:wn.cell? ⟨P,2,none⟩=some (.int .i64 FP.none.e):=Bo HPn.out rfl
  have P_3:wn.cell? ⟨P,3,none⟩=some (.int .i64 FP.none.k):=Bo HPn.out rfl
  have P_4:wn.cell? ⟨P,4,none⟩=some (.int .i64 FP.none.s):=Bo HPn.out rfl
  have P_5:wn.cell? ⟨P,5,none⟩=some (.int .i64 FP.none.pl):=Bo HPn.out rfl
  have P_6:wn.cell? ⟨P,6,none⟩=some (.int .i64 FP.none.m):=Bo HPn.out rfl
  have A_0:wn.cell? ⟨A,0,none⟩=some (.int .i64 a.en):=Bo HAn.out rfl
  have A_1:wn.cell? ⟨A,1,none⟩=some (.int .i64 a.st):=Bo HAn.out rfl
  have A_2:wn.cell? ⟨A,2,none⟩=some (.int .i64 a.er):=Bo HAn.out rfl
  have A_3:wn.cell? ⟨A,3,none⟩=some ((.slice ai a.im.length ac)):=Bo HAn.out rfl
  have A_4:wn.cell? ⟨A,4,none⟩=some ((.slice ae a.ef.length aec)):=Bo HAn.out rfl
  have B_0:wn.cell? ⟨B,0,none⟩=some (.int .i64 b.en):=Bo HBn.out rfl
  have B_1:wn.cell? ⟨B,1,none⟩=some (.int .i64 b.st):=Bo HBn.out rfl
  have B_2:wn.cell? ⟨B,2,none⟩=some (.int .i64 b.er):=Bo HBn.out rfl
  have B_3:wn.cell? ⟨B,3,none⟩=some ((.slice bi b.im.length bc)):=Bo HBn.out rfl
  have B_4:wn.cell? ⟨B,4,none⟩=some ((.slice be b.ef.length bec)):=Bo HBn.out rfl
  go_upto_region 5 with (fail)
  have hBl:∀z∈[P,B],∃c e f,wn.heap[z]? =some (.cells c e f):=fun z hz=>by
   rcases List.mem_cons.1 hz with rfl | hz
   ·exact ⟨_,_,_,HPn.out⟩
   rw[M1' hz];exact ⟨_,_,_,HBn.out⟩
  have HS0:=Hj (same_start hBl)
  have hdr:=Br wn.heap.size wn
  refine Ty.wp_tree [P,B] [3,4] [6,7] [0,1,3,4] [0,1,3,4] (.alt [2] (.alt [5] (.alt [6] (.alt [7] .done .no) .no) .no) .no) (by kernel_rfl) (by kernel_rfl) (by kernel_rfl) (by kernel_rfl) hBl ?_
  clear hBl
  try simp only[pick,Gs,Gz]
  go_wp2
  refine Rm ?_
  refine Wq ?_
  try simp only[pick,Gs,Gz]
  go_wp2_with fail
  refine (output_any [] FP.none 0 a _ _ _ hal hael (Rb HIan.out hdr.drew) (Rb HEan.out hdr.drew)).mono ?_
  rintro e y1 ⟨ia,ea,rfl,hia,hea,hy1⟩
  have hq1:=hy1.size
  obtain ⟨fa,hfa⟩:∃fa,fa=fout FP.none 0 a:=⟨_,rfl⟩
  rw[←hfa] at hia hea⊢
  have HFA:=Hj hfa
  have HIO:=Hj hia;have HEO:=Hj hea
  have HY1:Hid (Below wn.heap.size wn y1):=Hj (hdr.drew.trans hy1)
  have HSa:=Hj (same_below' HS0.out hy1)
  obtain ⟨ia1,ia2,rfl⟩:=Oq hia
  obtain ⟨ea1,ea2,rfl⟩:=Oq hea
  clear hia hea hy1 hfa
  go_wp2
  refine Sm (Ss HSa.out) ?_
  try simp only[pick,Gs,Gz]
  go_wp2
  refine Rm ?_
  refine Wq ?_
  try simp only[pick,Gs,Gz]
  go_wp2_with fail
  refine (output_any [] FP.none 1 b _ _ _ hbl hbel (Rb HIbn.out HY1.out) (Rb HEbn.out HY1.out)).mono ?_
  rintro e y2 ⟨ib,eb,rfl,hib,heb,hy2⟩
  have hq2:=hy2.size
  obtain ⟨fb,hfb⟩:∃fb,fb=fout FP.none 1 b:=⟨_,rfl⟩
  rw[←hfb] at hib heb⊢
  have HFB:=Hj hfb
  obtain ⟨ib1,ib2,rfl⟩:=Oq hib
  obtain ⟨eb1,eb2,rfl⟩:=Oq heb
  have HZ:=Hj hdr.size
  have hzx:wn.heap.size≤y1.heap.size:=HY1.out.size
  have HY2:Hid (Below wn.heap.size wn y2):=Hj (HY1.out.trans (hy2.mono hzx))
  have HSb:=Hj (same_below' HSa.out hy2)
  have HIO2:=Hj (own_below HIO.out hy2 (Nr _))
  have HEO2:=Hj (own_below HEO.out hy2 (Nr _))
  have HJO2:=Hj (own_base hib hzx)
  have HFO2:=Hj (own_base heb hzx)
  clear hib heb hy2 hfb
  have HP2:=Hj ((HY2.out.block P (by omega)).trans HPn.out)
  have HB2:=Hj ((HY2.out.block B (by omega)).trans HBn.out)
  have HR2:=Hj ((HY2.out.block R (by omega)).trans HRn.out)
  have HS2:=Hj ((HY2.out.block S (by omega)).trans HSn.out)
  clear P_0 P_1 P_2 P_3 P_4 P_5 P_6 A_0 A_1 A_2 A_3 A_4 B_0 B_1 B_2 B_3 B_4
  have f0:=Bf HR2.out 0
  have f1:=Bf HR2.out 1
  have f2:=Bf HR2.out 2
  have f3:=Bf HR2.out 3
  have f4:=Bf HR2.out 4
  have r0:=Bj HR2.out 0 rfl
  have r1:=Bj HR2.out 1 rfl
  have r2:=Bj HR2.out 2 rfl
  have r3:=Bj HR2.out 3 rfl
  have r4:=Bj HR2.out 4 rfl
  go_wp2
  refine Sm (Ss HSb.out) ?_
  try simp only[pick,Gs,Gz]
  go_wp2
  refine Rm ?_
  refine Wq ?_
  try simp only[pick,Gs,Gz]
  go_wp2
  refine Sm (Ty.Shown.last rfl) ?_
  clear f0 f1 f2 f3 f4 r0 r1 r2 r3 r4
  obtain ⟨X1,hN⟩:∃X,X=(((((y2.setCell ⟨R,0,none⟩ (.int .i64 fa.en)).setCell ⟨R,1,none⟩ (.int .i64 fa.st)).setCell ⟨R,2,none⟩ (.int .i64 fa.er)).setCell ⟨R,3,none⟩ (.slice ia1 fa.im.length ia2)).setCell ⟨R,4,none⟩ (.slice ea1 fa.ef.length ea2)):=⟨_,rfl⟩
  rw[←hN]
  obtain ⟨hNb,hNk⟩:=puts_at [(0,.int .i64 fa.en),(1,.int .i64 fa.st),(2,.int .i64 fa.er),(3,.slice ia1 fa.im.length ia2),(4,.slice ea1 fa.ef.length ea2)] HR2.out
  have hNe:puts y2 R [(0,.int .i64 fa.en),(1,.int .i64 fa.st),(2,.int .i64 fa.er),(3,.slice ia1 fa.im.length ia2),(4,.slice ea1 fa.ef.length ea2)]=X1:=hN.symm
  have hNz:=puts_size [(0,.int .i64 fa.en),(1,.int .i64 fa.st),(2,.int .i64 fa.er),(3,.slice ia1 fa.im.length ia2),(4,.slice ea1 fa.ef.length ea2)] y2 R
  rw[hNe] at hNb hNk hNz
  have HK1:=Hj hNk
  have HZ1:=Hj hNz
  have HRX:Hid (X1.heap[R]? =some (.cells #[.int .i64 fa.en,.int .i64 fa.st,.int .i64 fa.er,(.slice ia1 fa.im.length ia2),(.slice ea1 fa.ef.length ea2)] 61 (0,0))):=Hj hNb
  have HSX:=Hj ((hNk.block S (by omega) (by simp;omega)).trans HS2.out)
  clear hN hNb hNk hNe hNz
  have f0:=Bf HSX.out 0
  have f1:=Bf HSX.out 1
  have f2:=Bf HSX.out 2
  have f3:=Bf HSX.out 3
  have f4:=Bf HSX.out 4
  have r0:=Bj HSX.out 0 rfl
  have r1:=Bj HSX.out 1 rfl
  have r2:=Bj HSX.out 2 rfl
  have r3:=Bj HSX.out 3 rfl
  have r4:=Bj HSX.out 4 rfl
  try simp only[pick,Gs,Gz]
  go_wp2
  refine Rm ?_
  refine Wq ?_
  try simp only[pick,Gs,Gz]
  go_wp2
  refine Sm (Ty.Shown.last rfl) ?_
  clear f0 f1 f2 f3 f4 r0 r1 r2 r3 r4
  obtain ⟨X2,hN⟩:∃X,X=(((((X1.setCell ⟨S,0,none⟩ (.int .i64 fb.en)).setCell ⟨S,1,none⟩ (.int .i64 fb.st)).setCell ⟨S,2,none⟩ (.int .i64 fb.er)).setCell ⟨S,3,none⟩ (.slice ib1 fb.im.length ib2)).setCell ⟨S,4,none⟩ (.slice eb1 fb.ef.length eb2)):=⟨_,rfl⟩
  rw[←hN]
  obtain ⟨hNb,hNk⟩:=puts_at [(0,.int .i64 fb.en),(1,.int .i64 fb.st),(2,.int .i64 fb.er),(3,.slice ib1 fb.im.length ib2),(4,.slice eb1 fb.ef.length eb2)] HSX.out
  have hNe:puts X1 S [(0,.int .i64 fb.en),(1,.int .i64 fb.st),(2,.int .i64 fb.er),(3,.slice ib1 fb.im.length ib2),(4,.slice eb1 fb.ef.length eb2)]=X2:=hN.symm
  have hNz:=puts_size [(0,.int .i64 fb.en),(1,.int .i64 fb.st),(2,.int .i64 fb.er),(3,.slice ib1 fb.im.length ib2),(4,.slice eb1 fb.ef.length eb2)] X1 S
  rw[hNe] at hNb hNk hNz
  have HK2:=Hj hNk
  have HZ2:=Hj hNz
  have HSX2:Hid (X2.heap[S]? =some (.cells #[.int .i64 fb.en,.int .i64 fb.st,.int .i64 fb.er,(.slice ib1 fb.im.length ib2),(.slice eb1 fb.ef.length eb2)] 61 (0,0))):=Hj hNb
  have hz1:=HZ1.out
  have HRX2:=Hj ((hNk.block R (by omega) (by simp;omega)).trans HRX.out)
  clear hN hNb hNk hNe hNz
  try simp only[pick,Gs,Gz]
  go_wp2
  refine Rm ?_
  refine Wd (by rfl) ⟨.head _,.tail _ (.head _),trivial⟩ ?_
  go_wp2
  refine bodyPost_ret (results_cc rfl _ _ _ _ _ _ _ _ _ rfl HRX2.out rfl HSX2.out Tryz.underlying61 rfl (by kernel_rfl) (by kernel_rfl)) rfl ?_
  have hwx:w.heap.size≤wn.heap.size:=HLn.out.size
  have hz2:=HZ2.out
  have hxy:wn.heap.size≤y2.heap.size:=HY2.out.size
  have fin:∀{v:Value} {n:Nat} {c:List Value},y2.ownsRow wn.heap.size 5 1 v n c→X2.ownsRow w.heap.size 5 1 v n c:=fun ho=>own_base (own_keep (own_keep ho HK1.out (Ow ho (by omega))) HK2.out (Ow ho (by omega))) hwx
  have hL2:=HLn.out.trans (HY2.out.mono hwx)
  have hL3:=hL2.trans (HK1.out.below hL2.size (G1 (by omega)))
  exact ⟨_,_,_,_,_,_,HFA.out,HFB.out,rfl,fin HIO2.out,fin HEO2.out,fin HJO2.out,fin HFO2.out,hL3.trans (HK2.out.below hL3.size (G1 (by omega)))⟩
 have hq:=HQ.out
 rw[hh,if_pos rfl] at hq
 subst hq
 clear HQ
 clear hh
 have P_0:w1.cell? ⟨P,0,none⟩=some (.int .i64 q.c):=Bo HP1.out rfl
 have P_1:w1.cell? ⟨P,1,none⟩=some (.int .i64 q.n):=Bo HP1.out rfl
 have P_2:w1.cell? ⟨P,2,none⟩=some (.int .i64 q.e):=Bo HP1.out rfl
 have P_3:w1.cell? ⟨P,3,none⟩=some (.int .i64 q.k):=Bo HP1.out rfl
 have P_4:w1.cell? ⟨P,4,none⟩=some (.int .i64 q.s):=Bo HP1.out rfl
 have P_5:w1.cell? ⟨P,5,none⟩=some (.int .i64 q.pl):=Bo HP1.out rfl
 have P_6:w1.cell? ⟨P,6,none⟩=some (.int .i64 q.m):=Bo HP1.out rfl
 have A_0:w1.cell? ⟨A,0,none⟩=some (.int .i64 a.en):=Bo HA1.out rfl
 have A_1:w1.cell? ⟨A,1,none⟩=some (.int .i64 a.st):=Bo HA1.out rfl
 have A_2:w1.cell? ⟨A,2,none⟩=some (.int .i64 a.er):=Bo HA1.out rfl
 have A_3:w1.cell? ⟨A,3,none⟩=some ((.slice ai a.im.length ac)):=Bo HA1.out rfl
 have A_4:w1.cell? ⟨A,4,none⟩=some ((.slice ae a.ef.length aec)):=Bo HA1.out rfl
 have B_0:w1.cell? ⟨B,0,none⟩=some (.int .i64 b.en):=Bo HB1.out rfl
 have B_1:w1.cell? ⟨B,1,none⟩=some (.int .i64 b.st):=Bo HB1.out rfl
 have B_2:w1.cell? ⟨B,2,none⟩=some (.int .i64 b.er):=Bo HB1.out rfl
 have B_3:w1.cell? ⟨B,3,none⟩=some ((.slice bi b.im.length bc)):=Bo HB1.out rfl
 have B_4:w1.cell? ⟨B,4,none⟩=some ((.slice be b.ef.length bec)):=Bo HB1.out rfl
 go_upto_region 5 with (fail)
 have hBl:∀z∈[P,B],∃c e f,w1.heap[z]? =some (.cells c e f):=fun z hz=>by
  rcases List.mem_cons.1 hz with rfl | hz
  ·exact ⟨_,_,_,HP1.out⟩
  rw[M1' hz];exact ⟨_,_,_,HB1.out⟩
 have HS0:=Hj (same_start hBl)
 have hdr:=Br w1.heap.size w1
 refine Ty.wp_tree [P,B] [3,4] [6,7] [0,1,3,4] [0,1,3,4] (.alt [2] (.alt [5] (.alt [6] (.alt [7] .done .no) .no) .no) .no) (by kernel_rfl) (by kernel_rfl) (by kernel_rfl) (by kernel_rfl) hBl ?_
 clear hBl
 try simp only[pick,Gs,Gz]
 go_wp2
 refine Rm ?_
 refine Wq ?_
 try simp only[pick,Gs,Gz]
 go_wp2_with fail
 refine (output_any [] q 0 a _ _ _ hal hael (Rb HIa1.out hdr.drew) (Rb HEa1.out hdr.drew)).mono ?_
 rintro e y1 ⟨ia,ea,rfl,hia,hea,hy1⟩
 have hq1:=hy1.size
 obtain ⟨fa,hfa⟩:∃fa,fa=fout q 0 a:=⟨_,rfl⟩
 rw[←hfa] at hia hea⊢
 have HFA:=Hj hfa
 have HIO:=Hj hia;have HEO:=Hj hea
 have HY1:Hid (Below w1.heap.size w1 y1):=Hj (hdr.drew.trans hy1)
 have HSa:=Hj (same_below' HS0.out hy1)
 obtain ⟨ia1,ia2,rfl⟩:=Oq hia
 obtain ⟨ea1,ea2,rfl⟩:=Oq hea
 clear hia hea hy1 hfa
 go_wp2
 refine Sm (Ss HSa.out) ?_
 try simp only[pick,Gs,Gz]
 go_wp2
 refine Rm ?_
 refine Wq ?_
 try simp only[pick,Gs,Gz]
 go_wp2_with fail
 refine (output_any [] q 1 b _ _ _ hbl hbel (Rb HIb1.out HY1.out) (Rb HEb1.out HY1.out)).mono ?_
 rintro e y2 ⟨ib,eb,rfl,hib,heb,hy2⟩
 have hq2:=hy2.size
 obtain ⟨fb,hfb⟩:∃fb,fb=fout q 1 b:=⟨_,rfl⟩
 rw[←hfb] at hib heb⊢
 have HFB:=Hj hfb
 obtain ⟨ib1,ib2,rfl⟩:=Oq hib
 obtain ⟨eb1,eb2,rfl⟩:=Oq heb
 have HZ:=Hj hdr.size
 have hzx:w1.heap.size≤y1.heap.size:=HY1.out.size
 have HY2:Hid (Below w1.heap.size w1 y2):=Hj (HY1.out.trans (hy2.mono hzx))
 have HSb:=Hj (same_below' HSa.out hy2)
 have HIO2:=Hj (own_below HIO.out hy2 (Nr _))
 have HEO2:=Hj (own_below HEO.out hy2 (Nr _))
 have HJO2:=Hj (own_base hib hzx)
 have HFO2:=Hj (own_base heb hzx)
 clear hib heb hy2 hfb
 have HP2:=Hj ((HY2.out.block P (by omega)).trans HP1.out)
 have HB2:=Hj ((HY2.out.block B (by omega)).trans HB1.out)
 have HR2:=Hj ((HY2.out.block R (by omega)).trans HR1.out)
 have HS2:=Hj ((HY2.out.block S (by omega)).trans HS1.out)
 clear P_0 P_1 P_2 P_3 P_4 P_5 P_6 A_0 A_1 A_2 A_3 A_4 B_0 B_1 B_2 B_3 B_4
 have f0:=Bf HR2.out 0
 have f1:=Bf HR2.out 1
 have f2:=Bf HR2.out 2
 have f3:=Bf HR2.out 3
 have f4:=Bf HR2.out 4
 have r0:=Bj HR2.out 0 rfl
 have r1:=Bj HR2.out 1 rfl
 have r2:=Bj HR2.out 2 rfl
 have r3:=Bj HR2.out 3 rfl
 have r4:=Bj HR2.out 4 rfl
 go_wp2
 refine Sm (Ss HSb.out) ?_
 try simp only[pick,Gs,Gz]
 go_wp2
 refine Rm ?_
 refine Wq ?_
 try simp only[pick,Gs,Gz]
 go_wp2
 refine Sm (Ty.Shown.last rfl) ?_
 clear f0 f1 f2 f3 f4 r0 r1 r2 r3 r4
 obtain ⟨X1,hN⟩:∃X,X=(((((y2.setCell ⟨R,0,none⟩ (.int .i64 fa.en)).setCell ⟨R,1,none⟩ (.int .i64 fa.st)).setCell ⟨R,2,none⟩ (.int .i64 fa.er)).setCell ⟨R,3,none⟩ (.slice ia1 fa.im.length ia2)).setCell ⟨R,4,none⟩ (.slice ea1 fa.ef.length ea2)):=⟨_,rfl⟩
 rw[←hN]
 obtain ⟨hNb,hNk⟩:=puts_at [(0,.int .i64 fa.en),(1,.int .i64 fa.st),(2,.int .i64 fa.er),(3,.slice ia1 fa.im.length ia2),(4,.slice ea1 fa.ef.length ea2)] HR2.out
 have hNe:puts y2 R [(0,.int .i64 fa.en),(1,.int .i64 fa.st),(2,.int .i64 fa.er),(3,.slice ia1 fa.im.length ia2),(4,.slice ea1 fa.ef.length ea2)]=X1:=hN.symm
 have hNz:=puts_size [(0,.int .i64 fa.en),(1,.int .i64 fa.st),(2,.int .i64 fa.er),(3,.slice ia1 fa.im.length ia2),(4,.slice ea1 fa.ef.length ea2)] y2 R
 rw[hNe] at hNb hNk hNz
 have HK1:=Hj hNk
 have HZ1:=Hj hNz
 have HRX:Hid (X1.heap[R]? =some (.cells #[.int .i64 fa.en,.int .i64 fa.st,.int .i64 fa.er,(.slice ia1 fa.im.length ia2),(.slice ea1 fa.ef.length ea2)] 61 (0,0))):=Hj hNb
 have HSX:=Hj ((hNk.block S (by omega) (by simp;omega)).trans HS2.out)
 clear hN hNb hNk hNe hNz
 have f0:=Bf HSX.out 0
 have f1:=Bf HSX.out 1
 have f2:=Bf HSX.out 2
 have f3:=Bf HSX.out 3
 have f4:=Bf HSX.out 4
 have r0:=Bj HSX.out 0 rfl
 have r1:=Bj HSX.out 1 rfl
 have r2:=Bj HSX.out 2 rfl
 have r3:=Bj HSX.out 3 rfl
 have r4:=Bj HSX.out 4 rfl
 try simp only[pick,Gs,Gz]
 go_wp2
 refine Rm ?_
 refine Wq ?_
 try simp only[pick,Gs,Gz]
 go_wp2
 refine Sm (Ty.Shown.last rfl) ?_
 clear f0 f1 f2 f3 f4 r0 r1 r2 r3 r4
 obtain ⟨X2,hN⟩:∃X,X=(((((X1.setCell ⟨S,0,none⟩ (.int .i64 fb.en)).setCell ⟨S,1,none⟩ (.int .i64 fb.st)).setCell ⟨S,2,none⟩ (.int .i64 fb.er)).setCell ⟨S,3,none⟩ (.slice ib1 fb.im.length ib2)).setCell ⟨S,4,none⟩ (.slice eb1 fb.ef.length eb2)):=⟨_,rfl⟩
 rw[←hN]
 obtain ⟨hNb,hNk⟩:=puts_at [(0,.int .i64 fb.en),(1,.int .i64 fb.st),(2,.int .i64 fb.er),(3,.slice ib1 fb.im.length ib2),(4,.slice eb1 fb.ef.length eb2)] HSX.out
 have hNe:puts X1 S [(0,.int .i64 fb.en),(1,.int .i64 fb.st),(2,.int .i64 fb.er),(3,.slice ib1 fb.im.length ib2),(4,.slice eb1 fb.ef.length eb2)]=X2:=hN.symm
 have hNz:=puts_size [(0,.int .i64 fb.en),(1,.int .i64 fb.st),(2,.int .i64 fb.er),(3,.slice ib1 fb.im.length ib2),(4,.slice eb1 fb.ef.length eb2)] X1 S
 rw[hNe] at hNb hNk hNz
 have HK2:=Hj hNk
 have HZ2:=Hj hNz
 have HSX2:Hid (X2.heap[S]? =some (.cells #[.int .i64 fb.en,.int .i64 fb.st,.int .i64 fb.er,(.slice ib1 fb.im.length ib2),(.slice eb1 fb.ef.length eb2)] 61 (0,0))):=Hj hNb
 have hz1:=HZ1.out
 have HRX2:=Hj ((hNk.block R (by omega) (by simp;omega)).trans HRX.out)
 clear hN hNb hNk hNe hNz
 try simp only[pick,Gs,Gz]
 go_wp2
 refine Rm ?_
 refine Wd (by rfl) ⟨.head _,.tail _ (.head _),trivial⟩ ?_
 go_wp2
 refine bodyPost_ret (results_cc rfl _ _ _ _ _ _ _ _ _ rfl HRX2.out rfl HSX2.out Tryz.underlying61 rfl (by kernel_rfl) (by kernel_rfl)) rfl ?_
 have hwx:w.heap.size≤w1.heap.size:=HL1.out.size
 have hz2:=HZ2.out
 have hxy:w1.heap.size≤y2.heap.size:=HY2.out.size
 have fin:∀{v:Value} {n:Nat} {c:List Value},y2.ownsRow w1.heap.size 5 1 v n c→X2.ownsRow w.heap.size 5 1 v n c:=fun ho=>own_base (own_keep (own_keep ho HK1.out (Ow ho (by omega))) HK2.out (Ow ho (by omega))) hwx
 have hL2:=HL1.out.trans (HY2.out.mono hwx)
 have hL3:=hL2.trans (HK1.out.below hL2.size (G1 (by omega)))
 exact ⟨_,_,_,_,_,_,HFA.out,HFB.out,rfl,fin HIO2.out,fin HEO2.out,fin HJO2.out,fin HFO2.out,hL3.trans (HK2.out.below hL3.size (G1 (by omega)))⟩
end Go.Proofs.YtipiofgdjbogiaaGreat
