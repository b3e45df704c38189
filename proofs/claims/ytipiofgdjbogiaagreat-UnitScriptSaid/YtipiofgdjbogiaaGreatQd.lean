/- unit: See, Inputs -/
import Derived.Test.YtipiofgdjbogiaaGreatHd
import Derived.Test.YtipiofgdjbogiaaGreatQb
import Derived.Test.YtipiofgdjbogiaaGreatQc
set_option maxRecDepth 100000
set_option maxHeartbeats 8000000
namespace Go.Wi
theorem encM_len {ms md mk mq m0 m1 m2 m3:Int} {d:List UInt8} (hf:∀x∈[ms,md,mk,mq,m0,m1,m2,m3],fits x) (hd:d.length≤1000:=by omega):(encM ms md mk mq m0 m1 m2 m3 d).length≤1100:=by
 have h1:=enc_flat (l:=[ms,md,mk,mq]) (fun x hx=>hf x (by simp at hx⊢;omega))
 have h2:=enc_flat (l:=[m0,m1,m2,m3]) (fun x hx=>hf x (by simp at hx⊢;omega))
 have h3:=encI_len (n:=(d.length:Int)) (by unfold fits;omega)
 unfold encM encB
 rw[List.length_append,List.length_append,List.length_append]
 simp only[List.length_cons,List.length_nil] at h1 h2
 omega
end Go.Wi
namespace Go.Im
open Go Go.Txt Go.RowKit Go.Bs Go.Cl Go.Rw Go.Un Go.Fa
theorem own_keepT {w w':World} {base e k n A:Nat} {t:TypeId} {v:Value} {xs:List Value} {cs:Array Value} (h:w.ownsRow base e k v n xs) (hA:w.heap[A]? =some (.cells cs t (0,0))) (ht:e≠t) (hk:Keep [A] w w'):w'.ownsRow base e k v n xs:=own_keep h hk (fun r hr hm=>by
 rw[List.mem_singleton] at hm
 subst hm
 obtain ⟨cur,hc⟩:=own_type h hr
 rw[hc] at hA
 cases hA
 exact ht rfl)
def qof (x:Us) (p:FP):FP:=if p.hits x.task x.num x.att then p else FP.none
end Go.Im
namespace Go.Proofs.YtipiofgdjbogiaaGreat
open Go.Txt Go.RowKit Go.Bs Go.Cl Go.Rw Go.Un Go.Im Go.Fa Go.Wi
def _root_.Go.Im.OW (b:Nat) (w:World) (v:Value) (l:List UInt8):Prop:=w.ownsRow b 5 1 v l.length (bytesV l)
theorem usee_any {base u g h:Nat} {iv rv lv:Value} {x:Us} {s:Ps} {w:World} (H:UAt w base u g h iv rv lv x s) (ms md mk mq m0 m1 m2 m3:Int) (mv:Value) (hll:x.led.length≤1000) (hq1: -9223372036854775808≤mq) (hq2:mq≤9223372036854775807):
  Calls Tryz.prog 9 #[.pointer (some ⟨u,0,none⟩),.agg #[.int .i64 ms,.int .i64 md,.int .i64 mk,.int .i64 mq,.int .i64 m0,.int .i64 m1,.int .i64 m2,.int .i64 m3,mv]] w fun e w'=>e= .returned (.tuple #[.int .i64 (Lg.seeL x.led ms mq).2.1,.int .i64 (Lg.seeL x.led ms mq).2.2])∧Below w.heap.size w w':=by
 obtain ⟨M,hM⟩:∃M,M=w.heap.size:=⟨_,rfl⟩
 obtain ⟨W,hW⟩:∃W,W=w.alloc (.cells #[.int .i64 ms,.int .i64 md,.int .i64 mk,.int .i64 mq,.int .i64 m0,.int .i64 m1,.int .i64 m2,.int .i64 m3,mv] 44):=⟨_,rfl⟩
 have HW:=Hj hW
 have hb:Below w.heap.size w W:=by rw[hW];exact (Br _ w).alloc (Nr _) _
 have HBW:=Hj hb
 have HU:=Hj (H.below hb)
 have HM:Hid (W.heap[M]? =some (.cells #[.int .i64 ms,.int .i64 md,.int .i64 mk,.int .i64 mq,.int .i64 m0,.int .i64 m1,.int .i64 m2,.int .i64 m3,mv] 44 (0,0))):=Hj (by rw[hW,hM];exact heap_alloc_new w _)
 have HSL:Hid (Lg.SlL W lv x.led):=Hj (Raw.fresh HU.out.hl (fun f hf=>by cases hf))
 obtain ⟨la,lc,rfl⟩:=Rs HSL.out
 clear hW hb H
 go_enter Tryz.func9,Tryz.ntmps9
 go_upto_region 1 with (fail)
 rw[←HW.out,←hM]
 clear hM HW
 have u2:W.cell? ⟨u,2,none⟩=some (.slice la x.led.length lc):=Bo HU.out.hu rfl
 have m_0:=Bj HM.out 0 rfl
 have m_3:=Bj HM.out 3 rfl
 go_upto_region 3 with (fail)
 refine wp_txt (by kernel_rfl) (by kernel_rfl) ?_
 go_wp2_with fail
 refine (Ldg.see_low _ x.led ms mq _ hll (Raw.drew HSL.out) hq1 hq2).mono ?_
 rintro e w1 ⟨v1,rfl,_,hb1⟩
 have HB1:=Hj (HBW.out.drew.trans (hb1.mono HBW.out.size))
 clear hb1
 go_wp2
 refine DrawPost.mk0 (by rfl) ?_
 go_wp2
 refine bodyPost_ret (results_tmp2 rfl _ _ _) rfl ?_
 exact ⟨rfl,HB1.out⟩
theorem uinputs_any {base u g h:Nat} {iv rv lv:Value} {x:Us} {s:Ps} {w:World} (H:UAt w base u g h iv rv lv x s) (p:FP) (ms md mk mq m0 m1 m2 m3:Int) (mv:Value) (d:List UInt8) (hf:∀x∈[ms,md,mk,mq,m0,m1,m2,m3],fits x) (hd:d.length≤1000) (hD:Bytes [] w mv d) (him:s.image.length≤24000):
  Calls Tryz.prog 11 #[.pointer (some ⟨u,0,none⟩),.agg p.cs,.agg #[.int .i64 ms,.int .i64 md,.int .i64 mk,.int .i64 mq,.int .i64 m0,.int .i64 m1,.int .i64 m2,.int .i64 m3,mv]] w fun e w'=>∃i0 i1 t0 t1,e= .returned (.tuple #[.agg #[i0,i1],.agg #[t0,t1]])∧
   OW w.heap.size w' i0 (finp (qof x p) 0 s.image (encM ms md mk mq m0 m1 m2 m3 d)).1∧OW w.heap.size w' i1 (finp (qof x p) 1 s.image (encM ms md mk mq m0 m1 m2 m3 d)).1∧OW w.heap.size w' t0 (finp (qof x p) 0 s.image (encM ms md mk mq m0 m1 m2 m3 d)).2∧OW w.heap.size w' t1 (finp (qof x p) 1 s.image (encM ms md mk mq m0 m1 m2 m3 d)).2∧Below w.heap.size w w':=by
 obtain ⟨da,dc,rfl⟩:=Rs hD
 have HD:=Hj hD
 have HU:=Hj H
 have HF:=Hj hf
 clear hD H hf
 obtain ⟨P,hP⟩:∃P,P=w.heap.size:=⟨_,rfl⟩
 obtain ⟨M,hM⟩:∃M,M=w.heap.size+1:=⟨_,rfl⟩
 obtain ⟨A,hA⟩:∃A,A=w.heap.size+1+1:=⟨_,rfl⟩
 obtain ⟨B,hB⟩:∃B,B=w.heap.size+1+1+1:=⟨_,rfl⟩
 simp only[FP.cs]
 obtain ⟨W1,hW1⟩:∃W,W=w.alloc (.cells #[.int .i64 p.c,.int .i64 p.n,.int .i64 p.e,.int .i64 p.k,.int .i64 p.s,.int .i64 p.pl,.int .i64 p.m] 56):=⟨_,rfl⟩
 obtain ⟨W2,hW2⟩:∃W,W=W1.alloc (.cells #[.int .i64 ms,.int .i64 md,.int .i64 mk,.int .i64 mq,.int .i64 m0,.int .i64 m1,.int .i64 m2,.int .i64 m3,.slice da d.length dc] 44):=⟨_,rfl⟩
 obtain ⟨W3,hW3⟩:∃W,W=W2.alloc (.cells #[.slice none 0 0,.slice none 0 0] 53):=⟨_,rfl⟩
 obtain ⟨W,hW⟩:∃W,W=W3.alloc (.cells #[.slice none 0 0,.slice none 0 0] 53):=⟨_,rfl⟩
 have z1:W1.heap.size=w.heap.size+1:=by rw[hW1];simp
 have z2:W2.heap.size=w.heap.size+1+1:=by rw[hW2];simp[z1]
 have z3:W3.heap.size=w.heap.size+1+1+1:=by rw[hW3];simp[z2]
 have z4:W.heap.size=w.heap.size+1+1+1+1:=by rw[hW];simp[z3]
 have b4:Below W3.heap.size W3 W:=by rw[hW];exact (Br _ _).alloc (Nr _) _
 have b3:Below W2.heap.size W2 W:=(show Below W2.heap.size W2 W3 by rw[hW3];exact (Br _ _).alloc (Nr _) _).trans (b4.mono (by omega))
 have b2:Below W1.heap.size W1 W:=(show Below W1.heap.size W1 W2 by rw[hW2];exact (Br _ _).alloc (Nr _) _).trans (b3.mono (by omega))
 have b1:Below w.heap.size w W:=(show Below w.heap.size w W1 by rw[hW1];exact (Br _ _).alloc (Nr _) _).trans (b2.mono (by omega))
 have HPW:Hid (W.heap[P]? =some (.cells #[.int .i64 p.c,.int .i64 p.n,.int .i64 p.e,.int .i64 p.k,.int .i64 p.s,.int .i64 p.pl,.int .i64 p.m] 56 (0,0))):=Hj (by rw[hP];exact (b2.block _ (by omega)).trans (by rw[hW1];exact heap_alloc_new w _))
 have HMW:Hid (W.heap[M]? =some (.cells #[.int .i64 ms,.int .i64 md,.int .i64 mk,.int .i64 mq,.int .i64 m0,.int .i64 m1,.int .i64 m2,.int .i64 m3,.slice da d.length dc] 44 (0,0))):=Hj (by rw[hM];exact (b3.block _ (by omega)).trans (by rw[hW2,←z1];exact heap_alloc_new W1 _))
 have HAW:Hid (W.heap[A]? =some (.cells #[.slice none 0 0,.slice none 0 0] 53 (0,0))):=Hj (by rw[hA];exact (b4.block _ (by omega)).trans (by rw[hW3,←z2];exact heap_alloc_new W2 _))
 have HBW:Hid (W.heap[B]? =some (.cells #[.slice none 0 0,.slice none 0 0] 53 (0,0))):=Hj (by rw[hB,hW,←z3];exact heap_alloc_new W3 _)
 have hlt:w.heap.size≤P∧P<M∧M<A∧A<B∧B<W.heap.size:=by omega
 have BEL:=Hj b1
 have HWW:Hid (W=(((w.alloc (.cells #[.int .i64 p.c,.int .i64 p.n,.int .i64 p.e,.int .i64 p.k,.int .i64 p.s,.int .i64 p.pl,.int .i64 p.m] 56)).alloc (.cells #[.int .i64 ms,.int .i64 md,.int .i64 mk,.int .i64 mq,.int .i64 m0,.int .i64 m1,.int .i64 m2,.int .i64 m3,.slice da d.length dc] 44)).alloc (.cells #[.slice none 0 0,.slice none 0 0] 53)).alloc (.cells #[.slice none 0 0,.slice none 0 0] 53)):=Hj (by rw[hW,hW3,hW2,hW1])
 have H1:=Hj hP;have H2:=Hj hM;have H3:=Hj hA;have H4:=Hj hB
 clear hW hW1 hW2 hW3 z1 z2 z3 z4 b1 b2 b3 b4 hP hM hA hB
 go_enter Tryz.func11,Tryz.ntmps11
 go_upto_region 1 with (fail)
 rw[←HWW.out,←H4.out,←H3.out,←H2.out,←H1.out]
 clear HWW H1 H2 H3 H4
 have p_0:=Bj HPW.out 0 rfl
 have p_1:=Bj HPW.out 1 rfl
 have p_2:=Bj HPW.out 2 rfl
 have p_3:=Bj HPW.out 3 rfl
 have p_4:=Bj HPW.out 4 rfl
 have p_5:=Bj HPW.out 5 rfl
 have p_6:=Bj HPW.out 6 rfl
 go_wp2_with fail
 refine (uhits_any (HU.out.below BEL.out) p).mono ?_
 rintro e w2 ⟨rfl,hb2⟩
 have BEL2:=Hj (BEL.out.trans (hb2.mono BEL.out.size))
 have HP2:=Hj ((hb2.block P (by omega)).trans HPW.out)
 have HM2:=Hj ((hb2.block M (by omega)).trans HMW.out)
 have HA2:=Hj ((hb2.block A (by omega)).trans HAW.out)
 have HB2:=Hj ((hb2.block B (by omega)).trans HBW.out)
 have hlt2:w.heap.size≤P∧P<M∧M<A∧A<B∧B<w2.heap.size:=by have:=hb2.size;omega
 clear hb2 p_0 p_1 p_2 p_3 p_4 p_5 p_6 BEL HPW HMW HAW HBW hlt
 cases hh:p.hits x.task x.num x.att with
 | true=>
  obtain ⟨q,hq⟩:∃q,q=p:=⟨_,rfl⟩
  have HQ:Hid (qof x p=q):=Hj (by unfold qof;rw[hh,hq];rfl)
  rw[←hq] at HP2
  have HP:=HP2;have HMM:=HM2;have HA:=HA2;have HB:=HB2;have BEL:=BEL2
  clear hh hq HP2 HM2 HA2 HB2 BEL2
  obtain ⟨en,hen⟩:∃l,encM ms md mk mq m0 m1 m2 m3 d=l:=⟨_,rfl⟩
  have HEN:=Hj hen
  have hel:en.length≤24000:=by rw[←hen];exact Nat.le_trans (encM_len HF.out) (by omega)
  clear hen
  go_wp2
  go_loopw [18] (fun i wr=>∃k:Nat,k≤2∧i= .int .i64 k∧∃i0 i1 t0 t1,wr.heap[P]? =some (.cells #[.int .i64 q.c,.int .i64 q.n,.int .i64 q.e,.int .i64 q.k,.int .i64 q.s,.int .i64 q.pl,.int .i64 q.m] 56 (0,0))∧wr.heap[M]? =some (.cells #[.int .i64 ms,.int .i64 md,.int .i64 mk,.int .i64 mq,.int .i64 m0,.int .i64 m1,.int .i64 m2,.int .i64 m3,.slice da d.length dc] 44 (0,0))∧wr.heap[A]? =some (.cells #[i0,i1] 53 (0,0))∧wr.heap[B]? =some (.cells #[t0,t1] 53 (0,0))∧
   Below w.heap.size w wr∧(0<k→OW w.heap.size wr i0 (finp q 0 s.image en).1∧OW w.heap.size wr t0 (finp q 0 s.image en).2)∧(1<k→OW w.heap.size wr i1 (finp q 1 s.image en).1∧OW w.heap.size wr t1 (finp q 1 s.image en).2)) (fun i _=>2 - (intOf i).toNat)
  case atStart=>exact ⟨0,by omega,rfl,_,_,_,_,HP.out,HMM.out,HA.out,HB.out,BEL.out,fun h=>absurd h (Nat.lt_irrefl _),fun h=>absurd h (by omega)⟩
  case round=>
   obtain ⟨k,hk,rfl,i0,i1,t0,t1,hP,hM,hA,hB,hb,h0,h1⟩:=hrel
   clear HP HMM HA HB BEL
   have HP:=Hj hP;have HMM:=Hj hM;have HA:=Hj hA;have HB:=Hj hB;have BEL:=Hj hb;have R0:=Hj h0;have R1:=Hj h1
   clear hP hM hA hB hb h0 h1
   have hMl:=(Al HMM.out)
   have hAl:=(Al HA.out)
   have hBl':=(Al HB.out)
   have hPl:=(Al HP.out)
   by_cases hk0:k=0
   ·subst hk0
    go_upto_region 8 with (fail)
    have hBl:=show∀q∈[P,M],∃cc e f,wr.heap[q]? =some (.cells cc e f) from fun q hq=>by
     rcases List.mem_cons.1 hq with rfl | hq
     ·exact ⟨_,_,_,HP.out⟩
     rw[M1' hq];exact ⟨_,_,_,HMM.out⟩
    refine Ty.wp_tree [P,M] [2,9] [16,18] [2,7,9] [0,1,2,3,4,5,6,7,9] (.alt [8] (.alt [10] (.alt [11,12,13,14,15] (.alt [16,17] (.alt [18] (.done) (.no)) (.no)) (.no)) (.no)) (.no)) (by kernel_rfl) (by kernel_rfl) (by kernel_rfl) (by kernel_rfl) hBl ?_
    obtain ⟨y0,hy0⟩:∃y,y=wr.drew:=⟨_,rfl⟩
    have HS0:Hid (SameB [P,M] y0 y0):=Hj (by rw[hy0];exact same_start hBl)
    have hd0:Below wr.heap.size wr y0:=by rw[hy0];exact (Br _ _).drew
    have HP0:=Hj ((hd0.block P hPl).trans HP.out)
    have HM0:=Hj ((hd0.block M hMl).trans HMM.out)
    have BEL0:=Hj (BEL.out.trans (hd0.mono BEL.out.size))
    have HY0:=Hj hd0
    rw[←hy0]
    clear hBl hy0 hd0
    have u1:y0.cell? ⟨u,1,none⟩=some (.pointer (some ⟨g,0,none⟩)):=Bo (HU.out.below BEL0.out).hu rfl
    have p_0:=Bj HP0.out 0 rfl
    have p_1:=Bj HP0.out 1 rfl
    have p_2:=Bj HP0.out 2 rfl
    have p_3:=Bj HP0.out 3 rfl
    have p_4:=Bj HP0.out 4 rfl
    have p_5:=Bj HP0.out 5 rfl
    have p_6:=Bj HP0.out 6 rfl
    have m_0:=Bj HM0.out 0 rfl
    have m_1:=Bj HM0.out 1 rfl
    have m_2:=Bj HM0.out 2 rfl
    have m_3:=Bj HM0.out 3 rfl
    have m_4:=Bj HM0.out 4 rfl
    have m_5:=Bj HM0.out 5 rfl
    have m_6:=Bj HM0.out 6 rfl
    have m_7:=Bj HM0.out 7 rfl
    have m_8:=Bj HM0.out 8 rfl
    try simp only[pick,Gs,Gz]
    go_wp2
    refine Rm ?_
    refine Wq ?_
    try simp only[pick,Gs,Gz]
    go_wp2_with fail
    refine (img_any _ (HU.out.below BEL0.out).hs).mono ?_
    rintro e y1 ⟨v1,rfl,hr1,hb1⟩
    have HR1:Hid (Bytes [] y1 v1 s.image):=Hj (Bytes.row hr1 rfl (fun f hf=>by cases hf))
    have BEL1:=Hj (BEL0.out.trans (hb1.mono BEL0.out.size))
    have HY1:=Hj (HY0.out.trans (hb1.mono HY0.out.size))
    have HS1:=Hj (same_below' HS0.out hb1)
    obtain ⟨a1,c1,rfl⟩:=Rs HR1.out
    clear hr1 hb1 p_0 p_1 p_2 p_3 p_4 p_5 p_6 m_0 m_1 m_2 m_3 m_4 m_5 m_6 m_7 m_8 u1
    go_wp2
    refine Sm (Ss HS1.out) ?_
    try simp only[pick,Gs,Gz]
    go_wp2
    refine Rm ?_
    refine Wq ?_
    try simp only[pick,Gs,Gz]
    go_wp2_with fail
    refine (wmsg_any ms md mk mq m0 m1 m2 m3 _ d _ HF.out (by omega) (Rb HD.out BEL1.out)).mono ?_
    rw[HEN.out]
    rintro e y2 ⟨v2,rfl,hr2,hb2⟩
    have HR2:Hid (Bytes [] y2 v2 en):=Hj (BRow.bytes hr2 (fun f hf=>by cases hf))
    have HR12:=Hj (Rb HR1.out hb2)
    have BEL2:=Hj (BEL1.out.trans (hb2.mono BEL1.out.size))
    have HY2:=Hj (HY1.out.trans (hb2.mono HY1.out.size))
    have HS2:=Hj (same_below' HS1.out hb2)
    obtain ⟨a2,c2,rfl⟩:=Rs HR2.out
    clear hr2 hb2 HR1
    go_wp2
    refine Sm (Ss HS2.out) ?_
    try simp only[pick,Gs,Gz]
    go_wp2
    refine Rm ?_
    refine Wq ?_
    try simp only[pick,Gs,Gz]
    go_wp2_with fail
    refine (finput_any [] q 0 s.image en _ _ _ him hel HR12.out HR2.out).mono ?_
    rintro e y3 ⟨v3,v4,rfl,hr3,hr4,hb3⟩
    have HR3:Hid (OW w.heap.size y3 v3 (finp q 0 s.image en).1):=Hj (own_base hr3 BEL2.out.size)
    have HR4:Hid (OW w.heap.size y3 v4 (finp q 0 s.image en).2):=Hj (own_base hr4 BEL2.out.size)
    have BEL3:=Hj (BEL2.out.trans (hb3.mono BEL2.out.size))
    have HY3:=Hj (HY2.out.trans (hb3.mono HY2.out.size))
    have HS3:=Hj (same_below' HS2.out hb3)
    clear hr3 hr4 hb3 HR12 HR2
    have HA3:=Hj ((HY3.out.block A hAl).trans HA.out)
    have HB3:=Hj ((HY3.out.block B hBl').trans HB.out)
    have HP3:=Hj ((HY3.out.block P hPl).trans HP.out)
    have HM3:=Hj ((HY3.out.block M hMl).trans HMM.out)
    have ca:=Bj HA3.out 0 rfl
    have fa:=Bf HA3.out 0
    obtain ⟨a3,c3,rfl⟩:=Oq (show y3.ownsRow w.heap.size 5 1 v3 _ _ from HR3.out)
    obtain ⟨a4,c4,rfl⟩:=Oq (show y3.ownsRow w.heap.size 5 1 v4 _ _ from HR4.out)
    obtain ⟨n3,hn3⟩:∃n,(finp q 0 s.image en).1.length=n:=⟨_,rfl⟩
    obtain ⟨n4,hn4⟩:∃n,(finp q 0 s.image en).2.length=n:=⟨_,rfl⟩
    rw[hn3] at HR3⊢
    rw[hn4] at HR4⊢
    clear hn3 hn4
    go_wp2
    refine Sm (Ss HS3.out) ?_
    try simp only[pick,Gs,Gz]
    go_wp2
    refine Rm ?_
    refine Wq ?_
    try simp only[pick,Gs,Gz]
    go_wp2
    obtain ⟨y4,hy4⟩:∃Y,Y=y3.setCell ⟨A,0,none⟩ (.slice a3 n3 c3):=⟨_,rfl⟩
    have K4:Keep [A] y3 y4:=by rw[hy4];exact (Keep.refl [A] y3).setCell (.inl (by simp)) _
    have HA4:Hid (y4.heap[A]? =some (.cells #[.slice a3 n3 c3,i1] 53 (0,0))):=Hj (by rw[hy4];exact heap_setCell_same _ _ 0 _ 53 _ HA3.out)
    have HB4:=Hj ((K4.block B (Al HB3.out) (by intro h;rw[List.mem_singleton] at h;omega)).trans HB3.out)
    have HP4:=Hj ((K4.block P (Al HP3.out) (by intro h;rw[List.mem_singleton] at h;omega)).trans HP3.out)
    have HM4:=Hj ((K4.block M (Al HM3.out) (by intro h;rw[List.mem_singleton] at h;omega)).trans HM3.out)
    have HR34:=Hj (own_keepT HR3.out HA3.out (by omega) K4)
    have HR44:=Hj (own_keepT HR4.out HA3.out (by omega) K4)
    have BEL4:=Hj (BEL3.out.trans (K4.below BEL3.out.size (G1 (by omega))))
    rw[←hy4]
    clear hy4 K4 ca fa
    have cb:=Bj HB4.out 0 rfl
    have fb:=Bf HB4.out 0
    refine Sm (Ty.Shown.last rfl) ?_
    try simp only[pick,Gs,Gz]
    go_wp2
    refine Rm ?_
    refine Wq ?_
    try simp only[pick,Gs,Gz]
    go_wp2
    obtain ⟨y5,hy5⟩:∃Y,Y=y4.setCell ⟨B,0,none⟩ (.slice a4 n4 c4):=⟨_,rfl⟩
    have K5:Keep [B] y4 y5:=by rw[hy5];exact (Keep.refl [B] y4).setCell (.inl (by simp)) _
    have HB5:Hid (y5.heap[B]? =some (.cells #[.slice a4 n4 c4,t1] 53 (0,0))):=Hj (by rw[hy5];exact heap_setCell_same _ _ 0 _ 53 _ HB4.out)
    have HA5:=Hj ((K5.block A (Al HA4.out) (by intro h;rw[List.mem_singleton] at h;omega)).trans HA4.out)
    have HP5:=Hj ((K5.block P (Al HP4.out) (by intro h;rw[List.mem_singleton] at h;omega)).trans HP4.out)
    have HM5:=Hj ((K5.block M (Al HM4.out) (by intro h;rw[List.mem_singleton] at h;omega)).trans HM4.out)
    have HR35:=Hj (own_keepT HR34.out HB4.out (by omega) K5)
    have HR45:=Hj (own_keepT HR44.out HB4.out (by omega) K5)
    have BEL5:=Hj (BEL4.out.trans (K5.below BEL4.out.size (G1 (by omega))))
    rw[←hy5]
    clear hy5 K5 cb fb
    refine Sm (Ty.Shown.last rfl) ?_
    try simp only[pick,Gs,Gz]
    go_wp2
    refine Rm ?_
    refine Wd (by rfl) ⟨.head _,.tail _ (.head _),trivial⟩ ?_
    go_wp2
    go_roundw
    case rel=>exact ⟨1,by omega,by go_num,.slice a3 n3 c3,i1,.slice a4 n4 c4,t1,HP5.out,HM5.out,HA5.out,HB5.out,BEL5.out,fun _=>⟨HR35.out,HR45.out⟩,fun h=>absurd h (by omega)⟩
    case measure=>simp[intOf]
   by_cases hk1:k=1
   ·subst hk1
    go_upto_region 8 with (fail)
    have hBl:=show∀q∈[P,M],∃cc e f,wr.heap[q]? =some (.cells cc e f) from fun q hq=>by
     rcases List.mem_cons.1 hq with rfl | hq
     ·exact ⟨_,_,_,HP.out⟩
     rw[M1' hq];exact ⟨_,_,_,HMM.out⟩
    refine Ty.wp_tree [P,M] [2,9] [16,18] [2,7,9] [0,1,2,3,4,5,6,7,9] (.alt [8] (.alt [10] (.alt [11,12,13,14,15] (.alt [16,17] (.alt [18] (.done) (.no)) (.no)) (.no)) (.no)) (.no)) (by kernel_rfl) (by kernel_rfl) (by kernel_rfl) (by kernel_rfl) hBl ?_
    obtain ⟨y0,hy0⟩:∃y,y=wr.drew:=⟨_,rfl⟩
    have HS0:Hid (SameB [P,M] y0 y0):=Hj (by rw[hy0];exact same_start hBl)
    have hd0:Below wr.heap.size wr y0:=by rw[hy0];exact (Br _ _).drew
    have HP0:=Hj ((hd0.block P hPl).trans HP.out)
    have HM0:=Hj ((hd0.block M hMl).trans HMM.out)
    have BEL0:=Hj (BEL.out.trans (hd0.mono BEL.out.size))
    have HY0:=Hj hd0
    rw[←hy0]
    clear hBl hy0 hd0
    have u1:y0.cell? ⟨u,1,none⟩=some (.pointer (some ⟨g,0,none⟩)):=Bo (HU.out.below BEL0.out).hu rfl
    have p_0:=Bj HP0.out 0 rfl
    have p_1:=Bj HP0.out 1 rfl
    have p_2:=Bj HP0.out 2 rfl
    have p_3:=Bj HP0.out 3 rfl
    have p_4:=Bj HP0.out 4 rfl
    have p_5:=Bj HP0.out 5 rfl
    have p_6:=Bj HP0.out 6 rfl
    have m_0:=Bj HM0.out 0 rfl
    have m_1:=Bj HM0.out 1 rfl
    have m_2:=Bj HM0.out 2 rfl
    have m_3:=Bj HM0.out 3 rfl
    have m_4:=Bj HM0.out 4 rfl
    have m_5:=Bj HM0.out 5 rfl
    have m_6:=Bj HM0.out 6 rfl
    have m_7:=Bj HM0.out 7 rfl
    have m_8:=Bj HM0.out 8 rfl
    try simp only[pick,Gs,Gz]
    go_wp2
    refine Rm ?_
    refine Wq ?_
    try simp only[pick,Gs,Gz]
    go_wp2_with fail
    refine (img_any _ (HU.out.below BEL0.out).hs).mono ?_
    rintro e y1 ⟨v1,rfl,hr1,hb1⟩
    have HR1:Hid (Bytes [] y1 v1 s.image):=Hj (Bytes.row hr1 rfl (fun f hf=>by cases hf))
    have BEL1:=Hj (BEL0.out.trans (hb1.mono BEL0.out.size))
    have HY1:=Hj (HY0.out.trans (hb1.mono HY0.out.size))
    have HS1:=Hj (same_below' HS0.out hb1)
    obtain ⟨a1,c1,rfl⟩:=Rs HR1.out
    clear hr1 hb1 p_0 p_1 p_2 p_3 p_4 p_5 p_6 m_0 m_1 m_2 m_3 m_4 m_5 m_6 m_7 m_8 u1
    go_wp2
    refine Sm (Ss HS1.out) ?_
    try simp only[pick,Gs,Gz]
    go_wp2
    refine Rm ?_
    refine Wq ?_
    try simp only[pick,Gs,Gz]
    go_wp2_with fail
    refine (wmsg_any ms md mk mq m0 m1 m2 m3 _ d _ HF.out (by omega) (Rb HD.out BEL1.out)).mono ?_
    rw[HEN.out]
    rintro e y2 ⟨v2,rfl,hr2,hb2⟩
    have HR2:Hid (Bytes [] y2 v2 en):=Hj (BRow.bytes hr2 (fun f hf=>by cases hf))
    have HR12:=Hj (Rb HR1.out hb2)
    have BEL2:=Hj (BEL1.out.trans (hb2.mono BEL1.out.size))
    have HY2:=Hj (HY1.out.trans (hb2.mono HY1.out.size))
    have HS2:=Hj (same_below' HS1.out hb2)
    obtain ⟨a2,c2,rfl⟩:=Rs HR2.out
    clear hr2 hb2 HR1
    go_wp2
    refine Sm (Ss HS2.out) ?_
    try simp only[pick,Gs,Gz]
    go_wp2
    refine Rm ?_
    refine Wq ?_
    try simp only[pick,Gs,Gz]
    go_wp2_with fail
    refine (finput_any [] q 1 s.image en _ _ _ him hel HR12.out HR2.out).mono ?_
    rintro e y3 ⟨v3,v4,rfl,hr3,hr4,hb3⟩
    have HR3:Hid (OW w.heap.size y3 v3 (finp q 1 s.image en).1):=Hj (own_base hr3 BEL2.out.size)
    have HR4:Hid (OW w.heap.size y3 v4 (finp q 1 s.image en).2):=Hj (own_base hr4 BEL2.out.size)
    have BEL3:=Hj (BEL2.out.trans (hb3.mono BEL2.out.size))
    have HY3:=Hj (HY2.out.trans (hb3.mono HY2.out.size))
    have HS3:=Hj (same_below' HS2.out hb3)
    clear hr3 hr4 hb3 HR12 HR2
    have HA3:=Hj ((HY3.out.block A hAl).trans HA.out)
    have HB3:=Hj ((HY3.out.block B hBl').trans HB.out)
    have HP3:=Hj ((HY3.out.block P hPl).trans HP.out)
    have HM3:=Hj ((HY3.out.block M hMl).trans HMM.out)
    have ca:=Bj HA3.out 1 rfl
    have fa:=Bf HA3.out 1
    obtain ⟨a3,c3,rfl⟩:=Oq (show y3.ownsRow w.heap.size 5 1 v3 _ _ from HR3.out)
    obtain ⟨a4,c4,rfl⟩:=Oq (show y3.ownsRow w.heap.size 5 1 v4 _ _ from HR4.out)
    obtain ⟨n3,hn3⟩:∃n,(finp q 1 s.image en).1.length=n:=⟨_,rfl⟩
    obtain ⟨n4,hn4⟩:∃n,(finp q 1 s.image en).2.length=n:=⟨_,rfl⟩
    rw[hn3] at HR3⊢
    rw[hn4] at HR4⊢
    clear hn3 hn4
    go_wp2
    refine Sm (Ss HS3.out) ?_
    try simp only[pick,Gs,Gz]
    go_wp2
    refine Rm ?_
    refine Wq ?_
    try simp only[pick,Gs,Gz]
    go_wp2
    obtain ⟨y4,hy4⟩:∃Y,Y=y3.setCell ⟨A,1,none⟩ (.slice a3 n3 c3):=⟨_,rfl⟩
    have K4:Keep [A] y3 y4:=by rw[hy4];exact (Keep.refl [A] y3).setCell (.inl (by simp)) _
    have HA4:Hid (y4.heap[A]? =some (.cells #[i0,.slice a3 n3 c3] 53 (0,0))):=Hj (by rw[hy4];exact heap_setCell_same _ _ 1 _ 53 _ HA3.out)
    have HB4:=Hj ((K4.block B (Al HB3.out) (by intro h;rw[List.mem_singleton] at h;omega)).trans HB3.out)
    have HP4:=Hj ((K4.block P (Al HP3.out) (by intro h;rw[List.mem_singleton] at h;omega)).trans HP3.out)
    have HM4:=Hj ((K4.block M (Al HM3.out) (by intro h;rw[List.mem_singleton] at h;omega)).trans HM3.out)
    have HR34:=Hj (own_keepT HR3.out HA3.out (by omega) K4)
    have HR44:=Hj (own_keepT HR4.out HA3.out (by omega) K4)
    have BEL4:=Hj (BEL3.out.trans (K4.below BEL3.out.size (G1 (by omega))))
    have HO1:=Hj (own_keepT (own_below (R0.out (by omega)).1 HY3.out (Nr _)) HA3.out (by omega) K4)
    have HO2:=Hj (own_keepT (own_below (R0.out (by omega)).2 HY3.out (Nr _)) HA3.out (by omega) K4)
    rw[←hy4]
    clear hy4 K4 ca fa
    have cb:=Bj HB4.out 1 rfl
    have fb:=Bf HB4.out 1
    refine Sm (Ty.Shown.last rfl) ?_
    try simp only[pick,Gs,Gz]
    go_wp2
    refine Rm ?_
    refine Wq ?_
    try simp only[pick,Gs,Gz]
    go_wp2
    obtain ⟨y5,hy5⟩:∃Y,Y=y4.setCell ⟨B,1,none⟩ (.slice a4 n4 c4):=⟨_,rfl⟩
    have K5:Keep [B] y4 y5:=by rw[hy5];exact (Keep.refl [B] y4).setCell (.inl (by simp)) _
    have HB5:Hid (y5.heap[B]? =some (.cells #[t0,.slice a4 n4 c4] 53 (0,0))):=Hj (by rw[hy5];exact heap_setCell_same _ _ 1 _ 53 _ HB4.out)
    have HA5:=Hj ((K5.block A (Al HA4.out) (by intro h;rw[List.mem_singleton] at h;omega)).trans HA4.out)
    have HP5:=Hj ((K5.block P (Al HP4.out) (by intro h;rw[List.mem_singleton] at h;omega)).trans HP4.out)
    have HM5:=Hj ((K5.block M (Al HM4.out) (by intro h;rw[List.mem_singleton] at h;omega)).trans HM4.out)
    have HR35:=Hj (own_keepT HR34.out HB4.out (by omega) K5)
    have HR45:=Hj (own_keepT HR44.out HB4.out (by omega) K5)
    have BEL5:=Hj (BEL4.out.trans (K5.below BEL4.out.size (G1 (by omega))))
    have HO15:=Hj (own_keepT HO1.out HB4.out (by omega) K5)
    have HO25:=Hj (own_keepT HO2.out HB4.out (by omega) K5)
    rw[←hy5]
    clear hy5 K5 cb fb
    refine Sm (Ty.Shown.last rfl) ?_
    try simp only[pick,Gs,Gz]
    go_wp2
    refine Rm ?_
    refine Wd (by rfl) ⟨.head _,.tail _ (.head _),trivial⟩ ?_
    go_wp2
    go_roundw
    case rel=>exact ⟨2,by omega,by go_num,i0,.slice a3 n3 c3,t0,.slice a4 n4 c4,HP5.out,HM5.out,HA5.out,HB5.out,BEL5.out,fun _=>⟨HO15.out,HO25.out⟩,fun _=>⟨HR35.out,HR45.out⟩⟩
    case measure=>simp[intOf]
   obtain rfl:k=2:=by omega
   obtain ⟨ja,jb,rfl⟩:=Oq (show wr.ownsRow w.heap.size 5 1 i0 _ _ from (R0.out (by omega)).1)
   obtain ⟨jc,jd,rfl⟩:=Oq (show wr.ownsRow w.heap.size 5 1 i1 _ _ from (R1.out (by omega)).1)
   obtain ⟨ka,kb,rfl⟩:=Oq (show wr.ownsRow w.heap.size 5 1 t0 _ _ from (R0.out (by omega)).2)
   obtain ⟨kc,kd,rfl⟩:=Oq (show wr.ownsRow w.heap.size 5 1 t1 _ _ from (R1.out (by omega)).2)
   have a_0:=Bj HA.out 0 rfl
   have a_1:=Bj HA.out 1 rfl
   have b_0:=Bj HB.out 0 rfl
   have b_1:=Bj HB.out 1 rfl
   have fa_0:=Bf HA.out 0
   have fa_1:=Bf HA.out 1
   have fb_0:=Bf HB.out 0
   have fb_1:=Bf HB.out 1
   go_upto_region 10 with (fail)
   have hBl:=show∀q∈[B],∃cc e f,wr.heap[q]? =some (.cells cc e f) from fun q hq=>by rw[M1' hq];exact ⟨_,_,_,HB.out⟩
   refine Ty.wp_tree [B] [1] [3] [0,1] [0,1] (.alt [2] (.alt [3] (.done) (.no)) (.no)) (by kernel_rfl) (by kernel_rfl) (by kernel_rfl) (by kernel_rfl) hBl ?_
   obtain ⟨y0,hy0⟩:∃y,y=wr.drew:=⟨_,rfl⟩
   have HS0:Hid (SameB [B] y0 y0):=Hj (by rw[hy0];exact same_start hBl)
   have hd0:Below wr.heap.size wr y0:=by rw[hy0];exact (Br _ _).drew
   have HA0:=Hj ((hd0.block A hAl).trans HA.out)
   have HB0:=Hj ((hd0.block B hBl').trans HB.out)
   have BEL0:=Hj (BEL.out.trans (hd0.mono BEL.out.size))
   have R00:=Hj (own_below (R0.out (by omega)).1 hd0 (Nr _))
   have R01:=Hj (own_below (R0.out (by omega)).2 hd0 (Nr _))
   have R10:=Hj (own_below (R1.out (by omega)).1 hd0 (Nr _))
   have R11:=Hj (own_below (R1.out (by omega)).2 hd0 (Nr _))
   rw[←hy0]
   clear hBl hy0 hd0 a_0 a_1 b_0 b_1 fa_0 fa_1 fb_0 fb_1
   have a_0:=Bj HA0.out 0 rfl
   have a_1:=Bj HA0.out 1 rfl
   have b_0:=Bj HB0.out 0 rfl
   have b_1:=Bj HB0.out 1 rfl
   have fa_0:=Bf HA0.out 0
   have fa_1:=Bf HA0.out 1
   try simp only[pick,Gs,Gz]
   go_wp2
   refine Rm ?_
   refine Wq ?_
   try simp only[pick,Gs,Gz]
   go_wp2
   obtain ⟨y1,hy1⟩:∃Y,Y=(y0.setCell ⟨A,0,none⟩ (.slice ja (finp q 0 s.image en).1.length jb)).setCell ⟨A,1,none⟩ (.slice jc (finp q 1 s.image en).1.length jd):=⟨_,rfl⟩
   have K1:Keep [A] y0 y1:=by rw[hy1];exact ((Keep.refl [A] y0).setCell (.inl (by simp)) _).setCell (.inl (by simp)) _
   have HA1:Hid (y1.heap[A]? =some (.cells #[(.slice ja (finp q 0 s.image en).1.length jb),(.slice jc (finp q 1 s.image en).1.length jd)] 53 (0,0))):=Hj (by rw[hy1];exact heap_setCell_same _ _ 1 _ 53 _ (heap_setCell_same _ _ 0 _ 53 _ HA0.out))
   have HB1:=Hj ((K1.block B (Al HB0.out) (by intro h;rw[List.mem_singleton] at h;omega)).trans HB0.out)
   have HS1:=Hj (same_keep HS0.out K1 (fun q hq=>by rw[M1' hq];intro h;rw[List.mem_singleton] at h;omega))
   have Q00:=Hj (own_keepT R00.out HA0.out (by omega) K1)
   have Q01:=Hj (own_keepT R01.out HA0.out (by omega) K1)
   have Q10:=Hj (own_keepT R10.out HA0.out (by omega) K1)
   have Q11:=Hj (own_keepT R11.out HA0.out (by omega) K1)
   have BEL1:=Hj (BEL0.out.trans (K1.below BEL0.out.size (G1 (by omega))))
   rw[←hy1]
   clear hy1 K1 a_0 a_1 b_0 b_1 fa_0 fa_1
   have b_0:=Bj HB1.out 0 rfl
   have b_1:=Bj HB1.out 1 rfl
   have fb_0:=Bf HB1.out 0
   have fb_1:=Bf HB1.out 1
   refine Sm (Ss HS1.out) ?_
   try simp only[pick,Gs,Gz]
   go_wp2
   refine Rm ?_
   refine Wq ?_
   try simp only[pick,Gs,Gz]
   go_wp2
   obtain ⟨y2,hy2⟩:∃Y,Y=(y1.setCell ⟨B,0,none⟩ (.slice ka (finp q 0 s.image en).2.length kb)).setCell ⟨B,1,none⟩ (.slice kc (finp q 1 s.image en).2.length kd):=⟨_,rfl⟩
   have K2:Keep [B] y1 y2:=by rw[hy2];exact ((Keep.refl [B] y1).setCell (.inl (by simp)) _).setCell (.inl (by simp)) _
   have HB2:Hid (y2.heap[B]? =some (.cells #[(.slice ka (finp q 0 s.image en).2.length kb),(.slice kc (finp q 1 s.image en).2.length kd)] 53 (0,0))):=Hj (by rw[hy2];exact heap_setCell_same _ _ 1 _ 53 _ (heap_setCell_same _ _ 0 _ 53 _ HB1.out))
   have HA2:=Hj ((K2.block A (Al HA1.out) (by intro h;rw[List.mem_singleton] at h;omega)).trans HA1.out)
   have S00:=Hj (own_keepT Q00.out HB1.out (by omega) K2)
   have S01:=Hj (own_keepT Q01.out HB1.out (by omega) K2)
   have S10:=Hj (own_keepT Q10.out HB1.out (by omega) K2)
   have S11:=Hj (own_keepT Q11.out HB1.out (by omega) K2)
   have BEL2:=Hj (BEL1.out.trans (K2.below BEL1.out.size (G1 (by omega))))
   rw[←hy2]
   clear hy2 K2 b_0 b_1 fb_0 fb_1
   refine Sm (Ty.Shown.last rfl) ?_
   try simp only[pick,Gs,Gz]
   go_wp2
   refine Rm ?_
   refine Wd (by rfl) ⟨.head _,trivial⟩ ?_
   go_wp2
   refine bodyPost_ret (results_cc rfl _ _ _ _ _ _ _ _ _ rfl HA2.out rfl HB2.out Tryz.underlying53 rfl (by kernel_rfl) (by kernel_rfl)) rfl ?_
   rw[HQ.out,HEN.out]
   exact ⟨(.slice ja (finp q 0 s.image en).1.length jb),(.slice jc (finp q 1 s.image en).1.length jd),(.slice ka (finp q 0 s.image en).2.length kb),(.slice kc (finp q 1 s.image en).2.length kd),rfl,S00.out,S10.out,S01.out,S11.out,BEL2.out⟩
 | false=>
  obtain ⟨q,hq⟩:∃q,q=FP.none:=⟨_,rfl⟩
  have HQ:Hid (qof x p=q):=Hj (by unfold qof;rw[hh,hq];rfl)
  have p_0:=Bj HP2.out 0 rfl
  have f_0:=Bf HP2.out 0
  have p_1:=Bj HP2.out 1 rfl
  have f_1:=Bf HP2.out 1
  have p_2:=Bj HP2.out 2 rfl
  have f_2:=Bf HP2.out 2
  have p_3:=Bj HP2.out 3 rfl
  have f_3:=Bf HP2.out 3
  have p_4:=Bj HP2.out 4 rfl
  have f_4:=Bf HP2.out 4
  have p_5:=Bj HP2.out 5 rfl
  have f_5:=Bf HP2.out 5
  have p_6:=Bj HP2.out 6 rfl
  have f_6:=Bf HP2.out 6
  go_upto_region 5 with (fail)
  clear p_0 f_0 p_1 f_1 p_2 f_2 p_3 f_3 p_4 f_4 p_5 f_5 p_6 f_6
  obtain ⟨w3,hw3⟩:∃X,X=(((((((w2.setCell ⟨P,0,none⟩ (.int .i64 0)).setCell ⟨P,1,none⟩ (.int .i64 0)).setCell ⟨P,2,none⟩ (.int .i64 0)).setCell ⟨P,3,none⟩ (.int .i64 0)).setCell ⟨P,4,none⟩ (.int .i64 0)).setCell ⟨P,5,none⟩ (.int .i64 0)).setCell ⟨P,6,none⟩ (.int .i64 0)):=⟨_,rfl⟩
  rw[←hw3]
  have K3:Keep [P] w2 w3:=by rw[hw3];exact ((((((((Keep.refl [P] w2).setCell (.inl (by simp)) _).setCell (.inl (by simp)) _).setCell (.inl (by simp)) _).setCell (.inl (by simp)) _).setCell (.inl (by simp)) _).setCell (.inl (by simp)) _).setCell (.inl (by simp)) _)
  have HP3:Hid (w3.heap[P]? =some (.cells #[.int .i64 FP.none.c,.int .i64 FP.none.n,.int .i64 FP.none.e,.int .i64 FP.none.k,.int .i64 FP.none.s,.int .i64 FP.none.pl,.int .i64 FP.none.m] 56 (0,0))):=Hj (by rw[hw3];exact (heap_setCell_same _ _ 6 _ 56 _ (heap_setCell_same _ _ 5 _ 56 _ (heap_setCell_same _ _ 4 _ 56 _ (heap_setCell_same _ _ 3 _ 56 _ (heap_setCell_same _ _ 2 _ 56 _ (heap_setCell_same _ _ 1 _ 56 _ (heap_setCell_same _ _ 0 _ 56 _ HP2.out))))))))
  have HM3:=Hj ((K3.block M (by omega) (by intro h;rw[List.mem_singleton] at h;omega)).trans HM2.out)
  have HA3:=Hj ((K3.block A (by omega) (by intro h;rw[List.mem_singleton] at h;omega)).trans HA2.out)
  have HB3:=Hj ((K3.block B (by omega) (by intro h;rw[List.mem_singleton] at h;omega)).trans HB2.out)
  have BEL3:=Hj (BEL2.out.trans (K3.below BEL2.out.size (G1 (by omega))))
  clear hw3 K3
  rw[←hq] at HP3
  have HP:=HP3;have HMM:=HM3;have HA:=HA3;have HB:=HB3;have BEL:=BEL3
  clear hh hq HP2 HM2 HA2 HB2 BEL2 HP3 HM3 HA3 HB3 BEL3
  obtain ⟨en,hen⟩:∃l,encM ms md mk mq m0 m1 m2 m3 d=l:=⟨_,rfl⟩
  have HEN:=Hj hen
  have hel:en.length≤24000:=by rw[←hen];exact Nat.le_trans (encM_len HF.out) (by omega)
  clear hen
  go_wp2
  go_loopw [18] (fun i wr=>∃k:Nat,k≤2∧i= .int .i64 k∧∃i0 i1 t0 t1,wr.heap[P]? =some (.cells #[.int .i64 q.c,.int .i64 q.n,.int .i64 q.e,.int .i64 q.k,.int .i64 q.s,.int .i64 q.pl,.int .i64 q.m] 56 (0,0))∧wr.heap[M]? =some (.cells #[.int .i64 ms,.int .i64 md,.int .i64 mk,.int .i64 mq,.int .i64 m0,.int .i64 m1,.int .i64 m2,.int .i64 m3,.slice da d.length dc] 44 (0,0))∧wr.heap[A]? =some (.cells #[i0,i1] 53 (0,0))∧wr.heap[B]? =some (.cells #[t0,t1] 53 (0,0))∧
   Below w.heap.size w wr∧(0<k→OW w.heap.size wr i0 (finp q 0 s.image en).1∧OW w.heap.size wr t0 (finp q 0 s.image en).2)∧(1<k→OW w.heap.size wr i1 (finp q 1 s.image en).1∧OW w.heap.size wr t1 (finp q 1 s.image en).2)) (fun i _=>2 - (intOf i).toNat)
  case atStart=>exact ⟨0,by omega,rfl,_,_,_,_,HP.out,HMM.out,HA.out,HB.out,BEL.out,fun h=>absurd h (Nat.lt_irrefl _),fun h=>absurd h (by omega)⟩
  case round=>
   obtain ⟨k,hk,rfl,i0,i1,t0,t1,hP,hM,hA,hB,hb,h0,h1⟩:=hrel
   clear HP HMM HA HB BEL
   have HP:=Hj hP;have HMM:=Hj hM;have HA:=Hj hA;have HB:=Hj hB;have BEL:=Hj hb;have R0:=Hj h0;have R1:=Hj h1
   clear hP hM hA hB hb h0 h1
   have hMl:=(Al HMM.out)
   have hAl:=(Al HA.out)
   have hBl':=(Al HB.out)
   have hPl:=(Al HP.out)
   by_cases hk0:k=0
   ·subst hk0
    go_upto_region 8 with (fail)
    have hBl:=show∀q∈[P,M],∃cc e f,wr.heap[q]? =some (.cells cc e f) from fun q hq=>by
     rcases List.mem_cons.1 hq with rfl | hq
     ·exact ⟨_,_,_,HP.out⟩
     rw[M1' hq];exact ⟨_,_,_,HMM.out⟩
    refine Ty.wp_tree [P,M] [2,9] [16,18] [2,7,9] [0,1,2,3,4,5,6,7,9] (.alt [8] (.alt [10] (.alt [11,12,13,14,15] (.alt [16,17] (.alt [18] (.done) (.no)) (.no)) (.no)) (.no)) (.no)) (by kernel_rfl) (by kernel_rfl) (by kernel_rfl) (by kernel_rfl) hBl ?_
    obtain ⟨y0,hy0⟩:∃y,y=wr.drew:=⟨_,rfl⟩
    have HS0:Hid (SameB [P,M] y0 y0):=Hj (by rw[hy0];exact same_start hBl)
    have hd0:Below wr.heap.size wr y0:=by rw[hy0];exact (Br _ _).drew
    have HP0:=Hj ((hd0.block P hPl).trans HP.out)
    have HM0:=Hj ((hd0.block M hMl).trans HMM.out)
    have BEL0:=Hj (BEL.out.trans (hd0.mono BEL.out.size))
    have HY0:=Hj hd0
    rw[←hy0]
    clear hBl hy0 hd0
    have u1:y0.cell? ⟨u,1,none⟩=some (.pointer (some ⟨g,0,none⟩)):=Bo (HU.out.below BEL0.out).hu rfl
    have p_0:=Bj HP0.out 0 rfl
    have p_1:=Bj HP0.out 1 rfl
    have p_2:=Bj HP0.out 2 rfl
    have p_3:=Bj HP0.out 3 rfl
    have p_4:=Bj HP0.out 4 rfl
    have p_5:=Bj HP0.out 5 rfl
    have p_6:=Bj HP0.out 6 rfl
    have m_0:=Bj HM0.out 0 rfl
    have m_1:=Bj HM0.out 1 rfl
    have m_2:=Bj HM0.out 2 rfl
    have m_3:=Bj HM0.out 3 rfl
    have m_4:=Bj HM0.out 4 rfl
    have m_5:=Bj HM0.out 5 rfl
    have m_6:=Bj HM0.out 6 rfl
    have m_7:=Bj HM0.out 7 rfl
    have m_8:=Bj HM0.out 8 rfl
    try simp only[pick,Gs,Gz]
    go_wp2
    refine Rm ?_
    refine Wq ?_
    try simp only[pick,Gs,Gz]
    go_wp2_with fail
    refine (img_any _ (HU.out.below BEL0.out).hs).mono ?_
    rintro e y1 ⟨v1,rfl,hr1,hb1⟩
    have HR1:Hid (Bytes [] y1 v1 s.image):=Hj (Bytes.row hr1 rfl (fun f hf=>by cases hf))
    have BEL1:=Hj (BEL0.out.trans (hb1.mono BEL0.out.size))
    have HY1:=Hj (HY0.out.trans (hb1.mono HY0.out.size))
    have HS1:=Hj (same_below' HS0.out hb1)
    obtain ⟨a1,c1,rfl⟩:=Rs HR1.out
    clear hr1 hb1 p_0 p_1 p_2 p_3 p_4 p_5 p_6 m_0 m_1 m_2 m_3 m_4 m_5 m_6 m_7 m_8 u1
    go_wp2
    refine Sm (Ss HS1.out) ?_
    try simp only[pick,Gs,Gz]
    go_wp2
    refine Rm ?_
    refine Wq ?_
    try simp only[pick,Gs,Gz]
    go_wp2_with fail
    refine (wmsg_any ms md mk mq m0 m1 m2 m3 _ d _ HF.out (by omega) (Rb HD.out BEL1.out)).mono ?_
    rw[HEN.out]
    rintro e y2 ⟨v2,rfl,hr2,hb2⟩
    have HR2:Hid (Bytes [] y2 v2 en):=Hj (BRow.bytes hr2 (fun f hf=>by cases hf))
    have HR12:=Hj (Rb HR1.out hb2)
    have BEL2:=Hj (BEL1.out.trans (hb2.mono BEL1.out.size))
    have HY2:=Hj (HY1.out.trans (hb2.mono HY1.out.size))
    have HS2:=Hj (same_below' HS1.out hb2)
    obtain ⟨a2,c2,rfl⟩:=Rs HR2.out
    clear hr2 hb2 HR1
    go_wp2
    refine Sm (Ss HS2.out) ?_
    try simp only[pick,Gs,Gz]
    go_wp2
    refine Rm ?_
    refine Wq ?_
    try simp only[pick,Gs,Gz]
    go_wp2_with fail
    refine (finput_any [] q 0 s.image en _ _ _ him hel HR12.out HR2.out).mono ?_
    rintro e y3 ⟨v3,v4,rfl,hr3,hr4,hb3⟩
    have HR3:Hid (OW w.heap.size y3 v3 (finp q 0 s.image en).1):=Hj (own_base hr3 BEL2.out.size)
    have HR4:Hid (OW w.heap.size y3 v4 (finp q 0 s.image en).2):=Hj (own_base hr4 BEL2.out.size)
    have BEL3:=Hj (BEL2.out.trans (hb3.mono BEL2.out.size))
    have HY3:=Hj (HY2.out.trans (hb3.mono HY2.out.size))
    have HS3:=Hj (same_below' HS2.out hb3)
    clear hr3 hr4 hb3 HR12 HR2
    have HA3:=Hj ((HY3.out.block A hAl).trans HA.out)
    have HB3:=Hj ((HY3.out.block B hBl').trans HB.out)
    have HP3:=Hj ((HY3.out.block P hPl).trans HP.out)
    have HM3:=Hj ((HY3.out.block M hMl).trans HMM.out)
    have ca:=Bj HA3.out 0 rfl
    have fa:=Bf HA3.out 0
    obtain ⟨a3,c3,rfl⟩:=Oq (show y3.ownsRow w.heap.size 5 1 v3 _ _ from HR3.out)
    obtain ⟨a4,c4,rfl⟩:=Oq (show y3.ownsRow w.heap.size 5 1 v4 _ _ from HR4.out)
    obtain ⟨n3,hn3⟩:∃n,(finp q 0 s.image en).1.length=n:=⟨_,rfl⟩
    obtain ⟨n4,hn4⟩:∃n,(finp q 0 s.image en).2.length=n:=⟨_,rfl⟩
    rw[hn3] at HR3⊢
    rw[hn4] at HR4⊢
    clear hn3 hn4
    go_wp2
    refine Sm (Ss HS3.out) ?_
    try simp only[pick,Gs,Gz]
    go_wp2
    refine Rm ?_
    refine Wq ?_
    try simp only[pick,Gs,Gz]
    go_wp2
    obtain ⟨y4,hy4⟩:∃Y,Y=y3.setCell ⟨A,0,none⟩ (.slice a3 n3 c3):=⟨_,rfl⟩
    have K4:Keep [A] y3 y4:=by rw[hy4];exact (Keep.refl [A] y3).setCell (.inl (by simp)) _
    have HA4:Hid (y4.heap[A]? =some (.cells #[.slice a3 n3 c3,i1] 53 (0,0))):=Hj (by rw[hy4];exact heap_setCell_same _ _ 0 _ 53 _ HA3.out)
    have HB4:=Hj ((K4.block B (Al HB3.out) (by intro h;rw[List.mem_singleton] at h;omega)).trans HB3.out)
    have HP4:=Hj ((K4.block P (Al HP3.out) (by intro h;rw[List.mem_singleton] at h;omega)).trans HP3.out)
    have HM4:=Hj ((K4.block M (Al HM3.out) (by intro h;rw[List.mem_singleton] at h;omega)).trans HM3.out)
    have HR34:=Hj (own_keepT HR3.out HA3.out (by omega) K4)
    have HR44:=Hj (own_keepT HR4.out HA3.out (by omega) K4)
    have BEL4:=Hj (BEL3.out.trans (K4.below BEL3.out.size (G1 (by omega))))
    rw[←hy4]
    clear hy4 K4 ca fa
    have cb:=Bj HB4.out 0 rfl
    have fb:=Bf HB4.out 0
    refine Sm (Ty.Shown.last rfl) ?_
    try simp only[pick,Gs,Gz]
    go_wp2
    refine Rm ?_
    refine Wq ?_
    try simp only[pick,Gs,Gz]
    go_wp2
    obtain ⟨y5,hy5⟩:∃Y,Y=y4.setCell ⟨B,0,none⟩ (.slice a4 n4 c4):=⟨_,rfl⟩
    have K5:Keep [B] y4 y5:=by rw[hy5];exact (Keep.refl [B] y4).setCell (.inl (by simp)) _
    have HB5:Hid (y5.heap[B]? =some (.cells #[.slice a4 n4 c4,t1] 53 (0,0))):=Hj (by rw[hy5];exact heap_setCell_same _ _ 0 _ 53 _ HB4.out)
    have HA5:=Hj ((K5.block A (Al HA4.out) (by intro h;rw[List.mem_singleton] at h;omega)).trans HA4.out)
    have HP5:=Hj ((K5.block P (Al HP4.out) (by intro h;rw[List.mem_singleton] at h;omega)).trans HP4.out)
    have HM5:=Hj ((K5.block M (Al HM4.out) (by intro h;rw[List.mem_singleton] at h;omega)).trans HM4.out)
    have HR35:=Hj (own_keepT HR34.out HB4.out (by omega) K5)
    have HR45:=Hj (own_keepT HR44.out HB4.out (by omega) K5)
    have BEL5:=Hj (BEL4.out.trans (K5.below BEL4.out.size (G1 (by omega))))
    rw[←hy5]
    clear hy5 K5 cb fb
    refine Sm (Ty.Shown.last rfl) ?_
    try simp only[pick,Gs,Gz]
    go_wp2
    refine Rm ?_
    refine Wd (by rfl) ⟨.head _,.tail _ (.head _),trivial⟩ ?_
    go_wp2
    go_roundw
    case rel=>exact ⟨1,by omega,by go_num,.slice a3 n3 c3,i1,.slice a4 n4 c4,t1,HP5.out,HM5.out,HA5.out,HB5.out,BEL5.out,fun _=>⟨HR35.out,HR45.out⟩,fun h=>absurd h (by omega)⟩
    case measure=>simp[intOf]
   by_cases hk1:k=1
   ·subst hk1
    go_upto_region 8 with (fail)
    have hBl:=show∀q∈[P,M],∃cc e f,wr.heap[q]? =some (.cells cc e f) from fun q hq=>by
     rcases List.mem_cons.1 hq with rfl | hq
     ·exact ⟨_,_,_,HP.out⟩
     rw[M1' hq];exact ⟨_,_,_,HMM.out⟩
    refine Ty.wp_tree [P,M] [2,9] [16,18] [2,7,9] [0,1,2,3,4,5,6,7,9] (.alt [8] (.alt [10] (.alt [11,12,13,14,15] (.alt [16,17] (.alt [18] (.done) (.no)) (.no)) (.no)) (.no)) (.no)) (by kernel_rfl) (by kernel_rfl) (by kernel_rfl) (by kernel_rfl) hBl ?_
    obtain ⟨y0,hy0⟩:∃y,y=wr.drew:=⟨_,rfl⟩
    have HS0:Hid (SameB [P,M] y0 y0):=Hj (by rw[hy0];exact same_start hBl)
    have hd0:Below wr.heap.size wr y0:=by rw[hy0];exact (Br _ _).drew
    have HP0:=Hj ((hd0.block P hPl).trans HP.out)
    have HM0:=Hj ((hd0.block M hMl).trans HMM.out)
    have BEL0:=Hj (BEL.out.trans (hd0.mono BEL.out.size))
    have HY0:=Hj hd0
    rw[←hy0]
    clear hBl hy0 hd0
    have u1:y0.cell? ⟨u,1,none⟩=some (.pointer (some ⟨g,0,none⟩)):=Bo (HU.out.below BEL0.out).hu rfl
    have p_0:=Bj HP0.out 0 rfl
    have p_1:=Bj HP0.out 1 rfl
    have p_2:=Bj HP0.out 2 rfl
    have p_3:=Bj HP0.out 3 rfl
    have p_4:=Bj HP0.out 4 rfl
    have p_5:=Bj HP0.out 5 rfl
    have p_6:=Bj HP0.out 6 rfl
    have m_0:=Bj HM0.out 0 rfl
    have m_1:=Bj HM0.out 1 rfl
    have m_2:=Bj HM0.out 2 rfl
    have m_3:=Bj HM0.out 3 rfl
    have m_4:=Bj HM0.out 4 rfl
    have m_5:=Bj HM0.out 5 rfl
    have m_6:=Bj HM0.out 6 rfl
    have m_7:=Bj HM0.out 7 rfl
    have m_8:=Bj HM0.out 8 rfl
    try simp only[pick,Gs,Gz]
    go_wp2
    refine Rm ?_
    refine Wq ?_
    try simp only[pick,Gs,Gz]
    go_wp2_with fail
    refine (img_any _ (HU.out.below BEL0.out).hs).mono ?_
    rintro e y1 ⟨v1,rfl,hr1,hb1⟩
    have HR1:Hid (Bytes [] y1 v1 s.image):=Hj (Bytes.row hr1 rfl (fun f hf=>by cases hf))
    have BEL1:=Hj (BEL0.out.trans (hb1.mono BEL0.out.size))
    have HY1:=Hj (HY0.out.trans (hb1.mono HY0.out.size))
    have HS1:=Hj (same_below' HS0.out hb1)
    obtain ⟨a1,c1,rfl⟩:=Rs HR1.out
    clear hr1 hb1 p_0 p_1 p_2 p_3 p_4 p_5 p_6 m_0 m_1 m_2 m_3 m_4 m_5 m_6 m_7 m_8 u1
    go_wp2
    refine Sm (Ss HS1.out) ?_
    try simp only[pick,Gs,Gz]
    go_wp2
    refine Rm ?_
    refine Wq ?_
    try simp only[pick,Gs,Gz]
    go_wp2_with fail
    refine (wmsg_any ms md mk mq m0 m1 m2 m3 _ d _ HF.out (by omega) (Rb HD.out BEL1.out)).mono ?_
    rw[HEN.out]
    rintro e y2 ⟨v2,rfl,hr2,hb2⟩
    have HR2:Hid (Bytes [] y2 v2 en):=Hj (BRow.bytes hr2 (fun f hf=>by cases hf))
    have HR12:=Hj (Rb HR1.out hb2)
    have BEL2:=Hj (BEL1.out.trans (hb2.mono BEL1.out.size))
    have HY2:=Hj (HY1.out.trans (hb2.mono HY1.out.size))
    have HS2:=Hj (same_below' HS1.out hb2)
    obtain ⟨a2,c2,rfl⟩:=Rs HR2.out
    clear hr2 hb2 HR1
    go_wp2
    refine Sm (Ss HS2.out) ?_
    try simp only[pick,Gs,Gz]
    go_wp2
    refine Rm ?_
    refine Wq ?_
    try simp only[pick,Gs,Gz]
    go_wp2_with fail
    refine (finput_any [] q 1 s.image en _ _ _ him hel HR12.out HR2.out).mono ?_
    rintro e y3 ⟨v3,v4,rfl,hr3,hr4,hb3⟩
    have HR3:Hid (OW w.heap.size y3 v3 (finp q 1 s.image en).1):=Hj (own_base hr3 BEL2.out.size)
    have HR4:Hid (OW w.heap.size y3 v4 (finp q 1 s.image en).2):=Hj (own_base hr4 BEL2.out.size)
    have BEL3:=Hj (BEL2.out.trans (hb3.mono BEL2.out.size))
    have HY3:=Hj (HY2.out.trans (hb3.mono HY2.out.size))
    have HS3:=Hj (same_below' HS2.out hb3)
    clear hr3 hr4 hb3 HR12 HR2
    have HA3:=Hj ((HY3.out.block A hAl).trans HA.out)
    have HB3:=Hj ((HY3.out.block B hBl').trans HB.out)
    have HP3:=Hj ((HY3.out.block P hPl).trans HP.out)
    have HM3:=Hj ((HY3.out.block M hMl).trans HMM.out)
    have ca:=Bj HA3.out 1 rfl
    have fa:=Bf HA3.out 1
    obtain ⟨a3,c3,rfl⟩:=Oq (show y3.ownsRow w.heap.size 5 1 v3 _ _ from HR3.out)
    obtain ⟨a4,c4,rfl⟩:=Oq (show y3.ownsRow w.heap.size 5 1 v4 _ _ from HR4.out)
    obtain ⟨n3,hn3⟩:∃n,(finp q 1 s.image en).1.length=n:=⟨_,rfl⟩
    obtain ⟨n4,hn4⟩:∃n,(finp q 1 s.image en).2.length=n:=⟨_,rfl⟩
    rw[hn3] at HR3⊢
    rw[hn4] at HR4⊢
    clear hn3 hn4
    go_wp2
    refine Sm (Ss HS3.out) ?_
    try simp only[pick,Gs,Gz]
    go_wp2
    refine Rm ?_
    refine Wq ?_
    try simp only[pick,Gs,Gz]
    go_wp2
    obtain ⟨y4,hy4⟩:∃Y,Y=y3.setCell ⟨A,1,none⟩ (.slice a3 n3 c3):=⟨_,rfl⟩
    have K4:Keep [A] y3 y4:=by rw[hy4];exact (Keep.refl [A] y3).setCell (.inl (by simp)) _
    have HA4:Hid (y4.heap[A]? =some (.cells #[i0,.slice a3 n3 c3] 53 (0,0))):=Hj (by rw[hy4];exact heap_setCell_same _ _ 1 _ 53 _ HA3.out)
    have HB4:=Hj ((K4.block B (Al HB3.out) (by intro h;rw[List.mem_singleton] at h;omega)).trans HB3.out)
    have HP4:=Hj ((K4.block P (Al HP3.out) (by intro h;rw[List.mem_singleton] at h;omega)).trans HP3.out)
    have HM4:=Hj ((K4.block M (Al HM3.out) (by intro h;rw[List.mem_singleton] at h;omega)).trans HM3.out)
    have HR34:=Hj (own_keepT HR3.out HA3.out (by omega) K4)
    have HR44:=Hj (own_keepT HR4.out HA3.out (by omega) K4)
    have BEL4:=Hj (BEL3.out.trans (K4.below BEL3.out.size (G1 (by omega))))
    have HO1:=Hj (own_keepT (own_below (R0.out (by omega)).1 HY3.out (Nr _)) HA3.out (by omega) K4)
    have HO2:=Hj (own_keepT (own_below (R0.out (by omega)).2 HY3.out (Nr _)) HA3.out (by omega) K4)
    rw[←hy4]
    clear hy4 K4 ca fa
    have cb:=Bj HB4.out 1 rfl
    have fb:=Bf HB4.out 1
    refine Sm (Ty.Shown.last rfl) ?_
    try simp only[pick,Gs,Gz]
    go_wp2
    refine Rm ?_
    refine Wq ?_
    try simp only[pick,Gs,Gz]
    go_wp2
    obtain ⟨y5,hy5⟩:∃Y,Y=y4.setCell ⟨B,1,none⟩ (.slice a4 n4 c4):=⟨_,rfl⟩
    have K5:Keep [B] y4 y5:=by rw[hy5];exact (Keep.refl [B] y4).setCell (.inl (by simp)) _
    have HB5:Hid (y5.heap[B]? =some (.cells #[t0,.slice a4 n4 c4] 53 (0,0))):=Hj (by rw[hy5];exact heap_setCell_same _ _ 1 _ 53 _ HB4.out)
    have HA5:=Hj ((K5.block A (Al HA4.out) (by intro h;rw[List.mem_singleton] at h;omega)).trans HA4.out)
    have HP5:=Hj ((K5.block P (Al HP4.out) (by intro h;rw[List.mem_singleton] at h;omega)).trans HP4.out)
    have HM5:=Hj ((K5.block M (Al HM4.out) (by intro h;rw[List.mem_singleton] at h;omega)).trans HM4.out)
    have HR35:=Hj (own_keepT HR34.out HB4.out (by omega) K5)
    have HR45:=Hj (own_keepT HR44.out HB4.out (by omega) K5)
    have BEL5:=Hj (BEL4.out.trans (K5.below BEL4.out.size (G1 (by omega))))
    have HO15:=Hj (own_keepT HO1.out HB4.out (by omega) K5)
    have HO25:=Hj (own_keepT HO2.out HB4.out (by omega) K5)
    rw[←hy5]
    clear hy5 K5 cb fb
    refine Sm (Ty.Shown.last rfl) ?_
    try simp only[pick,Gs,Gz]
    go_wp2
    refine Rm ?_
    refine Wd (by rfl) ⟨.head _,.tail _ (.head _),trivial⟩ ?_
    go_wp2
    go_roundw
    case rel=>exact ⟨2,by omega,by go_num,i0,.slice a3 n3 c3,t0,.slice a4 n4 c4,HP5.out,HM5.out,HA5.out,HB5.out,BEL5.out,fun _=>⟨HO15.out,HO25.out⟩,fun _=>⟨HR35.out,HR45.out⟩⟩
    case measure=>simp[intOf]
   obtain rfl:k=2:=by omega
   obtain ⟨ja,jb,rfl⟩:=Oq (show wr.ownsRow w.heap.size 5 1 i0 _ _ from (R0.out (by omega)).1)
   obtain ⟨jc,jd,rfl⟩:=Oq (show wr.ownsRow w.heap.size 5 1 i1 _ _ from (R1.out (by omega)).1)
   obtain ⟨ka,kb,rfl⟩:=Oq (show wr.ownsRow w.heap.size 5 1 t0 _ _ from (R0.out (by omega)).2)
   obtain ⟨kc,kd,rfl⟩:=Oq (show wr.ownsRow w.heap.size 5 1 t1 _ _ from (R1.out (by omega)).2)
   have a_0:=Bj HA.out 0 rfl
   have a_1:=Bj HA.out 1 rfl
   have b_0:=Bj HB.out 0 rfl
   have b_1:=Bj HB.out 1 rfl
   have fa_0:=Bf HA.out 0
   have fa_1:=Bf HA.out 1
   have fb_0:=Bf HB.out 0
   have fb_1:=Bf HB.out 1
   go_upto_region 10 with (fail)
   have hBl:=show∀q∈[B],∃cc e f,wr.heap[q]? =some (.cells cc e f) from fun q hq=>by rw[M1' hq];exact ⟨_,_,_,HB.out⟩
   refine Ty.wp_tree [B] [1] [3] [0,1] [0,1] (.alt [2] (.alt [3] (.done) (.no)) (.no)) (by kernel_rfl) (by kernel_rfl) (by kernel_rfl) (by kernel_rfl) hBl ?_
   obtain ⟨y0,hy0⟩:∃y,y=wr.drew:=⟨_,rfl⟩
   have HS0:Hid (SameB [B] y0 y0):=Hj (by rw[hy0];exact same_start hBl)
   have hd0:Below wr.heap.size wr y0:=by rw[hy0];exact (Br _ _).drew
   have HA0:=Hj ((hd0.block A hAl).trans HA.out)
   have HB0:=Hj ((hd0.block B hBl').trans HB.out)
   have BEL0:=Hj (BEL.out.trans (hd0.mono BEL.out.size))
   have R00:=Hj (own_below (R0.out (by omega)).1 hd0 (Nr _))
   have R01:=Hj (own_below (R0.out (by omega)).2 hd0 (Nr _))
   have R10:=Hj (own_below (R1.out (by omega)).1 hd0 (Nr _))
   have R11:=Hj (own_below (R1.out (by omega)).2 hd0 (Nr _))
   rw[←hy0]
   clear hBl hy0 hd0 a_0 a_1 b_0 b_1 fa_0 fa_1 fb_0 fb_1
   have a_0:=Bj HA0.out 0 rfl
   have a_1:=Bj HA0.out 1 rfl
   have b_0:=Bj HB0.out 0 rfl
   have b_1:=Bj HB0.out 1 rfl
   have fa_0:=Bf HA0.out 0
   have fa_1:=Bf HA0.out 1
   try simp only[pick,Gs,Gz]
   go_wp2
   refine Rm ?_
   refine Wq ?_
   try simp only[pick,Gs,Gz]
   go_wp2
   obtain ⟨y1,hy1⟩:∃Y,Y=(y0.setCell ⟨A,0,none⟩ (.slice ja (finp q 0 s.image en).1.length jb)).setCell ⟨A,1,none⟩ (.slice jc (finp q 1 s.image en).1.length jd):=⟨_,rfl⟩
   have K1:Keep [A] y0 y1:=by rw[hy1];exact ((Keep.refl [A] y0).setCell (.inl (by simp)) _).setCell (.inl (by simp)) _
   have HA1:Hid (y1.heap[A]? =some (.cells #[(.slice ja (finp q 0 s.image en).1.length jb),(.slice jc (finp q 1 s.image en).1.length jd)] 53 (0,0))):=Hj (by rw[hy1];exact heap_setCell_same _ _ 1 _ 53 _ (heap_setCell_same _ _ 0 _ 53 _ HA0.out))
   have HB1:=Hj ((K1.block B (Al HB0.out) (by intro h;rw[List.mem_singleton] at h;omega)).trans HB0.out)
   have HS1:=Hj (same_keep HS0.out K1 (fun q hq=>by rw[M1' hq];intro h;rw[List.mem_singleton] at h;omega))
   have Q00:=Hj (own_keepT R00.out HA0.out (by omega) K1)
   have Q01:=Hj (own_keepT R01.out HA0.out (by omega) K1)
   have Q10:=Hj (own_keepT R10.out HA0.out (by omega) K1)
   have Q11:=Hj (own_keepT R11.out HA0.out (by omega) K1)
   have BEL1:=Hj (BEL0.out.trans (K1.below BEL0.out.size (G1 (by omega))))
   rw[←hy1]
   clear hy1 K1 a_0 a_1 b_0 b_1 fa_0 fa_1
   have b_0:=Bj HB1.out 0 rfl
   have b_1:=Bj HB1.out 1 rfl
   have fb_0:=Bf HB1.out 0
   have fb_1:=Bf HB1.out 1
   refine Sm (Ss HS1.out) ?_
   try simp only[pick,Gs,Gz]
   go_wp2
   refine Rm ?_
   refine Wq ?_
   try simp only[pick,Gs,Gz]
   go_wp2
   obtain ⟨y2,hy2⟩:∃Y,Y=(y1.setCell ⟨B,0,none⟩ (.slice ka (finp q 0 s.image en).2.length kb)).setCell ⟨B,1,none⟩ (.slice kc (finp q 1 s.image en).2.length kd):=⟨_,rfl⟩
   have K2:Keep [B] y1 y2:=by rw[hy2];exact ((Keep.refl [B] y1).setCell (.inl (by simp)) _).setCell (.inl (by simp)) _
   have HB2:Hid (y2.heap[B]? =some (.cells #[(.slice ka (finp q 0 s.image en).2.length kb),(.slice kc (finp q 1 s.image en).2.length kd)] 53 (0,0))):=Hj (by rw[hy2];exact heap_setCell_same _ _ 1 _ 53 _ (heap_setCell_same _ _ 0 _ 53 _ HB1.out))
   have HA2:=Hj ((K2.block A (Al HA1.out) (by intro h;rw[List.mem_singleton] at h;omega)).trans HA1.out)
   have S00:=Hj (own_keepT Q00.out HB1.out (by omega) K2)
   have S01:=Hj (own_keepT Q01.out HB1.out (by omega) K2)
   have S10:=Hj (own_keepT Q10.out HB1.out (by omega) K2)
   have S11:=Hj (own_keepT Q11.out HB1.out (by omega) K2)
   have BEL2:=Hj (BEL1.out.trans (K2.below BEL1.out.size (G1 (by omega))))
   rw[←hy2]
   clear hy2 K2 b_0 b_1 fb_0 fb_1
   refine Sm (Ty.Shown.last rfl) ?_
   try simp only[pick,Gs,Gz]
   go_wp2
   refine Rm ?_
   refine Wd (by rfl) ⟨.head _,trivial⟩ ?_
   go_wp2
   refine bodyPost_ret (results_cc rfl _ _ _ _ _ _ _ _ _ rfl HA2.out rfl HB2.out Tryz.underlying53 rfl (by kernel_rfl) (by kernel_rfl)) rfl ?_
   rw[HQ.out,HEN.out]
   exact ⟨(.slice ja (finp q 0 s.image en).1.length jb),(.slice jc (finp q 1 s.image en).1.length jd),(.slice ka (finp q 0 s.image en).2.length kb),(.slice kc (finp q 1 s.image en).2.length kd),rfl,S00.out,S10.out,S01.out,S11.out,BEL2.out⟩
end Go.Proofs.YtipiofgdjbogiaaGreat
