/- UnitScript: the reference's unit: See, hits, failed, Restart, New -/
import Derived.Test.YtipiofgdjbogiaaGreatYd
import Derived.Test.YtipiofgdjbogiaaGreatYc
import Derived.Test.YtipiofgdjbogiaaGreatKj
set_option maxRecDepth 100000
set_option maxHeartbeats 4000000
namespace Go.Im
open Go Go.Txt Go.RowKit Go.Bs Go.Cl Go.Rw Go.Un Go.Fa
def RUc (x:Us) (ver:Nat) (iv wv nv tv lv:Value):Array Value:=#[.int .i64 x.task,iv,wv,nv,.int .i64 ver,.bool false,.bool false,tv,lv,.int .i64 x.num,.int .i64 x.att,.int .i64 x.i0,.int .i64 x.i1,.int .i64 x.gr,.bool x.down,.int .i64 x.lost]
def RUV (F:List Nat) (w:World) (v:Value) (x:Us) (img:List UInt8) (ver:Nat):Prop:=
 ∃iv wv nv tv lv,v= .agg (RUc x ver iv wv nv tv lv)∧Bytes F w iv img∧Bytes F w wv img∧Bytes F w nv []∧ChR F w tv []∧Raw F 2 w lv x.led.length (x.led.flatMap Lg.encL)
variable {F F' G:List Nat} {w w':World} {v:Value} {x:Us} {img:List UInt8} {ver:Nat}
theorem RUV.keep (h:RUV F w v x img ver) (hk:Keep G w w') (hG:∀f∈G,f∈F∨w.heap.size≤f) (hF:∀f∈F',f∈F∨w.heap.size≤f):RUV F' w' v x img ver:=by
 obtain ⟨iv,wv,nv,tv,lv,rfl,h1,h2,h3,h4,h5⟩:=h
 exact ⟨iv,wv,nv,tv,lv,rfl,Raw.keep h1 hk hG hF,Raw.keep h2 hk hG hF,Raw.keep h3 hk hG hF,h4.keep hk hG hF,Raw.keep h5 hk hG hF⟩
theorem RUV.below (h:RUV F w v x img ver) (hb:Below w.heap.size w w'):RUV F w' v x img ver:=h.keep (Keep.of_below' (F:=[]) hb) (fun f hf=>by cases hf) (fun f hf=> .inl hf)
def enumV:Nat→List Value→List (Nat×Value)
 | _,[]=>[]
 | k,v::l=>(k,v)::enumV (k+1) l
theorem fold_enum:∀(vs:List Value) (k:Nat) (xs:Array Value),xs.size=k+vs.length→(enumV k vs).foldl (fun (xs:Array Value) p=>xs.setIfInBounds p.1 p.2) xs=(xs.toList.take k++vs).toArray
 | [],k,xs,h=>by
  have hk:xs.toList.take k=xs.toList:=List.take_of_length_le (by simpa using Nat.le_of_eq h)
  simp[enumV,hk]
 | v::l,k,xs,h=>by
  have h2:(xs.setIfInBounds k v).size=k+1+l.length:=by simp at h⊢;omega
  show (enumV (k+1) l).foldl _ (xs.setIfInBounds k v)=_
  rw[fold_enum l (k+1) _ h2]
  have hk:k<xs.toList.length:=by simp at h⊢;omega
  congr 1
  rw[Array.toList_setIfInBounds,List.take_add_one,List.getElem?_set_self hk,List.take_set_of_le (Nr _)]
  simp
theorem puts_all (vs:List Value) {w:World} {g:Nat} {xs:Array Value} {t:TypeId} (h:w.heap[g]? =some (.cells xs t (0,0))) (hs:xs.size=vs.length):
  (puts w g (enumV 0 vs)).heap[g]? =some (.cells vs.toArray t (0,0))∧Keep [g] w (puts w g (enumV 0 vs)):=by
 have:=puts_at (enumV 0 vs) h
 rw[fold_enum vs 0 xs (by simpa using hs)] at this
 simpa using this
theorem keep_setRow (w:World) (g:Nat) (cs:Array Value):Keep [g] w (w.setRow g cs):=
 ⟨rfl,rfl,rfl,by simp,fun k _ hn=>setRow_other w g k cs (by simpa using hn)⟩
theorem below_keep {a b c:World} {G:List Nat} (h:Below a.heap.size a b) (hk:Keep G b c) (hG:∀f∈G,a.heap.size≤f):Below a.heap.size a c:=h.trans (hk.below h.size hG)
end Go.Im
namespace Go.Proofs.YtipiofgdjbogiaaGreat
open Go.Txt Go.RowKit Go.Bs Go.Cl Go.Rw Go.Un Go.Im Go.Fa Go.Wi
theorem rsee31_any {F:List Nat} (v:Value) (x:Us) (img:List UInt8) (ver:Nat) (ms md mk mq m0 m1 m2 m3:Int) (mv:Value) (w:World) (hll:x.led.length≤1000) (hq1: -9223372036854775808≤mq) (hq2:mq≤9223372036854775807) (hv:RUV F w v x img ver):
  Calls Tryz.prog 10 #[v,.agg #[.int .i64 ms,.int .i64 md,.int .i64 mk,.int .i64 mq,.int .i64 m0,.int .i64 m1,.int .i64 m2,.int .i64 m3,mv]] w fun e w'=>e= .returned (.tuple #[.int .i64 (Lg.seeL x.led ms mq).2.1,.int .i64 (Lg.seeL x.led ms mq).2.2])∧Below w.heap.size w w':=by
 obtain ⟨iv,wv,nv,tv,lv,rfl,hiv,hwv,hnv,htv,hlv⟩:=hv
 obtain ⟨ia,ic,rfl⟩:=Rs hiv
 obtain ⟨wa,wc,rfl⟩:=Rs hwv
 obtain ⟨na,nc,rfl⟩:=Rs hnv
 obtain ⟨ta,tc,rfl⟩:=htv.slice
 obtain ⟨la,lc,rfl⟩:=Rs hlv
 simp only[RUc,List.length_nil] at hnv htv⊢
 have HIV:=Hj hiv;have HWV:=Hj hwv;have HNV:=Hj hnv;have HTV:=Hj htv;have HLV:=Hj hlv
 clear hiv hwv hnv htv hlv
 obtain ⟨w1,hw1⟩:∃W,W=w.alloc (.cells #[.int .i64 x.task,.slice ia img.length ic,.slice wa img.length wc,.slice na 0 nc,.int .i64 ver,.bool false,.bool false,.slice ta 0 tc,.slice la x.led.length lc,.int .i64 x.num,.int .i64 x.att,.int .i64 x.i0,.int .i64 x.i1,.int .i64 x.gr,.bool x.down,.int .i64 x.lost] 36):=⟨_,rfl⟩
 obtain ⟨w2,hw2⟩:∃W,W=w1.alloc (.cells #[.int .i64 ms,.int .i64 md,.int .i64 mk,.int .i64 mq,.int .i64 m0,.int .i64 m1,.int .i64 m2,.int .i64 m3,mv] 44):=⟨_,rfl⟩
 have z1:w1.heap.size=w.heap.size+1:=by rw[hw1];simp
 have z2:w2.heap.size=w.heap.size+1+1:=by rw[hw2];simp[z1]
 have b1:Below w.heap.size w w1:=by rw[hw1];exact (Br _ w).alloc (Nr _) _
 have n1:w1.heap[w.heap.size]? =some (.cells #[.int .i64 x.task,.slice ia img.length ic,.slice wa img.length wc,.slice na 0 nc,.int .i64 ver,.bool false,.bool false,.slice ta 0 tc,.slice la x.led.length lc,.int .i64 x.num,.int .i64 x.att,.int .i64 x.i0,.int .i64 x.i1,.int .i64 x.gr,.bool x.down,.int .i64 x.lost] 36 (0,0)):=by rw[hw1];exact heap_alloc_new w _
 have b2:Below w1.heap.size w1 w2:=by rw[hw2];exact (Br _ w1).alloc (Nr _) _
 have n2:w2.heap[w.heap.size+1]? =some (.cells #[.int .i64 ms,.int .i64 md,.int .i64 mk,.int .i64 mq,.int .i64 m0,.int .i64 m1,.int .i64 m2,.int .i64 m3,mv] 44 (0,0)):=by rw[hw2,←z1];exact heap_alloc_new w1 _
 have t1:=b1
 have t2:=t1.trans (b2.mono t1.size)
 have HU2:=Hj ((b2.block _ (by omega)).trans (n1))
 have HM2:=Hj (n2)
 have HW1:=Hj hw1
 have HW2:=Hj hw2
 have bel2:=t2
 have hz2:=t2.size
 clear hw1 b1 n1 t1 hw2 b2 n2 t2
 go_enter Tryz.func10,Tryz.ntmps10
 go_upto_region 1 with (fail)
 rw[←HW1.out,←HW2.out]
 obtain ⟨U,hU⟩:∃A,A=w.heap.size:=⟨_,rfl⟩
 obtain ⟨M,hM⟩:∃A,A=w.heap.size+1:=⟨_,rfl⟩
 rw[←hM,←hU]
 rw[←hU] at HU2
 rw[←hM] at HM2
 have qU:w.heap.size≤U:=by omega
 have lU:U<w2.heap.size:=by omega
 have qM:w.heap.size≤M:=by omega
 have lM:M<w2.heap.size:=by omega
 have dU:U<M:=by omega
 clear hU hM z1 HW1 z2 HW2
 have cU_0:=Bj HU2.out 0 rfl
 have cU_1:=Bj HU2.out 1 rfl
 have cU_2:=Bj HU2.out 2 rfl
 have cU_3:=Bj HU2.out 3 rfl
 have cU_4:=Bj HU2.out 4 rfl
 have cU_5:=Bj HU2.out 5 rfl
 have cU_6:=Bj HU2.out 6 rfl
 have cU_7:=Bj HU2.out 7 rfl
 have cU_8:=Bj HU2.out 8 rfl
 have cU_9:=Bj HU2.out 9 rfl
 have cU_10:=Bj HU2.out 10 rfl
 have cU_11:=Bj HU2.out 11 rfl
 have cU_12:=Bj HU2.out 12 rfl
 have cU_13:=Bj HU2.out 13 rfl
 have cU_14:=Bj HU2.out 14 rfl
 have cU_15:=Bj HU2.out 15 rfl
 have cM_0:=Bj HM2.out 0 rfl
 have cM_1:=Bj HM2.out 1 rfl
 have cM_2:=Bj HM2.out 2 rfl
 have cM_3:=Bj HM2.out 3 rfl
 have cM_4:=Bj HM2.out 4 rfl
 have cM_5:=Bj HM2.out 5 rfl
 have cM_6:=Bj HM2.out 6 rfl
 have cM_7:=Bj HM2.out 7 rfl
 have cM_8:=Bj HM2.out 8 rfl
 go_wp2_with fail
 refine (Ldg.rsee_any _ x.led ms mq _ (by omega) (Raw.to_nil (Rb HLV.out bel2)) hq1 hq2).mono ?_
 rintro e w3 ⟨v3,rfl,hl3,hb3⟩
 clear cU_0 cU_1 cU_2 cU_3 cU_4 cU_5 cU_6 cU_7 cU_8 cU_9 cU_10 cU_11 cU_12 cU_13 cU_14 cU_15 cM_0 cM_1 cM_2 cM_3 cM_4 cM_5 cM_6 cM_7 cM_8
 have HU3:=Hj (Kb hb3 HU2.out)
 have HM3:=Hj (Kb hb3 HM2.out)
 clear HU2 HM2
 have bel3:=bel2.trans (hb3.mono bel2.size)
 go_wp2
 refine bodyPost_ret (results_tmp2 rfl _ _ _) rfl ?_
 exact ⟨rfl,bel3⟩
theorem rhits31_any {F:List Nat} (v:Value) (x:Us) (img:List UInt8) (ver:Nat) (p:FP) (w:World) (hv:RUV F w v x img ver):
  Calls Tryz.prog 41 #[v,.agg p.cs] w fun e w'=>e= .returned (.agg (qof x p).cs)∧Below w.heap.size w w':=by
 simp only[FP.cs]
 obtain ⟨iv,wv,nv,tv,lv,rfl,hiv,hwv,hnv,htv,hlv⟩:=hv
 obtain ⟨ia,ic,rfl⟩:=Rs hiv
 obtain ⟨wa,wc,rfl⟩:=Rs hwv
 obtain ⟨na,nc,rfl⟩:=Rs hnv
 obtain ⟨ta,tc,rfl⟩:=htv.slice
 obtain ⟨la,lc,rfl⟩:=Rs hlv
 simp only[RUc,List.length_nil] at hnv htv⊢
 have HIV:=Hj hiv;have HWV:=Hj hwv;have HNV:=Hj hnv;have HTV:=Hj htv;have HLV:=Hj hlv
 clear hiv hwv hnv htv hlv
 obtain ⟨w1,hw1⟩:∃W,W=w.alloc (.cells #[.int .i64 x.task,.slice ia img.length ic,.slice wa img.length wc,.slice na 0 nc,.int .i64 ver,.bool false,.bool false,.slice ta 0 tc,.slice la x.led.length lc,.int .i64 x.num,.int .i64 x.att,.int .i64 x.i0,.int .i64 x.i1,.int .i64 x.gr,.bool x.down,.int .i64 x.lost] 36):=⟨_,rfl⟩
 obtain ⟨w2,hw2⟩:∃W,W=w1.alloc (.cells #[.int .i64 p.c,.int .i64 p.n,.int .i64 p.e,.int .i64 p.k,.int .i64 p.s,.int .i64 p.pl,.int .i64 p.m] 41):=⟨_,rfl⟩
 obtain ⟨w3,hw3⟩:∃W,W=w2.alloc (.cells #[.int .i64 0,.int .i64 0,.int .i64 0,.int .i64 0,.int .i64 0,.int .i64 0,.int .i64 0] 41):=⟨_,rfl⟩
 have z1:w1.heap.size=w.heap.size+1:=by rw[hw1];simp
 have z2:w2.heap.size=w.heap.size+1+1:=by rw[hw2];simp[z1]
 have z3:w3.heap.size=w.heap.size+1+1+1:=by rw[hw3];simp[z2]
 have b1:Below w.heap.size w w1:=by rw[hw1];exact (Br _ w).alloc (Nr _) _
 have n1:w1.heap[w.heap.size]? =some (.cells #[.int .i64 x.task,.slice ia img.length ic,.slice wa img.length wc,.slice na 0 nc,.int .i64 ver,.bool false,.bool false,.slice ta 0 tc,.slice la x.led.length lc,.int .i64 x.num,.int .i64 x.att,.int .i64 x.i0,.int .i64 x.i1,.int .i64 x.gr,.bool x.down,.int .i64 x.lost] 36 (0,0)):=by rw[hw1];exact heap_alloc_new w _
 have b2:Below w1.heap.size w1 w2:=by rw[hw2];exact (Br _ w1).alloc (Nr _) _
 have n2:w2.heap[w.heap.size+1]? =some (.cells #[.int .i64 p.c,.int .i64 p.n,.int .i64 p.e,.int .i64 p.k,.int .i64 p.s,.int .i64 p.pl,.int .i64 p.m] 41 (0,0)):=by rw[hw2,←z1];exact heap_alloc_new w1 _
 have b3:Below w2.heap.size w2 w3:=by rw[hw3];exact (Br _ w2).alloc (Nr _) _
 have n3:w3.heap[w.heap.size+1+1]? =some (.cells #[.int .i64 0,.int .i64 0,.int .i64 0,.int .i64 0,.int .i64 0,.int .i64 0,.int .i64 0] 41 (0,0)):=by rw[hw3,←z2];exact heap_alloc_new w2 _
 have t1:=b1
 have t2:=t1.trans (b2.mono t1.size)
 have t3:=t2.trans (b3.mono t2.size)
 have HU3:=Hj ((b3.block _ (by omega)).trans ((b2.block _ (by omega)).trans (n1)))
 have HP3:=Hj ((b3.block _ (by omega)).trans (n2))
 have HR3:=Hj (n3)
 have HW1:=Hj hw1
 have HW2:=Hj hw2
 have HW3:=Hj hw3
 have bel3:=t3
 have hz3:=t3.size
 clear hw1 b1 n1 t1 hw2 b2 n2 t2 hw3 b3 n3 t3
 go_enter Tryz.func41,Tryz.ntmps41
 go_upto_region 1 with (fail)
 rw[←HW1.out,←HW2.out,←HW3.out]
 obtain ⟨U,hU⟩:∃A,A=w.heap.size:=⟨_,rfl⟩
 obtain ⟨P,hP⟩:∃A,A=w.heap.size+1:=⟨_,rfl⟩
 obtain ⟨R,hR⟩:∃A,A=w.heap.size+1+1:=⟨_,rfl⟩
 rw[←hR,←hP,←hU]
 rw[←hU] at HU3
 rw[←hP] at HP3
 rw[←hR] at HR3
 have qU:w.heap.size≤U:=by omega
 have lU:U<w3.heap.size:=by omega
 have qP:w.heap.size≤P:=by omega
 have lP:P<w3.heap.size:=by omega
 have qR:w.heap.size≤R:=by omega
 have lR:R<w3.heap.size:=by omega
 have dU:U<P:=by omega
 have dP:P<R:=by omega
 clear hU hP hR z1 HW1 z2 HW2 z3 HW3
 have cU_0:=Bj HU3.out 0 rfl
 have cU_1:=Bj HU3.out 1 rfl
 have cU_2:=Bj HU3.out 2 rfl
 have cU_3:=Bj HU3.out 3 rfl
 have cU_4:=Bj HU3.out 4 rfl
 have cU_5:=Bj HU3.out 5 rfl
 have cU_6:=Bj HU3.out 6 rfl
 have cU_7:=Bj HU3.out 7 rfl
 have cU_8:=Bj HU3.out 8 rfl
 have cU_9:=Bj HU3.out 9 rfl
 have cU_10:=Bj HU3.out 10 rfl
 have cU_11:=Bj HU3.out 11 rfl
 have cU_12:=Bj HU3.out 12 rfl
 have cU_13:=Bj HU3.out 13 rfl
 have cU_14:=Bj HU3.out 14 rfl
 have cU_15:=Bj HU3.out 15 rfl
 have cP_0:=Bj HP3.out 0 rfl
 have cP_1:=Bj HP3.out 1 rfl
 have cP_2:=Bj HP3.out 2 rfl
 have cP_3:=Bj HP3.out 3 rfl
 have cP_4:=Bj HP3.out 4 rfl
 have cP_5:=Bj HP3.out 5 rfl
 have cP_6:=Bj HP3.out 6 rfl
 go_wp2_with fail
 refine (rhits_any p x.task x.num x.att _).mono ?_
 rintro e w4 ⟨rfl,hb4⟩
 clear cU_0 cU_1 cU_2 cU_3 cU_4 cU_5 cU_6 cU_7 cU_8 cU_9 cU_10 cU_11 cU_12 cU_13 cU_14 cU_15 cP_0 cP_1 cP_2 cP_3 cP_4 cP_5 cP_6
 have HU4:=Hj (Kb hb4 HU3.out)
 have HP4:=Hj (Kb hb4 HP3.out)
 have HR4:=Hj (Kb hb4 HR3.out)
 clear HU3 HP3 HR3
 have bel4:=bel3.trans (hb4.mono bel3.size)
 cases hh:p.hits x.task x.num x.att
 rotate_left
 ·have HH:=Hj hh
  clear hh
  have cR_0:=Bj HR4.out 0 rfl
  have cR_1:=Bj HR4.out 1 rfl
  have cR_2:=Bj HR4.out 2 rfl
  have cR_3:=Bj HR4.out 3 rfl
  have cR_4:=Bj HR4.out 4 rfl
  have cR_5:=Bj HR4.out 5 rfl
  have cR_6:=Bj HR4.out 6 rfl
  have gR_0:=Bf HR4.out 0
  have gR_1:=Bf HR4.out 1
  have gR_2:=Bf HR4.out 2
  have gR_3:=Bf HR4.out 3
  have gR_4:=Bf HR4.out 4
  have gR_5:=Bf HR4.out 5
  have gR_6:=Bf HR4.out 6
  have cP_0:=Bj HP4.out 0 rfl
  have cP_1:=Bj HP4.out 1 rfl
  have cP_2:=Bj HP4.out 2 rfl
  have cP_3:=Bj HP4.out 3 rfl
  have cP_4:=Bj HP4.out 4 rfl
  have cP_5:=Bj HP4.out 5 rfl
  have cP_6:=Bj HP4.out 6 rfl
  go_wp2
  obtain ⟨w5,hN⟩:∃X,X=(((((((w4.setCell ⟨R,0,none⟩ (.int .i64 p.c)).setCell ⟨R,1,none⟩ (.int .i64 p.n)).setCell ⟨R,2,none⟩ (.int .i64 p.e)).setCell ⟨R,3,none⟩ (.int .i64 p.k)).setCell ⟨R,4,none⟩ (.int .i64 p.s)).setCell ⟨R,5,none⟩ (.int .i64 p.pl)).setCell ⟨R,6,none⟩ (.int .i64 p.m)):=⟨_,rfl⟩
  rw[←hN]
  obtain ⟨hNb,hNk⟩:=puts_all [.int .i64 p.c,.int .i64 p.n,.int .i64 p.e,.int .i64 p.k,.int .i64 p.s,.int .i64 p.pl,.int .i64 p.m] HR4.out rfl
  have hNe:puts w4 R (enumV 0 [.int .i64 p.c,.int .i64 p.n,.int .i64 p.e,.int .i64 p.k,.int .i64 p.s,.int .i64 p.pl,.int .i64 p.m])=w5:=hN.symm
  rw[hNe] at hNb hNk
  have HR5:Hid (w5.heap[R]? =some (.cells #[.int .i64 p.c,.int .i64 p.n,.int .i64 p.e,.int .i64 p.k,.int .i64 p.s,.int .i64 p.pl,.int .i64 p.m] 41 (0,0))):=Hj hNb
  have hNz:=hNk.size
  clear cR_0 cR_1 cR_2 cR_3 cR_4 cR_5 cR_6 gR_0 gR_1 gR_2 gR_3 gR_4 gR_5 gR_6 cP_0 cP_1 cP_2 cP_3 cP_4 cP_5 cP_6
  have HU5:=Hj ((hNk.block U (Al HU4.out) (by simp;omega)).trans HU4.out)
  have HP5:=Hj ((hNk.block P (Al HP4.out) (by simp;omega)).trans HP4.out)
  clear hN hNe hNb HU4 HP4 HR4
  have bel5:Below w.heap.size w w5:=below_keep bel4 hNk (fun f hf=>by rw[M1' hf];exact qR)
  clear hNk
  refine bodyPost_ret (results_c rfl _ _ _ _ _ _ _ rfl HR5.out Tryz.underlying41 rfl (by kernel_rfl)) rfl ?_
  exact ⟨by unfold qof;rw[if_pos HH.out],bel5⟩
 have HH:=Hj hh
 clear hh
 have cR_0:=Bj HR4.out 0 rfl
 have cR_1:=Bj HR4.out 1 rfl
 have cR_2:=Bj HR4.out 2 rfl
 have cR_3:=Bj HR4.out 3 rfl
 have cR_4:=Bj HR4.out 4 rfl
 have cR_5:=Bj HR4.out 5 rfl
 have cR_6:=Bj HR4.out 6 rfl
 have gR_0:=Bf HR4.out 0
 have gR_1:=Bf HR4.out 1
 have gR_2:=Bf HR4.out 2
 have gR_3:=Bf HR4.out 3
 have gR_4:=Bf HR4.out 4
 have gR_5:=Bf HR4.out 5
 have gR_6:=Bf HR4.out 6
 have cP_0:=Bj HP4.out 0 rfl
 have cP_1:=Bj HP4.out 1 rfl
 have cP_2:=Bj HP4.out 2 rfl
 have cP_3:=Bj HP4.out 3 rfl
 have cP_4:=Bj HP4.out 4 rfl
 have cP_5:=Bj HP4.out 5 rfl
 have cP_6:=Bj HP4.out 6 rfl
 go_wp2
 obtain ⟨w5,hN⟩:∃X,X=(((((((w4.setCell ⟨R,0,none⟩ (.int .i64 0)).setCell ⟨R,1,none⟩ (.int .i64 0)).setCell ⟨R,2,none⟩ (.int .i64 0)).setCell ⟨R,3,none⟩ (.int .i64 0)).setCell ⟨R,4,none⟩ (.int .i64 0)).setCell ⟨R,5,none⟩ (.int .i64 0)).setCell ⟨R,6,none⟩ (.int .i64 0)):=⟨_,rfl⟩
 rw[←hN]
 obtain ⟨hNb,hNk⟩:=puts_all [.int .i64 0,.int .i64 0,.int .i64 0,.int .i64 0,.int .i64 0,.int .i64 0,.int .i64 0] HR4.out rfl
 have hNe:puts w4 R (enumV 0 [.int .i64 0,.int .i64 0,.int .i64 0,.int .i64 0,.int .i64 0,.int .i64 0,.int .i64 0])=w5:=hN.symm
 rw[hNe] at hNb hNk
 have HR5:Hid (w5.heap[R]? =some (.cells #[.int .i64 0,.int .i64 0,.int .i64 0,.int .i64 0,.int .i64 0,.int .i64 0,.int .i64 0] 41 (0,0))):=Hj hNb
 have hNz:=hNk.size
 clear cR_0 cR_1 cR_2 cR_3 cR_4 cR_5 cR_6 gR_0 gR_1 gR_2 gR_3 gR_4 gR_5 gR_6 cP_0 cP_1 cP_2 cP_3 cP_4 cP_5 cP_6
 have HU5:=Hj ((hNk.block U (Al HU4.out) (by simp;omega)).trans HU4.out)
 have HP5:=Hj ((hNk.block P (Al HP4.out) (by simp;omega)).trans HP4.out)
 clear hN hNe hNb HU4 HP4 HR4
 have bel5:Below w.heap.size w w5:=below_keep bel4 hNk (fun f hf=>by rw[M1' hf];exact qR)
 clear hNk
 refine bodyPost_ret (results_c rfl _ _ _ _ _ _ _ rfl HR5.out Tryz.underlying41 rfl (by kernel_rfl)) rfl ?_
 exact ⟨by unfold qof;rw[if_neg (by rw[HH.out];decide)];rfl,bel5⟩
theorem rfailed31_any {F:List Nat} (v:Value) (x:Us) (img:List UInt8) (ver:Nat) (n:Int) (w:World) (ha:0≤x.att∧x.att≤1000000) (hv:RUV F w v x img ver):
  Calls Tryz.prog 52 #[v,.int .i64 n] w fun e w'=>∃v',e= .returned v'∧RUV F w' v' (downed x n) img ver∧Below w.heap.size w w':=by
 obtain ⟨ha1,ha2⟩:=ha
 obtain ⟨iv,wv,nv,tv,lv,rfl,hiv,hwv,hnv,htv,hlv⟩:=hv
 obtain ⟨ia,ic,rfl⟩:=Rs hiv
 obtain ⟨wa,wc,rfl⟩:=Rs hwv
 obtain ⟨na,nc,rfl⟩:=Rs hnv
 obtain ⟨ta,tc,rfl⟩:=htv.slice
 obtain ⟨la,lc,rfl⟩:=Rs hlv
 simp only[RUc,List.length_nil] at hnv htv⊢
 have HIV:=Hj hiv;have HWV:=Hj hwv;have HNV:=Hj hnv;have HTV:=Hj htv;have HLV:=Hj hlv
 clear hiv hwv hnv htv hlv
 obtain ⟨w1,hw1⟩:∃W,W=w.alloc (.cells #[.int .i64 x.task,.slice ia img.length ic,.slice wa img.length wc,.slice na 0 nc,.int .i64 ver,.bool false,.bool false,.slice ta 0 tc,.slice la x.led.length lc,.int .i64 x.num,.int .i64 x.att,.int .i64 x.i0,.int .i64 x.i1,.int .i64 x.gr,.bool x.down,.int .i64 x.lost] 36):=⟨_,rfl⟩
 obtain ⟨w2,hw2⟩:∃W,W=w1.alloc (.cells #[.int .i64 0,.slice none 0 0,.slice none 0 0,.slice none 0 0,.int .i64 0,.bool false,.bool false,.slice none 0 0,.slice none 0 0,.int .i64 0,.int .i64 0,.int .i64 0,.int .i64 0,.int .i64 0,.bool false,.int .i64 0] 36):=⟨_,rfl⟩
 have z1:w1.heap.size=w.heap.size+1:=by rw[hw1];simp
 have z2:w2.heap.size=w.heap.size+1+1:=by rw[hw2];simp[z1]
 have b1:Below w.heap.size w w1:=by rw[hw1];exact (Br _ w).alloc (Nr _) _
 have n1:w1.heap[w.heap.size]? =some (.cells #[.int .i64 x.task,.slice ia img.length ic,.slice wa img.length wc,.slice na 0 nc,.int .i64 ver,.bool false,.bool false,.slice ta 0 tc,.slice la x.led.length lc,.int .i64 x.num,.int .i64 x.att,.int .i64 x.i0,.int .i64 x.i1,.int .i64 x.gr,.bool x.down,.int .i64 x.lost] 36 (0,0)):=by rw[hw1];exact heap_alloc_new w _
 have b2:Below w1.heap.size w1 w2:=by rw[hw2];exact (Br _ w1).alloc (Nr _) _
 have n2:w2.heap[w.heap.size+1]? =some (.cells #[.int .i64 0,.slice none 0 0,.slice none 0 0,.slice none 0 0,.int .i64 0,.bool false,.bool false,.slice none 0 0,.slice none 0 0,.int .i64 0,.int .i64 0,.int .i64 0,.int .i64 0,.int .i64 0,.bool false,.int .i64 0] 36 (0,0)):=by rw[hw2,←z1];exact heap_alloc_new w1 _
 have t1:=b1
 have t2:=t1.trans (b2.mono t1.size)
 have HU2:=Hj ((b2.block _ (by omega)).trans (n1))
 have HR2:=Hj (n2)
 have HW1:=Hj hw1
 have HW2:=Hj hw2
 have bel2:=t2
 have hz2:=t2.size
 clear hw1 b1 n1 t1 hw2 b2 n2 t2
 go_enter Tryz.func52,Tryz.ntmps52
 go_upto_region 1 with (fail)
 rw[←HW1.out,←HW2.out]
 obtain ⟨U,hU⟩:∃A,A=w.heap.size:=⟨_,rfl⟩
 obtain ⟨R,hR⟩:∃A,A=w.heap.size+1:=⟨_,rfl⟩
 rw[←hR,←hU]
 rw[←hU] at HU2
 rw[←hR] at HR2
 have qU:w.heap.size≤U:=by omega
 have lU:U<w2.heap.size:=by omega
 have qR:w.heap.size≤R:=by omega
 have lR:R<w2.heap.size:=by omega
 have dU:U<R:=by omega
 clear hU hR z1 HW1 z2 HW2
 have cU_0:=Bj HU2.out 0 rfl
 have cU_1:=Bj HU2.out 1 rfl
 have cU_2:=Bj HU2.out 2 rfl
 have cU_3:=Bj HU2.out 3 rfl
 have cU_4:=Bj HU2.out 4 rfl
 have cU_5:=Bj HU2.out 5 rfl
 have cU_6:=Bj HU2.out 6 rfl
 have cU_7:=Bj HU2.out 7 rfl
 have cU_8:=Bj HU2.out 8 rfl
 have cU_9:=Bj HU2.out 9 rfl
 have cU_10:=Bj HU2.out 10 rfl
 have cU_11:=Bj HU2.out 11 rfl
 have cU_12:=Bj HU2.out 12 rfl
 have cU_13:=Bj HU2.out 13 rfl
 have cU_14:=Bj HU2.out 14 rfl
 have cU_15:=Bj HU2.out 15 rfl
 have gU_10:=Bf HU2.out 10
 have gU_14:=Bf HU2.out 14
 have gU_15:=Bf HU2.out 15
 go_upto_region 2 with (fail)
 obtain ⟨w3,hN⟩:∃X,X=(((w2.setCell ⟨U,14,none⟩ (.bool true)).setCell ⟨U,10,none⟩ (.int .i64 (x.att+1))).setCell ⟨U,15,none⟩ (.int .i64 (wrap64 (x.lost+n)))):=⟨_,rfl⟩
 rw[←hN]
 obtain ⟨hNb,hNk⟩:=puts_at [(14,.bool true),(10,.int .i64 (x.att+1)),(15,.int .i64 (wrap64 (x.lost+n)))] HU2.out
 have hNe:puts w2 U [(14,.bool true),(10,.int .i64 (x.att+1)),(15,.int .i64 (wrap64 (x.lost+n)))]=w3:=hN.symm
 rw[hNe] at hNb hNk
 have HU3:Hid (w3.heap[U]? =some (.cells #[.int .i64 x.task,.slice ia img.length ic,.slice wa img.length wc,.slice na 0 nc,.int .i64 ver,.bool false,.bool false,.slice ta 0 tc,.slice la x.led.length lc,.int .i64 x.num,.int .i64 (x.att+1),.int .i64 x.i0,.int .i64 x.i1,.int .i64 x.gr,.bool true,.int .i64 (wrap64 (x.lost+n))] 36 (0,0))):=Hj hNb
 have hNz:=hNk.size
 clear cU_0 cU_1 cU_2 cU_3 cU_4 cU_5 cU_6 cU_7 cU_8 cU_9 cU_10 cU_11 cU_12 cU_13 cU_14 cU_15 gU_10 gU_14 gU_15
 have HR3:=Hj ((hNk.block R (Al HR2.out) (by simp;omega)).trans HR2.out)
 clear hN hNe hNb HU2 HR2
 have bel3:Below w.heap.size w w3:=below_keep bel2 hNk (fun f hf=>by rw[M1' hf];exact qU)
 clear hNk
 go_step
 refine wpList_load_row rfl 36 _ rfl U rfl 36 #[.int .i64 x.task,.slice ia img.length ic,.slice wa img.length wc,.slice na 0 nc,.int .i64 ver,.bool false,.bool false,.slice ta 0 tc,.slice la x.led.length lc,.int .i64 x.num,.int .i64 (x.att+1),.int .i64 x.i0,.int .i64 x.i1,.int .i64 x.gr,.bool true,.int .i64 (wrap64 (x.lost+n))] (0,0) _ HU3.out Tryz.underlying36 rfl (by kernel_rfl) ?_
 refine wpList_store_row rfl 36 _ _ rfl R #[.int .i64 x.task,.slice ia img.length ic,.slice wa img.length wc,.slice na 0 nc,.int .i64 ver,.bool false,.bool false,.slice ta 0 tc,.slice la x.led.length lc,.int .i64 x.num,.int .i64 (x.att+1),.int .i64 x.i0,.int .i64 x.i1,.int .i64 x.gr,.bool true,.int .i64 (wrap64 (x.lost+n))] rfl rfl 36 #[.int .i64 0,.slice none 0 0,.slice none 0 0,.slice none 0 0,.int .i64 0,.bool false,.bool false,.slice none 0 0,.slice none 0 0,.int .i64 0,.int .i64 0,.int .i64 0,.int .i64 0,.int .i64 0,.bool false,.int .i64 0] HR3.out (by kernel_rfl) rfl (by kernel_rfl) ?_
 go_wp2
 obtain ⟨w4,hN⟩:∃X,X=w3.setRow R #[.int .i64 x.task,.slice ia img.length ic,.slice wa img.length wc,.slice na 0 nc,.int .i64 ver,.bool false,.bool false,.slice ta 0 tc,.slice la x.led.length lc,.int .i64 x.num,.int .i64 (x.att+1),.int .i64 x.i0,.int .i64 x.i1,.int .i64 x.gr,.bool true,.int .i64 (wrap64 (x.lost+n))]:=⟨_,rfl⟩
 rw[←hN]
 have hNk:Keep [R] w3 w4:=by rw[hN];exact keep_setRow _ _ _
 have HR4:Hid (w4.heap[R]? =some (.cells #[.int .i64 x.task,.slice ia img.length ic,.slice wa img.length wc,.slice na 0 nc,.int .i64 ver,.bool false,.bool false,.slice ta 0 tc,.slice la x.led.length lc,.int .i64 x.num,.int .i64 (x.att+1),.int .i64 x.i0,.int .i64 x.i1,.int .i64 x.gr,.bool true,.int .i64 (wrap64 (x.lost+n))] 36 (0,0))):=Hj (by rw[hN];exact setRow_heap _ _ _ _ _ _ HR3.out)
 have hNz:=hNk.size
 have HU4:=Hj ((hNk.block U (Al HU3.out) (by simp;omega)).trans HU3.out)
 clear hN HU3 HR3
 have bel4:Below w.heap.size w w4:=below_keep bel3 hNk (fun f hf=>by rw[M1' hf];exact qR)
 clear hNk
 refine bodyPost_ret (results_c rfl _ _ _ _ _ _ _ rfl HR4.out Tryz.underlying36 rfl (by kernel_rfl)) rfl ?_
 exact ⟨_,rfl,⟨_,_,_,_,_,rfl,Rb HIV.out bel4,Rb HWV.out bel4,Rb HNV.out bel4,HTV.out.below bel4,Rb HLV.out bel4⟩,bel4⟩
theorem rcount2_any (n:Int) (h1: -9223372036854775808≤n) (h2:n≤9223372036854775807) (w:World):Calls Tryz.prog 101 #[.int .i64 n] w fun e w'=>e= .returned (.int .i64 (acnt n))∧w=w':=by
 by_cases h:n≤0
 ·go_enter Tryz.func101,Tryz.ntmps101
  go_wp2
  go_ret
  exact ⟨ret_int (by unfold acnt;rw[if_pos h]),rfl⟩
 have h3:0≤n - 1:=by omega
 go_enter Tryz.func101,Tryz.ntmps101
 go_wp2
 go_ret
 exact ⟨ret_int (by unfold acnt;rw[if_neg (by omega)]),rfl⟩
theorem rrestart_any (n:Int) (h1: -9223372036854775808≤n) (h2:n≤9223372036854775807) (w:World):Calls Tryz.prog 44 #[.int .i64 n] w fun e w'=>e= .returned (.int .i64 (acnt n+1))∧w=w':=by
 go_enter Tryz.func44,Tryz.ntmps44
 go_wp2_with fail
 refine (rcount2_any n h1 h2 _).mono ?_
 rintro e w1 ⟨rfl,rfl⟩
 have a1:=acnt_lo n
 have a3:=acnt_hi n h2
 obtain ⟨x,hx⟩:∃x,x=acnt n:=⟨_,rfl⟩
 rw[←hx] at a1 a3⊢
 have HX:=Hj hx
 clear hx
 go_wp2
 go_ret
 exact ⟨by rw[←HX.out];rfl,rfl⟩
end Go.Proofs.YtipiofgdjbogiaaGreat
