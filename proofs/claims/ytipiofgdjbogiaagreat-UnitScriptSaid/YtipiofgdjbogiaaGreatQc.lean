/- fault: the inputs of an execution -/
import Derived.Test.YtipiofgdjbogiaaGreatM5
import Derived.Deep.CutRange
set_option maxRecDepth 100000
set_option maxHeartbeats 4000000
namespace Go.Fa
open Go Go.Txt Go.RowKit Go.Bs Go.Cl Go.Rw
def finp (p:FP) (y:Int) (im ms:List UInt8):List UInt8×List UInt8:=
 if p.ok=true∧p.e=y then ((if p.k=4 then chg im p.pl p.m else im),(if p.k=5 then chg ms p.pl p.m else ms)) else (im,ms)
theorem finp_other {p:FP} {y:Int} {im ms:List UInt8} (h:p.e≠y):finp p y im ms=(im,ms):=by
 unfold finp
 rw[if_neg (fun h'=>h h'.2)]
theorem finp_bad {p:FP} {y:Int} {im ms:List UInt8} (h:p.ok=false):finp p y im ms=(im,ms):=by
 unfold finp
 rw[h,if_neg (fun h'=>by cases h'.1)]
end Go.Fa
namespace Go.Proofs.YtipiofgdjbogiaaGreat
open Go.Txt Go.RowKit Go.Bs Go.Cl Go.Rw Go.Un Go.Im Go.Fa
theorem finput_any (F:List Nat) (p:FP) (y:Int) (im ms:List UInt8) (iv mv:Value) (w:World) (hil:im.length≤24000) (hml:ms.length≤24000) (hI:Bytes F w iv im) (hM:Bytes F w mv ms):
  Calls Tryz.prog 37 #[.agg p.cs,.int .i64 y,iv,mv] w fun e w'=>∃v1 v2,e= .returned (.tuple #[v1,v2])∧
   w'.ownsRow w.heap.size 5 1 v1 (finp p y im ms).1.length (bytesV (finp p y im ms).1)∧w'.ownsRow w.heap.size 5 1 v2 (finp p y im ms).2.length (bytesV (finp p y im ms).2)∧Below w.heap.size w w':=by
 have HV:=Hj (valid_any p)
 obtain ⟨pc,pn,pe,pk,ps,ppl,pm⟩:=p
 obtain ⟨ia,ic,rfl⟩:=Rs hI
 obtain ⟨ma,mc,rfl⟩:=Rs hM
 simp only[FP.cs] at HV⊢
 obtain ⟨P,hP⟩:∃P,P=w.heap.size:=⟨_,rfl⟩
 obtain ⟨w1,hw1⟩:∃W,W=w.alloc (.cells #[.int .i64 pc,.int .i64 pn,.int .i64 pe,.int .i64 pk,.int .i64 ps,.int .i64 ppl,.int .i64 pm] 56):=⟨_,rfl⟩
 have bel1:Below w.heap.size w w1:=by rw[hw1];exact (Br _ w).alloc (Nr _) _
 have hxP:w1.heap[P]? =some (.cells #[.int .i64 pc,.int .i64 pn,.int .i64 pe,.int .i64 pk,.int .i64 ps,.int .i64 ppl,.int .i64 pm] 56 (0,0)):=by rw[hw1,hP];exact heap_alloc_new w _
 have hI1:=Rb hI bel1
 have hM1:=Rb hM bel1
 have HP1:=Hj (hxP)
 have HI1:=Hj (hI1)
 have HM1:=Hj (hM1)
 have HW:=Hj hw1
 have HRP:=Hj hP
 clear hw1 hP hxP hI hM hI1 hM1
 go_enter Tryz.func37,Tryz.ntmps37
 go_upto_region 1 with (fail)
 rw[←HW.out,←HRP.out]
 clear HW HRP
 go_wp2_with fail
 refine (clone33 _ (by omega) HI1.out).mono ?_
 rintro e w2 ⟨v2,rfl,hr2,hb2⟩
 have HP2:=Hj (Kb hb2 HP1.out)
 have HI2:=Hj (Rb HI1.out hb2)
 have HM2:=Hj (Rb HM1.out hb2)
 clear HP1 HI1 HM1
 have bel2:=bel1.trans (hb2.mono bel1.size)
 have hr2:=own_base hr2 bel1.size
 have HA2:=Hj (hr2)
 obtain ⟨a2,c2,rfl⟩:=Oq hr2
 clear hr2 hb2
 go_wp2_with fail
 refine (clone33 _ (by omega) HM2.out).mono ?_
 rintro e w3 ⟨v3,rfl,hr3,hb3⟩
 have HP3:=Hj (Kb hb3 HP2.out)
 have HI3:=Hj (Rb HI2.out hb3)
 have HM3:=Hj (Rb HM2.out hb3)
 have HA3:=Hj (own_below HA2.out hb3 (Nr _))
 clear HP2 HI2 HM2 HA2
 have bel3:=bel2.trans (hb3.mono bel2.size)
 have hr3:=own_base hr3 bel2.size
 have HB3:=Hj (hr3)
 obtain ⟨a3,c3,rfl⟩:=Oq hr3
 clear hr3 hb3
 clear HI3 HM3
 have cP_0:=Bj HP3.out 0 rfl
 have cP_1:=Bj HP3.out 1 rfl
 have cP_2:=Bj HP3.out 2 rfl
 have cP_3:=Bj HP3.out 3 rfl
 have cP_4:=Bj HP3.out 4 rfl
 have cP_5:=Bj HP3.out 5 rfl
 have cP_6:=Bj HP3.out 6 rfl
 go_wp2_with fail
 refine (HV.out _).mono ?_
 rintro e w4 ⟨rfl,hb4⟩
 clear cP_0 cP_1 cP_2 cP_3 cP_4 cP_5 cP_6
 have HP4:=Hj (Kb hb4 HP3.out)
 have HA4:=Hj (own_below HA3.out hb4 (Nr _))
 have HB4:=Hj (own_below HB3.out hb4 (Nr _))
 clear HP3 HA3 HB3
 have bel4:=bel3.trans (hb4.mono bel3.size)
 clear hb4
 have cP_0:=Bj HP4.out 0 rfl
 have cP_1:=Bj HP4.out 1 rfl
 have cP_2:=Bj HP4.out 2 rfl
 have cP_3:=Bj HP4.out 3 rfl
 have cP_4:=Bj HP4.out 4 rfl
 have cP_5:=Bj HP4.out 5 rfl
 have cP_6:=Bj HP4.out 6 rfl
 by_cases hv:FP.ok ⟨pc,pn,pe,pk,ps,ppl,pm⟩=true
 rotate_left
 ·have hv2:FP.ok ⟨pc,pn,pe,pk,ps,ppl,pm⟩=false:=by simpa using hv
  have HE:=Hj (finp_bad (y:=y) (im:=im) (ms:=ms) hv2)
  rw[hv2]
  clear hv hv2
  go_wp2
  refine bodyPost_ret (results_tmp2 rfl _ _ _) rfl ?_
  exact ⟨_,_,rfl,by rw[HE.out];exact HA4.out,by rw[HE.out];exact HB4.out,bel4⟩
 by_cases he:pe=y
 rotate_left
 ·have HE:=Hj (finp_other (p:=⟨pc,pn,pe,pk,ps,ppl,pm⟩) (im:=im) (ms:=ms) he)
  have he2:(pe==y)=false:=by simp[he]
  rw[hv]
  clear hv he
  go_wp2
  refine bodyPost_ret (results_tmp2 rfl _ _ _) rfl ?_
  exact ⟨_,_,rfl,by rw[HE.out];exact HA4.out,by rw[HE.out];exact HB4.out,bel4⟩
 have he2:(pe==y)=true:=by simp[he]
 have HFI:Hid (finp ⟨pc,pn,pe,pk,ps,ppl,pm⟩ y im ms=((if pk=4 then chg im ppl pm else im),(if pk=5 then chg ms ppl pm else ms))):=Hj (by unfold finp;rw[if_pos ⟨hv,he⟩])
 rw[hv]
 clear hv he
 by_cases h4:pk=4
 ·have HE:Hid (finp ⟨pc,pn,pe,pk,ps,ppl,pm⟩ y im ms=(chg im ppl pm,ms)):=Hj (by rw[HFI.out,if_pos h4,if_neg (by omega)])
  subst h4
  go_wp2_with fail
  refine (change_any [] _ im ppl pm _ (by omega) (Bytes.row HA4.out rfl (fun f hf=>by cases hf))).mono ?_
  rintro e w5 ⟨v5,rfl,hr5,hb5⟩
  clear cP_0 cP_1 cP_2 cP_3 cP_4 cP_5 cP_6
  have HP5:=Hj (Kb hb5 HP4.out)
  have HA5:=Hj (own_below HA4.out hb5 (Nr _))
  have HB5:=Hj (own_below HB4.out hb5 (Nr _))
  clear HP4 HA4 HB4
  have bel5:=bel4.trans (hb5.mono bel4.size)
  have hr:=own_base hr5 bel4.size
  have HRR:Hid (w5.ownsRow w.heap.size 5 1 v5 (chg im ppl pm).length (bytesV (chg im ppl pm))):=Hj (by rw[chg_len];exact hr)
  clear hr hr5 hb5
  go_wp2
  refine bodyPost_ret (results_tmp2 rfl _ _ _) rfl ?_
  exact ⟨_,_,rfl,by rw[HE.out];exact HRR.out,by rw[HE.out];exact HB5.out,bel5⟩
 have e4:(pk==4)=false:=by simp[h4]
 by_cases h5:pk=5
 ·have HE:Hid (finp ⟨pc,pn,pe,pk,ps,ppl,pm⟩ y im ms=(im,chg ms ppl pm)):=Hj (by rw[HFI.out,if_neg h4,if_pos h5])
  subst h5
  go_wp2_with fail
  refine (change_any [] _ ms ppl pm _ (by omega) (Bytes.row HB4.out rfl (fun f hf=>by cases hf))).mono ?_
  rintro e w5 ⟨v5,rfl,hr5,hb5⟩
  clear cP_0 cP_1 cP_2 cP_3 cP_4 cP_5 cP_6
  have HP5:=Hj (Kb hb5 HP4.out)
  have HA5:=Hj (own_below HA4.out hb5 (Nr _))
  have HB5:=Hj (own_below HB4.out hb5 (Nr _))
  clear HP4 HA4 HB4
  have bel5:=bel4.trans (hb5.mono bel4.size)
  have hr:=own_base hr5 bel4.size
  have HRR:Hid (w5.ownsRow w.heap.size 5 1 v5 (chg ms ppl pm).length (bytesV (chg ms ppl pm))):=Hj (by rw[chg_len];exact hr)
  clear hr hr5 hb5
  go_wp2
  refine bodyPost_ret (results_tmp2 rfl _ _ _) rfl ?_
  exact ⟨_,_,rfl,by rw[HE.out];exact HA5.out,by rw[HE.out];exact HRR.out,bel5⟩
 have HE:Hid (finp ⟨pc,pn,pe,pk,ps,ppl,pm⟩ y im ms=(im,ms)):=Hj (by rw[HFI.out,if_neg h4,if_neg h5])
 have e5:(pk==5)=false:=by simp[h5]
 clear h4 h5
 go_wp2
 refine bodyPost_ret (results_tmp2 rfl _ _ _) rfl ?_
 exact ⟨_,_,rfl,by rw[HE.out];exact HA4.out,by rw[HE.out];exact HB4.out,bel4⟩
end Go.Proofs.YtipiofgdjbogiaaGreat
