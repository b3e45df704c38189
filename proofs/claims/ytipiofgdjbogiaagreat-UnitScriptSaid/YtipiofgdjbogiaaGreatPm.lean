/- Store: Clone -/
import Derived.Test.YtipiofgdjbogiaaGreatM3
set_option maxRecDepth 100000
set_option maxHeartbeats 4000000
namespace Go.Proofs.YtipiofgdjbogiaaGreat
open Go.Txt Go.RowKit Go.Bs Go.Cl Go.Rw Go.Un Go.Im
theorem clone_any {base g h:Nat} {iv rv:Value} {s:Ps} (w:World) (H:StAt w base g h iv rv s):
  Calls Tryz.prog 32 #[.pointer (some ⟨g,0,none⟩)] w fun e w'=>∃c,e= .returned (.pointer (some ⟨c,0,none⟩))∧Liv w c s w':=by
 have HA:=Hj H
 obtain ⟨imv,nxv,chv,rz,rs,H⟩:=H
 obtain ⟨image,ver,inst,next,done⟩:=s
 have hil:image.length≤24000:=H.good.il
 have hnl:next.length≤24000:=H.good.nl
 have hvl:(ver:Int)≤1000000:=by have:=H.good.vl;simp only at this;omega
 have hdl:done≤Ps.steps ⟨image,ver,inst,next,done⟩:=H.good.dl
 have hsl:Ps.steps ⟨image,ver,inst,next,done⟩≤1000:=H.good.sl
 have hoff:inst=false→next=[]∧done=0:=fun hi=>by
  obtain ⟨_,h1,h2⟩:=H.nil_of hi
  exact ⟨h2,h1⟩
 obtain ⟨ia,ic,rfl⟩:=Rs H.hi
 obtain ⟨na,nc,rfl⟩:=Rs H.hx
 have HIm:Hid (Bytes [] w (.slice ia image.length ic) image):=Hj (Raw.keep (F':=[]) H.hi (Keep.refl [] _) (by simp) (by simp))
 have HNx:Hid (Bytes [] w (.slice na next.length nc) next):=Hj (Raw.keep (F':=[]) H.hx (Keep.refl [] _) (by simp) (by simp))
 have HC:=Hj H.hc
 have hlt:=H.lt
 have c1:=Bj HC.out 1 rfl
 clear H
 have Hoff:=Hj hoff
 have Hdl:=Hj hdl
 have hd1:(done:Int)≤1000:=by omega
 clear hoff hdl hsl
 go_enter Tryz.func32,Tryz.ntmps32
 go_wp2_with fail
 refine (liv_new (w0:=w) _ image _ hil (Br _ _) HIm.out).mono ?_
 rintro e w1 ⟨c,rfl,hL⟩
 have HL1:=Hj hL
 obtain ⟨hb1,base',h',iv',rv',hbase,imv',nxv',chv',rz',rs',HB'⟩:=hL
 have HB:=Hj HB'
 have hcg:c≠g:=by have:=HB'.hg;omega
 have d7:=Bj HB'.hc 7 rfl
 have e7:=Bf HB'.hc 7
 have c7:=Bo ((hb1.block g hlt).trans HC.out) (j:=7) rfl
 have HBb:=Hj hb1;have Hbase:=Hj hbase
 clear HB' hb1 hbase
 go_upto_region 5 with (fail)
 obtain ⟨X,hX⟩:∃X,X=w1.setCell ⟨c,7,none⟩ (.int .i64 (ver:Int)):=⟨_,rfl⟩
 rw[←hX]
 obtain ⟨hgX,hkX⟩:=puts_at [(7,.int .i64 (ver:Int))] HB.out.hc
 have eX:puts w1 c [(7,.int .i64 (ver:Int))]=X:=hX.symm
 rw[eX] at hgX hkX
 have HLX:Hid (Liv w c ⟨image,ver,false,[],0⟩ X):=Hj (by
  have hgood:Ps.Good ⟨image,ver,false,[],0⟩:=⟨hil,by simp,by show ver≤1000000;omega,by simp[Ps.steps],fun _=>rfl⟩
  have hP:=StepP.same HB.out.hl
  have hn:rs'=[]:=(HB.out.nil_of rfl).1
  subst hn
  exact Liv.moved HBb.out Hbase.out ⟨_,_,_,_,_,HB.out⟩ (st_after HB.out (s':=⟨image,ver,false,[],0⟩) hP hgX hkX hgood HB.out.hi HB.out.hx HB.out.hch rfl rfl rfl (fun h=>by cases h)))
 clear hgX hkX hX eX d7 e7 c7
 have c2:=Bo ((HLX.out.1.block g hlt).trans HC.out) (j:=2) rfl
 go_wp2_with fail
 refine (inst_any _ (HA.out.below HLX.out.1)).mono ?_
 rintro e w' ⟨rfl,rfl⟩
 cases inst
 ·obtain ⟨hn,hd⟩:=Hoff.out rfl
  subst hn hd
  go_wp2
  go_ret
  exact ⟨c,rfl,HLX.out⟩
 obtain ⟨T,hT⟩:∃T,T=tot image next:=⟨_,rfl⟩
 have hdT:done≤T:=by rw[hT];exact Hdl.out
 have q1:Hid (psBegin ⟨image,ver,false,[],0⟩ next=(⟨image,ver,true,next,0⟩,T,0)):=Hj (by rw[hT];rfl)
 have HT:=Hj hT
 clear hT
 go_wp2_with fail
 refine (liv_begin _ next HLX.out hnl HNx.out).mono ?_
 rw[q1.out]
 rintro e w2 ⟨rfl,hL⟩
 have HL2:=Hj hL
 clear hL
 have c5:=Bo ((HL2.out.1.block g hlt).trans HC.out) (j:=5) rfl
 clear c2
 go_wp2
 clear c5
 go_loopw [34] (fun i wr=>∃k:Nat,k≤done∧i= .int .i64 (k:Int)∧Liv w c ⟨image,ver,true,next,k⟩ wr) (fun i _=>done - (intOf i).toNat)
 case atStart=>exact ⟨0,by omega,rfl,HL2.out⟩
 case round=>
  obtain ⟨k,hkd,rfl,hL⟩:=hrel
  have HR:=Hj hL
  clear hL HL2
  by_cases hlt2:k<done
  ·have hki:(k:Int)<done:=by omega
   have e3:Hid (psStep ⟨image,ver,true,next,k⟩=(⟨image,ver,true,next,k+1⟩,T - (k+1),0)):=Hj (by
    simp only[psStep,Ps.steps,if_true,stepped]
    rw[←HT.out,if_neg (by simp;omega)])
   go_wp2_with fail
   refine (liv_step HR.out).mono ?_
   rw[e3.out]
   rintro e w14 ⟨rfl,hL⟩
   have HL14:=Hj hL
   clear hL
   go_wp2
   go_roundw
   case rel=>exact ⟨k+1,by omega,by go_num,HL14.out⟩
   case measure=>simp[intOf];omega
  obtain rfl:k=done:=by omega
  go_wp2
  go_ret
  exact ⟨c,rfl,HR.out⟩
end Go.Proofs.YtipiofgdjbogiaaGreat
