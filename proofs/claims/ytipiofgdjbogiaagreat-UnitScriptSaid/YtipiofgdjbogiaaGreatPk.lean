/- Store: the program's state and the reference's -/
import Derived.Test.YtipiofgdjbogiaaGreatM3
import Derived.Test.YtipiofgdjbogiaaGreatKj
namespace Go.Im
open Go Go.Txt Go.RowKit Go.Bs Go.Cl Go.Rw Go.Un
def rfOf (s:Ps):Rf:=⟨s.image,s.work,s.next,s.ver,s.inst,s.inst&&(rzb s.image s.next&&decide (s.done=0)),if s.inst then (dif s.image s.next).drop (s.done - rzn s.image s.next) else []⟩
theorem rfOf_left {s:Ps} (h:s.Good):(rfOf s).left=s.steps - s.done:=by
 obtain ⟨image,ver,inst,next,done⟩:=s
 have hd:=h.dl
 cases inst
 ·simp[rfOf,Rf.left,Ps.steps]
 simp only[Ps.steps,if_true,tot] at hd⊢
 simp only[rfOf,Rf.left,if_true,Bool.true_and,List.length_drop]
 rw[rzn_of] at*
 cases hz:rzb image next
 ·simp
 rw[hz] at hd
 simp only[Bool.toNat_true,Bool.true_and] at hd⊢
 by_cases h0:done=0
 ·subst h0;simp
 simp[h0];omega
theorem rfOf_good {s:Ps} (h:s.Good):(rfOf s).Good:=by
 obtain ⟨image,ver,inst,next,done⟩:=s
 have h1:=h.il;have h2:=h.nl;have h3:=h.wl;have h4:=h.vl;have h5:=h.dl
 refine ⟨h1,h3,h2, ?_,h4,fun hr hi=> ?_,fun hi c hc=> ?_⟩
 ·cases inst
  ·simp[rfOf]
  simp only[rfOf,if_true,List.length_drop]
  have:=tot_le1000 (a:=image) (b:=next) h2
  unfold tot at this;omega
 ·have hi':inst=true:=hi
  subst hi'
  simp only[rfOf,Bool.true_and] at hr
  show (wk image next done).length=next.length
  rw[wk_len]
  split
  ·rename_i hlt
   rw[rzn_of] at hlt
   cases hz:rzb image next
   ·rw[hz] at hlt;simp at hlt
   rw[hz] at hr hlt
   simp at hr hlt
   omega
  rfl
 have hi':inst=true:=hi
 subst hi'
 simp only[rfOf,if_true] at hc
 exact dif_fit (List.mem_of_mem_drop hc)
end Go.Im
namespace Go.Proofs.YtipiofgdjbogiaaGreat
open Go.Txt Go.RowKit Go.Bs Go.Cl Go.Rw Go.Un Go.Im
theorem rf_begin {s:Ps} (h:s.Good) (b:List UInt8):rfBegin (rfOf s) b=(rfOf (psBegin s b).1,(psBegin s b).2.1,(psBegin s b).2.2):=by
 obtain ⟨image,ver,inst,next,done⟩:=s
 cases inst
 ·simp only[rfBegin,psBegin,rfOf,Ps.work,tot,rzn,rzb,Bool.false_eq_true,if_false,if_true,Bool.true_and,wk_zero,Nat.zero_sub,List.drop_zero,decide_true,Bool.and_true]
 simp[rfBegin,psBegin,rfOf]
theorem rf_step {s:Ps} (h:s.Good):rfStep (rfOf s)=(rfOf (psStep s).1,(psStep s).2.1,(psStep s).2.2):=by
 have hl:=rfOf_left h
 unfold rfStep psStep
 by_cases hno:s.inst=false∨s.done=s.steps
 ·rw[if_pos hno,if_pos]
  rcases hno with h1 | h1
  ·exact .inl h1
  exact .inr (by rw[hl];omega)
 have hi:s.inst=true:=by cases h:s.inst <;> simp_all
 have hd:s.done<s.steps:=by have:=h.dl;have:s.done≠s.steps:=fun e=>hno (.inr e);omega
 have hno':¬((rfOf s).inst=false∨(rfOf s).left=0):=by
  rw[hl];intro h';rcases h' with h' | h'
  ·rw[show (rfOf s).inst=s.inst from rfl,hi] at h';cases h'
  omega
 rw[if_neg hno,if_neg hno']
 obtain ⟨image,ver,inst,next,done⟩:=s
 simp only at hi hd
 subst hi
 have hst:Ps.steps ⟨image,ver,true,next,done⟩=tot image next:=rfl
 rw[hst] at hd
 rw[hst]
 by_cases hz:rzn image next≤done
 ·have hrz:(rfOf ⟨image,ver,true,next,done⟩).rz=false:=by
   show (true&&(rzb image next&&decide (done=0)))=false
   rw[rzn_of] at hz
   cases h1:rzb image next
   ·rfl
   rw[h1] at hz;simp at hz⊢;omega
  rw[hrz,if_neg (by simp)]
  have hk:done - rzn image next<(dif image next).length:=by unfold tot at hd;omega
  obtain ⟨c,hc⟩:∃c,(dif image next)[done - rzn image next]? =some c:=⟨_,List.getElem?_eq_getElem hk⟩
  have htodo:(rfOf ⟨image,ver,true,next,done⟩).todo=c::(dif image next).drop (done - rzn image next+1):=by
   show (if true=true then (dif image next).drop (done - rzn image next) else [])=_
   rw[if_pos rfl,List.drop_eq_getElem_cons hk]
   rw[List.getElem?_eq_getElem hk] at hc
   rw[Option.some.inj hc]
  rw[htodo]
  have hw:=(wk_step hz hc).1
  simp only[stepped,rfOf,if_true,Bool.true_and]
  have e1:done+1 - rzn image next=done - rzn image next+1:=by omega
  have e2:Ps.work ⟨image,ver,true,next,done⟩=wk image next done:=rfl
  have e3:Ps.work ⟨image,ver,true,next,done+1⟩=wk image next (done+1):=rfl
  rw[e1,e2,e3,hw,List.length_drop]
  refine Prod.ext ?_ (Prod.ext ?_ rfl)
  ·simp
  show (dif image next).length - (done - rzn image next+1)=tot image next - (done+1)
  unfold tot;omega
 have h1:rzb image next=true:=by
  rw[rzn_of] at hz;cases h:rzb image next
  ·rw[h] at hz;simp at hz
  rfl
 have hd0:done=0:=by rw[rzn_of,h1] at hz;simp at hz;omega
 subst hd0
 have e1:(rfOf ⟨image,ver,true,next,0⟩).rz=true:=by simp[rfOf,h1]
 rw[e1,if_pos rfl]
 have e6:rzn image next=1:=by rw[rzn_of,h1];rfl
 have hw:=wk_one h1
 have e2:Ps.work ⟨image,ver,true,next,0⟩=wk image next 0:=rfl
 have e3:Ps.work ⟨image,ver,true,next,0+1⟩=wk image next 1:=rfl
 simp only[stepped,rfOf,if_true,Bool.true_and,e2,e3,hw,e6]
 simp[tot,e6]
theorem rf_commit {s:Ps} (h:s.Good):rfCommit (rfOf s)=(rfOf (psCommit s).1,(psCommit s).2):=by
 have hl:=rfOf_left h
 unfold rfCommit psCommit
 have e:((rfOf s).inst=false∨0<(rfOf s).left)↔(s.inst=false∨s.done<s.steps):=by
  rw[hl,show (rfOf s).inst=s.inst from rfl]
  have:=h.dl
  constructor <;> rintro (h | h) <;> first | exact .inl h | exact .inr (by omega)
 by_cases hno:s.inst=false∨s.done<s.steps
 ·rw[if_pos hno,if_pos (e.2 hno)]
 rw[if_neg hno,if_neg (fun h=>hno (e.1 h))]
 rfl
theorem rstepf_any {F:List Nat} (v:Value) (m:Rf) (w:World) (hg:m.Good) (hF:∀f∈F,f<w.heap.size) (h:RV F w v m):
  Calls Tryz.prog 54 #[v] w (RN F w (rfStep m).1 (rfStep m).2.1 (rfStep m).2.2):=by
 by_cases hno:m.inst=false∨m.left=0
 ·have e:rfStep m=(m,0,7):=by unfold rfStep;rw[if_pos hno]
  rw[e]
  exact rstep_no v m w hg hF h hno
 have hi:m.inst=true:=by cases h:m.inst <;> simp_all
 by_cases hr:m.rz=true
 ·exact rstep_size v m w hg hF h hi hr
 have hr':m.rz=false:=by simpa using hr
 refine rstep_page v m w hg hF h hi hr' (fun e=>hno (.inr ?_))
 simp[Rf.left,e,hr']
end Go.Proofs.YtipiofgdjbogiaaGreat
