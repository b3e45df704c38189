/- unit: a unit's block beside its store -/
import Derived.Test.YtipiofgdjbogiaaGreatM5
import Derived.Test.YtipiofgdjbogiaaGreatM3
import Derived.Test.YtipiofgdjbogiaaGreatM4
namespace Go.Im
open Go Go.Txt Go.RowKit Go.Bs Go.Cl Go.Rw Go.Un
structure Us where
 task:Int
 led:List Lg.Lt
 num:Int
 att:Int
 i0:Int
 i1:Int
 gr:Int
 down:Bool
 lost:Int
def UCells (x:Us) (g:Nat) (lv:Value):Array Value:=#[.int .i64 x.task,.pointer (some ⟨g,0,none⟩),lv,.int .i64 x.num,.int .i64 x.att,.int .i64 x.i0,.int .i64 x.i1,.int .i64 x.gr,.bool x.down,.int .i64 x.lost]
def UBox (w:World) (R:Nat):Prop:=∃x g lv,(∃a n c,lv= .slice a n c)∧w.heap[R]? =some (.cells (UCells x g lv) 90 (0,0))
variable {F F' G:List Nat} {w w':World} {R g:Nat} {v:Value} {l:List UInt8} {s:Ps}
theorem UBox.at (h:UBox w R) {j:Nat} {x:Value} (hj:w.cell? ⟨R,j,none⟩=some x):(j=1∧∃p,x= .pointer p)∨(j=2∧∃a n c,x= .slice a n c)∨(j=8∧∃b,x= .bool b)∨((j≠1∧j≠2∧j≠8)∧∃n,x= .int .i64 n):=by
 obtain ⟨y,g,lv,hl,hc⟩:=h
 simp only[World.cell?,hc,UCells] at hj
 match j,hj with
 | 0,hj=>simp at hj;subst hj;exact .inr (.inr (.inr ⟨by omega,_,rfl⟩))
 | 1,hj=>simp at hj;subst hj;exact .inl ⟨rfl,_,rfl⟩
 | 2,hj=>simp at hj;subst hj;exact .inr (.inl ⟨rfl,hl⟩)
 | 3,hj=>simp at hj;subst hj;exact .inr (.inr (.inr ⟨by omega,_,rfl⟩))
 | 4,hj=>simp at hj;subst hj;exact .inr (.inr (.inr ⟨by omega,_,rfl⟩))
 | 5,hj=>simp at hj;subst hj;exact .inr (.inr (.inr ⟨by omega,_,rfl⟩))
 | 6,hj=>simp at hj;subst hj;exact .inr (.inr (.inr ⟨by omega,_,rfl⟩))
 | 7,hj=>simp at hj;subst hj;exact .inr (.inr (.inr ⟨by omega,_,rfl⟩))
 | 8,hj=>simp at hj;subst hj;exact .inr (.inr (.inl ⟨rfl,_,rfl⟩))
 | 9,hj=>simp at hj;subst hj;exact .inr (.inr (.inr ⟨by omega,_,rfl⟩))
 | j+10,hj=>simp at hj
theorem bytes_out (h:Bytes F w v l) (hR:UBox w R):Bytes (R::F) w v l:=by
 obtain ⟨h1,h2,a,cap,rfl,h3,h4,h5⟩:=h
 refine ⟨h1,h2,a,cap,rfl,h3,h4,fun h0=> ?_⟩
 obtain ⟨b,off,rfl,q1,q2,q3⟩:=h5 h0
 refine ⟨b,off,rfl,q1,fun hm=> ?_,q3⟩
 rcases List.mem_cons.1 hm with rfl | hm
 ·have hc:=q3 0 (byteV (l[0]'h0)) (by unfold bytesV;rw[List.getElem?_map,List.getElem?_eq_getElem h0];rfl)
  rcases hR.at hc with ⟨_,_,e⟩ | ⟨_,_,_,_,e⟩ | ⟨_,_,e⟩ | ⟨_,_,e⟩
  ·cases e
  ·cases e
  ·cases e
  simp[byteV] at e
 exact q2 hm
theorem chr_out {cl:List (Nat×List UInt8)} (h:ChR F w v cl) (hR:UBox w R):ChR (R::F) w v cl:=by
 obtain ⟨cs,e,h,hb⟩:=h
 refine ⟨cs,e, ?_,fun p hp=>bytes_out (hb p hp) hR⟩
 obtain ⟨h1,h2,a,cap,rfl,h3,h4,h5⟩:=h
 refine ⟨h1,h2,a,cap,rfl,h3,h4,fun h0=> ?_⟩
 obtain ⟨b,off,rfl,q1,q2,q3⟩:=h5 h0
 refine ⟨b,off,rfl,q1,fun hm=> ?_,q3⟩
 rcases List.mem_cons.1 hm with rfl | hm
 ·obtain ⟨p,ps,rfl⟩:∃p ps,cs=p::ps:=by cases cs with
   | nil=>simp at h0
   | cons p ps=>exact ⟨p,ps,rfl⟩
  obtain ⟨pa,pc,hpv⟩:=Rs (hb p (by simp))
  have c0:=q3 0 (.int .i64 p.1.1) (by simp[encC])
  have c1:=q3 1 p.2 (by simp[encC])
  rw[hpv] at c1
  rcases hR.at c1 with ⟨_,_,e⟩ | ⟨e4,_⟩ | ⟨_,_,e⟩ | ⟨_,_,e⟩
  ·cases e
  ·rcases hR.at c0 with ⟨_,_,e⟩ | ⟨e5,_⟩ | ⟨_,_,e⟩ | ⟨e5,_⟩
   ·cases e
   ·omega
   ·cases e
   omega
  ·cases e
  cases e
 exact q2 hm
theorem StB.apartR {base h:Nat} {iv rv imv nxv chv:Value} {rz:Bool} {rs:List (Rec×Value)} (H:StB w base g h iv rv imv nxv chv rz rs s) (hR:UBox w R):R∉g::LogF h iv rv:=fun hm=>by
 have ne:∀{k:Nat} {cs:Array Value} {t:TypeId},w.heap[k]? =some (.cells cs t (0,0))→t≠90→R≠k:=fun hk ht hm=>by
  subst hm;obtain ⟨x,g',lv,hl,hc⟩:=hR;rw[hc] at hk;cases hk;exact ht rfl
 simp only[LogF,List.mem_cons,List.mem_append] at hm
 rcases hm with rfl | rfl | hm | hm
 ·exact ne H.hc (by decide) rfl
 ·exact ne H.hl.hc (by decide) rfl
 ·obtain ⟨cur,hc⟩:=own_type H.hl.hi (r:=R) (by simpa using hm)
  exact ne hc (by decide) rfl
 obtain ⟨cur,hc⟩:=H.hl.hr.type (r:=R) (by simpa using hm)
 exact ne hc (by decide) rfl
theorem StB.beside {base h:Nat} {iv rv imv nxv chv:Value} {rz:Bool} {rs:List (Rec×Value)} (H:StB w base g h iv rv imv nxv chv rz rs s) (hR:UBox w R) (hk:Keep [R] w w'):StB w' base g h iv rv imv nxv chv rz rs s:=by
 have hn:=H.apartR hR
 have hnl:R∉LogF h iv rv:=fun hm=>hn (List.mem_cons_of_mem _ hm)
 have kp:∀{F:List Nat} {x:Value} {l:List UInt8},Bytes F w x l→Bytes F w' x l:=fun hx=>Raw.keep (bytes_out hx hR) hk (fun f hf=> .inl (by rw[M1' hf];simp)) (fun f hf=> .inl (List.mem_cons_of_mem _ hf))
 have hgR:g∉[R]:=fun hm=>hn (by rw[List.mem_singleton] at hm;simp[hm])
 have hll:=LogAt.beside H.hl hk hnl (fun p hp=>Raw.keep (F':=[R]) (bytes_out (H.hr p hp) hR) (Keep.refl [] w) (by simp) (fun f hf=> .inl (by rw[M1' hf];simp)))
 have hcc:=(chr_out H.hch hR).keepc hk (fun f hf=> .inl (by rw[M1' hf];simp)) (fun f hf=> .inl (List.mem_cons_of_mem _ hf))
 exact {good:=H.good,hg:=H.hg,hc:=(hk.block g H.lt hgR).trans H.hc,hl:=hll,hn:=H.hn,hi:=kp H.hi,hx:=kp H.hx,hch:=hcc,hr:=fun p hp=>kp (H.hr p hp),ok:=H.ok,tk:=H.tk,rl:=H.rl,rzv:=H.rzv}
end Go.Im
