/- Ledger: the reference's See: its ledger lies in new blocks -/
import Derived.Test.YtipiofgdjbogiaaGreatM4
set_option maxRecDepth 100000
set_option maxHeartbeats 2000000
namespace Go.Lg
open Go Go.Txt Go.RowKit Go.Bs Go.Cl Go.Rw
theorem LowL.less {N M:Nat} {w:World} {v:Value} {l:List Lt} (h:LowL N w v l) (hN:M≤N):LowL M w v l:=fun F hF=>h F (fun f hf=>Nat.lt_of_lt_of_le (hF f hf) hN)
end Go.Lg
namespace Go.Proofs.YtipiofgdjbogiaaGreat.Ldg
open Go.Txt Go.RowKit Go.Bs Go.Cl Go.Rw Go.Lg
theorem with_low (v:Value) (l:List Lt) (t s:Int) (w:World) (hl:l.length≤1000) (h:SlL w v l) (hs:Srt l):
  Calls Tryz.prog 89 #[v,.int .i64 t,.int .i64 s] w fun e w'=>∃v',e= .returned v'∧LowL w.heap.size w' v' (putL l ⟨t,s⟩)∧Below w.heap.size w w':=by
 obtain ⟨a,cap,rfl⟩:=Rs h
 have H:=Hj h;clear h
 have Hs:=Hj hs;clear hs
 go_enter Tryz.func89,Tryz.ntmps89
 go_wp2
 go_loopw [7,8,9] (fun ov dv i wr=>∃(k:Nat) (done:Bool) (out:List Lt),k≤l.length∧i= .int .i64 k∧dv= .bool done∧WithAt l ⟨t,s⟩ k done out∧wr.ownsRow w.heap.size 175 2 ov out.length (out.flatMap encL)∧Below w.heap.size w wr) (fun _ _ i _=>l.length - (intOf i).toNat)
 case atStart=>exact ⟨0,false,[],Nat.zero_le _,rfl,rfl,.inl ⟨rfl,fun j h=>absurd h (Nat.not_lt_zero _),rfl⟩,World.ownsRow_nil _ _ _ _,Br _ _⟩
 case round=>
  obtain ⟨k,done,out,hk,rfl,rfl,hW,hown,hbel⟩:=hrel
  have hol:=hW.len Hs.out hk
  obtain ⟨oa,oc,rfl⟩:=Oq hown
  have hsz:=hbel.size
  have Hown:=Hj hown;clear hown
  by_cases hlt:k<l.length
  ·obtain ⟨b,off,rfl,hb,h0,h1⟩:=(H.out.below hbel).elem hlt
   have htk:=take_succ_lt hlt
   have Htk:=Hj htk;clear htk
   obtain ⟨z,hz⟩:∃z,ltAt l k=z:=⟨_,rfl⟩
   rw[hz] at h0 h1
   have Hz:=Hj hz;clear hz
   have hbw:b<wr.heap.size:=hb
   rcases hW with ⟨rfl,hlow,rfl⟩ | ⟨rfl,⟨j,hj,hge⟩,rfl⟩
   ·have htake:∀y∈l.take k,y.t<(⟨t,s⟩:Lt).t:=take_lt hlow
    have Htake:=Hj htake
    have Hlow:=Hj hlow
    clear hlow htake
    by_cases hc:z.t<t
    · -- t_k < task: the element
     have hne:(z.t==t)=false:=by simp;omega
     have hne2:(z.t != t)=true:=by simp;omega
     have hn3:¬t≤z.t:=by omega
     have hbel1:=hbel.alloc hsz (.cells #[.int .i64 z.t,.int .i64 z.q] 175)
     have Hx:=Hj (box2 wr.heap.size z (heap_alloc_new wr (.cells #[.int .i64 z.t,.int .i64 z.q] 175)))
     go_wp2_with (at_builtin;refine wpList_app el22 Tryz.underlying33 (Hown.out.alloc _) Hx.out hbel1 rfl _ _ rfl rfl rfl ?c3 (Nr _) ?c5 ?_)
     case c3=>omega
     case c5=>first | omega | (simp;omega)
     intro v2 w2 hown2 hb2 hg2 hs2
     have Hfin:Hid (w2.ownsRow w.heap.size 175 2 v2 (l.take (k+1)).length ((l.take (k+1)).flatMap encL)):=Hj (own_list hown2 (by rw[Htk.out,Hz.out];simp))
     clear hown2 hg2
     go_wp2
     go_roundw
     case rel=>exact ⟨k+1,false,_,by omega,by go_num,rfl,.inl ⟨rfl,fun j hj=>by
      by_cases hjk:j<k
      ·exact Hlow.out j hjk
      obtain rfl:j=k:=by omega
      rw[Hz.out];exact hc,rfl⟩,Hfin.out,hb2⟩
     case measure=>simp[intOf];omega
    have hge:t≤z.t:=by omega
    have hbel1:=hbel.alloc hsz (.cells #[.int .i64 t,.int .i64 s] 175)
    have Hx:=Hj (box2 wr.heap.size ⟨t,s⟩ (heap_alloc_new wr (.cells #[.int .i64 t,.int .i64 s] 175)))
    have Hpf:=Hj (put_first (z:=z) (x:=⟨t,s⟩) Htake.out hge)
    by_cases he:z.t=t
    ·have hne:(z.t==t)=true:=by simpa using he
     have hne2:(z.t != t)=false:=by simp[he]
     have He:=Hj he;clear he
     go_wp2_with (at_builtin;refine wpList_app el22 Tryz.underlying33 (Hown.out.alloc _) Hx.out hbel1 rfl _ _ rfl rfl rfl ?c3 (Nr _) ?c5 ?_)
     case c3=>omega
     case c5=>first | omega | (simp;omega)
     intro v2 w2 hown2 hb2 hg2 hs2
     have h0':w2.cell? ⟨b,off+k*2,none⟩=some (.int .i64 z.t):=by
      have hb0:b<w.heap.size:=by
       rcases Raw.cases H.out with ⟨h,_⟩ | ⟨_,_,_,_,hv,_,_,hb0,_⟩
       ·omega
       cases hv;exact hb0
      rw[hb2.cell (p:=⟨b,off+k*2,none⟩) hb0,←hbel.cell (p:=⟨b,off+k*2,none⟩) hb0];exact h0
     have Hfin:Hid (w2.ownsRow w.heap.size 175 2 v2 (putL (l.take (k+1)) ⟨t,s⟩).length ((putL (l.take (k+1)) ⟨t,s⟩).flatMap encL)):=Hj (own_list hown2 (by rw[Htk.out,Hz.out,Hpf.out,if_pos He.out];simp))
     clear hown2 hg2
     go_wp2
     go_roundw
     case rel=>exact ⟨k+1,true,_,by omega,by go_num,rfl,.inr ⟨rfl,⟨k,by omega,by rw[Hz.out];exact hge⟩,rfl⟩,Hfin.out,hb2⟩
     case measure=>simp[intOf];omega
    have hne:(z.t==t)=false:=by simpa using he
    have hne2:(z.t != t)=true:=by simp[he]
    have He:=Hj he;clear he
    go_wp2_with (at_builtin;refine wpList_app el22 Tryz.underlying33 (Hown.out.alloc _) Hx.out hbel1 rfl _ _ rfl rfl rfl ?c3 (Nr _) ?c5 ?_)
    case c3=>omega
    case c5=>first | omega | (simp;omega)
    intro v2 w2 hown2 hb2 hg2 hs2
    have hb0:b<w.heap.size:=by
     rcases Raw.cases H.out with ⟨h,_⟩ | ⟨_,_,_,_,hv,_,_,hb0,_⟩
     ·omega
     cases hv;exact hb0
    have h0':w2.cell? ⟨b,off+k*2,none⟩=some (.int .i64 z.t):=by
     rw[hb2.cell (p:=⟨b,off+k*2,none⟩) hb0,←hbel.cell (p:=⟨b,off+k*2,none⟩) hb0];exact h0
    have h1':w2.cell? ⟨b,off+k*2+1,none⟩=some (.int .i64 z.q):=by
     rw[hb2.cell (p:=⟨b,off+k*2+1,none⟩) hb0,←hbel.cell (p:=⟨b,off+k*2+1,none⟩) hb0];exact h1
    obtain ⟨a2,c2,rfl⟩:=Oq hown2
    have Hown2:=Hj hown2
    have hbel2:=hb2
    have hsz2:=hbel2.size
    have Hx2:=Hj (box2 w2.heap.size z (heap_alloc_new w2 (.cells #[.int .i64 z.t,.int .i64 z.q] 175)))
    have hbel3:=hbel2.alloc hsz2 (.cells #[.int .i64 z.t,.int .i64 z.q] 175)
    clear hown2 hg2
    go_wp2_with (at_builtin;refine wpList_app el22 Tryz.underlying33 (Hown2.out.alloc _) Hx2.out hbel3 rfl _ _ rfl rfl rfl ?c3 (Nr _) ?c5 ?_)
    case c3=>omega
    case c5=>first | omega | (simp;omega)
    intro v4 w4 hown4 hb4 hg4 hs4
    have Hfin:Hid (w4.ownsRow w.heap.size 175 2 v4 (putL (l.take (k+1)) ⟨t,s⟩).length ((putL (l.take (k+1)) ⟨t,s⟩).flatMap encL)):=Hj (own_list hown4 (by rw[Htk.out,Hz.out,Hpf.out,if_neg He.out];simp))
    clear hown4 hg4
    go_wp2
    go_roundw
    case rel=>exact ⟨k+1,true,_,by omega,by go_num,rfl,.inr ⟨rfl,⟨k,by omega,by rw[Hz.out];exact hge⟩,rfl⟩,Hfin.out,hb4⟩
    case measure=>simp[intOf];omega
   have hgt:t<z.t:=by
    have:=srt_at Hs.out hj hlt
    rw[Hz.out] at this
    simp only at hge;omega
   have hne:(z.t==t)=false:=by simp;omega
   have hne2:(z.t != t)=true:=by simp;omega
   have Hps:=Hj (put_snoc (a:=l.take k) (z:=z) (x:=⟨t,s⟩) hgt)
   have hbel1:=hbel.alloc hsz (.cells #[.int .i64 z.t,.int .i64 z.q] 175)
   have Hx:=Hj (box2 wr.heap.size z (heap_alloc_new wr (.cells #[.int .i64 z.t,.int .i64 z.q] 175)))
   go_wp2_with (at_builtin;refine wpList_app el22 Tryz.underlying33 (Hown.out.alloc _) Hx.out hbel1 rfl _ _ rfl rfl rfl ?c3 (Nr _) ?c5 ?_)
   case c3=>omega
   case c5=>first | omega | (simp;omega)
   intro v2 w2 hown2 hb2 hg2 hs2
   have Hfin:Hid (w2.ownsRow w.heap.size 175 2 v2 (putL (l.take (k+1)) ⟨t,s⟩).length ((putL (l.take (k+1)) ⟨t,s⟩).flatMap encL)):=Hj (own_list hown2 (by rw[Htk.out,Hz.out,Hps.out];simp))
   clear hown2 hg2
   go_wp2
   go_roundw
   case rel=>exact ⟨k+1,true,_,by omega,by go_num,rfl,.inr ⟨rfl,⟨j,by omega,hge⟩,rfl⟩,Hfin.out,hb2⟩
   case measure=>simp[intOf];omega
  obtain rfl:k=l.length:=by omega
  rcases hW with ⟨rfl,hlow,rfl⟩ | ⟨rfl,_,hout⟩
  ·have Hpl:=Hj (put_last (a:=l) (x:=⟨t,s⟩) (fun y hy=>by
    obtain ⟨j,hj,rfl⟩:=lt_mem.1 hy
    exact hlow j hj))
   clear hlow
   have hbel1:=hbel.alloc hsz (.cells #[.int .i64 t,.int .i64 s] 175)
   have Hx:=Hj (box2 wr.heap.size ⟨t,s⟩ (heap_alloc_new wr (.cells #[.int .i64 t,.int .i64 s] 175)))
   go_wp2_with (at_builtin;refine wpList_app el22 Tryz.underlying33 (Hown.out.alloc _) Hx.out hbel1 rfl _ _ rfl rfl rfl ?c3 (Nr _) ?c5 ?_)
   case c3=>omega
   case c5=>first | omega | (simp;omega)
   intro v2 w2 hown2 hb2 hg2 hs2
   have Hfin:Hid (LowL w.heap.size w2 v2 (putL l ⟨t,s⟩)):=Hj (LowL.of_own (Nr _) (own_list hown2 (by rw[Hpl.out];simp)))
   clear hown2 hg2
   go_wp2
   go_ret
   exact ⟨_,rfl,Hfin.out,hb2⟩
  rw[List.take_length] at hout
  subst hout
  have Hfin:Hid (LowL w.heap.size wr (.slice oa (putL l ⟨t,s⟩).length oc) (putL l ⟨t,s⟩)):=Hj (LowL.of_own (Nr _) Hown.out)
  go_wp2
  go_ret
  exact ⟨_,rfl,Hfin.out,hbel⟩
theorem rsee_low (v:Value) (l:List Lt) (t s:Int) (w:World) (hl:l.length≤1000) (h:SlL w v l) (hs1: -9223372036854775808≤s) (hs2:s≤9223372036854775807):
  Calls Tryz.prog 35 #[v,.int .i64 t,.int .i64 s] w (RetL (seeL l t s) w):=by
 obtain ⟨a,cap,rfl⟩:=Rs h
 have H:=Hj h;clear h
 have hl6:l.length≤1000000:=by omega
 cases hv:validL l
 ·rw[see_bad (.inl hv)]
  have Hv:=Hj hv;clear hv
  go_enter Tryz.func35,Tryz.ntmps35
  go_wp2_with fail
  refine (rvalid_eq hl6 H.out Hv.out).mono ?_
  rintro e w1 ⟨rfl,hb1⟩
  go_wp2
  go_ret3
  exact RetL.nil hb1
 cases hp:propL t
 ·rw[see_bad (.inr hp)]
  have Hv:=Hj hv;clear hv
  have hbad:t<0∨32≤t:=by
   rw[Bool.eq_false_iff] at hp
   simp[propL] at hp
   omega
  rcases hbad with hbad | hbad
  all_goals
   have hb':¬0≤t∨¬t<32:=by omega
   clear hb'
   try have hge:0≤t:=by omega
   go_enter Tryz.func35,Tryz.ntmps35
   go_wp2_with fail
   refine (rvalid_eq hl6 H.out Hv.out).mono ?_
   rintro e w1 ⟨rfl,hb1⟩
   go_wp2
   go_ret3
   exact RetL.nil hb1
 obtain ⟨q,hq⟩:∃q,seenL l t=q:=⟨_,rfl⟩
 have hq0:=seen_pos hv t
 rw[hq] at hq0
 have Hsrt:=Hj (valid_srt hv)
 have hp1:0≤t:=by simp[propL] at hp;exact hp.1
 have hp2:t<32:=by simp[propL] at hp;exact hp.2
 have hcase:(1≤s∧s≤q)∨(¬(1≤s∧s≤q)∧(s<1∨s - 1≠q))∨(1≤s∧s - 1=q):=by omega
 rcases hcase with ⟨hc1,hc2⟩ | ⟨hc1,hc2⟩ | ⟨hc1,hc2⟩
 ·rw[see_rep hv hp hc1 (by rw[hq];exact hc2)]
  have Hv:=Hj hv;clear hv
  have Hq:=Hj hq;clear hq
  clear hp
  go_enter Tryz.func35,Tryz.ntmps35
  go_wp2_with fail
  refine (rvalid_eq hl6 H.out Hv.out).mono ?_
  rintro e w1 ⟨rfl,hb1⟩
  go_wp2_with fail
  refine (rseen_eq hl6 (H.out.below hb1) Hq.out).mono ?_
  rintro e w3 ⟨rfl,hb3⟩
  have hbel3:=hb1.trans (hb3.mono hb1.size)
  have hs3:=hbel3.size
  have hbel4:=hbel3.alloc hs3 (.cells #[] 175)
  have Hemp:=Hj (own_empty w3 w.heap.size 175 2 hs3)
  have HX:=Hj (Rb H.out hbel4)
  go_wp2_with (at_builtin;refine wpList_app el22 Tryz.underlying33 Hemp.out HX.out hbel4 rfl _ _ rfl rfl rfl ?c3 (Nr _) ?c5 ?_)
  case c3=>omega
  case c5=>first | omega | (simp;omega)
  intro v5 w5 hown5 hb5 hg5 hs5
  obtain ⟨a5,c5,rfl⟩:=Oq hown5
  have HF:=Hj (LowL.of_own (Nr _) (own_list (l:=l) hown5 (by simp)))
  clear hown5 hg5
  go_wp2
  go_ret3
  exact ⟨_,rfl,HF.out,hb5⟩
 ·rw[see_gap hv hp (by rw[hq];exact hc1) (by rw[hq];exact hc2)]
  have Hv:=Hj hv;clear hv
  have Hq:=Hj hq;clear hq
  have Hc1:=Hj hc1;clear hc1
  have Hc2:=Hj hc2;clear hc2
  clear hp
  by_cases g1:s<1
  ·have g2:¬(1≤s):=by omega
   go_enter Tryz.func35,Tryz.ntmps35
   go_wp2_with fail
   refine (rvalid_eq hl6 H.out Hv.out).mono ?_
   rintro e w1 ⟨rfl,hb1⟩
   go_wp2_with fail
   refine (rseen_eq hl6 (H.out.below hb1) Hq.out).mono ?_
   rintro e w3 ⟨rfl,hb3⟩
   have hbel3:=hb1.trans (hb3.mono hb1.size)
   have hs3:=hbel3.size
   have hbel4:=hbel3.alloc hs3 (.cells #[] 175)
   have Hemp:=Hj (own_empty w3 w.heap.size 175 2 hs3)
   have HX:=Hj (Rb H.out hbel4)
   go_wp2_with (at_builtin;refine wpList_app el22 Tryz.underlying33 Hemp.out HX.out hbel4 rfl _ _ rfl rfl rfl ?c3 (Nr _) ?c5 ?_)
   case c3=>omega
   case c5=>first | omega | (simp;omega)
   intro v5 w5 hown5 hb5 hg5 hs5
   obtain ⟨a5,c5,rfl⟩:=Oq hown5
   have HF:=Hj (LowL.of_own (Nr _) (own_list (l:=l) hown5 (by simp)))
   clear hown5 hg5
   go_wp2
   go_ret3
   exact ⟨_,rfl,HF.out,hb5⟩
  have g3:1≤s:=by omega
  have g4:q<s:=by have:=Hc1.out;omega
  have g5:(s - 1==q)=false:=by have:=Hc2.out;simp;omega
  have g6:(s - 1 != q)=true:=by have:=Hc2.out;simp;omega
  have g7:¬s≤q:=by omega
  go_enter Tryz.func35,Tryz.ntmps35
  go_wp2_with fail
  refine (rvalid_eq hl6 H.out Hv.out).mono ?_
  rintro e w1 ⟨rfl,hb1⟩
  go_wp2_with fail
  refine (rseen_eq hl6 (H.out.below hb1) Hq.out).mono ?_
  rintro e w3 ⟨rfl,hb3⟩
  have hbel3:=hb1.trans (hb3.mono hb1.size)
  have hs3:=hbel3.size
  have hbel4:=hbel3.alloc hs3 (.cells #[] 175)
  have Hemp:=Hj (own_empty w3 w.heap.size 175 2 hs3)
  have HX:=Hj (Rb H.out hbel4)
  go_wp2_with (at_builtin;refine wpList_app el22 Tryz.underlying33 Hemp.out HX.out hbel4 rfl _ _ rfl rfl rfl ?c3 (Nr _) ?c5 ?_)
  case c3=>omega
  case c5=>first | omega | (simp;omega)
  intro v5 w5 hown5 hb5 hg5 hs5
  obtain ⟨a5,c5,rfl⟩:=Oq hown5
  have HF:=Hj (LowL.of_own (Nr _) (own_list (l:=l) hown5 (by simp)))
  clear hown5 hg5
  go_wp2
  go_ret3
  exact ⟨_,rfl,HF.out,hb5⟩
 rw[see_new hv hp hc1 (by rw[hq];exact hc2)]
 have Hv:=Hj hv;clear hv
 have Hq:=Hj hq;clear hq
 clear hp
 obtain rfl:q=s - 1:=hc2.symm
 have g1:¬s≤s - 1:=by omega
 have g2:¬s<1:=by omega
 go_enter Tryz.func35,Tryz.ntmps35
 go_wp2_with fail
 refine (rvalid_eq hl6 H.out Hv.out).mono ?_
 rintro e w1 ⟨rfl,hb1⟩
 go_wp2_with fail
 refine (rseen_eq hl6 (H.out.below hb1) Hq.out).mono ?_
 rintro e w3 ⟨rfl,hb3⟩
 have hbel3:=hb1.trans (hb3.mono hb1.size)
 go_wp2_with fail
 refine (with_low _ l t s _ hl (H.out.below hbel3) Hsrt.out).mono ?_
 rintro e w4 ⟨v4,rfl,h4,hb4⟩
 obtain ⟨a4,c4,rfl⟩:=Rs h4.sl
 have HF:=Hj (h4.less hbel3.size)
 have hbel4:=hbel3.trans (hb4.mono hbel3.size)
 clear h4 hb4
 go_wp2
 go_ret3
 exact ⟨_,rfl,HF.out,hbel4⟩
end Go.Proofs.YtipiofgdjbogiaaGreat.Ldg
