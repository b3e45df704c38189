/- Ledger: plain facts. No program in sight. -/
import Derived.Test.YtipiofgdjbogiaaGreatM1
import Derived.Test.YtipiofgdjbogiaaGreatRows
set_option maxRecDepth 100000
set_option maxHeartbeats 2000000
namespace Go.Lg
open Go Go.Txt Go.RowKit Go.Bs Go.Cl Go.Rw
structure Lt where
 t:Int
 q:Int
def encL (x:Lt):List Value:=[.int .i64 x.t,.int .i64 x.q]
theorem encL_len (x:Lt):(encL x).length=2:=rfl
def ltAt (l:List Lt) (k:Nat):Lt:=l.getD k ⟨0,0⟩
theorem lt_get {l:List Lt} {i:Nat} (h:i<l.length):l[i]? =some (ltAt l i):=by simp[ltAt,h]
theorem encL_one (l:List Lt):∀u∈l.flatMap encL,u.oneCell'=true:=by
 intro u hu
 obtain ⟨x,_,h⟩:=List.mem_flatMap.1 hu
 simp[encL] at h
 rcases h with rfl | rfl <;> rfl
def SlL (w:World) (v:Value) (l:List Lt):Prop:=Raw [] 2 w v l.length (l.flatMap encL)
theorem SlL.below {w w':World} {v:Value} {l:List Lt} (h:SlL w v l) (hb:Below w.heap.size w w'):SlL w' v l:=Rb h hb
theorem SlL.of_own {w:World} {base e n:Nat} {v:Value} {l:List Lt} (h:w.ownsRow base e 2 v n (l.flatMap encL)):SlL w v l:=by
 have hn:n=l.length:=by have:=h.1;rw[flat_length encL encL_len] at this;omega
 subst hn
 exact Raw.of_own h (encL_one l) (fun f hf=>by cases hf)
theorem SlL.elem {w:World} {a:Option Addr} {n c:Nat} {l:List Lt} (h:SlL w (.slice a n c) l) {i:Nat} (hi:i<l.length):
  ∃b off,a=some ⟨b,off,none⟩∧b<w.heap.size∧w.cell? ⟨b,off+i*2,none⟩=some (.int .i64 (ltAt l i).t)∧w.cell? ⟨b,off+i*2+1,none⟩=some (.int .i64 (ltAt l i).q):=by
 have hget:=lt_get hi
 rcases Raw.cases h with ⟨h0,_⟩ | ⟨_,b,off,cap,hv,_,_,hb,_,hc⟩
 ·omega
 cases hv
 exact ⟨b,off,rfl,hb,hc _ _ (flat_get encL encL_len l i 0 _ hget (by omega)),hc _ _ (flat_get encL encL_len l i 1 _ hget (by omega))⟩
theorem lt_mem {l:List Lt} {z:Lt}:z∈l↔∃k,k<l.length∧ltAt l k=z:=by
 rw[List.mem_iff_getElem]
 constructor
 ·rintro ⟨k,hk,h⟩;exact ⟨k,hk,by simp[ltAt,hk,h]⟩
 rintro ⟨k,hk,h⟩;exact ⟨k,hk,by simpa[ltAt,hk] using h⟩
def propL (t:Int):Bool:=decide (0≤t)&&decide (t<32)
def okL (l:List Lt) (k:Nat):Bool:=propL (ltAt l k).t&&decide (1≤(ltAt l k).q)&&(decide (k=0) || decide ((ltAt l (k - 1)).t<(ltAt l k).t))
def validL (l:List Lt):Bool:=(List.range l.length).all (okL l)
theorem validL_false {l:List Lt} {k:Nat} (hk:k<l.length) (h:okL l k=false):validL l=false:=by
 unfold validL
 rw[List.all_eq_false]
 exact ⟨k,List.mem_range.2 hk,by simp[h]⟩
theorem validL_true {l:List Lt} (h:∀k,k<l.length→okL l k=true):validL l=true:=
 List.all_eq_true.2 fun k hk=>h k (List.mem_range.1 hk)
theorem validL_at {l:List Lt} (h:validL l=true) {k:Nat} (hk:k<l.length):okL l k=true:=List.all_eq_true.1 h k (List.mem_range.2 hk)
theorem okL_iff {l:List Lt} {k:Nat}:okL l k=true↔0≤(ltAt l k).t∧(ltAt l k).t<32∧1≤(ltAt l k).q∧(k=0∨(ltAt l (k - 1)).t<(ltAt l k).t):=by simp[okL,propL,and_assoc]
def Srt (l:List Lt):Prop:=l.Pairwise (fun a b=>a.t<b.t)
theorem valid_lt {l:List Lt} (h:validL l=true):∀(j i:Nat),i<j→j<l.length→(ltAt l i).t<(ltAt l j).t
 | 0,i,hij,_=>absurd hij (Nat.not_lt_zero _)
 | j+1,i,hij,hj=>by
  have h1:=(okL_iff.1 (validL_at h hj)).2.2.2
  rw[Nat.add_sub_cancel] at h1
  have h1:(ltAt l j).t<(ltAt l (j+1)).t:=by rcases h1 with h1 | h1;(·omega);exact h1
  by_cases e:i=j
  ·subst e;exact h1
  have:=valid_lt h j i (by omega) (by omega);omega
theorem srt_of {l:List Lt} (h:∀i j,i<j→j<l.length→(ltAt l i).t<(ltAt l j).t):Srt l:=by
 unfold Srt
 rw[List.pairwise_iff_getElem]
 intro i j hi hj hij
 have:=h i j hij hj
 simpa[ltAt,hi,hj] using this
theorem srt_at {l:List Lt} (h:Srt l) {i j:Nat} (hij:i<j) (hj:j<l.length):(ltAt l i).t<(ltAt l j).t:=by
 unfold Srt at h
 rw[List.pairwise_iff_getElem] at h
 have:=h i j (by omega) hj hij
 have hi:i<l.length:=by omega
 simpa[ltAt,hi,hj] using this
theorem valid_srt {l:List Lt} (h:validL l=true):Srt l:=srt_of fun i j hij hj=>valid_lt h j i hij hj
def okE (x:Lt):Bool:=propL x.t&&decide (1≤x.q)
theorem valid_ok {l:List Lt} (h:validL l=true):∀x∈l,okE x=true:=by
 intro x hx
 obtain ⟨k,hk,rfl⟩:=lt_mem.1 hx
 have:=validL_at h hk
 simp only[okL,Bool.and_eq_true] at this
 simp only[okE,Bool.and_eq_true]
 exact this.1
def seenL (l:List Lt) (t:Int):Int:=match l.find? (fun x=>x.t==t) with | some x=>x.q | none=>0
theorem seen_none {l:List Lt} {t:Int} (h:∀k,k<l.length→(ltAt l k).t≠t):seenL l t=0:=by
 unfold seenL
 rw[List.find?_eq_none.2 fun x hx=>by
  obtain ⟨k,hk,rfl⟩:=lt_mem.1 hx
  simpa using h k hk]
theorem find_first:∀{l:List Lt} {t:Int} {i:Nat},i<l.length→(∀k,k<i→(ltAt l k).t≠t)→(ltAt l i).t=t→l.find? (fun x=>x.t==t)=some (ltAt l i)
 | [],_,i,hi,_,_=>by simp at hi
 | x::l,t,0,_,_,h=>by
  have h':x.t=t:=h
  simp[List.find?_cons,h',ltAt]
 | x::l,t,i+1,hi,h0,h=>by
  have hx:x.t≠t:=h0 0 (by omega)
  have hx':(x.t==t)=false:=by simpa using hx
  rw[List.find?_cons,hx']
  exact find_first (i:=i) (by simpa using hi) (fun k hk=>h0 (k+1) (by omega)) h
theorem seen_first {l:List Lt} {t:Int} {i:Nat} (hi:i<l.length) (h0:∀k,k<i→(ltAt l k).t≠t) (h:(ltAt l i).t=t):seenL l t=(ltAt l i).q:=by
 unfold seenL;rw[find_first hi h0 h]
def putL (l:List Lt) (x:Lt):List Lt:=l.filter (fun z=>z.t<x.t)++x::l.filter (fun z=>x.t<z.t)
theorem put_len (l:List Lt) (x:Lt) (h:Srt l):(putL l x).length≤l.length+1:=by
 unfold putL
 simp only[List.length_append,List.length_cons]
 have:(l.filter (fun z=>z.t<x.t)).length+(l.filter (fun z=>x.t<z.t)).length≤l.length:=by
  clear h
  induction l with
  | nil=>simp
  | cons a l ih=>
   simp only[List.filter_cons,List.length_cons]
   by_cases h1:a.t<x.t
   ·have h2:¬x.t<a.t:=by omega
    simp[h1,h2];omega
   by_cases h2:x.t<a.t
   ·simp[h1,h2];omega
   simp[h1,h2];omega
 omega
theorem seen_pos {l:List Lt} (h:validL l=true) (t:Int):0≤seenL l t:=by
 unfold seenL
 cases hf:l.find? (fun x=>x.t==t) with
 | none=>simp
 | some x=>
  have:=valid_ok h x (List.mem_of_find?_eq_some hf)
  simp[okE] at this
  simp;omega
def seeL (l:List Lt) (t s:Int):List Lt×Int×Int:=
 if validL l&&propL t then
  (if 1≤s∧s≤seenL l t then (l,2,0) else if s<1∨s - 1≠seenL l t then (l,3,0) else (putL l ⟨t,s⟩,1,0))
 else ([],0,1)
end Go.Lg
namespace Go.Proofs.YtipiofgdjbogiaaGreat.Ldg
open Go.Txt Go.RowKit Go.Bs Go.Cl Go.Rw Go.Lg
theorem el25:Rw.Elem Tryz.prog 88 145 2 16 (.agg #[.int .i64 0,.int .i64 0]):=⟨Tryz.underlying88,by kernel_rfl,rfl,by decide⟩
theorem clone24 {F:List Nat} {v:Value} {n:Nat} {xs:List Value} (w:World) (hl:n≤1000000) (hr:Raw F 2 w v n xs):
  Calls Tryz.prog 81 #[v] w fun e w'=>∃v',e= .returned v'∧w'.ownsRow w.heap.size 145 2 v' n xs∧Below w.heap.size w w':=by
 have q32:∀(w:World) (a:Option Addr) (n c n' c':Nat),(binOp .eql 88 (.slice a n c) (.slice none n' c')).run Tryz.prog w= .ok (.bool a.isNone) w:=fun w a n c n' c'=>Lib.run_eql_slice_nil w _ _ a n c n' c' Tryz.underlying88
 obtain ⟨a,cap,hv⟩:∃a cap,v= .slice a n cap:=by obtain ⟨_,_,a,cap,h,_⟩:=hr;exact ⟨a,cap,h⟩
 have Hr:=Hj (hr.alloc (.cells #[] 145))
 have Hemp:=Hj (own_empty w w.heap.size 145 2 (Nr _))
 cases a with
 | none=>
  have h0:n=0∧xs=[]:=by
   rcases hr.cases with ⟨h0,h1,_⟩ | ⟨_,b,off,c,h,_⟩
   ·exact ⟨h0,h1⟩
   rw[hv] at h;cases h
  obtain ⟨rfl,rfl⟩:=h0
  subst hv
  go_enter Tryz.func81,Tryz.ntmps81
  go_wp2
  go_ret
  exact ⟨_,rfl,World.ownsRow_nil _ _ _ _,Br _ _⟩
 | some ad=>
  subst hv
  clear hr
  go_enter Tryz.func81,Tryz.ntmps81
  go_wp2_with (at_builtin;refine wpList_append_raw el25 Tryz.underlying88 Hemp.out Hr.out rfl _ _ rfl rfl rfl ?c3 ?c4 ?c5 ?_)
  case c3=>unfold maxLen;omega
  case c4=>omega
  case c5=>simp
  intro v' w1 hown hgrow
  have hfin:Below w.heap.size w w1:=((Br w.heap.size w).alloc (Nr _) _).grown hgrow (by simp) (fun q hq=>by simp[Value.ownBlock] at hq;omega)
  have Hown:Hid (w1.ownsRow w.heap.size 145 2 v' n xs):=Hj (by simpa using hown)
  clear hown hgrow
  go_wp2
  go_ret
  exact ⟨_,rfl,Hown.out,hfin⟩
theorem proper_any (t:Int) (w:World):Calls Tryz.prog 80 #[.int .i64 t] w fun e w'=>e= .returned (.bool (propL t))∧w=w':=by
 go_enter Tryz.func80,Tryz.ntmps80
 go_wp2
 all_goals
  go_ret
  refine ⟨ret_bool ?_,rfl⟩
  rw[Bool.eq_iff_iff];simp[propL, *] <;> omega
theorem valid_any (v:Value) (l:List Lt) (w:World) (hl:l.length≤1000000) (h:SlL w v l):
  Calls Tryz.prog 79 #[v] w fun e w'=>e= .returned (.bool (validL l))∧Below w.heap.size w w':=by
 obtain ⟨a,cap,rfl⟩:=Rs h
 have H:=Hj h;clear h
 go_enter Tryz.func79,Tryz.ntmps79
 go_wp2
 go_loopw [7] (fun i wr=>∃k:Nat,k≤l.length∧i= .int .i64 k∧Below w.heap.size w wr∧∀j,j<k→okL l j=true) (fun i _=>l.length - (intOf i).toNat)
 case atStart=>exact ⟨0,Nat.zero_le _,rfl,Br _ _,fun j hj=>absurd hj (Nat.not_lt_zero _)⟩
 case round=>
  obtain ⟨k,hk,rfl,hbel,hok⟩:=hrel
  have Hok:=Hj hok;clear hok
  have hsz:=hbel.size
  by_cases hlt:k<l.length
  ·obtain ⟨b,off,rfl,hb,h0,h1⟩:=(H.out.below hbel).elem hlt
   obtain ⟨b',off',e',_,f0,_⟩:=(H.out.below hbel).elem (show k - 1<l.length by omega)
   cases e'
   have hbel1:=hbel.alloc hsz (.cells #[.int .i64 (ltAt l k).t,.int .i64 (ltAt l k).q] 145)
   have hbs:b<wr.heap.size+1:=by omega
   have hbl:b≤wr.heap.size:=by omega
   go_wp2
   refine wp_txt (by kernel_rfl) (by kernel_rfl) ?_
   go_wp2_with (go_at_call 80;refine (proper_any _ _).mono ?_;rintro e w1 ⟨rfl,rfl⟩)
   all_goals (refine DrawPost.mk0 (by rfl) ?_;go_wp2)
   all_goals first
    | (go_ret;exact ⟨ret_bool (validL_false hlt (by unfold okL;simp[*];try omega)).symm,hbel1.drew⟩)
    | (
      go_roundw
      case rel=>
       refine ⟨k+1,by omega,by go_num,hbel1.drew,fun j hj=> ?_⟩
       by_cases hjk:j<k
       ·exact Hok.out j hjk
       obtain rfl:j=k:=by omega
       unfold okL;simp[*];try omega
      case measure=>simp[intOf];omega)
  go_wp2
  go_ret
  exact ⟨ret_bool (validL_true fun j hj=>Hok.out j (by omega)).symm,hbel⟩
theorem rvalid_any (v:Value) (l:List Lt) (w:World) (hl:l.length≤1000000) (h:SlL w v l):
  Calls Tryz.prog 87 #[v] w fun e w'=>e= .returned (.bool (validL l))∧Below w.heap.size w w':=by
 obtain ⟨a,cap,rfl⟩:=Rs h
 have H:=Hj h;clear h
 go_enter Tryz.func87,Tryz.ntmps87
 go_wp2
 go_loopw [3] (fun i wr=>∃k:Nat,k≤l.length∧i= .int .i64 k∧Below w.heap.size w wr∧∀j,j<k→okL l j=true) (fun i _=>l.length - (intOf i).toNat)
 case atStart=>exact ⟨0,Nat.zero_le _,rfl,Br _ _,fun j hj=>absurd hj (Nat.not_lt_zero _)⟩
 case round=>
  obtain ⟨k,hk,rfl,hbel,hok⟩:=hrel
  have Hok:=Hj hok;clear hok
  have hsz:=hbel.size
  by_cases hlt:k<l.length
  ·obtain ⟨b,off,rfl,hb,h0,h1⟩:=(H.out.below hbel).elem hlt
   obtain ⟨b',off',e',_,f0,_⟩:=(H.out.below hbel).elem (show k - 1<l.length by omega)
   cases e'
   go_wp2
   refine wp_txt (by kernel_rfl) (by kernel_rfl) ?_
   go_wp2
   all_goals (refine DrawPost.mk0 (by rfl) ?_;go_wp2)
   all_goals first
    | (go_ret;exact ⟨ret_bool (validL_false hlt (by unfold okL propL;simp[*];try omega)).symm,hbel.drew⟩)
    | (
      go_roundw
      case rel=>
       refine ⟨k+1,by omega,by go_num,hbel.drew,fun j hj=> ?_⟩
       by_cases hjk:j<k
       ·exact Hok.out j hjk
       obtain rfl:j=k:=by omega
       unfold okL propL;simp[*];try omega
      case measure=>simp[intOf];omega)
  go_wp2
  go_ret
  exact ⟨ret_bool (validL_true fun j hj=>Hok.out j (by omega)).symm,hbel⟩
theorem seen_any (v:Value) (l:List Lt) (t:Int) (w:World) (hl:l.length≤1000000) (h:SlL w v l):
  Calls Tryz.prog 82 #[v,.int .i64 t] w fun e w'=>e= .returned (.int .i64 (seenL l t))∧Below w.heap.size w w':=by
 obtain ⟨a,cap,rfl⟩:=Rs h
 have H:=Hj h;clear h
 go_enter Tryz.func82,Tryz.ntmps82
 go_wp2
 go_loopw [9] (fun i wr=>∃k:Nat,k≤l.length∧i= .int .i64 k∧Below w.heap.size w wr∧∀j,j<k→(ltAt l j).t≠t) (fun i _=>l.length - (intOf i).toNat)
 case atStart=>exact ⟨0,Nat.zero_le _,rfl,Br _ _,fun j hj=>absurd hj (Nat.not_lt_zero _)⟩
 case round=>
  obtain ⟨k,hk,rfl,hbel,hok⟩:=hrel
  have Hok:=Hj hok;clear hok
  have hsz:=hbel.size
  by_cases hlt:k<l.length
  ·obtain ⟨b,off,rfl,hb,h0,h1⟩:=(H.out.below hbel).elem hlt
   have hbel1:=hbel.alloc hsz (.cells #[.int .i64 (ltAt l k).t,.int .i64 (ltAt l k).q] 145)
   by_cases he:(ltAt l k).t=t
   ·have hq:((ltAt l k).t==t)=true:=by simpa using he
    have Hs:=Hj (seen_first hlt Hok.out he)
    clear he
    go_wp2
    go_ret
    exact ⟨ret_int Hs.out.symm,hbel1⟩
   have hq:((ltAt l k).t==t)=false:=by simpa using he
   have He:=Hj he;clear he
   go_wp2
   go_roundw
   case rel=>exact ⟨k+1,by omega,by go_num,hbel1,fun j hj=>by
    by_cases hjk:j<k
    ·exact Hok.out j hjk
    obtain rfl:j=k:=by omega
    exact He.out⟩
   case measure=>simp[intOf];omega
  obtain rfl:k=l.length:=by omega
  have Hs:=Hj (seen_none Hok.out)
  go_wp2
  go_ret
  exact ⟨ret_int Hs.out.symm,hbel⟩
theorem rseen_any (v:Value) (l:List Lt) (t:Int) (w:World) (hl:l.length≤1000000) (h:SlL w v l):
  Calls Tryz.prog 88 #[v,.int .i64 t] w fun e w'=>e= .returned (.int .i64 (seenL l t))∧Below w.heap.size w w':=by
 obtain ⟨a,cap,rfl⟩:=Rs h
 have H:=Hj h;clear h
 go_enter Tryz.func88,Tryz.ntmps88
 go_wp2
 go_loopw [5] (fun i wr=>∃k:Nat,k≤l.length∧i= .int .i64 k∧Below w.heap.size w wr∧∀j,j<k→(ltAt l j).t≠t) (fun i _=>l.length - (intOf i).toNat)
 case atStart=>exact ⟨0,Nat.zero_le _,rfl,Br _ _,fun j hj=>absurd hj (Nat.not_lt_zero _)⟩
 case round=>
  obtain ⟨k,hk,rfl,hbel,hok⟩:=hrel
  have Hok:=Hj hok;clear hok
  have hsz:=hbel.size
  by_cases hlt:k<l.length
  ·obtain ⟨b,off,rfl,hb,h0,h1⟩:=(H.out.below hbel).elem hlt
   by_cases he:(ltAt l k).t=t
   ·have hq:((ltAt l k).t==t)=true:=by simpa using he
    have Hs:=Hj (seen_first hlt Hok.out he)
    clear he
    go_wp2
    go_ret
    exact ⟨ret_int Hs.out.symm,hbel⟩
   have hq:((ltAt l k).t==t)=false:=by simpa using he
   have He:=Hj he;clear he
   go_wp2
   go_roundw
   case rel=>exact ⟨k+1,by omega,by go_num,hbel,fun j hj=>by
    by_cases hjk:j<k
    ·exact Hok.out j hjk
    obtain rfl:j=k:=by omega
    exact He.out⟩
   case measure=>simp[intOf];omega
  obtain rfl:k=l.length:=by omega
  have Hs:=Hj (seen_none Hok.out)
  go_wp2
  go_ret
  exact ⟨ret_int Hs.out.symm,hbel⟩
def cmpI (x y:Int):Int:=if x<y then -1 else if y<x then 1 else 0
theorem isNaN_any (x:Int) (w:World):Calls Tryz.prog 127 #[.int .i64 x] w fun e w'=>e= .returned (.bool false)∧w=w':=by
 go_enter Tryz.func127,Tryz.ntmps127
 go_wp2
 go_ret
 exact ⟨rfl,rfl⟩
theorem compare_any (x y:Int) (w:World):Calls Tryz.prog 85 #[.int .i64 x,.int .i64 y] w fun e w'=>e= .returned (.int .i64 (cmpI x y))∧w=w':=by
 rcases Int.lt_trichotomy x y with h | h | h
 ·have e:cmpI x y= -1:=by simp[cmpI,h]
  rw[e];clear e
  go_enter Tryz.func85,Tryz.ntmps85
  go_wp2_with (go_at_call 127;refine (isNaN_any _ _).mono ?_;rintro e w' ⟨rfl,rfl⟩)
  go_ret
  exact ⟨rfl,rfl⟩
 ·subst h
  have e:cmpI x x=0:=by simp[cmpI]
  rw[e];clear e
  go_enter Tryz.func85,Tryz.ntmps85
  go_wp2_with (go_at_call 127;refine (isNaN_any _ _).mono ?_;rintro e w' ⟨rfl,rfl⟩)
  go_ret
  exact ⟨rfl,rfl⟩
 have e:cmpI x y=1:=by
               have:¬x<y:=by omega
               simp[cmpI,h,this]
 rw[e];clear e
 have h':¬x<y:=by omega
 go_enter Tryz.func85,Tryz.ntmps85
 go_wp2_with (go_at_call 127;refine (isNaN_any _ _).mono ?_;rintro e w' ⟨rfl,rfl⟩)
 go_ret
 exact ⟨rfl,rfl⟩
theorem see1_any (x y t:Int) (w:World):Calls Tryz.prog 84 #[.agg #[.int .i64 x,.int .i64 y],.int .i64 t] w fun e w'=>e= .returned (.int .i64 (cmpI x t))∧Below w.heap.size w w':=by
 go_enter Tryz.func84,Tryz.ntmps84
 go_wp2_with (go_at_call 85;refine (compare_any _ _ _).mono ?_;rintro e w' ⟨rfl,rfl⟩)
 go_ret
 exact ⟨rfl,(Br _ _).alloc (Nr _) _⟩
open Go.Txt Go.RowKit Go.Bs Go.Cl Go.Rw Go.Lg
theorem see1_eq (x:Lt) (t r:Int) (w:World) (h:cmpI x.t t=r):Calls Tryz.prog 84 #[.agg #[.int .i64 x.t,.int .i64 x.q],.int .i64 t] w fun e w'=>e= .returned (.int .i64 r)∧Below w.heap.size w w':=h▸see1_any x.t x.q t w
def BsP (l:List Lt) (t:Int) (w:World) (e:Ending) (w':World):Prop:=
 ∃i:Nat,i≤l.length∧(∀k,k<i→(ltAt l k).t<t)∧(∀k,i≤k→k<l.length→t≤(ltAt l k).t)∧e= .returned (.tuple #[.int .i64 i,.bool (decide (i<l.length)&&decide ((ltAt l i).t=t))])∧Below w.heap.size w w'
theorem bsearch_any (v:Value) (l:List Lt) (t:Int) (w:World) (hl:l.length≤1000000) (h:SlL w v l) (hs:Srt l):
  Calls Tryz.prog 83 #[v,.int .i64 t,.func (.func 84) #[] #[]] w (BsP l t w):=by
 obtain ⟨a,cap,rfl⟩:=Rs h
 have H:=Hj h;clear h
 have Hs:=Hj hs;clear hs
 go_enter Tryz.func83,Tryz.ntmps83
 go_wp2
 go_loopw [9,10] (fun ii jj wr=>∃i j:Nat,i≤j∧j≤l.length∧ii= .int .i64 i∧jj= .int .i64 j∧Below w.heap.size w wr∧(∀k,k<i→(ltAt l k).t<t)∧(∀k,j≤k→k<l.length→t≤(ltAt l k).t)) (fun ii jj _=>(intOf jj).toNat - (intOf ii).toNat)
 case atStart=>exact ⟨0,l.length,Nat.zero_le _,Nr _,rfl,rfl,Br _ _,fun k hk=>by omega,fun k hk hk'=>by omega⟩
 case round=>
  obtain ⟨i,j,hij,hj,rfl,rfl,hbel,hlo,hhi⟩:=hrel
  have Hlo:=Hj hlo;clear hlo
  have Hhi:=Hj hhi;clear hhi
  have hsz:=hbel.size
  by_cases hlt:i<j
  ·obtain ⟨m,hm⟩:∃m:Nat,((i:Int)+j) / 2=m:=⟨(i+j) / 2,by omega⟩
   have hmi:i≤m:=by omega
   have hmj:m<j:=by omega
   have hml:m<l.length:=by omega
   obtain ⟨b,off,rfl,hb,h0,h1⟩:=(H.out.below hbel).elem hml
   have hm1:(m:Int)<(l.length:Int):=by omega
   have hsrt:∀k,k≤m→(ltAt l k).t≤(ltAt l m).t:=fun k hk=>by
    by_cases e:k=m
    ·rw[e];exact Int.le_refl _
    have:=srt_at Hs.out (show k<m by omega) hml;omega
   have hsrt2:∀k,m≤k→k<l.length→(ltAt l m).t≤(ltAt l k).t:=fun k hk hk2=>by
    by_cases e:k=m
    ·rw[e];exact Int.le_refl _
    have:=srt_at Hs.out (show m<k by omega) hk2;omega
   have Hs1:=Hj hsrt
   have Hs2:=Hj hsrt2
   clear hsrt hsrt2
   by_cases hc:(ltAt l m).t<t
   ·have Hc:=Hj (show cmpI (ltAt l m).t t= -1 by simp[cmpI,hc])
    have Hlt:=Hj hc;clear hc
    go_wp2_with fail
    refine (see1_eq _ _ _ _ Hc.out).mono ?_
    rintro e w1 ⟨rfl,hb1⟩
    have hfin:=hbel.trans (hb1.mono hsz)
    go_wp2
    go_roundw
    case rel=>exact ⟨m+1,j,by omega,hj,by go_num,rfl,hfin,fun k hk=>by have:=Hs1.out k (by omega);have:=Hlt.out;omega,Hhi.out⟩
    case measure=>simp[intOf];omega
   have hc1:0≤cmpI (ltAt l m).t t:=by unfold cmpI;split;(·omega);split <;> omega
   obtain ⟨c,hcc⟩:∃c,cmpI (ltAt l m).t t=c:=⟨_,rfl⟩
   rw[hcc] at hc1
   have Hc:=Hj hcc;clear hcc
   have Hlt:=Hj hc;clear hc
   go_wp2_with fail
   refine (see1_eq _ _ _ _ Hc.out).mono ?_
   rintro e w1 ⟨rfl,hb1⟩
   have hfin:=hbel.trans (hb1.mono hsz)
   go_wp2
   go_roundw
   case rel=>exact ⟨i,m,by omega,by omega,rfl,rfl,hfin,Hlo.out,fun k hk hk2=>by have:=Hs2.out k hk hk2;have:=Hlt.out;omega⟩
   case measure=>simp[intOf];omega
  obtain rfl:i=j:=by omega
  by_cases hin:i<l.length
  ·obtain ⟨b,off,rfl,hb,h0,h1⟩:=(H.out.below hbel).elem hin
   have hi1:(i:Int)<(l.length:Int):=by omega
   obtain ⟨c,hcc⟩:∃c,cmpI (ltAt l i).t t=c:=⟨_,rfl⟩
   have hcz:(c=0)=((ltAt l i).t=t):=by
    rw[←hcc];unfold cmpI
    apply propext
    split
    ·omega
    split <;> omega
   have Hcz:=Hj hcz
   have Hc:=Hj hcc
   clear hcc hcz
   go_wp2_with fail
   refine (see1_eq _ _ _ _ Hc.out).mono ?_
   rintro e w1 ⟨rfl,hb1⟩
   have hfin:=hbel.trans (hb1.mono hsz)
   go_wp2
   go_ret2
   refine ⟨i,hj,Hlo.out,Hhi.out, ?_,hfin⟩
   congr 1
   have hz:=Hcz.out
   have:(c==0)=decide ((ltAt l i).t=t):=by rw[Bool.eq_iff_iff];simp[←hz]
   simp[hin,this]
  go_wp2
  go_ret2
  exact ⟨i,hj,Hlo.out,Hhi.out,by simp[hin],hbel⟩
end Go.Proofs.YtipiofgdjbogiaaGreat.Ldg
namespace Go.Proofs.YtipiofgdjbogiaaGreat
open Go.Txt Go.RowKit Go.Bs Go.Cl Go.In
theorem Tryz.infoI145:(Tryz.prog.info? 145).map (fun i=>(i.zero,i.size,i.bytes))=some (some (.agg #[.int .i64 0,.int .i64 0]),2,16):=by kernel_rfl
theorem insert_end (base n:Nat) (v:Value) (xs ys:List Value) (vb vc:Nat) (w:World) (hbase:base≤w.heap.size) (hn:n≤1000000) (hown:w.ownsRow base 145 2 v n xs)
  (hy:ys.length=2) (hys:w.heap[vb]? =some (.cells ys.toArray 145 (0,0))) (h1y:∀u∈ys,u.oneCell'=true):
  Calls Tryz.prog 86 #[v,.int .i64 n,.slice (some ⟨vb,0,none⟩) 1 vc] w fun e w'=>∃v',e= .returned v'∧w'.ownsRow base 145 2 v' (n+1) (xs++ys)∧w.grownBy w' v.ownBlock:=by
 obtain ⟨i0,hi,hz0,hz1,hz2⟩:=info_parts Tryz.infoI145
 have Hi:=Hj hi;clear hi
 have Hz0:=Hj hz0;clear hz0
 have Hz1:=Hj hz1;clear hz1
 have Hz2:=Hj hz2;clear hz2
 have Hown:=Hj hown
 have H1y:=Hj h1y;clear h1y
 have Hy:=Hj (show ys.length=1*2 by omega)
 have Hn:=Hj (show 0<1→∃a',(some ⟨vb,0,none⟩:Option Addr)=some a'∧∀j u,ys[j]? =some u→w.cell? (a'.add j)=some u from fun _=>
  ⟨_,rfl,fun j u hj=>by rw[Addr.add_lit];simp[World.cell?,hys];simpa using hj⟩)
 clear hys
 have hf:∃a cap,v= .slice a n cap∧n≤cap∧(a=none∨∃g,a=some ⟨g,0,none⟩):=by
  rcases own_cases hown with ⟨rfl,rfl,_⟩ | ⟨g,cap,rfl,_,_,h⟩
  ·exact ⟨_,_,rfl,Nr _,.inl rfl⟩
  exact ⟨_,_,rfl,h,.inr ⟨g,rfl⟩⟩
 obtain ⟨a,cap,rfl,hc,ha⟩:=hf
 clear hown
 rcases ha with rfl | ⟨g,rfl⟩
 all_goals
  go_enter Tryz.func86,Tryz.ntmps86
  by_cases hcn:cap=n
  all_goals
   go_wp2_with (at_builtin;refine Ml.wpList_append_own2 _ rfl _ _ 88 87 rfl base 145 i0 (.agg #[.int .i64 0,.int .i64 0]) 2 16 Tryz.underlying88 Tryz.underlying87 Hi.out Hz0.out Hz1.out Hz2.out rfl _ n xs rfl Hown.out (some ⟨vb,0,none⟩) 1 vc ys rfl Hy.out Hn.out H1y.out ?c3 ?c4 ?c5 ?_)
   case c3=>unfold maxLen;omega
   case c4=>omega
   case c5=>exact hbase
   intro v' w1 hown' hgrow
   have Hown':=Hj hown';clear hown'
   have Hg:=Hj hgrow;clear hgrow
   go_wp2
   go_ret
   exact ⟨_,rfl,Hown'.out,Hg.out⟩
open Go.Txt Go.RowKit Go.Bs Go.Cl Go.In
theorem row_cell {w:World} {g j:Nat} {cur:Array Value} {t:TypeId} {v:Value} (hg:w.heap[g]? =some (.cells cur t (0,0))) (hj:cur.toList[j]? =some v):w.cell? ⟨g,j,none⟩=some v:=by
 simp[World.cell?,hg];simpa using hj
theorem grown_two {w w1 w2:World} {g:Option Nat} (h1:w.grownBy w1 g) (h2:w1.grownBy w2 g):w.grownBy w2 g:=
 ⟨h2.os.trans h1.os,h2.tape.trans h1.tape,h2.output.trans h1.output,Nat.le_trans h1.size h2.size,fun k hk hg=>(h2.block k (Nat.lt_of_lt_of_le hk h1.size) hg).trans (h1.block k hk hg)⟩
theorem grown_drew {w w1:World} {g:Option Nat} (h1:w.drew.grownBy w1 g):w.grownBy w1 g:=⟨h1.os,h1.tape,h1.output,h1.size,h1.block⟩
theorem insert_overlaps (vb m vc g off lb cb:Nat) (w:World) (c1 c2:Array Value) (t1 t2:TypeId) (hne:vb≠g) (h1:w.heap[vb]? =some (.cells c1 t1 (0,0))) (h2:w.heap[g]? =some (.cells c2 t2 (0,0))) (hz:c2.size≠0):
  (callFunc 128 #[.slice (some ⟨vb,0,none⟩) m vc,.slice (some ⟨g,off,none⟩) lb cb]).run Tryz.prog w= .ok (.value (.bool false)) w:=by
 obtain ⟨i0,hi,hz0,hz1,hz2⟩:=info_parts Tryz.infoI145
 rw[run_callFunc_extern Tryz.func128 (by kernel_rfl) (by kernel_rfl) (by kernel_rfl) (e:=Extern.SlicesOverlaps.overlaps #[87,87] #[4]) (by kernel_rfl),
  Lib.run_overlaps_apart w 87 4 145 Tryz.underlying87 2 (fun w=>by simp[sizeOf,typeInfo,hi,hz1]) ⟨vb,0,none⟩ ⟨g,off,none⟩ m vc lb cb hne t1 t2 c1.size c2.size
   (by simp[World.shape?,h1]) (by simp[World.shape?,h2]) hz (by simp[World.frozen?,h1]) (by simp[World.frozen?,h1])]
 rfl
theorem insert_room (base n i g cap:Nat) (xs ys:List Value) (vb vc:Nat) (w:World) (hn:n≤1000000) (hi:i<n) (hroom:n+1≤cap) (hown:w.ownsRow base 145 2 (.slice (some ⟨g,0,none⟩) n cap) n xs)
  (hy:ys.length=2) (hne:vb≠g) (hys:w.heap[vb]? =some (.cells ys.toArray 145 (0,0))) (h1y:∀u∈ys,u.oneCell'=true) (h1x:∀u∈xs,u.oneCell'=true):
  Calls Tryz.prog 86 #[.slice (some ⟨g,0,none⟩) n cap,.int .i64 i,.slice (some ⟨vb,0,none⟩) 1 vc] w fun e w'=>∃v',e= .returned v'∧w'.ownsRow base 145 2 v' (n+1) (xs.take (i*2)++ys++xs.drop (i*2))∧w.grownBy w' (some g):=by
 obtain ⟨hxl,hc⟩:=hown
 rcases hc with ⟨hc,_⟩ | ⟨g',cap',cur,hv,hbase,hg,hnc,hcm,hcs,htk⟩
 ·cases hc
 cases hv
 have hcl:cur.toList.length=cap*2:=by simpa using hcs
 obtain ⟨ht1,ht2⟩:=insert_in_place (iK:=i*2) (K:=2) htk hxl (by omega) hy (by omega)
 have hov:=fun off lb cb=>insert_overlaps vb 1 vc g off lb cb w ys.toArray cur 145 145 hne hys hg (by omega)
 have hz:(Tryz.prog.info? 145).map (·.size)=some 2:=by
  obtain ⟨i0,hi,hz0,hz1,hz2⟩:=info_parts Tryz.infoI145
  rw[hi];simp[hz1]
 have Ht1:=Hj ht1;clear ht1
 have Ht2:=Hj ht2;clear ht2
 have Hg:=Hj hg;clear hg
 have Hys:=Hj hys;clear hys
 have Htk:=Hj htk;clear htk
 have H1x:=Hj h1x;clear h1x
 have H1y:=Hj h1y;clear h1y
 have Hz:=Hj hz;clear hz
 have hb1:¬cap=i:=by omega
 have hb2:¬cap=i+1:=by omega
 have hb3:¬((cap:Int)<(n:Int)+1):=by omega
 go_enter Tryz.func86,Tryz.ntmps86
 go_wp2_with (simp only[hov])
 refine wp_txt (by kernel_rfl) (by kernel_rfl) ?_
 go_wp2_with (refine In.wpList_copyk rfl _ _ 88 88 rfl 145 2 Tryz.underlying88 Hz.out g ((i+1)*2) (n - i) (cap - (i+1)) ⟨g,i*2,none⟩ (n+1 - i) (cap - i) rfl rfl cur.toList 145 Hg.out (xs.drop (i*2)) (n - i) ?d4 ?d5 ?d6 ?d7 ?d8 ?_)
 case d4=>simp only[Nat.min_def];split <;> omega
 case d5=>rw[List.length_drop];omega
 case d6=>
  intro j v hj
  rw[Addr.add_lit]
  rw[List.getElem?_drop,←Htk.out,List.getElem?_take] at hj
  split at hj
  ·exact row_cell (w:=w) Hg.out hj
  cases hj
 case d7=>rw[List.length_drop];omega
 case d8=>exact fun u hu=>H1x.out u (List.mem_of_mem_drop hu)
 intro w1 hg1 hgr1 hsz1
 have Hg1:=Hj hg1;clear hg1
 have Hgr1:=Hj hgr1;clear hgr1
 go_wp2
 refine DrawPost.mk0 (by rfl) ?_
 go_wp2_with (refine In.wpList_copyk rfl _ _ 88 87 rfl 145 2 Tryz.underlying88 Hz.out g (i*2) (n+1 - i) (cap - i) ⟨vb,0,none⟩ 1 vc rfl rfl _ 145 Hg1.out ys 1 ?e4 ?e5 ?e6 ?e7 H1y.out ?_)
 case e4=>simp only[Nat.min_def];split <;> omega
 case e5=>omega
 case e6=>
  intro j v hj
  rw[Addr.add_lit,Nat.zero_add]
  exact row_cell (w:=w1) ((Hgr1.out.block vb (Al Hys.out) (by simpa using hne)).trans Hys.out) (by simpa using hj)
 case e7=>rw[length_splice _ _ _ (by rw[List.length_drop];omega)];omega
 intro w2 hg2 hgr2 hsz2
 have Hg2:=Hj hg2;clear hg2
 have Hgr2:=Hj (grown_two (grown_drew Hgr1.out) hgr2);clear hgr2
 go_wp2
 go_ret
 refine ⟨_,rfl,⟨?_,.inr ⟨g,cap,_,rfl,hbase,Hg2.out,hroom,hcm, ?_, ?_⟩⟩,Hgr2.out⟩
 ·simp only[List.length_append,List.length_take,List.length_drop];omega
 ·have:=Ht2.out
  simp only[List.size_toArray]
  rw[show (i+1)*2=i*2+2 by omega]
  omega
 have:=Ht1.out
 rw[show (i+1)*2=i*2+2 by omega,show (n+1)*2=n*2+2 by omega]
 exact this
open Go.Txt Go.RowKit Go.Bs Go.Cl Go.In
theorem insert_new (base n i g cap:Nat) (xs ys:List Value) (vb vc:Nat) (w:World) (hn:n≤1000000) (hi:i<n) (hroom:cap<n+1) (hbw:base≤w.heap.size) (hown:w.ownsRow base 145 2 (.slice (some ⟨g,0,none⟩) n cap) n xs)
  (hy:ys.length=2) (hys:w.heap[vb]? =some (.cells ys.toArray 145 (0,0))) (h1y:∀u∈ys,u.oneCell'=true) (h1x:∀u∈xs,u.oneCell'=true):
  Calls Tryz.prog 86 #[.slice (some ⟨g,0,none⟩) n cap,.int .i64 i,.slice (some ⟨vb,0,none⟩) 1 vc] w fun e w'=>∃v',e= .returned v'∧w'.ownsRow base 145 2 v' (n+1) (xs.take (i*2)++ys++xs.drop (i*2))∧w.grownBy w' (some g):=by
 obtain ⟨i0,hi0,hz0,hz1,hz2⟩:=info_parts Tryz.infoI145
 have hown0:=hown
 obtain ⟨hxl,hc⟩:=hown
 rcases hc with ⟨hc,_⟩ | ⟨g',cap',cur,hv,hbase,hg,hnc,hcm,hcs,htk⟩
 ·cases hc
 cases hv
 have hz:(Tryz.prog.info? 145).map (·.size)=some 2:=by rw[hi0];simp[hz1]
 have hgw:g<w.heap.size:=(Al hg)
 have hvw:vb<w.heap.size:=(Al hys)
 have hol:(xs.take (i*2)).length=i*2:=by rw[List.length_take];omega
 have hxc:∀j u,xs[j]? =some u→w.cell? ⟨g,j,none⟩=some u:=fun j u hj=>own_cell hown0 rfl hj
 have hold:∀j u,(xs.take (i*2))[j]? =some u→w.cell? ⟨g,0+j,none⟩=some u:=fun j u hj=>by
  rw[Nat.zero_add]
  rw[List.getElem?_take] at hj
  split at hj
  ·exact hxc j u hj
  cases hj
 have hwr:IntKind.i64.wrap ((n:Int)+1 - i)=((n+1 - i:Nat):Int):=by rw[IntKind.wrap_i64];omega
 clear hown0
 have Hi:=Hj hi0;clear hi0
 have Hz0:=Hj hz0;clear hz0
 have Hz1:=Hj hz1;clear hz1
 have Hz2:=Hj hz2;clear hz2
 have Hxc:=Hj hxc;clear hxc
 have Hold:=Hj hold;clear hold
 have Hol:=Hj hol;clear hol
 have Hg:=Hj hg;clear hg
 have Hys:=Hj hys;clear hys
 have Htk:=Hj htk;clear htk
 have H1x:=Hj h1x;clear h1x
 have H1y:=Hj h1y;clear h1y
 have Hz:=Hj hz;clear hz
 obtain rfl:cap=n:=by omega
 have hb1:¬cap=i:=by omega
 go_enter Tryz.func86,Tryz.ntmps86
 go_wp2_with (at_builtin;refine In.wpList_append_make rfl _ _ 88 3 rfl 145 i0 (.agg #[.int .i64 0,.int .i64 0]) 2 16 .i64 .i64 Tryz.underlying88 Tryz.underlying3 Hi.out Hz0.out Hz1.out Hz2.out rfl (by decide) g 0 i cap (xs.take (i*2)) rfl Hol.out Hold.out (cap+1 - i) _ rfl ?a1 ?a2 ?a3 ?a4 ?a5 ?_)
 case a1=>omega
 case a2=>omega
 case a3=>omega
 case a4=>omega
 case a5=>unfold maxLen;omega
 intro w1 cap1 cur1 hg1 hc1 hm1 hl1' hgr1 hsz1
 have hl1:(xs.take (i*2)++cur1).length=cap1*2:=by rw[List.length_append,Hol.out];omega
 clear hl1'
 obtain ⟨ht1,ht2⟩:=insert_anew (iK:=i*2) (K:=2) hxl (by omega) hy (show cap*2+2≤(xs.take (i*2)++cur1).length by rw[hl1];omega)
 have Ht1:=Hj ht1;clear ht1
 have Ht2:=Hj ht2;clear ht2
 have Hg1:=Hj hg1;clear hg1
 have Hgr1:=Hj hgr1;clear hgr1
 have Hl1:=Hj hl1;clear hl1
 have hik:i+(cap+1 - i)=cap+1:=by omega
 rw[hik] at hc1
 rw[hik]
 clear hik hwr
 have hb2:¬cap1=i:=by omega
 have hb3:¬cap1=i+1:=by omega
 go_wp2_with (refine In.wpList_copyk rfl _ _ 88 87 rfl 145 2 Tryz.underlying88 Hz.out w.heap.size (i*2) (cap+1 - i) (cap1 - i) ⟨vb,0,none⟩ 1 vc rfl rfl _ 145 Hg1.out ys 1 ?e4 ?e5 ?e6 ?e7 H1y.out ?_)
 case e4=>simp only[Nat.min_def];split <;> omega
 case e5=>omega
 case e6=>
  intro j v hj
  rw[Addr.add_lit,Nat.zero_add]
  exact row_cell (w:=w1) ((Hgr1.out.block vb hvw (by simp)).trans Hys.out) (by simpa using hj)
 case e7=>rw[Hl1.out];omega
 intro w2 hg2 hgr2 hsz2
 have Hg2:=Hj hg2;clear hg2
 have Hgr2:=Hj hgr2;clear hgr2
 go_wp2
 refine wp_txt (by kernel_rfl) (by kernel_rfl) ?_
 go_wp2_with (refine In.wpList_copyk rfl _ _ 88 88 rfl 145 2 Tryz.underlying88 Hz.out w.heap.size ((i+1)*2) (cap - i) (cap1 - (i+1)) ⟨g,i*2,none⟩ (cap - i) (cap - i) rfl rfl _ 145 Hg2.out (xs.drop (i*2)) (cap - i) ?d4 ?d5 ?d6 ?d7 ?d8 ?_)
 case d4=>simp only[Nat.min_def];split <;> omega
 case d5=>rw[List.length_drop];omega
 case d6=>
  intro j v hj
  rw[Addr.add_lit]
  rw[List.getElem?_drop,←Htk.out,List.getElem?_take] at hj
  split at hj
  ·exact row_cell (w:=w2) ((Hgr2.out.block g (Nat.lt_trans hgw hsz1) (by simp;omega)).trans ((Hgr1.out.block g hgw (by simp)).trans Hg.out)) hj
  cases hj
 case d7=>
  have:=Hl1.out
  rw[length_splice _ _ _ (by omega),List.length_drop];omega
 case d8=>exact fun u hu=>H1x.out u (List.mem_of_mem_drop hu)
 intro w3 hg3 hgr3 hsz3
 have Hg3:=Hj hg3;clear hg3
 have Hgr3:=Hj hgr3;clear hgr3
 go_wp2
 refine DrawPost.mk0 (by rfl) ?_
 go_wp2
 go_ret
 refine ⟨_,rfl,⟨?_,.inr ⟨w.heap.size,cap1,_,rfl,hbw,Hg3.out,hc1,hm1, ?_, ?_⟩⟩, ?_⟩
 ·simp only[List.length_append,List.length_take,List.length_drop];omega
 ·have:=Ht2.out
  simp only[List.size_toArray]
  rw[show (i+1)*2=i*2+2 by omega,this,Hl1.out]
 ·have:=Ht1.out
  rw[show (i+1)*2=i*2+2 by omega,show (cap+1)*2=cap*2+2 by omega]
  exact this
 exact ⟨Hgr3.out.os.trans (Hgr2.out.os.trans Hgr1.out.os),Hgr3.out.tape.trans (Hgr2.out.tape.trans Hgr1.out.tape),Hgr3.out.output.trans (Hgr2.out.output.trans Hgr1.out.output),
  Nat.le_trans Hgr1.out.size (Nat.le_trans Hgr2.out.size Hgr3.out.size),fun k hk _=>
   (Hgr3.out.block k (by have:=Hgr2.out.size;show k<w2.heap.size;omega) (by simp;omega)).trans ((Hgr2.out.block k (by omega) (by simp;omega)).trans (Hgr1.out.block k hk (by simp)))⟩
theorem insert_own (base n i:Nat) (v:Value) (xs ys:List Value) (vb vc:Nat) (w:World) (hn:n≤1000000) (hi:i≤n) (hbw:base≤w.heap.size) (hown:w.ownsRow base 145 2 v n xs)
  (hy:ys.length=2) (hne:v.ownBlock≠some vb) (hys:w.heap[vb]? =some (.cells ys.toArray 145 (0,0))) (h1y:∀u∈ys,u.oneCell'=true) (h1x:∀u∈xs,u.oneCell'=true):
  Calls Tryz.prog 86 #[v,.int .i64 i,.slice (some ⟨vb,0,none⟩) 1 vc] w fun e w'=>∃v',e= .returned v'∧w'.ownsRow base 145 2 v' (n+1) (xs.take (i*2)++ys++xs.drop (i*2))∧w.grownBy w' v.ownBlock:=by
 by_cases hin:i=n
 ·subst hin
  have hxl:=hown.1
  rw[List.take_of_length_le (by omega),List.drop_eq_nil_of_le (by omega),List.append_nil]
  exact insert_end base i v xs ys vb vc w hbw hn hown hy hys h1y
 rcases own_cases hown with ⟨rfl,h0,_⟩ | ⟨g,cap,rfl,hg1,hg2,hnc⟩
 ·omega
 by_cases hr:n+1≤cap
 ·exact insert_room base n i g cap xs ys vb vc w hn (by omega) hr hown hy (fun e=>hne (by simp[Value.ownBlock,e])) hys h1y h1x
 exact insert_new base n i g cap xs ys vb vc w hn (by omega) (by omega) hbw hown hy hys h1y h1x
end Go.Proofs.YtipiofgdjbogiaaGreat
namespace Go.Lg
open Go Go.Txt Go.RowKit Go.Bs Go.Cl Go.Rw
theorem take_lt {l:List Lt} {i:Nat} {t:Int} (h:∀k,k<i→(ltAt l k).t<t):∀z∈l.take i,z.t<t:=by
 intro z hz
 obtain ⟨k,hk,rfl⟩:=List.mem_iff_getElem.1 hz
 simp at hk
 have:=h k (by omega)
 simpa[ltAt,show k<l.length by omega] using this
theorem drop_ge {l:List Lt} {i:Nat} {t:Int} (h:∀k,i≤k→k<l.length→t≤(ltAt l k).t):∀z∈l.drop i,t≤z.t:=by
 intro z hz
 obtain ⟨k,hk,rfl⟩:=List.mem_iff_getElem.1 hz
 simp at hk
 have:=h (i+k) (by omega) (by omega)
 simpa[ltAt,show i+k<l.length by omega] using this
theorem put_ins {l:List Lt} {i:Nat} {x:Lt} (h1:∀k,k<i→(ltAt l k).t<x.t) (h2:∀k,i≤k→k<l.length→x.t<(ltAt l k).t):l.take i++x::l.drop i=putL l x:=by
 have hd:=drop_ge (t:=x.t+1) (fun k hk hk2=>by have:=h2 k hk hk2;omega)
 have ht:=take_lt h1
 have e1:l.filter (fun z=>z.t<x.t)=l.take i:=by
  conv=>lhs;rw[←List.take_append_drop i l]
  rw[List.filter_append,List.filter_eq_self.2 (fun z hz=>by simpa using ht z hz),List.filter_eq_nil_iff.2 (fun z hz=>by have:=hd z hz;simp;omega),List.append_nil]
 have e2:l.filter (fun z=>x.t<z.t)=l.drop i:=by
  conv=>lhs;rw[←List.take_append_drop i l]
  rw[List.filter_append,List.filter_eq_nil_iff.2 (fun z hz=>by have:=ht z hz;simp;omega),List.filter_eq_self.2 (fun z hz=>by have:=hd z hz;simp;omega),List.nil_append]
 unfold putL
 rw[e1,e2]
theorem put_set {l:List Lt} (hs:Srt l) {i:Nat} {x:Lt} (hi:i<l.length) (h:(ltAt l i).t=x.t):l.set i x=putL l x:=by
 have h1:∀k,k<i→(ltAt l k).t<x.t:=fun k hk=>by have:=srt_at hs hk hi;omega
 have ht:=take_lt h1
 have hd:=drop_ge (l:=l) (i:=i+1) (t:=x.t+1) (fun k hk hk2=>by have:=srt_at hs (show i<k by omega) hk2;omega)
 have hl:l=l.take i++ltAt l i::l.drop (i+1):=by
  have:=lt_get hi
  rw[List.getElem?_eq_getElem hi] at this
  rw[←Option.some.inj this,←List.drop_eq_getElem_cons hi,List.take_append_drop]
 have e1:l.filter (fun z=>z.t<x.t)=l.take i:=by
  conv=>lhs;rw[hl]
  rw[List.filter_append,List.filter_eq_self.2 (fun z hz=>by simpa using ht z hz),List.filter_cons_of_neg (by simp[h]),List.filter_eq_nil_iff.2 (fun z hz=>by have:=hd z hz;simp;omega),List.append_nil]
 have e2:l.filter (fun z=>x.t<z.t)=l.drop (i+1):=by
  conv=>lhs;rw[hl]
  rw[List.filter_append,List.filter_eq_nil_iff.2 (fun z hz=>by have:=ht z hz;simp;omega),List.filter_cons_of_neg (by simp[h]),List.filter_eq_self.2 (fun z hz=>by have:=hd z hz;simp;omega),List.nil_append]
 unfold putL
 rw[e1,e2]
 exact List.set_eq_take_append_cons_drop.trans (by rw[if_pos hi])
theorem see_bad {l:List Lt} {t s:Int} (h:validL l=false∨propL t=false):seeL l t s=([],0,1):=by
 unfold seeL
 rcases h with h | h <;> simp[h]
theorem see_rep {l:List Lt} {t s:Int} (h1:validL l=true) (h2:propL t=true) (h3:1≤s) (h4:s≤seenL l t):seeL l t s=(l,2,0):=by
 unfold seeL;simp[h1,h2,h3,h4]
theorem see_gap {l:List Lt} {t s:Int} (h1:validL l=true) (h2:propL t=true) (h3:¬(1≤s∧s≤seenL l t)) (h4:s<1∨s - 1≠seenL l t):seeL l t s=(l,3,0):=by
 unfold seeL;rw[h1,h2];simp only[Bool.and_self,if_true];rw[if_neg h3,if_pos h4]
theorem see_new {l:List Lt} {t s:Int} (h1:validL l=true) (h2:propL t=true) (h3:1≤s) (h4:s - 1=seenL l t):seeL l t s=(putL l ⟨t,s⟩,1,0):=by
 unfold seeL;rw[h1,h2];simp only[Bool.and_self,if_true];rw[if_neg (by omega),if_neg (by omega)]
end Go.Lg
namespace Go.Proofs.YtipiofgdjbogiaaGreat.Ldg
open Go.Txt Go.RowKit Go.Bs Go.Cl Go.Rw Go.Lg
def RetS (r:List Lt×Int×Int) (w:World) (e:Ending) (w':World):Prop:=∃v,e= .returned (.tuple #[v,.int .i64 r.2.1,.int .i64 r.2.2])∧SlL w' v r.1∧Below w.heap.size w w'
theorem valid_eq {v:Value} {l:List Lt} {w:World} {r:Bool} (hl:l.length≤1000000) (h:SlL w v l) (hr:validL l=r):Calls Tryz.prog 79 #[v] w fun e w'=>e= .returned (.bool r)∧Below w.heap.size w w':=hr▸valid_any v l w hl h
theorem proper_eq {t:Int} {w:World} {r:Bool} (hr:propL t=r):Calls Tryz.prog 80 #[.int .i64 t] w fun e w'=>e= .returned (.bool r)∧w=w':=hr▸proper_any t w
theorem seen_eq {v:Value} {l:List Lt} {t r:Int} {w:World} (hl:l.length≤1000000) (h:SlL w v l) (hr:seenL l t=r):Calls Tryz.prog 82 #[v,.int .i64 t] w fun e w'=>e= .returned (.int .i64 r)∧Below w.heap.size w w':=hr▸seen_any v l t w hl h
theorem RetS.nil {w w':World} {k e:Int} (hb:Below w.heap.size w w'):RetS ([],k,e) w (.returned (.tuple #[.slice none 0 0,.int .i64 k,.int .i64 e])) w':=⟨_,rfl,Raw.empty _ _ _,hb⟩
end Go.Proofs.YtipiofgdjbogiaaGreat.Ldg
namespace Go.Lg
open Go Go.Txt Go.RowKit Go.Bs Go.Cl Go.Rw
theorem take_succ_lt {l:List Lt} {k:Nat} (hk:k<l.length):l.take (k+1)=l.take k++[ltAt l k]:=by
 rw[List.take_add_one,lt_get hk];rfl
theorem put_snoc {a:List Lt} {z x:Lt} (h:x.t<z.t):putL (a++[z]) x=putL a x++[z]:=by
 unfold putL
 have h1:¬z.t<x.t:=by omega
 simp[List.filter_append,h,h1]
theorem put_first {a:List Lt} {z x:Lt} (ha:∀y∈a,y.t<x.t) (h:x.t≤z.t):putL (a++[z]) x=if z.t=x.t then a++[x] else a++[x]++[z]:=by
 unfold putL
 have e1:a.filter (fun y=>y.t<x.t)=a:=List.filter_eq_self.2 (fun y hy=>by simpa using ha y hy)
 have e2:a.filter (fun y=>x.t<y.t)=[]:=List.filter_eq_nil_iff.2 (fun y hy=>by have:=ha y hy;simp;omega)
 rw[List.filter_append,List.filter_append,e1,e2]
 have h1:¬z.t<x.t:=by omega
 by_cases h2:z.t=x.t
 ·have h3:¬x.t<z.t:=by omega
  simp[h1,h2]
 have h3:x.t<z.t:=by omega
 simp[h1,h2,h3]
theorem put_last {a:List Lt} {x:Lt} (ha:∀y∈a,y.t<x.t):putL a x=a++[x]:=by
 unfold putL
 have e1:a.filter (fun y=>y.t<x.t)=a:=List.filter_eq_self.2 (fun y hy=>by simpa using ha y hy)
 have e2:a.filter (fun y=>x.t<y.t)=[]:=List.filter_eq_nil_iff.2 (fun y hy=>by have:=ha y hy;simp;omega)
 rw[e1,e2]
def WithAt (l:List Lt) (x:Lt) (k:Nat) (done:Bool) (out:List Lt):Prop:=
 (done=false∧(∀j,j<k→(ltAt l j).t<x.t)∧out=l.take k)∨(done=true∧(∃j,j<k∧x.t≤(ltAt l j).t)∧out=putL (l.take k) x)
theorem WithAt.len {l:List Lt} {x:Lt} {k:Nat} {d:Bool} {out:List Lt} (h:WithAt l x k d out) (hs:Srt l) (hk:k≤l.length):out.length≤l.length+1:=by
 rcases h with ⟨_,_,rfl⟩ | ⟨_,_,rfl⟩
 ·simp;omega
 have:=put_len (l.take k) x (List.Pairwise.take hs);simp at this⊢;omega
end Go.Lg
namespace Go.Proofs.YtipiofgdjbogiaaGreat.Ldg
open Go.Txt Go.RowKit Go.Bs Go.Cl Go.Rw Go.Lg
theorem own_list {w:World} {base e n:Nat} {v:Value} {xs:List Value} {l:List Lt} (h:w.ownsRow base e 2 v n xs) (hx:l.flatMap encL=xs):w.ownsRow base e 2 v l.length (l.flatMap encL):=by
 subst hx
 have hn:n=l.length:=by have:=h.1;rw[flat_length encL encL_len] at this;omega
 subst hn;exact h
theorem el22:Rw.Elem Tryz.prog 33 175 2 16 (.agg #[.int .i64 0,.int .i64 0]):=⟨Tryz.underlying33,by kernel_rfl,rfl,by decide⟩
theorem box2 {w:World} (g:Nat) (x:Lt) {t:TypeId} (h:w.heap[g]? =some (.cells #[.int .i64 x.t,.int .i64 x.q] t (0,0))):Raw [] 2 w (.slice (some ⟨g,0,none⟩) 1 1) 1 (encL x):=
 Raw.of_block (ys:=encL x) h (by intro h;cases h) (by intro u hu;simp[encL] at hu;rcases hu with rfl | rfl <;> rfl) rfl (Nr _) (by unfold maxLen;omega)
theorem with_any (v:Value) (l:List Lt) (t s:Int) (w:World) (hl:l.length≤1000) (h:SlL w v l) (hs:Srt l):
  Calls Tryz.prog 89 #[v,.int .i64 t,.int .i64 s] w fun e w'=>∃v',e= .returned v'∧SlL w' v' (putL l ⟨t,s⟩)∧Below w.heap.size w w':=by
 obtain ⟨a,cap,rfl⟩:=Rs h
 have H:=Hj h;clear h
 have Hs:=Hj hs;clear hs
 go_enter Tryz.func89,Tryz.ntmps89
 go_wp2
 go_loopw [7,8,9] (fun ov dv i wr=>∃(k:Nat) (done:Bool) (out:List Lt),k≤l.length∧i= .int .i64 k∧dv= .bool done∧WithAt l ⟨t,s⟩ k done out∧wr.ownsRow w.heap.size 175 2 ov out.length (out.flatMap encL)∧Below w.heap.size w wr) (fun _ _ i _=>l.length - (intOf i).toNat)
 case atStart=>exact ⟨0,false,[],Nat.zero_le _,rfl,rfl,.inl ⟨rfl,fun j h=>absurd h (Nat.not_lt_zero _),rfl⟩,World.ownsRow_nil _ _ _ _,Br _ _⟩
 case round=>
  obtain ⟨k,done,out,hk,rfl,rfl,hW,hown,hbel⟩:=hrel
  have hol:=hW.len Hs.out hk
  obtain ⟨oa,oc,rfl⟩:=Oq hown
  have hsz:=hbel.size
  have Hown:=Hj hown;clear hown
  by_cases hlt:k<l.length
  ·obtain ⟨b,off,rfl,hb,h0,h1⟩:=(H.out.below hbel).elem hlt
   have htk:=take_succ_lt hlt
   have Htk:=Hj htk;clear htk
   obtain ⟨z,hz⟩:∃z,ltAt l k=z:=⟨_,rfl⟩
   rw[hz] at h0 h1
   have Hz:=Hj hz;clear hz
   have hbw:b<wr.heap.size:=hb
   rcases hW with ⟨rfl,hlow,rfl⟩ | ⟨rfl,⟨j,hj,hge⟩,rfl⟩
   ·have htake:∀y∈l.take k,y.t<(⟨t,s⟩:Lt).t:=take_lt hlow
    have Htake:=Hj htake
    have Hlow:=Hj hlow
    clear hlow htake
    by_cases hc:z.t<t
    · -- t_k < task: the element
     have hne:(z.t==t)=false:=by simp;omega
     have hne2:(z.t != t)=true:=by simp;omega
     have hn3:¬t≤z.t:=by omega
     have hbel1:=hbel.alloc hsz (.cells #[.int .i64 z.t,.int .i64 z.q] 175)
     have Hx:=Hj (box2 wr.heap.size z (heap_alloc_new wr (.cells #[.int .i64 z.t,.int .i64 z.q] 175)))
     go_wp2_with (at_builtin;refine wpList_app el22 Tryz.underlying33 (Hown.out.alloc _) Hx.out hbel1 rfl _ _ rfl rfl rfl ?c3 (Nr _) ?c5 ?_)
     case c3=>omega
     case c5=>first | omega | (simp;omega)
     intro v2 w2 hown2 hb2 hg2 hs2
     have Hfin:Hid (w2.ownsRow w.heap.size 175 2 v2 (l.take (k+1)).length ((l.take (k+1)).flatMap encL)):=Hj (own_list hown2 (by rw[Htk.out,Hz.out];simp))
     clear hown2 hg2
     go_wp2
     go_roundw
     case rel=>exact ⟨k+1,false,_,by omega,by go_num,rfl,.inl ⟨rfl,fun j hj=>by
      by_cases hjk:j<k
      ·exact Hlow.out j hjk
      obtain rfl:j=k:=by omega
      rw[Hz.out];exact hc,rfl⟩,Hfin.out,hb2⟩
     case measure=>simp[intOf];omega
    have hge:t≤z.t:=by omega
    have hbel1:=hbel.alloc hsz (.cells #[.int .i64 t,.int .i64 s] 175)
    have Hx:=Hj (box2 wr.heap.size ⟨t,s⟩ (heap_alloc_new wr (.cells #[.int .i64 t,.int .i64 s] 175)))
    have Hpf:=Hj (put_first (z:=z) (x:=⟨t,s⟩) Htake.out hge)
    by_cases he:z.t=t
    ·have hne:(z.t==t)=true:=by simpa using he
     have hne2:(z.t != t)=false:=by simp[he]
     have He:=Hj he;clear he
     go_wp2_with (at_builtin;refine wpList_app el22 Tryz.underlying33 (Hown.out.alloc _) Hx.out hbel1 rfl _ _ rfl rfl rfl ?c3 (Nr _) ?c5 ?_)
     case c3=>omega
     case c5=>first | omega | (simp;omega)
     intro v2 w2 hown2 hb2 hg2 hs2
     have h0':w2.cell? ⟨b,off+k*2,none⟩=some (.int .i64 z.t):=by
      have hb0:b<w.heap.size:=by
       rcases Raw.cases H.out with ⟨h,_⟩ | ⟨_,_,_,_,hv,_,_,hb0,_⟩
       ·omega
       cases hv;exact hb0
      rw[hb2.cell (p:=⟨b,off+k*2,none⟩) hb0,←hbel.cell (p:=⟨b,off+k*2,none⟩) hb0];exact h0
     have Hfin:Hid (w2.ownsRow w.heap.size 175 2 v2 (putL (l.take (k+1)) ⟨t,s⟩).length ((putL (l.take (k+1)) ⟨t,s⟩).flatMap encL)):=Hj (own_list hown2 (by rw[Htk.out,Hz.out,Hpf.out,if_pos He.out];simp))
     clear hown2 hg2
     go_wp2
     go_roundw
     case rel=>exact ⟨k+1,true,_,by omega,by go_num,rfl,.inr ⟨rfl,⟨k,by omega,by rw[Hz.out];exact hge⟩,rfl⟩,Hfin.out,hb2⟩
     case measure=>simp[intOf];omega
    have hne:(z.t==t)=false:=by simpa using he
    have hne2:(z.t != t)=true:=by simp[he]
    have He:=Hj he;clear he
    go_wp2_with (at_builtin;refine wpList_app el22 Tryz.underlying33 (Hown.out.alloc _) Hx.out hbel1 rfl _ _ rfl rfl rfl ?c3 (Nr _) ?c5 ?_)
    case c3=>omega
    case c5=>first | omega | (simp;omega)
    intro v2 w2 hown2 hb2 hg2 hs2
    have hb0:b<w.heap.size:=by
     rcases Raw.cases H.out with ⟨h,_⟩ | ⟨_,_,_,_,hv,_,_,hb0,_⟩
     ·omega
     cases hv;exact hb0
    have h0':w2.cell? ⟨b,off+k*2,none⟩=some (.int .i64 z.t):=by
     rw[hb2.cell (p:=⟨b,off+k*2,none⟩) hb0,←hbel.cell (p:=⟨b,off+k*2,none⟩) hb0];exact h0
    have h1':w2.cell? ⟨b,off+k*2+1,none⟩=some (.int .i64 z.q):=by
     rw[hb2.cell (p:=⟨b,off+k*2+1,none⟩) hb0,←hbel.cell (p:=⟨b,off+k*2+1,none⟩) hb0];exact h1
    obtain ⟨a2,c2,rfl⟩:=Oq hown2
    have Hown2:=Hj hown2
    have hbel2:=hb2
    have hsz2:=hbel2.size
    have Hx2:=Hj (box2 w2.heap.size z (heap_alloc_new w2 (.cells #[.int .i64 z.t,.int .i64 z.q] 175)))
    have hbel3:=hbel2.alloc hsz2 (.cells #[.int .i64 z.t,.int .i64 z.q] 175)
    clear hown2 hg2
    go_wp2_with (at_builtin;refine wpList_app el22 Tryz.underlying33 (Hown2.out.alloc _) Hx2.out hbel3 rfl _ _ rfl rfl rfl ?c3 (Nr _) ?c5 ?_)
    case c3=>omega
    case c5=>first | omega | (simp;omega)
    intro v4 w4 hown4 hb4 hg4 hs4
    have Hfin:Hid (w4.ownsRow w.heap.size 175 2 v4 (putL (l.take (k+1)) ⟨t,s⟩).length ((putL (l.take (k+1)) ⟨t,s⟩).flatMap encL)):=Hj (own_list hown4 (by rw[Htk.out,Hz.out,Hpf.out,if_neg He.out];simp))
    clear hown4 hg4
    go_wp2
    go_roundw
    case rel=>exact ⟨k+1,true,_,by omega,by go_num,rfl,.inr ⟨rfl,⟨k,by omega,by rw[Hz.out];exact hge⟩,rfl⟩,Hfin.out,hb4⟩
    case measure=>simp[intOf];omega
   have hgt:t<z.t:=by
    have:=srt_at Hs.out hj hlt
    rw[Hz.out] at this
    simp only at hge;omega
   have hne:(z.t==t)=false:=by simp;omega
   have hne2:(z.t != t)=true:=by simp;omega
   have Hps:=Hj (put_snoc (a:=l.take k) (z:=z) (x:=⟨t,s⟩) hgt)
   have hbel1:=hbel.alloc hsz (.cells #[.int .i64 z.t,.int .i64 z.q] 175)
   have Hx:=Hj (box2 wr.heap.size z (heap_alloc_new wr (.cells #[.int .i64 z.t,.int .i64 z.q] 175)))
   go_wp2_with (at_builtin;refine wpList_app el22 Tryz.underlying33 (Hown.out.alloc _) Hx.out hbel1 rfl _ _ rfl rfl rfl ?c3 (Nr _) ?c5 ?_)
   case c3=>omega
   case c5=>first | omega | (simp;omega)
   intro v2 w2 hown2 hb2 hg2 hs2
   have Hfin:Hid (w2.ownsRow w.heap.size 175 2 v2 (putL (l.take (k+1)) ⟨t,s⟩).length ((putL (l.take (k+1)) ⟨t,s⟩).flatMap encL)):=Hj (own_list hown2 (by rw[Htk.out,Hz.out,Hps.out];simp))
   clear hown2 hg2
   go_wp2
   go_roundw
   case rel=>exact ⟨k+1,true,_,by omega,by go_num,rfl,.inr ⟨rfl,⟨j,by omega,hge⟩,rfl⟩,Hfin.out,hb2⟩
   case measure=>simp[intOf];omega
  obtain rfl:k=l.length:=by omega
  rcases hW with ⟨rfl,hlow,rfl⟩ | ⟨rfl,_,hout⟩
  ·have Hpl:=Hj (put_last (a:=l) (x:=⟨t,s⟩) (fun y hy=>by
    obtain ⟨j,hj,rfl⟩:=lt_mem.1 hy
    exact hlow j hj))
   clear hlow
   have hbel1:=hbel.alloc hsz (.cells #[.int .i64 t,.int .i64 s] 175)
   have Hx:=Hj (box2 wr.heap.size ⟨t,s⟩ (heap_alloc_new wr (.cells #[.int .i64 t,.int .i64 s] 175)))
   go_wp2_with (at_builtin;refine wpList_app el22 Tryz.underlying33 (Hown.out.alloc _) Hx.out hbel1 rfl _ _ rfl rfl rfl ?c3 (Nr _) ?c5 ?_)
   case c3=>omega
   case c5=>first | omega | (simp;omega)
   intro v2 w2 hown2 hb2 hg2 hs2
   have Hfin:Hid (SlL w2 v2 (putL l ⟨t,s⟩)):=Hj (SlL.of_own (own_list hown2 (by rw[Hpl.out];simp)))
   clear hown2 hg2
   go_wp2
   go_ret
   exact ⟨_,rfl,Hfin.out,hb2⟩
  rw[List.take_length] at hout
  subst hout
  have Hfin:Hid (SlL wr (.slice oa (putL l ⟨t,s⟩).length oc) (putL l ⟨t,s⟩)):=Hj (SlL.of_own Hown.out)
  go_wp2
  go_ret
  exact ⟨_,rfl,Hfin.out,hbel⟩
open Go.Txt Go.RowKit Go.Bs Go.Cl Go.Rw Go.Lg
theorem lt_ext {x y:Lt} (h1:x.t=y.t) (h2:x.q=y.q):x=y:=by cases x;cases y;simp_all
def eqL (l m:List Lt):Bool:=decide (l.length=m.length)&&(List.range l.length).all fun k=>decide ((ltAt l k).t=(ltAt m k).t)&&decide ((ltAt l k).q=(ltAt m k).q)
theorem eqL_len {l m:List Lt} (h:¬l.length=m.length):eqL l m=false:=by simp[eqL,h]
theorem eqL_yes {l m:List Lt} (h:l.length=m.length) (h2:∀j,j<l.length→ltAt l j=ltAt m j):eqL l m=true:=by
 unfold eqL
 simp only[h,decide_true,Bool.true_and,List.all_eq_true,List.mem_range]
 intro k hk
 rw[h2 k (by omega)];simp
theorem eqL_refl (l:List Lt):eqL l l=true:=eqL_yes rfl fun _ _=>rfl
theorem eqL_no {l m:List Lt} {k:Nat} (h:¬ltAt l k=ltAt m k) (hk:k<l.length:=by omega):eqL l m=false:=by
 unfold eqL
 rw[Bool.and_eq_false_iff]
 refine .inr (List.all_eq_false.2 ⟨k,List.mem_range.2 hk, ?_⟩)
 simp only[Bool.and_eq_true,decide_eq_true_eq]
 exact fun e=>h (lt_ext e.1 e.2)
theorem from_any (v:Value) (l:List Lt) (w:World) (hl:l.length≤1000000) (h:SlL w v l):
  Calls Tryz.prog 59 #[v] w fun e w'=>∃v',e= .returned v'∧SlL w' v' l∧Below w.heap.size w w':=by
 obtain ⟨a,cap,rfl⟩:=Rs h
 have H:=Hj h;clear h
 go_enter Tryz.func59,Tryz.ntmps59
 go_wp2
 go_loopw [3,4] (fun ov i wr=>∃k:Nat,k≤l.length∧i= .int .i64 k∧wr.ownsRow w.heap.size 175 2 ov (l.take k).length ((l.take k).flatMap encL)∧Below w.heap.size w wr) (fun _ i _=>l.length - (intOf i).toNat)
 case atStart=>exact ⟨0,Nat.zero_le _,rfl,World.ownsRow_nil _ _ _ _,Br _ _⟩
 case round=>
  obtain ⟨k,hk,rfl,hown,hbel⟩:=hrel
  have hsz:=hbel.size
  have htl:(l.take k).length≤l.length:=by simp;omega
  by_cases hlt:k<l.length
  ·obtain ⟨b,off,rfl,hb,h0,h1⟩:=(H.out.below hbel).elem hlt
   have Htk:=Hj (take_succ_lt hlt)
   obtain ⟨z,hz⟩:∃z,ltAt l k=z:=⟨_,rfl⟩
   rw[hz] at h0 h1
   have Hz:=Hj hz;clear hz
   have Hown:=Hj hown;clear hown
   have hbel1:=hbel.alloc hsz (.cells #[.int .i64 z.t,.int .i64 z.q] 175)
   have Hx:=Hj (box2 wr.heap.size z (heap_alloc_new wr (.cells #[.int .i64 z.t,.int .i64 z.q] 175)))
   go_wp2_with (at_builtin;refine wpList_app el22 Tryz.underlying33 (Hown.out.alloc _) Hx.out hbel1 rfl _ _ rfl rfl rfl ?c3 (Nr _) ?c5 ?_)
   case c3=>omega
   case c5=>first | omega | (simp;omega)
   intro v2 w2 hown2 hb2 hg2 hs2
   have Hfin:Hid (w2.ownsRow w.heap.size 175 2 v2 (l.take (k+1)).length ((l.take (k+1)).flatMap encL)):=Hj (own_list hown2 (by rw[Htk.out,Hz.out];simp))
   clear hown2 hg2
   go_wp2
   go_roundw
   case rel=>exact ⟨k+1,by omega,by go_num,Hfin.out,hb2⟩
   case measure=>simp[intOf];omega
  obtain rfl:k=l.length:=by omega
  rw[List.take_length] at hown
  have Hfin:=Hj (SlL.of_own hown);clear hown
  go_wp2
  go_ret
  exact ⟨_,rfl,Hfin.out,hbel⟩
theorem requal_any (v1 v2:Value) (l m:List Lt) (w:World) (hl:l.length≤1000000) (hm:m.length≤1000000) (h1:SlL w v1 l) (h2:SlL w v2 m):
  Calls Tryz.prog 58 #[v1,v2] w fun e w'=>e= .returned (.bool (eqL l m))∧Below w.heap.size w w':=by
 obtain ⟨a1,c1,rfl⟩:=Rs h1
 obtain ⟨a2,c2,rfl⟩:=Rs h2
 have H1:=Hj h1;clear h1
 have H2:=Hj h2;clear h2
 by_cases hlen:l.length=m.length
 ·have Hlen:=Hj hlen
  rw[←hlen]
  clear hlen
  go_enter Tryz.func58,Tryz.ntmps58
  go_wp2
  go_loopw [5] (fun i wr=>∃k:Nat,k≤l.length∧i= .int .i64 k∧(∀j,j<k→ltAt l j=ltAt m j)∧Below w.heap.size w wr) (fun i _=>l.length - (intOf i).toNat)
  case atStart=>exact ⟨0,Nat.zero_le _,rfl,fun j h=>absurd h (Nat.not_lt_zero _),Br _ _⟩
  case round=>
   obtain ⟨k,hk,rfl,hok,hbel⟩:=hrel
   have Hok:=Hj hok;clear hok
   have hsz:=hbel.size
   by_cases hlt:k<l.length
   ·obtain ⟨b,off,rfl,hb,h0,h1⟩:=(H1.out.below hbel).elem hlt
    obtain ⟨b',off',rfl,hb',h0',h1'⟩:=(H2.out.below hbel).elem (show k<m.length by have:=Hlen.out;omega)
    by_cases e0:(ltAt l k).t=(ltAt m k).t
    all_goals by_cases e1:(ltAt l k).q=(ltAt m k).q
    all_goals
     have E0:=Hj e0
     have E1:=Hj e1
     try (have q0:((ltAt l k).t==(ltAt m k).t)=true:=by simpa using e0)
     try (have q0:((ltAt l k).t==(ltAt m k).t)=false:=by simpa using e0)
     try (have q1:((ltAt l k).q==(ltAt m k).q)=true:=by simpa using e1)
     try (have q1:((ltAt l k).q==(ltAt m k).q)=false:=by simpa using e1)
     clear e0 e1
     go_wp2
     refine wp_txt (by kernel_rfl) (by kernel_rfl) ?_
     go_wp2
     refine DrawPost.mk0 (by rfl) ?_
     go_wp2
     first
      | (
        go_ret
        exact ⟨ret_bool (by rw[eqL_no (k:=k) (by intro e;first | exact E0.out (by rw[e]) | exact E1.out (by rw[e]))]),hbel.drew⟩)
      | (
        go_roundw
        case rel=>exact ⟨k+1,by omega,by go_num,fun j hj=>by
         by_cases hjk:j<k
         ·exact Hok.out j hjk
         obtain rfl:j=k:=by omega
         exact lt_ext E0.out E1.out,hbel.drew⟩
        case measure=>simp[intOf];omega)
   obtain rfl:k=l.length:=by omega
   have He:=Hj (eqL_yes Hlen.out Hok.out)
   go_wp2
   go_ret
   exact ⟨ret_bool He.out.symm,hbel⟩
 have hne:((l.length:Int)==m.length)=false:=by rw[beq_eq_false_iff_ne];omega
 have He:=Hj (eqL_len hlen)
 clear hlen
 go_enter Tryz.func58,Tryz.ntmps58
 go_wp2
 all_goals first
  | (go_ret;exact ⟨ret_bool He.out.symm,Br _ _⟩)
  | (exfalso;simp at hne;omega)
theorem rvalid_eq {v:Value} {l:List Lt} {w:World} {r:Bool} (hl:l.length≤1000000) (h:SlL w v l) (hr:validL l=r):Calls Tryz.prog 87 #[v] w fun e w'=>e= .returned (.bool r)∧Below w.heap.size w w':=hr▸rvalid_any v l w hl h
theorem rseen_eq {v:Value} {l:List Lt} {t r:Int} {w:World} (hl:l.length≤1000000) (h:SlL w v l) (hr:seenL l t=r):Calls Tryz.prog 88 #[v,.int .i64 t] w fun e w'=>e= .returned (.int .i64 r)∧Below w.heap.size w w':=hr▸rseen_any v l t w hl h
theorem rsee_any (v:Value) (l:List Lt) (t s:Int) (w:World) (hl:l.length≤1000) (h:SlL w v l) (hs1: -9223372036854775808≤s) (hs2:s≤9223372036854775807):
  Calls Tryz.prog 35 #[v,.int .i64 t,.int .i64 s] w (RetS (seeL l t s) w):=by
 obtain ⟨a,cap,rfl⟩:=Rs h
 have H:=Hj h;clear h
 have hl6:l.length≤1000000:=by omega
 cases hv:validL l
 ·rw[see_bad (.inl hv)]
  have Hv:=Hj hv;clear hv
  go_enter Tryz.func35,Tryz.ntmps35
  go_wp2_with fail
  refine (rvalid_eq hl6 H.out Hv.out).mono ?_
  rintro e w1 ⟨rfl,hb1⟩
  go_wp2
  go_ret3
  exact RetS.nil hb1
 cases hp:propL t
 ·rw[see_bad (.inr hp)]
  have Hv:=Hj hv;clear hv
  have hbad:t<0∨32≤t:=by
   rw[Bool.eq_false_iff] at hp
   simp[propL] at hp
   omega
  rcases hbad with hbad | hbad
  all_goals
   have hb':¬0≤t∨¬t<32:=by omega
   clear hb'
   try have hge:0≤t:=by omega
   go_enter Tryz.func35,Tryz.ntmps35
   go_wp2_with fail
   refine (rvalid_eq hl6 H.out Hv.out).mono ?_
   rintro e w1 ⟨rfl,hb1⟩
   go_wp2
   go_ret3
   exact RetS.nil hb1
 obtain ⟨q,hq⟩:∃q,seenL l t=q:=⟨_,rfl⟩
 have hq0:=seen_pos hv t
 rw[hq] at hq0
 have Hsrt:=Hj (valid_srt hv)
 have hp1:0≤t:=by simp[propL] at hp;exact hp.1
 have hp2:t<32:=by simp[propL] at hp;exact hp.2
 have hcase:(1≤s∧s≤q)∨(¬(1≤s∧s≤q)∧(s<1∨s - 1≠q))∨(1≤s∧s - 1=q):=by omega
 rcases hcase with ⟨hc1,hc2⟩ | ⟨hc1,hc2⟩ | ⟨hc1,hc2⟩
 ·rw[see_rep hv hp hc1 (by rw[hq];exact hc2)]
  have Hv:=Hj hv;clear hv
  have Hq:=Hj hq;clear hq
  clear hp
  go_enter Tryz.func35,Tryz.ntmps35
  go_wp2_with fail
  refine (rvalid_eq hl6 H.out Hv.out).mono ?_
  rintro e w1 ⟨rfl,hb1⟩
  go_wp2_with fail
  refine (rseen_eq hl6 (H.out.below hb1) Hq.out).mono ?_
  rintro e w3 ⟨rfl,hb3⟩
  have hbel3:=hb1.trans (hb3.mono hb1.size)
  have hs3:=hbel3.size
  have hbel4:=hbel3.alloc hs3 (.cells #[] 175)
  have Hemp:=Hj (own_empty w3 w.heap.size 175 2 hs3)
  have HX:=Hj (Rb H.out hbel4)
  go_wp2_with (at_builtin;refine wpList_app el22 Tryz.underlying33 Hemp.out HX.out hbel4 rfl _ _ rfl rfl rfl ?c3 (Nr _) ?c5 ?_)
  case c3=>omega
  case c5=>first | omega | (simp;omega)
  intro v5 w5 hown5 hb5 hg5 hs5
  obtain ⟨a5,c5,rfl⟩:=Oq hown5
  have HF:=Hj (SlL.of_own (own_list (l:=l) hown5 (by simp)))
  clear hown5 hg5
  go_wp2
  go_ret3
  exact ⟨_,rfl,by simpa using HF.out,hb5⟩
 ·rw[see_gap hv hp (by rw[hq];exact hc1) (by rw[hq];exact hc2)]
  have Hv:=Hj hv;clear hv
  have Hq:=Hj hq;clear hq
  have Hc1:=Hj hc1;clear hc1
  have Hc2:=Hj hc2;clear hc2
  clear hp
  by_cases g1:s<1
  ·have g2:¬(1≤s):=by omega
   go_enter Tryz.func35,Tryz.ntmps35
   go_wp2_with fail
   refine (rvalid_eq hl6 H.out Hv.out).mono ?_
   rintro e w1 ⟨rfl,hb1⟩
   go_wp2_with fail
   refine (rseen_eq hl6 (H.out.below hb1) Hq.out).mono ?_
   rintro e w3 ⟨rfl,hb3⟩
   have hbel3:=hb1.trans (hb3.mono hb1.size)
   have hs3:=hbel3.size
   have hbel4:=hbel3.alloc hs3 (.cells #[] 175)
   have Hemp:=Hj (own_empty w3 w.heap.size 175 2 hs3)
   have HX:=Hj (Rb H.out hbel4)
   go_wp2_with (at_builtin;refine wpList_app el22 Tryz.underlying33 Hemp.out HX.out hbel4 rfl _ _ rfl rfl rfl ?c3 (Nr _) ?c5 ?_)
   case c3=>omega
   case c5=>first | omega | (simp;omega)
   intro v5 w5 hown5 hb5 hg5 hs5
   obtain ⟨a5,c5,rfl⟩:=Oq hown5
   have HF:=Hj (SlL.of_own (own_list (l:=l) hown5 (by simp)))
   clear hown5 hg5
   go_wp2
   go_ret3
   exact ⟨_,rfl,by simpa using HF.out,hb5⟩
  have g3:1≤s:=by omega
  have g4:q<s:=by have:=Hc1.out;omega
  have g5:(s - 1==q)=false:=by have:=Hc2.out;simp;omega
  have g6:(s - 1 != q)=true:=by have:=Hc2.out;simp;omega
  have g7:¬s≤q:=by omega
  go_enter Tryz.func35,Tryz.ntmps35
  go_wp2_with fail
  refine (rvalid_eq hl6 H.out Hv.out).mono ?_
  rintro e w1 ⟨rfl,hb1⟩
  go_wp2_with fail
  refine (rseen_eq hl6 (H.out.below hb1) Hq.out).mono ?_
  rintro e w3 ⟨rfl,hb3⟩
  have hbel3:=hb1.trans (hb3.mono hb1.size)
  have hs3:=hbel3.size
  have hbel4:=hbel3.alloc hs3 (.cells #[] 175)
  have Hemp:=Hj (own_empty w3 w.heap.size 175 2 hs3)
  have HX:=Hj (Rb H.out hbel4)
  go_wp2_with (at_builtin;refine wpList_app el22 Tryz.underlying33 Hemp.out HX.out hbel4 rfl _ _ rfl rfl rfl ?c3 (Nr _) ?c5 ?_)
  case c3=>omega
  case c5=>first | omega | (simp;omega)
  intro v5 w5 hown5 hb5 hg5 hs5
  obtain ⟨a5,c5,rfl⟩:=Oq hown5
  have HF:=Hj (SlL.of_own (own_list (l:=l) hown5 (by simp)))
  clear hown5 hg5
  go_wp2
  go_ret3
  exact ⟨_,rfl,by simpa using HF.out,hb5⟩
 rw[see_new hv hp hc1 (by rw[hq];exact hc2)]
 have Hv:=Hj hv;clear hv
 have Hq:=Hj hq;clear hq
 clear hp
 obtain rfl:q=s - 1:=hc2.symm
 have g1:¬s≤s - 1:=by omega
 have g2:¬s<1:=by omega
 go_enter Tryz.func35,Tryz.ntmps35
 go_wp2_with fail
 refine (rvalid_eq hl6 H.out Hv.out).mono ?_
 rintro e w1 ⟨rfl,hb1⟩
 go_wp2_with fail
 refine (rseen_eq hl6 (H.out.below hb1) Hq.out).mono ?_
 rintro e w3 ⟨rfl,hb3⟩
 have hbel3:=hb1.trans (hb3.mono hb1.size)
 go_wp2_with fail
 refine (with_any _ l t s _ hl (H.out.below hbel3) Hsrt.out).mono ?_
 rintro e w4 ⟨v4,rfl,h4,hb4⟩
 obtain ⟨a4,c4,rfl⟩:=Rs h4
 have HF:=Hj h4
 have hbel4:=hbel3.trans (hb4.mono hbel3.size)
 clear h4 hb4
 go_wp2
 go_ret3
 exact ⟨_,rfl,HF.out,hbel4⟩
end Go.Proofs.YtipiofgdjbogiaaGreat.Ldg
namespace Go.Lg
open Go Go.Txt Go.RowKit Go.Bs Go.Cl Go.Rw
def LowL (N:Nat) (w:World) (v:Value) (l:List Lt):Prop:=∀F:List Nat,(∀f∈F,f<N)→Raw F 2 w v l.length (l.flatMap encL)
theorem LowL.sl {N:Nat} {w:World} {v:Value} {l:List Lt} (h:LowL N w v l):SlL w v l:=h [] (fun f hf=>by cases hf)
theorem LowL.below {N:Nat} {w w':World} {v:Value} {l:List Lt} (h:LowL N w v l) (hb:Below w.heap.size w w'):LowL N w' v l:=fun F hF=>Rb (h F hF) hb
theorem LowL.of_own {N:Nat} {w:World} {base e n:Nat} {v:Value} {l:List Lt} (hN:N≤base) (h:w.ownsRow base e 2 v n (l.flatMap encL)):LowL N w v l:=fun F hF=>by
 have hn:n=l.length:=by have:=h.1;rw[flat_length encL encL_len] at this;omega
 subst hn
 exact Raw.of_own h (encL_one l) (fun f hf=>by have:=hF f hf;omega)
end Go.Lg
namespace Go.Proofs.YtipiofgdjbogiaaGreat.Ldg
open Go.Txt Go.RowKit Go.Bs Go.Cl Go.Rw Go.Lg
def RetL (r:List Lt×Int×Int) (w:World) (e:Ending) (w':World):Prop:=∃v,e= .returned (.tuple #[v,.int .i64 r.2.1,.int .i64 r.2.2])∧LowL w.heap.size w' v r.1∧Below w.heap.size w w'
theorem RetL.nil {w w':World} {k e:Int} (hb:Below w.heap.size w w'):RetL ([],k,e) w (.returned (.tuple #[.slice none 0 0,.int .i64 k,.int .i64 e])) w':=⟨_,rfl,fun _ _=>Raw.empty _ _ _,hb⟩
theorem see_low (v:Value) (l:List Lt) (t s:Int) (w:World) (hl:l.length≤1000) (h:SlL w v l) (hs1: -9223372036854775808≤s) (hs2:s≤9223372036854775807):
  Calls Tryz.prog 34 #[v,.int .i64 t,.int .i64 s] w (RetL (seeL l t s) w):=by
 obtain ⟨a,cap,rfl⟩:=Rs h
 have H:=Hj h;clear h
 have hl6:l.length≤1000000:=by omega
 cases hv:validL l
 ·rw[see_bad (.inl hv)]
  have Hv:=Hj hv;clear hv
  go_enter Tryz.func34,Tryz.ntmps34
  go_wp2_with fail
  refine (valid_eq hl6 H.out Hv.out).mono ?_
  rintro e w1 ⟨rfl,hb1⟩
  go_wp2
  go_ret3
  exact RetL.nil hb1
 cases hp:propL t
 ·rw[see_bad (.inr hp)]
  have Hv:=Hj hv;clear hv
  have Hp:=Hj hp;clear hp
  go_enter Tryz.func34,Tryz.ntmps34
  go_wp2_with fail
  refine (valid_eq hl6 H.out Hv.out).mono ?_
  rintro e w1 ⟨rfl,hb1⟩
  go_wp2_with (go_at_call 80;refine (proper_eq Hp.out).mono ?_;rintro e w' ⟨rfl,rfl⟩)
  go_ret3
  exact RetL.nil hb1
 obtain ⟨q,hq⟩:∃q,seenL l t=q:=⟨_,rfl⟩
 have hq0:=seen_pos hv t
 rw[hq] at hq0
 have Hsrt:=Hj (valid_srt hv)
 have hcase:(1≤s∧s≤q)∨(¬(1≤s∧s≤q)∧(s<1∨s - 1≠q))∨(1≤s∧s - 1=q):=by omega
 rcases hcase with ⟨hc1,hc2⟩ | ⟨hc1,hc2⟩ | ⟨hc1,hc2⟩
 ·rw[see_rep hv hp hc1 (by rw[hq];exact hc2)]
  have Hv:=Hj hv;clear hv
  have Hp:=Hj hp;clear hp
  have Hq:=Hj hq;clear hq
  go_enter Tryz.func34,Tryz.ntmps34
  go_wp2_with fail
  refine (valid_eq hl6 H.out Hv.out).mono ?_
  rintro e w1 ⟨rfl,hb1⟩
  go_wp2_with (go_at_call 80;refine (proper_eq Hp.out).mono ?_;rintro e w' ⟨rfl,rfl⟩)
  refine (clone24 _ hl6 (H.out.below hb1)).mono ?_
  rintro e w2 ⟨v2,rfl,hown2,hb2⟩
  obtain ⟨a2,c2,rfl⟩:=Oq hown2
  have hbel2:=hb1.trans (hb2.mono hb1.size)
  have HS2:=Hj (LowL.of_own hb1.size hown2)
  clear hown2 hb2
  go_wp2_with fail
  refine (seen_eq hl6 (H.out.below hbel2) Hq.out).mono ?_
  rintro e w3 ⟨rfl,hb3⟩
  have hbel3:=hbel2.trans (hb3.mono hbel2.size)
  have HS3:=Hj (HS2.out.below hb3)
  go_wp2
  go_ret3
  exact ⟨_,rfl,HS3.out,hbel3⟩
 ·rw[see_gap hv hp (by rw[hq];exact hc1) (by rw[hq];exact hc2)]
  have Hv:=Hj hv;clear hv
  have Hp:=Hj hp;clear hp
  have Hq:=Hj hq;clear hq
  have Hc1:=Hj hc1;clear hc1
  have Hc2:=Hj hc2;clear hc2
  go_enter Tryz.func34,Tryz.ntmps34
  go_wp2_with fail
  refine (valid_eq hl6 H.out Hv.out).mono ?_
  rintro e w1 ⟨rfl,hb1⟩
  go_wp2_with (go_at_call 80;refine (proper_eq Hp.out).mono ?_;rintro e w' ⟨rfl,rfl⟩)
  refine (clone24 _ hl6 (H.out.below hb1)).mono ?_
  rintro e w2 ⟨v2,rfl,hown2,hb2⟩
  obtain ⟨a2,c2,rfl⟩:=Oq hown2
  have hbel2:=hb1.trans (hb2.mono hb1.size)
  have HS2:=Hj (LowL.of_own hb1.size hown2)
  clear hown2 hb2
  go_wp2_with fail
  refine (seen_eq hl6 (H.out.below hbel2) Hq.out).mono ?_
  rintro e w3 ⟨rfl,hb3⟩
  have hbel3:=hbel2.trans (hb3.mono hbel2.size)
  have HS3:=Hj (HS2.out.below hb3)
  by_cases g1:s<1
  ·have g2:¬(1≤s):=by omega
   go_wp2
   go_ret3
   exact ⟨_,rfl,HS3.out,hbel3⟩
  have g3:1≤s:=by omega
  have g4:q<s:=by have:=Hc1.out;omega
  have g5:(s - 1==q)=false:=by have:=Hc2.out;simp;omega
  have g6:(s - 1 != q)=true:=by have:=Hc2.out;simp;omega
  have g7:¬s≤q:=by omega
  go_wp2
  go_ret3
  exact ⟨_,rfl,HS3.out,hbel3⟩
 rw[see_new hv hp hc1 (by rw[hq];exact hc2)]
 have Hv:=Hj hv;clear hv
 have Hp:=Hj hp;clear hp
 have Hq:=Hj hq;clear hq
 obtain rfl:q=s - 1:=hc2.symm
 go_enter Tryz.func34,Tryz.ntmps34
 go_wp2_with fail
 refine (valid_eq hl6 H.out Hv.out).mono ?_
 rintro e w1 ⟨rfl,hb1⟩
 go_wp2_with (go_at_call 80;refine (proper_eq Hp.out).mono ?_;rintro e w' ⟨rfl,rfl⟩)
 refine (clone24 _ hl6 (H.out.below hb1)).mono ?_
 rintro e w2 ⟨v2,rfl,hown2,hb2⟩
 obtain ⟨a2,c2,rfl⟩:=Oq hown2
 have hbel2:=hb1.trans (hb2.mono hb1.size)
 have HO2:=Hj (own_base hown2 hb1.size)
 clear hown2 hb2
 go_wp2_with fail
 refine (seen_eq hl6 (H.out.below hbel2) Hq.out).mono ?_
 rintro e w3 ⟨rfl,hb3⟩
 have hbel3:=hbel2.trans (hb3.mono hbel2.size)
 have HO3:=Hj (own_below HO2.out hb3 (Nr _))
 have g1:¬s≤s - 1:=by omega
 have g2:¬s<1:=by omega
 go_wp2_with fail
 refine (bsearch_any _ l t _ hl6 (SlL.of_own HO3.out) Hsrt.out).mono ?_
 rintro e w4 ⟨i,hi,hlo,hhi,rfl,hb4⟩
 have hbel4:=hbel3.trans (hb4.mono hbel3.size)
 have HO4:=Hj (own_below HO3.out hb4 (Nr _))
 have hs4:=hbel4.size
 by_cases hf:i<l.length∧(ltAt l i).t=t
 ·obtain ⟨hil,hit⟩:=hf
  have hput:=put_set Hsrt.out (x:=⟨t,s⟩) hil hit
  have htrue:(decide (i<l.length)&&decide ((ltAt l i).t=t))=true:=by simp[hil,hit]
  rw[htrue]
  have hown4:=HO4.out
  rcases own_cases hown4 with ⟨e,h0,_⟩ | ⟨g,c9,e,hg1,hg2,hcc⟩
  ·omega
  cases e
  have hcell:=own_cell hown4 rfl (flat_get encL encL_len l i 1 _ (lt_get hil) (by omega))
  have hfz:=own_frozen hown4 (i*2+1)
  have hset:=own_set hown4 (j:=i*2+1) (u:= .int .i64 s) (by rw[flat_length encL encL_len];omega)
  rw[flat_set encL encL_len l i 1 (ltAt l i) ⟨t,s⟩ _ (lt_get hil) (by omega) (by rw[←hit];rfl),hput] at hset
  have HF:=Hj (LowL.of_own (Nr _) hset)
  have hcell':w4.cell? ⟨g,i*2+1,none⟩=some (.int .i64 (ltAt l i).q):=hcell
  have hpl:(putL l ⟨t,s⟩).length=l.length:=by rw[←hput];simp
  have Hpl:=Hj hpl
  have hbel5:=hbel4.setCell (p:=⟨g,i*2+1,none⟩) hg1 (.int .i64 s)
  clear hset hown4 hcell hput htrue hit hpl
  go_wp2
  go_ret3
  exact ⟨_,rfl,HF.out,hbel5⟩
 have hfalse:(decide (i<l.length)&&decide ((ltAt l i).t=t))=false:=by
  rw[Bool.eq_false_iff];simpa using hf
 have hgt:∀k,i≤k→k<l.length→t<(ltAt l k).t:=fun k hk hk2=>by
  have h1:=hhi i (Nr _) (by omega)
  have h2:(ltAt l i).t≠t:=fun e=>hf ⟨by omega,e⟩
  by_cases e:k=i
  ·subst e;omega
  have:=srt_at Hsrt.out (show i<k by omega) hk2;omega
 have hput:=put_ins (x:=⟨t,s⟩) hlo hgt
 rw[hfalse]
 have Hput:=Hj hput
 have Hlo:=Hj hlo
 have Hhi:=Hj hhi
 have Hf:=Hj hf
 clear hput hgt hlo hhi hf hfalse
 have hbel5:=hbel4.alloc hs4 (.cells #[.int .i64 t,.int .i64 s] 145)
 have HO5:=Hj (HO4.out.alloc (.cells #[.int .i64 t,.int .i64 s] 145))
 go_wp2_with fail
 refine (insert_own w.heap.size l.length i _ (l.flatMap encL) (encL ⟨t,s⟩) w4.heap.size _ _ hl6 hi hbel5.size HO5.out rfl (fun e=>by have:=(HO4.out.lt _ e).2;omega) (heap_alloc_new w4 _) (by intro u hu;simp[encL] at hu;rcases hu with rfl | rfl <;> rfl) (encL_one l)).mono ?_
 rintro e w6 ⟨v6,rfl,hown6,hg6⟩
 obtain ⟨a6,c6,rfl⟩:=Oq hown6
 have hbel6:=hbel5.grown hg6 hbel5.size (fun q hq=>(HO4.out.lt q hq).1)
 have hflat:(l.flatMap encL).take (i*2)++encL ⟨t,s⟩++(l.flatMap encL).drop (i*2)=(putL l ⟨t,s⟩).flatMap encL:=by
  rw[←Hput.out,flat_take encL encL_len,flat_drop encL encL_len];simp
 rw[hflat] at hown6
 have HF:=Hj (LowL.of_own (Nr _) hown6)
 clear hown6 hg6 hflat
 go_wp2
 go_ret3
 exact ⟨_,rfl,HF.out,hbel6⟩
end Go.Proofs.YtipiofgdjbogiaaGreat.Ldg
