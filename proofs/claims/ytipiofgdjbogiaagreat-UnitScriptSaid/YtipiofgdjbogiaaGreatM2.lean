/- Undo: plain facts: records, images. No program in sight. -/
import Derived.Test.YtipiofgdjbogiaaGreatM1
import Derived.Test.YtipiofgdjbogiaaGreatRows
import Derived.RangeFuncNested
import Derived.RangeFuncBox
import Derived.RangeFuncLeaves
import Derived.RangeFuncCalls
import Derived.OwnWalkIn
import Derived.TacticsInMore
import Derived.LoopNIn
import Derived.LoopIn
import Derived.Shelf.Abstract
set_option maxRecDepth 100000
set_option maxHeartbeats 2000000
namespace Go.Un
open Go Go.Txt Go.RowKit Go.Bs Go.Cl Go.Rw
def sized (b:List UInt8) (n:Nat):List UInt8:=b.take n++List.replicate (n - b.length) 0
theorem sized_len (b:List UInt8) (n:Nat):(sized b n).length=n:=by simp[sized];omega
def written (b:List UInt8) (o:Nat) (x:List UInt8):List UInt8:=b.take o++x++b.drop (o+x.length)
theorem written_len {b:List UInt8} {o:Nat} {x:List UInt8} (h:o+x.length≤b.length):(written b o x).length=b.length:=by simp[written];omega
theorem splice_bytes (b:List UInt8) (o:Nat) (x:List UInt8):splice (bytesV b) o (bytesV x)=bytesV (written b o x):=by
 simp[splice,written,bytesV]
theorem zeros_bytes (n:Nat):(madeCells #[Value.int .u8 0] n).toList=bytesV (List.replicate n 0):=by
 apply List.ext_getElem
 ·simp[size_madeCells,bytesV]
 intro i h1 h2
 simp[madeCells,bytesV,byteV,Value.cells,Nat.mod_one]
theorem sized_splice (b:List UInt8) (n:Nat):written (List.replicate n 0) 0 (b.take (Nat.min b.length n))=sized b n:=by
 unfold written sized
 simp only[List.take_zero,List.nil_append,Nat.zero_add,List.length_take,List.drop_replicate]
 by_cases h:b.length≤n
 ·have e:Nat.min b.length n=b.length:=Nat.min_eq_left h
  rw[e,List.take_of_length_le (Nr _),List.take_of_length_le h,Nat.min_self]
 have e:Nat.min b.length n=n:=Nat.min_eq_right (by omega)
 rw[e,Nat.min_eq_left (by omega)]
 congr 2
 omega
structure Rec where
 off:Int
 len:Int
 old:List UInt8
def Rec.ok (r:Rec):Bool:=decide (0≤r.len)&&decide (r.len≤24000)&&decide (0≤r.off)&&decide (r.off≤r.len)&&decide ((r.old.length:Int)≤r.len - r.off)
def takeR (b:List UInt8) (r:Rec):List UInt8:=written (sized b r.len.toNat) r.off.toNat r.old
theorem Rec.ok_iff {r:Rec}:r.ok=true↔0≤r.len∧r.len≤24000∧0≤r.off∧r.off≤r.len∧(r.old.length:Int)≤r.len - r.off:=by simp[Rec.ok,and_assoc]
theorem takeR_len {b:List UInt8} {r:Rec} (h:r.ok=true):(takeR b r).length=r.len.toNat:=by
 have:=Rec.ok_iff.1 h
 unfold takeR
 rw[written_len (by rw[sized_len];omega),sized_len]
def takeAll (b:List UInt8) (l:List Rec):List UInt8:=l.foldr (fun r b=>takeR b r) b
theorem sized_get (b:List UInt8) (n p:Nat):(sized b n)[p]? =if n≤p then none else some (b[p]?.getD 0):=by
 unfold sized
 by_cases h:n≤p
 ·rw[if_pos h];apply List.getElem?_eq_none;simp;omega
 rw[if_neg h]
 by_cases hb:p<b.length
 ·rw[List.getElem?_append_left (by simp;omega),List.getElem?_take,if_pos (by omega)]
  simp[hb]
 rw[List.getElem?_append_right (by simp;omega),List.getElem?_replicate,if_pos (by simp;omega)]
 simp[List.getElem?_eq_none (show b.length≤p by omega)]
theorem written_get {b:List UInt8} {o:Nat} {x:List UInt8} (h:o+x.length≤b.length) (p:Nat):(written b o x)[p]? =if o≤p∧p<o+x.length then x[p - o]? else b[p]? :=by
 unfold written
 by_cases h1:p<o
 ·rw[if_neg (by omega),List.append_assoc,List.getElem?_append_left (by simp;omega),List.getElem?_take,if_pos h1]
 by_cases h2:p<o+x.length
 ·rw[if_pos ⟨by omega,h2⟩,List.append_assoc,List.getElem?_append_right (by simp;omega),List.length_take,Nat.min_eq_left (by omega),List.getElem?_append_left (by omega)]
 rw[if_neg (by omega),List.getElem?_append_right (by simp;omega),List.length_append,List.length_take,Nat.min_eq_left (by omega),List.getElem?_drop]
 congr 1;omega
end Go.Un
namespace Go.Proofs.YtipiofgdjbogiaaGreat
open Go.Txt Go.RowKit Go.Bs Go.Cl Go.Rw
theorem el22:Rw.Elem Tryz.prog 22 5 1 1 (.int .u8 0):=⟨Tryz.underlying22,by kernel_rfl,rfl,by decide⟩
theorem clone33 {F:List Nat} {v:Value} {n:Nat} {xs:List Value} (w:World) (hl:n≤1000000) (hr:Raw F 1 w v n xs):
  Calls Tryz.prog 67 #[v] w fun e w'=>∃v',e= .returned v'∧w'.ownsRow w.heap.size 5 1 v' n xs∧Below w.heap.size w w':=by
 have q32:∀(w:World) (a:Option Addr) (n c n' c':Nat),(binOp .eql 22 (.slice a n c) (.slice none n' c')).run Tryz.prog w= .ok (.bool a.isNone) w:=fun w a n c n' c'=>Lib.run_eql_slice_nil w _ _ a n c n' c' Tryz.underlying22
 obtain ⟨a,cap,hv⟩:∃a cap,v= .slice a n cap:=by obtain ⟨_,_,a,cap,h,_⟩:=hr;exact ⟨a,cap,h⟩
 have Hr:=Hj (hr.alloc (.cells #[] 5))
 have Hemp:=Hj (own_empty w w.heap.size 5 1 (Nr _))
 cases a with
 | none=>
  have h0:n=0∧xs=[]:=by
   rcases hr.cases with ⟨h0,h1,_⟩ | ⟨_,b,off,c,h,_⟩
   ·exact ⟨h0,h1⟩
   rw[hv] at h;cases h
  obtain ⟨rfl,rfl⟩:=h0
  subst hv
  go_enter Tryz.func67,Tryz.ntmps67
  go_wp2
  go_ret
  exact ⟨_,rfl,World.ownsRow_nil _ _ _ _,Br _ _⟩
 | some ad=>
  subst hv
  clear hr
  go_enter Tryz.func67,Tryz.ntmps67
  go_wp2_with (at_builtin;refine wpList_append_raw el22 Tryz.underlying22 Hemp.out Hr.out rfl _ _ rfl rfl rfl ?c3 ?c4 ?c5 ?_)
  case c3=>unfold maxLen;omega
  case c4=>omega
  case c5=>simp
  intro v' w1 hown hgrow
  have hfin:Below w.heap.size w w1:=((Br w.heap.size w).alloc (Nr _) _).grown hgrow (by simp) (fun q hq=>by simp[Value.ownBlock] at hq;omega)
  have Hown:Hid (w1.ownsRow w.heap.size 5 1 v' n xs):=Hj (by simpa using hown)
  clear hown hgrow
  go_wp2
  go_ret
  exact ⟨_,rfl,Hown.out,hfin⟩
theorem el29:Rw.Elem Tryz.prog 178 208 3 40 (.agg #[.int .i64 0,.int .i64 0,.slice none 0 0]):=⟨Tryz.underlying178,by kernel_rfl,rfl,by decide⟩
open Go.Txt Go.RowKit Go.Bs Go.Cl Go.Rw Go.Un
theorem resized_any {F:List Nat} {v:Value} {b:List UInt8} (n:Nat) (w:World) (hn:n≤1000000) (hb:b.length≤1000000) (hr:Bytes F w v b):
  Calls Tryz.prog 144 #[v,.int .i64 n] w fun e w'=>∃g,e= .returned (.slice (some ⟨g,0,none⟩) n n)∧w.heap.size≤g∧w'.ownsRow w.heap.size 5 1 (.slice (some ⟨g,0,none⟩) n n) n (bytesV (sized b n))∧Below w.heap.size w w':=by
 have Hr:=Hj hr;clear hr
 go_enter Tryz.func144,Tryz.ntmps144
 go_wp2_with (refine wpList_make el22 w.heap.size n rfl _ _ rfl rfl rfl rfl rfl ?c1 ?c2 (Nr _) ?_)
 case c1=>omega
 case c2=>unfold maxLen;omega
 intro w1 hown hgrow hsz
 rw[zeros_bytes] at hown
 have hb1:Below w.heap.size w w1:=(Br _ _).grown hgrow (Nr _) (fun k h=>by cases h)
 have Hown:=Hj hown;clear hown
 have Hr1:=Hj (Rb Hr.out hb1)
 have hmin:∃d,Nat.min b.length n=d:=⟨_,rfl⟩
 obtain ⟨d,hd⟩:=hmin
 have Hd:=Hj hd;clear hd
 go_wp2_with (refine wpList_copy_raw el22 Hown.out Hr1.out rfl _ _ rfl rfl rfl (i:=0) rfl ?d1 Hd.out ?_)
 case d1=>omega
 intro w2 hown2 hgrow2 hsz2
 have hb2:Below w.heap.size w w2:=hb1.grown hgrow2 hb1.size (fun k h=>by cases h;exact Nr _)
 rw[bytesV_take,splice_bytes,←Hd.out,sized_splice] at hown2
 have Hown2:=Hj hown2;clear hown2
 go_wp2
 go_ret
 exact ⟨_,rfl,Nr _,Hown2.out,hb2⟩
end Go.Proofs.YtipiofgdjbogiaaGreat
namespace Go.Un
open Go Go.Txt Go.RowKit Go.Bs Go.Cl Go.Rw
def encR (p:Rec×Value):List Value:=[.int .i64 p.1.off,.int .i64 p.1.len,p.2]
theorem encR_len (p:Rec×Value):(encR p).length=3:=rfl
def aggR (p:Rec×Value):Value:= .agg #[.int .i64 p.1.off,.int .i64 p.1.len,p.2]
def recAt (rs:List (Rec×Value)) (j:Nat):Rec×Value:=rs.getD j (⟨0,0,[]⟩,.slice none 0 0)
def bk (n:Nat):Nat→List (Fin n)
 | 0=>[]
 | k+1=>if h:k<n then bk n k++[⟨n - 1 - k,by omega⟩] else bk n k
theorem bk_succ {n k:Nat} (h:k<n):bk n (k+1)=bk n k++[⟨n - 1 - k,by omega⟩]:=by simp[bk,h]
theorem bk_len {n:Nat}:∀{k:Nat},k≤n→(bk n k).length=k
 | 0,_=>rfl
 | k+1,h=>by rw[bk_succ (by omega),List.length_append,bk_len (by omega)];rfl
theorem recAt_get {rs:List (Rec×Value)} {j:Nat} (h:j<rs.length):rs[j]? =some (recAt rs j):=by simp[recAt,h]
def KB (n₀ Bs:Nat) (A B:World):Prop:=Below n₀ A B∧B.cell? ⟨Bs,0,none⟩=A.cell? ⟨Bs,0,none⟩
theorem KB.refl (n₀ Bs:Nat) (A:World):KB n₀ Bs A A:=⟨Br _ _,rfl⟩
theorem KB.trans {n₀ Bs:Nat} {A B C:World} (h:KB n₀ Bs A B) (k:KB n₀ Bs B C):KB n₀ Bs A C:=⟨h.1.trans k.1,k.2.trans h.2⟩
theorem KB.of_below {n₀ Bs N:Nat} {A B:World} (h:Below N A B) (h1:n₀≤N) (h2:Bs<N):KB n₀ Bs A B:=⟨h.mono h1,h.cell (p:=⟨Bs,0,none⟩) h2⟩
theorem KB.put {n₀ Bs:Nat} {w:World} (hn:n₀≤w.heap.size) (hB:Bs<w.heap.size) (W:World) (l:Nat) (o o':Obj) (hl:w.heap.size≤l) (h:W.heap[l]? =some o) (h1:o.isCells=false) (h2:o.isWalk=false):KB n₀ Bs W (W.putObj l o'):=
 ⟨belowK_b hn W l o o' hl h h1 h2,World.cell?_of_block (w:=W) (World.putObj_heap_other (by show Bs≠l;omega))⟩
def imgAt (b:List UInt8) (rs:List (Rec×Value)) (pre:List (Fin rs.length)):List UInt8:=pre.foldl (fun b (m:Fin rs.length)=>takeR b (recAt rs m.val).1) b
theorem imgAt_snoc (b:List UInt8) (rs:List (Rec×Value)) (pre:List (Fin rs.length)) (m:Fin rs.length):imgAt b rs (pre++[m])=takeR (imgAt b rs pre) (recAt rs m).1:=by simp[imgAt]
theorem imgAt_bk (b:List UInt8) (rs:List (Rec×Value)):∀{k:Nat},k≤rs.length→imgAt b rs (bk rs.length k)=takeAll b ((rs.drop (rs.length - k)).map (·.1))
 | 0,_=>by simp[bk,imgAt,takeAll]
 | k+1,h=>by
  rw[bk_succ (by omega),imgAt_snoc,imgAt_bk b rs (by omega)]
  obtain ⟨m,hm⟩:∃m:Nat,m+k+1=rs.length:=⟨rs.length - k - 1,by omega⟩
  have e1:rs.length - (k+1)=m:=by omega
  have e2:rs.length - k=m+1:=by omega
  have e3:rs.length - 1 - k=m:=by omega
  have hml:m<rs.length:=by omega
  rw[e1,e2]
  simp only[e3]
  rw[List.drop_eq_getElem_cons hml]
  have:=recAt_get hml
  rw[List.getElem?_eq_getElem hml] at this
  rw[Option.some.inj this]
  rfl
end Go.Un
namespace Go.Proofs.YtipiofgdjbogiaaGreat
open Go.Txt Go.RowKit Go.Bs Go.Cl Go.Rw Go.Un
attribute [local go_sem] Oper.semAt_some
theorem back1_in (n:Nat) (hn:1≤n) (l Bs n₀ b off cap:Nat) (rs:List (Rec×Value)) (hreach:rs.length≤1000000) (hb:b<n₀) (J Jx:List (Fin rs.length)→World→Prop)
  (hY:∀(pre:List (Fin rs.length)) (x:Fin rs.length) (W:World),J pre W→pre.length<rs.length→YieldAt Fence.wide (n - 1) Tryz.prog l #[.int .i64 ((x.val:Nat):Int),aggR (recAt rs x.val)] W fun e W'=>
   (e= .returned (.bool true)∧J (pre++[x]) W'∧KB n₀ Bs W W')∨(e= .returned (.bool false)∧Jx (pre++[x]) W'))
  (W:World) (hBs:W.cell? ⟨Bs,0,none⟩=some (.slice (some ⟨b,off,none⟩) rs.length cap)) (hc:∀j u,(rs.flatMap encR)[j]? =some u→W.cell? ⟨b,off+j,none⟩=some u) (h0:J [] W):
  CallsIn Fence.wide n Tryz.prog 153 #[.func (.yield l) #[] #[],.pointer (some ⟨Bs,0,none⟩)] W fun e W'=>(∃v,e= .returned v)∧
   ((∃ys,ys=bk rs.length rs.length∧J ys W')∨(∃pre,(∃k,k≤rs.length∧pre=bk rs.length k)∧Jx pre W')):=by
 refine callsIn_of_wp Tryz.func153 rfl trivial ?_ rfl
 simp only[Tryz.ntmps153,List.size_toArray,List.length_cons,List.length_nil,Nat.reduceAdd,Nat.reduceSub,Array.replicate_succ,Array.replicate_zero,List.push_toArray,List.append_toArray,List.nil_append,List.cons_append]
 have Hc:=Hj hc;clear hc
 gi_wp2
 gi_loopw [3] (fun i wr=>∃k:Nat,k≤rs.length∧i= .int .i64 ((rs.length:Int) - 1 - (k:Int))∧J (bk rs.length k) wr∧KB n₀ Bs W wr)
  (fun i _=>((intOf i)+1).toNat)
 case atStart=>exact ⟨0,Nat.zero_le _,by simp,h0,KB.refl _ _ _⟩
 case round=>
  obtain ⟨k,hk,rfl,hJs,hnx⟩:=hrel
  by_cases hlt:k<rs.length
  ·obtain ⟨m,hm⟩:∃m:Nat,m+k+1=rs.length:=⟨rs.length - k - 1,by omega⟩
   have hmi:(rs.length:Int) - 1 - (k:Int)=(m:Int):=by omega
   rw[hmi]
   have hmk:rs.length - 1 - k=m:=by omega
   have hml:m<rs.length:=by omega
   have hsucc:bk rs.length (k+1)=bk rs.length k++[⟨m,hml⟩]:=by
    rw[bk_succ hlt];congr 2;exact Fin.ext hmk
   have hget:=recAt_get hml
   have g0:=flat_get encR encR_len rs m 0 _ hget (by omega)
   have g1:=flat_get encR encR_len rs m 1 _ hget (by omega)
   have g2:=flat_get encR encR_len rs m 2 _ hget (by omega)
   have Hcell:∀j u,(rs.flatMap encR)[j]? =some u→wr.cell? ⟨b,off+j,none⟩=some u:=fun j u h=>(hnx.1.cell (p:=⟨b,off+j,none⟩) hb).trans (Hc.out j u h)
   have e0:=Hcell _ _ g0
   have e1:=Hcell _ _ g1
   have e2:=Hcell _ _ g2
   have hBs':=hnx.2.trans hBs
   obtain ⟨q,hq⟩:∃q,q=recAt rs m:=⟨_,rfl⟩
   rw[←hq] at e0 e1 e2
   have Hsucc:=Hj hsucc
   obtain ⟨fn,tmps,assign,body,hy,hR⟩:=hY _ ⟨m,hml⟩ wr hJs (by rw[bk_len hk];exact hlt)
   dsimp only[aggR] at hy
   rw[←hq] at hy
   have e0':wr.cell? ⟨b,off+m*3,none⟩=some (.int .i64 q.1.off):=e0
   have e1':wr.cell? ⟨b,off+m*3+1,none⟩=some (.int .i64 q.1.len):=e1
   have e2':wr.cell? ⟨b,off+m*3+2,none⟩=some q.2:=e2
   have hml':(m:Int)<rs.length:=by omega
   have hmi2:(m:Int) - 1=(rs.length:Int) - 1 - ((k+1:Nat):Int):=by omega
   have Hmi2:=Hj hmi2
   clear hmi hmk hsucc hget g0 g1 g2 Hcell e0 e1 e2 hq hmi2
   gi_wp2
   refine hR.mono ?_
   rintro e W3 (⟨rfl,hJ3,hk3⟩ | ⟨rfl,hJx3⟩)
   ·gi_wp2
    go_roundw
    case rel=>exact ⟨k+1,by omega,by rw[Hmi2.out],by rw[Hsucc.out];exact hJ3,hnx.trans hk3⟩
    case measure=>simp[intOf]
   gi_wp2
   refine bodyPost_ret (results_none rfl _ _ _) rfl ?_
   exact ⟨⟨_,rfl⟩,.inr ⟨_,⟨k+1,by omega,Hsucc.out.symm⟩,hJx3⟩⟩
  obtain rfl:k=rs.length:=by omega
  have hneg:(rs.length:Int) - 1 - (rs.length:Int)= -1:=by omega
  rw[hneg]
  gi_wp2
  go_end0
  exact ⟨⟨_,rfl⟩,.inl ⟨_,rfl,hJs⟩⟩
theorem back0_in (n:Nat) (l Bs:Nat) (a:Option Addr) (cap:Nat) (J:List (Fin 0)→World→Prop) (W:World) (hBs:W.cell? ⟨Bs,0,none⟩=some (.slice a 0 cap)) (h0:J [] W):
  CallsIn Fence.wide n Tryz.prog 153 #[.func (.yield l) #[] #[],.pointer (some ⟨Bs,0,none⟩)] W fun e W'=>(∃v,e= .returned v)∧J [] W':=by
 refine callsIn_of_wp Tryz.func153 rfl trivial ?_ rfl
 simp only[Tryz.ntmps153,List.size_toArray,List.length_cons,List.length_nil,Nat.reduceAdd,Nat.reduceSub,Array.replicate_succ,Array.replicate_zero,List.push_toArray,List.append_toArray,List.nil_append,List.cons_append]
 gi_wp2
 gi_loopw [3] (fun i wr=>i= .int .i64 (-1)∧J [] wr) (fun _ _=>0)
 case atStart=>exact ⟨rfl,h0⟩
 case round=>
  obtain ⟨rfl,hJs⟩:=hrel
  gi_wp2
  go_end0
  exact ⟨⟨_,rfl⟩,hJs⟩
theorem backward_any (a:Option Addr) (len cap:Nat) (w:World):
  Calls Tryz.prog 152 #[.slice a len cap] w fun e w'=>e= .returned (.func (.func 153) #[] #[.pointer (some ⟨w.heap.size,0,none⟩)])∧w'=w.alloc (.cells #[.slice a len cap] 178):=by
 go_enter Tryz.func152,Tryz.ntmps152
 go_wp2
 go_ret
 exact ⟨rfl,rfl⟩
theorem back_stops (n:Nat) (hn:1≤n) (Bs n₀:Nat) (v:Value) (rs:List (Rec×Value)) (hl:rs.length≤1000000) (w:World) (hBs:Bs<w.heap.size) (hn₀:n₀≤w.heap.size)
  (hc:w.cell? ⟨Bs,0,none⟩=some v) {F:List Nat} (hR:Raw F 3 w v rs.length (rs.flatMap encR)) (hn2:∀b o c,v= .slice (some ⟨b,o,none⟩) rs.length c→0<rs.length→b<n₀):
  SeqStopsK Fence.wide n Tryz.prog 153 #[.pointer (some ⟨Bs,0,none⟩)] (fun x:Fin rs.length=>#[Value.int .i64 ((x.val:Nat):Int),aggR (recAt rs x)]) (KB n₀ Bs) (fun ys=>ys=bk rs.length rs.length)
   (fun pre=>∃k,k≤rs.length∧pre=bk rs.length k) rs.length w:=fun l J Jx W hW _ _ hY h0=>by
 have hc':=(hW.cell (p:=⟨Bs,0,none⟩) hBs).trans hc
 rcases Raw.cases hR with ⟨h,hx,a,cap,rfl,_⟩ | ⟨h,b,off,cap,rfl,_,_,hb,_,hcs⟩
 ·obtain rfl:rs=[]:=List.eq_nil_of_length_eq_zero h
  exact (back0_in n l Bs a cap J W hc' h0).mono fun e W' ⟨he,hj⟩=>⟨he,.inl ⟨_,rfl,hj⟩⟩
 exact back1_in n hn l Bs n₀ b off cap rs hl (hn2 b off cap rfl h) J Jx hY W hc' (fun j u hj=>(hW.cell (p:=⟨b,off+j,none⟩) hb).trans (hcs j u hj)) h0
open Go.Txt Go.RowKit Go.Bs Go.Cl Go.Rw Go.Un Go.Shelf
attribute [local go_sem] Oper.semAt_some
theorem ownsRow_grown {W W':World} {base e size:Nat} {v:Value} {k:Nat} {xs:List Value} {row:Option Nat} (h:W.ownsRow base e size v k xs) (hg:W.grownBy W' row) (hr:∀r,row=some r→∃o:Obj,W.heap[r]? =some o∧o.isCells=false):W'.ownsRow base e size v k xs:=by
 refine h.kept hg ?_
 rcases h.2 with ⟨rfl,_⟩ | ⟨g,cap,cur,rfl,hb,hgg,_⟩
 ·exact .inl rfl
 refine .inr fun e=> ?_
 obtain ⟨o,ho,hc⟩:=hr g e.symm
 rw[hgg] at ho;cases ho;simp[Obj.isCells] at hc
theorem boxed_grown {W W':World} {B t:Nat} {v:Value} {row:Option Nat} (h:Boxed W B t v) (hg:W.grownBy W' row) (hr:∀r,row=some r→∃o:Obj,W.heap[r]? =some o∧o.isCells=false):Boxed W' B t v:=by
 refine h.kept hg fun e=> ?_
 obtain ⟨o,ho,hc⟩:=hr B e.symm
 rw[show W.heap[B]? =_ from h] at ho;cases ho;simp[Obj.isCells] at hc
theorem keeps_below {B N:Nat} {W W':World} (h:Below N W W') (hN:N=W.heap.size):KeepsFrom B W W':=KeepsOthers.from ⟨h.size,fun k o hk _=>(h.block k (by have:=(Al hk);omega)).trans hk⟩ B
theorem imgAt_le {rs:List (Rec×Value)} (hok:∀p∈rs,p.1.ok=true):∀{b:List UInt8},b.length≤1000000→∀pre:List (Fin rs.length),(imgAt b rs pre).length≤1000000
 | b,h,[]=>h
 | b,h,m::pre=>by
  have h1:=hok _ (List.mem_of_getElem? (recAt_get m.isLt))
  have h2:=Rec.ok_iff.1 h1
  exact imgAt_le hok (b:=takeR b (recAt rs m.val).1) (by rw[takeR_len h1];omega) pre
theorem wpIn_gen {F:Fence} {n:Nat} {P:Program} {c:Code} {Q:Exit→Act→World→Prop} {a:Act} {w:World} {I:World→Prop} (h:I w) (k:∀w',I w'→c.wpIn F n P Q a w'):c.wpIn F n P Q a w:=k w h
theorem setCell_other (w:World) (a:Addr) (u:Value) {b o:Nat} (h:b≠a.block):(w.setCell a u).cell? ⟨b,o,none⟩=w.cell? ⟨b,o,none⟩:=World.cell?_of_block (w:=w) (Below.heap_setCell w a u b h)
theorem _root_.Go.World.grownBy.cell? {w w':World} {g b o:Nat} (h:w.grownBy w' (some g)) (hb:b<w.heap.size) (hne:b≠g):w'.cell? ⟨b,o,none⟩=w.cell? ⟨b,o,none⟩:=World.cell?_of_block (w:=w) (h.block b hb (by simpa using hne))
theorem grown_of_drew {w w1:World} {g:Option Nat} (h1:w.drew.grownBy w1 g):w.grownBy w1 g:=⟨h1.os,h1.tape,h1.output,h1.size,h1.block⟩
theorem own_isCells {w:World} {base e size n:Nat} {g cap:Nat} {xs:List Value} {o:Obj} (h:w.ownsRow base e size (.slice (some ⟨g,0,none⟩) n cap) n xs) (ho:w.heap[g]? =some o):o.isCells=true:=by
 rcases h.2 with ⟨h,_⟩ | ⟨g',cap',cur,hv,_,hg,_⟩
 ·cases h
 cases hv;rw[hg] at ho;cases ho;rfl
end Go.Proofs.YtipiofgdjbogiaaGreat
namespace Go.Un
open Go Go.Txt Go.RowKit Go.Bs Go.Cl Go.Rw
theorem encR_one {w:World} {F:List Nat} {rs:List (Rec×Value)} (h:∀p∈rs,Bytes F w p.2 p.1.old):∀u∈rs.flatMap encR,u.oneCell'=true:=by
 intro u hu
 obtain ⟨p,hp,hu⟩:=List.mem_flatMap.1 hu
 obtain ⟨a,c,hv⟩:=Rs (h p hp)
 simp[encR,hv] at hu
 rcases hu with rfl | rfl | rfl <;> rfl
end Go.Un
namespace Go.Proofs.YtipiofgdjbogiaaGreat
open Go.Txt Go.RowKit Go.Bs Go.Cl Go.Rw Go.Un
theorem Bytes.of_own {F:List Nat} {w:World} {base e n:Nat} {v:Value} {l:List UInt8} (h:w.ownsRow base e 1 v n (bytesV l)) (hn:n=l.length) (hF:∀f∈F,f<base:=by intro f h;cases h):Bytes F w v l:=by
 subst hn;exact Raw.of_own h (bytesV_one l) hF
def lenOf:Value→Nat | .slice _ n _=>n | _=>0
end Go.Proofs.YtipiofgdjbogiaaGreat
namespace Go.Un
open Go Go.Txt Go.RowKit Go.Bs Go.Cl Go.Rw
def LogF (g:Nat) (iv rv:Value):List Nat:=g::(iv.ownBlock.toList++rv.ownBlock.toList)
structure LogAt (w:World) (base g:Nat) (iv rv:Value) (img:List UInt8) (rs:List (Rec×Value)) (o:Bool):Prop where
 hg:base≤g
 hc:w.heap[g]? =some (.cells #[iv,rv,.bool o] 180 (0,0))
 hi:w.ownsRow base 5 1 iv img.length (bytesV img)
 hr:RowF w base 208 3 rv rs.length (rs.flatMap encR)
 hb:∀p∈rs,Bytes (LogF g iv rv) w p.2 p.1.old
variable {w w':World} {base g:Nat} {iv rv:Value} {img:List UInt8} {rs:List (Rec×Value)} {o:Bool}
theorem own_type {e k n:Nat} {v:Value} {xs:List Value} (h:w.ownsRow base e k v n xs) {r:Nat} (hr:v.ownBlock=some r):∃cur,w.heap[r]? =some (.cells cur e (0,0)):=RowF.type (.inl h) hr
theorem LogAt.lt (h:LogAt w base g iv rv img rs o):g<w.heap.size:=(Al h.hc)
theorem LogAt.gi (h:LogAt w base g iv rv img rs o):iv.ownBlock≠some g:=fun e=>by
 obtain ⟨cur,hh⟩:=own_type h.hi e
 rw[h.hc] at hh;cases hh
theorem LogAt.gr (h:LogAt w base g iv rv img rs o):rv.ownBlock≠some g:=fun e=>by
 obtain ⟨cur,hh⟩:=h.hr.type e
 rw[h.hc] at hh;cases hh
theorem LogAt.ir (h:LogAt w base g iv rv img rs o) {k:Nat} (hi:iv.ownBlock=some k):rv.ownBlock≠some k:=fun e=>by
 obtain ⟨cur,hh⟩:=h.hr.type e
 obtain ⟨cur',hh'⟩:=own_type h.hi hi
 rw[hh'] at hh;cases hh
theorem LogAt.fbase (h:LogAt w base g iv rv img rs o):∀f∈LogF g iv rv,base≤f∧f<w.heap.size:=by
 intro f hf
 simp[LogF] at hf
 rcases hf with rfl | hf | hf
 ·exact ⟨h.hg,h.lt⟩
 ·exact h.hi.lt f hf
 exact h.hr.row f hf
theorem LogAt.keep {G:List Nat} (h:LogAt w base g iv rv img rs o) (hk:Keep G w w') (hG:∀f∈LogF g iv rv,f∉G) (hb:∀f∈G,f∈LogF g iv rv∨w.heap.size≤f∨f<base:=by intro f hf;cases hf) (hbb:∀p∈rs,Bytes (LogF g iv rv) w' p.2 p.1.old):LogAt w' base g iv rv img rs o:=
 ⟨h.hg,(hk.block g h.lt (hG g (by simp[LogF]))).trans h.hc,by
  have:=RowF.keep (.inl h.hi) hk (fun r hr=>hG r (by simp[LogF,hr]))
  rcases this with h' | ⟨r,cur,hv,q⟩
  ·exact h'
  ·refine ⟨h.hi.1, ?_⟩
   rcases h.hi.2 with h2 | ⟨g',cap,cur',hv',hb',hg',rest⟩
   ·exact .inl h2
   exact .inr ⟨g',cap,cur',hv',hb',(hk.block g' (Al hg') (hG g' (by simp[LogF,hv',Value.ownBlock]))).trans hg',rest⟩,
  h.hr.keep hk (fun r hr=>hG r (by simp[LogF,hr])),hbb⟩
theorem LogAt.below (h:LogAt w base g iv rv img rs o) (hb:Below w.heap.size w w'):LogAt w' base g iv rv img rs o:=
 h.keep (G:=[]) (Keep.of_below' hb) (fun f _ hf=>by cases hf) (fun f hf=>by cases hf) fun p hp=>Rb (h.hb p hp) hb
theorem LogAt.recs {w w3:World} {v3:Value} {ts:List (Rec×Value)} (h:LogAt w base g iv rv img rs o) (hk3:Keep rv.ownBlock.toList w w3) (hown:RowF w3 base 208 3 v3 ts.length (ts.flatMap encR))
  (hF3:∀f,v3.ownBlock=some f→rv.ownBlock=some f∨w.heap.size≤f) (hb:∀p∈ts,Bytes (LogF g iv rv) w p.2 p.1.old):
  LogAt (w3.setCell ⟨g,1,none⟩ v3) base g iv v3 img ts o∧Keep (g::rv.ownBlock.toList) w (w3.setCell ⟨g,1,none⟩ v3):=by
 have hgn:g∉rv.ownBlock.toList:=fun hm=>h.gr (by simpa using hm)
 have hc3:w3.heap[g]? =some (.cells #[iv,rv,.bool o] 180 (0,0)):=(hk3.block g h.lt hgn).trans h.hc
 have hk4:Keep [g] w3 (w3.setCell ⟨g,1,none⟩ v3):=(Keep.refl [g] w3).setCell (by simp) _
 have hks:Keep (g::rv.ownBlock.toList) w (w3.setCell ⟨g,1,none⟩ v3):=(hk3.mono (fun f hf=> .inl (List.mem_cons_of_mem _ hf))).trans hk4 (fun f hf=> .inl (by rw[M1' hf];simp))
 have hv3:v3.ownBlock≠some g:=fun e=>by
  obtain ⟨cur,hh⟩:=hown.type e
  rw[hc3] at hh;cases hh
 have hin:∀r,iv.ownBlock=some r→r∉g::rv.ownBlock.toList:=fun r hr hm=>by
  rcases List.mem_cons.1 hm with rfl | hm
  ·exact h.gi hr
  exact h.ir hr (by simpa using hm)
 refine ⟨⟨h.hg, ?_, ?_,hown.keep hk4 (fun r hr hm=>by rw[M1' hm] at hr;exact hv3 hr),fun p hp=> ?_⟩,hks⟩
 ·simp only[World.setCell,Array.getElem?_modify]
  simp[hc3]
 ·refine ⟨h.hi.1, ?_⟩
  rcases h.hi.2 with h2 | ⟨g',cap,cur',hv',hb',hg',rest⟩
  ·exact .inl h2
  exact .inr ⟨g',cap,cur',hv',hb',(hks.block g' (Al hg') (hin g' (by rw[hv'];rfl))).trans hg',rest⟩
 refine (hb p hp).keep hks (fun f hf=> .inl ?_) (fun f hf=> ?_)
 ·rcases List.mem_cons.1 hf with rfl | hf
  ·simp[LogF]
  simp only[LogF,List.mem_cons,List.mem_append];exact .inr (.inr hf)
 simp only[LogF,List.mem_cons,List.mem_append] at hf⊢
 rcases hf with hf | hf | hf
 ·exact .inl (.inl hf)
 ·exact .inl (.inr (.inl hf))
 rcases hF3 f (by simpa using hf) with h1 | h1
 ·exact .inl (.inr (.inr (by simp[h1])))
 exact .inr h1
theorem LogAt.push {w w3:World} {v3:Value} {q:Rec×Value} (h:LogAt w base g iv rv img rs o) (hk3:Keep rv.ownBlock.toList w w3) (hown:w3.ownsRow base 208 3 v3 (rs.length+1) (rs.flatMap encR++encR q))
  (hF3:∀f,v3.ownBlock=some f→rv.ownBlock=some f∨w.heap.size≤f) (hq:Bytes (LogF g iv rv) w q.2 q.1.old):
  LogAt (w3.setCell ⟨g,1,none⟩ v3) base g iv v3 img (rs++[q]) o∧Keep (g::rv.ownBlock.toList) w (w3.setCell ⟨g,1,none⟩ v3):=
 h.recs hk3 (.inl (by rw[List.length_append,List.flatMap_append];simpa using hown)) hF3 fun p hp=>by
  rcases List.mem_append.1 hp with hp | hp
  ·exact h.hb p hp
  rw[M1' hp];exact hq
def Fr (w:World) (rs:List (Rec×Value)) (w':World) (rs':List (Rec×Value)):Prop:=∀X:List Nat,(∀f∈X,f<w.heap.size)→(∀p∈rs,Bytes X w p.2 p.1.old)→∀p∈rs',Bytes X w' p.2 p.1.old
theorem Fr.refl (w:World) (rs:List (Rec×Value)):Fr w rs w rs:=fun _ _ h=>h
theorem Fr.trans {w1 w2:World} {rs rs1 rs2:List (Rec×Value)} (h:Fr w rs w1 rs1) (h':Fr w1 rs1 w2 rs2) (hs:w.heap.size≤w1.heap.size):Fr w rs w2 rs2:=fun X hX hr=>h' X (fun f hf=>Nat.lt_of_lt_of_le (hX f hf) hs) (h X hX hr)
theorem Fr.keep {ts:List (Rec×Value)} (h:LogAt w base g iv rv img rs o) (hk:Keep (LogF g iv rv) w w') (hs:∀p∈ts,p∈rs):Fr w rs w' ts:=fun _ _ hr p hp=>
 Raw.keep (Raw.both (hr p (hs p hp)) (h.hb p (hs p hp))) hk (fun _ hf=> .inl (List.mem_append_right _ hf)) (fun _ hf=> .inl (List.mem_append_left _ hf))
theorem Fr.snoc {ts:List (Rec×Value)} {q:Rec×Value} (h:Fr w rs w' ts) (hq:∀X:List Nat,(∀f∈X,f<w.heap.size)→Bytes X w' q.2 q.1.old):Fr w rs w' (ts++[q]):=fun X hX hr p hp=>by
 rcases List.mem_append.1 hp with hp | hp
 ·exact h X hX hr p hp
 rw[M1' hp];exact hq X hX
theorem Fr.nil (w w':World) (rs:List (Rec×Value)):Fr w rs w' []:=fun _ _ _ p hp=>by cases hp
end Go.Un
namespace Go.Proofs.YtipiofgdjbogiaaGreat
open Go.Txt Go.RowKit Go.Bs Go.Cl Go.Rw Go.Un
theorem new_any (bv:Value) (b:List UInt8) (w:World) (hb:b.length≤24000) (hB:Bytes [] w bv b):
  Calls Tryz.prog 72 #[bv] w fun e w'=>∃g iv,e= .returned (.tuple #[.pointer (some ⟨g,0,none⟩),.int .i64 0])∧LogAt w' w.heap.size g iv (.slice none 0 0) b [] false∧Below w.heap.size w w':=by
 obtain ⟨ba,bc,rfl⟩:=Rs hB
 have HB:=Hj hB;clear hB
 have hb':(b.length:Int)≤24000:=by omega
 go_enter Tryz.func72,Tryz.ntmps72
 go_wp2_with fail
 refine (clone33 _ (by omega) HB.out).mono ?_
 rintro e w1 ⟨v1,rfl,hown1,hb1⟩
 obtain ⟨a1,c1,rfl⟩:=Oq hown1
 have Hown1:=Hj hown1;clear hown1
 have hsz:=hb1.size
 go_wp2
 go_ret2
 exact ⟨w1.heap.size,_,rfl,⟨hsz,heap_alloc_new w1 _,Hown1.out.alloc _,.inl (World.ownsRow_nil _ _ _ _),fun p hp=>by cases hp⟩,hb1.alloc hsz _⟩
theorem LogAt.mark {w:World} {base g:Nat} {iv rv:Value} {img:List UInt8} {rs:List (Rec×Value)} {o:Bool} (h:LogAt w base g iv rv img rs o) (o':Bool):LogAt (w.setCell ⟨g,2,none⟩ (.bool o')) base g iv rv img rs o'∧Keep [g] w (w.setCell ⟨g,2,none⟩ (.bool o')):=by
 have hk:Keep [g] w (w.setCell ⟨g,2,none⟩ (.bool o')):=(Keep.refl [g] w).setCell (by simp) _
 have hne:∀r,(iv.ownBlock=some r∨rv.ownBlock=some r)→r∉[g]:=fun r hr hm=>by
  rw[M1' hm] at hr
  rcases hr with hr | hr
  ·exact h.gi hr
  exact h.gr hr
 refine ⟨⟨h.hg, ?_, ?_,h.hr.keep hk (fun r hr=>hne r (.inr hr)),fun p hp=>(h.hb p hp).keep hk (fun f hf=> .inl (by simp[LogF,M1' hf])) (fun f hf=> .inl hf)⟩,hk⟩
 ·have:=h.hc
  simp only[World.setCell,Array.getElem?_modify]
  simp[this]
 refine ⟨h.hi.1, ?_⟩
 rcases h.hi.2 with h2 | ⟨g',cap,cur',hv',hb',hg',rest⟩
 ·exact .inl h2
 exact .inr ⟨g',cap,cur',hv',hb',(hk.block g' (Al hg') (hne g' (.inl (by rw[hv'];rfl)))).trans hg',rest⟩
theorem begin_any {base g:Nat} {iv rv:Value} {img:List UInt8} {rs:List (Rec×Value)} {o:Bool} (w:World) (h:LogAt w base g iv rv img rs o):
  Calls Tryz.prog 124 #[.pointer (some ⟨g,0,none⟩)] w fun e w'=>e= .returned (.int .i64 (if o then 7 else 0))∧LogAt w' base g iv rv img rs true∧Keep [g] w w':=by
 have c2:=Bj h.hc 2 rfl
 have f2:=Bf h.hc 2
 have H:=Hj h;clear h
 cases o
 ·go_enter Tryz.func124,Tryz.ntmps124
  go_wp2
  go_ret
  exact ⟨rfl,LogAt.mark H.out true⟩
 go_enter Tryz.func124,Tryz.ntmps124
 go_wp2
 go_ret
 exact ⟨rfl,H.out,Keep.refl _ _⟩
theorem closed_any {base g:Nat} {iv rv:Value} {img:List UInt8} {rs:List (Rec×Value)} {o:Bool} (w:World) (h:LogAt w base g iv rv img rs o):
  Calls Tryz.prog 136 #[.pointer (some ⟨g,0,none⟩)] w fun e w'=>e= .returned (.bool (!o))∧w=w':=by
 have c2:=Bj h.hc 2 rfl
 have H:=Hj h;clear h
 go_enter Tryz.func136,Tryz.ntmps136
 go_wp2
 go_ret
 exact ⟨rfl,rfl⟩
theorem open_any {base g:Nat} {iv rv:Value} {img:List UInt8} {rs:List (Rec×Value)} {o:Bool} (w:World) (h:LogAt w base g iv rv img rs o):
  Calls Tryz.prog 122 #[.pointer (some ⟨g,0,none⟩)] w fun e w'=>e= .returned (.bool o)∧w=w':=by
 have c2:=Bj h.hc 2 rfl
 have H:=Hj h;clear h
 go_enter Tryz.func122,Tryz.ntmps122
 go_wp2
 go_ret
 exact ⟨rfl,rfl⟩
open Go.Txt Go.RowKit Go.Bs Go.Cl Go.Rw Go.Un
theorem note_any {base g:Nat} {iv rv:Value} {img:List UInt8} {rs:List (Rec×Value)} {o:Bool} (f t:Nat) (w:World) (h:LogAt w base g iv rv img rs o) (hft:f≤t) (ht:t≤img.length) (hil:img.length≤24000) (hrl:rs.length≤1000) (hbase:base≤w.heap.size):
  Calls Tryz.prog 143 #[.pointer (some ⟨g,0,none⟩),.int .i64 f,.int .i64 t] w fun e w'=>(∃v,e= .returned v)∧∃rv' qv,LogAt w' base g iv rv' img (rs++[(⟨f,img.length,(img.take t).drop f⟩,qv)]) o∧Keep (g::rv.ownBlock.toList) w w'∧(∀k,rv'.ownBlock=some k→rv.ownBlock=some k∨w.heap.size≤k)∧∀X:List Nat,(∀f∈X,f<w.heap.size)→Bytes X w' qv ((img.take t).drop f):=by
 obtain ⟨ia,ic,rfl⟩:=Oq h.hi
 obtain ⟨ra,rc,rfl⟩:=h.hr.slice
 have c0:w.cell? ⟨g,0,none⟩=some (.slice ia img.length ic):=Bo h.hc rfl
 have c1:w.cell? ⟨g,1,none⟩=some (.slice ra rs.length rc):=Bo h.hc rfl
 have hlt:=h.lt
 have hS:∀b∈[g],∃c e f,w.heap[b]? =some (.cells c e f):=fun b hb=>by rw[M1' hb];exact ⟨_,_,_,h.hc⟩
 have hBi:Bytes [] w (.slice ia img.length ic) img:=Bytes.row h.hi rfl (fun f hf=>by cases hf)
 have hic:img.length≤ic:=by obtain ⟨_,_,a',c',hv,g3,_⟩:=hBi;cases hv;exact g3
 have hicm:ic≤maxLen:=by obtain ⟨_,_,a',c',hv,g3,g4,_⟩:=hBi;cases hv;exact g4
 have htic:t≤ic:=by omega
 have hpl:((img.take t).drop f).length=t - f:=by simp;omega
 obtain ⟨part,hpart⟩:∃p,p=(img.take t).drop f:=⟨_,rfl⟩
 have Hsub:=Hj (Bytes.sub hBi hft ht)
 rw[←hpart] at Hsub hpl⊢
 have Hpl:=Hj hpl;clear hpl hpart
 have HBi:=Hj hBi;clear hBi
 have H:=Hj h;clear h
 rcases Decidable.em (f=ic) with rfl | hcf
 ·obtain rfl:f=t:=by omega
  obtain rfl:part=[]:=List.eq_nil_of_length_eq_zero (by rw[Hpl.out];omega)
  have Hpl:Hid (([]:List UInt8).length=0):=Hj rfl
  clear Hsub
  go_enter Tryz.func143,Tryz.ntmps143
  go_wp2
  refine wp_cut [19,2,1] [g] [4,9] [24] (by kernel_rfl) (by kernel_rfl) (by kernel_rfl) hS ?_
  simp only[wpCut,List.take_succ_cons,List.take_zero,List.drop_succ_cons,List.drop_zero]
  go_wp2_with fail
  refine (clone33 (F:=[]) (n:=0) (xs:=bytesV []) _ (by omega) ?hp).mono ?_
  case hp=>
   exact Raw.zero' [] 1 _ _ _ _ rfl (Nat.zero_le _)
  rintro e w1 ⟨v1,rfl,hown1,hb1⟩
  obtain ⟨a1,c1',rfl⟩:=Oq hown1
  have HS1:=Hj (same_below (same_start hS) hb1 (fun b hb=>by rw[M1' hb];exact hlt))
  have hb1:Below w.heap.size w w1:=(Br w.heap.size w).drew.trans hb1
  have Hown1:Hid (w1.ownsRow w.heap.size 5 1 (.slice a1 0 c1') 0 (bytesV [])):=Hj hown1
  clear hown1
  have H1:=Hj (LogAt.below H.out hb1)
  have hs1:=hb1.size
  go_wp2
  refine Sm HS1.out ?_
  have c0:w1.cell? ⟨g,0,none⟩=some _:=(hb1.cell (p:=⟨g,0,none⟩) hlt).trans c0
  have c1:w1.cell? ⟨g,1,none⟩=some _:=(hb1.cell (p:=⟨g,1,none⟩) hlt).trans c1
  go_wp2
  obtain ⟨q,hq⟩:∃q:Rec×Value,q=(⟨f,img.length,[]⟩,.slice a1 0 c1'):=⟨_,rfl⟩
  have Hq:=Hj hq;clear hq
  have HQ1:Hid (∀X:List Nat,(∀f∈X,f<w.heap.size)→Bytes X w1 q.2 q.1.old):=Hj (by
   rw[Hq.out]
   exact fun X hX=>Bytes.row Hown1.out Hpl.out.symm hX)
  have hal:=(Br w1.heap.size w1).alloc (Nr _) (.cells #[.int .i64 f,.int .i64 img.length,.slice a1 0 c1'] 208)
  have HS2:=Hj (same_below HS1.out hal (fun b hb=>by rw[M1' hb];omega))
  refine Sm HS2.out ?_
  refine wpList_gen (fun z=>Below w1.heap.size w1 z∧w1.heap.size<z.heap.size∧SameB [g] w.drew z∧z.heap[w1.heap.size]? =some (.cells #[.int .i64 f,.int .i64 img.length,.slice a1 0 c1'] 208 (0,0))) ⟨hal,by simp,HS2.out,heap_alloc_new w1 _⟩ ?_
  clear hal HS2
  rintro w2 ⟨hb2,hs2,hS2,hx2⟩
  have HS2:=Hj hS2;clear hS2
  have H2:=Hj (LogAt.below H1.out hb2)
  have HQ2:Hid (∀X:List Nat,(∀f∈X,f<w.heap.size)→Bytes X w2 q.2 q.1.old):=Hj fun X hX=>Rb (HQ1.out X hX) hb2
  have Hx2:=Hj (show Raw [] 3 w2 (.slice (some ⟨w1.heap.size,0,none⟩) 1 1) 1 (encR q) from Raw.of_block (ys:=encR q) (by rw[Hq.out];exact hx2) (by intro h;cases h) (by intro u hu;rw[Hq.out] at hu;simp[encR] at hu;rcases hu with rfl | rfl | rfl <;> rfl) rfl (Nr _) (by unfold maxLen;omega))
  clear hx2
  have hlt2:g<w2.heap.size:=by omega
  go_wp2_with (at_builtin;refine wpList_append_rowF el29 Tryz.underlying178 (LogAt.hr H2.out) Hx2.out rfl _ _ rfl rfl rfl ?hm ?c3 ?c5 ?_)
  case hm=>exact Nat.zero_lt_one
  case c3=>omega
  case c5=>omega
  intro v3 w3 hown3 hk3 hF3
  obtain ⟨a3,c3,rfl⟩:=Oq hown3
  have hgn:g∉(Value.ownBlock (.slice ra rs.length rc)).toList:=fun hm=>H2.out.gr (by simpa using hm)
  have hgb:=hk3.block g hlt2 hgn
  have hS3:SameB [g] w.drew w3:=fun b hb=>by
   obtain ⟨⟨c,e',f',h1⟩,h2⟩:=HS2.out b hb
   have e:w3.heap[b]? =w2.heap[b]? :=by rw[M1' hb];exact hgb
   exact ⟨⟨c,e',f',e.trans h1⟩,e.trans h2⟩
  refine Sm hS3 ?_
  have hc3:=hgb.trans H2.out.hc
  have c1:w3.cell? ⟨g,1,none⟩=some (.slice ra rs.length rc):=Bo hc3 rfl
  have f1:=Bf hc3 1
  have hfin:=LogAt.push H2.out hk3 hown3 (by simpa using hF3) (HQ2.out _ fun f hf=>(H.out.fbase f hf).2)
  have hqn:∀X:List Nat,(∀f∈X,f<w.heap.size)→Bytes X (w3.setCell ⟨g,1,none⟩ (.slice a3 (rs.length+1) c3)) q.2 q.1.old:=fun X hX=>
   Raw.keep (HQ2.out (X++(g::(Value.ownBlock (.slice ra rs.length rc)).toList)) (fun f hf=>by
    rcases List.mem_append.1 hf with hf | hf
    ·exact hX f hf
    refine (H.out.fbase f ?_).2
    rcases List.mem_cons.1 hf with rfl | hf
    ·simp[LogF]
    simp only[LogF,List.mem_cons,List.mem_append];exact .inr (.inr hf))) hfin.2 (fun f hf=> .inl (List.mem_append_right _ hf)) (fun f hf=> .inl (List.mem_append_left _ hf))
  have hkw:Keep (g::(Value.ownBlock (.slice ra rs.length rc)).toList) w (w3.setCell ⟨g,1,none⟩ (.slice a3 (rs.length+1) c3)):=(Keep.of_below' (hb1.trans (hb2.mono hs1))).trans hfin.2 (fun f hf=> .inl hf)
  have Hfin:Hid (∃rv' qv,LogAt (w3.setCell ⟨g,1,none⟩ (.slice a3 (rs.length+1) c3)) base g (.slice ia img.length _) rv' img (rs++[(⟨f,img.length,[]⟩,qv)]) o∧Keep (g::(Value.ownBlock (.slice ra rs.length rc)).toList) w (w3.setCell ⟨g,1,none⟩ (.slice a3 (rs.length+1) c3))∧(∀k,rv'.ownBlock=some k→(Value.ownBlock (.slice ra rs.length rc))=some k∨w.heap.size≤k)∧∀X:List Nat,(∀f∈X,f<w.heap.size)→Bytes X (w3.setCell ⟨g,1,none⟩ (.slice a3 (rs.length+1) c3)) qv []):=Hj ⟨_,_,by rw[Hq.out] at hfin;exact hfin.1,hkw,fun k hk=>by
   rcases hF3 k hk with h | h
   ·exact .inl h
   exact .inr (by omega),by rw[Hq.out] at hqn;exact hqn⟩
  clear hfin hqn hkw hown3 hk3 hF3 hS3 hgb hc3 hgn
  go_wp2
  refine DrawPost.mk (by rfl) ⟨.head _,.head _,trivial⟩ ?_
  go_end0
  exact ⟨⟨_,rfl⟩,Hfin.out⟩
 have hcf':¬ic=f:=fun e=>hcf e.symm
 go_enter Tryz.func143,Tryz.ntmps143
 go_wp2
 refine wp_cut [19,2,1] [g] [4,9] [24] (by kernel_rfl) (by kernel_rfl) (by kernel_rfl) hS ?_
 simp only[wpCut,List.take_succ_cons,List.take_zero,List.drop_succ_cons,List.drop_zero]
 go_wp2_with fail
 refine (clone33 (F:=[]) (n:=t - f) (xs:=bytesV part) _ (by omega) ?hp).mono ?_
 case hp=>
  exact Raw.drew Hsub.out
 rintro e w1 ⟨v1,rfl,hown1,hb1⟩
 obtain ⟨a1,c1',rfl⟩:=Oq hown1
 have HS1:=Hj (same_below (same_start hS) hb1 (fun b hb=>by rw[M1' hb];exact hlt))
 have hb1:Below w.heap.size w w1:=(Br w.heap.size w).drew.trans hb1
 have Hown1:Hid (w1.ownsRow w.heap.size 5 1 (.slice a1 (t - f) c1') (t - f) (bytesV part)):=Hj hown1
 clear hown1
 have H1:=Hj (LogAt.below H.out hb1)
 have hs1:=hb1.size
 go_wp2
 refine Sm HS1.out ?_
 have c0:w1.cell? ⟨g,0,none⟩=some _:=(hb1.cell (p:=⟨g,0,none⟩) hlt).trans c0
 have c1:w1.cell? ⟨g,1,none⟩=some _:=(hb1.cell (p:=⟨g,1,none⟩) hlt).trans c1
 go_wp2
 obtain ⟨q,hq⟩:∃q:Rec×Value,q=(⟨f,img.length,part⟩,.slice a1 (t - f) c1'):=⟨_,rfl⟩
 have Hq:=Hj hq;clear hq
 have HQ1:Hid (∀X:List Nat,(∀f∈X,f<w.heap.size)→Bytes X w1 q.2 q.1.old):=Hj (by
  rw[Hq.out]
  exact fun X hX=>Bytes.row Hown1.out Hpl.out.symm hX)
 have hal:=(Br w1.heap.size w1).alloc (Nr _) (.cells #[.int .i64 f,.int .i64 img.length,.slice a1 (t - f) c1'] 208)
 have HS2:=Hj (same_below HS1.out hal (fun b hb=>by rw[M1' hb];omega))
 refine Sm HS2.out ?_
 refine wpList_gen (fun z=>Below w1.heap.size w1 z∧w1.heap.size<z.heap.size∧SameB [g] w.drew z∧z.heap[w1.heap.size]? =some (.cells #[.int .i64 f,.int .i64 img.length,.slice a1 (t - f) c1'] 208 (0,0))) ⟨hal,by simp,HS2.out,heap_alloc_new w1 _⟩ ?_
 clear hal HS2
 rintro w2 ⟨hb2,hs2,hS2,hx2⟩
 have HS2:=Hj hS2;clear hS2
 have H2:=Hj (LogAt.below H1.out hb2)
 have HQ2:Hid (∀X:List Nat,(∀f∈X,f<w.heap.size)→Bytes X w2 q.2 q.1.old):=Hj fun X hX=>Rb (HQ1.out X hX) hb2
 have Hx2:=Hj (show Raw [] 3 w2 (.slice (some ⟨w1.heap.size,0,none⟩) 1 1) 1 (encR q) from Raw.of_block (ys:=encR q) (by rw[Hq.out];exact hx2) (by intro h;cases h) (by intro u hu;rw[Hq.out] at hu;simp[encR] at hu;rcases hu with rfl | rfl | rfl <;> rfl) rfl (Nr _) (by unfold maxLen;omega))
 clear hx2
 have hlt2:g<w2.heap.size:=by omega
 go_wp2_with (at_builtin;refine wpList_append_rowF el29 Tryz.underlying178 (LogAt.hr H2.out) Hx2.out rfl _ _ rfl rfl rfl ?hm ?c3 ?c5 ?_)
 case hm=>exact Nat.zero_lt_one
 case c3=>omega
 case c5=>omega
 intro v3 w3 hown3 hk3 hF3
 obtain ⟨a3,c3,rfl⟩:=Oq hown3
 have hgn:g∉(Value.ownBlock (.slice ra rs.length rc)).toList:=fun hm=>H2.out.gr (by simpa using hm)
 have hgb:=hk3.block g hlt2 hgn
 have hS3:SameB [g] w.drew w3:=fun b hb=>by
  obtain ⟨⟨c,e',f',h1⟩,h2⟩:=HS2.out b hb
  have e:w3.heap[b]? =w2.heap[b]? :=by rw[M1' hb];exact hgb
  exact ⟨⟨c,e',f',e.trans h1⟩,e.trans h2⟩
 refine Sm hS3 ?_
 have hc3:=hgb.trans H2.out.hc
 have c1:w3.cell? ⟨g,1,none⟩=some (.slice ra rs.length rc):=Bo hc3 rfl
 have f1:=Bf hc3 1
 have hfin:=LogAt.push H2.out hk3 hown3 (by simpa using hF3) (HQ2.out _ fun f hf=>(H.out.fbase f hf).2)
 have hqn:∀X:List Nat,(∀f∈X,f<w.heap.size)→Bytes X (w3.setCell ⟨g,1,none⟩ (.slice a3 (rs.length+1) c3)) q.2 q.1.old:=fun X hX=>
  Raw.keep (HQ2.out (X++(g::(Value.ownBlock (.slice ra rs.length rc)).toList)) (fun f hf=>by
   rcases List.mem_append.1 hf with hf | hf
   ·exact hX f hf
   refine (H.out.fbase f ?_).2
   rcases List.mem_cons.1 hf with rfl | hf
   ·simp[LogF]
   simp only[LogF,List.mem_cons,List.mem_append];exact .inr (.inr hf))) hfin.2 (fun f hf=> .inl (List.mem_append_right _ hf)) (fun f hf=> .inl (List.mem_append_left _ hf))
 have hkw:Keep (g::(Value.ownBlock (.slice ra rs.length rc)).toList) w (w3.setCell ⟨g,1,none⟩ (.slice a3 (rs.length+1) c3)):=(Keep.of_below' (hb1.trans (hb2.mono hs1))).trans hfin.2 (fun f hf=> .inl hf)
 have Hfin:Hid (∃rv' qv,LogAt (w3.setCell ⟨g,1,none⟩ (.slice a3 (rs.length+1) c3)) base g (.slice ia img.length _) rv' img (rs++[(⟨f,img.length,part⟩,qv)]) o∧Keep (g::(Value.ownBlock (.slice ra rs.length rc)).toList) w (w3.setCell ⟨g,1,none⟩ (.slice a3 (rs.length+1) c3))∧(∀k,rv'.ownBlock=some k→(Value.ownBlock (.slice ra rs.length rc))=some k∨w.heap.size≤k)∧∀X:List Nat,(∀f∈X,f<w.heap.size)→Bytes X (w3.setCell ⟨g,1,none⟩ (.slice a3 (rs.length+1) c3)) qv part):=Hj ⟨_,_,by rw[Hq.out] at hfin;exact hfin.1,hkw,fun k hk=>by
  rcases hF3 k hk with h | h
  ·exact .inl h
  exact .inr (by omega),by rw[Hq.out] at hqn;exact hqn⟩
 clear hfin hqn hkw hown3 hk3 hF3 hS3 hgb hc3 hgn
 go_wp2
 refine DrawPost.mk (by rfl) ⟨.head _,.head _,trivial⟩ ?_
 go_end0
 exact ⟨⟨_,rfl⟩,Hfin.out⟩
theorem LogAt.img {w w':World} {base g:Nat} {iv rv:Value} {img img':List UInt8} {rs:List (Rec×Value)} {o:Bool} (h:LogAt w base g iv rv img rs o) (hg:w.grownBy w' iv.ownBlock) (hown:w'.ownsRow base 5 1 iv img'.length (bytesV img')):
  LogAt w' base g iv rv img' rs o∧Keep iv.ownBlock.toList w w':=by
 have hk:Keep iv.ownBlock.toList w w':=Keep.of_grown hg (fun k hk=> .inl (by simp[hk]))
 have hgn:g∉iv.ownBlock.toList:=fun hm=>h.gi (by simpa using hm)
 refine ⟨⟨h.hg,(hk.block g h.lt hgn).trans h.hc,hown,h.hr.keep hk (fun r hr hm=>h.ir (by simpa using hm) hr),fun p hp=>(h.hb p hp).keep hk (fun f hf=> .inl ?_) (fun f hf=> .inl hf)⟩,hk⟩
 simp only[LogF,List.mem_cons,List.mem_append];exact .inr (.inl hf)
open Go.Txt Go.RowKit Go.Bs Go.Cl Go.Rw Go.Un
def WriteP (w:World) (base g:Nat) (iv rv:Value) (img:List UInt8) (rs:List (Rec×Value)) (off:Nat) (b:List UInt8) (e:Ending) (w':World):Prop:=
 e= .returned (.int .i64 0)∧∃rv' qv,LogAt w' base g iv rv' (Un.written img off b) (rs++[(⟨off,img.length,(img.take (off+b.length)).drop off⟩,qv)]) true∧Keep (LogF g iv rv) w w'∧(∀f∈LogF g iv rv',f∈LogF g iv rv∨w.heap.size≤f)∧Fr w rs w' (rs++[(⟨off,img.length,(img.take (off+b.length)).drop off⟩,qv)])
theorem write_yes {base g:Nat} {iv rv:Value} {img:List UInt8} {rs:List (Rec×Value)} (bv:Value) (b:List UInt8) (off:Nat) (w:World) (h:LogAt w base g iv rv img rs true) (hB:Bytes (LogF g iv rv) w bv b) (hil:img.length≤24000) (hrl:rs.length≤1000) (hbase:base≤w.heap.size)
  (hoff:off+b.length≤img.length):
  Calls Tryz.prog 126 #[.pointer (some ⟨g,0,none⟩),.int .i64 off,bv] w (WriteP w base g iv rv img rs off b):=by
 obtain ⟨ba,bc,rfl⟩:=Rs hB
 obtain ⟨ia,ic,hiv⟩:=Oq h.hi
 subst hiv
 have HB:=Hj hB;clear hB
 have c0:w.cell? ⟨g,0,none⟩=some (.slice ia img.length ic):=Bo h.hc rfl
 have hlt:=h.lt
 have hsome:0<b.length→∃gi,ia=some ⟨gi,0,none⟩:=fun h0=>by
  rcases own_cases h.hi with ⟨e,h1,_⟩ | ⟨gi,_,e,_⟩
  ·have:=congrArg (fun v:Value=>match v with | .slice _ n _=>n | _=>0) e
   simp only at this
   omega
  cases e;exact ⟨gi,rfl⟩
 have hic:img.length≤ic:=by
  have hr:=Raw.of_own (F:=[]) h.hi (bytesV_one _) (fun f hf=>by cases hf)
  obtain ⟨_,_,a',c',e,h2,_⟩:=hr
  cases e;exact h2
 have H:=Hj h;clear h
 have h1:(off:Int)≤img.length:=by omega
 have h2:(b.length:Int)≤(img.length:Int) - off:=by omega
 have h3:((off+b.length:Nat):Int)=(off:Int)+b.length:=by omega
 obtain ⟨part,hpart⟩:∃p,p=(img.take (off+b.length)).drop off:=⟨_,rfl⟩
 have Hpart:=Hj hpart
 have key:∀w1,(∃rv' qv,LogAt w1 base g (.slice ia img.length ic) rv' img (rs++[(⟨off,img.length,part⟩,qv)]) true∧Keep (g::rv.ownBlock.toList) w w1∧(∀k,rv'.ownBlock=some k→rv.ownBlock=some k∨w.heap.size≤k)∧∀X:List Nat,(∀f∈X,f<w.heap.size)→Bytes X w1 qv part)→
   ∃rv1 qv,LogAt w1 base g (.slice ia img.length ic) rv1 img (rs++[(⟨off,img.length,part⟩,qv)]) true∧Keep (LogF g (.slice ia img.length ic) rv) w w1∧(∀f∈LogF g (.slice ia img.length ic) rv1,f∈LogF g (.slice ia img.length ic) rv∨w.heap.size≤f)∧Bytes (LogF g (.slice ia img.length ic) rv1) w1 (.slice ba b.length bc) b∧Fr w rs w1 (rs++[(⟨off,img.length,part⟩,qv)]):=fun w1 ⟨rv1,qv,H1,hk1,hF1,hX1⟩=>by
  have hF:∀f∈LogF g (.slice ia img.length ic) rv1,f∈LogF g (.slice ia img.length ic) rv∨w.heap.size≤f:=fun f hf=>by
   simp only[LogF,List.mem_cons,List.mem_append] at hf⊢
   rcases hf with hf | hf | hf
   ·exact .inl (.inl hf)
   ·exact .inl (.inr (.inl hf))
   rcases hF1 f (by simpa using hf) with h | h
   ·exact .inl (.inr (.inr (by simp[h])))
   exact .inr h
  have hkk:Keep (LogF g (.slice ia img.length ic) rv) w w1:=hk1.mono fun f hf=> .inl (by
   rcases List.mem_cons.1 hf with rfl | hf
   ·simp[LogF]
   simp only[LogF,List.mem_cons,List.mem_append];exact .inr (.inr hf))
  exact ⟨rv1,qv,H1,hkk,hF,Raw.keep HB.out hkk (fun f hf=> .inl hf) hF,Fr.snoc (Fr.keep H.out hkk fun _ hp=>hp) hX1⟩
 have Key:=Hj key;clear key
 have note:=note_any off (off+b.length) w H.out (by omega) hoff hil hrl hbase
 rw[←hpart] at note
 have Note:=Hj note;clear note hpart
 by_cases hb0:b.length=0
 ·have hbn:b=[]:=List.eq_nil_of_length_eq_zero hb0
  subst hbn
  rcases Decidable.em (off=ic) with rfl | hco
  all_goals
   try have hco':¬ic=off:=fun e=>hco e.symm
   go_enter Tryz.func126,Tryz.ntmps126
   go_wp2_with (go_at_call 136;refine (closed_any _ H.out).mono ?_;rintro e w' ⟨rfl,rfl⟩)
   refine Note.out.mono ?_
   rintro e w1 ⟨⟨v,rfl⟩,hnote⟩
   obtain ⟨rv1,qv,h1',hkk,hF,hB1,hfr⟩:=Key.out w1 hnote
   have HFr:=Hj hfr;clear hfr
   have c0:w1.cell? ⟨g,0,none⟩=some _:=Bo h1'.hc rfl
   have H1:=Hj h1'
   have Hkk:=Hj hkk
   have HF:=Hj hF
   clear h1' hkk hF hB1 hnote
   go_wp2_with (refine wpList_copy_nothing rfl _ _ 22 22 rfl 5 Tryz.underlying22 (by kernel_rfl) _ _ _ _ _ _ rfl rfl ?hn ?_)
   case hn=>simp
   go_wp2
   go_ret
   exact ⟨rfl,rv1,qv,by rw[show Un.written img _ []=img by simp[Un.written],←Hpart.out];exact H1.out,Hkk.out,HF.out,by rw[←Hpart.out];exact HFr.out⟩
 obtain ⟨gi,rfl⟩:=hsome (by omega)
 have hco:¬ic=off:=by omega
 go_enter Tryz.func126,Tryz.ntmps126
 go_wp2_with (go_at_call 136;refine (closed_any _ H.out).mono ?_;rintro e w' ⟨rfl,rfl⟩)
 refine Note.out.mono ?_
 rintro e w1 ⟨⟨v,rfl⟩,hnote⟩
 obtain ⟨rv1,qv,h1',hkk,hF,hB1,hfr⟩:=Key.out w1 hnote
 have HFr:=Hj hfr;clear hfr
 have c0:w1.cell? ⟨g,0,none⟩=some (.slice (some ⟨gi,0,none⟩) img.length ic):=Bo h1'.hc rfl
 have H1:=Hj h1'
 have Hi1:=Hj h1'.hi
 have Hkk:=Hj hkk
 have HF:=Hj hF
 have HB1:=Hj hB1
 clear h1' hkk hF hB1 hnote
 go_wp2_with (refine wpList_copy_raw el22 Hi1.out HB1.out rfl _ _ rfl rfl rfl (i:=off) (d:=b.length) ?o1 ?d1 ?d2 ?_)
 case o1=>omega
 case d1=>omega
 case d2=>exact Nat.min_eq_left (by omega)
 intro w2 hown2 hg2 hsz2
 have e:splice (bytesV img) off ((bytesV b).take b.length)=bytesV (Un.written img off b):=by rw[List.take_of_length_le (by rw[bytesV_len];exact Nr _),splice_bytes]
 have hl2:(Un.written img off b).length=img.length:=written_len hoff
 have hfin:=LogAt.img (img':=Un.written img off b) H1.out hg2 (by rw[hl2];simpa[e] using hown2)
 have Hfin:Hid (WriteP w base g (.slice (some ⟨gi,0,none⟩) img.length ic) rv img rs off b (.returned (.int .i64 0)) w2):=Hj ⟨rfl,rv1,qv,by rw[←Hpart.out];exact hfin.1,Hkk.out.trans hfin.2 (fun f hf=> .inl (by simp only[LogF,List.mem_cons,List.mem_append];exact .inr (.inl hf))),HF.out,by
  rw[←Hpart.out]
  refine HFr.out.trans (Fr.keep H1.out (hfin.2.mono fun f hf=> .inl ?_) fun _ hp=>hp) Hkk.out.size
  simp only[LogF,List.mem_cons,List.mem_append];exact .inr (.inl hf)⟩
 clear hfin hown2 hg2 e hl2
 go_wp2
 go_ret
 exact Hfin.out
open Go.Txt Go.RowKit Go.Bs Go.Cl Go.Rw Go.Un Go.Shelf
attribute [local go_sem] Oper.semAt_some
def TakenJ (iv:Value) (w:World) (base:Nat) (img:List UInt8) (rs:List (Rec×Value)) (pre:List (Fin rs.length)) (W:World):Prop:=
 (∃v,Boxed W w.heap.size 22 v∧W.ownsRow base 5 1 v (imgAt img rs pre).length (bytesV (imgAt img rs pre))∧(v=iv∨∀r,v.ownBlock=some r→w.heap.size≤r))∧Below w.heap.size w W∧w.heap.size+1<W.heap.size
theorem takenJ_own (iv:Value) (w:World) (base:Nat) (img:List UInt8) (rs:List (Rec×Value)) (B:Nat) (hB:w.heap.size≤B):OwnFrom B (TakenJ iv w base img rs):=fun s W W' row ⟨⟨v,h1,h2,h5⟩,h3,h4⟩ hg hr=>
 ⟨⟨v,boxed_grown h1 hg (fun r e=>(hr r e).2),ownsRow_grown h2 hg (fun r e=>(hr r e).2),h5⟩,h3.grown hg h3.size (fun k e=>Nat.le_trans hB (hr k e).1),Nat.lt_of_lt_of_le h4 hg.size⟩
theorem taken_own {F:List Nat} (iv rv:Value) (img:List UInt8) (rs:List (Rec×Value)) (base:Nat) (w:World) (hl:rs.length≤1000000) (him:img.length≤1000000)
  (hown:w.ownsRow base 5 1 iv img.length (bytesV img)) (hbase:base≤w.heap.size)
  (hR:Raw F 3 w rv rs.length (rs.flatMap encR)) (hok:∀p∈rs,p.1.ok=true) (hby:∀p∈rs,Bytes F w p.2 p.1.old):
  Calls Tryz.prog 147 #[iv,rv] w fun e w'=>∃v',e= .returned v'∧w'.ownsRow base 5 1 v' (takeAll img (rs.map (·.1))).length (bytesV (takeAll img (rs.map (·.1))))∧(v'=iv∨∀r,v'.ownBlock=some r→w.heap.size≤r)∧Below w.heap.size w w':=by
 refine (callsIn_wide (n:=9)).1 ?_
 obtain ⟨a,cap,hv⟩:∃a cap,rv= .slice a rs.length cap:=by obtain ⟨_,_,a,cap,h,_⟩:=hR;exact ⟨a,cap,h⟩
 subst hv
 obtain ⟨ia,icap,rfl⟩:=Oq hown
 have HR:=Hj hR;clear hR
 have Hown:=Hj hown;clear hown
 have Hok:=Hj hok;clear hok
 have Hby:=Hj hby;clear hby
 refine callsIn_of_wp_marks Tryz.func147 rfl trivial ?_ rfl
 simp only[Tryz.ntmps147,List.size_toArray,List.length_cons,List.length_nil,Nat.reduceAdd,Nat.reduceSub,Array.replicate_succ,Array.replicate_zero,List.push_toArray,List.append_toArray,List.nil_append,List.cons_append]
 gi_wp2_with fail
 refine ⟨trivial, ?_⟩
 refine (callsIn_wide.2 (backward_any _ _ _ _)).mono ?_
 rintro e w' ⟨rfl,rfl⟩
 gi_wp2
 have bS:=Boxed.new w 22 (.slice ia img.length icap)
 have bN:=Boxed.new (w.alloc (.cells #[.slice ia img.length icap] 22)) 178 (.slice a rs.length cap)
 rw[World.size_alloc] at bN
 have hB0:Below w.heap.size w ((w.alloc (.cells #[.slice ia img.length icap] 22)).alloc (.cells #[.slice a rs.length cap] 178)):=((Br _ w).alloc (Nr _) _).alloc (by simp) _
 refine wpIn_rangeFunc_ownH (n:=9) rfl (by decide) (gf:=153) (lb:=#[.pointer (some ⟨w.heap.size+1,0,none⟩)]) rfl trivial (enters_of Tryz.func153 (by kernel_rfl) rfl)
  (back_stops 8 (by decide) (w.heap.size+1) w.heap.size _ rs hl _ (by simp) (by simp;omega) bN.cell (HR.out.below hB0) ?hn2) (fun h k=>KB.trans h k) (fun W l o o' hl' h h1 h2=>KB.put (n₀:=w.heap.size) (Bs:=w.heap.size+1) (w:=(w.alloc (.cells #[.slice ia img.length icap] 22)).alloc (.cells #[.slice a rs.length cap] 178)) (by simp;omega) (by simp) W l o o' hl' h h1 h2) (Br _ _) ?hps
  (TakenJ (.slice ia img.length icap) w base img rs) (fun _ _ _=>False) (takenJ_own _ w base img rs _ (by simp;omega)) (fun _ _ _ _ _ hs _ _=>hs)
  ⟨⟨_,bS.alloc _,by simpa[imgAt] using (Hown.out.alloc _).alloc _,.inl rfl⟩,hB0,by simp⟩
  (fun x a' W=>∃q i,q<W.heap.size∧w.heap.size+1<q∧a'={tmps:=#[.slice ia img.length icap,.slice a rs.length cap,.pointer (some ⟨w.heap.size,0,none⟩),undef,.slice none 0 0,undef,.pointer (some ⟨q,0,none⟩),.slice a rs.length cap,.func (.func 153) #[] #[.pointer (some ⟨w.heap.size+1,0,none⟩)],i,.agg #[.int .i64 (recAt rs x.val).1.off,.int .i64 (recAt rs x.val).1.len,(recAt rs x.val).2],undef,undef,undef,undef,undef,undef,undef,undef,undef,undef,undef,undef],defers:=[]}∧
   W.heap[q]? =some (.cells #[.int .i64 (recAt rs x.val).1.off,.int .i64 (recAt rs x.val).1.len,(recAt rs x.val).2] 208 (0,0)))
  ?hAx ?assign ?body ?done ?stop
 case hps=>intro x;rfl
 case hn2=>
  intro b o c e h0
  cases e
  rcases HR.out.cases with ⟨h,_⟩ | ⟨_,b',off,cap',he,_,_,hb,_⟩
  ·omega
  cases he;exact hb
 case hAx=>
  intro x a' _ W W' row h hg hr
  obtain ⟨q,i,h1,h2,h3,h4⟩:=h
  refine ⟨q,i,Nat.lt_of_lt_of_le h1 hg.size,h2,h3,(hg.block q h1 fun e=> ?_).trans h4⟩
  obtain ⟨_,o,ho,hc⟩:=hr q e.symm
  rw[h4] at ho;cases ho;simp[Obj.isCells] at hc
 case assign=>
  intro l pre x W K hI hK
  have hz:=hI.2.1.size
  have hlt:=hI.2.2
  have HI:=Hj hI;clear hI
  obtain ⟨qv,hqv⟩:∃q,recAt rs x.val=q:=⟨_,rfl⟩
  have hmem:qv∈rs:=by rw[←hqv];exact List.mem_of_getElem? (recAt_get x.isLt)
  obtain ⟨⟨qo,ql,qb⟩,qw⟩:=qv
  obtain ⟨qa,qc,hqw⟩:=Rs (Hby.out _ hmem)
  simp only at hqw
  subst hqw
  rw[hqv] at hK⊢
  dsimp only[aggR] at hK⊢
  have HK:=Hj hK;clear hK
  clear hqv hmem
  gi_wp2
  refine HK.out _ _ ((KeepsOthers.alloc _ _).from _) ⟨(Br _ _).alloc (by omega) _, ?_⟩ ((takenJ_own _ w base img rs w.heap.size (Nr _)).alloc _ HI.out) ⟨W.heap.size,_,by simp, ?_,rfl,heap_alloc_new W _⟩
  ·exact Below.cell (p:=⟨w.heap.size+1,0,none⟩) ((Br W.heap.size W).alloc (Nr _) _) hlt
  exact hlt
 case body=>
  rintro l pre x a' W hl' hL hI ⟨q,i,hq,hq2,rfl,hqb⟩ hlen
  obtain ⟨⟨v,hbx,hrow,_⟩,hbel,hsz⟩:=hI
  obtain ⟨va,vc,rfl⟩:=Oq hrow
  obtain ⟨qv,hqv⟩:∃q,recAt rs x.val=q:=⟨_,rfl⟩
  have hmem:qv∈rs:=by rw[←hqv];exact List.mem_of_getElem? (recAt_get x.isLt)
  have hsn:=imgAt_snoc img rs pre x
  rw[hqv] at hqb hsn⊢
  obtain ⟨⟨qo,ql,qb⟩,qw⟩:=qv
  have hqok:=Rec.ok_iff.1 (Hok.out _ hmem)
  obtain ⟨qa,qc,hqw⟩:=Rs (Hby.out _ hmem)
  simp only at hqw hqok
  subst hqw
  have HB:=Hj (Hby.out _ hmem)
  obtain ⟨hq0,hq1,hq2',hq3,hq4⟩:=hqok
  obtain ⟨ln,rfl⟩:∃n:Nat,ql=n:=⟨ql.toNat,by omega⟩
  obtain ⟨on,rfl⟩:∃n:Nat,qo=n:=⟨qo.toNat,by omega⟩
  have him0:=imgAt_le Hok.out him pre
  obtain ⟨m0,hm0⟩:∃m0,m0=imgAt img rs pre:=⟨_,rfl⟩
  rw[←hm0] at hrow him0 hsn hbx
  have Hsn:=Hj hsn
  clear hm0 hsn hmem hqv
  have Hrow:=Hj (Raw.of_own (F:=[]) hrow (bytesV_one _) (fun f h=>by cases h));clear hrow
  have c0:W.cell? ⟨q,0,none⟩=some (.int .i64 on):=by simp[World.cell?,hqb]
  have c1:W.cell? ⟨q,1,none⟩=some (.int .i64 ln):=by simp[World.cell?,hqb]
  have c2:W.cell? ⟨q,2,none⟩=some (.slice qa qb.length qc):=by simp[World.cell?,hqb]
  have cb:=hbx.cell
  have fb:=hbx.frozen
  have Hbx:=Hj hbx;clear hbx hqb
  gi_wp2
  refine ⟨trivial, ?_⟩
  refine (CallsIn.inRound l (callsIn_wide.2 (resized_any ln _ (by omega) him0 Hrow.out))).mono ?_
  rintro e W1 ⟨g,rfl,hg,hown1,hb1⟩
  have hlt:w.heap.size<W.heap.size:=by omega
  have hsz1:=hb1.size
  have hlt1:w.heap.size<W1.heap.size:=by omega
  obtain ⟨hc1,hf1⟩:=bcell hb1
  have Hown1:=Hj hown1;clear hown1
  have hbox1:Boxed W1 w.heap.size 22 (.slice va m0.length vc):=(hb1.block _ hlt).trans Hbx.out
  have Hbox1:=Hj hbox1;clear hbox1
  gi_wp2
  refine wpIn_gen (I:=fun z=>Below w.heap.size w z∧z.ownsRow W.heap.size 5 1 (.slice (some ⟨g,0,none⟩) ln ln) ln (bytesV (sized m0 ln))∧Boxed z w.heap.size 22 (.slice (some ⟨g,0,none⟩) ln ln)∧z.cell? ⟨q,0,none⟩=some (.int .i64 on)∧z.cell? ⟨q,2,none⟩=some (.slice qa qb.length qc)∧KeepsOthers W z∧z.cell? ⟨w.heap.size+1,0,none⟩=W.cell? ⟨w.heap.size+1,0,none⟩∧W.heap.size≤z.heap.size)
   ⟨(hbel.trans (hb1.mono (by omega))).setCell (Nr _) _,ownsRow_setCell_below Hown1.out hlt _,Hbox1.out.set _, ?i1, ?i2,(KeepsOthers.trans ⟨hb1.size,fun k o hk _=>(hb1.block k (Al hk)).trans hk⟩ (KeepsOthers.setCell _ _ _)), ?i3,by simp[World.setCell];exact hsz1⟩ ?_
  case i1=>rw[setCell_other _ _ _ (by show q≠w.heap.size;omega)];exact (hc1 q 0 hq).trans c0
  case i2=>rw[setCell_other _ _ _ (by show q≠w.heap.size;omega)];exact (hc1 q 2 hq).trans c2
  case i3=>rw[setCell_other _ _ _ (by show w.heap.size+1≠w.heap.size;omega)];exact hc1 _ 0 hsz
  clear hc1 hf1 hb1 Hown1 Hbox1 hlt1 hsz1 c0 c1 c2 cb fb
  rintro z ⟨hbz,hoz,hxz,c0,c2,hkz,hkb,hsz2⟩
  have cb:=hxz.cell
  have Hoz:=Hj hoz;clear hoz
  have Hxz:=Hj hxz;clear hxz
  have HBz:=Hj (Rb HB.out hbz)
  have hfin:∀z2:World,z2.ownsRow W.heap.size 5 1 (.slice (some ⟨g,0,none⟩) ln ln) ln (bytesV (Un.written (sized m0 ln) on qb))→z.grownBy z2 (some g)→TakenJ (.slice ia img.length icap) w base img rs (pre++[x]) z2∧KB w.heap.size (w.heap.size+1) W z2∧KeepsFrom ((w.alloc (.cells #[.slice ia img.length icap] 22)).alloc (.cells #[.slice a rs.length cap] 178)).heap.size W z2:=fun z2 h1 h2=>by
   have hne:w.heap.size≠g:=by omega
   have hb2:=hbz.grown h2 (by omega) (fun k e=>by cases e;omega)
   refine ⟨⟨⟨_,Hxz.out.kept h2 (by simpa using hne), ?_,.inr (fun r hr=>by simp[Value.ownBlock] at hr;omega)⟩,hb2,Nat.lt_of_lt_of_le (by omega) h2.size⟩,⟨?_, ?_⟩, ?_⟩
   ·rw[Hsn.out]
    have e:(Un.written (sized m0 ln) on qb).length=ln:=by rw[written_len (by rw[sized_len];omega),sized_len]
    show z2.ownsRow base 5 1 _ (Un.written (sized m0 (ln:Int).toNat) (on:Int).toNat qb).length (bytesV (Un.written (sized m0 (ln:Int).toNat) (on:Int).toNat qb))
    rw[Int.toNat_natCast,Int.toNat_natCast,e]
    exact own_base h1 (by omega)
   ·exact ⟨hb2.os.trans hbel.os.symm,hb2.tape.trans hbel.tape.symm,hb2.output.trans hbel.output.symm,Nat.le_trans hsz2 h2.size,fun k hk=>(hb2.block k hk).trans (hbel.block k hk).symm⟩
   ·exact (h2.cell? (by omega) (by omega)).trans hkb
   exact KeepsOthers.from (hkz.trans (KeepsOthers.of_grownBy h2 (fun j o e ho=>by cases e;exact own_isCells Hoz.out ho))) _
  have Hfin:=Hj hfin;clear hfin
  refine region_round_txt (fun ⟨_,_,h⟩=>h) rfl (by kernel_rfl) (by kernel_rfl) ?_
  have hqb:qb.length+on≤ln:=by omega
  by_cases heq:on=ln
  ·subst heq
   have hq0:qb=[]:=List.eq_nil_of_length_eq_zero (by omega)
   subst hq0
   go_wp2_with (refine wpList_copy_raw el22 Hoz.out HBz.out rfl _ _ rfl rfl rfl (i:=0) (d:=0) ?o1 ?d1 ?d2 ?_)
   case o1=>rfl
   case d1=>omega
   case d2=>rfl
   intro z2 hown2 hgrow2 hsz3
   have e1:Un.written (sized m0 on) on []=sized m0 on:=by simp[Un.written]
   have hf:=Hfin.out z2 (by rw[e1];simpa[splice] using hown2) (grown_of_drew hgrow2)
   have Hf:=Hj hf;clear hf hown2
   go_wp2
   refine DrawPost.mk0 (by rfl) ?_
   exact ⟨Hf.out.2.2,Hf.out.2.1,Hf.out.1⟩
  have hlt3:on<ln:=by omega
  go_wp2_with (refine wpList_copy_raw el22 Hoz.out HBz.out rfl _ _ rfl rfl rfl (i:=on) (d:=qb.length) ?o1 ?d1 ?d2 ?_)
  case o1=>omega
  case d1=>omega
  case d2=>exact Nat.min_eq_left (by omega)
  intro z2 hown2 hgrow2 hsz3
  have hf:=Hfin.out z2 (by rw[←splice_bytes];rw[List.take_of_length_le (by rw[bytesV_len];omega)] at hown2;simpa using hown2) (grown_of_drew hgrow2)
  have Hf:=Hj hf;clear hf hown2
  go_wp2
  refine DrawPost.mk0 (by rfl) ?_
  exact ⟨Hf.out.2.2,Hf.out.2.1,Hf.out.1⟩
 case done=>
  rintro D ys W hD rfl ⟨⟨v,hbx,hrow,hnew⟩,hbel,_⟩ hK
  have hc:=hbx.cell
  gi_wp2
  refine ⟨by simp,.inl ⟨_,_,rfl,run_takeDeferred hK, ?_⟩⟩
  rw[imgAt_bk _ _ (Nr _),Nat.sub_self,List.drop_zero] at hrow
  exact ⟨_,results_tmp rfl _ _ _,v,rfl,ownsRow_grown hrow (grownBy_putObj' W D _) (fun r e=>by cases e;exact ⟨_,hK,rfl⟩),hnew,hbel.trans (belowK_b (w:=w) (Nr _) W D _ _ (by simp at hD;omega) hK rfl rfl)⟩
 case stop=>
  rintro D c pre W _ _ h _
  exact h.elim
end Go.Proofs.YtipiofgdjbogiaaGreat
namespace Go.Un
open Go Go.Txt Go.RowKit Go.Bs Go.Cl Go.Rw
theorem LogAt.image {w w3:World} {base g:Nat} {iv rv iv':Value} {img img':List UInt8} {rs:List (Rec×Value)} {o:Bool} (h:LogAt w base g iv rv img rs o) (hb:Below w.heap.size w w3) (hown:w3.ownsRow base 5 1 iv' img'.length (bytesV img'))
  (hnew:∀r,iv'.ownBlock=some r→iv.ownBlock=some r∨w.heap.size≤r):
  LogAt (w3.setCell ⟨g,0,none⟩ iv') base g iv' rv img' rs o∧Keep [g] w (w3.setCell ⟨g,0,none⟩ iv'):=by
 have hk3:Keep [] w w3:=Keep.of_below' hb
 have hc3:w3.heap[g]? =some (.cells #[iv,rv,.bool o] 180 (0,0)):=(hb.block g h.lt).trans h.hc
 have hk4:Keep [g] w3 (w3.setCell ⟨g,0,none⟩ iv'):=(Keep.refl [g] w3).setCell (by simp) _
 have hks:Keep [g] w (w3.setCell ⟨g,0,none⟩ iv'):=(hk3.mono (fun f hf=>by cases hf)).trans hk4 (fun f hf=> .inl hf)
 have hvg:iv'.ownBlock≠some g:=fun e=>by
  rcases hnew g e with h1 | h1
  ·exact h.gi h1
  have:=h.lt;omega
 refine ⟨⟨h.hg, ?_, ?_,h.hr.keep hks (fun r hr hm=>by rw[M1' hm] at hr;exact h.gr hr),fun p hp=> ?_⟩,hks⟩
 ·simp only[World.setCell,Array.getElem?_modify]
  simp[hc3]
 ·refine ⟨hown.1, ?_⟩
  rcases hown.2 with h2 | ⟨g',cap,cur',hv',hb',hg',rest⟩
  ·exact .inl h2
  exact .inr ⟨g',cap,cur',hv',hb',(hk4.block g' (Al hg') (fun hm=>by rw[M1' hm] at hv';exact hvg (by rw[hv'];rfl))).trans hg',rest⟩
 refine (h.hb p hp).keep hks (fun f hf=> .inl ?_) (fun f hf=> ?_)
 ·simp[LogF,M1' hf]
 simp only[LogF,List.mem_cons,List.mem_append] at hf⊢
 rcases hf with hf | hf | hf
 ·exact .inl (.inl hf)
 ·rcases hnew f (by simpa using hf) with h1 | h1
  ·exact .inl (.inr (.inl (by simpa using h1)))
  exact .inr h1
 exact .inl (.inr (.inr hf))
end Go.Un
namespace Go.Proofs.YtipiofgdjbogiaaGreat
open Go.Txt Go.RowKit Go.Bs Go.Cl Go.Rw Go.Un
def StepP (w:World) (base g:Nat) (iv rv:Value) (ts:List (Rec×Value)) (img':List UInt8) (rs':List Rec) (o':Bool) (w':World):Prop:=
 ∃iv' rv' rs,rs.map (·.1)=rs'∧LogAt w' base g iv' rv' img' rs o'∧Keep (LogF g iv rv) w w'∧(∀f∈LogF g iv' rv',f∈LogF g iv rv∨w.heap.size≤f)∧Fr w ts w' rs
theorem StepP.same {w:World} {base g:Nat} {iv rv:Value} {img:List UInt8} {rs:List (Rec×Value)} {o:Bool} (h:LogAt w base g iv rv img rs o):StepP w base g iv rv rs img (rs.map (·.1)) o w:=⟨iv,rv,rs,rfl,h,Keep.refl _ _,fun _ hf=> .inl hf,Fr.refl _ _⟩
theorem commit_any {base g:Nat} {iv rv:Value} {img:List UInt8} {rs:List (Rec×Value)} {o:Bool} (w:World) (h:LogAt w base g iv rv img rs o):
  Calls Tryz.prog 107 #[.pointer (some ⟨g,0,none⟩)] w fun e w'=>e= .returned (.int .i64 (if o then 0 else 7))∧StepP w base g iv rv rs img (if o then [] else rs.map (·.1)) false w':=by
 have c1:=Bj h.hc 1 rfl
 have f1:=Bf h.hc 1
 have c2:=Bj h.hc 2 rfl
 have f2:=Bf h.hc 2
 have H:=Hj h;clear h
 cases o
 ·go_enter Tryz.func107,Tryz.ntmps107
  go_wp2_with (go_at_call 136;refine (closed_any _ H.out).mono ?_;rintro e w' ⟨rfl,rfl⟩)
  go_ret
  exact ⟨rfl,StepP.same H.out⟩
 have h1:=H.out.recs (ts:=[]) (v3:= .slice none 0 0) (Keep.refl _ _) (.inl (World.ownsRow_nil _ _ _ _)) (fun f hf=>by cases hf) (fun p hp=>by cases hp)
 have h2:=LogAt.mark h1.1 false
 have hfin:StepP w base g iv rv rs img [] false ((w.setCell ⟨g,1,none⟩ (.slice none 0 0)).setCell ⟨g,2,none⟩ (.bool false)):=
  ⟨iv,.slice none 0 0,[],rfl,h2.1,(h1.2.trans h2.2 (fun f hf=> .inl (by simp[M1' hf]))).mono (fun f hf=> .inl (by
   simp only[LogF,List.mem_cons,List.mem_append] at hf⊢
   rcases hf with hf | hf
   ·exact .inl hf
   ·exact .inr (.inr hf))),fun f hf=> .inl (by
   simp only[LogF,List.mem_cons,List.mem_append] at hf⊢
   rcases hf with hf | hf | hf
   ·exact .inl hf
   ·exact .inr (.inl hf)
   simp[Value.ownBlock] at hf),Fr.nil _ _ _⟩
 have Hfin:=Hj hfin
 clear hfin h1 h2
 go_enter Tryz.func107,Tryz.ntmps107
 go_wp2_with (go_at_call 136;refine (closed_any _ H.out).mono ?_;rintro e w' ⟨rfl,rfl⟩)
 go_ret
 exact ⟨rfl,Hfin.out⟩
theorem resize_yes {base g:Nat} {iv rv:Value} {img:List UInt8} {rs:List (Rec×Value)} (n:Nat) (w:World) (h:LogAt w base g iv rv img rs true) (hil:img.length≤24000) (hrl:rs.length≤1000) (hbase:base≤w.heap.size) (hn:n≤24000):
  Calls Tryz.prog 125 #[.pointer (some ⟨g,0,none⟩),.int .i64 n] w fun e w'=>e= .returned (.int .i64 0)∧StepP w base g iv rv rs (sized img n) (rs.map (·.1)++[⟨((min n img.length:Nat):Int),img.length,img.drop (min n img.length)⟩]) true w':=by
 obtain ⟨ia,ic,hiv⟩:=Oq h.hi
 subst hiv
 have c0:w.cell? ⟨g,0,none⟩=some (.slice ia img.length ic):=Bo h.hc rfl
 have hlt:=h.lt
 have note:=note_any (min n img.length) img.length w.drew (h.below ((Br _ w).drew)) (Nat.min_le_right _ _) (Nr _) hil hrl hbase
 rw[List.take_length] at note
 obtain ⟨m,hm⟩:∃m,min n img.length=m:=⟨_,rfl⟩
 have hcase:(n=m∧(n:Int)≤img.length)∨(m=img.length∧(img.length:Int)<n):=by omega
 rw[hm] at note⊢
 clear hm
 obtain ⟨q,hq⟩:∃q:Rec,q=⟨(m:Nat),img.length,img.drop m⟩:=⟨_,rfl⟩
 have Hq:=Hj hq
 have hold:img.drop m=q.old:=by rw[hq]
 rw[←hq,hold] at note
 rw[←hq]
 clear hq hold
 have Note:=Hj note;clear note
 have H:=Hj h;clear h
 have h1:(n:Int)≤24000:=by omega
 rcases hcase with ⟨rfl,hle⟩ | ⟨rfl,hle⟩
 all_goals
  go_enter Tryz.func125,Tryz.ntmps125
  go_wp2_with (go_at_call 136;refine (closed_any _ H.out).mono ?_;rintro e w' ⟨rfl,rfl⟩)
  refine wp_txt (by kernel_rfl) (by kernel_rfl) ?_
  go_wp2_with fail
  refine Note.out.mono ?_
  rintro e w1 ⟨⟨v,rfl⟩,rv1,qv,h1',hk1,hF1,hX1⟩
  have hk1:Keep (g::rv.ownBlock.toList) w w1:=(Keep.refl (g::rv.ownBlock.toList) w).drew.trans hk1 (fun f hf=> .inl hf)
  have c0:w1.cell? ⟨g,0,none⟩=some (.slice ia img.length ic):=Bo h1'.hc rfl
  have f0:=Bf h1'.hc 0
  have HB1:=Hj (Bytes.row (F:=[]) h1'.hi rfl (fun f hf=>by cases hf))
  have H1:=Hj h1'
  have Hk1:=Hj hk1
  have HF1:=Hj hF1
  have hfr:=Fr.snoc (q:=(q,qv)) (Fr.keep H.out (hk1.mono (fun f hf=> .inl (by
    simp only[LogF,List.mem_cons,List.mem_append] at hf⊢
    rcases hf with hf | hf
    ·exact .inl hf
    exact .inr (.inr hf)))) fun _ hp=>hp) hX1
  have HFr:=Hj hfr
  clear h1' hk1 hF1 hX1 hfr
  go_wp2
  refine DrawPost.mk0 (by rfl) ?_
  go_wp2_with fail
  refine (resized_any n _ (by omega) (by omega) HB1.out).mono ?_
  rintro e w2 ⟨g2,rfl,hg2,hown2,hb2⟩
  have hfin:=LogAt.image (img':=sized img n) H1.out hb2 (by rw[sized_len];exact own_base hown2 (by have:=Hk1.out.size;omega)) (fun r hr=> .inr (by simp[Value.ownBlock] at hr;omega))
  have Hfin:Hid (StepP w base g (.slice ia img.length ic) rv rs (sized img n) (rs.map (·.1)++[q]) true (w2.setCell ⟨g,0,none⟩ (.slice (some ⟨g2,0,none⟩) n n))):=Hj
   ⟨_,rv1,_,by simp,hfin.1,(Hk1.out.trans hfin.2 (fun f hf=> .inl (by simp[M1' hf]))).mono (fun f hf=> .inl (by
    simp only[LogF,List.mem_cons,List.mem_append] at hf⊢
    rcases hf with hf | hf
    ·exact .inl hf
    ·exact .inr (.inr hf))),fun f hf=>by
    have hs:=Hk1.out.size
    simp only[LogF,List.mem_cons,List.mem_append] at hf⊢
    rcases hf with hf | hf | hf
    ·exact .inl (.inl hf)
    ·simp[Value.ownBlock] at hf;exact .inr (by omega)
    rcases HF1.out f (by simpa using hf) with h | h
    ·exact .inl (.inr (.inr (by simpa using h)))
    exact .inr h,HFr.out.trans (Fr.keep H1.out (hfin.2.mono fun f hf=> .inl (by simp[LogF,M1' hf])) fun _ hp=>hp) Hk1.out.size⟩
  have hc1:w2.heap[g]? =some (.cells #[.slice ia img.length ic,rv1,.bool true] 180 (0,0)):=(hb2.block g H1.out.lt).trans H1.out.hc
  have f0:=Bf hc1 0
  have c0:w2.cell? ⟨g,0,none⟩=some (.slice ia img.length ic):=Bo hc1 rfl
  clear hfin hown2 hc1 hb2
  go_wp2
  go_ret
  exact ⟨rfl,Hfin.out⟩
end Go.Proofs.YtipiofgdjbogiaaGreat
namespace Go.Un
open Go Go.Txt Go.RowKit Go.Bs Go.Cl Go.Rw
theorem RowF.cut {w:World} {base e k N c n:Nat} {a:Option Addr} {xs:List Value} (h:RowF w base e k (.slice a N c) N xs) (hn:n≤N):RowF w base e k (.slice a n n) n (xs.take (n*k)):=by
 have hl:=h.len
 have hlen:(xs.take (n*k)).length=n*k:=by rw[List.length_take,hl];exact Nat.min_eq_left (Nat.mul_le_mul_right _ hn)
 rcases h with ⟨_,⟨hv,h0⟩ | ⟨g,cap,cur,hv,hb,hg,hnc,hm,hs,ht⟩⟩ | ⟨r,cur,hv,h2,h3,h4,h5,h6⟩
 ·cases hv
  obtain rfl:n=0:=by omega
  exact .inl (by simpa using World.ownsRow_nil w base e k)
 ·cases hv
  refine .inr ⟨g,cur,rfl,hb,hg,by omega,hlen, ?_⟩
  rw[←ht,List.take_take,Nat.min_eq_left (Nat.mul_le_mul_right _ hn)]
 cases hv
 refine .inr ⟨r,cur,rfl,h2,h3,by omega,hlen, ?_⟩
 rw[←h6,List.take_take,Nat.min_eq_left (Nat.mul_le_mul_right _ hn)]
theorem Raw.low {F:List Nat} {w:World} {a:Option Addr} {N c k n:Nat} {xs:List Value} (h:Raw F k w (.slice a N c) N xs) (hn:n≤N) (hc:n≠c):
  Raw F k w (.slice (a.map fun x=>x.add (n*k)) (N - n) (c - n)) (N - n) (xs.drop (n*k)):=by
 have hm:c≤maxLen:=by obtain ⟨_,_,_,_,hv,_,h4,_⟩:=h;cases hv;exact h4
 by_cases e:n=N
 ·subst e
  rw[show xs.drop (n*k)=[] from List.drop_eq_nil_of_le (by rw[h.len];exact Nr _)]
  exact Raw.zero' F k w _ _ _ (Nat.sub_self _) (by omega)
 have h':=h
 obtain ⟨_,_,a',c',hv,_,_,h5⟩:=h'
 cases hv
 have h0:0<N:=by omega
 obtain ⟨b,off,rfl,_⟩:=h5 h0
 rw[Option.map_some,Addr.add_lit]
 exact Raw.drop h (m:=n) (by omega) rfl rfl rfl
theorem Raw.low' {F:List Nat} {w:World} {a:Option Addr} {N c k n:Nat} {xs:List Value} (h:Raw F k w (.slice a N c) N xs) (hn:n≤N) (hc:n=c):
  Raw F k w (.slice a (N - n) 0) (N - n) (xs.drop (n*k)):=by
 have h3:N≤c:=by obtain ⟨_,_,_,_,hv,h4,_⟩:=h;cases hv;exact h4
 obtain rfl:n=N:=by omega
 rw[show xs.drop (n*k)=[] from List.drop_eq_nil_of_le (by rw[h.len];exact Nr _)]
 exact Raw.zero' F k w _ _ _ (Nat.sub_self _) (Nat.zero_le _)
end Go.Un
namespace Go.Proofs.YtipiofgdjbogiaaGreat
open Go.Txt Go.RowKit Go.Bs Go.Cl Go.Rw Go.Un
def backE (len:Nat) (n:Int) (o:Bool):Int:=if o then (if n<0∨(len:Int)<n then 2 else 0) else 7
theorem back_no {base g:Nat} {iv rv:Value} {img:List UInt8} {rs:List (Rec×Value)} {o:Bool} (n:Int) (w:World) (h:LogAt w base g iv rv img rs o) (hno:backE rs.length n o≠0):
  Calls Tryz.prog 137 #[.pointer (some ⟨g,0,none⟩),.int .i64 n] w fun e w'=>e= .returned (.int .i64 (backE rs.length n o))∧w=w':=by
 obtain ⟨ra,rc,rfl⟩:=h.hr.slice
 have c1:w.cell? ⟨g,1,none⟩=some (.slice ra rs.length rc):=Bo h.hc rfl
 have H:=Hj h;clear h
 cases o
 ·go_enter Tryz.func137,Tryz.ntmps137
  go_wp2_with (go_at_call 136;refine (closed_any _ H.out).mono ?_;rintro e w' ⟨rfl,rfl⟩)
  go_ret
  exact ⟨rfl,rfl⟩
 by_cases h1:n<0
 ·have e2:backE rs.length n true=2:=by simp[backE,h1]
  rw[e2]
  clear hno e2
  go_enter Tryz.func137,Tryz.ntmps137
  go_wp2_with (go_at_call 136;refine (closed_any _ H.out).mono ?_;rintro e w' ⟨rfl,rfl⟩)
  go_ret
  exact ⟨rfl,rfl⟩
 have h2:(rs.length:Int)<n:=by
  by_cases h2:(rs.length:Int)<n
  ·exact h2
  exact absurd (by simp[backE,h1,h2]) hno
 have e2:backE rs.length n true=2:=by simp[backE,h2]
 rw[e2]
 clear hno e2
 have h1':0≤n:=by omega
 go_enter Tryz.func137,Tryz.ntmps137
 go_wp2_with (go_at_call 136;refine (closed_any _ H.out).mono ?_;rintro e w' ⟨rfl,rfl⟩)
 go_ret
 exact ⟨rfl,rfl⟩
theorem back_fin {w w2:World} {base g n rc:Nat} {iv v2:Value} {ra:Option Addr} {img img2:List UInt8} {rs:List (Rec×Value)} (h:LogAt w base g iv (.slice ra rs.length rc) img rs true) (hn:n≤rs.length)
  (hb2:Below w.heap.size w w2) (hown2:w2.ownsRow base 5 1 v2 img2.length (bytesV img2)) (hnew2:v2=iv∨∀r,v2.ownBlock=some r→w.heap.size≤r):
  StepP w base g iv (.slice ra rs.length rc) rs img2 ((rs.take n).map (·.1)) true ((w2.setCell ⟨g,0,none⟩ v2).setCell ⟨g,1,none⟩ (.slice ra n n)):=by
 have hF2:∀f,v2.ownBlock=some f→iv.ownBlock=some f∨w.heap.size≤f:=fun f hf=>by
  rcases hnew2 with rfl | h
  ·exact .inl hf
  exact .inr (h f hf)
 have him:=LogAt.image h hb2 hown2 hF2
 have hob:(Value.slice ra n n).ownBlock=(Value.slice ra rs.length rc).ownBlock:=by cases ra <;> rfl
 have hcut:=RowF.cut him.1.hr hn
 have htl:(rs.take n).length=n:=by rw[List.length_take];omega
 rw[flat_take encR encR_len] at hcut
 have hrc2:=LogAt.recs (ts:=rs.take n) (v3:= .slice ra n n) him.1 (Keep.refl _ _) (by rw[htl];exact hcut) (fun f hf=> .inl (by rw[←hob];exact hf)) (fun p hp=>him.1.hb p (List.mem_of_mem_take hp))
 refine ⟨v2,_,rs.take n,rfl,hrc2.1,((him.2.mono (F':=LogF g iv (.slice ra rs.length rc)) (fun f hf=> .inl (by simp[LogF,M1' hf]))).trans hrc2.2 (fun f hf=> .inl ?_)),fun f hf=> ?_, ?_⟩
 ·simp only[LogF,List.mem_cons,List.mem_append] at hf⊢
  rcases hf with hf | hf
  ·exact .inl hf
  exact .inr (.inr hf)
 ·simp only[LogF,List.mem_cons,List.mem_append] at hf⊢
  rw[hob] at hf
  rcases hf with hf | hf | hf
  ·exact .inl (.inl hf)
  ·rcases hF2 f (by simpa using hf) with h1 | h1
   ·exact .inl (.inr (.inl (by simpa using h1)))
   exact .inr h1
  exact .inl (.inr (.inr hf))
 refine (Fr.keep h (him.2.mono fun f hf=> .inl (by simp[LogF,M1' hf])) fun _ hp=>hp).trans (Fr.keep him.1 ((Keep.refl [g] _).setCell (by simp) _ |>.mono fun f hf=> .inl (by simp[LogF,M1' hf])) fun _ hp=>List.mem_of_mem_take hp) him.2.size
theorem back_yes {base g:Nat} {iv rv:Value} {img:List UInt8} {rs:List (Rec×Value)} (n:Nat) (w:World) (h:LogAt w base g iv rv img rs true) (hil:img.length≤24000) (hrl:rs.length≤1000) (hbase:base≤w.heap.size) (hn:n≤rs.length) (hok:∀p∈rs,p.1.ok=true):
  Calls Tryz.prog 137 #[.pointer (some ⟨g,0,none⟩),.int .i64 n] w fun e w'=>e= .returned (.int .i64 0)∧StepP w base g iv rv rs (takeAll img ((rs.drop n).map (·.1))) ((rs.take n).map (·.1)) true w':=by
 obtain ⟨ia,ic,hiv⟩:=Oq h.hi
 subst hiv
 obtain ⟨ra,rc,hrv⟩:=h.hr.slice
 subst hrv
 have c0:w.cell? ⟨g,0,none⟩=some (.slice ia img.length ic):=Bo h.hc rfl
 have c1:w.cell? ⟨g,1,none⟩=some (.slice ra rs.length rc):=Bo h.hc rfl
 have hlt:=h.lt
 have hraw:=RowF.raw (F:=[]) h.hr (encR_one h.hb) (fun f hf=>by cases hf)
 have hrc:rs.length≤rc:=by obtain ⟨_,_,a',c',hv,g3,_⟩:=hraw;cases hv;exact g3
 have hnrc:n≤rc:=by omega
 have H:=Hj h;clear h
 have Hraw:=Hj hraw;clear hraw
 have h2:(n:Int)≤rs.length:=by omega
 have Hok:=Hj hok;clear hok
 have hdl:(rs.drop n).length=rs.length - n:=List.length_drop
 have htl:(rs.take n).length=n:=by rw[List.length_take];omega
 have Hdl:=Hj hdl;clear hdl
 have Htl:=Hj htl;clear htl
 obtain ⟨im2,him2⟩:∃im2,takeAll img ((rs.drop n).map (·.1))=im2:=⟨_,rfl⟩
 obtain ⟨rt,hrt⟩:∃rt,(rs.take n).map (·.1)=rt:=⟨_,rfl⟩
 rw[him2,hrt]
 have Him2:=Hj him2;clear him2
 have Hrt:=Hj hrt;clear hrt
 rcases Decidable.em (n=rc) with hco | hco
 ·have hR:=Raw.low' Hraw.out hn hco
  rw[flat_drop encR encR_len,←Hdl.out] at hR
  have tk:=taken_own (F:=[]) (.slice ia img.length ic) _ img (rs.drop n) base w.drew (by rw[Hdl.out];omega) (by omega) H.out.hi hbase (Raw.drew hR) (fun p hp=>Hok.out p (List.mem_of_mem_drop hp)) (fun p hp=>Raw.to_nil (H.out.hb p (List.mem_of_mem_drop hp)))
  rw[Hdl.out,show rs.length - n=0 by omega] at tk
  rw[Him2.out] at tk
  have Tk:=Hj tk;clear tk hR
  subst hco
  go_enter Tryz.func137,Tryz.ntmps137
  go_wp2_with (go_at_call 136;refine (closed_any _ H.out).mono ?_;rintro e w' ⟨rfl,rfl⟩)
  refine wp_txt (by kernel_rfl) (by kernel_rfl) ?_
  go_wp2_with fail
  refine Tk.out.mono ?_
  rintro e w2 ⟨v2,rfl,hown2,hnew2,hb2⟩
  obtain ⟨a2,c2,rfl⟩:=Oq hown2
  have hb2:Below w.heap.size w w2:=(Br _ w).drew.trans hb2
  have hlt2:g<w2.heap.size:=Nat.lt_of_lt_of_le hlt hb2.size
  have hc2:w2.heap[g]? =some (.cells #[.slice ia img.length ic,.slice ra rs.length _,.bool true] 180 (0,0)):=(hb2.block g hlt).trans H.out.hc
  have c0:w2.cell? ⟨g,0,none⟩=some (.slice ia img.length ic):=Bo hc2 rfl
  have f0:=Bf hc2 0
  have c1:w2.cell? ⟨g,1,none⟩=some (.slice ra rs.length _):=Bo hc2 rfl
  have f1:=Bf hc2 1
  have hfin:=back_fin H.out hn hb2 hown2 hnew2
  rw[Hrt.out] at hfin
  have Hfin:=Hj hfin
  clear hfin hown2 hnew2 hc2 hb2
  go_wp2
  refine DrawPost.mk0 (by rfl) ?_
  go_wp2
  go_ret
  exact ⟨rfl,Hfin.out⟩
 have hR:=Raw.low Hraw.out hn hco
 rw[flat_drop encR encR_len,←Hdl.out] at hR
 have tk:=taken_own (F:=[]) (.slice ia img.length ic) _ img (rs.drop n) base w.drew (by rw[Hdl.out];omega) (by omega) H.out.hi hbase (Raw.drew hR) (fun p hp=>Hok.out p (List.mem_of_mem_drop hp)) (fun p hp=>Raw.to_nil (H.out.hb p (List.mem_of_mem_drop hp)))
 rw[Hdl.out] at tk
 rw[Him2.out] at tk
 have Tk:=Hj tk;clear tk hR
 have hco':¬rc=n:=fun e=>hco e.symm
 go_enter Tryz.func137,Tryz.ntmps137
 go_wp2_with (go_at_call 136;refine (closed_any _ H.out).mono ?_;rintro e w' ⟨rfl,rfl⟩)
 refine wp_txt (by kernel_rfl) (by kernel_rfl) ?_
 go_wp2_with fail
 refine Tk.out.mono ?_
 rintro e w2 ⟨v2,rfl,hown2,hnew2,hb2⟩
 obtain ⟨a2,c2,rfl⟩:=Oq hown2
 have hb2:Below w.heap.size w w2:=(Br _ w).drew.trans hb2
 have hlt2:g<w2.heap.size:=Nat.lt_of_lt_of_le hlt hb2.size
 have hc2:w2.heap[g]? =some (.cells #[.slice ia img.length ic,.slice ra rs.length _,.bool true] 180 (0,0)):=(hb2.block g hlt).trans H.out.hc
 have c0:w2.cell? ⟨g,0,none⟩=some (.slice ia img.length ic):=Bo hc2 rfl
 have f0:=Bf hc2 0
 have c1:w2.cell? ⟨g,1,none⟩=some (.slice ra rs.length _):=Bo hc2 rfl
 have f1:=Bf hc2 1
 have hfin:=back_fin H.out hn hb2 hown2 hnew2
 rw[Hrt.out] at hfin
 have Hfin:=Hj hfin
 clear hfin hown2 hnew2 hc2 hb2
 go_wp2
 refine DrawPost.mk0 (by rfl) ?_
 go_wp2
 go_ret
 exact ⟨rfl,Hfin.out⟩
open Go.Txt Go.RowKit Go.Bs Go.Cl Go.Rw Go.Un
theorem StepP.trans {w w1 w2:World} {base g:Nat} {iv rv iv1 rv1:Value} {img1 img2:List UInt8} {rs rs1:List (Rec×Value)} {rs2:List Rec} {o1 o2:Bool}
  (h1:LogAt w1 base g iv1 rv1 img1 rs1 o1) (hk:Keep (LogF g iv rv) w w1) (hF:∀f∈LogF g iv1 rv1,f∈LogF g iv rv∨w.heap.size≤f) (hfr:Fr w rs w1 rs1) (h2:StepP w1 base g iv1 rv1 rs1 img2 rs2 o2 w2):StepP w base g iv rv rs img2 rs2 o2 w2:=by
 obtain ⟨iv2,rv2,rs2,e,h3,hk2,hF2,hfr2⟩:=h2
 exact ⟨iv2,rv2,rs2,e,h3,hk.trans hk2 hF,fun f hf=>by
  rcases hF2 f hf with h | h
  ·exact hF f h
  exact .inr (Nat.le_trans hk.size h),hfr.trans hfr2 hk.size⟩
theorem rollback_any {base g:Nat} {iv rv:Value} {img:List UInt8} {rs:List (Rec×Value)} {o:Bool} (w:World) (h:LogAt w base g iv rv img rs o) (hil:img.length≤24000) (hrl:rs.length≤1000) (hbase:base≤w.heap.size) (hok:∀p∈rs,p.1.ok=true):
  Calls Tryz.prog 109 #[.pointer (some ⟨g,0,none⟩)] w fun e w'=>e= .returned (.int .i64 (if o then 0 else 7))∧StepP w base g iv rv rs (if o then takeAll img (rs.map (·.1)) else img) (if o then [] else rs.map (·.1)) false w':=by
 cases o
 ·have bk:=back_no 0 w h (by simp[backE])
  have Bk:=Hj bk;clear bk
  have H:=Hj h;clear h
  go_enter Tryz.func109,Tryz.ntmps109
  go_wp2_with fail
  refine Bk.out.mono ?_
  rintro e w' ⟨rfl,rfl⟩
  have e7:backE rs.length 0 false=7:=rfl
  rw[e7]
  clear e7
  go_wp2
  go_ret
  exact ⟨rfl,StepP.same H.out⟩
 have bk:=back_yes 0 w h hil hrl hbase (Nat.zero_le _) hok
 rw[List.drop_zero,List.take_zero] at bk
 have Bk:=Hj bk;clear bk
 clear h
 obtain ⟨im2,him2⟩:∃im2,takeAll img (rs.map (·.1))=im2:=⟨_,rfl⟩
 rw[him2] at Bk
 simp only[if_true]
 rw[him2]
 clear him2 hok
 go_enter Tryz.func109,Tryz.ntmps109
 go_wp2_with fail
 refine Bk.out.mono ?_
 rintro e w1 ⟨rfl,iv1,rv1,rs1,hrs,h1,hk1,hF1,hfr1⟩
 have cm:=commit_any w1 h1
 have Cm:=Hj cm;clear cm
 have H1:=Hj h1
 have Hk1:=Hj hk1
 have HF1:=Hj hF1
 have HFr1:=Hj hfr1
 clear h1 hk1 hF1 hrs hfr1
 go_wp2_with fail
 refine Cm.out.mono ?_
 rintro e w2 ⟨rfl,h2⟩
 have Hfin:=Hj (StepP.trans H1.out Hk1.out HF1.out HFr1.out h2)
 clear h2
 simp only[if_true]
 go_wp2
 go_ret
 exact ⟨rfl,Hfin.out⟩
end Go.Proofs.YtipiofgdjbogiaaGreat
