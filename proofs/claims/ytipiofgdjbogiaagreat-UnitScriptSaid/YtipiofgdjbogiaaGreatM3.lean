/- Images: pages -/
import Derived.Test.YtipiofgdjbogiaaGreatM2
import Derived.Test.YtipiofgdjbogiaaGreatM1
import Derived.Deep.CutRange
set_option maxRecDepth 100000
set_option maxHeartbeats 4000000
namespace Go.Im
open Go Go.Txt Go.RowKit Go.Bs Go.Cl Go.Rw
def cnt (n:Nat):Nat:=(n+127) / 128
def sz (n k:Nat):Nat:=min 128 (n - k*128)
def pg (b:List UInt8) (k:Nat):List UInt8:=(b.drop (k*128)).take 128
theorem pg_len (b:List UInt8) (k:Nat):(pg b k).length=sz b.length k:=by simp[pg,sz]
theorem pg_mid (b:List UInt8) (k:Nat):(b.take (k*128+sz b.length k)).drop (k*128)=pg b k:=by
 unfold pg
 rw[List.drop_take,Nat.add_sub_cancel_left]
 unfold sz
 rcases Nat.le_total 128 (b.length - k*128) with h | h
 ·rw[Nat.min_eq_left h]
 rw[Nat.min_eq_right h,List.take_of_length_le (by simp),List.take_of_length_le (by simp;omega)]
theorem sz_zero {n k:Nat}:sz n k=0↔cnt n≤k:=by unfold sz cnt;omega
theorem sz_pos {n k:Nat} (h:k<cnt n):0<sz n k∧k*128+sz n k≤n:=by unfold sz;unfold cnt at h;omega
end Go.Im
namespace Go.Proofs.YtipiofgdjbogiaaGreat
open Go.Txt Go.RowKit Go.Bs Go.Cl Go.Rw Go.Un Go.Im
theorem count_any (n:Nat) (w:World) (hn:n≤1000000):Calls Tryz.prog 100 #[.int .i64 n] w fun e w'=>e= .returned (.int .i64 (cnt n))∧w=w':=by
 by_cases h0:n=0
 ·subst h0
  go_enter Tryz.func100,Tryz.ntmps100
  go_wp2
  go_ret
  exact ⟨rfl,rfl⟩
 have h1:0<n:=by omega
 have h2:¬(n:Int)≤0:=by omega
 clear h0
 go_enter Tryz.func100,Tryz.ntmps100
 go_wp2
 go_ret
 exact ⟨ret_int (by unfold cnt;omega),rfl⟩
theorem size_any (n k:Nat) (w:World) (hn:n≤1000000) (hk:k≤1000000):Calls Tryz.prog 150 #[.int .i64 n,.int .i64 k] w fun e w'=>e= .returned (.int .i64 (sz n k))∧w=w':=by
 have hk0:¬(k:Int)<0:=by omega
 by_cases hc:k<cnt n
 ·have hc':¬cnt n≤k:=by omega
  have hp:=sz_pos hc
  have hs:(sz n k:Int)=if (n:Int) - k*128<128 then (n:Int) - k*128 else 128:=by unfold sz;split <;> omega
  have Hs:=Hj hs
  have hkn:(k:Int)*128≤n:=by omega
  clear hp hs
  by_cases hm:(n:Int) - k*128<128
  all_goals
   go_enter Tryz.func150,Tryz.ntmps150
   go_wp2_with (go_at_call 100;refine (count_any _ _ hn).mono ?_;rintro e w' ⟨rfl,rfl⟩)
   go_ret
   exact ⟨ret_int (by rw[Hs.out];first | rw[if_pos hm] | rw[if_neg (by omega)]),rfl⟩
 have hz:sz n k=0:=sz_zero.2 (by omega)
 have hc':cnt n≤k:=by omega
 rw[hz];clear hz hc
 go_enter Tryz.func150,Tryz.ntmps150
 go_wp2_with (go_at_call 100;refine (count_any _ _ hn).mono ?_;rintro e w' ⟨rfl,rfl⟩)
 go_ret
 exact ⟨rfl,rfl⟩
theorem page_any {F:List Nat} (bv:Value) (b:List UInt8) (k:Nat) (w:World) (hn:b.length≤1000000) (hk:k≤1000000) (hB:Bytes F w bv b):
  Calls Tryz.prog 142 #[bv,.int .i64 k] w fun e w'=>∃v,e= .returned v∧Bytes (old w) w' v (pg b k)∧Below w.heap.size w w':=by
 obtain ⟨a,c,rfl⟩:=Rs hB
 have hl:=pg_len b k
 by_cases hc:k<cnt b.length
 ·obtain ⟨hp,hs⟩:=sz_pos hc
  obtain ⟨ta,hsl,hT⟩:=Raw.mid hB Tryz.underlying22 (show (Tryz.prog.info? 5).map (·.size)=some 1 by kernel_rfl) (lo:=k*128) (hi:=k*128+sz b.length k) (by omega) hs
  rw[Nat.mul_one,Nat.mul_one,bytesV_take,bytesV_drop,pg_mid,Nat.add_sub_cancel_left] at hT
  rw[Nat.add_sub_cancel_left] at hsl
  obtain ⟨m,hm⟩:∃m,m=sz b.length k:=⟨_,rfl⟩
  rw[←hm] at hT hsl hp hs hl
  have hml:m≤1000000:=by omega
  have hsl:∀wx,(Instr.slice 22 (.slice a b.length c) (some (.int .i64 ((k:Int)*128))) (some (.int .i64 ((k:Int)*128+m))) none).run Tryz.prog wx= .ok (.slice ta m (c - k*128)) wx:=fun wx=>by
   have:=hsl wx;rw[Int.natCast_add,Int.natCast_mul] at this;exact this
  have hne:(m==0)=false:=by simp;omega
  have hne':((m:Int)==0)=false:=by simp;omega
  have HT:=Hj hT;have Hl:=Hj hl;have Hm:=Hj hm
  have hkb:(k:Int)*128+m≤b.length:=by omega
  clear hT hl hB hc hm
  go_enter Tryz.func142,Tryz.ntmps142
  go_wp2_with fail
  refine (size_any _ _ _ hn hk).mono ?_
  rw[←Hm.out]
  rintro e w' ⟨rfl,rfl⟩
  go_wp2_with fail
  refine (clone33 _ hml HT.out).mono ?_
  rintro e w1 ⟨v1,rfl,hown,hb⟩
  have hB1:Bytes (old w) w1 v1 (pg b k):=Bytes.row hown Hl.out.symm old_lt
  have HB1:=Hj hB1
  clear hown hB1
  go_wp2
  go_ret
  exact ⟨_,rfl,HB1.out,hb⟩
 have hz:sz b.length k=0:=sz_zero.2 (by omega)
 have hnil:pg b k=[]:=List.eq_nil_of_length_eq_zero (by rw[hl,hz])
 rw[hnil]
 have Hz:=Hj hz
 clear hnil hl hB hc hz
 go_enter Tryz.func142,Tryz.ntmps142
 go_wp2_with fail
 refine (size_any _ _ _ hn hk).mono ?_
 rw[Hz.out]
 rintro e w' ⟨rfl,rfl⟩
 go_wp2
 go_ret
 exact ⟨_,rfl,Raw.empty _ _ _,Br _ _⟩
theorem strOf_eq (a b:List UInt8):((strOf a).toList==(strOf b).toList)=decide (a=b):=by
 have e:∀l:List UInt8,(strOf l).toList=l:=fun l=>ByteArray.toList_mk l
 rw[e,e]
 by_cases h:a=b
 ·subst h;simp
 simp[h]
theorem equal_any {F G:List Nat} (v1 v2:Value) (a b:List UInt8) (r:Bool) (w:World) (hr:decide (a=b)=r) (h1:Bytes F w v1 a) (h2:Bytes G w v2 b):
  Calls Tryz.prog 106 #[v1,v2] w fun e w'=>e= .returned (.bool r)∧w=w':=by
 have k1:=run_str h1 22 5 9 Tryz.underlying22 Tryz.underlying5 Tryz.underlying9
 have k2:=run_str h2 22 5 9 Tryz.underlying22 Tryz.underlying5 Tryz.underlying9
 obtain ⟨a1,c1,rfl⟩:=Rs h1
 obtain ⟨a2,c2,rfl⟩:=Rs h2
 have hs:=strOf_eq a b
 rw[hr] at hs
 clear h1 h2 hr
 go_enter Tryz.func106,Tryz.ntmps106
 go_wp2
 go_ret
 exact ⟨rfl,rfl⟩
end Go.Proofs.YtipiofgdjbogiaaGreat
namespace Go.Im
open Go Go.Txt Go.RowKit Go.Bs Go.Cl Go.Rw
def difK (a b:List UInt8) (k:Nat):List (Nat×List UInt8):=((List.range k).filter fun i=>decide (pg a i≠pg b i)).map fun i=>(i,pg b i)
def dif (a b:List UInt8):List (Nat×List UInt8):=difK a b (cnt b.length)
theorem difK_succ (a b:List UInt8) (k:Nat):difK a b (k+1)=if pg a k=pg b k then difK a b k else difK a b k++[(k,pg b k)]:=by
 unfold difK
 rw[List.range_succ,List.filter_append]
 by_cases h:pg a k=pg b k <;> simp[h]
theorem difK_len (a b:List UInt8) (k:Nat):(difK a b k).length≤k:=by
 unfold difK;rw[List.length_map];exact Nat.le_trans (List.length_filter_le _ _) (by simp)
def pgA (a:Option Addr) (k s:Nat):Option Addr:=if s=0 then a else a.map fun x=>x.add (k*128*1)
def fr (n k:Nat):List (Fin n):=(List.finRange n).take k
theorem fr_succ {n k:Nat} (h:k<n):fr n (k+1)=fr n k++[⟨k,h⟩]:=by
 unfold fr
 rw[List.take_succ_eq_append_getElem (by simpa using h)]
 simp
theorem fr_len {n k:Nat} (h:k≤n):(fr n k).length=k:=by simp[fr];omega
theorem fr_all (n:Nat):fr n n=List.finRange n:=by unfold fr;rw[List.take_of_length_le (by simp)]
def encC (p:(Nat×List UInt8)×Value):List Value:=[.int .i64 p.1.1,p.2]
theorem encC_len (p:(Nat×List UInt8)×Value):(encC p).length=2:=rfl
end Go.Im
namespace Go.Proofs.YtipiofgdjbogiaaGreat
open Go.Txt Go.RowKit Go.Bs Go.Cl Go.Rw Go.Un Go.Im
theorem el64:Rw.Elem Tryz.prog 134 188 2 32 (.agg #[.int .i64 0,.slice none 0 0]):=⟨Tryz.underlying134,by kernel_rfl,rfl,by decide⟩
theorem pages_any (a:Option Addr) (len cap:Nat) (w:World):
  Calls Tryz.prog 141 #[.slice a len cap] w fun e w'=>e= .returned (.func (.func 149) #[] #[.pointer (some ⟨w.heap.size,0,none⟩)])∧w'=w.alloc (.cells #[.slice a len cap] 22):=by
 go_enter Tryz.func141,Tryz.ntmps141
 go_wp2
 go_ret
 exact ⟨rfl,rfl⟩
theorem pg_slice {b:List UInt8} {F:List Nat} {a:Option Addr} {cap k:Nat} {w:World} (h:Bytes F w (.slice a b.length cap) b) (hk:k<cnt b.length):
  Bytes F w (.slice (pgA a k (sz b.length k)) (sz b.length k) (sz b.length k)) (pg b k)∧∀wx,(Instr.slice 22 (.slice a b.length cap) (some (.int .i64 ((k:Int)*128))) (some (.int .i64 ((k:Int)*128+(sz b.length k:Nat)))) (some (.int .i64 ((k:Int)*128+(sz b.length k:Nat))))).run Tryz.prog wx= .ok (.slice (pgA a k (sz b.length k)) (sz b.length k) (sz b.length k)) wx:=by
 obtain ⟨hp,hs⟩:=sz_pos hk
 have hcap:b.length≤cap:=by obtain ⟨_,_,_,_,e,hc,_⟩:=h;cases e;exact hc
 have h1:=Raw.sliced (lo:=k*128) (hi:=k*128+sz b.length k) (m:=k*128+sz b.length k) h (by omega) hs (Nr _) (by omega)
 have he:Go.sliced a (k*128) (k*128+sz b.length k) (k*128+sz b.length k) 1= .slice (pgA a k (sz b.length k)) (sz b.length k) (sz b.length k):=by
  unfold Go.sliced pgA
  rw[Nat.add_sub_cancel_left]
  by_cases h0:sz b.length k=0
  ·omega
  rw[if_neg (by omega),if_neg h0]
 rw[he,Nat.mul_one,Nat.mul_one,bytesV_take,bytesV_drop,pg_mid,Nat.add_sub_cancel_left] at h1
 refine ⟨Bytes.mk h1 (pg_len b k).symm,fun wx=> ?_⟩
 have hel:Tryz.prog.elem 22=5:=by simp[Program.elem,Tryz.underlying22]
 have hr:=run_slice_lhm (P:=Tryz.prog) wx 22 a b.length cap (by rw[Tryz.underlying22,hel]) .i64 .i64 .i64 ((k:Int)*128) ((k:Int)*128+(sz b.length k:Nat)) ((k:Int)*128+(sz b.length k:Nat)) (by omega) (by omega) (by omega) (by omega)
 rw[hr,hel]
 have e1:((k:Int)*128).toNat=k*128:=by omega
 have e2:((k:Int)*128+(sz b.length k:Nat)).toNat=k*128+sz b.length k:=by omega
 rw[e1,e2]
 cases hi:Tryz.prog.info? 5 with
 | none=>
      have:(Tryz.prog.info? 5).map (·.size)=some 1:=by kernel_rfl
      rw[hi] at this;simp at this
 | some i=>
  have:(Tryz.prog.info? 5).map (·.size)=some 1:=by kernel_rfl
  rw[hi] at this;simp at this
  rw[←he]
  simp[sizeOf,typeInfo,hi,this]
attribute [local go_sem] Oper.semAt_some
theorem pages1_in (n:Nat) (hn:1≤n) (l Bs n₀ cap:Nat) (a:Option Addr) (b:List UInt8) (hlen:b.length≤1000000) (w0:World) {F:List Nat} (hB:Bytes F w0 (.slice a b.length cap) b) (J Jx:List (Fin (cnt b.length))→World→Prop)
  (hY:∀(pre:List (Fin (cnt b.length))) (x:Fin (cnt b.length)) (W:World),J pre W→pre.length<cnt b.length→YieldAt Fence.wide (n - 1) Tryz.prog l #[.int .i64 ((x.val:Nat):Int),.slice (pgA a x.val (sz b.length x.val)) (sz b.length x.val) (sz b.length x.val)] W fun e W'=>
   (e= .returned (.bool true)∧J (pre++[x]) W'∧KB n₀ Bs W W')∨(e= .returned (.bool false)∧Jx (pre++[x]) W'))
  (W:World) (hBs:W.cell? ⟨Bs,0,none⟩=some (.slice a b.length cap)) (h0:J [] W):
  CallsIn Fence.wide n Tryz.prog 149 #[.func (.yield l) #[] #[],.pointer (some ⟨Bs,0,none⟩)] W fun e W'=>(∃v,e= .returned v)∧
   ((∃ys,ys=List.finRange (cnt b.length)∧J ys W')∨(∃pre,True∧Jx pre W')):=by
 have hcl:cnt b.length≤1000000:=by unfold cnt;omega
 refine callsIn_of_wp Tryz.func149 rfl trivial ?_ rfl
 simp only[Tryz.ntmps149,List.size_toArray,List.length_cons,List.length_nil,Nat.reduceAdd,Nat.reduceSub,Array.replicate_succ,Array.replicate_zero,List.push_toArray,List.append_toArray,List.nil_append,List.cons_append]
 have HB:=Hj hB;clear hB
 gi_wp2_with fail
 refine ⟨trivial, ?_⟩
 refine (callsIn_wide.2 (count_any _ _ hlen)).mono ?_
 rintro e w' ⟨rfl,rfl⟩
 gi_wp2
 gi_loopw [9] (fun i wr=>∃k:Nat,k≤cnt b.length∧i= .int .i64 k∧J (fr (cnt b.length) k) wr∧KB n₀ Bs W wr) (fun i _=>cnt b.length - (intOf i).toNat)
 case atStart=>exact ⟨0,Nat.zero_le _,rfl,by simpa[fr] using h0,KB.refl _ _ _⟩
 case round=>
  obtain ⟨k,hk,rfl,hJs,hnx⟩:=hrel
  by_cases hlt:k<cnt b.length
  ·have hBs':=hnx.2.trans hBs
   obtain ⟨hsp,hsl⟩:=pg_slice HB.out hlt
   obtain ⟨hp,hs⟩:=sz_pos hlt
   obtain ⟨fn,tmps,assign,body,hy,hR⟩:=hY _ ⟨k,hlt⟩ wr hJs (by rw[fr_len hk];exact hlt)
   have hsucc:=fr_succ hlt
   have Hsucc:=Hj hsucc
   obtain ⟨m,hm⟩:∃m,m=sz b.length k:=⟨_,rfl⟩
   have hszr:=size_any b.length k wr hlen (by omega)
   simp only at hy
   rw[←hm] at hsl hp hs hy hszr
   have Hm:=Hj hm
   have HSz:=Hj hszr
   have hkb:(k:Int)*128+m≤b.length:=by omega
   clear hsp hsucc hm hszr hBs h0
   gi_wp2_with fail
   refine ⟨trivial, ?_⟩
   refine (callsIn_wide.2 HSz.out).mono ?_
   rintro e w' ⟨rfl,rfl⟩
   gi_wp2
   refine hR.mono ?_
   rintro e W3 (⟨rfl,hJ3,hk3⟩ | ⟨rfl,hJx3⟩)
   ·gi_wp2
    go_roundw
    case rel=>exact ⟨k+1,by omega,by go_num,by rw[Hsucc.out];exact hJ3,hnx.trans hk3⟩
    case measure=>simp[intOf];omega
   gi_wp2
   refine bodyPost_ret (results_none rfl _ _ _) rfl ?_
   exact ⟨⟨_,rfl⟩,.inr ⟨_,trivial,hJx3⟩⟩
  obtain rfl:k=cnt b.length:=by omega
  gi_wp2
  go_end0
  exact ⟨⟨_,rfl⟩,.inl ⟨_,rfl,by rw[←fr_all];exact hJs⟩⟩
end Go.Proofs.YtipiofgdjbogiaaGreat
namespace Go.Im
open Go Go.Txt Go.RowKit Go.Bs Go.Cl Go.Rw Go.Un
theorem takeAll_snoc (b:List UInt8) (l:List Rec) (r:Rec):takeAll b (l++[r])=takeAll (takeR b r) l:=by simp[takeAll]
def Undoes (r:Rec) (b' b:List UInt8):Prop:=r.ok=true∧takeR b' r=b
theorem undoes_write {img:List UInt8} {m:Nat} {d:List UInt8} (hl:img.length≤24000) (h:m+d.length≤img.length):
  Undoes ⟨m,img.length,(img.take (m+d.length)).drop m⟩ (Un.written img m d) img:=by
 have hold:((img.take (m+d.length)).drop m).length=d.length:=by simp;omega
 have hok:(⟨m,img.length,(img.take (m+d.length)).drop m⟩:Rec).ok=true:=by rw[Rec.ok_iff];simp only[hold];omega
 refine ⟨hok,List.ext_getElem? fun p=> ?_⟩
 show (Un.written (sized (Un.written img m d) (img.length:Int).toNat) (m:Int).toNat _)[p]? =_
 rw[Int.toNat_natCast,Int.toNat_natCast,written_get (by rw[sized_len,hold];omega),sized_get,hold]
 by_cases h1:m≤p∧p<m+d.length
 ·rw[if_pos h1,List.getElem?_drop,List.getElem?_take,if_pos (by omega)]
  congr 1;omega
 rw[if_neg h1]
 by_cases h2:img.length≤p
 ·rw[if_pos h2,List.getElem?_eq_none h2]
 rw[if_neg h2,written_get h,if_neg h1]
 rw[List.getElem?_eq_getElem (by omega)]
 rfl
theorem undoes_resize {img:List UInt8} {n:Nat} (hl:img.length≤24000):Undoes ⟨((min n img.length:Nat):Int),img.length,img.drop (min n img.length)⟩ (sized img n) img:=by
 have hold:(img.drop (min n img.length)).length=img.length - min n img.length:=by simp
 have hok:(⟨((min n img.length:Nat):Int),img.length,img.drop (min n img.length)⟩:Rec).ok=true:=by rw[Rec.ok_iff];simp only[hold];omega
 refine ⟨hok,List.ext_getElem? fun p=> ?_⟩
 show (Un.written (sized (sized img n) (img.length:Int).toNat) ((min n img.length:Nat):Int).toNat _)[p]? =_
 rw[Int.toNat_natCast,Int.toNat_natCast,written_get (by rw[sized_len,hold];omega),sized_get,hold,sized_get]
 by_cases h1:min n img.length≤p∧p<min n img.length+(img.length - min n img.length)
 ·rw[if_pos h1,List.getElem?_drop]
  congr 1;omega
 rw[if_neg h1]
 by_cases h2:img.length≤p
 ·rw[if_pos h2,List.getElem?_eq_none h2]
 rw[if_neg h2,if_neg (by omega),List.getElem?_eq_getElem (by omega)]
 rfl
def rzb (a b:List UInt8):Bool:=decide (b.length≠a.length)
def rzn (a b:List UInt8):Nat:=if b.length≠a.length then 1 else 0
def tot (a b:List UInt8):Nat:=(dif a b).length+rzn a b
def wrAll (x:List UInt8) (l:List (Nat×List UInt8)):List UInt8:=l.foldl (fun x c=>Un.written x (c.1*128) c.2) x
def wk (a b:List UInt8) (k:Nat):List UInt8:=if k<rzn a b then a else wrAll (sized a b.length) ((dif a b).take (k - rzn a b))
theorem sized_same (a:List UInt8):sized a a.length=a:=by simp[sized]
theorem wk_zero (a b:List UInt8):wk a b 0=a:=by
 unfold wk rzn
 by_cases h:b.length≠a.length
 ·rw[if_pos h,if_pos (by omega)]
 have h':b.length=a.length:=by omega
 rw[if_neg h,if_neg (by omega)]
 simp[wrAll,h',sized_same]
theorem dif_mem {a b:List UInt8} {c:Nat×List UInt8} (h:c∈dif a b):c.1<cnt b.length∧c.2=pg b c.1:=by
 unfold dif difK at h
 simp only[List.mem_map,List.mem_filter,List.mem_range] at h
 obtain ⟨i,⟨h1,_⟩,rfl⟩:=h
 exact ⟨h1,rfl⟩
theorem dif_fit {a b:List UInt8} {c:Nat×List UInt8} (h:c∈dif a b):c.1*128+c.2.length≤b.length:=by
 obtain ⟨h1,h2⟩:=dif_mem h
 rw[h2,pg_len]
 exact (sz_pos h1).2
theorem dif_len (a b:List UInt8):(dif a b).length≤cnt b.length:=difK_len a b _
theorem wrAll_len {l:List (Nat×List UInt8)}:∀{x:List UInt8},(∀c∈l,c.1*128+c.2.length≤x.length)→(wrAll x l).length=x.length:=by
 induction l with
 | nil=>intro x _;rfl
 | cons c l ih=>
  intro x h
  have h0:=written_len (h c (by simp))
  show (wrAll (Un.written x (c.1*128) c.2) l).length=_
  rw[ih (fun d hd=>by rw[h0];exact h d (by simp[hd])),h0]
theorem wk_len (a b:List UInt8) (k:Nat):(wk a b k).length=if k<rzn a b then a.length else b.length:=by
 unfold wk
 split
 ·rfl
 rw[wrAll_len (fun c hc=>by rw[sized_len];exact dif_fit (List.mem_of_mem_take hc)),sized_len]
theorem wk_le {a b:List UInt8} (ha:a.length≤24000) (hb:b.length≤24000) (k:Nat):(wk a b k).length≤24000:=by rw[wk_len];split <;> assumption
theorem wk_one {a b:List UInt8} (h:rzb a b=true):wk a b 1=sized (wk a b 0) b.length:=by
 have h':b.length≠a.length:=by simpa[rzb] using h
 have e:rzn a b=1:=by rw[rzn,if_pos h']
 rw[wk_zero]
 unfold wk
 rw[e,if_neg (by omega)]
 simp[wrAll]
theorem rzn_of {a b:List UInt8}:rzn a b=(rzb a b).toNat:=by
 unfold rzn rzb
 by_cases h:b.length≠a.length <;> simp[h]
theorem wk_step {a b:List UInt8} {k:Nat} (h:rzn a b≤k) {c:Nat×List UInt8} (hc:(dif a b)[k - rzn a b]? =some c):wk a b (k+1)=Un.written (wk a b k) (c.1*128) c.2∧c.1*128+c.2.length≤(wk a b k).length:=by
 have hm:=List.mem_of_getElem? hc
 refine ⟨?_,by rw[wk_len,if_neg (by omega)];exact dif_fit hm⟩
 unfold wk
 rw[if_neg (by omega),if_neg (by omega),show k+1 - rzn a b=(k - rzn a b)+1 by omega,List.take_add_one,hc]
 simp[wrAll]
theorem pg_get (b:List UInt8) (k q:Nat):(pg b k)[q]? =if q<128 then b[k*128+q]? else none:=by
 unfold pg
 rw[List.getElem?_take]
 split
 ·rw[List.getElem?_drop]
 rfl
theorem pg_ext {x y:List UInt8} (h:∀k,pg x k=pg y k):x=y:=by
 refine List.ext_getElem? fun p=> ?_
 have:=congrArg (fun l=>l[p%128]?) (h (p / 128))
 simp only[pg_get,if_pos (Nat.mod_lt p (show 0<128 by omega))] at this
 rw[show p / 128*128+p%128=p by omega] at this
 exact this
theorem wrAll_snoc (x:List UInt8) (l:List (Nat×List UInt8)) (c:Nat×List UInt8):wrAll x (l++[c])=Un.written (wrAll x l) (c.1*128) c.2:=by simp[wrAll]
theorem wrAll_pg {a b x:List UInt8} (hx:x.length=b.length) (m i:Nat):∀n,n≤cnt b.length→pg (wrAll x ((difK a b n).take m)) i=if i<n∧pg a i≠pg b i∧(difK a b i).length<m then pg b i else pg x i
 | 0,_=>by simp[difK,wrAll]
 | n+1,hn=>by
  have ih:=wrAll_pg (a:=a) hx m i n (by omega)
  rw[difK_succ]
  by_cases hd:pg a n=pg b n
  ·rw[if_pos hd,ih]
   by_cases hin:i=n
   ·subst hin
    rw[if_neg (by omega),if_neg (by simp[hd])]
   congr 1
   simp only[show i<n↔i<n+1 by omega]
  rw[if_neg hd]
  by_cases hm:m≤(difK a b n).length
  ·rw[List.take_append_of_le_length hm,ih]
   by_cases hin:i=n
   ·subst hin
    rw[if_neg (by omega),if_neg (by omega)]
   congr 1
   simp only[show i<n↔i<n+1 by omega]
  have ht:(difK a b n++[(n,pg b n)]).take m=difK a b n++[(n,pg b n)]:=List.take_of_length_le (by simp;omega)
  rw[ht,wrAll_snoc]
  have ht2:(difK a b n).take m=difK a b n:=List.take_of_length_le (by omega)
  rw[ht2] at ih
  have hfit:∀c∈difK a b n,c.1*128+c.2.length≤b.length:=fun c hc=>by
   unfold difK at hc
   simp only[List.mem_map,List.mem_filter,List.mem_range] at hc
   obtain ⟨j,⟨h1,_⟩,rfl⟩:=hc
   show j*128+(pg b j).length≤b.length
   rw[pg_len];exact (sz_pos (by omega)).2
  have hwl:(wrAll x (difK a b n)).length=b.length:=by rw[wrAll_len (fun c hc=>by rw[hx];exact hfit c hc),hx]
  have hpl:=pg_len b n
  have hsp:=sz_pos (show n<cnt b.length by omega)
  have hfit2:n*128+(pg b n).length≤(wrAll x (difK a b n)).length:=by rw[hwl,hpl];exact hsp.2
  refine List.ext_getElem? fun q=> ?_
  rw[pg_get]
  by_cases hq:q<128
  ·rw[if_pos hq]
   show (Un.written (wrAll x (difK a b n)) (n*128) (pg b n))[i*128+q]? =_
   rw[written_get hfit2]
   by_cases hin:i=n
   ·subst hin
    rw[if_pos (show i<i+1∧pg a i≠pg b i∧(difK a b i).length<m from ⟨by omega,hd,by omega⟩)]
    by_cases hqs:q<(pg b i).length
    ·rw[if_pos (by omega),Nat.add_sub_cancel_left]
    rw[if_neg (by omega),List.getElem?_eq_none (show (pg b i).length≤q by omega)]
    apply List.getElem?_eq_none
    rw[hwl]
    rw[hpl] at hqs
    unfold sz at hqs
    omega
   have hne:¬(n*128≤i*128+q∧i*128+q<n*128+(pg b n).length):=by
    have:(pg b n).length≤128:=by rw[hpl];unfold sz;omega
    omega
   rw[if_neg hne]
   have:=congrArg (fun l=>l[q]?) ih
   simp only[pg_get,if_pos hq] at this
   rw[this]
   simp only[show i<n↔i<n+1 by omega]
  rw[if_neg hq]
  symm
  apply List.getElem?_eq_none
  split
  ·rw[pg_len];unfold sz;omega
  rw[pg_len];unfold sz;omega
theorem pg_sized {a b:List UInt8} {i:Nat} (hi:i<cnt b.length) (h:sz a.length i=sz b.length i):pg (sized a b.length) i=pg a i:=by
 refine List.ext_getElem? fun q=> ?_
 rw[pg_get,pg_get]
 split
 ·rename_i hq
  rw[sized_get]
  have hp:=sz_pos hi
  by_cases hlt:i*128+q<a.length
  ·have:¬b.length≤i*128+q:=by unfold sz at h;omega
   rw[if_neg this,List.getElem?_eq_getElem hlt];rfl
  have:b.length≤i*128+q:=by unfold sz at h;unfold sz at hp;omega
  rw[if_pos this,List.getElem?_eq_none (by omega)]
 rfl
theorem pg_none {b:List UInt8} {i:Nat} (h:cnt b.length≤i):pg b i=[]:=List.eq_nil_of_length_eq_zero (by rw[pg_len];exact sz_zero.2 h)
theorem wk_pg {a b:List UInt8} {k i:Nat} (hk:rzn a b≤k) (hi:i<cnt b.length):
  (pg a i=pg b i→pg (wk a b k) i=pg b i)∧
  (pg a i≠pg b i→(difK a b i).length+1+rzn a b≤k→pg (wk a b k) i=pg b i)∧
  (pg a i≠pg b i→k<(difK a b i).length+1+rzn a b→(pg a i).length=(pg b i).length→pg (wk a b k) i=pg a i):=by
 have e:wk a b k=wrAll (sized a b.length) ((difK a b (cnt b.length)).take (k - rzn a b)):=by unfold wk dif;rw[if_neg (by omega)]
 have h:=wrAll_pg (a:=a) (b:=b) (x:=sized a b.length) (sized_len a b.length) (k - rzn a b) i (cnt b.length) (Nr _)
 rw[e,h]
 refine ⟨fun h1=> ?_,fun h1 h2=> ?_,fun h1 h2 h3=> ?_⟩
 ·rw[if_neg (by simp[h1]),pg_sized hi (by rw[←pg_len,←pg_len,h1]),h1]
 ·rw[if_pos ⟨hi,h1,by omega⟩]
 rw[if_neg (by omega),pg_sized hi (by rw[←pg_len,←pg_len,h3])]
theorem wk_all (a b:List UInt8):wk a b (tot a b)=b:=by
 have hk:rzn a b≤tot a b:=by unfold tot;omega
 refine pg_ext fun i=> ?_
 by_cases hi:i<cnt b.length
 ·obtain ⟨h1,h2,_⟩:=wk_pg hk hi
  by_cases hd:pg a i=pg b i
  ·exact h1 hd
  refine h2 hd ?_
  have hmono:∀n m,n≤m→(difK a b n).length≤(difK a b m).length:=fun n m hnm=>by
   induction m with
   | zero=>
        obtain rfl:n=0:=by omega
        exact Nr _
   | succ m ih=>
    by_cases e:n=m+1
    ·subst e;exact Nr _
    refine Nat.le_trans (ih (by omega)) ?_
    rw[difK_succ];split <;> simp
  have h3:=hmono (i+1) (cnt b.length) hi
  rw[difK_succ,if_neg hd,List.length_append] at h3
  unfold tot dif
  simp at h3
  omega
 have hl:(wk a b (tot a b)).length=b.length:=by rw[wk_len,if_neg (by omega)]
 have hi':cnt b.length≤i:=by omega
 rw[pg_none (b:=b) hi',pg_none (b:=wk a b (tot a b)) (by rw[hl];exact hi')]
theorem tot_le (a b:List UInt8):tot a b≤cnt b.length+1:=by unfold tot rzn;have:=dif_len a b;split <;> omega
open Go Go.Txt Go.RowKit Go.Bs Go.Cl Go.Rw Go.Un
def ChR (F:List Nat) (w:World) (v:Value) (l:List (Nat×List UInt8)):Prop:=∃cs:List ((Nat×List UInt8)×Value),cs.map (·.1)=l∧Raw F 2 w v cs.length (cs.flatMap encC)∧∀p∈cs,Bytes F w p.2 p.1.2
def difP (a b:List UInt8) {n:Nat} (pre:List (Fin n)):List (Nat×List UInt8):=(pre.filter fun i=>decide (pg a i.val≠pg b i.val)).map fun i=>(i.val,pg b i.val)
theorem difP_snoc (a b:List UInt8) {n:Nat} (pre:List (Fin n)) (x:Fin n):difP a b (pre++[x])=if pg a x.val=pg b x.val then difP a b pre else difP a b pre++[(x.val,pg b x.val)]:=by
 unfold difP
 rw[List.filter_append]
 by_cases h:pg a x.val=pg b x.val <;> simp[h]
theorem difP_fr (a b:List UInt8) (n:Nat):∀k,k≤n→difP a b (fr n k)=difK a b k
 | 0,_=>by simp[fr,difP,difK]
 | k+1,h=>by rw[fr_succ (by omega),difP_snoc,difK_succ,difP_fr a b n k (by omega)]
theorem difP_all (a b:List UInt8):difP a b (List.finRange (cnt b.length))=dif a b:=by rw[←fr_all,difP_fr _ _ _ _ (Nr _)];rfl
theorem difP_len (a b:List UInt8) {n:Nat} (pre:List (Fin n)):(difP a b pre).length≤pre.length:=by unfold difP;rw[List.length_map];exact List.length_filter_le _ _
end Go.Im
namespace Go.Proofs.YtipiofgdjbogiaaGreat
open Go.Txt Go.RowKit Go.Bs Go.Cl Go.Rw Go.Un Go.Im
theorem raw_grown {W W':World} {F:List Nat} {k n:Nat} {v:Value} {xs:List Value} {row:Option Nat} (h:Raw F k W v n xs) (hk:0<k) (hg:W.grownBy W' row) (hr:∀r,row=some r→∃o:Obj,W.heap[r]? =some o∧o.isCells=false):Raw F k W' v n xs:=by
 obtain ⟨h1,h2,a,c,rfl,h3,h4,h5⟩:=h
 refine ⟨h1,h2,a,c,rfl,h3,h4,fun h0=> ?_⟩
 obtain ⟨b,off,rfl,q1,q2,q3⟩:=h5 h0
 have hx:0<xs.length:=by rw[h1];exact Nat.mul_pos h0 hk
 obtain ⟨cc,e,f,hc⟩:=cells_of (q3 0 (xs[0]'hx) (by simp))
 have hne:some b≠row:=fun e'=>by
  obtain ⟨o,ho,hn⟩:=hr b e'.symm
  rw[hc] at ho;cases ho;simp[Obj.isCells] at hn
 exact ⟨b,off,rfl,Nat.lt_of_lt_of_le q1 hg.size,q2,fun j u hj=>(World.cell?_of_block (w:=W) (hg.block b q1 hne)).trans (q3 j u hj)⟩
theorem heap_grown {W W':World} {g:Nat} {cs:Array Value} {t:TypeId} {fz:Nat×Nat} {row:Option Nat} (h:W.heap[g]? =some (.cells cs t fz)) (hg:W.grownBy W' row) (hr:∀r,row=some r→∃o:Obj,W.heap[r]? =some o∧o.isCells=false):W'.heap[g]? =some (.cells cs t fz):=
 (hg.block g (Al h) fun e=>by
  obtain ⟨o,ho,hc⟩:=hr g e.symm
  rw[h] at ho;cases ho;simp[Obj.isCells] at hc).trans h
theorem heap_a4 (w:World) (A B C D:Obj):((((w.alloc A).alloc B).alloc C).alloc D).heap[w.heap.size]? =some A∧((((w.alloc A).alloc B).alloc C).alloc D).heap[w.heap.size+1]? =some B∧((((w.alloc A).alloc B).alloc C).alloc D).heap[w.heap.size+1+1]? =some C∧((((w.alloc A).alloc B).alloc C).alloc D).heap[w.heap.size+1+1+1]? =some D:=by
 refine ⟨?_, ?_, ?_, ?_⟩
 all_goals
  show ((((w.heap.push A).push B).push C).push D)[_]? =_
  simp only[Array.getElem?_push,Array.size_push]
  repeat (first | rw[if_pos (by omega)] | rw[if_neg (by omega)] | rfl)
structure DI (w:World) (av:Value) (a b:List UInt8) (pre:List (Fin (cnt b.length))) (W:World):Prop where
 row:∃(v:Value) (cs:List ((Nat×List UInt8)×Value)),W.heap[w.heap.size+1+1]? =some (.cells #[.int .i64 b.length,v] 183 (0,0))∧cs.map (·.1)=difP a b pre∧W.ownsRow (w.heap.size+1+1+1+1) 188 2 v cs.length (cs.flatMap encC)∧∀p∈cs,Bytes (v.ownBlock.toList++List.range (w.heap.size+1+1+1+1)) W p.2 p.1.2
 box:W.heap[w.heap.size]? =some (.cells #[av] 22 (0,0))
 res:W.heap[w.heap.size+1]? =some (.cells #[.int .i64 0,.slice none 0 0] 183 (0,0))
 bel:Below w.heap.size w W
 sz:w.heap.size+1+1+1<W.heap.size
theorem DI.own (w:World) (av:Value) (a b:List UInt8) (B:Nat) (hB:w.heap.size≤B):OwnFrom B (DI w av a b):=fun s W W' row h hg hr=>by
 obtain ⟨⟨v,cs,h1,h2,h3,h4⟩,h5,h6,h7,h8⟩:=h
 exact ⟨⟨v,cs,heap_grown h1 hg (fun r e=>(hr r e).2),h2,ownsRow_grown h3 hg (fun r e=>(hr r e).2),fun p hp=>raw_grown (h4 p hp) (by omega) hg (fun r e=>(hr r e).2)⟩,heap_grown h5 hg (fun r e=>(hr r e).2),heap_grown h6 hg (fun r e=>(hr r e).2),
  h7.grown hg h7.size (fun k e=>Nat.le_trans hB (hr k e).1),Nat.lt_of_lt_of_le h8 hg.size⟩
theorem encC_one {F:List Nat} {w:World} {cs:List ((Nat×List UInt8)×Value)} (h:∀p∈cs,Bytes F w p.2 p.1.2):∀u∈cs.flatMap encC,u.oneCell'=true:=by
 intro u hu
 obtain ⟨p,hp,hu⟩:=List.mem_flatMap.1 hu
 obtain ⟨a,c,e⟩:=Rs (h p hp)
 simp only[encC,e,List.mem_cons,List.not_mem_nil,or_false] at hu
 rcases hu with rfl | rfl <;> rfl
theorem keepsOthers_of_keep {G:List Nat} {w w':World} (hk:Keep G w w') (hG:∀g∈G,∀o,w.heap[g]? =some o→o.isCells=true):KeepsOthers w w':=
 ⟨hk.size,fun k o ho hc=>(hk.block k (Al ho) fun hm=>by rw[hG k hm o ho] at hc;cases hc).trans ho⟩
theorem own_isCells' {w:World} {base e size n:Nat} {v:Value} {xs:List Value} (h:w.ownsRow base e size v n xs):∀g∈v.ownBlock.toList,∀o,w.heap[g]? =some o→o.isCells=true:=fun g hg o ho=>by
 obtain ⟨cur,hc⟩:=own_type h (r:=g) (by simpa using hg)
 rw[hc] at ho;cases ho;rfl
theorem di_step {w W W3 W4:World} {av:Value} {a b:List UInt8} {pre:List (Fin (cnt b.length))} {k:Nat} (hk:k<cnt b.length) {v v4:Value} {cs:List ((Nat×List UInt8)×Value)} {a2:Option Addr} {c2:Nat}
  (c7:Below w.heap.size w W) (c8:w.heap.size+1+1+1<W.heap.size) (h2:cs.map (·.1)=difP a b pre) (hD:difP a b (pre++[⟨k,hk⟩])=difP a b pre++[(k,pg b k)])
  (h1:W.heap[w.heap.size+1+1]? =some (.cells #[.int .i64 b.length,v] 183 (0,0))) (h5:W.heap[w.heap.size]? =some (.cells #[av] 22 (0,0))) (h6:W.heap[w.heap.size+1]? =some (.cells #[.int .i64 0,.slice none 0 0] 183 (0,0)))
  (h4:∀p∈cs,Bytes (v.ownBlock.toList++List.range (w.heap.size+1+1+1+1)) W p.2 p.1.2) (hW3:Below W.heap.size W W3) (hcell:∀g∈v.ownBlock.toList,∀o,W3.heap[g]? =some o→o.isCells=true) (hO3:W3.ownsRow (w.heap.size+1+1+1+1) 188 2 v cs.length (cs.flatMap encC))
  (hB3:∀X:List Nat,(∀f∈X,f<W.heap.size)→Bytes X W3 (.slice a2 (pg b k).length c2) (pg b k)) (hOW:∀r,v.ownBlock=some r→r<W.heap.size) (hown4:W4.ownsRow (w.heap.size+1+1+1+1) 188 2 v4 (cs.length+1) (cs.flatMap encC++[.int .i64 k,.slice a2 (pg b k).length c2]))
  (hb4:Below (w.heap.size+1+1+1+1) W W4) (hk4:Keep v.ownBlock.toList W3 W4) (hn4:∀f∈v4.ownBlock.toList,f∈v.ownBlock.toList∨W3.heap.size≤f):
  (∀B,KeepsFrom B W (W4.setCell ⟨w.heap.size+1+1,1,none⟩ v4))∧KB w.heap.size (w.heap.size+1+1+1) W (W4.setCell ⟨w.heap.size+1+1,1,none⟩ v4)∧DI w av a b (pre++[⟨k,hk⟩]) (W4.setCell ⟨w.heap.size+1+1,1,none⟩ v4):=by
 have hs3:=hW3.size
 have hs4:=hb4.size
 have hsv:∀f∈v.ownBlock.toList,w.heap.size+1+1+1+1≤f∧f<W.heap.size:=fun f hf=>by
  have hf':v.ownBlock=some f:=by simpa using hf
  exact ⟨(hO3.lt f hf').1,hOW f hf'⟩
 have blk:∀j,j<w.heap.size+1+1+1+1→W4.heap[j]? =W.heap[j]? :=fun j hj=>hb4.block j hj
 have hP4:W4.heap[w.heap.size+1+1]? =some (.cells #[.int .i64 b.length,v] 183 (0,0)):=(blk _ (by omega)).trans h1
 have hset:(W4.setCell ⟨w.heap.size+1+1,1,none⟩ v4).heap[w.heap.size+1+1]? =some (.cells #[.int .i64 b.length,v4] 183 (0,0)):=heap_setCell_same W4 (w.heap.size+1+1) 1 _ 183 v4 hP4
 have hko:Keep [w.heap.size+1+1] W4 (W4.setCell ⟨w.heap.size+1+1,1,none⟩ v4):=(Keep.refl [w.heap.size+1+1] W4).setCell (by simp) _
 have hbW:Below w.heap.size W (W4.setCell ⟨w.heap.size+1+1,1,none⟩ v4):=(hb4.mono (by omega)).setCell (by show w.heap.size≤w.heap.size+1+1;omega) _
 refine ⟨fun B=> ?_,⟨hbW, ?_⟩,⟨⟨v4,cs++[((k,pg b k),.slice a2 (pg b k).length c2)],hset,by rw[hD];simp[h2], ?_,fun p hp=> ?_⟩, ?_, ?_,c7.trans hbW, ?_⟩⟩
 ·refine KeepsOthers.from (KeepsOthers.trans ⟨hW3.size,fun j o hj _=>(hW3.block j (Al hj)).trans hj⟩ (KeepsOthers.trans (keepsOthers_of_keep hk4 hcell) (keepsOthers_of_keep hko (fun g hg o ho=> ?_)))) B
  rw[M1' hg,hP4] at ho;cases ho;rfl
 ·exact (hko.cell (by omega) (by simp)).trans (hb4.cell (p:=⟨w.heap.size+1+1+1,0,none⟩) (by show w.heap.size+1+1+1<_;omega))
 ·have hw:=own_keep hown4 hko (fun r hr hm=>by
   rw[List.mem_singleton] at hm;have:=(hown4.lt r hr).1;omega)
  simpa[encC] using hw
 ·have base:Bytes (v.ownBlock.toList++List.range (w.heap.size+1+1+1+1)) W3 p.2 p.1.2:=by
   rcases List.mem_append.1 hp with hp | hp
   ·exact Rb (h4 p hp) hW3
   rw[M1' hp]
   exact hB3 _ fun f hf=>by
    rcases List.mem_append.1 hf with hf | hf
    ·exact (hsv f hf).2
    have:=List.mem_range.1 hf;omega
  have h4':Bytes (v4.ownBlock.toList++List.range (w.heap.size+1+1+1+1)) W4 p.2 p.1.2:=base.keep hk4 (fun f hf=> .inl (List.mem_append_left _ hf)) (fun f hf=>by
   rcases List.mem_append.1 hf with hf | hf
   ·exact (hn4 f hf).imp (fun h=>List.mem_append_left _ h) id
   exact .inl (List.mem_append_right _ hf))
  exact Raw.keep h4' hko (fun f hf=> .inl (by rw[M1' hf];exact List.mem_append_right _ (List.mem_range.2 (by omega)))) (fun f hf=> .inl hf)
 ·exact (hko.block _ (by omega) (by first | (simp;done) | (simp;omega))).trans ((blk _ (by omega)).trans h5)
 ·exact (hko.block _ (by omega) (by first | (simp;done) | (simp;omega))).trans ((blk _ (by omega)).trans h6)
 simp[World.setCell];omega
attribute [local go_sem] Oper.semAt_some
def DifR (w:World) (l:List (Nat×List UInt8)) (n:Nat) (e:Ending) (w':World):Prop:=∃v,e= .returned (.tuple #[.agg #[.int .i64 n,v],.int .i64 0])∧ChR (old w) w' v l∧Below w.heap.size w w'
theorem diff_any {F:List Nat} (av bv:Value) (a b:List UInt8) (w:World) (ha:a.length≤24000) (hb:b.length≤24000) (hA:Bytes F w av a) (hB:Bytes F w bv b):
  Calls Tryz.prog 123 #[av,bv] w (DifR w (dif a b) b.length):=by
 refine (callsIn_wide (n:=9)).1 ?_
 obtain ⟨aa,ac,rfl⟩:=Rs hA
 obtain ⟨ba,bc,rfl⟩:=Rs hB
 have HA:=Hj hA;clear hA
 have HB:=Hj hB;clear hB
 have hbl:(b.length:Int)≤24000:=by omega
 have hdec:decide ((24000:Int)<b.length)=false:=by simp;omega
 refine callsIn_of_wp_marks Tryz.func123 rfl trivial ?_ rfl
 simp only[Tryz.ntmps123,List.size_toArray,List.length_cons,List.length_nil,Nat.reduceAdd,Nat.reduceSub,Array.replicate_succ,Array.replicate_zero,List.push_toArray,List.append_toArray,List.nil_append,List.cons_append]
 gi_wp2_with fail
 refine ⟨trivial, ?_⟩
 refine (callsIn_wide.2 (pages_any _ _ _ _)).mono ?_
 rintro e w' ⟨rfl,rfl⟩
 gi_wp2
 have hcl:cnt b.length≤1000:=by unfold cnt;omega
 have hB0:Below w.heap.size w ((((w.alloc (.cells #[.slice aa a.length ac] 22)).alloc (.cells #[.int .i64 0,.slice none 0 0] 183)).alloc (.cells #[.int .i64 b.length,.slice none 0 0] 183)).alloc (.cells #[.slice ba b.length bc] 22)):=((((Br _ w).alloc (Nr _) _).alloc (by simp only[World.size_alloc];omega) _).alloc (by simp only[World.size_alloc];omega) _).alloc (by simp only[World.size_alloc];omega) _
 obtain ⟨g0,g1,g2,g3'⟩:=heap_a4 w (.cells #[.slice aa a.length ac] 22) (.cells #[.int .i64 0,.slice none 0 0] 183) (.cells #[.int .i64 b.length,.slice none 0 0] 183) (.cells #[.slice ba b.length bc] 22)
 have g3:((((w.alloc (.cells #[.slice aa a.length ac] 22)).alloc (.cells #[.int .i64 0,.slice none 0 0] 183)).alloc (.cells #[.int .i64 b.length,.slice none 0 0] 183)).alloc (.cells #[.slice ba b.length bc] 22)).cell? ⟨w.heap.size+1+1+1,0,none⟩=some (.slice ba b.length bc):=Bo g3' rfl
 have g4:((((w.alloc (.cells #[.slice aa a.length ac] 22)).alloc (.cells #[.int .i64 0,.slice none 0 0] 183)).alloc (.cells #[.int .i64 b.length,.slice none 0 0] 183)).alloc (.cells #[.slice ba b.length bc] 22)).heap.size=w.heap.size+1+1+1+1:=by simp
 obtain ⟨w4,hw4⟩:∃w4,w4=((((w.alloc (.cells #[.slice aa a.length ac] 22)).alloc (.cells #[.int .i64 0,.slice none 0 0] 183)).alloc (.cells #[.int .i64 b.length,.slice none 0 0] 183)).alloc (.cells #[.slice ba b.length bc] 22)):=⟨_,rfl⟩
 rw[←hw4] at hB0 g0 g1 g2 g3 g4⊢
 clear hw4 g3'
 have hbz:b.length≤1000000:=by omega
 have H0:Hid (DI w (.slice aa a.length ac) a b [] w4):=Hj ⟨⟨.slice none 0 0,[],g2,by simp[difP],World.ownsRow_nil _ _ _ _,fun p hp=>by cases hp⟩,g0,g1,hB0,by omega⟩
 have hst:SeqStopsK Fence.wide 8 Tryz.prog 149 #[.pointer (some ⟨w.heap.size+1+1+1,0,none⟩)] (fun x:Fin (cnt b.length)=>#[Value.int .i64 ((x.val:Nat):Int),Value.slice (pgA ba x.val (sz b.length x.val)) (sz b.length x.val) (sz b.length x.val)]) (KB w.heap.size (w.heap.size+1+1+1)) (fun ys=>ys=List.finRange (cnt b.length)) (fun _=>True) (cnt b.length) w4:=fun l J Jx W hW _ _ hY h0=>
  pages1_in 8 (by decide) l (w.heap.size+1+1+1) w.heap.size bc ba b hbz w HB.out J Jx hY W ((hW.cell (p:=⟨w.heap.size+1+1+1,0,none⟩) (by show w.heap.size+1+1+1<_;omega)).trans g3) h0
 refine wpIn_rangeFunc_ownH (n:=9) rfl (by decide) (gf:=149) (lb:=#[.pointer (some ⟨w.heap.size+1+1+1,0,none⟩)]) rfl trivial (enters_of Tryz.func149 (by kernel_rfl) rfl)
  hst (fun h k=>KB.trans h k) (fun W l o o' hl' h h1 h2=>KB.put (n₀:=w.heap.size) (Bs:=w.heap.size+1+1+1) (w:=w4) (by omega) (by omega) W l o o' hl' h h1 h2) (Br _ _) ?hps
  (DI w (.slice aa a.length ac) a b) (fun _ _ _=>False) (DI.own w _ a b _ (by omega)) (fun _ _ _ _ _ hs _ _=>hs)
  H0.out
  (fun x a' W=>a'={tmps:=#[.slice aa a.length ac,.slice ba b.length bc,.pointer (some ⟨w.heap.size,0,none⟩),undef,.pointer (some ⟨w.heap.size+1,0,none⟩),.int .i64 0,.pointer (some ⟨w.heap.size+1+1,0,none⟩),.int .i64 ((x.val:Nat):Int),.slice (pgA ba x.val (sz b.length x.val)) (sz b.length x.val) (sz b.length x.val),.slice ba b.length bc,.int .i64 b.length,.bool false,undef,.slice ba b.length bc,.int .i64 b.length,.agg #[.int .i64 b.length,.slice none 0 0],.slice ba b.length bc,.func (.func 149) #[] #[.pointer (some ⟨w.heap.size+1+1+1,0,none⟩)],.int .i64 ((x.val:Nat):Int),.slice (pgA ba x.val (sz b.length x.val)) (sz b.length x.val) (sz b.length x.val),undef,undef,undef,undef,undef,undef,undef,undef,undef,undef,undef,undef,undef,undef,undef,undef],defers:=[]})
  ?hAx ?assign ?body ?done ?stop
 case hps=>intro x;rfl
 case hAx=>
  intro x a' _ W W' row h hg hr
  exact h
 case assign=>
  intro l pre x W K hI hK
  have HK:=Hj hK;clear hK
  have HI:=Hj hI;clear hI
  clear hst H0 g0 g1 g2 g3
  gi_wp2
  exact HK.out _ _ ((KeepsOthers.refl _).from _) (KB.refl _ _ _) HI.out rfl
 case body=>
  rintro l pre x a' W hl' hL hI rfl hlen
  obtain ⟨⟨v,cs,c1,c2,c3,c4⟩,c5,c6,c7,c8⟩:=hI
  obtain ⟨k,hk⟩:=x
  have hsn:=difP_snoc a b pre ⟨k,hk⟩
  have hcsl:cs.length≤1000:=by
   have:=congrArg List.length c2
   rw[List.length_map] at this
   have:=difP_len a b pre
   omega
  have d0:=Bj c5 0 rfl
  have HAW:=Hj (Rb HA.out c7)
  have hpgW:=(pg_slice (HB.out.below c7) hk).1
  have HPW:=Hj hpgW
  simp only at hsn⊢
  obtain ⟨va,vc,rfl⟩:=Oq c3
  have C1:=Hj c1;have C2:=Hj c2;have C3:=Hj c3;have C4:=Hj c4;have C5:=Hj c5;have C6:=Hj c6
  have Hsn:=Hj hsn
  have hkl:k≤1000000:=by omega
  clear c1 c2 c3 c4 c5 c6 hsn hpgW hst H0 g0 g1 g2 g3 hlen
  gi_wp2_with fail
  refine ⟨trivial, ?_⟩
  refine (CallsIn.inRound l (callsIn_wide.2 (page_any _ a k _ (by omega) hkl HAW.out))).mono ?_
  rintro e W1 ⟨v1,rfl,hp1,hb1⟩
  obtain ⟨a1,c1,rfl⟩:=Rs hp1
  have hs1:=hb1.size
  have HP1:=Hj hp1
  have HPW1:=Hj (Rb HPW.out hb1)
  have heq:=fun r hr w=>equal_any (F:=old W) (G:=F) (.slice a1 (pg a k).length c1) (.slice (pgA ba k (sz b.length k)) (sz b.length k) (sz b.length k)) (pg a k) (pg b k) r w hr
  clear hp1
  have hlt8:=c8
  by_cases hq:pg a k=pg b k
  ·have he:=heq true (by simp[hq]) W1 HP1.out HPW1.out
   have hD:difP a b (pre++[⟨k,hk⟩])=difP a b pre:=by rw[Hsn.out,if_pos hq]
   have HE:=Hj he;have HD:=Hj hD
   clear he hD heq hq
   gi_wp2_with fail
   refine ⟨trivial, ?_⟩
   refine (CallsIn.inRound l (callsIn_wide.2 HE.out)).mono ?_
   rintro e W' ⟨rfl,rfl⟩
   gi_wp2
   refine ⟨keeps_below hb1 rfl,KB.of_below hb1 c7.size c8,⟨⟨_,cs,(hb1.block _ (by omega)).trans C1.out,by rw[HD.out];exact C2.out,own_below C3.out hb1 (Nr _),fun p hp=>Rb (C4.out p hp) hb1⟩,(hb1.block _ (by omega)).trans C5.out,(hb1.block _ (by omega)).trans C6.out,c7.trans (hb1.mono c7.size),by omega⟩⟩
  have he:=heq false (by simp[hq]) W1 HP1.out HPW1.out
  have hD:difP a b (pre++[⟨k,hk⟩])=difP a b pre++[(k,pg b k)]:=by rw[Hsn.out,if_neg hq]
  have HE:=Hj he;have HD:=Hj hD
  clear he hD heq hq
  gi_wp2_with fail
  refine ⟨trivial, ?_⟩
  refine (CallsIn.inRound l (callsIn_wide.2 HE.out)).mono ?_
  rintro e W' ⟨rfl,rfl⟩
  gi_wp2
  have hBl:∀q∈[w.heap.size+1+1],∃c e f,W1.heap[q]? =some (.cells c e f):=fun q hq=>by rw[M1' hq];exact ⟨_,_,_,(hb1.block _ (by omega)).trans C1.out⟩
  have HS1:=Hj (same_start hBl)
  have cP:=Bo ((hb1.block (w.heap.size+1+1) (by omega)).trans C1.out) (j:=1) rfl
  refine Ty.region_round_tree [w.heap.size+1+1] [1] [9] [1] [0,1,2,3] (.alt [4,5] (.alt [6] (.alt [7,8] (.alt [9] (.done) (.no)) (.no)) (.no)) (.no)) (fun ⟨_,_,h⟩=>h) rfl (by kernel_rfl) (by kernel_rfl) (by kernel_rfl) (by kernel_rfl) hBl ?_
  clear hBl
  try simp only[pick,Gs,Gz]
  go_wp2
  refine Rm ?_
  refine Wq ?_
  try simp only[pick,Gs,Gz]
  go_wp2_with fail
  refine (clone33 _ ?hcl HPW1.out.drew).mono ?_
  case hcl=>have:=pg_len b k;unfold sz at this;omega
  rintro e W2 ⟨v2,rfl,hown2,hb2⟩
  have hb12:Below W1.heap.size W1 W2:=(Br W1.heap.size W1).drew.trans hb2
  have hs2:=hb12.size
  have HO2:=Hj hown2
  have HS2:=Hj (same_below' HS1.out hb2)
  rw[←pg_len b k]
  obtain ⟨a2,c2,rfl⟩:=Oq hown2
  have c3w:=own_below (own_below C3.out hb1 (Nr _)) hb12 (Nr _)
  have hB2:∀X:List Nat,(∀f∈X,f<W1.heap.size)→Bytes X W2 (.slice a2 (pg b k).length c2) (pg b k):=fun X hX=>Bytes.row HO2.out rfl hX
  have al:=(Br W2.heap.size W2).alloc (Nr _) (.cells #[.int .i64 k,.slice a2 (pg b k).length c2] 188)
  obtain ⟨q,hq⟩:∃q,q=W2.heap.size:=⟨_,rfl⟩
  have hx0:Raw [] 2 (W2.alloc (.cells #[.int .i64 k,.slice a2 (pg b k).length c2] 188)) (.slice (some ⟨q,0,none⟩) 1 1) 1 [.int .i64 k,.slice a2 (pg b k).length c2]:=Raw.of_block (ys:=[.int .i64 k,.slice a2 (pg b k).length c2]) (by rw[hq];exact heap_alloc_new W2 _) (by simp) (by intro z hz;simp at hz;rcases hz with rfl | rfl <;> rfl) rfl (Nr _) (by unfold maxLen;omega)
  have HX:=Hj hx0
  have hb13:=hb12.trans (al.mono hs2)
  have hW3:=hb1.trans (hb13.mono hs1)
  have HS3:=Hj (same_below' HS2.out al)
  have HO3:=Hj (own_below c3w al (Nr _))
  have HB3:Hid (∀X:List Nat,(∀f∈X,f<W1.heap.size)→Bytes X (W2.alloc (.cells #[.int .i64 k,.slice a2 (pg b k).length c2] 188)) (.slice a2 (pg b k).length c2) (pg b k)):=Hj fun X hX=>Rb (hB2 X hX) al
  have hz3:w.heap.size+1+1+1+1≤(W2.alloc (.cells #[.int .i64 k,.slice a2 (pg b k).length c2] 188)).heap.size:=by simp;omega
  have hz3':W.heap.size≤(W2.alloc (.cells #[.int .i64 k,.slice a2 (pg b k).length c2] 188)).heap.size:=hW3.size
  go_wp2
  refine Sm (Ss HS2.out) ?_
  try simp only[pick,Gs,Gz]
  go_wp2
  refine Rm ?_
  refine Wq ?_
  try simp only[pick,Gs,Gz]
  go_wp2
  rw[←hq]
  obtain ⟨W3,hW3e⟩:∃W3,W3=W2.alloc (.cells #[.int .i64 k,.slice a2 (pg b k).length c2] 188):=⟨_,rfl⟩
  rw[←hW3e] at HX HO3 HB3 HS3 hW3 hb13 hz3 hz3'⊢
  clear hq al hx0 hW3e c3w hB2 cP hown2 hb2
  refine Sm (Ss HS3.out) ?_
  refine Rm ?_
  refine Wq ?_
  try simp only[pick,Gs,Gz]
  go_wp2_with (at_builtin;refine wpList_appF el64 Tryz.underlying134 HO3.out HX.out (hW3.mono (show w.heap.size+1+1+1+1≤W.heap.size by omega)) rfl _ _ rfl rfl rfl ?a3 (Nr _) hz3 ?_)
  case a3=>omega
  intro v4 W4 hown4 hb4 hk4 hn4
  have hsv:∀f∈(Value.slice va cs.length vc).ownBlock.toList,w.heap.size+1+1+1+1≤f∧f<W3.heap.size:=fun f hf=>by
   have:=HO3.out.lt f (by simpa using hf);exact this
  have hP4:=(hk4.block (w.heap.size+1+1) (by omega) (fun hm=>by have:=(hsv _ hm).1;omega)).trans ((hW3.block (w.heap.size+1+1) (by omega)).trans C1.out)
  have cP:=Bj hP4 1 rfl
  have fP:=Bf hP4 1
  have HP4:=Hj hP4
  have HS4:=Hj (same_keep HS3.out hk4 (fun q hq hm=>by rw[M1' hq] at hm;have:=(hsv _ hm).1;omega))
  have hres:=di_step (cs:=cs) (a2:=a2) (c2:=c2) hk c7 c8 C2.out HD.out C1.out C5.out C6.out C4.out hW3 (own_isCells' HO3.out) HO3.out (fun X hX=>HB3.out X (fun f hf=>Nat.lt_of_lt_of_le (hX f hf) hs1)) (fun r hr=>(C3.out.lt r hr).2) hown4 hb4 hk4 (fun f hf=>by have:=hn4 f (by simpa using hf);simpa using this)
  have HR:=Hj hres
  obtain ⟨a4,c4,rfl⟩:=Oq hown4
  clear hown4 hb4 hk4 hn4 hP4 hres
  go_wp2
  refine Sm (Ss HS4.out) ?_
  try simp only[pick,Gs,Gz]
  go_wp2
  refine Rm ?_
  refine Wq ?_
  try simp only[pick,Gs,Gz]
  go_wp2
  refine Sm (Ty.Shown.last rfl) ?_
  refine Rm ?_
  refine Wd (by rfl) ⟨.head _,trivial⟩ ?_
  exact ⟨HR.out.1 _,HR.out.2.1,HR.out.2.2⟩
 case done=>
  rintro D ys W hD rfl hI hK
  obtain ⟨⟨v,cs,c1,c2,c3,c4⟩,c5,c6,c7,c8⟩:=hI
  rw[difP_all] at c2
  obtain ⟨va,vc,rfl⟩:=Oq c3
  have p0:=Bj c1 0 rfl
  have p1:=Bj c1 1 rfl
  have r0:=Bj c6 0 rfl
  have r1:=Bj c6 1 rfl
  have f0:=Bf c6 0
  have f1:=Bf c6 1
  have hK':((W.setCell ⟨w.heap.size+1,0,none⟩ (.int .i64 b.length)).setCell ⟨w.heap.size+1,1,none⟩ (.slice va cs.length vc)).heap[D]? =some (Obj.deferred (some [])):=by
   rw[Below.heap_setCell _ _ _ _ (show D≠w.heap.size+1 by omega),Below.heap_setCell _ _ _ _ (show D≠w.heap.size+1 by omega)];exact hK
  have C1:=Hj c1;have C2:=Hj c2;have C3:=Hj c3;have C4:=Hj c4;have C6:=Hj c6
  have HK':=Hj hK'
  clear c1 c2 c3 c4 c5 c6 hst H0 g0 g1 g2 g3 hK'
  have hkS:Keep [w.heap.size+1] W ((W.setCell ⟨w.heap.size+1,0,none⟩ (.int .i64 b.length)).setCell ⟨w.heap.size+1,1,none⟩ (.slice va cs.length vc)):=((Keep.refl [w.heap.size+1] W).setCell (by simp) _).setCell (by simp) _
  have hrow:=Raw.of_own (F:=(w.heap.size+1)::old w) C3.out (encC_one C4.out) (fun f hf=>by
   rcases List.mem_cons.1 hf with rfl | hf
   ·omega
   have:=old_lt f hf;omega)
  have hin:∀f∈[w.heap.size+1],f∈(w.heap.size+1)::old w∨W.heap.size≤f:=fun f hf=> .inl (by rw[M1' hf];simp)
  have hrow2:=Raw.keep (F':=old w) hrow hkS hin (fun f hf=> .inl (List.mem_cons_of_mem _ hf))
  have hbyt:∀p∈cs,Bytes (old w) ((W.setCell ⟨w.heap.size+1,0,none⟩ (.int .i64 b.length)).setCell ⟨w.heap.size+1,1,none⟩ (.slice va cs.length vc)) p.2 p.1.2:=fun p hp=>
   Raw.keep (C4.out p hp) hkS (fun f hf=> .inl (by rw[M1' hf];exact List.mem_append_right _ (List.mem_range.2 (by omega)))) (fun f hf=> .inl (List.mem_append_right _ (List.mem_range.2 (by have:=old_lt f hf;omega))))
  have hres:((W.setCell ⟨w.heap.size+1,0,none⟩ (.int .i64 b.length)).setCell ⟨w.heap.size+1,1,none⟩ (.slice va cs.length vc)).heap[w.heap.size+1]? =some (.cells #[.int .i64 b.length,.slice va cs.length vc] 183 (0,0)):=by
   have h1:=heap_setCell_same W (w.heap.size+1) 0 _ 183 (.int .i64 b.length) C6.out
   have h2:=heap_setCell_same _ (w.heap.size+1) 1 _ 183 (.slice va cs.length vc) h1
   exact h2
  have hbS:=c7.trans (hkS.below (B:=w.heap.size) c7.size (G1 (by omega)))
  have HR:=Hj hrow2;have HBy:=Hj hbyt;have HRs:=Hj hres;have HbS:=Hj hbS
  clear hkS hrow hin hrow2 hbyt hres hbS
  gi_wp2
  obtain ⟨WS,hWS⟩:∃WS,WS=((W.setCell ⟨w.heap.size+1,0,none⟩ (.int .i64 b.length)).setCell ⟨w.heap.size+1,1,none⟩ (.slice va cs.length vc)):=⟨_,rfl⟩
  rw[←hWS] at HR HBy HRs HbS HK'⊢
  clear hWS
  refine ⟨by simp,.inl ⟨_,_,rfl,run_takeDeferred HK'.out, ?_⟩⟩
  have hgp:=grownBy_putObj' WS D (.deferred none)
  have hrw:∀r,some D=some r→∃o:Obj,WS.heap[r]? =some o∧o.isCells=false:=fun r e=>by cases e;exact ⟨_,HK'.out,rfl⟩
  refine ⟨_,results_ct rfl _ _ _ _ _ _ _ rfl (heap_grown HRs.out hgp hrw) Tryz.underlying183 rfl (by kernel_rfl),_,rfl,⟨cs,C2.out,raw_grown HR.out (by omega) hgp hrw,fun p hp=>raw_grown (HBy.out p hp) (by omega) hgp hrw⟩,HbS.out.trans (belowK_b (w:=w) (Nr _) WS D _ _ (by omega) HK'.out rfl rfl)⟩
 case stop=>
  rintro D c pre W _ _ h _
  exact h.elim
end Go.Proofs.YtipiofgdjbogiaaGreat
namespace Go.Im
open Go Go.Txt Go.RowKit Go.Bs Go.Cl Go.Rw Go.Un
def hs (x:Int) (c:UInt8):Int:=
 bits BinOp.xor .u64 (IntKind.u64.wrap (bits BinOp.xor .u64 x (IntKind.u64.wrap (c.toNat:Int))*15111065706836454659)) (IntKind.u64.wrap (bits BinOp.xor .u64 x (IntKind.u64.wrap (c.toNat:Int))*15111065706836454659) / 536870912)
def hsum (x:Int) (l:List UInt8):Int:=l.foldl hs x
theorem hsum_step (x:Int) (l:List UInt8) {k:Nat} (h:k<l.length):hsum x (l.take (k+1))=hs (hsum x (l.take k)) l[k]:=by
 unfold hsum;rw[List.take_succ_eq_append_getElem h,List.foldl_append];rfl
def eb (n:Nat):List UInt8:=(List.range 8).map fun i=>UInt8.ofNat (n / 2^(8*i))
def ebk (n k:Nat):List UInt8:=(List.range k).map fun i=>UInt8.ofNat (n / 2^(8*i))
theorem ebk_succ (n k:Nat):ebk n (k+1)=ebk n k++[UInt8.ofNat (n / 2^(8*k))]:=by simp[ebk,List.range_succ]
def sumOf (l:List UInt8):Int:=hsum (hsum 125762890854254 l) (eb l.length)
end Go.Im
namespace Go.Proofs.YtipiofgdjbogiaaGreat
open Go.Txt Go.RowKit Go.Bs Go.Cl Go.Rw Go.Un Go.Im
theorem from_any {F:List Nat} (bv:Value) (b:List UInt8) (h:Int) (w:World) (hn:b.length≤1000000) (hB:Bytes F w bv b):
  Calls Tryz.prog 120 #[.int .u64 h,bv] w fun e w'=>e= .returned (.int .u64 (hsum h b))∧w=w':=by
 obtain ⟨a,c,rfl⟩:=Rs hB
 have HB:=Hj hB;clear hB
 go_enter Tryz.func120,Tryz.ntmps120
 go_wp2
 go_loopw [0,10] (fun x i wr=>∃(k:Nat),k≤b.length∧i= .int .i64 k∧x= .int .u64 (hsum h (b.take k))∧wr=w) (fun _ i _=>b.length - (intOf i).toNat)
 case atStart=>exact ⟨0,Nat.zero_le _,rfl,rfl,rfl⟩
 case round=>
  obtain ⟨k,hk,rfl,rfl,rfl⟩:=hrel
  by_cases hlt:k<b.length
  ·rcases Raw.cases HB.out with ⟨h0,_⟩ | ⟨_,g,o,cap,hv,_,_,_,_,hc⟩
   ·omega
   obtain ⟨rfl,rfl⟩:a=some ⟨g,o,none⟩∧c=cap:=by cases hv;exact ⟨rfl,rfl⟩
   clear hv
   have hck:=hc k (byteV b[k]) (by simp[bytesV,List.getElem?_eq_getElem hlt])
   simp only[byteV] at hck
   have hkl:(k:Int)<b.length:=by omega
   have HS:=Hj (hsum_step h b hlt)
   clear hc
   go_wp2
   refine ⟨⟨k+1,hlt,by go_num, ?_,trivial⟩, ?_⟩
   ·rw[HS.out];rfl
   simp[intOf];omega
  obtain rfl:k=b.length:=by omega
  have HT:Hid (hsum h (b.take b.length)=hsum h b):=Hj (by rw[List.take_length])
  go_wp2
  go_ret
  exact ⟨by rw[HT.out];rfl,rfl⟩
theorem eight_any (n:Nat) (w:World) (hn:n≤1000000):
  Calls Tryz.prog 121 #[.slice none 0 0,.int .i64 n] w fun e w'=>∃v,e= .returned v∧w'.ownsRow w.heap.size 5 1 v 8 (bytesV (eb n))∧Below w.heap.size w w':=by
 go_enter Tryz.func121,Tryz.ntmps121
 go_wp2
 go_loopw [0,6] (fun v i wr=>∃(k:Nat),k≤8∧i= .int .i64 k∧wr.ownsRow w.heap.size 5 1 v k (bytesV (ebk n k))∧Below w.heap.size w wr) (fun _ i _=>8 - (intOf i).toNat)
 case atStart=>exact ⟨0,Nat.zero_le _,rfl,World.ownsRow_nil _ _ _ _,Br _ _⟩
 case round=>
  obtain ⟨k,hk,rfl,hown,hbel⟩:=hrel
  obtain ⟨va,vc,rfl⟩:=Oq hown
  have HO:=Hj hown;clear hown
  by_cases hlt:k<8
  ·have hkl:(k:Int)<8:=by omega
   have hx:((n:Int) / 2^(8*k)%256)=(((UInt8.ofNat (n / 2^(8*k))).toNat:Nat):Int):=by
    have:((n / 2^(8*k):Nat):Int)=(n:Int) / 2^(8*k):=by simp
    rw[←this,UInt8.toNat_ofNat'];simp
   have al':=(Br wr.heap.size wr).alloc (Nr _) (.cells #[.int .u8 ((n:Int) / 2^(8*k)%256)] 5)
   have al:=hbel.trans (al'.mono hbel.size)
   have HX:Hid (Raw [] 1 (wr.alloc (.cells #[.int .u8 ((n:Int) / 2^(8*k)%256)] 5)) (.slice (some ⟨wr.heap.size,0,none⟩) 1 1) 1 [.int .u8 ((n:Int) / 2^(8*k)%256)]):=Hj (Raw.of_block (ys:=[.int .u8 ((n:Int) / 2^(8*k)%256)]) (heap_alloc_new wr _) (by simp) (by intro z hz;simp at hz;subst hz;rfl) rfl (Nr _) (by unfold maxLen;omega))
   have HO1:=Hj (own_below HO.out al' (Nr _))
   have Hx:=Hj hx
   clear hx
   go_wp2_with (at_builtin;refine wpList_app el22 Tryz.underlying22 HO1.out HX.out al rfl _ _ rfl rfl rfl ?c3 (Nr _) ?c5 ?_)
   case c3=>omega
   case c5=>exact al.size
   intro v1 w1 hown hb _ _
   have HB1:Hid (w1.ownsRow w.heap.size 5 1 v1 (k+1) (bytesV (ebk n (k+1)))):=Hj (by
    rw[ebk_succ];rw[Hx.out] at hown;simpa[bytesV,byteV] using hown)
   clear hown
   go_wp2
   go_roundw
   case rel=>exact ⟨k+1,hlt,by go_num,HB1.out,hb⟩
   case measure=>simp[intOf];omega
  obtain rfl:k=8:=by omega
  go_wp2
  go_ret
  exact ⟨_,rfl,HO.out,hbel⟩
theorem of_any {F:List Nat} (bv:Value) (b:List UInt8) (w:World) (hn:b.length≤1000000) (hB:Bytes F w bv b):
  Calls Tryz.prog 73 #[bv] w fun e w'=>e= .returned (.int .u64 (sumOf b))∧Below w.heap.size w w':=by
 obtain ⟨a,c,rfl⟩:=Rs hB
 have HB:=Hj hB;clear hB
 go_enter Tryz.func73,Tryz.ntmps73
 go_wp2_with fail
 refine (from_any _ b _ _ hn HB.out).mono ?_
 rintro e w' ⟨rfl,rfl⟩
 go_wp2_with fail
 refine (eight_any _ _ hn).mono ?_
 rintro e w1 ⟨v,rfl,hown,hb⟩
 have HE:=Hj (Bytes.of_own (F:=[]) hown rfl)
 clear hown
 go_wp2_with fail
 refine (from_any _ _ _ _ (by simp[eb]) HE.out).mono ?_
 rintro e w' ⟨rfl,rfl⟩
 go_wp2
 go_ret
 exact ⟨rfl,hb⟩
end Go.Proofs.YtipiofgdjbogiaaGreat
namespace Go.Im
open Go Go.Txt Go.RowKit Go.Bs Go.Cl Go.Rw Go.Un
structure Ps where
 image:List UInt8
 ver:Nat
 inst:Bool
 next:List UInt8
 done:Nat
def Ps.work (s:Ps):List UInt8:=if s.inst then wk s.image s.next s.done else s.image
def Ps.chs (s:Ps):List (Nat×List UInt8):=if s.inst then dif s.image s.next else []
def Ps.steps (s:Ps):Nat:=if s.inst then tot s.image s.next else 0
structure Ps.Good (s:Ps):Prop where
 il:s.image.length≤24000
 nl:s.next.length≤24000
 vl:s.ver≤1000000
 dl:s.done≤s.steps
 off:s.inst=false→s.next=[]
theorem Ps.Good.wl {s:Ps} (h:s.Good):s.work.length≤24000:=by
 unfold Ps.work;split
 ·exact wk_le h.il h.nl _
 exact h.il
theorem tot_le1000 {a b:List UInt8} (hb:b.length≤24000):tot a b≤1000:=by have:=tot_le a b;unfold cnt at this;omega
theorem Ps.Good.sl {s:Ps} (h:s.Good):s.steps≤1000:=by
 unfold Ps.steps;split
 ·exact tot_le1000 h.nl
 omega
def SF (base g h:Nat) (iv rv:Value):List Nat:=(g::LogF h iv rv)++List.range base
structure StB (w:World) (base g h:Nat) (iv rv imv nxv chv:Value) (rz:Bool) (rs:List (Rec×Value)) (s:Ps):Prop where
 good:s.Good
 hg:base≤g
 hc:w.heap[g]? =some (.cells #[.pointer (some ⟨h,0,none⟩),imv,nxv,chv,.bool rz,.int .i64 s.done,.int .i64 s.steps,.int .i64 s.ver,.int .u64 (sumOf s.image)] 136 (0,0))
 hl:LogAt w base h iv rv s.work rs s.inst
 hn:g∉LogF h iv rv
 hi:Bytes (SF base g h iv rv) w imv s.image
 hx:Bytes (SF base g h iv rv) w nxv s.next
 hch:ChR (SF base g h iv rv) w chv s.chs
 hr:∀p∈rs,Bytes [g] w p.2 p.1.old
 ok:∀p∈rs,p.1.ok=true
 tk:takeAll s.work (rs.map (·.1))=s.image
 rl:rs.length=s.done
 rzv:s.inst=true→rz=rzb s.image s.next
def StAt (w:World) (base g h:Nat) (iv rv:Value) (s:Ps):Prop:=∃imv nxv chv rz rs,StB w base g h iv rv imv nxv chv rz rs s
def StQ (w:World) (base g h:Nat) (iv rv:Value) (s:Ps) (w':World):Prop:=∃iv' rv',StAt w' base g h iv' rv' s∧Keep (g::LogF h iv rv) w w'∧∀f∈LogF h iv' rv',f∈LogF h iv rv∨w.heap.size≤f
variable {w w':World} {base g h:Nat} {iv rv imv nxv chv:Value} {rz:Bool} {rs:List (Rec×Value)} {s:Ps}
theorem ChR.keepc {F F' G:List Nat} {v:Value} {l:List (Nat×List UInt8)} (h:ChR F w v l) (hk:Keep G w w') (hG:∀f∈G,f∈F∨w.heap.size≤f) (hF:∀f∈F',f∈F∨w.heap.size≤f):ChR F' w' v l:=by
 obtain ⟨cs,h1,h2,h3⟩:=h
 exact ⟨cs,h1,Raw.keep h2 hk hG hF,fun p hp=>Raw.keep (h3 p hp) hk hG hF⟩
theorem ChR.slicec {F:List Nat} {v:Value} {l:List (Nat×List UInt8)} (h:ChR F w v l):∃a c,v= .slice a l.length c:=by
 obtain ⟨cs,rfl,h2,_⟩:=h
 obtain ⟨a,c,rfl⟩:=Rs h2
 exact ⟨a,c,by simp⟩
theorem ChR.nil (F:List Nat) (w:World):ChR F w (.slice none 0 0) []:=⟨[],rfl,Raw.empty _ _ _,fun p hp=>by cases hp⟩
theorem StB.lt (H:StB w base g h iv rv imv nxv chv rz rs s):g<w.heap.size:=(Al H.hc)
theorem StB.bs (H:StB w base g h iv rv imv nxv chv rz rs s):base≤w.heap.size:=by have:=H.hg;have:=H.lt;omega
theorem StB.fbase (H:StB w base g h iv rv imv nxv chv rz rs s):∀f∈g::LogF h iv rv,base≤f∧f<w.heap.size:=fun f hf=>by
 rcases List.mem_cons.1 hf with rfl | hf
 ·exact ⟨H.hg,H.lt⟩
 exact H.hl.fbase f hf
theorem mem_sf {f:Nat} (hf:f∈g::LogF h iv rv):f∈SF base g h iv rv:=List.mem_append_left _ hf
theorem StB.sbase (H:StB w base g h iv rv imv nxv chv rz rs s):∀f∈SF base g h iv rv,f<w.heap.size:=fun f hf=>by
 rcases List.mem_append.1 hf with hf | hf
 ·exact (H.fbase f hf).2
 have:=List.mem_range.1 hf;have:=H.bs;omega
theorem StB.below (H:StB w base g h iv rv imv nxv chv rz rs s) (hb:Below w.heap.size w w'):StB w' base g h iv rv imv nxv chv rz rs s:=
 {good:=H.good,hg:=H.hg,hc:=(hb.block g H.lt).trans H.hc,hl:=H.hl.below hb,hn:=H.hn,hi:=Rb H.hi hb,hx:=Rb H.hx hb,
  hch:=H.hch.keepc (Keep.of_below' (F:=[]) hb) (fun f hf=>by cases hf) (fun f hf=> .inl hf),hr:=fun p hp=>Rb (H.hr p hp) hb,ok:=H.ok,tk:=H.tk,rl:=H.rl,rzv:=H.rzv}
theorem StAt.below (H:StAt w base g h iv rv s) (hb:Below w.heap.size w w'):StAt w' base g h iv rv s:=by
 obtain ⟨a,b,c,d,e,H⟩:=H
 exact ⟨a,b,c,d,e,H.below hb⟩
theorem StQ.same (H:StAt w base g h iv rv s) (hb:Below w.heap.size w w'):StQ w base g h iv rv s w':=⟨iv,rv,H.below hb,Keep.of_below' hb,fun _ hf=> .inl hf⟩
theorem LogAt.beside {img:List UInt8} {o:Bool} (H:LogAt w base h iv rv img rs o) (hk:Keep [g] w w') (hn:g∉LogF h iv rv) (hr:∀p∈rs,Bytes [g] w p.2 p.1.old):LogAt w' base h iv rv img rs o:=
 ⟨H.hg,(hk.block h H.lt (fun hm=>hn (by rw[List.mem_singleton] at hm;simp[LogF,hm]))).trans H.hc,
  own_keep H.hi hk (fun r hr' hm=>hn (by rw[List.mem_singleton] at hm;subst hm;simp[LogF,hr'])),
  H.hr.keep hk (fun r hr' hm=>hn (by rw[List.mem_singleton] at hm;subst hm;simp[LogF,hr'])),
  fun p hp=>Raw.keep (Raw.both (H.hb p hp) (hr p hp)) hk (fun f hf=> .inl (List.mem_append_right _ hf)) (fun f hf=> .inl (List.mem_append_left _ hf))⟩
def puts (w:World) (g:Nat) (l:List (Nat×Value)):World:=l.foldl (fun w p=>w.setCell ⟨g,p.1,none⟩ p.2) w
theorem puts_at:∀(l:List (Nat×Value)) {w:World} {g:Nat} {xs:Array Value} {t:TypeId},w.heap[g]? =some (.cells xs t (0,0))→
  (puts w g l).heap[g]? =some (.cells (l.foldl (fun xs p=>xs.setIfInBounds p.1 p.2) xs) t (0,0))∧Keep [g] w (puts w g l)
 | [],w,g,xs,t,h=>⟨h,Keep.refl _ _⟩
 | p::l,w,g,xs,t,h=>by
  have h1:(w.setCell ⟨g,p.1,none⟩ p.2).heap[g]? =some (.cells (xs.setIfInBounds p.1 p.2) t (0,0)):=by
   simp only[World.setCell,Array.getElem?_modify]
   simp[h]
  obtain ⟨h2,h3⟩:=puts_at l h1
  exact ⟨h2,((Keep.refl [g] w).setCell (by simp) _).trans h3 (fun f hf=> .inl hf)⟩
theorem puts_size (l:List (Nat×Value)) (w:World) (g:Nat):(puts w g l).heap.size=w.heap.size:=by
 induction l generalizing w with
 | nil=>rfl
 | cons p l ih=>show (puts (w.setCell ⟨g,p.1,none⟩ p.2) g l).heap.size=_;rw[ih];simp[World.setCell]
end Go.Im
namespace Go.Proofs.YtipiofgdjbogiaaGreat
open Go.Txt Go.RowKit Go.Bs Go.Cl Go.Rw Go.Un Go.Im
theorem stnew_any (bv:Value) (b:List UInt8) (w:World) (hb:b.length≤24000) (hB:Bytes [] w bv b):
  Calls Tryz.prog 30 #[bv] w fun e w'=>∃g h iv,e= .returned (.tuple #[.pointer (some ⟨g,0,none⟩),.int .i64 0])∧StAt w' w.heap.size g h iv (.slice none 0 0) ⟨b,0,false,[],0⟩∧Below w.heap.size w w':=by
 obtain ⟨ba,bc,rfl⟩:=Rs hB
 have HB:=Hj hB;clear hB
 go_enter Tryz.func30,Tryz.ntmps30
 go_wp2_with fail
 refine (new_any _ b _ hb HB.out).mono ?_
 rintro e w1 ⟨h,iv,rfl,hL,hb1⟩
 have HL:=Hj hL;have HB1:=Hj hb1
 clear hL hb1
 go_wp2_with fail
 refine (clone33 _ (by omega) (Rb HB.out HB1.out)).mono ?_
 rintro e w2 ⟨v2,rfl,hown2,hb2⟩
 obtain ⟨va,vc,rfl⟩:=Oq hown2
 have HO2:=Hj hown2;have HB2:=Hj hb2
 clear hown2 hb2
 go_wp2_with fail
 refine (of_any (F:=[]) _ b _ (by omega) (Rb (Rb HB.out HB1.out) HB2.out)).mono ?_
 rintro e w3 ⟨rfl,hb3⟩
 have HB3:=Hj hb3
 clear hb3
 go_wp2
 go_ret2
 have s1:=HB1.out.size;have s2:=HB2.out.size;have s3:=HB3.out.size
 have al:=(Br w3.heap.size w3).alloc (Nr _) (.cells #[.pointer (some ⟨h,0,none⟩),.slice va b.length vc,.slice none 0 0,.slice none 0 0,.bool false,.int .i64 0,.int .i64 0,.int .i64 0,.int .u64 (sumOf b)] 136)
 have hL3:=(HL.out.below HB2.out).below HB3.out
 have hlf:=HL.out.fbase
 have hgn:w3.heap.size∉LogF h iv (.slice none 0 0):=fun hm=>by have:=(hlf _ hm).2;omega
 have hb1:Bytes (SF w.heap.size w3.heap.size h iv (.slice none 0 0)) (w3.alloc (.cells #[.pointer (some ⟨h,0,none⟩),.slice va b.length vc,.slice none 0 0,.slice none 0 0,.bool false,.int .i64 0,.int .i64 0,.int .i64 0,.int .u64 (sumOf b)] 136)) (.slice va b.length vc) b:=by
  have k1:Bytes (LogF h iv (.slice none 0 0)++List.range w.heap.size) w2 (.slice va b.length vc) b:=Bytes.row HO2.out rfl (fun f hf=>by
   rcases List.mem_append.1 hf with hf | hf
   ·exact (hlf f hf).2
   have:=List.mem_range.1 hf;omega)
  refine Raw.keep (Rb k1 HB3.out) (Keep.of_below' (F:=[]) al) (fun f hf=>by cases hf) (fun f hf=> ?_)
  rcases List.mem_append.1 hf with hf | hf
  ·rcases List.mem_cons.1 hf with rfl | hf
   ·exact .inr (Nr _)
   exact .inl (List.mem_append_left _ hf)
  exact .inl (List.mem_append_right _ hf)
 refine ⟨w3.heap.size,h,iv,rfl,⟨_,_,_,false,[],{good:=⟨hb,by simp,by simp,by simp[Ps.steps],fun _=>rfl⟩,hg:=by omega,hc:=heap_alloc_new w3 _,hl:= ?_,hn:=hgn,hi:=hb1,hx:=Raw.empty _ _ _,hch:=ChR.nil _ _,hr:=(fun p hp=>by cases hp),ok:=(fun p hp=>by cases hp),tk:=rfl,rl:=rfl,rzv:=(fun h=>by cases h)}⟩, ?_⟩
 ·exact hL3.below al
 exact ((HB1.out.trans (HB2.out.mono s1)).trans (HB3.out.mono (by omega))).trans (al.mono (by omega))
theorem inst_any {base g h:Nat} {iv rv:Value} {s:Ps} (w:World) (H:StAt w base g h iv rv s):
  Calls Tryz.prog 74 #[.pointer (some ⟨g,0,none⟩)] w fun e w'=>e= .returned (.bool s.inst)∧w=w':=by
 obtain ⟨imv,nxv,chv,rz,rs,H⟩:=H
 have c0:=Bj H.hc 0 rfl
 have HL:=Hj H.hl
 clear H
 go_enter Tryz.func74,Tryz.ntmps74
 go_wp2_with fail
 refine (open_any _ HL.out).mono ?_
 rintro e w1 ⟨rfl,rfl⟩
 go_wp2
 go_ret
 exact ⟨rfl,rfl⟩
theorem ver_any {base g h:Nat} {iv rv:Value} {s:Ps} (w:World) (H:StAt w base g h iv rv s):
  Calls Tryz.prog 64 #[.pointer (some ⟨g,0,none⟩)] w fun e w'=>e= .returned (.int .i64 s.ver)∧w=w':=by
 obtain ⟨imv,nxv,chv,rz,rs,H⟩:=H
 have c0:=Bj H.hc 7 rfl
 clear H
 go_enter Tryz.func64,Tryz.ntmps64
 go_wp2
 go_ret
 exact ⟨rfl,rfl⟩
theorem img_any {base g h:Nat} {iv rv:Value} {s:Ps} (w:World) (H:StAt w base g h iv rv s):
  Calls Tryz.prog 38 #[.pointer (some ⟨g,0,none⟩)] w fun e w'=>∃v,e= .returned v∧w'.ownsRow w.heap.size 5 1 v s.image.length (bytesV s.image)∧Below w.heap.size w w':=by
 obtain ⟨imv,nxv,chv,rz,rs,H⟩:=H
 have c0:=Bj H.hc 1 rfl
 have hl:s.image.length≤1000000:=by have:=H.good.il;omega
 have HB:=Hj H.hi
 obtain ⟨a,c,rfl⟩:=Rs H.hi
 clear H
 go_enter Tryz.func38,Tryz.ntmps38
 go_wp2_with fail
 refine (clone33 _ hl HB.out).mono ?_
 rintro e w1 ⟨v1,rfl,hown,hb⟩
 have HO:=Hj hown
 obtain ⟨a1,c1,rfl⟩:=Oq hown
 clear hown
 go_wp2
 go_ret
 exact ⟨_,rfl,HO.out,hb⟩
end Go.Proofs.YtipiofgdjbogiaaGreat
namespace Go.Im
open Go Go.Txt Go.RowKit Go.Bs Go.Cl Go.Rw Go.Un
variable {w w':World} {base g h:Nat} {iv rv imv nxv chv:Value} {rz:Bool} {rs:List (Rec×Value)} {s:Ps}
theorem StB.nil_of (H:StB w base g h iv rv imv nxv chv rz rs s) (hs:s.inst=false):rs=[]∧s.done=0∧s.next=[]:=by
 have h1:=H.good.dl
 have h2:s.steps=0:=by simp[Ps.steps,hs]
 have h3:=H.rl
 exact ⟨List.eq_nil_of_length_eq_zero (by omega),by omega,H.good.off hs⟩
theorem same_put' {q p j:Nat} {u w:World} {v:Value} (h:SameB [q] u w) (hne:q≠p):SameB [q] u (w.setCell ⟨p,j,none⟩ v):=
 same_keep h ((Keep.refl [p] w).setCell (by simp) _) (fun x hx hm=>by rw[List.mem_singleton] at hx hm;exact hne (hx.symm.trans hm))
theorem st_begun {u w2 w3 X:World} {cv v3:Value} {b:List UInt8} (H:StB w base g h iv rv imv nxv chv rz rs s) (hs:s.inst=false) (hb:b.length≤24000) (hU:Below w.heap.size w u) (hch:ChR (SF base g h iv rv) u cv (dif s.image b))
  (hL:LogAt w2 base h iv rv s.work rs true) (hk2:Keep [h] u w2) (h3:Below w2.heap.size w2 w3) (hown:w3.ownsRow w2.heap.size 5 1 v3 b.length (bytesV b))
  (hX:X.heap[g]? =some (.cells #[.pointer (some ⟨h,0,none⟩),imv,v3,cv,.bool (rzb s.image b),.int .i64 (0:Nat),.int .i64 (tot s.image b),.int .i64 s.ver,.int .u64 (sumOf s.image)] 136 (0,0))) (hkX:Keep [g] w3 X):
  StQ w base g h iv rv ⟨s.image,s.ver,true,b,0⟩ X:=by
 obtain ⟨hr,hd,hn⟩:=H.nil_of hs
 subst hr
 have inh:∀f∈[h],f∈g::LogF h iv rv:=fun f hf=>by rw[M1' hf];simp[LogF]
 have ing:∀f∈[g],f∈g::LogF h iv rv:=fun f hf=>by rw[M1' hf];simp
 have kuX:Keep (g::LogF h iv rv) u X:=((hk2.mono (fun f hf=> .inl (inh f hf))).trans (Keep.of_below' (F:=[]) h3) (fun f hf=>by cases hf)).trans hkX (fun f hf=> .inl (ing f hf))
 have kAll:Keep (g::LogF h iv rv) w X:=(Keep.of_below' hU).trans kuX (fun f hf=> .inl hf)
 have hw:s.work=s.image:=by simp[Ps.work,hs]
 have hw2:(⟨s.image,s.ver,true,b,0⟩:Ps).work=s.image:=wk_zero _ _
 rw[hw] at hL
 have hL3:=LogAt.beside (hL.below h3) hkX H.hn (fun p hp=>by cases hp)
 have hsu:=hU.size;have hs2:=hk2.size
 refine ⟨iv,rv,⟨imv,v3,cv,rzb s.image b,[],{good:=⟨H.good.il,hb,H.good.vl,Nat.zero_le _,fun h=>by cases h⟩,hg:=H.hg,hc:=hX,hl:=by rw[hw2];exact hL3,hn:=H.hn,hi:=Raw.keep H.hi kAll (fun f hf=> .inl (mem_sf hf)) (fun f hf=> .inl hf),hx:= ?_,hch:=ChR.keepc hch kuX (fun f hf=> .inl (mem_sf hf)) (fun f hf=> .inl hf),hr:=(fun p hp=>by cases hp),ok:=(fun p hp=>by cases hp),tk:=hw2,rl:=rfl,rzv:=fun _=>rfl}⟩,kAll,fun f hf=> .inl hf⟩
 have h1:Bytes (SF base g h iv rv) w3 v3 b:=Bytes.row hown rfl (fun f hf=>by have:=H.sbase f hf;omega)
 exact Raw.keep h1 hkX (fun f hf=> .inl (mem_sf (ing f hf))) (fun f hf=> .inl hf)
end Go.Im
namespace Go.Proofs.YtipiofgdjbogiaaGreat
open Go.Txt Go.RowKit Go.Bs Go.Cl Go.Rw Go.Un Go.Im
theorem stbegin_yes {base g h:Nat} {iv rv:Value} {s:Ps} (bv:Value) (b:List UInt8) (w:World) (H:StAt w base g h iv rv s) (hs:s.inst=false) (hb:b.length≤24000) (hB:Bytes (g::LogF h iv rv) w bv b):
  Calls Tryz.prog 75 #[.pointer (some ⟨g,0,none⟩),bv] w fun e w'=>e= .returned (.tuple #[.int .i64 (tot s.image b),.int .i64 0])∧StQ w base g h iv rv ⟨s.image,s.ver,true,b,0⟩ w':=by
 have HI:=Hj (inst_any w H)
 obtain ⟨imv,nxv,chv,rz,rs,H⟩:=H
 obtain ⟨image,ver,inst,next,done⟩:=s
 simp only at hs
 subst hs
 obtain ⟨_,hd,hnx⟩:=H.nil_of rfl
 simp only at hd hnx HI
 subst hd hnx
 have hil:image.length≤24000:=H.good.il
 have hvl:(ver:Int)≤1000000:=by have:=H.good.vl;simp only at this;omega
 obtain ⟨ia,ic,rfl⟩:=Rs H.hi
 obtain ⟨ba,bc,rfl⟩:=Rs hB
 have HS:=Hj H
 have HBw:=Hj hB
 have hgw:=H.lt
 have c1:=Bj H.hc 1 rfl
 have hbl:(b.length:Int)≤24000:=by omega
 obtain ⟨T,hT⟩:∃T,T=tot image b:=⟨_,rfl⟩
 obtain ⟨L,hL⟩:∃L,L=(dif image b).length:=⟨_,rfl⟩
 have hLs:L≤1000:=by rw[hL];have:=dif_len image b;unfold cnt at this;omega
 obtain ⟨z,hz⟩:∃z,z=rzb image b:=⟨_,rfl⟩
 have hzn:((b.length:Int) != (image.length:Int))=z:=by
  rw[hz];unfold rzb;by_cases e:b.length=image.length
  ·simp[e]
  simp[e];omega
 have hTL:T=L+z.toNat:=by rw[hT,hL,hz,←rzn_of];rfl
 have HT:=Hj hT;have HLn:=Hj hL;have HZ:=Hj hz;have HTL:=Hj hTL
 have HH:=Hj (show g≠h from fun e=>H.hn (by simp[LogF,e]))
 simp only
 rw[←hT]
 clear H hB hT hL hz hTL
 go_enter Tryz.func75,Tryz.ntmps75
 go_wp2_with fail
 refine HI.out.mono ?_
 rintro e w' ⟨rfl,rfl⟩
 go_wp2_with fail
 refine (diff_any (F:=[]) _ _ image b _ hil hb (Raw.keep (F':=[]) HS.out.hi (Keep.refl [] _) (by simp) (by simp)) (Raw.keep (F':=[]) HBw.out (Keep.refl [] _) (by simp) (by simp))).mono ?_
 rintro e w1 ⟨cv,rfl,hch,hb1⟩
 obtain ⟨ca,cc,rfl⟩:=hch.slicec
 rw[←HLn.out] at hch⊢
 have al:=(Br w1.heap.size w1).alloc (Nr _) (.cells #[.int .i64 b.length,.slice ca L cc] 183)
 obtain ⟨u,hu⟩:∃u,u=w1.alloc (.cells #[.int .i64 b.length,.slice ca L cc] 183):=⟨_,rfl⟩
 obtain ⟨q,hq⟩:∃q,q=w1.heap.size:=⟨_,rfl⟩
 have HU:Hid (Below w.heap.size w u):=Hj (by rw[hu];exact hb1.trans (al.mono hb1.size))
 have HQ:Hid (u.heap[q]? =some (.cells #[.int .i64 b.length,.slice ca L cc] 183 (0,0))):=Hj (by rw[hu,hq];exact heap_alloc_new w1 _)
 have HC:Hid (ChR (SF base g h iv rv) u (.slice ca L cc) (dif image b)):=Hj (by
  obtain ⟨cs,k1,k2,k3⟩:=hch
  have lt:=HS.out.sbase
  rw[hu]
  exact ChR.keepc (F:=SF base g h iv rv) ⟨cs,k1,Raw.apart k2 lt,fun p hp=>Raw.apart (k3 p hp) lt⟩ (Keep.of_below' (F:=[]) al) (fun f hf=>by cases hf) (fun f hf=> .inl hf))
 have HQG:Hid (q≠g∧q≠h):=Hj (by
  have s1:=hb1.size
  have l2:=HS.out.hl.lt
  constructor <;> omega)
 have HSu:=Hj (HS.out.below HU.out)
 have hcu0:=Bj HSu.out.hc 0 rfl
 have HUE:=Hj hu;have HQE:=Hj hq
 clear hch hb1 al hu hq c1
 go_upto_region 6 with (fail)
 rw[←HUE.out,←HQE.out]
 go_wp2_with fail
 refine (begin_any _ HSu.out.hl).mono ?_
 rintro e w2 ⟨rfl,hL2,hk2⟩
 have HL2:=Hj hL2;have HK2:=Hj hk2
 have HG2:=Hj ((hk2.block g (Al HSu.out.hc) (by simpa using HH.out)).trans HSu.out.hc)
 have HQ2:=Hj ((hk2.block q (Al HQ.out) (by simpa using HQG.out.2)).trans HQ.out)
 have inh:Hid (∀f∈[h],f∈g::LogF h iv rv∨u.heap.size≤f):=Hj (fun f hf=> .inl (by rw[M1' hf];simp[LogF]))
 have HB2:=Hj (Raw.keep (F':=[]) (Rb HBw.out HU.out) hk2 inh.out (by simp))
 have hBl:∀x∈[q],∃c e f,w2.heap[x]? =some (.cells c e f):=fun x hx=>by rw[M1' hx];exact ⟨_,_,_,HQ2.out⟩
 have HS0:=Hj (same_start hBl)
 have q1:w2.cell? ⟨q,1,none⟩=some (.slice ca L cc):=Bj HQ2.out 1 rfl
 clear hL2 hk2 hcu0
 go_upto_region 7 with (fail)
 refine Ty.wp_tree [q] [6] [12,15] [6] [0,1,2,3,5,6] (.alt [4,7,8] (.alt [9,10,11] (.alt [12,13,14] (.alt [15] (.done) (.no)) (.no)) (.no)) (.no)) (by kernel_rfl) (by kernel_rfl) (by kernel_rfl) (by kernel_rfl) hBl ?_
 clear hBl
 try simp only[pick,Gs,Gz]
 go_wp2
 refine Rm ?_
 refine Wq ?_
 try simp only[pick,Gs,Gz]
 go_wp2_with fail
 refine (clone33 _ (by omega) (Raw.drew HB2.out)).mono ?_
 rintro e w3 ⟨v3,rfl,hown3,hb3⟩
 obtain ⟨va,vc,rfl⟩:=Oq hown3
 have HB3:Hid (Below w2.heap.size w2 w3):=Hj ((Br w2.heap.size w2).drew.trans hb3)
 have HO3:=Hj hown3
 have HS3:=Hj (same_below' HS0.out hb3)
 have HG3:=Hj ((HB3.out.block g (Al HG2.out)).trans HG2.out)
 have f2:=Bf HG3.out 2
 have f3:=Bf HG3.out 3
 have f5:=Bf HG3.out 5
 have c2:=Bj HG3.out 2 rfl
 have c3:=Bj HG3.out 3 rfl
 have c5:=Bj HG3.out 5 rfl
 clear hb3 hown3 q1
 go_wp2
 refine Sm (Ss HS3.out) ?_
 try simp only[pick,Gs,Gz]
 go_wp2
 refine Rm ?_
 refine Wq ?_
 try simp only[pick,Gs,Gz]
 go_wp2
 refine Sm (Ss (same_put' HS3.out HQG.out.1)) ?_
 try simp only[pick,Gs,Gz]
 go_wp2
 refine Rm ?_
 refine Wq ?_
 try simp only[pick,Gs,Gz]
 go_wp2
 refine Sm (Ty.Shown.last rfl) ?_
 try simp only[pick,Gs,Gz]
 go_wp2
 refine Rm ?_
 refine Wq ?_
 try simp only[pick,Gs,Gz]
 go_wp2
 refine Sm (Ty.Shown.last rfl) ?_
 try simp only[pick,Gs,Gz]
 refine Rm ?_
 refine Wd (by rfl) ⟨.head _,trivial⟩ ?_
 go_upto_region 8 with (fail)
 obtain ⟨X,hX⟩:∃X,X=((w3.setCell ⟨g,2,none⟩ (.slice va b.length vc)).setCell ⟨g,3,none⟩ (.slice ca L cc)).setCell ⟨g,5,none⟩ (.int .i64 0):=⟨_,rfl⟩
 rw[←hX]
 obtain ⟨hgX,hkX⟩:=puts_at [(2,.slice va b.length vc),(3,.slice ca L cc),(5,.int .i64 0)] HG3.out
 have eX:puts w3 g [(2,.slice va b.length vc),(3,.slice ca L cc),(5,.int .i64 0)]=X:=hX.symm
 rw[eX] at hgX hkX
 have HGX:Hid (X.heap[g]? =some (.cells #[.pointer (some ⟨h,0,none⟩),.slice ia image.length ic,.slice va b.length vc,.slice ca L cc,.bool rz,.int .i64 0,.int .i64 0,.int .i64 ver,.int .u64 (sumOf image)] 136 (0,0))):=Hj hgX
 have HKX:=Hj hkX
 have HQX:=Hj ((hkX.block q (Array.getElem?_eq_some_iff.1 (HB3.out.block q (Al HQ2.out) |>.trans HQ2.out)).1 (by simpa using HQG.out.1)).trans ((HB3.out.block q (Al HQ2.out)).trans HQ2.out))
 have hBl:∀x∈[q],∃c e f,X.heap[x]? =some (.cells c e f):=fun x hx=>by rw[M1' hx];exact ⟨_,_,_,HQX.out⟩
 have HSX:=Hj (same_start hBl)
 clear hgX hkX hX eX c2 c3 c5 f2 f3 f5
 have q1:X.cell? ⟨q,1,none⟩=some (.slice ca L cc):=Bj HQX.out 1 rfl
 have c1:X.cell? ⟨g,1,none⟩=some (.slice ia image.length ic):=Bj HGX.out 1 rfl
 have c4:X.cell? ⟨g,4,none⟩=some (.bool rz):=Bj HGX.out 4 rfl
 have c6:X.cell? ⟨g,6,none⟩=some (.int .i64 0):=Bj HGX.out 6 rfl
 have f4:=Bf HGX.out 4
 have f6:=Bf HGX.out 6
 refine Ty.wp_tree [q] [11] [18] [7,11] [0,1,2,3,4,5,6,7,8,9,10,11,12,13,14] (.alt [15,16,17] (.alt [18] (.done) (.no)) (.no)) (by kernel_rfl) (by kernel_rfl) (by kernel_rfl) (by kernel_rfl) hBl ?_
 clear hBl
 try simp only[pick,Gs,Gz]
 go_wp2
 refine Rm ?_
 refine Wq ?_
 try simp only[pick,Gs,Gz]
 go_wp2
 refine Sm (Ss (same_put' HSX.out HQG.out.1)) ?_
 try simp only[pick,Gs,Gz]
 go_wp2
 refine Rm ?_
 refine Wq ?_
 try simp only[pick,Gs,Gz]
 go_wp2
 refine Sm (Ty.Shown.last rfl) ?_
 try simp only[pick,Gs,Gz]
 refine Rm ?_
 refine Wd (by rfl) ⟨.head _,trivial⟩ ?_
 go_upto_region 9 with (fail)
 first | rw[hzn] | skip
 obtain ⟨Y,hY⟩:∃Y,Y=((X.setCell ⟨g,4,none⟩ (.bool z)).setCell ⟨g,6,none⟩ (.int .i64 L)).drew:=⟨_,rfl⟩
 rw[←hY]
 obtain ⟨hgY,hkY⟩:=puts_at [(4,.bool z),(6,.int .i64 L)] HGX.out
 have hkY':Keep [g] X Y:=by rw[hY];exact Keep.drew hkY
 have hgY':Y.heap[g]? =some (.cells #[.pointer (some ⟨h,0,none⟩),.slice ia image.length ic,.slice va b.length vc,.slice ca L cc,.bool z,.int .i64 0,.int .i64 L,.int .i64 ver,.int .u64 (sumOf image)] 136 (0,0)):=by rw[hY];exact hgY
 have HGY:=Hj hgY'
 have HKY:=Hj (HKX.out.trans hkY' (fun f hf=> .inl hf))
 have c4:Y.cell? ⟨g,4,none⟩=some (.bool z):=Bj HGY.out 4 rfl
 have c6:Y.cell? ⟨g,6,none⟩=some (.int .i64 L):=Bj HGY.out 6 rfl
 have f6:=Bf HGY.out 6
 clear hgY hgY' hkY hkY' hY c1 q1 f4
 have hLi:(L:Int)≤1000:=by omega
 have fin:=fun (Z:World) (hkZ:Keep [g] Y Z) (hZ:Z.heap[g]? =some (.cells #[.pointer (some ⟨h,0,none⟩),.slice ia image.length ic,.slice va b.length vc,.slice ca L cc,.bool z,.int .i64 0,.int .i64 T,.int .i64 ver,.int .u64 (sumOf image)] 136 (0,0)))=>
  st_begun (X:=Z) HS.out rfl hb HU.out HC.out HL2.out HK2.out HB3.out HO3.out (by rw[HT.out,HZ.out] at*;exact hZ) (HKY.out.trans hkZ (fun f hf=> .inl hf))
 have HF:=Hj fin
 clear fin
 cases z
 ·have hTL:T=L:=by have:=HTL.out;simpa using this
  subst hTL
  go_wp2
  go_ret2
  exact ⟨rfl,HF.out _ (Keep.refl _ _) HGY.out⟩
 have hTL:T=L+1:=by have:=HTL.out;simpa using this
 have HTe:=Hj hTL
 clear hTL
 go_wp2
 go_ret2
 have hTi:(T:Int)=(L:Int)+1:=by have:=HTe.out;omega
 refine ⟨by rw[hTi];rfl,HF.out _ (puts_at [(6,.int .i64 ((L:Int)+1))] HGY.out).2 (by rw[hTi];exact (puts_at [(6,.int .i64 ((L:Int)+1))] HGY.out).1)⟩
theorem stbegin_no {base g h:Nat} {iv rv:Value} {s:Ps} (bv:Value) (w:World) (H:StAt w base g h iv rv s) (hs:s.inst=true):
  Calls Tryz.prog 75 #[.pointer (some ⟨g,0,none⟩),bv] w fun e w'=>e= .returned (.tuple #[.int .i64 0,.int .i64 7])∧w=w':=by
 have HI:=Hj (inst_any w H)
 rw[hs] at HI
 clear H hs
 go_enter Tryz.func75,Tryz.ntmps75
 go_wp2_with fail
 refine HI.out.mono ?_
 rintro e w' ⟨rfl,rfl⟩
 go_wp2
 go_ret2
 exact ⟨rfl,rfl⟩
open Go.Txt Go.RowKit Go.Bs Go.Cl Go.Rw Go.Un Go.Im
variable {w w':World} {base g h:Nat} {iv rv imv nxv chv:Value} {rz:Bool} {rs:List (Rec×Value)} {s:Ps}
theorem st_after {w2 X:World} {s':Ps} {rs':List Rec} {imv' nxv' chv':Value} {rz':Bool} (H:StB w base g h iv rv imv nxv chv rz rs s) (hP:StepP w base h iv rv rs s'.work rs' s'.inst w2)
  (hX:X.heap[g]? =some (.cells #[.pointer (some ⟨h,0,none⟩),imv',nxv',chv',.bool rz',.int .i64 s'.done,.int .i64 s'.steps,.int .i64 s'.ver,.int .u64 (sumOf s'.image)] 136 (0,0))) (hk:Keep [g] w2 X) (good':s'.Good)
  (hi':Bytes (SF base g h iv rv) w imv' s'.image) (hx':Bytes (SF base g h iv rv) w nxv' s'.next) (hch':ChR (SF base g h iv rv) w chv' s'.chs)
  (ok':rs'.all Rec.ok=true) (tk':takeAll s'.work rs'=s'.image) (rl':rs'.length=s'.done) (rzv':s'.inst=true→rz'=rzb s'.image s'.next):StQ w base g h iv rv s' X:=by
 obtain ⟨iv',rv',rs2,rfl,hL,hk2,hF,hfr⟩:=hP
 have ing:∀f∈[g],f∈g::LogF h iv rv:=fun f hf=>by rw[M1' hf];simp
 have hlt:=H.lt
 have hn':g∉LogF h iv' rv':=fun hm=>by
  rcases hF g hm with h1 | h1
  ·exact H.hn h1
  omega
 have hr2:∀p∈rs2,Bytes [g] w2 p.2 p.1.old:=hfr [g] (fun f hf=>by rw[M1' hf];exact hlt) H.hr
 have kAll:Keep (g::LogF h iv rv) w X:=(hk2.mono (fun f hf=> .inl (List.mem_cons_of_mem _ hf))).trans hk (fun f hf=> .inl (ing f hf))
 have hF':∀f∈SF base g h iv' rv',f∈SF base g h iv rv∨w.heap.size≤f:=fun f hf=>by
  rcases List.mem_append.1 hf with hf | hf
  ·rcases List.mem_cons.1 hf with rfl | hf
   ·exact .inl (mem_sf (by simp))
   exact (hF f hf).imp (fun h=>mem_sf (List.mem_cons_of_mem _ h)) id
  exact .inl (List.mem_append_right _ hf)
 refine ⟨iv',rv',⟨imv',nxv',chv',rz',rs2,{good:=good',hg:=H.hg,hc:=hX,hl:=LogAt.beside hL hk hn' hr2,hn:=hn',hi:=Raw.keep hi' kAll (fun f hf=> .inl (mem_sf hf)) hF',hx:=Raw.keep hx' kAll (fun f hf=> .inl (mem_sf hf)) hF',hch:=ChR.keepc hch' kAll (fun f hf=> .inl (mem_sf hf)) hF',hr:=fun p hp=> ?_,ok:=fun p hp=>List.all_eq_true.1 ok' _ (List.mem_map_of_mem hp),tk:=tk',rl:=by simpa using rl',rzv:=rzv'}⟩,kAll,hF⟩
 have hb':=hL.hb p hp
 exact Raw.keep (F':=[g]) (hr2 p hp) hk (fun f hf=> .inl hf) (fun f hf=> .inl hf)
theorem StB.oks (H:StB w base g h iv rv imv nxv chv rz rs s):(rs.map (·.1)).all Rec.ok=true:=by
 rw[List.all_eq_true]
 intro x hx
 obtain ⟨p,hp,rfl⟩:=List.mem_map.1 hx
 exact H.ok p hp
theorem writeP_step {rs:List (Rec×Value)} {img:List UInt8} {off:Nat} {b:List UInt8} {e:Ending} (hP:WriteP w base h iv rv img rs off b e w'):
  StepP w base h iv rv rs (Un.written img off b) (rs.map (·.1)++[(⟨off,img.length,(img.take (off+b.length)).drop off⟩:Rec)]) true w':=by
 obtain ⟨_,rv',qv,h1,h2,h3,h4⟩:=hP
 exact ⟨iv,rv',_,by simp,h1,h2,h3,h4⟩
def stepped (s:Ps):Ps:={s with done:=s.done+1}
theorem stepped_good (hg:s.Good) (hi:s.inst=true) (hd:s.done<s.steps):(stepped s).Good:=
 ⟨hg.il,hg.nl,hg.vl,hd,fun h=>by rw[show (stepped s).inst=s.inst from rfl,hi] at h;cases h⟩
theorem stepped_size {img:List UInt8} {l:List Rec} (hi:s.inst=true) (hz:rzb s.image s.next=true) (hd:s.done=0) (hw:s.work=img) (hwl:img.length≤24000) (hok:l.all Rec.ok=true) (htk:takeAll img l=s.image):
  (stepped s).work=sized img s.next.length∧(l++[(⟨((min s.next.length img.length:Nat):Int),img.length,img.drop (min s.next.length img.length)⟩:Rec)]).all Rec.ok=true∧takeAll (sized img s.next.length) (l++[(⟨((min s.next.length img.length:Nat):Int),img.length,img.drop (min s.next.length img.length)⟩:Rec)])=s.image:=by
 have hu:=undoes_resize (img:=img) (n:=s.next.length) hwl
 refine ⟨?_, ?_, ?_⟩
 ·have e:(stepped s).work=wk s.image s.next (s.done+1):=by simp[Ps.work,stepped,hi]
  have e2:s.work=wk s.image s.next s.done:=by simp[Ps.work,hi]
  rw[e,hd,wk_one hz,←hw,e2,hd]
 ·simp[hok,hu.1]
 rw[takeAll_snoc,hu.2,htk]
theorem stepped_page {img:List UInt8} {l:List Rec} {c:Nat×List UInt8} (hi:s.inst=true) (hz:rzn s.image s.next≤s.done) (hc:(dif s.image s.next)[s.done - rzn s.image s.next]? =some c) (hw:s.work=img) (hwl:img.length≤24000) (hok:l.all Rec.ok=true) (htk:takeAll img l=s.image):
  c.1*128+c.2.length≤img.length∧(stepped s).work=Un.written img (c.1*128) c.2∧(l++[(⟨((c.1*128:Nat):Int),img.length,(img.take (c.1*128+c.2.length)).drop (c.1*128)⟩:Rec)]).all Rec.ok=true∧takeAll (Un.written img (c.1*128) c.2) (l++[(⟨((c.1*128:Nat):Int),img.length,(img.take (c.1*128+c.2.length)).drop (c.1*128)⟩:Rec)])=s.image:=by
 have e:(stepped s).work=wk s.image s.next (s.done+1):=by simp[Ps.work,stepped,hi]
 have e2:s.work=wk s.image s.next s.done:=by simp[Ps.work,hi]
 obtain ⟨h1,h2⟩:=wk_step hz hc
 rw[←e2,hw] at h1 h2
 have hu:=undoes_write (img:=img) (m:=c.1*128) (d:=c.2) hwl h2
 refine ⟨h2,by rw[e,h1], ?_, ?_⟩
 ·simp[hok];simpa using hu.1
 rw[takeAll_snoc,hu.2,htk]
theorem StQ_drew {X:World} (H:StQ w.drew base g h iv rv s X):StQ w base g h iv rv s X:=by
 obtain ⟨a,b,h1,h2,h3⟩:=H
 exact ⟨a,b,h1,⟨h2.os,h2.tape,h2.output,h2.size,h2.block⟩,h3⟩
theorem StQ_drewR {X:World} (H:StQ w base g h iv rv s X):StQ w base g h iv rv s X.drew:=by
 obtain ⟨a,b,h1,h2,h3⟩:=H
 exact ⟨a,b,h1.below (Br _ X).drew,h2.drew,h3⟩
theorem stepP_cell {w2:World} {img:List UInt8} {rs:List (Rec×Value)} {l:List Rec} {o:Bool} {A:Obj} (hP:StepP w base h iv rv rs img l o w2) (hn:g∉LogF h iv rv) (hA:w.heap[g]? =some A):w2.heap[g]? =some A:=by
 obtain ⟨_,_,_,_,_,hk,_⟩:=hP
 exact (hk.block g (Al hA) hn).trans hA
theorem ststep_no {base g h:Nat} {iv rv:Value} {s:Ps} (w:World) (H:StAt w base g h iv rv s) (hno:s.inst=false∨s.done=s.steps):
  Calls Tryz.prog 76 #[.pointer (some ⟨g,0,none⟩)] w fun e w'=>e= .returned (.tuple #[.int .i64 0,.int .i64 7])∧StQ w base g h iv rv s w':=by
 have HA:=Hj H
 have HI:=Hj (inst_any w.drew (H.below (Br _ w).drew))
 obtain ⟨imv,nxv,chv,rz,rs,H⟩:=H
 have c5:=Bj H.hc 5 rfl
 have c6:=Bj H.hc 6 rfl
 obtain ⟨dn,hdn⟩:∃n,n=s.done:=⟨_,rfl⟩
 obtain ⟨st,hst⟩:∃n,n=s.steps:=⟨_,rfl⟩
 obtain ⟨o,ho⟩:∃o,o=s.inst:=⟨_,rfl⟩
 rw[←hdn] at c5 hno
 rw[←hst] at c6 hno
 rw[←ho] at HI hno
 have hdl:dn≤st:=by rw[hdn,hst];exact H.good.dl
 clear H ho hdn hst
 cases o
 ·clear hno
  go_enter Tryz.func76,Tryz.ntmps76
  go_upto_region 1 with (fail)
  refine Ty.wp_tree [] [] [] [7,11] [0] (.alt [1,2,3,4,5,6,7,8,9,10,11,12,13] (.done) (.no)) (by kernel_rfl) (by kernel_rfl) (by kernel_rfl) (by kernel_rfl) (fun _ h=>by cases h) ?_
  try simp only[pick,Gs,Gz]
  go_wp2
  refine Rm ?_
  refine Wq ?_
  try simp only[pick,Gs,Gz]
  go_wp2_with fail
  refine HI.out.mono ?_
  rintro e w' ⟨rfl,rfl⟩
  go_wp2
  refine Sm Ty.Shown.none ?_
  try simp only[pick,Gs,Gz]
  go_wp2
  refine Rm ?_
  refine Wd (by rfl) trivial ?_
  go_wp2
  go_ret2
  exact ⟨rfl,StQ.same HA.out (Br _ w).drew⟩
 have hq:dn=st:=by rcases hno with h | h;cases h;exact h
 subst hq
 clear hno
 go_enter Tryz.func76,Tryz.ntmps76
 go_upto_region 1 with (fail)
 refine Ty.wp_tree [] [] [] [7,11] [0] (.alt [1,2,3,4,5,6,7,8,9,10,11,12,13] (.done) (.no)) (by kernel_rfl) (by kernel_rfl) (by kernel_rfl) (by kernel_rfl) (fun _ h=>by cases h) ?_
 try simp only[pick,Gs,Gz]
 go_wp2
 refine Rm ?_
 refine Wq ?_
 try simp only[pick,Gs,Gz]
 go_wp2_with fail
 refine HI.out.mono ?_
 rintro e w' ⟨rfl,rfl⟩
 go_wp2
 refine Sm Ty.Shown.none ?_
 try simp only[pick,Gs,Gz]
 go_wp2
 refine Rm ?_
 refine Wd (by rfl) trivial ?_
 go_wp2
 go_ret2
 exact ⟨rfl,StQ.same HA.out (Br _ w).drew⟩
theorem ststep_size {base g h:Nat} {iv rv:Value} {s:Ps} (w:World) (H:StAt w base g h iv rv s) (hi:s.inst=true) (hd:s.done<s.steps) (hz:rzb s.image s.next=true) (hd0:s.done=0):
  Calls Tryz.prog 76 #[.pointer (some ⟨g,0,none⟩)] w fun e w'=>e= .returned (.tuple #[.int .i64 ((s.steps - (s.done+1):Nat)),.int .i64 0])∧StQ w base g h iv rv (stepped s) w':=by
 have HI:=Hj (inst_any w.drew (H.below (Br _ w).drew))
 rw[hi] at HI
 obtain ⟨imv,nxv,chv,rz,rs,H⟩:=H
 have hrz:rz=true:=(H.rzv hi).trans hz
 subst hrz
 obtain ⟨na,nc,rfl⟩:=Rs H.hx
 have hnl:s.next.length≤24000:=H.good.nl
 obtain ⟨img,himg⟩:∃m,s.work=m:=⟨_,rfl⟩
 have hwl:img.length≤24000:=by rw[←himg];exact H.good.wl
 have hok:=StB.oks H
 obtain ⟨k1,k2,k3⟩:=stepped_size hi hz hd0 himg hwl hok (by rw[←himg];exact H.tk)
 have hl:=H.hl
 rw[himg,hi] at hl
 have HP:=Hj (resize_yes s.next.length w.drew.drew (hl.below (Br _ w).drew.drew) hwl (by rw[H.rl];have:=H.good.sl;have:=H.good.dl;omega) (by exact H.bs) hnl)
 have HC:=Hj H.hc
 rw[hd0] at HC
 obtain ⟨st,hst⟩:∃n,n=s.steps:=⟨_,rfl⟩
 have hst1:0<st:=by rw[hst];omega
 have hst2:st≤1000:=by rw[hst];exact H.good.sl
 rw[←hst] at HC
 have hsd:((0:Int)==(st:Int))=false:=by simp;omega
 have c0:=Bj HC.out 0 rfl
 have c2:=Bj HC.out 2 rfl
 have c4:=Bj HC.out 4 rfl
 have c5:=Bj HC.out 5 rfl
 have c6:=Bj HC.out 6 rfl
 have HS:=Hj H
 have HK:=Hj (And.intro k1 (And.intro k2 k3))
 have HG:=Hj (show g≠h from fun e=>H.hn (by simp[LogF,e]))
 have HST:=Hj hst;have HIN:=Hj hi;have HDN:=Hj hd;have HD0:=Hj hd0;have HZ:=Hj hz;have HIMG:=Hj himg
 obtain ⟨nl,hnl'⟩:∃n,n=s.next.length:=⟨_,rfl⟩
 rw[←hst,hd0,Nat.zero_add]
 clear H hl k1 k2 k3 hok hst hi hd hd0 hz himg
 go_enter Tryz.func76,Tryz.ntmps76
 go_upto_region 1 with (fail)
 refine Ty.wp_tree [] [] [] [7,11] [0] (.alt [1,2,3,4,5,6,7,8,9,10,11,12,13] (.done) (.no)) (by kernel_rfl) (by kernel_rfl) (by kernel_rfl) (by kernel_rfl) (fun _ h=>by cases h) ?_
 try simp only[pick,Gs,Gz]
 go_wp2
 refine Rm ?_
 refine Wq ?_
 try simp only[pick,Gs,Gz]
 go_wp2_with fail
 refine HI.out.mono ?_
 rintro e w' ⟨rfl,rfl⟩
 go_wp2
 refine Sm Ty.Shown.none ?_
 try simp only[pick,Gs,Gz]
 go_wp2
 refine Rm ?_
 refine Wd (by rfl) trivial ?_
 go_upto_region 7 with (fail)
 refine Ty.wp_tree [] [] [] [3,7] [0,1,2,3,4,5,6,7,8] (.alt [9] (.done) (.no)) (by kernel_rfl) (by kernel_rfl) (by kernel_rfl) (by kernel_rfl) (fun _ h=>by cases h) ?_
 try simp only[pick,Gs,Gz]
 go_wp2
 refine Rm ?_
 refine Wq ?_
 try simp only[pick,Gs,Gz]
 go_wp2_with fail
 refine HP.out.mono ?_
 rintro e w2 ⟨rfl,hP⟩
 have hc2:=stepP_cell hP HS.out.hn HC.out
 have HC2:=Hj hc2
 have d5:=Bj hc2 5 rfl
 have e5:=Bf hc2 5
 have hPP:=Hj hP
 clear hc2 hP
 go_wp2
 refine Sm Ty.Shown.none ?_
 try simp only[pick,Gs,Gz]
 go_wp2
 refine Rm ?_
 refine Wd (by rfl) trivial ?_
 go_upto_region 10 with (fail)
 obtain ⟨hX,hkX⟩:=puts_at [(5,.int .i64 1)] HC2.out
 obtain ⟨X,hXe⟩:∃X,X=w2.setCell ⟨g,5,none⟩ (.int .i64 1):=⟨_,rfl⟩
 rw[←hXe]
 have eX:puts w2 g [(5,.int .i64 1)]=X:=hXe.symm
 rw[eX] at hX hkX
 have c5':=Bj hX 5 rfl
 have c6':=Bj hX 6 rfl
 have HX:=Hj hX;have HKX:=Hj hkX
 clear hX hkX hXe eX d5 e5
 refine Ty.wp_tree [] [] [] [3,7] [0,1,2,3,4,5,6,7,8,9,10] (.done) (by kernel_rfl) (by kernel_rfl) (by kernel_rfl) (by kernel_rfl) (fun _ h=>by cases h) ?_
 try simp only[pick,Gs,Gz]
 go_wp2
 refine Rm ?_
 refine Wd (by rfl) trivial ?_
 go_wp2
 go_ret2
 have hfin:StQ w.drew.drew base g h iv rv (stepped s) X:=by
  have hI:=HIN.out
  have hD:(stepped s).done=1:=by simp[stepped,HD0.out]
  have hSt:(stepped s).steps=st:=by rw[HST.out];rfl
  have hSB:=HS.out.below (Br _ w).drew.drew
  refine st_after hSB (s':=stepped s) (by rw[HK.out.1];rw[show (stepped s).inst=true from hI];exact hPP.out) (by rw[hD,hSt];exact HX.out) HKX.out (stepped_good HS.out.good hI HDN.out) hSB.hi hSB.hx hSB.hch HK.out.2.1 (by rw[HK.out.1];exact HK.out.2.2) ?_ (fun _=>HZ.out.symm)
  rw[List.length_append,List.length_map,HS.out.rl,HD0.out,hD];rfl
 have e:(st:Int) - 1=((st - 1:Nat):Int):=by omega
 exact ⟨by rw[←e];rfl,StQ_drewR (StQ_drew (StQ_drew hfin))⟩
theorem ststep_page {base g h:Nat} {iv rv:Value} {s:Ps} (w:World) (H:StAt w base g h iv rv s) (hi:s.inst=true) (hd:s.done<s.steps) (hz:rzn s.image s.next≤s.done):
  Calls Tryz.prog 76 #[.pointer (some ⟨g,0,none⟩)] w fun e w'=>e= .returned (.tuple #[.int .i64 ((s.steps - (s.done+1):Nat)),.int .i64 0])∧StQ w base g h iv rv (stepped s) w':=by
 have HI:=Hj (inst_any w.drew (H.below (Br _ w).drew))
 rw[hi] at HI
 obtain ⟨imv,nxv,chv,rz,rs,H⟩:=H
 have hrz:=H.rzv hi
 obtain ⟨img,himg⟩:∃m,s.work=m:=⟨_,rfl⟩
 have hwl:img.length≤24000:=by rw[←himg];exact H.good.wl
 have hok:=StB.oks H
 have hst:s.steps=(dif s.image s.next).length+rzn s.image s.next:=by simp[Ps.steps,hi,tot]
 obtain ⟨k,hk⟩:∃k,k=s.done - rzn s.image s.next:=⟨_,rfl⟩
 have hkl:k<(dif s.image s.next).length:=by omega
 obtain ⟨c,hc⟩:∃c,(dif s.image s.next)[k]? =some c:=⟨_,List.getElem?_eq_getElem hkl⟩
 obtain ⟨k0,k1,k2,k3⟩:=stepped_page hi hz (by rw[←hk];exact hc) himg hwl hok (by rw[←himg];exact H.tk)
 have hl:=H.hl
 rw[himg,hi] at hl
 have hch:=H.hch
 have hchs:s.chs=dif s.image s.next:=by simp[Ps.chs,hi]
 rw[hchs] at hch
 obtain ⟨cs,hcs,hraw,hby⟩:=hch
 have hcl:cs.length=(dif s.image s.next).length:=by rw[←hcs,List.length_map]
 obtain ⟨q,hq⟩:∃q,cs[k]? =some q:=⟨_,List.getElem?_eq_getElem (by omega)⟩
 obtain ⟨qc,qv⟩:=q
 have hqc:qc=c:=by
  have h1:(cs.map (·.1))[k]? =some c:=by rw[hcs];exact hc
  rw[List.getElem?_map,hq] at h1;simpa using h1
 subst hqc
 have hqb:=hby _ (List.mem_of_getElem? hq)
 simp only at hqb
 obtain ⟨da,dc,rfl⟩:=Rs hqb
 have HP:=Hj (write_yes (.slice da qc.2.length dc) qc.2 (qc.1*128) w.drew.drew (hl.below (Br _ w).drew.drew) (Raw.keep (F':=LogF h iv rv) (w':=w.drew.drew) hqb (Keep.of_below' (F:=[]) (Br _ w).drew.drew) (by simp) (fun f hf=> .inl (mem_sf (List.mem_cons_of_mem _ hf)))) hwl (by rw[H.rl];have:=H.good.sl;have:=H.good.dl;omega) (by exact H.bs) k0)
 rcases Raw.cases hraw with ⟨h0,_⟩ | ⟨_,bb,off,cap,hv',hcc,hcm,_,_,hcell⟩
 ·omega
 subst hv'
 have hflat:∀j u,(encC (qc,.slice da qc.2.length dc))[j]? =some u→(cs.flatMap encC)[k*2+j]? =some u:=fun j u hj=>by
  rw[flat_get encC encC_len cs k j _ hq (by have:=(List.getElem?_eq_some_iff.1 hj).1;simpa[encC] using this)];exact hj
 have e0:w.cell? ⟨bb,off+k*2,none⟩=some (.int .i64 qc.1):=hcell _ _ (hflat 0 (.int .i64 qc.1) rfl)
 have e1:w.cell? ⟨bb,off+k*2+1,none⟩=some (.slice da qc.2.length dc):=by rw[Nat.add_assoc];exact hcell _ _ (hflat 1 (.slice da qc.2.length dc) rfl)
 have HCE:=Hj hc;have HRB:=Hj hrz
 have HC:=Hj H.hc
 obtain ⟨st,hst'⟩:∃n,n=s.steps:=⟨_,rfl⟩
 obtain ⟨dn,hdn⟩:∃n,n=s.done:=⟨_,rfl⟩
 have hst2:st≤1000:=by rw[hst'];exact H.good.sl
 have hdst:dn<st:=by rw[hst',hdn];exact hd
 rw[←hst',←hdn] at HC
 have hsd:((dn:Int)==(st:Int))=false:=by simp;omega
 obtain ⟨L,hL⟩:∃L,L=cs.length:=⟨_,rfl⟩
 rw[←hL] at HC
 have HL:=Hj hL
 have hkL:k<L:=by rw[hL,hcl];exact hkl
 have hkz:dn=k+rz.toNat:=by rw[hrz,←rzn_of,hdn];omega
 have c0:=Bj HC.out 0 rfl
 have c3:=Bj HC.out 3 rfl
 have c4:=Bj HC.out 4 rfl
 have c5:=Bj HC.out 5 rfl
 have c6:=Bj HC.out 6 rfl
 have HS:=Hj H
 have HK:=Hj (And.intro k1 (And.intro k2 k3))
 have HST:=Hj hst';have HIN:=Hj hi;have HDN:=Hj hd;have HDE:=Hj hdn;have HZ:=Hj hrz;have HIMG:=Hj himg;have HKZ:=Hj hkz
 have hpg:(qc.1:Int)*128≤24000:=by omega
 rw[Int.natCast_mul] at HP
 rw[←hst',←hdn]
 clear H hl k1 k2 k3 hok hst hst' hi hd hz himg hdn hL hcl hkl hcell hflat hq hqb hby hraw hcs hchs hc hrz k0 hk hkz
 have hkLi:(k:Int)<L:=by omega
 have hk0:¬((k:Int)<0):=by omega
 cases rz
 ·have hkz:=HKZ.out
  simp only[Bool.toNat_false,Bool.toNat_true,Nat.add_zero] at hkz
  subst hkz
  go_enter Tryz.func76,Tryz.ntmps76
  go_upto_region 1 with (fail)
  refine Ty.wp_tree [] [] [] [7,11] [0] (.alt [1,2,3,4,5,6,7,8,9,10,11,12,13] (.done) (.no)) (by kernel_rfl) (by kernel_rfl) (by kernel_rfl) (by kernel_rfl) (fun _ h=>by cases h) ?_
  try simp only[pick,Gs,Gz]
  go_wp2
  refine Rm ?_
  refine Wq ?_
  try simp only[pick,Gs,Gz]
  go_wp2_with fail
  refine HI.out.mono ?_
  rintro e w' ⟨rfl,rfl⟩
  go_wp2
  refine Sm Ty.Shown.none ?_
  try simp only[pick,Gs,Gz]
  go_wp2
  refine Rm ?_
  refine Wd (by rfl) trivial ?_
  go_upto_region 8 with (fail)
  refine Ty.wp_tree [] [] [] [3,7,11,16,20] [0,1,2,3,4,5,6,7,8,9,10,11,12,13,14,15,16,17,18,19,20] (.alt [21] (.done) (.no)) (by kernel_rfl) (by kernel_rfl) (by kernel_rfl) (by kernel_rfl) (fun _ h=>by cases h) ?_
  try simp only[pick,Gs,Gz]
  go_wp2
  refine Rm ?_
  refine Wq ?_
  try simp only[pick,Gs,Gz]
  go_wp2_with fail
  refine HP.out.mono ?_
  intro e w2 hP
  have he:=hP.1
  subst he
  replace hP:=writeP_step hP
  have hc2:=stepP_cell hP HS.out.hn HC.out
  have HC2:=Hj hc2
  have d5:=Bj hc2 5 rfl
  have e5:=Bf hc2 5
  have hPP:=Hj hP
  clear hc2 hP
  go_wp2
  refine Sm Ty.Shown.none ?_
  try simp only[pick,Gs,Gz]
  go_wp2
  refine Rm ?_
  refine Wd (by rfl) trivial ?_
  go_upto_region 10 with (fail)
  obtain ⟨hX,hkX⟩:=puts_at [(5,.int .i64 ((dn:Int)+1))] HC2.out
  obtain ⟨X,hXe⟩:∃X,X=w2.setCell ⟨g,5,none⟩ (.int .i64 ((dn:Int)+1)):=⟨_,rfl⟩
  rw[←hXe]
  have eX:puts w2 g [(5,.int .i64 ((dn:Int)+1))]=X:=hXe.symm
  rw[eX] at hX hkX
  have c5':=Bj hX 5 rfl
  have c6':=Bj hX 6 rfl
  have HX:=Hj hX;have HKX:=Hj hkX
  clear hX hkX hXe eX d5 e5
  refine Ty.wp_tree [] [] [] [3,7] [0,1,2,3,4,5,6,7,8,9,10] (.done) (by kernel_rfl) (by kernel_rfl) (by kernel_rfl) (by kernel_rfl) (fun _ h=>by cases h) ?_
  try simp only[pick,Gs,Gz]
  go_wp2
  refine Rm ?_
  refine Wd (by rfl) trivial ?_
  go_wp2
  go_ret2
  have hfin:StQ w.drew.drew base g h iv rv (stepped s) X:=by
   have hI:=HIN.out
   have hD:(stepped s).done=dn+1:=by have:=HDE.out;simp[stepped,←this]
   have hSt:(stepped s).steps=st:=by rw[HST.out];rfl
   have hSB:=HS.out.below (Br _ w).drew.drew
   refine st_after hSB (s':=stepped s) (rs':=rs.map (·.1)++[⟨((qc.1*128:Nat):Int),img.length,(img.take (qc.1*128+qc.2.length)).drop (qc.1*128)⟩]) (by rw[HK.out.1];rw[show (stepped s).inst=true from hI];exact hPP.out) (by rw[hD,hSt,←HL.out];exact HX.out) HKX.out (stepped_good HS.out.good hI HDN.out) hSB.hi hSB.hx hSB.hch HK.out.2.1 (by rw[HK.out.1];exact HK.out.2.2) ?_ (fun _=>HZ.out)
   rw[List.length_append,List.length_map,HS.out.rl,hD,←HDE.out];rfl
  have e:(st:Int) - (((dn:Int)+1))=((st - (dn+1):Nat):Int):=by omega
  exact ⟨by rw[←e];rfl,StQ_drewR (StQ_drew (StQ_drew hfin))⟩
 have hkz:=HKZ.out
 simp only[Bool.toNat_false,Bool.toNat_true,Nat.add_zero] at hkz
 subst hkz
 go_enter Tryz.func76,Tryz.ntmps76
 go_upto_region 1 with (fail)
 refine Ty.wp_tree [] [] [] [7,11] [0] (.alt [1,2,3,4,5,6,7,8,9,10,11,12,13] (.done) (.no)) (by kernel_rfl) (by kernel_rfl) (by kernel_rfl) (by kernel_rfl) (fun _ h=>by cases h) ?_
 try simp only[pick,Gs,Gz]
 go_wp2
 refine Rm ?_
 refine Wq ?_
 try simp only[pick,Gs,Gz]
 go_wp2_with fail
 refine HI.out.mono ?_
 rintro e w' ⟨rfl,rfl⟩
 go_wp2
 refine Sm Ty.Shown.none ?_
 try simp only[pick,Gs,Gz]
 go_wp2
 refine Rm ?_
 refine Wd (by rfl) trivial ?_
 go_upto_region 8 with (fail)
 refine Ty.wp_tree [] [] [] [3,7,11,16,20] [0,1,2,3,4,5,6,7,8,9,10,11,12,13,14,15,16,17,18,19,20] (.alt [21] (.done) (.no)) (by kernel_rfl) (by kernel_rfl) (by kernel_rfl) (by kernel_rfl) (fun _ h=>by cases h) ?_
 try simp only[pick,Gs,Gz]
 go_wp2
 refine Rm ?_
 refine Wq ?_
 try simp only[pick,Gs,Gz]
 go_wp2_with fail
 refine HP.out.mono ?_
 intro e w2 hP
 have he:=hP.1
 subst he
 replace hP:=writeP_step hP
 have hc2:=stepP_cell hP HS.out.hn HC.out
 have HC2:=Hj hc2
 have d5:=Bj hc2 5 rfl
 have e5:=Bf hc2 5
 have hPP:=Hj hP
 clear hc2 hP
 go_wp2
 refine Sm Ty.Shown.none ?_
 try simp only[pick,Gs,Gz]
 go_wp2
 refine Rm ?_
 refine Wd (by rfl) trivial ?_
 go_upto_region 10 with (fail)
 obtain ⟨hX,hkX⟩:=puts_at [(5,.int .i64 ((k:Int)+1+1))] HC2.out
 obtain ⟨X,hXe⟩:∃X,X=w2.setCell ⟨g,5,none⟩ (.int .i64 ((k:Int)+1+1)):=⟨_,rfl⟩
 rw[←hXe]
 have eX:puts w2 g [(5,.int .i64 ((k:Int)+1+1))]=X:=hXe.symm
 rw[eX] at hX hkX
 have c5':=Bj hX 5 rfl
 have c6':=Bj hX 6 rfl
 have HX:=Hj hX;have HKX:=Hj hkX
 clear hX hkX hXe eX d5 e5
 refine Ty.wp_tree [] [] [] [3,7] [0,1,2,3,4,5,6,7,8,9,10] (.done) (by kernel_rfl) (by kernel_rfl) (by kernel_rfl) (by kernel_rfl) (fun _ h=>by cases h) ?_
 try simp only[pick,Gs,Gz]
 go_wp2
 refine Rm ?_
 refine Wd (by rfl) trivial ?_
 go_wp2
 go_ret2
 have hfin:StQ w.drew.drew base g h iv rv (stepped s) X:=by
  have hI:=HIN.out
  have hD:(stepped s).done=k+1+1:=by have:=HDE.out;simp[stepped,←this]
  have hSt:(stepped s).steps=st:=by rw[HST.out];rfl
  have hSB:=HS.out.below (Br _ w).drew.drew
  refine st_after hSB (s':=stepped s) (rs':=rs.map (·.1)++[⟨((qc.1*128:Nat):Int),img.length,(img.take (qc.1*128+qc.2.length)).drop (qc.1*128)⟩]) (by rw[HK.out.1];rw[show (stepped s).inst=true from hI];exact hPP.out) (by rw[hD,hSt,←HL.out];exact HX.out) HKX.out (stepped_good HS.out.good hI HDN.out) hSB.hi hSB.hx hSB.hch HK.out.2.1 (by rw[HK.out.1];exact HK.out.2.2) ?_ (fun _=>HZ.out)
  rw[List.length_append,List.length_map,HS.out.rl,hD,←HDE.out];rfl
 have e:(st:Int) - (((k:Int)+1+1))=((st - (k+1+1):Nat):Int):=by omega
 exact ⟨by rw[←e];rfl,StQ_drewR (StQ_drew (StQ_drew hfin))⟩
open Go.Txt Go.RowKit Go.Bs Go.Cl Go.Rw Go.Un Go.Im
theorem finish_any {g:Nat} {x0 x1 x2 x3 x4 x5 x6 x7 x8:Value} (w:World) (hc:w.heap[g]? =some (.cells #[x0,x1,x2,x3,x4,x5,x6,x7,x8] 136 (0,0))):
  Calls Tryz.prog 108 #[.pointer (some ⟨g,0,none⟩)] w fun e w'=>(∃v,e= .returned v)∧w'=puts w g [(2,.slice none 0 0),(3,.slice none 0 0),(5,.int .i64 0),(6,.int .i64 0)]:=by
 have c2:=Bj hc 2 rfl
 have c3:=Bj hc 3 rfl
 have c5:=Bj hc 5 rfl
 have c6:=Bj hc 6 rfl
 have f2:=Bf hc 2
 have f3:=Bf hc 3
 have f5:=Bf hc 5
 have f6:=Bf hc 6
 clear hc
 go_enter Tryz.func108,Tryz.ntmps108
 go_wp2
 go_end0
 exact ⟨⟨_,rfl⟩,rfl⟩
def committed (s:Ps):Ps:=⟨s.next,s.ver+1,false,[],0⟩
def aborted (s:Ps):Ps:=⟨s.image,s.ver,false,[],0⟩
theorem stcommit_yes {base g h:Nat} {iv rv:Value} {s:Ps} (w:World) (H:StAt w base g h iv rv s) (hi:s.inst=true) (hd:s.done=s.steps) (hv:s.ver<1000000):
  Calls Tryz.prog 49 #[.pointer (some ⟨g,0,none⟩)] w fun e w'=>e= .returned (.int .i64 0)∧StQ w base g h iv rv (committed s) w':=by
 have HI:=Hj (inst_any w.drew (H.below (Br _ w).drew))
 rw[hi] at HI
 obtain ⟨imv,nxv,chv,rz,rs,H⟩:=H
 have HS:=Hj H
 obtain ⟨na,nc,rfl⟩:=Rs H.hx
 have hnl:s.next.length≤24000:=H.good.nl
 have hw:s.work=s.next:=by
  have h1:s.steps=tot s.image s.next:=by simp[Ps.steps,hi]
  simp only[Ps.work,hi,if_true,hd,h1];exact wk_all _ _
 have hl:=H.hl
 rw[hw,hi] at hl
 have hcm:=commit_any w.drew (hl.below (Br _ w).drew)
 simp only[if_true] at hcm
 have HCM:=Hj hcm
 have HC:=Hj H.hc
 have HX:=Hj H.hx
 obtain ⟨st,hst⟩:∃n,n=s.steps:=⟨_,rfl⟩
 obtain ⟨ver,hver⟩:∃n,n=s.ver:=⟨_,rfl⟩
 obtain ⟨sm,hsm⟩:∃n,n=sumOf s.image:=⟨_,rfl⟩
 obtain ⟨nx,hnx⟩:∃n,n=s.next:=⟨_,rfl⟩
 rw[hd,←hst,←hver,←hsm,←hnx] at HC
 rw[←hnx] at HX hnl
 have hvi:(ver:Int)<1000000:=by omega
 have HG:=Hj (show g≠h from fun e=>H.hn (by simp[LogF,e]))
 have hlt:=H.lt
 have c0:=Bj HC.out 0 rfl
 have c5:=Bj HC.out 5 rfl
 have c6:=Bj HC.out 6 rfl
 have hst0:¬((st:Int)<st):=by omega
 have HVE:=Hj hver;have HNX:=Hj hnx;have HW:=Hj hw
 clear H hl hcm hi hd hst hver hsm hw hv hnx
 go_enter Tryz.func49,Tryz.ntmps49
 go_upto_region 1 with (fail)
 refine Ty.wp_tree [] [] [] [7,11] [0] (.alt [1,2,3,4,5,6,7,8,9,10,11,12,13] (.done) (.no)) (by kernel_rfl) (by kernel_rfl) (by kernel_rfl) (by kernel_rfl) (fun _ h=>by cases h) ?_
 try simp only[pick,Gs,Gz]
 go_wp2
 refine Rm ?_
 refine Wq ?_
 try simp only[pick,Gs,Gz]
 go_wp2_with fail
 refine HI.out.mono ?_
 rintro e w' ⟨rfl,rfl⟩
 go_wp2
 refine Sm Ty.Shown.none ?_
 try simp only[pick,Gs,Gz]
 go_wp2
 refine Rm ?_
 refine Wd (by rfl) trivial ?_
 go_wp2_with fail
 refine HCM.out.mono ?_
 rintro e w2 ⟨rfl,hP⟩
 have HSd:=Hj (HS.out.below (Br _ w).drew)
 have HC2:=Hj (stepP_cell hP HSd.out.hn HC.out)
 have HPP:=Hj hP
 clear hP
 have hBl:∀x∈[g],∃c e f,w2.heap[x]? =some (.cells c e f):=fun x hx=>by rw[M1' hx];exact ⟨_,_,_,HC2.out⟩
 have HS0:=Hj (same_start hBl)
 have d2:=Bj HC2.out 2 rfl
 have d7:=Bj HC2.out 7 rfl
 have HX2:Hid (Bytes [] w2 (.slice na nx.length nc) nx):=Hj (by
  obtain ⟨_,_,_,_,_,hk,_⟩:=HPP.out
  exact Raw.keep (F':=[]) (w:=w.drew) HX.out hk (fun f hf=> .inl (mem_sf (List.mem_cons_of_mem _ hf))) (by simp))
 go_upto_region 4 with (fail)
 refine Ty.wp_tree [g] [6,10] [19,22,25] [6,10,15] [0,1,2,3,4,5,6,7,8,9,10,11,12,13,14,15] (.alt [16,17,18] (.alt [19,20,21] (.alt [22,23,24] (.alt [25] (.done) (.no)) (.no)) (.no)) (.no)) (by kernel_rfl) (by kernel_rfl) (by kernel_rfl) (by kernel_rfl) hBl ?_
 clear hBl
 try simp only[pick,Gs,Gz]
 go_wp2
 refine Rm ?_
 refine Wq ?_
 try simp only[pick,Gs,Gz]
 go_wp2_with fail
 refine (of_any (F:=[]) _ nx _ (by omega) (Raw.drew HX2.out)).mono ?_
 rintro e w3 ⟨rfl,hb3⟩
 have HB3:Hid (Below w2.heap.size w2 w3):=Hj ((Br w2.heap.size w2).drew.trans hb3)
 have HS3:=Hj (same_below' HS0.out hb3)
 have HC3:=Hj ((HB3.out.block g (Al HC2.out)).trans HC2.out)
 have e1:=Bf HC3.out 1
 have e7:=Bf HC3.out 7
 have e8:=Bf HC3.out 8
 have d1':=Bj HC3.out 1 rfl
 have d7':=Bj HC3.out 7 rfl
 have d8':=Bj HC3.out 8 rfl
 clear hb3 d2 d7
 go_wp2
 refine Sm (Ss HS3.out) ?_
 try simp only[pick,Gs,Gz]
 go_wp2
 refine Rm ?_
 refine Wq ?_
 try simp only[pick,Gs,Gz]
 go_wp2
 refine Sm (Ty.Shown.last rfl) ?_
 try simp only[pick,Gs,Gz]
 go_wp2
 refine Rm ?_
 refine Wq ?_
 try simp only[pick,Gs,Gz]
 go_wp2
 refine Sm (Ty.Shown.last rfl) ?_
 try simp only[pick,Gs,Gz]
 go_wp2
 refine Rm ?_
 refine Wq ?_
 try simp only[pick,Gs,Gz]
 go_wp2
 refine Sm (Ty.Shown.last rfl) ?_
 try simp only[pick,Gs,Gz]
 refine Rm ?_
 refine Wd (by rfl) ⟨.head _,.head _,trivial⟩ ?_
 go_wp2_with fail
 obtain ⟨X,hX⟩:∃X,X=((w3.setCell ⟨g,1,none⟩ (.slice na nx.length nc)).setCell ⟨g,7,none⟩ (.int .i64 ((ver:Int)+1))).setCell ⟨g,8,none⟩ (.int .u64 (sumOf nx)):=⟨_,rfl⟩
 rw[←hX]
 obtain ⟨hgX,hkX⟩:=puts_at [(1,.slice na nx.length nc),(7,.int .i64 ((ver:Int)+1)),(8,.int .u64 (sumOf nx))] HC3.out
 have eX:puts w3 g [(1,.slice na nx.length nc),(7,.int .i64 ((ver:Int)+1)),(8,.int .u64 (sumOf nx))]=X:=hX.symm
 rw[eX] at hgX hkX
 have HGX:=Hj hgX;have HKX:=Hj hkX
 clear hgX hkX hX eX d1' d7' d8' e1 e7 e8
 refine (finish_any X HGX.out).mono ?_
 rintro e Y ⟨⟨v,rfl⟩,rfl⟩
 have hgY:=puts_at [(2,.slice none 0 0),(3,.slice none 0 0),(5,.int .i64 0),(6,.int .i64 0)] HGX.out
 obtain ⟨Y,hY⟩:∃Y,Y=puts X g [(2,.slice none 0 0),(3,.slice none 0 0),(5,.int .i64 0),(6,.int .i64 0)]:=⟨_,rfl⟩
 rw[←hY] at hgY⊢
 have HGY:=Hj hgY
 clear hgY hY
 go_wp2
 go_ret
 refine ⟨rfl,StQ_drew ?_⟩
 have hcg:(committed s).Good:=⟨by rw[show (committed s).image=s.next from rfl,←HNX.out];exact hnl,by simp[committed],by have:=HVE.out;simp[committed];omega,by simp[committed,Ps.steps],fun _=>rfl⟩
 have hk:Keep [g] w2 Y:=((Keep.of_below' HB3.out).trans HKX.out (fun f hf=> .inl hf)).trans HGY.out.2 (fun f hf=> .inl hf)
 have hcw:(committed s).work=s.next:=by simp[Ps.work,committed]
 refine st_after HSd.out (s':=committed s) (rs':=[]) (by rw[hcw];exact HPP.out) ?_ hk hcg (imv':= .slice na nx.length nc) (nxv':= .slice none 0 0) (chv':= .slice none 0 0) (rz':=rz) ?_ (Raw.empty _ _ _) (ChR.nil _ _) rfl (by rw[hcw];rfl) rfl (fun h=>by cases h)
 ·have:=HGY.out.1
  rw[show sumOf (committed s).image=sumOf nx by rw[HNX.out];rfl,show (committed s).ver=ver+1 by rw[HVE.out];rfl]
  exact this
 have:=HSd.out.hx
 rw[show (committed s).image=nx by rw[HNX.out];rfl]
 rw[←HNX.out] at this
 exact this
theorem stabort_yes {base g h:Nat} {iv rv:Value} {s:Ps} (w:World) (H:StAt w base g h iv rv s) (hi:s.inst=true):
  Calls Tryz.prog 50 #[.pointer (some ⟨g,0,none⟩)] w fun e w'=>e= .returned (.int .i64 0)∧StQ w base g h iv rv (aborted s) w':=by
 have HI:=Hj (inst_any w H)
 rw[hi] at HI
 obtain ⟨imv,nxv,chv,rz,rs,H⟩:=H
 have HS:=Hj H
 have hl:=H.hl
 rw[hi] at hl
 have hrb:=rollback_any w hl H.good.wl (by rw[H.rl];have:=H.good.sl;have:=H.good.dl;omega) H.bs H.ok
 simp only[if_true] at hrb
 rw[H.tk] at hrb
 have HRB:=Hj hrb
 have HC:=Hj H.hc
 obtain ⟨st,hst⟩:∃n,n=s.steps:=⟨_,rfl⟩
 obtain ⟨dn,hdn⟩:∃n,n=s.done:=⟨_,rfl⟩
 rw[←hst,←hdn] at HC
 have c0:=Bj HC.out 0 rfl
 clear H hl hrb hst hdn
 go_enter Tryz.func50,Tryz.ntmps50
 go_wp2_with fail
 refine HI.out.mono ?_
 rintro e w' ⟨rfl,rfl⟩
 go_wp2_with fail
 refine HRB.out.mono ?_
 rintro e w2 ⟨rfl,hP⟩
 have HC2:=Hj (stepP_cell hP HS.out.hn HC.out)
 have HPP:=Hj hP
 clear hP
 go_wp2_with fail
 refine (finish_any w2 HC2.out).mono ?_
 rintro e Y ⟨⟨v,rfl⟩,rfl⟩
 have hgY:=puts_at [(2,.slice none 0 0),(3,.slice none 0 0),(5,.int .i64 0),(6,.int .i64 0)] HC2.out
 obtain ⟨Y,hY⟩:∃Y,Y=puts w2 g [(2,.slice none 0 0),(3,.slice none 0 0),(5,.int .i64 0),(6,.int .i64 0)]:=⟨_,rfl⟩
 rw[←hY] at hgY⊢
 have HGY:=Hj hgY
 clear hgY hY
 go_wp2
 go_ret
 refine ⟨rfl, ?_⟩
 have hcg:(aborted s).Good:=⟨HS.out.good.il,by simp[aborted],HS.out.good.vl,by simp[aborted,Ps.steps],fun _=>rfl⟩
 have hcw:(aborted s).work=s.image:=by simp[Ps.work,aborted]
 exact st_after HS.out (s':=aborted s) (rs':=[]) (by rw[hcw];exact HPP.out) HGY.out.1 HGY.out.2 hcg (imv':=imv) (nxv':= .slice none 0 0) (chv':= .slice none 0 0) (rz':=rz) HS.out.hi (Raw.empty _ _ _) (ChR.nil _ _) rfl (by rw[hcw];rfl) rfl (fun h=>by cases h)
open Go.Txt Go.RowKit Go.Bs Go.Cl Go.Rw Go.Un Go.Im
def psBegin (s:Ps) (b:List UInt8):Ps×Nat×Int:=if s.inst then (s,0,7) else (⟨s.image,s.ver,true,b,0⟩,tot s.image b,0)
def psStep (s:Ps):Ps×Nat×Int:=if s.inst=false∨s.done=s.steps then (s,0,7) else (stepped s,s.steps - (s.done+1),0)
def psCommit (s:Ps):Ps×Int:=if s.inst=false∨s.done<s.steps then (s,7) else (committed s,0)
def Liv (w0:World) (g:Nat) (s:Ps) (w:World):Prop:=Below w0.heap.size w0 w∧∃base h iv rv,w0.heap.size≤base∧StAt w base g h iv rv s
variable {w0 w w':World} {g:Nat} {s:Ps}
theorem Liv.good (H:Liv w0 g s w):s.Good:=by
 obtain ⟨_,_,_,_,_,_,_,_,_,_,_,H⟩:=H
 exact H.good
theorem Liv.moved {base h:Nat} {iv rv:Value} {s':Ps} (hb:Below w0.heap.size w0 w) (hn:w0.heap.size≤base) (H:StAt w base g h iv rv s) (Q:StQ w base g h iv rv s' w'):Liv w0 g s' w':=by
 obtain ⟨iv',rv',h1,h2,_⟩:=Q
 obtain ⟨_,_,_,_,_,H⟩:=H
 exact ⟨hb.trans (h2.below hb.size (fun f hf=>Nat.le_trans hn (H.fbase f hf).1)),base,h,iv',rv',hn,h1⟩
theorem liv_new (bv:Value) (b:List UInt8) (w:World) (hb:b.length≤24000) (h0:Below w0.heap.size w0 w) (hB:Bytes [] w0 bv b):
  Calls Tryz.prog 30 #[bv] w fun e w'=>∃g,e= .returned (.tuple #[.pointer (some ⟨g,0,none⟩),.int .i64 0])∧Liv w0 g ⟨b,0,false,[],0⟩ w':=by
 refine (stnew_any bv b w hb (Rb hB h0)).mono ?_
 rintro e w' ⟨g,h,iv,rfl,h1,h2⟩
 exact ⟨g,rfl,h0.trans (h2.mono h0.size),_,h,iv,_,h0.size,h1⟩
theorem liv_begin (bv:Value) (b:List UInt8) (H:Liv w0 g s w) (hb:b.length≤24000) (hB:Bytes [] w0 bv b):
  Calls Tryz.prog 75 #[.pointer (some ⟨g,0,none⟩),bv] w fun e w'=>e= .returned (.tuple #[.int .i64 (psBegin s b).2.1,.int .i64 (psBegin s b).2.2])∧Liv w0 g (psBegin s b).1 w':=by
 obtain ⟨h1,base,h,iv,rv,h2,h3⟩:=H
 obtain ⟨imv,nxv,chv,rz,rs,h4⟩:=h3
 have h3:StAt w base g h iv rv s:=⟨imv,nxv,chv,rz,rs,h4⟩
 unfold psBegin
 by_cases hi:s.inst=true
 ·rw[if_pos hi]
  refine (stbegin_no bv w h3 hi).mono ?_
  rintro e w' ⟨rfl,rfl⟩
  exact ⟨rfl,h1,base,h,iv,rv,h2,h3⟩
 rw[if_neg hi]
 have hB':Bytes (g::LogF h iv rv) w bv b:=Raw.keep (F':=g::LogF h iv rv) hB (Keep.of_below' (F:=[]) h1) (fun f hf=>by cases hf) (fun f hf=> .inr (Nat.le_trans h2 (h4.fbase f hf).1))
 refine (stbegin_yes bv b w h3 (by simpa using hi) hb hB').mono ?_
 rintro e w' ⟨rfl,hQ⟩
 exact ⟨rfl,Liv.moved h1 h2 h3 hQ⟩
theorem liv_step (H:Liv w0 g s w):
  Calls Tryz.prog 76 #[.pointer (some ⟨g,0,none⟩)] w fun e w'=>e= .returned (.tuple #[.int .i64 (psStep s).2.1,.int .i64 (psStep s).2.2])∧Liv w0 g (psStep s).1 w':=by
 have hG:=H.good
 obtain ⟨h1,base,h,iv,rv,h2,h3⟩:=H
 unfold psStep
 by_cases hno:s.inst=false∨s.done=s.steps
 ·rw[if_pos hno]
  refine (ststep_no w h3 hno).mono ?_
  rintro e w' ⟨rfl,hQ⟩
  exact ⟨rfl,Liv.moved h1 h2 h3 hQ⟩
 rw[if_neg hno]
 have hi:s.inst=true:=by cases h:s.inst <;> simp_all
 have hd:s.done<s.steps:=by have:=hG.dl;have:s.done≠s.steps:=fun e=>hno (.inr e);omega
 have key:Calls Tryz.prog 76 #[.pointer (some ⟨g,0,none⟩)] w fun e w'=>e= .returned (.tuple #[.int .i64 ((s.steps - (s.done+1):Nat)),.int .i64 0])∧StQ w base g h iv rv (stepped s) w':=by
  by_cases hz:rzn s.image s.next≤s.done
  ·exact ststep_page w h3 hi hd hz
  have hz1:rzb s.image s.next=true:=by
   rw[rzn_of] at hz
   cases h:rzb s.image s.next <;> simp_all
  exact ststep_size w h3 hi hd hz1 (by rw[rzn_of,hz1] at hz;simp at hz;omega)
 refine key.mono ?_
 rintro e w' ⟨rfl,hQ⟩
 exact ⟨rfl,Liv.moved h1 h2 h3 hQ⟩
end Go.Proofs.YtipiofgdjbogiaaGreat
