/- The wire's integers and byte strings: plain facts. No program in sight. -/
import Derived.Test.YtipiofgdjbogiaaGreatM1
import Derived.Laws.Bits64
import Derived.Laws.Bits64b
import Derived.Test.YtipiofgdjbogiaaGreatRows
set_option maxRecDepth 100000
set_option maxHeartbeats 1000000
namespace Go.Wi
open Go Go.Txt Go.RowKit Go.Bs Go.Cl Go.Rw
def groups (u:Nat):List UInt8:=if u<128 then [UInt8.ofNat u] else UInt8.ofNat (128+u%128)::groups (u / 128)
termination_by u
decreasing_by omega
theorem groups_lt {u:Nat} (h:u<128):groups u=[UInt8.ofNat u]:=by rw[groups,if_pos h]
theorem groups_ge {u:Nat} (h:128≤u):groups u=UInt8.ofNat (128+u%128)::groups (u / 128):=by rw[groups,if_neg (by omega)]
def zig (n:Int):Nat:=if n<0 then (-2*n - 1).toNat else (2*n).toNat
def fits (n:Int):Prop:= -9223372036854775808≤n∧n≤9223372036854775807
theorem zig_lt {n:Int} (h:fits n):zig n<2^64:=by
 unfold fits at h
 unfold zig
 split <;> omega
def encI (n:Int):List UInt8:=groups (zig n)
def encB (x:List UInt8):List UInt8:=encI x.length++x
theorem u8_of {c:Nat} (h:c<256):(UInt8.ofNat c).toNat=c:=by simp;omega
theorem groups_len:∀(j u:Nat),0<j→u<128^j→(groups u).length≤j
 | 0,_,h,_=>absurd h (Nat.lt_irrefl _)
 | j+1,u,_,hu=>by
  by_cases h:u<128
  ·rw[groups_lt h];simp
  rw[groups_ge (by omega),List.length_cons]
  have hj:0<j:=by
   rcases Nat.eq_zero_or_pos j with rfl | hj
   ·simp at hu;omega
   exact hj
  have:=groups_len j (u / 128) hj (Nat.div_lt_of_lt_mul (by rw[Nat.mul_comm,←Nat.pow_succ];exact hu))
  omega
theorem groups_len10 {u:Nat} (h:u<2^64):(groups u).length≤10:=groups_len 10 u (by omega) (Nat.lt_of_lt_of_le h (by decide))
theorem encI_len {n:Int} (h:fits n):(encI n).length≤10:=groups_len10 (zig_lt h)
def BRow (e:Nat) (w:World) (base:Nat) (v:Value) (l:List UInt8):Prop:=w.ownsRow base e 1 v l.length (bytesV l)
structure Grows (e:Nat) (w w':World) (base:Nat) (v v':Value) (l:List UInt8):Prop where
 row:BRow e w' base v' l
 keep:Keep v.ownBlock.toList w w'
 news:∀f∈v'.ownBlock.toList,f∈v.ownBlock.toList∨w.heap.size≤f
theorem Grows.refl {e:Nat} {w:World} {base:Nat} {v:Value} {l:List UInt8} (h:BRow e w base v l):Grows e w w base v v l:=⟨h,Keep.refl _ _,fun _ hf=> .inl hf⟩
theorem Grows.trans {e:Nat} {w w1 w2:World} {base:Nat} {v v1 v2:Value} {l l1:List UInt8} (h:Grows e w w1 base v v1 l1) (h':Grows e w1 w2 base v1 v2 l):Grows e w w2 base v v2 l:=
 ⟨h'.row,h.keep.trans h'.keep h.news,fun f hf=>by
  rcases h'.news f hf with h1 | h1
  ·exact h.news f h1
  exact .inr (Nat.le_trans h.keep.size h1)⟩
theorem Grows.below {e:Nat} {w w' W:World} {base B:Nat} {v v':Value} {l l0:List UInt8} (h:Grows e w w' base v v' l) (h0:BRow e w base v l0) (hB:B≤base) (hbase:base≤w.heap.size) (hb:Below B W w):Below B W w':=
 hb.trans (h.keep.below (by omega) (fun f hf=>by have:=(h0.lt f (by simpa using hf)).1;omega))
theorem BRow.below {e:Nat} {w w':World} {base:Nat} {v:Value} {l:List UInt8} (h:BRow e w base v l) (hb:Below w.heap.size w w'):BRow e w' base v l:=own_below h hb (Nr _)
theorem BRow.bytes {e:Nat} {w:World} {base:Nat} {v:Value} {l:List UInt8} {F:List Nat} (h:BRow e w base v l) (hF:∀f∈F,f<base):Bytes F w v l:=Bytes.row h rfl hF
theorem one_byte {w:World} {g e:Nat} {u:Value} (b:UInt8) (hu:u=byteV b) (h:w.heap[g]? =some (.cells #[u] e (0,0))):Raw [] 1 w (.slice (some ⟨g,0,none⟩) 1 1) 1 (bytesV [b]):=by
 subst hu
 exact Raw.of_block (ys:=bytesV [b]) h (by intro h;cases h) (bytesV_one _) rfl (Nr _) (by unfold maxLen;omega)
theorem Grows.app {e m:Nat} {w wr w2:World} {base:Nat} {v bv v2:Value} {l1 l2:List UInt8} {o:Obj} (h:Grows e w wr base v bv l1) (hm:m=l2.length) (hown:w2.ownsRow base e 1 v2 (l1.length+m) (bytesV l1++bytesV l2))
  (hk:Keep bv.ownBlock.toList (wr.alloc o) w2) (hn:∀f∈v2.ownBlock.toList,f∈bv.ownBlock.toList∨(wr.alloc o).heap.size≤f):Grows e w w2 base v v2 (l1++l2):=by
 subst hm
 refine h.trans ⟨?_,((Keep.refl bv.ownBlock.toList wr).alloc o).trans hk (fun f hf=> .inl hf),fun f hf=> ?_⟩
 ·show w2.ownsRow base e 1 v2 (l1++l2).length (bytesV (l1++l2))
  rw[List.length_append,bytesV_append];exact hown
 rcases hn f hf with h1 | h1
 ·exact .inl h1
 exact .inr (by simp at h1;omega)
theorem xor_max (x:Nat) (h:x<18446744073709551616):bits BinOp.xor .u64 IntKind.u64.max x=((18446744073709551615 - x:Nat):Int):=by
 have h1:IntKind.u64.max=((18446744073709551615:Nat):Int):=rfl
 rw[h1,bits_xor_u64_nat _ _ (by omega) h]
 congr 1
 have e:(18446744073709551615^^^x)=((BitVec.allOnes 64)^^^(BitVec.ofNat 64 x)).toNat:=by
  rw[BitVec.toNat_xor,BitVec.toNat_allOnes,BitVec.toNat_ofNat,Nat.mod_eq_of_lt h]
 rw[e,BitVec.allOnes_xor,BitVec.toNat_not,BitVec.toNat_ofNat,Nat.mod_eq_of_lt h]
theorem zig_neg {n:Int} (h0:n<0) (h1: -9223372036854775808≤n) {z:Nat} (hz:(z:Int)= -2*n - 1):bits BinOp.xor .u64 IntKind.u64.max (IntKind.u64.wrap (IntKind.u64.wrap n*2))=(z:Int):=by
 have e0:IntKind.u64.wrap n=n+18446744073709551616:=by rw[IntKind.wrap_u64];omega
 rw[e0,IntKind.wrap_u64]
 have e:(n+18446744073709551616)*2%18446744073709551616=((18446744073709551615 - z:Nat):Int):=by omega
 rw[e,xor_max _ (by omega)]
 omega
theorem one_row {w:World} {e:Nat} {u:Value} (b:UInt8) (hu:u=byteV b):BRow e (w.alloc (.cells #[u] e)) w.heap.size (.slice (some ⟨w.heap.size,0,none⟩) 1 1) [b]:=by
 subst hu
 exact ⟨by simp[bytesV],.inr ⟨w.heap.size,1,#[byteV b],rfl,Nr _,heap_alloc_new w _,Nr _,by unfold maxLen;omega,rfl,rfl⟩⟩
end Go.Wi
namespace Go.Proofs.YtipiofgdjbogiaaGreat
open Go.Txt Go.RowKit Go.Bs Go.Cl Go.Rw Go.Wi
theorem elB:Rw.Elem Tryz.prog 22 5 1 1 (.int .u8 0):=⟨Tryz.underlying22,by kernel_rfl,rfl,by decide⟩
theorem wint_any (v:Value) (l:List UInt8) (n:Int) (base:Nat) (w:World) (hn:Wi.fits n) (hl:l.length≤1000000) (hown:BRow 5 w base v l) (hbase:base≤w.heap.size):
  Calls Tryz.prog 132 #[v,.int .i64 n] w fun e w'=>∃v',e= .returned v'∧Grows 5 w w' base v v' (l++encI n):=by
 obtain ⟨a,c,rfl⟩:=Oq hown
 have hz:zig n<18446744073709551616:=zig_lt hn
 have hz10:=encI_len hn
 have Hown:=Hj (Grows.refl hown);clear hown
 obtain ⟨z,hze⟩:∃z,zig n=z:=⟨_,rfl⟩
 have hzz:(n<0∧(z:Int)= -2*n - 1)∨(0≤n∧n*2=(z:Int)):=by
  rw[←hze];unfold zig
  by_cases h:n<0
  ·rw[if_pos h];exact .inl ⟨h,by omega⟩
  rw[if_neg h];exact .inr ⟨by omega,by omega⟩
 have henc:encI n=groups z:=by rw[encI,hze]
 rw[hze] at hz
 clear hze
 rw[henc] at hz10⊢
 obtain ⟨hn1,hn2⟩:=hn
 clear henc
 rcases hzz with ⟨h0,hzz⟩ | ⟨h0,hzz⟩
 ·have hx:=Hj (zig_neg h0 hn1 hzz)
  have Hz:=Hj hz
  clear hzz hz
  go_enter Tryz.func132,Tryz.ntmps132
  go_wp2
  rw[hx.out]
  go_loopw [0,5] (fun bv uv wr=>∃(acc:List UInt8) (u:Nat),uv= .int .u64 u∧u<18446744073709551616∧acc++groups u=groups z∧Grows 5 w wr base (.slice a l.length c) bv (l++acc)) (fun _ uv _=>(intOf uv).toNat)
  case atStart=>exact ⟨[],z,rfl,Hz.out,rfl,by simpa using Hown.out⟩
  case round=>
   obtain ⟨acc,u,rfl,hu,hacc,hg⟩:=hrel
   have hal:acc.length≤10:=by have:=congrArg List.length hacc;simp at this;omega
   have hbw:base≤wr.heap.size:=Nat.le_trans hbase hg.keep.size
   obtain ⟨la,hla⟩:∃la,l++acc=la:=⟨_,rfl⟩
   have hlal:la.length≤1000010:=by rw[←hla];simp;omega
   rw[hla] at hg
   have Hla:=Hj hla;clear hla
   obtain ⟨ga,gc,rfl⟩:=Oq hg.row
   have Hg:=Hj hg;clear hg
   have Hacc:=Hj hacc;clear hacc
   have huI:(u:Int)<18446744073709551616:=by omega
   by_cases h8:128≤u
   ·have h8':128≤(u:Int):=by omega
    have hgr:=groups_ge h8
    have Hgr:=Hj hgr;clear hgr
    obtain ⟨cb,hcb⟩:∃cb:UInt8,UInt8.ofNat (128+u%128)=cb:=⟨_,rfl⟩
    have hcn:cb.toNat=128+u%128:=by rw[←hcb];exact u8_of (by omega)
    rw[hcb] at Hgr
    have HX:=Hj (one_byte (w:=wr.alloc (.cells #[.int .u8 (128+(u:Int)%128)] 5)) (e:=5) (u:= .int .u8 (128+(u:Int)%128)) cb (by unfold byteV;rw[hcn];congr 1) (heap_alloc_new wr _))
    clear hcn hcb
    have HR:=Hj (Hg.out.row.alloc (.cells #[.int .u8 (128+(u:Int)%128)] 5))
    go_wp2_with (at_builtin;refine wpList_appF elB Tryz.underlying22 HR.out HX.out (Br 0 _) rfl _ _ rfl rfl rfl ?c3 ?cB ?c5 ?_)
    case c3=>omega
    case cB=>omega
    case c5=>simp;omega
    intro v2 w2 hown2 _ hk2 hn2
    have hg2:=Hg.out.app rfl hown2 hk2 (by simpa using hn2)
    rw[←Hla.out,List.append_assoc] at hg2
    have Hg2:=Hj hg2
    clear hg2 hown2 hk2 hn2
    go_wp2
    go_roundw
    case rel=>exact ⟨acc++[cb],u / 128,by go_num,by omega,by rw[List.append_assoc,←Hacc.out,Hgr.out];rfl,Hg2.out⟩
    case measure=>simp[intOf];omega
   have h8':(u:Int)<128:=by omega
   clear huI hu
   have hgr:=groups_lt (show u<128 by omega)
   have Hgr:=Hj hgr;clear hgr
   obtain ⟨cb,hcb⟩:∃cb:UInt8,UInt8.ofNat u=cb:=⟨_,rfl⟩
   have hcn:cb.toNat=u:=by rw[←hcb];exact u8_of (by omega)
   rw[hcb] at Hgr
   have HX:=Hj (one_byte (w:=wr.alloc (.cells #[.int .u8 (u:Int)] 5)) (e:=5) (u:= .int .u8 (u:Int)) cb (by unfold byteV;rw[hcn]) (heap_alloc_new wr _))
   clear hcn hcb
   have HR:=Hj (Hg.out.row.alloc (.cells #[.int .u8 (u:Int)] 5))
   go_wp2_with (at_builtin;refine wpList_appF elB Tryz.underlying22 HR.out HX.out (Br 0 _) rfl _ _ rfl rfl rfl ?c3 ?cB ?c5 ?_)
   case c3=>omega
   case cB=>omega
   case c5=>simp;omega
   intro v2 w2 hown2 _ hk2 hn2
   have hg2:=Hg.out.app rfl hown2 hk2 (by simpa using hn2)
   rw[←Hla.out,List.append_assoc,show acc++[cb]=groups z by rw[←Hgr.out];exact Hacc.out] at hg2
   have Hg2:=Hj hg2
   clear hg2 hown2 hk2 hn2
   go_wp2
   go_ret
   exact ⟨_,rfl,Hg2.out⟩
 have h0':¬n<0:=by omega
 have Hz:=Hj hz
 clear hz
 go_enter Tryz.func132,Tryz.ntmps132
 go_wp2
 go_loopw [0,5] (fun bv uv wr=>∃(acc:List UInt8) (u:Nat),uv= .int .u64 u∧u<18446744073709551616∧acc++groups u=groups z∧Grows 5 w wr base (.slice a l.length c) bv (l++acc)) (fun _ uv _=>(intOf uv).toNat)
 case atStart=>exact ⟨[],z,rfl,Hz.out,rfl,by simpa using Hown.out⟩
 case round=>
  obtain ⟨acc,u,rfl,hu,hacc,hg⟩:=hrel
  have hal:acc.length≤10:=by have:=congrArg List.length hacc;simp at this;omega
  have hbw:base≤wr.heap.size:=Nat.le_trans hbase hg.keep.size
  obtain ⟨la,hla⟩:∃la,l++acc=la:=⟨_,rfl⟩
  have hlal:la.length≤1000010:=by rw[←hla];simp;omega
  rw[hla] at hg
  have Hla:=Hj hla;clear hla
  obtain ⟨ga,gc,rfl⟩:=Oq hg.row
  have Hg:=Hj hg;clear hg
  have Hacc:=Hj hacc;clear hacc
  have huI:(u:Int)<18446744073709551616:=by omega
  by_cases h8:128≤u
  ·have h8':128≤(u:Int):=by omega
   have hgr:=groups_ge h8
   have Hgr:=Hj hgr;clear hgr
   obtain ⟨cb,hcb⟩:∃cb:UInt8,UInt8.ofNat (128+u%128)=cb:=⟨_,rfl⟩
   have hcn:cb.toNat=128+u%128:=by rw[←hcb];exact u8_of (by omega)
   rw[hcb] at Hgr
   have HX:=Hj (one_byte (w:=wr.alloc (.cells #[.int .u8 (128+(u:Int)%128)] 5)) (e:=5) (u:= .int .u8 (128+(u:Int)%128)) cb (by unfold byteV;rw[hcn];congr 1) (heap_alloc_new wr _))
   clear hcn hcb
   have HR:=Hj (Hg.out.row.alloc (.cells #[.int .u8 (128+(u:Int)%128)] 5))
   go_wp2_with (at_builtin;refine wpList_appF elB Tryz.underlying22 HR.out HX.out (Br 0 _) rfl _ _ rfl rfl rfl ?c3 ?cB ?c5 ?_)
   case c3=>omega
   case cB=>omega
   case c5=>simp;omega
   intro v2 w2 hown2 _ hk2 hn2
   have hg2:=Hg.out.app rfl hown2 hk2 (by simpa using hn2)
   rw[←Hla.out,List.append_assoc] at hg2
   have Hg2:=Hj hg2
   clear hg2 hown2 hk2 hn2
   go_wp2
   go_roundw
   case rel=>exact ⟨acc++[cb],u / 128,by go_num,by omega,by rw[List.append_assoc,←Hacc.out,Hgr.out];rfl,Hg2.out⟩
   case measure=>simp[intOf];omega
  have h8':(u:Int)<128:=by omega
  clear huI hu
  have hgr:=groups_lt (show u<128 by omega)
  have Hgr:=Hj hgr;clear hgr
  obtain ⟨cb,hcb⟩:∃cb:UInt8,UInt8.ofNat u=cb:=⟨_,rfl⟩
  have hcn:cb.toNat=u:=by rw[←hcb];exact u8_of (by omega)
  rw[hcb] at Hgr
  have HX:=Hj (one_byte (w:=wr.alloc (.cells #[.int .u8 (u:Int)] 5)) (e:=5) (u:= .int .u8 (u:Int)) cb (by unfold byteV;rw[hcn]) (heap_alloc_new wr _))
  clear hcn hcb
  have HR:=Hj (Hg.out.row.alloc (.cells #[.int .u8 (u:Int)] 5))
  go_wp2_with (at_builtin;refine wpList_appF elB Tryz.underlying22 HR.out HX.out (Br 0 _) rfl _ _ rfl rfl rfl ?c3 ?cB ?c5 ?_)
  case c3=>omega
  case cB=>omega
  case c5=>simp;omega
  intro v2 w2 hown2 _ hk2 hn2
  have hg2:=Hg.out.app rfl hown2 hk2 (by simpa using hn2)
  rw[←Hla.out,List.append_assoc,show acc++[cb]=groups z by rw[←Hgr.out];exact Hacc.out] at hg2
  have Hg2:=Hj hg2
  clear hg2 hown2 hk2 hn2
  go_wp2
  go_ret
  exact ⟨_,rfl,Hg2.out⟩
open Go.Txt Go.RowKit Go.Bs Go.Cl Go.Rw Go.Wi
theorem rgroups_any (u:Nat):∀(w:World) (x:Int),x=u→u<18446744073709551616→Calls Tryz.prog 146 #[.int .u64 x] w fun e w'=>∃v,e= .returned v∧BRow 5 w' w.heap.size v (groups u)∧Below w.heap.size w w':=by
 induction u using Nat.strongRecOn with
 | _ u ih=>
  rintro w _ rfl hu
  by_cases h8:u<128
  ·have h8':(u:Int)<128:=by omega
   have hg:=Hj (groups_lt h8)
   obtain ⟨cb,hcb⟩:∃cb:UInt8,UInt8.ofNat u=cb:=⟨_,rfl⟩
   have hcn:cb.toNat=u:=by rw[←hcb];exact u8_of (by omega)
   rw[hcb] at hg
   have HR:=Hj (one_row (w:=w) (e:=5) (u:= .int .u8 (u:Int)) cb (by unfold byteV;rw[hcn]))
   clear hcn hcb ih hu
   go_enter Tryz.func146,Tryz.ntmps146
   go_wp2
   go_ret
   exact ⟨_,rfl,by rw[hg.out];exact HR.out,(Br _ w).alloc (Nr _) _⟩
  have h8':128≤(u:Int):=by omega
  have hg:=Hj (groups_ge (show 128≤u by omega))
  have Ih:=Hj (ih (u / 128) (by omega))
  have hlen:=groups_len10 (u:=u / 128) (by omega)
  have hu2:u / 128<18446744073709551616:=by omega
  have Hu2:=Hj hu2
  obtain ⟨cb,hcb⟩:∃cb:UInt8,UInt8.ofNat (128+u%128)=cb:=⟨_,rfl⟩
  have hcn:cb.toNat=128+u%128:=by rw[←hcb];exact u8_of (by omega)
  rw[hcb] at hg
  have HR:=Hj (one_row (w:=w) (e:=5) (u:= .int .u8 (128+(u:Int)%128)) cb (by unfold byteV;rw[hcn];congr 1))
  have huI:(u:Int)≤18446744073709551615:=by omega
  clear hcn hcb ih hu2 hu
  go_enter Tryz.func146,Tryz.ntmps146
  go_wp2_with fail
  refine (Ih.out _ _ (by go_num) Hu2.out).mono ?_
  rintro e w1 ⟨v1,rfl,hr1,hb1⟩
  obtain ⟨a1,c1,rfl⟩:=Oq hr1
  have HR1:=Hj (BRow.below HR.out hb1)
  have HX:=Hj (BRow.bytes (F:=[]) hr1 (fun f hf=>by cases hf))
  have hs1:w.heap.size<w1.heap.size:=by have:=hb1.size;simp at this;omega
  have hbel1:Below w.heap.size w w1:=((Br _ w).alloc (Nr _) _).trans (hb1.mono (by simp))
  clear hr1 hb1
  go_wp2_with (at_builtin;refine wpList_app elB Tryz.underlying22 HR1.out HX.out hbel1 rfl _ _ rfl rfl rfl ?c3 ?cB ?c5 ?_)
  case c3=>simp;omega
  case cB=>omega
  case c5=>omega
  intro v2 w2 hown2 hbel2 _ _
  have hrow:BRow 5 w2 w.heap.size v2 (groups u):=by
   show w2.ownsRow w.heap.size 5 1 v2 (groups u).length (bytesV (groups u))
   rw[hg.out]
   rw[←bytesV_append] at hown2
   simpa[Nat.add_comm] using hown2
  have Hrow:=Hj hrow
  clear hown2 hrow
  go_wp2
  go_ret
  exact ⟨_,rfl,Hrow.out,hbel2⟩
theorem rint_any (n:Int) (w:World) (hn:Wi.fits n):Calls Tryz.prog 135 #[.int .i64 n] w fun e w'=>∃v,e= .returned v∧BRow 5 w' w.heap.size v (encI n)∧Below w.heap.size w w':=by
 have hz:zig n<18446744073709551616:=zig_lt hn
 have hr:=fun w x h=>rgroups_any (zig n) w x h hz
 have hzz:(n<0∧(zig n:Int)= -2*n - 1)∨(0≤n∧(zig n:Int)=2*n):=by
  unfold zig
  by_cases h:n<0
  ·rw[if_pos h];exact .inl ⟨h,by omega⟩
  rw[if_neg h];exact .inr ⟨by omega,by omega⟩
 have He:Hid (encI n=groups (zig n)):=Hj rfl
 obtain ⟨z,hze⟩:∃z,zig n=z:=⟨_,rfl⟩
 rw[hze] at hr hzz He
 rw[He.out]
 have Hr:=Hj hr
 clear hr hz hze He
 obtain ⟨hn1,hn2⟩:=hn
 rcases hzz with ⟨h0,hzz⟩ | ⟨h0,hzz⟩
 ·have Hz:=Hj hzz;clear hzz
  go_enter Tryz.func135,Tryz.ntmps135
  go_wp2_with fail
  refine (Hr.out _ _ (by have:=Hz.out;omega)).mono ?_
  rintro e w1 ⟨v1,rfl,h1,h2⟩
  have H1:=Hj h1;clear h1
  go_wp2
  go_ret
  exact ⟨_,rfl,H1.out,h2⟩
 have Hz:=Hj hzz;clear hzz
 have h0':¬n<0:=by omega
 go_enter Tryz.func135,Tryz.ntmps135
 go_wp2_with fail
 refine (Hr.out _ _ (by have:=Hz.out;omega)).mono ?_
 rintro e w1 ⟨v1,rfl,h1,h2⟩
 have H1:=Hj h1;clear h1
 go_wp2
 go_ret
 exact ⟨_,rfl,H1.out,h2⟩
end Go.Proofs.YtipiofgdjbogiaaGreat
namespace Go.Wi
open Go Go.Txt Go.RowKit Go.Bs Go.Cl Go.Rw
theorem brow_nil (e:Nat) (w:World) (base:Nat):BRow e w base (.slice none 0 0) []:=World.ownsRow_nil _ _ _ _
theorem brow_app {e m:Nat} {w:World} {base:Nat} {v:Value} {l1 l2:List UInt8} (hm:m=l2.length) (h:w.ownsRow base e 1 v (l1.length+m) (bytesV l1++bytesV l2)):BRow e w base v (l1++l2):=by
 subst hm
 show w.ownsRow base e 1 v (l1++l2).length (bytesV (l1++l2))
 rw[List.length_append,bytesV_append];exact h
end Go.Wi
namespace Go.Proofs.YtipiofgdjbogiaaGreat
open Go.Txt Go.RowKit Go.Bs Go.Cl Go.Rw Go.Wi
theorem wbytes_any (v xv:Value) (l x:List UInt8) (base:Nat) (w:World) (hl:l.length≤1000000) (hx:x.length≤1000000) (hown:BRow 5 w base v l) (hX:Bytes v.ownBlock.toList w xv x) (hbase:base≤w.heap.size):
  Calls Tryz.prog 94 #[v,xv] w fun e w'=>∃v',e= .returned v'∧Grows 5 w w' base v v' (l++encB x):=by
 obtain ⟨a,c,rfl⟩:=Oq hown
 obtain ⟨xa,xc,rfl⟩:=Rs hX
 have hfx:Wi.fits (x.length:Int):=by unfold Wi.fits;omega
 have Hfx:=Hj hfx;clear hfx
 have Hown:=Hj hown;clear hown
 have HX:=Hj hX;clear hX
 go_enter Tryz.func94,Tryz.ntmps94
 go_wp2_with fail
 refine (wint_any _ l (x.length:Int) base _ Hfx.out hl Hown.out hbase).mono ?_
 rintro e w1 ⟨v1,rfl,hg1⟩
 have hX1:=Raw.keep HX.out hg1.keep (fun f hf=> .inl hf) hg1.news
 have hs1:=hg1.keep.size
 have hr1:=hg1.row
 have hil:=encI_len Hfx.out
 obtain ⟨l1,hl1⟩:∃l1,l++encI (x.length:Int)=l1:=⟨_,rfl⟩
 have hl1l:l1.length≤1000010:=by rw[←hl1];simp;omega
 rw[hl1] at hr1 hg1
 have Hl1:=Hj hl1
 have HG1:=Hj hg1
 have HR1:=Hj hr1
 have HX1:=Hj hX1
 obtain ⟨a1,c1,hv1⟩:=Oq hr1
 subst hv1
 clear hg1 hX1 hl1 hr1 hil
 go_wp2_with (at_builtin;refine wpList_appF elB Tryz.underlying22 HR1.out HX1.out (Br 0 _) rfl _ _ rfl rfl rfl ?c3 ?cB ?c5 ?_)
 case c3=>omega
 case cB=>omega
 case c5=>omega
 intro v2 w2 hown2 _ hk2 hn2
 have hg2:Grows 5 w w2 base (.slice a l.length c) v2 (l++encB x):=by
  refine HG1.out.trans ⟨?_,hk2,by simpa using hn2⟩
  have:=brow_app rfl hown2
  rw[←Hl1.out,List.append_assoc] at this
  exact this
 have Hg2:=Hj hg2
 clear hown2 hk2 hn2 hg2
 go_wp2
 go_ret
 exact ⟨_,rfl,Hg2.out⟩
theorem rbytes_any (xv:Value) (x:List UInt8) (w:World) (hx:x.length≤1000000) (hX:Bytes [] w xv x):
  Calls Tryz.prog 99 #[xv] w fun e w'=>∃v',e= .returned v'∧BRow 5 w' w.heap.size v' (encB x)∧Below w.heap.size w w':=by
 obtain ⟨xa,xc,rfl⟩:=Rs hX
 have hfx:Wi.fits (x.length:Int):=by unfold Wi.fits;omega
 have Hfx:=Hj hfx;clear hfx
 have HX:=Hj hX;clear hX
 go_enter Tryz.func99,Tryz.ntmps99
 go_wp2_with fail
 refine (rint_any (x.length:Int) _ Hfx.out).mono ?_
 rintro e w1 ⟨v1,rfl,hr1,hb1⟩
 have HX1:=Hj (Rb HX.out hb1)
 have hil:=encI_len Hfx.out
 obtain ⟨l1,hl1⟩:∃l1,encI (x.length:Int)=l1:=⟨_,rfl⟩
 rw[hl1] at hr1 hil
 have Hl1:=Hj hl1
 have HR1:=Hj hr1
 obtain ⟨a1,c1,hv1⟩:=Oq hr1
 subst hv1
 clear hl1 hr1
 go_wp2_with (at_builtin;refine wpList_appF elB Tryz.underlying22 HR1.out HX1.out hb1 rfl _ _ rfl rfl rfl ?c3 ?cB ?c5 ?_)
 case c3=>omega
 case cB=>exact Nr _
 case c5=>exact hb1.size
 intro v2 w2 hown2 hb2 hk2 hn2
 have hr2:BRow 5 w2 w.heap.size v2 (encB x):=by
  have:=brow_app rfl hown2
  rw[←Hl1.out] at this
  exact this
 have HR2:=Hj hr2
 clear hown2 hk2 hn2 hr2
 go_wp2
 go_ret
 exact ⟨_,rfl,HR2.out,hb2⟩
end Go.Proofs.YtipiofgdjbogiaaGreat
