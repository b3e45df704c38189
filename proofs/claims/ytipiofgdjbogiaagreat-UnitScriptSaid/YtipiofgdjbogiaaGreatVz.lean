/- the reference's Written and Sized: results in new blocks -/
import Derived.Test.YtipiofgdjbogiaaGreatM2
import Derived.Test.YtipiofgdjbogiaaGreatM1
set_option maxRecDepth 100000
set_option maxHeartbeats 1000000
namespace Go.Proofs.YtipiofgdjbogiaaGreat
open Go.Txt Go.RowKit Go.Bs Go.Cl Go.Rw Go.Un
theorem rwritten_fr (bv xv:Value) (b x:List UInt8) (o:Nat) (w:World) (hb:b.length≤1000000) (ho:o+x.length≤b.length) (hB:Bytes [] w bv b) (hX:Bytes [] w xv x):
  Calls Tryz.prog 114 #[bv,.int .i64 o,xv] w fun e w'=>∃v',e= .returned v'∧Bytes (old w) w' v' (Un.written b o x)∧Below w.heap.size w w':=by
 obtain ⟨xa,xc,rfl⟩:=Rs hX
 have HX:=Hj hX;clear hX
 have Hemp:=Hj (own_empty w w.heap.size 5 1 (Nr _))
 have hal:=(Br w.heap.size w).alloc (Nr _) (.cells #[] 5)
 have HB:=Hj hB
 rcases Raw.cases hB with ⟨h0,_,a,cap,rfl,hcm⟩ | ⟨h0,bb,off,cap,rfl,hc,hcm,hbb,_,_⟩
 ·have hb0:b=[]:=List.eq_nil_of_length_eq_zero h0
  subst hb0
  simp only[List.length_nil] at ho
  obtain rfl:o=0:=by omega
  have hx0:x=[]:=List.eq_nil_of_length_eq_zero (by omega)
  subst hx0
  clear hB
  rcases a with _ | ad
  all_goals by_cases hc0:cap=0
  all_goals
   go_enter Tryz.func114,Tryz.ntmps114
   go_wp2_with (at_builtin;refine wpList_app el22 Tryz.underlying22 Hemp.out (Raw.zero [] 1 _ _ _ ?cz) hal rfl _ _ rfl rfl rfl ?c3 (Nr _) ?c5 ?_)
   case cz=>first | exact hcm | (unfold maxLen;omega)
   case c3=>omega
   case c5=>simp
   intro v1 w1 hown1 hb1 hg1 hs1
   have Hown1:=Hj hown1;clear hown1 hg1 hs1
   have hsz:=hb1.size
   go_wp2
   refine wp_txt (by kernel_rfl) (by kernel_rfl) ?_
   go_wp2_with (at_builtin;refine wpList_app el22 Tryz.underlying22 Hown1.out (Raw.drew (Rb HX.out hb1)) hb1.drew rfl _ _ rfl rfl rfl ?c3 (Nr _) ?c5 ?_)
   case c3=>simp
   case c5=>simp;omega
   intro v2 w2 hown2 hb2 hg2 hs2
   have Hown2:=Hj hown2;clear hown2 hg2 hs2
   have hsz2:=hb2.size
   go_wp2_with (at_builtin;refine wpList_app el22 Tryz.underlying22 Hown2.out (Raw.zero [] 1 _ _ _ ?cz) hb2 rfl _ _ rfl rfl rfl ?c3 (Nr _) ?c5 ?_)
   case cz=>first | exact hcm | (unfold maxLen;omega)
   case c3=>simp
   case c5=>omega
   intro v3 w3 hown3 hb3 hg3 hs3
   have Hown3:=Hj hown3;clear hown3 hg3 hs3
   go_wp2
   refine DrawPost.mk0 (by rfl) ?_
   go_wp2
   go_ret
   exact ⟨_,rfl,Bytes.of_own (l:=[]) (by simpa[bytesV] using Hown3.out) rfl old_lt,hb3⟩
 have Htk:=Hj (Raw.alloc (Raw.take hB (m:=o) (c:=cap) (by omega) (by omega) (Nr _)) (.cells #[] 5))
 have htl:(Raw.take hB (m:=o) (c:=cap) (by omega) (by omega) (Nr _)).len=(Raw.take hB (m:=o) (c:=cap) (by omega) (by omega) (Nr _)).len:=rfl
 clear htl
 by_cases hdr:o+x.length<b.length
 ·have Hdr:=Hj (Raw.drop (k:=1) (m:=o+x.length) hB hdr (n':=b.length - (o+x.length)) (c:=cap - (o+x.length)) rfl rfl (off':=off+(o+x.length)) (by omega))
  have hck:¬cap=o+x.length:=by omega
  clear hB
  go_enter Tryz.func114,Tryz.ntmps114
  go_wp2_with (at_builtin;refine wpList_app el22 Tryz.underlying22 Hemp.out Htk.out hal rfl _ _ rfl rfl rfl ?c3 (Nr _) ?c5 ?_)
  case c3=>omega
  case c5=>simp
  intro v1 w1 hown1 hb1 hg1 hs1
  have Hown1:=Hj hown1;clear hown1 hg1 hs1
  have hsz:=hb1.size
  go_wp2
  refine wp_txt (by kernel_rfl) (by kernel_rfl) ?_
  go_wp2_with (at_builtin;refine wpList_app el22 Tryz.underlying22 Hown1.out (Raw.drew (Rb HX.out hb1)) hb1.drew rfl _ _ rfl rfl rfl ?c3 (Nr _) ?c5 ?_)
  case c3=>omega
  case c5=>simp;omega
  intro v2 w2 hown2 hb2 hg2 hs2
  have Hown2:=Hj hown2;clear hown2 hg2 hs2
  have hsz2:=hb2.size
  go_wp2_with (at_builtin;refine wpList_app el22 Tryz.underlying22 Hown2.out (Rb Hdr.out hb2) hb2 rfl _ _ rfl rfl rfl ?c3 (Nr _) ?c5 ?_)
  case c3=>omega
  case c5=>omega
  intro v3 w3 hown3 hb3 hg3 hs3
  have Hown3:=Hj hown3;clear hown3 hg3 hs3
  go_wp2
  refine DrawPost.mk0 (by rfl) ?_
  go_wp2
  go_ret
  have e:w3.ownsRow w.heap.size 5 1 v3 (o+x.length+(b.length - (o+x.length))) (bytesV (Un.written b o x)):=by
   have h:=Hown3.out
   have hl:o+x.length+(b.length - (o+x.length))=b.length:=by omega
   rw[hl]
   simp only[Un.written,bytesV_append,←bytesV_take,←bytesV_drop]
   simpa[hl] using h
  exact ⟨_,rfl,Bytes.of_own e (by rw[written_len ho];omega) old_lt,hb3⟩
 have Hz:=Hj (show cap - (o+x.length)≤maxLen by omega)
 have hon:b.length=o+x.length:=by omega
 have Hon:=Hj hon
 rw[hon] at hc hb h0⊢
 have HB0:=Hon
 clear hB hdr ho hon HB
 have hck:cap=o+x.length∨o+x.length<cap:=by omega
 rcases hck with rfl | hck
 all_goals
  go_enter Tryz.func114,Tryz.ntmps114
  go_wp2_with (at_builtin;refine wpList_app el22 Tryz.underlying22 Hemp.out Htk.out hal rfl _ _ rfl rfl rfl ?c3 (Nr _) ?c5 ?_)
  case c3=>omega
  case c5=>simp
  intro v1 w1 hown1 hb1 hg1 hs1
  have Hown1:=Hj hown1;clear hown1 hg1 hs1
  have hsz:=hb1.size
  go_wp2
  refine wp_txt (by kernel_rfl) (by kernel_rfl) ?_
  go_wp2_with (at_builtin;refine wpList_app el22 Tryz.underlying22 Hown1.out (Raw.drew (Rb HX.out hb1)) hb1.drew rfl _ _ rfl rfl rfl ?c3 (Nr _) ?c5 ?_)
  case c3=>omega
  case c5=>simp;omega
  intro v2 w2 hown2 hb2 hg2 hs2
  have Hown2:=Hj hown2;clear hown2 hg2 hs2
  have hsz2:=hb2.size
  go_wp2_with (at_builtin;refine wpList_app el22 Tryz.underlying22 Hown2.out (Raw.zero' [] 1 _ _ _ _ ?cm ?cz) hb2 rfl _ _ rfl rfl rfl ?c3 (Nr _) ?c5 ?_)
  case cm=>omega
  case cz=>first | exact Hz.out | (unfold maxLen;omega) | (have:=Hz.out;omega)
  case c3=>omega
  case c5=>omega
  intro v3 w3 hown3 hb3 hg3 hs3
  have Hown3:=Hj hown3;clear hown3 hg3 hs3
  go_wp2
  refine DrawPost.mk0 (by rfl) ?_
  go_wp2
  go_ret
  have e:w3.ownsRow w.heap.size 5 1 v3 (o+x.length) (bytesV (Un.written b o x)):=by
   have h:=Hown3.out
   have hd:b.drop (o+x.length)=[]:=List.drop_eq_nil_of_le (by rw[Hon.out];exact Nr _)
   simp only[Un.written,bytesV_append,←bytesV_take,hd]
   simpa[bytesV] using h
  exact ⟨_,rfl,Bytes.of_own e (by rw[written_len (by rw[Hon.out];exact Nr _),Hon.out]) old_lt,hb3⟩
theorem rsized_fr (bv:Value) (b:List UInt8) (n:Nat) (w:World) (hb:b.length≤1000000) (hn:n≤1000000) (hB:Bytes [] w bv b):
  Calls Tryz.prog 113 #[bv,.int .i64 n] w fun e w'=>∃v',e= .returned v'∧Bytes (old w) w' v' (sized b n)∧Below w.heap.size w w':=by
 obtain ⟨xa,xc,rfl⟩:=Rs hB
 have HB:=Hj (Raw.alloc hB (.cells #[] 5));clear hB
 have Hemp:=Hj (own_empty w w.heap.size 5 1 (Nr _))
 have hal:=(Br w.heap.size w).alloc (Nr _) (.cells #[] 5)
 go_enter Tryz.func113,Tryz.ntmps113
 go_wp2_with (at_builtin;refine wpList_app el22 Tryz.underlying22 Hemp.out HB.out hal rfl _ _ rfl rfl rfl ?c3 (Nr _) ?c5 ?_)
 case c3=>omega
 case c5=>simp
 intro v1 w1 hown1 hb1 hg1 hs1
 obtain ⟨a1,c1,rfl⟩:=Oq hown1
 have Hown1:Hid (w1.ownsRow w.heap.size 5 1 (.slice a1 (b.length+0) c1) (b.length+0) (bytesV (b++List.replicate 0 0))):=Hj (by simpa using hown1)
 clear hown1 hg1 hs1
 go_wp2
 go_loopw [5] (fun v wr=>∃j:Nat,(j=0∨b.length+j≤n)∧∃a c,v= .slice a (b.length+j) c∧wr.ownsRow w.heap.size 5 1 (.slice a (b.length+j) c) (b.length+j) (bytesV (b++List.replicate j 0))∧Below w.heap.size w wr) (fun v _=>n - lenOf v)
 case atStart=>exact ⟨0,.inl rfl,a1,c1,by simp,Hown1.out,hb1⟩
 case round=>
  obtain ⟨j,hj,a,c,rfl,hown,hbel⟩:=hrel
  have hsz:=hbel.size
  by_cases hlt:b.length+j<n
  ·have Hown:=Hj hown;clear hown
   have Hone:=Hj (Raw.of_block (F:=[]) (k:=1) (m:=1) (cap:=1) (ys:=bytesV [0]) (heap_alloc_new wr (.cells (bytesV [0]).toArray 5)) (by intro h;cases h) (bytesV_one _) rfl (Nr _) (by unfold maxLen;omega))
   have hbel1:=hbel.alloc hsz (.cells (bytesV [0]).toArray 5)
   go_wp2_with (at_builtin;refine wpList_app el22 Tryz.underlying22 (Hown.out.alloc _) Hone.out hbel1 rfl _ _ rfl rfl rfl ?c3 (Nr _) ?c5 ?_)
   case c3=>omega
   case c5=>simp;omega
   intro v2 w2 hown2 hb2 hg2 hs2
   obtain ⟨a2,c2,rfl⟩:=Oq hown2
   have Hown2:Hid (w2.ownsRow w.heap.size 5 1 (.slice a2 (b.length+(j+1)) c2) (b.length+(j+1)) (bytesV (b++List.replicate (j+1) 0))):=Hj (by
    rw[List.replicate_succ',←List.append_assoc,bytesV_append];exact hown2)
   clear hown2 hg2 hs2
   go_wp2
   go_roundw
   case rel=>exact ⟨j+1,.inr (by omega),a2,c2,by simp[Nat.add_assoc],Hown2.out,hb2⟩
   case measure=>simp[lenOf];omega
  have hr:=Raw.of_own (F:=old w) hown (bytesV_one _) old_lt
  have htk:=Raw.take hr (m:=n) (c:=c) (by omega) (by have:=hr.2.2;obtain ⟨_,_,e,h,_⟩:=this;cases e;omega) (Nr _)
  have hs:(bytesV (b++List.replicate j 0)).take (n*1)=bytesV (sized b n):=by
   rw[Nat.mul_one,bytesV_take]
   congr 1
   unfold sized
   rw[List.take_append]
   congr 1
   rcases hj with rfl | hj
   ·rw[show n - b.length=0 by omega];simp
   rw[List.take_of_length_le (by simp;omega)];congr 1;omega
  rw[hs] at htk
  have Htk:Hid (Bytes (old w) wr (.slice a n c) (sized b n)):=Hj (by unfold Bytes;rw[sized_len];exact htk)
  have hcap:b.length+j≤c:=by have:=hr.2.2;obtain ⟨_,_,e,h,_⟩:=this;cases e;exact h
  clear hs htk hr hown
  go_wp2
  go_ret
  exact ⟨_,rfl,Htk.out,hbel⟩
end Go.Proofs.YtipiofgdjbogiaaGreat
