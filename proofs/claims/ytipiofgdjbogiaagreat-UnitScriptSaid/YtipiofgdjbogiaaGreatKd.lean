/- Images: the reference's Page and Diff -/
import Derived.Test.YtipiofgdjbogiaaGreatM3
import Derived.Deep.CutRange
set_option maxRecDepth 100000
set_option maxHeartbeats 4000000
namespace Go.Proofs.YtipiofgdjbogiaaGreat
open Go.Txt Go.RowKit Go.Bs Go.Cl Go.Rw Go.Un Go.Im
theorem rcount_any (n:Nat) (w:World) (hn:n≤1000000):Calls Tryz.prog 101 #[.int .i64 n] w fun e w'=>e= .returned (.int .i64 (cnt n))∧w=w':=by
 by_cases h0:n=0
 ·subst h0
  go_enter Tryz.func101,Tryz.ntmps101
  go_wp2
  go_ret
  exact ⟨rfl,rfl⟩
 have h1:0<n:=by omega
 have h2:¬(n:Int)≤0:=by omega
 clear h0
 go_enter Tryz.func101,Tryz.ntmps101
 go_wp2
 go_ret
 exact ⟨ret_int (by unfold cnt;omega),rfl⟩
theorem rsize_any (n k:Nat) (w:World) (hn:n≤1000000) (hk:k≤1000000):Calls Tryz.prog 148 #[.int .i64 n,.int .i64 k] w fun e w'=>e= .returned (.int .i64 (sz n k))∧w=w':=by
 have hk0:¬(k:Int)<0:=by omega
 have hcl:cnt n≤1000000:=by unfold cnt;omega
 by_cases hc:k<cnt n
 ·have hc':¬cnt n≤k:=by omega
  have hp:=sz_pos hc
  have hkn:(k:Int)*128≤n:=by omega
  by_cases hm:(k:Int)=(cnt n:Int) - 1
  ·have hs:(sz n k:Int)=(n:Int) - k*128:=by unfold sz;unfold cnt at hm;omega
   have hm':((k:Int)==(cnt n:Int) - 1)=true:=by simpa using hm
   have Hs:=Hj hs
   clear hp hs hm
   go_enter Tryz.func148,Tryz.ntmps148
   go_wp2_with (go_at_call 101;refine (rcount_any _ _ hn).mono ?_;rintro e w' ⟨rfl,rfl⟩)
   go_ret
   exact ⟨ret_int Hs.out.symm,rfl⟩
  have hs:sz n k=128:=by unfold sz;unfold cnt at hm hc;omega
  have hm':((k:Int)==(cnt n:Int) - 1)=false:=by simpa using hm
  rw[hs]
  clear hp hs hm
  go_enter Tryz.func148,Tryz.ntmps148
  go_wp2_with (go_at_call 101;refine (rcount_any _ _ hn).mono ?_;rintro e w' ⟨rfl,rfl⟩)
  go_ret
  exact ⟨rfl,rfl⟩
 have hz:sz n k=0:=sz_zero.2 (by omega)
 have hc':cnt n≤k:=by omega
 rw[hz];clear hz hc
 go_enter Tryz.func148,Tryz.ntmps148
 go_wp2_with (go_at_call 101;refine (rcount_any _ _ hn).mono ?_;rintro e w' ⟨rfl,rfl⟩)
 go_ret
 exact ⟨rfl,rfl⟩
theorem el45:Rw.Elem Tryz.prog 30 173 2 32 (.agg #[.int .i64 0,.slice none 0 0]):=⟨Tryz.underlying30,by kernel_rfl,rfl,by decide⟩
theorem rpage_any {F:List Nat} (bv:Value) (b:List UInt8) (k:Nat) (w:World) (hn:b.length≤1000000) (hk:k≤1000000) (hB:Bytes F w bv b):
  Calls Tryz.prog 140 #[bv,.int .i64 k] w fun e w'=>∃v,e= .returned v∧Bytes (old w) w' v (pg b k)∧Below w.heap.size w w':=by
 obtain ⟨a,c,rfl⟩:=Rs hB
 have hl:=pg_len b k
 by_cases hc:k<cnt b.length
 ·obtain ⟨hp,hs⟩:=sz_pos hc
  obtain ⟨ta,hsl,hT⟩:=Raw.mid hB Tryz.underlying22 (show (Tryz.prog.info? 5).map (·.size)=some 1 by kernel_rfl) (lo:=k*128) (hi:=k*128+sz b.length k) (by omega) hs
  rw[Nat.mul_one,Nat.mul_one,bytesV_take,bytesV_drop,pg_mid,Nat.add_sub_cancel_left] at hT
  rw[Nat.add_sub_cancel_left] at hsl
  obtain ⟨m,hm⟩:∃m,m=sz b.length k:=⟨_,rfl⟩
  rw[←hm] at hT hsl hp hs hl
  have hml:m≤1000000:=by omega
  have hsl:∀wx,(Instr.slice 22 (.slice a b.length c) (some (.int .i64 ((k:Int)*128))) (some (.int .i64 ((k:Int)*128+m))) none).run Tryz.prog wx= .ok (.slice ta m (c - k*128)) wx:=fun wx=>by
   have:=hsl wx;rw[Int.natCast_add,Int.natCast_mul] at this;exact this
  have hne':((m:Int)==0)=false:=by simp;omega
  have hne:(m==0)=false:=by simp;omega
  have al:=(Br w.heap.size w).alloc (Nr _) (.cells #[] 5)
  have HT:=Hj (Rb hT al);have Hl:=Hj hl;have Hm:=Hj hm
  have HO:=Hj (own_empty w w.heap.size 5 1 (Nr _))
  have hsz:=fun w=>rsize_any b.length k w hn hk
  rw[←hm] at hsz
  have HSz:=Hj hsz
  have hkb:(k:Int)*128+m≤b.length:=by omega
  clear hT hl hB hc hm hsz
  go_enter Tryz.func140,Tryz.ntmps140
  go_wp2_with fail
  refine (HSz.out _).mono ?_
  rintro e w' ⟨rfl,rfl⟩
  go_wp2_with fail
  refine (HSz.out _).mono ?_
  rintro e w' ⟨rfl,rfl⟩
  go_wp2_with (at_builtin;refine wpList_app el22 Tryz.underlying22 HO.out HT.out al rfl _ _ rfl rfl rfl ?c3 (Nr _) ?c5 ?_)
  case c3=>omega
  case c5=>simp
  intro v1 w1 hown hb _ _
  have hB1:Bytes (old w) w1 v1 (pg b k):=Bytes.row (n:=m) (base:=w.heap.size) (e:=5) (by simpa using hown) Hl.out.symm old_lt
  have HB1:=Hj hB1
  clear hown hB1
  go_wp2
  go_ret
  exact ⟨_,rfl,HB1.out,hb⟩
 have hz:sz b.length k=0:=sz_zero.2 (by omega)
 have hnil:pg b k=[]:=List.eq_nil_of_length_eq_zero (by rw[hl,hz])
 rw[hnil]
 have Hz:=Hj hz
 clear hnil hl hB hc hz
 go_enter Tryz.func140,Tryz.ntmps140
 go_wp2_with fail
 refine (rsize_any _ _ _ hn hk).mono ?_
 rw[Hz.out]
 rintro e w' ⟨rfl,rfl⟩
 go_wp2
 go_ret
 exact ⟨_,rfl,Raw.empty _ _ _,Br _ _⟩
structure DR (w:World) (a b:List UInt8) (k:Nat) (W:World):Prop where
 row:∃(v:Value) (cs:List ((Nat×List UInt8)×Value)),W.heap[w.heap.size+1]? =some (.cells #[.int .i64 b.length,v] 167 (0,0))∧cs.map (·.1)=difK a b k∧W.ownsRow (w.heap.size+1+1) 173 2 v cs.length (cs.flatMap encC)∧∀p∈cs,Bytes (v.ownBlock.toList++List.range (w.heap.size+1+1)) W p.2 p.1.2
 res:W.heap[w.heap.size]? =some (.cells #[.int .i64 0,.slice none 0 0] 167 (0,0))
 bel:Below w.heap.size w W
 sz:w.heap.size+1<W.heap.size
theorem DR.same {w W W':World} {a b:List UInt8} {k:Nat} (h:DR w a b k W) (hb:Below W.heap.size W W') (hq:difK a b (k+1)=difK a b k):DR w a b (k+1) W':=by
 obtain ⟨⟨v,cs,h1,h2,h3,h4⟩,h5,h6,h7⟩:=h
 exact ⟨⟨v,cs,(hb.block _ h7).trans h1,by rw[hq];exact h2,own_below h3 hb (Nr _),fun p hp=>Rb (h4 p hp) hb⟩,(hb.block _ (by omega)).trans h5,h6.trans (hb.mono h6.size),Nat.lt_of_lt_of_le h7 hb.size⟩
theorem dr_step {w W W3 W4:World} {a b:List UInt8} {k:Nat} {v v4:Value} {cs:List ((Nat×List UInt8)×Value)} {a2:Option Addr} {c2:Nat}
  (c7:Below w.heap.size w W) (c8:w.heap.size+1<W.heap.size) (h2:cs.map (·.1)=difK a b k) (hD:difK a b (k+1)=difK a b k++[(k,pg b k)])
  (h1:W.heap[w.heap.size+1]? =some (.cells #[.int .i64 b.length,v] 167 (0,0))) (h6:W.heap[w.heap.size]? =some (.cells #[.int .i64 0,.slice none 0 0] 167 (0,0)))
  (h4:∀p∈cs,Bytes (v.ownBlock.toList++List.range (w.heap.size+1+1)) W p.2 p.1.2) (hW3:Below W.heap.size W W3) (hO3:W3.ownsRow (w.heap.size+1+1) 173 2 v cs.length (cs.flatMap encC))
  (hB3:∀X:List Nat,(∀f∈X,f<W.heap.size)→Bytes X W3 (.slice a2 (pg b k).length c2) (pg b k)) (hOW:∀r,v.ownBlock=some r→r<W.heap.size) (hown4:W4.ownsRow (w.heap.size+1+1) 173 2 v4 (cs.length+1) (cs.flatMap encC++[.int .i64 k,.slice a2 (pg b k).length c2]))
  (hb4:Below (w.heap.size+1+1) W W4) (hk4:Keep v.ownBlock.toList W3 W4) (hn4:∀f∈v4.ownBlock.toList,f∈v.ownBlock.toList∨W3.heap.size≤f):
  DR w a b (k+1) (W4.setCell ⟨w.heap.size+1,1,none⟩ v4):=by
 have hs3:=hW3.size
 have hs4:=hb4.size
 have hsv:∀f∈v.ownBlock.toList,w.heap.size+1+1≤f∧f<W.heap.size:=fun f hf=>by
  have hf':v.ownBlock=some f:=by simpa using hf
  exact ⟨(hO3.lt f hf').1,hOW f hf'⟩
 have blk:∀j,j<w.heap.size+1+1→W4.heap[j]? =W.heap[j]? :=fun j hj=>hb4.block j hj
 have hP4:W4.heap[w.heap.size+1]? =some (.cells #[.int .i64 b.length,v] 167 (0,0)):=(blk _ (by omega)).trans h1
 have hset:(W4.setCell ⟨w.heap.size+1,1,none⟩ v4).heap[w.heap.size+1]? =some (.cells #[.int .i64 b.length,v4] 167 (0,0)):=heap_setCell_same W4 (w.heap.size+1) 1 _ 167 v4 hP4
 have hko:Keep [w.heap.size+1] W4 (W4.setCell ⟨w.heap.size+1,1,none⟩ v4):=(Keep.refl [w.heap.size+1] W4).setCell (by simp) _
 have hbW:Below w.heap.size W (W4.setCell ⟨w.heap.size+1,1,none⟩ v4):=(hb4.mono (by omega)).setCell (by show w.heap.size≤w.heap.size+1;omega) _
 refine ⟨⟨v4,cs++[((k,pg b k),.slice a2 (pg b k).length c2)],hset,by rw[hD];simp[h2], ?_,fun p hp=> ?_⟩, ?_,c7.trans hbW, ?_⟩
 ·have hw:=own_keep hown4 hko (fun r hr hm=>by
   rw[List.mem_singleton] at hm;have:=(hown4.lt r hr).1;omega)
  simpa[encC] using hw
 ·have base:Bytes (v.ownBlock.toList++List.range (w.heap.size+1+1)) W3 p.2 p.1.2:=by
   rcases List.mem_append.1 hp with hp | hp
   ·exact Rb (h4 p hp) hW3
   rw[M1' hp]
   exact hB3 _ fun f hf=>by
    rcases List.mem_append.1 hf with hf | hf
    ·exact (hsv f hf).2
    have:=List.mem_range.1 hf;omega
  have h4':Bytes (v4.ownBlock.toList++List.range (w.heap.size+1+1)) W4 p.2 p.1.2:=base.keep hk4 (fun f hf=> .inl (List.mem_append_left _ hf)) (fun f hf=>by
   rcases List.mem_append.1 hf with hf | hf
   ·exact (hn4 f hf).imp (fun h=>List.mem_append_left _ h) id
   exact .inl (List.mem_append_right _ hf))
  exact Raw.keep h4' hko (fun f hf=> .inl (by rw[M1' hf];exact List.mem_append_right _ (List.mem_range.2 (by omega)))) (fun f hf=> .inl hf)
 ·exact (hko.block _ (by omega) (by first | (simp;done) | (simp;omega))).trans ((blk _ (by omega)).trans h6)
 simp[World.setCell];omega
theorem rdiff_any {F:List Nat} (av bv:Value) (a b:List UInt8) (w:World) (ha:a.length≤24000) (hb:b.length≤24000) (hA:Bytes F w av a) (hB:Bytes F w bv b):
  Calls Tryz.prog 111 #[av,bv] w (DifR w (dif a b) b.length):=by
 obtain ⟨aa,ac,rfl⟩:=Rs hA
 obtain ⟨ba,bc,rfl⟩:=Rs hB
 have HA:=Hj hA;clear hA
 have HB:=Hj hB;clear hB
 have hbl:(b.length:Int)≤24000:=by omega
 have hdec:decide ((24000:Int)<b.length)=false:=by simp;omega
 have hcl:cnt b.length≤1000:=by unfold cnt;omega
 have al:=((Br w.heap.size w).alloc (Nr _) (.cells #[.int .i64 0,.slice none 0 0] 167)).alloc (by simp) (.cells #[.int .i64 b.length,.slice none 0 0] 167)
 have r0:((w.alloc (.cells #[.int .i64 0,.slice none 0 0] 167)).alloc (.cells #[.int .i64 b.length,.slice none 0 0] 167)).heap[w.heap.size]? =some (.cells #[.int .i64 0,.slice none 0 0] 167 (0,0)):=(((Br (w.alloc (.cells #[.int .i64 0,.slice none 0 0] 167)).heap.size _).alloc (Nr _) _).block w.heap.size (by simp)).trans (heap_alloc_new w _)
 have p0:((w.alloc (.cells #[.int .i64 0,.slice none 0 0] 167)).alloc (.cells #[.int .i64 b.length,.slice none 0 0] 167)).heap[w.heap.size+1]? =some (.cells #[.int .i64 b.length,.slice none 0 0] 167 (0,0)):=by
  have:=heap_alloc_new (w.alloc (.cells #[.int .i64 0,.slice none 0 0] 167)) (.cells #[.int .i64 b.length,.slice none 0 0] 167)
  simpa only[World.size_alloc] using this
 have H0:Hid (DR w a b 0 ((w.alloc (.cells #[.int .i64 0,.slice none 0 0] 167)).alloc (.cells #[.int .i64 b.length,.slice none 0 0] 167))):=Hj ⟨⟨.slice none 0 0,[],p0,by simp[difK],World.ownsRow_nil _ _ _ _,fun p hp=>by cases hp⟩,r0,al,by simp⟩
 clear al r0 p0
 go_enter Tryz.func111,Tryz.ntmps111
 go_wp2
 go_loopw [7] (fun i wr=>∃k:Nat,k≤cnt b.length∧i= .int .i64 k∧DR w a b k wr) (fun i _=>cnt b.length - (intOf i).toNat)
 case atStart=>exact ⟨0,Nat.zero_le _,rfl,H0.out⟩
 case round=>
  clear H0
  obtain ⟨k,hk,rfl,hI⟩:=hrel
  have hbel:=hI.bel
  have hsz:=hI.sz
  obtain ⟨v,cs,c1,c2,c3,c4⟩:=hI.row
  have hcsl:cs.length≤1000:=by
   have:=congrArg List.length c2
   rw[List.length_map] at this
   have:=difK_len a b k
   omega
  obtain ⟨va,vc,rfl⟩:=Oq c3
  have HI:=Hj hI;have C1:=Hj c1;have C2:=Hj c2;have C3:=Hj c3;have C4:=Hj c4
  have C6:=Hj hI.res
  have HAr:=Hj (HA.out.below hbel)
  have HBr:=Hj (HB.out.below hbel)
  clear hI c1 c2 c3 c4
  have hb6:b.length≤1000000:=by omega
  have ha6:a.length≤1000000:=by omega
  have HPa0:=Hj HAr.out.drew;have HPb0:=Hj HBr.out.drew;have HBl0:=Hj (Br wr.heap.size wr).drew
  by_cases hlt:k<cnt b.length
  ·have hkl:k≤1000000:=by omega
   go_wp2_with (go_at_call 101;refine (rcount_any _ _ hb6).mono ?_;rintro e w' ⟨rfl,rfl⟩)
   go_cut [30] from 22 to 30 (fun s wx=>s= .bool (!decide (pg a k=pg b k))∧Below wr.heap.size wr wx)
   case first=>
    refine Ty.wp_tree [] [] [] [] [0,1,4,5] (.alt [2] (.alt [3] (.alt [6] (.alt [7,8] (.done) (.no)) (.no)) (.alt [6] (.alt [3] (.alt [7,8] (.done) (.no)) (.alt [7] (.alt [3,8] (.done) (.no)) (.no))) (.no))) (.no)) (by kernel_rfl) (by kernel_rfl) (by kernel_rfl) (by kernel_rfl) (fun b hb=>by cases hb) ?_
    try simp only[pick,Gs,Gz]
    go_wp2
    refine Rm ?_
    refine Wa ?_ ?_
    ·try simp only[pick,Gs,Gz]
     go_wp2_with fail
     refine (rpage_any (F:=F) _ a k _ ha6 hkl HPa0.out).mono ?_
     rintro e u1 ⟨x2,rfl,hbu1,hbelu1⟩
     obtain ⟨ad2,cp2,rfl⟩:=Rs hbu1
     have HPa1:=Hj (HPa0.out.below hbelu1);have HPb1:=Hj (HPb0.out.below hbelu1);have HBl1:=Hj (Below.trans HBl0.out (hbelu1.mono (Below.size HBl0.out)))
     have HSa_1:=Hj hbu1
     clear hbu1 hbelu1
     go_wp2
     refine Sm Ty.Shown.none ?_
     try simp only[pick,Gs,Gz]
     go_wp2
     refine Rm ?_
     refine Wa ?_ ?_
     ·try simp only[pick,Gs,Gz]
      have k3:=run_str HSa_1.out 22 5 9 Tryz.underlying22 Tryz.underlying5 Tryz.underlying9
      go_wp2
      refine Sm Ty.Shown.none ?_
      try simp only[pick,Gs,Gz]
      go_wp2
      refine Rm ?_
      refine Wa ?_ ?_
      ·try simp only[pick,Gs,Gz]
       go_wp2_with fail
       refine (rpage_any (F:=F) _ b k _ hb6 hkl HPb1.out).mono ?_
       rintro e u2 ⟨x6,rfl,hbu2,hbelu2⟩
       obtain ⟨ad6,cp6,rfl⟩:=Rs hbu2
       have HPa2:=Hj (HPa1.out.below hbelu2);have HPb2:=Hj (HPb1.out.below hbelu2);have HBl2:=Hj (Below.trans HBl1.out (hbelu2.mono (Below.size HBl1.out)))
       have HSa_2:=Hj (Rb HSa_1.out hbelu2)
       have HSb_2:=Hj hbu2
       clear hbu2 hbelu2
       go_wp2
       refine Sm Ty.Shown.none ?_
       try simp only[pick,Gs,Gz]
       go_wp2
       refine Rm ?_
       refine Wa ?_ ?_
       ·try simp only[pick,Gs,Gz]
        have k7:=run_str HSb_2.out 22 5 9 Tryz.underlying22 Tryz.underlying5 Tryz.underlying9
        go_wp2
        refine Sm Ty.Shown.none ?_
        try simp only[pick,Gs,Gz]
        go_wp2
        refine Rm ?_
        refine Wd (by rfl) trivial ?_
        go_wp2
        go_meet
        case rel=>exact ⟨by simp only[strOf_eq],HBl2.out⟩
       exact Ty.wpTr_no
      exact Ty.wpTr_no
     refine Wa ?_ ?_
     ·try simp only[pick,Gs,Gz]
      go_wp2_with fail
      refine (rpage_any (F:=F) _ b k _ hb6 hkl HPb1.out).mono ?_
      rintro e u2 ⟨x6,rfl,hbu2,hbelu2⟩
      obtain ⟨ad6,cp6,rfl⟩:=Rs hbu2
      have HPa2:=Hj (HPa1.out.below hbelu2);have HPb2:=Hj (HPb1.out.below hbelu2);have HBl2:=Hj (Below.trans HBl1.out (hbelu2.mono (Below.size HBl1.out)))
      have HSa_2:=Hj (Rb HSa_1.out hbelu2)
      have HSb_2:=Hj hbu2
      clear hbu2 hbelu2
      go_wp2
      refine Sm Ty.Shown.none ?_
      try simp only[pick,Gs,Gz]
      go_wp2
      refine Rm ?_
      refine Wa ?_ ?_
      ·try simp only[pick,Gs,Gz]
       have k3:=run_str HSa_2.out 22 5 9 Tryz.underlying22 Tryz.underlying5 Tryz.underlying9
       go_wp2
       refine Sm Ty.Shown.none ?_
       try simp only[pick,Gs,Gz]
       go_wp2
       refine Rm ?_
       refine Wa ?_ ?_
       ·try simp only[pick,Gs,Gz]
        have k7:=run_str HSb_2.out 22 5 9 Tryz.underlying22 Tryz.underlying5 Tryz.underlying9
        go_wp2
        refine Sm Ty.Shown.none ?_
        try simp only[pick,Gs,Gz]
        go_wp2
        refine Rm ?_
        refine Wd (by rfl) trivial ?_
        go_wp2
        go_meet
        case rel=>exact ⟨by simp only[strOf_eq],HBl2.out⟩
       exact Ty.wpTr_no
      refine Wa ?_ ?_
      ·try simp only[pick,Gs,Gz]
       have k7:=run_str HSb_2.out 22 5 9 Tryz.underlying22 Tryz.underlying5 Tryz.underlying9
       go_wp2
       refine Sm Ty.Shown.none ?_
       try simp only[pick,Gs,Gz]
       go_wp2
       refine Rm ?_
       refine Wa ?_ ?_
       ·try simp only[pick,Gs,Gz]
        have k3:=run_str HSa_2.out 22 5 9 Tryz.underlying22 Tryz.underlying5 Tryz.underlying9
        go_wp2
        refine Sm Ty.Shown.none ?_
        try simp only[pick,Gs,Gz]
        go_wp2
        refine Rm ?_
        refine Wd (by rfl) trivial ?_
        go_wp2
        go_meet
        case rel=>exact ⟨by simp only[strOf_eq],HBl2.out⟩
       exact Ty.wpTr_no
      exact Ty.wpTr_no
     exact Ty.wpTr_no
    exact Ty.wpTr_no
   case rest=>
    obtain ⟨rfl,hbc⟩:=hcut
    have hsc:=hbc.size
    clear HPa0 HPb0 HBl0
    by_cases hq:pg a k=pg b k
    ·have hpq:(!decide (pg a k=pg b k))=false:=by simp[hq]
     rw[hpq]
     have HD:=Hj (DR.same HI.out hbc (by rw[difK_succ,if_pos hq]))
     clear hq hpq
     go_wp2
     go_roundw
     case rel=>exact ⟨k+1,hlt,by go_num,HD.out⟩
     case measure=>simp[intOf];omega
    have hpq:(!decide (pg a k=pg b k))=true:=by simp[hq]
    rw[hpq]
    have HD:Hid (difK a b (k+1)=difK a b k++[(k,pg b k)]):=Hj (by rw[difK_succ,if_neg hq])
    clear hq hpq
    have hc1w:=(hbc.block (w.heap.size+1) (by omega)).trans C1.out
    have hBl:∀q∈[w.heap.size+1],∃c e f,wc.heap[q]? =some (.cells c e f):=fun q hq=>by rw[M1' hq];exact ⟨_,_,_,hc1w⟩
    have HS1:=Hj (same_start hBl)
    have cP:=Bj hc1w 1 rfl
    have HBc:=Hj (HBr.out.below hbc).drew
    go_wp2
    refine Ty.wp_tree [w.heap.size+1] [1] [10] [1] [0,1,2,3,4] (.alt [5,6] (.alt [7] (.alt [8,9] (.alt [10] (.done) (.no)) (.no)) (.no)) (.no)) (by kernel_rfl) (by kernel_rfl) (by kernel_rfl) (by kernel_rfl) hBl ?_
    clear hBl hc1w
    try simp only[pick,Gs,Gz]
    go_wp2
    refine Rm ?_
    refine Wq ?_
    try simp only[pick,Gs,Gz]
    go_wp2_with fail
    refine (rpage_any (F:=F) _ b k _ hb6 hkl HBc.out).mono ?_
    rintro e W2 ⟨v2,rfl,hp2,hb2⟩
    have hb12:Below wc.heap.size wc W2:=(Br wc.heap.size wc).drew.trans hb2
    have hs2:=hb12.size
    have HS2:=Hj (same_below' HS1.out hb2)
    obtain ⟨a2,c2,rfl⟩:=Rs hp2
    have c3w:=own_below (own_below C3.out hbc (Nr _)) hb12 (Nr _)
    have hB2:∀X:List Nat,(∀f∈X,f<wc.heap.size)→Bytes X W2 (.slice a2 (pg b k).length c2) (pg b k):=fun X hX=>Raw.apart hp2 (by simpa using hX)
    have al:=(Br W2.heap.size W2).alloc (Nr _) (.cells #[.int .i64 k,.slice a2 (pg b k).length c2] 173)
    obtain ⟨q,hq⟩:∃q,q=W2.heap.size:=⟨_,rfl⟩
    have hx0:Raw [] 2 (W2.alloc (.cells #[.int .i64 k,.slice a2 (pg b k).length c2] 173)) (.slice (some ⟨q,0,none⟩) 1 1) 1 [.int .i64 k,.slice a2 (pg b k).length c2]:=Raw.of_block (ys:=[.int .i64 k,.slice a2 (pg b k).length c2]) (by rw[hq];exact heap_alloc_new W2 _) (by simp) (by intro z hz;simp at hz;rcases hz with rfl | rfl <;> rfl) rfl (Nr _) (by unfold maxLen;omega)
    have HX:=Hj hx0
    have hb13:=hb12.trans (al.mono hs2)
    have hW3:=hbc.trans (hb13.mono hsc)
    have HS3:=Hj (same_below' HS2.out al)
    have HO3:=Hj (own_below c3w al (Nr _))
    have HB3:Hid (∀X:List Nat,(∀f∈X,f<wc.heap.size)→Bytes X (W2.alloc (.cells #[.int .i64 k,.slice a2 (pg b k).length c2] 173)) (.slice a2 (pg b k).length c2) (pg b k)):=Hj fun X hX=>Rb (hB2 X hX) al
    have hz3:w.heap.size+1+1≤(W2.alloc (.cells #[.int .i64 k,.slice a2 (pg b k).length c2] 173)).heap.size:=by simp;omega
    have hz3':wr.heap.size≤(W2.alloc (.cells #[.int .i64 k,.slice a2 (pg b k).length c2] 173)).heap.size:=hW3.size
    go_wp2
    refine Sm (Ss HS2.out) ?_
    try simp only[pick,Gs,Gz]
    go_wp2
    refine Rm ?_
    refine Wq ?_
    try simp only[pick,Gs,Gz]
    go_wp2
    rw[←hq]
    obtain ⟨W3,hW3e⟩:∃W3,W3=W2.alloc (.cells #[.int .i64 k,.slice a2 (pg b k).length c2] 173):=⟨_,rfl⟩
    rw[←hW3e] at HX HO3 HB3 HS3 hW3 hb13 hz3 hz3'⊢
    clear hq al hx0 hW3e c3w hB2 cP hp2 hb2
    refine Sm (Ss HS3.out) ?_
    refine Rm ?_
    refine Wq ?_
    try simp only[pick,Gs,Gz]
    go_wp2_with (at_builtin;refine wpList_appF el45 Tryz.underlying30 HO3.out HX.out (hW3.mono (show w.heap.size+1+1≤wr.heap.size by omega)) rfl _ _ rfl rfl rfl ?a3 (Nr _) hz3 ?_)
    case a3=>omega
    intro v4 W4 hown4 hb4 hk4 hn4
    have hsv:∀f∈(Value.slice va cs.length vc).ownBlock.toList,w.heap.size+1+1≤f∧f<W3.heap.size:=fun f hf=>by
     have:=HO3.out.lt f (by simpa using hf);exact this
    have hP4:=(hk4.block (w.heap.size+1) (by omega) (fun hm=>by have:=(hsv _ hm).1;omega)).trans ((hW3.block (w.heap.size+1) (by omega)).trans C1.out)
    have cP:=Bj hP4 1 rfl
    have fP:=Bf hP4 1
    have HP4:=Hj hP4
    have HS4:=Hj (same_keep HS3.out hk4 (fun q hq hm=>by rw[M1' hq] at hm;have:=(hsv _ hm).1;omega))
    have hres:=dr_step (cs:=cs) (a2:=a2) (c2:=c2) hbel hsz C2.out HD.out C1.out C6.out C4.out hW3 HO3.out (fun X hX=>HB3.out X (fun f hf=>Nat.lt_of_lt_of_le (hX f hf) hsc)) (fun r hr=>(C3.out.lt r hr).2) hown4 hb4 hk4 (fun f hf=>by have:=hn4 f (by simpa using hf);simpa using this)
    have HR:=Hj hres
    obtain ⟨a4,c4,rfl⟩:=Oq hown4
    clear hown4 hb4 hk4 hn4 hP4 hres
    go_wp2
    refine Sm (Ss HS4.out) ?_
    try simp only[pick,Gs,Gz]
    go_wp2
    refine Rm ?_
    refine Wq ?_
    try simp only[pick,Gs,Gz]
    go_wp2
    refine Sm (Ty.Shown.last rfl) ?_
    refine Rm ?_
    refine Wd (by rfl) ⟨.head _,trivial⟩ ?_
    go_wp2
    go_roundw
    case rel=>exact ⟨k+1,hlt,by go_num,HR.out⟩
    case measure=>simp[intOf];omega
  obtain rfl:k=cnt b.length:=by omega
  clear HPa0 HPb0 HBl0
  have p0:=Bj C1.out 0 rfl
  have p1:=Bj C1.out 1 rfl
  have r0:=Bj C6.out 0 rfl
  have r1:=Bj C6.out 1 rfl
  have f0:=Bf C6.out 0
  have f1:=Bf C6.out 1
  have hkS:Keep [w.heap.size] wr ((wr.setCell ⟨w.heap.size,0,none⟩ (.int .i64 b.length)).setCell ⟨w.heap.size,1,none⟩ (.slice va cs.length vc)):=((Keep.refl [w.heap.size] wr).setCell (by simp) _).setCell (by simp) _
  have hrow:=Raw.of_own (F:=w.heap.size::old w) C3.out (encC_one C4.out) (fun f hf=>by
   rcases List.mem_cons.1 hf with rfl | hf
   ·omega
   have:=old_lt f hf;omega)
  have hin:∀f∈[w.heap.size],f∈w.heap.size::old w∨wr.heap.size≤f:=fun f hf=> .inl (by rw[M1' hf];simp)
  have HRow:=Hj (Raw.keep (F':=old w) hrow hkS hin (fun f hf=> .inl (List.mem_cons_of_mem _ hf)))
  have HBy:Hid (∀p∈cs,Bytes (old w) ((wr.setCell ⟨w.heap.size,0,none⟩ (.int .i64 b.length)).setCell ⟨w.heap.size,1,none⟩ (.slice va cs.length vc)) p.2 p.1.2):=Hj fun p hp=>
   Raw.keep (C4.out p hp) hkS (fun f hf=> .inl (by rw[M1' hf];exact List.mem_append_right _ (List.mem_range.2 (by omega)))) (fun f hf=> .inl (List.mem_append_right _ (List.mem_range.2 (by have:=old_lt f hf;omega))))
  have hres:((wr.setCell ⟨w.heap.size,0,none⟩ (.int .i64 b.length)).setCell ⟨w.heap.size,1,none⟩ (.slice va cs.length vc)).heap[w.heap.size]? =some (.cells #[.int .i64 b.length,.slice va cs.length vc] 167 (0,0)):=by
   have h1:=heap_setCell_same wr w.heap.size 0 _ 167 (.int .i64 b.length) C6.out
   have h2:=heap_setCell_same _ w.heap.size 1 _ 167 (.slice va cs.length vc) h1
   exact h2
  have HRs:=Hj hres
  have HbS:=Hj (hbel.trans (hkS.below (B:=w.heap.size) hbel.size (G1 (by omega))))
  have C2':Hid (cs.map (·.1)=dif a b):=C2
  clear hkS hrow hin hres
  go_wp2_with (go_at_call 101;refine (rcount_any _ _ hb6).mono ?_;rintro e w' ⟨rfl,rfl⟩)
  go_wp2
  refine bodyPost_ret (results_ct rfl _ _ _ _ _ _ _ rfl HRs.out Tryz.underlying167 rfl (by kernel_rfl)) rfl ?_
  exact ⟨_,rfl,⟨cs,C2'.out,HRow.out,HBy.out⟩,HbS.out⟩
end Go.Proofs.YtipiofgdjbogiaaGreat
