/- wire: messages written -/
import Derived.Test.YtipiofgdjbogiaaGreatM6
import Derived.Deep.CutRange
set_option maxRecDepth 100000
set_option maxHeartbeats 2000000
namespace Go.Wi
open Go Go.Txt Go.RowKit Go.Bs Go.Cl Go.Rw
def intV (n:Int):List Value:=[.int .i64 n]
theorem intV_len (n:Int):(intV n).length=1:=rfl
def atI (l:List Int) (k:Nat):Int:=l.getD k 0
theorem atI_get {l:List Int} {k:Nat} (h:k<l.length):l[k]? =some (atI l k):=by simp[atI,h]
def SlI (F:List Nat) (w:World) (v:Value) (l:List Int):Prop:=Raw F 1 w v l.length (l.flatMap intV)
theorem SlI.elem {F:List Nat} {w:World} {a:Option Addr} {n c:Nat} {l:List Int} (h:SlI F w (.slice a n c) l) {i:Nat} (hi:i<l.length):
  ∃b off,a=some ⟨b,off,none⟩∧b<w.heap.size∧w.cell? ⟨b,off+i,none⟩=some (.int .i64 (atI l i)):=by
 have hget:=atI_get hi
 rcases Raw.cases h with ⟨h0,_⟩ | ⟨_,b,off,cap,hv,_,_,hb,_,hc⟩
 ·omega
 cases hv
 have:=hc _ _ (flat_get intV intV_len l i 0 _ hget (by omega))
 exact ⟨b,off,rfl,hb,by simpa[intV] using this⟩
theorem take_enc {l:List Int} {k:Nat} (h:k<l.length):(l.take (k+1)).flatMap encI=(l.take k).flatMap encI++encI (atI l k):=by
 rw[List.take_add_one,atI_get h];simp
theorem enc_flat:∀{l:List Int},(∀x∈l,fits x)→(l.flatMap encI).length≤10*l.length
 | [],_=>by simp
 | x::l,h=>by
  have h1:=encI_len (h x (by simp))
  have h2:=enc_flat (l:=l) (fun y hy=>h y (by simp[hy]))
  simp only[List.flatMap_cons,List.length_append,List.length_cons];omega
def encM (ms md mk mq m0 m1 m2 m3:Int) (d:List UInt8):List UInt8:=[ms,md,mk,mq].flatMap encI++[m0,m1,m2,m3].flatMap encI++encB d
theorem intV_one (l:List Int):∀u∈l.flatMap intV,u.oneCell'=true:=by
 intro u hu
 obtain ⟨x,_,h⟩:=List.mem_flatMap.1 hu
 simp[intV] at h
 rw[h];rfl
theorem intV_flat:∀l:List Int,(l.flatMap intV).length=l.length
 | []=>rfl
 | x::l=>by rw[List.flatMap_cons,List.length_append,intV_flat l,intV_len,List.length_cons];omega
theorem own_blk {w:World} {base e k n:Nat} {v:Value} {xs:List Value} (h:w.ownsRow base e k v n xs):∀r∈v.ownBlock.toList,base≤r∧r<w.heap.size:=by
 intro r hr
 rcases own_cases h with ⟨rfl,rfl,rfl⟩ | ⟨g,cap,rfl,hb,hlt,hc⟩
 ·cases hr
 have hg:r=g:=by simpa[Value.ownBlock] using hr
 subst hg
 exact ⟨hb,hlt⟩
theorem slI_box {w:World} {M:Nat} {cs:Array Value} {t:TypeId} {ns:List Int} {off:Nat} {F:List Nat} (h:w.heap[M]? =some (.cells cs t (0,0))) (hF:M∉F) (hc:∀j,j<ns.length→cs[off+j]? =some (.int .i64 (atI ns j))) (hn:ns.length≤1000):
  SlI F w (.slice (some ⟨M,off,none⟩) ns.length ns.length) ns:=by
 have hlen:(ns.flatMap intV).length=ns.length*1:=by rw[intV_flat,Nat.mul_one]
 refine ⟨hlen,intV_one ns,_,_,rfl,Nr _,by unfold maxLen;omega,fun _=>⟨M,off,rfl,(Al h),hF,fun j u hj=> ?_⟩⟩
 have hjl:j<ns.length:=by have:=(List.getElem?_eq_some_iff.1 hj).1;omega
 have h1:=flat_get intV intV_len ns j 0 _ (atI_get hjl) (by omega)
 rw[Nat.mul_one,Nat.add_zero] at h1
 have h2:u= .int .i64 (atI ns j):=by
  rw[h1] at hj
  simp[intV] at hj
  exact hj.symm
 rw[Bo h (hc j hjl),h2]
end Go.Wi
namespace Go.Proofs.YtipiofgdjbogiaaGreat
open Go.Txt Go.RowKit Go.Bs Go.Cl Go.Rw Go.Wi
theorem plain_any (v lv:Value) (l0:List UInt8) (ns:List Int) (base:Nat) (w:World) (hl:l0.length≤100000) (hn:ns.length≤1000) (hf:∀x∈ns,fits x) (hown:BRow 5 w base v l0) (hX:SlI v.ownBlock.toList w lv ns) (hbase:base≤w.heap.size):
  Calls Tryz.prog 93 #[v,lv] w fun e w'=>∃v',e= .returned v'∧Grows 5 w w' base v v' (l0++ns.flatMap encI):=by
 obtain ⟨a,c,rfl⟩:=Oq hown
 obtain ⟨xa,xc,rfl⟩:=Rs hX
 have HX:=Hj hX
 have HF:=Hj hf
 have HG0:=Hj (Grows.refl hown)
 clear hX hf hown
 go_enter Tryz.func93,Tryz.ntmps93
 go_wp2
 go_loopw [0,9] (fun bv i wr=>∃k:Nat,k≤ns.length∧i= .int .i64 k∧Grows 5 w wr base (.slice a l0.length c) bv (l0++(ns.take k).flatMap encI)) (fun _ i _=>ns.length - (intOf i).toNat)
 case atStart=>exact ⟨0,Nat.zero_le _,rfl,by simpa using HG0.out⟩
 case round=>
  obtain ⟨k,hk,rfl,hg⟩:=hrel
  have hsz:=hg.keep.size
  have hacc:(l0++(ns.take k).flatMap encI).length≤900000:=by
   have:=enc_flat (l:=ns.take k) (fun x hx=>HF.out x (List.mem_of_mem_take hx))
   have h2:(ns.take k).length≤ns.length:=by simp;omega
   rw[List.length_append];omega
  have hXr:=Raw.keep HX.out hg.keep (fun f hf=> .inl hf) hg.news
  obtain ⟨acc,hac⟩:∃acc,l0++(ns.take k).flatMap encI=acc:=⟨_,rfl⟩
  rw[hac] at hg hacc
  have Hac:=Hj hac;clear hac
  have hrow:=hg.row
  obtain ⟨ra,rc,rfl⟩:=Oq hrow
  have HR:=Hj hrow
  have HG:=Hj hg
  clear hrow hg
  by_cases hlt:k<ns.length
  ·obtain ⟨b,off,rfl,hb,h0⟩:=SlI.elem hXr hlt
   have htf:=take_enc hlt
   have hfz:=HF.out _ (List.mem_of_getElem? (atI_get hlt))
   obtain ⟨z,hz⟩:∃z,atI ns k=z:=⟨_,rfl⟩
   rw[hz] at h0 htf hfz
   have Htf:=Hj htf;have Hfz:=Hj hfz;clear htf hfz hz hXr
   go_wp2_with fail
   refine (wint_any _ acc z base _ Hfz.out (by omega) HR.out (by omega)).mono ?_
   rintro e w4 ⟨v4,rfl,hg4⟩
   have HG4:Hid (Grows 5 w w4 base (.slice a l0.length c) v4 (l0++(ns.take (k+1)).flatMap encI)):=Hj (by
    rw[Htf.out,←List.append_assoc,Hac.out];exact HG.out.trans hg4)
   clear hg4 h0
   go_wp2
   go_roundw
   case rel=>exact ⟨k+1,hlt,by go_num,HG4.out⟩
   case measure=>simp[intOf];omega
  obtain rfl:k=ns.length:=by omega
  rw[List.take_length] at Hac
  clear hXr
  go_wp2
  go_ret
  rw[Hac.out]
  exact ⟨_,rfl,HG.out⟩
theorem wmsg_any (ms md mk mq m0 m1 m2 m3:Int) (mv:Value) (d:List UInt8) (w:World) (hf:∀x∈[ms,md,mk,mq,m0,m1,m2,m3],fits x) (hd:d.length≤100000) (hD:Bytes [] w mv d):
  Calls Tryz.prog 39 #[.slice none 0 0,.agg #[.int .i64 ms,.int .i64 md,.int .i64 mk,.int .i64 mq,.int .i64 m0,.int .i64 m1,.int .i64 m2,.int .i64 m3,mv]] w fun e w'=>∃v',e= .returned v'∧BRow 5 w' w.heap.size v' (encM ms md mk mq m0 m1 m2 m3 d)∧Below w.heap.size w w':=by
 have hfa:∀x∈[ms,md,mk,mq],fits x:=fun x hx=>hf x (by simp at hx⊢;omega)
 have hfb:∀x∈[m0,m1,m2,m3],fits x:=fun x hx=>hf x (by simp at hx⊢;omega)
 have HFA:=Hj hfa
 have HFB:=Hj hfb
 clear hf hfa hfb
 obtain ⟨da,dc,rfl⟩:=Rs hD
 obtain ⟨M,hM⟩:∃M,M=w.heap.size:=⟨_,rfl⟩
 obtain ⟨w1,hw1⟩:∃W,W=w.alloc (.cells #[.int .i64 ms,.int .i64 md,.int .i64 mk,.int .i64 mq,.int .i64 m0,.int .i64 m1,.int .i64 m2,.int .i64 m3,.slice da d.length dc] 44):=⟨_,rfl⟩
 have hb1:Below w.heap.size w w1:=by rw[hw1];exact (Br _ w).alloc (Nr _) _
 have HM1:Hid (w1.heap[M]? =some (.cells #[.int .i64 ms,.int .i64 md,.int .i64 mk,.int .i64 mq,.int .i64 m0,.int .i64 m1,.int .i64 m2,.int .i64 m3,.slice da d.length dc] 44 (0,0))):=Hj (by rw[hw1,hM];exact heap_alloc_new w _)
 have hz1:w1.heap.size=w.heap.size+1:=by rw[hw1];simp
 have HD:=Hj hD
 have HR:=Hj hw1
 have HRM:=Hj hM
 have hMl:M<w1.heap.size:=by omega
 clear hw1 hM hD
 have HZ:=Hj hz1
 clear hz1
 have m_0:=Bj HM1.out 0 rfl
 have m_1:=Bj HM1.out 1 rfl
 have m_2:=Bj HM1.out 2 rfl
 have m_3:=Bj HM1.out 3 rfl
 have m_4:=Bj HM1.out 4 rfl
 have m_5:=Bj HM1.out 5 rfl
 have m_6:=Bj HM1.out 6 rfl
 have m_7:=Bj HM1.out 7 rfl
 have m_8:=Bj HM1.out 8 rfl
 go_enter Tryz.func39,Tryz.ntmps39
 go_upto_region 1 with (fail)
 rw[←HR.out,←HRM.out]
 clear HR HRM
 go_wp2_with fail
 refine (plain_any _ _ [] [ms,md,mk,mq] w1.heap.size _ (by simp) (by simp) HFA.out (World.ownsRow_nil _ _ _ _) (slI_box (ns:=[ms,md,mk,mq]) (off:=0) (heap_alloc_new w1 _) (by simp[Value.ownBlock]) (fun j hj=>by match j,hj with | 0,_=>rfl | 1,_=>rfl | 2,_=>rfl | 3,_=>rfl) (by simp)) (by simp)).mono ?_
 rintro e w2 ⟨v2,rfl,hg2⟩
 have hal:Below w1.heap.size w1 (w1.alloc (.cells #[.int .i64 ms,.int .i64 md,.int .i64 mk,.int .i64 mq] 3)):=(Br _ w1).alloc (Nr _) _
 have bel2:Below w1.heap.size w1 w2:=hg2.below (brow_nil _ _ _) (Nr _) (by simp) hal
 have hk2:Keep [] w1 w2:=(Keep.of_below' (F:=[]) hal).trans (F':=[]) hg2.keep (fun f hf=>by cases hf)
 have HM2:=Hj ((hk2.block M hMl (by simp)).trans HM1.out)
 have HR2:=Hj hg2.row
 have HB2:=Hj (own_blk hg2.row)
 have HBL2:=Hj bel2
 have hl2:=enc_flat (l:=[ms,md,mk,mq]) HFA.out
 obtain ⟨l2,hl2e⟩:∃l,([]:List UInt8)++[ms,md,mk,mq].flatMap encI=l:=⟨_,rfl⟩
 have hl2f:[ms,md,mk,mq].flatMap encI=l2:=by rw[←hl2e];rfl
 rw[hl2e] at HR2 hg2
 rw[hl2f] at hl2
 have HL2:=Hj hl2f
 obtain ⟨a2,c2,rfl⟩:=Oq HR2.out
 clear hg2 hal hk2 bel2 hl2e hl2f m_0 m_1 m_2 m_3 m_4 m_5 m_6 m_7 m_8
 go_upto_region 2 with (fail)
 have hBl:=show∀q∈[M],∃cc e f,w2.heap[q]? =some (.cells cc e f) from fun q hq=>by rw[M1' hq];exact ⟨_,_,_,HM2.out⟩
 refine Ty.wp_tree [M] [5] [] [5] [0,1,2,4,5] (.alt [3] (.alt [6,7] (.done) (.no)) (.no)) (by kernel_rfl) (by kernel_rfl) (by kernel_rfl) (by kernel_rfl) hBl ?_
 obtain ⟨w3,hw3⟩:∃W,W=w2.drew:=⟨_,rfl⟩
 have HS3:Hid (SameB [M] w3 w3):=Hj (by rw[hw3];exact same_start hBl)
 have hb3:Below w2.heap.size w2 w3:=by rw[hw3];exact (Br _ _).drew
 have HM3:Hid (w3.heap[M]? =_):=Hj (Kb hb3 HM2.out)
 have HR3:Hid (BRow 5 w3 w1.heap.size (.slice a2 l2.length c2) l2):=Hj (HR2.out.below hb3)
 have HBL3:=Hj (HBL2.out.trans (hb3.mono HBL2.out.size))
 have HO3:=Hj (own_blk HR3.out)
 rw[←hw3]
 clear hBl hw3 hb3 HM2 HR2 HBL2 HB2
 have m_8:=Bj HM3.out 8 rfl
 try simp only[pick,Gs,Gz]
 go_wp2
 refine Rm ?_
 refine Wq ?_
 try simp only[pick,Gs,Gz]
 go_wp2_with fail
 refine (plain_any _ _ l2 [m0,m1,m2,m3] w1.heap.size _ (by simp at hl2;omega) (by simp) HFB.out HR3.out (slI_box (ns:=[m0,m1,m2,m3]) (off:=4) HM3.out (fun hm=>by have:=(HO3.out M hm).1;omega) (fun j hj=>by match j,hj with | 0,_=>rfl | 1,_=>rfl | 2,_=>rfl | 3,_=>rfl) (by simp)) HBL3.out.size).mono ?_
 rintro e w4 ⟨v4,rfl,hg4⟩
 have bel4:Below w1.heap.size w1 w4:=hg4.below HR3.out (Nr _) HBL3.out.size HBL3.out
 have HS4:=Hj (same_keep HS3.out hg4.keep (fun q hq=>by rw[M1' hq];exact fun hm=>by have:=(HO3.out M hm).1;omega))
 have HR4:=Hj hg4.row
 have HO4:=Hj (own_blk hg4.row)
 have hl4:=enc_flat (l:=[m0,m1,m2,m3]) HFB.out
 obtain ⟨l4,hl4e⟩:∃l,l2++[m0,m1,m2,m3].flatMap encI=l:=⟨_,rfl⟩
 have hll:l4.length≤100:=by rw[←hl4e,List.length_append];simp at hl2 hl4⊢;omega
 rw[hl4e] at HR4
 have HL4:=Hj hl4e
 have hDx:Bytes v4.ownBlock.toList w4 (.slice da d.length dc) d:=by
  have h1:Bytes v4.ownBlock.toList w (.slice da d.length dc) d:=Raw.fresh HD.out (fun f hf=> .inr (by have:=(HO4.out f hf).1;have:=HZ.out;omega))
  exact Rb h1 (hb1.trans (bel4.mono (by have:=HZ.out;omega)))
 have HDX:=Hj hDx
 obtain ⟨a4,c4,rfl⟩:=Oq HR4.out
 have HBL4:=Hj bel4
 clear hg4 hl4e hDx bel4 m_8
 go_wp2
 refine Sm (Ss HS4.out) ?_
 try simp only[pick,Gs,Gz]
 go_wp2
 refine Rm ?_
 refine Wq ?_
 try simp only[pick,Gs,Gz]
 go_wp2_with fail
 refine (wbytes_any _ _ l4 d w1.heap.size _ (by omega) (by omega) HR4.out HDX.out HBL4.out.size).mono ?_
 rintro e w5 ⟨v5,rfl,hg5⟩
 have bel5:Below w1.heap.size w1 w5:=hg5.below HR4.out (Nr _) HBL4.out.size HBL4.out
 have HS5:=Hj (same_keep HS4.out hg5.keep (fun q hq=>by rw[M1' hq];exact fun hm=>by have:=(HO4.out M hm).1;omega))
 have HFIN:Hid (BRow 5 w5 w.heap.size v5 (encM ms md mk mq m0 m1 m2 m3 d)):=Hj (by
  unfold encM
  rw[HL2.out,HL4.out]
  exact own_base hg5.row (by have:=HZ.out;omega))
 have HBF:=Hj (hb1.trans (bel5.mono (by have:=HZ.out;omega)))
 clear hg5 bel5
 go_wp2
 refine Sm (Ss HS5.out) ?_
 try simp only[pick,Gs,Gz]
 go_wp2
 refine Rm ?_
 refine Wd (by rfl) ⟨.head _,trivial⟩ ?_
 go_wp2
 go_ret
 exact ⟨_,rfl,HFIN.out,HBF.out⟩
end Go.Proofs.YtipiofgdjbogiaaGreat
