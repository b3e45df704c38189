/- fault: plans -/
import Derived.Test.YtipiofgdjbogiaaGreatM3
import Derived.Test.YtipiofgdjbogiaaGreatM1
import Derived.Deep.CutRange
import Derived.Laws.Bits64
set_option maxRecDepth 100000
set_option maxHeartbeats 8000000
namespace Go.Fa
open Go Go.Txt Go.RowKit Go.Bs Go.Cl Go.Rw
structure FP where
 c:Int
 n:Int
 e:Int
 k:Int
 s:Int
 pl:Int
 m:Int
def FP.cs (p:FP):Array Value:=#[.int .i64 p.c,.int .i64 p.n,.int .i64 p.e,.int .i64 p.k,.int .i64 p.s,.int .i64 p.pl,.int .i64 p.m]
def inR (n l m:Int):Bool:=decide (l≤n)&&decide (n≤m)
end Go.Fa
namespace Go.Proofs.YtipiofgdjbogiaaGreat
open Go.Txt Go.RowKit Go.Bs Go.Cl Go.Rw Go.Un Go.Im Go.Fa
theorem a3 (w:World) (A B C:Obj):(((w.alloc A).alloc B).alloc C).heap[w.heap.size+1+1]? =some C:=by
 have:=heap_alloc_new ((w.alloc A).alloc B) C
 simpa using this
theorem b3 (w:World) (A B C:Obj):Below w.heap.size w (((w.alloc A).alloc B).alloc C):=(((Br _ w).alloc (Nr _) _).alloc (by simp) _).alloc (by simp;omega) _
theorem within_any (n l m:Int) (w:World):Calls Tryz.prog 130 #[.int .i64 n,.int .i64 l,.int .i64 m] w fun e w'=>e= .returned (.bool (inR n l m))∧w=w':=by
 unfold inR
 by_cases h1:l≤n
 ·by_cases h2:n≤m
  ·rw[decide_eq_true h1,decide_eq_true h2]
   go_enter Tryz.func130,Tryz.ntmps130
   go_wp2
   go_ret
   exact ⟨rfl,rfl⟩
  rw[decide_eq_true h1,decide_eq_false h2]
  go_enter Tryz.func130,Tryz.ntmps130
  go_wp2
  go_ret
  exact ⟨rfl,rfl⟩
 rw[decide_eq_false h1]
 go_enter Tryz.func130,Tryz.ntmps130
 go_wp2
 go_ret
 exact ⟨rfl,rfl⟩
theorem used1 (B:Nat) (p:FP) (h1:1≤p.k) (h2:p.k≤3) (w:World) (hc:w.heap[B]? =some (.cells p.cs 56 (0,0))):
  Calls Tryz.prog 131 #[.pointer (some ⟨B,0,none⟩)] w fun e w'=>∃r,e= .returned (.slice (some ⟨r,0,none⟩) 2 2)∧w'.heap[r]? =some (.cells #[.pointer (some ⟨B,2,none⟩),.int .i64 0,.int .i64 1,.pointer (some ⟨B,4,none⟩),.int .i64 0,.int .i64 4000] 197 (0,0))∧w.heap.size≤r∧Below w.heap.size w w':=by
 have hlt:B<w.heap.size:=(Al hc)
 have c3:∀A A':Obj,((w.alloc A).alloc A').cell? ⟨B,3,none⟩=some (.int .i64 p.k):=fun A A'=>((((Br w.heap.size w).alloc (Nr _) A).alloc (by simp) A').cell (p:=⟨B,3,none⟩) hlt).trans (Bj hc 3 rfl)
 clear hc
 go_enter Tryz.func131,Tryz.ntmps131
 go_wp2
 go_ret
 exact ⟨_,rfl,a3 _ _ _ _,by omega,b3 _ _ _ _⟩
theorem used2 (B:Nat) (p:FP) (h1:4≤p.k) (h2:p.k≤7) (w:World) (hc:w.heap[B]? =some (.cells p.cs 56 (0,0))):
  Calls Tryz.prog 131 #[.pointer (some ⟨B,0,none⟩)] w fun e w'=>∃r,e= .returned (.slice (some ⟨r,0,none⟩) 3 3)∧w'.heap[r]? =some (.cells #[.pointer (some ⟨B,2,none⟩),.int .i64 0,.int .i64 1,.pointer (some ⟨B,5,none⟩),.int .i64 0,.int .i64 24000,.pointer (some ⟨B,6,none⟩),.int .i64 1,.int .i64 255] 197 (0,0))∧w.heap.size≤r∧Below w.heap.size w w':=by
 have hlt:B<w.heap.size:=(Al hc)
 have c3:∀A A':Obj,((w.alloc A).alloc A').cell? ⟨B,3,none⟩=some (.int .i64 p.k):=fun A A'=>((((Br w.heap.size w).alloc (Nr _) A).alloc (by simp) A').cell (p:=⟨B,3,none⟩) hlt).trans (Bj hc 3 rfl)
 have h3:1≤p.k:=by omega
 have h4:¬p.k≤3:=by omega
 clear hc
 go_enter Tryz.func131,Tryz.ntmps131
 go_upto_region 6 with (fail)
 refine Ty.wp_tree [] [] [] [0] [0,1,2,3,4,5,6,7,8] (.alt [9,10] (.done) (.no)) (by kernel_rfl) (by kernel_rfl) (by kernel_rfl) (by kernel_rfl) (fun _ h=>by cases h) ?_
 try simp only[pick,Gs,Gz]
 go_wp2
 refine Rm ?_
 refine Wq ?_
 try simp only[pick,Gs,Gz]
 go_wp2
 refine Sm Ty.Shown.none ?_
 try simp only[pick,Gs,Gz]
 go_wp2
 refine Rm ?_
 refine Wd (by rfl) trivial ?_
 go_wp2
 go_ret
 exact ⟨_,rfl,a3 _ _ _ _,by omega,(b3 _ _ _ _).drew⟩
theorem used3 (B:Nat) (p:FP) (h1:p.k=8) (w:World) (hc:w.heap[B]? =some (.cells p.cs 56 (0,0))):
  Calls Tryz.prog 131 #[.pointer (some ⟨B,0,none⟩)] w fun e w'=>∃r,e= .returned (.slice (some ⟨r,0,none⟩) 1 1)∧w'.heap[r]? =some (.cells #[.pointer (some ⟨B,4,none⟩),.int .i64 0,.int .i64 4000] 197 (0,0))∧w.heap.size≤r∧Below w.heap.size w w':=by
 have hlt:B<w.heap.size:=(Al hc)
 have c3:∀A A':Obj,((w.alloc A).alloc A').cell? ⟨B,3,none⟩=some (.int .i64 p.k):=fun A A'=>((((Br w.heap.size w).alloc (Nr _) A).alloc (by simp) A').cell (p:=⟨B,3,none⟩) hlt).trans (Bj hc 3 rfl)
 have h3:1≤p.k:=by omega
 have h4:¬p.k≤3:=by omega
 have h5:4≤p.k:=by omega
 have h6:¬p.k≤7:=by omega
 have h8:(p.k==8)=true:=by simpa using h1
 clear h1
 clear hc
 go_enter Tryz.func131,Tryz.ntmps131
 go_wp2
 go_ret
 exact ⟨_,rfl,a3 _ _ _ _,by omega,b3 _ _ _ _⟩
theorem used4 (B:Nat) (p:FP) (h1:p.k=9) (w:World) (hc:w.heap[B]? =some (.cells p.cs 56 (0,0))):
  Calls Tryz.prog 131 #[.pointer (some ⟨B,0,none⟩)] w fun e w'=>e= .returned (.slice none 0 0)∧Below w.heap.size w w':=by
 have hlt:B<w.heap.size:=(Al hc)
 have c3:∀A A':Obj,((w.alloc A).alloc A').cell? ⟨B,3,none⟩=some (.int .i64 p.k):=fun A A'=>((((Br w.heap.size w).alloc (Nr _) A).alloc (by simp) A').cell (p:=⟨B,3,none⟩) hlt).trans (Bj hc 3 rfl)
 have h3:1≤p.k:=by omega
 have h4:¬p.k≤3:=by omega
 have h5:4≤p.k:=by omega
 have h6:¬p.k≤7:=by omega
 have h8:(p.k==8)=false:=by simp;omega
 clear h1 hc
 go_enter Tryz.func131,Tryz.ntmps131
 go_wp2
 go_ret
 exact ⟨rfl,((Br _ w).alloc (Nr _) _).alloc (by simp) _⟩
open Go.Txt Go.RowKit Go.Bs Go.Cl Go.Rw Go.Un Go.Im Go.Fa
theorem a2_0 (w:World) (A B:Obj):((w.alloc A).alloc B).heap[w.heap.size]? =some A:=(((Br (w.alloc A).heap.size (w.alloc A)).alloc (Nr _) B).block w.heap.size (by simp)).trans (heap_alloc_new w A)
theorem a2_1 (w:World) (A B:Obj):((w.alloc A).alloc B).heap[w.heap.size+1]? =some B:=by
 have:=heap_alloc_new (w.alloc A) B
 simpa using this
theorem valid1 (p:FP) (h1:1≤p.k) (h2:p.k≤3) (hc1:inR p.c 1 10=true) (hc2:inR p.n 1 1000000=true) (w:World):
  Calls Tryz.prog 91 #[.agg p.cs] w fun e w'=>e= .returned (.bool (inR p.e 0 1&&inR p.s 0 4000&&(decide (p.pl=0)&&decide (p.m=0))))∧Below w.heap.size w w':=by
 have hk:inR p.k 1 9=true:=by unfold inR;simp;omega
 have hk0:(p.k==0)=false:=by simp;omega
 obtain ⟨c,n,e,k,s,pl,m⟩:=p
 simp only[FP.cs] at*
 go_enter Tryz.func91,Tryz.ntmps91
 have HW:Hid (∀a l m w',Calls Tryz.prog 130 #[.int .i64 a,.int .i64 l,.int .i64 m] w' fun e w''=>e= .returned (.bool (inR a l m))∧w'=w''):=Hj (fun a l m w'=>within_any a l m w')
 go_wp2_with fail
 refine (HW.out _ _ _ _).mono ?_
 rw[hc1]
 rintro e' w' ⟨rfl,rfl⟩
 go_wp2_with fail
 refine (HW.out _ _ _ _).mono ?_
 rw[hc2]
 rintro e' w' ⟨rfl,rfl⟩
 go_wp2_with fail
 refine (HW.out _ _ _ _).mono ?_
 rw[hk]
 rintro e' w' ⟨rfl,rfl⟩
 obtain ⟨u,hu⟩:∃u,u=(w.alloc (.cells #[.int .i64 c,.int .i64 n,.int .i64 e,.int .i64 k,.int .i64 s,.int .i64 pl,.int .i64 m] 56)).alloc (.cells #[.int .i64 c,.int .i64 n,.int .i64 0,.int .i64 k,.int .i64 0,.int .i64 0,.int .i64 0] 56):=⟨_,rfl⟩
 go_upto_region 6 with (fail)
 rw[←hu]
 obtain ⟨P,hP⟩:∃P,P=w.heap.size:=⟨_,rfl⟩
 obtain ⟨T,hT⟩:∃T,T=w.heap.size+1:=⟨_,rfl⟩
 have HPu:Hid (u.heap[P]? =some (.cells #[.int .i64 c,.int .i64 n,.int .i64 e,.int .i64 k,.int .i64 s,.int .i64 pl,.int .i64 m] 56 (0,0))):=Hj (by rw[hu,hP];exact a2_0 w _ _)
 have HTu:Hid (u.heap[T]? =some (.cells #[.int .i64 c,.int .i64 n,.int .i64 0,.int .i64 k,.int .i64 0,.int .i64 0,.int .i64 0] 56 (0,0))):=Hj (by rw[hu,hT];exact a2_1 w _ _)
 have HUb:Hid (Below w.heap.size w u):=Hj (by rw[hu];exact ((Br _ w).alloc (Nr _) _).alloc (by simp) _)
 have hPT:P<T:=by omega
 have hus:T<u.heap.size:=(Al HTu.out)
 rw[←hT,←hP]
 have HPe:=Hj hP;have HTe:=Hj hT
 clear hu hP hT
 go_wp2_with fail
 refine (used1 T ⟨c,n,0,k,0,0,0⟩ h1 h2 u HTu.out).mono ?_
 rintro e' u1 ⟨r1,rfl,hr1,hr1s,hb1⟩
 have HR1:=Hj hr1;have HB1:=Hj hb1
 clear hr1 hb1
 have HP1:=Hj ((HB1.out.block P (by omega)).trans HPu.out)
 go_wp2_with fail
 refine (used1 P ⟨c,n,e,k,s,pl,m⟩ h1 h2 u1 HP1.out).mono ?_
 rintro e' u2 ⟨r2,rfl,hr2,hr2s,hb2⟩
 have hs1:=HB1.out.size
 have hr1l:=(Al HR1.out)
 have HB2:Hid (Below u.heap.size u u2):=Hj (HB1.out.trans (hb2.mono hs1))
 have HP2:=Hj ((HB2.out.block P (by omega)).trans HPu.out)
 have HT2:=Hj ((HB2.out.block T (by omega)).trans HTu.out)
 have HR12:=Hj ((hb2.block r1 hr1l).trans HR1.out)
 have HR2:=Hj hr2
 have hr2l:=(Al hr2)
 have hu2:=hb2.size
 clear hr2 hb2
 go_wp2
 go_loopw [39] (fun i wr=>((i= .int .i64 0∧wr.heap[T]? =some (.cells #[.int .i64 c,.int .i64 n,.int .i64 0,.int .i64 k,.int .i64 0,.int .i64 0,.int .i64 0] 56 (0,0)))∨(i= .int .i64 1∧wr.heap[T]? =some (.cells #[.int .i64 c,.int .i64 n,.int .i64 e,.int .i64 k,.int .i64 0,.int .i64 0,.int .i64 0] 56 (0,0))∧inR e 0 1=true)∨(i= .int .i64 2∧wr.heap[T]? =some (.cells #[.int .i64 c,.int .i64 n,.int .i64 e,.int .i64 k,.int .i64 s,.int .i64 0,.int .i64 0] 56 (0,0))∧inR e 0 1=true∧inR s 0 4000=true))∧wr.heap[P]? =some (.cells #[.int .i64 c,.int .i64 n,.int .i64 e,.int .i64 k,.int .i64 s,.int .i64 pl,.int .i64 m] 56 (0,0))∧wr.heap[r1]? =some (.cells #[.pointer (some ⟨T,2,none⟩),.int .i64 0,.int .i64 1,.pointer (some ⟨T,4,none⟩),.int .i64 0,.int .i64 4000] 197 (0,0))∧wr.heap[r2]? =some (.cells #[.pointer (some ⟨P,2,none⟩),.int .i64 0,.int .i64 1,.pointer (some ⟨P,4,none⟩),.int .i64 0,.int .i64 4000] 197 (0,0))∧Below w.heap.size w wr∧u2.heap.size≤wr.heap.size) (fun i _=>2 - (intOf i).toNat)
 case atStart=>exact ⟨.inl ⟨rfl,HT2.out⟩,HP2.out,HR12.out,HR2.out,HUb.out.trans (HB2.out.mono HUb.out.size),Nr _⟩
 case round=>
  obtain ⟨hj,hwp,hw1,hw2,hwb,hws⟩:=hrel
  have HWP:=Hj hwp;have HW1:=Hj hw1;have HW2:=Hj hw2;have HWB:=Hj hwb
  clear hwp hw1 hw2 hwb
  have hlP:P<wr.heap.size:=(Al HWP.out)
  have hl1:r1<wr.heap.size:=(Al HW1.out)
  have hl2:r2<wr.heap.size:=(Al HW2.out)
  rcases hj with ⟨rfl,hwt⟩ | ⟨rfl,hwt,g0⟩ | ⟨rfl,hwt,g0,g1⟩
  ·have HWT:=Hj hwt
   have hlT:T<wr.heap.size:=(Al hwt)
   have c0:=Bj HW2.out 0 rfl
   have c1:=Bj HW2.out 1 rfl
   have c2:=Bj HW2.out 2 rfl
   obtain ⟨z,hz⟩:∃z,z=wr.alloc (.cells #[.pointer (some ⟨P,2,none⟩),.int .i64 0,.int .i64 1] 197):=⟨_,rfl⟩
   have HZ:=Hj hz
   have al:=(Br wr.heap.size wr).alloc (Nr _) (.cells #[.pointer (some ⟨P,2,none⟩),.int .i64 0,.int .i64 1] 197)
   rw[←hz] at al
   have HZB:=Hj al
   have HZF:Hid (z.heap[wr.heap.size]? =some (.cells #[.pointer (some ⟨P,2,none⟩),.int .i64 0,.int .i64 1] 197 (0,0))):=Hj (by rw[hz];exact heap_alloc_new wr _)
   have HZP:=Hj ((al.block P hlP).trans HWP.out)
   have HZT:=Hj ((al.block T hlT).trans HWT.out)
   have HZ1:=Hj ((al.block r1 hl1).trans HW1.out)
   clear al hz hwt
   go_upto_region 10 with (fail)
   rw[←HZ.out]
   obtain ⟨f,hf⟩:∃f,f=wr.heap.size:=⟨_,rfl⟩
   rw[←hf] at HZF⊢
   have HFe:=Hj hf
   clear hf c0 c1 c2
   have f0:=Bj HZF.out 0 rfl
   have f1:=Bj HZF.out 1 rfl
   have f2:=Bj HZF.out 2 rfl
   have pv:=Bj HZP.out 2 rfl
   refine Ty.wp_tree [] [] [] [1,3,5,7] [0,1,2,3,4,5,6,7] (.alt [8,9] (.done) (.no)) (by kernel_rfl) (by kernel_rfl) (by kernel_rfl) (by kernel_rfl) (fun _ h=>by cases h) ?_
   try simp only[pick,Gs,Gz]
   go_wp2
   refine Rm ?_
   refine Wq ?_
   try simp only[pick,Gs,Gz]
   go_wp2_with fail
   refine (HW.out _ _ _ _).mono ?_
   cases hg:inR e 0 1
   ·rintro e' w' ⟨rfl,rfl⟩
    have Hg:=Hj hg
    clear hg
    go_wp2
    refine Sm Ty.Shown.none ?_
    try simp only[pick,Gs,Gz]
    go_wp2
    refine Rm ?_
    refine Wd (by rfl) trivial ?_
    go_wp2
    go_ret
    exact ⟨by rw[Hg.out];simp,(HWB.out.trans (HZB.out.mono HWB.out.size)).drew⟩
   rintro e' w' ⟨rfl,rfl⟩
   have Hg:=Hj hg
   clear hg
   go_wp2
   refine Sm Ty.Shown.none ?_
   try simp only[pick,Gs,Gz]
   go_wp2
   refine Rm ?_
   refine Wd (by rfl) trivial ?_
   have r0:=Bj HZ1.out 0 rfl
   have tf:=Bf HZT.out 2
   have tv:=Bj HZT.out 2 rfl
   go_upto_region 12 with (fail)
   refine Ty.wp_tree [] [] [] [4,6,8] [0,1,2,3,4,5,6,7,8,9] (.alt [10] (.done) (.no)) (by kernel_rfl) (by kernel_rfl) (by kernel_rfl) (by kernel_rfl) (fun _ h=>by cases h) ?_
   try simp only[pick,Gs,Gz]
   go_wp2
   refine Rm ?_
   refine Wq ?_
   try simp only[pick,Gs,Gz]
   go_wp2
   refine Sm Ty.Shown.none ?_
   try simp only[pick,Gs,Gz]
   go_wp2
   refine Rm ?_
   refine Wd (by rfl) trivial ?_
   go_wp2
   obtain ⟨HX,HK⟩:=puts_at [(2,.int .i64 e)] HZT.out
   have hPlz:P<z.heap.size:=by have:=HZB.out.size;omega
   have h1lz:r1<z.heap.size:=by have:=HZB.out.size;omega
   have h2lz:r2<z.heap.size:=by have:=HZB.out.size;omega
   refine ⟨⟨(.inr (.inl ⟨rfl,HX,Hg.out⟩)), ?_, ?_, ?_, ?_, ?_⟩,by simp[intOf]⟩
   ·exact (HK.block P hPlz (by simp;omega)).trans HZP.out
   ·exact (HK.block r1 h1lz (by simp;omega)).trans HZ1.out
   ·exact (HK.block r2 h2lz (by simp;omega)).trans ((HZB.out.block r2 hl2).trans HW2.out)
   ·exact (((HWB.out.trans (HZB.out.mono HWB.out.size)).setCell (by have:=HTe.out;show _≤T;omega) _).drew).drew
   have:=puts_size [(2,Value.int .i64 e)] z T
   have:=HZB.out.size
   show _≤(puts z T [(2,Value.int .i64 e)]).heap.size
   omega
  ·have HWT:=Hj hwt
   have hlT:T<wr.heap.size:=(Al hwt)
   have c0:=Bj HW2.out 3 rfl
   have c1:=Bj HW2.out 4 rfl
   have c2:=Bj HW2.out 5 rfl
   obtain ⟨z,hz⟩:∃z,z=wr.alloc (.cells #[.pointer (some ⟨P,4,none⟩),.int .i64 0,.int .i64 4000] 197):=⟨_,rfl⟩
   have HZ:=Hj hz
   have al:=(Br wr.heap.size wr).alloc (Nr _) (.cells #[.pointer (some ⟨P,4,none⟩),.int .i64 0,.int .i64 4000] 197)
   rw[←hz] at al
   have HZB:=Hj al
   have HZF:Hid (z.heap[wr.heap.size]? =some (.cells #[.pointer (some ⟨P,4,none⟩),.int .i64 0,.int .i64 4000] 197 (0,0))):=Hj (by rw[hz];exact heap_alloc_new wr _)
   have HZP:=Hj ((al.block P hlP).trans HWP.out)
   have HZT:=Hj ((al.block T hlT).trans HWT.out)
   have HZ1:=Hj ((al.block r1 hl1).trans HW1.out)
   clear al hz hwt
   go_upto_region 10 with (fail)
   rw[←HZ.out]
   obtain ⟨f,hf⟩:∃f,f=wr.heap.size:=⟨_,rfl⟩
   rw[←hf] at HZF⊢
   have HFe:=Hj hf
   clear hf c0 c1 c2
   have f0:=Bj HZF.out 0 rfl
   have f1:=Bj HZF.out 1 rfl
   have f2:=Bj HZF.out 2 rfl
   have pv:=Bj HZP.out 4 rfl
   refine Ty.wp_tree [] [] [] [1,3,5,7] [0,1,2,3,4,5,6,7] (.alt [8,9] (.done) (.no)) (by kernel_rfl) (by kernel_rfl) (by kernel_rfl) (by kernel_rfl) (fun _ h=>by cases h) ?_
   try simp only[pick,Gs,Gz]
   go_wp2
   refine Rm ?_
   refine Wq ?_
   try simp only[pick,Gs,Gz]
   go_wp2_with fail
   refine (HW.out _ _ _ _).mono ?_
   cases hg:inR s 0 4000
   ·rintro e' w' ⟨rfl,rfl⟩
    have Hg:=Hj hg
    clear hg
    go_wp2
    refine Sm Ty.Shown.none ?_
    try simp only[pick,Gs,Gz]
    go_wp2
    refine Rm ?_
    refine Wd (by rfl) trivial ?_
    go_wp2
    go_ret
    exact ⟨by rw[Hg.out];simp,(HWB.out.trans (HZB.out.mono HWB.out.size)).drew⟩
   rintro e' w' ⟨rfl,rfl⟩
   have Hg:=Hj hg
   clear hg
   go_wp2
   refine Sm Ty.Shown.none ?_
   try simp only[pick,Gs,Gz]
   go_wp2
   refine Rm ?_
   refine Wd (by rfl) trivial ?_
   have r0:=Bj HZ1.out 3 rfl
   have tf:=Bf HZT.out 4
   have tv:=Bj HZT.out 4 rfl
   go_upto_region 12 with (fail)
   refine Ty.wp_tree [] [] [] [4,6,8] [0,1,2,3,4,5,6,7,8,9] (.alt [10] (.done) (.no)) (by kernel_rfl) (by kernel_rfl) (by kernel_rfl) (by kernel_rfl) (fun _ h=>by cases h) ?_
   try simp only[pick,Gs,Gz]
   go_wp2
   refine Rm ?_
   refine Wq ?_
   try simp only[pick,Gs,Gz]
   go_wp2
   refine Sm Ty.Shown.none ?_
   try simp only[pick,Gs,Gz]
   go_wp2
   refine Rm ?_
   refine Wd (by rfl) trivial ?_
   go_wp2
   obtain ⟨HX,HK⟩:=puts_at [(4,.int .i64 s)] HZT.out
   have hPlz:P<z.heap.size:=by have:=HZB.out.size;omega
   have h1lz:r1<z.heap.size:=by have:=HZB.out.size;omega
   have h2lz:r2<z.heap.size:=by have:=HZB.out.size;omega
   refine ⟨⟨(.inr (.inr ⟨rfl,HX,g0,Hg.out⟩)), ?_, ?_, ?_, ?_, ?_⟩,by simp[intOf]⟩
   ·exact (HK.block P hPlz (by simp;omega)).trans HZP.out
   ·exact (HK.block r1 h1lz (by simp;omega)).trans HZ1.out
   ·exact (HK.block r2 h2lz (by simp;omega)).trans ((HZB.out.block r2 hl2).trans HW2.out)
   ·exact (((HWB.out.trans (HZB.out.mono HWB.out.size)).setCell (by have:=HTe.out;show _≤T;omega) _).drew).drew
   have:=puts_size [(4,Value.int .i64 s)] z T
   have:=HZB.out.size
   show _≤(puts z T [(4,Value.int .i64 s)]).heap.size
   omega
  have HWT:=Hj hwt
  have t0:=Bj HWT.out 0 rfl
  have p0:=Bj HWP.out 0 rfl
  have t1:=Bj HWT.out 1 rfl
  have p1:=Bj HWP.out 1 rfl
  have t2:=Bj HWT.out 2 rfl
  have p2:=Bj HWP.out 2 rfl
  have t3:=Bj HWT.out 3 rfl
  have p3:=Bj HWP.out 3 rfl
  have t4:=Bj HWT.out 4 rfl
  have p4:=Bj HWP.out 4 rfl
  have t5:=Bj HWT.out 5 rfl
  have p5:=Bj HWP.out 5 rfl
  have t6:=Bj HWT.out 6 rfl
  have p6:=Bj HWP.out 6 rfl
  go_wp2
  all_goals
   go_ret
   refine ⟨congrArg (fun b=>Ending.returned (.bool b)) ?_,HWB.out⟩
   rw[g0,g1]
   simp only[Bool.true_and]
   first
    | (symm;simp;omega)
    | (symm;simp only[Bool.and_eq_false_iff,decide_eq_false_iff_not];omega)
    | (simp;omega)
theorem valid2 (p:FP) (h1:4≤p.k) (h2:p.k≤7) (hc1:inR p.c 1 10=true) (hc2:inR p.n 1 1000000=true) (w:World):
  Calls Tryz.prog 91 #[.agg p.cs] w fun e w'=>e= .returned (.bool (inR p.e 0 1&&inR p.pl 0 24000&&inR p.m 1 255&&(decide (p.s=0))))∧Below w.heap.size w w':=by
 have hk:inR p.k 1 9=true:=by unfold inR;simp;omega
 have hk0:(p.k==0)=false:=by simp;omega
 obtain ⟨c,n,e,k,s,pl,m⟩:=p
 simp only[FP.cs] at*
 go_enter Tryz.func91,Tryz.ntmps91
 have HW:Hid (∀a l m w',Calls Tryz.prog 130 #[.int .i64 a,.int .i64 l,.int .i64 m] w' fun e w''=>e= .returned (.bool (inR a l m))∧w'=w''):=Hj (fun a l m w'=>within_any a l m w')
 go_wp2_with fail
 refine (HW.out _ _ _ _).mono ?_
 rw[hc1]
 rintro e' w' ⟨rfl,rfl⟩
 go_wp2_with fail
 refine (HW.out _ _ _ _).mono ?_
 rw[hc2]
 rintro e' w' ⟨rfl,rfl⟩
 go_wp2_with fail
 refine (HW.out _ _ _ _).mono ?_
 rw[hk]
 rintro e' w' ⟨rfl,rfl⟩
 obtain ⟨u,hu⟩:∃u,u=(w.alloc (.cells #[.int .i64 c,.int .i64 n,.int .i64 e,.int .i64 k,.int .i64 s,.int .i64 pl,.int .i64 m] 56)).alloc (.cells #[.int .i64 c,.int .i64 n,.int .i64 0,.int .i64 k,.int .i64 0,.int .i64 0,.int .i64 0] 56):=⟨_,rfl⟩
 go_upto_region 6 with (fail)
 rw[←hu]
 obtain ⟨P,hP⟩:∃P,P=w.heap.size:=⟨_,rfl⟩
 obtain ⟨T,hT⟩:∃T,T=w.heap.size+1:=⟨_,rfl⟩
 have HPu:Hid (u.heap[P]? =some (.cells #[.int .i64 c,.int .i64 n,.int .i64 e,.int .i64 k,.int .i64 s,.int .i64 pl,.int .i64 m] 56 (0,0))):=Hj (by rw[hu,hP];exact a2_0 w _ _)
 have HTu:Hid (u.heap[T]? =some (.cells #[.int .i64 c,.int .i64 n,.int .i64 0,.int .i64 k,.int .i64 0,.int .i64 0,.int .i64 0] 56 (0,0))):=Hj (by rw[hu,hT];exact a2_1 w _ _)
 have HUb:Hid (Below w.heap.size w u):=Hj (by rw[hu];exact ((Br _ w).alloc (Nr _) _).alloc (by simp) _)
 have hPT:P<T:=by omega
 have hus:T<u.heap.size:=(Al HTu.out)
 rw[←hT,←hP]
 have HPe:=Hj hP;have HTe:=Hj hT
 clear hu hP hT
 go_wp2_with fail
 refine (used2 T ⟨c,n,0,k,0,0,0⟩ h1 h2 u HTu.out).mono ?_
 rintro e' u1 ⟨r1,rfl,hr1,hr1s,hb1⟩
 have HR1:=Hj hr1;have HB1:=Hj hb1
 clear hr1 hb1
 have HP1:=Hj ((HB1.out.block P (by omega)).trans HPu.out)
 go_wp2_with fail
 refine (used2 P ⟨c,n,e,k,s,pl,m⟩ h1 h2 u1 HP1.out).mono ?_
 rintro e' u2 ⟨r2,rfl,hr2,hr2s,hb2⟩
 have hs1:=HB1.out.size
 have hr1l:=(Al HR1.out)
 have HB2:Hid (Below u.heap.size u u2):=Hj (HB1.out.trans (hb2.mono hs1))
 have HP2:=Hj ((HB2.out.block P (by omega)).trans HPu.out)
 have HT2:=Hj ((HB2.out.block T (by omega)).trans HTu.out)
 have HR12:=Hj ((hb2.block r1 hr1l).trans HR1.out)
 have HR2:=Hj hr2
 have hr2l:=(Al hr2)
 have hu2:=hb2.size
 clear hr2 hb2
 go_wp2
 go_loopw [39] (fun i wr=>((i= .int .i64 0∧wr.heap[T]? =some (.cells #[.int .i64 c,.int .i64 n,.int .i64 0,.int .i64 k,.int .i64 0,.int .i64 0,.int .i64 0] 56 (0,0)))∨(i= .int .i64 1∧wr.heap[T]? =some (.cells #[.int .i64 c,.int .i64 n,.int .i64 e,.int .i64 k,.int .i64 0,.int .i64 0,.int .i64 0] 56 (0,0))∧inR e 0 1=true)∨(i= .int .i64 2∧wr.heap[T]? =some (.cells #[.int .i64 c,.int .i64 n,.int .i64 e,.int .i64 k,.int .i64 0,.int .i64 pl,.int .i64 0] 56 (0,0))∧inR e 0 1=true∧inR pl 0 24000=true)∨(i= .int .i64 3∧wr.heap[T]? =some (.cells #[.int .i64 c,.int .i64 n,.int .i64 e,.int .i64 k,.int .i64 0,.int .i64 pl,.int .i64 m] 56 (0,0))∧inR e 0 1=true∧inR pl 0 24000=true∧inR m 1 255=true))∧wr.heap[P]? =some (.cells #[.int .i64 c,.int .i64 n,.int .i64 e,.int .i64 k,.int .i64 s,.int .i64 pl,.int .i64 m] 56 (0,0))∧wr.heap[r1]? =some (.cells #[.pointer (some ⟨T,2,none⟩),.int .i64 0,.int .i64 1,.pointer (some ⟨T,5,none⟩),.int .i64 0,.int .i64 24000,.pointer (some ⟨T,6,none⟩),.int .i64 1,.int .i64 255] 197 (0,0))∧wr.heap[r2]? =some (.cells #[.pointer (some ⟨P,2,none⟩),.int .i64 0,.int .i64 1,.pointer (some ⟨P,5,none⟩),.int .i64 0,.int .i64 24000,.pointer (some ⟨P,6,none⟩),.int .i64 1,.int .i64 255] 197 (0,0))∧Below w.heap.size w wr∧u2.heap.size≤wr.heap.size) (fun i _=>3 - (intOf i).toNat)
 case atStart=>exact ⟨.inl ⟨rfl,HT2.out⟩,HP2.out,HR12.out,HR2.out,HUb.out.trans (HB2.out.mono HUb.out.size),Nr _⟩
 case round=>
  obtain ⟨hj,hwp,hw1,hw2,hwb,hws⟩:=hrel
  have HWP:=Hj hwp;have HW1:=Hj hw1;have HW2:=Hj hw2;have HWB:=Hj hwb
  clear hwp hw1 hw2 hwb
  have hlP:P<wr.heap.size:=(Al HWP.out)
  have hl1:r1<wr.heap.size:=(Al HW1.out)
  have hl2:r2<wr.heap.size:=(Al HW2.out)
  rcases hj with ⟨rfl,hwt⟩ | ⟨rfl,hwt,g0⟩ | ⟨rfl,hwt,g0,g1⟩ | ⟨rfl,hwt,g0,g1,g2⟩
  ·have HWT:=Hj hwt
   have hlT:T<wr.heap.size:=(Al hwt)
   have c0:=Bj HW2.out 0 rfl
   have c1:=Bj HW2.out 1 rfl
   have c2:=Bj HW2.out 2 rfl
   obtain ⟨z,hz⟩:∃z,z=wr.alloc (.cells #[.pointer (some ⟨P,2,none⟩),.int .i64 0,.int .i64 1] 197):=⟨_,rfl⟩
   have HZ:=Hj hz
   have al:=(Br wr.heap.size wr).alloc (Nr _) (.cells #[.pointer (some ⟨P,2,none⟩),.int .i64 0,.int .i64 1] 197)
   rw[←hz] at al
   have HZB:=Hj al
   have HZF:Hid (z.heap[wr.heap.size]? =some (.cells #[.pointer (some ⟨P,2,none⟩),.int .i64 0,.int .i64 1] 197 (0,0))):=Hj (by rw[hz];exact heap_alloc_new wr _)
   have HZP:=Hj ((al.block P hlP).trans HWP.out)
   have HZT:=Hj ((al.block T hlT).trans HWT.out)
   have HZ1:=Hj ((al.block r1 hl1).trans HW1.out)
   clear al hz hwt
   go_upto_region 10 with (fail)
   rw[←HZ.out]
   obtain ⟨f,hf⟩:∃f,f=wr.heap.size:=⟨_,rfl⟩
   rw[←hf] at HZF⊢
   have HFe:=Hj hf
   clear hf c0 c1 c2
   have f0:=Bj HZF.out 0 rfl
   have f1:=Bj HZF.out 1 rfl
   have f2:=Bj HZF.out 2 rfl
   have pv:=Bj HZP.out 2 rfl
   refine Ty.wp_tree [] [] [] [1,3,5,7] [0,1,2,3,4,5,6,7] (.alt [8,9] (.done) (.no)) (by kernel_rfl) (by kernel_rfl) (by kernel_rfl) (by kernel_rfl) (fun _ h=>by cases h) ?_
   try simp only[pick,Gs,Gz]
   go_wp2
   refine Rm ?_
   refine Wq ?_
   try simp only[pick,Gs,Gz]
   go_wp2_with fail
   refine (HW.out _ _ _ _).mono ?_
   cases hg:inR e 0 1
   ·rintro e' w' ⟨rfl,rfl⟩
    have Hg:=Hj hg
    clear hg
    go_wp2
    refine Sm Ty.Shown.none ?_
    try simp only[pick,Gs,Gz]
    go_wp2
    refine Rm ?_
    refine Wd (by rfl) trivial ?_
    go_wp2
    go_ret
    exact ⟨by rw[Hg.out];simp,(HWB.out.trans (HZB.out.mono HWB.out.size)).drew⟩
   rintro e' w' ⟨rfl,rfl⟩
   have Hg:=Hj hg
   clear hg
   go_wp2
   refine Sm Ty.Shown.none ?_
   try simp only[pick,Gs,Gz]
   go_wp2
   refine Rm ?_
   refine Wd (by rfl) trivial ?_
   have r0:=Bj HZ1.out 0 rfl
   have tf:=Bf HZT.out 2
   have tv:=Bj HZT.out 2 rfl
   go_upto_region 12 with (fail)
   refine Ty.wp_tree [] [] [] [4,6,8] [0,1,2,3,4,5,6,7,8,9] (.alt [10] (.done) (.no)) (by kernel_rfl) (by kernel_rfl) (by kernel_rfl) (by kernel_rfl) (fun _ h=>by cases h) ?_
   try simp only[pick,Gs,Gz]
   go_wp2
   refine Rm ?_
   refine Wq ?_
   try simp only[pick,Gs,Gz]
   go_wp2
   refine Sm Ty.Shown.none ?_
   try simp only[pick,Gs,Gz]
   go_wp2
   refine Rm ?_
   refine Wd (by rfl) trivial ?_
   go_wp2
   obtain ⟨HX,HK⟩:=puts_at [(2,.int .i64 e)] HZT.out
   have hPlz:P<z.heap.size:=by have:=HZB.out.size;omega
   have h1lz:r1<z.heap.size:=by have:=HZB.out.size;omega
   have h2lz:r2<z.heap.size:=by have:=HZB.out.size;omega
   refine ⟨⟨(.inr (.inl ⟨rfl,HX,Hg.out⟩)), ?_, ?_, ?_, ?_, ?_⟩,by simp[intOf]⟩
   ·exact (HK.block P hPlz (by simp;omega)).trans HZP.out
   ·exact (HK.block r1 h1lz (by simp;omega)).trans HZ1.out
   ·exact (HK.block r2 h2lz (by simp;omega)).trans ((HZB.out.block r2 hl2).trans HW2.out)
   ·exact (((HWB.out.trans (HZB.out.mono HWB.out.size)).setCell (by have:=HTe.out;show _≤T;omega) _).drew).drew
   have:=puts_size [(2,Value.int .i64 e)] z T
   have:=HZB.out.size
   show _≤(puts z T [(2,Value.int .i64 e)]).heap.size
   omega
  ·have HWT:=Hj hwt
   have hlT:T<wr.heap.size:=(Al hwt)
   have c0:=Bj HW2.out 3 rfl
   have c1:=Bj HW2.out 4 rfl
   have c2:=Bj HW2.out 5 rfl
   obtain ⟨z,hz⟩:∃z,z=wr.alloc (.cells #[.pointer (some ⟨P,5,none⟩),.int .i64 0,.int .i64 24000] 197):=⟨_,rfl⟩
   have HZ:=Hj hz
   have al:=(Br wr.heap.size wr).alloc (Nr _) (.cells #[.pointer (some ⟨P,5,none⟩),.int .i64 0,.int .i64 24000] 197)
   rw[←hz] at al
   have HZB:=Hj al
   have HZF:Hid (z.heap[wr.heap.size]? =some (.cells #[.pointer (some ⟨P,5,none⟩),.int .i64 0,.int .i64 24000] 197 (0,0))):=Hj (by rw[hz];exact heap_alloc_new wr _)
   have HZP:=Hj ((al.block P hlP).trans HWP.out)
   have HZT:=Hj ((al.block T hlT).trans HWT.out)
   have HZ1:=Hj ((al.block r1 hl1).trans HW1.out)
   clear al hz hwt
   go_upto_region 10 with (fail)
   rw[←HZ.out]
   obtain ⟨f,hf⟩:∃f,f=wr.heap.size:=⟨_,rfl⟩
   rw[←hf] at HZF⊢
   have HFe:=Hj hf
   clear hf c0 c1 c2
   have f0:=Bj HZF.out 0 rfl
   have f1:=Bj HZF.out 1 rfl
   have f2:=Bj HZF.out 2 rfl
   have pv:=Bj HZP.out 5 rfl
   refine Ty.wp_tree [] [] [] [1,3,5,7] [0,1,2,3,4,5,6,7] (.alt [8,9] (.done) (.no)) (by kernel_rfl) (by kernel_rfl) (by kernel_rfl) (by kernel_rfl) (fun _ h=>by cases h) ?_
   try simp only[pick,Gs,Gz]
   go_wp2
   refine Rm ?_
   refine Wq ?_
   try simp only[pick,Gs,Gz]
   go_wp2_with fail
   refine (HW.out _ _ _ _).mono ?_
   cases hg:inR pl 0 24000
   ·rintro e' w' ⟨rfl,rfl⟩
    have Hg:=Hj hg
    clear hg
    go_wp2
    refine Sm Ty.Shown.none ?_
    try simp only[pick,Gs,Gz]
    go_wp2
    refine Rm ?_
    refine Wd (by rfl) trivial ?_
    go_wp2
    go_ret
    exact ⟨by rw[Hg.out];simp,(HWB.out.trans (HZB.out.mono HWB.out.size)).drew⟩
   rintro e' w' ⟨rfl,rfl⟩
   have Hg:=Hj hg
   clear hg
   go_wp2
   refine Sm Ty.Shown.none ?_
   try simp only[pick,Gs,Gz]
   go_wp2
   refine Rm ?_
   refine Wd (by rfl) trivial ?_
   have r0:=Bj HZ1.out 3 rfl
   have tf:=Bf HZT.out 5
   have tv:=Bj HZT.out 5 rfl
   go_upto_region 12 with (fail)
   refine Ty.wp_tree [] [] [] [4,6,8] [0,1,2,3,4,5,6,7,8,9] (.alt [10] (.done) (.no)) (by kernel_rfl) (by kernel_rfl) (by kernel_rfl) (by kernel_rfl) (fun _ h=>by cases h) ?_
   try simp only[pick,Gs,Gz]
   go_wp2
   refine Rm ?_
   refine Wq ?_
   try simp only[pick,Gs,Gz]
   go_wp2
   refine Sm Ty.Shown.none ?_
   try simp only[pick,Gs,Gz]
   go_wp2
   refine Rm ?_
   refine Wd (by rfl) trivial ?_
   go_wp2
   obtain ⟨HX,HK⟩:=puts_at [(5,.int .i64 pl)] HZT.out
   have hPlz:P<z.heap.size:=by have:=HZB.out.size;omega
   have h1lz:r1<z.heap.size:=by have:=HZB.out.size;omega
   have h2lz:r2<z.heap.size:=by have:=HZB.out.size;omega
   refine ⟨⟨(.inr (.inr (.inl ⟨rfl,HX,g0,Hg.out⟩))), ?_, ?_, ?_, ?_, ?_⟩,by simp[intOf]⟩
   ·exact (HK.block P hPlz (by simp;omega)).trans HZP.out
   ·exact (HK.block r1 h1lz (by simp;omega)).trans HZ1.out
   ·exact (HK.block r2 h2lz (by simp;omega)).trans ((HZB.out.block r2 hl2).trans HW2.out)
   ·exact (((HWB.out.trans (HZB.out.mono HWB.out.size)).setCell (by have:=HTe.out;show _≤T;omega) _).drew).drew
   have:=puts_size [(5,Value.int .i64 pl)] z T
   have:=HZB.out.size
   show _≤(puts z T [(5,Value.int .i64 pl)]).heap.size
   omega
  ·have HWT:=Hj hwt
   have hlT:T<wr.heap.size:=(Al hwt)
   have c0:=Bj HW2.out 6 rfl
   have c1:=Bj HW2.out 7 rfl
   have c2:=Bj HW2.out 8 rfl
   obtain ⟨z,hz⟩:∃z,z=wr.alloc (.cells #[.pointer (some ⟨P,6,none⟩),.int .i64 1,.int .i64 255] 197):=⟨_,rfl⟩
   have HZ:=Hj hz
   have al:=(Br wr.heap.size wr).alloc (Nr _) (.cells #[.pointer (some ⟨P,6,none⟩),.int .i64 1,.int .i64 255] 197)
   rw[←hz] at al
   have HZB:=Hj al
   have HZF:Hid (z.heap[wr.heap.size]? =some (.cells #[.pointer (some ⟨P,6,none⟩),.int .i64 1,.int .i64 255] 197 (0,0))):=Hj (by rw[hz];exact heap_alloc_new wr _)
   have HZP:=Hj ((al.block P hlP).trans HWP.out)
   have HZT:=Hj ((al.block T hlT).trans HWT.out)
   have HZ1:=Hj ((al.block r1 hl1).trans HW1.out)
   clear al hz hwt
   go_upto_region 10 with (fail)
   rw[←HZ.out]
   obtain ⟨f,hf⟩:∃f,f=wr.heap.size:=⟨_,rfl⟩
   rw[←hf] at HZF⊢
   have HFe:=Hj hf
   clear hf c0 c1 c2
   have f0:=Bj HZF.out 0 rfl
   have f1:=Bj HZF.out 1 rfl
   have f2:=Bj HZF.out 2 rfl
   have pv:=Bj HZP.out 6 rfl
   refine Ty.wp_tree [] [] [] [1,3,5,7] [0,1,2,3,4,5,6,7] (.alt [8,9] (.done) (.no)) (by kernel_rfl) (by kernel_rfl) (by kernel_rfl) (by kernel_rfl) (fun _ h=>by cases h) ?_
   try simp only[pick,Gs,Gz]
   go_wp2
   refine Rm ?_
   refine Wq ?_
   try simp only[pick,Gs,Gz]
   go_wp2_with fail
   refine (HW.out _ _ _ _).mono ?_
   cases hg:inR m 1 255
   ·rintro e' w' ⟨rfl,rfl⟩
    have Hg:=Hj hg
    clear hg
    go_wp2
    refine Sm Ty.Shown.none ?_
    try simp only[pick,Gs,Gz]
    go_wp2
    refine Rm ?_
    refine Wd (by rfl) trivial ?_
    go_wp2
    go_ret
    exact ⟨by rw[Hg.out];simp,(HWB.out.trans (HZB.out.mono HWB.out.size)).drew⟩
   rintro e' w' ⟨rfl,rfl⟩
   have Hg:=Hj hg
   clear hg
   go_wp2
   refine Sm Ty.Shown.none ?_
   try simp only[pick,Gs,Gz]
   go_wp2
   refine Rm ?_
   refine Wd (by rfl) trivial ?_
   have r0:=Bj HZ1.out 6 rfl
   have tf:=Bf HZT.out 6
   have tv:=Bj HZT.out 6 rfl
   go_upto_region 12 with (fail)
   refine Ty.wp_tree [] [] [] [4,6,8] [0,1,2,3,4,5,6,7,8,9] (.alt [10] (.done) (.no)) (by kernel_rfl) (by kernel_rfl) (by kernel_rfl) (by kernel_rfl) (fun _ h=>by cases h) ?_
   try simp only[pick,Gs,Gz]
   go_wp2
   refine Rm ?_
   refine Wq ?_
   try simp only[pick,Gs,Gz]
   go_wp2
   refine Sm Ty.Shown.none ?_
   try simp only[pick,Gs,Gz]
   go_wp2
   refine Rm ?_
   refine Wd (by rfl) trivial ?_
   go_wp2
   obtain ⟨HX,HK⟩:=puts_at [(6,.int .i64 m)] HZT.out
   have hPlz:P<z.heap.size:=by have:=HZB.out.size;omega
   have h1lz:r1<z.heap.size:=by have:=HZB.out.size;omega
   have h2lz:r2<z.heap.size:=by have:=HZB.out.size;omega
   refine ⟨⟨(.inr (.inr (.inr ⟨rfl,HX,g0,g1,Hg.out⟩))), ?_, ?_, ?_, ?_, ?_⟩,by simp[intOf]⟩
   ·exact (HK.block P hPlz (by simp;omega)).trans HZP.out
   ·exact (HK.block r1 h1lz (by simp;omega)).trans HZ1.out
   ·exact (HK.block r2 h2lz (by simp;omega)).trans ((HZB.out.block r2 hl2).trans HW2.out)
   ·exact (((HWB.out.trans (HZB.out.mono HWB.out.size)).setCell (by have:=HTe.out;show _≤T;omega) _).drew).drew
   have:=puts_size [(6,Value.int .i64 m)] z T
   have:=HZB.out.size
   show _≤(puts z T [(6,Value.int .i64 m)]).heap.size
   omega
  have HWT:=Hj hwt
  have t0:=Bj HWT.out 0 rfl
  have p0:=Bj HWP.out 0 rfl
  have t1:=Bj HWT.out 1 rfl
  have p1:=Bj HWP.out 1 rfl
  have t2:=Bj HWT.out 2 rfl
  have p2:=Bj HWP.out 2 rfl
  have t3:=Bj HWT.out 3 rfl
  have p3:=Bj HWP.out 3 rfl
  have t4:=Bj HWT.out 4 rfl
  have p4:=Bj HWP.out 4 rfl
  have t5:=Bj HWT.out 5 rfl
  have p5:=Bj HWP.out 5 rfl
  have t6:=Bj HWT.out 6 rfl
  have p6:=Bj HWP.out 6 rfl
  go_wp2
  all_goals
   go_ret
   refine ⟨congrArg (fun b=>Ending.returned (.bool b)) ?_,HWB.out⟩
   rw[g0,g1,g2]
   simp only[Bool.true_and]
   first
    | (symm;simp;omega)
    | (symm;simp only[Bool.and_eq_false_iff,decide_eq_false_iff_not];omega)
    | (simp;omega)
theorem valid3 (p:FP) (h1:p.k=8) (hc1:inR p.c 1 10=true) (hc2:inR p.n 1 1000000=true) (w:World):
  Calls Tryz.prog 91 #[.agg p.cs] w fun e w'=>e= .returned (.bool (inR p.s 0 4000&&(decide (p.e=0)&&decide (p.pl=0)&&decide (p.m=0))))∧Below w.heap.size w w':=by
 have hk:inR p.k 1 9=true:=by unfold inR;simp;omega
 have hk0:(p.k==0)=false:=by simp;omega
 obtain ⟨c,n,e,k,s,pl,m⟩:=p
 simp only[FP.cs] at*
 have h1a:8≤k:=by omega
 have h1b:k≤8:=by omega
 clear h1
 go_enter Tryz.func91,Tryz.ntmps91
 have HW:Hid (∀a l m w',Calls Tryz.prog 130 #[.int .i64 a,.int .i64 l,.int .i64 m] w' fun e w''=>e= .returned (.bool (inR a l m))∧w'=w''):=Hj (fun a l m w'=>within_any a l m w')
 go_wp2_with fail
 refine (HW.out _ _ _ _).mono ?_
 rw[hc1]
 rintro e' w' ⟨rfl,rfl⟩
 go_wp2_with fail
 refine (HW.out _ _ _ _).mono ?_
 rw[hc2]
 rintro e' w' ⟨rfl,rfl⟩
 go_wp2_with fail
 refine (HW.out _ _ _ _).mono ?_
 rw[hk]
 rintro e' w' ⟨rfl,rfl⟩
 obtain ⟨u,hu⟩:∃u,u=(w.alloc (.cells #[.int .i64 c,.int .i64 n,.int .i64 e,.int .i64 k,.int .i64 s,.int .i64 pl,.int .i64 m] 56)).alloc (.cells #[.int .i64 c,.int .i64 n,.int .i64 0,.int .i64 k,.int .i64 0,.int .i64 0,.int .i64 0] 56):=⟨_,rfl⟩
 go_upto_region 6 with (fail)
 rw[←hu]
 obtain ⟨P,hP⟩:∃P,P=w.heap.size:=⟨_,rfl⟩
 obtain ⟨T,hT⟩:∃T,T=w.heap.size+1:=⟨_,rfl⟩
 have HPu:Hid (u.heap[P]? =some (.cells #[.int .i64 c,.int .i64 n,.int .i64 e,.int .i64 k,.int .i64 s,.int .i64 pl,.int .i64 m] 56 (0,0))):=Hj (by rw[hu,hP];exact a2_0 w _ _)
 have HTu:Hid (u.heap[T]? =some (.cells #[.int .i64 c,.int .i64 n,.int .i64 0,.int .i64 k,.int .i64 0,.int .i64 0,.int .i64 0] 56 (0,0))):=Hj (by rw[hu,hT];exact a2_1 w _ _)
 have HUb:Hid (Below w.heap.size w u):=Hj (by rw[hu];exact ((Br _ w).alloc (Nr _) _).alloc (by simp) _)
 have hPT:P<T:=by omega
 have hus:T<u.heap.size:=(Al HTu.out)
 rw[←hT,←hP]
 have HPe:=Hj hP;have HTe:=Hj hT
 clear hu hP hT
 go_wp2_with fail
 refine (used3 T ⟨c,n,0,k,0,0,0⟩ (show k=8 by omega) u HTu.out).mono ?_
 rintro e' u1 ⟨r1,rfl,hr1,hr1s,hb1⟩
 have HR1:=Hj hr1;have HB1:=Hj hb1
 clear hr1 hb1
 have HP1:=Hj ((HB1.out.block P (by omega)).trans HPu.out)
 go_wp2_with fail
 refine (used3 P ⟨c,n,e,k,s,pl,m⟩ (show k=8 by omega) u1 HP1.out).mono ?_
 rintro e' u2 ⟨r2,rfl,hr2,hr2s,hb2⟩
 have hs1:=HB1.out.size
 have hr1l:=(Al HR1.out)
 have HB2:Hid (Below u.heap.size u u2):=Hj (HB1.out.trans (hb2.mono hs1))
 have HP2:=Hj ((HB2.out.block P (by omega)).trans HPu.out)
 have HT2:=Hj ((HB2.out.block T (by omega)).trans HTu.out)
 have HR12:=Hj ((hb2.block r1 hr1l).trans HR1.out)
 have HR2:=Hj hr2
 have hr2l:=(Al hr2)
 have hu2:=hb2.size
 clear hr2 hb2
 go_wp2
 go_loopw [39] (fun i wr=>((i= .int .i64 0∧wr.heap[T]? =some (.cells #[.int .i64 c,.int .i64 n,.int .i64 0,.int .i64 k,.int .i64 0,.int .i64 0,.int .i64 0] 56 (0,0)))∨(i= .int .i64 1∧wr.heap[T]? =some (.cells #[.int .i64 c,.int .i64 n,.int .i64 0,.int .i64 k,.int .i64 s,.int .i64 0,.int .i64 0] 56 (0,0))∧inR s 0 4000=true))∧wr.heap[P]? =some (.cells #[.int .i64 c,.int .i64 n,.int .i64 e,.int .i64 k,.int .i64 s,.int .i64 pl,.int .i64 m] 56 (0,0))∧wr.heap[r1]? =some (.cells #[.pointer (some ⟨T,4,none⟩),.int .i64 0,.int .i64 4000] 197 (0,0))∧wr.heap[r2]? =some (.cells #[.pointer (some ⟨P,4,none⟩),.int .i64 0,.int .i64 4000] 197 (0,0))∧Below w.heap.size w wr∧u2.heap.size≤wr.heap.size) (fun i _=>1 - (intOf i).toNat)
 case atStart=>exact ⟨.inl ⟨rfl,HT2.out⟩,HP2.out,HR12.out,HR2.out,HUb.out.trans (HB2.out.mono HUb.out.size),Nr _⟩
 case round=>
  obtain ⟨hj,hwp,hw1,hw2,hwb,hws⟩:=hrel
  have HWP:=Hj hwp;have HW1:=Hj hw1;have HW2:=Hj hw2;have HWB:=Hj hwb
  clear hwp hw1 hw2 hwb
  have hlP:P<wr.heap.size:=(Al HWP.out)
  have hl1:r1<wr.heap.size:=(Al HW1.out)
  have hl2:r2<wr.heap.size:=(Al HW2.out)
  rcases hj with ⟨rfl,hwt⟩ | ⟨rfl,hwt,g0⟩
  ·have HWT:=Hj hwt
   have hlT:T<wr.heap.size:=(Al hwt)
   have c0:=Bj HW2.out 0 rfl
   have c1:=Bj HW2.out 1 rfl
   have c2:=Bj HW2.out 2 rfl
   obtain ⟨z,hz⟩:∃z,z=wr.alloc (.cells #[.pointer (some ⟨P,4,none⟩),.int .i64 0,.int .i64 4000] 197):=⟨_,rfl⟩
   have HZ:=Hj hz
   have al:=(Br wr.heap.size wr).alloc (Nr _) (.cells #[.pointer (some ⟨P,4,none⟩),.int .i64 0,.int .i64 4000] 197)
   rw[←hz] at al
   have HZB:=Hj al
   have HZF:Hid (z.heap[wr.heap.size]? =some (.cells #[.pointer (some ⟨P,4,none⟩),.int .i64 0,.int .i64 4000] 197 (0,0))):=Hj (by rw[hz];exact heap_alloc_new wr _)
   have HZP:=Hj ((al.block P hlP).trans HWP.out)
   have HZT:=Hj ((al.block T hlT).trans HWT.out)
   have HZ1:=Hj ((al.block r1 hl1).trans HW1.out)
   clear al hz hwt
   go_upto_region 10 with (fail)
   rw[←HZ.out]
   obtain ⟨f,hf⟩:∃f,f=wr.heap.size:=⟨_,rfl⟩
   rw[←hf] at HZF⊢
   have HFe:=Hj hf
   clear hf c0 c1 c2
   have f0:=Bj HZF.out 0 rfl
   have f1:=Bj HZF.out 1 rfl
   have f2:=Bj HZF.out 2 rfl
   have pv:=Bj HZP.out 4 rfl
   refine Ty.wp_tree [] [] [] [1,3,5,7] [0,1,2,3,4,5,6,7] (.alt [8,9] (.done) (.no)) (by kernel_rfl) (by kernel_rfl) (by kernel_rfl) (by kernel_rfl) (fun _ h=>by cases h) ?_
   try simp only[pick,Gs,Gz]
   go_wp2
   refine Rm ?_
   refine Wq ?_
   try simp only[pick,Gs,Gz]
   go_wp2_with fail
   refine (HW.out _ _ _ _).mono ?_
   cases hg:inR s 0 4000
   ·rintro e' w' ⟨rfl,rfl⟩
    have Hg:=Hj hg
    clear hg
    go_wp2
    refine Sm Ty.Shown.none ?_
    try simp only[pick,Gs,Gz]
    go_wp2
    refine Rm ?_
    refine Wd (by rfl) trivial ?_
    go_wp2
    go_ret
    exact ⟨by rw[Hg.out];simp,(HWB.out.trans (HZB.out.mono HWB.out.size)).drew⟩
   rintro e' w' ⟨rfl,rfl⟩
   have Hg:=Hj hg
   clear hg
   go_wp2
   refine Sm Ty.Shown.none ?_
   try simp only[pick,Gs,Gz]
   go_wp2
   refine Rm ?_
   refine Wd (by rfl) trivial ?_
   have r0:=Bj HZ1.out 0 rfl
   have tf:=Bf HZT.out 4
   have tv:=Bj HZT.out 4 rfl
   go_upto_region 12 with (fail)
   refine Ty.wp_tree [] [] [] [4,6,8] [0,1,2,3,4,5,6,7,8,9] (.alt [10] (.done) (.no)) (by kernel_rfl) (by kernel_rfl) (by kernel_rfl) (by kernel_rfl) (fun _ h=>by cases h) ?_
   try simp only[pick,Gs,Gz]
   go_wp2
   refine Rm ?_
   refine Wq ?_
   try simp only[pick,Gs,Gz]
   go_wp2
   refine Sm Ty.Shown.none ?_
   try simp only[pick,Gs,Gz]
   go_wp2
   refine Rm ?_
   refine Wd (by rfl) trivial ?_
   go_wp2
   obtain ⟨HX,HK⟩:=puts_at [(4,.int .i64 s)] HZT.out
   have hPlz:P<z.heap.size:=by have:=HZB.out.size;omega
   have h1lz:r1<z.heap.size:=by have:=HZB.out.size;omega
   have h2lz:r2<z.heap.size:=by have:=HZB.out.size;omega
   refine ⟨⟨(.inr ⟨rfl,HX,Hg.out⟩), ?_, ?_, ?_, ?_, ?_⟩,by simp[intOf]⟩
   ·exact (HK.block P hPlz (by simp;omega)).trans HZP.out
   ·exact (HK.block r1 h1lz (by simp;omega)).trans HZ1.out
   ·exact (HK.block r2 h2lz (by simp;omega)).trans ((HZB.out.block r2 hl2).trans HW2.out)
   ·exact (((HWB.out.trans (HZB.out.mono HWB.out.size)).setCell (by have:=HTe.out;show _≤T;omega) _).drew).drew
   have:=puts_size [(4,Value.int .i64 s)] z T
   have:=HZB.out.size
   show _≤(puts z T [(4,Value.int .i64 s)]).heap.size
   omega
  have HWT:=Hj hwt
  have t0:=Bj HWT.out 0 rfl
  have p0:=Bj HWP.out 0 rfl
  have t1:=Bj HWT.out 1 rfl
  have p1:=Bj HWP.out 1 rfl
  have t2:=Bj HWT.out 2 rfl
  have p2:=Bj HWP.out 2 rfl
  have t3:=Bj HWT.out 3 rfl
  have p3:=Bj HWP.out 3 rfl
  have t4:=Bj HWT.out 4 rfl
  have p4:=Bj HWP.out 4 rfl
  have t5:=Bj HWT.out 5 rfl
  have p5:=Bj HWP.out 5 rfl
  have t6:=Bj HWT.out 6 rfl
  have p6:=Bj HWP.out 6 rfl
  go_wp2
  all_goals
   go_ret
   refine ⟨congrArg (fun b=>Ending.returned (.bool b)) ?_,HWB.out⟩
   rw[g0]
   simp only[Bool.true_and]
   first
    | (symm;simp;omega)
    | (symm;simp only[Bool.and_eq_false_iff,decide_eq_false_iff_not];omega)
    | (simp;omega)
end Go.Proofs.YtipiofgdjbogiaaGreat
namespace Go.Fa
open Go
def FP.ok (p:FP):Bool:=
 if p.k=0 then decide (p.c=0)&&(decide (p.n=0)&&(decide (p.e=0)&&(decide (p.s=0)&&(decide (p.pl=0)&&decide (p.m=0)))))
 else inR p.c 1 10&&inR p.n 1 1000000&&inR p.k 1 9&&
  (if p.k≤3 then inR p.e 0 1&&inR p.s 0 4000&&(decide (p.pl=0)&&decide (p.m=0))
   else if p.k≤7 then inR p.e 0 1&&inR p.pl 0 24000&&inR p.m 1 255&&decide (p.s=0)
   else if p.k=8 then inR p.s 0 4000&&(decide (p.e=0)&&(decide (p.pl=0)&&decide (p.m=0)))
   else decide (p.e=0)&&(decide (p.s=0)&&(decide (p.pl=0)&&decide (p.m=0))))
end Go.Fa
namespace Go.Proofs.YtipiofgdjbogiaaGreat
open Go.Txt Go.RowKit Go.Bs Go.Cl Go.Rw Go.Un Go.Im Go.Fa
theorem valid0 (p:FP) (h:p.k=0) (w:World):
  Calls Tryz.prog 91 #[.agg p.cs] w fun e w'=>e= .returned (.bool p.ok)∧Below w.heap.size w w':=by
 obtain ⟨c,n,e,k,s,pl,m⟩:=p
 simp only[FP.cs,FP.ok] at*
 subst h
 go_enter Tryz.func91,Tryz.ntmps91
 go_wp2
 all_goals
  go_ret
  refine ⟨rfl, ?_⟩
  first
   | exact (Br _ w).alloc (Nr _) _
   | trace_state
theorem valid9 (p:FP) (h1:p.k=9) (hc1:inR p.c 1 10=true) (hc2:inR p.n 1 1000000=true) (w:World):
  Calls Tryz.prog 91 #[.agg p.cs] w fun e w'=>e= .returned (.bool (decide (p.e=0)&&(decide (p.s=0)&&(decide (p.pl=0)&&decide (p.m=0)))))∧Below w.heap.size w w':=by
 have hk:inR p.k 1 9=true:=by unfold inR;simp;omega
 have hk0:(p.k==0)=false:=by simp;omega
 obtain ⟨c,n,e,k,s,pl,m⟩:=p
 simp only[FP.cs] at*
 have h1a:9≤k:=by omega
 have h1b:k≤9:=by omega
 clear h1
 go_enter Tryz.func91,Tryz.ntmps91
 have HW:Hid (∀a l m w',Calls Tryz.prog 130 #[.int .i64 a,.int .i64 l,.int .i64 m] w' fun e w''=>e= .returned (.bool (inR a l m))∧w'=w''):=Hj (fun a l m w'=>within_any a l m w')
 go_wp2_with fail
 refine (HW.out _ _ _ _).mono ?_
 rw[hc1]
 rintro e' w' ⟨rfl,rfl⟩
 go_wp2_with fail
 refine (HW.out _ _ _ _).mono ?_
 rw[hc2]
 rintro e' w' ⟨rfl,rfl⟩
 go_wp2_with fail
 refine (HW.out _ _ _ _).mono ?_
 rw[hk]
 rintro e' w' ⟨rfl,rfl⟩
 obtain ⟨u,hu⟩:∃u,u=(w.alloc (.cells #[.int .i64 c,.int .i64 n,.int .i64 e,.int .i64 k,.int .i64 s,.int .i64 pl,.int .i64 m] 56)).alloc (.cells #[.int .i64 c,.int .i64 n,.int .i64 0,.int .i64 k,.int .i64 0,.int .i64 0,.int .i64 0] 56):=⟨_,rfl⟩
 go_upto_region 6 with (fail)
 rw[←hu]
 obtain ⟨P,hP⟩:∃P,P=w.heap.size:=⟨_,rfl⟩
 obtain ⟨T,hT⟩:∃T,T=w.heap.size+1:=⟨_,rfl⟩
 have HPu:Hid (u.heap[P]? =some (.cells #[.int .i64 c,.int .i64 n,.int .i64 e,.int .i64 k,.int .i64 s,.int .i64 pl,.int .i64 m] 56 (0,0))):=Hj (by rw[hu,hP];exact a2_0 w _ _)
 have HTu:Hid (u.heap[T]? =some (.cells #[.int .i64 c,.int .i64 n,.int .i64 0,.int .i64 k,.int .i64 0,.int .i64 0,.int .i64 0] 56 (0,0))):=Hj (by rw[hu,hT];exact a2_1 w _ _)
 have HUb:Hid (Below w.heap.size w u):=Hj (by rw[hu];exact ((Br _ w).alloc (Nr _) _).alloc (by simp) _)
 have hPT:P<T:=by omega
 have hus:T<u.heap.size:=(Al HTu.out)
 rw[←hT,←hP]
 clear hu hP hT
 go_wp2_with fail
 refine (used4 T ⟨c,n,0,k,0,0,0⟩ (show k=9 by omega) u HTu.out).mono ?_
 rintro e' u1 ⟨rfl,hb1⟩
 have HB1:=Hj hb1
 clear hb1
 have HP1:=Hj ((HB1.out.block P (by omega)).trans HPu.out)
 go_wp2_with fail
 refine (used4 P ⟨c,n,e,k,s,pl,m⟩ (show k=9 by omega) u1 HP1.out).mono ?_
 rintro e' u2 ⟨rfl,hb2⟩
 have hs1:=HB1.out.size
 have HB2:Hid (Below u.heap.size u u2):=Hj (HB1.out.trans (hb2.mono hs1))
 have HP2:=Hj ((HB2.out.block P (by omega)).trans HPu.out)
 have HT2:=Hj ((HB2.out.block T (by omega)).trans HTu.out)
 clear hb2
 go_wp2
 go_loopw [39] (fun i wr=>i= .int .i64 0∧wr=u2) (fun i _=>0)
 case atStart=>exact ⟨rfl,rfl⟩
 case round=>
  obtain ⟨rfl,rfl⟩:=hrel
  have t0:=Bj HT2.out 0 rfl
  have t1:=Bj HT2.out 1 rfl
  have t2:=Bj HT2.out 2 rfl
  have t3:=Bj HT2.out 3 rfl
  have t4:=Bj HT2.out 4 rfl
  have t5:=Bj HT2.out 5 rfl
  have t6:=Bj HT2.out 6 rfl
  have p0:=Bj HP2.out 0 rfl
  have p1:=Bj HP2.out 1 rfl
  have p2:=Bj HP2.out 2 rfl
  have p3:=Bj HP2.out 3 rfl
  have p4:=Bj HP2.out 4 rfl
  have p5:=Bj HP2.out 5 rfl
  have p6:=Bj HP2.out 6 rfl
  go_wp2
  all_goals
   go_ret
   refine ⟨congrArg (fun b=>Ending.returned (.bool b)) ?_,HUb.out.trans (HB2.out.mono HUb.out.size)⟩
   first
    | (symm;simp;omega)
    | (symm;simp only[Bool.and_eq_false_iff,decide_eq_false_iff_not];omega)
    | (simp;omega)
theorem valid_bad (p:FP) (h0:¬p.k=0) (hb:(inR p.c 1 10&&inR p.n 1 1000000&&inR p.k 1 9)=false) (w:World):
  Calls Tryz.prog 91 #[.agg p.cs] w fun e w'=>e= .returned (.bool false)∧Below w.heap.size w w':=by
 have hk0:(p.k==0)=false:=by simp;omega
 obtain ⟨c,n,e,k,s,pl,m⟩:=p
 simp only[FP.cs] at*
 go_enter Tryz.func91,Tryz.ntmps91
 have HW:Hid (∀a l m w',Calls Tryz.prog 130 #[.int .i64 a,.int .i64 l,.int .i64 m] w' fun e w''=>e= .returned (.bool (inR a l m))∧w'=w''):=Hj (fun a l m w'=>within_any a l m w')
 clear h0
 go_wp2_with fail
 refine (HW.out _ _ _ _).mono ?_
 cases hc1:inR c 1 10
 ·clear hb
  rintro e' w' ⟨rfl,rfl⟩
  go_wp2
  go_ret
  exact ⟨rfl,(Br _ w).alloc (Nr _) _⟩
 rintro e' w' ⟨rfl,rfl⟩
 go_wp2_with fail
 refine (HW.out _ _ _ _).mono ?_
 cases hc2:inR n 1 1000000
 ·clear hb
  rintro e' w' ⟨rfl,rfl⟩
  go_wp2
  go_ret
  exact ⟨rfl,(Br _ w).alloc (Nr _) _⟩
 rintro e' w' ⟨rfl,rfl⟩
 go_wp2_with fail
 refine (HW.out _ _ _ _).mono ?_
 have hc3:inR k 1 9=false:=by simpa[hc1,hc2] using hb
 rw[hc3]
 clear hb
 rintro e' w' ⟨rfl,rfl⟩
 go_wp2
 go_ret
 exact ⟨rfl,(Br _ w).alloc (Nr _) _⟩
theorem valid_any (p:FP) (w:World):Calls Tryz.prog 91 #[.agg p.cs] w fun e w'=>e= .returned (.bool p.ok)∧Below w.heap.size w w':=by
 by_cases h0:p.k=0
 ·exact valid0 p h0 w
 cases hb:(inR p.c 1 10&&inR p.n 1 1000000&&inR p.k 1 9)
 ·refine (valid_bad p h0 hb w).mono ?_
  rintro e w' ⟨rfl,h⟩
  exact ⟨by simp[FP.ok,h0,hb],h⟩
 simp only[Bool.and_eq_true] at hb
 obtain ⟨⟨h1,h2⟩,h3⟩:=hb
 have h3':1≤p.k∧p.k≤9:=by simpa[inR] using h3
 by_cases q3:p.k≤3
 ·refine (valid1 p (by omega) q3 h1 h2 w).mono ?_
  rintro e w' ⟨rfl,h⟩
  exact ⟨by simp[FP.ok,h0,h1,h2,h3,q3],h⟩
 by_cases q7:p.k≤7
 ·refine (valid2 p (by omega) q7 h1 h2 w).mono ?_
  rintro e w' ⟨rfl,h⟩
  exact ⟨by simp[FP.ok,h0,h1,h2,h3,q3,q7],h⟩
 by_cases q8:p.k=8
 ·refine (valid3 p q8 h1 h2 w).mono ?_
  rintro e w' ⟨rfl,h⟩
  exact ⟨by simp[FP.ok,h1,h2,q8,show inR 8 1 9=true from by decide,Bool.and_assoc],h⟩
 refine (valid9 p (by omega) h1 h2 w).mono ?_
 rintro e w' ⟨rfl,h⟩
 exact ⟨by simp[FP.ok,h0,h1,h2,h3,q3,q7,q8],h⟩
end Go.Proofs.YtipiofgdjbogiaaGreat
namespace Go.Fa
open Go Go.Txt Go.RowKit Go.Bs Go.Cl Go.Rw
def FP.hits (p:FP) (c n a:Int):Bool:=p.ok&&(decide (p.k≠0)&&(decide (p.c=c)&&(decide (p.n=n)&&decide (a=1))))
def chg (b:List UInt8) (pl m:Int):List UInt8:=if 0<b.length∧0≤pl then b.modify (pl.toNat%b.length) (fun x=>x^^^UInt8.ofNat (m%256).toNat) else b
theorem xor_u8 (x:UInt8) (m:Int):bits BinOp.xor IntKind.u8 (x.toNat:Int) (m%256)=((x^^^UInt8.ofNat (m%256).toNat).toNat:Nat):=by
 obtain ⟨n,hn,hl⟩:∃n:Nat,m%256=n∧n<256:=⟨(m%256).toNat,by omega,by omega⟩
 rw[hn]
 have hx:x.toNat<256:=UInt8.toNat_lt x
 have e1:((n:Int)).toNat=n:=by omega
 rw[e1]
 have e2:(UInt8.ofNat n).toNat=n:=by rw[UInt8.toNat_ofNat'];omega
 rw[UInt8.toNat_xor,e2]
 have hx2:x.toNat^^^n<2^8:=Nat.xor_lt_two_pow hx hl
 have h1:(BitVec.ofInt 8 (x.toNat:Int)).toNat=x.toNat:=by
  rw[BitVec.ofInt_natCast,BitVec.toNat_ofNat];exact Nat.mod_eq_of_lt (by omega)
 have h2:(BitVec.ofInt 8 (n:Int)).toNat=n:=by
  rw[BitVec.ofInt_natCast,BitVec.toNat_ofNat];exact Nat.mod_eq_of_lt (by omega)
 show IntKind.u8.wrap ((BitVec.ofInt 8 (x.toNat:Int)^^^BitVec.ofInt 8 (n:Int)).toNat:Int)=_
 rw[BitVec.toNat_xor,h1,h2]
 simp only[IntKind.wrap,IntKind.bits,IntKind.signed]
 simp
 omega
theorem chg_len (b:List UInt8) (pl m:Int):(chg b pl m).length=b.length:=by unfold chg;split <;> simp
end Go.Fa
namespace Go.Proofs.YtipiofgdjbogiaaGreat
open Go.Txt Go.RowKit Go.Bs Go.Cl Go.Rw Go.Un Go.Im Go.Fa
theorem hits_any (p:FP) (c n a:Int) (w:World):
  Calls Tryz.prog 90 #[.agg p.cs,.int .i64 c,.int .i64 n,.int .i64 a] w fun e w'=>e= .returned (.bool (p.hits c n a))∧Below w.heap.size w w':=by
 have hV:=valid_any p
 obtain ⟨pc,pn,pe,pk,ps,ppl,pm⟩:=p
 simp only[FP.cs,FP.hits] at*
 obtain ⟨u,hu⟩:∃u,u=w.alloc (.cells #[.int .i64 pc,.int .i64 pn,.int .i64 pe,.int .i64 pk,.int .i64 ps,.int .i64 ppl,.int .i64 pm] 56):=⟨_,rfl⟩
 have HU:=Hj hu
 have HC:Hid (u.heap[w.heap.size]? =some (.cells #[.int .i64 pc,.int .i64 pn,.int .i64 pe,.int .i64 pk,.int .i64 ps,.int .i64 ppl,.int .i64 pm] 56 (0,0))):=Hj (by rw[hu];exact heap_alloc_new w _)
 have HB:Hid (Below w.heap.size w u):=Hj (by rw[hu];exact (Br _ w).alloc (Nr _) _)
 have HV:=Hj hV
 clear hu hV
 go_enter Tryz.func90,Tryz.ntmps90
 go_upto_region 1 with (fail)
 rw[←HU.out]
 obtain ⟨g,hg⟩:∃g,g=w.heap.size:=⟨_,rfl⟩
 rw[←hg] at HC⊢
 have hlt:=(Al HC.out)
 clear hg
 have c0:=Bj HC.out 0 rfl
 have c1:=Bj HC.out 1 rfl
 have c2:=Bj HC.out 2 rfl
 have c3:=Bj HC.out 3 rfl
 have c4:=Bj HC.out 4 rfl
 have c5:=Bj HC.out 5 rfl
 have c6:=Bj HC.out 6 rfl
 go_wp2_with fail
 refine (HV.out _).mono ?_
 rintro e w1 ⟨rfl,hb1⟩
 have d0:=Bo ((hb1.block g hlt).trans HC.out) (j:=0) rfl
 have d1:=Bo ((hb1.block g hlt).trans HC.out) (j:=1) rfl
 have d3:=Bo ((hb1.block g hlt).trans HC.out) (j:=3) rfl
 have HB1:=Hj (HB.out.trans (hb1.mono HB.out.size))
 clear hb1 c0 c1 c2 c3 c4 c5 c6
 cases hv:FP.ok ⟨pc,pn,pe,pk,ps,ppl,pm⟩
 ·go_wp2
  go_ret
  exact ⟨by simp[hv],HB1.out⟩
 go_wp2
 all_goals
  go_ret
  refine ⟨congrArg (fun b=>Ending.returned (.bool b)) ?_,HB1.out⟩
  first
   | (symm;simp[hv];omega)
   | (symm;simp only[hv,Bool.true_and,Bool.and_eq_false_iff,decide_eq_false_iff_not];omega)
   | (simp[hv];omega)
   | (rw[hv];simp;done)
   | (rw[hv];cases h1:(pk != 0) <;> cases h2:(a==1) <;> simp_all;done)
theorem change_any (F:List Nat) (v:Value) (b:List UInt8) (pl m:Int) (w:World) (hl:b.length≤24000) (hB:Bytes F w v b):
  Calls Tryz.prog 92 #[v,.int .i64 pl,.int .i64 m] w fun e w'=>∃x,e= .returned x∧w'.ownsRow w.heap.size 5 1 x b.length (bytesV (chg b pl m))∧Below w.heap.size w w':=by
 have HB:=Hj hB
 obtain ⟨ba,bc,rfl⟩:=Rs hB
 clear hB
 go_enter Tryz.func92,Tryz.ntmps92
 go_wp2_with fail
 refine (clone33 _ (by omega) HB.out).mono ?_
 rintro e w1 ⟨v1,rfl,hown,hb⟩
 rcases own_cases hown with ⟨rfl,hn,hx⟩ | ⟨g,cap,rfl,hg,hgl,hnc⟩
 ·have h0:b=[]:=List.length_eq_zero_iff.1 hn
  subst h0
  have HO:=Hj hown;have HB1:=Hj hb
  clear hown hb
  go_wp2
  go_ret
  exact ⟨_,rfl,by simpa[chg] using HO.out,HB1.out⟩
 have HO:=Hj hown;have HB1:=Hj hb
 clear hown hb
 by_cases hn0:b.length=0
 ·have h0:b=[]:=List.length_eq_zero_iff.1 hn0
  subst h0
  go_wp2
  go_ret
  exact ⟨_,rfl,by simpa[chg] using HO.out,HB1.out⟩
 have hn1:0<b.length:=by omega
 obtain ⟨n,hn⟩:∃n:Int,n=b.length:=⟨_,rfl⟩
 by_cases hp:0≤pl
 ·have hj0:0≤pl%(b.length:Int):=Int.emod_nonneg _ (by omega)
  have hj1:pl%(b.length:Int)<b.length:=Int.emod_lt_of_pos _ (by omega)
  obtain ⟨j,hj⟩:∃j:Nat,pl%(b.length:Int)=j:=⟨_,(Int.toNat_of_nonneg hj0).symm⟩
  have hjl:j<b.length:=by omega
  have hjt:(pl%(b.length:Int)).toNat=j:=by omega
  have hjm:pl.toNat%b.length=j:=by
   have h1:((pl.toNat%b.length:Nat):Int)=pl%(b.length:Int):=by
    rw[Int.natCast_emod,Int.toNat_of_nonneg hp]
   omega
  have hx:(bytesV b)[j]? =some (byteV (b[j]'hjl)):=by unfold bytesV;rw[List.getElem?_map,List.getElem?_eq_getElem hjl];rfl
  have cj:=own_cell HO.out rfl hx
  have fj:=own_frozen HO.out j
  obtain ⟨x0,hx0⟩:∃x0,x0=b[j]'hjl:=⟨_,rfl⟩
  rw[←hx0] at cj
  unfold byteV at cj
  go_wp2
  go_ret
  refine ⟨_,rfl, ?_,HB1.out.setCell hg _⟩
  have hs:=own_set HO.out (j:=j) (u:= .int .u8 (bits BinOp.xor IntKind.u8 (↑(b[j]'hjl).toNat) (m%256))) (by simp[bytesV];exact hjl)
  rw[xor_u8] at hs
  have he:bytesV (chg b pl m)=(bytesV b).set j (.int .u8 ((b[j]'hjl^^^UInt8.ofNat (m%256).toNat).toNat:Nat)):=by
   rw[show chg b pl m=b.modify (pl.toNat%b.length) (fun x=>x^^^UInt8.ofNat (m%256).toNat) from if_pos ⟨hn1,hp⟩,hjm]
   unfold bytesV
   apply List.ext_getElem?
   intro i
   rw[List.getElem?_map,List.getElem?_modify,List.getElem?_set,List.getElem?_map,List.length_map]
   by_cases hi:j=i
   ·subst hi
    rw[List.getElem?_eq_getElem hjl,if_pos rfl,if_pos hjl]
    simp[byteV]
   rw[if_neg hi]
   simp[hi]
  rw[he,←xor_u8]
  rw[←xor_u8] at hs
  exact hs
 go_wp2
 go_ret
 refine ⟨_,rfl, ?_,HB1.out⟩
 show World.ownsRow _ _ _ _ (.slice (some ⟨g,0,none⟩) b.length cap) _ _
 exact (by rw[show chg b pl m=b from if_neg (fun h=>absurd h.2 (by omega))];exact HO.out)
end Go.Proofs.YtipiofgdjbogiaaGreat
namespace Go.Fa
open Go Go.Txt Go.RowKit Go.Bs Go.Cl Go.Rw
structure Oc where
 en:Int
 st:Int
 er:Int
 im:List UInt8
 ef:List UInt8
def Oc.fine (o:Oc):Bool:=decide (o.en=0)&&decide (o.er=0)
def fout (p:FP) (x:Int) (o:Oc):Oc:=
 if p.ok=false∨p.e≠x then o
 else if 1≤p.k∧p.k≤3∧p.s<o.st then (if p.k=1 then ⟨1,p.s+1,0,[],[]⟩ else if p.k=3 then ⟨3,p.s+1,0,[],[]⟩ else ⟨2,4000,0,[],[]⟩)
 else if p.k=6∧o.fine=true then {o with im:=chg o.im p.pl p.m}
 else if p.k=7∧o.fine=true then {o with ef:=chg o.ef p.pl p.m}
 else o
theorem fout_il (p:FP) (x:Int) (o:Oc):(fout p x o).im.length≤o.im.length:=by
 unfold fout;repeat' split
 all_goals simp[chg_len]
theorem fout_el (p:FP) (x:Int) (o:Oc):(fout p x o).ef.length≤o.ef.length:=by
 unfold fout;repeat' split
 all_goals simp[chg_len]
theorem ok_step {p:FP} (h:p.ok=true) (h1:1≤p.k) (h2:p.k≤3):0≤p.s∧p.s≤4000:=by
 unfold FP.ok at h
 rw[if_neg (by omega),if_pos h2] at h
 simp only[Bool.and_eq_true,inR,decide_eq_true_eq] at h
 exact h.2.1.2
theorem own_nil (w:World) (base e k:Nat) (hb:base≤w.heap.size):w.ownsRow base e k (.slice none 0 0) 0 []:=⟨by simp,.inl ⟨rfl,rfl⟩⟩
theorem results_c {P:Program} {fn:Func} {q:Tmp} {ty:TypeId} (h:fn.results=#[.cell q ty]) (tmps:Array Value) (w:World) (g:Nat) (t:TypeId) (cs:Array Value) (fr:Nat×Nat) (d:TypeDesc)
  (hp:tmps.getD q undef= .pointer (some ⟨g,0,none⟩)) (hg:w.heap[g]? =some (.cells cs t fr))
  (hu:P.underlying ty=some d) (hd:(match d with | .struct _ | .array _ _=>true | _=>false)=true) (hi:(P.info? ty).map (·.size)=some cs.size):
  (results fn tmps).run P w= .ok (.agg cs) w:=by
 have hp':tmps[q]?.getD undef= .pointer (some ⟨g,0,none⟩):=by simpa using hp
 simp[results,h,hp',asAddr,run_loadVar_row w g t ty cs fr d hg hu hd hi]
end Go.Fa
namespace Go.Proofs.YtipiofgdjbogiaaGreat
open Go.Txt Go.RowKit Go.Bs Go.Cl Go.Rw Go.Un Go.Im Go.Fa
theorem output_any (F:List Nat) (p:FP) (x:Int) (o:Oc) (iv ev:Value) (w:World) (hil:o.im.length≤24000) (hel:o.ef.length≤24000) (hI:Bytes F w iv o.im) (hE:Bytes F w ev o.ef):
  Calls Tryz.prog 45 #[.agg p.cs,.int .i64 x,.agg #[.int .i64 o.en,.int .i64 o.st,.int .i64 o.er,iv,ev]] w fun e w'=>∃iv' ev',e= .returned (.agg #[.int .i64 (fout p x o).en,.int .i64 (fout p x o).st,.int .i64 (fout p x o).er,iv',ev'])∧
   w'.ownsRow w.heap.size 5 1 iv' (fout p x o).im.length (bytesV (fout p x o).im)∧w'.ownsRow w.heap.size 5 1 ev' (fout p x o).ef.length (bytesV (fout p x o).ef)∧Below w.heap.size w w':=by
 have HV:=Hj (valid_any p)
 obtain ⟨pc,pn,pe,pk,ps,ppl,pm⟩:=p
 obtain ⟨en,st,er,im,ef⟩:=o
 obtain ⟨ia,ic,rfl⟩:=Rs hI
 obtain ⟨ea,ec,rfl⟩:=Rs hE
 have HI:=Hj hI;have HE:=Hj hE
 clear hI hE
 simp only[FP.cs] at HV⊢
 obtain ⟨u,hu⟩:∃u,u=((w.alloc (.cells #[.int .i64 pc,.int .i64 pn,.int .i64 pe,.int .i64 pk,.int .i64 ps,.int .i64 ppl,.int .i64 pm] 56)).alloc (.cells #[.int .i64 en,.int .i64 st,.int .i64 er,.slice ia im.length ic,.slice ea ef.length ec] 61)).alloc (.cells #[.int .i64 0,.int .i64 0,.int .i64 0,.slice none 0 0,.slice none 0 0] 61):=⟨_,rfl⟩
 have HU:=Hj hu
 have HB:Hid (Below w.heap.size w u):=Hj (by rw[hu];exact b3 _ _ _ _)
 have HPu:Hid (u.heap[w.heap.size]? =some (.cells #[.int .i64 pc,.int .i64 pn,.int .i64 pe,.int .i64 pk,.int .i64 ps,.int .i64 ppl,.int .i64 pm] 56 (0,0))):=Hj (by rw[hu];exact (((Br ((w.alloc _).alloc _).heap.size _).alloc (Nr _) _).block w.heap.size (by simp;omega)).trans (a2_0 w _ _))
 have HOu:Hid (u.heap[w.heap.size+1]? =some (.cells #[.int .i64 en,.int .i64 st,.int .i64 er,.slice ia im.length ic,.slice ea ef.length ec] 61 (0,0))):=Hj (by rw[hu];exact (((Br ((w.alloc _).alloc _).heap.size _).alloc (Nr _) _).block (w.heap.size+1) (by simp)).trans (a2_1 w _ _))
 have HRu:Hid (u.heap[w.heap.size+1+1]? =some (.cells #[.int .i64 0,.int .i64 0,.int .i64 0,.slice none 0 0,.slice none 0 0] 61 (0,0))):=Hj (by rw[hu];exact a3 _ _ _ _)
 have HIu:=Hj (Rb HI.out HB.out)
 have HEu:=Hj (Rb HE.out HB.out)
 have hus:u.heap.size=w.heap.size+3:=by rw[hu];simp
 clear hu
 go_enter Tryz.func45,Tryz.ntmps45
 go_upto_region 1 with (fail)
 rw[←HU.out]
 obtain ⟨P,hP⟩:∃P,P=w.heap.size:=⟨_,rfl⟩
 obtain ⟨O,hO⟩:∃O,O=w.heap.size+1:=⟨_,rfl⟩
 obtain ⟨R,hR⟩:∃R,R=w.heap.size+1+1:=⟨_,rfl⟩
 rw[←hR,←hO,←hP]
 rw[←hP] at HPu;rw[←hO] at HOu;rw[←hR] at HRu
 have HUe:Hid (u=((w.alloc (.cells #[.int .i64 pc,.int .i64 pn,.int .i64 pe,.int .i64 pk,.int .i64 ps,.int .i64 ppl,.int .i64 pm] 56)).alloc (.cells #[.int .i64 en,.int .i64 st,.int .i64 er,.slice ia im.length ic,.slice ea ef.length ec] 61)).alloc (.cells #[.int .i64 0,.int .i64 0,.int .i64 0,.slice none 0 0,.slice none 0 0] 61)):=HU
 have hPO:P<O:=by omega
 have hOR:O<R:=by omega
 have hRu:R<u.heap.size:=by omega
 have hwP:w.heap.size≤P:=by omega
 have hwu:w.heap.size≤u.heap.size:=by omega
 clear HU hP hO hR hus
 have o0:=Bj HOu.out 0 rfl
 have o1:=Bj HOu.out 1 rfl
 have o2:=Bj HOu.out 2 rfl
 have o3:=Bj HOu.out 3 rfl
 have o4:=Bj HOu.out 4 rfl
 have hBl:∀b∈[O],∃c e f,u.heap[b]? =some (.cells c e f):=fun q hq=>by rw[M1' hq];exact ⟨_,_,_,HOu.out⟩
 have HS0:=Hj (same_start hBl)
 have f3:=Bf HOu.out 3
 have f4:=Bf HOu.out 4
 refine Ty.wp_tree [O] [4] [7,9] [1,4] [0,1,3,4] (.alt [2,6] (.alt [5] (.alt [7,8] (.alt [9] (.done) (.no)) (.no)) (.no)) (.no)) (by kernel_rfl) (by kernel_rfl) (by kernel_rfl) (by kernel_rfl) hBl ?_
 clear hBl
 try simp only[pick,Gs,Gz]
 go_wp2
 refine Rm ?_
 refine Wq ?_
 try simp only[pick,Gs,Gz]
 go_wp2_with fail
 refine (clone33 _ (by omega) (Rb HIu.out (Br _ u).drew)).mono ?_
 rintro e w1 ⟨v1,rfl,hown1,hb1⟩
 obtain ⟨a1,c1,rfl⟩:=Oq hown1
 have HO1:Hid (w1.ownsRow u.heap.size 5 1 (.slice a1 im.length c1) im.length (bytesV im)):=Hj hown1;have HB1:Hid (Below u.heap.size u w1):=Hj ((Br u.heap.size u).drew.trans hb1)
 have HS1:=Hj (same_below' HS0.out hb1)
 clear hown1 hb1
 go_wp2
 refine Sm (Ss HS1.out) ?_
 try simp only[pick,Gs,Gz]
 go_wp2
 refine Rm ?_
 refine Wq ?_
 try simp only[pick,Gs,Gz]
 go_wp2_with fail
 refine (clone33 _ (by omega) (Rb HEu.out HB1.out)).mono ?_
 rintro e w2 ⟨v2,rfl,hown2,hb2⟩
 obtain ⟨a2,c2,rfl⟩:=Oq hown2
 have HS2:=Hj (same_below' HS1.out hb2)
 have hs1:=HB1.out.size;have hs2:=hb2.size
 have HB2:Hid (Below u.heap.size u w2):=Hj (HB1.out.trans (hb2.mono hs1))
 have HO2:Hid (w2.ownsRow u.heap.size 5 1 (.slice a2 ef.length c2) ef.length (bytesV ef)):=Hj (own_base hown2 hs1)
 have HO1b:Hid (w2.ownsRow u.heap.size 5 1 (.slice a1 im.length c1) im.length (bytesV im)):=Hj (own_below HO1.out hb2 (Nr _))
 clear hown2 hb2
 have HP2:=Hj ((HB2.out.block P (by omega)).trans HPu.out)
 have HOb2:=Hj ((HB2.out.block O (by omega)).trans HOu.out)
 have HR2:=Hj ((HB2.out.block R (by omega)).trans HRu.out)
 clear o0 o1 o2 o3 o4 f3 f4
 have g3:=Bf HOb2.out 3
 have g4:=Bf HOb2.out 4
 have o3:=Bj HOb2.out 3 rfl
 have o4:=Bj HOb2.out 4 rfl
 go_wp2
 refine Sm (Ss HS2.out) ?_
 try simp only[pick,Gs,Gz]
 go_wp2
 refine Rm ?_
 refine Wq ?_
 try simp only[pick,Gs,Gz]
 go_wp2
 refine Sm (Ty.Shown.last rfl) ?_
 try simp only[pick,Gs,Gz]
 go_wp2
 refine Rm ?_
 refine Wq ?_
 try simp only[pick,Gs,Gz]
 go_wp2
 refine Sm (Ty.Shown.last rfl) ?_
 try simp only[pick,Gs,Gz]
 go_wp2
 refine Rm ?_
 refine Wd (by rfl) ⟨.head _,trivial⟩ ?_
 go_upto_region 2 with (fail)
 obtain ⟨X,hX⟩:∃X,X=(w2.setCell ⟨O,3,none⟩ (.slice a1 im.length c1)).setCell ⟨O,4,none⟩ (.slice a2 ef.length c2):=⟨_,rfl⟩
 rw[←hX]
 obtain ⟨hXO,hXK⟩:=puts_at [(3,.slice a1 im.length c1),(4,.slice a2 ef.length c2)] HOb2.out
 have eX:puts w2 O [(3,.slice a1 im.length c1),(4,.slice a2 ef.length c2)]=X:=hX.symm
 have hXz:=puts_size [(3,.slice a1 im.length c1),(4,.slice a2 ef.length c2)] w2 O
 rw[eX] at hXO hXK hXz
 have hs2u:=HB2.out.size
 have HXO:Hid (X.heap[O]? =some (.cells #[.int .i64 en,.int .i64 st,.int .i64 er,.slice a1 im.length c1,.slice a2 ef.length c2] 61 (0,0))):=Hj hXO
 have HXP:=Hj ((hXK.block P (by omega) (by simp;omega)).trans HP2.out)
 have HXR:=Hj ((hXK.block R (by omega) (by simp;omega)).trans HR2.out)
 have lt1:=HO1b.out.lt;have lt2:=HO2.out.lt
 have HX1:Hid (X.ownsRow u.heap.size 5 1 (.slice a1 im.length c1) im.length (bytesV im)):=Hj (own_keep HO1b.out hXK (fun r hr hm=>by have:=(lt1 r hr).1;rw[List.mem_singleton] at hm;omega))
 have HX2:Hid (X.ownsRow u.heap.size 5 1 (.slice a2 ef.length c2) ef.length (bytesV ef)):=Hj (own_keep HO2.out hXK (fun r hr hm=>by have:=(lt2 r hr).1;rw[List.mem_singleton] at hm;omega))
 have HXB:Hid (Below w.heap.size w X):=Hj ((HB.out.trans (HB2.out.mono HB.out.size)).trans (hXK.below (HB.out.trans (HB2.out.mono HB.out.size)).size (G1 (by omega))))
 have hXu:u.heap.size≤X.heap.size:=by omega
 clear hX eX hXO hXK hXz g3 g4 o3 o4 lt1 lt2
 clear HP2 HOb2 HR2 HO1b HO2 HS2 HB2 HS1 HB1 HO1 HS0
 have p0:=Bj HXP.out 0 rfl
 have p1:=Bj HXP.out 1 rfl
 have p2:=Bj HXP.out 2 rfl
 have p3:=Bj HXP.out 3 rfl
 have p4:=Bj HXP.out 4 rfl
 have p5:=Bj HXP.out 5 rfl
 have p6:=Bj HXP.out 6 rfl
 go_wp2_with fail
 refine (HV.out _).mono ?_
 rintro e w3 ⟨rfl,hb3⟩
 have h3z:=hb3.size
 have HO3:=Hj ((hb3.block O (by omega)).trans HXO.out)
 have HP3:=Hj ((hb3.block P (by omega)).trans HXP.out)
 have HR3:=Hj ((hb3.block R (by omega)).trans HXR.out)
 have HI3:=Hj (own_below HX1.out hb3 (Nr _))
 have HE3:=Hj (own_below HX2.out hb3 (Nr _))
 have HB3:=Hj (HXB.out.trans (hb3.mono HXB.out.size))
 have h3u:u.heap.size≤w3.heap.size:=by omega
 clear hb3 p0 p1 p2 p3 p4 p5 p6
 clear HXO HXP HXR HX1 HX2 HXB
 have p0:=Bj HP3.out 0 rfl
 have p1:=Bj HP3.out 1 rfl
 have p2:=Bj HP3.out 2 rfl
 have p3:=Bj HP3.out 3 rfl
 have p4:=Bj HP3.out 4 rfl
 have p5:=Bj HP3.out 5 rfl
 have p6:=Bj HP3.out 6 rfl
 have o0:=Bj HO3.out 0 rfl
 have o1:=Bj HO3.out 1 rfl
 have o2:=Bj HO3.out 2 rfl
 have o3:=Bj HO3.out 3 rfl
 have o4:=Bj HO3.out 4 rfl
 have r0:=Bj HR3.out 0 rfl
 have r1:=Bj HR3.out 1 rfl
 have r2:=Bj HR3.out 2 rfl
 have r3:=Bj HR3.out 3 rfl
 have r4:=Bj HR3.out 4 rfl
 have f0:=Bf HR3.out 0
 have f1:=Bf HR3.out 1
 have f2:=Bf HR3.out 2
 have f3:=Bf HR3.out 3
 have f4:=Bf HR3.out 4
 cases hv:FP.ok ⟨pc,pn,pe,pk,ps,ppl,pm⟩
 ·have Hv:=Hj hv
  clear hv
  go_wp2
  obtain ⟨hR,hK⟩:=puts_at [(0,.int .i64 (en)),(1,.int .i64 (st)),(2,.int .i64 (er)),(3,(.slice a1 im.length c1)),(4,(.slice a2 ef.length c2))] HR3.out
  refine bodyPost_ret (results_c rfl _ _ _ _ _ _ _ rfl hR Tryz.underlying61 rfl (by kernel_rfl)) rfl ?_
  have hbel:=HB3.out.trans (hK.below HB3.out.size (G1 (by omega)))
  rw[show fout _ _ ⟨en,st,er,im,ef⟩=⟨en,st,er,im,ef⟩ from if_pos (.inl Hv.out)]
  refine ⟨_,_,rfl, ?_, ?_, ?_⟩
  ·exact own_base (own_keep HI3.out hK (Ow HI3.out (by omega))) hwu
  ·exact own_base (own_keep HE3.out hK (Ow HE3.out (by omega))) hwu
  exact hbel
 have Hv:=Hj hv
 clear hv
 by_cases hx:pe=x
 ·subst hx
  go_upto_region 4 with (fail)
  obtain ⟨fb,hfb⟩:∃fb,fb=Oc.fine ⟨en,st,er,im,ef⟩:=⟨_,rfl⟩
  have Hfb:=Hj hfb
  clear hfb
  go_cut [7] from 25 to 33 (fun s wx=>s= .bool fb∧wx=w3)
  case first=>
   by_cases hen:en=0
   ·by_cases her:er=0
    ·subst hen her
     go_wp2
     go_meet
     case rel=>exact ⟨by rw[Hfb.out];simp[Oc.fine],rfl⟩
    subst hen
    go_wp2
    go_meet
    case rel=>exact ⟨by rw[Hfb.out];simp[Oc.fine,her],rfl⟩
   go_wp2
   go_meet
   case rel=>exact ⟨by rw[Hfb.out];simp[Oc.fine,hen],rfl⟩
  case rest=>
   obtain ⟨rfl,hw⟩:=hcut
   rw[hw]
   clear hw wc
   by_cases h1:1≤pk∧pk≤3∧ps<st
   ·obtain ⟨k1,k3,ks⟩:=h1
    obtain ⟨hs0,hs1⟩:=ok_step Hv.out k1 k3
    simp only at hs0 hs1
    by_cases q1:pk=1
    ·subst q1
     go_wp2
     obtain ⟨hR,hK⟩:=puts_at [(0,.int .i64 (1)),(1,.int .i64 (ps+1)),(2,.int .i64 (0)),(3,(.slice none 0 0)),(4,(.slice none 0 0))] HR3.out
     refine bodyPost_ret (results_c rfl _ _ _ _ _ _ _ rfl hR Tryz.underlying61 rfl (by kernel_rfl)) rfl ?_
     have hbel:=HB3.out.trans (hK.below HB3.out.size (G1 (by omega)))
     rw[show fout _ _ ⟨en,st,er,im,ef⟩=⟨1,ps+1,0,[],[]⟩ from by unfold fout;rw[if_neg (by simp[Hv.out]),if_pos (by simp;omega),if_pos rfl]]
     refine ⟨_,_,rfl, ?_, ?_, ?_⟩
     ·exact own_nil _ _ _ _ hbel.size
     ·exact own_nil _ _ _ _ hbel.size
     exact hbel
    by_cases q3:pk=3
    ·subst q3
     go_wp2
     obtain ⟨hR,hK⟩:=puts_at [(0,.int .i64 (3)),(1,.int .i64 (ps+1)),(2,.int .i64 (0)),(3,(.slice none 0 0)),(4,(.slice none 0 0))] HR3.out
     refine bodyPost_ret (results_c rfl _ _ _ _ _ _ _ rfl hR Tryz.underlying61 rfl (by kernel_rfl)) rfl ?_
     have hbel:=HB3.out.trans (hK.below HB3.out.size (G1 (by omega)))
     rw[show fout _ _ ⟨en,st,er,im,ef⟩=⟨3,ps+1,0,[],[]⟩ from by unfold fout;rw[if_neg (by simp[Hv.out]),if_pos (by simp;omega),if_neg (by simp),if_pos rfl]]
     refine ⟨_,_,rfl, ?_, ?_, ?_⟩
     ·exact own_nil _ _ _ _ hbel.size
     ·exact own_nil _ _ _ _ hbel.size
     exact hbel
    have q2:pk=2:=by omega
    subst q2
    go_wp2
    obtain ⟨hR,hK⟩:=puts_at [(0,.int .i64 (2)),(1,.int .i64 (4000)),(2,.int .i64 (0)),(3,(.slice none 0 0)),(4,(.slice none 0 0))] HR3.out
    refine bodyPost_ret (results_c rfl _ _ _ _ _ _ _ rfl hR Tryz.underlying61 rfl (by kernel_rfl)) rfl ?_
    have hbel:=HB3.out.trans (hK.below HB3.out.size (G1 (by omega)))
    rw[show fout _ _ ⟨en,st,er,im,ef⟩=⟨2,4000,0,[],[]⟩ from by unfold fout;rw[if_neg (by simp[Hv.out]),if_pos (by simp;omega),if_neg (by simp),if_neg (by simp)]]
    refine ⟨_,_,rfl, ?_, ?_, ?_⟩
    ·exact own_nil _ _ _ _ hbel.size
    ·exact own_nil _ _ _ _ hbel.size
    exact hbel
   by_cases q6:pk=6
   ·subst q6
    clear h1
    cases fb
    ·have hf:Oc.fine ⟨en,st,er,im,ef⟩=false:=Hfb.out.symm
     go_wp2
     obtain ⟨hR,hK⟩:=puts_at [(0,.int .i64 (en)),(1,.int .i64 (st)),(2,.int .i64 (er)),(3,(.slice a1 im.length c1)),(4,(.slice a2 ef.length c2))] HR3.out
     refine bodyPost_ret (results_c rfl _ _ _ _ _ _ _ rfl hR Tryz.underlying61 rfl (by kernel_rfl)) rfl ?_
     have hbel:=HB3.out.trans (hK.below HB3.out.size (G1 (by omega)))
     rw[show fout _ _ ⟨en,st,er,im,ef⟩=⟨en,st,er,im,ef⟩ from by unfold fout;rw[if_neg (by simp[Hv.out]),if_neg (by simp),if_neg (by simp[hf]),if_neg (by simp)]]
     refine ⟨_,_,rfl, ?_, ?_, ?_⟩
     ·exact own_base (own_keep HI3.out hK (Ow HI3.out (by omega))) hwu
     ·exact own_base (own_keep HE3.out hK (Ow HE3.out (by omega))) hwu
     exact hbel
    have hf:Oc.fine ⟨en,st,er,im,ef⟩=true:=Hfb.out.symm
    go_wp2_with fail
    refine (change_any [] _ im ppl pm w3 (by omega) (Bytes.row HI3.out rfl (fun f hf=>by cases hf))).mono ?_
    rintro e w4 ⟨v4,rfl,hown4,hb4⟩
    obtain ⟨a4,c4,rfl⟩:=Oq hown4
    have h4z:=hb4.size
    have hown4':w4.ownsRow u.heap.size 5 1 (.slice a4 im.length c4) im.length (bytesV (chg im ppl pm)):=own_base hown4 h3u
    have HOb4:=Hj ((hb4.block O (by omega)).trans HO3.out)
    have HR4:=Hj ((hb4.block R (by omega)).trans HR3.out)
    have HOt4:=Hj (own_below HE3.out hb4 (Nr _))
    have HB4:=Hj (HB3.out.trans (hb4.mono HB3.out.size))
    have HN4:=Hj hown4'
    clear hb4 hown4 hown4' p0 p1 p2 p3 p4 p5 p6 o0 o1 o2 o3 o4 r0 r1 r2 r3 r4 f0 f1 f2 f3 f4
    have o3:=Bj HOb4.out 3 rfl
    have g3:=Bf HOb4.out 3
    go_upto_region 16 with (fail)
    obtain ⟨X,hX⟩:∃X,X=w4.setCell ⟨O,3,none⟩ (.slice a4 im.length c4):=⟨_,rfl⟩
    rw[←hX]
    obtain ⟨hXO,hXK⟩:=puts_at [(3,.slice a4 im.length c4)] HOb4.out
    have eX:puts w4 O [(3,.slice a4 im.length c4)]=X:=hX.symm
    have hXz:=puts_size [(3,.slice a4 im.length c4)] w4 O
    rw[eX] at hXO hXK hXz
    have HXO:Hid (X.heap[O]? =some (.cells #[.int .i64 en,.int .i64 st,.int .i64 er,.slice a4 im.length c4,.slice a2 ef.length c2] 61 (0,0))):=Hj hXO
    have HXR:=Hj ((hXK.block R (by omega) (by simp;omega)).trans HR4.out)
    have HC4:=Hj (own_keep HN4.out hXK (Ow HN4.out (by omega)))
    have HD4:=Hj (own_keep HOt4.out hXK (Ow HOt4.out (by omega)))
    have HXB:Hid (Below w.heap.size w X):=Hj (HB4.out.trans (hXK.below HB4.out.size (G1 (by omega))))
    have hXu:u.heap.size≤X.heap.size:=by omega
    clear hX eX hXO hXK hXz o3 g3 HOb4 HR4 HOt4 HB4 HN4
    have o0:=Bj HXO.out 0 rfl
    have o1:=Bj HXO.out 1 rfl
    have o2:=Bj HXO.out 2 rfl
    have o3:=Bj HXO.out 3 rfl
    have o4:=Bj HXO.out 4 rfl
    have r0:=Bj HXR.out 0 rfl
    have r1:=Bj HXR.out 1 rfl
    have r2:=Bj HXR.out 2 rfl
    have r3:=Bj HXR.out 3 rfl
    have r4:=Bj HXR.out 4 rfl
    have f0:=Bf HXR.out 0
    have f1:=Bf HXR.out 1
    have f2:=Bf HXR.out 2
    have f3:=Bf HXR.out 3
    have f4:=Bf HXR.out 4
    go_wp2
    obtain ⟨hR,hK⟩:=puts_at [(0,.int .i64 (en)),(1,.int .i64 (st)),(2,.int .i64 (er)),(3,(.slice a4 im.length c4)),(4,(.slice a2 ef.length c2))] HXR.out
    refine bodyPost_ret (results_c rfl _ _ _ _ _ _ _ rfl hR Tryz.underlying61 rfl (by kernel_rfl)) rfl ?_
    have hbel:=HXB.out.trans (hK.below HXB.out.size (G1 (by omega)))
    rw[show fout _ _ ⟨en,st,er,im,ef⟩=⟨en,st,er,chg im ppl pm,ef⟩ from by unfold fout;rw[if_neg (by simp[Hv.out]),if_neg (by simp),if_pos ⟨rfl,hf⟩]]
    refine ⟨_,_,rfl, ?_, ?_, ?_⟩
    ·have hq:=own_base (own_keep HC4.out hK (Ow HC4.out (by omega))) hwu
     simp only[chg_len]
     exact hq
    ·exact own_base (own_keep HD4.out hK (Ow HD4.out (by omega))) hwu
    exact hbel
   by_cases q7:pk=7
   ·subst q7
    clear h1
    cases fb
    ·have hf:Oc.fine ⟨en,st,er,im,ef⟩=false:=Hfb.out.symm
     go_wp2
     obtain ⟨hR,hK⟩:=puts_at [(0,.int .i64 (en)),(1,.int .i64 (st)),(2,.int .i64 (er)),(3,(.slice a1 im.length c1)),(4,(.slice a2 ef.length c2))] HR3.out
     refine bodyPost_ret (results_c rfl _ _ _ _ _ _ _ rfl hR Tryz.underlying61 rfl (by kernel_rfl)) rfl ?_
     have hbel:=HB3.out.trans (hK.below HB3.out.size (G1 (by omega)))
     rw[show fout _ _ ⟨en,st,er,im,ef⟩=⟨en,st,er,im,ef⟩ from by unfold fout;rw[if_neg (by simp[Hv.out]),if_neg (by simp),if_neg (by simp),if_neg (by simp[hf])]]
     refine ⟨_,_,rfl, ?_, ?_, ?_⟩
     ·exact own_base (own_keep HI3.out hK (Ow HI3.out (by omega))) hwu
     ·exact own_base (own_keep HE3.out hK (Ow HE3.out (by omega))) hwu
     exact hbel
    have hf:Oc.fine ⟨en,st,er,im,ef⟩=true:=Hfb.out.symm
    go_wp2_with fail
    refine (change_any [] _ ef ppl pm w3 (by omega) (Bytes.row HE3.out rfl (fun f hf=>by cases hf))).mono ?_
    rintro e w4 ⟨v4,rfl,hown4,hb4⟩
    obtain ⟨a4,c4,rfl⟩:=Oq hown4
    have h4z:=hb4.size
    have hown4':w4.ownsRow u.heap.size 5 1 (.slice a4 ef.length c4) ef.length (bytesV (chg ef ppl pm)):=own_base hown4 h3u
    have HOb4:=Hj ((hb4.block O (by omega)).trans HO3.out)
    have HR4:=Hj ((hb4.block R (by omega)).trans HR3.out)
    have HOt4:=Hj (own_below HI3.out hb4 (Nr _))
    have HB4:=Hj (HB3.out.trans (hb4.mono HB3.out.size))
    have HN4:=Hj hown4'
    clear hb4 hown4 hown4' p0 p1 p2 p3 p4 p5 p6 o0 o1 o2 o3 o4 r0 r1 r2 r3 r4 f0 f1 f2 f3 f4
    have o4:=Bj HOb4.out 4 rfl
    have g4:=Bf HOb4.out 4
    go_upto_region 16 with (fail)
    obtain ⟨X,hX⟩:∃X,X=w4.setCell ⟨O,4,none⟩ (.slice a4 ef.length c4):=⟨_,rfl⟩
    rw[←hX]
    obtain ⟨hXO,hXK⟩:=puts_at [(4,.slice a4 ef.length c4)] HOb4.out
    have eX:puts w4 O [(4,.slice a4 ef.length c4)]=X:=hX.symm
    have hXz:=puts_size [(4,.slice a4 ef.length c4)] w4 O
    rw[eX] at hXO hXK hXz
    have HXO:Hid (X.heap[O]? =some (.cells #[.int .i64 en,.int .i64 st,.int .i64 er,.slice a1 im.length c1,.slice a4 ef.length c4] 61 (0,0))):=Hj hXO
    have HXR:=Hj ((hXK.block R (by omega) (by simp;omega)).trans HR4.out)
    have HC4:=Hj (own_keep HOt4.out hXK (Ow HOt4.out (by omega)))
    have HD4:=Hj (own_keep HN4.out hXK (Ow HN4.out (by omega)))
    have HXB:Hid (Below w.heap.size w X):=Hj (HB4.out.trans (hXK.below HB4.out.size (G1 (by omega))))
    have hXu:u.heap.size≤X.heap.size:=by omega
    clear hX eX hXO hXK hXz o4 g4 HOb4 HR4 HOt4 HB4 HN4
    have o0:=Bj HXO.out 0 rfl
    have o1:=Bj HXO.out 1 rfl
    have o2:=Bj HXO.out 2 rfl
    have o3:=Bj HXO.out 3 rfl
    have o4:=Bj HXO.out 4 rfl
    have r0:=Bj HXR.out 0 rfl
    have r1:=Bj HXR.out 1 rfl
    have r2:=Bj HXR.out 2 rfl
    have r3:=Bj HXR.out 3 rfl
    have r4:=Bj HXR.out 4 rfl
    have f0:=Bf HXR.out 0
    have f1:=Bf HXR.out 1
    have f2:=Bf HXR.out 2
    have f3:=Bf HXR.out 3
    have f4:=Bf HXR.out 4
    go_wp2
    obtain ⟨hR,hK⟩:=puts_at [(0,.int .i64 (en)),(1,.int .i64 (st)),(2,.int .i64 (er)),(3,(.slice a1 im.length c1)),(4,(.slice a4 ef.length c4))] HXR.out
    refine bodyPost_ret (results_c rfl _ _ _ _ _ _ _ rfl hR Tryz.underlying61 rfl (by kernel_rfl)) rfl ?_
    have hbel:=HXB.out.trans (hK.below HXB.out.size (G1 (by omega)))
    rw[show fout _ _ ⟨en,st,er,im,ef⟩=⟨en,st,er,im,chg ef ppl pm⟩ from by unfold fout;rw[if_neg (by simp[Hv.out]),if_neg (by simp),if_neg (by simp),if_pos ⟨rfl,hf⟩]]
    refine ⟨_,_,rfl, ?_, ?_, ?_⟩
    ·exact own_base (own_keep HC4.out hK (Ow HC4.out (by omega))) hwu
    ·have hq:=own_base (own_keep HD4.out hK (Ow HD4.out (by omega))) hwu
     simp only[chg_len]
     exact hq
    exact hbel
   have q6b:(pk==6)=false:=by simpa using q6
   have q7b:(pk==7)=false:=by simpa using q7
   rcases (by omega:pk<1∨(1≤pk∧3<pk)∨(1≤pk∧pk≤3∧st≤ps)) with h | ⟨h,h'⟩ | ⟨h,h',h''⟩
   ·clear h1
    go_wp2
    all_goals
     obtain ⟨hR,hK⟩:=puts_at [(0,.int .i64 (en)),(1,.int .i64 (st)),(2,.int .i64 (er)),(3,(.slice a1 im.length c1)),(4,(.slice a2 ef.length c2))] HR3.out
     refine bodyPost_ret (results_c rfl _ _ _ _ _ _ _ rfl hR Tryz.underlying61 rfl (by kernel_rfl)) rfl ?_
     have hbel:=HB3.out.trans (hK.below HB3.out.size (G1 (by omega)))
     rw[show fout _ _ ⟨en,st,er,im,ef⟩=⟨en,st,er,im,ef⟩ from by unfold fout;rw[if_neg (by simp[Hv.out]),if_neg (by simp;omega),if_neg (by simp;omega),if_neg (by simp;omega)]]
     refine ⟨_,_,rfl, ?_, ?_, ?_⟩
     ·exact own_base (own_keep HI3.out hK (Ow HI3.out (by omega))) hwu
     ·exact own_base (own_keep HE3.out hK (Ow HE3.out (by omega))) hwu
     exact hbel
   ·clear h1
    go_wp2
    all_goals
     obtain ⟨hR,hK⟩:=puts_at [(0,.int .i64 (en)),(1,.int .i64 (st)),(2,.int .i64 (er)),(3,(.slice a1 im.length c1)),(4,(.slice a2 ef.length c2))] HR3.out
     refine bodyPost_ret (results_c rfl _ _ _ _ _ _ _ rfl hR Tryz.underlying61 rfl (by kernel_rfl)) rfl ?_
     have hbel:=HB3.out.trans (hK.below HB3.out.size (G1 (by omega)))
     rw[show fout _ _ ⟨en,st,er,im,ef⟩=⟨en,st,er,im,ef⟩ from by unfold fout;rw[if_neg (by simp[Hv.out]),if_neg (by simp;omega),if_neg (by simp;omega),if_neg (by simp;omega)]]
     refine ⟨_,_,rfl, ?_, ?_, ?_⟩
     ·exact own_base (own_keep HI3.out hK (Ow HI3.out (by omega))) hwu
     ·exact own_base (own_keep HE3.out hK (Ow HE3.out (by omega))) hwu
     exact hbel
   clear h1
   go_wp2
   all_goals
    obtain ⟨hR,hK⟩:=puts_at [(0,.int .i64 (en)),(1,.int .i64 (st)),(2,.int .i64 (er)),(3,(.slice a1 im.length c1)),(4,(.slice a2 ef.length c2))] HR3.out
    refine bodyPost_ret (results_c rfl _ _ _ _ _ _ _ rfl hR Tryz.underlying61 rfl (by kernel_rfl)) rfl ?_
    have hbel:=HB3.out.trans (hK.below HB3.out.size (G1 (by omega)))
    rw[show fout _ _ ⟨en,st,er,im,ef⟩=⟨en,st,er,im,ef⟩ from by unfold fout;rw[if_neg (by simp[Hv.out]),if_neg (by simp;omega),if_neg (by simp;omega),if_neg (by simp;omega)]]
    refine ⟨_,_,rfl, ?_, ?_, ?_⟩
    ·exact own_base (own_keep HI3.out hK (Ow HI3.out (by omega))) hwu
    ·exact own_base (own_keep HE3.out hK (Ow HE3.out (by omega))) hwu
    exact hbel
 have Hx:=Hj hx
 go_wp2
 obtain ⟨hR,hK⟩:=puts_at [(0,.int .i64 (en)),(1,.int .i64 (st)),(2,.int .i64 (er)),(3,(.slice a1 im.length c1)),(4,(.slice a2 ef.length c2))] HR3.out
 refine bodyPost_ret (results_c rfl _ _ _ _ _ _ _ rfl hR Tryz.underlying61 rfl (by kernel_rfl)) rfl ?_
 have hbel:=HB3.out.trans (hK.below HB3.out.size (G1 (by omega)))
 rw[show fout _ _ ⟨en,st,er,im,ef⟩=⟨en,st,er,im,ef⟩ from if_pos (.inr Hx.out)]
 refine ⟨_,_,rfl, ?_, ?_, ?_⟩
 ·exact own_base (own_keep HI3.out hK (Ow HI3.out (by omega))) hwu
 ·exact own_base (own_keep HE3.out hK (Ow HE3.out (by omega))) hwu
 exact hbel
end Go.Proofs.YtipiofgdjbogiaaGreat
namespace Go.Fa
open Go Go.Txt Go.RowKit Go.Bs Go.Cl Go.Rw
def acnt (n:Int):Int:=if n≤0 then 0 else (n - 1) / 128+1
def cost (n m k:Int):Int:=acnt n+acnt m+2+(if k≤0 then 0 else k)
theorem acnt_lo (n:Int):0≤acnt n:=by unfold acnt;split <;> omega
theorem acnt_hi (n:Int) (h:n≤9223372036854775807):acnt n≤72057594037927936:=by unfold acnt;split <;> omega
def Oc.bad (o:Oc):Bool:=decide (o.en=1) || (decide (o.en=0)&& !decide (o.er=0))
def Oc.late (o:Oc):Bool:=decide (o.en=2) || (decide (o.en=0)&&decide (4000<o.st))
def Oc.touch (o:Oc):Bool:=decide (o.en=3)
def judge (a b:Oc) (p:Bool):Int:=
 if (a.bad || b.bad)=true then 1 else if (a.late || b.late)=true then 2 else if (a.touch || b.touch)=true then 3 else if p=false then 4 else if a.im=b.im∧a.ef=b.ef then 0 else 5
def jst (a b:Oc):Int:=wrap64 (wrap64 (a.st+b.st)+1)
theorem str_eq {a b:List UInt8} (h:a=b):((strOf a).toList==(strOf b).toList)=true:=by subst h;simp
theorem str_ne {a b:List UInt8} (h:¬a=b):((strOf a).toList==(strOf b).toList)=false:=by
 rw[beq_eq_false_iff_ne,ByteArray.toList_eq,ByteArray.toList_eq]
 intro e
 exact h (by simpa[strOf] using e)
end Go.Fa
namespace Go.Proofs.YtipiofgdjbogiaaGreat
open Go.Txt Go.RowKit Go.Bs Go.Cl Go.Rw Go.Un Go.Im Go.Fa
theorem acount_any (n:Int) (h1: -9223372036854775808≤n) (h2:n≤9223372036854775807) (w:World):Calls Tryz.prog 100 #[.int .i64 n] w fun e w'=>e= .returned (.int .i64 (acnt n))∧w=w':=by
 by_cases h:n≤0
 ·go_enter Tryz.func100,Tryz.ntmps100
  go_wp2
  go_ret
  exact ⟨ret_int (by unfold acnt;rw[if_pos h]),rfl⟩
 have h3:0≤n - 1:=by omega
 go_enter Tryz.func100,Tryz.ntmps100
 go_wp2
 go_ret
 exact ⟨ret_int (by unfold acnt;rw[if_neg (by omega)]),rfl⟩
theorem acost_any (n m k:Int) (h1: -9223372036854775808≤n) (h2:n≤9223372036854775807) (h3: -9223372036854775808≤m) (h4:m≤9223372036854775807) (h5:k≤1099511627776) (w:World):
  Calls Tryz.prog 66 #[.int .i64 n,.int .i64 m,.int .i64 k] w fun e w'=>e= .returned (.int .i64 (cost n m k))∧w=w':=by
 go_enter Tryz.func66,Tryz.ntmps66
 go_wp2_with fail
 refine (acount_any n h1 h2 _).mono ?_
 rintro e w1 ⟨rfl,rfl⟩
 go_wp2_with fail
 refine (acount_any m h3 h4 _).mono ?_
 rintro e w1 ⟨rfl,rfl⟩
 have a1:=acnt_lo n
 have a2:=acnt_lo m
 have a3:=acnt_hi n h2
 have a4:=acnt_hi m h4
 have hc:cost n m k=acnt n+acnt m+2+(if k≤0 then 0 else k):=rfl
 generalize acnt n=x at a1 a3 hc
 generalize acnt m=y at a2 a4 hc
 have HC:=Hj hc
 clear hc
 by_cases hk:k≤0
 ·have hk0:max 0 k=0:=by omega
  go_wp2
  go_ret
  exact ⟨ret_int (by rw[HC.out,if_pos hk];try omega),rfl⟩
 have hk0:max 0 k=k:=by omega
 go_wp2
 go_ret
 exact ⟨ret_int (by rw[HC.out,if_neg (by omega)];try omega),rfl⟩
theorem bequal_any (F:List Nat) (a b:List UInt8) (v1 v2:Value) (w:World) (h1:Bytes F w v1 a) (h2:Bytes F w v2 b):Calls Tryz.prog 106 #[v1,v2] w fun e w'=>e= .returned (.bool (decide (a=b)))∧w=w':=by
 obtain ⟨a1,c1,rfl⟩:=Rs h1
 obtain ⟨a2,c2,rfl⟩:=Rs h2
 have s1:=run_str (P:=Tryz.prog) h1 22 5 9 Tryz.underlying22 Tryz.underlying5 Tryz.underlying9
 have s2:=run_str (P:=Tryz.prog) h2 22 5 9 Tryz.underlying22 Tryz.underlying5 Tryz.underlying9
 by_cases h:a=b
 ·subst h
  have he:=str_eq (rfl:a=a)
  go_enter Tryz.func106,Tryz.ntmps106
  go_wp2
  go_ret
  exact ⟨ret_bool (by simp),rfl⟩
 have he:=str_ne h
 go_enter Tryz.func106,Tryz.ntmps106
 go_wp2
 go_ret
 exact ⟨ret_bool (by rw[decide_eq_false h];try exact he),rfl⟩
theorem bad_any (o:Oc) (iv ev:Value) (w:World):Calls Tryz.prog 103 #[.agg #[.int .i64 o.en,.int .i64 o.st,.int .i64 o.er,iv,ev]] w fun e w'=>e= .returned (.bool (o.bad))∧Below w.heap.size w w':=by
 obtain ⟨en,st,er,im,ef⟩:=o
 simp only
 by_cases h1:en=1
 ·subst h1
  go_enter Tryz.func103,Tryz.ntmps103
  go_wp2
  go_ret
  exact ⟨ret_bool (by simp[Oc.bad]),(Br _ w).alloc (Nr _) _⟩
 by_cases h0:en=0
 ·subst h0
  by_cases hr:er=0
  ·subst hr
   go_enter Tryz.func103,Tryz.ntmps103
   go_wp2
   go_ret
   exact ⟨ret_bool (by simp[Oc.bad]),(Br _ w).alloc (Nr _) _⟩
  have hb:(er != 0)=true:=by simpa using hr
  go_enter Tryz.func103,Tryz.ntmps103
  go_wp2
  go_ret
  exact ⟨ret_bool (by simp[Oc.bad,hr]),(Br _ w).alloc (Nr _) _⟩
 have e0:(en==0)=false:=by simpa using h0
 have e1:(en==1)=false:=by simpa using h1
 go_enter Tryz.func103,Tryz.ntmps103
 go_wp2
 go_ret
 exact ⟨ret_bool (by simp[Oc.bad,h0,h1]),(Br _ w).alloc (Nr _) _⟩
theorem late_any (o:Oc) (iv ev:Value) (w:World):Calls Tryz.prog 104 #[.agg #[.int .i64 o.en,.int .i64 o.st,.int .i64 o.er,iv,ev]] w fun e w'=>e= .returned (.bool (o.late))∧Below w.heap.size w w':=by
 obtain ⟨en,st,er,im,ef⟩:=o
 simp only
 by_cases h1:en=2
 ·subst h1
  go_enter Tryz.func104,Tryz.ntmps104
  go_wp2
  go_ret
  exact ⟨ret_bool (by simp[Oc.late]),(Br _ w).alloc (Nr _) _⟩
 by_cases h0:en=0
 ·subst h0
  by_cases hr:4000<st
  ·go_enter Tryz.func104,Tryz.ntmps104
   go_wp2
   go_ret
   exact ⟨ret_bool (by simp[Oc.late,hr]),(Br _ w).alloc (Nr _) _⟩
  go_enter Tryz.func104,Tryz.ntmps104
  go_wp2
  go_ret
  exact ⟨ret_bool (by simp[Oc.late];omega),(Br _ w).alloc (Nr _) _⟩
 have e0:(en==0)=false:=by simpa using h0
 have e1:(en==2)=false:=by simpa using h1
 go_enter Tryz.func104,Tryz.ntmps104
 go_wp2
 go_ret
 exact ⟨ret_bool (by simp[Oc.late,h0,h1]),(Br _ w).alloc (Nr _) _⟩
theorem touch_any (o:Oc) (iv ev:Value) (w:World):Calls Tryz.prog 105 #[.agg #[.int .i64 o.en,.int .i64 o.st,.int .i64 o.er,iv,ev]] w fun e w'=>e= .returned (.bool (o.touch))∧Below w.heap.size w w':=by
 obtain ⟨en,st,er,im,ef⟩:=o
 simp only
 by_cases h1:en=3
 ·subst h1
  go_enter Tryz.func105,Tryz.ntmps105
  go_wp2
  go_ret
  exact ⟨ret_bool (by simp[Oc.touch]),(Br _ w).alloc (Nr _) _⟩
 have e1:(en==3)=false:=by simpa using h1
 go_enter Tryz.func105,Tryz.ntmps105
 go_wp2
 go_ret
 exact ⟨ret_bool (by simp[Oc.touch,h1]),(Br _ w).alloc (Nr _) _⟩
theorem one_bad (A B:Nat) (a b:Oc) (i1 e1 i2 e2:Value) (w:World) (hA:w.heap[A]? =some (.cells #[.int .i64 a.en,.int .i64 a.st,.int .i64 a.er,i1,e1] 61 (0,0))) (hB:w.heap[B]? =some (.cells #[.int .i64 b.en,.int .i64 b.st,.int .i64 b.er,i2,e2] 61 (0,0))):
  Calls Tryz.prog 102 #[.func (.func 103) #[] #[],.pointer (some ⟨A,0,none⟩),.pointer (some ⟨B,0,none⟩)] w fun e w'=>e= .returned (.bool (a.bad || b.bad))∧Below w.heap.size w w':=by
 have hAl:A<w.heap.size:=(Al hA)
 have hBl:B<w.heap.size:=(Al hB)
 have HB:=Hj hB
 have a0:=Bj hA 0 rfl
 have a1:=Bj hA 1 rfl
 have a2:=Bj hA 2 rfl
 have a3:=Bj hA 3 rfl
 have a4:=Bj hA 4 rfl
 clear hA hB
 go_enter Tryz.func102,Tryz.ntmps102
 go_wp2_with fail
 refine (bad_any a i1 e1 _).mono ?_
 rintro e w1 ⟨rfl,hb1⟩
 have HB1:=Hj hb1
 have hbb:=(hb1.block B hBl).trans HB.out
 clear hb1 a0 a1 a2 a3 a4
 have b0:=Bj hbb 0 rfl
 have b1:=Bj hbb 1 rfl
 have b2:=Bj hbb 2 rfl
 have b3:=Bj hbb 3 rfl
 have b4:=Bj hbb 4 rfl
 clear hbb
 cases hga:a.bad
 ·go_wp2_with fail
  refine (bad_any b i2 e2 _).mono ?_
  rintro e w2 ⟨rfl,hb2⟩
  have HB2:=Hj (HB1.out.trans (hb2.mono HB1.out.size))
  clear hb2
  go_wp2
  go_ret
  exact ⟨ret_bool (by simp[hga]),HB2.out⟩
 go_wp2
 go_ret
 exact ⟨ret_bool (by simp[hga]),HB1.out⟩
theorem one_late (A B:Nat) (a b:Oc) (i1 e1 i2 e2:Value) (w:World) (hA:w.heap[A]? =some (.cells #[.int .i64 a.en,.int .i64 a.st,.int .i64 a.er,i1,e1] 61 (0,0))) (hB:w.heap[B]? =some (.cells #[.int .i64 b.en,.int .i64 b.st,.int .i64 b.er,i2,e2] 61 (0,0))):
  Calls Tryz.prog 102 #[.func (.func 104) #[] #[],.pointer (some ⟨A,0,none⟩),.pointer (some ⟨B,0,none⟩)] w fun e w'=>e= .returned (.bool (a.late || b.late))∧Below w.heap.size w w':=by
 have hAl:A<w.heap.size:=(Al hA)
 have hBl:B<w.heap.size:=(Al hB)
 have HB:=Hj hB
 have a0:=Bj hA 0 rfl
 have a1:=Bj hA 1 rfl
 have a2:=Bj hA 2 rfl
 have a3:=Bj hA 3 rfl
 have a4:=Bj hA 4 rfl
 clear hA hB
 go_enter Tryz.func102,Tryz.ntmps102
 go_wp2_with fail
 refine (late_any a i1 e1 _).mono ?_
 rintro e w1 ⟨rfl,hb1⟩
 have HB1:=Hj hb1
 have hbb:=(hb1.block B hBl).trans HB.out
 clear hb1 a0 a1 a2 a3 a4
 have b0:=Bj hbb 0 rfl
 have b1:=Bj hbb 1 rfl
 have b2:=Bj hbb 2 rfl
 have b3:=Bj hbb 3 rfl
 have b4:=Bj hbb 4 rfl
 clear hbb
 cases hga:a.late
 ·go_wp2_with fail
  refine (late_any b i2 e2 _).mono ?_
  rintro e w2 ⟨rfl,hb2⟩
  have HB2:=Hj (HB1.out.trans (hb2.mono HB1.out.size))
  clear hb2
  go_wp2
  go_ret
  exact ⟨ret_bool (by simp[hga]),HB2.out⟩
 go_wp2
 go_ret
 exact ⟨ret_bool (by simp[hga]),HB1.out⟩
theorem one_touch (A B:Nat) (a b:Oc) (i1 e1 i2 e2:Value) (w:World) (hA:w.heap[A]? =some (.cells #[.int .i64 a.en,.int .i64 a.st,.int .i64 a.er,i1,e1] 61 (0,0))) (hB:w.heap[B]? =some (.cells #[.int .i64 b.en,.int .i64 b.st,.int .i64 b.er,i2,e2] 61 (0,0))):
  Calls Tryz.prog 102 #[.func (.func 105) #[] #[],.pointer (some ⟨A,0,none⟩),.pointer (some ⟨B,0,none⟩)] w fun e w'=>e= .returned (.bool (a.touch || b.touch))∧Below w.heap.size w w':=by
 have hAl:A<w.heap.size:=(Al hA)
 have hBl:B<w.heap.size:=(Al hB)
 have HB:=Hj hB
 have a0:=Bj hA 0 rfl
 have a1:=Bj hA 1 rfl
 have a2:=Bj hA 2 rfl
 have a3:=Bj hA 3 rfl
 have a4:=Bj hA 4 rfl
 clear hA hB
 go_enter Tryz.func102,Tryz.ntmps102
 go_wp2_with fail
 refine (touch_any a i1 e1 _).mono ?_
 rintro e w1 ⟨rfl,hb1⟩
 have HB1:=Hj hb1
 have hbb:=(hb1.block B hBl).trans HB.out
 clear hb1 a0 a1 a2 a3 a4
 have b0:=Bj hbb 0 rfl
 have b1:=Bj hbb 1 rfl
 have b2:=Bj hbb 2 rfl
 have b3:=Bj hbb 3 rfl
 have b4:=Bj hbb 4 rfl
 clear hbb
 cases hga:a.touch
 ·go_wp2_with fail
  refine (touch_any b i2 e2 _).mono ?_
  rintro e w2 ⟨rfl,hb2⟩
  have HB2:=Hj (HB1.out.trans (hb2.mono HB1.out.size))
  clear hb2
  go_wp2
  go_ret
  exact ⟨ret_bool (by simp[hga]),HB2.out⟩
 go_wp2
 go_ret
 exact ⟨ret_bool (by simp[hga]),HB1.out⟩
open Go.Txt Go.RowKit Go.Bs Go.Cl Go.Rw Go.Un Go.Im Go.Fa
theorem normal_any (F:List Nat) (b n e:List UInt8) (bv nv ev:Value) (k:Int) (hk:k≤1099511627776) (w:World) (hbl:b.length≤24000) (hnl:n.length≤24000) (hel:e.length≤24000) (hB:Bytes F w bv b) (hN:Bytes F w nv n) (hE:Bytes F w ev e):
  Calls Tryz.prog 25 #[bv,nv,ev,.int .i64 k] w fun r w'=>∃iv' ev',r= .returned (.agg #[.int .i64 0,.int .i64 (cost b.length n.length k),.int .i64 0,iv',ev'])∧
   w'.ownsRow w.heap.size 5 1 iv' n.length (bytesV n)∧w'.ownsRow w.heap.size 5 1 ev' e.length (bytesV e)∧Below w.heap.size w w':=by
 obtain ⟨ba,bc,rfl⟩:=Rs hB
 obtain ⟨na,nc,rfl⟩:=Rs hN
 obtain ⟨ea,ec,rfl⟩:=Rs hE
 obtain ⟨u,hu⟩:∃u,u=w.alloc (.cells #[.int .i64 0,.int .i64 0,.int .i64 0,.slice none 0 0,.slice none 0 0] 61):=⟨_,rfl⟩
 obtain ⟨R,hR⟩:∃R,R=w.heap.size:=⟨_,rfl⟩
 have HU:=Hj hu
 have hbu:Below w.heap.size w u:=by rw[hu];exact (Br _ w).alloc (Nr _) _
 have HL:=Hj hbu
 have HRu:Hid (u.heap[R]? =some (.cells #[.int .i64 0,.int .i64 0,.int .i64 0,.slice none 0 0,.slice none 0 0] 61 (0,0))):=Hj (by rw[hu,hR];exact heap_alloc_new w _)
 have HNu:=Hj (Rb hN hbu)
 have HEu:=Hj (Rb hE hbu)
 have hRu:R<u.heap.size:=by rw[hu,hR];simp
 have hwR:w.heap.size≤R:=by omega
 have hwu:w.heap.size≤u.heap.size:=hbu.size
 clear hu hbu hB hN hE
 go_enter Tryz.func25,Tryz.ntmps25
 go_upto_region 1 with (fail)
 rw[←HU.out,←hR]
 clear hR HU
 go_wp2_with fail
 refine (acost_any b.length n.length k (by omega) (by omega) (by omega) (by omega) hk _).mono ?_
 rintro r w1 ⟨rfl,rfl⟩
 obtain ⟨C,hC⟩:∃C,C=cost b.length n.length k:=⟨_,rfl⟩
 rw[←hC]
 have HC:=Hj hC
 clear hC
 go_wp2_with fail
 refine (clone33 _ (by omega) HNu.out).mono ?_
 rintro r w2 ⟨v2,rfl,hown2,hb2⟩
 obtain ⟨a2,c2,rfl⟩:=Oq hown2
 have hs2:=hb2.size
 have HO2:=Hj hown2
 have HB2:=Hj hb2
 clear hown2 hb2
 go_wp2_with fail
 refine (clone33 _ (by omega) (Rb HEu.out HB2.out)).mono ?_
 rintro r w3 ⟨v3,rfl,hown3,hb3⟩
 obtain ⟨a3,c3,rfl⟩:=Oq hown3
 have HB3:=Hj (HB2.out.trans (hb3.mono hs2))
 have HO3:=Hj (own_base hown3 hs2)
 have HO2':=Hj (own_below HO2.out hb3 (Nr _))
 have HR3:=Hj ((HB3.out.block R hRu).trans HRu.out)
 clear hown3 hb3
 have r0:=Bj HR3.out 0 rfl
 have r1:=Bj HR3.out 1 rfl
 have r2:=Bj HR3.out 2 rfl
 have r3:=Bj HR3.out 3 rfl
 have r4:=Bj HR3.out 4 rfl
 have f0:=Bf HR3.out 0
 have f1:=Bf HR3.out 1
 have f2:=Bf HR3.out 2
 have f3:=Bf HR3.out 3
 have f4:=Bf HR3.out 4
 go_wp2
 obtain ⟨hR,hK⟩:=puts_at [(0,.int .i64 0),(1,.int .i64 C),(2,.int .i64 0),(3,.slice a2 n.length c2),(4,.slice a3 e.length c3)] HR3.out
 refine bodyPost_ret (results_c rfl _ _ _ _ _ _ _ rfl hR Tryz.underlying61 rfl (by kernel_rfl)) rfl ?_
 have hL3:=HL.out.trans (HB3.out.mono hwu)
 refine ⟨_,_,by rw[←HC.out];rfl,own_base (own_keep HO2'.out hK (fun q hq hm=>by have:=(HO2'.out.lt q hq).1;rw[List.mem_singleton] at hm;omega)) hwu,own_base (own_keep HO3.out hK (Ow HO3.out (by omega))) hwu,hL3.trans (hK.below hL3.size (G1 (by omega)))⟩
theorem judge_any (F:List Nat) (a b:Oc) (i1 e1 i2 e2:Value) (p:Bool) (w:World) (hI1:Bytes F w i1 a.im) (hE1:Bytes F w e1 a.ef) (hI2:Bytes F w i2 b.im) (hE2:Bytes F w e2 b.ef):
  Calls Tryz.prog 47 #[.agg #[.int .i64 a.en,.int .i64 a.st,.int .i64 a.er,i1,e1],.agg #[.int .i64 b.en,.int .i64 b.st,.int .i64 b.er,i2,e2],.bool p] w fun r w'=>r= .returned (.agg #[.int .i64 (judge a b p),.int .i64 (jst a b)])∧Below w.heap.size w w':=by
 obtain ⟨ai,ac,rfl⟩:=Rs hI1
 obtain ⟨ae,aec,rfl⟩:=Rs hE1
 obtain ⟨bi,bc,rfl⟩:=Rs hI2
 obtain ⟨be,bec,rfl⟩:=Rs hE2
 have HI1:=Hj hI1;have HE1:=Hj hE1;have HI2:=Hj hI2;have HE2:=Hj hE2
 clear hI1 hE1 hI2 hE2
 obtain ⟨u,hu⟩:∃u,u=((w.alloc (.cells #[.int .i64 a.en,.int .i64 a.st,.int .i64 a.er,(.slice ai a.im.length ac),(.slice ae a.ef.length aec)] 61)).alloc (.cells #[.int .i64 b.en,.int .i64 b.st,.int .i64 b.er,(.slice bi b.im.length bc),(.slice be b.ef.length bec)] 61)).alloc (.cells #[.int .i64 0,.int .i64 0] 68):=⟨_,rfl⟩
 have HU:=Hj hu
 have HLu:Hid (Below w.heap.size w u):=Hj (by rw[hu];exact b3 _ _ _ _)
 have HAu:Hid (u.heap[w.heap.size]? =some (.cells #[.int .i64 a.en,.int .i64 a.st,.int .i64 a.er,(.slice ai a.im.length ac),(.slice ae a.ef.length aec)] 61 (0,0))):=Hj (by rw[hu];exact (((Br ((w.alloc _).alloc _).heap.size _).alloc (Nr _) _).block w.heap.size (by simp;omega)).trans (a2_0 w _ _))
 have HBu:Hid (u.heap[w.heap.size+1]? =some (.cells #[.int .i64 b.en,.int .i64 b.st,.int .i64 b.er,(.slice bi b.im.length bc),(.slice be b.ef.length bec)] 61 (0,0))):=Hj (by rw[hu];exact (((Br ((w.alloc _).alloc _).heap.size _).alloc (Nr _) _).block (w.heap.size+1) (by simp)).trans (a2_1 w _ _))
 have HRu:Hid (u.heap[w.heap.size+1+1]? =some (.cells #[.int .i64 0,.int .i64 0] 68 (0,0))):=Hj (by rw[hu];exact a3 _ _ _ _)
 have hus:u.heap.size=w.heap.size+3:=by rw[hu];simp
 clear hu
 go_enter Tryz.func47,Tryz.ntmps47
 go_upto_region 1 with (fail)
 rw[←HU.out]
 obtain ⟨A,hA⟩:∃A,A=w.heap.size:=⟨_,rfl⟩
 obtain ⟨B,hB⟩:∃B,B=w.heap.size+1:=⟨_,rfl⟩
 obtain ⟨R,hR⟩:∃R,R=w.heap.size+1+1:=⟨_,rfl⟩
 rw[←hR,←hB,←hA]
 rw[←hA] at HAu;rw[←hB] at HBu;rw[←hR] at HRu
 have hAB:A<B:=by omega
 have hBR:B<R:=by omega
 have hRu:R<u.heap.size:=by omega
 have hwA:w.heap.size≤A:=by omega
 clear hA hB hR hus HU
 have a0:=Bj HAu.out 0 rfl
 have a1:=Bj HAu.out 1 rfl
 have a2:=Bj HAu.out 2 rfl
 have a3:=Bj HAu.out 3 rfl
 have a4:=Bj HAu.out 4 rfl
 have b0:=Bj HBu.out 0 rfl
 have b1:=Bj HBu.out 1 rfl
 have b2:=Bj HBu.out 2 rfl
 have b3:=Bj HBu.out 3 rfl
 have b4:=Bj HBu.out 4 rfl
 go_upto_region 3 with (fail)
 have hjs:wrap64 (wrap64 (a.st+b.st)+1)=jst a b:=rfl
 try rw[hjs]
 obtain ⟨V,hV⟩:∃V,V=u.heap.size:=⟨_,rfl⟩
 obtain ⟨w1,hw1⟩:∃w1,w1=u.alloc (.cells #[.int .i64 0,.int .i64 (jst a b)] 68):=⟨_,rfl⟩
 rw[←hw1,←hV]
 have hb1:Below u.heap.size u w1:=by rw[hw1];exact (Br _ u).alloc (Nr _) _
 have HV1:Hid (w1.heap[V]? =some (.cells #[.int .i64 0,.int .i64 (jst a b)] 68 (0,0))):=Hj (by rw[hw1,hV];exact heap_alloc_new u _)
 have hs1:=hb1.size
 have HL1:=Hj (HLu.out.trans (hb1.mono HLu.out.size))
 have HA1:=Hj ((hb1.block A (by omega)).trans HAu.out)
 have HB1:=Hj ((hb1.block B (by omega)).trans HBu.out)
 have HR1:=Hj ((hb1.block R (by omega)).trans HRu.out)
 have hRV:R<V:=by omega
 have hV1:V<w1.heap.size:=(Al HV1.out)
 clear hb1 hw1 hV hjs a0 a1 a2 a3 a4 b0 b1 b2 b3 b4
 go_wp2_with fail
 refine (one_bad A B a b _ _ _ _ _ HA1.out HB1.out).mono ?_
 rintro e w2 ⟨rfl,hb2⟩
 have hs2:=hb2.size
 have HL2:=Hj (HL1.out.trans (hb2.mono HL1.out.size))
 have HA2:=Hj ((hb2.block A (by omega)).trans HA1.out)
 have HB2:=Hj ((hb2.block B (by omega)).trans HB1.out)
 have HR2:=Hj ((hb2.block R (by omega)).trans HR1.out)
 have HV2:=Hj ((hb2.block V (by omega)).trans HV1.out)
 clear hb2
 cases hbad:(a.bad || b.bad)
 rotate_left
 ·have HJ:=Hj (show judge a b p=1 from by unfold judge;rw[if_pos hbad])
  have v0:=Bj HV2.out 0 rfl
  have v1:=Bj HV2.out 1 rfl
  have z0:=Bf HV2.out 0
  have r0:=Bj HR2.out 0 rfl
  have r1:=Bj HR2.out 1 rfl
  have q0:=Bf HR2.out 0
  have q1:=Bf HR2.out 1
  go_upto_region 13 with (fail)
  obtain ⟨X,hX⟩:∃X,X=w2.setCell ⟨V,0,none⟩ (.int .i64 1):=⟨_,rfl⟩
  rw[←hX]
  obtain ⟨hXV,hXK⟩:=puts_at [(0,.int .i64 1)] HV2.out
  have eX:puts w2 V [(0,.int .i64 1)]=X:=hX.symm
  have hXz:=puts_size [(0,.int .i64 1)] w2 V
  rw[eX] at hXV hXK hXz
  clear v0 v1 r0 r1 q0 q1 z0
  have hXV':X.heap[V]? =some (.cells #[.int .i64 1,.int .i64 (jst a b)] 68 (0,0)):=hXV
  have v0:=Bj hXV' 0 rfl
  have v1:=Bj hXV' 1 rfl
  have HRX:=Hj ((hXK.block R (by omega) (by simp;omega)).trans HR2.out)
  have HLX:=Hj (HL2.out.trans (hXK.below HL2.out.size (G1 (by omega))))
  have r0:=Bj HRX.out 0 rfl
  have r1:=Bj HRX.out 1 rfl
  have q0:=Bf HRX.out 0
  have q1:=Bf HRX.out 1
  clear hX eX hXV hXK hXV'
  go_wp2
  obtain ⟨hR,hK⟩:=puts_at [(0,.int .i64 1),(1,.int .i64 (jst a b))] HRX.out
  refine bodyPost_ret (results_c rfl _ _ _ _ _ _ _ rfl hR Tryz.underlying68 rfl (by kernel_rfl)) rfl ?_
  refine ⟨by rw[HJ.out];rfl,HLX.out.trans (hK.below HLX.out.size (G1 (by omega)))⟩
 go_wp2_with fail
 refine (one_late A B a b _ _ _ _ _ HA2.out HB2.out).mono ?_
 rintro e w3 ⟨rfl,hb3⟩
 have hs3:=hb3.size
 have HL3:=Hj (HL2.out.trans (hb3.mono HL2.out.size))
 have HA3:=Hj ((hb3.block A (by omega)).trans HA2.out)
 have HB3:=Hj ((hb3.block B (by omega)).trans HB2.out)
 have HR3:=Hj ((hb3.block R (by omega)).trans HR2.out)
 have HV3:=Hj ((hb3.block V (by omega)).trans HV2.out)
 clear hb3
 cases hlate:(a.late || b.late)
 rotate_left
 ·have HJ:=Hj (show judge a b p=2 from by unfold judge;rw[if_neg (by simp[hbad]),if_pos hlate])
  have v0:=Bj HV3.out 0 rfl
  have v1:=Bj HV3.out 1 rfl
  have z0:=Bf HV3.out 0
  have r0:=Bj HR3.out 0 rfl
  have r1:=Bj HR3.out 1 rfl
  have q0:=Bf HR3.out 0
  have q1:=Bf HR3.out 1
  go_upto_region 13 with (fail)
  obtain ⟨X,hX⟩:∃X,X=w3.setCell ⟨V,0,none⟩ (.int .i64 2):=⟨_,rfl⟩
  rw[←hX]
  obtain ⟨hXV,hXK⟩:=puts_at [(0,.int .i64 2)] HV3.out
  have eX:puts w3 V [(0,.int .i64 2)]=X:=hX.symm
  have hXz:=puts_size [(0,.int .i64 2)] w3 V
  rw[eX] at hXV hXK hXz
  clear v0 v1 r0 r1 q0 q1 z0
  have hXV':X.heap[V]? =some (.cells #[.int .i64 2,.int .i64 (jst a b)] 68 (0,0)):=hXV
  have v0:=Bj hXV' 0 rfl
  have v1:=Bj hXV' 1 rfl
  have HRX:=Hj ((hXK.block R (by omega) (by simp;omega)).trans HR3.out)
  have HLX:=Hj (HL3.out.trans (hXK.below HL3.out.size (G1 (by omega))))
  have r0:=Bj HRX.out 0 rfl
  have r1:=Bj HRX.out 1 rfl
  have q0:=Bf HRX.out 0
  have q1:=Bf HRX.out 1
  clear hX eX hXV hXK hXV'
  go_wp2
  obtain ⟨hR,hK⟩:=puts_at [(0,.int .i64 2),(1,.int .i64 (jst a b))] HRX.out
  refine bodyPost_ret (results_c rfl _ _ _ _ _ _ _ rfl hR Tryz.underlying68 rfl (by kernel_rfl)) rfl ?_
  refine ⟨by rw[HJ.out];rfl,HLX.out.trans (hK.below HLX.out.size (G1 (by omega)))⟩
 go_wp2_with fail
 refine (one_touch A B a b _ _ _ _ _ HA3.out HB3.out).mono ?_
 rintro e w4 ⟨rfl,hb4⟩
 have hs4:=hb4.size
 have HL4:=Hj (HL3.out.trans (hb4.mono HL3.out.size))
 have HA4:=Hj ((hb4.block A (by omega)).trans HA3.out)
 have HB4:=Hj ((hb4.block B (by omega)).trans HB3.out)
 have HR4:=Hj ((hb4.block R (by omega)).trans HR3.out)
 have HV4:=Hj ((hb4.block V (by omega)).trans HV3.out)
 clear hb4
 cases htouch:(a.touch || b.touch)
 rotate_left
 ·have HJ:=Hj (show judge a b p=3 from by unfold judge;rw[if_neg (by simp[hbad]),if_neg (by simp[hlate]),if_pos htouch])
  have v0:=Bj HV4.out 0 rfl
  have v1:=Bj HV4.out 1 rfl
  have z0:=Bf HV4.out 0
  have r0:=Bj HR4.out 0 rfl
  have r1:=Bj HR4.out 1 rfl
  have q0:=Bf HR4.out 0
  have q1:=Bf HR4.out 1
  go_upto_region 13 with (fail)
  obtain ⟨X,hX⟩:∃X,X=w4.setCell ⟨V,0,none⟩ (.int .i64 3):=⟨_,rfl⟩
  rw[←hX]
  obtain ⟨hXV,hXK⟩:=puts_at [(0,.int .i64 3)] HV4.out
  have eX:puts w4 V [(0,.int .i64 3)]=X:=hX.symm
  have hXz:=puts_size [(0,.int .i64 3)] w4 V
  rw[eX] at hXV hXK hXz
  clear v0 v1 r0 r1 q0 q1 z0
  have hXV':X.heap[V]? =some (.cells #[.int .i64 3,.int .i64 (jst a b)] 68 (0,0)):=hXV
  have v0:=Bj hXV' 0 rfl
  have v1:=Bj hXV' 1 rfl
  have HRX:=Hj ((hXK.block R (by omega) (by simp;omega)).trans HR4.out)
  have HLX:=Hj (HL4.out.trans (hXK.below HL4.out.size (G1 (by omega))))
  have r0:=Bj HRX.out 0 rfl
  have r1:=Bj HRX.out 1 rfl
  have q0:=Bf HRX.out 0
  have q1:=Bf HRX.out 1
  clear hX eX hXV hXK hXV'
  go_wp2
  obtain ⟨hR,hK⟩:=puts_at [(0,.int .i64 3),(1,.int .i64 (jst a b))] HRX.out
  refine bodyPost_ret (results_c rfl _ _ _ _ _ _ _ rfl hR Tryz.underlying68 rfl (by kernel_rfl)) rfl ?_
  refine ⟨by rw[HJ.out];rfl,HLX.out.trans (hK.below HLX.out.size (G1 (by omega)))⟩
 cases p
 ·have HJ:=Hj (show judge a b false=4 from by unfold judge;rw[if_neg (by simp[hbad]),if_neg (by simp[hlate]),if_neg (by simp[htouch]),if_pos rfl])
  have v0:=Bj HV4.out 0 rfl
  have v1:=Bj HV4.out 1 rfl
  have z0:=Bf HV4.out 0
  have r0:=Bj HR4.out 0 rfl
  have r1:=Bj HR4.out 1 rfl
  have q0:=Bf HR4.out 0
  have q1:=Bf HR4.out 1
  go_upto_region 13 with (fail)
  obtain ⟨X,hX⟩:∃X,X=w4.setCell ⟨V,0,none⟩ (.int .i64 4):=⟨_,rfl⟩
  rw[←hX]
  obtain ⟨hXV,hXK⟩:=puts_at [(0,.int .i64 4)] HV4.out
  have eX:puts w4 V [(0,.int .i64 4)]=X:=hX.symm
  have hXz:=puts_size [(0,.int .i64 4)] w4 V
  rw[eX] at hXV hXK hXz
  clear v0 v1 r0 r1 q0 q1 z0
  have hXV':X.heap[V]? =some (.cells #[.int .i64 4,.int .i64 (jst a b)] 68 (0,0)):=hXV
  have v0:=Bj hXV' 0 rfl
  have v1:=Bj hXV' 1 rfl
  have HRX:=Hj ((hXK.block R (by omega) (by simp;omega)).trans HR4.out)
  have HLX:=Hj (HL4.out.trans (hXK.below HL4.out.size (G1 (by omega))))
  have r0:=Bj HRX.out 0 rfl
  have r1:=Bj HRX.out 1 rfl
  have q0:=Bf HRX.out 0
  have q1:=Bf HRX.out 1
  clear hX eX hXV hXK hXV'
  go_wp2
  obtain ⟨hR,hK⟩:=puts_at [(0,.int .i64 4),(1,.int .i64 (jst a b))] HRX.out
  refine bodyPost_ret (results_c rfl _ _ _ _ _ _ _ rfl hR Tryz.underlying68 rfl (by kernel_rfl)) rfl ?_
  refine ⟨by rw[HJ.out];rfl,HLX.out.trans (hK.below HLX.out.size (G1 (by omega)))⟩
 have a0:=Bj HA4.out 0 rfl
 have a1:=Bj HA4.out 1 rfl
 have a2:=Bj HA4.out 2 rfl
 have a3:=Bj HA4.out 3 rfl
 have a4:=Bj HA4.out 4 rfl
 have b0:=Bj HB4.out 0 rfl
 have b1:=Bj HB4.out 1 rfl
 have b2:=Bj HB4.out 2 rfl
 have b3:=Bj HB4.out 3 rfl
 have b4:=Bj HB4.out 4 rfl
 go_wp2_with fail
 refine (bequal_any F a.im b.im _ _ _ (Rb HI1.out HL4.out) (Rb HI2.out HL4.out)).mono ?_
 rintro e w5 ⟨rfl,rfl⟩
 by_cases him:a.im=b.im
 ·rw[decide_eq_true him]
  go_wp2_with fail
  refine (bequal_any F a.ef b.ef _ _ _ (Rb HE1.out HL4.out) (Rb HE2.out HL4.out)).mono ?_
  rintro e w6 ⟨rfl,rfl⟩
  clear a0 a1 a2 a3 a4 b0 b1 b2 b3 b4
  by_cases hef:a.ef=b.ef
  ·rw[decide_eq_true hef]
   have HJ:=Hj (show judge a b true=0 from by unfold judge;rw[if_neg (by simp[hbad]),if_neg (by simp[hlate]),if_neg (by simp[htouch]),if_neg (by simp),if_pos ⟨him,hef⟩])
   have v0:=Bj HV4.out 0 rfl
   have v1:=Bj HV4.out 1 rfl
   have z0:=Bf HV4.out 0
   have r0:=Bj HR4.out 0 rfl
   have r1:=Bj HR4.out 1 rfl
   have q0:=Bf HR4.out 0
   have q1:=Bf HR4.out 1
   go_wp2
   obtain ⟨hR,hK⟩:=puts_at [(0,.int .i64 0),(1,.int .i64 (jst a b))] HR4.out
   refine bodyPost_ret (results_c rfl _ _ _ _ _ _ _ rfl hR Tryz.underlying68 rfl (by kernel_rfl)) rfl ?_
   refine ⟨by rw[HJ.out];rfl,HL4.out.trans (hK.below HL4.out.size (G1 (by omega)))⟩
  rw[decide_eq_false hef]
  have HJ:=Hj (show judge a b true=5 from by unfold judge;rw[if_neg (by simp[hbad]),if_neg (by simp[hlate]),if_neg (by simp[htouch]),if_neg (by simp),if_neg (fun h=>hef h.2)])
  have v0:=Bj HV4.out 0 rfl
  have v1:=Bj HV4.out 1 rfl
  have z0:=Bf HV4.out 0
  have r0:=Bj HR4.out 0 rfl
  have r1:=Bj HR4.out 1 rfl
  have q0:=Bf HR4.out 0
  have q1:=Bf HR4.out 1
  go_upto_region 13 with (fail)
  obtain ⟨X,hX⟩:∃X,X=w4.setCell ⟨V,0,none⟩ (.int .i64 5):=⟨_,rfl⟩
  rw[←hX]
  obtain ⟨hXV,hXK⟩:=puts_at [(0,.int .i64 5)] HV4.out
  have eX:puts w4 V [(0,.int .i64 5)]=X:=hX.symm
  have hXz:=puts_size [(0,.int .i64 5)] w4 V
  rw[eX] at hXV hXK hXz
  clear v0 v1 r0 r1 q0 q1 z0
  have hXV':X.heap[V]? =some (.cells #[.int .i64 5,.int .i64 (jst a b)] 68 (0,0)):=hXV
  have v0:=Bj hXV' 0 rfl
  have v1:=Bj hXV' 1 rfl
  have HRX:=Hj ((hXK.block R (by omega) (by simp;omega)).trans HR4.out)
  have HLX:=Hj (HL4.out.trans (hXK.below HL4.out.size (G1 (by omega))))
  have r0:=Bj HRX.out 0 rfl
  have r1:=Bj HRX.out 1 rfl
  have q0:=Bf HRX.out 0
  have q1:=Bf HRX.out 1
  clear hX eX hXV hXK hXV'
  go_wp2
  obtain ⟨hR,hK⟩:=puts_at [(0,.int .i64 5),(1,.int .i64 (jst a b))] HRX.out
  refine bodyPost_ret (results_c rfl _ _ _ _ _ _ _ rfl hR Tryz.underlying68 rfl (by kernel_rfl)) rfl ?_
  refine ⟨by rw[HJ.out];rfl,HLX.out.trans (hK.below HLX.out.size (G1 (by omega)))⟩
 rw[decide_eq_false him]
 clear a0 a1 a2 a3 a4 b0 b1 b2 b3 b4
 have HJ:=Hj (show judge a b true=5 from by unfold judge;rw[if_neg (by simp[hbad]),if_neg (by simp[hlate]),if_neg (by simp[htouch]),if_neg (by simp),if_neg (fun h=>him h.1)])
 have v0:=Bj HV4.out 0 rfl
 have v1:=Bj HV4.out 1 rfl
 have z0:=Bf HV4.out 0
 have r0:=Bj HR4.out 0 rfl
 have r1:=Bj HR4.out 1 rfl
 have q0:=Bf HR4.out 0
 have q1:=Bf HR4.out 1
 go_upto_region 13 with (fail)
 obtain ⟨X,hX⟩:∃X,X=w4.setCell ⟨V,0,none⟩ (.int .i64 5):=⟨_,rfl⟩
 rw[←hX]
 obtain ⟨hXV,hXK⟩:=puts_at [(0,.int .i64 5)] HV4.out
 have eX:puts w4 V [(0,.int .i64 5)]=X:=hX.symm
 have hXz:=puts_size [(0,.int .i64 5)] w4 V
 rw[eX] at hXV hXK hXz
 clear v0 v1 r0 r1 q0 q1 z0
 have hXV':X.heap[V]? =some (.cells #[.int .i64 5,.int .i64 (jst a b)] 68 (0,0)):=hXV
 have v0:=Bj hXV' 0 rfl
 have v1:=Bj hXV' 1 rfl
 have HRX:=Hj ((hXK.block R (by omega) (by simp;omega)).trans HR4.out)
 have HLX:=Hj (HL4.out.trans (hXK.below HL4.out.size (G1 (by omega))))
 have r0:=Bj HRX.out 0 rfl
 have r1:=Bj HRX.out 1 rfl
 have q0:=Bf HRX.out 0
 have q1:=Bf HRX.out 1
 clear hX eX hXV hXK hXV'
 go_wp2
 obtain ⟨hR,hK⟩:=puts_at [(0,.int .i64 5),(1,.int .i64 (jst a b))] HRX.out
 refine bodyPost_ret (results_c rfl _ _ _ _ _ _ _ rfl hR Tryz.underlying68 rfl (by kernel_rfl)) rfl ?_
 refine ⟨by rw[HJ.out];rfl,HLX.out.trans (hK.below HLX.out.size (G1 (by omega)))⟩
end Go.Proofs.YtipiofgdjbogiaaGreat
