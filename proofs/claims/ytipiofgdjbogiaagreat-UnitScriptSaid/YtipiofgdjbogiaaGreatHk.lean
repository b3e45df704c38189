/- UnitFailed, UnitNil: the example -/
import Derived.Test.YtipiofgdjbogiaaGreatHj
import Derived.Deep.CutRange
set_option maxRecDepth 100000
set_option maxHeartbeats 40000000
namespace Go.Im
open Go Go.Txt Go.RowKit Go.Bs Go.Cl Go.Rw Go.Fa
def axx:Us:=⟨6,[],1,1,1,2,2,false,0⟩
def axs:Ps:=⟨[1],0,false,[],0⟩
def axp:FP:=⟨6,1,1,1,0,0,0⟩
def axo:Oc:=⟨0,cost 1 1 0,0,[2],[]⟩
def axq:FP:=if axp.hits 6 1 1 then axp else FP.none
def axf:FR:=finU axx axs axp 16 1 (fout axq 0 axo) (fout axq 1 axo) true
theorem axf_eq:axf=⟨downed axx axf.st,axs,1,axf.st,0⟩:=by rfl
theorem row1 (w:World) (x:UInt8):(w.alloc (.cells #[byteV x] 5)).ownsRow w.heap.size 5 1 (.slice (some ⟨w.heap.size,0,none⟩) 1 1) 1 (bytesV [x]):=
 ⟨rfl,.inr ⟨_,1,_,rfl,Nr _,heap_alloc_new w _,Nr _,by unfold maxLen;omega,rfl,rfl⟩⟩
end Go.Im
namespace Go.Proofs.YtipiofgdjbogiaaGreat
open Go.Txt Go.RowKit Go.Bs Go.Cl Go.Rw Go.Un Go.Im Go.Fa
@[go_sem] theorem eq57 (a b c d:Int) (w:World):(Op.equalIn 10000 34 (.agg #[.int .i64 a,.int .i64 b]) (.agg #[.int .i64 c,.int .i64 d])).run Tryz.prog w= .ok (a==c&&b==d) w:=by
 have px:∀(x y:Int),(part 3 #[.int .i64 x,.int .i64 y] 0).run Tryz.prog w= .ok (.int .i64 x) w:=fun x y=>by simp[part,isAgg,run_underlying Tryz.underlying3]
 have py:∀(x y:Int),(part 3 #[.int .i64 x,.int .i64 y] 1).run Tryz.prog w= .ok (.int .i64 y) w:=fun x y=>by simp[part,isAgg,run_underlying Tryz.underlying3]
 have hs:(sizeOf 3).run Tryz.prog w= .ok 1 w:=by simp[Tryz.sizeOf3]
 rw[Op.equalIn]
 simp only[Sem.run_bind,run_underlying Tryz.underlying34,Result.andThen_ok,Std.Legacy.Range.forIn_eq_forIn_range',Std.Legacy.Range.size,Nat.sub_zero,Nat.add_sub_cancel,Nat.div_one]
 simp only[hs,Result.andThen_ok]
 simp only[show List.range' 0 2 1=[0,1] from rfl,List.forIn_cons,List.forIn_nil,Sem.run_bind,Nat.zero_mul,Nat.one_mul,px,py,Result.andThen_ok,run_equalIn_int w _ 3 .i64 .i64 _ _ Tryz.underlying3]
 cases h1:(a==c) <;> cases h2:(b==d) <;> simp[h1,h2,py,run_equalIn_int w _ 3 .i64 .i64 _ _ Tryz.underlying3]
theorem eg57:Tryz.prog.eqGuardType Tryz.prog.depth 34=false:=by kernel_rfl
theorem normal_axo (bv nv:Value) (w:World) (hB:Bytes [] w bv [1]) (hN:Bytes [] w nv [2]):Calls Tryz.prog 25 #[bv,nv,.slice none 0 0,.int .i64 0] w fun r w'=>∃o,o=axo∧∃i1 i2 e1 e2,r= .returned (.agg #[.int .i64 o.en,.int .i64 o.st,.int .i64 o.er,(.slice i1 o.im.length i2),(.slice e1 o.ef.length e2)])∧w'.ownsRow w.heap.size 5 1 (.slice i1 o.im.length i2) o.im.length (bytesV o.im)∧w'.ownsRow w.heap.size 5 1 (.slice e1 o.ef.length e2) o.ef.length (bytesV o.ef)∧Below w.heap.size w w':=by
 refine (normal_any [] [1] [2] [] _ _ _ 0 (by omega) w (by simp) (by simp) (by simp) hB hN (Raw.empty _ _ _)).mono ?_
 rintro e w6 ⟨io,eo,rfl,ho1,ho2,hb6⟩
 obtain ⟨io1,io2,rfl⟩:=Oq ho1
 obtain ⟨eo1,eo2,rfl⟩:=Oq ho2
 exact ⟨axo,rfl,io1,io2,eo1,eo2,rfl,ho1,ho2,hb6⟩
theorem awake_any (w:World):Calls Tryz.prog 4 #[] w fun e w'=>e= .returned (.bool true)∧Below w.heap.size w w':=by
 go_enter Tryz.func4,Tryz.ntmps4
 go_upto_region 1 with (fail)
 have R1:=row1 w 1
 have b1:Below w.heap.size w (w.alloc (.cells #[byteV 1] 5)):=(Br _ w).alloc (Nr _) _
 obtain ⟨w1,hw1⟩:∃X,X=w.alloc (.cells #[byteV 1] 5):=⟨_,rfl⟩
 rw[←hw1] at R1 b1
 have HW1:Hid (w1=w.alloc (.cells #[.int .u8 1] 5)):=Hj hw1
 have HR1:=Hj R1;have HB1:=Hj b1
 have HY1:=Hj (Bytes.row (F:=[]) R1 rfl (fun f hf=>by cases hf))
 clear hw1 R1 b1
 go_wp2_with fail
 rw[←HW1.out]
 refine (unew_ok 6 _ [1] w _ (by omega) (by omega) (by simp) HB1.out HY1.out).mono ?_
 rintro e w2 ⟨u,rfl,hU⟩
 have HU2:=Hj hU.ll
 clear hU HR1 HB1 HY1 HW1
 go_upto_region 5 with (fail)
 obtain ⟨P,hP⟩:∃P,P=w2.heap.size:=⟨_,rfl⟩
 obtain ⟨w3,hw3⟩:∃X,X=w2.alloc (.cells #[.int .i64 6,.int .i64 1,.int .i64 1,.int .i64 1,.int .i64 0,.int .i64 0,.int .i64 0] 56):=⟨_,rfl⟩
 rw[←hw3,←hP]
 have hb3:Below w2.heap.size w2 w3:=by rw[hw3];exact (Br _ w2).alloc (Nr _) _
 have HP3:Hid (w3.heap[P]? =some (.cells #[.int .i64 6,.int .i64 1,.int .i64 1,.int .i64 1,.int .i64 0,.int .i64 0,.int .i64 0] 56 (0,0))):=Hj (by rw[hw3,hP];exact heap_alloc_new w2 _)
 have hP3:P<w3.heap.size:=(Al HP3.out)
 have HU3:=Hj (HU2.out.own hb3 [P] (fun q hq=>by rw[M1' hq];exact ⟨by omega,hP3⟩))
 clear hb3 hw3 hP HU2
 have R4:=row1 w3 1
 have b4:Below w3.heap.size w3 (w3.alloc (.cells #[byteV 1] 5)):=(Br _ w3).alloc (Nr _) _
 obtain ⟨w4,hw4⟩:∃X,X=w3.alloc (.cells #[byteV 1] 5):=⟨_,rfl⟩
 rw[←hw4] at R4 b4
 have R5:=row1 w4 2
 have b5:Below w4.heap.size w4 (w4.alloc (.cells #[byteV 2] 5)):=(Br _ w4).alloc (Nr _) _
 obtain ⟨w5,hw5⟩:∃X,X=w4.alloc (.cells #[byteV 2] 5):=⟨_,rfl⟩
 rw[←hw5] at R5 b5
 have HW4:Hid (w4=w3.alloc (.cells #[.int .u8 1] 5)):=Hj hw4
 have HW5:Hid (w5=w4.alloc (.cells #[.int .u8 2] 5)):=Hj hw5
 have hb5:=b4.trans (b5.mono b4.size)
 have HY4:=Hj (Rb (Bytes.row (F:=[]) R4 rfl (fun f hf=>by cases hf)) b5)
 have HY5:=Hj (Bytes.row (F:=[]) R5 rfl (fun f hf=>by cases hf))
 have HU5:=Hj (HU3.out.below hb5)
 have HP5:=Hj ((hb5.block P hP3).trans HP3.out)
 have hP5:P<w5.heap.size:=by have:=hb5.size;omega
 have HZ4:Hid (w4.heap.size=w3.heap.size+1):=Hj (by rw[hw4];simp)
 clear hw4 hw5 R4 R5 b4 b5 hb5 HU3 HP3 hP3
 go_wp2_with fail
 rw[←HW4.out,←HW5.out,←HZ4.out]
 clear HZ4
 refine (normal_axo _ _ w5 HY4.out HY5.out).mono ?_
 rintro e w6 ⟨o,ho,io1,io2,eo1,eo2,rfl,ho1,ho2,hb6⟩
 have hs6:=hb6.size
 have HU6:Hid (ULL w u axx axs [(.slice io1 o.im.length io2,o.im),(.slice eo1 o.ef.length eo2,o.ef)] [P] w6):=Hj (HU5.out.more hb6 [(.slice io1 o.im.length io2,o.im),(.slice eo1 o.ef.length eo2,o.ef)] (fun p hp=>by
  simp only[List.mem_cons,List.not_mem_nil,or_false] at hp
  rcases hp with rfl | rfl
  ·exact ⟨_,ho1⟩
  exact ⟨_,ho2⟩) [] (fun z hz=>by cases hz))
 have HP6:=Hj ((hb6.block P hP5).trans HP5.out)
 have hP6:P<w6.heap.size:=by omega
 have HO:=Hj ho
 have hol:o.im.length≤24000:=by rw[ho];decide
 have hoe:o.ef.length≤24000:=by rw[ho];decide
 clear HY4 HY5 HU5 HP5 hP5 ho1 ho2 hb6 hs6 ho HW4 HW5
 go_upto_region 6 with (fail)
 obtain ⟨O,hO⟩:∃P,P=w6.heap.size:=⟨_,rfl⟩
 obtain ⟨w7,hw7⟩:∃X,X=w6.alloc (.cells #[.int .i64 o.en,.int .i64 o.st,.int .i64 o.er,(.slice io1 o.im.length io2),(.slice eo1 o.ef.length eo2)] 61):=⟨_,rfl⟩
 rw[←hw7,←hO]
 have hb7:Below w6.heap.size w6 w7:=by rw[hw7];exact (Br _ w6).alloc (Nr _) _
 have hs7:=hb7.size
 have HO7:Hid (w7.heap[O]? =some (.cells #[.int .i64 o.en,.int .i64 o.st,.int .i64 o.er,(.slice io1 o.im.length io2),(.slice eo1 o.ef.length eo2)] 61 (0,0))):=Hj (by rw[hw7,hO];exact heap_alloc_new w6 _)
 have hO7:O<w7.heap.size:=(Al HO7.out)
 have HU7:=Hj (HU6.out.own hb7 [O] (fun q hq=>by rw[M1' hq];exact ⟨by omega,hO7⟩))
 have HP7:=Hj ((hb7.block P hP6).trans HP6.out)
 have hP7:P<w7.heap.size:=by omega
 have hneO:w6.heap.size≤O:=by omega
 clear hb7 hw7 hO HU6 hs7 HP6 hP6
 have p_0:w7.cell? ⟨P,0,none⟩=some (.int .i64 6):=Bo HP7.out rfl
 have p_1:w7.cell? ⟨P,1,none⟩=some (.int .i64 1):=Bo HP7.out rfl
 have p_2:w7.cell? ⟨P,2,none⟩=some (.int .i64 1):=Bo HP7.out rfl
 have p_3:w7.cell? ⟨P,3,none⟩=some (.int .i64 1):=Bo HP7.out rfl
 have p_4:w7.cell? ⟨P,4,none⟩=some (.int .i64 0):=Bo HP7.out rfl
 have p_5:w7.cell? ⟨P,5,none⟩=some (.int .i64 0):=Bo HP7.out rfl
 have p_6:w7.cell? ⟨P,6,none⟩=some (.int .i64 0):=Bo HP7.out rfl
 have o_0:w7.cell? ⟨O,0,none⟩=some (.int .i64 o.en):=Bo HO7.out rfl
 have o_1:w7.cell? ⟨O,1,none⟩=some (.int .i64 o.st):=Bo HO7.out rfl
 have o_2:w7.cell? ⟨O,2,none⟩=some (.int .i64 o.er):=Bo HO7.out rfl
 have o_3:w7.cell? ⟨O,3,none⟩=some (.slice io1 o.im.length io2):=Bo HO7.out rfl
 have o_4:w7.cell? ⟨O,4,none⟩=some (.slice eo1 o.ef.length eo2):=Bo HO7.out rfl
 go_wp2_with fail
 refine (ull_outcomes HU7.out axp o o _ _ _ _ hol hoe hol hoe (HU7.out.bytes (by simp)) (HU7.out.bytes (by simp)) (HU7.out.bytes (by simp)) (HU7.out.bytes (by simp))).mono ?_
 rintro e w8 ⟨fa,fb,ia,ea,ib,eb,hfa,hfb,rfl,hb8,hU⟩
 obtain ⟨ia1,ia2,rfl⟩:=Rs (hU.bytes (v:=ia) (l:=fa.im) (by simp))
 obtain ⟨ea1,ea2,rfl⟩:=Rs (hU.bytes (v:=ea) (l:=fa.ef) (by simp))
 obtain ⟨ib1,ib2,rfl⟩:=Rs (hU.bytes (v:=ib) (l:=fb.im) (by simp))
 obtain ⟨eb1,eb2,rfl⟩:=Rs (hU.bytes (v:=eb) (l:=fb.ef) (by simp))
 have HU8:=Hj hU
 have HFA:Hid (fa=fout axq 0 o):=Hj hfa
 have HFB:Hid (fb=fout axq 1 o):=Hj hfb
 have hfal:fa.im.length≤24000:=by rw[hfa];exact Nat.le_trans (fout_il _ _ _) hol
 have HP8:=Hj ((hb8.block P hP7).trans HP7.out)
 have hP8:P<w8.heap.size:=by have:=hb8.size;omega
 have HO8:=Hj ((hb8.block O hO7).trans HO7.out)
 have hO8:O<w8.heap.size:=by have:=hb8.size;omega
 clear hU hfa hfb hb8 HU7 HP7 HO7 hP7 hO7 p_0 p_1 p_2 p_3 p_4 p_5 p_6 o_0 o_1 o_2 o_3 o_4
 go_upto_region 7 with (fail)
 have ez:(w8.alloc (.cells #[.int .i64 fa.en,.int .i64 fa.st,.int .i64 fa.er,(.slice ia1 fa.im.length ia2),(.slice ea1 fa.ef.length ea2)] 61)).heap.size=w8.heap.size+1:=by simp
 have EZ:=Hj ez
 clear ez
 rw[←EZ.out]
 clear EZ
 obtain ⟨A,hA⟩:∃P,P=w8.heap.size:=⟨_,rfl⟩
 obtain ⟨w9,hw9⟩:∃X,X=w8.alloc (.cells #[.int .i64 fa.en,.int .i64 fa.st,.int .i64 fa.er,(.slice ia1 fa.im.length ia2),(.slice ea1 fa.ef.length ea2)] 61):=⟨_,rfl⟩
 rw[←hw9,←hA]
 have hb9:Below w8.heap.size w8 w9:=by rw[hw9];exact (Br _ w8).alloc (Nr _) _
 have hs9:=hb9.size
 have HA9:Hid (w9.heap[A]? =some (.cells #[.int .i64 fa.en,.int .i64 fa.st,.int .i64 fa.er,(.slice ia1 fa.im.length ia2),(.slice ea1 fa.ef.length ea2)] 61 (0,0))):=Hj (by rw[hw9,hA];exact heap_alloc_new w8 _)
 have hA9:A<w9.heap.size:=(Al HA9.out)
 have HU9:=Hj (HU8.out.own hb9 [A] (fun q hq=>by rw[M1' hq];exact ⟨by omega,hA9⟩))
 have HP9:=Hj ((hb9.block P hP8).trans HP8.out)
 have hP9:P<w9.heap.size:=by omega
 have HO9:=Hj ((hb9.block O hO8).trans HO8.out)
 have hO9:O<w9.heap.size:=by omega
 have hneA:w8.heap.size≤A:=by omega
 clear hb9 hw9 hA HU8 hs9 HP8 hP8 HO8 hO8
 obtain ⟨B,hB⟩:∃P,P=w9.heap.size:=⟨_,rfl⟩
 obtain ⟨w10,hw10⟩:∃X,X=w9.alloc (.cells #[.int .i64 fb.en,.int .i64 fb.st,.int .i64 fb.er,(.slice ib1 fb.im.length ib2),(.slice eb1 fb.ef.length eb2)] 61):=⟨_,rfl⟩
 rw[←hw10,←hB]
 have hb10:Below w9.heap.size w9 w10:=by rw[hw10];exact (Br _ w9).alloc (Nr _) _
 have hs10:=hb10.size
 have HB10:Hid (w10.heap[B]? =some (.cells #[.int .i64 fb.en,.int .i64 fb.st,.int .i64 fb.er,(.slice ib1 fb.im.length ib2),(.slice eb1 fb.ef.length eb2)] 61 (0,0))):=Hj (by rw[hw10,hB];exact heap_alloc_new w9 _)
 have hB10:B<w10.heap.size:=(Al HB10.out)
 have HU10:=Hj (HU9.out.own hb10 [B] (fun q hq=>by rw[M1' hq];exact ⟨by omega,hB10⟩))
 have HP10:=Hj ((hb10.block P hP9).trans HP9.out)
 have hP10:P<w10.heap.size:=by omega
 have HO10:=Hj ((hb10.block O hO9).trans HO9.out)
 have hO10:O<w10.heap.size:=by omega
 have HA10:=Hj ((hb10.block A hA9).trans HA9.out)
 have hA10:A<w10.heap.size:=by omega
 have hneB:w9.heap.size≤B:=by omega
 clear hb10 hw10 hB HU9 hs10 HP9 hP9 HO9 hO9 HA9 hA9
 obtain ⟨rows,hrows⟩:∃r,r=[(Value.slice ia1 fa.im.length ia2,fa.im),(Value.slice ea1 fa.ef.length ea2,fa.ef),(Value.slice ib1 fb.im.length ib2,fb.im),(Value.slice eb1 fb.ef.length eb2,fb.ef),(Value.slice io1 o.im.length io2,o.im),(Value.slice eo1 o.ef.length eo2,o.ef)]:=⟨_,rfl⟩
 have m1:(Value.slice ia1 fa.im.length ia2,fa.im)∈rows:=by rw[hrows];simp
 have m2:(Value.slice ea1 fa.ef.length ea2,fa.ef)∈rows:=by rw[hrows];simp
 have m3:(Value.slice ib1 fb.im.length ib2,fb.im)∈rows:=by rw[hrows];simp
 have m4:(Value.slice eb1 fb.ef.length eb2,fb.ef)∈rows:=by rw[hrows];simp
 have m5:(Value.slice io1 o.im.length io2,o.im)∈rows:=by rw[hrows];simp
 have m6:(Value.slice eo1 o.ef.length eo2,o.ef)∈rows:=by rw[hrows];simp
 have HUa:Hid (ULL w u axx axs rows [B,A,O,P] w10):=Hj (by rw[hrows];exact HU10.out)
 clear hrows HU10
 go_cut [7,8] from 32 to 40 (fun s7 s8 wx=>∃(V:Nat) (r:FR),r=finU axx axs axp 16 1 fa fb true∧s7= .pointer (some ⟨V,0,none⟩)∧s8= .int .i64 r.e∧wx.heap[V]? =some (.cells #[.int .i64 r.c,.int .i64 r.st] 68 (0,0))∧ULL w u r.x r.s rows (V::[B,A,O,P]) wx∧∀z∈[B,A,O,P],wx.heap[z]? =w10.heap[z]?)
 case first=>
  have hBl:∀z∈[P,A,B],∃c e f,w10.heap[z]? =some (.cells c e f):=fun z hz=>by
   simp only[List.mem_cons,List.not_mem_nil,or_false] at hz
   rcases hz with rfl | rfl | rfl
   ·exact ⟨_,_,_,HP10.out⟩
   ·exact ⟨_,_,_,HA10.out⟩
   exact ⟨_,_,_,HB10.out⟩
  refine Ty.wp_tree [P,A,B] [1,3,4] [10] [1,3,4] [0,1,3,4] (.alt [2] (.alt [5,6,7,8] (.alt [9] (.alt [10,11] (.done) (.no)) (.no)) (.alt [9] (.alt [5,6,7,8] (.alt [10,11] (.done) (.no)) (.no)) (.no))) (.alt [9] (.alt [2] (.alt [5,6,7,8] (.alt [10,11] (.done) (.no)) (.no)) (.no)) (.no))) (by kernel_rfl) (by kernel_rfl) (by kernel_rfl) (by kernel_rfl) hBl ?_
  obtain ⟨y0,hy0⟩:∃y,y=w10.drew:=⟨_,rfl⟩
  rw[←hy0]
  have hd:Below w10.heap.size w10 y0:=by rw[hy0];exact (Br _ _).drew
  have hBl:∀z∈[P,A,B],∃c e f,y0.heap[z]? =some (.cells c e f):=by rw[hy0];exact hBl
  have HU0:=Hj (HUa.out.below hd)
  have HB0:Hid (∀q∈[B,A,O,P],y0.heap[q]? =w10.heap[q]?):=Hj (fun q hq=>by rw[hy0];rfl)
  have HL0:Hid (∀q∈[B,A,O,P],q<y0.heap.size):=Hj (fun q hq=>(HU0.out.2.choose_spec.choose_spec.choose_spec.choose_spec.choose_spec.choose_spec.2.2.2.2.1 q hq).1)
  have hwy:w.heap.size≤y0.heap.size:=HU0.out.1.size
  have HF0:Hid _:=Hj ((HB0.out P (by simp)).trans HP10.out)
  have HF1:Hid _:=Hj ((HB0.out A (by simp)).trans HA10.out)
  have HF2:Hid _:=Hj ((HB0.out B (by simp)).trans HB10.out)
  have p_0:y0.cell? ⟨P,0,none⟩=some (.int .i64 6):=Bo HF0.out rfl
  have p_1:y0.cell? ⟨P,1,none⟩=some (.int .i64 1):=Bo HF0.out rfl
  have p_2:y0.cell? ⟨P,2,none⟩=some (.int .i64 1):=Bo HF0.out rfl
  have p_3:y0.cell? ⟨P,3,none⟩=some (.int .i64 1):=Bo HF0.out rfl
  have p_4:y0.cell? ⟨P,4,none⟩=some (.int .i64 0):=Bo HF0.out rfl
  have p_5:y0.cell? ⟨P,5,none⟩=some (.int .i64 0):=Bo HF0.out rfl
  have p_6:y0.cell? ⟨P,6,none⟩=some (.int .i64 0):=Bo HF0.out rfl
  have a_0:y0.cell? ⟨A,0,none⟩=some (.int .i64 fa.en):=Bo HF1.out rfl
  have a_1:y0.cell? ⟨A,1,none⟩=some (.int .i64 fa.st):=Bo HF1.out rfl
  have a_2:y0.cell? ⟨A,2,none⟩=some (.int .i64 fa.er):=Bo HF1.out rfl
  have a_3:y0.cell? ⟨A,3,none⟩=some (.slice ia1 fa.im.length ia2):=Bo HF1.out rfl
  have a_4:y0.cell? ⟨A,4,none⟩=some (.slice ea1 fa.ef.length ea2):=Bo HF1.out rfl
  have b_0:y0.cell? ⟨B,0,none⟩=some (.int .i64 fb.en):=Bo HF2.out rfl
  have b_1:y0.cell? ⟨B,1,none⟩=some (.int .i64 fb.st):=Bo HF2.out rfl
  have b_2:y0.cell? ⟨B,2,none⟩=some (.int .i64 fb.er):=Bo HF2.out rfl
  have b_3:y0.cell? ⟨B,3,none⟩=some (.slice ib1 fb.im.length ib2):=Bo HF2.out rfl
  have b_4:y0.cell? ⟨B,4,none⟩=some (.slice eb1 fb.ef.length eb2):=Bo HF2.out rfl
  clear hy0 hd
  try simp only[pick,Gs,Gz]
  go_wp2
  refine Rm ?_
  refine Wa ?_ (Wa ?_ Ty.wpTr_no)
  ·try simp only[pick,Gs,Gz]
   go_wp2_with fail
   refine (message_any 1 y0).mono ?_
   rintro e y1 ⟨rfl,hb⟩
   have hz1:=hb.size
   have HU1:=Hj (HU0.out.below hb)
   have HB1:=Hj (fun q (hq:q∈[B,A,O,P])=>(hb.block q (HL0.out q hq)).trans (HB0.out q hq))
   have HL1:=Hj (fun q (hq:q∈[B,A,O,P])=>Nat.lt_of_lt_of_le (HL0.out q hq) hz1)
   clear hb
   go_wp2
   have HS1:Hid (SameB [P,A,B] y0 y1):=Hj (fun q hq=>by
    have h:=HB1.out q (by simp at hq⊢;rcases hq with h | h | h <;> simp[h])
    rw[←HB0.out q (by simp at hq⊢;rcases hq with h | h | h <;> simp[h])] at h
    obtain ⟨c,e,f,hc⟩:=hBl q hq
    exact ⟨⟨c,e,f,h.trans hc⟩,h⟩)
   refine Sm (Ss HS1.out) ?_
   try simp only[pick,Gs,Gz]
   go_wp2
   refine Rm ?_
   refine Wa ?_ (Wa ?_ Ty.wpTr_no)
   ·try simp only[pick,Gs,Gz]
    go_wp2_with fail
    refine (ull_finish HU1.out axp fa fb _ _ _ _ 16 6 6 1 0 0 0 0 _ true rfl (by decide) (by decide) (by omega) (by omega) (by decide) (by decide) hfal m1 m2 m3 m4).mono ?_
    rintro e y2 ⟨r,hr,rfl,hU,hB⟩
    have HR:=Hj hr
    have HU2:=Hj hU
    have hz2:True:=trivial
    have HB2:=Hj (fun q (hq:q∈[B,A,O,P])=>(hB q (by simp at hq⊢;exact hq)).trans (HB1.out q hq))
    have HL2:=Hj (fun q (hq:q∈[B,A,O,P])=>(hU.2.choose_spec.choose_spec.choose_spec.choose_spec.choose_spec.choose_spec.2.2.2.2.1 q (by simp at hq⊢;exact hq)).1)
    clear hr hU hB
    go_wp2
    have HS2:Hid (SameB [P,A,B] y0 y2):=Hj (fun q hq=>by
     have h:=HB2.out q (by simp at hq⊢;rcases hq with h | h | h <;> simp[h])
     rw[←HB0.out q (by simp at hq⊢;rcases hq with h | h | h <;> simp[h])] at h
     obtain ⟨c,e,f,hc⟩:=hBl q hq
     exact ⟨⟨c,e,f,h.trans hc⟩,h⟩)
    refine Sm (Ss HS2.out) ?_
    try simp only[pick,Gs,Gz]
    go_wp2
    refine Rm ?_
    refine Wq ?_
    try simp only[pick,Gs,Gz]
    go_wp2
    obtain ⟨V,hV⟩:∃A,A=y2.heap.size:=⟨_,rfl⟩
    obtain ⟨y3,hw⟩:∃X,X=y2.alloc (.cells #[.int .i64 0,.int .i64 0] 68):=⟨_,rfl⟩
    rw[←hw,←hV]
    have hb:Below y2.heap.size y2 y3:=by rw[hw];exact (Br _ y2).alloc (Nr _) _
    have hz3:=hb.size
    have HV3:Hid (y3.heap[V]? =some (.cells #[.int .i64 0,.int .i64 0] 68 (0,0))):=Hj (by rw[hw,hV];exact heap_alloc_new _ _)
    have hVl3:V<y3.heap.size:=(Al HV3.out)
    have hVg:y2.heap.size≤V:=by omega
    have HU3:=Hj (HU2.out.own hb [V] (fun q hq=>by rw[M1' hq];exact ⟨hVg,hVl3⟩))
    have HB3:=Hj (fun q (hq:q∈[B,A,O,P])=>(hb.block q (HL2.out q hq)).trans (HB2.out q hq))
    have HL3:=Hj (fun q (hq:q∈[B,A,O,P])=>Nat.lt_of_lt_of_le (HL2.out q hq) hz3)
    have HVn:Hid (∀q∈[B,A,O,P],q≠V):=Hj (fun q hq e=>by have:=HL2.out q hq;omega)
    have hwV:w.heap.size≤V:=by have:=HU2.out.1.size;omega
    clear hw hb hV
    have HS3:Hid (SameB [P,A,B] y0 y3):=Hj (fun q hq=>by
     have h:=HB3.out q (by simp at hq⊢;rcases hq with h | h | h <;> simp[h])
     rw[←HB0.out q (by simp at hq⊢;rcases hq with h | h | h <;> simp[h])] at h
     obtain ⟨c,e,f,hc⟩:=hBl q hq
     exact ⟨⟨c,e,f,h.trans hc⟩,h⟩)
    refine Sm (Ss HS3.out) ?_
    try simp only[pick,Gs,Gz]
    go_wp2
    refine Rm ?_
    refine Wq ?_
    try simp only[pick,Gs,Gz]
    have v0:=Bj HV3.out 0 rfl
    have v1:=Bj HV3.out 1 rfl
    have g0:=Bf HV3.out 0
    have g1:=Bf HV3.out 1
    go_wp2
    clear v0 v1 g0 g1
    obtain ⟨YR,hN⟩:∃X,X=((y3.setCell ⟨V,0,none⟩ (.int .i64 r.c)).setCell ⟨V,1,none⟩ (.int .i64 r.st)):=⟨_,rfl⟩
    rw[←hN]
    obtain ⟨hNb,hNk⟩:=puts_at [(0,.int .i64 r.c),(1,.int .i64 r.st)] HV3.out
    have hNe:puts y3 V [(0,.int .i64 r.c),(1,.int .i64 r.st)]=YR:=hN.symm
    have hNz:=puts_size [(0,.int .i64 r.c),(1,.int .i64 r.st)] y3 V
    rw[hNe] at hNb hNk hNz
    have HKr:=Hj hNk
    have HZr:=Hj hNz
    have HVe:Hid (YR.heap[V]? =some (.cells #[.int .i64 r.c,.int .i64 r.st] 68 (0,0))):=Hj hNb
    have HUe:=Hj (HU3.out.putV (z:=V) (by simp) hwV ⟨_,_,HV3.out⟩ hNk)
    have HBe:=Hj (fun q (hq:q∈[B,A,O,P])=>(hNk.block q (HL3.out q hq) (fun hm=>HVn.out q hq (M1' hm))).trans (HB3.out q hq))
    clear hN hNb hNk hNe hNz
    refine Sm (Ty.Shown.last rfl) ?_
    try simp only[pick,Gs,Gz]
    go_wp2
    refine Rm ?_
    refine Wd (by rfl) ⟨.head _,.tail _ (.head _),.tail _ (.tail _ (.head _)),trivial⟩ ?_
    go_wp2
    go_meet
    case rel=>exact ⟨V,r,HR.out,rfl,rfl,HVe.out,HUe.out,HBe.out⟩
   try simp only[pick,Gs,Gz]
   go_wp2
   obtain ⟨V,hV⟩:∃A,A=y1.heap.size:=⟨_,rfl⟩
   obtain ⟨y2,hw⟩:∃X,X=y1.alloc (.cells #[.int .i64 0,.int .i64 0] 68):=⟨_,rfl⟩
   rw[←hw,←hV]
   have hb:Below y1.heap.size y1 y2:=by rw[hw];exact (Br _ y1).alloc (Nr _) _
   have hz2:=hb.size
   have HV2:Hid (y2.heap[V]? =some (.cells #[.int .i64 0,.int .i64 0] 68 (0,0))):=Hj (by rw[hw,hV];exact heap_alloc_new _ _)
   have hVl2:V<y2.heap.size:=(Al HV2.out)
   have hVg:y1.heap.size≤V:=by omega
   have HU2:=Hj (HU1.out.own hb [V] (fun q hq=>by rw[M1' hq];exact ⟨hVg,hVl2⟩))
   have HB2:=Hj (fun q (hq:q∈[B,A,O,P])=>(hb.block q (HL1.out q hq)).trans (HB1.out q hq))
   have HL2:=Hj (fun q (hq:q∈[B,A,O,P])=>Nat.lt_of_lt_of_le (HL1.out q hq) hz2)
   have HVn:Hid (∀q∈[B,A,O,P],q≠V):=Hj (fun q hq e=>by have:=HL1.out q hq;omega)
   have hwV:w.heap.size≤V:=by have:=HU1.out.1.size;omega
   clear hw hb hV
   have HS2:Hid (SameB [P,A,B] y0 y2):=Hj (fun q hq=>by
    have h:=HB2.out q (by simp at hq⊢;rcases hq with h | h | h <;> simp[h])
    rw[←HB0.out q (by simp at hq⊢;rcases hq with h | h | h <;> simp[h])] at h
    obtain ⟨c,e,f,hc⟩:=hBl q hq
    exact ⟨⟨c,e,f,h.trans hc⟩,h⟩)
   refine Sm (Ss HS2.out) ?_
   try simp only[pick,Gs,Gz]
   go_wp2
   refine Rm ?_
   refine Wq ?_
   try simp only[pick,Gs,Gz]
   go_wp2_with fail
   refine (ull_finish HU2.out axp fa fb _ _ _ _ 16 6 6 1 0 0 0 0 _ true rfl (by decide) (by decide) (by omega) (by omega) (by decide) (by decide) hfal m1 m2 m3 m4).mono ?_
   rintro e y3 ⟨r,hr,rfl,hU,hB⟩
   have HR:=Hj hr
   have HU3:=Hj hU
   have hz3:True:=trivial
   have HB3:=Hj (fun q (hq:q∈[B,A,O,P])=>(hB q (by simp at hq⊢;exact .inr hq)).trans (HB2.out q hq))
   have HL3:=Hj (fun q (hq:q∈[B,A,O,P])=>(hU.2.choose_spec.choose_spec.choose_spec.choose_spec.choose_spec.choose_spec.2.2.2.2.1 q (by simp at hq⊢;exact .inr hq)).1)
   have HV3:=Hj ((hB V (by simp)).trans HV2.out)
   clear hr hU hB
   go_wp2
   have HS3:Hid (SameB [P,A,B] y0 y3):=Hj (fun q hq=>by
    have h:=HB3.out q (by simp at hq⊢;rcases hq with h | h | h <;> simp[h])
    rw[←HB0.out q (by simp at hq⊢;rcases hq with h | h | h <;> simp[h])] at h
    obtain ⟨c,e,f,hc⟩:=hBl q hq
    exact ⟨⟨c,e,f,h.trans hc⟩,h⟩)
   refine Sm (Ss HS3.out) ?_
   try simp only[pick,Gs,Gz]
   go_wp2
   refine Rm ?_
   refine Wq ?_
   try simp only[pick,Gs,Gz]
   have v0:=Bj HV3.out 0 rfl
   have v1:=Bj HV3.out 1 rfl
   have g0:=Bf HV3.out 0
   have g1:=Bf HV3.out 1
   go_wp2
   clear v0 v1 g0 g1
   obtain ⟨YR,hN⟩:∃X,X=((y3.setCell ⟨V,0,none⟩ (.int .i64 r.c)).setCell ⟨V,1,none⟩ (.int .i64 r.st)):=⟨_,rfl⟩
   rw[←hN]
   obtain ⟨hNb,hNk⟩:=puts_at [(0,.int .i64 r.c),(1,.int .i64 r.st)] HV3.out
   have hNe:puts y3 V [(0,.int .i64 r.c),(1,.int .i64 r.st)]=YR:=hN.symm
   have hNz:=puts_size [(0,.int .i64 r.c),(1,.int .i64 r.st)] y3 V
   rw[hNe] at hNb hNk hNz
   have HKr:=Hj hNk
   have HZr:=Hj hNz
   have HVe:Hid (YR.heap[V]? =some (.cells #[.int .i64 r.c,.int .i64 r.st] 68 (0,0))):=Hj hNb
   have HUe:=Hj (HU3.out.putV (z:=V) (by simp) hwV ⟨_,_,HV3.out⟩ hNk)
   have HBe:=Hj (fun q (hq:q∈[B,A,O,P])=>(hNk.block q (HL3.out q hq) (fun hm=>HVn.out q hq (M1' hm))).trans (HB3.out q hq))
   clear hN hNb hNk hNe hNz
   refine Sm (Ty.Shown.last rfl) ?_
   try simp only[pick,Gs,Gz]
   go_wp2
   refine Rm ?_
   refine Wd (by rfl) ⟨.head _,.tail _ (.head _),.tail _ (.tail _ (.head _)),trivial⟩ ?_
   go_wp2
   go_meet
   case rel=>exact ⟨V,r,HR.out,rfl,rfl,HVe.out,HUe.out,HBe.out⟩
  try simp only[pick,Gs,Gz]
  go_wp2
  obtain ⟨V,hV⟩:∃A,A=y0.heap.size:=⟨_,rfl⟩
  obtain ⟨y1,hw⟩:∃X,X=y0.alloc (.cells #[.int .i64 0,.int .i64 0] 68):=⟨_,rfl⟩
  rw[←hw,←hV]
  have hb:Below y0.heap.size y0 y1:=by rw[hw];exact (Br _ y0).alloc (Nr _) _
  have hz1:=hb.size
  have HV1:Hid (y1.heap[V]? =some (.cells #[.int .i64 0,.int .i64 0] 68 (0,0))):=Hj (by rw[hw,hV];exact heap_alloc_new _ _)
  have hVl1:V<y1.heap.size:=(Al HV1.out)
  have hVg:y0.heap.size≤V:=by omega
  have HU1:=Hj (HU0.out.own hb [V] (fun q hq=>by rw[M1' hq];exact ⟨hVg,hVl1⟩))
  have HB1:=Hj (fun q (hq:q∈[B,A,O,P])=>(hb.block q (HL0.out q hq)).trans (HB0.out q hq))
  have HL1:=Hj (fun q (hq:q∈[B,A,O,P])=>Nat.lt_of_lt_of_le (HL0.out q hq) hz1)
  have HVn:Hid (∀q∈[B,A,O,P],q≠V):=Hj (fun q hq e=>by have:=HL0.out q hq;omega)
  have hwV:w.heap.size≤V:=by have:=HU0.out.1.size;omega
  clear hw hb hV
  have HS1:Hid (SameB [P,A,B] y0 y1):=Hj (fun q hq=>by
   have h:=HB1.out q (by simp at hq⊢;rcases hq with h | h | h <;> simp[h])
   rw[←HB0.out q (by simp at hq⊢;rcases hq with h | h | h <;> simp[h])] at h
   obtain ⟨c,e,f,hc⟩:=hBl q hq
   exact ⟨⟨c,e,f,h.trans hc⟩,h⟩)
  refine Sm (Ss HS1.out) ?_
  try simp only[pick,Gs,Gz]
  go_wp2
  refine Rm ?_
  refine Wq ?_
  try simp only[pick,Gs,Gz]
  go_wp2_with fail
  refine (message_any 1 y1).mono ?_
  rintro e y2 ⟨rfl,hb⟩
  have hz2:=hb.size
  have HU2:=Hj (HU1.out.below hb)
  have HB2:=Hj (fun q (hq:q∈[B,A,O,P])=>(hb.block q (HL1.out q hq)).trans (HB1.out q hq))
  have HL2:=Hj (fun q (hq:q∈[B,A,O,P])=>Nat.lt_of_lt_of_le (HL1.out q hq) hz2)
  have HV2:=Hj ((hb.block V (by have:=(Al HV1.out);omega)).trans HV1.out)
  clear hb
  go_wp2
  have HS2:Hid (SameB [P,A,B] y0 y2):=Hj (fun q hq=>by
   have h:=HB2.out q (by simp at hq⊢;rcases hq with h | h | h <;> simp[h])
   rw[←HB0.out q (by simp at hq⊢;rcases hq with h | h | h <;> simp[h])] at h
   obtain ⟨c,e,f,hc⟩:=hBl q hq
   exact ⟨⟨c,e,f,h.trans hc⟩,h⟩)
  refine Sm (Ss HS2.out) ?_
  try simp only[pick,Gs,Gz]
  go_wp2
  refine Rm ?_
  refine Wq ?_
  try simp only[pick,Gs,Gz]
  go_wp2_with fail
  refine (ull_finish HU2.out axp fa fb _ _ _ _ 16 6 6 1 0 0 0 0 _ true rfl (by decide) (by decide) (by omega) (by omega) (by decide) (by decide) hfal m1 m2 m3 m4).mono ?_
  rintro e y3 ⟨r,hr,rfl,hU,hB⟩
  have HR:=Hj hr
  have HU3:=Hj hU
  have hz3:True:=trivial
  have HB3:=Hj (fun q (hq:q∈[B,A,O,P])=>(hB q (by simp at hq⊢;exact .inr hq)).trans (HB2.out q hq))
  have HL3:=Hj (fun q (hq:q∈[B,A,O,P])=>(hU.2.choose_spec.choose_spec.choose_spec.choose_spec.choose_spec.choose_spec.2.2.2.2.1 q (by simp at hq⊢;exact .inr hq)).1)
  have HV3:=Hj ((hB V (by simp)).trans HV2.out)
  clear hr hU hB
  go_wp2
  have HS3:Hid (SameB [P,A,B] y0 y3):=Hj (fun q hq=>by
   have h:=HB3.out q (by simp at hq⊢;rcases hq with h | h | h <;> simp[h])
   rw[←HB0.out q (by simp at hq⊢;rcases hq with h | h | h <;> simp[h])] at h
   obtain ⟨c,e,f,hc⟩:=hBl q hq
   exact ⟨⟨c,e,f,h.trans hc⟩,h⟩)
  refine Sm (Ss HS3.out) ?_
  try simp only[pick,Gs,Gz]
  go_wp2
  refine Rm ?_
  refine Wq ?_
  try simp only[pick,Gs,Gz]
  have v0:=Bj HV3.out 0 rfl
  have v1:=Bj HV3.out 1 rfl
  have g0:=Bf HV3.out 0
  have g1:=Bf HV3.out 1
  go_wp2
  clear v0 v1 g0 g1
  obtain ⟨YR,hN⟩:∃X,X=((y3.setCell ⟨V,0,none⟩ (.int .i64 r.c)).setCell ⟨V,1,none⟩ (.int .i64 r.st)):=⟨_,rfl⟩
  rw[←hN]
  obtain ⟨hNb,hNk⟩:=puts_at [(0,.int .i64 r.c),(1,.int .i64 r.st)] HV3.out
  have hNe:puts y3 V [(0,.int .i64 r.c),(1,.int .i64 r.st)]=YR:=hN.symm
  have hNz:=puts_size [(0,.int .i64 r.c),(1,.int .i64 r.st)] y3 V
  rw[hNe] at hNb hNk hNz
  have HKr:=Hj hNk
  have HZr:=Hj hNz
  have HVe:Hid (YR.heap[V]? =some (.cells #[.int .i64 r.c,.int .i64 r.st] 68 (0,0))):=Hj hNb
  have HUe:=Hj (HU3.out.putV (z:=V) (by simp) hwV ⟨_,_,HV3.out⟩ hNk)
  have HBe:=Hj (fun q (hq:q∈[B,A,O,P])=>(hNk.block q (HL3.out q hq) (fun hm=>HVn.out q hq (M1' hm))).trans (HB3.out q hq))
  clear hN hNb hNk hNe hNz
  refine Sm (Ty.Shown.last rfl) ?_
  try simp only[pick,Gs,Gz]
  go_wp2
  refine Rm ?_
  refine Wd (by rfl) ⟨.head _,.tail _ (.head _),.tail _ (.tail _ (.head _)),trivial⟩ ?_
  go_wp2
  go_meet
  case rel=>exact ⟨V,r,HR.out,rfl,rfl,HVe.out,HUe.out,HBe.out⟩
 case rest=>
  obtain ⟨V1,r1,hr1,rfl,rfl,hV1,hU,hB⟩:=hcut
  have hr1':r1=⟨downed axx axf.st,axs,1,axf.st,0⟩:=by rw[←axf_eq,hr1,HFA.out,HFB.out,HO.out];rfl
  obtain ⟨st,hst⟩:∃st,st=axf.st:=⟨_,rfl⟩
  rw[←hst] at hr1'
  subst hr1'
  clear hr1 hst
  have HU11:Hid (ULL w u (downed axx st) axs rows [V1,B,A,O,P] wc):=Hj hU
  have HV11:Hid (wc.heap[V1]? =some (.cells #[.int .i64 1,.int .i64 st] 68 (0,0))):=Hj hV1
  have HP11:=Hj ((hB P (by simp)).trans HP10.out)
  have HO11:=Hj ((hB O (by simp)).trans HO10.out)
  clear hV1 hU hB HUa HP10 HO10 HA10 HB10 HFA HFB m1 m2 m3 m4 hfal
  obtain ⟨x3,hx3⟩:∃x,x=(rstU (downed axx st) axs 0).1:=⟨_,rfl⟩
  have e3:(rstU (downed axx st) axs 0).2=(2,0):=rfl
  go_wp2_with fail
  refine (ull_restart HU11.out 0 (show 0≤(2:Int)∧(2:Int)≤1000000 by decide)).mono ?_
  rintro e w12 ⟨r,hr,rfl,hU,hB⟩
  subst hr
  rw[e3]
  rw[←hx3] at hU
  have HU12:=Hj hU
  have HV12:=Hj ((hB V1 (by simp)).trans HV11.out)
  have HP12:=Hj ((hB P (by simp)).trans HP11.out)
  have HO12:=Hj ((hB O (by simp)).trans HO11.out)
  have HX3:=Hj hx3
  have h3n:0≤x3.num∧x3.num≤1000000:=by rw[hx3];exact (by decide:0≤(1:Int)∧(1:Int)≤1000000)
  have h3a:0≤x3.att∧x3.att≤1000000:=by rw[hx3];exact (by decide:0≤(2:Int)∧(2:Int)≤1000000)
  have h3l:x3.led.length≤1000:=by rw[hx3];exact (by decide:0≤1000)
  clear hU hB hx3 e3 HU11 HV11 HP11 HO11
  go_upto_region 9 with (fail)
  go_cut [11,12] from 46 to 54 (fun s11 s12 wx=>∃(V:Nat) (r:FR),r=finU x3 axs axp 16 1 o o true∧s11= .pointer (some ⟨V,0,none⟩)∧s12= .int .i64 r.e∧wx.heap[V]? =some (.cells #[.int .i64 r.c,.int .i64 r.st] 68 (0,0))∧ULL w u r.x r.s rows (V::[V1,B,A,O,P]) wx∧∀z∈[V1,B,A,O,P],wx.heap[z]? =w12.heap[z]?)
  case first=>
   have hBl:∀z∈[P,O],∃c e f,w12.heap[z]? =some (.cells c e f):=fun z hz=>by
    simp only[List.mem_cons,List.not_mem_nil,or_false] at hz
    rcases hz with rfl | rfl
    ·exact ⟨_,_,_,HP12.out⟩
    exact ⟨_,_,_,HO12.out⟩
   refine Ty.wp_tree [P,O] [1,3,4] [10] [1,3,4] [0,1,3,4] (.alt [2] (.alt [5,6,7,8] (.alt [9] (.alt [10,11] (.done) (.no)) (.no)) (.alt [9] (.alt [5,6,7,8] (.alt [10,11] (.done) (.no)) (.no)) (.no))) (.alt [9] (.alt [2] (.alt [5,6,7,8] (.alt [10,11] (.done) (.no)) (.no)) (.no)) (.no))) (by kernel_rfl) (by kernel_rfl) (by kernel_rfl) (by kernel_rfl) hBl ?_
   obtain ⟨y0,hy0⟩:∃y,y=w12.drew:=⟨_,rfl⟩
   rw[←hy0]
   have hd:Below w12.heap.size w12 y0:=by rw[hy0];exact (Br _ _).drew
   have hBl:∀z∈[P,O],∃c e f,y0.heap[z]? =some (.cells c e f):=by rw[hy0];exact hBl
   have HU0:=Hj (HU12.out.below hd)
   have HB0:Hid (∀q∈[V1,B,A,O,P],y0.heap[q]? =w12.heap[q]?):=Hj (fun q hq=>by rw[hy0];rfl)
   have HL0:Hid (∀q∈[V1,B,A,O,P],q<y0.heap.size):=Hj (fun q hq=>(HU0.out.2.choose_spec.choose_spec.choose_spec.choose_spec.choose_spec.choose_spec.2.2.2.2.1 q hq).1)
   have hwy:w.heap.size≤y0.heap.size:=HU0.out.1.size
   have HF0:Hid _:=Hj ((HB0.out P (by simp)).trans HP12.out)
   have HF1:Hid _:=Hj ((HB0.out O (by simp)).trans HO12.out)
   have p_0:y0.cell? ⟨P,0,none⟩=some (.int .i64 6):=Bo HF0.out rfl
   have p_1:y0.cell? ⟨P,1,none⟩=some (.int .i64 1):=Bo HF0.out rfl
   have p_2:y0.cell? ⟨P,2,none⟩=some (.int .i64 1):=Bo HF0.out rfl
   have p_3:y0.cell? ⟨P,3,none⟩=some (.int .i64 1):=Bo HF0.out rfl
   have p_4:y0.cell? ⟨P,4,none⟩=some (.int .i64 0):=Bo HF0.out rfl
   have p_5:y0.cell? ⟨P,5,none⟩=some (.int .i64 0):=Bo HF0.out rfl
   have p_6:y0.cell? ⟨P,6,none⟩=some (.int .i64 0):=Bo HF0.out rfl
   have a_0:y0.cell? ⟨O,0,none⟩=some (.int .i64 o.en):=Bo HF1.out rfl
   have a_1:y0.cell? ⟨O,1,none⟩=some (.int .i64 o.st):=Bo HF1.out rfl
   have a_2:y0.cell? ⟨O,2,none⟩=some (.int .i64 o.er):=Bo HF1.out rfl
   have a_3:y0.cell? ⟨O,3,none⟩=some (.slice io1 o.im.length io2):=Bo HF1.out rfl
   have a_4:y0.cell? ⟨O,4,none⟩=some (.slice eo1 o.ef.length eo2):=Bo HF1.out rfl
   clear hy0 hd
   try simp only[pick,Gs,Gz]
   go_wp2
   refine Rm ?_
   refine Wa ?_ (Wa ?_ Ty.wpTr_no)
   ·try simp only[pick,Gs,Gz]
    go_wp2_with fail
    refine (message_any 1 y0).mono ?_
    rintro e y1 ⟨rfl,hb⟩
    have hz1:=hb.size
    have HU1:=Hj (HU0.out.below hb)
    have HB1:=Hj (fun q (hq:q∈[V1,B,A,O,P])=>(hb.block q (HL0.out q hq)).trans (HB0.out q hq))
    have HL1:=Hj (fun q (hq:q∈[V1,B,A,O,P])=>Nat.lt_of_lt_of_le (HL0.out q hq) hz1)
    clear hb
    go_wp2
    have HS1:Hid (SameB [P,O] y0 y1):=Hj (fun q hq=>by
     have h:=HB1.out q (by simp at hq⊢;rcases hq with h | h <;> simp[h])
     rw[←HB0.out q (by simp at hq⊢;rcases hq with h | h <;> simp[h])] at h
     obtain ⟨c,e,f,hc⟩:=hBl q hq
     exact ⟨⟨c,e,f,h.trans hc⟩,h⟩)
    refine Sm (Ss HS1.out) ?_
    try simp only[pick,Gs,Gz]
    go_wp2
    refine Rm ?_
    refine Wa ?_ (Wa ?_ Ty.wpTr_no)
    ·try simp only[pick,Gs,Gz]
     go_wp2_with fail
     refine (ull_finish HU1.out axp o o _ _ _ _ 16 6 6 1 0 0 0 0 _ true rfl (by decide) h3l (by omega) (by omega) h3n h3a hol m5 m6 m5 m6).mono ?_
     rintro e y2 ⟨r,hr,rfl,hU,hB⟩
     have HR:=Hj hr
     have HU2:=Hj hU
     have hz2:True:=trivial
     have HB2:=Hj (fun q (hq:q∈[V1,B,A,O,P])=>(hB q (by simp at hq⊢;exact hq)).trans (HB1.out q hq))
     have HL2:=Hj (fun q (hq:q∈[V1,B,A,O,P])=>(hU.2.choose_spec.choose_spec.choose_spec.choose_spec.choose_spec.choose_spec.2.2.2.2.1 q (by simp at hq⊢;exact hq)).1)
     clear hr hU hB
     go_wp2
     have HS2:Hid (SameB [P,O] y0 y2):=Hj (fun q hq=>by
      have h:=HB2.out q (by simp at hq⊢;rcases hq with h | h <;> simp[h])
      rw[←HB0.out q (by simp at hq⊢;rcases hq with h | h <;> simp[h])] at h
      obtain ⟨c,e,f,hc⟩:=hBl q hq
      exact ⟨⟨c,e,f,h.trans hc⟩,h⟩)
     refine Sm (Ss HS2.out) ?_
     try simp only[pick,Gs,Gz]
     go_wp2
     refine Rm ?_
     refine Wq ?_
     try simp only[pick,Gs,Gz]
     go_wp2
     obtain ⟨V,hV⟩:∃A,A=y2.heap.size:=⟨_,rfl⟩
     obtain ⟨y3,hw⟩:∃X,X=y2.alloc (.cells #[.int .i64 0,.int .i64 0] 68):=⟨_,rfl⟩
     rw[←hw,←hV]
     have hb:Below y2.heap.size y2 y3:=by rw[hw];exact (Br _ y2).alloc (Nr _) _
     have hz3:=hb.size
     have HV3:Hid (y3.heap[V]? =some (.cells #[.int .i64 0,.int .i64 0] 68 (0,0))):=Hj (by rw[hw,hV];exact heap_alloc_new _ _)
     have hVl3:V<y3.heap.size:=(Al HV3.out)
     have hVg:y2.heap.size≤V:=by omega
     have HU3:=Hj (HU2.out.own hb [V] (fun q hq=>by rw[M1' hq];exact ⟨hVg,hVl3⟩))
     have HB3:=Hj (fun q (hq:q∈[V1,B,A,O,P])=>(hb.block q (HL2.out q hq)).trans (HB2.out q hq))
     have HL3:=Hj (fun q (hq:q∈[V1,B,A,O,P])=>Nat.lt_of_lt_of_le (HL2.out q hq) hz3)
     have HVn:Hid (∀q∈[V1,B,A,O,P],q≠V):=Hj (fun q hq e=>by have:=HL2.out q hq;omega)
     have hwV:w.heap.size≤V:=by have:=HU2.out.1.size;omega
     clear hw hb hV
     have HS3:Hid (SameB [P,O] y0 y3):=Hj (fun q hq=>by
      have h:=HB3.out q (by simp at hq⊢;rcases hq with h | h <;> simp[h])
      rw[←HB0.out q (by simp at hq⊢;rcases hq with h | h <;> simp[h])] at h
      obtain ⟨c,e,f,hc⟩:=hBl q hq
      exact ⟨⟨c,e,f,h.trans hc⟩,h⟩)
     refine Sm (Ss HS3.out) ?_
     try simp only[pick,Gs,Gz]
     go_wp2
     refine Rm ?_
     refine Wq ?_
     try simp only[pick,Gs,Gz]
     have v0:=Bj HV3.out 0 rfl
     have v1:=Bj HV3.out 1 rfl
     have g0:=Bf HV3.out 0
     have g1:=Bf HV3.out 1
     go_wp2
     clear v0 v1 g0 g1
     obtain ⟨YR,hN⟩:∃X,X=((y3.setCell ⟨V,0,none⟩ (.int .i64 r.c)).setCell ⟨V,1,none⟩ (.int .i64 r.st)):=⟨_,rfl⟩
     rw[←hN]
     obtain ⟨hNb,hNk⟩:=puts_at [(0,.int .i64 r.c),(1,.int .i64 r.st)] HV3.out
     have hNe:puts y3 V [(0,.int .i64 r.c),(1,.int .i64 r.st)]=YR:=hN.symm
     have hNz:=puts_size [(0,.int .i64 r.c),(1,.int .i64 r.st)] y3 V
     rw[hNe] at hNb hNk hNz
     have HKr:=Hj hNk
     have HZr:=Hj hNz
     have HVe:Hid (YR.heap[V]? =some (.cells #[.int .i64 r.c,.int .i64 r.st] 68 (0,0))):=Hj hNb
     have HUe:=Hj (HU3.out.putV (z:=V) (by simp) hwV ⟨_,_,HV3.out⟩ hNk)
     have HBe:=Hj (fun q (hq:q∈[V1,B,A,O,P])=>(hNk.block q (HL3.out q hq) (fun hm=>HVn.out q hq (M1' hm))).trans (HB3.out q hq))
     clear hN hNb hNk hNe hNz
     refine Sm (Ty.Shown.last rfl) ?_
     try simp only[pick,Gs,Gz]
     go_wp2
     refine Rm ?_
     refine Wd (by rfl) ⟨.head _,.tail _ (.head _),.tail _ (.head _),trivial⟩ ?_
     go_wp2
     go_meet
     case rel=>exact ⟨V,r,HR.out,rfl,rfl,HVe.out,HUe.out,HBe.out⟩
    try simp only[pick,Gs,Gz]
    go_wp2
    obtain ⟨V,hV⟩:∃A,A=y1.heap.size:=⟨_,rfl⟩
    obtain ⟨y2,hw⟩:∃X,X=y1.alloc (.cells #[.int .i64 0,.int .i64 0] 68):=⟨_,rfl⟩
    rw[←hw,←hV]
    have hb:Below y1.heap.size y1 y2:=by rw[hw];exact (Br _ y1).alloc (Nr _) _
    have hz2:=hb.size
    have HV2:Hid (y2.heap[V]? =some (.cells #[.int .i64 0,.int .i64 0] 68 (0,0))):=Hj (by rw[hw,hV];exact heap_alloc_new _ _)
    have hVl2:V<y2.heap.size:=(Al HV2.out)
    have hVg:y1.heap.size≤V:=by omega
    have HU2:=Hj (HU1.out.own hb [V] (fun q hq=>by rw[M1' hq];exact ⟨hVg,hVl2⟩))
    have HB2:=Hj (fun q (hq:q∈[V1,B,A,O,P])=>(hb.block q (HL1.out q hq)).trans (HB1.out q hq))
    have HL2:=Hj (fun q (hq:q∈[V1,B,A,O,P])=>Nat.lt_of_lt_of_le (HL1.out q hq) hz2)
    have HVn:Hid (∀q∈[V1,B,A,O,P],q≠V):=Hj (fun q hq e=>by have:=HL1.out q hq;omega)
    have hwV:w.heap.size≤V:=by have:=HU1.out.1.size;omega
    clear hw hb hV
    have HS2:Hid (SameB [P,O] y0 y2):=Hj (fun q hq=>by
     have h:=HB2.out q (by simp at hq⊢;rcases hq with h | h <;> simp[h])
     rw[←HB0.out q (by simp at hq⊢;rcases hq with h | h <;> simp[h])] at h
     obtain ⟨c,e,f,hc⟩:=hBl q hq
     exact ⟨⟨c,e,f,h.trans hc⟩,h⟩)
    refine Sm (Ss HS2.out) ?_
    try simp only[pick,Gs,Gz]
    go_wp2
    refine Rm ?_
    refine Wq ?_
    try simp only[pick,Gs,Gz]
    go_wp2_with fail
    refine (ull_finish HU2.out axp o o _ _ _ _ 16 6 6 1 0 0 0 0 _ true rfl (by decide) h3l (by omega) (by omega) h3n h3a hol m5 m6 m5 m6).mono ?_
    rintro e y3 ⟨r,hr,rfl,hU,hB⟩
    have HR:=Hj hr
    have HU3:=Hj hU
    have hz3:True:=trivial
    have HB3:=Hj (fun q (hq:q∈[V1,B,A,O,P])=>(hB q (by simp at hq⊢;exact .inr hq)).trans (HB2.out q hq))
    have HL3:=Hj (fun q (hq:q∈[V1,B,A,O,P])=>(hU.2.choose_spec.choose_spec.choose_spec.choose_spec.choose_spec.choose_spec.2.2.2.2.1 q (by simp at hq⊢;exact .inr hq)).1)
    have HV3:=Hj ((hB V (by simp)).trans HV2.out)
    clear hr hU hB
    go_wp2
    have HS3:Hid (SameB [P,O] y0 y3):=Hj (fun q hq=>by
     have h:=HB3.out q (by simp at hq⊢;rcases hq with h | h <;> simp[h])
     rw[←HB0.out q (by simp at hq⊢;rcases hq with h | h <;> simp[h])] at h
     obtain ⟨c,e,f,hc⟩:=hBl q hq
     exact ⟨⟨c,e,f,h.trans hc⟩,h⟩)
    refine Sm (Ss HS3.out) ?_
    try simp only[pick,Gs,Gz]
    go_wp2
    refine Rm ?_
    refine Wq ?_
    try simp only[pick,Gs,Gz]
    have v0:=Bj HV3.out 0 rfl
    have v1:=Bj HV3.out 1 rfl
    have g0:=Bf HV3.out 0
    have g1:=Bf HV3.out 1
    go_wp2
    clear v0 v1 g0 g1
    obtain ⟨YR,hN⟩:∃X,X=((y3.setCell ⟨V,0,none⟩ (.int .i64 r.c)).setCell ⟨V,1,none⟩ (.int .i64 r.st)):=⟨_,rfl⟩
    rw[←hN]
    obtain ⟨hNb,hNk⟩:=puts_at [(0,.int .i64 r.c),(1,.int .i64 r.st)] HV3.out
    have hNe:puts y3 V [(0,.int .i64 r.c),(1,.int .i64 r.st)]=YR:=hN.symm
    have hNz:=puts_size [(0,.int .i64 r.c),(1,.int .i64 r.st)] y3 V
    rw[hNe] at hNb hNk hNz
    have HKr:=Hj hNk
    have HZr:=Hj hNz
    have HVe:Hid (YR.heap[V]? =some (.cells #[.int .i64 r.c,.int .i64 r.st] 68 (0,0))):=Hj hNb
    have HUe:=Hj (HU3.out.putV (z:=V) (by simp) hwV ⟨_,_,HV3.out⟩ hNk)
    have HBe:=Hj (fun q (hq:q∈[V1,B,A,O,P])=>(hNk.block q (HL3.out q hq) (fun hm=>HVn.out q hq (M1' hm))).trans (HB3.out q hq))
    clear hN hNb hNk hNe hNz
    refine Sm (Ty.Shown.last rfl) ?_
    try simp only[pick,Gs,Gz]
    go_wp2
    refine Rm ?_
    refine Wd (by rfl) ⟨.head _,.tail _ (.head _),.tail _ (.head _),trivial⟩ ?_
    go_wp2
    go_meet
    case rel=>exact ⟨V,r,HR.out,rfl,rfl,HVe.out,HUe.out,HBe.out⟩
   try simp only[pick,Gs,Gz]
   go_wp2
   obtain ⟨V,hV⟩:∃A,A=y0.heap.size:=⟨_,rfl⟩
   obtain ⟨y1,hw⟩:∃X,X=y0.alloc (.cells #[.int .i64 0,.int .i64 0] 68):=⟨_,rfl⟩
   rw[←hw,←hV]
   have hb:Below y0.heap.size y0 y1:=by rw[hw];exact (Br _ y0).alloc (Nr _) _
   have hz1:=hb.size
   have HV1:Hid (y1.heap[V]? =some (.cells #[.int .i64 0,.int .i64 0] 68 (0,0))):=Hj (by rw[hw,hV];exact heap_alloc_new _ _)
   have hVl1:V<y1.heap.size:=(Al HV1.out)
   have hVg:y0.heap.size≤V:=by omega
   have HU1:=Hj (HU0.out.own hb [V] (fun q hq=>by rw[M1' hq];exact ⟨hVg,hVl1⟩))
   have HB1:=Hj (fun q (hq:q∈[V1,B,A,O,P])=>(hb.block q (HL0.out q hq)).trans (HB0.out q hq))
   have HL1:=Hj (fun q (hq:q∈[V1,B,A,O,P])=>Nat.lt_of_lt_of_le (HL0.out q hq) hz1)
   have HVn:Hid (∀q∈[V1,B,A,O,P],q≠V):=Hj (fun q hq e=>by have:=HL0.out q hq;omega)
   have hwV:w.heap.size≤V:=by have:=HU0.out.1.size;omega
   clear hw hb hV
   have HS1:Hid (SameB [P,O] y0 y1):=Hj (fun q hq=>by
    have h:=HB1.out q (by simp at hq⊢;rcases hq with h | h <;> simp[h])
    rw[←HB0.out q (by simp at hq⊢;rcases hq with h | h <;> simp[h])] at h
    obtain ⟨c,e,f,hc⟩:=hBl q hq
    exact ⟨⟨c,e,f,h.trans hc⟩,h⟩)
   refine Sm (Ss HS1.out) ?_
   try simp only[pick,Gs,Gz]
   go_wp2
   refine Rm ?_
   refine Wq ?_
   try simp only[pick,Gs,Gz]
   go_wp2_with fail
   refine (message_any 1 y1).mono ?_
   rintro e y2 ⟨rfl,hb⟩
   have hz2:=hb.size
   have HU2:=Hj (HU1.out.below hb)
   have HB2:=Hj (fun q (hq:q∈[V1,B,A,O,P])=>(hb.block q (HL1.out q hq)).trans (HB1.out q hq))
   have HL2:=Hj (fun q (hq:q∈[V1,B,A,O,P])=>Nat.lt_of_lt_of_le (HL1.out q hq) hz2)
   have HV2:=Hj ((hb.block V (by have:=(Al HV1.out);omega)).trans HV1.out)
   clear hb
   go_wp2
   have HS2:Hid (SameB [P,O] y0 y2):=Hj (fun q hq=>by
    have h:=HB2.out q (by simp at hq⊢;rcases hq with h | h <;> simp[h])
    rw[←HB0.out q (by simp at hq⊢;rcases hq with h | h <;> simp[h])] at h
    obtain ⟨c,e,f,hc⟩:=hBl q hq
    exact ⟨⟨c,e,f,h.trans hc⟩,h⟩)
   refine Sm (Ss HS2.out) ?_
   try simp only[pick,Gs,Gz]
   go_wp2
   refine Rm ?_
   refine Wq ?_
   try simp only[pick,Gs,Gz]
   go_wp2_with fail
   refine (ull_finish HU2.out axp o o _ _ _ _ 16 6 6 1 0 0 0 0 _ true rfl (by decide) h3l (by omega) (by omega) h3n h3a hol m5 m6 m5 m6).mono ?_
   rintro e y3 ⟨r,hr,rfl,hU,hB⟩
   have HR:=Hj hr
   have HU3:=Hj hU
   have hz3:True:=trivial
   have HB3:=Hj (fun q (hq:q∈[V1,B,A,O,P])=>(hB q (by simp at hq⊢;exact .inr hq)).trans (HB2.out q hq))
   have HL3:=Hj (fun q (hq:q∈[V1,B,A,O,P])=>(hU.2.choose_spec.choose_spec.choose_spec.choose_spec.choose_spec.choose_spec.2.2.2.2.1 q (by simp at hq⊢;exact .inr hq)).1)
   have HV3:=Hj ((hB V (by simp)).trans HV2.out)
   clear hr hU hB
   go_wp2
   have HS3:Hid (SameB [P,O] y0 y3):=Hj (fun q hq=>by
    have h:=HB3.out q (by simp at hq⊢;rcases hq with h | h <;> simp[h])
    rw[←HB0.out q (by simp at hq⊢;rcases hq with h | h <;> simp[h])] at h
    obtain ⟨c,e,f,hc⟩:=hBl q hq
    exact ⟨⟨c,e,f,h.trans hc⟩,h⟩)
   refine Sm (Ss HS3.out) ?_
   try simp only[pick,Gs,Gz]
   go_wp2
   refine Rm ?_
   refine Wq ?_
   try simp only[pick,Gs,Gz]
   have v0:=Bj HV3.out 0 rfl
   have v1:=Bj HV3.out 1 rfl
   have g0:=Bf HV3.out 0
   have g1:=Bf HV3.out 1
   go_wp2
   clear v0 v1 g0 g1
   obtain ⟨YR,hN⟩:∃X,X=((y3.setCell ⟨V,0,none⟩ (.int .i64 r.c)).setCell ⟨V,1,none⟩ (.int .i64 r.st)):=⟨_,rfl⟩
   rw[←hN]
   obtain ⟨hNb,hNk⟩:=puts_at [(0,.int .i64 r.c),(1,.int .i64 r.st)] HV3.out
   have hNe:puts y3 V [(0,.int .i64 r.c),(1,.int .i64 r.st)]=YR:=hN.symm
   have hNz:=puts_size [(0,.int .i64 r.c),(1,.int .i64 r.st)] y3 V
   rw[hNe] at hNb hNk hNz
   have HKr:=Hj hNk
   have HZr:=Hj hNz
   have HVe:Hid (YR.heap[V]? =some (.cells #[.int .i64 r.c,.int .i64 r.st] 68 (0,0))):=Hj hNb
   have HUe:=Hj (HU3.out.putV (z:=V) (by simp) hwV ⟨_,_,HV3.out⟩ hNk)
   have HBe:=Hj (fun q (hq:q∈[V1,B,A,O,P])=>(hNk.block q (HL3.out q hq) (fun hm=>HVn.out q hq (M1' hm))).trans (HB3.out q hq))
   clear hN hNb hNk hNe hNz
   refine Sm (Ty.Shown.last rfl) ?_
   try simp only[pick,Gs,Gz]
   go_wp2
   refine Rm ?_
   refine Wd (by rfl) ⟨.head _,.tail _ (.head _),.tail _ (.head _),trivial⟩ ?_
   go_wp2
   go_meet
   case rel=>exact ⟨V,r,HR.out,rfl,rfl,HVe.out,HUe.out,HBe.out⟩
  case rest=>
   obtain ⟨V2,r2,hr2,rfl,rfl,hV2,hU,hB⟩:=hcut
   have hr2':r2.c=0∧r2.e=0∧r2.s.image=[2]∧r2.x.i0=2∧r2.x.i1=3:=by
    rw[hr2,HX3.out,HO.out];exact ⟨rfl,rfl,rfl,rfl,rfl⟩
   obtain ⟨k1,k2,k3,k4,k5⟩:=hr2'
   have HU13:=Hj hU
   have HV13:=Hj ((hB V1 (by simp)).trans HV12.out)
   have HW13:=Hj hV2
   rw[k1] at HW13
   rw[k2]
   have hz1:V1<wc.heap.size:=(Al HV13.out)
   have hz2:V2<wc.heap.size:=(Al HW13.out)
   clear hr2 hV2 hU hB HU12 HV12 HP12 HO12
   have v_0:wc.cell? ⟨V1,0,none⟩=some (.int .i64 1):=Bo HV13.out rfl
   have v_1:wc.cell? ⟨V1,1,none⟩=some (.int .i64 st):=Bo HV13.out rfl
   go_wp2_with fail
   refine (ull_inst HU13.out).mono ?_
   rw[k4,k5]
   rintro e w14 ⟨rfl,hb,hU⟩
   have HU14:=Hj hU
   have HW14:=Hj ((hb.block V2 hz2).trans HW13.out)
   clear hb hU HV13 v_0 v_1
   have v_0:w14.cell? ⟨V2,0,none⟩=some (.int .i64 0):=Bo HW14.out rfl
   have v_1:w14.cell? ⟨V2,1,none⟩=some (.int .i64 r2.st):=Bo HW14.out rfl
   have hg57:=eg57
   go_wp2_with fail
   refine (ull_image HU14.out).mono ?_
   rintro e w15 ⟨ja,jc,rfl,hb,hU⟩
   have HU15:=Hj hU
   have RS:=run_str (hU.bytes (v:= .slice ja r2.s.image.length jc) (l:=r2.s.image) (by simp)) 22 5 9 Tryz.underlying22 Tryz.underlying5 Tryz.underlying9
   rw[k3] at RS
   rw[k3]
   have RS:(convert 22 9 (.slice ja 1 jc)).run Tryz.prog w15= .ok (.string (strOf [2])) w15:=RS
   obtain ⟨sv,hsv⟩:∃sv,sv=strOf [2]:=⟨_,rfl⟩
   have hsl:(sv.toList==[2])=true:=by rw[hsv,show (strOf [2]).toList=[2] from ByteArray.toList_mk [2]];rfl
   rw[←hsv] at RS
   clear hsv
   have hL:=Hj hU.1
   clear hb hU v_0 v_1
   go_wp2
   go_ret
   exact ⟨rfl,hL.out⟩
end Go.Proofs.YtipiofgdjbogiaaGreat
