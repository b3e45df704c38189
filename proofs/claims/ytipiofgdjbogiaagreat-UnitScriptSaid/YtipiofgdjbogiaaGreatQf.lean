/- unit: the bound of detect, See, the ledger of a law's transactions -/
import Derived.Test.YtipiofgdjbogiaaGreatQd
import Derived.Test.YtipiofgdjbogiaaGreatHj
namespace Go.Fa
open Go
end Go.Fa
namespace Go.Im
open Go Go.Txt Go.RowKit Go.Bs Go.Cl Go.Rw Go.Un Go.Fa
end Go.Im
namespace Go.Proofs.YtipiofgdjbogiaaGreat
open Go.Txt Go.RowKit Go.Bs Go.Cl Go.Rw Go.Un Go.Im Go.Fa Go.Wi
theorem ull_see {w0 w:World} {u:Nat} {x:Us} {s:Ps} {rows:List (Value×List UInt8)} {L:List Nat} (H:ULL w0 u x s rows L w) (ms md mk mq m0 m1 m2 m3:Int) (mv:Value) (hll:x.led.length≤1000) (hq1: -9223372036854775808≤mq) (hq2:mq≤9223372036854775807):
  Calls Tryz.prog 9 #[.pointer (some ⟨u,0,none⟩),.agg #[.int .i64 ms,.int .i64 md,.int .i64 mk,.int .i64 mq,.int .i64 m0,.int .i64 m1,.int .i64 m2,.int .i64 m3,mv]] w fun e w'=>e= .returned (.tuple #[.int .i64 (Lg.seeL x.led ms mq).2.1,.int .i64 (Lg.seeL x.led ms mq).2.2])∧Below w.heap.size w w'∧ULL w0 u x s rows L w':=by
 have H':=H
 obtain ⟨_,base,g,h,iv,rv,lv,_,_,h4,_,_,_⟩:=H'
 refine (usee_any h4 ms md mk mq m0 m1 m2 m3 mv hll hq1 hq2).mono ?_
 rintro e w' ⟨rfl,hb⟩
 exact ⟨rfl,hb,H.below hb⟩
end Go.Proofs.YtipiofgdjbogiaaGreat
