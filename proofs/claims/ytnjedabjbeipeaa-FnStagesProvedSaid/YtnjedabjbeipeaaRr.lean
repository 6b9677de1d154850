/-
  Imports of a net into another, and the net that compares two nets, by abstract walks: the reference. Nets come back as data.
  Conditions: those typed in each theorem.
-/
import Derived.Test.YtnjedabjbeipeaaRn
namespace Go.Proofs.Ytnjedabjbeipeaa
open Go.RowKit Go.ChangeShapes Go.WideShapes
set_option linter.unusedSimpArgs false
set_option linter.unusedVariables false
set_option maxRecDepth 100000
set_option maxHeartbeats 10000000
theorem JB {x:AB} {a b:Int} (hok:Aj x=true):-1≤(FR x a b).2∧(FR x a b).2≤1000∧Aj (FR x a b).1=true:=by
 obtain⟨⟨n1,n2,n3,n4,n5,n6⟩,-,-,-⟩:=Ax hok;obtain⟨hF,hgl,hNi,hno⟩:=Bz hok;have hN:=Bn x;unfold FR;split
 · rename_i h;have ha:=AN.1 h.1;have hb:=AN.1 h.2;have hr:=BA (fa:=Aa x) (an:=x.2.2.1) (a:=a) (b:=b) (by omega) (by omega) (by omega);have h3:=Bv (a:=a) (b:=b) n4;exact⟨hr.1,by simp only;omega,WD hok (by omega) (by omega)⟩
 · exact⟨by simp,by simp,hok⟩
theorem Qp {x:AB} {a b:Int} (hok:Aj x=true):-1≤(QY x a b).2∧(QY x a b).2≤1001∧Aj (QY x a b).1=true:=by
 obtain⟨s1,s2,s3⟩:=JB (x:=x) (a:=G5 a) (b:=G5 b) hok;unfold QY;split
 · exact⟨by simp,by simp,hok⟩
 · have:=AU (v:=(FR x (G5 a) (G5 b)).2) (by omega);exact⟨by simp only;omega,by simp only;omega,s3⟩
abbrev qY (x:AB):V:=.agg [.d (.int .i64 x.1),.d (B3 31 A7 x.2.1),.d (B3 60 Ao x.2.2.1),.d (B3 3 (e1 Az) x.2.2.2)]
theorem Vm {x:AB} {a b:Int} (hok:Aj x=true):Aj (Yd x a b).1=true:=by
 obtain⟨-,-,p3⟩:=JB (x:=x) (a:=a) (b:=G5 b) hok;obtain⟨-,-,r3⟩:=JB (x:=(FR x a (G5 b)).1) (a:=G5 a) (b:=b) p3;unfold Yd W9;split
 · exact hok
 · exact (Qp r3).2.2
end Go.Proofs.Ytnjedabjbeipeaa
