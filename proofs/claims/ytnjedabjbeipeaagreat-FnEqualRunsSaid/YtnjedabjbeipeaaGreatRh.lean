/-
  Adding an AND node to a net, by abstract walks: the program.
  Conditions: those typed in each theorem.
-/
import Derived.Test.YtnjedabjbeipeaaGreatRa
namespace Go.Proofs.YtnjedabjbeipeaaGreat
open Go.RowKit Go.ChangeShapes Go.WideShapes
set_option linter.unusedSimpArgs false
set_option linter.unusedVariables false
set_option maxRecDepth 100000
set_option maxHeartbeats 10000000
theorem Ds (I fa:Int) (a b:Int) (hI:0≤I∧I≤20) (hfa:1+I=fa) (ha:0≤a∧a≤1048576) (hb:0≤b∧b≤1048576) (h:A8 ([]:List Ai) a b=false) :
 CG Tryz.prog 49 [.ptr 0 0,.d (.int .i64 a),.d (.int .i64 b)] [.var 28 [.d (.int .i64 I),.nil 57,.nil 63,.nil 3]] (.d (.int .i64 (AZ fa ([]:List Ai) a b))) [.var 28 [.d (.int .i64 I),.nil 57,.nil 63,.nil 3]]:=by
 have hV:AZ fa ([]:List Ai) a b=if En a b=true then E9 a b else if Ey ([]:List Ai) (HN a b,GD a b)<([]:List Ai).length then 2*(fa+Ey ([]:List Ai) (HN a b,GD a b)) else if ([]:List Ai).length<300 then 2*(fa+([]:List Ai).length) else -1:=rfl;have hM:A8 ([]:List Ai) a b=(!En a b&&decide (¬ Ey ([]:List Ai) (HN a b,GD a b)<([]:List Ai).length)&&decide (([]:List Ai).length<300)):=rfl;generalize AZ fa ([]:List Ai) a b=R at *;rw[h] at hM;have hx1:(if b<a then b else a)=HN a b:=rfl;have hx2:(if a<b then b else a)=GD a b:=rfl;have hT:En a b=(decide (a=0)||decide (b=0)||decide (Bl a 1=b)||decide (a=1)||decide (a=b)||decide (b=1)):=rfl;have hTv:E9 a b=if a=0∨b=0∨Bl a 1=b then 0 else if a=1∨a=b then b else a:=rfl;generalize HN a b=mn at *;generalize GD a b=mx at *;refine BA (by kernel_rfl) Tryz.func49 rfl rfl rfl (by simp[Bi,Later]) (by simp[BN,Ah.live]) ?_;obtain⟨xa,hxa⟩:∃ xa,Bl a 1=xa:=⟨_,rfl⟩;rw[hxa] at hT hTv;by_cases h0:a=0
 · have q0:(a==0)=true:=by simpa using h0
   have hR:R=0:=by rw[hV,if_pos (by rw[hT];simp[h0,q0]),hTv];split<;>(try split)<;>omega
   subst hR;simp[eq_true h0,q0,hxa];exact⟨[0],by simp⟩
 have q0:(a==0)=false:=by simpa using h0
 by_cases h1:b=0
 · have q1:(b==0)=true:=by simpa using h1
   have hR:R=0:=by rw[hV,if_pos (by rw[hT];simp[h0,q0,h1,q1]),hTv];split<;>(try split)<;>omega
   subst hR;simp[h0,q0,eq_true h1,q1,hxa];exact⟨[0],by simp⟩
 have q1:(b==0)=false:=by simpa using h1
 by_cases h2:xa=b
 · have q2:(xa==b)=true:=by simpa using h2
   have hR:R=0:=by rw[hV,if_pos (by rw[hT];simp[h0,q0,h1,q1,h2,q2]),hTv];split<;>(try split)<;>omega
   subst hR;simp[h0,q0,h1,q1,eq_true h2,q2,hxa];exact⟨[0],by simp⟩
 have q2:(xa==b)=false:=by simpa using h2
 by_cases h3:a=1
 · have q3:(a==1)=true:=by simpa using h3
   have hR:R=b:=by rw[hV,if_pos (by rw[hT];simp[h0,q0,h1,q1,h2,q2,h3,q3]),hTv];split<;>(try split)<;>omega
   subst hR;simp[h0,q0,h1,q1,h2,q2,eq_true h3,q3,hxa];exact⟨[0],by simp⟩
 have q3:(a==1)=false:=by simpa using h3
 by_cases h4:a=b
 · have q4:(a==b)=true:=by simpa using h4
   have hR:R=b:=by rw[hV,if_pos (by rw[hT];simp[h0,q0,h1,q1,h2,q2,h3,q3,h4,q4]),hTv];split<;>(try split)<;>omega
   subst hR;simp[h0,q0,h1,q1,h2,q2,h3,q3,eq_true h4,q4,hxa];exact⟨[0],by simp⟩
 have q4:(a==b)=false:=by simpa using h4
 by_cases h5:b=1
 · have q5:(b==1)=true:=by simpa using h5
   have hR:R=a:=by rw[hV,if_pos (by rw[hT];simp[h0,q0,h1,q1,h2,q2,h3,q3,h4,q4,h5,q5]),hTv];split<;>(try split)<;>omega
   subst hR;simp[h0,q0,h1,q1,h2,q2,h3,q3,h4,q4,eq_true h5,q5,hxa];exact⟨[0],by simp⟩
 have q5:(b==1)=false:=by simpa using h5
 have hTf:En a b=false:=by rw[hT];simp[h0,h1,h2,h3,h4,h5]
 rw[hTf] at hM hV;rw[if_neg (by simp)] at hV;simp only[Bool.not_false,Bool.true_and] at hM;simp[q0,q1,q2,q3,q4,q5,h0,h1,h2,h3,h4,h5,hxa,hx1,hx2];refine AB [true,false,false,false,false,false,false,true,false,false,false,false,false,false,false,false,false,false,false,false,false,false,false,false,false,false,false,false,false,false,false,false,false,false,false,false,false,false,false,false,false,false,false,false,false,false,true,true,true] (fun i:Nat=>i≤([]:List Ai).length∧∀ j:Nat,j<i→([]:List Ai)[j]?≠some (mn,mx)) (fun i:Nat=>[(48,.d (.int .i64 i))]) (fun i:Nat=>[]) (fun i:Nat=>([]:List Ai).length - i) 0 ?_ ?_ ?_
 · exact⟨Nat.zero_le _,fun j h=>by omega⟩
 · exact⟨[0,1],by simp⟩
 rintro J S μ hJ hS hμ i ⟨hi,hpre⟩;obtain rfl:i=0:=by simpa using hi
 have hlt:¬ (0:Nat)<([]:List Ai).length:=by simp
 have hf:¬ Ey ([]:List Ai) (mn,mx)<([]:List Ai).length:=by simp
 rw[if_neg hf] at hV;exfalso;simp at hM
theorem DO (I fa:Int) (a b:Int) (hI:0≤I∧I≤20) (hfa:1+I=fa) (ha:0≤a∧a≤1048576) (hb:0≤b∧b≤1048576) (h:A8 ([]:List Ai) a b=true) :
 CG Tryz.prog 49 [.ptr 0 0,.d (.int .i64 a),.d (.int .i64 b)] [.var 28 [.d (.int .i64 I),.nil 57,.nil 63,.nil 3]] (.d (.int .i64 (AZ fa ([]:List Ai) a b))) [.var 28 [.d (.int .i64 I),.nil 57,.ref 1,.nil 3],.arr 63 true ((Ar ([]:List Ai) a b).map At)]:=by
 have hV:AZ fa ([]:List Ai) a b=if En a b=true then E9 a b else if Ey ([]:List Ai) (HN a b,GD a b)<([]:List Ai).length then 2*(fa+Ey ([]:List Ai) (HN a b,GD a b)) else if ([]:List Ai).length<300 then 2*(fa+([]:List Ai).length) else -1:=rfl;have hM:A8 ([]:List Ai) a b=(!En a b&&decide (¬ Ey ([]:List Ai) (HN a b,GD a b)<([]:List Ai).length)&&decide (([]:List Ai).length<300)):=rfl;generalize AZ fa ([]:List Ai) a b=R at *;rw[h] at hM;have hN:Ar ([]:List Ai) a b=([]:List Ai)++[(HN a b,GD a b)]:=by unfold Ar;rw[if_pos h]
 rw[hN];have hx1:(if b<a then b else a)=HN a b:=rfl;have hx2:(if a<b then b else a)=GD a b:=rfl;have hT:En a b=(decide (a=0)||decide (b=0)||decide (Bl a 1=b)||decide (a=1)||decide (a=b)||decide (b=1)):=rfl;have hTv:E9 a b=if a=0∨b=0∨Bl a 1=b then 0 else if a=1∨a=b then b else a:=rfl;generalize HN a b=mn at *;generalize GD a b=mx at *;refine BA (by kernel_rfl) Tryz.func49 rfl rfl rfl (by simp[Bi,Later]) (by simp[BN,Ah.live]) ?_;obtain⟨xa,hxa⟩:∃ xa,Bl a 1=xa:=⟨_,rfl⟩;rw[hxa] at hT hTv;by_cases h0:a=0
 · have q0:(a==0)=true:=by simpa using h0
   exfalso;rw[hT] at hM;simp[h0] at hM
 have q0:(a==0)=false:=by simpa using h0
 by_cases h1:b=0
 · have q1:(b==0)=true:=by simpa using h1
   exfalso;rw[hT] at hM;simp[h0,h1] at hM
 have q1:(b==0)=false:=by simpa using h1
 by_cases h2:xa=b
 · have q2:(xa==b)=true:=by simpa using h2
   exfalso;rw[hT] at hM;simp[h0,h1,h2] at hM
 have q2:(xa==b)=false:=by simpa using h2
 by_cases h3:a=1
 · have q3:(a==1)=true:=by simpa using h3
   exfalso;rw[hT] at hM;simp[h0,h1,h2,h3] at hM
 have q3:(a==1)=false:=by simpa using h3
 by_cases h4:a=b
 · have q4:(a==b)=true:=by simpa using h4
   exfalso;rw[hT] at hM;simp[h0,h1,h2,h3,h4] at hM
 have q4:(a==b)=false:=by simpa using h4
 by_cases h5:b=1
 · have q5:(b==1)=true:=by simpa using h5
   exfalso;rw[hT] at hM;simp[h0,h1,h2,h3,h4,h5] at hM
 have q5:(b==1)=false:=by simpa using h5
 have hTf:En a b=false:=by rw[hT];simp[h0,h1,h2,h3,h4,h5]
 rw[hTf] at hM hV;rw[if_neg (by simp)] at hV;simp only[Bool.not_false,Bool.true_and] at hM;simp[q0,q1,q2,q3,q4,q5,h0,h1,h2,h3,h4,h5,hxa,hx1,hx2];refine AB [true,false,false,false,false,false,false,true,false,false,false,false,false,false,false,false,false,false,false,false,false,false,false,false,false,false,false,false,false,false,false,false,false,false,false,false,false,false,false,false,false,false,false,false,false,false,true,true,true] (fun i:Nat=>i≤([]:List Ai).length∧∀ j:Nat,j<i→([]:List Ai)[j]?≠some (mn,mx)) (fun i:Nat=>[(48,.d (.int .i64 i))]) (fun i:Nat=>[]) (fun i:Nat=>([]:List Ai).length - i) 0 ?_ ?_ ?_
 · exact⟨Nat.zero_le _,fun j h=>by omega⟩
 · exact⟨[0,1],by simp⟩
 rintro J S μ hJ hS hμ i ⟨hi,hpre⟩;obtain rfl:i=0:=by simpa using hi
 have hlt:¬ (0:Nat)<([]:List Ai).length:=by simp
 have hf:¬ Ey ([]:List Ai) (mn,mx)<([]:List Ai).length:=by simp
 rw[if_neg hf] at hV;rw[if_pos (by simp)] at hV;simp;refine Av [(7,[0]),(8,[]),(9,[]),(10,[])] (by kernel_rfl) ?_;simp;refine Ak D0 rfl (by simp) rfl (by simp) (by simp) (by first | (simp;done)|(simp;omega)) (by simp[AR,AL]) ?_;simp;have hnc:=Df (I,([]:List Cr),([]:List Ai)++[(mn,mx)],[]) hI (by simp) (by simp);have hcnt:1+I+(([]:List Cr).length:Int)+((([]:List Ai)++[(mn,mx)]).length:Int)=fa+([]:List Ai).length+1:=by simp;omega
 simp only at hnc;rw[hcnt] at hnc;simp only[Ge,Ao,e4,Dh,ABe,List.map_cons,List.map_nil,List.nil_append,At,e2,AC] at hnc;have w4:IntKind.i64.wrap (fa+(([]:List Ai).length:Int)+1 - 1)=fa+([]:List Ai).length:=by rw[Ad (by first | omega|(simp;omega)) (by first | omega|(simp;omega))];omega
 have w5:IntKind.i64.wrap (2*(fa+(([]:List Ai).length:Int)))=2*(fa+([]:List Ai).length):=Ad (by first | omega|(simp;omega)) (by first | omega|(simp;omega));have w6:IntKind.i64.wrap (fa+(([]:List Ai).length:Int))=fa+([]:List Ai).length:=Ad (by first | omega|(simp;omega)) (by first | omega|(simp;omega));generalize fa+(([]:List Ai).length:Int)=q at *;refine Ab (hnc) ?_;simp[w4,w5,w6];exact⟨[0,3],by simp[hV,At,e2,AC]⟩
theorem B1 (I fa:Int) (an:List Ai) (a b:Int) (hI:0≤I∧I≤20) (hfa:1+I=fa) (hn:an.length≤300) (ha:0≤a∧a≤1048576) (hb:0≤b∧b≤1048576) (h:A8 an a b=false) :
 CG Tryz.prog 49 [.ptr 0 0,.d (.int .i64 a),.d (.int .i64 b)] [.var 28 [.d (.int .i64 I),.nil 57,.ref 1,.nil 3],.arr 63 true ((an).map At)] (.d (.int .i64 (AZ fa an a b))) [.var 28 [.d (.int .i64 I),.nil 57,.ref 1,.nil 3],.arr 63 true ((an).map At)]:=by
 have hV:AZ fa an a b=if En a b=true then E9 a b else if Ey an (HN a b,GD a b)<an.length then 2*(fa+Ey an (HN a b,GD a b)) else if an.length<300 then 2*(fa+an.length) else -1:=rfl;have hM:A8 an a b=(!En a b&&decide (¬ Ey an (HN a b,GD a b)<an.length)&&decide (an.length<300)):=rfl;generalize AZ fa an a b=R at *;rw[h] at hM;have hx1:(if b<a then b else a)=HN a b:=rfl;have hx2:(if a<b then b else a)=GD a b:=rfl;have hT:En a b=(decide (a=0)||decide (b=0)||decide (Bl a 1=b)||decide (a=1)||decide (a=b)||decide (b=1)):=rfl;have hTv:E9 a b=if a=0∨b=0∨Bl a 1=b then 0 else if a=1∨a=b then b else a:=rfl;generalize HN a b=mn at *;generalize GD a b=mx at *;refine BA (by kernel_rfl) Tryz.func49 rfl rfl rfl (by simp[Bi,Later]) (by simp[BN,Ah.live]) ?_;obtain⟨xa,hxa⟩:∃ xa,Bl a 1=xa:=⟨_,rfl⟩;rw[hxa] at hT hTv;by_cases h0:a=0
 · have q0:(a==0)=true:=by simpa using h0
   have hR:R=0:=by rw[hV,if_pos (by rw[hT];simp[h0,q0]),hTv];split<;>(try split)<;>omega
   subst hR;simp[eq_true h0,q0,hxa];exact⟨[0,1],by simp⟩
 have q0:(a==0)=false:=by simpa using h0
 by_cases h1:b=0
 · have q1:(b==0)=true:=by simpa using h1
   have hR:R=0:=by rw[hV,if_pos (by rw[hT];simp[h0,q0,h1,q1]),hTv];split<;>(try split)<;>omega
   subst hR;simp[h0,q0,eq_true h1,q1,hxa];exact⟨[0,1],by simp⟩
 have q1:(b==0)=false:=by simpa using h1
 by_cases h2:xa=b
 · have q2:(xa==b)=true:=by simpa using h2
   have hR:R=0:=by rw[hV,if_pos (by rw[hT];simp[h0,q0,h1,q1,h2,q2]),hTv];split<;>(try split)<;>omega
   subst hR;simp[h0,q0,h1,q1,eq_true h2,q2,hxa];exact⟨[0,1],by simp⟩
 have q2:(xa==b)=false:=by simpa using h2
 by_cases h3:a=1
 · have q3:(a==1)=true:=by simpa using h3
   have hR:R=b:=by rw[hV,if_pos (by rw[hT];simp[h0,q0,h1,q1,h2,q2,h3,q3]),hTv];split<;>(try split)<;>omega
   subst hR;simp[h0,q0,h1,q1,h2,q2,eq_true h3,q3,hxa];exact⟨[0,1],by simp⟩
 have q3:(a==1)=false:=by simpa using h3
 by_cases h4:a=b
 · have q4:(a==b)=true:=by simpa using h4
   have hR:R=b:=by rw[hV,if_pos (by rw[hT];simp[h0,q0,h1,q1,h2,q2,h3,q3,h4,q4]),hTv];split<;>(try split)<;>omega
   subst hR;simp[h0,q0,h1,q1,h2,q2,h3,q3,eq_true h4,q4,hxa];exact⟨[0,1],by simp⟩
 have q4:(a==b)=false:=by simpa using h4
 by_cases h5:b=1
 · have q5:(b==1)=true:=by simpa using h5
   have hR:R=a:=by rw[hV,if_pos (by rw[hT];simp[h0,q0,h1,q1,h2,q2,h3,q3,h4,q4,h5,q5]),hTv];split<;>(try split)<;>omega
   subst hR;simp[h0,q0,h1,q1,h2,q2,h3,q3,h4,q4,eq_true h5,q5,hxa];exact⟨[0,1],by simp⟩
 have q5:(b==1)=false:=by simpa using h5
 have hTf:En a b=false:=by rw[hT];simp[h0,h1,h2,h3,h4,h5]
 rw[hTf] at hM hV;rw[if_neg (by simp)] at hV;simp only[Bool.not_false,Bool.true_and] at hM;simp[q0,q1,q2,q3,q4,q5,h0,h1,h2,h3,h4,h5,hxa,hx1,hx2];refine AB [true,false,false,false,false,false,false,true,false,false,false,false,false,false,false,false,false,false,false,false,false,false,false,false,false,false,false,false,false,false,false,false,false,false,false,false,false,false,false,false,false,false,false,false,false,false,true,true,true] (fun i:Nat=>i≤an.length∧∀ j:Nat,j<i→an[j]?≠some (mn,mx)) (fun i:Nat=>[(48,.d (.int .i64 i))]) (fun i:Nat=>[]) (fun i:Nat=>an.length - i) 0 ?_ ?_ ?_
 · exact⟨Nat.zero_le _,fun j h=>by omega⟩
 · exact⟨[0,1,2],by simp⟩
 rintro J S μ hJ hS hμ i ⟨hi,hpre⟩;by_cases hlt:i<an.length
 · have hy:an[i]? = some an[i]:=zz0 hlt;have w1:IntKind.i64.wrap ((i:Int)+1)=(i:Int)+1:=Ad (by omega) (by omega);generalize an[i]=y at *;have hL:(At y).length=2:=rfl;by_cases he:(mn,mx)=y
   · have hf:Ey an (mn,mx)=i:=Xg (by rw[hy,he]) hpre;rw[hf,if_pos hlt] at hV;subst he;have w2:IntKind.i64.wrap (fa+(i:Int))=fa+i:=Ad (by omega) (by omega);have w3:IntKind.i64.wrap (2*(fa+(i:Int)))=2*(fa+i):=Ad (by omega) (by omega);simp[zz2 hlt,hy,hL,At];refine Ab (BF (I,([]:List Cr),an,[]) hI (by simp<;>omega)) ?_;simp[Ao,hfa,w2,w3,hV];exact⟨[0,1],by simp⟩
   · have he2:(mn==y.1&&mx==y.2)=false:=by
      cases hc:(mn==y.1&&mx==y.2) with
      | false=>rfl
      | true=>simp only[Bool.and_eq_true,beq_iff_eq] at hc;exact absurd (Prod.ext hc.1 hc.2) he
     simp[zz2 hlt,hy,hL,At,he2,w1]
     exact Ae hJ hS hμ (i+1) ⟨by omega,fun j hj=>by
      by_cases hji:j=i
      · subst hji;rw[hy];exact fun e=>he (ABd e).symm
      · exact hpre j (by omega)⟩ (by omega) ⟨[0,1,2],by simp⟩
 obtain rfl:i=an.length:=by omega
 have hf:¬ Ey an (mn,mx)<an.length:=by rw[QW hpre];omega
 rw[if_neg hf] at hV
 have h6:¬ an.length<300:=by
  intro h6;rw[zz2 hf,zz2 h6] at hM;simp at hM
 rw[if_neg h6] at hV;simp[hlt,zz3 hlt,show (300:Int)≤an.length by omega,hV];exact⟨[0,1],by simp⟩
theorem Cd (I fa:Int) (an:List Ai) (a b:Int) (hI:0≤I∧I≤20) (hfa:1+I=fa) (hn:an.length≤300) (ha:0≤a∧a≤1048576) (hb:0≤b∧b≤1048576) (h:A8 an a b=true) :
 CG Tryz.prog 49 [.ptr 0 0,.d (.int .i64 a),.d (.int .i64 b)] [.var 28 [.d (.int .i64 I),.nil 57,.ref 1,.nil 3],.arr 63 true ((an).map At)] (.d (.int .i64 (AZ fa an a b))) [.var 28 [.d (.int .i64 I),.nil 57,.ref 2,.nil 3],.dead,.arr 63 true ((Ar an a b).map At)]:=by
 have hV:AZ fa an a b=if En a b=true then E9 a b else if Ey an (HN a b,GD a b)<an.length then 2*(fa+Ey an (HN a b,GD a b)) else if an.length<300 then 2*(fa+an.length) else -1:=rfl;have hM:A8 an a b=(!En a b&&decide (¬ Ey an (HN a b,GD a b)<an.length)&&decide (an.length<300)):=rfl;generalize AZ fa an a b=R at *;rw[h] at hM;have hN:Ar an a b=an++[(HN a b,GD a b)]:=by unfold Ar;rw[if_pos h]
 rw[hN];have hx1:(if b<a then b else a)=HN a b:=rfl;have hx2:(if a<b then b else a)=GD a b:=rfl;have hT:En a b=(decide (a=0)||decide (b=0)||decide (Bl a 1=b)||decide (a=1)||decide (a=b)||decide (b=1)):=rfl;have hTv:E9 a b=if a=0∨b=0∨Bl a 1=b then 0 else if a=1∨a=b then b else a:=rfl;generalize HN a b=mn at *;generalize GD a b=mx at *;refine BA (by kernel_rfl) Tryz.func49 rfl rfl rfl (by simp[Bi,Later]) (by simp[BN,Ah.live]) ?_;obtain⟨xa,hxa⟩:∃ xa,Bl a 1=xa:=⟨_,rfl⟩;rw[hxa] at hT hTv;by_cases h0:a=0
 · have q0:(a==0)=true:=by simpa using h0
   exfalso;rw[hT] at hM;simp[h0] at hM
 have q0:(a==0)=false:=by simpa using h0
 by_cases h1:b=0
 · have q1:(b==0)=true:=by simpa using h1
   exfalso;rw[hT] at hM;simp[h0,h1] at hM
 have q1:(b==0)=false:=by simpa using h1
 by_cases h2:xa=b
 · have q2:(xa==b)=true:=by simpa using h2
   exfalso;rw[hT] at hM;simp[h0,h1,h2] at hM
 have q2:(xa==b)=false:=by simpa using h2
 by_cases h3:a=1
 · have q3:(a==1)=true:=by simpa using h3
   exfalso;rw[hT] at hM;simp[h0,h1,h2,h3] at hM
 have q3:(a==1)=false:=by simpa using h3
 by_cases h4:a=b
 · have q4:(a==b)=true:=by simpa using h4
   exfalso;rw[hT] at hM;simp[h0,h1,h2,h3,h4] at hM
 have q4:(a==b)=false:=by simpa using h4
 by_cases h5:b=1
 · have q5:(b==1)=true:=by simpa using h5
   exfalso;rw[hT] at hM;simp[h0,h1,h2,h3,h4,h5] at hM
 have q5:(b==1)=false:=by simpa using h5
 have hTf:En a b=false:=by rw[hT];simp[h0,h1,h2,h3,h4,h5]
 rw[hTf] at hM hV;rw[if_neg (by simp)] at hV;simp only[Bool.not_false,Bool.true_and] at hM;simp[q0,q1,q2,q3,q4,q5,h0,h1,h2,h3,h4,h5,hxa,hx1,hx2];refine AB [true,false,false,false,false,false,false,true,false,false,false,false,false,false,false,false,false,false,false,false,false,false,false,false,false,false,false,false,false,false,false,false,false,false,false,false,false,false,false,false,false,false,false,false,false,false,true,true,true] (fun i:Nat=>i≤an.length∧∀ j:Nat,j<i→an[j]?≠some (mn,mx)) (fun i:Nat=>[(48,.d (.int .i64 i))]) (fun i:Nat=>[]) (fun i:Nat=>an.length - i) 0 ?_ ?_ ?_
 · exact⟨Nat.zero_le _,fun j h=>by omega⟩
 · exact⟨[0,1,2],by simp⟩
 rintro J S μ hJ hS hμ i ⟨hi,hpre⟩;by_cases hlt:i<an.length
 · have hy:an[i]? = some an[i]:=zz0 hlt;have w1:IntKind.i64.wrap ((i:Int)+1)=(i:Int)+1:=Ad (by omega) (by omega);generalize an[i]=y at *;have hL:(At y).length=2:=rfl;by_cases he:(mn,mx)=y
   · have hf:Ey an (mn,mx)=i:=Xg (by rw[hy,he]) hpre;exfalso;rw[hf] at hM;simp[hlt] at hM
   · have he2:(mn==y.1&&mx==y.2)=false:=by
      cases hc:(mn==y.1&&mx==y.2) with
      | false=>rfl
      | true=>simp only[Bool.and_eq_true,beq_iff_eq] at hc;exact absurd (Prod.ext hc.1 hc.2) he
     simp[zz2 hlt,hy,hL,At,he2,w1]
     exact Ae hJ hS hμ (i+1) ⟨by omega,fun j hj=>by
      by_cases hji:j=i
      · subst hji;rw[hy];exact fun e=>he (ABd e).symm
      · exact hpre j (by omega)⟩ (by omega) ⟨[0,1,2],by simp⟩
 obtain rfl:i=an.length:=by omega
 have hf:¬ Ey an (mn,mx)<an.length:=by rw[QW hpre];omega
 rw[if_neg hf] at hV;have h6:an.length<300:=by simpa [hf] using hM
 rw[if_pos h6] at hV;simp[hlt,zz3 hlt,show ¬ (300:Int)≤an.length by omega];refine Av [(7,[0]),(8,[]),(9,[]),(10,[])] (by kernel_rfl) ?_;simp;refine Ak D0 rfl (by simp) rfl (by simp) (by simp) (by first | (simp;done)|(simp;omega)) (by simp[AR,AL]) ?_;simp;have hnc:=Df (I,([]:List Cr),an++[(mn,mx)],[]) hI (by simp) (by simp;omega);have hcnt:1+I+(([]:List Cr).length:Int)+((an++[(mn,mx)]).length:Int)=fa+an.length+1:=by simp;omega
 simp only at hnc;rw[hcnt] at hnc;simp only[Ge,Ao,e4,Dh,ABe,List.map_cons,List.map_nil,List.nil_append,At,e2,AC] at hnc;have w4:IntKind.i64.wrap (fa+(an.length:Int)+1 - 1)=fa+an.length:=by rw[Ad (by first | omega|(simp;omega)) (by first | omega|(simp;omega))];omega
 have w5:IntKind.i64.wrap (2*(fa+(an.length:Int)))=2*(fa+an.length):=Ad (by first | omega|(simp;omega)) (by first | omega|(simp;omega));have w6:IntKind.i64.wrap (fa+(an.length:Int))=fa+an.length:=Ad (by first | omega|(simp;omega)) (by first | omega|(simp;omega));generalize fa+(an.length:Int)=q at *;refine Ab (hnc) ?_;simp[w4,w5,w6];exact⟨[0,1,4],by simp[hV,At,e2,AC]⟩
end Go.Proofs.YtnjedabjbeipeaaGreat
