/-
  Adding an AND node to a net, by abstract walks: the program.
  Conditions: those typed in each theorem.
-/
import Derived.Test.YtnjedabjbeipeaaRa
namespace Go.Proofs.Ytnjedabjbeipeaa
open Go.RowKit Go.ChangeShapes Go.WideShapes
set_option linter.unusedSimpArgs false
set_option linter.unusedVariables false
set_option maxRecDepth 100000
set_option maxHeartbeats 10000000
theorem C8 (I fa:Int) (a b:Int) (hI:0≤I∧I≤20) (hfa:1+I=fa) (ha:0≤a∧a≤1048576) (hb:0≤b∧b≤1048576) (h:AV ([]:List Ah) a b=false) :
 BS Try.prog 79 [.ptr 0 0,.d (.int .i64 a),.d (.int .i64 b)] [.var 28 [.d (.int .i64 I),.nil 31,.nil 60,.nil 3]] (.d (.int .i64 (AG fa ([]:List Ah) a b))) [.var 28 [.d (.int .i64 I),.nil 31,.nil 60,.nil 3]]:=by
 have hV:AG fa ([]:List Ah) a b=if CM a b=true then Ey a b else if CQ ([]:List Ah) (E3 a b,Eo a b)<([]:List Ah).length then 2*(fa+CQ ([]:List Ah) (E3 a b,Eo a b)) else if ([]:List Ah).length<300 then 2*(fa+([]:List Ah).length) else -1:=rfl;have hM:AV ([]:List Ah) a b=(!CM a b&&decide (¬ CQ ([]:List Ah) (E3 a b,Eo a b)<([]:List Ah).length)&&decide (([]:List Ah).length<300)):=rfl;generalize AG fa ([]:List Ah) a b=R at *;rw[h] at hM;have hx1:(if b<a then b else a)=E3 a b:=rfl;have hx2:(if a<b then b else a)=Eo a b:=rfl;have hT:CM a b=(decide (a=0)||decide (b=0)||decide (Bd a 1=b)||decide (a=1)||decide (a=b)||decide (b=1)):=rfl;have hTv:Ey a b=if a=0∨b=0∨Bd a 1=b then 0 else if a=1∨a=b then b else a:=rfl;generalize E3 a b=mn at *;generalize Eo a b=mx at *;refine Bl (by kernel_rfl) Try.func79 rfl rfl rfl (by simp[AZ,Later]) (by simp[Bi,Ag.live]) ?_;obtain⟨xa,hxa⟩:∃ xa,Bd a 1=xa:=⟨_,rfl⟩;rw[hxa] at hT hTv;by_cases h0:a=0
 · have q0:(a==0)=true:=by simpa using h0
   have hR:R=0:=by rw[hV,if_pos (by rw[hT];simp[h0,q0]),hTv];split<;>(try split)<;>omega
   subst hR;simp[eq_true h0,q0,hxa];exact⟨[0],by simp⟩
 have q0:(a==0)=false:=by simpa using h0
 by_cases h1:b=0
 · have q1:(b==0)=true:=by simpa using h1
   have hR:R=0:=by rw[hV,if_pos (by rw[hT];simp[h0,q0,h1,q1]),hTv];split<;>(try split)<;>omega
   subst hR;simp[h0,q0,eq_true h1,q1,hxa];exact⟨[0],by simp⟩
 have q1:(b==0)=false:=by simpa using h1
 by_cases h2:xa=b
 · have q2:(xa==b)=true:=by simpa using h2
   have hR:R=0:=by rw[hV,if_pos (by rw[hT];simp[h0,q0,h1,q1,h2,q2]),hTv];split<;>(try split)<;>omega
   subst hR;simp[h0,q0,h1,q1,eq_true h2,q2,hxa];exact⟨[0],by simp⟩
 have q2:(xa==b)=false:=by simpa using h2
 by_cases h3:a=1
 · have q3:(a==1)=true:=by simpa using h3
   have hR:R=b:=by rw[hV,if_pos (by rw[hT];simp[h0,q0,h1,q1,h2,q2,h3,q3]),hTv];split<;>(try split)<;>omega
   subst hR;simp[h0,q0,h1,q1,h2,q2,eq_true h3,q3,hxa];exact⟨[0],by simp⟩
 have q3:(a==1)=false:=by simpa using h3
 by_cases h4:a=b
 · have q4:(a==b)=true:=by simpa using h4
   have hR:R=b:=by rw[hV,if_pos (by rw[hT];simp[h0,q0,h1,q1,h2,q2,h3,q3,h4,q4]),hTv];split<;>(try split)<;>omega
   subst hR;simp[h0,q0,h1,q1,h2,q2,h3,q3,eq_true h4,q4,hxa];exact⟨[0],by simp⟩
 have q4:(a==b)=false:=by simpa using h4
 by_cases h5:b=1
 · have q5:(b==1)=true:=by simpa using h5
   have hR:R=a:=by rw[hV,if_pos (by rw[hT];simp[h0,q0,h1,q1,h2,q2,h3,q3,h4,q4,h5,q5]),hTv];split<;>(try split)<;>omega
   subst hR;simp[h0,q0,h1,q1,h2,q2,h3,q3,h4,q4,eq_true h5,q5,hxa];exact⟨[0],by simp⟩
 have q5:(b==1)=false:=by simpa using h5
 have hTf:CM a b=false:=by rw[hT];simp[h0,h1,h2,h3,h4,h5]
 rw[hTf] at hM hV;rw[if_neg (by simp)] at hV;simp only[Bool.not_false,Bool.true_and] at hM;simp[q0,q1,q2,q3,q4,q5,h0,h1,h2,h3,h4,h5,hxa,hx1,hx2];refine AY [true,false,false,false,false,false,false,true,false,false,false,false,false,false,false,false,false,false,false,false,false,false,false,false,false,false,false,false,false,false,false,false,false,false,false,false,false,false,false,false,false,false,false,false,false,false,true,true,true] (fun i:Nat=>i≤([]:List Ah).length∧∀ j:Nat,j<i→([]:List Ah)[j]?≠some (mn,mx)) (fun i:Nat=>[(48,.d (.int .i64 i))]) (fun i:Nat=>[]) (fun i:Nat=>([]:List Ah).length - i) 0 ?_ ?_ ?_
 · exact⟨Nat.zero_le _,fun j h=>by omega⟩
 · exact⟨[0,1],by simp⟩
 rintro J S μ hJ hS hμ i ⟨hi,hpre⟩;obtain rfl:i=0:=by simpa using hi
 have hlt:¬ (0:Nat)<([]:List Ah).length:=by simp
 have hf:¬ CQ ([]:List Ah) (mn,mx)<([]:List Ah).length:=by simp
 rw[if_neg hf] at hV;exfalso;simp at hM
theorem Dw (I fa:Int) (a b:Int) (hI:0≤I∧I≤20) (hfa:1+I=fa) (ha:0≤a∧a≤1048576) (hb:0≤b∧b≤1048576) (h:AV ([]:List Ah) a b=true) :
 BS Try.prog 79 [.ptr 0 0,.d (.int .i64 a),.d (.int .i64 b)] [.var 28 [.d (.int .i64 I),.nil 31,.nil 60,.nil 3]] (.d (.int .i64 (AG fa ([]:List Ah) a b))) [.var 28 [.d (.int .i64 I),.nil 31,.ref 1,.nil 3],.arr 60 true ((Ak ([]:List Ah) a b).map Ao)]:=by
 have hV:AG fa ([]:List Ah) a b=if CM a b=true then Ey a b else if CQ ([]:List Ah) (E3 a b,Eo a b)<([]:List Ah).length then 2*(fa+CQ ([]:List Ah) (E3 a b,Eo a b)) else if ([]:List Ah).length<300 then 2*(fa+([]:List Ah).length) else -1:=rfl;have hM:AV ([]:List Ah) a b=(!CM a b&&decide (¬ CQ ([]:List Ah) (E3 a b,Eo a b)<([]:List Ah).length)&&decide (([]:List Ah).length<300)):=rfl;generalize AG fa ([]:List Ah) a b=R at *;rw[h] at hM;have hN:Ak ([]:List Ah) a b=([]:List Ah)++[(E3 a b,Eo a b)]:=by unfold Ak;rw[if_pos h]
 rw[hN];have hx1:(if b<a then b else a)=E3 a b:=rfl;have hx2:(if a<b then b else a)=Eo a b:=rfl;have hT:CM a b=(decide (a=0)||decide (b=0)||decide (Bd a 1=b)||decide (a=1)||decide (a=b)||decide (b=1)):=rfl;have hTv:Ey a b=if a=0∨b=0∨Bd a 1=b then 0 else if a=1∨a=b then b else a:=rfl;generalize E3 a b=mn at *;generalize Eo a b=mx at *;refine Bl (by kernel_rfl) Try.func79 rfl rfl rfl (by simp[AZ,Later]) (by simp[Bi,Ag.live]) ?_;obtain⟨xa,hxa⟩:∃ xa,Bd a 1=xa:=⟨_,rfl⟩;rw[hxa] at hT hTv;by_cases h0:a=0
 · have q0:(a==0)=true:=by simpa using h0
   exfalso;rw[hT] at hM;simp[h0] at hM
 have q0:(a==0)=false:=by simpa using h0
 by_cases h1:b=0
 · have q1:(b==0)=true:=by simpa using h1
   exfalso;rw[hT] at hM;simp[h0,h1] at hM
 have q1:(b==0)=false:=by simpa using h1
 by_cases h2:xa=b
 · have q2:(xa==b)=true:=by simpa using h2
   exfalso;rw[hT] at hM;simp[h0,h1,h2] at hM
 have q2:(xa==b)=false:=by simpa using h2
 by_cases h3:a=1
 · have q3:(a==1)=true:=by simpa using h3
   exfalso;rw[hT] at hM;simp[h0,h1,h2,h3] at hM
 have q3:(a==1)=false:=by simpa using h3
 by_cases h4:a=b
 · have q4:(a==b)=true:=by simpa using h4
   exfalso;rw[hT] at hM;simp[h0,h1,h2,h3,h4] at hM
 have q4:(a==b)=false:=by simpa using h4
 by_cases h5:b=1
 · have q5:(b==1)=true:=by simpa using h5
   exfalso;rw[hT] at hM;simp[h0,h1,h2,h3,h4,h5] at hM
 have q5:(b==1)=false:=by simpa using h5
 have hTf:CM a b=false:=by rw[hT];simp[h0,h1,h2,h3,h4,h5]
 rw[hTf] at hM hV;rw[if_neg (by simp)] at hV;simp only[Bool.not_false,Bool.true_and] at hM;simp[q0,q1,q2,q3,q4,q5,h0,h1,h2,h3,h4,h5,hxa,hx1,hx2];refine AY [true,false,false,false,false,false,false,true,false,false,false,false,false,false,false,false,false,false,false,false,false,false,false,false,false,false,false,false,false,false,false,false,false,false,false,false,false,false,false,false,false,false,false,false,false,false,true,true,true] (fun i:Nat=>i≤([]:List Ah).length∧∀ j:Nat,j<i→([]:List Ah)[j]?≠some (mn,mx)) (fun i:Nat=>[(48,.d (.int .i64 i))]) (fun i:Nat=>[]) (fun i:Nat=>([]:List Ah).length - i) 0 ?_ ?_ ?_
 · exact⟨Nat.zero_le _,fun j h=>by omega⟩
 · exact⟨[0,1],by simp⟩
 rintro J S μ hJ hS hμ i ⟨hi,hpre⟩;obtain rfl:i=0:=by simpa using hi
 have hlt:¬ (0:Nat)<([]:List Ah).length:=by simp
 have hf:¬ CQ ([]:List Ah) (mn,mx)<([]:List Ah).length:=by simp
 rw[if_neg hf] at hV;rw[if_pos (by simp)] at hV;simp;refine AS [(7,[0]),(8,[]),(9,[]),(10,[])] (by kernel_rfl) ?_;simp;refine Aw HI rfl (by simp) rfl (by simp) (by simp) (by first | (simp;done)|(simp;omega)) (by simp[Bp,A4]) ?_;simp;have hnc:=BL (I,([]:List Dl),([]:List Ah)++[(mn,mx)],[]) hI (by simp) (by simp);have hcnt:1+I+(([]:List Dl).length:Int)+((([]:List Ah)++[(mn,mx)]).length:Int)=fa+([]:List Ah).length+1:=by simp;omega
 simp only at hnc;rw[hcnt] at hnc;simp only[N7,AL,e4,B3,ACX,List.map_cons,List.map_nil,List.nil_append,Ao,e2,Az] at hnc;have w4:IntKind.i64.wrap (fa+(([]:List Ah).length:Int)+1 - 1)=fa+([]:List Ah).length:=by rw[Af (by first | omega|(simp;omega)) (by first | omega|(simp;omega))];omega
 have w5:IntKind.i64.wrap (2*(fa+(([]:List Ah).length:Int)))=2*(fa+([]:List Ah).length):=Af (by first | omega|(simp;omega)) (by first | omega|(simp;omega));have w6:IntKind.i64.wrap (fa+(([]:List Ah).length:Int))=fa+([]:List Ah).length:=Af (by first | omega|(simp;omega)) (by first | omega|(simp;omega));generalize fa+(([]:List Ah).length:Int)=q at *;refine Ab (hnc) ?_;simp[w4,w5,w6];exact⟨[0,3],by simp[hV,Ao,e2,Az]⟩
theorem BN (I fa:Int) (an:List Ah) (a b:Int) (hI:0≤I∧I≤20) (hfa:1+I=fa) (hn:an.length≤300) (ha:0≤a∧a≤1048576) (hb:0≤b∧b≤1048576) (h:AV an a b=false) :
 BS Try.prog 79 [.ptr 0 0,.d (.int .i64 a),.d (.int .i64 b)] [.var 28 [.d (.int .i64 I),.nil 31,.ref 1,.nil 3],.arr 60 true ((an).map Ao)] (.d (.int .i64 (AG fa an a b))) [.var 28 [.d (.int .i64 I),.nil 31,.ref 1,.nil 3],.arr 60 true ((an).map Ao)]:=by
 have hV:AG fa an a b=if CM a b=true then Ey a b else if CQ an (E3 a b,Eo a b)<an.length then 2*(fa+CQ an (E3 a b,Eo a b)) else if an.length<300 then 2*(fa+an.length) else -1:=rfl;have hM:AV an a b=(!CM a b&&decide (¬ CQ an (E3 a b,Eo a b)<an.length)&&decide (an.length<300)):=rfl;generalize AG fa an a b=R at *;rw[h] at hM;have hx1:(if b<a then b else a)=E3 a b:=rfl;have hx2:(if a<b then b else a)=Eo a b:=rfl;have hT:CM a b=(decide (a=0)||decide (b=0)||decide (Bd a 1=b)||decide (a=1)||decide (a=b)||decide (b=1)):=rfl;have hTv:Ey a b=if a=0∨b=0∨Bd a 1=b then 0 else if a=1∨a=b then b else a:=rfl;generalize E3 a b=mn at *;generalize Eo a b=mx at *;refine Bl (by kernel_rfl) Try.func79 rfl rfl rfl (by simp[AZ,Later]) (by simp[Bi,Ag.live]) ?_;obtain⟨xa,hxa⟩:∃ xa,Bd a 1=xa:=⟨_,rfl⟩;rw[hxa] at hT hTv;by_cases h0:a=0
 · have q0:(a==0)=true:=by simpa using h0
   have hR:R=0:=by rw[hV,if_pos (by rw[hT];simp[h0,q0]),hTv];split<;>(try split)<;>omega
   subst hR;simp[eq_true h0,q0,hxa];exact⟨[0,1],by simp⟩
 have q0:(a==0)=false:=by simpa using h0
 by_cases h1:b=0
 · have q1:(b==0)=true:=by simpa using h1
   have hR:R=0:=by rw[hV,if_pos (by rw[hT];simp[h0,q0,h1,q1]),hTv];split<;>(try split)<;>omega
   subst hR;simp[h0,q0,eq_true h1,q1,hxa];exact⟨[0,1],by simp⟩
 have q1:(b==0)=false:=by simpa using h1
 by_cases h2:xa=b
 · have q2:(xa==b)=true:=by simpa using h2
   have hR:R=0:=by rw[hV,if_pos (by rw[hT];simp[h0,q0,h1,q1,h2,q2]),hTv];split<;>(try split)<;>omega
   subst hR;simp[h0,q0,h1,q1,eq_true h2,q2,hxa];exact⟨[0,1],by simp⟩
 have q2:(xa==b)=false:=by simpa using h2
 by_cases h3:a=1
 · have q3:(a==1)=true:=by simpa using h3
   have hR:R=b:=by rw[hV,if_pos (by rw[hT];simp[h0,q0,h1,q1,h2,q2,h3,q3]),hTv];split<;>(try split)<;>omega
   subst hR;simp[h0,q0,h1,q1,h2,q2,eq_true h3,q3,hxa];exact⟨[0,1],by simp⟩
 have q3:(a==1)=false:=by simpa using h3
 by_cases h4:a=b
 · have q4:(a==b)=true:=by simpa using h4
   have hR:R=b:=by rw[hV,if_pos (by rw[hT];simp[h0,q0,h1,q1,h2,q2,h3,q3,h4,q4]),hTv];split<;>(try split)<;>omega
   subst hR;simp[h0,q0,h1,q1,h2,q2,h3,q3,eq_true h4,q4,hxa];exact⟨[0,1],by simp⟩
 have q4:(a==b)=false:=by simpa using h4
 by_cases h5:b=1
 · have q5:(b==1)=true:=by simpa using h5
   have hR:R=a:=by rw[hV,if_pos (by rw[hT];simp[h0,q0,h1,q1,h2,q2,h3,q3,h4,q4,h5,q5]),hTv];split<;>(try split)<;>omega
   subst hR;simp[h0,q0,h1,q1,h2,q2,h3,q3,h4,q4,eq_true h5,q5,hxa];exact⟨[0,1],by simp⟩
 have q5:(b==1)=false:=by simpa using h5
 have hTf:CM a b=false:=by rw[hT];simp[h0,h1,h2,h3,h4,h5]
 rw[hTf] at hM hV;rw[if_neg (by simp)] at hV;simp only[Bool.not_false,Bool.true_and] at hM;simp[q0,q1,q2,q3,q4,q5,h0,h1,h2,h3,h4,h5,hxa,hx1,hx2];refine AY [true,false,false,false,false,false,false,true,false,false,false,false,false,false,false,false,false,false,false,false,false,false,false,false,false,false,false,false,false,false,false,false,false,false,false,false,false,false,false,false,false,false,false,false,false,false,true,true,true] (fun i:Nat=>i≤an.length∧∀ j:Nat,j<i→an[j]?≠some (mn,mx)) (fun i:Nat=>[(48,.d (.int .i64 i))]) (fun i:Nat=>[]) (fun i:Nat=>an.length - i) 0 ?_ ?_ ?_
 · exact⟨Nat.zero_le _,fun j h=>by omega⟩
 · exact⟨[0,1,2],by simp⟩
 rintro J S μ hJ hS hμ i ⟨hi,hpre⟩;by_cases hlt:i<an.length
 · have hy:an[i]? = some an[i]:=zz0 hlt;have w1:IntKind.i64.wrap ((i:Int)+1)=(i:Int)+1:=Af (by omega) (by omega);generalize an[i]=y at *;have hL:(Ao y).length=2:=rfl;by_cases he:(mn,mx)=y
   · have hf:CQ an (mn,mx)=i:=Nq (by rw[hy,he]) hpre;rw[hf,if_pos hlt] at hV;subst he;have w2:IntKind.i64.wrap (fa+(i:Int))=fa+i:=Af (by omega) (by omega);have w3:IntKind.i64.wrap (2*(fa+(i:Int)))=2*(fa+i):=Af (by omega) (by omega);simp[zz2 hlt,hy,hL,Ao];refine Ab (AW (I,([]:List Dl),an,[]) hI (by simp<;>omega)) ?_;simp[AL,hfa,w2,w3,hV];exact⟨[0,1],by simp⟩
   · have he2:(mn==y.1&&mx==y.2)=false:=by
      cases hc:(mn==y.1&&mx==y.2) with
      | false=>rfl
      | true=>simp only[Bool.and_eq_true,beq_iff_eq] at hc;exact absurd (Prod.ext hc.1 hc.2) he
     simp[zz2 hlt,hy,hL,Ao,he2,w1]
     exact Ae hJ hS hμ (i+1) ⟨by omega,fun j hj=>by
      by_cases hji:j=i
      · subst hji;rw[hy];exact fun e=>he (ACW e).symm
      · exact hpre j (by omega)⟩ (by omega) ⟨[0,1,2],by simp⟩
 obtain rfl:i=an.length:=by omega
 have hf:¬ CQ an (mn,mx)<an.length:=by rw[Ih hpre];omega
 rw[if_neg hf] at hV
 have h6:¬ an.length<300:=by
  intro h6;rw[zz2 hf,zz2 h6] at hM;simp at hM
 rw[if_neg h6] at hV;simp[hlt,zz3 hlt,show (300:Int)≤an.length by omega,hV];exact⟨[0,1],by simp⟩
theorem B1 (I fa:Int) (an:List Ah) (a b:Int) (hI:0≤I∧I≤20) (hfa:1+I=fa) (hn:an.length≤300) (ha:0≤a∧a≤1048576) (hb:0≤b∧b≤1048576) (h:AV an a b=true) :
 BS Try.prog 79 [.ptr 0 0,.d (.int .i64 a),.d (.int .i64 b)] [.var 28 [.d (.int .i64 I),.nil 31,.ref 1,.nil 3],.arr 60 true ((an).map Ao)] (.d (.int .i64 (AG fa an a b))) [.var 28 [.d (.int .i64 I),.nil 31,.ref 2,.nil 3],.dead,.arr 60 true ((Ak an a b).map Ao)]:=by
 have hV:AG fa an a b=if CM a b=true then Ey a b else if CQ an (E3 a b,Eo a b)<an.length then 2*(fa+CQ an (E3 a b,Eo a b)) else if an.length<300 then 2*(fa+an.length) else -1:=rfl;have hM:AV an a b=(!CM a b&&decide (¬ CQ an (E3 a b,Eo a b)<an.length)&&decide (an.length<300)):=rfl;generalize AG fa an a b=R at *;rw[h] at hM;have hN:Ak an a b=an++[(E3 a b,Eo a b)]:=by unfold Ak;rw[if_pos h]
 rw[hN];have hx1:(if b<a then b else a)=E3 a b:=rfl;have hx2:(if a<b then b else a)=Eo a b:=rfl;have hT:CM a b=(decide (a=0)||decide (b=0)||decide (Bd a 1=b)||decide (a=1)||decide (a=b)||decide (b=1)):=rfl;have hTv:Ey a b=if a=0∨b=0∨Bd a 1=b then 0 else if a=1∨a=b then b else a:=rfl;generalize E3 a b=mn at *;generalize Eo a b=mx at *;refine Bl (by kernel_rfl) Try.func79 rfl rfl rfl (by simp[AZ,Later]) (by simp[Bi,Ag.live]) ?_;obtain⟨xa,hxa⟩:∃ xa,Bd a 1=xa:=⟨_,rfl⟩;rw[hxa] at hT hTv;by_cases h0:a=0
 · have q0:(a==0)=true:=by simpa using h0
   exfalso;rw[hT] at hM;simp[h0] at hM
 have q0:(a==0)=false:=by simpa using h0
 by_cases h1:b=0
 · have q1:(b==0)=true:=by simpa using h1
   exfalso;rw[hT] at hM;simp[h0,h1] at hM
 have q1:(b==0)=false:=by simpa using h1
 by_cases h2:xa=b
 · have q2:(xa==b)=true:=by simpa using h2
   exfalso;rw[hT] at hM;simp[h0,h1,h2] at hM
 have q2:(xa==b)=false:=by simpa using h2
 by_cases h3:a=1
 · have q3:(a==1)=true:=by simpa using h3
   exfalso;rw[hT] at hM;simp[h0,h1,h2,h3] at hM
 have q3:(a==1)=false:=by simpa using h3
 by_cases h4:a=b
 · have q4:(a==b)=true:=by simpa using h4
   exfalso;rw[hT] at hM;simp[h0,h1,h2,h3,h4] at hM
 have q4:(a==b)=false:=by simpa using h4
 by_cases h5:b=1
 · have q5:(b==1)=true:=by simpa using h5
   exfalso;rw[hT] at hM;simp[h0,h1,h2,h3,h4,h5] at hM
 have q5:(b==1)=false:=by simpa using h5
 have hTf:CM a b=false:=by rw[hT];simp[h0,h1,h2,h3,h4,h5]
 rw[hTf] at hM hV;rw[if_neg (by simp)] at hV;simp only[Bool.not_false,Bool.true_and] at hM;simp[q0,q1,q2,q3,q4,q5,h0,h1,h2,h3,h4,h5,hxa,hx1,hx2];refine AY [true,false,false,false,false,false,false,true,false,false,false,false,false,false,false,false,false,false,false,false,false,false,false,false,false,false,false,false,false,false,false,false,false,false,false,false,false,false,false,false,false,false,false,false,false,false,true,true,true] (fun i:Nat=>i≤an.length∧∀ j:Nat,j<i→an[j]?≠some (mn,mx)) (fun i:Nat=>[(48,.d (.int .i64 i))]) (fun i:Nat=>[]) (fun i:Nat=>an.length - i) 0 ?_ ?_ ?_
 · exact⟨Nat.zero_le _,fun j h=>by omega⟩
 · exact⟨[0,1,2],by simp⟩
 rintro J S μ hJ hS hμ i ⟨hi,hpre⟩;by_cases hlt:i<an.length
 · have hy:an[i]? = some an[i]:=zz0 hlt;have w1:IntKind.i64.wrap ((i:Int)+1)=(i:Int)+1:=Af (by omega) (by omega);generalize an[i]=y at *;have hL:(Ao y).length=2:=rfl;by_cases he:(mn,mx)=y
   · have hf:CQ an (mn,mx)=i:=Nq (by rw[hy,he]) hpre;exfalso;rw[hf] at hM;simp[hlt] at hM
   · have he2:(mn==y.1&&mx==y.2)=false:=by
      cases hc:(mn==y.1&&mx==y.2) with
      | false=>rfl
      | true=>simp only[Bool.and_eq_true,beq_iff_eq] at hc;exact absurd (Prod.ext hc.1 hc.2) he
     simp[zz2 hlt,hy,hL,Ao,he2,w1]
     exact Ae hJ hS hμ (i+1) ⟨by omega,fun j hj=>by
      by_cases hji:j=i
      · subst hji;rw[hy];exact fun e=>he (ACW e).symm
      · exact hpre j (by omega)⟩ (by omega) ⟨[0,1,2],by simp⟩
 obtain rfl:i=an.length:=by omega
 have hf:¬ CQ an (mn,mx)<an.length:=by rw[Ih hpre];omega
 rw[if_neg hf] at hV;have h6:an.length<300:=by simpa [hf] using hM
 rw[if_pos h6] at hV;simp[hlt,zz3 hlt,show ¬ (300:Int)≤an.length by omega];refine AS [(7,[0]),(8,[]),(9,[]),(10,[])] (by kernel_rfl) ?_;simp;refine Aw HI rfl (by simp) rfl (by simp) (by simp) (by first | (simp;done)|(simp;omega)) (by simp[Bp,A4]) ?_;simp;have hnc:=BL (I,([]:List Dl),an++[(mn,mx)],[]) hI (by simp) (by simp;omega);have hcnt:1+I+(([]:List Dl).length:Int)+((an++[(mn,mx)]).length:Int)=fa+an.length+1:=by simp;omega
 simp only at hnc;rw[hcnt] at hnc;simp only[N7,AL,e4,B3,ACX,List.map_cons,List.map_nil,List.nil_append,Ao,e2,Az] at hnc;have w4:IntKind.i64.wrap (fa+(an.length:Int)+1 - 1)=fa+an.length:=by rw[Af (by first | omega|(simp;omega)) (by first | omega|(simp;omega))];omega
 have w5:IntKind.i64.wrap (2*(fa+(an.length:Int)))=2*(fa+an.length):=Af (by first | omega|(simp;omega)) (by first | omega|(simp;omega));have w6:IntKind.i64.wrap (fa+(an.length:Int))=fa+an.length:=Af (by first | omega|(simp;omega)) (by first | omega|(simp;omega));generalize fa+(an.length:Int)=q at *;refine Ab (hnc) ?_;simp[w4,w5,w6];exact⟨[0,1,4],by simp[hV,Ao,e2,Az]⟩
theorem Qd (I fa:Int) (sq:List Dl) (an:List Ah) (a b:Int) (hI:0≤I∧I≤20) (hfa:1+I+(sq.length:Int)=fa) (hs:sq.length≤12) (hn:an.length≤300) (ha:0≤a∧a≤1048576) (hb:0≤b∧b≤1048576) (h:AV an a b=false) :
 BS Try.prog 79 [.ptr 0 0,.d (.int .i64 a),.d (.int .i64 b)] [.var 28 [.d (.int .i64 I),.ref 1,.ref 2,.nil 3],.arr 31 true (sq.map A7),.arr 60 true ((an).map Ao)] (.d (.int .i64 (AG fa an a b))) [.var 28 [.d (.int .i64 I),.ref 1,.ref 2,.nil 3],.arr 31 true (sq.map A7),.arr 60 true ((an).map Ao)]:=by
 have hV:AG fa an a b=if CM a b=true then Ey a b else if CQ an (E3 a b,Eo a b)<an.length then 2*(fa+CQ an (E3 a b,Eo a b)) else if an.length<300 then 2*(fa+an.length) else -1:=rfl;have hM:AV an a b=(!CM a b&&decide (¬ CQ an (E3 a b,Eo a b)<an.length)&&decide (an.length<300)):=rfl;generalize AG fa an a b=R at *;rw[h] at hM;have hx1:(if b<a then b else a)=E3 a b:=rfl;have hx2:(if a<b then b else a)=Eo a b:=rfl;have hT:CM a b=(decide (a=0)||decide (b=0)||decide (Bd a 1=b)||decide (a=1)||decide (a=b)||decide (b=1)):=rfl;have hTv:Ey a b=if a=0∨b=0∨Bd a 1=b then 0 else if a=1∨a=b then b else a:=rfl;generalize E3 a b=mn at *;generalize Eo a b=mx at *;refine Bl (by kernel_rfl) Try.func79 rfl rfl rfl (by simp[AZ,Later]) (by simp[Bi,Ag.live]) ?_;obtain⟨xa,hxa⟩:∃ xa,Bd a 1=xa:=⟨_,rfl⟩;rw[hxa] at hT hTv;by_cases h0:a=0
 · have q0:(a==0)=true:=by simpa using h0
   have hR:R=0:=by rw[hV,if_pos (by rw[hT];simp[h0,q0]),hTv];split<;>(try split)<;>omega
   subst hR;simp[eq_true h0,q0,hxa];exact⟨[0,1,2],by simp⟩
 have q0:(a==0)=false:=by simpa using h0
 by_cases h1:b=0
 · have q1:(b==0)=true:=by simpa using h1
   have hR:R=0:=by rw[hV,if_pos (by rw[hT];simp[h0,q0,h1,q1]),hTv];split<;>(try split)<;>omega
   subst hR;simp[h0,q0,eq_true h1,q1,hxa];exact⟨[0,1,2],by simp⟩
 have q1:(b==0)=false:=by simpa using h1
 by_cases h2:xa=b
 · have q2:(xa==b)=true:=by simpa using h2
   have hR:R=0:=by rw[hV,if_pos (by rw[hT];simp[h0,q0,h1,q1,h2,q2]),hTv];split<;>(try split)<;>omega
   subst hR;simp[h0,q0,h1,q1,eq_true h2,q2,hxa];exact⟨[0,1,2],by simp⟩
 have q2:(xa==b)=false:=by simpa using h2
 by_cases h3:a=1
 · have q3:(a==1)=true:=by simpa using h3
   have hR:R=b:=by rw[hV,if_pos (by rw[hT];simp[h0,q0,h1,q1,h2,q2,h3,q3]),hTv];split<;>(try split)<;>omega
   subst hR;simp[h0,q0,h1,q1,h2,q2,eq_true h3,q3,hxa];exact⟨[0,1,2],by simp⟩
 have q3:(a==1)=false:=by simpa using h3
 by_cases h4:a=b
 · have q4:(a==b)=true:=by simpa using h4
   have hR:R=b:=by rw[hV,if_pos (by rw[hT];simp[h0,q0,h1,q1,h2,q2,h3,q3,h4,q4]),hTv];split<;>(try split)<;>omega
   subst hR;simp[h0,q0,h1,q1,h2,q2,h3,q3,eq_true h4,q4,hxa];exact⟨[0,1,2],by simp⟩
 have q4:(a==b)=false:=by simpa using h4
 by_cases h5:b=1
 · have q5:(b==1)=true:=by simpa using h5
   have hR:R=a:=by rw[hV,if_pos (by rw[hT];simp[h0,q0,h1,q1,h2,q2,h3,q3,h4,q4,h5,q5]),hTv];split<;>(try split)<;>omega
   subst hR;simp[h0,q0,h1,q1,h2,q2,h3,q3,h4,q4,eq_true h5,q5,hxa];exact⟨[0,1,2],by simp⟩
 have q5:(b==1)=false:=by simpa using h5
 have hTf:CM a b=false:=by rw[hT];simp[h0,h1,h2,h3,h4,h5]
 rw[hTf] at hM hV;rw[if_neg (by simp)] at hV;simp only[Bool.not_false,Bool.true_and] at hM;simp[q0,q1,q2,q3,q4,q5,h0,h1,h2,h3,h4,h5,hxa,hx1,hx2];refine AY [true,false,false,false,false,false,false,true,false,false,false,false,false,false,false,false,false,false,false,false,false,false,false,false,false,false,false,false,false,false,false,false,false,false,false,false,false,false,false,false,false,false,false,false,false,false,true,true,true] (fun i:Nat=>i≤an.length∧∀ j:Nat,j<i→an[j]?≠some (mn,mx)) (fun i:Nat=>[(48,.d (.int .i64 i))]) (fun i:Nat=>[]) (fun i:Nat=>an.length - i) 0 ?_ ?_ ?_
 · exact⟨Nat.zero_le _,fun j h=>by omega⟩
 · exact⟨[0,1,2,3],by simp⟩
 rintro J S μ hJ hS hμ i ⟨hi,hpre⟩;by_cases hlt:i<an.length
 · have hy:an[i]? = some an[i]:=zz0 hlt;have w1:IntKind.i64.wrap ((i:Int)+1)=(i:Int)+1:=Af (by omega) (by omega);generalize an[i]=y at *;have hL:(Ao y).length=2:=rfl;by_cases he:(mn,mx)=y
   · have hf:CQ an (mn,mx)=i:=Nq (by rw[hy,he]) hpre;rw[hf,if_pos hlt] at hV;subst he;have w2:IntKind.i64.wrap (fa+(i:Int))=fa+i:=Af (by omega) (by omega);have w3:IntKind.i64.wrap (2*(fa+(i:Int)))=2*(fa+i):=Af (by omega) (by omega);simp[zz2 hlt,hy,hL,Ao];refine Ab (AW (I,sq,an,[]) hI (by simp<;>omega)) ?_;simp[AL,hfa,w2,w3,hV];exact⟨[0,1,2],by simp⟩
   · have he2:(mn==y.1&&mx==y.2)=false:=by
      cases hc:(mn==y.1&&mx==y.2) with
      | false=>rfl
      | true=>simp only[Bool.and_eq_true,beq_iff_eq] at hc;exact absurd (Prod.ext hc.1 hc.2) he
     simp[zz2 hlt,hy,hL,Ao,he2,w1]
     exact Ae hJ hS hμ (i+1) ⟨by omega,fun j hj=>by
      by_cases hji:j=i
      · subst hji;rw[hy];exact fun e=>he (ACW e).symm
      · exact hpre j (by omega)⟩ (by omega) ⟨[0,1,2,3],by simp⟩
 obtain rfl:i=an.length:=by omega
 have hf:¬ CQ an (mn,mx)<an.length:=by rw[Ih hpre];omega
 rw[if_neg hf] at hV
 have h6:¬ an.length<300:=by
  intro h6;rw[zz2 hf,zz2 h6] at hM;simp at hM
 rw[if_neg h6] at hV;simp[hlt,zz3 hlt,show (300:Int)≤an.length by omega,hV];exact⟨[0,1,2],by simp⟩
theorem QG (I fa:Int) (sq:List Dl) (an:List Ah) (a b:Int) (hI:0≤I∧I≤20) (hfa:1+I+(sq.length:Int)=fa) (hs:sq.length≤12) (hn:an.length≤300) (ha:0≤a∧a≤1048576) (hb:0≤b∧b≤1048576) (h:AV an a b=true) :
 BS Try.prog 79 [.ptr 0 0,.d (.int .i64 a),.d (.int .i64 b)] [.var 28 [.d (.int .i64 I),.ref 1,.ref 2,.nil 3],.arr 31 true (sq.map A7),.arr 60 true ((an).map Ao)] (.d (.int .i64 (AG fa an a b))) [.var 28 [.d (.int .i64 I),.ref 1,.ref 3,.nil 3],.arr 31 true (sq.map A7),.dead,.arr 60 true ((Ak an a b).map Ao)]:=by
 have hV:AG fa an a b=if CM a b=true then Ey a b else if CQ an (E3 a b,Eo a b)<an.length then 2*(fa+CQ an (E3 a b,Eo a b)) else if an.length<300 then 2*(fa+an.length) else -1:=rfl;have hM:AV an a b=(!CM a b&&decide (¬ CQ an (E3 a b,Eo a b)<an.length)&&decide (an.length<300)):=rfl;generalize AG fa an a b=R at *;rw[h] at hM;have hN:Ak an a b=an++[(E3 a b,Eo a b)]:=by unfold Ak;rw[if_pos h]
 rw[hN];have hx1:(if b<a then b else a)=E3 a b:=rfl;have hx2:(if a<b then b else a)=Eo a b:=rfl;have hT:CM a b=(decide (a=0)||decide (b=0)||decide (Bd a 1=b)||decide (a=1)||decide (a=b)||decide (b=1)):=rfl;have hTv:Ey a b=if a=0∨b=0∨Bd a 1=b then 0 else if a=1∨a=b then b else a:=rfl;generalize E3 a b=mn at *;generalize Eo a b=mx at *;refine Bl (by kernel_rfl) Try.func79 rfl rfl rfl (by simp[AZ,Later]) (by simp[Bi,Ag.live]) ?_;obtain⟨xa,hxa⟩:∃ xa,Bd a 1=xa:=⟨_,rfl⟩;rw[hxa] at hT hTv;by_cases h0:a=0
 · have q0:(a==0)=true:=by simpa using h0
   exfalso;rw[hT] at hM;simp[h0] at hM
 have q0:(a==0)=false:=by simpa using h0
 by_cases h1:b=0
 · have q1:(b==0)=true:=by simpa using h1
   exfalso;rw[hT] at hM;simp[h0,h1] at hM
 have q1:(b==0)=false:=by simpa using h1
 by_cases h2:xa=b
 · have q2:(xa==b)=true:=by simpa using h2
   exfalso;rw[hT] at hM;simp[h0,h1,h2] at hM
 have q2:(xa==b)=false:=by simpa using h2
 by_cases h3:a=1
 · have q3:(a==1)=true:=by simpa using h3
   exfalso;rw[hT] at hM;simp[h0,h1,h2,h3] at hM
 have q3:(a==1)=false:=by simpa using h3
 by_cases h4:a=b
 · have q4:(a==b)=true:=by simpa using h4
   exfalso;rw[hT] at hM;simp[h0,h1,h2,h3,h4] at hM
 have q4:(a==b)=false:=by simpa using h4
 by_cases h5:b=1
 · have q5:(b==1)=true:=by simpa using h5
   exfalso;rw[hT] at hM;simp[h0,h1,h2,h3,h4,h5] at hM
 have q5:(b==1)=false:=by simpa using h5
 have hTf:CM a b=false:=by rw[hT];simp[h0,h1,h2,h3,h4,h5]
 rw[hTf] at hM hV;rw[if_neg (by simp)] at hV;simp only[Bool.not_false,Bool.true_and] at hM;simp[q0,q1,q2,q3,q4,q5,h0,h1,h2,h3,h4,h5,hxa,hx1,hx2];refine AY [true,false,false,false,false,false,false,true,false,false,false,false,false,false,false,false,false,false,false,false,false,false,false,false,false,false,false,false,false,false,false,false,false,false,false,false,false,false,false,false,false,false,false,false,false,false,true,true,true] (fun i:Nat=>i≤an.length∧∀ j:Nat,j<i→an[j]?≠some (mn,mx)) (fun i:Nat=>[(48,.d (.int .i64 i))]) (fun i:Nat=>[]) (fun i:Nat=>an.length - i) 0 ?_ ?_ ?_
 · exact⟨Nat.zero_le _,fun j h=>by omega⟩
 · exact⟨[0,1,2,3],by simp⟩
 rintro J S μ hJ hS hμ i ⟨hi,hpre⟩;by_cases hlt:i<an.length
 · have hy:an[i]? = some an[i]:=zz0 hlt;have w1:IntKind.i64.wrap ((i:Int)+1)=(i:Int)+1:=Af (by omega) (by omega);generalize an[i]=y at *;have hL:(Ao y).length=2:=rfl;by_cases he:(mn,mx)=y
   · have hf:CQ an (mn,mx)=i:=Nq (by rw[hy,he]) hpre;exfalso;rw[hf] at hM;simp[hlt] at hM
   · have he2:(mn==y.1&&mx==y.2)=false:=by
      cases hc:(mn==y.1&&mx==y.2) with
      | false=>rfl
      | true=>simp only[Bool.and_eq_true,beq_iff_eq] at hc;exact absurd (Prod.ext hc.1 hc.2) he
     simp[zz2 hlt,hy,hL,Ao,he2,w1]
     exact Ae hJ hS hμ (i+1) ⟨by omega,fun j hj=>by
      by_cases hji:j=i
      · subst hji;rw[hy];exact fun e=>he (ACW e).symm
      · exact hpre j (by omega)⟩ (by omega) ⟨[0,1,2,3],by simp⟩
 obtain rfl:i=an.length:=by omega
 have hf:¬ CQ an (mn,mx)<an.length:=by rw[Ih hpre];omega
 rw[if_neg hf] at hV;have h6:an.length<300:=by simpa [hf] using hM
 rw[if_pos h6] at hV;simp[hlt,zz3 hlt,show ¬ (300:Int)≤an.length by omega];refine AS [(7,[0]),(8,[]),(9,[]),(10,[])] (by kernel_rfl) ?_;simp;refine Aw HI rfl (by simp) rfl (by simp) (by simp) (by first | (simp;done)|(simp;omega)) (by simp[Bp,A4]) ?_;simp;have hnc:=BL (I,sq,an++[(mn,mx)],[]) hI (by simp;omega) (by simp;omega);have hcnt:1+I+(sq.length:Int)+((an++[(mn,mx)]).length:Int)=fa+an.length+1:=by simp;omega
 simp only at hnc;rw[hcnt] at hnc;simp only[N7,AL,e4,B3,ACX,List.map_cons,List.map_nil,List.nil_append,Ao,e2,Az] at hnc;have w4:IntKind.i64.wrap (fa+(an.length:Int)+1 - 1)=fa+an.length:=by rw[Af (by first | omega|(simp;omega)) (by first | omega|(simp;omega))];omega
 have w5:IntKind.i64.wrap (2*(fa+(an.length:Int)))=2*(fa+an.length):=Af (by first | omega|(simp;omega)) (by first | omega|(simp;omega));have w6:IntKind.i64.wrap (fa+(an.length:Int))=fa+an.length:=Af (by first | omega|(simp;omega)) (by first | omega|(simp;omega));generalize fa+(an.length:Int)=q at *;refine Ab (hnc) ?_;simp[w4,w5,w6];exact⟨[0,1,2,5],by simp[hV,Ao,e2,Az]⟩
end Go.Proofs.Ytnjedabjbeipeaa
