/-
  The law of proved stages: each call returns true, at every input.
  Conditions: none.
-/
import Derived.Test.YtnjedabjbeipeaaYs
import Derived.Test.YtnjedabjbeipeaaKfFnStagesProved
namespace Go.Proofs.Ytnjedabjbeipeaa
open Go.RowKit Go.ChangeShapes Go.WideShapes Go.ChangeAt
set_option linter.unusedSimpArgs false
set_option linter.unusedVariables false
set_option maxRecDepth 100000
set_option maxHeartbeats 10000000
abbrev fD (bs:List Int):X:=.d (B3 5 (e1 NA) bs)
theorem mL (bs:List Int) (h:bs.length≤9223372036854775807):CI Try.prog 6 [fD bs] (.d (.bool (decide (1048576<bs.length)))):=by
 refine BD (by kernel_rfl) Try.func6 rfl rfl rfl ?_;simp;omega
theorem jC:rV Try.prog NA 5:=fun h _=>by
 obtain⟨n,rfl,_,hw⟩:=DataW.trod_int Try.underlying5 h;exact⟨n,_,rfl,.int _ _,.int _ _ hw⟩
theorem aG {w:World} {G:Nat→Prop} {bs:List Int} {v:Value} (h:Rd w G (B3 5 (e1 NA) bs) v):bs.length≤9223372036854775807:=by
 obtain⟨_,_,_,h⟩:=Rd.len h;simpa using h
theorem iD:rV Try.prog (B3 5 (e1 NA)) 22:=pX Try.underlying22 (by simp) (fun x=>by simp[e1]) (uY jC)
theorem nO (bs:List Int) (hb:bs.length≤9223372036854775807):CI Try.prog 5 [fD bs] (.d (.bool true)):=by
 have k0:=mL bs hb;refine E1 (by kernel_rfl) Try.func5 rfl rfl rfl ?_;simp;by_cases hbig:1048576<bs.length
 · rw[zz2 hbig] at k0;refine Ab (k0) ?_;simp
 rw[zz3 hbig] at k0;refine Ab (k0) ?_;simp;have kM:=SC bs (by omega);have hok:=Pk (c:=Iw bs);have hx:=Bj hok;obtain⟨h7,h14⟩:=Mb (Iw bs);obtain⟨o0,s0⟩:=XK (Iw bs);obtain⟨o1,s1⟩:=ZT (Iw bs);obtain⟨o2,s2⟩:=aS (Iw bs);have kH:=W5 (GG (Iw bs)) hok (by omega);have kB:=aF (GG (Iw bs)) hok h14;have kR:=VE (GG (Iw bs)) hok h14;generalize Eg (GG (Iw bs))=a0 at *;generalize QI (GG (Iw bs))=a1 at *;generalize QL (GG (Iw bs))=a2 at *;generalize GG (Iw bs)=x at *;refine Ac (kM) [] [] (by simp) ?_;simp;refine AS [(1,[2,4]),(3,[4]),(5,[]),(6,[]),(7,[])] (by kernel_rfl) ?_;simp;refine Au (kH) [] [] (by simp) (by simp[Bg]) ?_;simp;refine Au (kB) [] [] (by simp) (by simp[Bg]) ?_;simp;refine Au (kR) [] [] (by simp) (by simp[Bg]) ?_;simp;refine As [false,false,false,true,true,true] (fun k:Nat=>k≤3) (fun k:Nat=>[(4,.d (.sl 28 [[.int .i64 a0.1,B3 31 A7 a0.2.1,B3 60 Ao a0.2.2.1,B3 3 (e1 Az) a0.2.2.2],[.int .i64 a1.1,B3 31 A7 a1.2.1,B3 60 Ao a1.2.2.1,B3 3 (e1 Az) a1.2.2.2],[.int .i64 a2.1,B3 31 A7 a2.2.1,B3 60 Ao a2.2.2.1,B3 3 (e1 Az) a2.2.2.2]])),(5,.d (.int .i64 k))]) (fun k:Nat=>fun _=>[.var 28 [.d (.int .i64 x.1),.d (B3 31 A7 x.2.1),.d (B3 60 Ao x.2.2.1),.d (B3 3 (e1 Az) x.2.2.2)]]) (fun k:Nat=>3 - k) 0 ?_ ?_ ?_
 · exact Nat.zero_le _
 · exact⟨[0],by simp[B3]⟩
 rintro I S μ hI hS hμ k hk;by_cases hlt:k<3
 · rcases (show k=0∨k=1∨k=2 by omega) with rfl|rfl|rfl
   · obtain⟨pf,c1,c2⟩:=s0;have kc:=MH x a0 600 hx (Bj o0);rw[c1] at kc;have kp:=EJ x a0 pf hx (Bj o0) (by have h:=MU (a:=x) (b:=a0) (B:=600);rw[c1] at h;exact h);have kn:=EJ x a0 [] hx (Bj o0) ⟨by simp,by simp⟩;rw[c2] at kp;rw[Tg] at kn;simp;refine AJ 13 (by kernel_rfl) ?_;simp;refine Ab (kc) ?_;simp[AL];refine AJ 21 (by kernel_rfl) ?_;simp;refine Ab (kp) ?_;simp[AL];refine Ab (kn) ?_;simp[AL];exact Ae hI hS hμ (0+1) (by omega) (by omega) ⟨[0],by simp[B3,show IntKind.i64.wrap 1=1 from Af (by omega) (by omega)]⟩
   · obtain⟨pf,c1,c2⟩:=s1;have kc:=MH x a1 600 hx (Bj o1);rw[c1] at kc;have kp:=EJ x a1 pf hx (Bj o1) (by have h:=MU (a:=x) (b:=a1) (B:=600);rw[c1] at h;exact h);have kn:=EJ x a1 [] hx (Bj o1) ⟨by simp,by simp⟩;rw[c2] at kp;rw[Tg] at kn;simp;refine AJ 13 (by kernel_rfl) ?_;simp;refine Ab (kc) ?_;simp[AL];refine AJ 21 (by kernel_rfl) ?_;simp;refine Ab (kp) ?_;simp[AL];refine Ab (kn) ?_;simp[AL];exact Ae hI hS hμ (1+1) (by omega) (by omega) ⟨[0],by simp[B3,show IntKind.i64.wrap 2=2 from Af (by omega) (by omega)]⟩
   · obtain⟨pf,c1,c2⟩:=s2;have kc:=MH x a2 600 hx (Bj o2);rw[c1] at kc;have kp:=EJ x a2 pf hx (Bj o2) (by have h:=MU (a:=x) (b:=a2) (B:=600);rw[c1] at h;exact h);have kn:=EJ x a2 [] hx (Bj o2) ⟨by simp,by simp⟩;rw[c2] at kp;rw[Tg] at kn;simp;refine AJ 13 (by kernel_rfl) ?_;simp;refine Ab (kc) ?_;simp[AL];refine AJ 21 (by kernel_rfl) ?_;simp;refine Ab (kp) ?_;simp[AL];refine Ab (kn) ?_;simp[AL];exact Ae hI hS hμ (2+1) (by omega) (by omega) ⟨[0],by simp[B3,show IntKind.i64.wrap 3=3 from Af (by omega) (by omega)]⟩
 obtain rfl:k=3:=by omega
 simp
theorem FnStagesProved_lifted (os:Os) (started:os.Started) (H:Type) (enc:TypeId×Value→H) :
 ReturnsInHanded {} Try.checked os 5 .any (Rows.fnStagesProvedSpec.pre6 enc Try.prog Try.f5 Rows.fnStagesProvedRow.domain false) (Rows.fnStagesProvedSpec.post enc Try.prog Try.f5 false true false false):=by
 refine jO (C:=Try.checked) Try.own started (by kernel_rfl) Try.func5
  (ChangeSpec.witness6 (enc:=enc) (C:=Try.checked) false ⟨#[],#[.slice none 0 0],[]⟩ 8 (by kernel_rfl) (by kernel_rfl) (by kernel_rfl) (by kernel_rfl))
  Try.laidOut (ACn (by kernel_rfl)) rfl rfl Try.underlying4 ?_
 intro W base args ds ps hval0 hA0 hlt;have hval:∀ (j:Nat) t v,Try.f5.params[j]? = some t→args[j]? = some v→Value.okWide Try.prog W .any base t v:=hval0;have hA:DataW.TrodAll enc Try.prog W 0 (fun _=>true) true Try.f5.params.toList args.toList ds ps:=hA0;clear hval0 hA0;rw[Try.params5] at hA hval;obtain⟨v0,vs0,d0,ds0,p0,q0,hargs,rfl,rfl,h0,r0⟩:=trodAll_cons hA;obtain⟨rfl,rfl,rfl⟩:=trodAll_nil r0;obtain rfl:args=#[v0]:=by cases args;simp_all
 obtain⟨bs,hb⟩:=fF Try.underlying22 iD (hval 0 _ v0 rfl rfl) h0 (fun x hx=>hlt x (by simp[hx]));exact⟨rfl,nF (nO bs (aG hb)) rfl (yT (.d hb))⟩
theorem FnStagesProved_holds:Rows.FnStagesProvedSaid :=
 OpenClaim.holds_of_wide 5 Try.f5 rfl rfl rfl rfl rfl rfl rfl ⟨rfl,rfl,rfl,rfl,rfl⟩ rfl rfl rfl rfl rfl (by kernel_rfl) Try.func5 Ju
  (ACn (by kernel_rfl)) (by unfold Func.isWrapper;first | (rw[if_pos (by decide +kernel)];kernel_rfl)|(rw[if_neg (by decide +kernel)];exact⟨rfl,rfl⟩))
  (fun os started H enc _=>FnStagesProved_lifted os started H enc)
#print axioms FnStagesProved_holds
end Go.Proofs.Ytnjedabjbeipeaa
