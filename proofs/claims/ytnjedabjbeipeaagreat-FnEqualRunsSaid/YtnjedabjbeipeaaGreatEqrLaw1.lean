/-
  The law of equal nets: each call returns true, at every input.
  Conditions: none.
-/
import Derived.Test.YtnjedabjbeipeaaGreatTl
import Derived.Test.YtnjedabjbeipeaaGreatSj
import Derived.Test.YtnjedabjbeipeaaGreatKfFnEqualRuns
namespace Go.Proofs.YtnjedabjbeipeaaGreat
open Go.RowKit Go.ChangeShapes Go.WideShapes Go.ChangeAt
set_option linter.unusedSimpArgs false
set_option linter.unusedVariables false
set_option maxRecDepth 100000
set_option maxHeartbeats 10000000
abbrev gA (bs:List Int):X:=.d (Dh 5 (e1 LS) bs)
theorem lQ (bs:List Int) (h:bs.length≤9223372036854775807):Bx Tryz.prog 4 [gA bs] (.d (.bool (decide (1048576<bs.length)))):=by
 refine A5 (by kernel_rfl) Tryz.func4 rfl rfl rfl ?_;simp;omega
theorem gO:rW Tryz.prog LS 5:=fun h _=>by
 obtain⟨n,rfl,_,hw⟩:=DataW.trod_int Tryz.underlying5 h;exact⟨n,_,rfl,.int _ _,.int _ _ hw⟩
theorem aC {w:World} {G:Nat→Prop} {bs:List Int} {v:Value} (h:Rd w G (Dh 5 (e1 LS) bs) v):bs.length≤9223372036854775807:=by
 obtain⟨_,_,_,h⟩:=Rd.len h;simpa using h
theorem dY:rW Tryz.prog (Dh 5 (e1 LS)) 22:=pC Tryz.underlying22 (by simp) (fun x=>by simp[e1]) (uR gO)
theorem Xe (a b:List Int) (ha:a.length≤1048576) (hl:a.length=b.length):Bx Tryz.prog 9 [ints a,ints b] (.d (.bool (Sx a b))):=by
 refine A5 (by kernel_rfl) Tryz.func9 rfl rfl rfl ?_;simp[hl];refine AB [true,true,false,false,false,true] (fun k:Nat=>k≤a.length∧a.take k=b.take k) (fun k:Nat=>[(5,.d (.int .i64 k))]) (fun k:Nat=>[]) (fun k:Nat=>a.length - k) 0 ?_ ?_ ?_
 · simp
 · exact⟨[],by simp⟩
 rintro I S μ hI hS hμ k ⟨hk,ht⟩;by_cases hlt:k<a.length
 · have hx1:a[k]? = some a[k]:=zz0 hlt;have hx2:b[k]? = some (b[k]'(by omega)):=zz0 _;have w2:IntKind.i64.wrap ((k:Int)+1)=(k:Int)+1:=Ad (by omega) (by omega);have hnx:a[k]? = b[k]?→a.take (k+1)=b.take (k+1):=W3 hl hlt ht
   have hno:a[k]?≠b[k]?→Sx a b=false:=fun h=>by
    cases hs:Sx a b with
    | false=>rfl
    | true=>exact absurd (congrArg (·[k]?) (ABp hs)) h
   rw[hx1,hx2] at hnx hno;generalize a[k]=u at *;generalize b[k]'(by omega)=v at *;have hd:decide (k<a.length)=true:=zz2 hlt;have hd':decide (k<b.length)=true:=zz2 (by omega);by_cases he:u=v
   · subst he;simp[hd,hd',hx1,hx2,w2];exact⟨by kernel_rfl,Ae hI hS hμ (k+1) ⟨by omega,hnx rfl⟩ (by omega) ⟨[],by simp⟩⟩
   · have hn:=hno (by simpa using he);simp[hd,hd',hx1,hx2,he,hn];show _=true
     kernel_rfl
 · have hk':k=a.length:=by omega
   have hs:Sx a b=true:=by
    rw[hk',List.take_length,hl,List.take_length] at ht;simpa [Sx] using ht
   simp[hlt,hs]
theorem gP {c:B9}:Bw (Fd c)≤100:=by
 obtain⟨l1,l2,l3,l4⟩:=O7 c;have hI:(Fd c).1≤4:=(LM c).1.2;unfold Bw;split<;>omega
theorem aB {c:B9}:M7 (P3 c).1:=gR MF gP
theorem lI (bs:List Int) (hb:bs.length≤9223372036854775807):Bx Tryz.prog 3 [gA bs] (.d (.bool true)):=by
 have k0:=lQ bs hb;refine B3 (by kernel_rfl) Tryz.func3 rfl rfl rfl ?_;simp;by_cases hbig:1048576<bs.length
 · rw[zz2 hbig] at k0;refine Ab (k0) ?_;simp
 rw[zz3 hbig] at k0;refine Ab (k0) ?_;simp;have kM:=Rh bs (by omega);have kI:=Pz bs (by omega);have hok:=MF (c:=FW bs);have htb:=aB (c:=FW bs);have hil:=gQ bs;generalize Fd (FW bs)=a at *;generalize P3 (FW bs)=r at *;generalize fZ bs=ins at *;obtain⟨b,c9⟩:=r;simp only at htb kM;have hx:=BZ hok;have hg:=CJ hok;have hxb:=jB htb;have hgb:=htb.2;have k1:=ZN a b 600 hx hxb hg hgb;have k2:=cH a b 600 hx hxb;have hyes:=jE (a:=a) (b:=b) (B:=600);generalize Ie a b 600=q at *;obtain⟨q1,q2,q3⟩:=q;simp only at hyes k1 k2;by_cases hq:q1=1
 case neg =>
  have hq':(q1==1)=false:=by simpa using hq
  refine Ac (kM) [] [] (by simp) ?_;simp;refine Ac (kI) [] [] (by simp) ?_;simp;refine Ab (k1) ?_;simp[Ao];refine Ab (k2) ?_;simp[Ao];refine AJ 9 (by kernel_rfl) ?_;simp[hq']
 subst hq;obtain⟨hm,hz⟩:=hyes rfl;obtain⟨hc,-,-,-⟩:=PF hm;obtain⟨oa,ob,e1,e2,e3,e4,e5,e6⟩:=G9 hc;have kA:=KR a hx hg oa;have kB:=KR b hxb hgb ob;have lA:(Cg a).length=a.2.1.length:=by simp[Cg]
 have lB:(Cg b).length=b.2.1.length:=by simp[Cg]
 have kS:=Xe (Cg a) (Cg b) (by have:=(AA oa).1;omega) (by omega);have kN1:=Oe a ins hx (by omega);have kN2:=Oe b ins hxb (by omega)
 cases hsm:Sx (Cg a) (Cg b) with
 | false =>
   rw[hsm] at kS;generalize Cg a=sa at *;generalize Cg b=sb at *;refine Ac (kM) [] [] (by simp) ?_;simp;refine Ac (kI) [] [] (by simp) ?_;simp;refine Ab (k1) ?_;simp[Ao];refine Ab (k2) ?_;simp[Ao];refine AJ 9 (by kernel_rfl) ?_;simp;refine Ab (kA) ?_;simp[Ao];refine Ab (kB) ?_;simp[Ao];refine Ab (kS) ?_;simp
 | true =>
   rw[hsm] at kS;have hrn:=bC hm hz (ABp hsm) ins
   have hrl:(Fk b ins).length=ins.length:=by
    unfold Fk;rw[if_pos ⟨ob,by omega⟩,LX]
   have kR:=bO (Fk b ins) (by omega);rw[hrn] at kN1;generalize Fk b ins=rr at *;generalize Cg a=sa at *;generalize Cg b=sb at *;refine Ac (kM) [] [] (by simp) ?_;simp;refine Ac (kI) [] [] (by simp) ?_;simp;refine Ab (k1) ?_;simp[Ao];refine Ab (k2) ?_;simp[Ao];refine AJ 9 (by kernel_rfl) ?_;simp;refine Ab (kA) ?_;simp[Ao];refine Ab (kB) ?_;simp[Ao];refine Ab (kS) ?_;simp;refine AJ 17 (by kernel_rfl) ?_;simp;refine Ab (kN1) ?_;simp[Ao];refine Ab (kN2) ?_;simp[Ao];refine Ab (kR) ?_;simp;refine Ab (kN1) ?_;simp[Ao,hrl]
theorem FnEqualRuns_lifted (os:Os) (started:os.Started) (H:Type) (enc:TypeId×Value→H) :
 ReturnsInHanded {} Tryz.checked os 3 .any (Rows.fnEqualRunsSpec.pre6 enc Tryz.prog Tryz.f3 Rows.fnEqualRunsRow.domain false) (Rows.fnEqualRunsSpec.post enc Tryz.prog Tryz.f3 false true false false):=by
 refine iU (C:=Tryz.checked) Tryz.own started (by kernel_rfl) Tryz.func3
  (ChangeSpec.witness6 (enc:=enc) (C:=Tryz.checked) false ⟨#[],#[.slice none 0 0],[]⟩ 8 (by kernel_rfl) (by kernel_rfl) (by kernel_rfl) (by kernel_rfl))
  Tryz.laidOut (ABp (by kernel_rfl)) rfl rfl Tryz.underlying4 ?_
 intro W base args ds ps hval0 hA0 hlt;have hval:∀ (j:Nat) t v,Tryz.f3.params[j]? = some t→args[j]? = some v→Value.okWide Tryz.prog W .any base t v:=hval0;have hA:DataW.TrodAll enc Tryz.prog W 0 (fun _=>true) true Tryz.f3.params.toList args.toList ds ps:=hA0;clear hval0 hA0;rw[Tryz.params3] at hA hval;obtain⟨v0,vs0,d0,ds0,p0,q0,hargs,rfl,rfl,h0,r0⟩:=trodAll_cons hA;obtain⟨rfl,rfl,rfl⟩:=trodAll_nil r0;obtain rfl:args=#[v0]:=by cases args;simp_all
 obtain⟨bs,hb⟩:=fY Tryz.underlying22 dY (hval 0 _ v0 rfl rfl) h0 (fun x hx=>hlt x (by simp[hx]));exact⟨rfl,mF (lI bs (aC hb)) rfl (yA (.d hb))⟩
theorem FnEqualRuns_holds:Rows.FnEqualRunsSaid :=
 OpenClaim.holds_of_wide 3 Tryz.f3 rfl rfl rfl rfl rfl rfl rfl ⟨rfl,rfl,rfl,rfl,rfl⟩ rfl rfl rfl rfl rfl (by kernel_rfl) Tryz.func3 Lx
  (ABp (by kernel_rfl)) (by unfold Func.isWrapper;first | (rw[if_pos (by decide +kernel)];kernel_rfl)|(rw[if_neg (by decide +kernel)];exact⟨rfl,rfl⟩))
  (fun os started H enc _=>FnEqualRuns_lifted os started H enc)
#print axioms FnEqualRuns_holds
end Go.Proofs.YtnjedabjbeipeaaGreat
