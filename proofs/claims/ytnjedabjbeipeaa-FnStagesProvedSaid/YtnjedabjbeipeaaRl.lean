/-
  Adding a disjunction and an exclusive disjunction to a net, by abstract walks: the program.
  Conditions: those typed in each theorem.
-/
import Derived.Test.YtnjedabjbeipeaaRh
namespace Go.Proofs.Ytnjedabjbeipeaa
open Go.RowKit Go.ChangeShapes Go.WideShapes
set_option linter.unusedSimpArgs false
set_option linter.unusedVariables false
set_option maxRecDepth 100000
set_option maxHeartbeats 10000000
theorem I0 (I fa:Int) (a b:Int) (hI:0≤I∧I≤20) (hfa:1+I=fa) (hn:([]:List Ah).length≤300) (ha:0≤a∧a<2*(fa+([]:List Ah).length)) (hb:0≤b∧b<2*(fa+([]:List Ah).length)) (h:AV ([]:List Ah) (Ad a) (Ad b)=false) :
 BS Try.prog 123 [.ptr 0 0,.d (.int .i64 a),.d (.int .i64 b)] [.var 28 [.d (.int .i64 I),.nil 31,.nil 60,.nil 3]] (.d (.int .i64 (E4 fa ([]:List Ah) a b))) [.var 28 [.d (.int .i64 I),.nil 31,.nil 60,.nil 3]]:=by
 have hV:E4 fa ([]:List Ah) a b=if AG fa ([]:List Ah) (Ad a) (Ad b)<0 then -1 else Ad (AG fa ([]:List Ah) (Ad a) (Ad b)):=rfl;have hx:Bd a 1=Ad a:=A8 (by omega) (by omega);have hy:Bd b 1=Ad b:=A8 (by omega) (by omega);have fA:=AU ha.1;have fB:=AU hb.1;have hr:=BA (fa:=fa) (an:=([]:List Ah)) (a:=Ad a) (b:=Ad b) (by omega) (by omega) (by omega);have h3:=Bv (a:=Ad a) (b:=Ad b) hn;have k:=C8 I fa (Ad a) (Ad b) hI hfa (by omega) (by omega) h;rw[hV];generalize AG fa ([]:List Ah) (Ad a) (Ad b)=v at *;refine Cv (by kernel_rfl) Try.func123 rfl rfl rfl (by simp[AZ,Later]) (by simp[Bi,Ag.live]) ?_;simp[hx,hy];refine Ac (k) [] [0] (by simp) ?_;simp;by_cases hv:v<0
 · simp[hv,zz2 hv,show ¬ 0≤v by omega];exact⟨[0],by simp⟩
 · have hz:Bd v 1=Ad v:=A8 (by omega) (by omega);simp[hv,zz3 hv,hz,show 0≤v by omega];exact⟨[0],by simp⟩
theorem JR (I fa:Int) (a b:Int) (hI:0≤I∧I≤20) (hfa:1+I=fa) (hn:([]:List Ah).length≤300) (ha:0≤a∧a<2*(fa+([]:List Ah).length)) (hb:0≤b∧b<2*(fa+([]:List Ah).length)) (h:AV ([]:List Ah) (Ad a) (Ad b)=true) :
 BS Try.prog 123 [.ptr 0 0,.d (.int .i64 a),.d (.int .i64 b)] [.var 28 [.d (.int .i64 I),.nil 31,.nil 60,.nil 3]] (.d (.int .i64 (E4 fa ([]:List Ah) a b))) [.var 28 [.d (.int .i64 I),.nil 31,.ref 1,.nil 3],.arr 60 true ((Ak ([]:List Ah) (Ad a) (Ad b)).map Ao)]:=by
 have hV:E4 fa ([]:List Ah) a b=if AG fa ([]:List Ah) (Ad a) (Ad b)<0 then -1 else Ad (AG fa ([]:List Ah) (Ad a) (Ad b)):=rfl;have hx:Bd a 1=Ad a:=A8 (by omega) (by omega);have hy:Bd b 1=Ad b:=A8 (by omega) (by omega);have fA:=AU ha.1;have fB:=AU hb.1;have hr:=BA (fa:=fa) (an:=([]:List Ah)) (a:=Ad a) (b:=Ad b) (by omega) (by omega) (by omega);have h3:=Bv (a:=Ad a) (b:=Ad b) hn;have k:=Dw I fa (Ad a) (Ad b) hI hfa (by omega) (by omega) h;rw[hV];generalize AG fa ([]:List Ah) (Ad a) (Ad b)=v at *;refine Cv (by kernel_rfl) Try.func123 rfl rfl rfl (by simp[AZ,Later]) (by simp[Bi,Ag.live]) ?_;simp[hx,hy];refine Ac (k) [] [0] (by simp) ?_;simp;by_cases hv:v<0
 · simp[hv,zz2 hv,show ¬ 0≤v by omega];exact⟨[0,1],by simp⟩
 · have hz:Bd v 1=Ad v:=A8 (by omega) (by omega);simp[hv,zz3 hv,hz,show 0≤v by omega];exact⟨[0,1],by simp⟩
theorem Bm (I fa:Int) (an:List Ah) (a b:Int) (hI:0≤I∧I≤20) (hfa:1+I=fa) (hn:an.length≤300) (ha:0≤a∧a<2*(fa+an.length)) (hb:0≤b∧b<2*(fa+an.length)) (h:AV an (Ad a) (Ad b)=false) :
 BS Try.prog 123 [.ptr 0 0,.d (.int .i64 a),.d (.int .i64 b)] [.var 28 [.d (.int .i64 I),.nil 31,.ref 1,.nil 3],.arr 60 true ((an).map Ao)] (.d (.int .i64 (E4 fa an a b))) [.var 28 [.d (.int .i64 I),.nil 31,.ref 1,.nil 3],.arr 60 true ((an).map Ao)]:=by
 have hV:E4 fa an a b=if AG fa an (Ad a) (Ad b)<0 then -1 else Ad (AG fa an (Ad a) (Ad b)):=rfl;have hx:Bd a 1=Ad a:=A8 (by omega) (by omega);have hy:Bd b 1=Ad b:=A8 (by omega) (by omega);have fA:=AU ha.1;have fB:=AU hb.1;have hr:=BA (fa:=fa) (an:=an) (a:=Ad a) (b:=Ad b) (by omega) (by omega) (by omega);have h3:=Bv (a:=Ad a) (b:=Ad b) hn;have k:=BN I fa an (Ad a) (Ad b) hI hfa hn (by omega) (by omega) h;rw[hV];generalize AG fa an (Ad a) (Ad b)=v at *;refine Cv (by kernel_rfl) Try.func123 rfl rfl rfl (by simp[AZ,Later]) (by simp[Bi,Ag.live]) ?_;simp[hx,hy];refine Ac (k) [] [0,1] (by simp) ?_;simp;by_cases hv:v<0
 · simp[hv,zz2 hv,show ¬ 0≤v by omega];exact⟨[0,1],by simp⟩
 · have hz:Bd v 1=Ad v:=A8 (by omega) (by omega);simp[hv,zz3 hv,hz,show 0≤v by omega];exact⟨[0,1],by simp⟩
theorem Bx (I fa:Int) (an:List Ah) (a b:Int) (hI:0≤I∧I≤20) (hfa:1+I=fa) (hn:an.length≤300) (ha:0≤a∧a<2*(fa+an.length)) (hb:0≤b∧b<2*(fa+an.length)) (h:AV an (Ad a) (Ad b)=true) :
 BS Try.prog 123 [.ptr 0 0,.d (.int .i64 a),.d (.int .i64 b)] [.var 28 [.d (.int .i64 I),.nil 31,.ref 1,.nil 3],.arr 60 true ((an).map Ao)] (.d (.int .i64 (E4 fa an a b))) [.var 28 [.d (.int .i64 I),.nil 31,.ref 2,.nil 3],.dead,.arr 60 true ((Ak an (Ad a) (Ad b)).map Ao)]:=by
 have hV:E4 fa an a b=if AG fa an (Ad a) (Ad b)<0 then -1 else Ad (AG fa an (Ad a) (Ad b)):=rfl;have hx:Bd a 1=Ad a:=A8 (by omega) (by omega);have hy:Bd b 1=Ad b:=A8 (by omega) (by omega);have fA:=AU ha.1;have fB:=AU hb.1;have hr:=BA (fa:=fa) (an:=an) (a:=Ad a) (b:=Ad b) (by omega) (by omega) (by omega);have h3:=Bv (a:=Ad a) (b:=Ad b) hn;have k:=B1 I fa an (Ad a) (Ad b) hI hfa hn (by omega) (by omega) h;rw[hV];generalize AG fa an (Ad a) (Ad b)=v at *;refine Cv (by kernel_rfl) Try.func123 rfl rfl rfl (by simp[AZ,Later]) (by simp[Bi,Ag.live]) ?_;simp[hx,hy];refine Ac (k) [] [0,1] (by simp) ?_;simp;by_cases hv:v<0
 · simp[hv,zz2 hv,show ¬ 0≤v by omega];exact⟨[0,1,2],by simp⟩
 · have hz:Bd v 1=Ad v:=A8 (by omega) (by omega);simp[hv,zz3 hv,hz,show 0≤v by omega];exact⟨[0,1,2],by simp⟩
theorem QO (I fa:Int) (a b:Int) (hI:0≤I∧I≤20) (hfa:1+I=fa) (hn:([]:List Ah).length≤300) (ha:0≤a∧a<2*(fa+([]:List Ah).length)) (hb:0≤b∧b<2*(fa+([]:List Ah).length)) (h:(Ce fa ([]:List Ah) a b).2=([]:List Ah)) :
 BS Try.prog 122 [.ptr 0 0,.d (.int .i64 a),.d (.int .i64 b)] [.var 28 [.d (.int .i64 I),.nil 31,.nil 60,.nil 3]] (.d (.int .i64 (Ce fa ([]:List Ah) a b).1)) [.var 28 [.d (.int .i64 I),.nil 31,.nil 60,.nil 3]]:=by
 have hx:Bd a 1=Ad a:=A8 (by omega) (by omega);have hy:Bd b 1=Ad b:=A8 (by omega) (by omega);have fA:=AU ha.1;have fB:=AU hb.1;have hR:Ce fa ([]:List Ah) a b=if AG fa ([]:List Ah) a (Ad b)<0 then (-1,Ak ([]:List Ah) a (Ad b)) else if AG fa (Ak ([]:List Ah) a (Ad b)) (Ad a) b<0 then (-1,Ak (Ak ([]:List Ah) a (Ad b)) (Ad a) b) else (E4 fa (Ak (Ak ([]:List Ah) a (Ad b)) (Ad a) b) (AG fa ([]:List Ah) a (Ad b)) (AG fa (Ak ([]:List Ah) a (Ad b)) (Ad a) b),Ak (Ak (Ak ([]:List Ah) a (Ad b)) (Ad a) b) (Ad (AG fa ([]:List Ah) a (Ad b))) (Ad (AG fa (Ak ([]:List Ah) a (Ad b)) (Ad a) b))):=rfl;have l1:=AM (an:=([]:List Ah)) (a:=a) (b:=Ad b);have n1:=Bv (a:=a) (b:=Ad b) hn;have r1:=BA (fa:=fa) (an:=([]:List Ah)) (a:=a) (b:=Ad b) (by omega) (by omega) (by omega);have c1same:=C8 I fa a (Ad b) hI hfa (by omega) (by omega);have c1new:=Dw I fa a (Ad b) hI hfa (by omega) (by omega);have e1:AV ([]:List Ah) a (Ad b)=false→([]:List Ah)=Ak ([]:List Ah) a (Ad b):=fun h=>by unfold Ak;rw[if_neg (by simp[h])]
 have e1b:AV ([]:List Ah) a (Ad b)=true→([]:List Ah).length<(Ak ([]:List Ah) a (Ad b)).length:=fun h=>by unfold Ak;rw[if_pos h];simp
 generalize Ce fa ([]:List Ah) a b=R at *;generalize hp0:AG fa ([]:List Ah) a (Ad b)=p at *;generalize h10:Ak ([]:List Ah) a (Ad b)=an1 at *;generalize h1m:AV ([]:List Ah) a (Ad b)=m1 at *;refine Cv (by kernel_rfl) Try.func122 rfl rfl rfl (by simp[AZ,Later]) (by simp[Bi,Ag.live]) ?_;simp[hx,hy]
 cases m1
 · have c1:=c1same rfl;obtain rfl:=e1 rfl;refine Ac (c1) [] [0] (by simp) ?_;simp[hx,hy];by_cases hp:p<0
   · obtain rfl:R=(-1,([]:List Ah)):=by rw[hR,if_pos hp]
     simp[hp,zz2 hp,show ¬ 0≤p by omega];exact⟨[0],by simp⟩
   rw[if_neg hp] at hR;have l2:=AM (an:=([]:List Ah)) (a:=Ad a) (b:=b);have n2:=Bv (an:=([]:List Ah)) (a:=Ad a) (b:=b) hn;have r2:=BA (fa:=fa) (an:=([]:List Ah)) (a:=Ad a) (b:=b) (by omega) (by omega) (by omega);have c2same:=C8 I fa (Ad a) b hI hfa (by omega) (by omega);have c2new:=Dw I fa (Ad a) b hI hfa (by omega) (by omega);have e2:AV ([]:List Ah) (Ad a) b=false→([]:List Ah)=Ak ([]:List Ah) (Ad a) b:=fun h=>by unfold Ak;rw[if_neg (by simp[h])]
   have e2b:AV ([]:List Ah) (Ad a) b=true→([]:List Ah).length<(Ak ([]:List Ah) (Ad a) b).length:=fun h=>by unfold Ak;rw[if_pos h];simp
   generalize hq0:AG fa ([]:List Ah) (Ad a) b=q at *;generalize h20:Ak ([]:List Ah) (Ad a) b=an2 at *;generalize h2m:AV ([]:List Ah) (Ad a) b=m2 at *;simp[hp,zz3 hp,show 0≤p by omega,hx,hy]
   cases m2
   · have c2:=c2same rfl;obtain rfl:=e2 rfl;refine Ac (c2) [] [0] (by simp) ?_;simp;by_cases hq:q<0
     · obtain rfl:R=(-1,([]:List Ah)):=by rw[hR,if_pos hq]
       simp[hq,zz2 hq,show ¬ 0≤q by omega];exact⟨[0],by simp⟩
     rw[if_neg hq] at hR;have l3:=AM (an:=([]:List Ah)) (a:=Ad p) (b:=Ad q);have c3same:=I0 I fa p q hI hfa hn (by omega) (by omega);have c3new:=JR I fa p q hI hfa hn (by omega) (by omega);have e3:AV ([]:List Ah) (Ad p) (Ad q)=false→([]:List Ah)=Ak ([]:List Ah) (Ad p) (Ad q):=fun h=>by unfold Ak;rw[if_neg (by simp[h])]
     have e3b:AV ([]:List Ah) (Ad p) (Ad q)=true→([]:List Ah).length<(Ak ([]:List Ah) (Ad p) (Ad q)).length:=fun h=>by unfold Ak;rw[if_pos h];simp
     generalize E4 fa ([]:List Ah) p q=r at *;generalize Ak ([]:List Ah) (Ad p) (Ad q)=an3 at *;generalize AV ([]:List Ah) (Ad p) (Ad q)=m3 at *;subst hR;simp[hq,zz3 hq,show 0≤q by omega]
     cases m3
     · have c3:=c3same rfl;obtain rfl:=e3 rfl;refine Ac (c3) [] [0] (by simp) ?_;simp;exact⟨[0],by simp⟩
     · have c3:=c3new rfl;have b3:=e3b rfl;exfalso;have hh:=congrArg List.length h;simp only[List.length_nil] at hh l1;omega
   · have c2:=c2new rfl;have b2:=e2b rfl;refine Ac (c2) [] [0] (by simp) ?_;simp;by_cases hq:q<0
     · obtain rfl:R=(-1,an2):=by rw[hR,if_pos hq]
       exfalso;have hh:=congrArg List.length h;simp only[List.length_nil] at hh l1;omega
     rw[if_neg hq] at hR;have l3:=AM (an:=an2) (a:=Ad p) (b:=Ad q);have c3same:=Bm I fa an2 p q hI hfa n2 (by omega) (by omega);have c3new:=Bx I fa an2 p q hI hfa n2 (by omega) (by omega);have e3:AV an2 (Ad p) (Ad q)=false→an2=Ak an2 (Ad p) (Ad q):=fun h=>by unfold Ak;rw[if_neg (by simp[h])]
     have e3b:AV an2 (Ad p) (Ad q)=true→an2.length<(Ak an2 (Ad p) (Ad q)).length:=fun h=>by unfold Ak;rw[if_pos h];simp
     generalize E4 fa an2 p q=r at *;generalize Ak an2 (Ad p) (Ad q)=an3 at *;generalize AV an2 (Ad p) (Ad q)=m3 at *;subst hR;simp[hq,zz3 hq,show 0≤q by omega]
     cases m3
     · have c3:=c3same rfl;obtain rfl:=e3 rfl;exfalso;have hh:=congrArg List.length h;simp only[List.length_nil] at hh l1;omega
     · have c3:=c3new rfl;have b3:=e3b rfl;exfalso;have hh:=congrArg List.length h;simp only[List.length_nil] at hh l1;omega
 · have c1:=c1new rfl;have b1:=e1b rfl;refine Ac (c1) [] [0] (by simp) ?_;simp[hx,hy];by_cases hp:p<0
   · obtain rfl:R=(-1,an1):=by rw[hR,if_pos hp]
     exfalso;have hh:=congrArg List.length h;simp only[List.length_nil] at hh l1;omega
   rw[if_neg hp] at hR;have l2:=AM (an:=an1) (a:=Ad a) (b:=b);have n2:=Bv (an:=an1) (a:=Ad a) (b:=b) n1;have r2:=BA (fa:=fa) (an:=an1) (a:=Ad a) (b:=b) (by omega) (by omega) (by omega);have c2same:=BN I fa an1 (Ad a) b hI hfa n1 (by omega) (by omega);have c2new:=B1 I fa an1 (Ad a) b hI hfa n1 (by omega) (by omega);have e2:AV an1 (Ad a) b=false→an1=Ak an1 (Ad a) b:=fun h=>by unfold Ak;rw[if_neg (by simp[h])]
   have e2b:AV an1 (Ad a) b=true→an1.length<(Ak an1 (Ad a) b).length:=fun h=>by unfold Ak;rw[if_pos h];simp
   generalize hq0:AG fa an1 (Ad a) b=q at *;generalize h20:Ak an1 (Ad a) b=an2 at *;generalize h2m:AV an1 (Ad a) b=m2 at *;simp[hp,zz3 hp,show 0≤p by omega,hx,hy]
   cases m2
   · have c2:=c2same rfl;obtain rfl:=e2 rfl;refine Ac (c2) [] [0,1] (by simp) ?_;simp;by_cases hq:q<0
     · obtain rfl:R=(-1,an1):=by rw[hR,if_pos hq]
       exfalso;have hh:=congrArg List.length h;simp only[List.length_nil] at hh l1;omega
     rw[if_neg hq] at hR;have l3:=AM (an:=an1) (a:=Ad p) (b:=Ad q);have c3same:=Bm I fa an1 p q hI hfa n1 (by omega) (by omega);have c3new:=Bx I fa an1 p q hI hfa n1 (by omega) (by omega);have e3:AV an1 (Ad p) (Ad q)=false→an1=Ak an1 (Ad p) (Ad q):=fun h=>by unfold Ak;rw[if_neg (by simp[h])]
     have e3b:AV an1 (Ad p) (Ad q)=true→an1.length<(Ak an1 (Ad p) (Ad q)).length:=fun h=>by unfold Ak;rw[if_pos h];simp
     generalize E4 fa an1 p q=r at *;generalize Ak an1 (Ad p) (Ad q)=an3 at *;generalize AV an1 (Ad p) (Ad q)=m3 at *;subst hR;simp[hq,zz3 hq,show 0≤q by omega]
     cases m3
     · have c3:=c3same rfl;obtain rfl:=e3 rfl;exfalso;have hh:=congrArg List.length h;simp only[List.length_nil] at hh l1;omega
     · have c3:=c3new rfl;have b3:=e3b rfl;exfalso;have hh:=congrArg List.length h;simp only[List.length_nil] at hh l1;omega
   · have c2:=c2new rfl;have b2:=e2b rfl;refine Ac (c2) [] [0,1] (by simp) ?_;simp;by_cases hq:q<0
     · obtain rfl:R=(-1,an2):=by rw[hR,if_pos hq]
       exfalso;have hh:=congrArg List.length h;simp only[List.length_nil] at hh l1;omega
     rw[if_neg hq] at hR;have l3:=AM (an:=an2) (a:=Ad p) (b:=Ad q);have c3same:=Bm I fa an2 p q hI hfa n2 (by omega) (by omega);have c3new:=Bx I fa an2 p q hI hfa n2 (by omega) (by omega);have e3:AV an2 (Ad p) (Ad q)=false→an2=Ak an2 (Ad p) (Ad q):=fun h=>by unfold Ak;rw[if_neg (by simp[h])]
     have e3b:AV an2 (Ad p) (Ad q)=true→an2.length<(Ak an2 (Ad p) (Ad q)).length:=fun h=>by unfold Ak;rw[if_pos h];simp
     generalize E4 fa an2 p q=r at *;generalize Ak an2 (Ad p) (Ad q)=an3 at *;generalize AV an2 (Ad p) (Ad q)=m3 at *;subst hR;simp[hq,zz3 hq,show 0≤q by omega]
     cases m3
     · have c3:=c3same rfl;obtain rfl:=e3 rfl;exfalso;have hh:=congrArg List.length h;simp only[List.length_nil] at hh l1;omega
     · have c3:=c3new rfl;have b3:=e3b rfl;exfalso;have hh:=congrArg List.length h;simp only[List.length_nil] at hh l1;omega
theorem Tt (I fa:Int) (a b:Int) (hI:0≤I∧I≤20) (hfa:1+I=fa) (hn:([]:List Ah).length≤300) (ha:0≤a∧a<2*(fa+([]:List Ah).length)) (hb:0≤b∧b<2*(fa+([]:List Ah).length)) (h:(Ce fa ([]:List Ah) a b).2≠([]:List Ah)) :
 BS Try.prog 122 [.ptr 0 0,.d (.int .i64 a),.d (.int .i64 b)] [.var 28 [.d (.int .i64 I),.nil 31,.nil 60,.nil 3]] (.d (.int .i64 (Ce fa ([]:List Ah) a b).1)) [.var 28 [.d (.int .i64 I),.nil 31,.ref 1,.nil 3],.arr 60 true (((Ce fa ([]:List Ah) a b).2).map Ao)]:=by
 have hx:Bd a 1=Ad a:=A8 (by omega) (by omega);have hy:Bd b 1=Ad b:=A8 (by omega) (by omega);have fA:=AU ha.1;have fB:=AU hb.1;have hR:Ce fa ([]:List Ah) a b=if AG fa ([]:List Ah) a (Ad b)<0 then (-1,Ak ([]:List Ah) a (Ad b)) else if AG fa (Ak ([]:List Ah) a (Ad b)) (Ad a) b<0 then (-1,Ak (Ak ([]:List Ah) a (Ad b)) (Ad a) b) else (E4 fa (Ak (Ak ([]:List Ah) a (Ad b)) (Ad a) b) (AG fa ([]:List Ah) a (Ad b)) (AG fa (Ak ([]:List Ah) a (Ad b)) (Ad a) b),Ak (Ak (Ak ([]:List Ah) a (Ad b)) (Ad a) b) (Ad (AG fa ([]:List Ah) a (Ad b))) (Ad (AG fa (Ak ([]:List Ah) a (Ad b)) (Ad a) b))):=rfl;have l1:=AM (an:=([]:List Ah)) (a:=a) (b:=Ad b);have n1:=Bv (a:=a) (b:=Ad b) hn;have r1:=BA (fa:=fa) (an:=([]:List Ah)) (a:=a) (b:=Ad b) (by omega) (by omega) (by omega);have c1same:=C8 I fa a (Ad b) hI hfa (by omega) (by omega);have c1new:=Dw I fa a (Ad b) hI hfa (by omega) (by omega);have e1:AV ([]:List Ah) a (Ad b)=false→([]:List Ah)=Ak ([]:List Ah) a (Ad b):=fun h=>by unfold Ak;rw[if_neg (by simp[h])]
 have e1b:AV ([]:List Ah) a (Ad b)=true→([]:List Ah).length<(Ak ([]:List Ah) a (Ad b)).length:=fun h=>by unfold Ak;rw[if_pos h];simp
 generalize Ce fa ([]:List Ah) a b=R at *;generalize hp0:AG fa ([]:List Ah) a (Ad b)=p at *;generalize h10:Ak ([]:List Ah) a (Ad b)=an1 at *;generalize h1m:AV ([]:List Ah) a (Ad b)=m1 at *;refine Cv (by kernel_rfl) Try.func122 rfl rfl rfl (by simp[AZ,Later]) (by simp[Bi,Ag.live]) ?_;simp[hx,hy]
 cases m1
 · have c1:=c1same rfl;obtain rfl:=e1 rfl;refine Ac (c1) [] [0] (by simp) ?_;simp[hx,hy];by_cases hp:p<0
   · obtain rfl:R=(-1,([]:List Ah)):=by rw[hR,if_pos hp]
     exact absurd rfl h
   rw[if_neg hp] at hR;have l2:=AM (an:=([]:List Ah)) (a:=Ad a) (b:=b);have n2:=Bv (an:=([]:List Ah)) (a:=Ad a) (b:=b) hn;have r2:=BA (fa:=fa) (an:=([]:List Ah)) (a:=Ad a) (b:=b) (by omega) (by omega) (by omega);have c2same:=C8 I fa (Ad a) b hI hfa (by omega) (by omega);have c2new:=Dw I fa (Ad a) b hI hfa (by omega) (by omega);have e2:AV ([]:List Ah) (Ad a) b=false→([]:List Ah)=Ak ([]:List Ah) (Ad a) b:=fun h=>by unfold Ak;rw[if_neg (by simp[h])]
   have e2b:AV ([]:List Ah) (Ad a) b=true→([]:List Ah).length<(Ak ([]:List Ah) (Ad a) b).length:=fun h=>by unfold Ak;rw[if_pos h];simp
   generalize hq0:AG fa ([]:List Ah) (Ad a) b=q at *;generalize h20:Ak ([]:List Ah) (Ad a) b=an2 at *;generalize h2m:AV ([]:List Ah) (Ad a) b=m2 at *;simp[hp,zz3 hp,show 0≤p by omega,hx,hy]
   cases m2
   · have c2:=c2same rfl;obtain rfl:=e2 rfl;refine Ac (c2) [] [0] (by simp) ?_;simp;by_cases hq:q<0
     · obtain rfl:R=(-1,([]:List Ah)):=by rw[hR,if_pos hq]
       exact absurd rfl h
     rw[if_neg hq] at hR;have l3:=AM (an:=([]:List Ah)) (a:=Ad p) (b:=Ad q);have c3same:=I0 I fa p q hI hfa hn (by omega) (by omega);have c3new:=JR I fa p q hI hfa hn (by omega) (by omega);have e3:AV ([]:List Ah) (Ad p) (Ad q)=false→([]:List Ah)=Ak ([]:List Ah) (Ad p) (Ad q):=fun h=>by unfold Ak;rw[if_neg (by simp[h])]
     have e3b:AV ([]:List Ah) (Ad p) (Ad q)=true→([]:List Ah).length<(Ak ([]:List Ah) (Ad p) (Ad q)).length:=fun h=>by unfold Ak;rw[if_pos h];simp
     generalize E4 fa ([]:List Ah) p q=r at *;generalize Ak ([]:List Ah) (Ad p) (Ad q)=an3 at *;generalize AV ([]:List Ah) (Ad p) (Ad q)=m3 at *;subst hR;simp[hq,zz3 hq,show 0≤q by omega]
     cases m3
     · have c3:=c3same rfl;obtain rfl:=e3 rfl;exact absurd rfl h
     · have c3:=c3new rfl;have b3:=e3b rfl;refine Ac (c3) [] [0] (by simp) ?_;simp;exact⟨[0,1],by simp⟩
   · have c2:=c2new rfl;have b2:=e2b rfl;refine Ac (c2) [] [0] (by simp) ?_;simp;by_cases hq:q<0
     · obtain rfl:R=(-1,an2):=by rw[hR,if_pos hq]
       simp[hq,zz2 hq,show ¬ 0≤q by omega];exact⟨[0,1],by simp⟩
     rw[if_neg hq] at hR;have l3:=AM (an:=an2) (a:=Ad p) (b:=Ad q);have c3same:=Bm I fa an2 p q hI hfa n2 (by omega) (by omega);have c3new:=Bx I fa an2 p q hI hfa n2 (by omega) (by omega);have e3:AV an2 (Ad p) (Ad q)=false→an2=Ak an2 (Ad p) (Ad q):=fun h=>by unfold Ak;rw[if_neg (by simp[h])]
     have e3b:AV an2 (Ad p) (Ad q)=true→an2.length<(Ak an2 (Ad p) (Ad q)).length:=fun h=>by unfold Ak;rw[if_pos h];simp
     generalize E4 fa an2 p q=r at *;generalize Ak an2 (Ad p) (Ad q)=an3 at *;generalize AV an2 (Ad p) (Ad q)=m3 at *;subst hR;simp[hq,zz3 hq,show 0≤q by omega]
     cases m3
     · have c3:=c3same rfl;obtain rfl:=e3 rfl;refine Ac (c3) [] [0,1] (by simp) ?_;simp;exact⟨[0,1],by simp⟩
     · have c3:=c3new rfl;have b3:=e3b rfl;refine Ac (c3) [] [0,1] (by simp) ?_;simp;exact⟨[0,2],by simp⟩
 · have c1:=c1new rfl;have b1:=e1b rfl;refine Ac (c1) [] [0] (by simp) ?_;simp[hx,hy];by_cases hp:p<0
   · obtain rfl:R=(-1,an1):=by rw[hR,if_pos hp]
     simp[hp,zz2 hp,show ¬ 0≤p by omega];exact⟨[0,1],by simp⟩
   rw[if_neg hp] at hR;have l2:=AM (an:=an1) (a:=Ad a) (b:=b);have n2:=Bv (an:=an1) (a:=Ad a) (b:=b) n1;have r2:=BA (fa:=fa) (an:=an1) (a:=Ad a) (b:=b) (by omega) (by omega) (by omega);have c2same:=BN I fa an1 (Ad a) b hI hfa n1 (by omega) (by omega);have c2new:=B1 I fa an1 (Ad a) b hI hfa n1 (by omega) (by omega);have e2:AV an1 (Ad a) b=false→an1=Ak an1 (Ad a) b:=fun h=>by unfold Ak;rw[if_neg (by simp[h])]
   have e2b:AV an1 (Ad a) b=true→an1.length<(Ak an1 (Ad a) b).length:=fun h=>by unfold Ak;rw[if_pos h];simp
   generalize hq0:AG fa an1 (Ad a) b=q at *;generalize h20:Ak an1 (Ad a) b=an2 at *;generalize h2m:AV an1 (Ad a) b=m2 at *;simp[hp,zz3 hp,show 0≤p by omega,hx,hy]
   cases m2
   · have c2:=c2same rfl;obtain rfl:=e2 rfl;refine Ac (c2) [] [0,1] (by simp) ?_;simp;by_cases hq:q<0
     · obtain rfl:R=(-1,an1):=by rw[hR,if_pos hq]
       simp[hq,zz2 hq,show ¬ 0≤q by omega];exact⟨[0,1],by simp⟩
     rw[if_neg hq] at hR;have l3:=AM (an:=an1) (a:=Ad p) (b:=Ad q);have c3same:=Bm I fa an1 p q hI hfa n1 (by omega) (by omega);have c3new:=Bx I fa an1 p q hI hfa n1 (by omega) (by omega);have e3:AV an1 (Ad p) (Ad q)=false→an1=Ak an1 (Ad p) (Ad q):=fun h=>by unfold Ak;rw[if_neg (by simp[h])]
     have e3b:AV an1 (Ad p) (Ad q)=true→an1.length<(Ak an1 (Ad p) (Ad q)).length:=fun h=>by unfold Ak;rw[if_pos h];simp
     generalize E4 fa an1 p q=r at *;generalize Ak an1 (Ad p) (Ad q)=an3 at *;generalize AV an1 (Ad p) (Ad q)=m3 at *;subst hR;simp[hq,zz3 hq,show 0≤q by omega]
     cases m3
     · have c3:=c3same rfl;obtain rfl:=e3 rfl;refine Ac (c3) [] [0,1] (by simp) ?_;simp;exact⟨[0,1],by simp⟩
     · have c3:=c3new rfl;have b3:=e3b rfl;refine Ac (c3) [] [0,1] (by simp) ?_;simp;exact⟨[0,2],by simp⟩
   · have c2:=c2new rfl;have b2:=e2b rfl;refine Ac (c2) [] [0,1] (by simp) ?_;simp;by_cases hq:q<0
     · obtain rfl:R=(-1,an2):=by rw[hR,if_pos hq]
       simp[hq,zz2 hq,show ¬ 0≤q by omega];exact⟨[0,2],by simp⟩
     rw[if_neg hq] at hR;have l3:=AM (an:=an2) (a:=Ad p) (b:=Ad q);have c3same:=Bm I fa an2 p q hI hfa n2 (by omega) (by omega);have c3new:=Bx I fa an2 p q hI hfa n2 (by omega) (by omega);have e3:AV an2 (Ad p) (Ad q)=false→an2=Ak an2 (Ad p) (Ad q):=fun h=>by unfold Ak;rw[if_neg (by simp[h])]
     have e3b:AV an2 (Ad p) (Ad q)=true→an2.length<(Ak an2 (Ad p) (Ad q)).length:=fun h=>by unfold Ak;rw[if_pos h];simp
     generalize E4 fa an2 p q=r at *;generalize Ak an2 (Ad p) (Ad q)=an3 at *;generalize AV an2 (Ad p) (Ad q)=m3 at *;subst hR;simp[hq,zz3 hq,show 0≤q by omega]
     cases m3
     · have c3:=c3same rfl;obtain rfl:=e3 rfl;refine Ac (c3) [] [0,2] (by simp) ?_;simp;exact⟨[0,2],by simp⟩
     · have c3:=c3new rfl;have b3:=e3b rfl;refine Ac (c3) [] [0,2] (by simp) ?_;simp;exact⟨[0,3],by simp⟩
theorem KS (I fa:Int) (an:List Ah) (a b:Int) (hI:0≤I∧I≤20) (hfa:1+I=fa) (hn:an.length≤300) (ha:0≤a∧a<2*(fa+an.length)) (hb:0≤b∧b<2*(fa+an.length)) (h:(Ce fa an a b).2=an) :
 BS Try.prog 122 [.ptr 0 0,.d (.int .i64 a),.d (.int .i64 b)] [.var 28 [.d (.int .i64 I),.nil 31,.ref 1,.nil 3],.arr 60 true ((an).map Ao)] (.d (.int .i64 (Ce fa an a b).1)) [.var 28 [.d (.int .i64 I),.nil 31,.ref 1,.nil 3],.arr 60 true ((an).map Ao)]:=by
 have hx:Bd a 1=Ad a:=A8 (by omega) (by omega);have hy:Bd b 1=Ad b:=A8 (by omega) (by omega);have fA:=AU ha.1;have fB:=AU hb.1;have hR:Ce fa an a b=if AG fa an a (Ad b)<0 then (-1,Ak an a (Ad b)) else if AG fa (Ak an a (Ad b)) (Ad a) b<0 then (-1,Ak (Ak an a (Ad b)) (Ad a) b) else (E4 fa (Ak (Ak an a (Ad b)) (Ad a) b) (AG fa an a (Ad b)) (AG fa (Ak an a (Ad b)) (Ad a) b),Ak (Ak (Ak an a (Ad b)) (Ad a) b) (Ad (AG fa an a (Ad b))) (Ad (AG fa (Ak an a (Ad b)) (Ad a) b))):=rfl;have l1:=AM (an:=an) (a:=a) (b:=Ad b);have n1:=Bv (a:=a) (b:=Ad b) hn;have r1:=BA (fa:=fa) (an:=an) (a:=a) (b:=Ad b) (by omega) (by omega) (by omega);have c1same:=BN I fa an a (Ad b) hI hfa hn (by omega) (by omega);have c1new:=B1 I fa an a (Ad b) hI hfa hn (by omega) (by omega);have e1:AV an a (Ad b)=false→an=Ak an a (Ad b):=fun h=>by unfold Ak;rw[if_neg (by simp[h])]
 have e1b:AV an a (Ad b)=true→an.length<(Ak an a (Ad b)).length:=fun h=>by unfold Ak;rw[if_pos h];simp
 generalize Ce fa an a b=R at *;generalize hp0:AG fa an a (Ad b)=p at *;generalize h10:Ak an a (Ad b)=an1 at *;generalize h1m:AV an a (Ad b)=m1 at *;refine Cv (by kernel_rfl) Try.func122 rfl rfl rfl (by simp[AZ,Later]) (by simp[Bi,Ag.live]) ?_;simp[hx,hy]
 cases m1
 · have c1:=c1same rfl;obtain rfl:=e1 rfl;refine Ac (c1) [] [0,1] (by simp) ?_;simp[hx,hy];by_cases hp:p<0
   · obtain rfl:R=(-1,an):=by rw[hR,if_pos hp]
     simp[hp,zz2 hp,show ¬ 0≤p by omega];exact⟨[0,1],by simp⟩
   rw[if_neg hp] at hR;have l2:=AM (an:=an) (a:=Ad a) (b:=b);have n2:=Bv (an:=an) (a:=Ad a) (b:=b) hn;have r2:=BA (fa:=fa) (an:=an) (a:=Ad a) (b:=b) (by omega) (by omega) (by omega);have c2same:=BN I fa an (Ad a) b hI hfa hn (by omega) (by omega);have c2new:=B1 I fa an (Ad a) b hI hfa hn (by omega) (by omega);have e2:AV an (Ad a) b=false→an=Ak an (Ad a) b:=fun h=>by unfold Ak;rw[if_neg (by simp[h])]
   have e2b:AV an (Ad a) b=true→an.length<(Ak an (Ad a) b).length:=fun h=>by unfold Ak;rw[if_pos h];simp
   generalize hq0:AG fa an (Ad a) b=q at *;generalize h20:Ak an (Ad a) b=an2 at *;generalize h2m:AV an (Ad a) b=m2 at *;simp[hp,zz3 hp,show 0≤p by omega,hx,hy]
   cases m2
   · have c2:=c2same rfl;obtain rfl:=e2 rfl;refine Ac (c2) [] [0,1] (by simp) ?_;simp;by_cases hq:q<0
     · obtain rfl:R=(-1,an):=by rw[hR,if_pos hq]
       simp[hq,zz2 hq,show ¬ 0≤q by omega];exact⟨[0,1],by simp⟩
     rw[if_neg hq] at hR;have l3:=AM (an:=an) (a:=Ad p) (b:=Ad q);have c3same:=Bm I fa an p q hI hfa hn (by omega) (by omega);have c3new:=Bx I fa an p q hI hfa hn (by omega) (by omega);have e3:AV an (Ad p) (Ad q)=false→an=Ak an (Ad p) (Ad q):=fun h=>by unfold Ak;rw[if_neg (by simp[h])]
     have e3b:AV an (Ad p) (Ad q)=true→an.length<(Ak an (Ad p) (Ad q)).length:=fun h=>by unfold Ak;rw[if_pos h];simp
     generalize E4 fa an p q=r at *;generalize Ak an (Ad p) (Ad q)=an3 at *;generalize AV an (Ad p) (Ad q)=m3 at *;subst hR;simp[hq,zz3 hq,show 0≤q by omega]
     cases m3
     · have c3:=c3same rfl;obtain rfl:=e3 rfl;refine Ac (c3) [] [0,1] (by simp) ?_;simp;exact⟨[0,1],by simp⟩
     · have c3:=c3new rfl;have b3:=e3b rfl;exfalso;have hh:=congrArg List.length h;simp only at hh;omega
   · have c2:=c2new rfl;have b2:=e2b rfl;refine Ac (c2) [] [0,1] (by simp) ?_;simp;by_cases hq:q<0
     · obtain rfl:R=(-1,an2):=by rw[hR,if_pos hq]
       exfalso;have hh:=congrArg List.length h;simp only at hh;omega
     rw[if_neg hq] at hR;have l3:=AM (an:=an2) (a:=Ad p) (b:=Ad q);have c3same:=Bm I fa an2 p q hI hfa n2 (by omega) (by omega);have c3new:=Bx I fa an2 p q hI hfa n2 (by omega) (by omega);have e3:AV an2 (Ad p) (Ad q)=false→an2=Ak an2 (Ad p) (Ad q):=fun h=>by unfold Ak;rw[if_neg (by simp[h])]
     have e3b:AV an2 (Ad p) (Ad q)=true→an2.length<(Ak an2 (Ad p) (Ad q)).length:=fun h=>by unfold Ak;rw[if_pos h];simp
     generalize E4 fa an2 p q=r at *;generalize Ak an2 (Ad p) (Ad q)=an3 at *;generalize AV an2 (Ad p) (Ad q)=m3 at *;subst hR;simp[hq,zz3 hq,show 0≤q by omega]
     cases m3
     · have c3:=c3same rfl;obtain rfl:=e3 rfl;exfalso;have hh:=congrArg List.length h;simp only at hh;omega
     · have c3:=c3new rfl;have b3:=e3b rfl;exfalso;have hh:=congrArg List.length h;simp only at hh;omega
 · have c1:=c1new rfl;have b1:=e1b rfl;refine Ac (c1) [] [0,1] (by simp) ?_;simp[hx,hy];by_cases hp:p<0
   · obtain rfl:R=(-1,an1):=by rw[hR,if_pos hp]
     exfalso;have hh:=congrArg List.length h;simp only at hh;omega
   rw[if_neg hp] at hR;have l2:=AM (an:=an1) (a:=Ad a) (b:=b);have n2:=Bv (an:=an1) (a:=Ad a) (b:=b) n1;have r2:=BA (fa:=fa) (an:=an1) (a:=Ad a) (b:=b) (by omega) (by omega) (by omega);have c2same:=BN I fa an1 (Ad a) b hI hfa n1 (by omega) (by omega);have c2new:=B1 I fa an1 (Ad a) b hI hfa n1 (by omega) (by omega);have e2:AV an1 (Ad a) b=false→an1=Ak an1 (Ad a) b:=fun h=>by unfold Ak;rw[if_neg (by simp[h])]
   have e2b:AV an1 (Ad a) b=true→an1.length<(Ak an1 (Ad a) b).length:=fun h=>by unfold Ak;rw[if_pos h];simp
   generalize hq0:AG fa an1 (Ad a) b=q at *;generalize h20:Ak an1 (Ad a) b=an2 at *;generalize h2m:AV an1 (Ad a) b=m2 at *;simp[hp,zz3 hp,show 0≤p by omega,hx,hy]
   cases m2
   · have c2:=c2same rfl;obtain rfl:=e2 rfl;refine Ac (c2) [] [0,2] (by simp) ?_;simp;by_cases hq:q<0
     · obtain rfl:R=(-1,an1):=by rw[hR,if_pos hq]
       exfalso;have hh:=congrArg List.length h;simp only at hh;omega
     rw[if_neg hq] at hR;have l3:=AM (an:=an1) (a:=Ad p) (b:=Ad q);have c3same:=Bm I fa an1 p q hI hfa n1 (by omega) (by omega);have c3new:=Bx I fa an1 p q hI hfa n1 (by omega) (by omega);have e3:AV an1 (Ad p) (Ad q)=false→an1=Ak an1 (Ad p) (Ad q):=fun h=>by unfold Ak;rw[if_neg (by simp[h])]
     have e3b:AV an1 (Ad p) (Ad q)=true→an1.length<(Ak an1 (Ad p) (Ad q)).length:=fun h=>by unfold Ak;rw[if_pos h];simp
     generalize E4 fa an1 p q=r at *;generalize Ak an1 (Ad p) (Ad q)=an3 at *;generalize AV an1 (Ad p) (Ad q)=m3 at *;subst hR;simp[hq,zz3 hq,show 0≤q by omega]
     cases m3
     · have c3:=c3same rfl;obtain rfl:=e3 rfl;exfalso;have hh:=congrArg List.length h;simp only at hh;omega
     · have c3:=c3new rfl;have b3:=e3b rfl;exfalso;have hh:=congrArg List.length h;simp only at hh;omega
   · have c2:=c2new rfl;have b2:=e2b rfl;refine Ac (c2) [] [0,2] (by simp) ?_;simp;by_cases hq:q<0
     · obtain rfl:R=(-1,an2):=by rw[hR,if_pos hq]
       exfalso;have hh:=congrArg List.length h;simp only at hh;omega
     rw[if_neg hq] at hR;have l3:=AM (an:=an2) (a:=Ad p) (b:=Ad q);have c3same:=Bm I fa an2 p q hI hfa n2 (by omega) (by omega);have c3new:=Bx I fa an2 p q hI hfa n2 (by omega) (by omega);have e3:AV an2 (Ad p) (Ad q)=false→an2=Ak an2 (Ad p) (Ad q):=fun h=>by unfold Ak;rw[if_neg (by simp[h])]
     have e3b:AV an2 (Ad p) (Ad q)=true→an2.length<(Ak an2 (Ad p) (Ad q)).length:=fun h=>by unfold Ak;rw[if_pos h];simp
     generalize E4 fa an2 p q=r at *;generalize Ak an2 (Ad p) (Ad q)=an3 at *;generalize AV an2 (Ad p) (Ad q)=m3 at *;subst hR;simp[hq,zz3 hq,show 0≤q by omega]
     cases m3
     · have c3:=c3same rfl;obtain rfl:=e3 rfl;exfalso;have hh:=congrArg List.length h;simp only at hh;omega
     · have c3:=c3new rfl;have b3:=e3b rfl;exfalso;have hh:=congrArg List.length h;simp only at hh;omega
theorem Lu (I fa:Int) (an:List Ah) (a b:Int) (hI:0≤I∧I≤20) (hfa:1+I=fa) (hn:an.length≤300) (ha:0≤a∧a<2*(fa+an.length)) (hb:0≤b∧b<2*(fa+an.length)) (h:(Ce fa an a b).2≠an) :
 BS Try.prog 122 [.ptr 0 0,.d (.int .i64 a),.d (.int .i64 b)] [.var 28 [.d (.int .i64 I),.nil 31,.ref 1,.nil 3],.arr 60 true ((an).map Ao)] (.d (.int .i64 (Ce fa an a b).1)) [.var 28 [.d (.int .i64 I),.nil 31,.ref 2,.nil 3],.dead,.arr 60 true (((Ce fa an a b).2).map Ao)]:=by
 have hx:Bd a 1=Ad a:=A8 (by omega) (by omega);have hy:Bd b 1=Ad b:=A8 (by omega) (by omega);have fA:=AU ha.1;have fB:=AU hb.1;have hR:Ce fa an a b=if AG fa an a (Ad b)<0 then (-1,Ak an a (Ad b)) else if AG fa (Ak an a (Ad b)) (Ad a) b<0 then (-1,Ak (Ak an a (Ad b)) (Ad a) b) else (E4 fa (Ak (Ak an a (Ad b)) (Ad a) b) (AG fa an a (Ad b)) (AG fa (Ak an a (Ad b)) (Ad a) b),Ak (Ak (Ak an a (Ad b)) (Ad a) b) (Ad (AG fa an a (Ad b))) (Ad (AG fa (Ak an a (Ad b)) (Ad a) b))):=rfl;have l1:=AM (an:=an) (a:=a) (b:=Ad b);have n1:=Bv (a:=a) (b:=Ad b) hn;have r1:=BA (fa:=fa) (an:=an) (a:=a) (b:=Ad b) (by omega) (by omega) (by omega);have c1same:=BN I fa an a (Ad b) hI hfa hn (by omega) (by omega);have c1new:=B1 I fa an a (Ad b) hI hfa hn (by omega) (by omega);have e1:AV an a (Ad b)=false→an=Ak an a (Ad b):=fun h=>by unfold Ak;rw[if_neg (by simp[h])]
 have e1b:AV an a (Ad b)=true→an.length<(Ak an a (Ad b)).length:=fun h=>by unfold Ak;rw[if_pos h];simp
 generalize Ce fa an a b=R at *;generalize hp0:AG fa an a (Ad b)=p at *;generalize h10:Ak an a (Ad b)=an1 at *;generalize h1m:AV an a (Ad b)=m1 at *;refine Cv (by kernel_rfl) Try.func122 rfl rfl rfl (by simp[AZ,Later]) (by simp[Bi,Ag.live]) ?_;simp[hx,hy]
 cases m1
 · have c1:=c1same rfl;obtain rfl:=e1 rfl;refine Ac (c1) [] [0,1] (by simp) ?_;simp[hx,hy];by_cases hp:p<0
   · obtain rfl:R=(-1,an):=by rw[hR,if_pos hp]
     exact absurd rfl h
   rw[if_neg hp] at hR;have l2:=AM (an:=an) (a:=Ad a) (b:=b);have n2:=Bv (an:=an) (a:=Ad a) (b:=b) hn;have r2:=BA (fa:=fa) (an:=an) (a:=Ad a) (b:=b) (by omega) (by omega) (by omega);have c2same:=BN I fa an (Ad a) b hI hfa hn (by omega) (by omega);have c2new:=B1 I fa an (Ad a) b hI hfa hn (by omega) (by omega);have e2:AV an (Ad a) b=false→an=Ak an (Ad a) b:=fun h=>by unfold Ak;rw[if_neg (by simp[h])]
   have e2b:AV an (Ad a) b=true→an.length<(Ak an (Ad a) b).length:=fun h=>by unfold Ak;rw[if_pos h];simp
   generalize hq0:AG fa an (Ad a) b=q at *;generalize h20:Ak an (Ad a) b=an2 at *;generalize h2m:AV an (Ad a) b=m2 at *;simp[hp,zz3 hp,show 0≤p by omega,hx,hy]
   cases m2
   · have c2:=c2same rfl;obtain rfl:=e2 rfl;refine Ac (c2) [] [0,1] (by simp) ?_;simp;by_cases hq:q<0
     · obtain rfl:R=(-1,an):=by rw[hR,if_pos hq]
       exact absurd rfl h
     rw[if_neg hq] at hR;have l3:=AM (an:=an) (a:=Ad p) (b:=Ad q);have c3same:=Bm I fa an p q hI hfa hn (by omega) (by omega);have c3new:=Bx I fa an p q hI hfa hn (by omega) (by omega);have e3:AV an (Ad p) (Ad q)=false→an=Ak an (Ad p) (Ad q):=fun h=>by unfold Ak;rw[if_neg (by simp[h])]
     have e3b:AV an (Ad p) (Ad q)=true→an.length<(Ak an (Ad p) (Ad q)).length:=fun h=>by unfold Ak;rw[if_pos h];simp
     generalize E4 fa an p q=r at *;generalize Ak an (Ad p) (Ad q)=an3 at *;generalize AV an (Ad p) (Ad q)=m3 at *;subst hR;simp[hq,zz3 hq,show 0≤q by omega]
     cases m3
     · have c3:=c3same rfl;obtain rfl:=e3 rfl;exact absurd rfl h
     · have c3:=c3new rfl;have b3:=e3b rfl;refine Ac (c3) [] [0,1] (by simp) ?_;simp;exact⟨[0,1,2],by simp⟩
   · have c2:=c2new rfl;have b2:=e2b rfl;refine Ac (c2) [] [0,1] (by simp) ?_;simp;by_cases hq:q<0
     · obtain rfl:R=(-1,an2):=by rw[hR,if_pos hq]
       simp[hq,zz2 hq,show ¬ 0≤q by omega];exact⟨[0,1,2],by simp⟩
     rw[if_neg hq] at hR;have l3:=AM (an:=an2) (a:=Ad p) (b:=Ad q);have c3same:=Bm I fa an2 p q hI hfa n2 (by omega) (by omega);have c3new:=Bx I fa an2 p q hI hfa n2 (by omega) (by omega);have e3:AV an2 (Ad p) (Ad q)=false→an2=Ak an2 (Ad p) (Ad q):=fun h=>by unfold Ak;rw[if_neg (by simp[h])]
     have e3b:AV an2 (Ad p) (Ad q)=true→an2.length<(Ak an2 (Ad p) (Ad q)).length:=fun h=>by unfold Ak;rw[if_pos h];simp
     generalize E4 fa an2 p q=r at *;generalize Ak an2 (Ad p) (Ad q)=an3 at *;generalize AV an2 (Ad p) (Ad q)=m3 at *;subst hR;simp[hq,zz3 hq,show 0≤q by omega]
     cases m3
     · have c3:=c3same rfl;obtain rfl:=e3 rfl;refine Ac (c3) [] [0,2] (by simp) ?_;simp;exact⟨[0,1,2],by simp⟩
     · have c3:=c3new rfl;have b3:=e3b rfl;refine Ac (c3) [] [0,2] (by simp) ?_;simp;exact⟨[0,1,3],by simp⟩
 · have c1:=c1new rfl;have b1:=e1b rfl;refine Ac (c1) [] [0,1] (by simp) ?_;simp[hx,hy];by_cases hp:p<0
   · obtain rfl:R=(-1,an1):=by rw[hR,if_pos hp]
     simp[hp,zz2 hp,show ¬ 0≤p by omega];exact⟨[0,1,2],by simp⟩
   rw[if_neg hp] at hR;have l2:=AM (an:=an1) (a:=Ad a) (b:=b);have n2:=Bv (an:=an1) (a:=Ad a) (b:=b) n1;have r2:=BA (fa:=fa) (an:=an1) (a:=Ad a) (b:=b) (by omega) (by omega) (by omega);have c2same:=BN I fa an1 (Ad a) b hI hfa n1 (by omega) (by omega);have c2new:=B1 I fa an1 (Ad a) b hI hfa n1 (by omega) (by omega);have e2:AV an1 (Ad a) b=false→an1=Ak an1 (Ad a) b:=fun h=>by unfold Ak;rw[if_neg (by simp[h])]
   have e2b:AV an1 (Ad a) b=true→an1.length<(Ak an1 (Ad a) b).length:=fun h=>by unfold Ak;rw[if_pos h];simp
   generalize hq0:AG fa an1 (Ad a) b=q at *;generalize h20:Ak an1 (Ad a) b=an2 at *;generalize h2m:AV an1 (Ad a) b=m2 at *;simp[hp,zz3 hp,show 0≤p by omega,hx,hy]
   cases m2
   · have c2:=c2same rfl;obtain rfl:=e2 rfl;refine Ac (c2) [] [0,2] (by simp) ?_;simp;by_cases hq:q<0
     · obtain rfl:R=(-1,an1):=by rw[hR,if_pos hq]
       simp[hq,zz2 hq,show ¬ 0≤q by omega];exact⟨[0,1,2],by simp⟩
     rw[if_neg hq] at hR;have l3:=AM (an:=an1) (a:=Ad p) (b:=Ad q);have c3same:=Bm I fa an1 p q hI hfa n1 (by omega) (by omega);have c3new:=Bx I fa an1 p q hI hfa n1 (by omega) (by omega);have e3:AV an1 (Ad p) (Ad q)=false→an1=Ak an1 (Ad p) (Ad q):=fun h=>by unfold Ak;rw[if_neg (by simp[h])]
     have e3b:AV an1 (Ad p) (Ad q)=true→an1.length<(Ak an1 (Ad p) (Ad q)).length:=fun h=>by unfold Ak;rw[if_pos h];simp
     generalize E4 fa an1 p q=r at *;generalize Ak an1 (Ad p) (Ad q)=an3 at *;generalize AV an1 (Ad p) (Ad q)=m3 at *;subst hR;simp[hq,zz3 hq,show 0≤q by omega]
     cases m3
     · have c3:=c3same rfl;obtain rfl:=e3 rfl;refine Ac (c3) [] [0,2] (by simp) ?_;simp;exact⟨[0,1,2],by simp⟩
     · have c3:=c3new rfl;have b3:=e3b rfl;refine Ac (c3) [] [0,2] (by simp) ?_;simp;exact⟨[0,1,3],by simp⟩
   · have c2:=c2new rfl;have b2:=e2b rfl;refine Ac (c2) [] [0,2] (by simp) ?_;simp;by_cases hq:q<0
     · obtain rfl:R=(-1,an2):=by rw[hR,if_pos hq]
       simp[hq,zz2 hq,show ¬ 0≤q by omega];exact⟨[0,1,3],by simp⟩
     rw[if_neg hq] at hR;have l3:=AM (an:=an2) (a:=Ad p) (b:=Ad q);have c3same:=Bm I fa an2 p q hI hfa n2 (by omega) (by omega);have c3new:=Bx I fa an2 p q hI hfa n2 (by omega) (by omega);have e3:AV an2 (Ad p) (Ad q)=false→an2=Ak an2 (Ad p) (Ad q):=fun h=>by unfold Ak;rw[if_neg (by simp[h])]
     have e3b:AV an2 (Ad p) (Ad q)=true→an2.length<(Ak an2 (Ad p) (Ad q)).length:=fun h=>by unfold Ak;rw[if_pos h];simp
     generalize E4 fa an2 p q=r at *;generalize Ak an2 (Ad p) (Ad q)=an3 at *;generalize AV an2 (Ad p) (Ad q)=m3 at *;subst hR;simp[hq,zz3 hq,show 0≤q by omega]
     cases m3
     · have c3:=c3same rfl;obtain rfl:=e3 rfl;refine Ac (c3) [] [0,3] (by simp) ?_;simp;exact⟨[0,1,3],by simp⟩
     · have c3:=c3new rfl;have b3:=e3b rfl;refine Ac (c3) [] [0,3] (by simp) ?_;simp;exact⟨[0,1,4],by simp⟩
end Go.Proofs.Ytnjedabjbeipeaa
