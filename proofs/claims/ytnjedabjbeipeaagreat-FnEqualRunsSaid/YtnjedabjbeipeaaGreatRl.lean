/-
  Adding a disjunction and an exclusive disjunction to a net, by abstract walks: the program.
  Conditions: those typed in each theorem.
-/
import Derived.Test.YtnjedabjbeipeaaGreatRh
namespace Go.Proofs.YtnjedabjbeipeaaGreat
open Go.RowKit Go.ChangeShapes Go.WideShapes
set_option linter.unusedSimpArgs false
set_option linter.unusedVariables false
set_option maxRecDepth 100000
set_option maxHeartbeats 10000000
theorem IV (I fa:Int) (a b:Int) (hI:0≤I∧I≤20) (hfa:1+I=fa) (hn:([]:List Ai).length≤300) (ha:0≤a∧a<2*(fa+([]:List Ai).length)) (hb:0≤b∧b<2*(fa+([]:List Ai).length)) (h:A8 ([]:List Ai) (Af a) (Af b)=false) :
 CG Tryz.prog 55 [.ptr 0 0,.d (.int .i64 a),.d (.int .i64 b)] [.var 28 [.d (.int .i64 I),.nil 57,.nil 63,.nil 3]] (.d (.int .i64 (F7 fa ([]:List Ai) a b))) [.var 28 [.d (.int .i64 I),.nil 57,.nil 63,.nil 3]]:=by
 have hV:F7 fa ([]:List Ai) a b=if AZ fa ([]:List Ai) (Af a) (Af b)<0 then -1 else Af (AZ fa ([]:List Ai) (Af a) (Af b)):=rfl;have hx:Bl a 1=Af a:=Bo (by omega) (by omega);have hy:Bl b 1=Af b:=Bo (by omega) (by omega);have fA:=Bb ha.1;have fB:=Bb hb.1;have hr:=BL (fa:=fa) (an:=([]:List Ai)) (a:=Af a) (b:=Af b) (by omega) (by omega) (by omega);have h3:=Bu (a:=Af a) (b:=Af b) hn;have k:=Ds I fa (Af a) (Af b) hI hfa (by omega) (by omega) h;rw[hV];generalize AZ fa ([]:List Ai) (Af a) (Af b)=v at *;refine DZ (by kernel_rfl) Tryz.func55 rfl rfl rfl (by simp[Bi,Later]) (by simp[BN,Ah.live]) ?_;simp[hx,hy];refine Ac (k) [] [0] (by simp) ?_;simp;by_cases hv:v<0
 · simp[hv,zz2 hv,show ¬ 0≤v by omega];exact⟨[0],by simp⟩
 · have hz:Bl v 1=Af v:=Bo (by omega) (by omega);simp[hv,zz3 hv,hz,show 0≤v by omega];exact⟨[0],by simp⟩
theorem JQ (I fa:Int) (a b:Int) (hI:0≤I∧I≤20) (hfa:1+I=fa) (hn:([]:List Ai).length≤300) (ha:0≤a∧a<2*(fa+([]:List Ai).length)) (hb:0≤b∧b<2*(fa+([]:List Ai).length)) (h:A8 ([]:List Ai) (Af a) (Af b)=true) :
 CG Tryz.prog 55 [.ptr 0 0,.d (.int .i64 a),.d (.int .i64 b)] [.var 28 [.d (.int .i64 I),.nil 57,.nil 63,.nil 3]] (.d (.int .i64 (F7 fa ([]:List Ai) a b))) [.var 28 [.d (.int .i64 I),.nil 57,.ref 1,.nil 3],.arr 63 true ((Ar ([]:List Ai) (Af a) (Af b)).map At)]:=by
 have hV:F7 fa ([]:List Ai) a b=if AZ fa ([]:List Ai) (Af a) (Af b)<0 then -1 else Af (AZ fa ([]:List Ai) (Af a) (Af b)):=rfl;have hx:Bl a 1=Af a:=Bo (by omega) (by omega);have hy:Bl b 1=Af b:=Bo (by omega) (by omega);have fA:=Bb ha.1;have fB:=Bb hb.1;have hr:=BL (fa:=fa) (an:=([]:List Ai)) (a:=Af a) (b:=Af b) (by omega) (by omega) (by omega);have h3:=Bu (a:=Af a) (b:=Af b) hn;have k:=DO I fa (Af a) (Af b) hI hfa (by omega) (by omega) h;rw[hV];generalize AZ fa ([]:List Ai) (Af a) (Af b)=v at *;refine DZ (by kernel_rfl) Tryz.func55 rfl rfl rfl (by simp[Bi,Later]) (by simp[BN,Ah.live]) ?_;simp[hx,hy];refine Ac (k) [] [0] (by simp) ?_;simp;by_cases hv:v<0
 · simp[hv,zz2 hv,show ¬ 0≤v by omega];exact⟨[0,1],by simp⟩
 · have hz:Bl v 1=Af v:=Bo (by omega) (by omega);simp[hv,zz3 hv,hz,show 0≤v by omega];exact⟨[0,1],by simp⟩
theorem Bv (I fa:Int) (an:List Ai) (a b:Int) (hI:0≤I∧I≤20) (hfa:1+I=fa) (hn:an.length≤300) (ha:0≤a∧a<2*(fa+an.length)) (hb:0≤b∧b<2*(fa+an.length)) (h:A8 an (Af a) (Af b)=false) :
 CG Tryz.prog 55 [.ptr 0 0,.d (.int .i64 a),.d (.int .i64 b)] [.var 28 [.d (.int .i64 I),.nil 57,.ref 1,.nil 3],.arr 63 true ((an).map At)] (.d (.int .i64 (F7 fa an a b))) [.var 28 [.d (.int .i64 I),.nil 57,.ref 1,.nil 3],.arr 63 true ((an).map At)]:=by
 have hV:F7 fa an a b=if AZ fa an (Af a) (Af b)<0 then -1 else Af (AZ fa an (Af a) (Af b)):=rfl;have hx:Bl a 1=Af a:=Bo (by omega) (by omega);have hy:Bl b 1=Af b:=Bo (by omega) (by omega);have fA:=Bb ha.1;have fB:=Bb hb.1;have hr:=BL (fa:=fa) (an:=an) (a:=Af a) (b:=Af b) (by omega) (by omega) (by omega);have h3:=Bu (a:=Af a) (b:=Af b) hn;have k:=B1 I fa an (Af a) (Af b) hI hfa hn (by omega) (by omega) h;rw[hV];generalize AZ fa an (Af a) (Af b)=v at *;refine DZ (by kernel_rfl) Tryz.func55 rfl rfl rfl (by simp[Bi,Later]) (by simp[BN,Ah.live]) ?_;simp[hx,hy];refine Ac (k) [] [0,1] (by simp) ?_;simp;by_cases hv:v<0
 · simp[hv,zz2 hv,show ¬ 0≤v by omega];exact⟨[0,1],by simp⟩
 · have hz:Bl v 1=Af v:=Bo (by omega) (by omega);simp[hv,zz3 hv,hz,show 0≤v by omega];exact⟨[0,1],by simp⟩
theorem BO (I fa:Int) (an:List Ai) (a b:Int) (hI:0≤I∧I≤20) (hfa:1+I=fa) (hn:an.length≤300) (ha:0≤a∧a<2*(fa+an.length)) (hb:0≤b∧b<2*(fa+an.length)) (h:A8 an (Af a) (Af b)=true) :
 CG Tryz.prog 55 [.ptr 0 0,.d (.int .i64 a),.d (.int .i64 b)] [.var 28 [.d (.int .i64 I),.nil 57,.ref 1,.nil 3],.arr 63 true ((an).map At)] (.d (.int .i64 (F7 fa an a b))) [.var 28 [.d (.int .i64 I),.nil 57,.ref 2,.nil 3],.dead,.arr 63 true ((Ar an (Af a) (Af b)).map At)]:=by
 have hV:F7 fa an a b=if AZ fa an (Af a) (Af b)<0 then -1 else Af (AZ fa an (Af a) (Af b)):=rfl;have hx:Bl a 1=Af a:=Bo (by omega) (by omega);have hy:Bl b 1=Af b:=Bo (by omega) (by omega);have fA:=Bb ha.1;have fB:=Bb hb.1;have hr:=BL (fa:=fa) (an:=an) (a:=Af a) (b:=Af b) (by omega) (by omega) (by omega);have h3:=Bu (a:=Af a) (b:=Af b) hn;have k:=Cd I fa an (Af a) (Af b) hI hfa hn (by omega) (by omega) h;rw[hV];generalize AZ fa an (Af a) (Af b)=v at *;refine DZ (by kernel_rfl) Tryz.func55 rfl rfl rfl (by simp[Bi,Later]) (by simp[BN,Ah.live]) ?_;simp[hx,hy];refine Ac (k) [] [0,1] (by simp) ?_;simp;by_cases hv:v<0
 · simp[hv,zz2 hv,show ¬ 0≤v by omega];exact⟨[0,1,2],by simp⟩
 · have hz:Bl v 1=Af v:=Bo (by omega) (by omega);simp[hv,zz3 hv,hz,show 0≤v by omega];exact⟨[0,1,2],by simp⟩
theorem Rs (I fa:Int) (a b:Int) (hI:0≤I∧I≤20) (hfa:1+I=fa) (hn:([]:List Ai).length≤300) (ha:0≤a∧a<2*(fa+([]:List Ai).length)) (hb:0≤b∧b<2*(fa+([]:List Ai).length)) (h:(Cv fa ([]:List Ai) a b).2=([]:List Ai)) :
 CG Tryz.prog 54 [.ptr 0 0,.d (.int .i64 a),.d (.int .i64 b)] [.var 28 [.d (.int .i64 I),.nil 57,.nil 63,.nil 3]] (.d (.int .i64 (Cv fa ([]:List Ai) a b).1)) [.var 28 [.d (.int .i64 I),.nil 57,.nil 63,.nil 3]]:=by
 have hx:Bl a 1=Af a:=Bo (by omega) (by omega);have hy:Bl b 1=Af b:=Bo (by omega) (by omega);have fA:=Bb ha.1;have fB:=Bb hb.1;have hR:Cv fa ([]:List Ai) a b=if AZ fa ([]:List Ai) a (Af b)<0 then (-1,Ar ([]:List Ai) a (Af b)) else if AZ fa (Ar ([]:List Ai) a (Af b)) (Af a) b<0 then (-1,Ar (Ar ([]:List Ai) a (Af b)) (Af a) b) else (F7 fa (Ar (Ar ([]:List Ai) a (Af b)) (Af a) b) (AZ fa ([]:List Ai) a (Af b)) (AZ fa (Ar ([]:List Ai) a (Af b)) (Af a) b),Ar (Ar (Ar ([]:List Ai) a (Af b)) (Af a) b) (Af (AZ fa ([]:List Ai) a (Af b))) (Af (AZ fa (Ar ([]:List Ai) a (Af b)) (Af a) b))):=rfl;have l1:=A3 (an:=([]:List Ai)) (a:=a) (b:=Af b);have n1:=Bu (a:=a) (b:=Af b) hn;have r1:=BL (fa:=fa) (an:=([]:List Ai)) (a:=a) (b:=Af b) (by omega) (by omega) (by omega);have c1same:=Ds I fa a (Af b) hI hfa (by omega) (by omega);have c1new:=DO I fa a (Af b) hI hfa (by omega) (by omega);have e1:A8 ([]:List Ai) a (Af b)=false→([]:List Ai)=Ar ([]:List Ai) a (Af b):=fun h=>by unfold Ar;rw[if_neg (by simp[h])]
 have e1b:A8 ([]:List Ai) a (Af b)=true→([]:List Ai).length<(Ar ([]:List Ai) a (Af b)).length:=fun h=>by unfold Ar;rw[if_pos h];simp
 generalize Cv fa ([]:List Ai) a b=R at *;generalize hp0:AZ fa ([]:List Ai) a (Af b)=p at *;generalize h10:Ar ([]:List Ai) a (Af b)=an1 at *;generalize h1m:A8 ([]:List Ai) a (Af b)=m1 at *;refine DZ (by kernel_rfl) Tryz.func54 rfl rfl rfl (by simp[Bi,Later]) (by simp[BN,Ah.live]) ?_;simp[hx,hy]
 cases m1
 · have c1:=c1same rfl;obtain rfl:=e1 rfl;refine Ac (c1) [] [0] (by simp) ?_;simp[hx,hy];by_cases hp:p<0
   · obtain rfl:R=(-1,([]:List Ai)):=by rw[hR,if_pos hp]
     simp[hp,zz2 hp,show ¬ 0≤p by omega];exact⟨[0],by simp⟩
   rw[if_neg hp] at hR;have l2:=A3 (an:=([]:List Ai)) (a:=Af a) (b:=b);have n2:=Bu (an:=([]:List Ai)) (a:=Af a) (b:=b) hn;have r2:=BL (fa:=fa) (an:=([]:List Ai)) (a:=Af a) (b:=b) (by omega) (by omega) (by omega);have c2same:=Ds I fa (Af a) b hI hfa (by omega) (by omega);have c2new:=DO I fa (Af a) b hI hfa (by omega) (by omega);have e2:A8 ([]:List Ai) (Af a) b=false→([]:List Ai)=Ar ([]:List Ai) (Af a) b:=fun h=>by unfold Ar;rw[if_neg (by simp[h])]
   have e2b:A8 ([]:List Ai) (Af a) b=true→([]:List Ai).length<(Ar ([]:List Ai) (Af a) b).length:=fun h=>by unfold Ar;rw[if_pos h];simp
   generalize hq0:AZ fa ([]:List Ai) (Af a) b=q at *;generalize h20:Ar ([]:List Ai) (Af a) b=an2 at *;generalize h2m:A8 ([]:List Ai) (Af a) b=m2 at *;simp[hp,zz3 hp,show 0≤p by omega,hx,hy]
   cases m2
   · have c2:=c2same rfl;obtain rfl:=e2 rfl;refine Ac (c2) [] [0] (by simp) ?_;simp;by_cases hq:q<0
     · obtain rfl:R=(-1,([]:List Ai)):=by rw[hR,if_pos hq]
       simp[hq,zz2 hq,show ¬ 0≤q by omega];exact⟨[0],by simp⟩
     rw[if_neg hq] at hR;have l3:=A3 (an:=([]:List Ai)) (a:=Af p) (b:=Af q);have c3same:=IV I fa p q hI hfa hn (by omega) (by omega);have c3new:=JQ I fa p q hI hfa hn (by omega) (by omega);have e3:A8 ([]:List Ai) (Af p) (Af q)=false→([]:List Ai)=Ar ([]:List Ai) (Af p) (Af q):=fun h=>by unfold Ar;rw[if_neg (by simp[h])]
     have e3b:A8 ([]:List Ai) (Af p) (Af q)=true→([]:List Ai).length<(Ar ([]:List Ai) (Af p) (Af q)).length:=fun h=>by unfold Ar;rw[if_pos h];simp
     generalize F7 fa ([]:List Ai) p q=r at *;generalize Ar ([]:List Ai) (Af p) (Af q)=an3 at *;generalize A8 ([]:List Ai) (Af p) (Af q)=m3 at *;subst hR;simp[hq,zz3 hq,show 0≤q by omega]
     cases m3
     · have c3:=c3same rfl;obtain rfl:=e3 rfl;refine Ac (c3) [] [0] (by simp) ?_;simp;exact⟨[0],by simp⟩
     · have c3:=c3new rfl;have b3:=e3b rfl;exfalso;have hh:=congrArg List.length h;simp only[List.length_nil] at hh l1;omega
   · have c2:=c2new rfl;have b2:=e2b rfl;refine Ac (c2) [] [0] (by simp) ?_;simp;by_cases hq:q<0
     · obtain rfl:R=(-1,an2):=by rw[hR,if_pos hq]
       exfalso;have hh:=congrArg List.length h;simp only[List.length_nil] at hh l1;omega
     rw[if_neg hq] at hR;have l3:=A3 (an:=an2) (a:=Af p) (b:=Af q);have c3same:=Bv I fa an2 p q hI hfa n2 (by omega) (by omega);have c3new:=BO I fa an2 p q hI hfa n2 (by omega) (by omega);have e3:A8 an2 (Af p) (Af q)=false→an2=Ar an2 (Af p) (Af q):=fun h=>by unfold Ar;rw[if_neg (by simp[h])]
     have e3b:A8 an2 (Af p) (Af q)=true→an2.length<(Ar an2 (Af p) (Af q)).length:=fun h=>by unfold Ar;rw[if_pos h];simp
     generalize F7 fa an2 p q=r at *;generalize Ar an2 (Af p) (Af q)=an3 at *;generalize A8 an2 (Af p) (Af q)=m3 at *;subst hR;simp[hq,zz3 hq,show 0≤q by omega]
     cases m3
     · have c3:=c3same rfl;obtain rfl:=e3 rfl;exfalso;have hh:=congrArg List.length h;simp only[List.length_nil] at hh l1;omega
     · have c3:=c3new rfl;have b3:=e3b rfl;exfalso;have hh:=congrArg List.length h;simp only[List.length_nil] at hh l1;omega
 · have c1:=c1new rfl;have b1:=e1b rfl;refine Ac (c1) [] [0] (by simp) ?_;simp[hx,hy];by_cases hp:p<0
   · obtain rfl:R=(-1,an1):=by rw[hR,if_pos hp]
     exfalso;have hh:=congrArg List.length h;simp only[List.length_nil] at hh l1;omega
   rw[if_neg hp] at hR;have l2:=A3 (an:=an1) (a:=Af a) (b:=b);have n2:=Bu (an:=an1) (a:=Af a) (b:=b) n1;have r2:=BL (fa:=fa) (an:=an1) (a:=Af a) (b:=b) (by omega) (by omega) (by omega);have c2same:=B1 I fa an1 (Af a) b hI hfa n1 (by omega) (by omega);have c2new:=Cd I fa an1 (Af a) b hI hfa n1 (by omega) (by omega);have e2:A8 an1 (Af a) b=false→an1=Ar an1 (Af a) b:=fun h=>by unfold Ar;rw[if_neg (by simp[h])]
   have e2b:A8 an1 (Af a) b=true→an1.length<(Ar an1 (Af a) b).length:=fun h=>by unfold Ar;rw[if_pos h];simp
   generalize hq0:AZ fa an1 (Af a) b=q at *;generalize h20:Ar an1 (Af a) b=an2 at *;generalize h2m:A8 an1 (Af a) b=m2 at *;simp[hp,zz3 hp,show 0≤p by omega,hx,hy]
   cases m2
   · have c2:=c2same rfl;obtain rfl:=e2 rfl;refine Ac (c2) [] [0,1] (by simp) ?_;simp;by_cases hq:q<0
     · obtain rfl:R=(-1,an1):=by rw[hR,if_pos hq]
       exfalso;have hh:=congrArg List.length h;simp only[List.length_nil] at hh l1;omega
     rw[if_neg hq] at hR;have l3:=A3 (an:=an1) (a:=Af p) (b:=Af q);have c3same:=Bv I fa an1 p q hI hfa n1 (by omega) (by omega);have c3new:=BO I fa an1 p q hI hfa n1 (by omega) (by omega);have e3:A8 an1 (Af p) (Af q)=false→an1=Ar an1 (Af p) (Af q):=fun h=>by unfold Ar;rw[if_neg (by simp[h])]
     have e3b:A8 an1 (Af p) (Af q)=true→an1.length<(Ar an1 (Af p) (Af q)).length:=fun h=>by unfold Ar;rw[if_pos h];simp
     generalize F7 fa an1 p q=r at *;generalize Ar an1 (Af p) (Af q)=an3 at *;generalize A8 an1 (Af p) (Af q)=m3 at *;subst hR;simp[hq,zz3 hq,show 0≤q by omega]
     cases m3
     · have c3:=c3same rfl;obtain rfl:=e3 rfl;exfalso;have hh:=congrArg List.length h;simp only[List.length_nil] at hh l1;omega
     · have c3:=c3new rfl;have b3:=e3b rfl;exfalso;have hh:=congrArg List.length h;simp only[List.length_nil] at hh l1;omega
   · have c2:=c2new rfl;have b2:=e2b rfl;refine Ac (c2) [] [0,1] (by simp) ?_;simp;by_cases hq:q<0
     · obtain rfl:R=(-1,an2):=by rw[hR,if_pos hq]
       exfalso;have hh:=congrArg List.length h;simp only[List.length_nil] at hh l1;omega
     rw[if_neg hq] at hR;have l3:=A3 (an:=an2) (a:=Af p) (b:=Af q);have c3same:=Bv I fa an2 p q hI hfa n2 (by omega) (by omega);have c3new:=BO I fa an2 p q hI hfa n2 (by omega) (by omega);have e3:A8 an2 (Af p) (Af q)=false→an2=Ar an2 (Af p) (Af q):=fun h=>by unfold Ar;rw[if_neg (by simp[h])]
     have e3b:A8 an2 (Af p) (Af q)=true→an2.length<(Ar an2 (Af p) (Af q)).length:=fun h=>by unfold Ar;rw[if_pos h];simp
     generalize F7 fa an2 p q=r at *;generalize Ar an2 (Af p) (Af q)=an3 at *;generalize A8 an2 (Af p) (Af q)=m3 at *;subst hR;simp[hq,zz3 hq,show 0≤q by omega]
     cases m3
     · have c3:=c3same rfl;obtain rfl:=e3 rfl;exfalso;have hh:=congrArg List.length h;simp only[List.length_nil] at hh l1;omega
     · have c3:=c3new rfl;have b3:=e3b rfl;exfalso;have hh:=congrArg List.length h;simp only[List.length_nil] at hh l1;omega
theorem Tg (I fa:Int) (a b:Int) (hI:0≤I∧I≤20) (hfa:1+I=fa) (hn:([]:List Ai).length≤300) (ha:0≤a∧a<2*(fa+([]:List Ai).length)) (hb:0≤b∧b<2*(fa+([]:List Ai).length)) (h:(Cv fa ([]:List Ai) a b).2≠([]:List Ai)) :
 CG Tryz.prog 54 [.ptr 0 0,.d (.int .i64 a),.d (.int .i64 b)] [.var 28 [.d (.int .i64 I),.nil 57,.nil 63,.nil 3]] (.d (.int .i64 (Cv fa ([]:List Ai) a b).1)) [.var 28 [.d (.int .i64 I),.nil 57,.ref 1,.nil 3],.arr 63 true (((Cv fa ([]:List Ai) a b).2).map At)]:=by
 have hx:Bl a 1=Af a:=Bo (by omega) (by omega);have hy:Bl b 1=Af b:=Bo (by omega) (by omega);have fA:=Bb ha.1;have fB:=Bb hb.1;have hR:Cv fa ([]:List Ai) a b=if AZ fa ([]:List Ai) a (Af b)<0 then (-1,Ar ([]:List Ai) a (Af b)) else if AZ fa (Ar ([]:List Ai) a (Af b)) (Af a) b<0 then (-1,Ar (Ar ([]:List Ai) a (Af b)) (Af a) b) else (F7 fa (Ar (Ar ([]:List Ai) a (Af b)) (Af a) b) (AZ fa ([]:List Ai) a (Af b)) (AZ fa (Ar ([]:List Ai) a (Af b)) (Af a) b),Ar (Ar (Ar ([]:List Ai) a (Af b)) (Af a) b) (Af (AZ fa ([]:List Ai) a (Af b))) (Af (AZ fa (Ar ([]:List Ai) a (Af b)) (Af a) b))):=rfl;have l1:=A3 (an:=([]:List Ai)) (a:=a) (b:=Af b);have n1:=Bu (a:=a) (b:=Af b) hn;have r1:=BL (fa:=fa) (an:=([]:List Ai)) (a:=a) (b:=Af b) (by omega) (by omega) (by omega);have c1same:=Ds I fa a (Af b) hI hfa (by omega) (by omega);have c1new:=DO I fa a (Af b) hI hfa (by omega) (by omega);have e1:A8 ([]:List Ai) a (Af b)=false→([]:List Ai)=Ar ([]:List Ai) a (Af b):=fun h=>by unfold Ar;rw[if_neg (by simp[h])]
 have e1b:A8 ([]:List Ai) a (Af b)=true→([]:List Ai).length<(Ar ([]:List Ai) a (Af b)).length:=fun h=>by unfold Ar;rw[if_pos h];simp
 generalize Cv fa ([]:List Ai) a b=R at *;generalize hp0:AZ fa ([]:List Ai) a (Af b)=p at *;generalize h10:Ar ([]:List Ai) a (Af b)=an1 at *;generalize h1m:A8 ([]:List Ai) a (Af b)=m1 at *;refine DZ (by kernel_rfl) Tryz.func54 rfl rfl rfl (by simp[Bi,Later]) (by simp[BN,Ah.live]) ?_;simp[hx,hy]
 cases m1
 · have c1:=c1same rfl;obtain rfl:=e1 rfl;refine Ac (c1) [] [0] (by simp) ?_;simp[hx,hy];by_cases hp:p<0
   · obtain rfl:R=(-1,([]:List Ai)):=by rw[hR,if_pos hp]
     exact absurd rfl h
   rw[if_neg hp] at hR;have l2:=A3 (an:=([]:List Ai)) (a:=Af a) (b:=b);have n2:=Bu (an:=([]:List Ai)) (a:=Af a) (b:=b) hn;have r2:=BL (fa:=fa) (an:=([]:List Ai)) (a:=Af a) (b:=b) (by omega) (by omega) (by omega);have c2same:=Ds I fa (Af a) b hI hfa (by omega) (by omega);have c2new:=DO I fa (Af a) b hI hfa (by omega) (by omega);have e2:A8 ([]:List Ai) (Af a) b=false→([]:List Ai)=Ar ([]:List Ai) (Af a) b:=fun h=>by unfold Ar;rw[if_neg (by simp[h])]
   have e2b:A8 ([]:List Ai) (Af a) b=true→([]:List Ai).length<(Ar ([]:List Ai) (Af a) b).length:=fun h=>by unfold Ar;rw[if_pos h];simp
   generalize hq0:AZ fa ([]:List Ai) (Af a) b=q at *;generalize h20:Ar ([]:List Ai) (Af a) b=an2 at *;generalize h2m:A8 ([]:List Ai) (Af a) b=m2 at *;simp[hp,zz3 hp,show 0≤p by omega,hx,hy]
   cases m2
   · have c2:=c2same rfl;obtain rfl:=e2 rfl;refine Ac (c2) [] [0] (by simp) ?_;simp;by_cases hq:q<0
     · obtain rfl:R=(-1,([]:List Ai)):=by rw[hR,if_pos hq]
       exact absurd rfl h
     rw[if_neg hq] at hR;have l3:=A3 (an:=([]:List Ai)) (a:=Af p) (b:=Af q);have c3same:=IV I fa p q hI hfa hn (by omega) (by omega);have c3new:=JQ I fa p q hI hfa hn (by omega) (by omega);have e3:A8 ([]:List Ai) (Af p) (Af q)=false→([]:List Ai)=Ar ([]:List Ai) (Af p) (Af q):=fun h=>by unfold Ar;rw[if_neg (by simp[h])]
     have e3b:A8 ([]:List Ai) (Af p) (Af q)=true→([]:List Ai).length<(Ar ([]:List Ai) (Af p) (Af q)).length:=fun h=>by unfold Ar;rw[if_pos h];simp
     generalize F7 fa ([]:List Ai) p q=r at *;generalize Ar ([]:List Ai) (Af p) (Af q)=an3 at *;generalize A8 ([]:List Ai) (Af p) (Af q)=m3 at *;subst hR;simp[hq,zz3 hq,show 0≤q by omega]
     cases m3
     · have c3:=c3same rfl;obtain rfl:=e3 rfl;exact absurd rfl h
     · have c3:=c3new rfl;have b3:=e3b rfl;refine Ac (c3) [] [0] (by simp) ?_;simp;exact⟨[0,1],by simp⟩
   · have c2:=c2new rfl;have b2:=e2b rfl;refine Ac (c2) [] [0] (by simp) ?_;simp;by_cases hq:q<0
     · obtain rfl:R=(-1,an2):=by rw[hR,if_pos hq]
       simp[hq,zz2 hq,show ¬ 0≤q by omega];exact⟨[0,1],by simp⟩
     rw[if_neg hq] at hR;have l3:=A3 (an:=an2) (a:=Af p) (b:=Af q);have c3same:=Bv I fa an2 p q hI hfa n2 (by omega) (by omega);have c3new:=BO I fa an2 p q hI hfa n2 (by omega) (by omega);have e3:A8 an2 (Af p) (Af q)=false→an2=Ar an2 (Af p) (Af q):=fun h=>by unfold Ar;rw[if_neg (by simp[h])]
     have e3b:A8 an2 (Af p) (Af q)=true→an2.length<(Ar an2 (Af p) (Af q)).length:=fun h=>by unfold Ar;rw[if_pos h];simp
     generalize F7 fa an2 p q=r at *;generalize Ar an2 (Af p) (Af q)=an3 at *;generalize A8 an2 (Af p) (Af q)=m3 at *;subst hR;simp[hq,zz3 hq,show 0≤q by omega]
     cases m3
     · have c3:=c3same rfl;obtain rfl:=e3 rfl;refine Ac (c3) [] [0,1] (by simp) ?_;simp;exact⟨[0,1],by simp⟩
     · have c3:=c3new rfl;have b3:=e3b rfl;refine Ac (c3) [] [0,1] (by simp) ?_;simp;exact⟨[0,2],by simp⟩
 · have c1:=c1new rfl;have b1:=e1b rfl;refine Ac (c1) [] [0] (by simp) ?_;simp[hx,hy];by_cases hp:p<0
   · obtain rfl:R=(-1,an1):=by rw[hR,if_pos hp]
     simp[hp,zz2 hp,show ¬ 0≤p by omega];exact⟨[0,1],by simp⟩
   rw[if_neg hp] at hR;have l2:=A3 (an:=an1) (a:=Af a) (b:=b);have n2:=Bu (an:=an1) (a:=Af a) (b:=b) n1;have r2:=BL (fa:=fa) (an:=an1) (a:=Af a) (b:=b) (by omega) (by omega) (by omega);have c2same:=B1 I fa an1 (Af a) b hI hfa n1 (by omega) (by omega);have c2new:=Cd I fa an1 (Af a) b hI hfa n1 (by omega) (by omega);have e2:A8 an1 (Af a) b=false→an1=Ar an1 (Af a) b:=fun h=>by unfold Ar;rw[if_neg (by simp[h])]
   have e2b:A8 an1 (Af a) b=true→an1.length<(Ar an1 (Af a) b).length:=fun h=>by unfold Ar;rw[if_pos h];simp
   generalize hq0:AZ fa an1 (Af a) b=q at *;generalize h20:Ar an1 (Af a) b=an2 at *;generalize h2m:A8 an1 (Af a) b=m2 at *;simp[hp,zz3 hp,show 0≤p by omega,hx,hy]
   cases m2
   · have c2:=c2same rfl;obtain rfl:=e2 rfl;refine Ac (c2) [] [0,1] (by simp) ?_;simp;by_cases hq:q<0
     · obtain rfl:R=(-1,an1):=by rw[hR,if_pos hq]
       simp[hq,zz2 hq,show ¬ 0≤q by omega];exact⟨[0,1],by simp⟩
     rw[if_neg hq] at hR;have l3:=A3 (an:=an1) (a:=Af p) (b:=Af q);have c3same:=Bv I fa an1 p q hI hfa n1 (by omega) (by omega);have c3new:=BO I fa an1 p q hI hfa n1 (by omega) (by omega);have e3:A8 an1 (Af p) (Af q)=false→an1=Ar an1 (Af p) (Af q):=fun h=>by unfold Ar;rw[if_neg (by simp[h])]
     have e3b:A8 an1 (Af p) (Af q)=true→an1.length<(Ar an1 (Af p) (Af q)).length:=fun h=>by unfold Ar;rw[if_pos h];simp
     generalize F7 fa an1 p q=r at *;generalize Ar an1 (Af p) (Af q)=an3 at *;generalize A8 an1 (Af p) (Af q)=m3 at *;subst hR;simp[hq,zz3 hq,show 0≤q by omega]
     cases m3
     · have c3:=c3same rfl;obtain rfl:=e3 rfl;refine Ac (c3) [] [0,1] (by simp) ?_;simp;exact⟨[0,1],by simp⟩
     · have c3:=c3new rfl;have b3:=e3b rfl;refine Ac (c3) [] [0,1] (by simp) ?_;simp;exact⟨[0,2],by simp⟩
   · have c2:=c2new rfl;have b2:=e2b rfl;refine Ac (c2) [] [0,1] (by simp) ?_;simp;by_cases hq:q<0
     · obtain rfl:R=(-1,an2):=by rw[hR,if_pos hq]
       simp[hq,zz2 hq,show ¬ 0≤q by omega];exact⟨[0,2],by simp⟩
     rw[if_neg hq] at hR;have l3:=A3 (an:=an2) (a:=Af p) (b:=Af q);have c3same:=Bv I fa an2 p q hI hfa n2 (by omega) (by omega);have c3new:=BO I fa an2 p q hI hfa n2 (by omega) (by omega);have e3:A8 an2 (Af p) (Af q)=false→an2=Ar an2 (Af p) (Af q):=fun h=>by unfold Ar;rw[if_neg (by simp[h])]
     have e3b:A8 an2 (Af p) (Af q)=true→an2.length<(Ar an2 (Af p) (Af q)).length:=fun h=>by unfold Ar;rw[if_pos h];simp
     generalize F7 fa an2 p q=r at *;generalize Ar an2 (Af p) (Af q)=an3 at *;generalize A8 an2 (Af p) (Af q)=m3 at *;subst hR;simp[hq,zz3 hq,show 0≤q by omega]
     cases m3
     · have c3:=c3same rfl;obtain rfl:=e3 rfl;refine Ac (c3) [] [0,2] (by simp) ?_;simp;exact⟨[0,2],by simp⟩
     · have c3:=c3new rfl;have b3:=e3b rfl;refine Ac (c3) [] [0,2] (by simp) ?_;simp;exact⟨[0,3],by simp⟩
theorem K0 (I fa:Int) (an:List Ai) (a b:Int) (hI:0≤I∧I≤20) (hfa:1+I=fa) (hn:an.length≤300) (ha:0≤a∧a<2*(fa+an.length)) (hb:0≤b∧b<2*(fa+an.length)) (h:(Cv fa an a b).2=an) :
 CG Tryz.prog 54 [.ptr 0 0,.d (.int .i64 a),.d (.int .i64 b)] [.var 28 [.d (.int .i64 I),.nil 57,.ref 1,.nil 3],.arr 63 true ((an).map At)] (.d (.int .i64 (Cv fa an a b).1)) [.var 28 [.d (.int .i64 I),.nil 57,.ref 1,.nil 3],.arr 63 true ((an).map At)]:=by
 have hx:Bl a 1=Af a:=Bo (by omega) (by omega);have hy:Bl b 1=Af b:=Bo (by omega) (by omega);have fA:=Bb ha.1;have fB:=Bb hb.1;have hR:Cv fa an a b=if AZ fa an a (Af b)<0 then (-1,Ar an a (Af b)) else if AZ fa (Ar an a (Af b)) (Af a) b<0 then (-1,Ar (Ar an a (Af b)) (Af a) b) else (F7 fa (Ar (Ar an a (Af b)) (Af a) b) (AZ fa an a (Af b)) (AZ fa (Ar an a (Af b)) (Af a) b),Ar (Ar (Ar an a (Af b)) (Af a) b) (Af (AZ fa an a (Af b))) (Af (AZ fa (Ar an a (Af b)) (Af a) b))):=rfl;have l1:=A3 (an:=an) (a:=a) (b:=Af b);have n1:=Bu (a:=a) (b:=Af b) hn;have r1:=BL (fa:=fa) (an:=an) (a:=a) (b:=Af b) (by omega) (by omega) (by omega);have c1same:=B1 I fa an a (Af b) hI hfa hn (by omega) (by omega);have c1new:=Cd I fa an a (Af b) hI hfa hn (by omega) (by omega);have e1:A8 an a (Af b)=false→an=Ar an a (Af b):=fun h=>by unfold Ar;rw[if_neg (by simp[h])]
 have e1b:A8 an a (Af b)=true→an.length<(Ar an a (Af b)).length:=fun h=>by unfold Ar;rw[if_pos h];simp
 generalize Cv fa an a b=R at *;generalize hp0:AZ fa an a (Af b)=p at *;generalize h10:Ar an a (Af b)=an1 at *;generalize h1m:A8 an a (Af b)=m1 at *;refine DZ (by kernel_rfl) Tryz.func54 rfl rfl rfl (by simp[Bi,Later]) (by simp[BN,Ah.live]) ?_;simp[hx,hy]
 cases m1
 · have c1:=c1same rfl;obtain rfl:=e1 rfl;refine Ac (c1) [] [0,1] (by simp) ?_;simp[hx,hy];by_cases hp:p<0
   · obtain rfl:R=(-1,an):=by rw[hR,if_pos hp]
     simp[hp,zz2 hp,show ¬ 0≤p by omega];exact⟨[0,1],by simp⟩
   rw[if_neg hp] at hR;have l2:=A3 (an:=an) (a:=Af a) (b:=b);have n2:=Bu (an:=an) (a:=Af a) (b:=b) hn;have r2:=BL (fa:=fa) (an:=an) (a:=Af a) (b:=b) (by omega) (by omega) (by omega);have c2same:=B1 I fa an (Af a) b hI hfa hn (by omega) (by omega);have c2new:=Cd I fa an (Af a) b hI hfa hn (by omega) (by omega);have e2:A8 an (Af a) b=false→an=Ar an (Af a) b:=fun h=>by unfold Ar;rw[if_neg (by simp[h])]
   have e2b:A8 an (Af a) b=true→an.length<(Ar an (Af a) b).length:=fun h=>by unfold Ar;rw[if_pos h];simp
   generalize hq0:AZ fa an (Af a) b=q at *;generalize h20:Ar an (Af a) b=an2 at *;generalize h2m:A8 an (Af a) b=m2 at *;simp[hp,zz3 hp,show 0≤p by omega,hx,hy]
   cases m2
   · have c2:=c2same rfl;obtain rfl:=e2 rfl;refine Ac (c2) [] [0,1] (by simp) ?_;simp;by_cases hq:q<0
     · obtain rfl:R=(-1,an):=by rw[hR,if_pos hq]
       simp[hq,zz2 hq,show ¬ 0≤q by omega];exact⟨[0,1],by simp⟩
     rw[if_neg hq] at hR;have l3:=A3 (an:=an) (a:=Af p) (b:=Af q);have c3same:=Bv I fa an p q hI hfa hn (by omega) (by omega);have c3new:=BO I fa an p q hI hfa hn (by omega) (by omega);have e3:A8 an (Af p) (Af q)=false→an=Ar an (Af p) (Af q):=fun h=>by unfold Ar;rw[if_neg (by simp[h])]
     have e3b:A8 an (Af p) (Af q)=true→an.length<(Ar an (Af p) (Af q)).length:=fun h=>by unfold Ar;rw[if_pos h];simp
     generalize F7 fa an p q=r at *;generalize Ar an (Af p) (Af q)=an3 at *;generalize A8 an (Af p) (Af q)=m3 at *;subst hR;simp[hq,zz3 hq,show 0≤q by omega]
     cases m3
     · have c3:=c3same rfl;obtain rfl:=e3 rfl;refine Ac (c3) [] [0,1] (by simp) ?_;simp;exact⟨[0,1],by simp⟩
     · have c3:=c3new rfl;have b3:=e3b rfl;exfalso;have hh:=congrArg List.length h;simp only at hh;omega
   · have c2:=c2new rfl;have b2:=e2b rfl;refine Ac (c2) [] [0,1] (by simp) ?_;simp;by_cases hq:q<0
     · obtain rfl:R=(-1,an2):=by rw[hR,if_pos hq]
       exfalso;have hh:=congrArg List.length h;simp only at hh;omega
     rw[if_neg hq] at hR;have l3:=A3 (an:=an2) (a:=Af p) (b:=Af q);have c3same:=Bv I fa an2 p q hI hfa n2 (by omega) (by omega);have c3new:=BO I fa an2 p q hI hfa n2 (by omega) (by omega);have e3:A8 an2 (Af p) (Af q)=false→an2=Ar an2 (Af p) (Af q):=fun h=>by unfold Ar;rw[if_neg (by simp[h])]
     have e3b:A8 an2 (Af p) (Af q)=true→an2.length<(Ar an2 (Af p) (Af q)).length:=fun h=>by unfold Ar;rw[if_pos h];simp
     generalize F7 fa an2 p q=r at *;generalize Ar an2 (Af p) (Af q)=an3 at *;generalize A8 an2 (Af p) (Af q)=m3 at *;subst hR;simp[hq,zz3 hq,show 0≤q by omega]
     cases m3
     · have c3:=c3same rfl;obtain rfl:=e3 rfl;exfalso;have hh:=congrArg List.length h;simp only at hh;omega
     · have c3:=c3new rfl;have b3:=e3b rfl;exfalso;have hh:=congrArg List.length h;simp only at hh;omega
 · have c1:=c1new rfl;have b1:=e1b rfl;refine Ac (c1) [] [0,1] (by simp) ?_;simp[hx,hy];by_cases hp:p<0
   · obtain rfl:R=(-1,an1):=by rw[hR,if_pos hp]
     exfalso;have hh:=congrArg List.length h;simp only at hh;omega
   rw[if_neg hp] at hR;have l2:=A3 (an:=an1) (a:=Af a) (b:=b);have n2:=Bu (an:=an1) (a:=Af a) (b:=b) n1;have r2:=BL (fa:=fa) (an:=an1) (a:=Af a) (b:=b) (by omega) (by omega) (by omega);have c2same:=B1 I fa an1 (Af a) b hI hfa n1 (by omega) (by omega);have c2new:=Cd I fa an1 (Af a) b hI hfa n1 (by omega) (by omega);have e2:A8 an1 (Af a) b=false→an1=Ar an1 (Af a) b:=fun h=>by unfold Ar;rw[if_neg (by simp[h])]
   have e2b:A8 an1 (Af a) b=true→an1.length<(Ar an1 (Af a) b).length:=fun h=>by unfold Ar;rw[if_pos h];simp
   generalize hq0:AZ fa an1 (Af a) b=q at *;generalize h20:Ar an1 (Af a) b=an2 at *;generalize h2m:A8 an1 (Af a) b=m2 at *;simp[hp,zz3 hp,show 0≤p by omega,hx,hy]
   cases m2
   · have c2:=c2same rfl;obtain rfl:=e2 rfl;refine Ac (c2) [] [0,2] (by simp) ?_;simp;by_cases hq:q<0
     · obtain rfl:R=(-1,an1):=by rw[hR,if_pos hq]
       exfalso;have hh:=congrArg List.length h;simp only at hh;omega
     rw[if_neg hq] at hR;have l3:=A3 (an:=an1) (a:=Af p) (b:=Af q);have c3same:=Bv I fa an1 p q hI hfa n1 (by omega) (by omega);have c3new:=BO I fa an1 p q hI hfa n1 (by omega) (by omega);have e3:A8 an1 (Af p) (Af q)=false→an1=Ar an1 (Af p) (Af q):=fun h=>by unfold Ar;rw[if_neg (by simp[h])]
     have e3b:A8 an1 (Af p) (Af q)=true→an1.length<(Ar an1 (Af p) (Af q)).length:=fun h=>by unfold Ar;rw[if_pos h];simp
     generalize F7 fa an1 p q=r at *;generalize Ar an1 (Af p) (Af q)=an3 at *;generalize A8 an1 (Af p) (Af q)=m3 at *;subst hR;simp[hq,zz3 hq,show 0≤q by omega]
     cases m3
     · have c3:=c3same rfl;obtain rfl:=e3 rfl;exfalso;have hh:=congrArg List.length h;simp only at hh;omega
     · have c3:=c3new rfl;have b3:=e3b rfl;exfalso;have hh:=congrArg List.length h;simp only at hh;omega
   · have c2:=c2new rfl;have b2:=e2b rfl;refine Ac (c2) [] [0,2] (by simp) ?_;simp;by_cases hq:q<0
     · obtain rfl:R=(-1,an2):=by rw[hR,if_pos hq]
       exfalso;have hh:=congrArg List.length h;simp only at hh;omega
     rw[if_neg hq] at hR;have l3:=A3 (an:=an2) (a:=Af p) (b:=Af q);have c3same:=Bv I fa an2 p q hI hfa n2 (by omega) (by omega);have c3new:=BO I fa an2 p q hI hfa n2 (by omega) (by omega);have e3:A8 an2 (Af p) (Af q)=false→an2=Ar an2 (Af p) (Af q):=fun h=>by unfold Ar;rw[if_neg (by simp[h])]
     have e3b:A8 an2 (Af p) (Af q)=true→an2.length<(Ar an2 (Af p) (Af q)).length:=fun h=>by unfold Ar;rw[if_pos h];simp
     generalize F7 fa an2 p q=r at *;generalize Ar an2 (Af p) (Af q)=an3 at *;generalize A8 an2 (Af p) (Af q)=m3 at *;subst hR;simp[hq,zz3 hq,show 0≤q by omega]
     cases m3
     · have c3:=c3same rfl;obtain rfl:=e3 rfl;exfalso;have hh:=congrArg List.length h;simp only at hh;omega
     · have c3:=c3new rfl;have b3:=e3b rfl;exfalso;have hh:=congrArg List.length h;simp only at hh;omega
theorem Ml (I fa:Int) (an:List Ai) (a b:Int) (hI:0≤I∧I≤20) (hfa:1+I=fa) (hn:an.length≤300) (ha:0≤a∧a<2*(fa+an.length)) (hb:0≤b∧b<2*(fa+an.length)) (h:(Cv fa an a b).2≠an) :
 CG Tryz.prog 54 [.ptr 0 0,.d (.int .i64 a),.d (.int .i64 b)] [.var 28 [.d (.int .i64 I),.nil 57,.ref 1,.nil 3],.arr 63 true ((an).map At)] (.d (.int .i64 (Cv fa an a b).1)) [.var 28 [.d (.int .i64 I),.nil 57,.ref 2,.nil 3],.dead,.arr 63 true (((Cv fa an a b).2).map At)]:=by
 have hx:Bl a 1=Af a:=Bo (by omega) (by omega);have hy:Bl b 1=Af b:=Bo (by omega) (by omega);have fA:=Bb ha.1;have fB:=Bb hb.1;have hR:Cv fa an a b=if AZ fa an a (Af b)<0 then (-1,Ar an a (Af b)) else if AZ fa (Ar an a (Af b)) (Af a) b<0 then (-1,Ar (Ar an a (Af b)) (Af a) b) else (F7 fa (Ar (Ar an a (Af b)) (Af a) b) (AZ fa an a (Af b)) (AZ fa (Ar an a (Af b)) (Af a) b),Ar (Ar (Ar an a (Af b)) (Af a) b) (Af (AZ fa an a (Af b))) (Af (AZ fa (Ar an a (Af b)) (Af a) b))):=rfl;have l1:=A3 (an:=an) (a:=a) (b:=Af b);have n1:=Bu (a:=a) (b:=Af b) hn;have r1:=BL (fa:=fa) (an:=an) (a:=a) (b:=Af b) (by omega) (by omega) (by omega);have c1same:=B1 I fa an a (Af b) hI hfa hn (by omega) (by omega);have c1new:=Cd I fa an a (Af b) hI hfa hn (by omega) (by omega);have e1:A8 an a (Af b)=false→an=Ar an a (Af b):=fun h=>by unfold Ar;rw[if_neg (by simp[h])]
 have e1b:A8 an a (Af b)=true→an.length<(Ar an a (Af b)).length:=fun h=>by unfold Ar;rw[if_pos h];simp
 generalize Cv fa an a b=R at *;generalize hp0:AZ fa an a (Af b)=p at *;generalize h10:Ar an a (Af b)=an1 at *;generalize h1m:A8 an a (Af b)=m1 at *;refine DZ (by kernel_rfl) Tryz.func54 rfl rfl rfl (by simp[Bi,Later]) (by simp[BN,Ah.live]) ?_;simp[hx,hy]
 cases m1
 · have c1:=c1same rfl;obtain rfl:=e1 rfl;refine Ac (c1) [] [0,1] (by simp) ?_;simp[hx,hy];by_cases hp:p<0
   · obtain rfl:R=(-1,an):=by rw[hR,if_pos hp]
     exact absurd rfl h
   rw[if_neg hp] at hR;have l2:=A3 (an:=an) (a:=Af a) (b:=b);have n2:=Bu (an:=an) (a:=Af a) (b:=b) hn;have r2:=BL (fa:=fa) (an:=an) (a:=Af a) (b:=b) (by omega) (by omega) (by omega);have c2same:=B1 I fa an (Af a) b hI hfa hn (by omega) (by omega);have c2new:=Cd I fa an (Af a) b hI hfa hn (by omega) (by omega);have e2:A8 an (Af a) b=false→an=Ar an (Af a) b:=fun h=>by unfold Ar;rw[if_neg (by simp[h])]
   have e2b:A8 an (Af a) b=true→an.length<(Ar an (Af a) b).length:=fun h=>by unfold Ar;rw[if_pos h];simp
   generalize hq0:AZ fa an (Af a) b=q at *;generalize h20:Ar an (Af a) b=an2 at *;generalize h2m:A8 an (Af a) b=m2 at *;simp[hp,zz3 hp,show 0≤p by omega,hx,hy]
   cases m2
   · have c2:=c2same rfl;obtain rfl:=e2 rfl;refine Ac (c2) [] [0,1] (by simp) ?_;simp;by_cases hq:q<0
     · obtain rfl:R=(-1,an):=by rw[hR,if_pos hq]
       exact absurd rfl h
     rw[if_neg hq] at hR;have l3:=A3 (an:=an) (a:=Af p) (b:=Af q);have c3same:=Bv I fa an p q hI hfa hn (by omega) (by omega);have c3new:=BO I fa an p q hI hfa hn (by omega) (by omega);have e3:A8 an (Af p) (Af q)=false→an=Ar an (Af p) (Af q):=fun h=>by unfold Ar;rw[if_neg (by simp[h])]
     have e3b:A8 an (Af p) (Af q)=true→an.length<(Ar an (Af p) (Af q)).length:=fun h=>by unfold Ar;rw[if_pos h];simp
     generalize F7 fa an p q=r at *;generalize Ar an (Af p) (Af q)=an3 at *;generalize A8 an (Af p) (Af q)=m3 at *;subst hR;simp[hq,zz3 hq,show 0≤q by omega]
     cases m3
     · have c3:=c3same rfl;obtain rfl:=e3 rfl;exact absurd rfl h
     · have c3:=c3new rfl;have b3:=e3b rfl;refine Ac (c3) [] [0,1] (by simp) ?_;simp;exact⟨[0,1,2],by simp⟩
   · have c2:=c2new rfl;have b2:=e2b rfl;refine Ac (c2) [] [0,1] (by simp) ?_;simp;by_cases hq:q<0
     · obtain rfl:R=(-1,an2):=by rw[hR,if_pos hq]
       simp[hq,zz2 hq,show ¬ 0≤q by omega];exact⟨[0,1,2],by simp⟩
     rw[if_neg hq] at hR;have l3:=A3 (an:=an2) (a:=Af p) (b:=Af q);have c3same:=Bv I fa an2 p q hI hfa n2 (by omega) (by omega);have c3new:=BO I fa an2 p q hI hfa n2 (by omega) (by omega);have e3:A8 an2 (Af p) (Af q)=false→an2=Ar an2 (Af p) (Af q):=fun h=>by unfold Ar;rw[if_neg (by simp[h])]
     have e3b:A8 an2 (Af p) (Af q)=true→an2.length<(Ar an2 (Af p) (Af q)).length:=fun h=>by unfold Ar;rw[if_pos h];simp
     generalize F7 fa an2 p q=r at *;generalize Ar an2 (Af p) (Af q)=an3 at *;generalize A8 an2 (Af p) (Af q)=m3 at *;subst hR;simp[hq,zz3 hq,show 0≤q by omega]
     cases m3
     · have c3:=c3same rfl;obtain rfl:=e3 rfl;refine Ac (c3) [] [0,2] (by simp) ?_;simp;exact⟨[0,1,2],by simp⟩
     · have c3:=c3new rfl;have b3:=e3b rfl;refine Ac (c3) [] [0,2] (by simp) ?_;simp;exact⟨[0,1,3],by simp⟩
 · have c1:=c1new rfl;have b1:=e1b rfl;refine Ac (c1) [] [0,1] (by simp) ?_;simp[hx,hy];by_cases hp:p<0
   · obtain rfl:R=(-1,an1):=by rw[hR,if_pos hp]
     simp[hp,zz2 hp,show ¬ 0≤p by omega];exact⟨[0,1,2],by simp⟩
   rw[if_neg hp] at hR;have l2:=A3 (an:=an1) (a:=Af a) (b:=b);have n2:=Bu (an:=an1) (a:=Af a) (b:=b) n1;have r2:=BL (fa:=fa) (an:=an1) (a:=Af a) (b:=b) (by omega) (by omega) (by omega);have c2same:=B1 I fa an1 (Af a) b hI hfa n1 (by omega) (by omega);have c2new:=Cd I fa an1 (Af a) b hI hfa n1 (by omega) (by omega);have e2:A8 an1 (Af a) b=false→an1=Ar an1 (Af a) b:=fun h=>by unfold Ar;rw[if_neg (by simp[h])]
   have e2b:A8 an1 (Af a) b=true→an1.length<(Ar an1 (Af a) b).length:=fun h=>by unfold Ar;rw[if_pos h];simp
   generalize hq0:AZ fa an1 (Af a) b=q at *;generalize h20:Ar an1 (Af a) b=an2 at *;generalize h2m:A8 an1 (Af a) b=m2 at *;simp[hp,zz3 hp,show 0≤p by omega,hx,hy]
   cases m2
   · have c2:=c2same rfl;obtain rfl:=e2 rfl;refine Ac (c2) [] [0,2] (by simp) ?_;simp;by_cases hq:q<0
     · obtain rfl:R=(-1,an1):=by rw[hR,if_pos hq]
       simp[hq,zz2 hq,show ¬ 0≤q by omega];exact⟨[0,1,2],by simp⟩
     rw[if_neg hq] at hR;have l3:=A3 (an:=an1) (a:=Af p) (b:=Af q);have c3same:=Bv I fa an1 p q hI hfa n1 (by omega) (by omega);have c3new:=BO I fa an1 p q hI hfa n1 (by omega) (by omega);have e3:A8 an1 (Af p) (Af q)=false→an1=Ar an1 (Af p) (Af q):=fun h=>by unfold Ar;rw[if_neg (by simp[h])]
     have e3b:A8 an1 (Af p) (Af q)=true→an1.length<(Ar an1 (Af p) (Af q)).length:=fun h=>by unfold Ar;rw[if_pos h];simp
     generalize F7 fa an1 p q=r at *;generalize Ar an1 (Af p) (Af q)=an3 at *;generalize A8 an1 (Af p) (Af q)=m3 at *;subst hR;simp[hq,zz3 hq,show 0≤q by omega]
     cases m3
     · have c3:=c3same rfl;obtain rfl:=e3 rfl;refine Ac (c3) [] [0,2] (by simp) ?_;simp;exact⟨[0,1,2],by simp⟩
     · have c3:=c3new rfl;have b3:=e3b rfl;refine Ac (c3) [] [0,2] (by simp) ?_;simp;exact⟨[0,1,3],by simp⟩
   · have c2:=c2new rfl;have b2:=e2b rfl;refine Ac (c2) [] [0,2] (by simp) ?_;simp;by_cases hq:q<0
     · obtain rfl:R=(-1,an2):=by rw[hR,if_pos hq]
       simp[hq,zz2 hq,show ¬ 0≤q by omega];exact⟨[0,1,3],by simp⟩
     rw[if_neg hq] at hR;have l3:=A3 (an:=an2) (a:=Af p) (b:=Af q);have c3same:=Bv I fa an2 p q hI hfa n2 (by omega) (by omega);have c3new:=BO I fa an2 p q hI hfa n2 (by omega) (by omega);have e3:A8 an2 (Af p) (Af q)=false→an2=Ar an2 (Af p) (Af q):=fun h=>by unfold Ar;rw[if_neg (by simp[h])]
     have e3b:A8 an2 (Af p) (Af q)=true→an2.length<(Ar an2 (Af p) (Af q)).length:=fun h=>by unfold Ar;rw[if_pos h];simp
     generalize F7 fa an2 p q=r at *;generalize Ar an2 (Af p) (Af q)=an3 at *;generalize A8 an2 (Af p) (Af q)=m3 at *;subst hR;simp[hq,zz3 hq,show 0≤q by omega]
     cases m3
     · have c3:=c3same rfl;obtain rfl:=e3 rfl;refine Ac (c3) [] [0,3] (by simp) ?_;simp;exact⟨[0,1,3],by simp⟩
     · have c3:=c3new rfl;have b3:=e3b rfl;refine Ac (c3) [] [0,3] (by simp) ?_;simp;exact⟨[0,1,4],by simp⟩
end Go.Proofs.YtnjedabjbeipeaaGreat
