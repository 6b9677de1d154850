/-
  Nets as they are drawn: the result as data, or with one of its rows owned. By abstract walks.
  Conditions: those typed in each theorem.
-/
import Derived.Test.YtnjedabjbeipeaaGreatSc
namespace Go.Proofs.YtnjedabjbeipeaaGreat
open Go.RowKit Go.ChangeShapes Go.WideShapes
set_option linter.unusedSimpArgs false
set_option linter.unusedVariables false
set_option maxRecDepth 100000
set_option maxHeartbeats 10000000
theorem RZ (c:B9) (h:c.ok):CG Tryz.prog 28 [.ptr 0 0] [Ce c] (.agg [.d (.int .i64 (Fd c).1),.d (Dh 57 AY (Fd c).2.1),.d (Dh 63 At (Fd c).2.2.1),.d (Dh 3 (e1 AC) (Fd c).2.2.2)]) [Ce (OR c)]:=by
 have k1:=Gi c h;generalize Fd c=G at *;generalize OR c=c1 at *;obtain⟨I,sq,an,os⟩:=G;refine BA (by kernel_rfl) Tryz.func28 rfl rfl rfl (by simp[Bi,Later]) (by simp[BN,Ah.live]) ?_;by_cases hs:sq.length=0
 · by_cases ha:an.length=0
   · have hs1:sq=[]:=zz7 hs;subst hs1;have ha1:an=[]:=zz7 ha;subst ha1;simp only[Rn,Qf,Rg,Q0,List.length_nil,List.length_cons,if_true,  List.nil_append,List.cons_append] at k1 ⊢;simp;refine Ac (k1) [] [0] (by simp) ?_;simp;exact⟨[0],by simp⟩
   · have hs1:sq=[]:=zz7 hs;subst hs1;simp only[Rn,Qf,Rg,Q0,List.length_nil,List.length_cons,if_true,if_neg ha,List.nil_append,List.cons_append] at k1 ⊢;simp;refine Ac (k1) [] [0] (by simp) ?_;simp;exact⟨[0],by simp⟩
 · by_cases ha:an.length=0
   · have ha1:an=[]:=zz7 ha;subst ha1;simp only[Rn,Qf,Rg,Q0,List.length_nil,List.length_cons,if_true,if_neg hs,  List.nil_append,List.cons_append] at k1 ⊢;simp;refine Ac (k1) [] [0] (by simp) ?_;simp;exact⟨[0],by simp⟩
   · simp only[Rn,Qf,Rg,Q0,List.length_nil,List.length_cons,if_true,if_neg hs,if_neg ha,List.nil_append,List.cons_append] at k1 ⊢;simp;refine Ac (k1) [] [0] (by simp) ?_;simp;exact⟨[0],by simp⟩
theorem Zt (c:B9) (h:c.ok):CG Tryz.prog 28 [.ptr 0 0] [Ce c] (.agg [.d (.int .i64 (Fd c).1),.d (Dh 57 AY (Fd c).2.1),.d (Dh 63 At (Fd c).2.2.1),.ref 1]) [Ce (OR c),.arr 3 true ((Fd c).2.2.2.map (e1 AC))]:=by
 have k1:=Gi c h;generalize Fd c=G at *;generalize OR c=c1 at *;obtain⟨I,sq,an,os⟩:=G;refine BA (by kernel_rfl) Tryz.func28 rfl rfl rfl (by simp[Bi,Later]) (by simp[BN,Ah.live]) ?_;by_cases hs:sq.length=0
 · by_cases ha:an.length=0
   · have hs1:sq=[]:=zz7 hs;subst hs1;have ha1:an=[]:=zz7 ha;subst ha1;simp only[Rn,Qf,Rg,Q0,List.length_nil,List.length_cons,if_true,  List.nil_append,List.cons_append] at k1 ⊢;simp;refine Ac (k1) [] [0] (by simp) ?_;simp;exact⟨[0,2],by simp⟩
   · have hs1:sq=[]:=zz7 hs;subst hs1;simp only[Rn,Qf,Rg,Q0,List.length_nil,List.length_cons,if_true,if_neg ha,List.nil_append,List.cons_append] at k1 ⊢;simp;refine Ac (k1) [] [0] (by simp) ?_;simp;exact⟨[0,3],by simp⟩
 · by_cases ha:an.length=0
   · have ha1:an=[]:=zz7 ha;subst ha1;simp only[Rn,Qf,Rg,Q0,List.length_nil,List.length_cons,if_true,if_neg hs,  List.nil_append,List.cons_append] at k1 ⊢;simp;refine Ac (k1) [] [0] (by simp) ?_;simp;exact⟨[0,3],by simp⟩
   · simp only[Rn,Qf,Rg,Q0,List.length_nil,List.length_cons,if_true,if_neg hs,if_neg ha,List.nil_append,List.cons_append] at k1 ⊢;simp;refine Ac (k1) [] [0] (by simp) ?_;simp;exact⟨[0,4],by simp⟩
theorem W8 (c:B9) (h:c.ok) (h0:(Fd c).2.2.1.length=0):CG Tryz.prog 28 [.ptr 0 0] [Ce c] (.agg [.d (.int .i64 (Fd c).1),.d (Dh 57 AY (Fd c).2.1),.nil 63,.d (Dh 3 (e1 AC) (Fd c).2.2.2)]) [Ce (OR c)]:=by
 have k1:=Gi c h;generalize Fd c=G at *;generalize OR c=c1 at *;obtain⟨I,sq,an,os⟩:=G;simp only at h0;refine BA (by kernel_rfl) Tryz.func28 rfl rfl rfl (by simp[Bi,Later]) (by simp[BN,Ah.live]) ?_;by_cases hs:sq.length=0
 · by_cases ha:an.length=0
   · have hs1:sq=[]:=zz7 hs;subst hs1;have ha1:an=[]:=zz7 ha;subst ha1;simp only[Rn,Qf,Rg,Q0,List.length_nil,List.length_cons,if_true,  List.nil_append,List.cons_append] at k1 ⊢;simp;refine Ac (k1) [] [0] (by simp) ?_;simp;exact⟨[0],by simp⟩
   · omega
 · by_cases ha:an.length=0
   · have ha1:an=[]:=zz7 ha;subst ha1;simp only[Rn,Qf,Rg,Q0,List.length_nil,List.length_cons,if_true,if_neg hs,  List.nil_append,List.cons_append] at k1 ⊢;simp;refine Ac (k1) [] [0] (by simp) ?_;simp;exact⟨[0],by simp⟩
   · omega
theorem Yk (c:B9) (h:c.ok) (h0:¬ (Fd c).2.2.1.length=0):CG Tryz.prog 28 [.ptr 0 0] [Ce c] (.agg [.d (.int .i64 (Fd c).1),.d (Dh 57 AY (Fd c).2.1),.ref 1,.d (Dh 3 (e1 AC) (Fd c).2.2.2)]) [Ce (OR c),.arr 63 true ((Fd c).2.2.1.map At)]:=by
 have k1:=Gi c h;generalize Fd c=G at *;generalize OR c=c1 at *;obtain⟨I,sq,an,os⟩:=G;simp only at h0;refine BA (by kernel_rfl) Tryz.func28 rfl rfl rfl (by simp[Bi,Later]) (by simp[BN,Ah.live]) ?_;by_cases hs:sq.length=0
 · by_cases ha:an.length=0
   · omega
   · have hs1:sq=[]:=zz7 hs;subst hs1;simp only[Rn,Qf,Rg,Q0,List.length_nil,List.length_cons,if_true,if_neg ha,List.nil_append,List.cons_append] at k1 ⊢;simp;refine Ac (k1) [] [0] (by simp) ?_;simp;exact⟨[0,2],by simp⟩
 · by_cases ha:an.length=0
   · omega
   · simp only[Rn,Qf,Rg,Q0,List.length_nil,List.length_cons,if_true,if_neg hs,if_neg ha,List.nil_append,List.cons_append] at k1 ⊢;simp;refine Ac (k1) [] [0] (by simp) ?_;simp;exact⟨[0,3],by simp⟩
theorem Yy (c:B9) (h:c.ok) (h0:(Fd c).2.1.length=0):CG Tryz.prog 28 [.ptr 0 0] [Ce c] (.agg [.d (.int .i64 (Fd c).1),.nil 57,.d (Dh 63 At (Fd c).2.2.1),.d (Dh 3 (e1 AC) (Fd c).2.2.2)]) [Ce (OR c)]:=by
 have k1:=Gi c h;generalize Fd c=G at *;generalize OR c=c1 at *;obtain⟨I,sq,an,os⟩:=G;simp only at h0;refine BA (by kernel_rfl) Tryz.func28 rfl rfl rfl (by simp[Bi,Later]) (by simp[BN,Ah.live]) ?_;by_cases hs:sq.length=0
 · by_cases ha:an.length=0
   · have hs1:sq=[]:=zz7 hs;subst hs1;have ha1:an=[]:=zz7 ha;subst ha1;simp only[Rn,Qf,Rg,Q0,List.length_nil,List.length_cons,if_true,  List.nil_append,List.cons_append] at k1 ⊢;simp;refine Ac (k1) [] [0] (by simp) ?_;simp;exact⟨[0],by simp⟩
   · have hs1:sq=[]:=zz7 hs;subst hs1;simp only[Rn,Qf,Rg,Q0,List.length_nil,List.length_cons,if_true,if_neg ha,List.nil_append,List.cons_append] at k1 ⊢;simp;refine Ac (k1) [] [0] (by simp) ?_;simp;exact⟨[0],by simp⟩
 · omega
theorem Xn (c:B9) (h:c.ok) (h0:¬ (Fd c).2.1.length=0):CG Tryz.prog 28 [.ptr 0 0] [Ce c] (.agg [.d (.int .i64 (Fd c).1),.ref 1,.d (Dh 63 At (Fd c).2.2.1),.d (Dh 3 (e1 AC) (Fd c).2.2.2)]) [Ce (OR c),.arr 57 true ((Fd c).2.1.map AY)]:=by
 have k1:=Gi c h;generalize Fd c=G at *;generalize OR c=c1 at *;obtain⟨I,sq,an,os⟩:=G;simp only at h0;refine BA (by kernel_rfl) Tryz.func28 rfl rfl rfl (by simp[Bi,Later]) (by simp[BN,Ah.live]) ?_;by_cases hs:sq.length=0
 · omega
 · by_cases ha:an.length=0
   · have ha1:an=[]:=zz7 ha;subst ha1;simp only[Rn,Qf,Rg,Q0,List.length_nil,List.length_cons,if_true,if_neg hs,  List.nil_append,List.cons_append] at k1 ⊢;simp;refine Ac (k1) [] [0] (by simp) ?_;simp;exact⟨[0,2],by simp⟩
   · simp only[Rn,Qf,Rg,Q0,List.length_nil,List.length_cons,if_true,if_neg hs,if_neg ha,List.nil_append,List.cons_append] at k1 ⊢;simp;refine Ac (k1) [] [0] (by simp) ?_;simp;exact⟨[0,2],by simp⟩
end Go.Proofs.YtnjedabjbeipeaaGreat
