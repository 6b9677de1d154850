/-
  Nets as they are drawn: the result as data, or with one of its rows owned. By abstract walks.
  Conditions: those typed in each theorem.
-/
import Derived.Test.YtnjedabjbeipeaaGreatSc
namespace Go.Proofs.YtnjedabjbeipeaaGreat
open Go.RowKit Go.ChangeShapes Go.WideShapes
set_option linter.unusedSimpArgs false
set_option linter.unusedVariables false
set_option maxRecDepth 100000
set_option maxHeartbeats 10000000
theorem Tw (c:Cd) (h:c.ok):CM Tryz.prog 28 [.ptr 0 0] [Cj c] (.agg [.d (.int .i64 (Fw c).1),.d (Dr 57 AY (Fw c).2.1),.d (Dr 63 At (Fw c).2.2.1),.d (Dr 3 (e1 AC) (Fw c).2.2.2)]) [Cj (Pz c)]:=by
 have k1:=GN c h;generalize Fw c=G at *;generalize Pz c=c1 at *;obtain⟨I,sq,an,os⟩:=G;refine BE (by kernel_rfl) Tryz.func28 rfl rfl rfl (by simp[Bl,Later]) (by simp[BP,Ah.live]) ?_;by_cases hs:sq.length=0
 · by_cases ha:an.length=0
   · have hs1:sq=[]:=Gx hs;subst hs1;have ha1:an=[]:=Gx ha;subst ha1;simp only[RO,PZ,RD,Rz,List.length_nil,List.length_cons,if_true,  List.nil_append,List.cons_append] at k1 ⊢;simp;refine Ac (k1) [] [0] (by simp) ?_;simp;exact⟨[0],by simp⟩
   · have hs1:sq=[]:=Gx hs;subst hs1;simp only[RO,PZ,RD,Rz,List.length_nil,List.length_cons,if_true,if_neg ha,List.nil_append,List.cons_append] at k1 ⊢;simp;refine Ac (k1) [] [0] (by simp) ?_;simp;exact⟨[0],by simp⟩
 · by_cases ha:an.length=0
   · have ha1:an=[]:=Gx ha;subst ha1;simp only[RO,PZ,RD,Rz,List.length_nil,List.length_cons,if_true,if_neg hs,  List.nil_append,List.cons_append] at k1 ⊢;simp;refine Ac (k1) [] [0] (by simp) ?_;simp;exact⟨[0],by simp⟩
   · simp only[RO,PZ,RD,Rz,List.length_nil,List.length_cons,if_true,if_neg hs,if_neg ha,List.nil_append,List.cons_append] at k1 ⊢;simp;refine Ac (k1) [] [0] (by simp) ?_;simp;exact⟨[0],by simp⟩
theorem dR (c:Cd) (h:c.ok):CM Tryz.prog 28 [.ptr 0 0] [Cj c] (.agg [.d (.int .i64 (Fw c).1),.d (Dr 57 AY (Fw c).2.1),.d (Dr 63 At (Fw c).2.2.1),.ref 1]) [Cj (Pz c),.arr 3 true ((Fw c).2.2.2.map (e1 AC))]:=by
 have k1:=GN c h;generalize Fw c=G at *;generalize Pz c=c1 at *;obtain⟨I,sq,an,os⟩:=G;refine BE (by kernel_rfl) Tryz.func28 rfl rfl rfl (by simp[Bl,Later]) (by simp[BP,Ah.live]) ?_;by_cases hs:sq.length=0
 · by_cases ha:an.length=0
   · have hs1:sq=[]:=Gx hs;subst hs1;have ha1:an=[]:=Gx ha;subst ha1;simp only[RO,PZ,RD,Rz,List.length_nil,List.length_cons,if_true,  List.nil_append,List.cons_append] at k1 ⊢;simp;refine Ac (k1) [] [0] (by simp) ?_;simp;exact⟨[0,2],by simp⟩
   · have hs1:sq=[]:=Gx hs;subst hs1;simp only[RO,PZ,RD,Rz,List.length_nil,List.length_cons,if_true,if_neg ha,List.nil_append,List.cons_append] at k1 ⊢;simp;refine Ac (k1) [] [0] (by simp) ?_;simp;exact⟨[0,3],by simp⟩
 · by_cases ha:an.length=0
   · have ha1:an=[]:=Gx ha;subst ha1;simp only[RO,PZ,RD,Rz,List.length_nil,List.length_cons,if_true,if_neg hs,  List.nil_append,List.cons_append] at k1 ⊢;simp;refine Ac (k1) [] [0] (by simp) ?_;simp;exact⟨[0,3],by simp⟩
   · simp only[RO,PZ,RD,Rz,List.length_nil,List.length_cons,if_true,if_neg hs,if_neg ha,List.nil_append,List.cons_append] at k1 ⊢;simp;refine Ac (k1) [] [0] (by simp) ?_;simp;exact⟨[0,4],by simp⟩
theorem Y8 (c:Cd) (h:c.ok) (h0:(Fw c).2.2.1.length=0):CM Tryz.prog 28 [.ptr 0 0] [Cj c] (.agg [.d (.int .i64 (Fw c).1),.d (Dr 57 AY (Fw c).2.1),.nil 63,.d (Dr 3 (e1 AC) (Fw c).2.2.2)]) [Cj (Pz c)]:=by
 have k1:=GN c h;generalize Fw c=G at *;generalize Pz c=c1 at *;obtain⟨I,sq,an,os⟩:=G;simp only at h0;refine BE (by kernel_rfl) Tryz.func28 rfl rfl rfl (by simp[Bl,Later]) (by simp[BP,Ah.live]) ?_;by_cases hs:sq.length=0
 · by_cases ha:an.length=0
   · have hs1:sq=[]:=Gx hs;subst hs1;have ha1:an=[]:=Gx ha;subst ha1;simp only[RO,PZ,RD,Rz,List.length_nil,List.length_cons,if_true,  List.nil_append,List.cons_append] at k1 ⊢;simp;refine Ac (k1) [] [0] (by simp) ?_;simp;exact⟨[0],by simp⟩
   · omega
 · by_cases ha:an.length=0
   · have ha1:an=[]:=Gx ha;subst ha1;simp only[RO,PZ,RD,Rz,List.length_nil,List.length_cons,if_true,if_neg hs,  List.nil_append,List.cons_append] at k1 ⊢;simp;refine Ac (k1) [] [0] (by simp) ?_;simp;exact⟨[0],by simp⟩
   · omega
theorem Yt (c:Cd) (h:c.ok) (h0:¬ (Fw c).2.2.1.length=0):CM Tryz.prog 28 [.ptr 0 0] [Cj c] (.agg [.d (.int .i64 (Fw c).1),.d (Dr 57 AY (Fw c).2.1),.ref 1,.d (Dr 3 (e1 AC) (Fw c).2.2.2)]) [Cj (Pz c),.arr 63 true ((Fw c).2.2.1.map At)]:=by
 have k1:=GN c h;generalize Fw c=G at *;generalize Pz c=c1 at *;obtain⟨I,sq,an,os⟩:=G;simp only at h0;refine BE (by kernel_rfl) Tryz.func28 rfl rfl rfl (by simp[Bl,Later]) (by simp[BP,Ah.live]) ?_;by_cases hs:sq.length=0
 · by_cases ha:an.length=0
   · omega
   · have hs1:sq=[]:=Gx hs;subst hs1;simp only[RO,PZ,RD,Rz,List.length_nil,List.length_cons,if_true,if_neg ha,List.nil_append,List.cons_append] at k1 ⊢;simp;refine Ac (k1) [] [0] (by simp) ?_;simp;exact⟨[0,2],by simp⟩
 · by_cases ha:an.length=0
   · omega
   · simp only[RO,PZ,RD,Rz,List.length_nil,List.length_cons,if_true,if_neg hs,if_neg ha,List.nil_append,List.cons_append] at k1 ⊢;simp;refine Ac (k1) [] [0] (by simp) ?_;simp;exact⟨[0,3],by simp⟩
theorem XB (c:Cd) (h:c.ok) (h0:(Fw c).2.1.length=0):CM Tryz.prog 28 [.ptr 0 0] [Cj c] (.agg [.d (.int .i64 (Fw c).1),.nil 57,.d (Dr 63 At (Fw c).2.2.1),.d (Dr 3 (e1 AC) (Fw c).2.2.2)]) [Cj (Pz c)]:=by
 have k1:=GN c h;generalize Fw c=G at *;generalize Pz c=c1 at *;obtain⟨I,sq,an,os⟩:=G;simp only at h0;refine BE (by kernel_rfl) Tryz.func28 rfl rfl rfl (by simp[Bl,Later]) (by simp[BP,Ah.live]) ?_;by_cases hs:sq.length=0
 · by_cases ha:an.length=0
   · have hs1:sq=[]:=Gx hs;subst hs1;have ha1:an=[]:=Gx ha;subst ha1;simp only[RO,PZ,RD,Rz,List.length_nil,List.length_cons,if_true,  List.nil_append,List.cons_append] at k1 ⊢;simp;refine Ac (k1) [] [0] (by simp) ?_;simp;exact⟨[0],by simp⟩
   · have hs1:sq=[]:=Gx hs;subst hs1;simp only[RO,PZ,RD,Rz,List.length_nil,List.length_cons,if_true,if_neg ha,List.nil_append,List.cons_append] at k1 ⊢;simp;refine Ac (k1) [] [0] (by simp) ?_;simp;exact⟨[0],by simp⟩
 · omega
theorem YP (c:Cd) (h:c.ok) (h0:¬ (Fw c).2.1.length=0):CM Tryz.prog 28 [.ptr 0 0] [Cj c] (.agg [.d (.int .i64 (Fw c).1),.ref 1,.d (Dr 63 At (Fw c).2.2.1),.d (Dr 3 (e1 AC) (Fw c).2.2.2)]) [Cj (Pz c),.arr 57 true ((Fw c).2.1.map AY)]:=by
 have k1:=GN c h;generalize Fw c=G at *;generalize Pz c=c1 at *;obtain⟨I,sq,an,os⟩:=G;simp only at h0;refine BE (by kernel_rfl) Tryz.func28 rfl rfl rfl (by simp[Bl,Later]) (by simp[BP,Ah.live]) ?_;by_cases hs:sq.length=0
 · omega
 · by_cases ha:an.length=0
   · have ha1:an=[]:=Gx ha;subst ha1;simp only[RO,PZ,RD,Rz,List.length_nil,List.length_cons,if_true,if_neg hs,  List.nil_append,List.cons_append] at k1 ⊢;simp;refine Ac (k1) [] [0] (by simp) ?_;simp;exact⟨[0,2],by simp⟩
   · simp only[RO,PZ,RD,Rz,List.length_nil,List.length_cons,if_true,if_neg hs,if_neg ha,List.nil_append,List.cons_append] at k1 ⊢;simp;refine Ac (k1) [] [0] (by simp) ?_;simp;exact⟨[0,2],by simp⟩
end Go.Proofs.YtnjedabjbeipeaaGreat
