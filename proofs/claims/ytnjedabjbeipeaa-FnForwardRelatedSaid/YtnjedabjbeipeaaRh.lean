/-
  Adding an AND node to a net, by abstract walks: the program.
  Conditions: those typed in each theorem.
-/
import Derived.Test.YtnjedabjbeipeaaRa
namespace Go.Proofs.Ytnjedabjbeipeaa
open Go.RowKit Go.ChangeShapes Go.WideShapes
set_option linter.unusedVariables false
set_option linter.unusedSimpArgs false
attribute [local simp ↓] condG_true condG_false condB_true condB_false
attribute [local simp] AWp_skip AWp_region_t AWp_region_d AWp_region_f still_mk AWp_seq AWp_cond condV_bool condB AWp_block AWp_exit AWp_ret
attribute [local simp] AOps_nil AOp_move AOp_assign AOp_pick AOp_binOp AOp_unOp AOp_convert AOp_len AOp_max AOp_min AOp_indexAddr AOp_load
attribute [local simp] AOp_fieldAddr AOp_field AOp_extract AOp_nilCheck AOp_build AOp_alloc AOp_box AOp_call AOp_store AOp_append AOp_buildSlice nextB_some
attribute [local simp] nextB_none adoptO adoptC AOp_makeSlice AOp_slice AOp_makeFunc AOp_guard guardD_some guardG_bool guardG_undef nextO_some nextS_some
attribute [local simp] nextZ_some nextL_some nextM_some nextT_some sliceO sliceL sliceT partO partV boundV funcO pickO
attribute [local simp] convO lenO maxO minO idxO extO nilO buildO litO litC makeO chunks
attribute [local simp] fillV placeOf thenA inBlockA St.get St.put St.eval ofCell evalT abin_add abin_sub abin_mul
attribute [local simp] abin_quo abin_rem abin_and abin_or abin_xor abin_andNot abin_shl abin_shr abin_shlu abin_eql abin_eqp abin_neq
attribute [local simp] abin_lss abin_leq abin_gtr abin_geq abin_eqlb abin_neqb aun pickV lenV intOf? indexV takeD
attribute [local simp] takeV loadV fieldAddrV fieldV ofX presD presDs pres presAll cellsV V.cell storeV
attribute [local simp] freezeC putAt kill takeC plains plainV scalarV nat_neg keepT sets eSl e1
attribute [local simp] e2 e3 e4 eInt eBool abinS_d abinS_agg abinS nilEq abin_eqb AOp_makeMap AOp_lookup
attribute [local simp] AOp_mapUpdate lookG_some updG_some mapV kyOf vlOf lookV vlV buildA afterCall inst inst1
attribute [local simp] inst1s instD instDs RetA resVs resV gives give1 give1s Le isPin leSlots
attribute [local simp] leS leTmps leV le0 le0s ren ren0 renS ren0s frame enterT afterT_some
attribute [local simp] afterC_some lives Slot.live arrsOk viewV view0 renT rens renSs setAll List.range'_succ RetT
attribute [local simp] RetW joinV leT AOpsE_nil AOpsE_cons AOpsT_nil AOpsT_cons isCallT isFnO callOf callVC_fn condC_true
attribute [local simp] condC_false beginT_mk beginX_mk AOpsX_zero thenT_mk pickE pickT isT loose namesOf namesV names1
attribute [local simp] names0 stableN sameAt Op.operands Call.operands
set_option maxRecDepth 100000 in
set_option maxHeartbeats 2000000 in
theorem addAnd_same_sn (I fa:Int) (sq:List SeqD) (a b:Int) (hI:0≤I∧I≤20) (hfa:1+I+(sq.length:Int)=fa) (hs:sq.length≤12) (ha:0≤a∧a≤1048576) (hb:0≤b∧b≤1048576) (h:addM ([]:List AndD) a b=false) :
 ConT Try.prog 79 [.ptr 0 0,.d (.int .i64 a),.d (.int .i64 b)] [.var 28 [.d (.int .i64 I),.ref 1,.nil 60,.nil 3],.arr 31 true (sq.map enSeq)] (.d (.int .i64 (addV fa ([]:List AndD) a b))) [.var 28 [.d (.int .i64 I),.ref 1,.nil 60,.nil 3],.arr 31 true (sq.map enSeq)]:=by
 have hV:addV fa ([]:List AndD) a b=if trivB a b=true then trivV a b else if fndL ([]:List AndD) (mnI a b,mxI a b)<([]:List AndD).length then 2*(fa+fndL ([]:List AndD) (mnI a b,mxI a b)) else if ([]:List AndD).length<300 then 2*(fa+([]:List AndD).length) else -1:=rfl
 have hM:addM ([]:List AndD) a b=(!trivB a b&&decide (¬ fndL ([]:List AndD) (mnI a b,mxI a b)<([]:List AndD).length)&&decide (([]:List AndD).length<300)):=rfl
 generalize addV fa ([]:List AndD) a b=R at *
 rw[h] at hM
 have hx1:(if b<a then b else a)=mnI a b:=rfl
 have hx2:(if a<b then b else a)=mxI a b:=rfl
 have hT:trivB a b=(decide (a=0)||decide (b=0)||decide (xor64 a 1=b)||decide (a=1)||decide (a=b)||decide (b=1)):=rfl
 have hTv:trivV a b=if a=0∨b=0∨xor64 a 1=b then 0 else if a=1∨a=b then b else a:=rfl
 generalize mnI a b=mn at *
 generalize mxI a b=mx at *
 refine conT_ofD (by kernel_rfl) Try.func79 rfl rfl rfl (by simp[laters,Later]) (by simp[lives,Slot.live]) ?_
 obtain⟨xa,hxa⟩:∃ xa,xor64 a 1=xa:=⟨_,rfl⟩
 rw[hxa] at hT hTv
 by_cases h0:a=0
 · have q0:(a==0)=true:=by simpa using h0
   have hR:R=0:=by rw[hV,if_pos (by rw[hT];simp[h0,q0]),hTv];split<;>(try split)<;>omega
   subst hR
   simp[eq_true h0,q0,hxa]
   exact⟨[0,1],by simp⟩
 have q0:(a==0)=false:=by simpa using h0
 by_cases h1:b=0
 · have q1:(b==0)=true:=by simpa using h1
   have hR:R=0:=by rw[hV,if_pos (by rw[hT];simp[h0,q0,h1,q1]),hTv];split<;>(try split)<;>omega
   subst hR
   simp[h0,q0,eq_true h1,q1,hxa]
   exact⟨[0,1],by simp⟩
 have q1:(b==0)=false:=by simpa using h1
 by_cases h2:xa=b
 · have q2:(xa==b)=true:=by simpa using h2
   have hR:R=0:=by rw[hV,if_pos (by rw[hT];simp[h0,q0,h1,q1,h2,q2]),hTv];split<;>(try split)<;>omega
   subst hR
   simp[h0,q0,h1,q1,eq_true h2,q2,hxa]
   exact⟨[0,1],by simp⟩
 have q2:(xa==b)=false:=by simpa using h2
 by_cases h3:a=1
 · have q3:(a==1)=true:=by simpa using h3
   have hR:R=b:=by rw[hV,if_pos (by rw[hT];simp[h0,q0,h1,q1,h2,q2,h3,q3]),hTv];split<;>(try split)<;>omega
   subst hR
   simp[h0,q0,h1,q1,h2,q2,eq_true h3,q3,hxa]
   exact⟨[0,1],by simp⟩
 have q3:(a==1)=false:=by simpa using h3
 by_cases h4:a=b
 · have q4:(a==b)=true:=by simpa using h4
   have hR:R=b:=by rw[hV,if_pos (by rw[hT];simp[h0,q0,h1,q1,h2,q2,h3,q3,h4,q4]),hTv];split<;>(try split)<;>omega
   subst hR
   simp[h0,q0,h1,q1,h2,q2,h3,q3,eq_true h4,q4,hxa]
   exact⟨[0,1],by simp⟩
 have q4:(a==b)=false:=by simpa using h4
 by_cases h5:b=1
 · have q5:(b==1)=true:=by simpa using h5
   have hR:R=a:=by rw[hV,if_pos (by rw[hT];simp[h0,q0,h1,q1,h2,q2,h3,q3,h4,q4,h5,q5]),hTv];split<;>(try split)<;>omega
   subst hR
   simp[h0,q0,h1,q1,h2,q2,h3,q3,h4,q4,eq_true h5,q5,hxa]
   exact⟨[0,1],by simp⟩
 have q5:(b==1)=false:=by simpa using h5
 have hTf:trivB a b=false:=by rw[hT];simp[h0,h1,h2,h3,h4,h5]
 rw[hTf] at hM hV
 rw[if_neg (by simp)] at hV
 simp only[Bool.not_false,Bool.true_and] at hM
 simp[q0,q1,q2,q3,q4,q5,h0,h1,h2,h3,h4,h5,hxa,hx1,hx2]
 refine aw_loopU [true,false,false,false,false,false,false,true,false,false,false,false,false,false,false,false,false,false,false,false,false,false,false,false,false,false,false,false,false,false,false,false,false,false,false,false,false,false,false,false,false,false,false,false,false,false,true,true,true,false,false,false,false,false,false,false,false,false,false,false,false,false,false,false,false,false,false,false,false,false,false,false,false,false,false,false,false,false,false,false,false,false,false,false,false,false] (fun i:Nat=>i≤([]:List AndD).length∧∀ j:Nat,j<i→([]:List AndD)[j]?≠some (mn,mx)) (fun i:Nat=>[(48,.d (.int .i64 i))]) (fun i:Nat=>[]) (fun i:Nat=>([]:List AndD).length - i) 0 ?_ ?_ ?_
 · exact⟨Nat.zero_le _,fun j h=>by omega⟩
 · exact⟨[0,1,2],by simp⟩
 rintro J S μ hJ hS hμ i ⟨hi,hpre⟩
 obtain rfl:i=0:=by simpa using hi
 have hlt:¬ (0:Nat)<([]:List AndD).length:=by simp
 have hf:¬ fndL ([]:List AndD) (mn,mx)<([]:List AndD).length:=by simp
 rw[if_neg hf] at hV
 exfalso;simp at hM
set_option maxRecDepth 100000 in
set_option maxHeartbeats 2000000 in
theorem addAnd_new_sn (I fa:Int) (sq:List SeqD) (a b:Int) (hI:0≤I∧I≤20) (hfa:1+I+(sq.length:Int)=fa) (hs:sq.length≤12) (ha:0≤a∧a≤1048576) (hb:0≤b∧b≤1048576) (h:addM ([]:List AndD) a b=true) :
 ConT Try.prog 79 [.ptr 0 0,.d (.int .i64 a),.d (.int .i64 b)] [.var 28 [.d (.int .i64 I),.ref 1,.nil 60,.nil 3],.arr 31 true (sq.map enSeq)] (.d (.int .i64 (addV fa ([]:List AndD) a b))) [.var 28 [.d (.int .i64 I),.ref 1,.ref 2,.nil 3],.arr 31 true (sq.map enSeq),.arr 60 true ((addN ([]:List AndD) a b).map enAnd)]:=by
 have hV:addV fa ([]:List AndD) a b=if trivB a b=true then trivV a b else if fndL ([]:List AndD) (mnI a b,mxI a b)<([]:List AndD).length then 2*(fa+fndL ([]:List AndD) (mnI a b,mxI a b)) else if ([]:List AndD).length<300 then 2*(fa+([]:List AndD).length) else -1:=rfl
 have hM:addM ([]:List AndD) a b=(!trivB a b&&decide (¬ fndL ([]:List AndD) (mnI a b,mxI a b)<([]:List AndD).length)&&decide (([]:List AndD).length<300)):=rfl
 generalize addV fa ([]:List AndD) a b=R at *
 rw[h] at hM
 have hN:addN ([]:List AndD) a b=([]:List AndD)++[(mnI a b,mxI a b)]:=by unfold addN;rw[if_pos h]
 rw[hN]
 have hx1:(if b<a then b else a)=mnI a b:=rfl
 have hx2:(if a<b then b else a)=mxI a b:=rfl
 have hT:trivB a b=(decide (a=0)||decide (b=0)||decide (xor64 a 1=b)||decide (a=1)||decide (a=b)||decide (b=1)):=rfl
 have hTv:trivV a b=if a=0∨b=0∨xor64 a 1=b then 0 else if a=1∨a=b then b else a:=rfl
 generalize mnI a b=mn at *
 generalize mxI a b=mx at *
 refine conT_ofD (by kernel_rfl) Try.func79 rfl rfl rfl (by simp[laters,Later]) (by simp[lives,Slot.live]) ?_
 obtain⟨xa,hxa⟩:∃ xa,xor64 a 1=xa:=⟨_,rfl⟩
 rw[hxa] at hT hTv
 by_cases h0:a=0
 · have q0:(a==0)=true:=by simpa using h0
   exfalso;rw[hT] at hM;simp[h0] at hM
 have q0:(a==0)=false:=by simpa using h0
 by_cases h1:b=0
 · have q1:(b==0)=true:=by simpa using h1
   exfalso;rw[hT] at hM;simp[h0,h1] at hM
 have q1:(b==0)=false:=by simpa using h1
 by_cases h2:xa=b
 · have q2:(xa==b)=true:=by simpa using h2
   exfalso;rw[hT] at hM;simp[h0,h1,h2] at hM
 have q2:(xa==b)=false:=by simpa using h2
 by_cases h3:a=1
 · have q3:(a==1)=true:=by simpa using h3
   exfalso;rw[hT] at hM;simp[h0,h1,h2,h3] at hM
 have q3:(a==1)=false:=by simpa using h3
 by_cases h4:a=b
 · have q4:(a==b)=true:=by simpa using h4
   exfalso;rw[hT] at hM;simp[h0,h1,h2,h3,h4] at hM
 have q4:(a==b)=false:=by simpa using h4
 by_cases h5:b=1
 · have q5:(b==1)=true:=by simpa using h5
   exfalso;rw[hT] at hM;simp[h0,h1,h2,h3,h4,h5] at hM
 have q5:(b==1)=false:=by simpa using h5
 have hTf:trivB a b=false:=by rw[hT];simp[h0,h1,h2,h3,h4,h5]
 rw[hTf] at hM hV
 rw[if_neg (by simp)] at hV
 simp only[Bool.not_false,Bool.true_and] at hM
 simp[q0,q1,q2,q3,q4,q5,h0,h1,h2,h3,h4,h5,hxa,hx1,hx2]
 refine aw_loopU [true,false,false,false,false,false,false,true,false,false,false,false,false,false,false,false,false,false,false,false,false,false,false,false,false,false,false,false,false,false,false,false,false,false,false,false,false,false,false,false,false,false,false,false,false,false,true,true,true,false,false,false,false,false,false,false,false,false,false,false,false,false,false,false,false,false,false,false,false,false,false,false,false,false,false,false,false,false,false,false,false,false,false,false,false,false] (fun i:Nat=>i≤([]:List AndD).length∧∀ j:Nat,j<i→([]:List AndD)[j]?≠some (mn,mx)) (fun i:Nat=>[(48,.d (.int .i64 i))]) (fun i:Nat=>[]) (fun i:Nat=>([]:List AndD).length - i) 0 ?_ ?_ ?_
 · exact⟨Nat.zero_le _,fun j h=>by omega⟩
 · exact⟨[0,1,2],by simp⟩
 rintro J S μ hJ hS hμ i ⟨hi,hpre⟩
 obtain rfl:i=0:=by simpa using hi
 have hlt:¬ (0:Nat)<([]:List AndD).length:=by simp
 have hf:¬ fndL ([]:List AndD) (mn,mx)<([]:List AndD).length:=by simp
 rw[if_neg hf] at hV
 rw[if_pos (by simp)] at hV
 simp
 refine drawE_of [(7,[0]),(8,[]),(9,[]),(10,[])] (by kernel_rfl) ?_
 simp
 refine app_data vt_el_25 rfl (by simp) rfl (by simp) (by simp) (by first | (simp;done)|(simp;omega)) (by simp[flatP,flatD]) ?_
 simp
 have hnc:=iNodeCnt_con (I,sq,([]:List AndD)++[(mn,mx)],[]) hI (by simp;omega) (by simp)
 have hcnt:1+I+(sq.length:Int)+((([]:List AndD)++[(mn,mx)]).length:Int)=fa+([]:List AndD).length+1:=by simp;omega
 simp only at hnc
 rw[hcnt] at hnc
 simp only[igr,enGr,e4,eSl,List.map_append,List.map_cons,List.map_nil,List.nil_append,enAnd,e2,eInt] at hnc
 have w4:IntKind.i64.wrap (fa+(([]:List AndD).length:Int)+1 - 1)=fa+([]:List AndD).length:=by rw[wrap_id (by first | omega|(simp;omega)) (by first | omega|(simp;omega))];omega
 have w5:IntKind.i64.wrap (2*(fa+(([]:List AndD).length:Int)))=2*(fa+([]:List AndD).length):=wrap_id (by first | omega|(simp;omega)) (by first | omega|(simp;omega))
 have w6:IntKind.i64.wrap (fa+(([]:List AndD).length:Int))=fa+([]:List AndD).length:=wrap_id (by first | omega|(simp;omega)) (by first | omega|(simp;omega))
 generalize fa+(([]:List AndD).length:Int)=q at *
 refine call_step (hnc) ?_
 simp[w4,w5,w6]
 exact⟨[0,1,4],by simp[hV,enAnd,e2,eInt]⟩
set_option maxRecDepth 100000 in
set_option maxHeartbeats 2000000 in
theorem addAnd_same_sa (I fa:Int) (sq:List SeqD) (an:List AndD) (a b:Int) (hI:0≤I∧I≤20) (hfa:1+I+(sq.length:Int)=fa) (hs:sq.length≤12) (hn:an.length≤300) (ha:0≤a∧a≤1048576) (hb:0≤b∧b≤1048576) (h:addM an a b=false) :
 ConT Try.prog 79 [.ptr 0 0,.d (.int .i64 a),.d (.int .i64 b)] [.var 28 [.d (.int .i64 I),.ref 1,.ref 2,.nil 3],.arr 31 true (sq.map enSeq),.arr 60 true ((an).map enAnd)] (.d (.int .i64 (addV fa an a b))) [.var 28 [.d (.int .i64 I),.ref 1,.ref 2,.nil 3],.arr 31 true (sq.map enSeq),.arr 60 true ((an).map enAnd)]:=by
 have hV:addV fa an a b=if trivB a b=true then trivV a b else if fndL an (mnI a b,mxI a b)<an.length then 2*(fa+fndL an (mnI a b,mxI a b)) else if an.length<300 then 2*(fa+an.length) else -1:=rfl
 have hM:addM an a b=(!trivB a b&&decide (¬ fndL an (mnI a b,mxI a b)<an.length)&&decide (an.length<300)):=rfl
 generalize addV fa an a b=R at *
 rw[h] at hM
 have hx1:(if b<a then b else a)=mnI a b:=rfl
 have hx2:(if a<b then b else a)=mxI a b:=rfl
 have hT:trivB a b=(decide (a=0)||decide (b=0)||decide (xor64 a 1=b)||decide (a=1)||decide (a=b)||decide (b=1)):=rfl
 have hTv:trivV a b=if a=0∨b=0∨xor64 a 1=b then 0 else if a=1∨a=b then b else a:=rfl
 generalize mnI a b=mn at *
 generalize mxI a b=mx at *
 refine conT_ofD (by kernel_rfl) Try.func79 rfl rfl rfl (by simp[laters,Later]) (by simp[lives,Slot.live]) ?_
 obtain⟨xa,hxa⟩:∃ xa,xor64 a 1=xa:=⟨_,rfl⟩
 rw[hxa] at hT hTv
 by_cases h0:a=0
 · have q0:(a==0)=true:=by simpa using h0
   have hR:R=0:=by rw[hV,if_pos (by rw[hT];simp[h0,q0]),hTv];split<;>(try split)<;>omega
   subst hR
   simp[eq_true h0,q0,hxa]
   exact⟨[0,1,2],by simp⟩
 have q0:(a==0)=false:=by simpa using h0
 by_cases h1:b=0
 · have q1:(b==0)=true:=by simpa using h1
   have hR:R=0:=by rw[hV,if_pos (by rw[hT];simp[h0,q0,h1,q1]),hTv];split<;>(try split)<;>omega
   subst hR
   simp[h0,q0,eq_true h1,q1,hxa]
   exact⟨[0,1,2],by simp⟩
 have q1:(b==0)=false:=by simpa using h1
 by_cases h2:xa=b
 · have q2:(xa==b)=true:=by simpa using h2
   have hR:R=0:=by rw[hV,if_pos (by rw[hT];simp[h0,q0,h1,q1,h2,q2]),hTv];split<;>(try split)<;>omega
   subst hR
   simp[h0,q0,h1,q1,eq_true h2,q2,hxa]
   exact⟨[0,1,2],by simp⟩
 have q2:(xa==b)=false:=by simpa using h2
 by_cases h3:a=1
 · have q3:(a==1)=true:=by simpa using h3
   have hR:R=b:=by rw[hV,if_pos (by rw[hT];simp[h0,q0,h1,q1,h2,q2,h3,q3]),hTv];split<;>(try split)<;>omega
   subst hR
   simp[h0,q0,h1,q1,h2,q2,eq_true h3,q3,hxa]
   exact⟨[0,1,2],by simp⟩
 have q3:(a==1)=false:=by simpa using h3
 by_cases h4:a=b
 · have q4:(a==b)=true:=by simpa using h4
   have hR:R=b:=by rw[hV,if_pos (by rw[hT];simp[h0,q0,h1,q1,h2,q2,h3,q3,h4,q4]),hTv];split<;>(try split)<;>omega
   subst hR
   simp[h0,q0,h1,q1,h2,q2,h3,q3,eq_true h4,q4,hxa]
   exact⟨[0,1,2],by simp⟩
 have q4:(a==b)=false:=by simpa using h4
 by_cases h5:b=1
 · have q5:(b==1)=true:=by simpa using h5
   have hR:R=a:=by rw[hV,if_pos (by rw[hT];simp[h0,q0,h1,q1,h2,q2,h3,q3,h4,q4,h5,q5]),hTv];split<;>(try split)<;>omega
   subst hR
   simp[h0,q0,h1,q1,h2,q2,h3,q3,h4,q4,eq_true h5,q5,hxa]
   exact⟨[0,1,2],by simp⟩
 have q5:(b==1)=false:=by simpa using h5
 have hTf:trivB a b=false:=by rw[hT];simp[h0,h1,h2,h3,h4,h5]
 rw[hTf] at hM hV
 rw[if_neg (by simp)] at hV
 simp only[Bool.not_false,Bool.true_and] at hM
 simp[q0,q1,q2,q3,q4,q5,h0,h1,h2,h3,h4,h5,hxa,hx1,hx2]
 refine aw_loopU [true,false,false,false,false,false,false,true,false,false,false,false,false,false,false,false,false,false,false,false,false,false,false,false,false,false,false,false,false,false,false,false,false,false,false,false,false,false,false,false,false,false,false,false,false,false,true,true,true,false,false,false,false,false,false,false,false,false,false,false,false,false,false,false,false,false,false,false,false,false,false,false,false,false,false,false,false,false,false,false,false,false,false,false,false,false] (fun i:Nat=>i≤an.length∧∀ j:Nat,j<i→an[j]?≠some (mn,mx)) (fun i:Nat=>[(48,.d (.int .i64 i))]) (fun i:Nat=>[]) (fun i:Nat=>an.length - i) 0 ?_ ?_ ?_
 · exact⟨Nat.zero_le _,fun j h=>by omega⟩
 · exact⟨[0,1,2,3],by simp⟩
 rintro J S μ hJ hS hμ i ⟨hi,hpre⟩
 by_cases hlt:i<an.length
 · have hy:an[i]? = some an[i]:=List.getElem?_eq_getElem hlt
   have w1:IntKind.i64.wrap ((i:Int)+1)=(i:Int)+1:=wrap_id (by omega) (by omega)
   generalize an[i]=y at *
   have hL:(enAnd y).length=2:=rfl
   by_cases he:(mn,mx)=y
   · have hf:fndL an (mn,mx)=i:=fnd_at (by rw[hy,he]) hpre
     rw[hf,if_pos hlt] at hV
     subst he
     have w2:IntKind.i64.wrap (fa+(i:Int))=fa+i:=wrap_id (by omega) (by omega)
     have w3:IntKind.i64.wrap (2*(fa+(i:Int)))=2*(fa+i):=wrap_id (by omega) (by omega)
     simp[decide_eq_true hlt,hy,hL,enAnd]
     refine call_step (firstAnd_con (I,sq,an,[]) hI (by simp<;>omega)) ?_
     simp[enGr,hfa,w2,w3,hV]
     exact⟨[0,1,2],by simp⟩
   · have he2:(mn==y.1&&mx==y.2)=false:=by
      cases hc:(mn==y.1&&mx==y.2) with
      | false=>rfl
      | true=>simp only[Bool.and_eq_true,beq_iff_eq] at hc;exact absurd (Prod.ext hc.1 hc.2) he
     simp[decide_eq_true hlt,hy,hL,enAnd,he2,w1]
     exact round_of hJ hS hμ (i+1) ⟨by omega,fun j hj=>by
      by_cases hji:j=i
      · subst hji;rw[hy];exact fun e=>he (Option.some.inj e).symm
      · exact hpre j (by omega)⟩ (by omega) ⟨[0,1,2,3],by simp⟩
 obtain rfl:i=an.length:=by omega
 have hf:¬ fndL an (mn,mx)<an.length:=by rw[fnd_none hpre];omega
 rw[if_neg hf] at hV
 have h6:¬ an.length<300:=by
  intro h6;rw[decide_eq_true hf,decide_eq_true h6] at hM;simp at hM
 rw[if_neg h6] at hV
 simp[hlt,decide_eq_false hlt,show (300:Int)≤an.length by omega,hV]
 exact⟨[0,1,2],by simp⟩
set_option maxRecDepth 100000 in
set_option maxHeartbeats 2000000 in
theorem addAnd_new_sa (I fa:Int) (sq:List SeqD) (an:List AndD) (a b:Int) (hI:0≤I∧I≤20) (hfa:1+I+(sq.length:Int)=fa) (hs:sq.length≤12) (hn:an.length≤300) (ha:0≤a∧a≤1048576) (hb:0≤b∧b≤1048576) (h:addM an a b=true) :
 ConT Try.prog 79 [.ptr 0 0,.d (.int .i64 a),.d (.int .i64 b)] [.var 28 [.d (.int .i64 I),.ref 1,.ref 2,.nil 3],.arr 31 true (sq.map enSeq),.arr 60 true ((an).map enAnd)] (.d (.int .i64 (addV fa an a b))) [.var 28 [.d (.int .i64 I),.ref 1,.ref 3,.nil 3],.arr 31 true (sq.map enSeq),.dead,.arr 60 true ((addN an a b).map enAnd)]:=by
 have hV:addV fa an a b=if trivB a b=true then trivV a b else if fndL an (mnI a b,mxI a b)<an.length then 2*(fa+fndL an (mnI a b,mxI a b)) else if an.length<300 then 2*(fa+an.length) else -1:=rfl
 have hM:addM an a b=(!trivB a b&&decide (¬ fndL an (mnI a b,mxI a b)<an.length)&&decide (an.length<300)):=rfl
 generalize addV fa an a b=R at *
 rw[h] at hM
 have hN:addN an a b=an++[(mnI a b,mxI a b)]:=by unfold addN;rw[if_pos h]
 rw[hN]
 have hx1:(if b<a then b else a)=mnI a b:=rfl
 have hx2:(if a<b then b else a)=mxI a b:=rfl
 have hT:trivB a b=(decide (a=0)||decide (b=0)||decide (xor64 a 1=b)||decide (a=1)||decide (a=b)||decide (b=1)):=rfl
 have hTv:trivV a b=if a=0∨b=0∨xor64 a 1=b then 0 else if a=1∨a=b then b else a:=rfl
 generalize mnI a b=mn at *
 generalize mxI a b=mx at *
 refine conT_ofD (by kernel_rfl) Try.func79 rfl rfl rfl (by simp[laters,Later]) (by simp[lives,Slot.live]) ?_
 obtain⟨xa,hxa⟩:∃ xa,xor64 a 1=xa:=⟨_,rfl⟩
 rw[hxa] at hT hTv
 by_cases h0:a=0
 · have q0:(a==0)=true:=by simpa using h0
   exfalso;rw[hT] at hM;simp[h0] at hM
 have q0:(a==0)=false:=by simpa using h0
 by_cases h1:b=0
 · have q1:(b==0)=true:=by simpa using h1
   exfalso;rw[hT] at hM;simp[h0,h1] at hM
 have q1:(b==0)=false:=by simpa using h1
 by_cases h2:xa=b
 · have q2:(xa==b)=true:=by simpa using h2
   exfalso;rw[hT] at hM;simp[h0,h1,h2] at hM
 have q2:(xa==b)=false:=by simpa using h2
 by_cases h3:a=1
 · have q3:(a==1)=true:=by simpa using h3
   exfalso;rw[hT] at hM;simp[h0,h1,h2,h3] at hM
 have q3:(a==1)=false:=by simpa using h3
 by_cases h4:a=b
 · have q4:(a==b)=true:=by simpa using h4
   exfalso;rw[hT] at hM;simp[h0,h1,h2,h3,h4] at hM
 have q4:(a==b)=false:=by simpa using h4
 by_cases h5:b=1
 · have q5:(b==1)=true:=by simpa using h5
   exfalso;rw[hT] at hM;simp[h0,h1,h2,h3,h4,h5] at hM
 have q5:(b==1)=false:=by simpa using h5
 have hTf:trivB a b=false:=by rw[hT];simp[h0,h1,h2,h3,h4,h5]
 rw[hTf] at hM hV
 rw[if_neg (by simp)] at hV
 simp only[Bool.not_false,Bool.true_and] at hM
 simp[q0,q1,q2,q3,q4,q5,h0,h1,h2,h3,h4,h5,hxa,hx1,hx2]
 refine aw_loopU [true,false,false,false,false,false,false,true,false,false,false,false,false,false,false,false,false,false,false,false,false,false,false,false,false,false,false,false,false,false,false,false,false,false,false,false,false,false,false,false,false,false,false,false,false,false,true,true,true,false,false,false,false,false,false,false,false,false,false,false,false,false,false,false,false,false,false,false,false,false,false,false,false,false,false,false,false,false,false,false,false,false,false,false,false,false] (fun i:Nat=>i≤an.length∧∀ j:Nat,j<i→an[j]?≠some (mn,mx)) (fun i:Nat=>[(48,.d (.int .i64 i))]) (fun i:Nat=>[]) (fun i:Nat=>an.length - i) 0 ?_ ?_ ?_
 · exact⟨Nat.zero_le _,fun j h=>by omega⟩
 · exact⟨[0,1,2,3],by simp⟩
 rintro J S μ hJ hS hμ i ⟨hi,hpre⟩
 by_cases hlt:i<an.length
 · have hy:an[i]? = some an[i]:=List.getElem?_eq_getElem hlt
   have w1:IntKind.i64.wrap ((i:Int)+1)=(i:Int)+1:=wrap_id (by omega) (by omega)
   generalize an[i]=y at *
   have hL:(enAnd y).length=2:=rfl
   by_cases he:(mn,mx)=y
   · have hf:fndL an (mn,mx)=i:=fnd_at (by rw[hy,he]) hpre
     exfalso;rw[hf] at hM;simp[hlt] at hM
   · have he2:(mn==y.1&&mx==y.2)=false:=by
      cases hc:(mn==y.1&&mx==y.2) with
      | false=>rfl
      | true=>simp only[Bool.and_eq_true,beq_iff_eq] at hc;exact absurd (Prod.ext hc.1 hc.2) he
     simp[decide_eq_true hlt,hy,hL,enAnd,he2,w1]
     exact round_of hJ hS hμ (i+1) ⟨by omega,fun j hj=>by
      by_cases hji:j=i
      · subst hji;rw[hy];exact fun e=>he (Option.some.inj e).symm
      · exact hpre j (by omega)⟩ (by omega) ⟨[0,1,2,3],by simp⟩
 obtain rfl:i=an.length:=by omega
 have hf:¬ fndL an (mn,mx)<an.length:=by rw[fnd_none hpre];omega
 rw[if_neg hf] at hV
 have h6:an.length<300:=by simpa [hf] using hM
 rw[if_pos h6] at hV
 simp[hlt,decide_eq_false hlt,show ¬ (300:Int)≤an.length by omega]
 refine drawE_of [(7,[0]),(8,[]),(9,[]),(10,[])] (by kernel_rfl) ?_
 simp
 refine app_data vt_el_25 rfl (by simp) rfl (by simp) (by simp) (by first | (simp;done)|(simp;omega)) (by simp[flatP,flatD]) ?_
 simp
 have hnc:=iNodeCnt_con (I,sq,an++[(mn,mx)],[]) hI (by simp;omega) (by simp;omega)
 have hcnt:1+I+(sq.length:Int)+((an++[(mn,mx)]).length:Int)=fa+an.length+1:=by simp;omega
 simp only at hnc
 rw[hcnt] at hnc
 simp only[igr,enGr,e4,eSl,List.map_append,List.map_cons,List.map_nil,List.nil_append,enAnd,e2,eInt] at hnc
 have w4:IntKind.i64.wrap (fa+(an.length:Int)+1 - 1)=fa+an.length:=by rw[wrap_id (by first | omega|(simp;omega)) (by first | omega|(simp;omega))];omega
 have w5:IntKind.i64.wrap (2*(fa+(an.length:Int)))=2*(fa+an.length):=wrap_id (by first | omega|(simp;omega)) (by first | omega|(simp;omega))
 have w6:IntKind.i64.wrap (fa+(an.length:Int))=fa+an.length:=wrap_id (by first | omega|(simp;omega)) (by first | omega|(simp;omega))
 generalize fa+(an.length:Int)=q at *
 refine call_step (hnc) ?_
 simp[w4,w5,w6]
 exact⟨[0,1,2,5],by simp[hV,enAnd,e2,eInt]⟩
end Go.Proofs.Ytnjedabjbeipeaa
