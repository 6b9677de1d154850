/-
  Regions whose order is drawn, with an operation that parts them in two: plain lemmas, about no function of the program.
  Conditions: those typed in each theorem.
-/
import Derived.Test.YtnjedabjbeipeaaV3
namespace Go.Proofs.Ytnjedabjbeipeaa
open Go.RowKit Go.ChangeShapes Go.WideShapes
set_option linter.unusedSimpArgs false
set_option linter.unusedVariables false
set_option maxRecDepth 100000
set_option maxHeartbeats 10000000
section
variable {P:Program} {ops:Array Oper} {q:Nat} {m:Region.Mode}
theorem TF {i:Nat} (hi:i<q):(Gm q ops)[i]? = ops[i]?:=by
 unfold Gm;rw[Array.getElem?_extract];simp only[Nat.zero_add,Nat.sub_zero];by_cases h:i<min q ops.size
 · rw[if_pos h]
 · rw[if_neg h,Array.getElem?_eq_none (by omega)]
theorem MB (hq:q≤ops.size):(Gm q ops).size=q:=by unfold Gm;simp;omega
theorem MK (hq:q≤ops.size):(FQ q ops).size=ops.size - q:=by unfold FQ;simp
theorem S5 {i:Nat}:(FQ q ops)[i]? = (ops[q+i]?).map (Tx q):=by
 unfold FQ;rw[List.getElem?_toArray,ACF,ACj,Array.getElem?_toList]
theorem Ut (hq:q≤ops.size):∀ (fuel t:Nat) (L LT:Array Bool) (acc accT:List Nat),L.size=ops.size→LT.size=ops.size - q→(∀ j,j<q→L.getD j false=true)→(∀ j,L.getD (q+j) false=LT.getD j false) →
 ∃ X,Region.linearise.go m ops fuel t L acc=acc.reverse++X.map (q+·)∧Region.linearise.go m (FQ q ops) fuel t LT accT=accT.reverse++X
 | 0,t,L,LT,acc,accT,_,_,_,_=>⟨[],by simp[Region.linearise.go],by simp[Region.linearise.go]⟩
 | fuel+1,t,L,LT,acc,accT,h1,h2,h3,h4=>by
   have hf:(List.range ops.size).filter (DD m ops L)=((List.range (FQ q ops).size).filter (DD m (FQ q ops) LT)).map (q+·):=by
    obtain⟨n,hn⟩:∃ n,ops.size=q+n:=⟨ops.size - q,by omega⟩;rw[MK hq,hn,Nat.add_sub_cancel_left,List.range_add,List.filter_append,List.filter_map]
    have e1:(List.range q).filter (DD m ops L)=[]:=by
     rw[List.filter_eq_nil_iff];intro j hj;have hj':=ACJ.1 hj;have:=h3 j hj';unfold DD
     have e:L.getD j true=true:=by
      rw[Array.getD_eq_getD_getElem?] at this ⊢;rw[Array.getElem?_eq_getElem (by omega)] at this ⊢;exact this
     rw[e];simp
    rw[e1,List.nil_append]
    congr 1
    apply List.filter_congr;intro j hj;have hj':=ACJ.1 hj;show DD m ops L (q+j)=DD m (FQ q ops) LT j;unfold DD
    have e2:L.getD (q+j) true=LT.getD j true:=by
     have:=h4 j;rw[Array.getD_eq_getD_getElem?,Array.getD_eq_getD_getElem?] at this ⊢;rw[Array.getElem?_eq_getElem (show q+j<L.size by omega),Array.getElem?_eq_getElem (show j<LT.size by omega)] at this ⊢;exact this
    rw[e2,S5]
    congr 1
    cases ops[q+j]? with
    | none=>rfl
    | some o =>
      simp only[Option.map_some,Option.getD_some];rw[Bool.eq_iff_iff,Array.all_eq_true_iff_forall_mem,Array.all_eq_true_iff_forall_mem];constructor
      · intro h e he;obtain⟨e0,he0,rfl⟩:=Array.mem_map.1 he;obtain⟨he1,he2⟩:=Array.mem_filter.1 he0;have h5:=h e0 he1;have h6:q≤e0.on:=by simpa using he2
        have h7:=h4 (e0.on - q);rw[show q+(e0.on - q)=e0.on by omega] at h7;have h8:Region.binds m (Nb q e0)=Region.binds m e0:=rfl;rw[h8,show (Nb q e0).on=e0.on - q from rfl,←h7];exact h5
      · intro h e he;by_cases h6:q≤e.on
        · have h5:=h (Nb q e) (Array.mem_map.2 ⟨e,Array.mem_filter.2 ⟨he,by simpa using h6⟩,rfl⟩);have h7:=h4 (e.on - q);rw[show q+(e.on - q)=e.on by omega] at h7;have h8:Region.binds m (Nb q e)=Region.binds m e:=rfl;rw[h8,show (Nb q e).on=e.on - q from rfl,←h7] at h5;exact h5
        · rw[h3 e.on (by omega)];simp
   rw[IL,IL,hf,ACH,ACF];generalize hrs:(List.range (FQ q ops).size).filter (DD m (FQ q ops) LT)=rs
   cases hp:rs[t % rs.length]? with
   | none=>exact⟨[],by simp,by simp⟩
   | some i =>
     simp only[Option.map_some]
     have hi:i<(FQ q ops).size:=by
      have:=zz6 hp;rw[←hrs,ACQ,ACJ] at this;exact this.1
     rw[MK hq] at hi
     obtain⟨X,x1,x2⟩:=Ut hq fuel (t / rs.length) (L.setIfInBounds (q+i) true) (LT.setIfInBounds i true) ((q+i)::acc) (i::accT) (by simpa using h1) (by simpa using h2)
      (fun j hj=>by
        have:=congrFun (Ev h1 (show q+i<ops.size by omega)) j
        rw[this];simp[B9,h3 j hj])
      (fun j=>by
        have e1:=congrFun (Ev h1 (show q+i<ops.size by omega)) (q+j);have e2:=congrFun (Ev h2 hi) j;rw[e1,e2];simp only[B9,h4 j]
        congr 1
        rw[Bool.eq_iff_iff];simp)
     exact⟨i::X,by rw[x1];simp,by rw[x2];simp⟩
structure dV (l:List Oper) (q:Nat):Prop extends DrawnB l where
 le:q≤l.length
 back:∀ {i:Nat} {o:Oper},i<q→l[i]? = some o→∀ e∈o.after.toList,e.on<q
 bar:∀ {i j:Nat},i<q→q≤j→j<l.length→((Br l).getD j 0).testBit i=true
 own:∀ {j g:Nat} {b:Bool} {o:Oper},q≤j→l[j]? = some o→o.guard=some (g,b)→q≤g
theorem lJ (h:V3 ops q=true):dV ops.toList q:=by
 unfold V3 at h;simp only[Bool.and_eq_true] at h;obtain⟨⟨⟨⟨⟨⟨h1,h2⟩,h3⟩,h4⟩,h5⟩,h6⟩,h7⟩:=h;have h4':q≤ops.size:=by simpa using h4
 refine⟨⟨fun {j o} ho e he hp=>?_,fun {j o} ho e he hp=>?_,fun {i j oi oj} hij hi hj hcl=>?_,fun {j g b o} ho hg=>?_⟩,by simpa using h4',fun {i o} hi ho e he=>?_,fun {i j} hi hj hjl=>?_,fun {j g b o} hj ho hg=>?_⟩
 · have:=Cw h1 ho;simp only[zz8] at this;have:=this e he;rw[if_pos hp] at this;simpa using this
 · have:=Cw h1 ho;simp only[zz8] at this;have:=this e he;rw[if_neg (by simp[hp])] at this;exact this
 · have:=Cw h2 hj;have h5:(!Go.Proofs.Ytnjedabjbeipeaa.clash oi oj||(CE oj).contains i)=true:=Cw this (i:=i) (o:=oi) (by rw[ACi,if_pos hij];exact hi);rw[hcl] at h5;simpa using h5
 · have:=Cw h3 ho;simp only[hg,Bool.and_eq_true,decide_eq_true_eq] at this;obtain⟨⟨k1,k2⟩,k3⟩:=this;refine⟨k1,by simpa using k2,fun {og} hog {i o2} hi hd hn=>?_⟩;have:=Cw k3 hi;simp only[hog,Bool.or_eq_true,decide_eq_true_eq,Bool.not_eq_true',beq_eq_false_iff_ne,ne_eq] at this;rcases this with (h|h)|h
   · exact h
   · rw[Option.isNone_iff_eq_none] at h;exact absurd h hn
   · exact absurd hd h
 · have:=zz8.1 h5 o (zz6 (i:=i) (by rw[ACi,if_pos hi];exact ho));have:=zz8.1 this e he;simpa using this
 · have hl:j<(Br ops.toList).length:=by rw[Lm _ _ rfl];exact hjl
   have:=Cw h6 (i:=j) (o:=(Br ops.toList)[j]) (zz0 hl);simp only[Bool.or_eq_true,decide_eq_true_eq,zz8,ACJ] at this;rcases this with h|h
   · omega
   · rw[List.getD_eq_getElem?_getD,zz0 hl];exact h i hi
 · have:=zz8.1 h7 o (zz6 (i:=j - q) (by rw[ACj,show q+(j - q)=j by omega];exact ho));rw[hg] at this;simpa using this
theorem gR (hb:dV ops.toList q):∀ (fuelH t:Nat) (L LH:Array Bool) (acc accH:List Nat),L.size=ops.size→LH.size=q→(∀ j,j<q→L.getD j false=LH.getD j false)→(∀ j,q≤j→L.getD j false=false) →
 (∀ {j:Nat} {o:Oper},L.getD j false=true→ops.toList[j]? = some o→∀ d∈CE o,L.getD d false=true)→Fa (fun j=>LH.getD j false) q=fuelH →
 ∃ X t2 L2,Region.linearise.go m (Gm q ops) fuelH t LH accH=accH.reverse++X∧(∀ i∈X,i<q)∧L2.size=ops.size∧(∀ j,L2.getD j false=decide (j<q)) ∧
   Region.linearise.go m ops (fuelH+(ops.size - q)) t L acc=Region.linearise.go m ops (ops.size - q) t2 L2 (X.reverse++acc):=by
 have hq:q≤ops.size:=by simpa using hb.le
 intro fuelH
 induction fuelH with
 | zero =>
   intro t L LH acc accH h1 h2 h3 h4 h5 h6;refine⟨[],t,L,by simp[Region.linearise.go],by simp,h1,fun j=>?_,by simp⟩;by_cases hj:j<q
   · rw[h3 j hj,Hc h6 j hj];simp[hj]
   · rw[h4 j (by omega)];simp[hj]
 | succ fuelH ih =>
   intro t L LH acc accH h1 h2 h3 h4 h5 h6;obtain⟨i0,hi0,hL0,-⟩:=Vp (L:=fun j=>LH.getD j false) (n:=q) (by omega)
   have hcn:0<Fa (fun j=>L.getD j false) ops.size:=by
    rcases Nat.eq_zero_or_pos (Fa (fun j=>L.getD j false) ops.size) with h|h
    · have:=Hc h i0 (by omega);rw[h3 i0 hi0] at this;rw[this] at hL0;cases hL0
    · exact h
   have hf:(List.range ops.size).filter (DD m ops L)=(List.range (Gm q ops).size).filter (DD m (Gm q ops) LH):=by
    obtain⟨n,hn⟩:∃ n,ops.size=q+n:=⟨ops.size - q,by omega⟩;rw[MB hq,hn,List.range_add,List.filter_append]
    have e1:(List.map (q+·) (List.range n)).filter (DD m ops L)=[]:=by
     rw[List.filter_eq_nil_iff];intro j hj hr;obtain⟨j',hj',rfl⟩:=ACP.1 hj;have hj'':=ACJ.1 hj';have hlt:q+j'<ops.toList.length:=by simp;omega
     have hol:ops.toList[q+j']? = some ops.toList[q+j']:=zz0 hlt;have hd:=(So rfl h1 (by omega) hr).2 _ hol;have hbit:=hb.bar hi0 (show q≤q+j' by omega) hlt;have:=Ow (l:=ops.toList) hb.deps (c:=fun j=>L.getD j false) (fun {j o} h ho d hdm=>h5 h ho d hdm) (q+j') hol hd hbit;rw[h3 i0 hi0] at this;rw[this] at hL0;cases hL0
    rw[e1,List.append_nil];apply List.filter_congr;intro j hj;have hj':=ACJ.1 hj;unfold DD
    have e2:L.getD j true=LH.getD j true:=by
     have:=h3 j hj';rw[Array.getD_eq_getD_getElem?,Array.getD_eq_getD_getElem?] at this ⊢;rw[Array.getElem?_eq_getElem (show j<L.size by omega),Array.getElem?_eq_getElem (show j<LH.size by omega)] at this ⊢;exact this
    rw[e2,TF hj']
    congr 1
    cases ho:ops[j]? with
    | none=>rfl
    | some o =>
      simp only[Option.map_some,Option.getD_some];rw[Bool.eq_iff_iff,Array.all_eq_true_iff_forall_mem,Array.all_eq_true_iff_forall_mem];constructor
      · intro h e he;have hon:=hb.back hj' (by rw[Array.getElem?_toList];exact ho) e (by simpa using he);rw[←h3 e.on hon];exact h e he
      · intro h e he;have hon:=hb.back hj' (by rw[Array.getElem?_toList];exact ho) e (by simpa using he);rw[h3 e.on hon];exact h e he
   obtain⟨i,hpick,hi,hLi,hdep⟩:=I4 (m:=m) rfl hb.toDrawnB h1 hcn t
   have hiq:i<q:=by
    have:=zz6 hpick;rw[hf,MB hq,ACQ,ACJ] at this;exact this.1
   have hset:=Ev h1 hi;have hsetH:=Ev h2 hiq;have hat:∀ j,(L.setIfInBounds i true).getD j false=B9 (fun j=>L.getD j false) i j:=fun j=>congrFun hset j;have hatH:∀ j,(LH.setIfInBounds i true).getD j false=B9 (fun j=>LH.getD j false) i j:=fun j=>congrFun hsetH j
   obtain⟨X,t2,L2,x1,x2,x3,x4,x5⟩:=ih (t / ((List.range ops.size).filter (DD m ops L)).length) (L.setIfInBounds i true) (LH.setIfInBounds i true) (i::acc) (i::accH) (by simpa using h1) (by simpa using h2)
    (fun j hj=>by rw[hat,hatH];simp only[B9];rw[h3 j hj])
    (fun j hj=>by rw[hat];simp only[B9];rw[h4 j hj];simp;omega)
    (fun {j o} hj ho d hdm=>by
      rw[hat] at hj ⊢;simp only[B9,Bool.or_eq_true,beq_iff_eq] at hj ⊢;right;rcases hj with rfl|hj
      · exact hdep o ho d hdm
      · exact h5 hj ho d hdm)
    (by
      rw[hsetH];have:=Kv (L:=fun j=>LH.getD j false) (by rw[←h3 i hiq];exact hLi) hiq
      omega)
   refine⟨i::X,t2,L2,?_,fun k hk=>?_,x3,x4,?_⟩
   · rw[IL,←hf,hpick];simp only;rw[x1];simp
   · rcases List.mem_cons.1 hk with rfl|hk
     · exact hiq
     · exact x2 k hk
   · rw[show fuelH+1+(ops.size - q)=fuelH+(ops.size - q)+1 by omega,IL,hpick];simp only;rw[x5];simp
theorem mI (hb:dV ops.toList q) (t:Nat):∃ X t2,Region.linearise m ops t=X++(Region.linearise m (FQ q ops) t2).map (q+·)∧Region.linearise m (Gm q ops) t=X∧∀ i∈X,i<q:=by
 have hq:q≤ops.size:=by simpa using hb.le
 have hgd:∀ n j,(Array.replicate n false).getD j false=false:=fun n j=>by
  simp only[Array.getD_eq_getD_getElem?,Array.getElem?_replicate];split<;>rfl
 have hfun:∀ n,(fun j=>(Array.replicate n false).getD j false)=fun _=>false:=fun n=>funext (hgd n)
 obtain⟨X,t2,L2,x1,x2,x3,x4,x5⟩:=gR (m:=m) hb q t (Array.replicate ops.size false) (Array.replicate q false) [] [] (by simp) (by simp) (fun j _=>by rw[hgd,hgd]) (fun j _=>hgd _ j) (fun {j o} hj _ _ _=>by rw[hgd] at hj;cases hj) (by
  rw[hfun];have:∀ n,Fa (fun _=>false) n=n:=fun n=>by induction n with|zero=>rfl|succ n ih=>unfold Fa;rw[ih];simp
  exact this _)
 obtain⟨Y,y1,y2⟩:=Ut (m:=m) hq (ops.size - q) t2 L2 (Array.replicate (ops.size - q) false) (X.reverse++[]) [] x3 (by simp) (fun j hj=>by rw[x4];simp[hj]) (fun j=>by rw[x4,hgd];simp);refine⟨X,t2,?_,?_,x2⟩
 · unfold Region.linearise;rw[MK hq,y2];have e:ops.size=q+(ops.size - q):=by omega
   rw[show Region.linearise.go m ops ops.size t (Array.replicate ops.size false) []=Region.linearise.go m ops (q+(ops.size - q)) t (Array.replicate ops.size false) [] by rw[←e],x5,y1];simp
 · unfold Region.linearise;rw[MB hq,x1];simp
theorem Wn {o:Oper} {a:Act} {w:World} {K K':Act→World→Prop} {Q Q':Exit→Act→World→Prop} (h:∀ a w,K a w→K' a w) (hq:∀ e a w,e≠.normal→Q e a w→Q' e a w) (hh:o.wp P a w K Q):o.wp P a w K' Q':=by
 unfold Oper.wp at *;generalize (execOp a.eval o).run P w=r at *;have hl:LetsOut Q→LetsOut Q':=fun ⟨a,w,h⟩=>⟨a,w,hq _ a w (by simp) h⟩
 cases r with
 | ok n w' =>
   cases n<;>simp only[Oper.upon] at hh ⊢ <;>
    first
     | exact h _ _ hh
     | exact Calls.mono hh (fun e w'' he=>by cases e<;>first | exact h _ _ he|exact hq _ _ _ (by simp) he|exact hl he)
     | exact Rows.mono hh (fun _ _ he=>h _ _ he)
 | halt x w'=>cases x<;>simp only[Oper.upon] at hh ⊢<;>first | exact hh|exact hq _ _ _ (by simp) hh
def iB (P:Program) (ops:Array Oper) (Q:Exit→Act→World→Prop) (B:List Nat) (e:Exit) (a:Act) (w:World):Prop :=
 match e with
 | .normal=>wpOps P ops Q B a w
 | e=>Q e a w
theorem HP {Q:Exit→Act→World→Prop} {B:List Nat}:∀ {A:List Nat} {a:Act} {w:World},wpOps P ops (iB P ops Q B) A a w→wpOps P ops Q (A++B) a w
 | [],a,w,h=>h
 | i::A,a,w,h=>by
   have hl:LetsOut (iB P ops Q B)→LetsOut Q:=fun ⟨a,w,h⟩=>⟨a,w,h⟩;rw[List.cons_append];unfold wpOps at h ⊢
   cases ho:ops[i]? with
   | none=>rw[ho] at h;exact HP h
   | some o =>
     rw[ho] at h;simp only at h ⊢;split
     · rename_i hw;rw[if_pos hw] at h;rcases h with h|⟨h1,h2⟩
       · exact .inl (Wn (fun a w h=>HP h) (fun e a w he h=>by cases e<;>first | exact absurd rfl he|exact h) h)
       · exact .inr ⟨h1,hl h2⟩
     · rename_i hw;rw[if_neg hw] at h;exact HP h
theorem IY (hb:dV ops.toList q) {Q:Exit→Act→World→Prop}:∀ {A:List Nat} {a:Act} {w:World},(∀ i∈A,i<q)→wpOps P (Gm q ops) Q A a w→wpOps P ops Q A a w
 | [],a,w,_,h=>h
 | i::A,a,w,hA,h=>by
   have hi:=hA i (by simp);have hA2:∀ i∈A,i<q:=fun j hj=>hA j (by simp[hj]);unfold wpOps at h ⊢;rw[TF hi] at h
   cases ho:ops[i]? with
   | none=>rw[ho] at h;exact IY hb hA2 h
   | some o =>
     rw[ho] at h;simp only at h ⊢
     have hw:Region.wanted o (yielded (Gm q ops) a.tmps)=Region.wanted o (yielded ops a.tmps):=by
      unfold Region.wanted
      cases hg:o.guard with
      | none=>rfl
      | some p =>
        obtain⟨g,b⟩:=p;have hgl:=(hb.guard (by rw[Array.getElem?_toList];exact ho) hg).1;simp only;unfold yielded;rw[TF (by omega)]
     rw[hw] at h;split
     · rename_i hw;rw[if_pos hw] at h;rcases h with h|⟨h1,h2⟩
       · exact .inl (Oper.wp_mono (fun a w h=>IY hb hA2 h) h)
       · exact .inr ⟨h1,h2⟩
     · rename_i hw;rw[if_neg hw] at h;exact IY hb hA2 h
theorem HR (hb:dV ops.toList q) {Q:Exit→Act→World→Prop}:∀ {X:List Nat} {a:Act} {w:World},wpOps P (FQ q ops) Q X a w→wpOps P ops Q (X.map (q+·)) a w
 | [],a,w,h=>h
 | i::X,a,w,h=>by
   rw[List.map_cons];unfold wpOps at h ⊢;rw[S5] at h
   cases ho:ops[q+i]? with
   | none=>rw[ho] at h;exact HR hb h
   | some o =>
     rw[ho] at h;simp only[Option.map_some] at h ⊢
     have hw:Region.wanted (Tx q o) (yielded (FQ q ops) a.tmps)=Region.wanted o (yielded ops a.tmps):=by
      unfold Region.wanted Tx
      cases hg:o.guard with
      | none=>rfl
      | some p =>
        obtain⟨g,b⟩:=p;have hgl:=hb.own (j:=q+i) (by omega) (by rw[Array.getElem?_toList];exact ho) hg;simp only[Option.map_some];unfold yielded;rw[S5,show q+(g - q)=g by omega]
        cases ops[g]?<;>rfl
     rw[hw] at h;split
     · rename_i hw;rw[if_pos hw] at h;rcases h with h|⟨h1,h2⟩
       · exact .inl (Oper.wp_mono (fun a w h=>HR hb h) h)
       · exact .inr ⟨h1,h2⟩
     · rename_i hw;rw[if_neg hw] at h;exact HR hb h
theorem RW (hok:V3 ops q=true) {Q:Exit→Act→World→Prop} {mr:Region.Mode} {a:Act} {w:World} (h:∀ t,wpOps P (Gm q ops) (fun e a w=>match e with | .normal=>∀ t2,wpOps P (FQ q ops) Q (Region.linearise mr (FQ q ops) t2) a w|e=>Q e a w) (Region.linearise mr (Gm q ops) t) a w) (t:Nat) :
 wpOps P ops Q (Region.linearise mr ops t) a w:=by
 have hb:=lJ hok;obtain⟨X,t2,e1,e2,e3⟩:=mI (m:=mr) hb t;rw[e1];refine HP (IY hb e3 ?_);have h1:=h t;rw[e2] at h1
 have key:∀ {A:List Nat} {a:Act} {w:World} {Q1 Q2:Exit→Act→World→Prop},(∀ e a w,Q1 e a w→Q2 e a w)→wpOps P (Gm q ops) Q1 A a w→wpOps P (Gm q ops) Q2 A a w:=by
  intro A
  induction A with
  | nil=>intro a w Q1 Q2 hq h;exact hq _ _ _ h
  | cons i A ih =>
    intro a w Q1 Q2 hq h;have hl:LetsOut Q1→LetsOut Q2:=fun ⟨a,w,h⟩=>⟨a,w,hq _ _ _ h⟩;unfold wpOps at h ⊢
    cases ho:(Gm q ops)[i]? with
    | none=>rw[ho] at h;exact ih hq h
    | some o =>
      rw[ho] at h;simp only at h ⊢;split
      · rename_i hw;rw[if_pos hw] at h;rcases h with h|⟨h1,h2⟩
        · exact .inl (Wn (fun a w h=>ih hq h) (fun e a w _ h=>hq _ _ _ h) h)
        · exact .inr ⟨h1,hl h2⟩
      · rename_i hw;rw[if_neg hw] at h;exact ih hq h
 exact key (fun e a w h=>by cases e<;>first | exact HR hb (h t2)|exact h) h1
end
end Go.Proofs.Ytnjedabjbeipeaa
