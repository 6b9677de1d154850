/-
  Fewer slots, under other numbers: a state that says less belongs to the memory too. Plain lemmas, about no function of the program.
  Conditions: those typed in each theorem.
-/
import Derived.Test.YtnjedabjbeipeaaBar
import Derived.Deep.LoopGhost
import Derived.Laws.CopyRow
namespace Go.Proofs.Ytnjedabjbeipeaa
open Go.RowKit Go.ChangeShapes Go.WideShapes
set_option linter.unusedSimpArgs false
set_option linter.unusedVariables false
set_option maxRecDepth 100000
set_option maxHeartbeats 10000000
section
variable {P:Program} {w0:DP} {w w':World} {φ φ':B6} {σ σ':St} {a:Act} {sl sl':List Ag} {Fs Fs':List (List Nat)}
theorem Nn {m:Region.Mode} {ops:Array Oper}:∀ (f t:Nat) (listed:Array Bool) (acc:List Nat),∃ l∈M1 m ops f listed,Region.linearise.go m ops f t listed acc=acc.reverse++l
 | 0,t,listed,acc=>⟨[],by simp[M1],by simp[Region.linearise.go]⟩
 | f+1,t,listed,acc=>by
   have hgo:Region.linearise.go m ops (f+1) t listed acc=(match ((List.range ops.size).filter (MI m ops listed))[t % ((List.range ops.size).filter (MI m ops listed)).length]? with
    | some i=>Region.linearise.go m ops f (t / ((List.range ops.size).filter (MI m ops listed)).length) (listed.setIfInBounds i true) (i::acc)
    | none=>acc.reverse):=rfl
   rw[hgo];unfold M1;generalize hrs:(List.range ops.size).filter (MI m ops listed)=rs;by_cases h0:rs=[]
   · subst h0;exact⟨[],by simp,by simp⟩
   · have hl:0<rs.length:=List.length_pos_iff.2 h0;have ht:t % rs.length<rs.length:=Nat.mod_lt _ hl;obtain⟨l,h1,h2⟩:=Nn (m:=m) (ops:=ops) f (t / rs.length) (listed.setIfInBounds rs[t % rs.length] true) (rs[t % rs.length]::acc);refine⟨rs[t % rs.length]::l,?_,?_⟩
     · rw[if_neg (by simpa using h0)];exact List.mem_flatMap.2 ⟨_,AB7 ht,ACP.2 ⟨l,h1,rfl⟩⟩
     · rw[zz0 ht];simp only[h2];simp
theorem XA (m:Region.Mode) (ops:Array Oper) (t:Nat) (h:WA ops=true):Region.linearise m ops t∈bumpOrders:=by
 obtain⟨l,h1,h2⟩:=Nn (m:=m) (ops:=ops) ops.size t (Array.replicate ops.size false) [];have e:Region.linearise m ops t=l:=by unfold Region.linearise;rw[h2];rfl
 rw[e];unfold WA at h;rw[zz8] at h;have:=zz8.1 (h m (by cases m<;>simp)) l h1;simpa using this
def KK (es:List (Ky×Vl)) (k:Ky) (z:Vl):List (Ky×Vl):=if (E6 es k).isSome=true then es else es++[(k,z)]
theorem RM {es:List (Ky×Vl)} {k:Ky} {z:Vl}:E6 (KK es k z) k=some ((E6 es k).getD z):=by
 unfold KK
 cases h:E6 es k with
 | some v=>simp[h]
 | none =>
   have hn:(es.find? fun p=>decide (p.1=k))=none:=by
    unfold E6 at h;simpa using h
   simp only[Option.isSome_none,Bool.false_eq_true,if_false,Option.getD_none];unfold E6;rw[List.find?_append,hn];simp
theorem bO {es:List (Ky×Vl)} {k:Ky} {z v:Vl}:GJ (KK es k z) k v=GJ es k v:=by
 unfold GJ;rw[RM];simp only[Option.isSome_some,if_true];unfold KK
 cases h:E6 es k with
 | some v=>simp
 | none =>
   simp only[Option.isSome_none,Bool.false_eq_true,if_false,ACX,List.map_cons,List.map_nil,if_true]
   congr 1
   exact (List.map_congr_left (g:=id) fun p hp=>by rw[if_neg (Us h p hp)];rfl).trans (List.map_id _)
theorem UI {t:TypeId} {s:Nat} {es:List (Ky×Vl)} {x y:V} {vx vy:Value} {k:Ky} {z:Vl} (hm:BM P w0 φ sl w Fs) (h:IK sl x=some (s,t,es)) (hx:VR w (good w0.R φ sl w) φ sl x vx) (hk:Oi y=some k) (hy:VR w (good w0.R φ sl w) φ sl y vy) (hz:JI P t=some z) (hK:Fi P t k) :
 ∃ (w':World) (j:Nat),(Instr.mapEntry t vx vy).run P w=.ok (.tuple #[DC ((E6 es k).getD z),goInt j]) w'∧Turn P w0 φ sl w φ (sl.set s (.blk (.mp t (KK es k z)))) w'∧(KK es k z)[j]? = some (k,(E6 es k).getD z):=by
 obtain⟨g,c,rfl,hp,hs,hF,hb,hn,hks⟩:=OA hm h hx;obtain rfl:=TN hk hy;obtain⟨kt,e,ht,hzr⟩:=Qb hz;obtain⟨-,c2,c3,hf⟩:=Ps (w:=w) ht hn hks hK;rcases hf with ⟨f1,f2⟩|⟨j,v0,f1,f2,f3⟩
 · have e1:KK es k z=es++[(k,z)]:=by unfold KK;rw[f2];rfl
   have e2:GJ es k z=es++[(k,z)]:=Wb f2;obtain⟨n1,n2⟩:=M7 (k:=k) (v:=z) hn;rw[e2] at n1 n2;refine⟨{ w with heap:=w.heap.setIfInBounds g (.map ((Cg es).push ⟨DO k,DC z,es.length⟩) (es.length+1)) },es.length,by simp[Instr.mapEntry,run_underlying ht,MapKept.run_getObj_map hb,c2,f1,f2,hzr,MapKept.run_setObj_map _ hb,Result.andThen],L7 hm hs hp hF Ix ?_ (by rw[e1];exact n1) (fun p hp=>?_),by rw[e1,f2];simp⟩
   · rw[PL hb,e1,NX,ACg];rfl
   · rw[e1] at hp;rcases n2 p hp with h|⟨q,hq,h⟩
     · rw[h];exact hK
     · rw[←h];exact hks q hq
 · have e1:KK es k z=es:=by unfold KK;rw[f3];rfl
   have hsame:(Cg es).modify j (fun e=>{ key:=DO k,val:=e.val,born:=e.born })=Cg es:=by
    apply Array.ext';have h2:(Cg es).toList[j]? = some ⟨DO k,DC v0,j⟩:=by rw[DI,f2];rfl
    rw[Array.toList_modify,Go.ChangeMaps.modify_eq_set _ _ _ _ h2];exact Go.WideElems.set_self _ _ _ h2
   refine⟨{ w with heap:=w.heap.setIfInBounds g (.map (Cg es) es.length) },j,by simp[Instr.mapEntry,run_underlying ht,MapKept.run_getObj_map hb,c2,f1,f3,RU f2,c3,hsame,MapKept.run_setObj_map _ hb,Result.andThen],L7 hm hs hp hF Ix ?_ (by rw[e1];exact hn) (by rw[e1];exact hks),by rw[e1,f3];exact f2⟩;rw[PL hb,e1]
theorem Vd {t:TypeId} {s j:Nat} {es:List (Ky×Vl)} {x:V} {vx vz:Value} {k:Ky} {v v0:Vl} (hm:BM P w0 φ sl w Fs) (h:IK sl x=some (s,t,es)) (hx:VR w (good w0.R φ sl w) φ sl x vx) (hj:es[j]? = some (k,v0)) (hv:vz=DC v) :
 ∃ w',(Instr.entryStore t vx (goInt j) vz).run P w=.ok () w'∧Turn P w0 φ sl w φ (sl.set s (.blk (.mp t (GJ es k v)))) w':=by
 obtain⟨g,c,rfl,hp,hs,hF,hb,hn,hks⟩:=OA hm h hx;subst hv;have f3:E6 es k=some v0:=Yb hn hj;have e:GJ es k v=es.map (fun p=>if p.1=k then (p.1,v) else p):=by unfold GJ;rw[f3];rfl
 obtain⟨n1,n2⟩:=M7 (k:=k) (v:=v) hn;have hK:Fi P t k:=hks _ (zz6 hj)
 have hks':∀ p∈GJ es k v,Fi P t p.1:=fun p hp=>by
  rcases n2 p hp with h|⟨q,hq,h⟩
  · rw[h];exact hK
  · rw[←h];exact hks q hq
 have h2:(Cg es).toList[j]? = some ⟨DO k,DC v0,j⟩:=by rw[DI,hj];rfl
 have hborn:((Cg es).toList.map (·.born)).Nodup:=by
  have:(Cg es).toList.map (·.born)=List.range es.length:=by
   apply List.ext_getElem?;intro i;rw[ACF,DI];by_cases hi:i<es.length
   · rw[zz0 hi,ACa hi];rfl
   · rw[AB8 (by omega),AB8 (by simp;omega)];rfl
  rw[this];exact List.nodup_range
 have hidx:(Cg es).findIdx? (fun e=>((e.born:Nat):Int)==((j:Nat):Int))=some j:=by
  rw[Go.WideElems.findIdx_arr];exact Go.WideElems.findIdx_born hborn h2
 refine⟨{ w with heap:=w.heap.setIfInBounds g (.map ((Cg es).modify j fun e=>{ e with val:=DC v }) es.length) },by simp[Instr.entryStore,MapKept.run_getObj_map hb,asInt,asIntOf,goInt,hidx,MapKept.run_setObj_map _ hb,Result.andThen],L7 hm hs hp hF Ix ?_ n1 hks'⟩;rw[PL hb,e,ACH]
 congr 2
 have h3:=Ph (v:=v) hn hj (fun e=>{ key:=DO k,val:=DC v,born:=e.born }) (fun e=>rfl);rw[h3];apply Array.ext';rw[Array.toList_modify,Array.toList_modify,Go.ChangeMaps.modify_eq_set _ _ _ _ h2,Go.ChangeMaps.modify_eq_set _ _ _ _ h2]
end
section
variable {P:Program} {w0:DP} {w w':World} {φ φ':B6} {σ σ':St} {a:Act} {sl sl':List Ag} {Fs Fs':List (List Nat)}
variable {T:List V} {d0 d1 d2 d3 s:Nat} {t:TypeId} {es:List (Ky×Vl)} {ky:Ky} {v u:Int} {x y:Operand} {L A M E:Bool} {j:Nat}
structure BC (P:Program) (T:List V) (sl:List Ag) (d0 d1 d2 d3:Nat) (t:TypeId) (x y:Operand) (s:Nat) (es:List (Ky×Vl)) (ky:Ky) (v:Int):Prop where
 nd:[d0,d1,d2,d3].Nodup
 ds:∀ d∈[d0,d1,d2,d3],d<T.length∧x≠.tmp d∧y≠.tmp d
 hx:IK sl (St.eval ⟨T,sl⟩ x)=some (s,t,es)
 hy:Oi (St.eval ⟨T,sl⟩ y)=some ky
 hz:JI P t=some (0,none)
 hK:Fi P t ky
 hv:(E6 es ky).getD (0,none)=(v,none)
def cI (sl:List Ag) (s:Nat) (t:TypeId) (es:List (Ky×Vl)) (ky:Ky) (M:Bool):List Ag:=if M=true then sl.set s (.blk (.mp t (KK es ky (0,none)))) else sl
structure BI (P:Program) (w0:DP) (φ:B6) (T:List V) (sl:List Ag) (d0 d1 d2 d3:Nat) (t:TypeId) (s:Nat) (es:List (Ky×Vl)) (ky:Ky) (v u:Int) (L A M E:Bool) (a:Act) (w:World):Prop where
 rel:Dk P w0 φ ⟨forget T d0 d1 d2 d3,cI sl s t es ky M⟩ a w
 l:L=true→a.tmps[d0]? = some (.int .i64 v)
 ad:A=true→a.tmps[d1]? = some (.int .i64 u)
 m:M=true→∃ (z:Value) (j:Nat),a.tmps[d2]? = some (.tuple #[z,goInt j])∧(KK es ky (0,none))[j]? = some (ky,(v,none))
 e:E=true→∃ (j:Nat),a.tmps[d3]? = some (goInt j)∧(KK es ky (0,none))[j]? = some (ky,(v,none))
theorem Si {i:Nat} (h:i≠d0∧i≠d1∧i≠d2∧i≠d3):(forget T d0 d1 d2 d3)[i]? = T[i]?:=by
 unfold forget;rw[ACT (fun e=>h.2.2.2 e.symm),ACT (fun e=>h.2.2.1 e.symm),ACT (fun e=>h.2.1 e.symm),ACT (fun e=>h.1 e.symm)]
theorem Jf:(forget T d0 d1 d2 d3).length=T.length:=by simp[forget]
theorem RC {i:Nat} (hi:i<T.length) (h:i=d0∨i=d1∨i=d2∨i=d3):(forget T d0 d1 d2 d3)[i]? = some .any:=by
 unfold forget;simp only[List.getElem?_set,ACh];rcases h with rfl|rfl|rfl|rfl<;>simp[hi]<;>(repeat' split)<;>simp_all
theorem WJ {i:Nat} (hi:i<T.length) (h:i=d0∨i=d1∨i=d2∨i=d3):(forget T d0 d1 d2 d3).set i .any=forget T d0 d1 d2 d3:=by
 apply List.ext_getElem?;intro k;by_cases hk:i=k
 · subst hk;rw[ACf (by rw[Jf];exact hi),RC hi h]
 · rw[ACT hk]
theorem Gn {x:Operand} (h:∀ d∈[d0,d1,d2,d3],x≠.tmp d):St.eval ⟨forget T d0 d1 d2 d3,sl'⟩ x=St.eval ⟨T,sl⟩ x:=by
 cases x with
 | tmp i =>
   show (((forget T d0 d1 d2 d3)[i]?).getD .any)=_;have h4:∀ d∈[d0,d1,d2,d3],i≠d:=fun d hd e=>h d hd (by rw[e]);rw[Si ⟨h4 d0 (by simp),h4 d1 (by simp),h4 d2 (by simp),h4 d3 (by simp)⟩];rfl
 | const v=>rfl
 | global g=>rfl
 | func f=>rfl
theorem Dk.forget (hr:Dk P w0 φ ⟨T,sl⟩ a w):Dk P w0 φ ⟨forget T d0 d1 d2 d3,sl⟩ a w:=by
 refine⟨hr.mem,hr.defers,by rw[hr.tlen];exact Jf.symm,fun i x v hx hv=>?_⟩;by_cases h:i=d0∨i=d1∨i=d2∨i=d3
 · have hi:i<T.length:=by
    have:=(zz1.1 hx).1
    rwa [Jf] at this
   have hx':(Proofs.Ytnjedabjbeipeaa.forget T d0 d1 d2 d3)[i]? = some x:=hx;rw[RC hi h] at hx'
   cases hx'
   exact .any _
 · have hx':(Proofs.Ytnjedabjbeipeaa.forget T d0 d1 d2 d3)[i]? = some x:=hx;rw[Si (by omega)] at hx';exact hr.tmps i x v hx' hv
theorem Qq (h:IK sl (St.eval ⟨T,sl⟩ x)=some (s,t,es)) (M:Bool):IK (cI sl s t es ky M) (St.eval ⟨T,sl⟩ x)=some (s,t,if M=true then KK es ky (0,none) else es):=by
 cases M with
 | false=>exact h
 | true =>
   unfold IK at h ⊢;split at h
   · rename_i k hk;split at h
     · rename_i hs
       cases h
       have hl:=(zz1.1 hs).1;simp[cI,ACf hl]
     · cases h
   · cases h
theorem BI.put (h:BI P w0 φ T sl d0 d1 d2 d3 t s es ky v u L A M E a w) {d:Nat} (hd:d∈[d0,d1,d2,d3]) (hc:BC P T sl d0 d1 d2 d3 t x y s es ky v) {w':World} {val:Value} (M':Bool)
 (ht:Turn P w0 φ (cI sl s t es ky M) w φ (cI sl s t es ky M') w'):Dk P w0 φ ⟨forget T d0 d1 d2 d3,cI sl s t es ky M'⟩ (a.put (some d) val) w'∧(a.put (some d) val).tmps[d]? = some val∧∀ i,i≠d→(a.put (some d) val).tmps[i]? = a.tmps[i]?:=by
 have hl:=(hc.ds d hd).1;have hr:=h.rel.turn ht (.any val) (some d)
 have e:St.put ⟨forget T d0 d1 d2 d3,cI sl s t es ky M'⟩ (some d) .any=⟨forget T d0 d1 d2 d3,cI sl s t es ky M'⟩:=by
  show St.mk ((forget T d0 d1 d2 d3).set d .any) _=_;rw[WJ hl (by simpa using hd)]
 rw[e] at hr;refine⟨hr,?_,fun i hi=>?_⟩
 · show (a.tmps.setIfInBounds d val)[d]? = _;rw[Array.getElem?_setIfInBounds_self_of_lt (by rw[h.rel.tlen];show d<(forget T d0 d1 d2 d3).length;rw[Jf];exact hl)]
 · exact Array.getElem?_setIfInBounds_ne (fun e=>hi e.symm)
theorem EC {d:Nat} {val:Value} (h:a.tmps[d]? = some val):a.eval (.tmp d)=val:=by
 show a.tmps.getD d undef=_;rw[Array.getD_eq_getD_getElem?,h];rfl
theorem Kk (hc:BC P T sl d0 d1 d2 d3 t x y s es ky v) (h:BI P w0 φ T sl d0 d1 d2 d3 t s es ky v u L A M E a w) {o:Oper} (h1:o.dst=some d0) (h2:o.op=.lookup t x y false) {K:Act→World→Prop} {Q:Exit→Act→World→Prop} (hK:∀ a' w',BI P w0 φ T sl d0 d1 d2 d3 t s es ky v u true A M E a' w'→K a' w'):o.wp P a w K Q:=by
 obtain⟨Fs,hm⟩:=h.rel.mem;have ex:=h.rel.eval x;have ey:=h.rel.eval y;rw[Gn (sl:=sl) (fun d hd=>(hc.ds d hd).2.1)] at ex;rw[Gn (sl:=sl) (fun d hd=>(hc.ds d hd).2.2)] at ey;obtain⟨r,k1,k2⟩:=Mc false hm (Qq (ky:=ky) hc.hx M) ex hc.hy ey hc.hz hc.hK
 have hg:(E6 (if M=true then KK es ky (0,none) else es) ky).getD (0,none)=(v,none):=by
  cases M with
  | false=>exact hc.hv
  | true=>simp only[if_true];rw[RM];exact hc.hv
 have hr:r=.int .i64 v:=by
  unfold Sf at k2;simp only[Bool.false_eq_true,if_false] at k2;rw[hg] at k2;exact k2.int
 subst hr;refine BX (v:=.int .i64 v) (w':=w) (by simp[execOp,h2,k1]) ?_;rw[h1];obtain⟨p1,p2,p3⟩:=h.put (val:=.int .i64 v) (d:=d0) (by simp) hc M (Turn.refl ⟨Fs,hm⟩);have nd:=hc.nd;simp at nd;exact hK _ _ ⟨p1,fun _=>p2,fun e=>by rw[p3 d1 (by omega)];exact h.ad e,fun e=>by rw[p3 d2 (by omega)];exact h.m e,fun e=>by rw[p3 d3 (by omega)];exact h.e e⟩
theorem Nf (hc:BC P T sl d0 d1 d2 d3 t x y s es ky v) (h:BI P w0 φ T sl d0 d1 d2 d3 t s es ky v u true A M E a w) {neg:Bool} (hu:u=IntKind.i64.wrap (if neg=true then v - 1 else v+1)) {o:Oper} {ty s0:TypeId} (h1:o.dst=some d1) (h2:o.op=.binOp (if neg=true then .sub else .add) ty (.tmp d0) (.const (.int .i64 1)) s0) {K:Act→World→Prop} {Q:Exit→Act→World→Prop} (hK:∀ a' w',BI P w0 φ T sl d0 d1 d2 d3 t s es ky v u true true M E a' w'→K a' w'):o.wp P a w K Q:=by
 obtain⟨Fs,hm⟩:=h.rel.mem;have hl:=h.l rfl
 have hrun:(execOp a.eval o).run P w=.ok (.value (.int .i64 u)) w:=by
  have e1:a.eval (.tmp d0)=.int .i64 v:=EC hl;have e2:a.eval (.const (.int .i64 1))=.int .i64 1:=rfl;subst hu
  cases neg with
  | false =>
    have hg:∀ (x y:Operand),(eqGuard .add ty x y (.int .i64 v) (.int .i64 1)).run P w=.ok () w:=fun x y=>Gg .add ty x y .i64 .i64 v 1 w;simp[execOp,h2,e1,e2,hg,binOp,Op.intArith,Op.intBits,Result.andThen]
  | true =>
    have hg:∀ (x y:Operand),(eqGuard .sub ty x y (.int .i64 v) (.int .i64 1)).run P w=.ok () w:=fun x y=>Gg .sub ty x y .i64 .i64 v 1 w;simp[execOp,h2,e1,e2,hg,binOp,Op.intArith,Op.intBits,Result.andThen]
 refine BX hrun ?_;rw[h1];obtain⟨p1,p2,p3⟩:=h.put (val:=.int .i64 u) (d:=d1) (by simp) hc M (Turn.refl ⟨Fs,hm⟩);have nd:=hc.nd;simp at nd;exact hK _ _ ⟨p1,fun e=>by rw[p3 d0 (by omega)];exact h.l e,fun _=>p2,fun e=>by rw[p3 d2 (by omega)];exact h.m e,fun e=>by rw[p3 d3 (by omega)];exact h.e e⟩
theorem Nk (hc:BC P T sl d0 d1 d2 d3 t x y s es ky v) (h:BI P w0 φ T sl d0 d1 d2 d3 t s es ky v u L A false E a w) {o:Oper} (h1:o.dst=some d2) (h2:o.op=.mapEntry t x y) {K:Act→World→Prop} {Q:Exit→Act→World→Prop} (hK:∀ a' w',BI P w0 φ T sl d0 d1 d2 d3 t s es ky v u L A true E a' w'→K a' w'):o.wp P a w K Q:=by
 obtain⟨Fs,hm⟩:=h.rel.mem;have ex:=h.rel.eval x;have ey:=h.rel.eval y;rw[Gn (sl:=sl) (fun d hd=>(hc.ds d hd).2.1)] at ex;rw[Gn (sl:=sl) (fun d hd=>(hc.ds d hd).2.2)] at ey;obtain⟨w',j,k1,k2,k3⟩:=UI (sl:=cI sl s t es ky false) hm (Qq (ky:=ky) hc.hx false) ex hc.hy ey hc.hz hc.hK;refine BX (v:=.tuple #[DC ((E6 es ky).getD (0,none)),goInt j]) (w':=w') (by simp[execOp,h2,k1,Result.andThen]) ?_;rw[h1];obtain⟨p1,p2,p3⟩:=h.put (val:=.tuple #[DC ((E6 es ky).getD (0,none)),goInt j]) (d:=d2) (by simp) hc true k2;have nd:=hc.nd;simp at nd;exact hK _ _ ⟨p1,fun e=>by rw[p3 d0 (by omega)];exact h.l e,fun e=>by rw[p3 d1 (by omega)];exact h.ad e,fun _=>⟨_,j,p2,by rw[←hc.hv];exact k3⟩,fun e=>by rw[p3 d3 (by omega)];exact h.e e⟩
theorem My (hc:BC P T sl d0 d1 d2 d3 t x y s es ky v) (h:BI P w0 φ T sl d0 d1 d2 d3 t s es ky v u L A true E a w) {o:Oper} (h1:o.dst=some d3) (h2:o.op=.extract (.tmp d2) 1) {K:Act→World→Prop} {Q:Exit→Act→World→Prop} (hK:∀ a' w',BI P w0 φ T sl d0 d1 d2 d3 t s es ky v u L A true true a' w'→K a' w'):o.wp P a w K Q:=by
 obtain⟨Fs,hm⟩:=h.rel.mem;obtain⟨z,j,hz,hj⟩:=h.m rfl;have e1:a.eval (.tmp d2)=.tuple #[z,goInt j]:=EC hz;refine BX (v:=goInt j) (w':=w) (by simp[execOp,h2,e1,Instr.extract]) ?_;rw[h1];obtain⟨p1,p2,p3⟩:=h.put (val:=goInt j) (d:=d3) (by simp) hc true (Turn.refl ⟨Fs,hm⟩);have nd:=hc.nd;simp at nd;exact hK _ _ ⟨p1,fun e=>by rw[p3 d0 (by omega)];exact h.l e,fun e=>by rw[p3 d1 (by omega)];exact h.ad e,fun e=>by rw[p3 d2 (by omega)];exact h.m e,fun _=>⟨j,p2,hj⟩⟩
theorem MQ (hc:BC P T sl d0 d1 d2 d3 t x y s es ky v) (h:BI P w0 φ T sl d0 d1 d2 d3 t s es ky v u L true true true a w) {o:Oper} (h1:o.dst=none) (h2:o.op=.entryStore t x (.tmp d3) (.tmp d1)) {K:Act→World→Prop} {Q:Exit→Act→World→Prop} (hK:∀ a' w',Dk P w0 φ ⟨forget T d0 d1 d2 d3,sl.set s (.blk (.mp t (GJ es ky (u,none))))⟩ a' w'→K a' w'):o.wp P a w K Q:=by
 obtain⟨Fs,hm⟩:=h.rel.mem;have ex:=h.rel.eval x;rw[Gn (sl:=sl) (fun d hd=>(hc.ds d hd).2.1)] at ex;obtain⟨j,hz,hj⟩:=h.e rfl;have e1:a.eval (.tmp d3)=goInt j:=EC hz;have e2:a.eval (.tmp d1)=.int .i64 u:=EC (h.ad rfl);obtain⟨w',k1,k2⟩:=Vd (sl:=cI sl s t es ky true) (v:=(u,none)) (vz:=.int .i64 u) hm (Qq (ky:=ky) hc.hx true) ex hj rfl;have hrun:(execOp a.eval o).run P w=.ok .skip w':=by simp[execOp,h2,e1,e2,k1]
 unfold Oper.wp;rw[hrun];have hr:=h.rel.turn k2 (.any (.int .i64 0)) none
 have e:(cI sl s t es ky true).set s (.blk (.mp t (GJ (KK es ky (0,none)) ky (u,none))))=sl.set s (.blk (.mp t (GJ es ky (u,none)))):=by
  rw[bO];simp[cI,List.set_set]
 simp only[if_true] at hr;rw[e] at hr;show K (a.put o.dst undef) w';rw[h1];exact hK _ _ hr
theorem oV {ops:Array Oper} {l:List (Option Nat×Op×Option (Nat×Bool))} (h:ops.toList.map K6=l) {i:Nat} {d:Option Nat} {c:Op} (hi:l[i]? = some (d,c,none)):∃ o,ops[i]? = some o∧o.dst=d∧o.op=c∧o.guard=none:=by
 subst h;rw[ACF,Option.map_eq_some_iff] at hi;obtain⟨o,h1,h2⟩:=hi;simp only[K6,Prod.mk.injEq] at h2;exact⟨o,by simpa using h1,h2.1,h2.2.1,h2.2.2⟩
theorem A0 {ops:Array Oper} {l:List (Option Nat×Op×Option (Nat×Bool))} (h:ops.toList.map K6=l) {i:Nat} {d:Option Nat} {c:Op} (hi:l[i]? = some (d,c,none)) {Q:Exit→Act→World→Prop} {rest:List Nat} (hw:∀ o:Oper,o.dst=d→o.op=c→o.wp P a w (wpOps P ops Q rest) Q):wpOps P ops Q (i::rest) a w:=by
 obtain⟨o,h1,h2,h3,h4⟩:=oV h hi;unfold wpOps;rw[h1];show (if Region.wanted o _=true then _ else _);rw[if_pos (by simp[Region.wanted,h4])];exact .inl (hw o h2 h3)
theorem iP {m:Mode} {ops:Array Oper} {Q:Exit→St→Prop} {QC:Exit→Act→World→Prop} (h:oK P m ops Q σ) (hr:Dk P w0 φ σ a w) (hQ:∀ e φ' σ' a' w',Q e σ'→Dk P w0 φ' σ' a' w'→QC e a' w') (mr:Region.Mode) (tt:Nat):wpOps P ops QC (Region.linearise mr ops tt) a w:=by
 obtain⟨-,hok,d0,d1,d2,d3,t,ty,x,y,neg,s0,s,es,ky,v,hops,nd,ds,hx,hy,hz,hK,hv,hq⟩:=h;have hin:=XA mr ops tt hok;generalize Region.linearise mr ops tt=ord at hin;obtain⟨T,sl⟩:=σ;have hc:BC P T sl d0 d1 d2 d3 t x y s es ky v:=⟨nd,ds,hx,hy,hz,hK,hv⟩;obtain⟨u,hu⟩:∃ u,u=IntKind.i64.wrap (if neg=true then v - 1 else v+1):=⟨_,rfl⟩;rw[←hu] at hq;have h0:BI P w0 φ T sl d0 d1 d2 d3 t s es ky v u false false false false a w:=⟨hr.forget,by simp,by simp,by simp,by simp⟩;have fin:∀ a' w',Dk P w0 φ ⟨forget T d0 d1 d2 d3,sl.set s (.blk (.mp t (GJ es ky (u,none))))⟩ a' w'→wpOps P ops QC [] a' w':=fun a' w' h=>hQ _ _ _ _ _ hq h;simp only[bumpOrders,List.mem_cons,List.not_mem_nil,or_false] at hin;rcases hin with rfl|rfl|rfl|rfl|rfl|rfl
 · refine A0 hops rfl fun o p1 p2=>Kk hc h0 p1 p2 fun a w h1=>?_;refine A0 hops rfl fun o p1 p2=>Nf hc h1 hu p1 p2 fun a w h1=>?_;refine A0 hops rfl fun o p1 p2=>Nk hc h1 p1 p2 fun a w h1=>?_;refine A0 hops rfl fun o p1 p2=>My hc h1 p1 p2 fun a w h1=>?_;exact A0 hops rfl fun o p1 p2=>MQ hc h1 p1 p2 fin
 · refine A0 hops rfl fun o p1 p2=>Kk hc h0 p1 p2 fun a w h1=>?_;refine A0 hops rfl fun o p1 p2=>Nk hc h1 p1 p2 fun a w h1=>?_;refine A0 hops rfl fun o p1 p2=>Nf hc h1 hu p1 p2 fun a w h1=>?_;refine A0 hops rfl fun o p1 p2=>My hc h1 p1 p2 fun a w h1=>?_;exact A0 hops rfl fun o p1 p2=>MQ hc h1 p1 p2 fin
 · refine A0 hops rfl fun o p1 p2=>Kk hc h0 p1 p2 fun a w h1=>?_;refine A0 hops rfl fun o p1 p2=>Nk hc h1 p1 p2 fun a w h1=>?_;refine A0 hops rfl fun o p1 p2=>My hc h1 p1 p2 fun a w h1=>?_;refine A0 hops rfl fun o p1 p2=>Nf hc h1 hu p1 p2 fun a w h1=>?_;exact A0 hops rfl fun o p1 p2=>MQ hc h1 p1 p2 fin
 · refine A0 hops rfl fun o p1 p2=>Nk hc h0 p1 p2 fun a w h1=>?_;refine A0 hops rfl fun o p1 p2=>Kk hc h1 p1 p2 fun a w h1=>?_;refine A0 hops rfl fun o p1 p2=>Nf hc h1 hu p1 p2 fun a w h1=>?_;refine A0 hops rfl fun o p1 p2=>My hc h1 p1 p2 fun a w h1=>?_;exact A0 hops rfl fun o p1 p2=>MQ hc h1 p1 p2 fin
 · refine A0 hops rfl fun o p1 p2=>Nk hc h0 p1 p2 fun a w h1=>?_;refine A0 hops rfl fun o p1 p2=>Kk hc h1 p1 p2 fun a w h1=>?_;refine A0 hops rfl fun o p1 p2=>My hc h1 p1 p2 fun a w h1=>?_;refine A0 hops rfl fun o p1 p2=>Nf hc h1 hu p1 p2 fun a w h1=>?_;exact A0 hops rfl fun o p1 p2=>MQ hc h1 p1 p2 fin
 · refine A0 hops rfl fun o p1 p2=>Nk hc h0 p1 p2 fun a w h1=>?_;refine A0 hops rfl fun o p1 p2=>My hc h1 p1 p2 fun a w h1=>?_;refine A0 hops rfl fun o p1 p2=>Kk hc h1 p1 p2 fun a w h1=>?_;refine A0 hops rfl fun o p1 p2=>Nf hc h1 hu p1 p2 fun a w h1=>?_;exact A0 hops rfl fun o p1 p2=>MQ hc h1 p1 p2 fin
end
section
variable {P:Program} {w0:DP} {w w':World} {φ φ':B6} {σ σ':St} {a:Act} {sl sl':List Ag} {Fs Fs':List (List Nat)} {st:Bool} {π:List Nat}
theorem HB:∀ {ks:List Nat} {ys:List Ag},Ed st sl π ks ys→ks.length=ys.length∧∀ (i k:Nat) (y:Ag),ks[i]? = some k→ys[i]? = some y→∃ x,sl[k]? = some x∧nW st sl π x y
 | [],[],_=>⟨rfl,fun i k y h=>by simp at h⟩
 | [],_::_,h=>h.elim
 | _::_,[],h=>h.elim
 | k::ks,y::ys,h=>by
   obtain⟨h1,h2⟩:=h;obtain⟨k1,k2⟩:=HB h2;refine⟨by simp[k1],fun i k' y' hk hy=>?_⟩
   match i with
   | 0=>simp at hk hy;subst hk hy;exact h1
   | i+1=>exact k2 i k' y' (by simpa using hk) (by simpa using hy)
theorem Td:∀ {xs ys:List V},To st sl π xs ys→xs.length=ys.length∧∀ (i:Nat) (y:V),ys[i]? = some y→∃ x,xs[i]? = some x∧pN st sl π x y
 | [],[],_=>⟨rfl,fun i y h=>by simp at h⟩
 | [],_::_,h=>h.elim
 | _::_,[],h=>h.elim
 | x::xs,y::ys,h=>by
   obtain⟨h1,h2⟩:=h;obtain⟨k1,k2⟩:=Td h2;refine⟨by simp[k1],fun i y' hy=>?_⟩
   match i with
   | 0=>simp at hy;subst hy;exact⟨x,rfl,h1⟩
   | i+1=>simpa using k2 i y' (by simpa using hy)
theorem MA:∀ {xs ys:List V},Hn st sl π xs ys→xs.length=ys.length∧∀ (i:Nat) (y:V),ys[i]? = some y→∃ x,xs[i]? = some x∧oE st sl π x y
 | [],[],_=>⟨rfl,fun i y h=>by simp at h⟩
 | [],_::_,h=>h.elim
 | _::_,[],h=>h.elim
 | x::xs,y::ys,h=>by
   obtain⟨h1,h2⟩:=h;obtain⟨k1,k2⟩:=MA h2;refine⟨by simp[k1],fun i y' hy=>?_⟩
   match i with
   | 0=>simp at hy;subst hy;exact⟨x,rfl,h1⟩
   | i+1=>simpa using k2 i y' (by simpa using hy)
def Cs {α:Type} (π:List Nat) (φ:List α) (d:α):List α:=π.map fun k=>(φ[k]?).getD d
theorem Pf {α:Type} {φ:List α} {d:α} {i k:Nat} {h:α} (hk:π[i]? = some k) (hh:φ[k]? = some h):(Cs π φ d)[i]? = some h:=by
 unfold Cs;rw[ACF,hk];simp[hh]
def SameS:Ag→Ag→Prop
 | .arr t _ es,.arr t' _ es'=>t=t'∧es=es'
 | .var t _,.var t' _=>t=t'
 | .blk k,.blk k'=>k=k'
 | _,_=>False
def Conv (x y:Ag):Prop:=∃ t n es,x=.arr t true es∧y=.blk (.que t n es)
theorem gL {x y:Ag} (h:nW st sl π x y):y=.dead∨SameS x y∨(st=false∧Conv x y):=by
 unfold nW at h;split at h
 · exact .inl rfl
 · exact h.elim
 · rcases h with rfl|⟨rfl,_,rfl⟩
   · exact .inr (.inl ⟨rfl,rfl⟩)
   · exact .inr (.inl ⟨rfl,rfl⟩)
 · obtain⟨_,rfl,_⟩:=h;exact .inr (.inl rfl)
 · rcases h with rfl|⟨h0,t,n,es,rfl,rfl,h⟩
   · exact .inr (.inl rfl)
   · exact .inr (.inr ⟨h0,t,n,es,rfl,rfl⟩)
theorem SameS.live {x y:Ag} (h:SameS x y):x.live∧y.live:=by
 cases x<;>cases y<;>simp_all [SameS,Ag.live]
structure Gc (st:Bool) (π:List Nat) (φ:B6) (sl:List Ag) (φ':B6) (sl':List Ag):Prop where
 at_:∀ (i k:Nat),π[i]? = some k→∃ x y h,sl[k]? = some x∧sl'[i]? = some y∧φ[k]? = some h∧φ'[i]? = some h∧(y=.dead∨SameS x y∨(st=false∧Conv x y∧h.2<Ay))
 len:π.length=sl'.length
theorem Pm (hg:Gc st π φ sl φ' sl') {b:Nat} (h:top φ' sl' b):∃ (k:Nat) (x:Ag) (c:Nat),k∈π∧sl[k]? = some x∧x.live∧φ[k]? = some (some b,c):=by
 obtain⟨s,y,c,h1,h2,h3⟩:=h;have hs:s<π.length:=by rw[hg.len];exact (zz1.1 h1).1
 obtain⟨x,y',hd,k1,k2,k3,k4,k5⟩:=hg.at_ s _ (zz0 hs);rw[h1] at k2
 cases k2
 rw[h3] at k4
 cases k4
 rcases k5 with rfl|k5|⟨-,⟨t,n,es,rfl,rfl⟩,-⟩
 · exact h2.elim
 · exact⟨_,x,c,AB7 hs,k1,k5.live.1,k3⟩
 · exact⟨_,_,c,AB7 hs,k1,trivial,k3⟩
theorem mE (hg:Gc st π φ sl φ' sl') {G G':Nat→Prop} (hG:∀ b,G b→G' b) {x y:V} {v:Value} (h:Sw π y=some x) (hx:VR w G φ sl x v):VR w G' φ' sl' y v:=by
 have hk:∀ b,G b→G' b∧∀ o,w.cell? ⟨b,o,none⟩=w.cell? ⟨b,o,none⟩:=fun b hb=>⟨hG b hb,fun _=>rfl⟩;unfold Sw at h;split at h
 · rw[Option.map_eq_some_iff] at h;obtain⟨k,hi,rfl⟩:=h;obtain⟨x,y,hd,j1,j2,j3,j4,j5⟩:=hg.at_ _ _ hi;have ho:=hx.one rfl;rcases j5 with rfl|j5|⟨-,⟨t,n,es,rfl,rfl⟩,hc⟩
   rotate_left 2
   · cases hx with
     | gone h1=>rw[j1] at h1;cases h1
     | blk h1=>rw[j1] at h1;cases h1
     | ref h1 h2 =>
       rw[j1] at h1
       cases h1
       rw[j3] at h2
       cases h2
       have:=VR.blk (w:=w) (G:=G') j2 j4;simp only at hc;simp only[Bk.val,Nat.div_eq_of_lt hc,Nat.mod_eq_of_lt hc,Nat.zero_mul] at this;exact this
   · exact .gone j2 ho
   · cases hx with
     | gone h1=>rw[j1] at h1;cases h1;exact absurd j5.live.1 (by simp[Ag.live])
     | @ref _ _ _ es A c h1 h2 =>
       rw[j1] at h1
       cases h1
       rw[j3] at h2
       cases h2
       cases y<;>simp only[SameS] at j5
       obtain⟨rfl,rfl⟩:=j5;exact .ref j2 j4
     | blk h1 h2 =>
       rw[j1] at h1
       cases h1
       rw[j3] at h2
       cases h2
       cases y<;>simp only[SameS] at j5
       subst j5;exact .blk j2 j4
 · rw[Option.map_eq_some_iff] at h;obtain⟨k,hi,rfl⟩:=h;obtain⟨x,y,hd,j1,j2,j3,j4,j5⟩:=hg.at_ _ _ hi;have ho:=hx.one rfl;rcases j5 with rfl|j5|⟨-,⟨t,n,es,rfl,rfl⟩,hc⟩
   rotate_left 2
   · cases hx with
     | litgone h1=>rw[j1] at h1;cases h1
     | lit h1 h2=>rw[j1] at h1;cases h1
   · exact .litgone j2 ho
   · cases hx with
     | litgone h1=>rw[j1] at h1;cases h1;exact absurd j5.live.1 (by simp[Ag.live])
     | lit h1 h2 =>
       rw[j1] at h1
       cases h1
       rw[j3] at h2
       cases h2
       cases y<;>simp only[SameS] at j5
       exact .lit j2 j4
 · rw[Option.map_eq_some_iff] at h;obtain⟨k,hi,rfl⟩:=h;obtain⟨x,y,hd,j1,j2,j3,j4,j5⟩:=hg.at_ _ _ hi;have ho:=hx.one rfl;rcases j5 with rfl|j5|⟨-,⟨t,n,es,rfl,rfl⟩,hc⟩
   rotate_left 2
   · cases hx with
     | lost h1=>rw[j1] at h1;cases h1
     | ptr h1 h2 h3 =>
       rw[j3] at h3
       cases h3
       exact .ptr j2 trivial j4
   · exact .lost j2 ho
   · cases hx with
     | lost h1=>rw[j1] at h1;cases h1;exact absurd j5.live.1 (by simp[Ag.live])
     | ptr h1 h2 h3 =>
       rw[j3] at h3
       cases h3
       exact .ptr j2 j5.live.2 j4
 · rw[Option.map_eq_some_iff] at h;obtain⟨k,hi,rfl⟩:=h;obtain⟨x,y,hd,j1,j2,j3,j4,j5⟩:=hg.at_ _ _ hi;have ho:=hx.one rfl;rcases j5 with rfl|j5|⟨-,⟨t,n,es,rfl,rfl⟩,hc⟩
   rotate_left 2
   · cases hx with
     | elost h1=>rw[j1] at h1;cases h1
     | qptr h1=>rw[j1] at h1;cases h1
     | eptr h1 h2 =>
       rw[j1] at h1
       cases h1
       rw[j3] at h2
       cases h2
       simp only at hc;have h0:=fun n i j:Nat=>VR.qptr (w:=w) (G:=G') (n:=n) (i:=i) (j:=j) j2 j4;simp only[Nat.div_eq_of_lt hc,Nat.zero_add] at h0;exact h0 _ _ _
   · exact .elost j2 ho
   · cases hx with
     | elost h1=>rw[j1] at h1;cases h1;exact absurd j5.live.1 (by simp[Ag.live])
     | qptr h1 h2 =>
       rw[j1] at h1
       cases h1
       rw[j3] at h2
       cases h2
       cases y<;>simp only[SameS] at j5
       subst j5;exact .qptr j2 j4
     | @eptr s0 n i j t0 ow0 es0 g c h1 h2 =>
       rw[j1] at h1
       cases h1
       rw[j3] at h2
       cases h2
       cases y<;>simp only[SameS] at j5
       exact .eptr j2 j4
 · cases h;cases hx;exact .nil _
 · cases h;cases hx with|d hx=>exact .d (hx.mono hk)
 · cases h;cases hx with|cptr u hG' hc hr=>exact .cptr u (hG _ hG') hc (fun j d hd=>(hr j d hd).mono hk)
 · exact .any _
 · cases h;cases hx;exact .nilp
 · cases h
theorem PP:∀ {ys xs:List V},Mf π ys=some xs→xs.length=ys.length∧∀ (i:Nat) (y:V),ys[i]? = some y→∃ x,xs[i]? = some x∧Sw π y=some x
 | [],xs,h=>by simp[Mf] at h;subst h;exact⟨rfl,fun i y h=>by simp at h⟩
 | y::ys,xs,h=>by
   unfold Mf at h;split at h
   · rename_i x xs' h1 h2
     cases h
     obtain⟨k1,k2⟩:=PP h2;refine⟨by simp[k1],fun i y' hy=>?_⟩
     match i with
     | 0=>simp at hy;subst hy;exact⟨x,rfl,h1⟩
     | i+1=>simpa using k2 i y' (by simpa using hy)
   · cases h
theorem Wa (q:Nat):∀ {Fs:List (List Nat)},π.Nodup→(∀ k∈π,k<Fs.length)→Dj q (Cs π Fs [])≤Dj q Fs:=by
 intro Fs hn hl;have:=Dr q hn hl;have e:Cs π Fs []=π.map fun k=>(Fs[k]?).getD []:=rfl;have e2:Dj q (Cs π Fs [])=(AH Fs π).count q:=by rw[e];rfl
 omega
def Lx:Ag→List Nat→List Nat
 | .dead,_=>[]
 | .unborn,_=>[]
 | .arr _ false _,F=>F.take 1
 | .blk _,F=>F.take 1
 | _,F=>F
theorem Xq (y:Ag) (F:List Nat) (q:Nat):(Lx y F).count q≤F.count q:=by
 unfold Lx;split
 · simp
 · simp
 · exact (List.take_sublist 1 F).count_le q
 · exact (List.take_sublist 1 F).count_le q
 · exact Nat.le_refl _
theorem Oq (q:Nat):∀ (ys:List Ag) (Gs:List (List Nat)),Dj q (List.zipWith Lx ys Gs)≤Dj q Gs
 | [],Gs=>by simp[Dj]
 | y::ys,[]=>by simp[Dj]
 | y::ys,G::Gs=>by
   have:=Oq q ys Gs;have:=Xq y G q;simp[Dj] at *;omega
theorem Qf (hm:BM P w0 φ sl w Fs) {s:Nat} {t:TypeId} {ow:Bool} {es:List (List D)} {hd:Option Nat×Nat} {F:List Nat} {G:Nat→Prop} (hs:sl[s]? = some (.arr t ow es)) (hp:φ[s]? = some hd) (hF:Fs[s]? = some F)
 (hG:∀ b,good w0.R φ sl w b→G b) (hX:ow=true→w0.st=false):RowOf P w (Rds w G) t es hd.1 hd.2 (F.take 1):=by
 have hrep:∀ k:Nat,(List.replicate k ([]:List Nat)).flatten=[]:=fun k=>by induction k with|zero=>rfl|succ k ih=>simp[List.replicate_succ,ih]
 have hnd:=CN hm.nd (zz6 hF);have hsr:=hm.sr s _ hd F hs hp hF
 have fin:∀ {R:List D→List Value→List Nat→Prop},RowOf P w R t es hd.1 hd.2 F→(∀ e cs f,(∀ q∈f,q∈F∧hd.1≠some q)→R e cs f→∃ f',Rds w G e cs f')→RowOf P w (Rds w G) t es hd.1 hd.2 (F.take 1):=by
  intro R hr hR;obtain⟨q1,q2,⟨e1,e2,rfl⟩|⟨g,cur,Gs,e1,q3,q4,q5,q6,q7,rfl⟩⟩:=hr
  · exact⟨q1,q2,.inl ⟨e1,e2,rfl⟩⟩
  · refine⟨q1,q2,.inr ⟨g,cur,List.replicate es.length [],e1,q3,q4,by simp,q6,fun i x f hx hf=>?_,by rw[hrep];rfl⟩⟩;have hil:=(zz1.1 hx).1;rw[List.getElem?_replicate,if_pos hil] at hf
    cases hf
    have hf:Gs[i]? = some (Gs[i]'(by omega)):=zz0 _;obtain⟨f',r1,r2,r3⟩:=hR _ _ _ (fun q hq=>⟨ACO _ (A5 hf hq),fun e=>by rw[e1] at e;cases e;exact (List.nodup_cons.1 hnd).1 (A5 hf hq)⟩) (q7 i x _ hx hf);exact⟨rfl,r2,r3⟩
 cases ow with
 | false=>exact fin hsr fun e cs f _ hr=>⟨f,hr.mono fun b hb=>⟨hG b hb,fun _=>rfl⟩⟩
 | true =>
   refine fin hsr fun e cs f hq ho=>⟨[],ho.rds fun q hqf=>hG q ⟨ho.lt q hqf,?_,hm.rd (hX rfl) (A5 hF (hq q hqf).1)⟩⟩;rintro⟨s2,x2,c2,j1,j2,j3⟩;obtain⟨hd2,F2,j4,j5,j6⟩:=hm.at_ j1;rw[j3] at j4
   cases j4
   by_cases hss:s2=s
   · subst hss;rw[hp] at j3
     cases j3
     exact (hq q hqf).2 rfl
   · exact Cf hm.nd hF j5 (fun e=>hss e.symm) q (hq q hqf).1 (j6.head j2)
structure ABy (P:Program) (φ':B6) (sl':List Ag) (w:World) (Fs':List (List Nat)) (G:Nat→Prop):Prop where
 flen:φ'.length=sl'.length
 Flen:Fs'.length=sl'.length
 sr:∀ (s:Nat) (x:Ag) (h:Option Nat×Nat) (F:List Nat),sl'[s]? = some x→φ'[s]? = some h→Fs'[s]? = some F→SR P w G φ' sl' x h F
theorem LZ (hst:w0.st=st) (hm:BM P w0 φ sl w Fs) (hn:π.Nodup) (hs:Ed st sl π π sl') {G:Nat→Prop} (hG:∀ b,good w0.R φ sl w b→G b)
 (hX:st=false→∀ b,good w0.R (Cs π φ (none,0)) sl' w b→G b) :
 Gc st π φ sl (Cs π φ (none,0)) sl'∧ABy P (Cs π φ (none,0)) sl' w (List.zipWith Lx sl' (Cs π Fs [])) G ∧
 (∀ (x y:V) (v:Value),oE st sl π x y→VR w (good w0.R φ sl w) φ sl x v→VR w G (Cs π φ (none,0)) sl' y v):=by
 obtain⟨s1,s2⟩:=HB hs
 have hkl:∀ k∈π,k<sl.length:=fun k hk=>by
  obtain⟨i,hi,rfl⟩:=List.mem_iff_getElem.1 hk;obtain⟨x,hx,_⟩:=s2 i _ _ (zz0 hi) (zz0 (by omega));exact (zz1.1 hx).1
 have hg:Gc st π φ sl (Cs π φ (none,0)) sl':=⟨fun i k hk=>by
  have hi:i<sl'.length:=by rw[←s1];exact (zz1.1 hk).1
  obtain⟨x,hx,hr⟩:=s2 i k _ hk (zz0 hi);have hh:φ[k]? = some (φ[k]'(by rw[hm.flen];exact (zz1.1 hx).1)):=zz0 _;refine⟨x,_,_,hx,zz0 hi,hh,Pf hk hh,?_⟩;rcases gL hr with h|h|⟨h0,h⟩
  · exact .inl h
  · exact .inr (.inl h)
  · refine .inr (.inr ⟨h0,h,?_⟩);obtain⟨t,n,es,rfl,-⟩:=h;obtain⟨hd2,F2,j1,j2,j3⟩:=hm.at_ hx;rw[hh] at j1
    cases j1
    have:=j3.1;unfold Ay
    omega,s1⟩
 have hfz:∀ (s:Nat) (F:List Nat),st=false→s∉π→Fs[s]? = some F→∀ b∈F,G b:=by
  intro s F h0 hsp hF b hb;refine hX h0 b ⟨hm.lt b (A5 hF hb),fun ht=>?_,hm.rd (hst.trans h0) (A5 hF hb)⟩;obtain⟨k,x,c,k1,k2,k3,k4⟩:=Pm hg ht;obtain⟨hd2,F2,k5,k6,k7⟩:=hm.at_ k2;rw[k4] at k5
  cases k5
  exact Cf hm.nd hF k6 (fun e=>hsp (e▸k1)) b hb (k7.head k3)
 have v0:∀ (x y:V) (v:Value),pN st sl π x y→VR w (good w0.R φ sl w) φ sl x v→VR w G (Cs π φ (none,0)) sl' y v:=by
  intro x y v h hx;rcases h with rfl|h|⟨d,rfl,h0,hp,hsp⟩
  · exact .any _
  · exact mE hg hG h hx
  · exact .d (J4 hp hm hx hG fun s e F hF b hb=>hfz s F h0 (hsp s e) hF b hb)
 have v0s:∀ {xs ys:List V} {vs:List Value},To st sl π xs ys→vs.length=xs.length→(∀ (i:Nat) (x:V) (v:Value),xs[i]? = some x→vs[i]? = some v→VR w (good w0.R φ sl w) φ sl x v) →
  vs.length=ys.length∧∀ (i:Nat) (y:V) (v:Value),ys[i]? = some y→vs[i]? = some v→VR w G (Cs π φ (none,0)) sl' y v:=by
  intro xs ys vs h hl hv;obtain⟨k1,k2⟩:=Td h;refine⟨by omega,fun i y v hy hv'=>?_⟩;obtain⟨x,hx,hr⟩:=k2 i y hy;exact v0 x y v hr (hv i x v hx hv')
 refine⟨hg,⟨by simp[Cs,s1],by simp[Cs,s1],fun i y hd F h1 h2 h3=>?_⟩,fun x y v h hx=>?_⟩
 · have hi:i<π.length:=by rw[s1];exact (zz1.1 h1).1
   obtain⟨x,hx,hle⟩:=s2 i _ y (zz0 hi) h1;obtain⟨hd2,F2,j1,j2,j3⟩:=hm.at_ hx;rw[Pf (zz0 hi) j1] at h2
   cases h2
   rw[List.getElem?_zipWith,h1,Pf (zz0 hi) j2] at h3
   cases h3
   unfold nW at hle;split at hle
   · rfl
   · exact hle.elim
   · rename_i t ow es;rcases hle with rfl|⟨rfl,h0,rfl⟩
     · cases ow with
       | true=>exact j3
       | false=>exact Qf hm hx j1 j2 hG (by simp)
     · exact Qf hm hx j1 j2 hG (fun _=>hst.trans h0)
   · rename_i t ys;obtain⟨xs,rfl,hr⟩:=hle;obtain⟨g,cur,e1,e2,e3,e4,e5⟩:=j3;obtain⟨r1,r2⟩:=Td hr;refine⟨g,cur,e1,e2,e3,by omega,fun j y v hy hv=>?_⟩;obtain⟨x,hx,hrx⟩:=r2 j y hy;exact⟨v0 _ _ _ hrx (e5 j x v hx hv).1,(e5 j x v hx hv).2⟩
   · rename_i k;rcases hle with rfl|⟨-,t,n,es,rfl,rfl,h0,hfl⟩
     · obtain⟨g,o,e1,e2,e3,e4⟩:=j3;exact⟨g,o,e1,by rw[e2];rfl,e3,e4⟩
     · obtain⟨q1,q2,⟨q3,q4,q5⟩|⟨g,cur,Gs,q3,q4,q5,q6,q7,q8,q9⟩⟩:=j3
       · exact absurd (zz7 (by omega)) h0
       · obtain⟨c0,hc0⟩:=List.exists_mem_of_ne_nil _ h0;have hn:n=P.cellsOf t:=by rw[←(hfl c0 hc0).1];exact q7 c0 hc0
         have hlt:hd.2<Ay:=by unfold Ay;omega
         refine⟨g,_,q3,by rw[q9];rfl,q4,cur,rfl,hn,?_,?_,?_,fun e he=>(hfl e he).1,fun i e he=>?_⟩
         · rw[Nat.mod_eq_of_lt hlt];exact q1
         · rw[Nat.mod_eq_of_lt hlt];exact q2
         · rw[Nat.mod_eq_of_lt hlt,Nat.div_eq_of_lt hlt,Nat.zero_add,q5,hn];exact Nat.le_refl _
         · rw[Nat.div_eq_of_lt hlt,Nat.zero_add,hn];have hil:=(zz1.1 he).1;have hf:Gs[i]? = some (Gs[i]'(by omega)):=zz0 _;exact flat_rds ((q8 i e _ he hf).flat_rds (zz8.2 (hfl e (zz6 he)).2) (fun _=>True)) (hfl e (zz6 he)).2
 · unfold oE at h;split at h
   · obtain⟨xs,rfl,hr⟩:=h
     cases hx with
     | agg hl h1 hv=>obtain⟨k1,k2⟩:=v0s hr hl hv;exact .agg k1 h1 k2
   · obtain⟨xs,rfl,hr⟩:=h
     cases hx with
     | fn hl hv=>obtain⟨k1,k2⟩:=v0s hr hl hv;exact .fn k1 k2
   · exact v0 x y v h hx
theorem U8:∀ {n:Nat} {π:List Nat} {i:Nat},N3 n π i=true→∀ j,j<n→π[j]? = some (i+j)
 | 0,_,_,_,j,h=>by omega
 | n+1,[],_,h,_,_=>by simp[N3] at h
 | n+1,k::ks,i,h,j,hj=>by
   simp only[N3,Bool.and_eq_true,beq_iff_eq] at h
   match j with
   | 0=>simp[h.1]
   | j+1 =>
     have:=U8 h.2 j (by omega);simp only[List.getElem?_cons_succ,this]
     congr 1
     omega
theorem Dk.le {m:Mode} (hst:w0.st=m.st) (hpin:w0.H.length≤m.pin) (h:Dk P w0 φ σ a w) (hle:Le m σ σ'):∃ φ',Dk P w0 φ' σ' a w:=by
 obtain⟨π,hn,hpn,hs,ht⟩:=hle;obtain⟨Fs,hm⟩:=h.mem;obtain⟨t1,t2⟩:=MA ht;obtain⟨s1,s2⟩:=HB hs
 have hkl:∀ k∈π,k<Fs.length:=fun k hk=>by
  obtain⟨i,hi,rfl⟩:=List.mem_iff_getElem.1 hk;obtain⟨x,hx,_⟩:=s2 i _ _ (zz0 hi) (zz0 (by omega));rw[hm.Flen];exact (zz1.1 hx).1
 have hcnt:∀ q,Dj q (List.zipWith Lx σ'.slots (Cs π Fs []))≤Dj q Fs:=fun q=>Nat.le_trans (Oq q _ _) (Wa q hn hkl)
 have htop:∀ {φ':B6},Gc m.st π φ σ.slots φ' σ'.slots→∀ b,top φ' σ'.slots b→top φ σ.slots b:=fun hg b hb=>by
  obtain⟨k,x,c,_,k2,k3,k4⟩:=Pm hg hb;exact⟨k,x,c,k2,k3,k4⟩
 obtain⟨hg0,_,_⟩:=LZ (G:=fun _=>True) hst hm hn hs (fun _ _=>trivial) (fun _ _ _=>trivial);have hG:∀ b,good w0.R φ σ.slots w b→good w0.R (Cs π φ (none,0)) σ'.slots w b:=fun b hb=>⟨hb.1,fun ht=>hb.2.1 (htop hg0 b ht),hb.2.2⟩;obtain⟨hg,hl,hv⟩:=LZ (G:=good w0.R (Cs π φ (none,0)) σ'.slots w) hst hm hn hs hG (fun _ _ h=>h);refine⟨Cs π φ (none,0),⟨_,hm.only,fun b hb=>hm.tops b (htop hg b hb),hl.flen,hl.Flen,Is hm.nd hcnt,fun q hq=>hm.ge q (Om hcnt hq),fun i hd hi=>?_,hl.sr⟩,h.defers,by rw[h.tlen,t1],fun i y v hy hv'=>?_⟩
 · obtain⟨p1,p2⟩:=hm.pin i hd hi;have hil:i<m.pin:=ACM (zz1.1 hi).1 hpin;have hpi:=U8 hpn i hil;rw[Nat.zero_add] at hpi;obtain⟨x,y,h',k1,k2,k3,k4,k5⟩:=hg.at_ i i hpi;rw[p1] at k3
   cases k3
   refine⟨k4,fun hu=>?_⟩;rw[k2] at hu
   cases hu
   rcases k5 with k5|k5|⟨-,⟨t,n,es,-,k5⟩,-⟩
   · cases k5
   · exact k5.live.2
   · cases k5
 · obtain⟨x,hx,hr⟩:=t2 i y hy;exact hv x y v hr (h.tmps i x v hx hv')
end
section
variable {α:Type} {xs ys:List α} {π:List Nat}
theorem CC:∀ (π:List Nat) (xs ys:List α),(BJ xs π ys).length=xs.length
 | [],xs,ys=>by cases ys<;>rfl
 | k::ks,xs,[]=>rfl
 | k::ks,xs,y::ys=>by rw[BJ,CC ks,ACh]
theorem FI:∀ (π:List Nat) (xs ys:List α) {j:Nat},j∉π→(BJ xs π ys)[j]? = xs[j]?
 | [],xs,ys,j,_=>by cases ys<;>rfl
 | k::ks,xs,[],j,_=>rfl
 | k::ks,xs,y::ys,j,h=>by
   rw[BJ,FI ks _ _ (fun hj=>h (ACO _ hj)),ACT (fun e=>h (by rw[e];simp))]
theorem Nj:∀ (π:List Nat) (xs ys:List α) {i k:Nat},π.Nodup→(∀ k∈π,k<xs.length)→π.length=ys.length→π[i]? = some k→(BJ xs π ys)[k]? = ys[i]?
 | [],xs,ys,i,k,_,_,_,h=>by simp at h
 | q::ks,xs,[],i,k,_,_,hl,h=>by simp at hl
 | q::ks,xs,y::ys,i,k,hn,hl,hlen,h=>by
   rw[List.nodup_cons] at hn;rw[BJ]
   match i with
   | 0 =>
     simp at h;subst h;rw[FI ks _ _ hn.1,ACf (hl q (by simp))];rfl
   | i+1 =>
     simp at h;rw[Nj ks _ ys hn.2 (fun j hj=>by rw[ACh];exact hl j (by simp[hj])) (by simpa using hlen) h];rfl
end
theorem OM (q:Nat):∀ (π:List Nat) (Fs Gs:List (List Nat)),π.Nodup→(∀ k∈π,k<Fs.length)→π.length=Gs.length→Dj q (BJ Fs π Gs)+(AH Fs π).count q=Dj q Fs+Dj q Gs
 | [],Fs,[],_,_,_=>by simp[BJ,AH,Dj]
 | [],Fs,_::_,_,_,h=>by simp at h
 | k::ks,Fs,[],_,_,h=>by simp at h
 | k::ks,Fs,G::Gs,hn,hl,hlen=>by
   rw[List.nodup_cons] at hn;have hk:=hl k (by simp);have hF:Fs[k]? = some Fs[k]:=zz0 hk;have ih:=OM q ks (Fs.set k G) Gs hn.2 (fun j hj=>by rw[ACh];exact hl j (by simp[hj])) (by simpa using hlen);have hset:=HY q (F':=G) hF
   have hof:AH (Fs.set k G) ks=AH Fs ks:=by
    unfold AH
    congr 1
    apply List.map_congr_left;intro j hj;rw[ACT (fun e:k=j=>hn.1 (by rw[e];exact hj))]
   rw[hof] at ih;have hc:AH Fs (k::ks)=Fs[k]++AH Fs ks:=by simp[AH,hF]
   have hg:Dj q (G::Gs)=G.count q+Dj q Gs:=by simp[Dj]
   rw[BJ,hc,List.count_append,hg];omega
section
variable {P:Program} {w0:DP} {w w':World} {φ φ' φ'':B6} {σ σ':St} {a:Act} {sl sl' sl'':List Ag} {Fs Fs':List (List Nat)} {π:List Nat} {G G':Nat→Prop}
def qK (π:List Nat) (φ':B6) (sl':List Ag) (φ'':B6) (sl'':List Ag):Prop :=
 ∀ (i k:Nat),π[i]? = some k→∃ y x h,sl'[i]? = some y∧sl''[k]? = some x∧SY π y=some x∧φ'[i]? = some h∧φ''[k]? = some h
theorem G9 {x y:Ag} (h:SY π y=some x):(y=.dead∧x=.dead)∨SameS y x:=by
 unfold SY at h;split at h
 · cases h;exact .inr ⟨rfl,rfl⟩
 · rw[Option.map_eq_some_iff] at h;obtain⟨_,_,rfl⟩:=h;exact .inr rfl
 · cases h;exact .inr rfl
 · cases h;exact .inl ⟨rfl,rfl⟩
 · cases h
theorem eN (he:qK π φ' sl' φ'' sl'') (hG:∀ b,G b→G' b) {x y:V} {v:Value} (h:Sw π y=some x) (hy:VR w G φ' sl' y v):VR w G' φ'' sl'' x v:=by
 have hk:∀ b,G b→G' b∧∀ o,w.cell? ⟨b,o,none⟩=w.cell? ⟨b,o,none⟩:=fun b hb=>⟨hG b hb,fun _=>rfl⟩;unfold Sw at h;split at h
 · rw[Option.map_eq_some_iff] at h;obtain⟨k,hi,rfl⟩:=h;obtain⟨y,x,hd,j1,j2,j3,j4,j5⟩:=he _ _ hi;have ho:=hy.one rfl;rcases G9 j3 with ⟨rfl,rfl⟩|hk
   · exact .gone j2 ho
   · cases hy with
     | gone h1=>rw[j1] at h1;cases h1;exact absurd hk.live.1 (by simp[Ag.live])
     | ref h1 h2 =>
       rw[j1] at h1
       cases h1
       rw[j4] at h2
       cases h2
       cases x<;>simp only[SameS] at hk
       · obtain⟨rfl,rfl⟩:=hk;exact .ref j2 j5
     | blk h1 h2 =>
       rw[j1] at h1
       cases h1
       rw[j4] at h2
       cases h2
       cases x<;>simp only[SameS] at hk
       subst hk;exact .blk j2 j5
 · rw[Option.map_eq_some_iff] at h;obtain⟨k,hi,rfl⟩:=h;obtain⟨y,x,hd,j1,j2,j3,j4,j5⟩:=he _ _ hi;have ho:=hy.one rfl;rcases G9 j3 with ⟨rfl,rfl⟩|hk
   · exact .litgone j2 ho
   · cases hy with
     | litgone h1=>rw[j1] at h1;cases h1;exact absurd hk.live.1 (by simp[Ag.live])
     | lit h1 h2 =>
       rw[j1] at h1
       cases h1
       rw[j4] at h2
       cases h2
       cases x<;>simp only[SameS] at hk
       exact .lit j2 j5
 · rw[Option.map_eq_some_iff] at h;obtain⟨k,hi,rfl⟩:=h;obtain⟨y,x,hd,j1,j2,j3,j4,j5⟩:=he _ _ hi;have ho:=hy.one rfl;rcases G9 j3 with ⟨rfl,rfl⟩|hk
   · exact .lost j2 ho
   · cases hy with
     | lost h1=>rw[j1] at h1;cases h1;exact absurd hk.live.1 (by simp[Ag.live])
     | ptr h1 h2 h3 =>
       rw[j4] at h3
       cases h3
       exact .ptr j2 hk.live.2 j5
 · rw[Option.map_eq_some_iff] at h;obtain⟨k,hi,rfl⟩:=h;obtain⟨y,x,hd,j1,j2,j3,j4,j5⟩:=he _ _ hi;have ho:=hy.one rfl;rcases G9 j3 with ⟨rfl,rfl⟩|hk
   · exact .elost j2 ho
   · cases hy with
     | elost h1=>rw[j1] at h1;cases h1;exact absurd hk.live.1 (by simp[Ag.live])
     | eptr h1 h2 =>
       rw[j1] at h1
       cases h1
       rw[j4] at h2
       cases h2
       cases x<;>simp only[SameS] at hk
       · exact .eptr j2 j5
     | qptr h1 h2 =>
       rw[j1] at h1
       cases h1
       rw[j4] at h2
       cases h2
       cases x<;>simp only[SameS] at hk
       subst hk;exact .qptr j2 j5
 · cases h;cases hy;exact .nil _
 · cases h;cases hy with|d hx=>exact .d (hx.mono hk)
 · cases h;cases hy with|cptr u hG' hc hr=>exact .cptr u (hG _ hG') hc (fun j d hd=>(hr j d hd).mono hk)
 · cases h;exact .any _
 · cases h;cases hy;exact .nilp
 · cases h
theorem iL (he:qK π φ' sl' φ'' sl'') (hG:∀ b,G b→G' b) {xs ys:List V} {vs:List Value} (h:Mf π ys=some xs) (hl:vs.length=ys.length) (hv:∀ (i:Nat) (y:V) (v:Value),ys[i]? = some y→vs[i]? = some v→VR w G φ' sl' y v) :
 vs.length=xs.length∧∀ (i:Nat) (x:V) (v:Value),xs[i]? = some x→vs[i]? = some v→VR w G' φ'' sl'' x v:=by
 obtain⟨k1,k2⟩:=PP h;refine⟨by omega,fun i x v hx hv'=>?_⟩;have hi:i<ys.length:=by rw[←k1];exact (zz1.1 hx).1
 obtain⟨x',hx',hr⟩:=k2 i _ (zz0 hi);rw[hx] at hx'
 cases hx'
 exact eN he hG hr (hv i _ v (zz0 hi) hv')
theorem push (he:qK π φ' sl' φ'' sl'') (hG:∀ b,G b→G' b) {x y:V} {v:Value} (h:tT π y=some x) (hy:VR w G φ' sl' y v):VR w G' φ'' sl'' x v:=by
 unfold tT at h;split at h
 · rw[Option.map_eq_some_iff] at h;obtain⟨xs,hr,rfl⟩:=h
   cases hy with
   | agg hl h1 hv=>obtain⟨k1,k2⟩:=iL he hG hr hl hv;exact .agg k1 h1 k2
 · rw[Option.map_eq_some_iff] at h;obtain⟨xs,hr,rfl⟩:=h
   cases hy with
   | fn hl hv=>obtain⟨k1,k2⟩:=iL he hG hr hl hv;exact .fn k1 k2
 · exact eN he hG h hy
theorem YS:∀ {ys xs:List V},bW π ys=some xs→xs.length=ys.length∧∀ (i:Nat) (y:V),ys[i]? = some y→∃ x,xs[i]? = some x∧tT π y=some x
 | [],xs,h=>by simp[bW] at h;subst h;exact⟨rfl,fun i y h=>by simp at h⟩
 | y::ys,xs,h=>by
   unfold bW at h;split at h
   · rename_i x xs' h1 h2
     cases h
     obtain⟨k1,k2⟩:=YS h2;refine⟨by simp[k1],fun i y' hy=>?_⟩
     match i with
     | 0=>simp at hy;subst hy;exact⟨x,rfl,h1⟩
     | i+1=>simpa using k2 i y' (by simpa using hy)
   · cases h
theorem vG (he:qK π φ' sl' φ'' sl'') (hG:∀ b,G b→G' b) {x y:V} {v:Value} (h:aQ π y=some x) (hy:VR w G φ' sl' y v):VR w G' φ'' sl'' x v:=by
 unfold aQ at h;split at h
 · rw[Option.map_eq_some_iff] at h;obtain⟨xs,hr,rfl⟩:=h
   cases hy with
   | tup hl hv =>
     obtain⟨k1,k2⟩:=YS hr;refine .tup (by omega) fun i x v hx hv'=>?_;rename_i ys vs;have hi:i<ys.length:=by rw[←k1];exact (zz1.1 hx).1
     obtain⟨x',hx',hr⟩:=k2 i _ (zz0 hi);rw[hx] at hx'
     cases hx'
     exact push he hG hr (hv i _ v (zz0 hi) hv')
 · exact push he hG h hy
theorem zJ (he:qK π φ' sl' φ'' sl'') (hG:∀ b,G b→G' b) {x y:Ag} {h:Option Nat×Nat} {F:List Nat} (hr:SY π y=some x) (hy:SR P w G φ' sl' y h F):SR P w G' φ'' sl'' x h F:=by
 have hk:∀ b,G b→G' b∧∀ o,w.cell? ⟨b,o,none⟩=w.cell? ⟨b,o,none⟩:=fun b hb=>⟨hG b hb,fun _=>rfl⟩;unfold SY at hr;split at hr
 · rename_i t ow es
   cases hr
   cases ow with
   | true=>exact hy
   | false=>exact RowOf.stay hy (fun _ _=>rfl) fun _ _ _ _ _ hr=>hr.mono hk
 · rename_i t ys;rw[Option.map_eq_some_iff] at hr;obtain⟨xs,hr,rfl⟩:=hr;obtain⟨g,cur,e1,e2,e3,e4,e5⟩:=hy;obtain⟨k1,k2⟩:=PP hr;refine⟨g,cur,e1,e2,e3,by omega,fun i x v hx hv=>?_⟩;have hi:i<ys.length:=by rw[←k1];exact (zz1.1 hx).1
   obtain⟨x',hx',hr'⟩:=k2 i _ (zz0 hi);rw[hx] at hx'
   cases hx'
   have:=e5 i _ v (zz0 hi) hv;exact⟨eN he hG hr' this.1,this.2⟩
 · cases hr;exact hy
 · cases hr;exact hy
 · cases hr
theorem Sl:∀ {ks:List Nat},I7 sl ks→∀ k∈ks,∃ t ow es,sl[k]? = some (.arr t ow es)
 | [],_,k,hk=>by simp at hk
 | q::ks,h,k,hk=>by
   rcases List.mem_cons.1 hk with rfl|hk
   · exact h.1
   · exact Sl h.2 k hk
theorem mO (hm:BM P w0 φ sl w Fs) {ks:List Nat} (hk:∀ k∈ks,∃ t ow es,sl[k]? = some (.arr t ow es)) (hG:∀ b,good w0.R φ sl w b→good w0.R φ (kill ks sl) w b) (hF:∀ k∈ks,∀ F,Fs[k]? = some F→∀ b∈F,good w0.R φ (kill ks sl) w b)
 (ht:Turn P w0 φ sl w φ (kill ks sl) w) {x:V} {v:Value} (hx:VR w (good w0.R φ sl w) φ sl x v):VR w (good w0.R φ (kill ks sl) w) φ (kill ks sl) (K0 sl ks x) v:=by
 have v0:∀ {x:V} {v:Value},VR w (good w0.R φ sl w) φ sl x v→VR w (good w0.R φ (kill ks sl) w) φ (kill ks sl) (Kf sl ks x) v:=by
  intro x v hx;unfold Kf;split
  · rename_i s;split
    · rename_i hs;split
      · rename_i t ow es he;exact .d (J4 (x:=.ref s) (by simp[GT,he]) hm hx hG fun s' e F hF'=>by cases e;exact hF _ hs F hF')
      · exact hx.mono ht.2.hk ht.2.hs ht.2.hp
    · exact hx.mono ht.2.hk ht.2.hs ht.2.hp
  · exact hx.mono ht.2.hk ht.2.hs ht.2.hp
 unfold K0;split
 · cases hx with
   | agg hl h1 hv =>
     refine .agg (by simpa using hl) h1 fun i x v hx hv'=>?_;rw[ACF,Option.map_eq_some_iff] at hx;obtain⟨y,hy,rfl⟩:=hx;exact v0 (hv i y v hy hv')
 · cases hx with
   | fn hl hv =>
     refine .fn (by simpa using hl) fun i x v hx hv'=>?_;rw[ACF,Option.map_eq_some_iff] at hx;obtain⟨y,hy,rfl⟩:=hx;exact v0 (hv i y v hy hv')
 · exact v0 hx
theorem Wd:∀ {ys xs:List Ag},Mh π ys=some xs→xs.length=ys.length∧∀ (i:Nat) (y:Ag),ys[i]? = some y→∃ x,xs[i]? = some x∧SY π y=some x
 | [],xs,h=>by simp[Mh] at h;subst h;exact⟨rfl,fun i y h=>by simp at h⟩
 | y::ys,xs,h=>by
   unfold Mh at h;split at h
   · rename_i x xs' h1 h2
     cases h
     obtain⟨k1,k2⟩:=Wd h2;refine⟨by simp[k1],fun i y' hy=>?_⟩
     match i with
     | 0=>simp at hy;subst hy;exact⟨x,rfl,h1⟩
     | i+1=>simpa using k2 i y' (by simpa using hy)
   · cases h
theorem Rl:∀ {xs ys:List Ag},AZ xs ys→xs.length≤ys.length∧∀ (i:Nat) (x:Ag),xs[i]? = some x→∃ y,ys[i]? = some y∧Later x y
 | [],ys,_=>⟨Nat.zero_le _,fun i x h=>by simp at h⟩
 | x::xs,[],h=>h.elim
 | x::xs,y::ys,h=>by
   obtain⟨k1,k2⟩:=Rl h.2;refine⟨by simp;omega,fun i x' hx=>?_⟩
   match i with
   | 0=>simp at hx;subst hx;exact⟨y,rfl,h.1⟩
   | i+1=>simpa using k2 i x' (by simpa using hx)
end
section
variable {P:Program} {w0:DP} {w w':World} {φ φ' φ'':B6} {σ σ':St} {a:Act} {sl sl' sl'':List Ag} {Fs Fs':List (List Nat)} {π:List Nat} {G G':Nat→Prop}
theorem WN {x y z u:Ag} (h:SameS x y) (k:Later y z) (r:SY π z=some u):Later x u:=by
 rcases G9 r with ⟨rfl,rfl⟩|hk
 · cases x<;>first | trivial|(cases y<;>exact h.elim)
 · cases x<;>cases y<;>first | exact h.elim|skip
   · cases z<;>first | exact k.elim|skip
     · cases u<;>exact hk.elim
     · cases u<;>first | exact hk.elim|skip
       obtain⟨_,rfl⟩:=h;obtain⟨_,rfl⟩:=hk;exact k
   · cases z<;>first | exact k.elim|skip
     · cases u<;>exact hk.elim
     · cases u<;>first | exact hk.elim|trivial
   · cases z<;>first | exact k.elim|skip
     · cases u<;>exact hk.elim
     · cases u<;>first | exact hk.elim|skip
       obtain rfl:_=_:=h;obtain rfl:_=_:=hk;exact k
theorem Pd:∀ {ys:List Ag},Bi ys→∀ y∈ys,y.live
 | [],_,y,h=>by simp at h
 | x::xs,h,y,hy=>by
   rcases List.mem_cons.1 hy with rfl|hy
   · exact h.1
   · exact Pd h.2 y hy
theorem aL (hst:w0.st=false) (hm:BM P w0 φ sl w Fs) (hn:π.Nodup) {slc slc':List Ag} (hs:Ed true sl π π slc) (hlv:Bi slc) {φ':B6} {Fc':List (List Nat)} {R:Nat→Prop}
 (hR:∀ b,R b↔(good w0.R φ sl w b∨b∈(List.zipWith Lx slc (Cs π Fs [])).flatten∨w.heap.size≤b))
 {B:DP} (hBw:B.w=w) (hBT:B.T=top (Cs π φ (none,0)) slc) (hBB:∀ b,B.B b↔b∈(List.zipWith Lx slc (Cs π Fs [])).flatten) (hBH:B.H=Cs π φ (none,0)) (hBR:B.R=R)
 (hmc:BM P B φ' slc' w' Fc') (hlat:AZ slc slc') {ys:List Ag} (hys:Mh (π++List.range' sl.length (slc'.length - π.length)) slc'=some ys) :
 ∃ φ'',Turn P w0 φ sl w φ'' (BJ sl π (ys.take π.length)++ys.drop π.length) w'∧qK (π++List.range' sl.length (slc'.length - π.length)) φ' slc' φ'' (BJ sl π (ys.take π.length)++ys.drop π.length) ∧
   ∀ b,good R φ' slc' w' b→good w0.R φ'' (BJ sl π (ys.take π.length)++ys.drop π.length) w' b:=by
 obtain⟨s1,s2⟩:=HB hs;obtain⟨y1,y2⟩:=Wd hys;obtain⟨l1,l2⟩:=Rl hlat
 have hkl:∀ k∈π,k<sl.length:=fun k hk=>by
  obtain⟨i,hi,rfl⟩:=List.mem_iff_getElem.1 hk;obtain⟨x,hx,_⟩:=s2 i _ _ (zz0 hi) (zz0 (by omega));exact (zz1.1 hx).1
 obtain⟨hg,hl,_⟩:=LZ (st:=true) (w0:={ w0 with st:=true,rn:=by simp }) (G:=fun _=>True) rfl ⟨hm.only,hm.tops,hm.flen,hm.Flen,hm.nd,hm.ge,hm.pin,hm.sr⟩ hn hs (fun _ _=>trivial) (by simp);have hpl:π.length≤slc'.length:=by omega
 have htk:(ys.take π.length).length=π.length:=by simp;omega
 have hFc':=hmc.Flen;have hφc':=hmc.flen
 have hname:∀ {i k:Nat},(π++List.range' sl.length (slc'.length - π.length))[i]? = some k→(i<π.length∧π[i]? = some k)∨(π.length≤i∧i<slc'.length∧k=sl.length+(i - π.length)):=by
  intro i k h;by_cases hi:i<π.length
  · rw[zz4 hi] at h;exact .inl ⟨hi,h⟩
  · rw[zz5 (by omega)] at h;have hlt:=(zz1.1 h).1;rw[List.length_range'] at hlt;rw[List.getElem?_range' hlt] at h
    cases h
    exact .inr ⟨by omega,by omega,by omega⟩
 let sl2:=BJ sl π (ys.take π.length)++ys.drop π.length
 let φ2:=φ++φ'.drop π.length
 let Fs2:=BJ Fs π (Fc'.take π.length)++Fc'.drop π.length
 have hsl2:sl2=BJ sl π (ys.take π.length)++ys.drop π.length:=rfl
 have atOld:∀ {j:Nat},j∉π→j<sl.length→sl2[j]? = sl[j]?∧φ2[j]? = φ[j]?∧Fs2[j]? = Fs[j]?:=by
  intro j hj hlt;refine⟨?_,?_,?_⟩
  · show (BJ sl π (ys.take π.length)++ys.drop π.length)[j]? = _;rw[zz4 (by rw[CC];exact hlt),FI _ _ _ hj]
  · show (φ++φ'.drop π.length)[j]? = _;rw[zz4 (by rw[hm.flen];exact hlt)]
  · show (BJ Fs π (Fc'.take π.length)++Fc'.drop π.length)[j]? = _;rw[zz4 (by rw[CC,hm.Flen];exact hlt),FI _ _ _ hj]
 have atKept:∀ {i k:Nat},π[i]? = some k→sl2[k]? = ys[i]?∧φ2[k]? = φ'[i]?∧Fs2[k]? = Fc'[i]?:=by
  intro i k hi;have hk:=hkl k (zz6 hi);have hil:=(zz1.1 hi).1;refine⟨?_,?_,?_⟩
  · show (BJ sl π (ys.take π.length)++ys.drop π.length)[k]? = _;rw[zz4 (by rw[CC];exact hk),Nj π sl _ hn hkl htk.symm hi,ACi,if_pos hil]
  · show (φ++φ'.drop π.length)[k]? = _;rw[zz4 (by rw[hm.flen];exact hk)];obtain⟨x,y,h,_,_,k3,k4,_⟩:=hg.at_ i k hi;have:=(hmc.pin i h (by rw[hBH];exact k4)).1;rw[k3,this]
  · show (BJ Fs π (Fc'.take π.length)++Fc'.drop π.length)[k]? = _;rw[zz4 (by rw[CC,hm.Flen];exact hk),Nj π Fs _ hn (fun k hk=>by rw[hm.Flen];exact hkl k hk) (by simp;omega) hi,ACi,if_pos hil]
 have atNew:∀ {i:Nat},π.length≤i→sl2[sl.length+(i - π.length)]? = ys[i]?∧φ2[sl.length+(i - π.length)]? = φ'[i]?∧Fs2[sl.length+(i - π.length)]? = Fc'[i]?:=by
  intro i hi;refine⟨?_,?_,?_⟩
  · show (BJ sl π (ys.take π.length)++ys.drop π.length)[_]? = _;rw[zz5 (by rw[CC];omega),CC,ACj]
    congr 1;omega
  · show (φ++φ'.drop π.length)[_]? = _;rw[zz5 (by rw[hm.flen];omega),hm.flen,ACj]
    congr 1;omega
  · show (BJ Fs π (Fc'.take π.length)++Fc'.drop π.length)[_]? = _;rw[zz5 (by rw[CC,hm.Flen];omega),CC,hm.Flen,ACj]
    congr 1;omega
 have atMid:∀ {i k:Nat},(π++List.range' sl.length (slc'.length - π.length))[i]? = some k→sl2[k]? = ys[i]?∧φ2[k]? = φ'[i]?∧Fs2[k]? = Fc'[i]?:=by
  intro i k h;rcases hname h with ⟨_,h⟩|⟨h1,_,rfl⟩
  · exact atKept h
  · exact atNew h1
 have hlen2:sl2.length=sl.length+(slc'.length - π.length):=by
  show (BJ sl π (ys.take π.length)++ys.drop π.length).length=_;rw[ACg,CC,List.length_drop,y1]
 have split:∀ {j:Nat},j<sl2.length→(j∉π∧j<sl.length)∨∃ i,(π++List.range' sl.length (slc'.length - π.length))[i]? = some j∧i<slc'.length:=by
  intro j hj;by_cases h1:j<sl.length
  · by_cases h2:j∈π
    · obtain⟨i,hi,rfl⟩:=List.mem_iff_getElem.1 h2;exact .inr ⟨i,by rw[zz4 hi];exact zz0 hi,by omega⟩
    · exact .inl ⟨h2,h1⟩
  · refine .inr ⟨π.length+(j - sl.length),?_,by omega⟩;rw[zz5 (by omega),show π.length+(j - sl.length) - π.length=j - sl.length by omega,List.getElem?_range' (by omega)]
    congr 1;omega
 have hemb:qK (π++List.range' sl.length (slc'.length - π.length)) φ' slc' φ2 sl2:=by
  intro i k hi;obtain⟨k1,k2,k3⟩:=atMid hi;have hil:i<slc'.length:=by rcases hname hi with ⟨h,_⟩|⟨_,h,_⟩<;>omega
  obtain⟨x,hx,hr⟩:=y2 i _ (zz0 hil);have hh:φ'[i]? = some (φ'[i]'(by omega)):=zz0 _;exact⟨_,x,_,zz0 hil,by rw[k1];exact hx,hr,hh,by rw[k2];exact hh⟩
 have htc:∀ b,top (Cs π φ (none,0)) slc b→∃ (k:Nat) (F:List Nat),k∈π∧Fs[k]? = some F∧b∈F:=by
  intro b hb;obtain⟨k,x,c,k1,k2,k3,k4⟩:=Pm hg hb;obtain⟨hd,F,h1,h2,h3⟩:=hm.at_ k2;rw[k4] at h1
  cases h1
  exact⟨k,F,k1,h2,h3.head k3⟩
 have htc2:∀ b,top (Cs π φ (none,0)) slc b→top φ sl b:=by
  intro b hb;obtain⟨k,x,c,k1,k2,k3,k4⟩:=Pm hg hb;exact⟨k,x,c,k2,k3,k4⟩
 have top2:∀ b,top φ2 sl2 b→(∃ (j:Nat) (x:Ag) (c:Nat),j∉π∧sl[j]? = some x∧x.live∧φ[j]? = some (some b,c))∨top φ' slc' b:=by
  rintro b ⟨j,x,c,h1,h2,h3⟩;rcases split (zz1.1 h1).1 with ⟨k1,k2⟩|⟨i,k1,k2⟩
  · obtain⟨q1,q2,_⟩:=atOld k1 k2;exact .inl ⟨j,x,c,k1,by rw[←q1];exact h1,h2,by rw[←q2];exact h3⟩
  · obtain⟨y,x',h,q1,q2,q3,q4,q5⟩:=hemb i j k1;rw[h1] at q2
    cases q2
    rw[h3] at q5
    cases q5
    rcases G9 q3 with ⟨_,rfl⟩|hk
    · exact h2.elim
    · exact .inr ⟨i,y,c,q1,hk.live.1,q4⟩
 have topc:∀ b,top φ' slc' b→top (Cs π φ (none,0)) slc b∨w.heap.size≤b:=by
  intro b hb;have:=hmc.tops b hb;rw[hBT,hBw] at this;exact this
 have cnt_le:∀ q,Dj q (List.zipWith Lx slc (Cs π Fs []))≤(AH Fs π).count q:=by
  intro q;have e:Dj q (Cs π Fs [])=(AH Fs π).count q:=rfl;rw[←e];exact Oq q _ _
 have hFl:∀ k∈π,k<Fs.length:=fun k hk=>by rw[hm.Flen];exact hkl k hk
 have cnt2:∀ q,Dj q Fs2+(AH Fs π).count q=Dj q Fs+Dj q Fc':=by
  intro q;have h1:=OM q π Fs (Fc'.take π.length) hn hFl (by simp;omega)
  have h2:Dj q (Fc'.take π.length)+Dj q (Fc'.drop π.length)=Dj q Fc':=by
   have:Dj q (Fc'.take π.length++Fc'.drop π.length)=Dj q Fc':=by rw[List.take_append_drop]
   simp only[Dj,ACK,List.count_append] at this ⊢;exact this
  have h3:Dj q Fs2=Dj q (BJ Fs π (Fc'.take π.length))+Dj q (Fc'.drop π.length):=by
   show Dj q (BJ Fs π (Fc'.take π.length)++Fc'.drop π.length)=_;simp only[Dj,ACK,List.count_append]
  omega
 have cntk:∀ q,(AH Fs π).count q≤Dj q Fs:=fun q=>by have:=Dr q hn hFl;omega
 have one:∀ q,Dj q Fs≤1:=fun q=>List.nodup_iff_count.1 hm.nd q;have onec:∀ q,Dj q Fc'≤1:=fun q=>List.nodup_iff_count.1 hmc.nd q
 have hge:∀ q∈Fc'.flatten,q∈(List.zipWith Lx slc (Cs π Fs [])).flatten∨w.heap.size≤q:=by
  intro q hq;rcases hmc.ge q hq with h|h
  · exact .inl ((hBB q).1 h)
  · rw[hBw] at h;exact .inr h
 have big:∀ q,w.heap.size≤q→Dj q Fs=0:=fun q hq=>List.count_eq_zero.2 fun h=>by have:=hm.lt q h;omega
 have nd2:Fs2.flatten.Nodup:=by
  rw[List.nodup_iff_count];intro q;have h1:=cnt2 q;have h2:=one q;have h3:=onec q;have h4:=cntk q;simp only[Dj] at h1 h2 h3 h4;by_cases hq:q∈Fc'.flatten
  · rcases hge q hq with h|h
    · have h5:=cnt_le q;have h6:=List.count_pos_iff.2 h;simp only[Dj] at h5;omega
    · have h5:=big q h;simp only[Dj] at h5;omega
  · have h5:Fc'.flatten.count q=0:=List.count_eq_zero.2 hq;omega
 have hkept:QH B.T B.w w':=hmc.only;rw[hBT,hBw] at hkept
 have htop_old:∀ {b:Nat},w0.T b∨w0.w.heap.size≤b∨¬ top φ sl b:=by
  intro b;by_cases h:top φ sl b
  · rcases hm.tops b h with h|h
    · exact .inl h
    · exact .inr (.inl h)
  · exact .inr (.inr h)
 have only2:QH w0.T w0.w w':=by
  have h0:=hm.only;refine⟨hkept.os.trans h0.os,hkept.tape.trans h0.tape,hkept.output.trans h0.output,Nat.le_trans h0.size hkept.size,fun k hk hT=>?_⟩;have hkw:k<w.heap.size:=ACM hk h0.size;rw[hkept.block k hkw,h0.block k hk hT];intro ht;rcases hm.tops k (htc2 k ht) with h|h
  · exact hT h
  · omega
 have disj:∀ {j k:Nat} {F F2:List Nat} {b:Nat},j∉π→k∈π→Fs[j]? = some F→Fs[k]? = some F2→b∈F→b∈F2→False:=fun hj hk h1 h2 hb hb2=>Cf hm.nd h1 h2 (fun e=>hj (e▸hk)) _ hb hb2
 have hk2:∀ b,good w0.R φ sl w b→good w0.R φ2 sl2 w' b∧∀ o,w'.cell? ⟨b,o,none⟩=w.cell? ⟨b,o,none⟩:=by
  rintro b ⟨h1,h2,h3⟩;refine⟨⟨ACM h1 hkept.size,fun ht=>?_,h3⟩,fun o=>?_⟩
  · rcases top2 b ht with ⟨j,x,c,_,q2,q3,q4⟩|ht
    · exact h2 ⟨j,x,c,q2,q3,q4⟩
    · rcases topc b ht with h|h
      · exact h2 (htc2 b h)
      · omega
  · have:=hkept.block b h1 (fun ht=>h2 (htc2 b ht));simp only[World.cell?,this]
 have hs2:∀ (s:Nat) (x:Ag),sl[s]? = some x→∃ x',sl2[s]? = some x'∧Later x x':=by
  intro s x hx;have hsl:=(zz1.1 hx).1;by_cases hsp:s∈π
  · obtain⟨i,hi,rfl⟩:=List.mem_iff_getElem.1 hsp;have hpi:π[i]? = some π[i]:=zz0 hi;obtain⟨x',y,h,k1,k2,k3,k4,k5⟩:=hg.at_ i _ hpi;rw[hx] at k1
    cases k1
    obtain⟨q1,_,_⟩:=atKept hpi;obtain⟨z,z1,z2⟩:=l2 i y k2;obtain⟨u,u1,u2⟩:=y2 i z z1;rcases k5 with rfl|k5|⟨h0,-⟩
    · exact (Pd hlv _ (zz6 k2)).elim
    · exact⟨u,by rw[q1];exact u1,WN k5 z2 u2⟩
    · cases h0
  · obtain⟨q1,_,_⟩:=atOld hsp hsl;exact⟨x,by rw[q1];exact hx,Later.refl x⟩
 have hgd:∀ b,good R φ' slc' w' b→good w0.R φ2 sl2 w' b:=by
  rintro b ⟨h1,h2,h3⟩
  have hnt:∀ {j:Nat} {x:Ag} {c:Nat},j∉π→sl[j]? = some x→x.live→φ[j]? = some (some b,c)→False:=by
   intro j x c hj hx hxl hp;obtain⟨hd,F,k1,k2,k3⟩:=hm.at_ hx;rw[hp] at k1
   cases k1
   have hbF:=k3.head hxl;rcases (hR b).1 h3 with h|h|h
   · exact h.2.1 ⟨j,x,c,hx,hxl,hp⟩
   · have h4:=cnt_le b;have h5:=List.count_pos_iff.2 h;have h6:0<(AH Fs π).count b:=by simp only[Dj] at h4;omega
     obtain⟨F2,hF2,hb2⟩:=List.mem_flatten.1 (List.count_pos_iff.1 h6);obtain⟨k,hk,rfl⟩:=ACP.1 hF2;have hk3:Fs[k]? = some (Fs[k]'(hFl k hk)):=zz0 _;rw[hk3] at hb2;exact disj hj hk k2 hk3 hbF hb2
   · have:=k3.lt b hbF;omega
  refine⟨h1,fun ht=>?_,?_⟩
  · rcases top2 b ht with ⟨j,x,c,q1,q2,q3,q4⟩|ht
    · exact hnt q1 q2 q3 q4
    · exact h2 ht
  · rcases (hR b).1 h3 with h|h|h
    · exact h.2.2
    · have h4:=cnt_le b;have h5:=List.count_pos_iff.2 h;have h7:=cntk b;refine hm.rd hst (List.count_pos_iff.1 ?_);simp only[Dj] at h4 h7;omega
    · exact w0.rn hst b (.inr (Nat.le_trans hm.only.size h))
 have hp2:∀ (s:Nat) (h:Option Nat×Nat),φ[s]? = some h→sl[s]?≠some .unborn→φ2[s]? = some h:=by
  intro s h hh _;show (φ++φ'.drop π.length)[s]? = _;rw[zz4 (zz1.1 hh).1];exact hh
 refine⟨φ2,⟨⟨Fs2,only2,fun b hb=>?_,?_,?_,nd2,fun q hq=>?_,fun i h hi=>?_,fun s x hd F h1 h2 h3=>?_⟩,hk2,hs2,hp2⟩,hemb,hgd⟩
 · rcases top2 b hb with ⟨j,x,c,_,q2,q3,q4⟩|ht
   · exact hm.tops b ⟨j,x,c,q2,q3,q4⟩
   · rcases topc b ht with h|h
     · exact hm.tops b (htc2 b h)
     · exact .inr (Nat.le_trans hm.only.size h)
 · show (φ++φ'.drop π.length).length=(BJ sl π (ys.take π.length)++ys.drop π.length).length;rw[ACg,ACg,CC,List.length_drop,List.length_drop,hm.flen,y1,hφc']
 · show (BJ Fs π (Fc'.take π.length)++Fc'.drop π.length).length=(BJ sl π (ys.take π.length)++ys.drop π.length).length;rw[ACg,ACg,CC,CC,List.length_drop,List.length_drop,hm.Flen,y1,hFc']
 · have h1:=cnt2 q;have h2:=List.count_pos_iff.2 hq;have h4:=cntk q;simp only[Dj] at h1 h4;by_cases hqc:q∈Fc'.flatten
   · rcases hge q hqc with h|h
     · have h5:=cnt_le q;have h6:=List.count_pos_iff.2 h;simp only[Dj] at h5;exact hm.ge q (List.count_pos_iff.1 (by omega))
     · exact .inr (Nat.le_trans hm.only.size h)
   · have h5:Fc'.flatten.count q=0:=List.count_eq_zero.2 hqc;exact hm.ge q (List.count_pos_iff.1 (by omega))
 · obtain⟨p1,p2⟩:=hm.pin i h hi;refine⟨hp2 i h p1 p2,fun hu=>?_⟩;have hil:i<sl.length:=by rw[←hm.flen];exact (zz1.1 p1).1
   obtain⟨x',k1,k2⟩:=hs2 i _ (zz0 hil);rw[k1] at hu
   cases hu
   exact k2.unborn (fun e=>p2 (by rw[zz0 hil,e])) rfl
 · rcases split (zz1.1 h1).1 with ⟨k1,k2⟩|⟨i,k1,k2⟩
   · obtain⟨q1,q2,q3⟩:=atOld k1 k2;have h1':sl[s]? = some x:=by rw[←q1];exact h1
     have h3':Fs[s]? = some F:=by rw[←q3];exact h3
     have hsr:=hm.sr s x hd F h1' (by rw[←q2];exact h2) h3';refine hsr.mono (fun g hg=>?_) hk2 hs2 hp2;refine hkept.block g (hsr.lt g hg) fun ht=>?_;obtain⟨k,F2,e1,e2,e3⟩:=htc g ht;exact disj k1 e1 h3' e2 hg e3
   · obtain⟨y,x',h,q1,q2,q3,q4,q5⟩:=hemb i s k1;obtain⟨_,_,r3⟩:=atMid k1;rw[h1] at q2
     cases q2
     rw[h2] at q5
     cases q5
     have h3':Fc'[i]? = some F:=by rw[←r3];exact h3
     have hsr:=hmc.sr i y _ F q1 q4 h3';rw[hBR] at hsr;exact zJ hemb hgd q3 hsr
theorem Ny {m:Mode} (hst:w0.st=m.st) (hr:Dk P w0 φ σ a w) {f:FuncId} {xs:List V} {K:V→List Ag→Prop} (h:YQ P m σ.slots f xs K) {vs:List Value} (hl:vs.length=xs.length)
 (hv:∀ (i:Nat) (x:V) (v:Value),xs[i]? = some x→vs[i]? = some v→VR w (good w0.R φ σ.slots w) φ σ.slots x v) :
 C5 P f=true∧Calls P f vs.toArray w fun e w'=>∃ v φ' sl' z,e=.returned v∧Turn P w0 φ σ.slots w φ' sl' w'∧VR w' (good w0.R φ' sl' w') φ' sl' z v∧K z sl':=by
 obtain⟨_,h0,ks,π,args,slc,r,slc',⟨hcall,hlat,hcon⟩,hlv,hks,hka,hn,hsl,hta,r',ys,hb1,hb2,hK⟩:=h
 replace hst:=hst.trans h0
 obtain⟨Fs,hm⟩:=hr.mem;have hka':=Sl hka;obtain⟨t1,t2,t3⟩:=Gt hst hm hks (fun k hk=>by obtain⟨_,_,_,h⟩:=hka' k hk;exact⟨_,h,trivial⟩);obtain⟨Fs1,hm1⟩:=t1.1
 let R:Nat→Prop:=fun b=>good w0.R φ (kill ks σ.slots) w b∨b∈(List.zipWith Lx slc (Cs π Fs1 [])).flatten∨w.heap.size≤b
 have hG0:∀ {φ':B6},Gc true π φ (kill ks σ.slots) φ' slc→∀ b,good w0.R φ (kill ks σ.slots) w b→good R φ' slc w b:=by
  intro φ' hg b hb;refine⟨hb.1,fun ht=>?_,.inl hb⟩;obtain⟨k,x,c,_,k2,k3,k4⟩:=Pm hg ht;exact hb.2.1 ⟨k,x,c,k2,k3,k4⟩
 have hm1':BM P { w0 with st:=true,rn:=by simp } φ (kill ks σ.slots) w Fs1:=⟨hm1.only,hm1.tops,hm1.flen,hm1.Flen,hm1.nd,hm1.ge,hm1.pin,hm1.sr⟩;obtain⟨hg,_,_⟩:=LZ (G:=fun _=>True) rfl hm1' hn hsl (fun _ _=>trivial) (by simp);obtain⟨_,hls,hval⟩:=LZ (G:=good R (Cs π φ (none,0)) slc w) rfl hm1' hn hsl (hG0 hg) (by simp);obtain⟨s1,s2⟩:=HB hsl
 have hkl:∀ k∈π,k<Fs1.length:=fun k hk=>by
  obtain⟨i,hi,rfl⟩:=List.mem_iff_getElem.1 hk;obtain⟨x,hx,_⟩:=s2 i _ _ (zz0 hi) (zz0 (by omega));rw[hm1.Flen];exact (zz1.1 hx).1
 have hcnt:∀ q,Dj q (List.zipWith Lx slc (Cs π Fs1 []))≤Dj q Fs1:=fun q=>Nat.le_trans (Oq q _ _) (Wa q hn hkl)
 have hmc:BM P ⟨w,top (Cs π φ (none,0)) slc,(·∈(List.zipWith Lx slc (Cs π Fs1 [])).flatten),Cs π φ (none,0),R,false,fun _ b hb=>by rcases hb with h|h<;>first | exact .inr (.inl h)|exact .inr (.inr h)⟩ (Cs π φ (none,0)) slc w (List.zipWith Lx slc (Cs π Fs1 [])):=by
  refine⟨QH.refl _ _,fun b hb=>.inl hb,hls.flen,hls.Flen,Is hm1.nd hcnt,fun q hq=>.inl hq,fun i h hi=>⟨hi,fun hu=>?_⟩,hls.sr⟩;exact Pd hlv _ (zz6 hu)
 obtain⟨ta1,ta2⟩:=MA hta;refine⟨hcall,?_⟩
 have hargs:∀ (i:Nat) (y:V) (v:Value),args[i]? = some y→vs[i]? = some v→VR w (good R (Cs π φ (none,0)) slc w) (Cs π φ (none,0)) slc y v:=by
  intro i y v hy hv';obtain⟨x,hx,hle⟩:=ta2 i y hy;rw[ACF,Option.map_eq_some_iff] at hx;obtain⟨x0,hx0,rfl⟩:=hx;exact hval _ y v hle (mO hm hka' t2 t3 t1 (hv i x0 v hx0 hv'))
 refine (hcon w (Cs π φ (none,0)) (List.zipWith Lx slc (Cs π Fs1 [])) R (fun _ b hb=>by rcases hb with h|h<;>first | exact .inr (.inl h)|exact .inr (.inr h)) vs hmc (by rw[←ta1];simpa using hl) hargs).mono ?_;rintro e w' ⟨v,φ',Fs',rfl,hmc',hvr⟩;obtain⟨φ'',q1,q2,q3⟩:=aL hst hm1 hn hsl hlv (R:=R) (fun b=>Iff.rfl) rfl rfl (fun b=>Iff.rfl) rfl rfl hmc' hlat hb2;exact⟨v,φ'',_,r',rfl,t1.trans hm.flen q1,vG q2 q3 hb1 hvr,hK⟩
end
section
variable {P:Program} {w0:DP} {w w':World} {φ φ':B6} {σ:St} {a:Act} {sl sl':List Ag} {Fs Fs':List (List Nat)}
theorem ON (ks ks':List Nat):AH Fs (ks++ks')=AH Fs ks++AH Fs ks':=by simp[AH]
theorem NW (hm:BM P w0 φ sl w Fs) {v:V} {x:X} {ks:List Nat} {u:Value} (h:JW sl v=some (x,ks)) (hv:VR w (good w0.R φ sl w) φ sl v u):QB P w x u (AH Fs ks)∧ks.Nodup∧∀ k∈ks,k<Fs.length:=by
 have lt:∀ {ks:List Nat},(∀ k∈ks,∃ t es,sl[k]? = some (.arr t true es))→∀ k∈ks,k<Fs.length:=fun h k hk=>by
  obtain⟨_,_,h1⟩:=h k hk;rw[hm.Flen];exact (zz1.1 h1).1
 unfold JW at h;split at h
 · rw[Option.map_eq_some_iff] at h;obtain⟨⟨ds,ks'⟩,h1,h2⟩:=h
   cases h2
   cases hv with
   | agg hl hone hv =>
     rename_i vs us;obtain⟨k1,k2,k3⟩:=Fz hm h1 (vs:=us) ⟨hl,fun i x v hx hv'=>⟨hv i x v hx hv',hone v (zz6 hv')⟩⟩;exact⟨.agg k1,k2,lt k3⟩
 · split at h
   · rename_i h1
     cases h
     have hc:v.cell=true:=by
      cases v with
      | any=>simp[CT] at h1
      | tup=>simp[CT] at h1
      | agg vs=>simp[CT] at h1
      | _=>rfl
     obtain⟨k1,k2,k3⟩:=Fz hm h1 (vs:=[u]) ⟨rfl,fun i x v' hx hv'=>by
      match i with
      | 0=>simp at hx hv';subst hx hv';exact⟨hv,hv.one hc⟩
      | i+1=>simp at hx⟩
     exact⟨.d k1,k2,lt k3⟩
   · cases h
theorem Mj (hm:BM P w0 φ sl w Fs):∀ {vs:List V} {xs:List X} {ks:List Nat} {us:List Value},Ni sl vs=some (xs,ks)→us.length=vs.length→(∀ (i:Nat) (v:V) (u:Value),vs[i]? = some v→us[i]? = some u→VR w (good w0.R φ sl w) φ sl v u) →
 ∃ Gs:List (List Nat),us.length=xs.length∧Gs.length=xs.length∧(∀ (i:Nat) (x:X) (u:Value) (F:List Nat),xs[i]? = some x→us[i]? = some u→Gs[i]? = some F→QB P w x u F)∧Gs.flatten=AH Fs ks∧ks.Nodup∧∀ k∈ks,k<Fs.length
 | [],xs,ks,us,h,hl,_=>by
   simp[Ni] at h;obtain⟨rfl,rfl⟩:=h;exact⟨[],hl,rfl,fun i x u F hx=>by simp at hx,by simp[AH],by simp,by simp⟩
 | v::vs,xs,ks,[],h,hl,_=>by simp at hl
 | v::vs,xs,ks,u::us,h,hl,hv=>by
   unfold Ni at h;split at h
   · rename_i x k xs' ks' h1 h2;split at h
     · rename_i hd
       cases h
       obtain⟨k1,k2,k3⟩:=NW hm h1 (hv 0 v u rfl rfl);obtain⟨Gs,j1,j2,j3,j4,j5,j6⟩:=Mj hm h2 (us:=us) (by simpa using hl) (fun i v u hx hu=>hv (i+1) v u (by simpa using hx) (by simpa using hu));refine⟨AH Fs k::Gs,by simp[j1],by simp[j2],fun i y u' F hx hu hF=>?_,by rw[List.flatten_cons,j4,ON],?_,fun q hq=>?_⟩
       · match i with
         | 0=>simp at hx hu hF;subst hx hu hF;exact k1
         | i+1=>exact j3 i y u' F (by simpa using hx) (by simpa using hu) (by simpa using hF)
       · rw[zz8] at hd;refine List.nodup_append.2 ⟨k2,j5,fun a ha b hb e=>?_⟩;have:=hd a ha;subst e;simp[hb] at this
       · rcases ACE.1 hq with h|h
         · exact k3 q h
         · exact j6 q h
     · cases h
   · cases h
theorem Wk {m:Mode} (hst:w0.st=m.st) (hck:m.tc=true→m.st=true→w0.Apart) (hr:Dk P w0 φ σ a w) {f:FuncId} {xs:List V} {K:V→List Ag→Prop} (h:cL P m σ.slots f xs K) {vs:List Value} (hl:vs.length=xs.length)
 (hv:∀ (i:Nat) (x:V) (v:Value),xs[i]? = some x→vs[i]? = some v→VR w (good w0.R φ σ.slots w) φ σ.slots x v) :
 C5 P f=true∧Calls P f vs.toArray w fun e w'=>∃ v φ' sl' z,e=.returned v∧Turn P w0 φ σ.slots w φ' sl' w'∧VR w' (good w0.R φ' sl' w') φ' sl' z v∧K z sl':=by
 exact False.elim h.2.2
end
theorem St.put_slots (σ:St) (d:Option Nat) (x:V):(σ.put d x).slots=σ.slots:=by cases d<;>rfl
section
variable {P:Program} {w0:DP} {st:Bool} {w w':World} {φ φ':B6} {σ σ':St} {a:Act} {sl sl':List Ag} {Fs Fs':List (List Nat)} {u:Nat→Prop}
structure IP (u:Nat→Prop) (sl sl':List Ag):Prop where
 lt:∀ p,u p→p<sl.length
 len:sl'.length=sl.length
 on:∀ p,u p→sl'[p]? = some .unborn
 off:∀ p,¬ u p→sl'[p]? = sl[p]?
theorem IP.set (h:IP u sl sl') {k:Nat} (hk:¬ u k) (y:Ag):IP u (sl.set k y) (sl'.set k y):=by
 refine⟨fun p hp=>by rw[ACh];exact h.lt p hp,by rw[ACh,ACh,h.len],fun p hp=>?_,fun p hp=>?_⟩
 · rw[ACT (fun e=>by subst e;exact hk hp)];exact h.on p hp
 · rw[List.getElem?_set,List.getElem?_set,h.len,h.off p hp]
theorem IP.kills:∀ {ks:List Nat} {sl sl':List Ag},IP u sl sl'→(∀ k∈ks,¬ u k)→IP u (kill ks sl) (kill ks sl')
 | [],_,_,h,_=>h
 | k::ks,_,_,h,hk=>by
   have:=IP.kills (ks:=ks) (h.set (hk k (by simp)) .dead) fun k' hk'=>hk k' (by simp[hk']);exact this
theorem IP.append (h:IP u sl sl') (ys:List Ag):IP u (sl++ys) (sl'++ys):=by
 refine⟨fun p hp=>by rw[ACg];have:=h.lt p hp;omega,by rw[ACg,ACg,h.len],fun p hp=>?_,fun p hp=>?_⟩
 · rw[zz4 (by rw[h.len];exact h.lt p hp)];exact h.on p hp
 · by_cases hl:p<sl.length
   · rw[zz4 (by rw[h.len];exact hl),zz4 hl];exact h.off p hp
   · rw[zz5 (by rw[h.len];omega),zz5 (by omega),h.len]
theorem IP.known (h:IP u sl sl') {ns:List Nat} (hn:∀ s∈ns,¬ u s):H6 sl sl' ns:=fun s hs y hy=>by rw[h.off s (hn s hs)];exact hy
def Kept' (u:Nat→Prop) (sl r:List Ag):Prop:=∀ p,u p→r[p]? = sl[p]?
theorem Ln {k:Nat} (hk:¬ u k) (y:Ag):Kept' u sl (sl.set k y):=fun p hp=>ACT fun e=>by subst e;exact hk hp
theorem Kept'.trans {r r':List Ag} (h:Kept' u sl r) (h':Kept' u r r'):Kept' u sl r':=fun p hp=>(h' p hp).trans (h p hp)
theorem Hh:∀ {ks:List Nat} {sl:List Ag},(∀ k∈ks,¬ u k)→Kept' u sl (kill ks sl)
 | [],_,_=>fun _ _=>rfl
 | k::ks,_,h=>(Ln (h k (by simp)) .dead).trans (Hh fun k' hk'=>h k' (by simp[hk']))
theorem JM (h:IP u sl sl') (ys:List Ag):Kept' u sl (sl++ys):=fun p hp=>zz4 (h.lt p hp)
theorem Pb:∀ {xs:List V},(∀ s∈xs.flatMap AE,sl'[s]? = sl[s]?)→CT sl' xs=CT sl xs
 | [],_=>rfl
 | x::xs,h=>by
   have ih:=Pb (xs:=xs) fun s hs=>h s (by simp only[List.flatMap_cons,ACE];exact .inr hs);unfold CT;rw[ih]
   cases CT sl xs with
   | none=>rfl
   | some p =>
     obtain⟨ds,ks⟩:=p
     cases x with
     | ref s=>simp only[h s (by simp[AE])]
     | d x=>cases x<;>rfl
     | _=>rfl
theorem IQ:∀ {xs:List V},(∀ s∈xs.flatMap AE,sl'[s]? = sl[s]?)→Ds sl' xs=Ds sl xs
 | [],_=>rfl
 | x::xs,h=>by
   have ih:=IQ (xs:=xs) fun s hs=>h s (by simp only[List.flatMap_cons,ACE];exact .inr hs);unfold Ds;rw[ih]
   cases Ds sl xs with
   | none=>rfl
   | some p =>
     obtain⟨ds,ks⟩:=p
     cases x with
     | ref s=>simp only[h s (by simp[AE])]
     | _=>rfl
theorem PG:∀ {xs:List V} {ds:List D} {ks:List Nat},CT sl xs=some (ds,ks)→∀ k∈ks,k∈xs.flatMap AE
 | [],ds,ks,h=>by simp only[CT,Option.some.injEq,Prod.mk.injEq] at h;obtain⟨rfl,rfl⟩:=h;simp
 | x::xs,ds,ks,h=>by
   unfold CT at h;split at h
   · cases h
   rename_i ds' ks' h1;have q3:∀ k∈ks',k∈(x::xs).flatMap AE:=fun k hk=>by simp only[List.flatMap_cons,ACE];exact .inr (PG h1 k hk)
   split at h
   · cases h;exact q3
   · cases h;exact q3
   · cases h;exact q3
   · split at h
     · split at h
       · cases h
       · cases h
         intro k hk;rcases List.mem_cons.1 hk with rfl|hk
         · simp[AE]
         · exact q3 k hk
     · cases h
   · cases h
theorem Jk:∀ {xs:List V} {ds:List D} {ks:List Nat},Ds sl xs=some (ds,ks)→∀ k∈ks,k∈xs.flatMap AE
 | [],ds,ks,h=>by simp only[Ds,Option.some.injEq,Prod.mk.injEq] at h;obtain⟨rfl,rfl⟩:=h;simp
 | x::xs,ds,ks,h=>by
   unfold Ds at h;split at h
   · cases h
   rename_i ds' ks' h1;have q3:∀ k∈ks',k∈(x::xs).flatMap AE:=fun k hk=>by simp only[List.flatMap_cons,ACE];exact .inr (Jk h1 k hk)
   split at h
   · cases h;exact q3
   · cases h;exact q3
   · split at h
     · split at h
       · cases h
       · cases h
         intro k hk;rcases List.mem_cons.1 hk with rfl|hk
         · simp[AE]
         · exact q3 k hk
     · cases h
   · cases h
def MJ (u:Nat→Prop) (sl':List Ag):Prop:=∀ (s:Nat) (t:TypeId) (xs:List V),sl'[s]? = some (.var t xs)→∀ k∈xs.flatMap AE,¬ u k
theorem WI {y:V}:(Ba y).flatMap AE ⊆ DT y:=by
 intro s hs
 cases y<;>simp_all [Ba,DT,AE]
theorem QZ {x:V} (h:∀ s n,x≠.lit s n) (sl:List Ag):HM P sl x=match Ds sl [x] with
 | some ([d],ks)=>some (d,ks)
 | _=>none:=by
 cases x<;>first | rfl|exact absurd rfl (h _ _)
theorem Wl {x:V} {d:D} {ks:List Nat} (h:HM P sl x=some (d,ks)) (hm:IP u sl sl') (hcl:MJ u sl') (hn:∀ s∈AE x,¬ u s):HM P sl' x=some (d,ks)∧∀ k∈ks,¬ u k:=by
 cases x with
 | lit s n =>
   have hs1:=hn s (by simp[AE]);have e1:=hm.off s hs1;unfold HM at h ⊢;simp only[e1] at h ⊢;split at h
   · rename_i e cells hs;rw[hs] at e1;have hc:=hcl _ _ _ e1;simp only[IQ fun s hs=>hm.off s (hc s hs)];refine⟨h,?_⟩;split at h
     · rename_i ds ks' hf;split at h
       · cases h
         intro k hk;rcases List.mem_cons.1 hk with rfl|hk
         · exact hs1
         · exact hc k (Jk hf k hk)
       · cases h
     · cases h
   · cases h
 | _ =>
   all_goals
    rw[QZ (fun s n e=>by cases e)] at h ⊢;rw[IQ (sl:=sl) (sl':=sl') (fun s hs=>hm.off s (hn s (by simpa using hs)))];refine⟨h,?_⟩;split at h
    · rename_i hf
      cases h
      exact fun k hk=>hn k (by simpa using Jk hf k hk)
    · cases h
theorem WW {t:TypeId} {p y:V} {r:List Ag} (h:H8 P st t sl p y=some r) (hm:IP u sl sl') (hp:∀ s∈AE p,¬ u s) (hy:∀ s∈DT y,¬ u s):∃ r',H8 P st t sl' p y=some r'∧IP u r r'∧Kept' u sl r:=by
 have hcy:∀ s∈(Ba y).flatMap AE,¬ u s:=fun s hs=>hy s (WI hs);have hof:=fun s hs=>hm.off s (hcy s hs);unfold H8 at h ⊢;split at h
 · rename_i s o;have hs1:=hp s (by simp[AE]);simp only[hm.off s hs1];split at h
   · split at h
     · rename_i hc
       cases h
       exact⟨_,if_pos hc,hm.set hs1 _,Ln hs1 _⟩
     · cases h
   · cases h
 · rename_i s n i j;have hs1:=hp s (by simp[AE]);simp only[hm.off s hs1,Pb hof,IQ hof];split at h
   · rename_i t' ow es hs;split at h
     · rename_i e he;split at h
       · rename_i hc;rw[if_pos hc];split at h
         · rename_i ds ks hT;split at h
           · cases h
           · rename_i hns
             cases h
             have hku:∀ k∈ks,¬ u k:=fun k hk=>hcy k (PG hT k hk);exact⟨_,if_neg hns,(hm.set hs1 _).kills hku,(Ln hs1 _).trans (Hh hku)⟩
         · rename_i hno;split at h
           · rename_i hst;split at h
             · rename_i ds ks hF;split at h
               · cases h
               · rename_i hns
                 cases h
                 have hku:∀ k∈ks,¬ u k:=fun k hk=>hcy k (Jk hF k hk);refine⟨(Go.Proofs.Ytnjedabjbeipeaa.kill ks sl').set s (.arr t' false (es.set i (A9 e j ds))),?_,(hm.kills hku).set hs1 _,(Hh hku).trans (Ln hs1 _)⟩;rw[if_pos hst]
                 first
                 | exact if_neg hns
                 | (simp only[hF];exact if_neg hns)
             · cases h
           · cases h
       · cases h
     · cases h
   · cases h
 · cases h
theorem bK {e:TypeId} {x:V} {ow:Bool} {es:List (List D)} {ks:List Nat} (h:H0 sl e x=some (ow,es,ks)) (hm:IP u sl sl') (hx:∀ s∈AE x,¬ u s):H0 sl' e x=some (ow,es,ks)∧∀ k∈ks,¬ u k:=by
 unfold H0 at h ⊢;split at h
 · cases h;exact⟨rfl,by simp⟩
 · rename_i s;have hs1:=hx s (by simp[AE]);simp only[hm.off s hs1];refine⟨h,?_⟩;split at h
   · split at h
     · cases h;simpa using hs1
     · cases h
   · cases h
 · cases h
theorem Ub {y:V} {es:List (List D)} {o:Option Nat} (h:QE sl y=some (es,o)) (hm:IP u sl sl') (hy:∀ s∈AE y,¬ u s):QE sl' y=some (es,o):=by
 unfold QE at h ⊢;split at h
 · exact h
 · exact h
 · rename_i s;simp only[hm.off s (hy s (by simp[AE]))];exact h
 · cases h
theorem Vo {t:TypeId} {x y:V} {K K':V→List Ag→Prop} (h:Lz P sl t x y K) (hm:IP u sl sl') (hcl:MJ u sl') (hx:∀ s∈AE x,¬ u s) (hy:∀ s∈AE y,¬ u s) (hK:∀ z r,K z r→∀ r',IP u r r'→Kept' u sl r→K' z r'):Lz P sl' t x y K':=by
 obtain⟨e,ow,es,ks,h1,h2,h3,h4,h5,h6⟩:=h;obtain⟨q1,q2⟩:=bK h2 hm hx;refine⟨e,ow,es,ks,h1,q1,h3,h4,h5,?_⟩;have push:∀ (ks:List Nat) (y:Ag),(∀ k∈ks,¬ u k)→IP u (Go.Proofs.Ytnjedabjbeipeaa.kill ks sl++[y]) (Go.Proofs.Ytnjedabjbeipeaa.kill ks sl'++[y])∧Kept' u sl (Go.Proofs.Ytnjedabjbeipeaa.kill ks sl++[y]):=fun ks y hk=>⟨(hm.kills hk).append _,(Hh hk).trans (JM (hm.kills hk) _)⟩;rcases h6 with ⟨es2,o,k1,k2,k3,k4,k5,k6⟩|⟨s2,es2,rfl,k1,k2,k3,k4,k5⟩|⟨s2,n,cells,ds,ks2,rfl,k1,k2,k3,k4,k5,k6,k7⟩|⟨es2,o,k1,k2,k3,k4,k5⟩
 · obtain⟨p1,p2⟩:=push ks (.arr e ow (es++es2)) q2;exact .inl ⟨es2,o,Ub k1 hm hy,k2,k3,k4,k5,by rw[hm.len];exact hK _ _ k6 _ p1 p2⟩
 · have hs:=hy s2 (by simp[AE])
   obtain⟨p1,p2⟩:=push (s2::ks) (.arr e true (es++es2)) fun k hk=>by
    rcases List.mem_cons.1 hk with rfl|hk
    · exact hs
    · exact q2 k hk
   exact .inr (.inl ⟨s2,es2,rfl,by rw[hm.off _ hs];exact k1,k2,k3,k4,by rw[hm.len];exact hK _ _ k5 _ p1 p2⟩)
 · have hs:=hy s2 (by simp[AE]);have e1:sl'[s2]? = some (.var e cells):=by rw[hm.off _ hs];exact k1
   have hc:=hcl _ _ _ e1
   obtain⟨p1,p2⟩:=push (s2::(ks++ks2)) (.arr e true (es++Ca (P.cellsOf e) n ds)) fun k hk=>by
    rcases List.mem_cons.1 hk with rfl|hk
    · exact hs
    rcases ACE.1 hk with hk|hk
    · exact q2 k hk
    · exact hc k (PG k2 k hk)
   exact .inr (.inr (.inl ⟨s2,n,cells,ds,ks2,rfl,e1,by rw[Pb fun s hs=>hm.off s (hc s hs)];exact k2,k3,k4,k5,k6,by rw[hm.len];exact hK _ _ k7 _ p1 p2⟩))
 · obtain⟨p1,p2⟩:=push ks (.arr e false (es++es2)) q2;exact .inr (.inr (.inr ⟨es2,o,Ub k1 hm hy,k2,k3,k4,by rw[hm.len];exact hK _ _ k5 _ p1 p2⟩))
theorem WK {t:TypeId} {x y:V} {K K':V→List Ag→Prop} (h:IV P st sl t x y K) (hm:IP u sl sl') (hcl:MJ u sl') (hx:∀ s∈AE x,¬ u s) (hy:∀ s∈AE y,¬ u s) (hK:∀ z r,K z r→∀ r',IP u r r'→Kept' u sl r→K' z r'):IV P st sl' t x y K':=by
 refine⟨h.1,?_⟩;rcases h.2 with h|⟨d,ks,h1,h2⟩
 · exact .inl (Vo h hm hcl hx hy hK)
 · obtain⟨q1,q2⟩:=Wl h1 hm hcl hy;refine .inr ⟨d,ks,q1,Vo h2 (hm.kills q2) (fun s t xs hs=>?_) hx (by simp[AE]) fun z r hz r' hr hk=>hK z r hz r' hr ((Hh q2).trans hk)⟩;rw[FD] at hs;split at hs
   · cases hs
   · exact hcl s t xs hs
def Jn (P:Program) (st:Bool) (o:Oper) (σ:St) (z:V) (r:List Ag):Prop :=
 match o.op with
 | .store t p y=>H8 P st t σ.slots (σ.eval p) (evalT P t σ y)=some r∧z=.any
 | .call c=>match c.callee with
   | .builtin .append=>match c.args.toList,c.argTypes.toList with
     | [x,y],[t,t']=>t'=t∧IV P st σ.slots t (evalT P t σ x) (evalT P t σ y) fun z' r'=>z'=z∧r'=r
     | _,_=>False
   | _=>∃ news,AQ P st σ.slots.length σ o z news∧r=σ.slots++news
 | _=>∃ news,AQ P st σ.slots.length σ o z news∧r=σ.slots++news
theorem Wh {t:TypeId} {x y:V} {K:V→List Ag→Prop} (h:Lz P sl t x y K):∃ z r,K z r∧Lz P sl t x y fun z' r'=>z'=z∧r'=r:=by
 obtain⟨e,ow,es,ks,h1,h2,h3,h4,h5,h6⟩:=h;rcases h6 with ⟨es2,o,k1,k2,k3,k4,k5,k6⟩|⟨s2,es2,rfl,k1,k2,k3,k4,k5⟩|⟨s2,n,cells,ds,ks2,rfl,k1,k2,k3,k4,k5,k6,k7⟩|⟨es2,o,k1,k2,k3,k4,k5⟩
 · exact⟨_,_,k6,e,ow,es,ks,h1,h2,h3,h4,h5,.inl ⟨es2,o,k1,k2,k3,k4,k5,rfl,rfl⟩⟩
 · exact⟨_,_,k5,e,ow,es,ks,h1,h2,h3,h4,h5,.inr (.inl ⟨s2,es2,rfl,k1,k2,k3,k4,rfl,rfl⟩)⟩
 · exact⟨_,_,k7,e,ow,es,ks,h1,h2,h3,h4,h5,.inr (.inr (.inl ⟨s2,n,cells,ds,ks2,rfl,k1,k2,k3,k4,k5,k6,rfl,rfl⟩))⟩
 · exact⟨_,_,k5,e,ow,es,ks,h1,h2,h3,h4,h5,.inr (.inr (.inr ⟨es2,o,k1,k2,k3,k4,rfl,rfl⟩))⟩
theorem O5 {t:TypeId} {x y:V} {K:V→List Ag→Prop} (h:IV P st sl t x y K):∃ z r,K z r∧IV P st sl t x y fun z' r'=>z'=z∧r'=r:=by
 rcases h.2 with h'|⟨d,ks,h1,h2⟩
 · obtain⟨z,r,h2,h3⟩:=Wh h';exact⟨z,r,h2,h.1,.inl h3⟩
 · obtain⟨z,r,h3,h4⟩:=Wh h2;exact⟨z,r,h3,h.1,.inr ⟨d,ks,h1,h4⟩⟩
theorem Ui {o:Oper} {z:V} {news:List Ag} (h1:∀ t p y,o.op≠.store t p y) (h2:∀ c,o.op=.call c→c.callee≠.builtin .append) (h:AQ P st σ.slots.length σ o z news):Jn P st o σ z (σ.slots++news):=by
 unfold Jn;split
 · rename_i ho;exact absurd ho (h1 _ _ _)
 · rename_i c ho;split
   · rename_i hc;exact absurd hc (h2 c ho)
   · exact⟨news,h,rfl⟩
 · exact⟨news,h,rfl⟩
theorem jQ {m:Mode} (htc:m.tc=false) {o:Oper} {K:St→Prop} (h:VT P m o K σ):∃ z r,Jn P m.st o σ z r∧K (St.put ⟨σ.tmps,r⟩ o.dst z):=by
 by_cases hs:∃ t p y,o.op=.store t p y
 · obtain⟨t,p,y,ho⟩:=hs;unfold VT at h;simp only[ho] at h;obtain⟨r,h1,h2⟩:=h;refine⟨.any,r,?_,h2⟩;unfold Jn;simp only[ho];exact⟨h1,trivial⟩
 have hs':∀ t p y,o.op≠.store t p y:=fun t p y e=>hs ⟨t,p,y,e⟩;by_cases ha:∃ c,o.op=.call c∧c.callee=.builtin .append
 · obtain⟨c,ho,hc⟩:=ha;unfold VT at h;simp only[ho,hc] at h;split at h
   · rename_i hx ht;obtain⟨rfl,h|⟨h0,-⟩⟩:=h
     rotate_left
     · rw[htc] at h0;cases h0
     obtain⟨z,r,h1,h2⟩:=O5 h;refine⟨z,r,?_,h1⟩;unfold Jn;simp only[ho,hc,hx,ht];exact⟨trivial,h2⟩
   · exact h.elim
 have ha':∀ c,o.op=.call c→c.callee≠.builtin .append:=fun c e e2=>ha ⟨c,e,e2⟩;by_cases hmu:∃ t x k y,o.op=.mapUpdate t x k y
 · obtain⟨t,x,k,y,ho⟩:=hmu;unfold VT at h;simp only[ho] at h;have:=h.1;rw[htc] at this
   cases this
 have hq:DG o=true:=by
  unfold DG;split
  · rename_i ho;exact absurd ho (hs' _ _ _)
  · rename_i ho;exact absurd ⟨_,_,_,_,ho⟩ hmu
  · rename_i c ho;split
    · rename_i hc;exact absurd hc (ha' c ho)
    · rfl
  · rfl
 obtain⟨x,news,k1,k2⟩:=Ks htc hq h;exact⟨x,_,Ui hs' ha' k1,k2⟩
theorem UX (hst:w0.st=st) {o:Oper} {z:V} {r:List Ag} (h:Jn P st o σ z r) (hr:Dk P w0 φ σ a w) {KC:Act→World→Prop} {Q:Exit→Act→World→Prop} (hK:∀ φ' a' w',Dk P w0 φ' (St.put ⟨σ.tmps,r⟩ o.dst z) a' w'→KC a' w'):o.wp P a w KC Q:=by
 obtain⟨Fs,hm⟩:=hr.mem
 have quiet:(∃ news,AQ P st σ.slots.length σ o z news∧r=σ.slots++news)→o.wp P a w KC Q:=by
  rintro⟨news,h1,rfl⟩;refine Ml hst h1 hr fun v w' hq=>?_;obtain⟨φ',h3,h4⟩:=Rf hm hq;exact hK φ' _ _ (hr.turn h3 h4 o.dst)
 unfold Jn at h;split at h
 · rename_i t p y ho;obtain⟨h1,rfl⟩:=h;obtain⟨w',h3,h4⟩:=Ma hst h1 hm (hr.eval p) (hr.evalT t y);have hrun:(execOp a.eval o).run P w=.ok .skip w':=by simp[execOp,ho,h3]
   unfold Oper.wp;rw[hrun];exact hK φ _ _ (hr.turn h4 (.any _) o.dst)
 · rename_i c ho;split at h
   · rename_i hc;split at h
     · rename_i x y t t' hx ht;obtain⟨rfl,h⟩:=h;obtain⟨v,w',φ',sl',z',h1,h2,h3,rfl,rfl⟩:=LN hst (ty:=o.type) hm (hr.evalT _ x) (hr.evalT _ y) h;have hargs:c.args=#[x,y]:=by rw[←Array.toArray_toList (xs:=c.args),hx]
       have htys:c.argTypes=#[t',t']:=by rw[←Array.toArray_toList (xs:=c.argTypes),ht]
       have hrun:(execOp a.eval o).run P w=.ok (.value v) w':=by
        simp[execOp,ho,resolve,hc,invoke,builtin,hargs,htys,h1]
       exact BX hrun (hK φ' _ _ (hr.turn h2 h3 o.dst))
     · exact h.elim
   · exact quiet h
 · exact quiet h
structure X6 (o:Oper) (u:Nat→Prop) (σ σ':St):Prop where
 ev:∀ x∈o.op.operands.toList,σ'.eval x=σ.eval x
 kn:∀ x∈o.op.operands.toList,∀ s∈DH (σ.eval x),¬ u s
theorem KR:∀ {xs:List V} {vs:List Value},E0 xs vs=true→xs.flatMap AE=[]
 | [],_,_=>rfl
 | x::xs,[],h=>by simp[E0] at h
 | x::xs,v::vs,h=>by
   simp only[E0,Bool.and_eq_true] at h;rw[List.flatMap_cons,KR h.2,List.append_nil];have h1:=h.1;unfold Sz at h1;split at h1<;>first | rfl|cases h1
theorem JE {t:TypeId} {x:Operand} (h:∀ s∈DH (σ.eval x),¬ u s):∀ s∈DH (evalT P t σ x),¬ u s:=by
 unfold evalT;split
 · split
   · simp[DH,DT,AE]
   · simp[DH,DT,AE]
 · split
   · split
     · rename_i hz hc;intro s hs;have:s∈List.flatMap AE _:=hs;rw[KR hc] at this
       cases this
     · simp[DH,DT,AE]
   · simp[DH,DT,AE]
 · exact h
theorem IW {t:TypeId} {x:Operand} (h:σ'.eval x=σ.eval x):evalT P t σ' x=evalT P t σ x:=by
 unfold evalT;split<;>first | rfl|exact h
theorem ZV {o:Oper} {z:V} {r:List Ag} (h:Jn P st o σ z r) (hm:IP u σ.slots σ'.slots) (hcl:MJ u σ'.slots) (hs:X6 o u σ σ'):∃ r',Jn P st o σ' z r'∧IP u r r'∧Kept' u σ.slots r:=by
 have hsame:Ou o σ σ':=⟨hs.ev,fun x hx=>hm.known (hs.kn x hx)⟩;have hev:=hs.ev;have hkn:=hs.kn
 have quiet:(∃ news,AQ P st σ.slots.length σ o z news∧r=σ.slots++news)→∃ r',(∃ news,AQ P st σ'.slots.length σ' o z news∧r'=σ'.slots++news)∧IP u r r'∧Kept' u σ.slots r:=by
  rintro⟨news,h1,rfl⟩;exact⟨_,⟨news,by rw[hm.len];exact SP h1 hsame,rfl⟩,hm.append _,JM hm _⟩
 unfold Jn at h ⊢;split at h
 · rename_i t p y ho;rw[ho] at hev hkn;obtain⟨h1,rfl⟩:=h;obtain⟨r',q1,q2,q3⟩:=WW h1 hm (fun s hs=>hkn p (by simp[Op.operands]) s (FX _ s hs)) (fun s hs=>JE (hkn y (by simp[Op.operands])) s (Qa _ s hs));refine⟨r',⟨?_,rfl⟩,q2,q3⟩;rw[hev p (by simp[Op.operands]),IW (hev y (by simp[Op.operands]))];exact q1
 · rename_i c ho;rw[ho] at hev hkn;split at h
   · rename_i hc;split at h
     · rename_i x y t t' hx ht;obtain⟨rfl,h⟩:=h;have hmx:x∈(Op.call c).operands.toList:=by simp[Op.operands,Call.operands,hc,hx]
       have hmy:y∈(Op.call c).operands.toList:=by simp[Op.operands,Call.operands,hc,hx]
       simp only[hc];have:=WK (K':=fun z' r''=>z'=z∧IP u r r''∧Kept' u σ.slots r) h hm hcl (fun s hs=>JE (hkn x hmx) s (FX _ s hs)) (fun s hs=>JE (hkn y hmy) s (FX _ s hs)) (fun z' r' hz r'' h1 h2=>by obtain⟨rfl,rfl⟩:=hz;exact⟨rfl,h1,h2⟩);rw[←IW (hev x hmx),←IW (hev y hmy)] at this;obtain⟨z',r',⟨rfl,k1,k2⟩,k3⟩:=O5 this;exact⟨r',⟨trivial,k3⟩,k1,k2⟩
     · exact h.elim
   · exact quiet h
 · rename_i hn1 hn2;exact quiet h
theorem VD {sl sl':List Ag} {π:List Nat} {x y:V} (h:pN true sl π x y):pN true sl' π x y:=by
 rcases h with h|h|⟨d,_,h,_⟩
 · exact .inl h
 · exact .inr (.inl h)
 · cases h
theorem Kp {sl sl':List Ag} {π:List Nat}:∀ {xs ys:List V},To true sl π xs ys→To true sl' π xs ys
 | [],[],_=>trivial
 | _::_,_::_,h=>⟨VD h.1,Kp h.2⟩
 | [],_::_,h=>h.elim
 | _::_,[],h=>h.elim
theorem hD {sl sl':List Ag} {π:List Nat} {x y:V} (h:oE true sl π x y):oE true sl' π x y:=by
 cases y with
 | agg ys=>obtain⟨xs,h1,h2⟩:=h;exact⟨xs,h1,Kp h2⟩
 | fn f ys=>obtain⟨xs,h1,h2⟩:=h;exact⟨xs,h1,Kp h2⟩
 | _=>exact VD h
theorem NP {sl sl':List Ag} {π:List Nat}:∀ {xs ys:List V},Hn true sl π xs ys→Hn true sl' π xs ys
 | [],[],_=>trivial
 | _::_,_::_,h=>⟨hD h.1,NP h.2⟩
 | [],_::_,h=>h.elim
 | _::_,[],h=>h.elim
theorem fW {sl sl':List Ag} {π:List Nat} {x y:Ag} (h:nW true sl π x y):nW true sl' π x y:=by
 cases y with
 | var t ys=>obtain⟨xs,h1,h2⟩:=h;exact⟨xs,h1,Kp h2⟩
 | _=>exact h
theorem NK {π:List Nat}:∀ {ks:List Nat} {ys:List Ag},(∀ k∈ks,sl'[k]? = sl[k]?)→Ed true sl π ks ys→Ed true sl' π ks ys
 | [],[],_,_=>trivial
 | k::ks,y::ys,hk,h=>by
   obtain⟨⟨x,h1,h2⟩,h3⟩:=h;exact⟨⟨x,by rw[hk k (by simp)];exact h1,fW h2⟩,NK (fun j hj=>hk j (by simp[hj])) h3⟩
 | [],_::_,_,h=>h.elim
 | _::_,[],_,h=>h.elim
theorem Qh:∀ {ks:List Nat},(∀ k∈ks,sl'[k]? = sl[k]?)→I7 sl ks→I7 sl' ks
 | [],_,_=>trivial
 | k::ks,hk,h=>⟨by rw[hk k (by simp)];exact h.1,Qh (fun j hj=>hk j (by simp[hj])) h.2⟩
theorem ZK {ks:List Nat} (hk:∀ k∈ks,sl'[k]? = sl[k]?) (x:V):Kf sl' ks x=Kf sl ks x:=by
 unfold Kf
 cases x with
 | ref s =>
   simp only;split
   · rename_i h;rw[hk s h]
   · rfl
 | _=>rfl
theorem aP {ks:List Nat} (hk:∀ k∈ks,sl'[k]? = sl[k]?) (x:V):K0 sl' ks x=K0 sl ks x:=by
 have e:Kf sl' ks=Kf sl ks:=funext (ZK hk);unfold K0;rw[e]
theorem IP.sets {π:List Nat}:∀ {ys:List Ag} {sl sl':List Ag},IP u sl sl'→(∀ k∈π,¬ u k)→IP u (BJ sl π ys) (BJ sl' π ys):=by
 induction π with
 | nil=>intro ys sl sl' h _;cases ys<;>exact h
 | cons k π ih =>
   intro ys sl sl' h hk
   cases ys with
   | nil=>exact h
   | cons y ys=>exact ih (h.set (hk k (by simp)) y) fun j hj=>hk j (by simp[hj])
theorem bN {π:List Nat}:∀ {ys:List Ag} {sl:List Ag},(∀ k∈π,¬ u k)→Kept' u sl (BJ sl π ys):=by
 intro ys sl h p hp;exact FI π sl ys fun hm=>h p hm hp
theorem bX {m:Mode} {o:Oper} {z:V} {r:List Ag} (h:Rv P m o σ z r) (hm:IP u σ.slots σ'.slots) (hcl:MJ u σ'.slots) (hs:X6 o u σ σ'):∃ r',Rv P m o σ' z r'∧IP u r r'∧Kept' u σ.slots r:=by
 obtain⟨h0,v,f,caps,c,ho,hc,hfv,ks,π,args,slc,q,slc',hcon,hlv,hks,hka,hn,hsl,hta,hnear,r1,ys,hb1,hb2,rfl,rfl⟩:=h;have hops:∀ x∈c.args.toList,x∈o.op.operands.toList:=fun x hx=>by rw[ho];simp[Op.operands,Call.operands,hc];right;simpa using hx
 have hopv:v∈o.op.operands.toList:=by rw[ho];simp[Op.operands,Call.operands,hc]
 have hev:c.args.toList.map σ'.eval=c.args.toList.map σ.eval:=List.map_congr_left fun x hx=>hs.ev x (hops x hx);have hfv':σ'.eval v=.fn f caps:=by rw[hs.ev v hopv];exact hfv
 have hnu:∀ s∈(.fn f caps::c.args.toList.map σ.eval).flatMap DH,¬ u s:=fun s hsm=>by
  obtain⟨x,hx,hxs⟩:=List.mem_flatMap.1 hsm;rcases List.mem_cons.1 hx with rfl|hx
  · exact hs.kn v hopv s (by rw[hfv];exact hxs)
  · obtain⟨y,hy,rfl⟩:=ACP.1 hx;exact hs.kn y (hops y hy) s hxs
 have hno:∀ k∈ks++π,¬ u k:=fun k hk=>by
  rcases hnear k hk with h|⟨s,h1,t,cells,h2,h3⟩
  · exact hnu k h
  · exact hcl s t cells (by rw[hm.off s (hnu s h1)];exact h2) k h3
 have hksu:∀ k∈ks,¬ u k:=fun k hk=>hno k (List.mem_append_left _ hk);have hπu:∀ k∈π,¬ u k:=fun k hk=>hno k (List.mem_append_right _ hk);have hmk:=hm.kills hksu;have eks:∀ k∈ks,σ'.slots[k]? = σ.slots[k]?:=fun k hk=>hm.off k (hksu k hk);have hlen:(kill ks σ'.slots).length=(kill ks σ.slots).length:=hmk.len;refine⟨BJ (kill ks σ'.slots) π (ys.take π.length)++ys.drop π.length,⟨h0,v,f,caps,c,ho,hc,hfv',ks,π,args,slc,q,slc',hcon,hlv,hks,Qh eks hka,hn,NK (fun k hk=>hmk.off k (hπu k hk)) hsl,?_,?_,r1,ys,?_,?_,rfl,rfl⟩,(hmk.sets hπu).append _,?_⟩
 · rw[hev,funext (aP eks)];exact NP hta
 · rw[hev];intro k hk;rcases hnear k hk with h|⟨s,h1,t,cells,h2,h3⟩
   · exact .inl h
   · exact .inr ⟨s,h1,t,cells,by rw[hm.off s (hnu s h1)];exact h2,h3⟩
 · rw[hlen];exact hb1
 · rw[hlen];exact hb2
 · exact (Hh hksu).trans ((bN (ys:=ys.take π.length) hπu).trans (JM (hmk.sets (ys:=ys.take π.length) hπu) _))
theorem cE {m:Mode} {o:Oper} {z:V} {r:List Ag} (h:Rv P m o σ z r):σ.slots.length≤r.length:=by
 obtain⟨h0,v,f,caps,c,ho,hc,hfv,ks,π,args,slc,q,slc',hcon,hlv,hks,hka,hn,hsl,hta,hnear,r1,ys,hb1,hb2,rfl,rfl⟩:=h;rw[ACg,CC,BF];omega
theorem Dk.closed (hr:Dk P w0 φ σ a w) (hm:IP u sl σ.slots):MJ u σ.slots:=by
 intro s t xs hs k hk hu;obtain⟨Fs,hmem⟩:=hr.mem;have hl:=(zz1.1 hs).1;obtain⟨g,cur,h1,h2,h3,h4,h5⟩:=hmem.sr s _ _ _ hs (zz0 (by rw[hmem.flen];exact hl)) (zz0 (by rw[hmem.Flen];exact hl));obtain⟨x,hx,hk⟩:=List.mem_flatMap.1 hk;obtain⟨i,hi,rfl⟩:=List.mem_iff_getElem.1 hx;have:=(h5 i _ _ (zz0 hi) (Array.getElem?_eq_getElem (by omega))).1;exact this.named k (FX _ k hk) (hm.on k hu)
end
section
variable {P:Program} {m:Mode} {w0:DP} {st:Bool} {w w':World} {φ φ':B6} {σ σ':St} {a:Act} {sl sl':List Ag} {ops:Array Oper} {l:List Oper} {ts:List (Nat×List Nat)} {tr:List Tr} {T0:List V} {S0:List Ag}
theorem RO (h1:Ko l=true) (h2:Kn l=true) (h3:Kx l=true):DrawnB l:=by
 refine⟨fun {j o} ho e he hp=>?_,fun {j o} ho e he hp=>?_,fun {i j oi oj} hij hi hj hcl=>?_,fun {j g b o} ho hg=>?_⟩
 · have:=Cw h1 ho;simp only[zz8] at this;have:=this e he;rw[if_pos hp] at this;simpa using this
 · have:=Cw h1 ho;simp only[zz8] at this;have:=this e he;rw[if_neg (by simp[hp])] at this;exact this
 · have:=Cw h2 hj;have h5:(!Go.Proofs.Ytnjedabjbeipeaa.clash oi oj||(CE oj).contains i)=true:=Cw this (i:=i) (o:=oi) (by rw[ACi,if_pos hij];exact hi);rw[hcl] at h5;simpa using h5
 · have:=Cw h3 ho;simp only[hg,Bool.and_eq_true,decide_eq_true_eq] at this;obtain⟨⟨k1,k2⟩,k3⟩:=this;refine⟨k1,by simpa using k2,fun {og} hog {i o2} hi hd hn=>?_⟩;have:=Cw k3 hi;simp only[hog,Bool.or_eq_true,decide_eq_true_eq,Bool.not_eq_true',beq_eq_false_iff_ne,ne_eq] at this;rcases this with (h|h)|h
   · exact h
   · rw[Option.isNone_iff_eq_none] at h;exact absurd h hn
   · exact absurd hd h
structure MG (l:List Oper) (ts:List (Nat×List Nat)):Prop extends DrawnB l where
 quiet:∀ {i:Nat} {o:Oper},l[i]? = some o→HK ts i=false→DG o=true
 free:∀ {i:Nat} {o:Oper},l[i]? = some o→HK ts i=false→∀ d∈CE o,HK ts d=false
 lt:∀ {p:Nat×List Nat},p∈ts→p.1<l.length
 nodup:(ts.map (·.1)).Nodup
 free2:∀ {p:Nat×List Nat} {i:Nat},p∈ts→i<l.length→HK ts i=false→((Br l).getD p.1 0).testBit i=false→i∈p.2
theorem Ql {bm:List Nat}:∀ {ts:List (Nat×List Nat)},UW bm ts=true→(ts.map (·.1)).Nodup
 | [],_=>by simp
 | p::ts,h=>by
   simp only[UW,Bool.and_eq_true,zz8,decide_eq_true_eq] at h;rw[List.map_cons,List.nodup_cons];refine⟨fun hm=>?_,Ql h.2⟩;obtain⟨q,hq,e⟩:=ACP.1 hm;have:=(h.1 q hq).1;omega
theorem RR:∀ {ts:List (Nat×List Nat)} {p q:Nat×List Nat},(ts.map (·.1)).Nodup→p∈ts→q∈ts.erase p→q.1≠p.1
 | [],_,_,_,hp,_=>by cases hp
 | r::ts,p,q,hn,hp,hq=>by
   rw[List.map_cons,List.nodup_cons] at hn;by_cases e:r=p
   · subst e;rw[List.erase_cons_head] at hq;intro h;exact hn.1 (h▸List.mem_map_of_mem hq)
   · rw[List.erase_cons_tail (by simpa using e)] at hq;have hp2:p∈ts:=(List.mem_cons.1 hp).resolve_left (Ne.symm e);rcases List.mem_cons.1 hq with rfl|hq
     · intro h;exact hn.1 (h▸List.mem_map_of_mem hp2)
     · exact RR hn.2 hp2 hq
theorem ZA (h:Lw ops ts=true):MG ops.toList ts:=by
 unfold Lw at h;simp only[Bool.and_eq_true] at h;obtain⟨⟨⟨⟨⟨⟨h1,h2⟩,h3⟩,h4⟩,h5⟩,h6⟩,h7⟩:=h;refine⟨RO h1 h2 h3,fun {i o} ho ht=>?_,fun {i o} ho ht d hd=>?_,fun {p} hp=>?_,Ql h6,fun {p i} hp hi ht hb=>?_⟩
 · have:=Cw h4 ho;simp only[ht,Bool.false_or,Bool.and_eq_true] at this;exact this.1
 · have:=Cw h4 ho;simp only[ht,Bool.false_or,Bool.and_eq_true,zz8,Bool.not_eq_true'] at this;exact this.2 d hd
 · simp only[zz8,decide_eq_true_eq] at h5;exact h5 p hp
 · simp only[zz8,ACJ] at h7;have:=h7 p hp i hi;simp only[ht,hb,Bool.false_or] at this;simpa using this
theorem ZI (h:Su ops ts=true):MG ops.toList ts:=by
 unfold Su at h;simp only[Bool.and_eq_true] at h;obtain⟨⟨⟨⟨⟨⟨h1,h2⟩,h3⟩,h4⟩,h5⟩,h6⟩,h7⟩:=h;refine⟨RO h1 h2 h3,fun {i o} ho ht=>?_,fun {i o} ho ht d hd=>?_,fun {p} hp=>?_,by simpa using h6,fun {p i} hp hi ht hb=>?_⟩
 · have:=Cw h4 ho;simp only[ht,Bool.false_or,Bool.and_eq_true] at this;exact this.1
 · have:=Cw h4 ho;simp only[ht,Bool.false_or,Bool.and_eq_true,zz8,Bool.not_eq_true'] at this;exact this.2 d hd
 · simp only[zz8,decide_eq_true_eq] at h5;exact h5 p hp
 · simp only[zz8,ACJ] at h7;have:=h7 p hp i hi;simp only[ht,hb,Bool.false_or] at this;simpa using this
theorem Qo {ns:List Nat}:∀ {N:List (Nat×List Nat)},EY sl sl' ns N→∀ {i:Nat} {ss:List Nat},(i,ss)∈N→i∈ns→∀ s∈ss,sl'[s]? = sl[s]?
 | [],_,_,_,h,_,_,_=>by cases h
 | (j,rs)::N,h,i,ss,hin,hi,s,hs=>by
   rcases List.mem_cons.1 hin with e|hin
   · cases e
     have h1:=h.1;rw[if_pos (by simpa using hi)] at h1
     have key:∀ rs:List Nat,SD sl sl' rs→s∈rs→sl'[s]? = sl[s]?:=by
      intro rs
      induction rs with
      | nil=>intro _ h;cases h
      | cons r rs ih =>
        intro h hs;rcases List.mem_cons.1 hs with rfl|hs
        · exact h.1
        · exact ih h.2 hs
     exact key _ h1 hs
   · exact Qo h.2 hin hi s hs
theorem UY (htc:m.tc=false) {o:Oper} {K:St→Prop} (h:Bb P m ops K [o] σ):(B5 ops σ.tmps o=some true∧VT P m o K σ)∨(B5 ops σ.tmps o=some false∧K (σ.put o.dst (.tup []))):=by
 unfold Bb at h;split at h
 · rename_i hg;exact .inl ⟨by simp[B5,hg],h⟩
 · rename_i j b hg;split at h
   · exact h.elim
   rename_i d hdd;split at h
   · rename_i t ht
     have hgA:B5 ops σ.tmps o=some (t==b):=by
      unfold B5;rw[hg];simp only[hdd];have:(σ.tmps[d]?).getD .any=.d (.bool t):=ht;rw[this]
     have hsame:=VY ht (by simp);by_cases htb:t=b
     · subst htb;have h5:=h.1 rfl;rw[hsame] at h5;exact .inl ⟨by rw[hgA];simp,h5⟩
     · have htn:t=!b:=by cases t<;>cases b<;>simp_all
       have h5:=h.2 htn;rw[←htn,hsame] at h5;exact .inr ⟨by rw[hgA];simp[htb],h5⟩
   · rename_i ht
     have hgA:B5 ops σ.tmps o=some false:=by
      unfold B5;rw[hg];simp only[hdd];have:(σ.tmps[d]?).getD .any=.tup []:=ht;rw[this]
     exact .inr ⟨hgA,h⟩
   · exact h.elim
theorem Im (hr:Dk P w0 φ σ a w) {o:Oper} {t:Bool} (ht:B5 ops σ.tmps o=some t):Region.wanted o (yielded ops a.tmps)=t:=by
 unfold B5 at ht;unfold Region.wanted
 cases hg:o.guard with
 | none=>rw[hg] at ht;simpa using ht
 | some gb =>
   obtain⟨g,b⟩:=gb;rw[hg] at ht;simp only at ht ⊢;split at ht
   · rename_i d hdd;split at ht
     · rename_i t' ht';have hv:=hr.eval (.tmp d);have hget:σ.eval (.tmp d)=.d (.bool t'):=ht';rw[hget] at hv;have hv':=hv.bool
       have hl:d<a.tmps.size:=by
        rcases Nat.lt_or_ge d a.tmps.size with h|h
        · exact h
        · have:a.eval (.tmp d)=undef:=by show a.tmps.getD d undef=_;simp[Array.getD,Nat.not_lt.2 h]
          rw[this] at hv';cases hv'
       have hy:yielded ops a.tmps g=some t':=by
        unfold yielded;rw[hdd]
        have:a.tmps[d]? = some (.bool t'):=by
         rw[Array.getElem?_eq_getElem hl];have:a.eval (.tmp d)=a.tmps[d]:=by show a.tmps.getD d undef=_;simp[Array.getD,hl]
         rw[←this,hv']
        simp[this]
       rw[hy];simpa using ht
     · rename_i ht';have hv:=hr.eval (.tmp d);have hget:σ.eval (.tmp d)=.tup []:=ht';rw[hget] at hv;have hv':=hv.undef
       have hy:yielded ops a.tmps g=none:=by
        unfold yielded;rw[hdd]
        cases hq:a.tmps[d]? with
        | none=>simp[hq]
        | some u =>
          have:a.eval (.tmp d)=u:=by show a.tmps.getD d undef=_;rw[Array.getD_eq_getD_getElem?,hq];rfl
          rw[this] at hv';subst hv';simp[hq,undef]
       rw[hy];simpa using ht
     · cases ht
   · cases ht
def FC (ts:List (Nat×List Nat)) (i:Nat):Bool:=!HK ts i
def V0 (P:Program) (m:Mode) (ops:Array Oper) (ts:List (Nat×List Nat)) (N:List (Nat×List Nat)) (tr:List Tr) (T0:List V) (S0:List Ag) (i:Nat) (o:Oper) (e:Tr):Prop :=
 e.dst=o.dst∧((B5 ops (TT tr T0 (FC ts) i) o=some true∧AQ P m.st (SS tr S0 Ar i).length ⟨TT tr T0 (FC ts) i,SS tr S0 Ar i⟩ o e.x e.news)∨(B5 ops (TT tr T0 (FC ts) i) o=some false∧e.x=.tup []∧e.news=[])) ∧
  (NO ts i=true→(i,Gh o ⟨TT tr T0 (FC ts) i,SS tr S0 Ar i⟩)∈N)
theorem Sq (htc:m.tc=false) {K:List (Nat×List Nat)→St→Prop} (hq:∀ {i:Nat} {o:Oper},l[i]? = some o→HK ts i=false→DG o=true):∀ (d k:Nat),k+d=l.length→∀ (tr:List Tr) (N:List (Nat×List Nat)),tr.length=k →
 (∀ i o e,l[i]? = some o→tr[i]? = some e→(HK ts i=false→V0 P m ops ts N tr T0 S0 i o e)∧(HK ts i=true→e.dst=none∧e.news=[])) →
 KX P m ops ts K (KW ts k (l.drop k)) N ⟨TT tr T0 (FC ts) k,SS tr S0 Ar k⟩ →
 ∃ tr N,tr.length=l.length∧(∀ i o e,l[i]? = some o→tr[i]? = some e→(HK ts i=false→V0 P m ops ts N tr T0 S0 i o e)∧(HK ts i=true→e.dst=none∧e.news=[]))∧K N ⟨TT tr T0 (FC ts) l.length,SS tr S0 Ar l.length⟩
 | 0,k,hk,tr,N,h1,h2,h3=>by
   have hkl:k=l.length:=by omega
   subst hkl;rw[List.drop_length] at h3;exact⟨tr,N,h1,h2,h3⟩
 | d+1,k,hk,tr,N,h1,h2,h3=>by
   have ho:l[k]? = some (l[k]'(by omega)):=zz0 _;generalize hoo:l[k]'(by omega)=o at ho;have hd:l.drop k=o::l.drop (k+1):=by rw[←hoo];exact List.drop_eq_getElem_cons (by omega)
   rw[hd] at h3
   have keep:∀ (e0:Tr) (N':List (Nat×List Nat)),(∀ x∈N,x∈N')→((HK ts k=false→V0 P m ops ts N' tr T0 S0 k o e0)∧(HK ts k=true→e0.dst=none∧e0.news=[])) →
    ∀ i o' e,l[i]? = some o'→(tr++[e0])[i]? = some e→(HK ts i=false→V0 P m ops ts N' (tr++[e0]) T0 S0 i o' e)∧(HK ts i=true→e.dst=none∧e.news=[]):=by
    intro e0 N' hN he0 i o' e ho' he;by_cases hi:i<tr.length
    · rw[zz4 hi] at he;unfold V0;rw[EI (by omega),Fv (by omega)];refine⟨fun ht=>?_,(h2 i o' e ho' he).2⟩;obtain⟨q1,q2,q3⟩:=(h2 i o' e ho' he).1 ht;exact⟨q1,q2,fun h=>hN _ (q3 h)⟩
    · have hik:i=k:=by have:=(zz1.1 he).1;simp at this;omega
      subst hik;rw[zz5 (by omega),h1] at he;simp at he;subst he;rw[ho] at ho'
      cases ho'
      unfold V0;rw[EI (by omega),Fv (by omega)];exact he0
   have hat:∀ e0:Tr,(tr++[e0]:List Tr)[k]? = some e0:=fun e0=>by rw[zz5 (by omega),h1];simp
   cases ht:HK ts k with
   | true =>
     simp only[KW,ht,if_true] at h3;refine Sq htc hq d (k+1) (by omega) (tr++[⟨none,.any,[]⟩]) N (by simp[h1]) (keep _ N (fun _ h=>h) ⟨fun h=>by (rw[ht] at h;cases h),fun _=>⟨rfl,rfl⟩⟩) ?_
     have e1:TT (tr++[⟨none,.any,[]⟩]) T0 (FC ts) (k+1)=TT tr T0 (FC ts) k:=by
      rw[TT,hat];simp only[FC,ht,Bool.not_true,Bool.false_eq_true,if_false];exact EI (by omega)
     have e2:SS (tr++[⟨none,.any,[]⟩]) S0 Ar (k+1)=SS tr S0 Ar k:=by
      rw[SS,hat];simp only[Ar,if_true,List.append_nil];exact Fv (by omega)
     rw[e1,e2];exact h3
   | false =>
     simp only[KW,ht,Bool.false_eq_true,if_false,KX] at h3
     have next:∀ (x:V) (news:List Ag),St.put ⟨TT tr T0 (FC ts) k,SS tr S0 Ar k++news⟩ o.dst x=⟨TT (tr++[⟨o.dst,x,news⟩]) T0 (FC ts) (k+1),SS (tr++[⟨o.dst,x,news⟩]) S0 Ar (k+1)⟩:=by
      intro x news;rw[TT,SS,hat];simp only[FC,ht,Ar,Bool.not_false,if_true];have q1:TT (tr++[⟨o.dst,x,news⟩]) T0 (fun i=>!HK ts i) k=TT tr T0 (fun i=>!HK ts i) k:=EI (by omega);rw[EW,Fv (by omega)];show _=(⟨LR (TT _ T0 (FC ts) k) _ _,_⟩:St);rw[EI (by omega)]
     have hN:∀ x∈N,x∈(if NO ts k=true then (k,Gh o ⟨TT tr T0 (FC ts) k,SS tr S0 Ar k⟩)::N else N):=fun x hx=>by split<;>simp[hx]
     have hin:NO ts k=true→(k,Gh o ⟨TT tr T0 (FC ts) k,SS tr S0 Ar k⟩)∈(if NO ts k=true then (k,Gh o ⟨TT tr T0 (FC ts) k,SS tr S0 Ar k⟩)::N else N):=fun h=>by rw[if_pos h];simp
     rcases UY htc h3 with ⟨g1,g2⟩|⟨g1,g2⟩
     · obtain⟨x,news,q1,q2⟩:=Ks htc (hq ho ht) g2;refine Sq htc hq d (k+1) (by omega) (tr++[⟨o.dst,x,news⟩]) _ (by simp[h1]) (keep _ _ hN ⟨fun _=>⟨rfl,.inl ⟨g1,q1⟩,hin⟩,fun h=>by (rw[ht] at h;cases h)⟩) ?_;rw[next] at q2;exact q2
     · refine Sq htc hq d (k+1) (by omega) (tr++[⟨o.dst,.tup [],[]⟩]) _ (by simp[h1]) (keep _ _ hN ⟨fun _=>⟨rfl,.inr ⟨g1,rfl,rfl⟩,hin⟩,fun h=>by (rw[ht] at h;cases h)⟩) ?_;have:=next (.tup []) [];rw[List.append_nil] at this;rw[this] at g2;exact g2
def U5 (tr:List Tr) (S0:List Ag) (L:Nat→Bool) (n p:Nat):Prop:=p<(SS tr S0 Ar n).length∧(SS tr S0 L n)[p]? = some .unborn
structure VO (P:Program) (m:Mode) (ops:Array Oper) (l:List Oper) (N:List (Nat×List Nat)) (sl0:List Ag) (K:St→Prop) (G:List (Nat×List Nat)→Prop) (W:List (Nat×List Nat)→St→Prop):Prop where
 fin:∀ σ,W [] σ→K σ
 step:∀ {ts':List (Nat×List Nat)} {p:Nat×List Nat},G ts'→p∈ts'→OP (Br l) ts' p=true→G (ts'.erase p)∧∀ σ,W ts' σ→Gk P m ops N sl0 (W (ts'.erase p)) (Mi l [p]) σ
structure Tj (P:Program) (m:Mode) (ops:Array Oper) (l:List Oper) (ts N:List (Nat×List Nat)) (sl0:List Ag) (G:List (Nat×List Nat)→Prop) (W:List (Nat×List Nat)→St→Prop) (T0:List V) (S0:List Ag) (L:Nat→Bool) (tr:List Tr) (ts':List (Nat×List Nat)) (S:List Ag):Prop where
 len:tr.length=l.length
 ent:∀ {i:Nat} {o:Oper} {e:Tr},l[i]? = some o→tr[i]? = some e→(HK ts i=false→V0 P m ops ts N tr T0 S0 i o e)∧(HK ts i=true→e.news=[]∧(L i=true→e.dst=o.dst)∧(L i=false→e.dst=none))
 rest:(∀ p∈ts',p∈ts)∧(∀ p∈ts,p∈ts'∨L p.1=true)∧(∀ p∈ts',L p.1=false)∧(ts'.map (·.1)).Nodup
 base:SS tr S0 Ar l.length=sl0
 good:G ts'
 walk:W ts' ⟨TT tr T0 Ar l.length,S⟩
 slen:(SS tr S0 Ar l.length).length≤S.length
 keep:∀ p,U5 tr S0 L l.length p→S[p]? = (SS tr S0 Ar l.length)[p]?
 stab:∀ {i:Nat} {o:Oper},HK ts i=false→L i=false→l[i]? = some o→∀ s∈Gh o ⟨TT tr T0 (FC ts) i,SS tr S0 Ar i⟩,∀ y,(SS tr S0 Ar i)[s]? = some y→S[s]? = some y
variable {N:List (Nat×List Nat)} {K:St→Prop} {sl0:List Ag} {G:List (Nat×List Nat)→Prop} {W:List (Nat×List Nat)→St→Prop} {L:Nat→Bool} {ts':List (Nat×List Nat)} {S S':List Ag}
theorem Tj.dst (h:Tj P m ops l ts N sl0 G W T0 S0 L tr ts' S) {j:Nat} {oj:Oper} {e:Tr} {t:Nat} (ho:l[j]? = some oj) (he:tr[j]? = some e) (ht:e.dst=some t):oj.dst=some t∧(HK ts j=true→L j=true):=by
 obtain⟨h1,h2⟩:=h.ent ho he
 cases hj:HK ts j with
 | false=>exact⟨by rw[←(h1 hj).1];exact ht,fun h=>by cases h⟩
 | true =>
   obtain⟨_,q2,q3⟩:=h2 hj
   cases hL:L j with
   | true=>exact⟨by rw[←q2 hL];exact ht,fun _=>rfl⟩
   | false=>rw[q3 hL] at ht;cases ht
theorem Pc {oi oj:Oper} {t:Nat} (h1:oi.dst=some t) (h2:t∈HG oj):clash oi oj=true∧clash oj oi=true:=by
 unfold clash;constructor
 · rw[h1]
   cases oj.dst with
   | none=>simpa using h2
   | some q=>simp[h2]
 · rw[h1]
   cases oj.dst with
   | none=>simpa using h2
   | some q=>simp[h2]
theorem RS {oi oj:Oper} {t:Nat} (h1:oi.dst=some t) (h2:oj.dst=some t):clash oi oj=true:=by
 unfold clash;rw[h1,h2];simp
theorem UN {T T':List V} {S S':List Ag} {o:Oper} (h:∀ t∈HG o,T'[t]? = T[t]?):∀ x∈o.op.operands.toList,(⟨T',S'⟩:St).eval x=(⟨T,S⟩:St).eval x:=by
 intro x hx
 cases x with
 | tmp t =>
   show (T'[t]?).getD .any=(T[t]?).getD .any;rw[h t (by unfold HG;exact List.mem_filterMap.2 ⟨.tmp t,hx,rfl⟩)]
 | _=>rfl
theorem NY {T T':List V} {o:Oper} (h:∀ g b og d,o.guard=some (g,b)→ops[g]? = some og→og.dst=some d→T'[d]? = T[d]?):B5 ops T' o=B5 ops T o:=by
 unfold B5
 cases hg:o.guard with
 | none=>rfl
 | some gb =>
   obtain⟨g,b⟩:=gb;simp only
   cases hog:ops[g]? with
   | none=>rfl
   | some og =>
     simp only[Option.bind_some]
     cases hod:og.dst with
     | none=>rfl
     | some d=>simp only[h g b og d hg hog hod]
theorem Xk {o:Oper} (h:∀ y,o.op≠.move y):Gh o σ=o.op.operands.toList.flatMap fun x=>DH (σ.eval x):=by
 unfold Gh;split
 · rename_i y e;exact absurd e (h y)
 · rfl
theorem kY {o:Oper} {y:Operand} (hy:o.op=.move y) (he:σ'.eval y=σ.eval y) {n:Nat} {x:V} {news:List Ag} (h:AQ P st n σ o x news):AQ P st n σ' o x news:=by
 unfold AQ at h ⊢;rw[hy] at h ⊢;simp only at h ⊢;refine⟨?_,h.2⟩;have h1:=h.1;unfold Hv at h1 ⊢;rw[hy] at h1 ⊢;simp only at h1 ⊢;rw[IW he];exact h1
theorem xX (hst:w0.st=m.st) (hops:ops.toList=l) (hd:MG l ts) {i:Nat} {o:Oper} (hv:Tj P m ops l ts N sl0 G W T0 S0 L tr ts' S) (hi:HK ts i=false) (ho:l[i]? = some o) (hLi:L i=false)
 (hclosed:∀ {j:Nat} {o:Oper},L j=true→l[j]? = some o→∀ d∈CE o,L d=true) (hready:∀ d∈CE o,L d=true) (hm:IP (U5 tr S0 L l.length) S S') (hr:Dk P w0 φ ⟨TT tr T0 L l.length,S'⟩ a w) {KC:Act→World→Prop} {Q:Exit→Act→World→Prop}
 (hK:∀ φ' S'' a' w',Tj P m ops l ts N sl0 G W T0 S0 (B9 L i) tr ts' S→IP (U5 tr S0 (B9 L i) l.length) S S''→Dk P w0 φ' ⟨TT tr T0 (B9 L i) l.length,S''⟩ a' w'→KC a' w') :
 if Region.wanted o (yielded ops a.tmps)=true then o.wp P a w KC Q else KC (a.put o.dst undef) w:=by
 have hil:=(zz1.1 ho).1;have he:tr[i]? = some (tr[i]'(by rw[hv.len];exact hil)):=zz0 _;generalize tr[i]'(by rw[hv.len];exact hil)=e at he;obtain⟨hdst,hor,_⟩:=(hv.ent ho he).1 hi;have atj:∀ {j:Nat} {e':Tr},tr[j]? = some e'→∃ oj,l[j]? = some oj:=fun {j e'} h=>⟨_,zz0 (by have:=(zz1.1 h).1;rw[hv.len] at this;exact this)⟩
 have temp:∀ t,(∀ j oj,l[j]? = some oj→oj.dst=some t→(HK ts j=true→L j=false)∧(HK ts j=false→(L j=true↔j<i)))→(TT tr T0 L l.length)[t]? = (TT tr T0 (FC ts) i)[t]?:=by
  intro t ht
  have e1:(TT tr T0 L l.length)[t]? = (TT tr T0 (fun j=>FC ts j&&decide (j<i)) l.length)[t]?:=Gy _ fun j hj e' he' hd'=>by
   obtain⟨oj,hoj⟩:=atj he';obtain⟨q1,q2⟩:=hv.dst hoj he' hd';obtain⟨h1,h2⟩:=ht j oj hoj q1
   cases hT:HK ts j with
   | true=>have:=h1 hT;rw[q2 hT] at this;cases this
   | false =>
     have h3:=h2 hT;by_cases h:j<i
     · simp[h,h3.2 h,FC,hT]
     · have h2:L j=false:=by cases hcj:L j with|false=>rfl|true=>exact absurd (h3.1 hcj) h
       simp[h,h2]
  have e2:TT tr T0 (fun j=>FC ts j&&decide (j<i)) l.length=TT tr T0 (fun j=>FC ts j&&decide (j<i)) i:=KA _ (by omega) fun j h1 _=>by
   have:¬ j<i:=by omega
   simp[this]
  have e3:TT tr T0 (fun j=>FC ts j&&decide (j<i)) i=TT tr T0 (FC ts) i:=Ki i fun j hj=>by simp[hj]
  rw[e1,e2,e3]
 have bound:∀ {j:Nat} {oj:Oper},l[j]? = some oj→clash oj o=true→clash o oj=true→j≠i→(HK ts j=true→L j=false)∧(HK ts j=false→(L j=true↔j<i)):=by
  intro j oj hoj c1 c2 hji;rcases Nat.lt_or_ge j i with h|h
  · have hdep:=hd.clash h hoj ho c1;refine⟨fun hT=>?_,fun _=>⟨fun _=>h,fun _=>hready j hdep⟩⟩;have:=hd.free ho hi j hdep;rw[hT] at this;cases this
  · have hdep:=hd.clash (by omega) ho hoj c2
    have hno:L j=false:=by
     cases hL:L j with
     | false=>rfl
     | true=>have:=hclosed hL hoj i hdep;rw[hLi] at this;cases this
    exact⟨fun _=>hno,fun _=>⟨fun h'=>by (rw[hno] at h';cases h'),fun h'=>by omega⟩⟩
 have oper:∀ t∈HG o,(TT tr T0 L l.length)[t]? = (TT tr T0 (FC ts) i)[t]?:=fun t ht=>temp t fun j oj hoj hdj=>by
  obtain⟨c1,c2⟩:=Pc hdj ht;by_cases hji:j=i
  · subst hji;exact⟨fun h=>by (rw[hi] at h;cases h),fun _=>⟨fun h=>by (rw[hLi] at h;cases h),fun h=>by omega⟩⟩
  · exact bound hoj c1 c2 hji
 have hev:=UN (S:=SS tr S0 Ar i) (S':=S') oper
 have hguard:B5 ops (TT tr T0 L l.length) o=B5 ops (TT tr T0 (FC ts) i) o:=NY fun g b og d hg hog hod=>by
  obtain⟨g1,g2,g3⟩:=hd.guard ho hg;have hgl:l[g]? = some og:=by rw[←hops,Array.getElem?_toList];exact hog
  refine temp d fun j oj hoj hdj=>?_;have hjg:=g3 hgl hoj (by rw[hdj,hod]) (by rw[hod];simp);subst hjg;have:=hd.free ho hi _ g2;exact⟨fun h=>by (rw[this] at h;cases h),fun _=>⟨fun _=>g1,fun _=>hready _ g2⟩⟩
 have hT:LR (TT tr T0 L l.length) o.dst e.x=TT tr T0 (B9 L i) l.length:=by
  rw[←hdst];refine XR hil he fun j hij hj e' he' hd' hn=>?_
  cases hcj:L j with
  | false=>rfl
  | true =>
    obtain⟨oj,hoj⟩:=atj he'
    cases hed:e.dst with
    | none=>exact absurd hed hn
    | some q =>
      obtain⟨q1,_⟩:=hv.dst hoj he' (by rw[hd',hed]);have:=hclosed hcj hoj i (hd.clash hij ho hoj (RS (by rw[←hdst];exact hed) q1));rw[hLi] at this;cases this
 obtain⟨hS1,hS2,hS3⟩:=WL (S0:=S0) hil he hLi
 have hS4:∀ q,q<e.news.length→(SS tr S0 (B9 L i) l.length)[(SS tr S0 Ar i).length+q]? = e.news[q]?∧(SS tr S0 Ar l.length)[(SS tr S0 Ar i).length+q]? = e.news[q]?:=by
  intro q hq;constructor
  · rw[←hS1,CS hS2,if_neg (by omega),if_pos (by omega),Nat.add_sub_cancel_left]
  · obtain⟨r,hr⟩:=pI (S0:=S0) (c:=Ar) hil he;rw[hr,zz5 (by omega),Nat.add_sub_cancel_left];simp only[Ar,if_true];rw[zz4 hq]
 have hS5:∀ p,¬ ((SS tr S0 Ar i).length≤p∧p<(SS tr S0 Ar i).length+e.news.length)→(SS tr S0 (B9 L i) l.length)[p]? = (SS tr S0 L l.length)[p]?:=by
  intro p hp;rw[←hS1,CS hS2];by_cases h1:p<(SS tr S0 Ar i).length
  · rw[if_pos h1]
  · rw[if_neg h1,if_neg (fun h=>hp ⟨by omega,h⟩)]
 have hlen:(SS tr S0 L l.length).length=(SS tr S0 Ar l.length).length:=JG _
 have hU:∀ p,U5 tr S0 (B9 L i) l.length p→U5 tr S0 L l.length p:=by
  rintro p ⟨h1,h2⟩;by_cases hp:(SS tr S0 Ar i).length≤p∧p<(SS tr S0 Ar i).length+e.news.length
  · have:=hS3 (p - (SS tr S0 Ar i).length) (by omega);rw[Nat.add_sub_cancel' hp.1] at this;exact⟨h1,this⟩
  · exact⟨h1,by rw[←hS5 p hp];exact h2⟩
 have hv':Tj P m ops l ts N sl0 G W T0 S0 (B9 L i) tr ts' S:=by
  have hp:∀ j,HK ts j=true→B9 L i j=L j:=fun j hj=>by
   have:(j==i)=false:=by
    simp only[beq_eq_false_iff_ne];intro e;subst e;rw[hi] at hj;cases hj
   simp[B9,this]
  refine⟨hv.len,fun {j oj e'} hoj he'=>⟨(hv.ent hoj he').1,fun hj=>by rw[hp j hj];exact (hv.ent hoj he').2 hj⟩,?_,hv.base,hv.good,hv.walk,hv.slen,fun p hp=>hv.keep p (hU p hp),fun {j oj} hj hL=>hv.stab hj ?_⟩
  · obtain⟨q0,q1,q2,q3⟩:=hv.rest;refine⟨q0,fun p hp'=>(q1 p hp').imp id fun h=>by simp[B9,h],fun p hp'=>?_,q3⟩;rw[hp p.1 (by unfold HK;rw[List.any_eq_true];exact⟨p,q0 p hp',by simp⟩)];exact q2 p hp'
  · cases hLj:L j with
    | false=>rfl
    | true=>simp[B9,hLj] at hL
 have hq2:(SS tr S0 Ar i).length+e.news.length≤S'.length:=by have:=hv.slen;rw[hm.len];omega
 have hmask:IP (U5 tr S0 (B9 L i) l.length) S (A9 S' (SS tr S0 Ar i).length e.news):=by
  refine⟨fun p hp=>hm.lt p (hU p hp),by rw[BV hq2,hm.len],fun p hp=>?_,fun p hp=>?_⟩
  · rw[CS hq2];split
    · exact hm.on p (hU p hp)
    · split
      · rename_i h1 h2;have:=(hS4 (p - (SS tr S0 Ar i).length) (by omega)).1;rw[Nat.add_sub_cancel' (by omega),hp.2] at this;exact this.symm
      · exact hm.on p (hU p hp)
  · rw[CS hq2];have other:¬ ((SS tr S0 Ar i).length≤p∧p<(SS tr S0 Ar i).length+e.news.length)→S'[p]? = S[p]?:=fun h=>hm.off p fun ⟨h1,h2⟩=>hp ⟨h1,by rw[hS5 p h];exact h2⟩;split
    · exact other (by omega)
    · split
      · rename_i h1 h2;have q1:=hS3 (p - (SS tr S0 Ar i).length) (by omega);have q2:=(hS4 (p - (SS tr S0 Ar i).length) (by omega)).2;rw[Nat.add_sub_cancel' (by omega)] at q1 q2;have hl:=(zz1.1 q1).1;rw[hv.keep p ⟨by omega,q1⟩,q2]
      · exact other (by omega)
 rcases hor with ⟨hg,haq⟩|⟨hg,hx,hnews⟩
 · rw[if_pos (Im hr (by rw[hguard];exact hg))]
   have haq':AQ P m.st (SS tr S0 Ar i).length ⟨TT tr T0 L l.length,S'⟩ o e.x e.news:=by
    by_cases hmv:∃ y,o.op=.move y
    · obtain⟨y,hy⟩:=hmv;exact kY hy (hev y (by rw[hy];simp[Op.operands])) haq
    refine SP haq ⟨hev,fun x hx s hs y hy=>?_⟩
    · have h1:=hv.stab hi hLi ho s (by rw[Xk fun y e=>hmv ⟨y,e⟩];exact List.mem_flatMap.2 ⟨x,hx,hs⟩) y hy;have hvx:=hr.eval x;rw[hev x hx] at hvx;have h2:=hvx.named s hs;have h3:¬ U5 tr S0 L l.length s:=fun hu=>h2 (hm.on s hu);show S'[s]? = some y;rw[hm.off s h3];exact h1
   refine Ml hst haq' hr fun v w' hq=>?_;obtain⟨Fs,hmem⟩:=hr.mem;have hub:∀ q,q<e.news.length→S'[(SS tr S0 Ar i).length+q]? = some .unborn:=fun q hq=>hm.on _ ⟨by rw[←hlen];omega,hS3 q hq⟩;obtain⟨φ',ht,hvr⟩:=R6 hmem hq hq2 hub;have:=hr.turn ht hvr o.dst;rw[EW,hT] at this;exact hK φ' _ _ _ hv' hmask this
 · rw[if_neg (by rw[Im hr (by rw[hguard];exact hg)];simp)];have:=hr.turn (Turn.refl hr.mem) Jz o.dst;rw[EW] at this;rw[hx] at hT;rw[hT] at this;refine hK φ S' _ _ hv' ?_ this;have e1:A9 S' (SS tr S0 Ar i).length e.news=S':=by rw[hnews];simp[A9]
   rw[e1] at hmask;exact hmask
theorem Oa (ks:List Nat) (sl:List Ag) (y:Ag):(kill ks sl++[y]).length=sl.length+1:=by rw[ACg,BF];rfl
theorem V6 {t:TypeId} {x y z:V} {r:List Ag} (h:Lz P sl t x y fun z' r'=>z'=z∧r'=r):sl.length≤r.length:=by
 obtain⟨e,ow,es,ks,h1,h2,h3,h4,h5,h6⟩:=h;rcases h6 with ⟨es2,o,k1,k2,k3,k4,k5,k6,rfl⟩|⟨s2,es2,rfl,k1,k2,k3,k4,k5,rfl⟩|⟨s2,n,cells,ds,ks2,rfl,k1,k2,k3,k4,k5,k6,k7,rfl⟩|⟨es2,o,k1,k2,k3,k4,k5,rfl⟩<;>(rw[Oa];omega)
theorem Z7 {o:Oper} {z:V} {r:List Ag} (h:Jn P st o σ z r):σ.slots.length≤r.length:=by
 unfold Jn at h
 have quiet:(∃ news,AQ P st σ.slots.length σ o z news∧r=σ.slots++news)→σ.slots.length≤r.length:=by
  rintro⟨news,_,rfl⟩;simp
 split at h
 · obtain⟨h,_⟩:=h;unfold H8 at h;split at h
   · split at h
     · split at h
       · cases h;simp
       · cases h
     · cases h
   · split at h
     · split at h
       · split at h
         · split at h
           · split at h
             · cases h
             · cases h;simp[BF]
           · split at h
             · split at h
               · split at h
                 · cases h
                 · cases h;simp[BF]
               · cases h
             · cases h
         · cases h
       · cases h
     · cases h
   · cases h
 · split at h
   · split at h
     · obtain⟨_,_,h|⟨d,ks,_,h⟩⟩:=h
       · exact V6 h
       · have:=V6 h;rw[BF] at this;exact this
     · exact h.elim
   · exact quiet h
 · exact quiet h
theorem SB {c:Nat→Bool} {t:Nat} {e':Tr} (hc:c t=false):∀ k,TT (tr.set t e') T0 c k=TT tr T0 c k
 | 0=>rfl
 | k+1=>by
   unfold TT;rw[SB hc k];by_cases hk:t=k
   · subst hk;rw[hc];simp only[Bool.false_eq_true,if_false];split<;>split<;>rfl
   · rw[ACT hk]
theorem Jg {c:Nat→Bool} {t:Nat} {e e':Tr} (he:tr[t]? = some e) (hn:e'.news=e.news):∀ k,SS (tr.set t e') S0 c k=SS tr S0 c k
 | 0=>rfl
 | k+1=>by
   unfold SS;rw[Jg he hn k];by_cases hk:t=k
   · subst hk;rw[ACf (zz1.1 he).1,he];simp only[hn]
   · rw[ACT hk]
theorem Uj (hst:w0.st=m.st) {o:Oper} {z:V} {r:List Ag} (h:Rv P m o σ z r) (hr:Dk P w0 φ σ a w) {KC:Act→World→Prop} {Q:Exit→Act→World→Prop} (hK:∀ φ' a' w',Dk P w0 φ' (St.put ⟨σ.tmps,r⟩ o.dst z) a' w'→KC a' w'):o.wp P a w KC Q:=by
 obtain⟨h0,v,f,caps,c,ho,hc,hfv,ks,π,args,slc,q,slc',hcon,hlv,hks,hka,hn,hsl,hta,hnear,hb⟩:=h;have hT:YQ P { m with tc:=true } σ.slots f (c.args.toList.map σ.eval++caps) fun z' r'=>z'=z∧r'=r:=⟨rfl,h0,ks,π,args,slc,q,slc',hcon,hlv,hks,hka,hn,hsl,hta,hb⟩;have hg:=hr.eval v;rw[hfv] at hg;obtain⟨us,hus,hul,huv⟩:=hg.fnv;obtain⟨k1,k2⟩:=Ny (m:={ m with tc:=true }) hst hr hT (vs:=c.args.toList.map a.eval++us) (by simp[hul]) (Ov hr hul huv);have hrun:=Hs (w:=w) (a:=a) (o:=o) (c:=c) ho hc hus k1;unfold Oper.wp;rw[hrun];refine k2.mono ?_;rintro e w' ⟨v,φ',sl',z',rfl,q1,q2,rfl,rfl⟩;exact hK φ' _ _ (hr.turn q1 q2 o.dst)
theorem pO (hst:w0.st=m.st) (htc:m.tc=false) (hops:ops.toList=l) (hd:MG l ts) (hw:VO P m ops l N sl0 K G W) {t:Nat} {o:Oper} (hv:Tj P m ops l ts N sl0 G W T0 S0 L tr ts' S) (hi:HK ts t=true) (ho:l[t]? = some o) (hLt:L t=false)
 (hclosed:∀ {j:Nat} {o:Oper},L j=true→l[j]? = some o→∀ d∈CE o,L d=true) (hready:∀ d∈CE o,L d=true) (hm:IP (U5 tr S0 L l.length) S S') (hr:Dk P w0 φ ⟨TT tr T0 L l.length,S'⟩ a w) {KC:Act→World→Prop} {Q:Exit→Act→World→Prop}
 (hK:∀ φ' tr' ts'' S1 S'' a' w',Tj P m ops l ts N sl0 G W T0 S0 (B9 L t) tr' ts'' S1→IP (U5 tr' S0 (B9 L t) l.length) S1 S''→Dk P w0 φ' ⟨TT tr' T0 (B9 L t) l.length,S''⟩ a' w'→KC a' w') :
 if Region.wanted o (yielded ops a.tmps)=true then o.wp P a w KC Q else KC (a.put o.dst undef) w:=by
 have htl:=(zz1.1 ho).1;have he:tr[t]? = some (tr[t]'(by rw[hv.len];exact htl)):=zz0 _;generalize tr[t]'(by rw[hv.len];exact htl)=e at he;obtain⟨hnews,_,hdn⟩:=(hv.ent ho he).2 hi;have hdn2:e.dst=none:=hdn hLt;have anc:∀ {i:Nat},((Br l).getD t 0).testBit i=true→L i=true:=fun {i} hb=>Ow (l:=l) hd.deps (c:=L) (fun {j o} h ho d hdm=>hclosed h ho d hdm) t ho hready hb;obtain⟨r0,r1,r2,r3⟩:=hv.rest
 obtain⟨p,hp,hpt⟩:∃ p∈ts,p.1=t:=by
  unfold HK at hi;rw[List.any_eq_true] at hi;obtain⟨p,h1,h2⟩:=hi;exact⟨p,h1,by simpa using h2⟩
 have hp':p∈ts':=by
  rcases r1 p hp with h|h
  · exact h
  · rw[hpt,hLt] at h;cases h
 have hrdy:OP (Br l) ts' p=true:=by
  unfold OP;rw[zz8];intro q hq
  cases hb:((Br l).getD p.1 0).testBit q.1 with
  | false=>rfl
  | true =>
    rw[hpt] at hb;have:=anc hb;rw[r2 q hq] at this;cases this
 obtain⟨hgood,hgo⟩:=hw.step hv.good hp' hrdy;obtain⟨t0,ns⟩:=p;simp only at hpt;subst hpt;have hmem:(t0,ns)∈ts:=hp;have hsub:=List.erase_sublist (a:=(t0,ns)) (l:=ts');have hers:=fun q h=>RR (q:=q) r3 hp' h;have hkeeps:=fun (q:Nat×List Nat) (hq:q∈ts') (hn:q.1≠t0)=>(List.mem_erase_of_ne (a:=q) (b:=(t0,ns)) (fun e=>hn (by rw[e]))).2 hq;obtain⟨rest,hre⟩:∃ rest,ts'.erase (t0,ns)=rest:=⟨_,rfl⟩;rw[hre] at hgood hgo hsub;simp only[hre] at hers hkeeps;have hwalk:=hgo _ hv.walk;simp only[Mi,ho,Gk] at hwalk;have atj:∀ {j:Nat} {e':Tr},tr[j]? = some e'→∃ oj,l[j]? = some oj:=fun {j e'} h=>⟨_,zz0 (by have:=(zz1.1 h).1;rw[hv.len] at this;exact this)⟩
 have temp:∀ q,(∀ j oj,l[j]? = some oj→oj.dst=some q→HK ts j=false→L j=true)→(TT tr T0 L l.length)[q]? = (TT tr T0 Ar l.length)[q]?:=fun q hq=>Gy _ fun j hj e' he' hd'=>by
  obtain⟨oj,hoj⟩:=atj he';obtain⟨q1,q2⟩:=hv.dst hoj he' hd'
  cases hT:HK ts j with
  | true=>rw[q2 hT];rfl
  | false=>rw[hq j oj hoj q1 hT];rfl
 have oper:∀ q∈HG o,(TT tr T0 L l.length)[q]? = (TT tr T0 Ar l.length)[q]?:=fun q hq=>temp q fun j oj hoj hdj hT=>by
  obtain⟨c1,c2⟩:=Pc hdj hq;rcases Nat.lt_trichotomy j t0 with h|h|h
  · exact hready j (hd.clash h hoj ho c1)
  · subst h;rw[hi] at hT;cases hT
  · have:=hd.free hoj hT t0 (hd.clash h ho hoj c2);rw[hi] at this;cases this
 have hev:=UN (S:=S) (S':=S') oper
 have hguard:B5 ops (TT tr T0 L l.length) o=B5 ops (TT tr T0 Ar l.length) o:=NY fun g b og d hg hog hod=>by
  obtain⟨g1,g2,g3⟩:=hd.guard ho hg;have hgl:l[g]? = some og:=by rw[←hops,Array.getElem?_toList];exact hog
  refine temp d fun j oj hoj hdj _=>?_;have hjg:=g3 hgl hoj (by rw[hdj,hod]) (by rw[hod];simp);subst hjg;exact hready _ g2
 have hU:∀ z,U5 (tr.set t0 ⟨o.dst,z,[]⟩) S0 (B9 L t0) l.length=U5 tr S0 L l.length:=by
  intro z
  have e1:SS tr S0 (B9 L t0) l.length=SS tr S0 L l.length:=by
   obtain⟨h1,_,_⟩:=WL (S0:=S0) htl he hLt;rw[←h1,hnews];simp[A9]
  unfold U5;rw[Jg he (by simp[hnews]),Jg he (by simp[hnews]),e1]
 have inv:∀ (z:V) (r:List Ag),S.length≤r.length→Kept' (U5 tr S0 L l.length) S r→EY sl0 r ns N→W rest (St.put ⟨TT tr T0 Ar l.length,r⟩ o.dst z) →
  Tj P m ops l ts N sl0 G W T0 S0 (B9 L t0) (tr.set t0 ⟨o.dst,z,[]⟩) rest r∧LR (TT tr T0 L l.length) o.dst z=TT (tr.set t0 ⟨o.dst,z,[]⟩) T0 (B9 L t0) l.length:=by
  intro z r hlen hkeep hstab hrest;have hself:(tr.set t0 ⟨o.dst,z,[]⟩)[t0]? = some ⟨o.dst,z,[]⟩:=ACf (by rw[hv.len];exact htl);have other:∀ {j:Nat},j≠t0→(tr.set t0 ⟨o.dst,z,[]⟩)[j]? = tr[j]?:=fun h=>ACT (Ne.symm h)
  have hpl:∀ {j:Nat},j≠t0→B9 L t0 j=L j:=fun {j} h=>by
   have:(j==t0)=false:=by simpa using h
   simp[B9,this]
  have hnt:FC ts t0=false:=by simp[FC,hi]
  have later:∀ {j:Nat} {e':Tr},t0<j→tr[j]? = some e'→e'.dst=o.dst→o.dst≠none→False:=by
   intro j e' hj he' hd' hn;obtain⟨oj,hoj⟩:=atj he'
   cases hod:o.dst with
   | none=>exact hn hod
   | some q =>
     obtain⟨q1,q2⟩:=hv.dst hoj he' (by rw[hd',hod]);have hdep:=hd.clash hj ho hoj (RS hod q1)
     cases hT:HK ts j with
     | false=>have:=hd.free hoj hT t0 hdep;rw[hi] at this;cases this
     | true=>have:=hclosed (q2 hT) hoj t0 hdep;rw[hLt] at this;cases this
  have hput:∀ c:Nat→Bool,c t0=false→LR (TT tr T0 c l.length) o.dst z=TT (tr.set t0 ⟨o.dst,z,[]⟩) T0 (B9 c t0) l.length:=by
   intro c hc;rw[←SB (tr:=tr) (e':=⟨o.dst,z,[]⟩) hc]
   exact XR (e:=⟨o.dst,z,[]⟩) htl hself fun j hj _ e' he' hd' hn=>by
    rw[other (by omega)] at he';exact (later hj he' hd' hn).elim
  have hall:LR (TT tr T0 Ar l.length) o.dst z=TT (tr.set t0 ⟨o.dst,z,[]⟩) T0 Ar l.length:=by
   have e1:TT tr T0 Ar l.length=TT tr T0 (fun j=>!(j==t0)) l.length:=by
    apply List.ext_getElem?;intro q;refine Gy _ fun j hj e' he' hd'=>?_;have:j≠t0:=by intro e;subst e;rw[he] at he';cases he';rw[hdn2] at hd';cases hd'
    have:(j==t0)=false:=by simpa using this
    simp[Ar,this]
   rw[e1,hput _ (by simp)];refine Ki _ fun j _=>?_
   cases h:(j==t0)<;>simp[B9,Ar,h]
  refine⟨⟨by rw[ACh];exact hv.len,fun {i oi ei} hoi hei=>?_,⟨fun q hq=>r0 q (hsub.subset hq),fun q hq=>?_,fun q hq=>?_,?_⟩,?_,hgood,?_,?_,fun q hq=>?_,fun {i oi} hTi hLi hoi s hs y hy=>?_⟩,hput L hLt⟩
  · by_cases hit:i=t0
    · subst hit;rw[hself] at hei
      cases hei
      rw[ho] at hoi
      cases hoi
      exact⟨fun h=>by (rw[hi] at h;cases h),fun _=>⟨rfl,fun _=>rfl,fun h=>by simp[B9] at h⟩⟩
    · rw[other hit] at hei;rw[hpl hit];unfold V0;rw[SB hnt,Jg he (by simp[hnews])];exact hv.ent hoi hei
  · by_cases hq0:q.1=t0
    · right;simp[B9,hq0]
    · rcases r1 q hq with h|h
      · exact .inl (hkeeps q h hq0)
      · right;simp[B9,h]
  · rw[hpl (hers q hq)];exact r2 q (hsub.subset hq)
  · exact List.Nodup.sublist (hsub.map _) r3
  · rw[Jg he (by simp[hnews])];exact hv.base
  · rw[EW,hall] at hrest;exact hrest
  · rw[Jg he (by simp[hnews])];exact Nat.le_trans hv.slen hlen
  · rw[hU] at hq;rw[Jg he (by simp[hnews]),hkeep q hq];exact hv.keep q hq
  · rw[SB hnt,Jg he (by simp[hnews])] at hs;rw[Jg he (by simp[hnews])] at hy;have hit:i≠t0:=by intro e;subst e;rw[hi] at hTi;cases hTi
    rw[hpl hit] at hLi;have hil:=(zz1.1 hoi).1
    have hin:i∈ns:=hd.free2 hmem hil hTi (by
     cases hb:((Br l).getD t0 0).testBit i with
     | false=>rfl
     | true=>have:=anc hb;rw[hLi] at this;cases this)
    have hei:tr[i]? = some (tr[i]'(by rw[hv.len];exact hil)):=zz0 _;have hN:=((hv.ent hoi hei).1 hTi).2.2 (by unfold NO;rw[List.any_eq_true];exact⟨(t0,ns),hmem,by simpa using hin⟩);rw[Qo hstab hN hin s hs,←hv.base];obtain⟨q,hq⟩:=Me (tr:=tr) (S0:=S0) (c:=Ar) (Nat.le_of_lt hil);rw[hq,zz4 (zz1.1 hy).1];exact hy
 have hsees:X6 o (U5 tr S0 L l.length) ⟨TT tr T0 Ar l.length,S⟩ ⟨TT tr T0 L l.length,S'⟩:=⟨hev,fun x hx s hs hu=>by
  have hvx:=hr.eval x;rw[hev x hx] at hvx
  exact hvx.named s hs (hm.on s hu)⟩
 by_cases hcall:HZ o=true
 · rw[if_pos hcall] at hwalk;obtain⟨z,r,q1,q2,q3⟩:=hwalk
   have hgn:o.guard=none:=by
    unfold HZ at hcall;split at hcall
    · split at hcall
      · rw[Bool.and_eq_true] at hcall;simpa using hcall.2
      · cases hcall
    · cases hcall
   have hgA:B5 ops (TT tr T0 L l.length) o=some true:=by unfold B5;rw[hgn]
   rw[if_pos (Im hr hgA)];obtain⟨r',k1,k2,k3⟩:=bX q1 hm (hr.closed hm) hsees;obtain⟨i1,i2⟩:=inv z r (cE q1) k3 q2 q3;refine Uj hst k1 hr fun φ' a' w' hr'=>?_;rw[EW,i2] at hr';exact hK φ' _ rest r r' a' w' i1 (by rw[hU];exact k2) hr'
 rw[if_neg hcall] at hwalk;rcases UY htc hwalk with ⟨g1,g2⟩|⟨g1,g2,g3⟩
 · obtain⟨z,r,q1,q2,q3⟩:=jQ htc g2;rw[if_pos (Im hr (by rw[hguard];exact g1))]
   have hsees:X6 o (U5 tr S0 L l.length) ⟨TT tr T0 Ar l.length,S⟩ ⟨TT tr T0 L l.length,S'⟩:=⟨hev,fun x hx s hs hu=>by
    have hvx:=hr.eval x;rw[hev x hx] at hvx
    exact hvx.named s hs (hm.on s hu)⟩
   obtain⟨r',k1,k2,k3⟩:=ZV q1 hm (hr.closed hm) hsees;rw[St.put_slots] at q2;obtain⟨i1,i2⟩:=inv z r (Z7 q1) k3 q2 q3;refine UX hst k1 hr fun φ' a' w' hr'=>?_;rw[EW,i2] at hr';exact hK φ' _ rest r r' a' w' i1 (by rw[hU];exact k2) hr'
 · rw[if_neg (by rw[Im hr (by rw[hguard];exact g1)];simp)];rw[St.put_slots] at g2;obtain⟨i1,i2⟩:=inv (.tup []) S (Nat.le_refl _) (fun _ _=>rfl) g2 g3;have:=hr.turn (Turn.refl hr.mem) Jz o.dst;rw[EW,i2] at this;exact hK φ _ rest S S' _ _ i1 (by rw[hU];exact hm) this
theorem bD (hst:w0.st=m.st) (htc:m.tc=false) (hops:ops.toList=l) (hd:MG l ts) (hwk:VO P m ops l N sl0 K G W) {mr:Region.Mode} {Q:Exit→Act→World→Prop} (hQ:∀ φ σ a w,K σ→Dk P w0 φ σ a w→Q .normal a w) :
 ∀ (fuel t:Nat) (listed:Array Bool) (acc:List Nat),listed.size=ops.size→Fa (fun j=>listed.getD j false) ops.size=fuel→(∀ {j:Nat} {o:Oper},listed.getD j false=true→l[j]? = some o→∀ d∈CE o,listed.getD d false=true) →
   ∃ suf,Region.linearise.go mr ops fuel t listed acc=acc.reverse++suf∧∀ tr ts' S S' φ a w,Tj P m ops l ts N sl0 G W T0 S0 (fun j=>listed.getD j false) tr ts' S→IP (U5 tr S0 (fun j=>listed.getD j false) l.length) S S'→Dk P w0 φ ⟨TT tr T0 (fun j=>listed.getD j false) l.length,S'⟩ a w→wpOps P ops Q suf a w:=by
 have hlen:l.length=ops.size:=by rw[←hops];simp
 intro fuel
 induction fuel with
 | zero =>
   intro t listed acc hsz hc hcl;refine⟨[],by simp[Region.linearise.go],fun tr ts' S S' φ a w hv hm hr=>?_⟩;have hall:∀ j,j<l.length→listed.getD j false=true:=fun j hj=>Hc hc j (by omega);obtain⟨r0,r1,r2,r3⟩:=hv.rest
   have hts:ts'=[]:=by
    cases ts' with
    | nil=>rfl
    | cons p rest =>
      have h1:=r2 p (by simp);rw[hall p.1 (hd.lt (r0 p (by simp)))] at h1
      cases h1
   subst hts;have hw:K ⟨TT tr T0 Ar l.length,S⟩:=hwk.fin _ hv.walk;have e1:TT tr T0 (fun j=>listed.getD j false) l.length=TT tr T0 Ar l.length:=Ki _ fun j hj=>by rw[hall j hj];rfl
   have e2:SS tr S0 (fun j=>listed.getD j false) l.length=SS tr S0 Ar l.length:=Oo _ fun j hj=>by rw[hall j hj];rfl
   have e3:S'=S:=by
    apply List.ext_getElem?;intro p;by_cases hu:U5 tr S0 (fun j=>listed.getD j false) l.length p
    · rw[hm.on p hu,hv.keep p hu,←e2,hu.2]
    · exact hm.off p hu
   rw[e1,e3] at hr;exact hQ φ _ a w hw hr
 | succ fuel ih =>
   intro t listed acc hsz hc hcl;obtain⟨i,hpick,hi,hLi,hdep⟩:=I4 (m:=mr) hops hd.toDrawnB hsz (by omega) t;have hil:i<l.length:=by omega
   have hol:l[i]? = some l[i]:=zz0 hil;have hset:=Ev hsz hi;have hat:∀ j,(listed.setIfInBounds i true).getD j false=B9 (fun j=>listed.getD j false) i j:=fun j=>congrFun hset j
   obtain⟨suf,h1,h2⟩:=ih (t / ((List.range ops.size).filter (DD mr ops listed)).length) (listed.setIfInBounds i true) (i::acc) (by simpa using hsz) (by
    rw[hset];have:=Kv (L:=fun j=>listed.getD j false) hLi hi;omega) (fun {j o} hj ho d hdm=>by
    rw[hat] at hj ⊢;simp only[B9,Bool.or_eq_true,beq_iff_eq] at hj ⊢;right;rcases hj with rfl|hj
    · exact hdep o ho d hdm
    · exact hcl hj ho d hdm)
   refine⟨i::suf,?_,fun tr ts' S S' φ a w hv hm hr=>?_⟩
   · rw[IL,hpick];simp only;rw[h1];simp
   · have hoo:ops[i]? = some l[i]:=by rw[←Array.getElem?_toList,hops];exact hol
     rw[hset] at h2;unfold wpOps;simp only[hoo]
     have key:if Region.wanted l[i] (yielded ops a.tmps)=true then (l[i]).wp P a w (wpOps P ops Q suf) Q else wpOps P ops Q suf (a.put (l[i]).dst undef) w:=by
      cases hT:HK ts i with
      | false=>exact xX hst hops hd hv hT hol hLi hcl (hdep _ hol) hm hr fun φ' S'' a' w' i1 i2 i3=>h2 _ _ _ _ φ' a' w' i1 i2 i3
      | true=>exact pO hst htc hops hd hwk hv hT hol hLi hcl (hdep _ hol) hm hr fun φ' tr' ts'' S1 S'' a' w' i1 i2 i3=>h2 _ _ _ _ φ' a' w' i1 i2 i3
     split
     · rename_i hw;rw[if_pos hw] at key;exact .inl key
     · rename_i hw;rw[if_neg hw] at key;exact key
theorem Ri (hst:w0.st=m.st) {Q:Exit→St→Prop} {QC:Exit→Act→World→Prop} {ts:List (Nat×List Nat)} {KE:List (Nat×List Nat)→St→Prop} (hd:MG ops.toList ts) (h:KX P m.still ops ts KE (KW ts 0 ops.toList) [] σ) (hKE:∀ N σ',KE N σ'→∃ G W,VO P m.still ops ops.toList N σ'.slots (Q .normal) G W∧G ts∧W ts σ') (hr:Dk P w0 φ σ a w) (hQ:∀ e φ' σ' a' w',Q e σ'→Dk P w0 φ' σ' a' w'→QC e a' w'):∀ (mr:Region.Mode) (t:Nat),wpOps P ops QC (Region.linearise mr ops t) a w:=by
 obtain⟨T0,S0⟩:=σ;obtain⟨tr,N,h1,h2,h3⟩:=Sq (m:=m.still) (l:=ops.toList) (ts:=ts) (T0:=T0) (S0:=S0) rfl (fun ho ht=>hd.quiet ho ht) ops.toList.length 0 (by simp) [] [] rfl (fun i o e _ he=>by simp at he) h
 have eall:TT tr T0 (FC ts) ops.toList.length=TT tr T0 Ar ops.toList.length:=by
  apply List.ext_getElem?;intro q;refine Gy _ fun j hj e he hde=>?_
  cases hT:HK ts j with
  | false=>simp[FC,hT,Ar]
  | true =>
    have:=((h2 j _ e (zz0 hj) he).2 hT).1;rw[this] at hde;cases hde
 rw[eall] at h3;obtain⟨G,W,hwk,hg,hw⟩:=hKE _ _ h3;intro mr t
 have hgd:∀ j,(Array.replicate ops.size false).getD j false=false:=fun j=>by
  simp only[Array.getD_eq_getD_getElem?,Array.getElem?_replicate];split<;>rfl
 have hfun:(fun j=>(Array.replicate ops.size false).getD j false)=fun _=>false:=funext hgd
 obtain⟨suf,k1,k2⟩:=bD (m:=m.still) (mr:=mr) (N:=N) (K:=Q .normal) (T0:=T0) (S0:=S0) hst rfl rfl hd hwk (fun φ σ a w hk hr=>hQ .normal φ σ a w hk hr) ops.size t (Array.replicate ops.size false) [] (by simp) (by
  rw[hfun];have:∀ n,Fa (fun _=>false) n=n:=fun n=>by induction n with|zero=>rfl|succ n ih=>unfold Fa;rw[ih];simp
  exact this _) (fun {j o} hj _ _ _=>by rw[hgd] at hj;cases hj)
 have e:Region.linearise mr ops t=suf:=by
  unfold Region.linearise;rw[k1];simp
 rw[e];rw[hfun] at k2;obtain⟨n,e2⟩:=TH (tr:=tr) (S0:=S0) ops.toList.length;obtain⟨φ',hr'⟩:=Dk.unborn hr n;have e1:TT tr T0 (fun _=>false) ops.toList.length=T0:=KA (i:=0) _ (Nat.zero_le _) fun _ _ _=>rfl;refine k2 tr ts (SS tr S0 Ar ops.toList.length) (SS tr S0 (fun _=>false) ops.toList.length) φ' a _ ⟨h1,fun {i o e} ho he=>⟨(h2 i o e ho he).1,fun hT=>⟨((h2 i o e ho he).2 hT).2,fun h=>(by cases h),fun _=>((h2 i o e ho he).2 hT).1⟩⟩,⟨fun _ h=>h,fun _ h=>.inl h,fun _ _=>rfl,hd.nodup⟩,rfl,hg,hw,Nat.le_refl _,fun _ _=>rfl,fun {i o} hT _ ho s _ y hy=>?_⟩ ⟨fun p hp=>hp.1,JG _,fun p hp=>hp.2,fun p hp=>?_⟩ ?_
 · obtain⟨q,hq⟩:=Me (tr:=tr) (S0:=S0) (c:=Ar) (Nat.le_of_lt (zz1.1 ho).1);rw[hq,zz4 (zz1.1 hy).1];exact hy
 · by_cases hl:p<(SS tr S0 Ar ops.toList.length).length
   · rcases LE (c:=fun _=>false) (zz0 hl) with h|h
     · rw[h,zz0 hl]
     · exact absurd ⟨hl,h⟩ hp
   · have hl2:(SS tr S0 (fun _=>false) ops.toList.length).length≤p:=by rw[JG];omega
     rw[AB8 hl2,AB8 (by omega)]
 · rw[e1,e2];exact hr'
theorem XT {N:List (Nat×List Nat)} {sl0:List Ag}:VO P m ops ops.toList N sl0 K (fun ts'=>UW (Br ops.toList) ts'=true∧∀ p∈ts',p.1<ops.toList.length) (fun ts' σ=>Gk P m ops N sl0 K (Mi ops.toList ts') σ):=by
 refine⟨fun σ h=>h,fun {ts' p} hg hp hrdy=>?_⟩
 cases ts' with
 | nil=>cases hp
 | cons p0 rest =>
   obtain⟨g1,g2⟩:=hg
   have e:p=p0:=by
    rcases List.mem_cons.1 hp with e|h
    · exact e
    · simp only[UW,Bool.and_eq_true,zz8] at g1;have h1:=(g1.1 p h).2;unfold OP at hrdy;rw[zz8] at hrdy;have h2:=hrdy p0 (by simp);rw[h1] at h2
      cases h2
   subst e;rw[List.erase_cons_head];simp only[UW,Bool.and_eq_true] at g1;refine⟨⟨g1.2,fun q hq=>g2 q (by simp[hq])⟩,fun σ h=>?_⟩;obtain⟨t,ns⟩:=p;have ho:ops.toList[t]? = some (ops.toList[t]'(g2 (t,ns) (by simp))):=zz0 _;simp only[Mi,ho] at h ⊢;exact h
theorem ZN {N:List (Nat×List Nat)} {sl0:List Ag}:VO P m ops ops.toList N sl0 K (fun _=>True) (fun ts' σ=>RQ P m ops N sl0 K ts'.length ts' σ):=by
 refine⟨fun σ h=>h,fun {ts' p} _ hp hrdy=>⟨trivial,fun σ h=>?_⟩⟩;have hl:=List.length_erase_of_mem hp;obtain⟨n,hn⟩:∃ n,ts'.length=n+1:=⟨ts'.length - 1,by have:=AB9 hp;omega⟩;rw[hn] at h;rw[hl,hn];exact h p hp hrdy
theorem aC (hst:w0.st=m.st) {Q:Exit→St→Prop} {QC:Exit→Act→World→Prop} (h:nV P m ops Q σ) (hr:Dk P w0 φ σ a w) (hQ:∀ e φ' σ' a' w',Q e σ'→Dk P w0 φ' σ' a' w'→QC e a' w'):∀ (mr:Region.Mode) (t:Nat),wpOps P ops QC (Region.linearise mr ops t) a w:=by
 obtain⟨ts,hok,h⟩:=h;have hd:=ZA hok
 have hord:UW (Br ops.toList) ts=true:=by
  unfold Lw at hok;simp only[Bool.and_eq_true] at hok;exact hok.1.2
 exact Ri hst hd h (fun N σ' h=>⟨_,_,XT,⟨hord,fun p hp=>hd.lt hp⟩,h⟩) hr hQ
theorem aY (hst:w0.st=m.st) {Q:Exit→St→Prop} {QC:Exit→Act→World→Prop} (h:oN P m ops Q σ) (hr:Dk P w0 φ σ a w) (hQ:∀ e φ' σ' a' w',Q e σ'→Dk P w0 φ' σ' a' w'→QC e a' w'):∀ (mr:Region.Mode) (t:Nat),wpOps P ops QC (Region.linearise mr ops t) a w:=by
 obtain⟨ts,hok,h⟩:=h;exact Ri hst (ZI hok) h (fun N σ' h=>⟨_,_,ZN,trivial,h⟩) hr hQ
end
section
variable {P:Program} {w0:DP} {w w':World} {φ φ':B6} {σ σ':St} {a:Act} {sl sl':List Ag} {Fs Fs':List (List Nat)}
theorem Gi:∀ (ds:List Nat) (T:List V),(forgetL T ds).length=T.length
 | [],T=>rfl
 | d::ds,T=>by unfold forgetL;rw[List.foldl_cons];exact (Gi ds _).trans (ACh ..)
theorem Kd:∀ (ds:List Nat) (T:List V) {i:Nat},i∉ds→(forgetL T ds)[i]? = T[i]?
 | [],T,i,_=>rfl
 | d::ds,T,i,h=>by
   unfold forgetL;rw[List.foldl_cons];have:=Kd ds (T.set d .any) (i:=i) (fun hm=>h (ACO _ hm));unfold forgetL at this;rw[this,ACT (fun e=>h (by rw[e];exact List.mem_cons_self))]
theorem Ll:∀ (ds:List Nat) (T:List V) {i:Nat},i<T.length→(i∈ds∨T[i]? = some .any)→(forgetL T ds)[i]? = some .any
 | [],T,i,hi,h=>by
   rcases h with h|h
   · simp at h
   · exact h
 | d::ds,T,i,hi,h=>by
   unfold forgetL;rw[List.foldl_cons];refine Ll ds (T.set d .any) (by simpa using hi) ?_;by_cases hd:d=i
   · subst hd;exact .inr (ACf hi)
   · rw[ACT hd];rcases h with h|h
     · rcases List.mem_cons.1 h with h|h
       · exact absurd h.symm hd
       · exact .inl h
     · exact .inr h
theorem NM {ds:List Nat} {T:List V} {i:Nat} (hi:i<T.length) (h:i∈ds):(forgetL T ds).set i .any=forgetL T ds:=by
 apply List.ext_getElem?;intro k;by_cases hk:i=k
 · subst hk;rw[ACf (by rw[Gi];exact hi),Ll ds T hi (.inl h)]
 · rw[ACT hk]
theorem LA {T:List V} {ds:List Nat} {x:Operand} (h:∀ d∈ds,x≠.tmp d):St.eval ⟨forgetL T ds,sl'⟩ x=St.eval ⟨T,sl⟩ x:=by
 cases x with
 | tmp i =>
   show (((forgetL T ds)[i]?).getD .any)=_;rw[Kd ds T (fun hm=>h i hm rfl)];rfl
 | const v=>rfl
 | global g=>rfl
 | func f=>rfl
theorem Dk.forgetL {T:List V} {ds:List Nat} (hr:Dk P w0 φ ⟨T,sl⟩ a w):Dk P w0 φ ⟨forgetL T ds,sl⟩ a w:=by
 refine⟨hr.mem,hr.defers,by rw[hr.tlen];exact (Gi ds T).symm,fun i x v hx hv=>?_⟩;have hx':(Proofs.Ytnjedabjbeipeaa.forgetL T ds)[i]? = some x:=hx;by_cases h:i∈ds
 · have hi:i<T.length:=by
    have:=(zz1.1 hx').1
    rwa [Gi] at this
   rw[Ll ds T hi (.inl h)] at hx'
   cases hx'
   exact .any _
 · rw[Kd ds T h] at hx';exact hr.tmps i x v hx' hv
structure SI (P:Program) (w0:DP) (φ:B6) (T:List V) (sl:List Ag) (ds:List Nat) (vs:List Value) (done:List Nat) (a:Act) (w:World):Prop where
 rel:Dk P w0 φ ⟨forgetL T ds,sl⟩ a w
 tm:∀ (i d:Nat) (v:Value),i∈done→ds[i]? = some d→vs[i]? = some v→a.tmps[d]? = some v
theorem SI.step {T:List V} {ds:List Nat} {vs:List Value} {done:List Nat} (h:SI P w0 φ T sl ds vs done a w) (nd:ds.Nodup) (hl:∀ d∈ds,d<T.length) {i d:Nat} {v:Value} (hd:ds[i]? = some d) (hv:vs[i]? = some v):SI P w0 φ T sl ds vs (i::done) (a.put (some d) v) w:=by
 obtain⟨Fs,hm⟩:=h.rel.mem;have hdl:=hl d (zz6 hd);have hr:=h.rel.turn (Turn.refl ⟨Fs,hm⟩) (.any v) (some d)
 have e:St.put ⟨forgetL T ds,sl⟩ (some d) .any=⟨forgetL T ds,sl⟩:=by
  show St.mk ((forgetL T ds).set d .any) _=_;rw[NM hdl (zz6 hd)]
 rw[e] at hr;refine⟨hr,fun j d' v' hj hd' hv'=>?_⟩;by_cases hji:j=i
 · subst hji;rw[hd] at hd'
   cases hd'
   rw[hv] at hv'
   cases hv'
   show (a.tmps.setIfInBounds d v)[d]? = _;rw[Array.getElem?_setIfInBounds_self_of_lt (by rw[h.rel.tlen];show d<(forgetL T ds).length;rw[Gi];exact hdl)]
 · have hne:d≠d':=fun e=>by
    subst e;obtain⟨h1,h2⟩:=zz1.1 hd;obtain⟨h3,h4⟩:=zz1.1 hd';exact hji ((List.getElem?_inj h3 nd).1 (by rw[hd,hd']))
   show (a.tmps.setIfInBounds d v)[d']? = _;rw[Array.getElem?_setIfInBounds_ne hne];rcases List.mem_cons.1 hj with hj|hj
   · exact absurd hj hji
   · exact h.tm j d' v' hj hd' hv'
theorem jA (hm:BM P w0 φ sl w Fs) {s g c:Nat} {t:TypeId} {es es':List (List D)} (hs:sl[s]? = some (.arr t false es)) (hp:φ[s]? = some (some g,c)) (hF:Fs[s]? = some [g]) (hO:CO [g] w w') (hl:es'.length=es.length)
 (hrow:∀ G':Nat→Prop,(∀ b,good w0.R φ sl w b→G' b∧∀ o,w'.cell? ⟨b,o,none⟩=w.cell? ⟨b,o,none⟩)→RowOf P w' (Rds w' G') t es' (some g) c [g]) :
 Turn P w0 φ sl w φ (sl.set s (.arr t false es')) w':=by
 have htop:top φ sl g:=⟨s,_,c,hs,trivial,hp⟩
 have hT:∀ b,top φ (sl.set s (.arr t false es')) b→w.heap.size≤b∨top φ sl b:=by
  rintro b ⟨s2,x2,c2,q1,q2,q3⟩;rcases Ex q1 with ⟨rfl,rfl,_⟩|⟨_,q1⟩
  · exact .inr ⟨_,_,c2,hs,trivial,q3⟩
  · exact .inr ⟨s2,x2,c2,q1,q2,q3⟩
 have hsl:∀ (i:Nat) (x:Ag),sl[i]? = some x→∃ x',(sl.set s (.arr t false es'))[i]? = some x'∧Later x x':=by
  intro i x hx;by_cases hi:i=s
  · subst hi;rw[hs] at hx
    cases hx
    exact⟨_,ACf (zz1.1 hs).1,hl⟩
  · exact⟨x,by rw[ACT (fun e=>hi e.symm)];exact hx,Later.refl x⟩
 have hS:∀ b∈[g],top φ sl b∨w.heap.size≤b:=fun b hb=>by rw[zz9.1 hb];exact .inl htop
 have hgm:=EG (R:=w0.R) (φ':=φ) hO hS hT;refine hm.turn (Fs':=Fs) hO hS (by simp[hm.flen]) (by simp[hm.Flen]) hm.nd hm.ge hsl (fun _ _ h _=>h) hT (fun i x h F q1 q2 q3=>?_);rcases Ex q1 with ⟨rfl,rfl,_⟩|⟨hi,q1⟩
 · rw[hp] at q2;rw[hF] at q3
   cases q2
   cases q3
   exact .inr (hrow _ hgm)
 · refine .inl ⟨q1,q2,q3,fun b hb hb2=>?_⟩;rw[zz9.1 hb2] at hb;exact Cf hm.nd q3 hF hi g hb (by simp)
theorem KG {es:List (List D)} {at' i:Nat} (h:at'<es.length) (hi:i<es.length):(Ff es at')[i]? = if i≤at' then es[i]? else es[i - 1]?:=by
 unfold Ff;have h1:(es.take (at'+1)).length=at'+1:=by simp;omega
 by_cases hc:i≤at'
 · rw[if_pos hc,zz4 (by omega),ACi,if_pos (by omega)]
 · rw[if_neg hc,zz5 (by omega),h1,ACi,if_pos (by omega),ACj]
   congr 1
   omega
theorem E5 {es:List (List D)} {at':Nat} (h:at'<es.length):(Ff es at').length=es.length:=by
 unfold Ff;simp;omega
theorem lW (hm:BM P w0 φ sl w Fs) {s at' c:Nat} {A:Option Nat} {t e ty:TypeId} {es:List (List D)} (hs:sl[s]? = some (.arr e false es)) (hp:φ[s]? = some (A,c)) (ht:Bt P t=some e) (hsz:P.cellsOf e=1) (hsi:(P.info? e).map (·.size)=some 1) (ha:at'<es.length) :
 ∃ w' r,(Builtin.copy_ #[t,t] ty #[.slice (if c=at'+1 then Ga A else (Ga A).map (·.add ((at'+1)*P.cellsOf e))) (es.length - (at'+1)) (c - (at'+1)),.slice (if c=at' then Ga A else (Ga A).map (·.add (at'*P.cellsOf e))) (es.length - at') (c - at')]).run P w=.ok r w'∧Turn P w0 φ sl w φ (sl.set s (.arr e false (Ff es at'))) w':=by
 obtain⟨hd,F,k1,k2,k3⟩:=hm.at_ hs;rw[hp] at k1
 cases k1
 obtain⟨q1,q2,⟨q3,q4,_⟩|⟨g,cur,Gs,q3,q4,q5,q6,q7,q8,q9⟩⟩:=k3
 · have:c=0:=q4;have:es.length≤c:=q2;omega
 obtain rfl:A=some g:=q3;have q2':es.length≤c:=q2;have q5':cur.size=c*P.cellsOf e:=q5;rw[hsz,Nat.mul_one] at q5'
 have hG0:∀ f∈Gs,f=[]:=fun f hf=>by
  obtain⟨i,hi,rfl⟩:=List.getElem_of_mem hf;exact (q8 i _ _ (zz0 (by omega)) (zz0 hi)).1
 have hflat:Gs.flatten=[]:=List.flatten_eq_nil_iff.2 hG0;rw[hflat] at q9;subst q9
 have hcell:∀ (i:Nat) (d':List D),es[i]? = some d'→Rds w (good w0.R φ sl w) d' ((cur.toList.drop i).take 1) []:=fun i d' h=>by
  have hi:=(zz1.1 h).1;have:=q8 i d' (Gs[i]'(by omega)) h (zz0 _);rw[hsz,Nat.mul_one,hG0 _ (AB7 _)] at this;exact this
 have hone:∀ i,i<es.length→∀ v,cur.toList[i]? = some v→v.oneCell'=true:=fun i hi v hv=>by
  have h1:=(hcell i _ (zz0 hi)).one v;refine h1 ?_;obtain⟨hl,rfl⟩:=zz1.1 hv;rw[List.drop_eq_getElem_cons hl];simp
 obtain⟨cs,hcs⟩:∃ cs,(cur.toList.drop at').take (es.length - at' - 1)=cs:=⟨_,rfl⟩;have hcl:cs.length=es.length - at' - 1:=by rw[←hcs];simp;omega
 have hcat:∀ j v,cs[j]? = some v→j<es.length - at' - 1∧cur.toList[at'+j]? = some v:=fun j v h=>by
  have hj:=(zz1.1 h).1;rw[←hcs,ACi,if_pos (by omega),ACj] at h;exact⟨by omega,h⟩
 obtain⟨o,hdo,hof⟩:∃ o,(if c=at'+1 then Ga (some g) else (Ga (some g)).map (·.add ((at'+1)*P.cellsOf e)))=some ⟨g,o,none⟩∧(o=at'+1∨(o=0∧cs=[])):=by
  by_cases hc:c=at'+1
  · rw[if_pos hc];exact⟨0,rfl,.inr ⟨rfl,List.length_eq_zero_iff.1 (by omega)⟩⟩
  · rw[if_neg hc,hsz];exact⟨at'+1,by simp[Ga,Addr.add],.inl rfl⟩
 have hsrc:(if c=at' then Ga (some g) else (Ga (some g)).map (·.add (at'*P.cellsOf e)))=some ⟨g,at',none⟩:=by
  rw[if_neg (by omega),hsz];simp[Ga,Addr.add];omega
 rw[hdo,hsrc]
 have hrun:=run_copy_row P w t t ty e g o (es.length - (at'+1)) (c - (at'+1)) ⟨g,at',none⟩ (es.length - at') (c - at') cur e cs (BR ht) hsi q4 (by rw[hcl];show _=min _ _;omega)
  (fun j v h=>by
    obtain⟨h1,h2⟩:=hcat j v h;have hl:=(zz1.1 h2).1;have:(⟨g,at',none⟩:Addr).add j=⟨g,at'+j,none⟩:=by unfold Addr.add;split<;>simp_all
    rw[this];simp only[World.cell?,q4]
    simpa using h2)
  (by rcases hof with rfl|⟨rfl,h⟩
      · omega
      · rw[h];simp)
  (fun v hv=>by
    obtain⟨j,hj⟩:=List.mem_iff_getElem?.1 hv;obtain⟨h1,h2⟩:=hcat j v hj
    exact hone (at'+j) (by omega) v h2)
 obtain⟨cur2,hcur2⟩:∃ cur2,(cur.toList.take o++cs++cur.toList.drop (o+cs.length)).toArray=cur2:=⟨_,rfl⟩;rw[hcur2] at hrun;have hll:cur.toList.length=c:=by rw[Array.length_toList];exact q5'
 have hc2l:cur2.toList=cur.toList.take o++cs++cur.toList.drop (o+cs.length):=by rw[←hcur2]
 have hc2s:cur2.size=c:=by
  rw[←Array.length_toList,hc2l];simp;rcases hof with rfl|⟨rfl,h⟩
  · omega
  · rw[h];simp;omega
 have hc2at:∀ i,i<es.length→cur2.toList[i]? = if i≤at' then cur.toList[i]? else cur.toList[i - 1]?:=fun i hi=>by
  rw[hc2l];rcases hof with rfl|⟨rfl,h⟩
  · have h1:(cur.toList.take (at'+1)).length=at'+1:=by simp;omega
    by_cases hc:i≤at'
    · rw[if_pos hc,ACY,zz4 (by omega),ACi,if_pos (by omega)]
    · rw[if_neg hc,ACY,zz5 (by omega),h1,zz4 (by omega),←hcs,ACi,if_pos (by omega),ACj]
      congr 1
      omega
  · have:es.length=at'+1:=by
     have:=hcl;rw[h] at this;simp at this;omega
    rw[if_pos (by omega),h];simp
 obtain⟨hO,hg'⟩:=H2 (cs:=cur2) q4;refine⟨_,_,hrun,jA hm hs hp k2 hO (E5 ha) fun G' hG'=>?_⟩;refine⟨q1,by rw[E5 ha];exact q2',.inr ⟨g,cur2,List.replicate es.length [],rfl,hg',by rw[hsz,Nat.mul_one];exact hc2s,by rw[E5 ha];simp,fun d' hd'=>?_,fun i d' f hi hf=>?_,?_⟩⟩
 · obtain⟨i,hi⟩:=List.mem_iff_getElem?.1 hd';have hil:=(zz1.1 hi).1;rw[E5 ha] at hil;rw[KG ha hil] at hi;split at hi
   · exact q7 d' (zz6 hi)
   · exact q7 d' (zz6 hi)
 · have hil:=(zz1.1 hi).1;rw[E5 ha] at hil;rw[List.getElem?_replicate,if_pos hil] at hf
   cases hf
   rw[KG ha hil] at hi;rw[hsz,Nat.mul_one]
   have hseg:∀ j,cur2.toList[i]? = cur.toList[j]?→(cur2.toList.drop i).take 1=(cur.toList.drop j).take 1:=fun j h=>by
    apply List.ext_getElem?;intro q;rw[ACi,ACi];split
    · rename_i hq;obtain rfl:q=0:=by omega
      rw[ACj,ACj];exact h
    · rfl
   have h2:=hc2at i hil;by_cases hc:i≤at'
   · rw[if_pos hc] at hi h2;rw[hseg i h2];exact (hcell i d' hi).mono hG'
   · rw[if_neg hc] at hi h2;rw[hseg (i - 1) h2];exact (hcell (i - 1) d' hi).mono hG'
 · rw[List.flatten_eq_nil_iff.2 (fun f hf=>(List.mem_replicate.1 hf).2)]
section
variable {T:List V} {dA dB dC dD dE dF dG dH k at' c n:Nat} {A:Option Nat} {t ti tj e:TypeId} {x y:Operand} {ops:Array Oper} {es:List (List D)}
theorem Fl {QC:Exit→Act→World→Prop}
 (hops:ops.toList.map K6=[(some dA,.move x,none),(some dB,.move y,none),(some dC,.binOp .add ti (.tmp dB) (.const (.int .i64 1)) tj,none),(some dD,.slice t (.tmp dA) (some (.tmp dC)) none none,none),(some dE,.move x,none),(some dF,.move y,none),
   (some dG,.slice t (.tmp dE) (some (.tmp dF)) none none,none),(some dH,.call { callee:=.builtin .copy,args:=#[.tmp dD,.tmp dG],argTypes:=#[t,t] },none)])
 (nd:[dA,dB,dC,dD,dE,dF,dG,dH].Nodup) (hl:∀ d∈[dA,dB,dC,dD,dE,dF,dG,dH],d<T.length∧x≠.tmp d∧y≠.tmp d)
 (hx:St.eval ⟨T,sl⟩ x=.ref k) (hs:sl[k]? = some (.arr e false es)) (hp:φ[k]? = some (A,c)) (ht:Bt P t=some e) (hu:(P.underlying e).isSome=true) (hsz:P.cellsOf e=1) (hsi:(P.info? e).map (·.size)=some 1)
 (hy:St.eval ⟨T,sl⟩ y=.d (.int .i64 at')) (ha:at'<es.length) (hcc:es.length≤c∧c≤9223372036854775807)
 (hQ:∀ a' w',Dk P w0 φ ⟨forgetL T [dA,dB,dC,dD,dE,dF,dG,dH],sl.set k (.arr e false (Ff es at'))⟩ a' w'→QC .normal a' w') :
 ∀ (l done:List Nat) (a:Act) (w:World),Jc done l=true→7∉done →
   SI P w0 φ T sl [dA,dB,dC,dD,dE,dF,dG,dH] [.slice (Ga A) es.length c,.int .i64 at',.int .i64 ((at':Int)+1),.slice (if c=at'+1 then Ga A else (Ga A).map (·.add ((at'+1)*P.cellsOf e))) (es.length - (at'+1)) (c - (at'+1)),.slice (Ga A) es.length c,.int .i64 at',.slice (if c=at' then Ga A else (Ga A).map (·.add (at'*P.cellsOf e))) (es.length - at') (c - at')] done a w→wpOps P ops QC l a w
 | [],done,a,w,h,h7,_=>by
   unfold Jc at h;simp at h;exact absurd h h7
 | i::l,done,a,w,h,h7,hI=>by
   unfold Jc at h;simp only[Bool.and_eq_true] at h;obtain⟨⟨-,hdep⟩,hrest⟩:=h;have hl':∀ d∈[dA,dB,dC,dD,dE,dF,dG,dH],d<T.length:=fun d hd=>(hl d hd).1;have ex:=hI.rel.eval x;have ey:=hI.rel.eval y;rw[LA (sl:=sl) (fun d hd=>(hl d hd).2.1),hx] at ex;rw[LA (sl:=sl) (fun d hd=>(hl d hd).2.2),hy] at ey
   have vx:a.eval x=.slice (Ga A) es.length c:=by
    generalize a.eval x=u at ex ⊢
    cases ex with
    | gone h1=>rw[hs] at h1;cases h1
    | blk h1 h2=>rw[hs] at h1;cases h1
    | ref h1 h2 =>
      rw[hs] at h1
      cases h1
      rw[hp] at h2
      cases h2
      rfl
   have vy:a.eval y=.int .i64 at':=ey.int;have wr:IntKind.i64.wrap ((at':Int)+1)=(at':Int)+1:=by rw[IntKind.wrap_i64];omega
   match i,hdep,hrest with
   | 0,hdep,hrest =>
     refine A0 hops rfl fun o p1 p2=>BX (v:=.slice (Ga A) es.length c) (w':=w) (by simp[execOp,p2,vx]) ?_;rw[p1];exact Fl hops nd hl hx hs hp ht hu hsz hsi hy ha hcc hQ l _ _ _ hrest (by simpa using h7) (hI.step (i:=0) nd hl' rfl rfl)
   | 1,hdep,hrest =>
     refine A0 hops rfl fun o p1 p2=>BX (v:=.int .i64 at') (w':=w) (by simp[execOp,p2,vy]) ?_;rw[p1];exact Fl hops nd hl hx hs hp ht hu hsz hsi hy ha hcc hQ l _ _ _ hrest (by simpa using h7) (hI.step (i:=1) nd hl' rfl rfl)
   | 2,hdep,hrest =>
     have hb:a.eval (.tmp dB)=.int .i64 at':=EC (hI.tm 1 dB _ (by simpa using hdep) rfl rfl);have hg:∀ (x y:Operand),(eqGuard .add ti x y (.int .i64 at') (.int .i64 1)).run P w=.ok () w:=fun x y=>Gg .add ti x y .i64 .i64 at' 1 w;have hone:a.eval (.const (.int .i64 1))=.int .i64 1:=rfl;refine A0 hops rfl fun o p1 p2=>BX (v:=.int .i64 ((at':Int)+1)) (w':=w) (by simp[execOp,p2,hb,hone,hg,binOp,Op.intArith,Op.intBits,Result.andThen,wr]) ?_;rw[p1];exact Fl hops nd hl hx hs hp ht hu hsz hsi hy ha hcc hQ l _ _ _ hrest (by simpa using h7) (hI.step (i:=2) nd hl' rfl rfl)
   | 3,hdep,hrest =>
     simp only[Bool.and_eq_true] at hdep;have hb:a.eval (.tmp dA)=.slice (Ga A) es.length c:=EC (hI.tm 0 dA _ (by simpa using hdep.1) rfl rfl);have hb2:a.eval (.tmp dC)=.int .i64 ((at':Int)+1):=EC (hI.tm 2 dC _ (by simpa using hdep.2) rfl rfl);have hr:=Gr (P:=P) (w:=w) (A:=Ga A) (len:=es.length) (cap:=c) (lo:=at'+1) (hi:=es.length) (vlo:=some (.int .i64 ((at':Int)+1))) (vhi:=none) (BR ht) hu (.inr ⟨.i64,by simp⟩) (.inl ⟨rfl,rfl⟩) (by omega) hcc.1;obtain⟨v3,hv3⟩:∃ v3,Value.slice (if c=at'+1 then Ga A else (Ga A).map (·.add ((at'+1)*P.cellsOf e))) (es.length - (at'+1)) (c - (at'+1))=v3:=⟨_,rfl⟩;rw[hv3] at hr;refine A0 hops rfl fun o p1 p2=>BX (v:=v3) (w':=w) (by simp[execOp,p2,hb,hb2,hr]) ?_;rw[p1];exact Fl hops nd hl hx hs hp ht hu hsz hsi hy ha hcc hQ l _ _ _ hrest (by simpa using h7) (hI.step (i:=3) nd hl' rfl (congrArg some hv3))
   | 4,hdep,hrest =>
     refine A0 hops rfl fun o p1 p2=>BX (v:=.slice (Ga A) es.length c) (w':=w) (by simp[execOp,p2,vx]) ?_;rw[p1];exact Fl hops nd hl hx hs hp ht hu hsz hsi hy ha hcc hQ l _ _ _ hrest (by simpa using h7) (hI.step (i:=4) nd hl' rfl rfl)
   | 5,hdep,hrest =>
     refine A0 hops rfl fun o p1 p2=>BX (v:=.int .i64 at') (w':=w) (by simp[execOp,p2,vy]) ?_;rw[p1];exact Fl hops nd hl hx hs hp ht hu hsz hsi hy ha hcc hQ l _ _ _ hrest (by simpa using h7) (hI.step (i:=5) nd hl' rfl rfl)
   | 6,hdep,hrest =>
     simp only[Bool.and_eq_true] at hdep;have hb:a.eval (.tmp dE)=.slice (Ga A) es.length c:=EC (hI.tm 4 dE _ (by simpa using hdep.1) rfl rfl);have hb2:a.eval (.tmp dF)=.int .i64 (at':Int):=EC (hI.tm 5 dF _ (by simpa using hdep.2) rfl rfl);have hr:=Gr (P:=P) (w:=w) (A:=Ga A) (len:=es.length) (cap:=c) (lo:=at') (hi:=es.length) (vlo:=some (.int .i64 (at':Int))) (vhi:=none) (BR ht) hu (.inr ⟨.i64,rfl⟩) (.inl ⟨rfl,rfl⟩) (by omega) hcc.1;obtain⟨v6,hv6⟩:∃ v6,Value.slice (if c=at' then Ga A else (Ga A).map (·.add (at'*P.cellsOf e))) (es.length - at') (c - at')=v6:=⟨_,rfl⟩;rw[hv6] at hr;refine A0 hops rfl fun o p1 p2=>BX (v:=v6) (w':=w) (by simp[execOp,p2,hb,hb2,hr]) ?_;rw[p1];exact Fl hops nd hl hx hs hp ht hu hsz hsi hy ha hcc hQ l _ _ _ hrest (by simpa using h7) (hI.step (i:=6) nd hl' rfl (congrArg some hv6))
   | 7,hdep,hrest =>
     simp only[Bool.and_eq_true] at hdep;have hb:=EC (hI.tm 3 dD _ (by simpa using hdep.1) rfl rfl);have hb2:=EC (hI.tm 6 dG _ (by simpa using hdep.2) rfl rfl)
     obtain rfl:l=[]:=by
      cases l with
      | nil=>rfl
      | cons j l=>unfold Jc at hrest;simp at hrest
     obtain⟨Fs,hm⟩:=hI.rel.mem;refine A0 hops rfl fun o p1 p2=>?_;obtain⟨w',r,k1,k2⟩:=lW (ty:=o.type) hm hs hp ht hsz hsi ha;obtain⟨v3,hv3⟩:∃ v3,Value.slice (if c=at'+1 then Ga A else (Ga A).map (·.add ((at'+1)*P.cellsOf e))) (es.length - (at'+1)) (c - (at'+1))=v3:=⟨_,rfl⟩;obtain⟨v6,hv6⟩:∃ v6,Value.slice (if c=at' then Ga A else (Ga A).map (·.add (at'*P.cellsOf e))) (es.length - at') (c - at')=v6:=⟨_,rfl⟩;rw[hv3,hv6] at k1;rw[hv3] at hb;rw[hv6] at hb2;refine BX (v:=r) (w':=w') (by simp[execOp,p2,resolve,invoke,builtin,hb,hb2,k1,Result.andThen]) ?_;rw[p1];have hr:=hI.rel.turn k2 (.any r) (some dH)
     have e:St.put ⟨forgetL T [dA,dB,dC,dD,dE,dF,dG,dH],sl.set k (.arr e false (Ff es at'))⟩ (some dH) .any=⟨forgetL T [dA,dB,dC,dD,dE,dF,dG,dH],sl.set k (.arr e false (Ff es at'))⟩:=by
      show St.mk ((forgetL T _).set dH .any) _=_;rw[NM (hl' dH (by simp)) (by simp)]
     rw[e] at hr;exact hQ _ _ hr
   | i+8,hdep,hrest=>simp at hdep
theorem Zz {m:Mode} {Q:Exit→St→Prop} {QC:Exit→Act→World→Prop} (h:iJ P m ops Q σ) (hr:Dk P w0 φ σ a w) (hQ:∀ e φ' σ' a' w',Q e σ'→Dk P w0 φ' σ' a' w'→QC e a' w') (mr:Region.Mode) (tt:Nat):wpOps P ops QC (Region.linearise mr ops tt) a w:=by
 obtain⟨-,hok,dA,dB,dC,dD,dE,dF,dG,dH,t,ti,tj,x,y,k,e,es,at',hops,nd,ds,hx,hs,ht,hu,hsz,hsi,hy,ha,hq⟩:=h;obtain⟨T,sl⟩:=σ
 have hin:Jc [] (Region.linearise mr ops tt)=true:=by
  obtain⟨l,h1,h2⟩:=Nn (m:=mr) (ops:=ops) ops.size tt (Array.replicate ops.size false) [];have e:Region.linearise mr ops tt=l:=by unfold Region.linearise;rw[h2];rfl
  rw[e];unfold SV at hok;rw[zz8] at hok;exact zz8.1 (hok mr (by cases mr<;>simp)) l h1
 obtain⟨Fs,hm⟩:=hr.mem;obtain⟨⟨A,c⟩,F,k1,k2,k3⟩:=hm.at_ hs;refine Fl hops nd ds hx hs k1 ht hu hsz hsi hy ha ⟨k3.2.1,k3.1⟩ (fun a' w' h=>hQ _ _ _ _ _ hq h) _ [] a w hin (by simp) ⟨hr.forgetL,fun i d v h=>by simp at h⟩
end
end
section
variable {P:Program} {w0:DP} {w w':World} {φ φ':B6} {σ σ':St} {a:Act} {sl sl':List Ag} {Fs Fs':List (List Nat)}
theorem We {R:List D→List Value→List Nat→Prop} {t:TypeId} {es:List (List D)} {A:Option Nat} {c:Nat} {F:List Nat} (h:RowOf P w R t es A c F) (n:Nat):∃ F',RowOf P w R t (es.take n) A c F'∧∀ q,F'.count q≤F.count q:=by
 obtain⟨h1,h2,⟨rfl,rfl,rfl⟩|⟨g,cur,Gs,rfl,h3,h4,h5,h6,h7,rfl⟩⟩:=h
 · exact⟨[],⟨h1,by rw[ACL];omega,.inl ⟨rfl,rfl,rfl⟩⟩,by simp⟩
 · refine⟨g::(Gs.take n).flatten,⟨h1,by simp;omega,.inr ⟨g,cur,Gs.take n,rfl,h3,h4,by simp[h5],fun e he=>h6 e (List.mem_of_mem_take he),fun i e f he hf=>?_,rfl⟩⟩,fun q=>?_⟩
   · rw[ACi] at he hf;split at he
     · rename_i hi;rw[if_pos hi] at hf;exact h7 i e f he hf
     · cases he
   · have e1:Gs.flatten=(Gs.take n).flatten++(Gs.drop n).flatten:=by rw[←ACK,List.take_append_drop]
     rw[List.count_cons,List.count_cons,e1,List.count_append];omega
theorem Tz (hst:w0.st=false) (hr:Dk P w0 φ σ a w) {t:TypeId} {s n:Nat} {lo hi:Option Operand} {z:V} {sl':List Ag} {v:Value} (hn:Jx σ.slots (.ref s)=some n) (h:Pu P t σ.slots s lo hi (Dh σ lo 0) (Dh σ hi n)=some (z,sl'))
 (hv:σ.vr w0.R φ w (.ref s) v):∃ u φ',(Instr.sliceAt t v (lo.map a.eval) (hi.map a.eval) none).run P w=.ok u w∧Turn P w0 φ σ.slots w φ' sl' w∧VR w (good w0.R φ' sl' w) φ' sl' z u:=by
 obtain⟨Fs,hm⟩:=hr.mem;unfold Pu at h;split at h
 · rename_i e t' ow es l m he hs hl hh;have hlen:n=es.length:=by simp[Jx,hs] at hn;exact hn.symm
   subst hlen;split at h
   · rename_i hc;obtain⟨c1,c2,c3,c4⟩:=hc
     cases hv with
     | gone h1=>rw[hs] at h1;cases h1
     | blk h1=>rw[hs] at h1;cases h1
     | @ref _ _ _ _ A c h1 h2 =>
       rw[hs] at h1
       cases h1
       obtain⟨hd,F,k1,k2,k3⟩:=hm.at_ hs;rw[h2] at k1
       cases k1
       have hcap:es.length≤c:=by cases ow<;>exact k3.2.1
       have hbl:=EN hr hl;have hbh:=EN hr hh
       have hrun:(Instr.sliceAt t (.slice (Ga A) es.length c) (lo.map a.eval) (hi.map a.eval) none).run P w=.ok (.slice (if c=l then Ga A else (Ga A).map (·.add (l*P.cellsOf e))) (m - l) (c - l)) w:=by
        refine Gr (BR he) c1 ?_ ?_ c2 (by omega)
        · rcases hbl with ⟨rfl,rfl⟩|⟨y,k,rfl,hy⟩
          · exact .inl ⟨rfl,rfl⟩
          · exact .inr ⟨k,by simp[hy]⟩
        · rcases hbh with ⟨rfl,rfl⟩|⟨y,k,rfl,hy⟩
          · exact .inl ⟨rfl,rfl⟩
          · exact .inr ⟨k,by simp[hy]⟩
       split at h
       · cases h
         have hl0:l=0:=by simp[Dh] at hl;exact hl.symm
         subst hl0
         have hval:(if c=0 then Ga A else (Ga A).map (·.add (0*P.cellsOf e)))=Ga A:=by
          split
          · rfl
          · cases A<;>simp[Addr.add]
         rw[hval] at hrun
         have hsr:∃ F',(∀ φ' sl',jZ w0.R φ σ.slots w φ' sl' w→SR P w (good w0.R φ' sl' w) φ' sl' (.arr t' ow (es.take m)) (A,c) F')∧∀ q,F'.count q≤F.count q:=by
          cases ow with
          | true=>obtain⟨F',r1,r2⟩:=We k3 m;exact⟨F',fun _ _ _=>r1,r2⟩
          | false=>obtain⟨F',r1,r2⟩:=We k3 m;exact⟨F',fun φ' sl' he=>r1.stay (fun _ _=>rfl) fun _ _ _ _ _ hr=>hr.mono he.hk,r2⟩
         obtain⟨F',r1,r2⟩:=hsr;have hof:AH Fs [s]=F:=by simp[AH,k2]
         refine⟨_,φ++[(A,c)],hrun,C0 (y:=.arr t' ow (es.take m)) (F':=F') hm (ks:=[s]) (by simp) (by simpa using ⟨_,hs,trivial⟩) (fun g hg=>by subst hg;exact⟨s,by simp,c,h2⟩) (CO.refl _ _) (fun g hg=>.inl hg) r1 (fun q=>by rw[hof];have:=r2 q;omega),?_⟩;have hl1:(es.take m).length=m - 0:=by simp;omega
         rw[←hl1,Nat.sub_zero];exact .ref (t:=t') (ow:=ow) (es:=es.take m) (by rw[zz5 (by rw[BF];exact Nat.le_refl _),BF];simp) (by rw[zz5 (by rw[hm.flen];exact Nat.le_refl _),hm.flen];simp)
       · cases h
         obtain⟨t1,t2,t3⟩:=Gt hst hm (ks:=[s]) (by simp) (by simpa using ⟨_,hs,trivial⟩);have hrd:Rd w (good w0.R φ (kill [s] σ.slots) w) (.sl t' es) (.slice (Ga A) es.length c):=J4 (x:=.ref s) (by simp[GT,hs]) hm (.ref hs h2) t2 fun s' e F hF=>by cases e;exact t3 s (by simp) F hF
         obtain⟨_,q2⟩:=hrd.part c2 c3 (fun x hx=>by have:=zz8.1 c4 x hx;simpa using this);exact⟨_,φ,hrun,t1,.d q2⟩
   · cases h
 · rename_i e t' n' es l m he hs hl hh;have hlen:n=es.length:=by simp[Jx,hs] at hn;exact hn.symm
   subst hlen;split at h
   · rename_i hc;obtain⟨c1,c2,c3,c4⟩:=hc
     cases h
     subst c4;obtain⟨g,c,cur,rfl,hp,hF,hg,hn',hc63,hlc,hsize,hel,hat⟩:=gU hm hs hv;have hbl:=EN hr hl;have hbh:=EN hr hh
     have hrun:(Instr.sliceAt t (.slice (some ⟨g,c / Ay*n',none⟩) es.length (c % Ay)) (lo.map a.eval) (hi.map a.eval) none).run P w=.ok (.slice (if c % Ay=l then some ⟨g,c / Ay*n',none⟩ else (some (⟨g,c / Ay*n',none⟩:Addr)).map (·.add (l*P.cellsOf e))) (es.length - l) (c % Ay - l)) w:=by
      refine Gr (BR he) c1 ?_ ?_ c3 (by omega)
      · rcases hbl with ⟨rfl,rfl⟩|⟨y,k,rfl,hy⟩
        · exact .inl ⟨rfl,rfl⟩
        · exact .inr ⟨k,by simp[hy]⟩
      · rcases hbh with ⟨rfl,-⟩|⟨y,k,rfl,hy⟩
        · exact .inl ⟨rfl,rfl⟩
        · exact .inr ⟨k,by simp[hy]⟩
     have hlt2:c % Ay<Ay:=Nat.mod_lt _ (by unfold Ay;omega)
     obtain⟨h',hh1,hh2,hh3⟩:∃ h',h' % Ay=c % Ay - l∧(c % Ay≠l→h' / Ay=c / Ay+l)∧(c % Ay=l→h' / Ay=c / Ay):=by
      by_cases hcl:c % Ay=l
      · obtain⟨q1,q2⟩:=Rn (o:=c / Ay) (c:=0) (by unfold Ay;omega);exact⟨c / Ay*Ay+0,by omega,fun h=>absurd hcl h,fun _=>q1⟩
      · obtain⟨q1,q2⟩:=Rn (o:=c / Ay+l) (c:=c % Ay - l) (by omega);exact⟨(c / Ay+l)*Ay+(c % Ay - l),q2,fun _=>q1,fun h=>absurd h hcl⟩
     have hval:(if c % Ay=l then some ⟨g,c / Ay*n',none⟩ else (some (⟨g,c / Ay*n',none⟩:Addr)).map (·.add (l*P.cellsOf e)))=some (⟨g,h' / Ay*n',none⟩:Addr):=by
      split
      · rename_i hcl;rw[hh3 hcl]
      · rename_i hcl;rw[hh2 hcl,Option.map_some,De,←c2,←Nat.add_mul]
     rw[hval] at hrun
     have hel0:∀ i x,(es.drop l)[i]? = some x→c % Ay≠l:=fun i x hx e=>by
      rw[ACj] at hx;have:=(zz1.1 hx).1;omega
     have hof:AH Fs [s]=[g]:=by simp[AH,hF]
     refine⟨_,φ++[(some g,h')],hrun,C0 (y:=.blk (.que t' n' (es.drop l))) (A:=some g) (A':=some g) (F':=[g]) hm (ks:=[s]) (by simp) (by simpa using ⟨_,hs,trivial⟩) (fun g' hg'=>by cases hg';exact⟨s,by simp,c,hp⟩) (CO.refl _ _) (fun g' hg'=>.inl hg') (fun φ' sl' he=>?_) (fun q=>by rw[hof];omega),?_⟩
     · refine⟨g,_,rfl,rfl,hg,cur,rfl,hn',by show h' % Ay≤_;omega,by show (es.drop l).length≤h' % Ay;rw[List.length_drop];omega,?_,fun x hx=>hel x (List.mem_of_mem_drop hx),fun i x hx=>?_⟩
       · refine Nat.le_trans (Nat.mul_le_mul_right _ ?_) hsize;show h' / Ay+h' % Ay≤_;by_cases hcl:c % Ay=l
         · rw[hh3 hcl];omega
         · rw[hh2 hcl];omega
       · show _=(((cur.toList.drop ((h' / Ay+i)*n')).take n').map some);rw[hh2 (hel0 i x hx)];rw[ACj] at hx;rw[hat _ x hx,Nat.add_assoc]
     · have hv2:(Bk.que t' n' (es.drop l)).val (some g,h')=.slice (some ⟨g,h' / Ay*n',none⟩) (es.length - l) (c % Ay - l):=by simp[Bk.val,hh1]
       rw[←hv2];exact .blk (by rw[zz5 (by rw[BF];exact Nat.le_refl _),BF];simp) (by rw[zz5 (by rw[hm.flen];exact Nat.le_refl _),hm.flen];simp)
   · cases h
 · cases h
theorem Sn {m:Mode} (hst:w0.st=m.st) (hck:m.tc=true→m.st=true→w0.Apart) {o:Oper} {K:St→Prop} (h:VT P m o K σ) (hr:Dk P w0 φ σ a w) {KC:Act→World→Prop} {Q:Exit→Act→World→Prop} (hK:∀ φ' σ' a' w',K σ'→Dk P w0 φ' σ' a' w'→KC a' w'):o.wp P a w KC Q:=by
 obtain⟨Fs,hm⟩:=hr.mem
 have quiet:(∃ x news,AQ P m.st σ.slots.length σ o x news∧K (St.put ⟨σ.tmps,σ.slots++news⟩ o.dst x))→o.wp P a w KC Q:=by
  rintro⟨x,news,h1,h2⟩;refine Ml hst h1 hr fun v w' hq=>?_;obtain⟨φ',h3,h4⟩:=Rf hm hq;exact hK φ' _ _ _ h2 (hr.turn h3 h4 o.dst)
 unfold VT at h;split at h
 · rename_i t p y ho;obtain⟨sl',h1,h2⟩:=h;obtain⟨w',h3,h4⟩:=Ma hst h1 hm (hr.eval p) (hr.evalT t y);have hrun:(execOp a.eval o).run P w=.ok .skip w':=by simp[execOp,ho,h3]
   unfold Oper.wp;rw[hrun];exact hK φ _ _ _ h2 (hr.turn h4 (.any _) o.dst)
 · rename_i t x k y ho;obtain⟨-,s,es,ky,v,h1,h2,h3,h4,h5⟩:=h;obtain⟨w',k1,k2⟩:=TJ hm h1 (hr.eval x) h2 (hr.eval k) h3 (hr.eval y) h4;have hrun:(execOp a.eval o).run P w=.ok .skip w':=by simp[execOp,ho,k1]
   unfold Oper.wp;rw[hrun];exact hK φ _ _ _ h5 (hr.turn k2 (.any _) o.dst)
 · rename_i c ho;split at h
   · rename_i hc;split at h
     · rename_i x y t t' hx ht;obtain⟨rfl,h⟩:=h
       have happ:∃ r w' φ' sl' z,(Builtin.append_ #[t',t'] o.type #[a.eval x,a.eval y]).run P w=.ok r w'∧Turn P w0 φ σ.slots w φ' sl' w'∧VR w' (good w0.R φ' sl' w') φ' sl' z r∧K (St.put ⟨σ.tmps,sl'⟩ o.dst z):=by
        rcases h with h|⟨-,h0,h|h⟩
        · exact LN hst (ty:=o.type) hm (hr.evalT _ x) (hr.evalT _ y) h
        · exact aD (hst.trans h0) (ty:=o.type) hm (hr.evalT _ x) (hr.evalT _ y) h
        · exact ZY (hst.trans h0) (ty:=o.type) hm (hr.evalT _ x) (hr.evalT _ y) h
       obtain⟨r,w',φ',sl',z,h1,h2,h3,h4⟩:=happ;have hargs:c.args=#[x,y]:=by rw[←Array.toArray_toList (xs:=c.args),hx]
       have htys:c.argTypes=#[t',t']:=by rw[←Array.toArray_toList (xs:=c.argTypes),ht]
       have hrun:(execOp a.eval o).run P w=.ok (.value r) w':=by
        simp[execOp,ho,resolve,hc,invoke,builtin,hargs,htys,h1]
       exact BX hrun (hK φ' _ _ _ h4 (hr.turn h2 h3 o.dst))
     · exact h.elim
   · rename_i g hc;rcases h with h|h
     · exact quiet h
     · split at h
       · rename_i f caps hf;have hg:=hr.eval g;rw[hf] at hg;obtain⟨us,hus,hul,huv⟩:=hg.fnv
         have hcall:C5 P f=true∧Calls P f (c.args.toList.map a.eval++us).toArray w fun e w'=>∃ v φ' sl' z,e=.returned v∧Turn P w0 φ σ.slots w φ' sl' w'∧VR w' (good w0.R φ' sl' w') φ' sl' z v∧K (St.put ⟨σ.tmps,sl'⟩ o.dst z):=by
          rcases h with h|h
          · exact Ny hst hr h (vs:=c.args.toList.map a.eval++us) (by simp[hul]) (Ov hr hul huv)
          · exact Wk hst hck hr h (vs:=c.args.toList.map a.eval++us) (by simp[hul]) (Ov hr hul huv)
         obtain⟨k1,k2⟩:=hcall;have hrun:=Hs (w:=w) (a:=a) (o:=o) (c:=c) ho hc hus k1;unfold Oper.wp;rw[hrun];refine k2.mono ?_;rintro e w' ⟨v,φ',sl',z,rfl,q1,q2,q3⟩;exact hK φ' _ _ _ q3 (hr.turn q1 q2 o.dst)
       · exact h.elim
   · exact quiet h
 · rename_i t x lo hi ho;split at h
   · rename_i s hx;obtain⟨_,h0,n,z,sl',h1,h2,h3⟩:=h;have hv:=hr.eval x;rw[hx] at hv;obtain⟨u,φ',q1,q2,q3⟩:=Tz (hst.trans h0) hr h1 h2 hv;have hrun:(execOp a.eval o).run P w=.ok (.value u) w:=by simp[execOp,ho,q1]
     exact BX hrun (hK φ' _ _ _ h3 (hr.turn q2 q3 o.dst))
   · exact quiet h
 · rename_i t len ps ho;split at h
   · rename_i y ks hy;obtain⟨u,φ',w',q1,q2,q3⟩:=Uk hm (g:=a.eval) hy (fun x=>hr.eval x)
     have hrun:(execOp a.eval o).run P w=.ok (.value u) w':=by
      simp at q1;simp[execOp,ho,q1]
     exact BX hrun (hK φ' _ _ _ h (hr.turn q2 q3 o.dst))
   · exact quiet h
 · exact quiet h
theorem Dk.same (h:Dk P w0 φ σ a w) {d:Nat} {x:V} (hx:σ.get d=x) (hd:x≠.any):σ.put (some d) x=σ:=by
 unfold St.put;unfold St.get at hx
 cases hd':σ.tmps[d]? with
 | none=>rw[hd'] at hx;exact absurd hx.symm hd
 | some y =>
   rw[hd'] at hx;simp at hx;subst hx;have hl:=(zz1.1 hd').1
   have:σ.tmps.set d y=σ.tmps:=by
    apply List.ext_getElem?;intro i;by_cases hi:d=i
    · subst hi;rw[ACf hl,hd']
    · rw[ACT hi]
   simp only[this]
theorem Fe {m:Mode} (hst:w0.st=m.st) (hck:m.tc=true→m.st=true→w0.Apart) {ops:Array Oper} {K:St→Prop} {Q:Exit→Act→World→Prop} (hK:∀ φ' σ' a' w',K σ'→Dk P w0 φ' σ' a' w'→Q .normal a' w'):∀ (l:List Oper) {φ:B6} {σ:St} {a:Act} {w:World},Bb P m ops K l σ→Dk P w0 φ σ a w→wpList P ops Q l a w
 | [],φ,σ,a,w,h,hr=>hK φ σ a w h hr
 | o::l,φ,σ,a,w,h,hr=>by
   refine wpList_step fun KC hKC=>?_;unfold Bb at h;split at h
   · rename_i hg;rw[if_pos (by simp[Region.wanted,hg])];exact Sn hst hck h hr fun φ' σ' a' w' h1 h2=>hKC a' w' (Fe hst hck hK l h1 h2)
   · rename_i j b hg;split at h
     · exact h.elim
     rename_i d hd;split at h
     · rename_i t ht;have hv:=hr.eval (.tmp d);have hget:σ.eval (.tmp d)=.d (.bool t):=ht;rw[hget] at hv;have hv':=hv.bool
       have hl:d<a.tmps.size:=by
        rcases Nat.lt_or_ge d a.tmps.size with h|h
        · exact h
        · have:a.eval (.tmp d)=undef:=by show a.tmps.getD d undef=_;simp[Array.getD,Nat.not_lt.2 h]
          rw[this] at hv';cases hv'
       have hy:yielded ops a.tmps j=some t:=by
        unfold yielded;rw[hd]
        have:a.tmps[d]? = some (.bool t):=by
         rw[Array.getElem?_eq_getElem hl];have:a.eval (.tmp d)=a.tmps[d]:=by show a.tmps.getD d undef=_;simp[Array.getD,hl]
         rw[←this,hv']
        simp[this]
       have hsame:=hr.same ht (by simp);by_cases htb:t=b
       · subst htb;rw[if_pos (by simp[Region.wanted,hg,hy])];have h1:=h.1 rfl;rw[hsame] at h1;exact Sn hst hck h1 hr fun φ' σ' a' w' h1 h2=>hKC a' w' (Fe hst hck hK l h1 h2)
       · have htn:t=!b:=by cases t<;>cases b<;>simp_all
         rw[if_neg (by simp[Region.wanted,hg,hy,htb])];have h1:=h.2 htn;rw[←htn,hsame] at h1;have hr2:Dk P w0 φ (σ.put o.dst (.tup [])) (a.put o.dst undef) w:=hr.turn (Turn.refl hr.mem) Jz o.dst;exact hKC _ _ (Fe hst hck hK l h1 hr2)
     · rename_i ht;have hv:=hr.eval (.tmp d);have hget:σ.eval (.tmp d)=.tup []:=ht;rw[hget] at hv;have hv':=hv.undef
       have hy:yielded ops a.tmps j=none:=by
        unfold yielded;rw[hd]
        cases hq:a.tmps[d]? with
        | none=>simp[hq]
        | some u =>
          have:a.eval (.tmp d)=u:=by show a.tmps.getD d undef=_;rw[Array.getD_eq_getD_getElem?,hq];rfl
          rw[this] at hv';subst hv';simp[hq,undef]
       rw[if_neg (by simp[Region.wanted,hg,hy])];have hr2:Dk P w0 φ (σ.put o.dst (.tup [])) (a.put o.dst undef) w:=hr.turn (Turn.refl hr.mem) Jz o.dst;exact hKC _ _ (Fe hst hck hK l h hr2)
     · exact h.elim
theorem NL {m:Mode} {ops:Array Oper} {K:St→Prop} {l2:List Oper}:∀ (l1:List Oper) (σ:St),Bb P m ops K (l1++l2) σ=Bb P m ops (Bb P m ops K l2) l1 σ
 | [],σ=>rfl
 | o::l1,σ=>by
   have e:Bb P m ops K (l1++l2)=Bb P m ops (Bb P m ops K l2) l1:=funext (NL l1);rw[List.cons_append];unfold Bb;rw[e]
theorem Kt {m:Mode} (hst:w0.st=m.st) (hck:m.tc=true→m.st=true→w0.Apart) {ops:Array Oper} {Q:Exit→St→Prop} {QC:Exit→Act→World→Prop} {φ:B6} {σ:St} {a:Act} {w:World} (h:Qr P m ops Q σ) (hr:Dk P w0 φ σ a w) (hQ:∀ e φ' σ' a' w',Q e σ'→Dk P w0 φ' σ' a' w'→QC e a' w') (mr:Region.Mode) (t:Nat):wpOps P ops QC (Region.linearise mr ops t) a w:=by
 rcases h with ⟨q,h1,h2⟩|h|h
 · exact PX (mo:=m.still) hst rfl h1 h2 hr (fun {φ σ a w} h' hr'=>Fe hst hck (fun φ' σ' a' w'=>hQ .normal φ' σ' a' w') _ h' hr') mr t
 · exact aC hst h hr hQ mr t
 · exact aY hst h hr hQ mr t
theorem VZ {m:Mode} (hst:w0.st=m.st) (hck:m.tc=true→m.st=true→w0.Apart) {id:Nat} {ops:Array Oper} {Q:Exit→St→Prop} {QC:Exit→Act→World→Prop} {φ:B6} {σ:St} {a:Act} {w:World} (h:Rz P m ops Q σ) (hr:Dk P w0 φ σ a w) (hQ:∀ e φ' σ' a' w',Q e σ'→Dk P w0 φ' σ' a' w'→QC e a' w'):(Code.region id ops true).wp P QC a w:=by
 have main:∀ (mr:Region.Mode) (t:Nat) (a:Act) (w:World),Dk P w0 φ σ a w→wpOps P ops QC (Region.linearise mr ops t) a w:=by
  intro mr t a w hr;rcases h with h|⟨q,h1,h2⟩|⟨q,h1,h2⟩|h
  · exact Kt hst hck h hr hQ mr t
  · refine RW h1 (fun t1=>?_) t;refine Kt hst hck h2 hr (fun e φ' σ' a' w' hq hr'=>?_) mr t1;obtain⟨rfl,hq⟩:=hq;exact fun t2=>Kt hst hck hq hr' hQ mr t2
  · refine RW h1 (fun t1=>?_) t;refine Kt hst hck h2 hr (fun e φ' σ' a' w' hq hr'=>?_) mr t1;obtain⟨rfl,hq⟩:=hq;exact fun t2=>iP hq hr' hQ mr t2
  · exact Zz h hr hQ mr t
 refine wp_region_draw fun t=>?_;unfold Region.schedule;split
 · exact main _ _ _ _ hr.drew
 · exact main _ _ _ _ hr.drew
theorem EK {m:Mode} (hst:w0.st=m.st) (hck:m.tc=true→m.st=true→w0.Apart) (hpin:w0.H.length≤m.pin):∀ (c:Code) {Q:Exit→St→Prop} {QC:Exit→Act→World→Prop} {φ:B6} {σ:St} {a:Act} {w:World},Ib P m c Q σ→Dk P w0 φ σ a w→(∀ e φ' σ' a' w',Q e σ'→Dk P w0 φ' σ' a' w'→QC e a' w')→c.wp P QC a w
 | .skip,Q,QC,φ,σ,a,w,h,hr,hQ=>wp_skip (hQ _ _ _ _ _ h hr)
 | .region id ops draw,Q,QC,φ,σ,a,w,h,hr,hQ=>by
   unfold Ib at h
   cases draw with
   | false=>exact wp_region_list (Fe hst hck (fun φ' σ' a' w'=>hQ .normal φ' σ' a' w') _ h hr)
   | true =>
     rw[if_pos rfl] at h;split at h
     · exact VZ hst hck h hr hQ
     · obtain⟨h1,h2⟩:=h;rw[←List.take_append_drop (Gl ops.toList) ops.toList,NL] at h2;exact Xe (mo:=m.still) hst rfl (bE h1) h2 hr (fun {φ σ a w} h' hr'=>Fe (m:=m.still) hst (fun h=>by cases h) (fun φ' σ' a' w'=>hQ .normal φ' σ' a' w') _ h' hr')
 | .seq x y,Q,QC,φ,σ,a,w,h,hr,hQ=>by
   refine wp_seq (EK hst hck hpin x h hr fun e φ' σ' a' w' hq hr'=>?_)
   cases e with
   | normal=>exact EK hst hck hpin y hq hr' hQ
   | _=>exact hQ _ φ' σ' a' w' hq hr'
 | .cond c x y,Q,QC,φ,σ,a,w,h,hr,hQ=>by
   unfold Ib at h;split at h
   · rename_i t ht;have hv:=hr.eval c;rw[ht] at hv;exact wp_cond_split hv.bool (fun e=>EK hst hck hpin x (h.1 e) hr hQ) (fun e=>EK hst hck hpin y (h.2 e) hr hQ)
   · exact h.elim
 | .block id c,Q,QC,φ,σ,a,w,h,hr,hQ=>by
   refine wp_block (EK hst hck hpin c h hr fun e φ' σ' a' w' hq hr'=>?_)
   cases e with
   | exit id' =>
     simp only[Hw] at hq;simp only[Exit.inBlock];split
     · rename_i hi;rw[if_pos hi] at hq;exact hQ _ φ' σ' a' w' hq hr'
     · rename_i hi;rw[if_neg hi] at hq;exact hQ _ φ' σ' a' w' hq hr'
   | _=>exact hQ _ φ' σ' a' w' hq hr'
 | .loop c,Q,QC,φ,σ,a,w,h,hr,hQ=>by
   obtain⟨ι,I,S,μ,i0,h0,hle,hround⟩:=h;obtain⟨φ0,hr0⟩:=hr.le hst hpin hle;refine wp_loop_ghost (fun n a w=>∃ i φ,I i∧μ i=n∧Dk P w0 φ (S i) a w) (μ i0) ⟨i0,φ0,h0,rfl,hr0⟩ ?_;rintro n a w ⟨i,φ,hi,rfl,hr⟩;refine EK hst hck hpin c (hround i hi) hr fun e φ' σ' a' w' hq hr'=>?_
   cases e with
   | normal =>
     obtain⟨j,hj,hlt,hle⟩:=hq;obtain⟨φ2,hr2⟩:=hr'.le hst hpin hle;exact⟨μ j,hlt,j,φ2,hj,rfl,hr2⟩
   | _=>exact hQ _ φ' σ' a' w' hq hr'
 | .exit id,Q,QC,φ,σ,a,w,h,hr,hQ=>wp_exit (hQ _ _ _ _ _ h hr)
 | .ret,Q,QC,φ,σ,a,w,h,hr,hQ=>wp_ret (hQ _ _ _ _ _ h hr)
 | .rangeFunc ..,_,_,_,_,_,_,h,_,_=>h.elim
 | .scope _,_,_,_,_,_,_,h,_,_=>h.elim
 | .label _,_,_,_,_,_,_,h,_,_=>h.elim
 | .goto _,_,_,_,_,_,_,h,_,_=>h.elim
 | .refuse _,_,_,_,_,_,_,h,_,_=>h.elim
end
def WP (x:X):V :=
 match x with
 | .d x=>.d x
 | .agg ds=>.agg (ds.map .d)
 | .tup _=>.any
def Io (sl:List Ag) (v:V):Option (X×List Nat) :=
 match v with
 | .tup vs=>(Ni sl vs).map fun p=>(.tup p.1,p.2)
 | v=>JW sl v
def TD (P:Program) (st:Bool) (σ:St) (r:ResultVar):Option V :=
 match r with
 | .tmp t=>some (σ.get t)
 | .cell a t=>HX P st t σ.slots (σ.get a)
def Hy (P:Program) (st:Bool) (σ:St):List ResultVar→Option (List V)
 | []=>some []
 | r::rs=>match TD P st σ r,Hy P st σ rs with
   | some v,some vs=>some (v::vs)
   | _,_=>none
def Q8 (P:Program) (st:Bool) (rs:List ResultVar) (r:X) (e:Exit) (σ:St):Prop :=
 (e=.ret∨e=.normal)∧match Hy P st σ rs with
   | some [v]=>∃ ks,Io σ.slots v=some (r,ks)
   | some vs=>∃ ks,Io σ.slots (.tup vs)=some (r,ks)
   | none=>False
section
variable {P:Program} {w0:DP} {w w':World} {φ φ':B6} {σ σ':St} {a:Act} {sl sl':List Ag} {Fs Fs':List (List Nat)}
theorem NN (hm:BM P w0 φ sl w Fs) {v:V} {x:X} {ks:List Nat} {u:Value} (h:Io sl v=some (x,ks)) (hv:VR w (good w0.R φ sl w) φ sl v u):∃ F,Wx P w x u F∧F.Nodup∧∀ q∈F,w0.B q∨w0.w.heap.size≤q:=by
 have done:∀ {ks:List Nat},ks.Nodup→(∀ k∈ks,k<Fs.length)→(AH Fs ks).Nodup∧∀ q∈AH Fs ks,w0.B q∨w0.w.heap.size≤q:=by
  intro ks hn hl;refine⟨?_,fun q hq=>?_⟩
  · rw[List.nodup_iff_count];intro q;have h1:=Dr q hn hl;have h2:=List.nodup_iff_count.1 hm.nd q;simp only[Dj] at h1;omega
  · have h1:=Dr q hn hl;have h2:=List.count_pos_iff.2 hq;exact hm.ge q (List.count_pos_iff.1 (by simp only[Dj] at h1;omega))
 unfold Io at h;split at h
 · rw[Option.map_eq_some_iff] at h;obtain⟨⟨xs,ks'⟩,h1,h2⟩:=h
   cases h2
   cases hv with
   | tup hl hv =>
     rename_i vs us;obtain⟨Gs,j1,j2,j3,j4,j5,j6⟩:=Mj hm h1 hl hv;obtain⟨d1,d2⟩:=done j5 j6;exact⟨_,.tup j1 j2 j3,by rw[j4];exact d1,by rw[j4];exact d2⟩
 · obtain⟨k1,k2,k3⟩:=NW hm h hv;obtain⟨d1,d2⟩:=done k2 k3;exact⟨_,.one k1,d1,d2⟩
def lU (tmps:Array Value) (r:ResultVar):Sem Value :=
 match r with
 | .tmp t=>pure (tmps.getD t undef)
 | .cell a t=>do loadVar t (←asAddr (tmps.getD a undef))
theorem XH (fn:Func) (tmps:Array Value):results fn tmps=(do
 let vs ←fn.results.mapM (lU tmps)
 pure (if h:vs.size=1 then vs[0] else .tuple vs)):=rfl
theorem NE {st:Bool} (hst:w0.st=st) (hr:Dk P w0 φ σ a w):∀ {rs:List ResultVar} {vs:List V},Hy P st σ rs=some vs→∃ us:List Value,(rs.mapM (lU a.tmps)).run P w=.ok us w∧us.length=vs.length ∧
 ∀ (i:Nat) (v:V) (u:Value),vs[i]? = some v→us[i]? = some u→σ.vr w0.R φ w v u
 | [],vs,h=>by
   simp[Hy] at h;subst h;exact⟨[],by simp,rfl,fun i v u h=>by simp at h⟩
 | r::rs,vs,h=>by
   unfold Hy at h;split at h
   · rename_i v vs' h1 h2
     cases h
     obtain⟨us,k1,k2,k3⟩:=NE hst hr h2
     obtain⟨u,j1,j2⟩:∃ u,(lU a.tmps r).run P w=.ok u w∧σ.vr w0.R φ w v u:=by
      cases r with
      | tmp t =>
        simp[TD] at h1;subst h1;exact⟨_,rfl,hr.eval (.tmp t)⟩
      | cell c t =>
        obtain⟨Fs,hm⟩:=hr.mem;have hc:=hr.eval (.tmp c);obtain⟨u,q1,q2⟩:=NU (v:=a.eval (.tmp c)) hst h1 hm hc;refine⟨u,?_,q2⟩;simp only[lU,Sem.run_bind]
        have hcv:∃ p,a.tmps.getD c undef=.pointer (some p):=by
         have e:a.eval (.tmp c)=a.tmps.getD c undef:=rfl;rw[e] at q1
         cases hv:a.tmps.getD c undef with
         | pointer p=>cases p with
           | some p=>exact⟨p,rfl⟩
           | none=>rw[hv] at q1;simp[Instr.loadAt,Instr.sureAddr,stuck] at q1
         | _=>rw[hv] at q1;simp[Instr.loadAt,Instr.sureAddr,stuck] at q1
        obtain⟨p,hp⟩:=hcv;have e:a.eval (.tmp c)=a.tmps.getD c undef:=rfl;rw[e,hp] at q1;rw[hp];simp[Instr.loadAt,Instr.sureAddr] at q1;simp[asAddr,q1]
     refine⟨u::us,?_,by simp[k2],fun i v' u' hv hu=>?_⟩
     · simp only[List.mapM_cons,Sem.run_bind];rw[j1];simp only[Result.andThen_ok,k1,Sem.run_pure]
     · match i with
       | 0=>simp at hv hu;subst hv hu;exact j2
       | i+1=>exact k3 i v' u' (by simpa using hv) (by simpa using hu)
   · cases h
def NS (vs:List V):V :=
 match vs with
 | [v]=>v
 | vs=>.tup vs
theorem H5 {st:Bool} (hst:w0.st=st) (hr:Dk P w0 φ σ a w) {fn:Func} {vs:List V} (h:Hy P st σ fn.results.toList=some vs):∃ u,(results fn a.tmps).run P w=.ok u w∧σ.vr w0.R φ w (NS vs) u:=by
 obtain⟨us,k1,k2,k3⟩:=NE hst hr h
 have hres:(results fn a.tmps).run P w=.ok (if h:us.toArray.size=1 then us.toArray[0] else .tuple us.toArray) w:=by
  rw[XH,Array.mapM_eq_mapM_toList];simp only[Sem.run_bind,Sem.run_map,k1,Result.andThen_ok,Sem.run_pure]
 unfold NS;split
 · rename_i v
   obtain⟨u,rfl⟩:∃ u,us=[u]:=by
    match us,k2 with
    | [u],_=>exact⟨u,rfl⟩
   exact⟨u,by rw[hres];simp,k3 0 v u rfl rfl⟩
 · rename_i hn;refine⟨.tuple us.toArray,?_,.tup k2 k3⟩;rw[hres]
   have:¬ us.toArray.size=1:=by
    intro h1;have h2:vs.length=1:=by simpa [k2] using h1
    obtain⟨v,hv⟩:∃ v,vs=[v]:=by
     match vs,h2 with
     | [v],_=>exact⟨v,rfl⟩
    exact hn v hv
   rw[dif_neg this]
theorem iC {G G':Nat→Prop} (hG:∀ b,G b→G' b) {x:X} {v:Value} (h:fH w G x v):VR w G' φ sl (WP x) v:=by
 have hk:∀ b,G b→G' b∧∀ o,w.cell? ⟨b,o,none⟩=w.cell? ⟨b,o,none⟩:=fun b hb=>⟨hG b hb,fun _=>rfl⟩
 cases h with
 | d h=>exact .d (h.mono hk)
 | agg h =>
   rename_i ds us;have h2:Rds w G' ds us []:=h.mono hk;refine .agg (by simpa using h2.2.1) h2.one fun j x u hx hu=>?_;rw[ACF,Option.map_eq_some_iff] at hx;obtain⟨d,hd,rfl⟩:=hx;obtain⟨u',hu',hr⟩:=h2.2.2 j d hd;rw[hu] at hu'
   cases hu'
   exact .d hr
theorem MD {w0:DP} (hm:∃ Fs,BM P w0 φ sl w Fs) {n:Nat} {xs:List V} {vs:List Value} (hl:vs.length=xs.length) (hv:∀ (i:Nat) (x:V) (v:Value),xs[i]? = some x→vs[i]? = some v→VR w (good w0.R φ sl w) φ sl x v) :
 Dk P w0 φ ⟨xs++List.replicate (n - xs.length) .any,sl⟩ { tmps:=vs.toArray++Array.replicate (n - vs.toArray.size) undef,defers:=[] } w:=by
 refine⟨hm,rfl,by simp[hl],fun i x v hx hv'=>?_⟩;by_cases hi:i<xs.length
 · rw[zz4 hi] at hx;rw[Array.getElem?_append_left (by simp;omega)] at hv';exact hv i x v hx (by simpa using hv')
 · rw[zz5 (by omega),List.getElem?_replicate] at hx;split at hx
   · cases hx;exact .any _
   · cases hx
theorem YN {q:Bool} {f:FuncId} {fn:Func} {c:Code} {xs:List X} {r:X} (hc:C5 P f=true) (hf:P.funcs[f]? = some fn) (hb:fn.body=some c) {n:Nat} {rs:List ResultVar} (hn:fn.ntmps=n) (hrs:fn.results.toList=rs) (h:Ib P ⟨0,false,true,q⟩ c (Q8 P false rs r) ⟨xs.map WP++List.replicate (n - xs.length) .any,[]⟩):CI P f xs r:=by
 subst hn hrs;refine⟨hc,?_⟩;intro w vs hl hv
 have hm:BM P ⟨w,fun _=>False,fun _=>False,[],fun _=>True,false,fun _ _ _=>trivial⟩ [] [] w []:=by
  refine⟨QH.refl _ _,?_,rfl,rfl,by simp,by simp,by simp,fun s x h F hs=>by simp at hs⟩;rintro b ⟨s,x,c,h,_⟩;simp at h
 have hr:=MD (n:=fn.ntmps) ⟨_,hm⟩ (xs:=xs.map WP) (vs:=vs) (by simpa using hl) (fun i x v hx hv'=>by
  rw[ACF,Option.map_eq_some_iff] at hx;obtain⟨y,hy,rfl⟩:=hx
  exact iC (fun b hb=>⟨hb,by rintro⟨s,x,c,h,_⟩;simp at h,trivial⟩) (hv i y v hy hv'))
 rw[ACH] at hr;refine calls_of_wp hf hb (EK (m:=⟨0,false,true,q⟩) rfl (fun _ h=>by cases h) (Nat.le_refl _) c h hr fun e φ' σ' a' w' hq hr'=>?_);obtain⟨he,hq⟩:=hq;obtain⟨Fs,hm⟩:=hr'.mem
 have fin:∃ v,(results fn a'.tmps).run P w'=.ok v w'∧∃ v' F,Ending.returned v=.returned v'∧Wx P w' r v' F∧F.Nodup∧(∀ g∈F,w.heap.size≤g)∧Below w.heap.size w w':=by
  have hbl:Below w.heap.size w w':=hm.only.below (fun _ h=>h);split at hq
  · rename_i v hvs;obtain⟨ks,hg⟩:=hq;obtain⟨u,k1,k2⟩:=H5 rfl hr' hvs;obtain⟨F,g1,g2,g3⟩:=NN hm hg k2;exact⟨u,k1,u,F,rfl,g1,g2,fun g hg=>(g3 g hg).resolve_left (fun h=>h),hbl⟩
  · rename_i vs hn hvs;obtain⟨ks,hg⟩:=hq;obtain⟨u,k1,k2⟩:=H5 rfl hr' hvs
    have hj:NS vs=.tup vs:=by
     unfold NS;split
     · exact absurd rfl (hn _)
     · rfl
    rw[hj] at k2;obtain⟨F,g1,g2,g3⟩:=NN hm hg k2;exact⟨u,k1,u,F,rfl,g1,g2,fun g hg=>(g3 g hg).resolve_left (fun h=>h),hbl⟩
  · exact hq.elim
 rcases he with rfl|rfl
 · obtain⟨v,h1,h2⟩:=fin;exact⟨hr'.defers,v,h1,h2⟩
 · obtain⟨v,h1,h2⟩:=fin;exact⟨hr'.defers,v,h1,h2⟩
theorem BD {f:FuncId} {fn:Func} {c:Code} {xs:List X} {r:X} (hc:C5 P f=true) (hf:P.funcs[f]? = some fn) (hb:fn.body=some c) {n:Nat} {rs:List ResultVar} (hn:fn.ntmps=n) (hrs:fn.results.toList=rs) (h:Ib P ⟨0,false,true,false⟩ c (Q8 P false rs r) ⟨xs.map WP++List.replicate (n - xs.length) .any,[]⟩):CI P f xs r:=YN hc hf hb hn hrs h
theorem E1 {f:FuncId} {fn:Func} {c:Code} {xs:List X} {r:X} (hc:C5 P f=true) (hf:P.funcs[f]? = some fn) (hb:fn.body=some c) {n:Nat} {rs:List ResultVar} (hn:fn.ntmps=n) (hrs:fn.results.toList=rs) (h:Ib P ⟨0,false,true,true⟩ c (Q8 P false rs r) ⟨xs.map WP++List.replicate (n - xs.length) .any,[]⟩):CI P f xs r:=YN hc hf hb hn hrs h
def fV (P:Program) (n:Nat) (rs:List ResultVar) (r:V) (sl':List Ag) (e:Exit) (σ:St):Prop :=
 (e=.ret∨e=.normal)∧∃ vs,Hy P false σ rs=some vs∧∃ π:List Nat,π.Nodup∧N3 n π 0=true∧Ed false σ.slots π π sl'∧leT false σ.slots π (NS vs) r
theorem UG {q:Bool} {f:FuncId} {fn:Func} {c:Code} {xs:List V} {sl:List Ag} {r:V} {sl':List Ag} (hc:C5 P f=true) (hf:P.funcs[f]? = some fn) (hb:fn.body=some c) {n:Nat} {rs:List ResultVar} (hn:fn.ntmps=n) (hrs:fn.results.toList=rs) (hlat:AZ sl sl') (hlv:Bi sl)
 (h:Ib P ⟨sl.length,false,true,q⟩ c (fV P sl.length rs r sl') ⟨xs++List.replicate (n - xs.length) .any,sl⟩):BS P f xs sl r sl':=by
 subst hn hrs;refine⟨hc,hlat,?_⟩;intro w φ Fs R hR vs hm hl hv;have hr:=MD (n:=fn.ntmps) ⟨_,hm⟩ hl hv;refine calls_of_wp hf hb (EK (m:=⟨sl.length,false,true,q⟩) rfl (fun _ h=>by cases h) (Nat.le_of_eq hm.flen) c h hr fun e φ' σ' a' w' hq hr'=>?_);obtain⟨he,us,hus,π,hn,hpn,hsl,hrr⟩:=hq;obtain⟨u,k1,k2⟩:=H5 rfl hr' hus
 have fin:∃ φ2 Fs2,BM P ⟨w,top φ sl,(·∈Fs.flatten),φ,R,false,hR⟩ φ2 sl' w' Fs2∧VR w' (good R φ2 sl' w') φ2 sl' r u:=by
  unfold leT at hrr;split at hrr
  · rename_i ys;obtain⟨xs',hj,hle⟩:=hrr;rw[hj] at k2
    cases k2 with
    | tup hl2 hv2 =>
      rename_i us';obtain⟨Fs1,hm1⟩:=hr'.mem
      have hr1:Dk P ⟨w,top φ sl,(·∈Fs.flatten),φ,R,false,hR⟩ φ' ⟨xs',σ'.slots⟩ { tmps:=us'.toArray,defers:=[] } w' :=
       ⟨⟨Fs1,hm1⟩,rfl,by simpa using hl2,fun i x v hx hv'=>hv2 i x v hx (by simpa using hv')⟩
      obtain⟨φ2,hr2⟩:=hr1.le (m:=⟨sl.length,false,true,q⟩) (σ':=⟨ys,sl'⟩) rfl (Nat.le_of_eq hm.flen) ⟨π,hn,hpn,hsl,hle⟩;obtain⟨Fs2,hm2⟩:=hr2.mem;refine⟨φ2,Fs2,hm2,.tup (by have:=hr2.tlen;simpa using this) fun i x v hx hv'=>hr2.tmps i x v hx (by simpa using hv')⟩
  · obtain⟨Fs1,hm1⟩:=hr'.mem
    have hr1:Dk P ⟨w,top φ sl,(·∈Fs.flatten),φ,R,false,hR⟩ φ' ⟨[NS us],σ'.slots⟩ { tmps:=#[u],defers:=[] } w':=by
     refine⟨⟨Fs1,hm1⟩,rfl,rfl,fun i x v hx hv'=>?_⟩
     match i with
     | 0=>simp at hx hv';subst hx hv';exact k2
     | i+1=>simp at hx
    obtain⟨φ2,hr2⟩:=hr1.le (m:=⟨sl.length,false,true,q⟩) (σ':=⟨[r],sl'⟩) rfl (Nat.le_of_eq hm.flen) ⟨π,hn,hpn,hsl,hrr,trivial⟩;obtain⟨Fs2,hm2⟩:=hr2.mem;exact⟨φ2,Fs2,hm2,hr2.tmps 0 r u rfl rfl⟩
 obtain⟨φ2,Fs2,f1,f2⟩:=fin;rcases he with rfl|rfl
 · exact⟨hr'.defers,u,k1,u,φ2,Fs2,rfl,f1,f2⟩
 · exact⟨hr'.defers,u,k1,u,φ2,Fs2,rfl,f1,f2⟩
theorem Cv {f:FuncId} {fn:Func} {c:Code} {xs:List V} {sl:List Ag} {r:V} {sl':List Ag} (hc:C5 P f=true) (hf:P.funcs[f]? = some fn) (hb:fn.body=some c) {n:Nat} {rs:List ResultVar} (hn:fn.ntmps=n) (hrs:fn.results.toList=rs) (hlat:AZ sl sl') (hlv:Bi sl)
 (h:Ib P ⟨sl.length,false,true,false⟩ c (fV P sl.length rs r sl') ⟨xs++List.replicate (n - xs.length) .any,sl⟩):BS P f xs sl r sl':=UG hc hf hb hn hrs hlat hlv h
theorem Bl {f:FuncId} {fn:Func} {c:Code} {xs:List V} {sl:List Ag} {r:V} {sl':List Ag} (hc:C5 P f=true) (hf:P.funcs[f]? = some fn) (hb:fn.body=some c) {n:Nat} {rs:List ResultVar} (hn:fn.ntmps=n) (hrs:fn.results.toList=rs) (hlat:AZ sl sl') (hlv:Bi sl)
 (h:Ib P ⟨sl.length,false,true,true⟩ c (fV P sl.length rs r sl') ⟨xs++List.replicate (n - xs.length) .any,sl⟩):BS P f xs sl r sl':=UG hc hf hb hn hrs hlat hlv h
def ABu (P:Program) (n:Nat) (rs:List ResultVar) (k:Int) (sl':List Ag) (e:Exit) (σ:St):Prop :=
 (e=.ret∨e=.normal)∧Hy P true σ rs=some [.d (.int .i64 k)]∧∃ π:List Nat,π.Nodup∧N3 n π 0=true∧Ed true σ.slots π π sl'
end
end Go.Proofs.Ytnjedabjbeipeaa
