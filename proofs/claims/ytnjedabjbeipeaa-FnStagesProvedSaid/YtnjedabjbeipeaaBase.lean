/-
  Plain lemmas, by themselves about no function of the program: how a law's statement is reached from a walk that ends in 'true' over grown memory.
  Conditions: none beyond those typed.
-/
import Derived.Test.YtnjedabjbeipeaaRows
import Derived.WalkKit
import Derived.WalkSpells
import Derived.WalkLawsBesides
import Derived.ProofKit
import Derived.Lib.Hide
import Derived.Lib.SmallJoins
import Derived.Deep.Slices
import Derived.Deep.RegionHeld3
import Derived.Deep.QuietTactic
import Derived.BigQuiet
import Derived.Handy
namespace Go.Proofs.Ytnjedabjbeipeaa
open Go.RowKit Go.ChangeShapes Go.WideShapes Go.ChangeAt
theorem T2 (w:World) (o:Obj):Below w.heap.size w (w.alloc o):=(Below.refl _ _).alloc (Nat.le_refl _) _
section
variable {H:Type} {enc:TypeId×Value→H} {P:Program}
theorem RZ (hl:laidOutB P=true) {W W':World} (hb:Below W.heap.size W W') :
 ∀ {ts:List TypeId} {vs:List Value} {ds:List (DataW H)} {ps:List MemPlace},(∀ t∈ts,P.readableRec t=true∧t<P.types.size) →
   DataW.TrodAll enc P W 0 (fun _=>true) true ts vs ds ps→(∀ p∈ps,p.block<W.heap.size) →
   DataW.TrodAll enc P W' 0 (fun b=>decide (b<W.heap.size)) true ts vs ds ps
 | [],[],[],_,_,h,_=>h
 | [],[],_::_,_,_,h,_=>h.elim
 | [],_::_,_,_,_,h,_=>by cases ‹List (DataW H)›<;>exact h.elim
 | _::_,[],_,_,_,h,_=>by cases ‹List (DataW H)›<;>exact h.elim
 | _::_,_::_,[],_,_,h,_=>h.elim
 | t::ts,v::vs,d::ds,ps,ht,h,hlt=>by
   obtain⟨p,q,h0,hr,rfl⟩:=h;refine⟨p,q,Below.trod hl (ht t (by simp)).1 (ht t (by simp)).2 h0 hb (fun x hx=>hlt x (by simp[hx])),?_,rfl⟩;exact RZ hl hb (fun u hu=>ht u (by simp[hu])) hr (fun x hx=>hlt x (by simp[hx]))
theorem eU {f:Func} {s:ChangeSpec} {W W':World} {args:Array Value} {ds:List (DataW H)} {before:List MemPlace} {bt:TypeId} (hl:laidOutB P=true)
 (ht:∀ t∈f.params.toList,P.readableRec t=true∧t<P.types.size) (hv:s.vars=[]) (hr:f.resultTypes=#[bt]) (hbt:P.underlying bt=some .bool)
 (hW:DataW.Whole enc P f.params.toList s.vars false W args.toList ds [] before) (hs:s.fn H (ds++[])={ results:=[.lit (.bool true)],args:=ds })
 (hb:Below W.heap.size W W'):s.post enc P f false true false false W args (.bool true) W':=by
 have hlt:∀ p∈before,p.block<W.heap.size:=fun p hp=>hW.lt p hp;have hW0:=hW;obtain⟨p,q,hA,hV,rfl,_,_⟩:=hW;have hq:q=[]:=by rw[hv] at hV;exact hV
 subst hq;refine⟨ds,[],_,[],p,[],hW0,?_,?_,?_,World.keptBut_mono (fun x hx=>⟨hx,Or.inr (Or.inl (by simpa using hx))⟩) (hb.frame (·∈p++[])),fun h=>by cases h⟩
 · rw[hs,hr];exact trodAll_mk1 (shut_bool hbt true)
 · rw[hs];exact RZ hl hb ht hA (fun x hx=>hlt x (by simp[hx]))
 · have hvars:(s.fn H (ds++[])).vars=[]:=by rw[hs]
   rw[hvars,hv];rfl
theorem jO {C:Checked} {os:Os} {f:FuncId} {fn:Func} {s:ChangeSpec} {bt:TypeId} (own:ownKnob C.prog.godebug=none) (started:os.Started) (noInit:C.prog.inits.idxOf? f=none) (hfn:C.prog.funcs[f]? = some fn)
 (witness:∃ (w:World) (tape:Tape) (i:Input),w.os=os∧(w.forCall tape i).Shaped C.prog∧i.vars=[]∧Input.okWide C.prog (w.forCall tape i) .any w.heap.size f i ∧
   s.pre6 enc C.prog fn [] false (w.forCall tape i).memory i.args∧({}:Assume).holds C.prog (lone (Frame.enter C.prog f i.args .normal) [] (w.forCall tape i)))
 (hl:laidOutB C.prog=true) (ht:∀ t∈fn.params.toList,C.prog.readableRec t=true∧t<C.prog.types.size) (hv:s.vars=[]) (hr:fn.resultTypes=#[bt]) (hbt:C.prog.underlying bt=some .bool)
 (walk:∀ (W:World) (base:Nat) (args:Array Value) (ds:List (DataW H)) (ps:List MemPlace),
   (∀ (j:Nat) t v,fn.params[j]? = some t→args[j]? = some v→Value.okWide C.prog W .any base t v) →
   DataW.TrodAll enc C.prog W 0 (fun _=>true) true fn.params.toList args.toList ds ps→(∀ p∈ps,p.block<W.heap.size) →
   s.fn H (ds++[])={ results:=[.lit (.bool true)],args:=ds }∧Calls C.prog f args W fun e W'=>e=.returned (.bool true)∧Below W.heap.size W W') :
 ReturnsInHanded {} C os f .any (s.pre6 enc C.prog fn [] false) (s.post enc C.prog fn false true false false):=by
 refine returnsInHanded_of_change own started noInit hfn witness ?_;intro W base args ds gs before hval hW _ _;have hlt:∀ p∈before,p.block<W.heap.size:=fun p hp=>hW.lt p hp;have hW0:=hW;obtain⟨p,q,hA,hV,rfl,_,_⟩:=hW;have hgs:gs=[]:=by rw[hv] at hV;cases gs with|nil=>rfl|cons=>exact hV.elim
 subst hgs;obtain⟨hs,hc⟩:=walk W base args ds p hval hA (fun x hx=>hlt x (by simp[hx]));exact hc.mono fun e W' ⟨he,hb⟩=>⟨_,he,eU hl ht hv hr hbt hW0 hs hb⟩
end
theorem Try.own:ownKnob Try.prog.godebug=none:=by kernel_rfl
theorem Try.laidOut:laidOutB Try.prog=true:=by kernel_rfl
abbrev zz0:=@List.getElem?_eq_getElem
abbrev zz1:=@List.getElem?_eq_some_iff
abbrev zz2:=@decide_eq_true
abbrev zz3:=@decide_eq_false
abbrev zz4:=@List.getElem?_append_left
abbrev zz5:=@List.getElem?_append_right
abbrev zz6:=@List.mem_of_getElem?
abbrev zz7:=@List.eq_nil_of_length_eq_zero
abbrev zz8:=@List.all_eq_true
abbrev zz9:=@List.mem_singleton
abbrev ACE:=@List.mem_append
abbrev ACP:=@List.mem_map
abbrev ACJ:=@List.mem_range
abbrev ACH:=@List.length_map
abbrev ACg:=@List.length_append
abbrev AB7:=@List.getElem_mem
abbrev ACf:=@List.getElem?_set_self
abbrev ACT:=@List.getElem?_set_ne
abbrev ACF:=@List.getElem?_map
abbrev ACe:=@List.take_of_length_le
abbrev AB8:=@List.getElem?_eq_none
abbrev ACn:=@of_decide_eq_true
abbrev ACS:=@Bool.eq_false_or_eq_true
abbrev ACW:=@Option.some.inj
abbrev ACU:=@Nat.pow_le_pow_right
abbrev ACL:=@List.length_take
abbrev ACh:=@List.length_set
abbrev ACN:=@List.take_append_of_le_length
abbrev ACi:=@List.getElem?_take
abbrev ACa:=@List.getElem?_range
abbrev ACj:=@List.getElem?_drop
abbrev ACM:=@Nat.lt_of_lt_of_le
abbrev ACB:=@Int.fdiv_eq_ediv_of_nonneg
abbrev ACC:=@Array.getElem?_eq_some_iff
abbrev AB9:=@List.length_pos_of_mem
abbrev ACY:=@List.append_assoc
abbrev ACO:=@List.mem_cons_of_mem
abbrev ACX:=@List.map_append
abbrev ACm:=@List.map_map
abbrev ACK:=@List.flatten_append
abbrev ACQ:=@List.mem_filter
end Go.Proofs.Ytnjedabjbeipeaa
