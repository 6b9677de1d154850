/-
  Forward retiming keeps what a cycle gives: the new flip-flop holds the value that the AND node had. Plain lemmas.
  Conditions: those typed in each theorem.
-/
import Derived.Test.YtnjedabjbeipeaaKa
import Derived.Test.YtnjedabjbeipeaaUa
import Derived.Test.YtnjedabjbeipeaaNz
namespace Go.Proofs.Ytnjedabjbeipeaa
open Go.RowKit Go.ChangeShapes Go.WideShapes
set_option linter.unusedVariables false
set_option linter.unusedSimpArgs false
def litS (x:GrD) (st:List Int) (l:Int):Int:=(atI st (flopL x l)+l % 2) % 2
def vF (x:GrD) (k:Int) (st:List Int):Int:=litS x st (andK x k).1*litS x st (andK x k).2
def stP (x:GrD) (k:Int) (st:List Int):List Int:=st++[vF x k st]
theorem litS_01 {x:GrD} {st:List Int} {l:Int}:0≤litS x st l∧litS x st l≤1:=by unfold litS;omega
theorem vF_01 {x:GrD} {k:Int} {st:List Int}:0≤vF x k st∧vF x k st≤1:=by
 have h1:=litS_01 (x:=x) (st:=st) (l:=(andK x k).1)
 have h2:=litS_01 (x:=x) (st:=st) (l:=(andK x k).2)
 unfold vF
 rcases (by omega:litS x st (andK x k).1=0∨litS x st (andK x k).1=1) with e|e<;>rw[e]<;>omega
theorem stK_app {v0:List Int} {f:Nat} {st t:List Int}:∀ k,k≤st.length→stK v0 f (st++t) k=stK v0 f st k
 | 0,_=>rfl
 | k+1,hk=>by
   have ih:=stK_app (v0:=v0) (f:=f) (st:=st) (t:=t) k (by omega)
   show (stK v0 f (st++t) k).set (f+k) (((st++t)[k]?).getD 0 % 2)=(stK v0 f st k).set (f+k) ((st[k]?).getD 0 % 2)
   rw[ih,List.getElem?_append_left (by omega)]
section
variable {x:GrD} {st:List Int} {inp:Int}
theorem vals_seq (hs:st.length=x.2.1.length) (hb:bitsI st) {i:Nat} (hi:i<x.2.1.length):atI (valsL x st inp) ((1+x.1.toNat+i:Nat):Int)=atI st i:=by
 have hF:firstG x=1+x.1.toNat+x.2.1.length:=rfl
 have hN:=grN_eq x
 rw[vals_low (by omega)]
 have h:=stK_stay (v0:=inV x inp) (f:=1+x.1.toNat) (st:=st) (q:=1+x.1.toNat+i) (k:=i+1) (by omega) (st.length - (i+1))
 rw[show i+1+(st.length - (i+1))=st.length by omega] at h
 refine (show atI (stV x st inp) _=_ from h).trans ?_
 show atI ((stK (inV x inp) (1+x.1.toNat) st i).set (1+x.1.toNat+i) ((st[i]?).getD 0 % 2)) _=_
 rw[atI_setn (by rw[stK_len,inV_len];omega),if_pos rfl]
 have:=atI_bit hb i
 unfold atI at this ⊢
 rw[Int.toNat_natCast] at this ⊢
 omega
theorem lit_flop (hok:netOkB x=true) (hs:st.length=x.2.1.length) (hb:bitsI st) {l:Int} (hl:0≤flopL x l):litL (valsL x st inp) l=litS x st l:=by
 have hx:=(netOk_of hok).1.1
 have h1:flopL x l=l / 2 - 1 - x.1:=by
  unfold flopL at hl ⊢
  split
  · rfl
  · rename_i h;rw[if_neg h] at hl;omega
 have h2:=(flopL_rng (x:=x) (l:=l)).2.1
 have h3:=vals_seq (inp:=inp) hs hb (i:=(flopL x l).toNat) (by omega)
 unfold litL litS
 rw[show l / 2=((1+x.1.toNat+(flopL x l).toNat:Nat):Int) by omega,h3,show ((flopL x l).toNat:Int)=flopL x l by omega]
theorem pack_one {z:Int}:packL [z]=z:=by
 show (0:Int)+z*2 ^ 0=z
 omega
theorem nxF_flop {V:List Int} {s:SeqD} {t q:Int} (h0:s.1=0) (hq:s.2.2=[q]) (ht:0≤t∧t≤1):nxF V (s,t)=litL V q:=by
 have h:=litL_01 V q
 unfold nxF seqNextL
 simp only
 rw[h0,if_pos rfl,if_pos (rng_iff.2 ht),hq]
 show packL [litL V q] % 2=_
 rw[pack_one]
 omega
end
section
variable {x:GrD} {k:Int} {st:List Int} {inp:Int}
theorem fwd_first:firstG (fwdG x k)=firstG x+1:=by
 unfold firstG fwdG
 simp
 omega
theorem fwd_leaf (hs:st.length=x.2.1.length) {v:Nat} (hv:v<firstG x):atI (valsL (fwdG x k) (stP x k st) inp) v=atI (valsL x st inp) v:=by
 have hF:firstG x=1+x.1.toNat+x.2.1.length:=rfl
 have hN:=grN_eq x
 have hNf:=grN_eq (fwdG x k)
 have hff:=fwd_first (x:=x) (k:=k)
 rw[vals_low (by omega),vals_low hv]
 have hl:(stP x k st).length=st.length+1:=by unfold stP;simp
 have h:=stK_stay (v0:=inV (fwdG x k) inp) (f:=1+x.1.toNat) (st:=stP x k st) (q:=v) (k:=st.length) (by omega) 1
 show atI (stK (inV (fwdG x k) inp) (1+x.1.toNat) (stP x k st) (stP x k st).length) v=atI (stK (inV x inp) (1+x.1.toNat) st st.length) v
 rw[hl,h]
 unfold stP
 rw[stK_app _ (Nat.le_refl _)]
 refine stK_two (F:=firstG x) (by rw[inV_len];omega) (by rw[inV_len];omega) (fun q hq=>?_) st.length (by omega) v hv
 exact inK_two (i:=inp) (N:=grN (fwdG x k)) (M:=grN x) (F:=firstG x) (by omega) (by omega) x.1.toNat (by omega) q hq
theorem fwd_new (hs:st.length=x.2.1.length):atI (valsL (fwdG x k) (stP x k st) inp) ((firstG x:Nat):Int)=vF x k st:=by
 have hF:firstG x=1+x.1.toNat+x.2.1.length:=rfl
 have hNf:=grN_eq (fwdG x k)
 have hff:=fwd_first (x:=x) (k:=k)
 have hl:(stP x k st).length=st.length+1:=by unfold stP;simp
 rw[vals_low (by omega)]
 show atI (stK (inV (fwdG x k) inp) (1+x.1.toNat) (stP x k st) (stP x k st).length) _=_
 rw[hl]
 show atI ((stK (inV (fwdG x k) inp) (1+x.1.toNat) (stP x k st) st.length).set (1+x.1.toNat+st.length) (((stP x k st)[st.length]?).getD 0 % 2)) _=_
 rw[atI_setn (by rw[stK_len,inV_len];omega),if_pos (by omega)]
 have e:(stP x k st)[st.length]? = some (vF x k st):=by
  unfold stP
  rw[List.getElem?_append_right (Nat.le_refl _),Nat.sub_self]
  rfl
 have:=vF_01 (x:=x) (k:=k) (st:=st)
 rw[e,Option.getD_some]
 omega
theorem fwd_places (h:fwdOkB x k=true) (hs:st.length=x.2.1.length) (hb:bitsI st):∀ v:Nat,v<grN x→litL (valsL (fwdG x k) (stP x k st) inp) (atI (fwdImp x k).1 v)=atI (valsL x st inp) v:=by
 obtain⟨hfr,hfl,hfv⟩:=fwdOk_of h
 obtain⟨hok,hk,fa,fb,h12⟩:=frontB_of hfr
 have hN:=grN_eq x
 obtain⟨hF,hgl,hNi,hno⟩:=ok_sizes hok
 have hV:ValOf (valsL (fwdG x k) (stP x k st) inp) (firstG x+1) (fwdG x k).2.2.1:=by
  have:=valOf_net (st:=stP x k st) (inp:=inp) (fwdG_ok h)
  rwa [fwd_first] at this
 intro v hv
 refine imp_sem hok (fa:=firstG x+1) (skip:=k) (inst:=2*(firstG x:Int)) (an0:=[]) (Nat.le_refl _) hV (valOf_net hok) (fun v hv=>fwd_leaf hs hv) (fun i hi hil=>?_) (by omega) (fun i hi=>fwdImp_ok hfr i hi) addNpre hfl x.2.2.1.length (Nat.le_refl _) v (by omega)
 have hik:k.toNat=i:=by omega
 rw[lit_even valsL_bits (by omega),fwd_new hs]
 obtain⟨e1,e2⟩:=andK_at hk
 rw[hik] at e2
 rw[vals_and hok (by omega) (by omega),←e2,lit_flop hok hs hb fa,lit_flop hok hs hb fb]
 rfl
theorem fwd_lits (h:fwdOkB x k=true) (hs:st.length=x.2.1.length) (hb:bitsI st) {l:Int} (hl:0≤l∧l<2*(grN x:Int)):litL (valsL (fwdG x k) (stP x k st) inp) (plMapV (fwdImp x k).1 l)=litL (valsL x st inp) l:=by
 obtain⟨hfr,hfl,hfv⟩:=fwdOk_of h
 obtain⟨hok,hk,fa,fb,h12⟩:=frontB_of hfr
 obtain⟨hF,hgl,hNi,hno⟩:=ok_sizes hok
 have I:=fwdImp_ok hfr x.2.2.1.length (Nat.le_refl _)
 change ImpOk _ _ (fwdImp x k) at I
 have h3:=I.an
 have hp:=plIn_at I.pl (by omega) (l / 2)
 refine map_sem valsL_bits valsL_bits (by omega) ?_
 have:=fwd_places (inp:=inp) h hs hb (l / 2).toNat (by omega)
 rwa [show (((l / 2).toNat:Nat):Int)=l / 2 by omega] at this
theorem fwd_in (h:fwdOkB x k=true) (hs:st.length=x.2.1.length) (hb:bitsI st):litL (valsL (fwdG x k) (stP x k st) inp) (fwdV x k)=vF x k (nxtG x st (valsL x st inp)):=by
 obtain⟨hfr,hfl,hfv⟩:=fwdOk_of h
 obtain⟨hok,hk,fa,fb,h12⟩:=frontB_of hfr
 obtain⟨hF,hgl,hNi,hno⟩:=ok_sizes hok
 have hV:ValOf (valsL (fwdG x k) (stP x k st) inp) (firstG x+1) (fwdG x k).2.2.1:=by
  have:=valOf_net (st:=stP x k st) (inp:=inp) (fwdG_ok h)
  rwa [fwd_first] at this
 have I:=fwdImp_ok hfr x.2.2.1.length (Nat.le_refl _)
 change ImpOk _ _ (fwdImp x k) at I
 have h3:=I.an
 have one:∀ l,0≤flopL x l→litL (valsL (fwdG x k) (stP x k st) inp) (fwdLit x k l)=litS x (nxtG x st (valsL x st inp)) l:=fun l hl=>by
  obtain⟨q,hq,q1,q2,-⟩:=flop_in hok hl
  have hr:=fwd_lits (inp:=inp) h hs hb (l:=q) ⟨q1,q2⟩
  have hrg:=fwdLit_rng hfr hfl hl
  obtain⟨r1,r2,r3⟩:=flopL_rng (x:=x) (l:=l)
  have hlt:(flopL x l).toNat<x.2.1.length:=by omega
  obtain⟨e1,e2⟩:=seqAt_mem hlt
  have hn:atI (nxtG x st (valsL x st inp)) (flopL x l)=litL (valsL x st inp) q:=by
   have hz:(x.2.1.zip st)[(flopL x l).toNat]? = some (seqAt x (flopL x l).toNat,atI st (flopL x l)):=by
    rw[List.getElem?_zip_eq_some]
    refine⟨e1,?_⟩
    unfold atI
    rw[List.getElem?_eq_getElem (by omega)]
    rfl
   unfold atI nxtG
   rw[List.getElem?_map,hz]
   show nxF _ _=_
   exact nxF_flop (r3 hl) hq (atI_bit hb _)
  unfold litS
  rw[hn]
  unfold fwdLit at hrg ⊢
  rw[hq] at hrg ⊢
  simp only[List.getElem?_cons_zero,Option.getD_some] at hrg ⊢
  have h01:=litL_01 (valsL x st inp) q
  rcases (by omega:l % 2=0∨l % 2=1) with e|e<;>rw[e] at hrg ⊢
  · rw[xor64_zero hrg.2.2.1 (by omega),hr]
    omega
  · rw[xor64_one hrg.2.2.1 (by omega),lit_flip valsL_bits hrg.2.2.1,hr]
    omega
 have ra:=fwdLit_rng hfr hfl fa
 have rb:=fwdLit_rng hfr hfl fb
 unfold fwdV at hfv ⊢
 rw[add_sem (An:=(fwdG x k).2.2.1) hV (List.prefix_refl _) ⟨ra.1,by omega⟩ rb.1 hfv,one _ fa,one _ fb]
 rfl
theorem fwd_step (h:fwdOkB x k=true) (hs:st.length=x.2.1.length) (hb:bitsI st):stepG (fwdG x k) (stP x k st) inp=(stP x k (stepG x st inp).1,(stepG x st inp).2):=by
 obtain⟨hfr,hfl,hfv⟩:=fwdOk_of h
 obtain⟨hok,hk,fa,fb,h12⟩:=frontB_of hfr
 have hrt:=(netOk_of hok).2.2.1
 unfold stepG
 refine Prod.ext ?_ ?_
 · show nxtG (fwdG x k) (stP x k st) _=nxtG x st _++[vF x k (nxtG x st _)]
   rw[←fwd_in h hs hb]
   generalize hV:valsL (fwdG x k) (stP x k st) inp=V
   unfold nxtG stP
   show (((x.2.1.map (mapSeq (fwdImp x k).1)++[(0,fwdInit x k,[fwdV x k])]).zip (st++[vF x k st])).map (nxF V))=_
   rw[List.zip_append (by simp[hs]),List.map_append]
   congr 1
   · rw[List.zip_map_left,List.map_map]
     refine List.map_congr_left fun p hp=>?_
     obtain⟨h1,h2⟩:=List.of_mem_zip hp
     show seqNextL p.1.1 p.2 (packL ((p.1.2.2.map (plMapV (fwdImp x k).1)).map (litL V)))=seqNextL p.1.1 p.2 (packL (p.1.2.2.map (litL (valsL x st inp))))
     rw[List.map_map]
     congr 2
     refine List.map_congr_left fun l hl=>?_
     rw[←hV]
     exact fwd_lits h hs hb (hrt l (List.mem_append.2 (.inr (List.mem_flatten.2 ⟨p.1.2.2,List.mem_map_of_mem h1,hl⟩))))
   · show [nxF V ((0,fwdInit x k,[fwdV x k]),vF x k st)]=_
     rw[nxF_flop (q:=fwdV x k) rfl rfl vF_01]
 · show packL ((x.2.2.2.map (plMapV (fwdImp x k).1)).map (litL _))=packL (x.2.2.2.map (litL _))
   rw[List.map_map]
   congr 1
   refine List.map_congr_left fun l hl=>?_
   exact fwd_lits h hs hb (hrt l (List.mem_append.2 (.inl hl)))
theorem fwd_start (h:fwdOkB x k=true):startL (fwdG x k)=stP x k (startL x):=by
 obtain⟨hfr,hfl,hfv⟩:=fwdOk_of h
 obtain⟨hok,hk,fa,fb,h12⟩:=frontB_of hfr
 have one:∀ l,0≤flopL x l→initV x l=litS x (startL x) l:=fun l hl=>by
  obtain⟨q,-,-,-,b1,b2⟩:=flop_in hok hl
  obtain⟨r1,r2,r3⟩:=flopL_rng (x:=x) (l:=l)
  have hlt:(flopL x l).toNat<x.2.1.length:=by omega
  obtain⟨e1,e2⟩:=seqAt_mem hlt
  have hn:atI (startL x) (flopL x l)=(seqAt x (flopL x l).toNat).2.1:=by
   unfold atI startL
   rw[List.getElem?_map,e1]
   rfl
  unfold initV litS
  rw[hn]
  rcases (by omega:l % 2=0∨l % 2=1) with h1|h1<;>rcases (by omega:(seqAt x (flopL x l).toNat).2.1=0∨(seqAt x (flopL x l).toNat).2.1=1) with h2|h2<;>rw[h1,h2]<;>decide
 show (x.2.1.map (mapSeq (fwdImp x k).1)++[(0,fwdInit x k,[fwdV x k])]).map (fun s:SeqD=>s.2.1)=x.2.1.map (fun s:SeqD=>s.2.1)++[vF x k (startL x)]
 rw[List.map_append,List.map_map]
 congr 1
 show [fwdInit x k]=_
 unfold fwdInit vF
 rw[one _ fa,one _ fb]
 have h1:=litS_01 (x:=x) (st:=startL x) (l:=(andK x k).1)
 have h2:=litS_01 (x:=x) (st:=startL x) (l:=(andK x k).2)
 rcases (by omega:litS x (startL x) (andK x k).1=0∨litS x (startL x) (andK x k).1=1) with e1|e1<;>rcases (by omega:litS x (startL x) (andK x k).2=0∨litS x (startL x) (andK x k).2=1) with e2|e2<;>rw[e1,e2]<;>decide
end
end Go.Proofs.Ytnjedabjbeipeaa
