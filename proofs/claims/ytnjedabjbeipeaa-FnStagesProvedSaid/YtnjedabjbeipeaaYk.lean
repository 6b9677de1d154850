/-
  Covers added to a net by the program; rows that take new slots ahead of a call. By abstract walks.
  Conditions: those typed in each theorem.
-/
import Derived.Test.YtnjedabjbeipeaaYb
import Derived.Test.YtnjedabjbeipeaaTg
namespace Go.Proofs.Ytnjedabjbeipeaa
open Go.RowKit Go.ChangeShapes Go.WideShapes
set_option linter.unusedSimpArgs false
set_option linter.unusedVariables false
set_option maxRecDepth 100000
set_option maxHeartbeats 10000000
section
variable {P:Program} {w0:DP} {w:World} {φ:B6} {sl:List Ag} {Fs:List (List Nat)} {k:Nat} {hh:Option Nat×Nat}
theorem VR.reh {G:Nat→Prop} (hd:sl[k]? = some .dead) {x:V} {v:Value} (h:VR w G φ sl x v):VR w G (φ.set k hh) sl x v:=by
 have hne:∀ (s:Nat) (y:Ag),sl[s]? = some y→y.live→(φ.set k hh)[s]? = φ[s]?:=fun s y hs hy=>by
  rw[ACT];rintro rfl;rw[hd] at hs;obtain rfl:=ACW hs;exact hy
 induction h with
 | any v=>exact .any v
 | nil t=>exact .nil t
 | d h=>exact .d h
 | ref hs hp=>exact .ref hs (by rw[hne _ _ hs trivial];exact hp)
 | gone hs hv=>exact .gone hs hv
 | blk hs hp=>exact .blk hs (by rw[hne _ _ hs trivial];exact hp)
 | nilp=>exact .nilp
 | lit hs hp=>exact .lit hs (by rw[hne _ _ hs trivial];exact hp)
 | litgone hs hv=>exact .litgone hs hv
 | ptr hs hx hp=>exact .ptr hs hx (by rw[hne _ _ hs hx];exact hp)
 | lost hs hv=>exact .lost hs hv
 | eptr hs hp=>exact .eptr hs (by rw[hne _ _ hs trivial];exact hp)
 | qptr hs hp=>exact .qptr hs (by rw[hne _ _ hs trivial];exact hp)
 | elost hs hv=>exact .elost hs hv
 | cptr u hG hc hr=>exact .cptr u hG hc hr
 | agg hl h1 h ih=>exact .agg hl h1 ih
 | tup hl h ih=>exact .tup hl ih
 | fn hl h ih=>exact .fn hl ih
theorem YM (hd:sl[k]? = some .dead) (b:Nat):top (φ.set k hh) sl b↔top φ sl b:=by
 have key:∀ (s:Nat) (y:Ag),sl[s]? = some y→y.live→(φ.set k hh)[s]? = φ[s]?:=fun s y hs hy=>by
  rw[ACT];rintro rfl;rw[hd] at hs;obtain rfl:=ACW hs;exact hy
 constructor
 · rintro⟨s,x,c,g1,g2,g3⟩;exact⟨s,x,c,g1,g2,by rw[←key s x g1 g2];exact g3⟩
 · rintro⟨s,x,c,g1,g2,g3⟩;exact⟨s,x,c,g1,g2,by rw[key s x g1 g2];exact g3⟩
theorem VK {R:Nat→Prop} (hd:sl[k]? = some .dead):good R (φ.set k hh) sl w=good R φ sl w:=by
 funext b
 unfold good;rw[propext (YM (φ:=φ) (hh:=hh) hd b)]
theorem BM.reh (h:BM P w0 φ sl w Fs) (hd:sl[k]? = some .dead) (hp:w0.H.length≤k):BM P w0 (φ.set k hh) sl w Fs:=by
 refine⟨h.only,fun b hb=>h.tops b ((YM hd b).1 hb),by simpa using h.flen,h.Flen,h.nd,h.ge,fun i hd' hi=>?_,fun s x hd' F h1 h2 h3=>?_⟩
 · obtain⟨q1,q2⟩:=h.pin i hd' hi;have hl:=(zz1.1 hi).1;exact⟨by rw[ACT (by omega)];exact q1,q2⟩
 · rw[VK hd];by_cases hs:s=k
   · subst hs;rw[hd] at h1;obtain rfl:=ACW h1;have hl:=(zz1.1 hd).1;exact h.sr s .dead (φ[s]'(by rw[h.flen];exact hl)) F hd (zz0 _) h3
   · rw[ACT (fun e=>hs e.symm)] at h2;have hsr:=h.sr s x hd' F h1 h2 h3
     cases x with
     | dead=>exact hsr
     | unborn=>exact hsr
     | arr t ow es=>cases ow<;>exact hsr
     | blk k=>exact hsr
     | var t xs =>
       obtain⟨g,cur,a1,a2,a3,a4,a5⟩:=hsr;exact⟨g,cur,a1,a2,a3,a4,fun i y v hy hv=>⟨(a5 i y v hy hv).1.reh hd,(a5 i y v hy hv).2⟩⟩
end
section
variable {P:Program} {w0:DP} {w':World} {φ':B6} {sl' sl'':List Ag} {Fs':List (List Nat)} {k:Nat} {hh0:Option Nat×Nat} {t:TypeId} {ow:Bool} {es:List (List D)} {r:V} {v:Value}
theorem lH (hm':BM P w0 φ' sl' w' Fs') (hv':VR w' (good w0.R φ' sl' w') φ' sl' r v) (hk:sl'[k]? = some (.arr t ow es)) (hlen:sl''.length=sl'.length+1) (hd:sl''[k]? = some .dead)
 (hn:sl''[sl'.length]? = some (.arr t ow es)) (ho:∀ (s:Nat) (y:Ag),s≠k→sl'[s]? = some y→∃ y',sl''[s]? = some y'∧pC k sl'.length y y') (hp:w0.H.length≤k) :
 ∃ φ3 Fs3,(BM P w0 φ3 sl'' w' Fs3∧φ3[k]? = some hh0)∧VR w' (good w0.R φ3 sl'' w') φ3 sl'' r v:=by
 have hkl:=(zz1.1 hk).1;obtain⟨hh,F,e1,e2,e3⟩:=hm'.at_ hk;have hF:=hm'.flen;have hF2:=hm'.Flen
 have hlater:∀ (s:Nat) (x:Ag),sl'[s]? = some x→∃ x',sl''[s]? = some x'∧Later x x':=fun s x hx=>by
  by_cases hs:s=k
  · subst hs;rw[hk] at hx;obtain rfl:=ACW hx;exact⟨_,hd,trivial⟩
  · obtain⟨y',g1,g2⟩:=ho s x hs hx;refine⟨y',g1,?_⟩;rcases g2 with rfl|⟨t,xs,ys,rfl,rfl,-,-⟩
    · exact Later.refl _
    · trivial
 have htop:∀ b,top (φ'++[hh]) sl'' b→top φ' sl' b:=fun b hb=>by
  obtain⟨s,x,c,g1,g2,g3⟩:=hb;rcases Nat.lt_or_ge s sl'.length with hs|hs
  · rw[zz4 (by omega)] at g3;by_cases hsk:s=k
    · subst hsk;rw[hd] at g1;obtain rfl:=ACW g1;exact g2.elim
    · obtain⟨y',q1,q2⟩:=ho s _ hsk (zz0 hs);rw[g1] at q1;obtain rfl:=ACW q1;refine⟨s,_,c,zz0 hs,?_,g3⟩;rcases q2 with q|⟨t,xs,ys,q,-,-,-⟩
      · rw[←q];exact g2
      · rw[q];trivial
  · have hs2:=(zz1.1 g1).1;obtain rfl:s=sl'.length:=by omega
    rw[zz5 (by omega),hF,Nat.sub_self] at g3;simp at g3;rw[g3] at e1;exact⟨k,_,c,hk,trivial,e1⟩
 have hgood:∀ b,good w0.R φ' sl' w' b→good w0.R (φ'++[hh]) sl'' w' b∧∀ o,w'.cell? ⟨b,o,none⟩=w'.cell? ⟨b,o,none⟩:=fun b hb=>⟨⟨hb.1,fun ht=>hb.2.1 (htop b ht),hb.2.2⟩,fun _=>rfl⟩
 have hVR:∀ (x z:V) (u:Value),VR w' (good w0.R φ' sl' w') φ' sl' x u→(z=x∨x=.ref k∧z=.ref sl'.length)→VR w' (good w0.R (φ'++[hh]) sl'' w') (φ'++[hh]) sl'' z u:=fun x z u hx hz=>by
  rcases hz with rfl|⟨rfl,rfl⟩
  · exact hx.mono hgood hlater C9
  · have hnh:(φ'++[hh])[sl'.length]? = some hh:=by rw[←hF];simp
    cases hx with
    | ref hs hp =>
      rw[hk] at hs;obtain⟨rfl,rfl,rfl⟩:=Ag.arr.inj (ACW hs);rw[hp] at e1;obtain rfl:=ACW e1;exact .ref hn hnh
    | gone hs hv=>rw[hk] at hs;cases hs
    | blk hs hp=>rw[hk] at hs;cases hs
 have hperm:(Fs'.set k []++[F]).flatten.Perm Fs'.flatten:=by
  have hk2:k<Fs'.length:=by omega
  have d1:Fs'=Fs'.take k++F::Fs'.drop (k+1):=by
   have:=List.getElem_of_getElem? e2;obtain⟨_,q⟩:=this;rw[←q,←List.drop_eq_getElem_cons hk2,List.take_append_drop]
  have d2:Fs'.set k []=Fs'.take k++[]::Fs'.drop (k+1):=by rw[List.set_eq_take_append_cons_drop,if_pos hk2]
  rw[d2]
  conv=>rhs;rw[d1]
  simp only[ACK,List.flatten_cons,List.flatten_nil,List.nil_append,List.append_nil,ACY];exact List.Perm.append_left _ List.perm_append_comm
 have hfin:BM P w0 (φ'++[hh]) sl'' w' (Fs'.set k []++[F]):=by
  refine⟨hm'.only,fun b hb=>hm'.tops b (htop b hb),by simp[hF,hlen],by simp[hF2,hlen],hperm.nodup_iff.2 hm'.nd,fun g hg=>hm'.ge g (hperm.mem_iff.1 hg),fun i hd' hi=>?_,fun s x hd' G g1 g2 g3=>?_⟩
  · obtain⟨q1,q2⟩:=hm'.pin i hd' hi;refine⟨C9 (sl:=sl') i hd' q1 q2,fun hu=>?_⟩;have hil:=(zz1.1 q1).1;by_cases hik:i=k
    · subst hik;rw[hd] at hu;cases hu
    · obtain⟨y',p1,p2⟩:=ho i _ hik (zz0 (by omega));rw[hu] at p1;obtain rfl:=ACW p1;rcases p2 with p|⟨_,_,_,_,p,_,_⟩
      · exact q2 (by rw[zz0 (by omega),←p])
      · cases p
  · rcases Nat.lt_or_ge s sl'.length with hs|hs
    · rw[zz4 (by omega)] at g2;rw[zz4 (by simp;omega)] at g3;by_cases hsk:s=k
      · subst hsk;rw[hd] at g1;obtain rfl:=ACW g1;rw[ACf (by omega)] at g3;exact (ACW g3).symm
      · rw[ACT (fun e=>hsk e.symm)] at g3;obtain⟨y',p1,p2⟩:=ho s _ hsk (zz0 hs);rw[g1] at p1;obtain rfl:=ACW p1;have hsr:=hm'.sr s _ hd' G (zz0 hs) g2 g3;rcases p2 with p|⟨t',xs,ys,p,rfl,p3,p4⟩
        · rw[p];exact hsr.mono (fun _ _=>rfl) hgood hlater C9
        · rw[p] at hsr;obtain⟨g,cur,a1,a2,a3,a4,a5⟩:=hsr;refine⟨g,cur,a1,a2,a3,by rw[p3];exact a4,fun i z u hz hu=>?_⟩;have hi:=(zz1.1 hz).1;have hx:=zz0 (l:=xs) (i:=i) (by rw[←p3];exact hi);obtain⟨b1,b2⟩:=a5 i _ u hx hu;exact⟨hVR _ z u b1 (p4 i _ z hx hz),b2⟩
    · have hs2:=(zz1.1 g1).1;obtain rfl:s=sl'.length:=by omega
      rw[hn] at g1;obtain rfl:=ACW g1;rw[zz5 (by omega),hF,Nat.sub_self] at g2;rw[zz5 (by simp;omega)] at g3;simp[hF2] at g2 g3;subst g2 g3;exact e3.mono (fun _ _=>rfl) hgood hlater C9
 refine⟨(φ'++[hh]).set k hh0,Fs'.set k []++[F],⟨hfin.reh hd hp,?_⟩,?_⟩
 · rw[ACf (by simp;omega)]
 · rw[VK hd];exact (hVR r r v hv' (.inl rfl)).reh hd
end
theorem dW {P:Program} {q:Bool} {f:FuncId} {fn:Func} {c:Code} {xs:List V} {pre sl sl' sl'':List Ag} {r:V} {t t':TypeId} {ow ow':Bool} {es es':List (List D)} (hc:C5 P f=true) (hf:P.funcs[f]? = some fn) (hb:fn.body=some c) {n:Nat} {rs:List ResultVar} (hn:fn.ntmps=n) (hrs:fn.results.toList=rs)
 (hsl0:sl=pre++[.arr t ow es]) (hk':sl'[pre.length]? = some (.arr t' ow' es')) (hlen':sl''.length=sl'.length+1) (hd':sl''[pre.length]? = some .dead) (hn':sl''[sl'.length]? = some (.arr t' ow' es'))
 (ho':∀ (s:Nat) (y:Ag),s≠pre.length→sl'[s]? = some y→∃ y',sl''[s]? = some y'∧pC pre.length sl'.length y y') (hlat:AZ sl sl'')
 (h:Ib P ⟨pre.length,false,true,q⟩ c (fV P pre.length rs r sl') ⟨xs++List.replicate (n - xs.length) .any,sl⟩):BS P f xs sl r sl'':=by
 subst hn hrs;subst hsl0;refine⟨hc,hlat,?_⟩;intro w φ Fs R hR vs hm0 hl hv;have hF0:=hm0.flen;have hpl:φ.length=pre.length+1:=by rw[hF0];simp
 have hpt:∀ (i:Nat) (hd:Option Nat×Nat),(φ.take pre.length)[i]? = some hd→φ[i]? = some hd:=fun i hd hi=>by
  rw[ACi] at hi;split at hi<;>first | exact hi|cases hi
 have hm:BM P ⟨w,top φ (pre++[.arr t ow es]),(·∈Fs.flatten),φ.take pre.length,R,false,hR⟩ φ (pre++[.arr t ow es]) w Fs:=⟨hm0.only,hm0.tops,hm0.flen,hm0.Flen,hm0.nd,hm0.ge,fun i hd hi=>hm0.pin i hd (hpt i hd hi),hm0.sr⟩;have htk:(φ.take pre.length).length≤pre.length:=by rw[ACL];omega
 have hr:=MD (n:=fn.ntmps) ⟨_,hm⟩ hl hv;refine calls_of_wp hf hb (EK (m:=⟨pre.length,false,true,q⟩) rfl (fun _ h=>by cases h) htk c h hr fun e φ' σ' a' w' hq hr'=>?_);obtain⟨he,us,hus,π,hn,hpn,hsl,hrr⟩:=hq;obtain⟨u,k1,k2⟩:=H5 rfl hr' hus
 have fin:∃ φ2 Fs2,BM P ⟨w,top φ (pre++[.arr t ow es]),(·∈Fs.flatten),φ.take pre.length,R,false,hR⟩ φ2 sl' w' Fs2∧VR w' (good R φ2 sl' w') φ2 sl' r u:=by
  unfold leT at hrr;split at hrr
  · rename_i ys;obtain⟨xs',hj,hle⟩:=hrr;rw[hj] at k2
    cases k2 with
    | tup hl2 hv2 =>
      rename_i us';obtain⟨Fs1,hm1⟩:=hr'.mem
      have hr1:Dk P ⟨w,top φ (pre++[.arr t ow es]),(·∈Fs.flatten),φ.take pre.length,R,false,hR⟩ φ' ⟨xs',σ'.slots⟩ { tmps:=us'.toArray,defers:=[] } w' :=
       ⟨⟨Fs1,hm1⟩,rfl,by simpa using hl2,fun i x v hx hv'=>hv2 i x v hx (by simpa using hv')⟩
      obtain⟨φ2,hr2⟩:=hr1.le (m:=⟨pre.length,false,true,q⟩) (σ':=⟨ys,sl'⟩) rfl htk ⟨π,hn,hpn,hsl,hle⟩;obtain⟨Fs2,hm2⟩:=hr2.mem;refine⟨φ2,Fs2,hm2,.tup (by have:=hr2.tlen;simpa using this) fun i x v hx hv'=>hr2.tmps i x v hx (by simpa using hv')⟩
  · obtain⟨Fs1,hm1⟩:=hr'.mem
    have hr1:Dk P ⟨w,top φ (pre++[.arr t ow es]),(·∈Fs.flatten),φ.take pre.length,R,false,hR⟩ φ' ⟨[NS us],σ'.slots⟩ { tmps:=#[u],defers:=[] } w':=by
     refine⟨⟨Fs1,hm1⟩,rfl,rfl,fun i x v hx hv'=>?_⟩
     match i with
     | 0=>simp at hx hv';subst hx hv';exact k2
     | i+1=>simp at hx
    obtain⟨φ2,hr2⟩:=hr1.le (m:=⟨pre.length,false,true,q⟩) (σ':=⟨[r],sl'⟩) rfl htk ⟨π,hn,hpn,hsl,hrr,trivial⟩;obtain⟨Fs2,hm2⟩:=hr2.mem;exact⟨φ2,Fs2,hm2,hr2.tmps 0 r u rfl rfl⟩
 obtain⟨φ2,Fs2,f1,f2⟩:=fin;obtain⟨φ3,Fs3,f3,f4⟩:=lH (hh0:=φ[pre.length]'(by omega)) f1 f2 hk' hlen' hd' hn' ho' htk
 have f5:BM P ⟨w,top φ (pre++[.arr t ow es]),(·∈Fs.flatten),φ,R,false,hR⟩ φ3 sl'' w' Fs3:=by
  refine⟨f3.1.only,f3.1.tops,f3.1.flen,f3.1.Flen,f3.1.nd,f3.1.ge,fun i hd hi=>?_,f3.1.sr⟩;rcases Nat.lt_or_ge i pre.length with h'|h'
  · exact f3.1.pin i hd (by rw[ACi,if_pos h'];exact hi)
  · have hi2:i<φ.length:=(zz1.1 hi).1;obtain rfl:i=pre.length:=by omega
    refine⟨?_,by rw[hd'];simp⟩;rw[f3.2,←hi,zz0 hi2]
 rcases he with rfl|rfl
 · exact⟨hr'.defers,u,k1,u,φ3,Fs3,rfl,f5,f4⟩
 · exact⟨hr'.defers,u,k1,u,φ3,Fs3,rfl,f5,f4⟩
theorem nJ (I fa:Int) (sq:List Dl) (an:List Ah) (a b:Int) (hI:0≤I∧I≤20) (hfa:1+I+(sq.length:Int)=fa) (hs:sq.length≤12) (hn:an.length≤300) (ha:0≤a∧a≤100000) (hb:0≤b∧b≤100000) :
 BS Try.prog 123 [.ptr 0 0,.d (.int .i64 a),.d (.int .i64 b)] [YU I 1 2,LF sq,Mu an] (.d (.int .i64 (E4 fa an a b))) [YU I 1 3,LF sq,.dead,Mu (Ak an (Ad a) (Ad b))]:=by
 have fa1:0≤Ad a∧Ad a≤1048576:=by unfold Ad;split<;>omega
 have fb1:0≤Ad b∧Ad b≤1048576:=by unfold Ad;split<;>omega
 have kA:=LW I fa sq an (Ad a) (Ad b) hI hfa hs hn fa1 fb1;have x1:Bd a 1=Ad a:=A8 ha.1 (by omega);have x2:Bd b 1=Ad b:=A8 hb.1 (by omega);have hO:E4 fa an a b=if AG fa an (Ad a) (Ad b)<0 then -1 else Ad (AG fa an (Ad a) (Ad b)):=rfl
 have hr:AG fa an (Ad a) (Ad b)<4611686018427387904:=by
  unfold AG Ey;split
  · split
    · omega
    · split<;>omega
  · split
    · have:CQ an (E3 (Ad a) (Ad b),Eo (Ad a) (Ad b))<an.length:=by assumption
      omega
    · split<;>omega
 generalize AG fa an (Ad a) (Ad b)=v at *;generalize Ak an (Ad a) (Ad b)=an2 at *;by_cases hv:v<0
 · rw[if_pos hv] at hO;refine Bl (by kernel_rfl) Try.func123 rfl rfl rfl (by simp[AZ,Later]) (by simp[Bi,Ag.live]) ?_;simp[x1,x2];refine Ac (kA) [] [0,1,2] (by simp) ?_;simp[hv,zz2 hv,hO];exact⟨[0,1,2,3],by simp⟩
 · rw[if_neg hv] at hO;have x3:Bd v 1=Ad v:=A8 (by omega) hr;refine Bl (by kernel_rfl) Try.func123 rfl rfl rfl (by simp[AZ,Later]) (by simp[Bi,Ag.live]) ?_;simp[x1,x2];refine Ac (kA) [] [0,1,2] (by simp) ?_;simp[hv,zz3 hv,hO,x3,show 0≤v by omega];exact⟨[0,1,2,3],by simp⟩
theorem VV {fa:Int} {lits:List Int} {c:Ah} {an0:List Ah} {k:Nat} (hf:(GW fa lits c an0 k).2.2=false):∀ d,GW fa lits c an0 (k+d)=GW fa lits c an0 k
 | 0=>rfl
 | d+1=>by
   have ih:=VV hf d;show GW fa lits c an0 (k+d+1)=_;rw[GW,if_pos (by rw[ih];exact hf),ih]
theorem U9 {fa:Int} {lits:List Int} {cs an0:List Ah} {i:Nat} (hf:(GU fa lits cs an0 i).2.2=false):∀ d,GU fa lits cs an0 (i+d)=GU fa lits cs an0 i
 | 0=>rfl
 | d+1=>by
   have ih:=U9 hf d;show GU fa lits cs an0 (i+d+1)=_;rw[GU,if_pos (by rw[ih];exact hf),ih]
def oX (s:List Ah×Int×Bool):Int:=if s.2.2=true then s.2.1 else -1
theorem Xu (I:Int) (fa:Nat) (sq:List Dl) (an0:List Ah) (lits:List Int) (cs:List Ah) (hI:0≤I∧I≤20) (hfa:1+I+(sq.length:Int)=fa) (hs:sq.length≤12) (hn:an0.length≤300) (ho:ES fa an0) (h4:lits.length≤4)
 (hlr:∀ y∈lits,0≤y∧y<2*((fa:Int)+an0.length)) (hcl:cs.length≤1000) :
 BS Try.prog 120 [.ptr 0 0,.d (B3 3 (e1 Az) lits),.d (.sl 138 (cs.map Ao))] [YU I 1 2,LF sq,Mu an0] (.d (.int .i64 (oX (GU fa lits cs an0 cs.length)))) [YU I 1 3,LF sq,.dead,Mu (GU fa lits cs an0 cs.length).1]:=by
 have hSok:=fun i=>Nr (fa:=(fa:Int)) (lits:=lits) (an0:=an0) (n0:=an0.length) (cs:=cs) (by omega) ⟨Nat.le_refl _,hn,ho,by simp only;omega⟩ hlr i;have hstop:=fun i h d=>U9 (fa:=(fa:Int)) (lits:=lits) (cs:=cs) (an0:=an0) (i:=i) h d;have hS0:GU (fa:Int) lits cs an0 0=(an0,0,true):=rfl;refine dW (q:=true) (pre:=[YU I 1 2,LF sq]) (sl':=[YU I 1 2,LF sq,Mu (GU fa lits cs an0 cs.length).1]) (by kernel_rfl) Try.func120 rfl rfl rfl rfl rfl rfl rfl rfl (fun s y h2 hy=>?_) ⟨trivial,by simp[Later],trivial,trivial⟩ ?_
 · match s with
   | 0 =>
     refine⟨_,rfl,.inr ⟨_,_,_,(ACW hy).symm,rfl,rfl,fun i p z hp hz=>?_⟩⟩
     match i with
     | 0=>simp at hp hz;exact .inl (by rw[←hp,←hz])
     | 1=>simp at hp hz;exact .inl (by rw[←hp,←hz])
     | 2=>simp at hp hz;exact .inr ⟨hp.symm,hz.symm⟩
     | 3=>simp at hp hz;exact .inl (by rw[←hp,←hz])
     | n+4=>simp at hp
   | 1=>exact⟨_,rfl,.inl (ACW hy)⟩
   | 2=>exact absurd rfl h2
   | n+3=>simp at hy
 simp;refine As [true,true,false,false,false,false,false,true,false,false,false,false,false,true,true,true] (fun i:Nat=>i≤cs.length∧(GU fa lits cs an0 i).2.2=true) (fun i:Nat=>[(7,.d (.int .i64 (GU fa lits cs an0 i).2.1)),(15,.d (.int .i64 i))]) (fun i:Nat=>fun _=>[YU I 1 2,LF sq,Mu (GU fa lits cs an0 i).1]) (fun i:Nat=>cs.length - i) 0 ?_ ?_ ?_
 · exact⟨Nat.zero_le _,rfl⟩
 · exact⟨[0,1,2],by simp[hS0]⟩
 rintro J S μ hJ hS hμ i ⟨hi,hfl⟩;have hSi:=hSok i;by_cases hlt:i<cs.length
 · obtain⟨cu,hcu⟩:∃ cu,cs[i]? = some cu:=⟨_,zz0 hlt⟩;have hL:(Ao cu).length=2:=rfl
   have hst:GU fa lits cs an0 (i+1)=if (GU fa lits cs an0 i).2.2=false then GU fa lits cs an0 i
    else (fun q:List Ah×Int×Bool=>if q.2.2=false then (q.1,0,false) else if E4 fa q.1 (GU fa lits cs an0 i).2.1 q.2.1<0 then (q.1,0,false) else (Ak q.1 (Ad (GU fa lits cs an0 i).2.1) (Ad q.2.1),E4 fa q.1 (GU fa lits cs an0 i).2.1 q.2.1,true)) (GW fa lits cu (GU fa lits cs an0 i).1 lits.length):=by
    rw[GU,hcu];rfl
   have hlast:=fun h=>hstop (i+1) h (cs.length - (i+1));rw[show i+1+(cs.length - (i+1))=cs.length by omega] at hlast;obtain⟨S2,hS2⟩:∃ S2,GU fa lits cs an0 (i+1)=S2:=⟨_,rfl⟩;rw[hS2] at hst hlast;obtain⟨SF,hSF⟩:∃ SF,GU fa lits cs an0 cs.length=SF:=⟨_,rfl⟩;rw[hSF] at hlast ⊢;generalize GU fa lits cs an0 i=S1 at *;obtain⟨an,s,bb⟩:=S1;simp only at hfl;subst hfl;simp only[Bool.true_eq_false,if_false] at hst;obtain⟨i1,i2,i3,i4⟩:=hSi;simp only at i1 i2 i3 i4 ⊢;have hPok:=fun k hk=>O3 (fa:=(fa:Int)) (lits:=lits) (c:=cu) (an0:=an) (n0:=an.length) (by omega) ⟨Nat.le_refl _,i2,i3,by simp only;omega⟩ (fun y hy=>by have:=hlr y hy;omega) k hk;have hpstop:=fun k h d=>VV (fa:=(fa:Int)) (lits:=lits) (c:=cu) (an0:=an) (k:=k) h d;have w1:IntKind.i64.wrap ((i:Int)+1)=(i:Int)+1:=Af (by omega) (by omega);have hP0:GW (fa:Int) lits cu an 0=(an,1,true):=rfl;simp[zz2 hlt,hcu,hL,Ao];refine As [true,true,false,false,false,false,false,true,false,true,true,false,false,true,true,true,false,false,false,true,true,true] (fun k:Nat=>k≤lits.length∧(GW fa lits cu an k).2.2=true) (fun k:Nat=>[(10,.d (.int .i64 (GW fa lits cu an k).2.1)),(21,.d (.int .i64 k))]) (fun k:Nat=>fun _=>[YU I 1 2,LF sq,Mu (GW fa lits cu an k).1,.var 138 [.d (.int .i64 cu.1),.d (.int .i64 cu.2)]]) (fun k:Nat=>lits.length - k) 0 ?_ ?_ ?_
   · exact⟨Nat.zero_le _,rfl⟩
   · exact⟨[0,1,2,3],by simp[hP0]⟩
   rintro J2 S2' μ2 hJ2 hS2' hμ2 k ⟨hk,hfk⟩;have hPk:=hPok k hk;by_cases hlt3:k<lits.length
   · have hstk:GW fa lits cu an (k+1)=if (GW fa lits cu an k).2.2=false then GW fa lits cu an k
      else if Cp (DB cu.1 (k:Int)) 1=1 then (if AG fa (GW fa lits cu an k).1 (GW fa lits cu an k).2.1 (FN lits cu k)<0 then ((GW fa lits cu an k).1,(GW fa lits cu an k).2.1,false) else (Ak (GW fa lits cu an k).1 (GW fa lits cu an k).2.1 (FN lits cu k),AG fa (GW fa lits cu an k).1 (GW fa lits cu an k).2.1 (FN lits cu k),true))
      else GW fa lits cu an k:=rfl
     have hplast:=fun h=>hpstop (k+1) h (lits.length - (k+1));rw[show k+1+(lits.length - (k+1))=lits.length by omega] at hplast;obtain⟨P2,hP2⟩:∃ P2,GW fa lits cu an (k+1)=P2:=⟨_,rfl⟩;rw[hP2] at hstk hplast;generalize GW fa lits cu an k=P1 at *;obtain⟨an2,p,bb⟩:=P1;simp only at hfk;subst hfk;simp only[Bool.true_eq_false,if_false] at hstk;obtain⟨j1,j2,j3,j4⟩:=hPk;simp only at j1 j2 j3 j4 ⊢;have w2:IntKind.i64.wrap ((k:Int)+1)=(k:Int)+1:=Af (by omega) (by omega);have hu2:IntKind.u64.wrap (k:Int)=k:=Fb (by omega) (by omega);have hlt4:lits[k]? = some (Av lits k):=by have:=CJ (lv:=lits) (k:=(k:Int)) (by omega);rwa [Int.toNat_natCast] at this
     have hyr:=hlr _ (zz6 hlt4);have b1:=Fm (DB cu.1 (k:Int));have b2:=Fm (DB cu.2 (k:Int));have hrl:=M9 (lits:=lits) (c:=cu) (k:=k) (n:=(fa:Int)+an2.length) hlt3 (fun y hy=>by have:=hlr y hy;omega) (by omega)
     have hal:FN lits cu k=if Cp (DB cu.2 (k:Int)) 1=0 then Bd (Av lits k) 1 else Av lits k:=by
      unfold FN;rcases (by omega:Cp (DB cu.2 (k:Int)) 1=0∨Cp (DB cu.2 (k:Int)) 1=1) with e|e
      · have h1:=A8 (a:=Av lits (k:Int)) hyr.1 (by omega);have h2:=(AU hyr.1).2;rw[e,if_pos rfl,h1,Hl h2 (by unfold Ad;split<;>omega)]
      · have h1:=A8 (a:=Av lits (k:Int)) hyr.1 (by omega);have h2:=(AU hyr.1).2;rw[e,if_neg (by decide),h1,A8 h2 (by unfold Ad;split<;>omega),RP hyr.1]
     have kD:=LW I fa sq an2 p (FN lits cu k) hI hfa hs j2 (by omega) (by omega);have hneg:=II (fa:=(fa:Int)) (an:=an2) (a:=p) (b:=FN lits cu k) (by omega) (by omega) (by omega);generalize FN lits cu k=lt at *;generalize AG (fa:Int) an2 p lt=v at *;generalize Ak an2 p lt=an3 at *;rcases (by omega:Cp (DB cu.1 (k:Int)) 1=0∨Cp (DB cu.1 (k:Int)) 1=1) with e|e
     · rw[if_neg (by rw[e];decide)] at hstk;simp[zz2 hlt3,hlt4,hu2,e,w2];exact Ae hJ2 hS2' hμ2 (k+1) ⟨by omega,by rw[hP2,hstk]⟩ (by omega) ⟨[0,1,2,3],by simp[hP2,hstk]⟩
     rw[if_pos e] at hstk
     have hbad:v<0→SF=(an3,0,false):=fun hv=>by
      rw[if_pos hv] at hstk;rw[hplast (by rw[hstk])] at hst;rw[hstk] at hst;simp only[if_true] at hst;rw[hlast (by rw[hst]),hst,(hneg hv).1]
     rcases (by omega:Cp (DB cu.2 (k:Int)) 1=0∨Cp (DB cu.2 (k:Int)) 1=1) with f|f
     · rw[if_pos f] at hal;by_cases hv:v<0
       · rw[hbad hv];simp[zz2 hlt3,hlt4,hu2,e,f,←hal];refine Ac (kD) [] [0,1,2] (by simp) ?_;simp[hv,zz2 hv];exact⟨[0,1,4],by simp[oX]⟩
       · rw[if_neg hv] at hstk;simp[zz2 hlt3,hlt4,hu2,e,f,←hal];refine Ac (kD) [] [0,1,2] (by simp) ?_;simp[hv,zz3 hv,w2,show 0≤v by omega];exact Ae hJ2 hS2' hμ2 (k+1) ⟨by omega,by rw[hP2,hstk]⟩ (by omega) ⟨[0,1,4,3],by simp[hP2,hstk]⟩
     · rw[if_neg (by rw[f];decide)] at hal;rw[←hal] at hlt4;by_cases hv:v<0
       · rw[hbad hv];simp[zz2 hlt3,hlt4,hu2,e,f];refine Ac (kD) [] [0,1,2] (by simp) ?_;simp[hv,zz2 hv];exact⟨[0,1,4],by simp[oX]⟩
       · rw[if_neg hv] at hstk;simp[zz2 hlt3,hlt4,hu2,e,f];refine Ac (kD) [] [0,1,2] (by simp) ?_;simp[hv,zz3 hv,w2,show 0≤v by omega];exact Ae hJ2 hS2' hμ2 (k+1) ⟨by omega,by rw[hP2,hstk]⟩ (by omega) ⟨[0,1,4,3],by simp[hP2,hstk]⟩
   obtain rfl:k=lits.length:=by omega
   clear hJ2 hS2' hμ2 hpstop hPok;generalize GW fa lits cu an lits.length=P1 at *;obtain⟨an2,p,bb⟩:=P1;simp only at hfk;subst hfk;simp only[Bool.true_eq_false,if_false] at hst;obtain⟨j1,j2,j3,j4⟩:=hPk;simp only at j1 j2 j3 j4 ⊢;have kO:=nJ I fa sq an2 s p hI hfa hs j2 (by omega) (by omega);have f1:=(AU i4.1).2;have f2:=(AU j4.1).2;have hneg:=II (fa:=(fa:Int)) (an:=an2) (a:=Ad s) (b:=Ad p) (by omega) (by omega) (by omega)
   have hor:E4 fa an2 s p<0→Ak an2 (Ad s) (Ad p)=an2:=fun h=>by
    unfold E4 at h;split at h
    · rename_i h2;exact (hneg h2).1
    · rename_i h2;have:=(AU (v:=AG fa an2 (Ad s) (Ad p)) (by omega)).2;omega
   generalize E4 fa an2 s p=v at *;generalize Ak an2 (Ad s) (Ad p)=an3 at *;by_cases hv:v<0
   · rw[if_pos hv] at hst;have hSF2:SF=(an3,0,false):=by rw[hlast (by rw[hst]),hst,hor hv]
     rw[hSF2];simp[hlt3,zz3 hlt3];refine Ac (kO) [] [0,1,2] (by simp) ?_;simp[hv,zz2 hv];exact⟨[0,1,4],by simp[oX]⟩
   · rw[if_neg hv] at hst;simp[hlt3,zz3 hlt3];refine Ac (kO) [] [0,1,2] (by simp) ?_;simp[hv,zz3 hv,w1,show 0≤v by omega];exact Ae hJ hS hμ (i+1) ⟨by omega,by rw[hS2,hst]⟩ (by omega) ⟨[0,1,4],by simp[hS2,hst]⟩
 obtain rfl:i=cs.length:=by omega
 have hV:oX (GU fa lits cs an0 cs.length)=(GU fa lits cs an0 cs.length).2.1:=if_pos hfl;rw[hV];simp[hlt,zz3 hlt];exact⟨[0,1,2],by simp⟩
end Go.Proofs.Ytnjedabjbeipeaa
