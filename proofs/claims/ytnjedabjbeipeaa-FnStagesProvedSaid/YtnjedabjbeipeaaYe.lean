/-
  A nil slice is an empty row; a row may take a new slot. Plain lemmas on contracts, about no function of the program.
  Conditions: those typed in each theorem.
-/
import Derived.Test.YtnjedabjbeipeaaRh
namespace Go.Proofs.Ytnjedabjbeipeaa
open Go.RowKit Go.ChangeShapes Go.WideShapes
set_option linter.unusedSimpArgs false
set_option linter.unusedVariables false
set_option maxRecDepth 100000
set_option maxHeartbeats 10000000
theorem Q7 {sl sl' ys:List Ag} (h:AZ sl sl'):AZ sl (sl'++ys):=by
 induction sl generalizing sl' with
 | nil=>trivial
 | cons x xs ih =>
   cases sl' with
   | nil=>exact h.elim
   | cons y zs=>exact⟨h.1,ih h.2⟩
theorem Yc {φ:B6} {sl:List Ag} {t:TypeId} {b:Nat} (hl:φ.length=sl.length) (h:top (φ++[(none,0)]) (sl++[.arr t true []]) b):top φ sl b:=by
 obtain⟨s,x,c,h1,h2,h3⟩:=h;rcases Nat.lt_or_ge s sl.length with hs|hs
 · rw[zz4 hs] at h1;rw[zz4 (by omega)] at h3;exact⟨s,x,c,h1,h2,h3⟩
 · rw[zz5 (by omega)] at h3
   cases hq:s - φ.length with
   | zero=>rw[hq] at h3;simp at h3
   | succ q=>rw[hq] at h3;simp at h3
theorem Mp {sl ys:List Ag}:∀ (s:Nat) (x:Ag),sl[s]? = some x→∃ x',(sl++ys)[s]? = some x'∧Later x x':=fun s x h =>
 ⟨x,by rw[zz4 (zz1.1 h).1];exact h,Later.refl x⟩
theorem C9 {φ ψ:B6} {sl:List Ag}:∀ (s:Nat) (h:Option Nat×Nat),φ[s]? = some h→sl[s]?≠some .unborn→(φ++ψ)[s]? = some h:=fun s h h1 _=>by
 rw[zz4 (zz1.1 h1).1];exact h1
section
variable {P:Program} {w0:DP} {w:World} {φ:B6} {sl:List Ag} {Fs:List (List Nat)}
theorem VN {R:Nat→Prop} {t:TypeId} (hl:φ.length=sl.length):∀ b,good R φ sl w b→good R (φ++[(none,0)]) (sl++[.arr t true []]) w b∧∀ o,w.cell? ⟨b,o,none⟩=w.cell? ⟨b,o,none⟩ :=
 fun b hb=>⟨⟨hb.1,fun ht=>hb.2.1 (Yc hl ht),hb.2.2⟩,fun _=>rfl⟩
theorem BM.row (h:BM P w0 φ sl w Fs) (t:TypeId):BM P w0 (φ++[(none,0)]) (sl++[.arr t true []]) w (Fs++[[]]) where
 only:=h.only
 tops:=fun b hb=>h.tops b (Yc h.flen hb)
 flen:=by simp[h.flen]
 Flen:=by simp[h.Flen]
 nd:=by simpa using h.nd
 ge:=fun g hg=>h.ge g (by simpa using hg)
 pin:=fun i hd hi=>by
  obtain⟨h1,h2⟩:=h.pin i hd hi;have hl:=(zz1.1 h1).1;refine⟨C9 (sl:=sl) i hd h1 h2,?_⟩;rw[zz4 (by rw[←h.flen];exact hl)];exact h2
 sr:=fun s x hd F h1 h2 h3=>by
  have hF:=h.flen;have hF2:=h.Flen;rcases Nat.lt_or_ge s sl.length with hs|hs
  · rw[zz4 hs] at h1;rw[zz4 (by omega)] at h2 h3;exact (h.sr s x hd F h1 h2 h3).mono (fun _ _=>rfl) (VN h.flen) Mp C9
  · rw[zz5 hs] at h1;rw[zz5 (by omega)] at h2 h3;obtain⟨q,hq⟩:∃ q,s - sl.length=q:=⟨_,rfl⟩;rw[hF] at h2;rw[hF2] at h3;rw[hq] at h1 h2 h3
    cases q with
    | zero =>
      simp at h1 h2 h3;subst h1 h2 h3;exact⟨by omega,by simp,.inl ⟨rfl,rfl,rfl⟩⟩
    | succ q=>simp at h1
end
def ABs (s:Nat) (xs ys:List V):Prop:=ys.length=xs.length∧∀ (i:Nat) (x y:V),xs[i]? = some x→ys[i]? = some y→y=x∨((∃ u,x=.nil u)∧y=.ref s)
theorem Qz {P:Program} {f:FuncId} {ag xs ys:List V} {sl sl':List Ag} (t:TypeId) (h:BS P f ag sl (.agg xs) sl') (hr:ABs sl'.length xs ys):BS P f ag sl (.agg ys) (sl'++[.arr t true []]):=by
 obtain⟨h1,h2,h3⟩:=h;refine⟨h1,Q7 h2,fun w φ Fs R hR vs hm hl hv=>Calls.mono (h3 w φ Fs R hR vs hm hl hv) ?_⟩;rintro e w' ⟨v,φ',Fs',he,hm',hv'⟩;refine⟨v,_,_,he,hm'.row t,?_⟩
 cases hv' with
 | @agg _ us k1 k2 k3 =>
   refine .agg (by rw[hr.1];exact k1) k2 fun i y u hy hu=>?_;have hi:=(zz1.1 hy).1;have hx:=zz0 (l:=xs) (i:=i) (by rw[←hr.1];exact hi);have hk:=k3 i _ u hx hu;rcases hr.2 i _ y hx hy with rfl|⟨⟨q,hq⟩,rfl⟩
   · exact hk.mono (VN hm'.flen) Mp C9
   · rw[hq] at hk
     cases hk
     exact .ref (t:=t) (ow:=true) (es:=[]) (A:=none) (c:=0) (by simp) (by rw[zz5 (by rw[hm'.flen];exact Nat.le_refl _),hm'.flen,Nat.sub_self];rfl)
def pC (k n:Nat) (y y':Ag):Prop:=y'=y∨∃ t xs ys,y=.var t xs∧y'=.var t ys∧ys.length=xs.length∧∀ (i:Nat) (x z:V),xs[i]? = some x→ys[i]? = some z→z=x∨x=.ref k∧z=.ref n
theorem P9 {P:Program} {f:FuncId} {ag:List V} {r:V} {sl sl' sl'':List Ag} {k:Nat} {t:TypeId} {ow:Bool} {es:List (List D)} (h:BS P f ag sl r sl') (hk:sl'[k]? = some (.arr t ow es)) (hlen:sl''.length=sl'.length+1) (hd:sl''[k]? = some .dead)
 (hn:sl''[sl'.length]? = some (.arr t ow es)) (ho:∀ (s:Nat) (y:Ag),s≠k→sl'[s]? = some y→∃ y',sl''[s]? = some y'∧pC k sl'.length y y') (hlat:AZ sl sl''):BS P f ag sl r sl'':=by
 obtain⟨h1,h2,h3⟩:=h;refine⟨h1,hlat,fun w φ Fs R hR vs hm hl hv=>Calls.mono (h3 w φ Fs R hR vs hm hl hv) ?_⟩;rintro e w' ⟨v,φ',Fs',he,hm',hv'⟩;have hkl:=(zz1.1 hk).1;obtain⟨hh,F,e1,e2,e3⟩:=hm'.at_ hk;have hF:=hm'.flen;have hF2:=hm'.Flen
 have hlater:∀ (s:Nat) (x:Ag),sl'[s]? = some x→∃ x',sl''[s]? = some x'∧Later x x':=fun s x hx=>by
  by_cases hs:s=k
  · subst hs;rw[hk] at hx;obtain rfl:=ACW hx;exact⟨_,hd,trivial⟩
  · obtain⟨y',g1,g2⟩:=ho s x hs hx;refine⟨y',g1,?_⟩;rcases g2 with rfl|⟨t,xs,ys,rfl,rfl,-,-⟩
    · exact Later.refl _
    · trivial
 have htop:∀ b,top (φ'++[hh]) sl'' b→top φ' sl' b:=fun b hb=>by
  obtain⟨s,x,c,g1,g2,g3⟩:=hb;rcases Nat.lt_or_ge s sl'.length with hs|hs
  · rw[zz4 (by omega)] at g3;by_cases hsk:s=k
    · subst hsk;rw[hd] at g1;obtain rfl:=ACW g1;exact g2.elim
    · obtain⟨y',q1,q2⟩:=ho s _ hsk (zz0 hs);rw[g1] at q1;obtain rfl:=ACW q1;refine⟨s,_,c,zz0 hs,?_,g3⟩;rcases q2 with q|⟨t,xs,ys,q,-,-,-⟩
      · rw[←q];exact g2
      · rw[q];trivial
  · have hs2:=(zz1.1 g1).1;obtain rfl:s=sl'.length:=by omega
    rw[zz5 (by omega),hF,Nat.sub_self] at g3;simp at g3;rw[g3] at e1;exact⟨k,_,c,hk,trivial,e1⟩
 have hgood:∀ b,good R φ' sl' w' b→good R (φ'++[hh]) sl'' w' b∧∀ o,w'.cell? ⟨b,o,none⟩=w'.cell? ⟨b,o,none⟩:=fun b hb=>⟨⟨hb.1,fun ht=>hb.2.1 (htop b ht),hb.2.2⟩,fun _=>rfl⟩
 have hVR:∀ (x z:V) (u:Value),VR w' (good R φ' sl' w') φ' sl' x u→(z=x∨x=.ref k∧z=.ref sl'.length)→VR w' (good R (φ'++[hh]) sl'' w') (φ'++[hh]) sl'' z u:=fun x z u hx hz=>by
  rcases hz with rfl|⟨rfl,rfl⟩
  · exact hx.mono hgood hlater C9
  · have hnh:(φ'++[hh])[sl'.length]? = some hh:=by rw[←hF];simp
    cases hx with
    | ref hs hp =>
      rw[hk] at hs;obtain⟨rfl,rfl,rfl⟩:=Ag.arr.inj (ACW hs);rw[hp] at e1;obtain rfl:=ACW e1;exact .ref hn hnh
    | gone hs hv=>rw[hk] at hs;cases hs
    | blk hs hp=>rw[hk] at hs;cases hs
 refine⟨v,φ'++[hh],Fs'.set k []++[F],he,?_,hVR r r v hv' (.inl rfl)⟩
 have hperm:(Fs'.set k []++[F]).flatten.Perm Fs'.flatten:=by
  have hk2:k<Fs'.length:=by omega
  have d1:Fs'=Fs'.take k++F::Fs'.drop (k+1):=by
   have:=List.getElem_of_getElem? e2;obtain⟨_,q⟩:=this;rw[←q,←List.drop_eq_getElem_cons hk2,List.take_append_drop]
  have d2:Fs'.set k []=Fs'.take k++[]::Fs'.drop (k+1):=by rw[List.set_eq_take_append_cons_drop,if_pos hk2]
  rw[d2]
  conv=>rhs;rw[d1]
  simp only[ACK,List.flatten_cons,List.flatten_nil,List.nil_append,List.append_nil,ACY];exact List.Perm.append_left _ List.perm_append_comm
 refine⟨hm'.only,fun b hb=>hm'.tops b (htop b hb),by simp[hF,hlen],by simp[hF2,hlen],hperm.nodup_iff.2 hm'.nd,fun g hg=>hm'.ge g (hperm.mem_iff.1 hg),fun i hd' hi=>?_,fun s x hd' G g1 g2 g3=>?_⟩
 · obtain⟨q1,q2⟩:=hm'.pin i hd' hi;refine⟨C9 (sl:=sl') i hd' q1 q2,fun hu=>?_⟩;have hil:=(zz1.1 q1).1;by_cases hik:i=k
   · subst hik;rw[hd] at hu;cases hu
   · obtain⟨y',p1,p2⟩:=ho i _ hik (zz0 (by omega));rw[hu] at p1;obtain rfl:=ACW p1;rcases p2 with p|⟨_,_,_,_,p,_,_⟩
     · exact q2 (by rw[zz0 (by omega),←p])
     · cases p
 · rcases Nat.lt_or_ge s sl'.length with hs|hs
   · rw[zz4 (by omega)] at g2;rw[zz4 (by simp;omega)] at g3;by_cases hsk:s=k
     · subst hsk;rw[hd] at g1;obtain rfl:=ACW g1;rw[ACf (by omega)] at g3;exact (ACW g3).symm
     · rw[ACT (fun e=>hsk e.symm)] at g3;obtain⟨y',p1,p2⟩:=ho s _ hsk (zz0 hs);rw[g1] at p1;obtain rfl:=ACW p1;have hsr:=hm'.sr s _ hd' G (zz0 hs) g2 g3;rcases p2 with p|⟨t',xs,ys,p,rfl,p3,p4⟩
       · rw[p];exact hsr.mono (fun _ _=>rfl) hgood hlater C9
       · rw[p] at hsr;obtain⟨g,cur,a1,a2,a3,a4,a5⟩:=hsr;refine⟨g,cur,a1,a2,a3,by rw[p3];exact a4,fun i z u hz hu=>?_⟩;have hi:=(zz1.1 hz).1;have hx:=zz0 (l:=xs) (i:=i) (by rw[←p3];exact hi);obtain⟨b1,b2⟩:=a5 i _ u hx hu;exact⟨hVR _ z u b1 (p4 i _ z hx hz),b2⟩
   · have hs2:=(zz1.1 g1).1;obtain rfl:s=sl'.length:=by omega
     rw[hn] at g1;obtain rfl:=ACW g1;rw[zz5 (by omega),hF,Nat.sub_self] at g2;rw[zz5 (by simp;omega)] at g3;simp[hF2] at g2 g3;subst g2 g3;exact e3.mono (fun _ _=>rfl) hgood hlater C9
theorem PI (I fa:Int) (sq:List Dl) (an:List Ah) (lv:List Int) (a b:Int) (hI:0≤I∧I≤20) (hfa:1+I+(sq.length:Int)=fa) (hs:sq.length≤12) (hn:an.length≤300) (ha:0≤a∧a≤1048576) (hb:0≤b∧b≤1048576) (h:AV an a b=false) :
 BS Try.prog 79 [.ptr 0 0,.d (.int .i64 a),.d (.int .i64 b)] [.var 83 [.d (.int .i64 I),.ref 1,.ref 2,.nil 3,.ref 3],.arr 31 true (sq.map A7),.arr 60 true ((an).map Ao),.arr 3 true (lv.map (e1 Az))] (.d (.int .i64 (AG fa an a b))) [.var 83 [.d (.int .i64 I),.ref 1,.ref 2,.nil 3,.ref 3],.arr 31 true (sq.map A7),.arr 60 true ((an).map Ao),.arr 3 true (lv.map (e1 Az))]:=by
 have hV:AG fa an a b=if CM a b=true then Ey a b else if CQ an (E3 a b,Eo a b)<an.length then 2*(fa+CQ an (E3 a b,Eo a b)) else if an.length<300 then 2*(fa+an.length) else -1:=rfl;have hM:AV an a b=(!CM a b&&decide (¬ CQ an (E3 a b,Eo a b)<an.length)&&decide (an.length<300)):=rfl;generalize AG fa an a b=R at *;rw[h] at hM;have hx1:(if b<a then b else a)=E3 a b:=rfl;have hx2:(if a<b then b else a)=Eo a b:=rfl;have hT:CM a b=(decide (a=0)||decide (b=0)||decide (Bd a 1=b)||decide (a=1)||decide (a=b)||decide (b=1)):=rfl;have hTv:Ey a b=if a=0∨b=0∨Bd a 1=b then 0 else if a=1∨a=b then b else a:=rfl;generalize E3 a b=mn at *;generalize Eo a b=mx at *;refine Bl (by kernel_rfl) Try.func79 rfl rfl rfl (by simp[AZ,Later]) (by simp[Bi,Ag.live]) ?_;obtain⟨xa,hxa⟩:∃ xa,Bd a 1=xa:=⟨_,rfl⟩;rw[hxa] at hT hTv;by_cases h0:a=0
 · have q0:(a==0)=true:=by simpa using h0
   have hR:R=0:=by rw[hV,if_pos (by rw[hT];simp[h0,q0]),hTv];split<;>(try split)<;>omega
   subst hR;simp[eq_true h0,q0,hxa];exact⟨[0,1,2,3],by simp⟩
 have q0:(a==0)=false:=by simpa using h0
 by_cases h1:b=0
 · have q1:(b==0)=true:=by simpa using h1
   have hR:R=0:=by rw[hV,if_pos (by rw[hT];simp[h0,q0,h1,q1]),hTv];split<;>(try split)<;>omega
   subst hR;simp[h0,q0,eq_true h1,q1,hxa];exact⟨[0,1,2,3],by simp⟩
 have q1:(b==0)=false:=by simpa using h1
 by_cases h2:xa=b
 · have q2:(xa==b)=true:=by simpa using h2
   have hR:R=0:=by rw[hV,if_pos (by rw[hT];simp[h0,q0,h1,q1,h2,q2]),hTv];split<;>(try split)<;>omega
   subst hR;simp[h0,q0,h1,q1,eq_true h2,q2,hxa];exact⟨[0,1,2,3],by simp⟩
 have q2:(xa==b)=false:=by simpa using h2
 by_cases h3:a=1
 · have q3:(a==1)=true:=by simpa using h3
   have hR:R=b:=by rw[hV,if_pos (by rw[hT];simp[h0,q0,h1,q1,h2,q2,h3,q3]),hTv];split<;>(try split)<;>omega
   subst hR;simp[h0,q0,h1,q1,h2,q2,eq_true h3,q3,hxa];exact⟨[0,1,2,3],by simp⟩
 have q3:(a==1)=false:=by simpa using h3
 by_cases h4:a=b
 · have q4:(a==b)=true:=by simpa using h4
   have hR:R=b:=by rw[hV,if_pos (by rw[hT];simp[h0,q0,h1,q1,h2,q2,h3,q3,h4,q4]),hTv];split<;>(try split)<;>omega
   subst hR;simp[h0,q0,h1,q1,h2,q2,h3,q3,eq_true h4,q4,hxa];exact⟨[0,1,2,3],by simp⟩
 have q4:(a==b)=false:=by simpa using h4
 by_cases h5:b=1
 · have q5:(b==1)=true:=by simpa using h5
   have hR:R=a:=by rw[hV,if_pos (by rw[hT];simp[h0,q0,h1,q1,h2,q2,h3,q3,h4,q4,h5,q5]),hTv];split<;>(try split)<;>omega
   subst hR;simp[h0,q0,h1,q1,h2,q2,h3,q3,h4,q4,eq_true h5,q5,hxa];exact⟨[0,1,2,3],by simp⟩
 have q5:(b==1)=false:=by simpa using h5
 have hTf:CM a b=false:=by rw[hT];simp[h0,h1,h2,h3,h4,h5]
 rw[hTf] at hM hV;rw[if_neg (by simp)] at hV;simp only[Bool.not_false,Bool.true_and] at hM;simp[q0,q1,q2,q3,q4,q5,h0,h1,h2,h3,h4,h5,hxa,hx1,hx2];refine AY [true,false,false,false,false,false,false,true,false,false,false,false,false,false,false,false,false,false,false,false,false,false,false,false,false,false,false,false,false,false,false,false,false,false,false,false,false,false,false,false,false,false,false,false,false,false,true,true,true] (fun i:Nat=>i≤an.length∧∀ j:Nat,j<i→an[j]?≠some (mn,mx)) (fun i:Nat=>[(48,.d (.int .i64 i))]) (fun i:Nat=>[]) (fun i:Nat=>an.length - i) 0 ?_ ?_ ?_
 · exact⟨Nat.zero_le _,fun j h=>by omega⟩
 · exact⟨[0,1,2,3,4],by simp⟩
 rintro J S μ hJ hS hμ i ⟨hi,hpre⟩;by_cases hlt:i<an.length
 · have hy:an[i]? = some an[i]:=zz0 hlt;have w1:IntKind.i64.wrap ((i:Int)+1)=(i:Int)+1:=Af (by omega) (by omega);generalize an[i]=y at *;have hL:(Ao y).length=2:=rfl;by_cases he:(mn,mx)=y
   · have hf:CQ an (mn,mx)=i:=Nq (by rw[hy,he]) hpre;rw[hf,if_pos hlt] at hV;subst he;have w2:IntKind.i64.wrap (fa+(i:Int))=fa+i:=Af (by omega) (by omega);have w3:IntKind.i64.wrap (2*(fa+(i:Int)))=2*(fa+i):=Af (by omega) (by omega);simp[zz2 hlt,hy,hL,Ao];refine Ab (AW (I,sq,an,[]) hI (by simp<;>omega)) ?_;simp[AL,hfa,w2,w3,hV];exact⟨[0,1,2,3],by simp⟩
   · have he2:(mn==y.1&&mx==y.2)=false:=by
      cases hc:(mn==y.1&&mx==y.2) with
      | false=>rfl
      | true=>simp only[Bool.and_eq_true,beq_iff_eq] at hc;exact absurd (Prod.ext hc.1 hc.2) he
     simp[zz2 hlt,hy,hL,Ao,he2,w1]
     exact Ae hJ hS hμ (i+1) ⟨by omega,fun j hj=>by
      by_cases hji:j=i
      · subst hji;rw[hy];exact fun e=>he (ACW e).symm
      · exact hpre j (by omega)⟩ (by omega) ⟨[0,1,2,3,4],by simp⟩
 obtain rfl:i=an.length:=by omega
 have hf:¬ CQ an (mn,mx)<an.length:=by rw[Ih hpre];omega
 rw[if_neg hf] at hV
 have h6:¬ an.length<300:=by
  intro h6;rw[zz2 hf,zz2 h6] at hM;simp at hM
 rw[if_neg h6] at hV;simp[hlt,zz3 hlt,show (300:Int)≤an.length by omega,hV];exact⟨[0,1,2,3],by simp⟩
theorem QQ (I fa:Int) (sq:List Dl) (an:List Ah) (lv:List Int) (a b:Int) (hI:0≤I∧I≤20) (hfa:1+I+(sq.length:Int)=fa) (hs:sq.length≤12) (hn:an.length≤300) (ha:0≤a∧a≤1048576) (hb:0≤b∧b≤1048576) (h:AV an a b=true) :
 BS Try.prog 79 [.ptr 0 0,.d (.int .i64 a),.d (.int .i64 b)] [.var 83 [.d (.int .i64 I),.ref 1,.ref 2,.nil 3,.ref 3],.arr 31 true (sq.map A7),.arr 60 true ((an).map Ao),.arr 3 true (lv.map (e1 Az))] (.d (.int .i64 (AG fa an a b))) [.var 83 [.d (.int .i64 I),.ref 1,.ref 4,.nil 3,.ref 3],.arr 31 true (sq.map A7),.dead,.arr 3 true (lv.map (e1 Az)),.arr 60 true ((Ak an a b).map Ao)]:=by
 have hV:AG fa an a b=if CM a b=true then Ey a b else if CQ an (E3 a b,Eo a b)<an.length then 2*(fa+CQ an (E3 a b,Eo a b)) else if an.length<300 then 2*(fa+an.length) else -1:=rfl;have hM:AV an a b=(!CM a b&&decide (¬ CQ an (E3 a b,Eo a b)<an.length)&&decide (an.length<300)):=rfl;generalize AG fa an a b=R at *;rw[h] at hM;have hN:Ak an a b=an++[(E3 a b,Eo a b)]:=by unfold Ak;rw[if_pos h]
 rw[hN];have hx1:(if b<a then b else a)=E3 a b:=rfl;have hx2:(if a<b then b else a)=Eo a b:=rfl;have hT:CM a b=(decide (a=0)||decide (b=0)||decide (Bd a 1=b)||decide (a=1)||decide (a=b)||decide (b=1)):=rfl;have hTv:Ey a b=if a=0∨b=0∨Bd a 1=b then 0 else if a=1∨a=b then b else a:=rfl;generalize E3 a b=mn at *;generalize Eo a b=mx at *;refine Bl (by kernel_rfl) Try.func79 rfl rfl rfl (by simp[AZ,Later]) (by simp[Bi,Ag.live]) ?_;obtain⟨xa,hxa⟩:∃ xa,Bd a 1=xa:=⟨_,rfl⟩;rw[hxa] at hT hTv;by_cases h0:a=0
 · have q0:(a==0)=true:=by simpa using h0
   exfalso;rw[hT] at hM;simp[h0] at hM
 have q0:(a==0)=false:=by simpa using h0
 by_cases h1:b=0
 · have q1:(b==0)=true:=by simpa using h1
   exfalso;rw[hT] at hM;simp[h0,h1] at hM
 have q1:(b==0)=false:=by simpa using h1
 by_cases h2:xa=b
 · have q2:(xa==b)=true:=by simpa using h2
   exfalso;rw[hT] at hM;simp[h0,h1,h2] at hM
 have q2:(xa==b)=false:=by simpa using h2
 by_cases h3:a=1
 · have q3:(a==1)=true:=by simpa using h3
   exfalso;rw[hT] at hM;simp[h0,h1,h2,h3] at hM
 have q3:(a==1)=false:=by simpa using h3
 by_cases h4:a=b
 · have q4:(a==b)=true:=by simpa using h4
   exfalso;rw[hT] at hM;simp[h0,h1,h2,h3,h4] at hM
 have q4:(a==b)=false:=by simpa using h4
 by_cases h5:b=1
 · have q5:(b==1)=true:=by simpa using h5
   exfalso;rw[hT] at hM;simp[h0,h1,h2,h3,h4,h5] at hM
 have q5:(b==1)=false:=by simpa using h5
 have hTf:CM a b=false:=by rw[hT];simp[h0,h1,h2,h3,h4,h5]
 rw[hTf] at hM hV;rw[if_neg (by simp)] at hV;simp only[Bool.not_false,Bool.true_and] at hM;simp[q0,q1,q2,q3,q4,q5,h0,h1,h2,h3,h4,h5,hxa,hx1,hx2];refine AY [true,false,false,false,false,false,false,true,false,false,false,false,false,false,false,false,false,false,false,false,false,false,false,false,false,false,false,false,false,false,false,false,false,false,false,false,false,false,false,false,false,false,false,false,false,false,true,true,true] (fun i:Nat=>i≤an.length∧∀ j:Nat,j<i→an[j]?≠some (mn,mx)) (fun i:Nat=>[(48,.d (.int .i64 i))]) (fun i:Nat=>[]) (fun i:Nat=>an.length - i) 0 ?_ ?_ ?_
 · exact⟨Nat.zero_le _,fun j h=>by omega⟩
 · exact⟨[0,1,2,3,4],by simp⟩
 rintro J S μ hJ hS hμ i ⟨hi,hpre⟩;by_cases hlt:i<an.length
 · have hy:an[i]? = some an[i]:=zz0 hlt;have w1:IntKind.i64.wrap ((i:Int)+1)=(i:Int)+1:=Af (by omega) (by omega);generalize an[i]=y at *;have hL:(Ao y).length=2:=rfl;by_cases he:(mn,mx)=y
   · have hf:CQ an (mn,mx)=i:=Nq (by rw[hy,he]) hpre;exfalso;rw[hf] at hM;simp[hlt] at hM
   · have he2:(mn==y.1&&mx==y.2)=false:=by
      cases hc:(mn==y.1&&mx==y.2) with
      | false=>rfl
      | true=>simp only[Bool.and_eq_true,beq_iff_eq] at hc;exact absurd (Prod.ext hc.1 hc.2) he
     simp[zz2 hlt,hy,hL,Ao,he2,w1]
     exact Ae hJ hS hμ (i+1) ⟨by omega,fun j hj=>by
      by_cases hji:j=i
      · subst hji;rw[hy];exact fun e=>he (ACW e).symm
      · exact hpre j (by omega)⟩ (by omega) ⟨[0,1,2,3,4],by simp⟩
 obtain rfl:i=an.length:=by omega
 have hf:¬ CQ an (mn,mx)<an.length:=by rw[Ih hpre];omega
 rw[if_neg hf] at hV;have h6:an.length<300:=by simpa [hf] using hM
 rw[if_pos h6] at hV;simp[hlt,zz3 hlt,show ¬ (300:Int)≤an.length by omega];refine AS [(7,[0]),(8,[]),(9,[]),(10,[])] (by kernel_rfl) ?_;simp;refine Aw HI rfl (by simp) rfl (by simp) (by simp) (by first | (simp;done)|(simp;omega)) (by simp[Bp,A4]) ?_;simp;have hnc:=BL (I,sq,an++[(mn,mx)],[]) hI (by simp;omega) (by simp;omega);have hcnt:1+I+(sq.length:Int)+((an++[(mn,mx)]).length:Int)=fa+an.length+1:=by simp;omega
 simp only at hnc;rw[hcnt] at hnc;simp only[N7,AL,e4,B3,ACX,List.map_cons,List.map_nil,List.nil_append,Ao,e2,Az] at hnc;have w4:IntKind.i64.wrap (fa+(an.length:Int)+1 - 1)=fa+an.length:=by rw[Af (by first | omega|(simp;omega)) (by first | omega|(simp;omega))];omega
 have w5:IntKind.i64.wrap (2*(fa+(an.length:Int)))=2*(fa+an.length):=Af (by first | omega|(simp;omega)) (by first | omega|(simp;omega));have w6:IntKind.i64.wrap (fa+(an.length:Int))=fa+an.length:=Af (by first | omega|(simp;omega)) (by first | omega|(simp;omega));generalize fa+(an.length:Int)=q at *;refine Ab (hnc) ?_;simp[w4,w5,w6];exact⟨[0,1,2,3,6],by simp[hV,Ao,e2,Az]⟩
end Go.Proofs.Ytnjedabjbeipeaa
