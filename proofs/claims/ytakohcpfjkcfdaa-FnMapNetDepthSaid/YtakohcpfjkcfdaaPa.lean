/-
  Nets as the draws make them. Plain lemmas.
  Conditions: those typed in each theorem.
-/
import Derived.Test.YtakohcpfjkcfdaaDa
import Derived.Test.YtakohcpfjkcfdaaNk
import Derived.Test.YtakohcpfjkcfdaaRd
import Derived.Test.YtakohcpfjkcfdaaNq
namespace Go.Proofs.Ytakohcpfjkcfdaa
open Go.RowKit Go.ChangeShapes Go.WideShapes
set_option linter.unusedVariables false
set_option linter.unusedSimpArgs false
theorem andsFit_of {f:Int}:∀ {xs:List AndD} {k:Nat},(∀ (j:Nat) (a:AndD),xs[j]? = some a→(0≤a.1∧a.1<2*(f+(k+j:Nat)))∧0≤a.2∧a.2<2*(f+(k+j:Nat)))→andsFit f k xs=true
 | [],_,_=>rfl
 | a::xs,k,h=>by
   have h0:=h 0 a rfl
   unfold andsFit
   rw[Bool.and_eq_true]
   refine⟨?_,andsFit_of fun j b hb=>?_⟩
   · unfold andFits
     rw[Bool.and_eq_true]
     exact⟨rng_iff.2 (by omega),rng_iff.2 (by omega)⟩
   · have:=h (j+1) b (by simpa using hb)
     omega
theorem netOk_mk {x:GrD} (h1:0≤x.1∧x.1≤20) (h2:x.2.1.length≤12) (h3:x.2.2.1.length≤300) (h4:x.2.2.2.length≤16) (hs:∀ s∈x.2.1,seqOkB s=true) (ho:∀ y∈x.2.2.2,0≤y∧y<2*(grN x:Int)) (hi:∀ s∈x.2.1,∀ y∈s.2.2,0≤y∧y<2*(grN x:Int))
 (ha:andsFit (firstG x) 0 x.2.2.1=true):netOkB x=true:=by
 have hn:nodesG x=1+x.1+x.2.1.length+x.2.2.1.length:=by
  unfold nodesG
  rw[if_pos ⟨rng_iff.2 h1,h2,h3,h4⟩]
 have hN:(grN x:Int)=1+x.1+x.2.1.length+x.2.2.1.length:=by unfold grN;omega
 have hF:(firstG x:Int)=1+x.1+x.2.1.length:=by unfold firstG;omega
 unfold netOkB
 rw[hn]
 simp only[Bool.and_eq_true,decide_eq_true_eq]
 refine⟨⟨⟨by omega,List.all_eq_true.2 hs⟩,List.all_eq_true.2 fun y hy=>rng_iff.2 ?_⟩,by rw[←hF];exact ha⟩
 · rcases List.mem_append.1 hy with hy|hy
   · have:=ho y hy;omega
   · obtain⟨l,hl,hy⟩:=List.mem_flatten.1 hy
     obtain⟨s,hs',rfl⟩:=List.mem_map.1 hl
     have:=hi s hs' y hy;omega
def mnP (a b:Int):Int:=if b<a then b else a
def stA (k:Int) (p:Cur×List AndD):Cur×List AndD:=(belowC (belowC p.1 (mnP (k - 1) 14)) k,p.2++[(k - 1 - belowV p.1 (mnP (k - 1) 14),belowV (belowC p.1 (mnP (k - 1) 14)) k)])
def drA (F:Nat) (c:Cur):Nat→Cur×List AndD
 | 0=>(c,[])
 | i+1=>stA (2*((F:Int)+i)) (drA F c i)
def ramS (top:Int) (c:Cur):Cur×SeqD :=
 (belowC (belowC (belowC (belowC (belowC c 32) top) top) top) top,(1,belowV c 32,[belowV (belowC c 32) top,belowV (belowC (belowC c 32) top) top,belowV (belowC (belowC (belowC c 32) top) top) top,belowV (belowC (belowC (belowC (belowC c 32) top) top) top) top]))
def flpS (top:Int) (c:Cur):Cur×SeqD:=(belowC (belowC c 2) (mnP top 12),(0,belowV c 2,[top - 1 - belowV (belowC c 2) (mnP top 12)]))
def oneS (top:Int) (c:Cur):Cur×SeqD:=if onceV c 6=true then ramS top (belowC c 6) else flpS top (belowC c 6)
def drS (top:Int) (c:Cur):Nat→Cur×List SeqD
 | 0=>(c,[])
 | i+1=>((oneS top (drS top c i).1).1,(drS top c i).2++[(oneS top (drS top c i).1).2])
def drO (top:Int) (c:Cur):Nat→Cur×List Int
 | 0=>(c,[])
 | i+1=>(belowC (drO top c i).1 (mnP top 12),(drO top c i).2++[top - 1 - belowV (drO top c i).1 (mnP top 12)])
theorem drA_len {F:Nat} {c:Cur}:∀ i,(drA F c i).2.length=i
 | 0=>rfl
 | i+1=>by simp[drA,stA,drA_len i]
theorem drA_ok {F:Nat} {c:Cur} (h:c.ok):∀ i,(drA F c i).1.ok
 | 0=>h
 | i+1=>belowC_ok (belowC_ok (drA_ok h i))
theorem mnP_pos {a b:Int} (ha:0<a) (hb:0<b):0<mnP a b∧mnP a b≤a∧mnP a b≤b:=by unfold mnP;split<;>omega
theorem drA_at {F:Nat} {c:Cur} (hF:1≤F):∀ (i k:Nat) (a:AndD),(drA F c i).2[k]? = some a→(0≤a.1∧a.1<2*((F:Int)+k))∧0≤a.2∧a.2<2*((F:Int)+k)
 | 0,_,_,h=>by simp[drA] at h
 | i+1,k,a,h=>by
   have hl:=drA_len (F:=F) (c:=c) i
   simp only[drA,stA] at h
   by_cases hk:k<i
   · rw[List.getElem?_append_left (by omega)] at h
     exact drA_at hF i k a h
   · have hk':k=i:=by
      have:=(List.getElem?_eq_some_iff.1 h).1
      simp at this;omega
     subst hk'
     rw[List.getElem?_append_right (by omega),hl,Nat.sub_self] at h
     simp only[List.getElem?_cons_zero,Option.some.injEq] at h
     subst h
     have m:=mnP_pos (a:=2*((F:Int)+k) - 1) (b:=14) (by omega) (by omega)
     have b1:=belowV_rng (drA F c k).1 m.1
     have b2:=belowV_rng (belowC (drA F c k).1 (mnP (2*((F:Int)+k) - 1) 14)) (n:=2*((F:Int)+k)) (by omega)
     simp only
     omega
theorem oneS_ok {top:Int} {c:Cur} (h:c.ok):(oneS top c).1.ok:=by
 unfold oneS
 split
 · exact belowC_ok (belowC_ok (belowC_ok (belowC_ok (belowC_ok (belowC_ok h)))))
 · exact belowC_ok (belowC_ok (belowC_ok h))
theorem oneS_good {top:Int} {c:Cur} (ht:0<top):seqOkB (oneS top c).2=true∧∀ y∈(oneS top c).2.2.2,0≤y∧y<top:=by
 unfold oneS
 split
 · have b0:=belowV_rng (belowC c 6) (n:=32) (by omega)
   have b1:=belowV_rng (belowC (belowC c 6) 32) ht
   have b2:=belowV_rng (belowC (belowC (belowC c 6) 32) top) ht
   have b3:=belowV_rng (belowC (belowC (belowC (belowC c 6) 32) top) top) ht
   have b4:=belowV_rng (belowC (belowC (belowC (belowC (belowC c 6) 32) top) top) top) ht
   refine⟨?_,fun y hy=>?_⟩
   · have hr:rng (belowV (belowC c 6) 32) 0 31=true:=rng_iff.2 (by omega)
     simp[seqOkB,ramS,hr]
   · simp only[ramS,List.mem_cons,List.not_mem_nil,or_false] at hy
     rcases hy with rfl|rfl|rfl|rfl<;>assumption
 · have m:=mnP_pos ht (b:=12) (by omega)
   have b0:=belowV_rng (belowC c 6) (n:=2) (by omega)
   have b1:=belowV_rng (belowC (belowC c 6) 2) m.1
   refine⟨?_,fun y hy=>?_⟩
   · have hr:rng (belowV (belowC c 6) 2) 0 1=true:=rng_iff.2 (by omega)
     simp[seqOkB,flpS,hr]
   · simp only[flpS,List.mem_cons,List.not_mem_nil,or_false] at hy
     subst hy
     omega
theorem drS_len {top:Int} {c:Cur}:∀ i,(drS top c i).2.length=i
 | 0=>rfl
 | i+1=>by simp[drS,drS_len i]
theorem drS_ok {top:Int} {c:Cur} (h:c.ok):∀ i,(drS top c i).1.ok
 | 0=>h
 | i+1=>oneS_ok (drS_ok h i)
theorem drS_good {top:Int} {c:Cur} (ht:0<top):∀ i,∀ s∈(drS top c i).2,seqOkB s=true∧∀ y∈s.2.2,0≤y∧y<top
 | 0,s,h=>by simp[drS] at h
 | i+1,s,h=>by
   rcases List.mem_append.1 h with h|h
   · exact drS_good ht i s h
   · rw[List.mem_singleton.1 h];exact oneS_good ht
theorem drO_len {top:Int} {c:Cur}:∀ i,(drO top c i).2.length=i
 | 0=>rfl
 | i+1=>by simp[drO,drO_len i]
theorem drO_ok {top:Int} {c:Cur} (h:c.ok):∀ i,(drO top c i).1.ok
 | 0=>h
 | i+1=>belowC_ok (drO_ok h i)
theorem drO_good {top:Int} {c:Cur} (ht:0<top):∀ i,∀ y∈(drO top c i).2,0≤y∧y<top
 | 0,s,h=>by simp[drO] at h
 | i+1,s,h=>by
   rcases List.mem_append.1 h with h|h
   · exact drO_good ht i s h
   · rw[List.mem_singleton.1 h]
     have m:=mnP_pos ht (b:=12) (by omega)
     have b1:=belowV_rng (drO top c i).1 m.1
     omega
def szIn (c:Cur):Int:=1+belowV c 6
def szC1 (c:Cur):Cur:=belowC (belowC (belowC c 6) 3) 31
def szSq (c:Cur):Nat:=(belowV (belowC c 6) 3).toNat
def szAn (c:Cur):Nat:=(belowV (belowC (belowC c 6) 3) 31).toNat
def szF (c:Cur):Nat:=1+(szIn c).toNat+szSq c
def szTop (c:Cur):Int:=2*((szF c:Int)+szAn c)
def szPA (c:Cur):Cur×List AndD:=drA (szF c) (szC1 c) (szAn c)
def szPS (c:Cur):Cur×List SeqD:=drS (szTop c) (szPA c).1 (szSq c)
def szPO (c:Cur):Cur×List Int:=drO (szTop c) (belowC (szPS c).1 4) ((belowV (szPS c).1 4).toNat+1)
def sizedG (c:Cur):GrD:=(szIn c,(szPS c).2,(szPA c).2,(szPO c).2)
def sizedC (c:Cur):Cur:=(szPO c).1
theorem sized_nums (c:Cur):(1≤szIn c∧szIn c≤6)∧szSq c≤2∧szAn c≤30:=by
 have b1:=belowV_rng c (n:=6) (by omega)
 have b2:=belowV_rng (belowC c 6) (n:=3) (by omega)
 have b3:=belowV_rng (belowC (belowC c 6) 3) (n:=31) (by omega)
 unfold szIn szSq szAn
 omega
theorem sizedC_ok {c:Cur} (h:c.ok):(sizedC c).ok:=drO_ok (belowC_ok (drS_ok (drA_ok (belowC_ok (belowC_ok (belowC_ok h))) _) _)) _
theorem sizedG_ok {c:Cur}:netOkB (sizedG c)=true:=by
 obtain⟨h1,h2,h3⟩:=sized_nums c
 have hF:szF c=1+(szIn c).toNat+szSq c:=rfl
 have ht:szTop c=2*((szF c:Int)+szAn c):=rfl
 have lS:(szPS c).2.length=szSq c:=drS_len _
 have lA:(szPA c).2.length=szAn c:=drA_len _
 have lO:(szPO c).2.length=(belowV (szPS c).1 4).toNat+1:=drO_len _
 have b4:=belowV_rng (szPS c).1 (n:=4) (by omega)
 have hN:grN (sizedG c)=szF c+szAn c:=by
  show 1+(szIn c).toNat+(szPS c).2.length+(szPA c).2.length=_
  omega
 have hG:firstG (sizedG c)=szF c:=by
  show 1+(szIn c).toNat+(szPS c).2.length=_
  omega
 have hS:=drS_good (top:=szTop c) (c:=(szPA c).1) (by omega) (szSq c)
 have hO:=drO_good (top:=szTop c) (c:=belowC (szPS c).1 4) (by omega) ((belowV (szPS c).1 4).toNat+1)
 refine netOk_mk (by show 0≤szIn c∧szIn c≤20;omega) (by show (szPS c).2.length≤12;omega) (by show (szPA c).2.length≤300;omega) (by show (szPO c).2.length≤16;omega) (fun s hs=>(hS s hs).1) (fun y hy=>?_) (fun s hs y hy=>?_) (andsFit_of fun k a ha=>?_)
 · have:=hO y hy;rw[hN];omega
 · have:=(hS s hs).2 y hy;rw[hN];omega
 · rw[hG,Nat.zero_add]
   exact drA_at (F:=szF c) (c:=szC1 c) (by omega) (szAn c) k a ha
end Go.Proofs.Ytakohcpfjkcfdaa
namespace Go.Proofs.Ytakohcpfjkcfdaa
open Go.RowKit Go.ChangeShapes Go.WideShapes
set_option linter.unusedVariables false
set_option linter.unusedSimpArgs false
def hsR (x:GrD):List Int×List AndD×Bool:=impR x (firstG x) (-1) 0 (leafL (firstG x)) [] x.2.2.1.length
def hsP (x:GrD):GrD:=(x.1,x.2.1.map (mapSeq (hsR x).1),(hsR x).2.1,x.2.2.2.map (plMapV (hsR x).1))
theorem addV_small {fa:Int} {an:List AndD} {a b:Int} (hf:0≤fa) (ha:0≤a) (hb:0≤b) (h:an.length<300):0≤addV fa an a b:=by
 unfold addV
 split
 · exact (trivV_rng (n:=a+b+1) (by omega) (by omega)).1
 · split
   · omega
   · first | omega|(rw[if_pos h];omega)
theorem hs_imp {x:GrD} (hok:netOkB x=true):∀ i,i≤x.2.2.1.length→ImpOk (firstG x) (firstG x+i) (impR x (firstG x) (-1) 0 (leafL (firstG x)) [] i):=fun i hi=>by
 obtain⟨⟨n1,n2,n3,n4,n5,n6⟩,-,-,-⟩:=netOk_of hok
 obtain⟨hF,hgl,hNi,hno⟩:=ok_sizes hok
 refine (impR_ok hok (by omega) (by omega) ?_ i hi).1
 exact⟨fun _=>leafL_len,by simp[leafL_len],leafL_in (by simp),by simp,rfl⟩
theorem hs_go {x:GrD} (hok:netOkB x=true) (h3:x.2.2.1.length<300):∀ i,i≤x.2.2.1.length→(impR x (firstG x) (-1) 0 (leafL (firstG x)) [] i).2.2=true∧(impR x (firstG x) (-1) 0 (leafL (firstG x)) [] i).2.1.length≤i
 | 0,_=>⟨rfl,Nat.le_refl _⟩
 | i+1,hi=>by
   obtain⟨h1,h2⟩:=hs_go hok h3 i (by omega)
   have I:=hs_imp hok i (by omega)
   obtain⟨⟨n1,n2,n3,n4,n5,n6⟩,-,-,-⟩:=netOk_of hok
   have hN:=grN_eq x
   obtain⟨-,a1,a2,a3,a4,a5,a6⟩:=and_at hok (v:=firstG x+i) (by omega) (by omega)
   unfold impR
   generalize impR x (firstG x) (-1) 0 (leafL (firstG x)) [] i=s at *
   obtain⟨to,an,b⟩:=s
   simp only at h1 h2 I ⊢
   have hpl:=I.pl
   have han:=I.an
   simp only at hpl han
   have hF1:1≤firstG x:=by unfold firstG;omega
   have hA:=mapV_rng (l:=(andAt x (firstG x+i)).1) (plIn_at hpl (by omega) _) (by unfold firstG;omega)
   have hB:=mapV_rng (l:=(andAt x (firstG x+i)).2) (plIn_at hpl (by omega) _) (by unfold firstG;omega)
   have hv:=addV_small (fa:=firstG x) (an:=an) (by omega) hA.1 hB.1 (by omega)
   have hl:=addN_len (an:=an) (a:=plMapV to (andAt x (firstG x+i)).1) (b:=plMapV to (andAt x (firstG x+i)).2)
   rw[if_neg (by rw[h1];simp),if_neg (by omega),if_neg (by omega)]
   exact⟨rfl,by simp only;omega⟩
theorem mapSeq_ok {pl:List Int} {s:SeqD} (h:seqOkB s=true):seqOkB (mapSeq pl s)=true:=by
 unfold seqOkB mapSeq at *
 simpa using h
theorem place_ok {x:GrD} (hok:netOkB x=true) {to:List Int} {an:List AndD} (h3:an.length≤300) (hp:plIn (firstG x+an.length) to) (ha:andsFit (firstG x) 0 an=true):netOkB ((x.1,x.2.1.map (mapSeq to),an,x.2.2.2.map (plMapV to)):GrD)=true:=by
 obtain⟨⟨n1,n2,n3,n4,n5,n6⟩,o1,o2,o3⟩:=netOk_of hok
 have hF1:1≤firstG x∧firstG x≤33:=by unfold firstG;omega
 have hm:∀ l,0≤plMapV to l∧plMapV to l<2*((firstG x:Int)+an.length):=fun l=>mapV_rng (plIn_at hp (by omega) _) (by omega)
 have hG:firstG ((x.1,x.2.1.map (mapSeq to),an,x.2.2.2.map (plMapV to)):GrD)=firstG x:=by unfold firstG;simp
 have hN:(grN ((x.1,x.2.1.map (mapSeq to),an,x.2.2.2.map (plMapV to)):GrD):Int)=(firstG x:Int)+an.length:=by
  rw[grN_eq,hG];simp
 refine netOk_mk ⟨n1,n2⟩ (by simpa using n3) h3 (by simpa using n5) (fun s hs=>?_) (fun y hy=>?_) (fun s hs y hy=>?_) (by rw[hG];exact ha)
 · obtain⟨s0,hs0,rfl⟩:=List.mem_map.1 hs
   exact mapSeq_ok (o1 s0 hs0)
 · obtain⟨y0,-,rfl⟩:=List.mem_map.1 hy
   rw[hN];exact hm y0
 · obtain⟨s0,hs0,rfl⟩:=List.mem_map.1 hs
   obtain⟨y0,-,rfl⟩:=List.mem_map.1 (show y∈s0.2.2.map (plMapV to) from hy)
   rw[hN];exact hm y0
theorem hsP_ok {x:GrD} (hok:netOkB x=true):netOkB (hsP x)=true:=by
 have I:=hs_imp hok _ (Nat.le_refl _)
 exact place_ok hok I.an I.pl I.ok
def swR (y:GrD) (keep:List Bool):Nat→List AndD×List Int
 | 0=>([],leafL (firstG y))
 | i+1=>if getB keep (firstG y+i)=true then ((swR y keep i).1++[(plMapV (swR y keep i).2 (andAt y (firstG y+i)).1,plMapV (swR y keep i).2 (andAt y (firstG y+i)).2)],(swR y keep i).2++[2*((firstG y:Int)+(swR y keep i).1.length)])
   else ((swR y keep i).1,(swR y keep i).2++[0])
def swpG (y:GrD) (keep:List Bool):GrD:=(y.1,y.2.1.map (mapSeq (swR y keep y.2.2.1.length).2),(swR y keep y.2.2.1.length).1,y.2.2.2.map (plMapV (swR y keep y.2.2.1.length).2))
theorem andsFit_push {f:Int} {an:List AndD} {a:AndD} (h:andsFit f 0 an=true) (ha:andFits (f+an.length) a=true):andsFit f 0 (an++[a])=true:=by
 have:=andsFit_snoc (f:=f) (xs:=an++[a]) (k:=an.length) (x:=a) (by simp)
 rw[List.take_of_length_le (by simp),List.take_left' rfl,h,Bool.true_and] at this
 rw[this,ha]
theorem swR_ok {y:GrD} {keep:List Bool} (hok:netOkB y=true):∀ i,i≤y.2.2.1.length→(swR y keep i).1.length≤i∧(swR y keep i).2.length=firstG y+i∧plIn (firstG y+(swR y keep i).1.length) (swR y keep i).2∧andsFit (firstG y) 0 (swR y keep i).1=true
 | 0,_=>⟨Nat.le_refl _,leafL_len,leafL_in (by simp[swR]),rfl⟩
 | i+1,hi=>by
   obtain⟨h1,h2,h3,h4⟩:=swR_ok (keep:=keep) hok i (by omega)
   obtain⟨⟨n1,n2,n3,n4,n5,n6⟩,-,-,-⟩:=netOk_of hok
   have hF1:1≤firstG y∧firstG y≤33:=by unfold firstG;omega
   unfold swR
   generalize swR y keep i=s at *
   obtain⟨an,to⟩:=s
   simp only at h1 h2 h3 h4 ⊢
   have hm:∀ l,0≤plMapV to l∧plMapV to l<2*((firstG y:Int)+an.length):=fun l=>mapV_rng (plIn_at h3 (by omega) _) (by omega)
   split
   · refine⟨by simp;omega,by simp;omega,?_,andsFit_push h4 ?_⟩
     · intro v hv
       simp only[List.length_append,List.length_cons,List.length_nil] at hv ⊢
       rcases List.mem_append.1 hv with hv|hv
       · have:=h3 v hv;omega
       · simp only[List.mem_singleton] at hv;omega
     · unfold andFits
       have ma:=hm (andAt y (firstG y+i)).1
       have mb:=hm (andAt y (firstG y+i)).2
       rw[Bool.and_eq_true]
       exact⟨rng_iff.2 (by omega),rng_iff.2 (by omega)⟩
   · refine⟨by show an.length≤_;omega,by simp;omega,?_,h4⟩
     intro v hv
     rcases List.mem_append.1 hv with hv|hv
     · exact h3 v hv
     · simp only[List.mem_singleton] at hv;omega
theorem swpG_ok {y:GrD} {keep:List Bool} (hok:netOkB y=true):netOkB (swpG y keep)=true:=by
 obtain⟨h1,h2,h3,h4⟩:=swR_ok (keep:=keep) hok _ (Nat.le_refl _)
 obtain⟨⟨n1,n2,n3,n4,n5,n6⟩,-,-,-⟩:=netOk_of hok
 exact place_ok hok (by omega) h3 h4
def reachM (y:GrD):List Bool:=sweepG y (rtM (List.replicate (grN y) false) (grRoots y) (grRoots y).length)
def sweptG (y:GrD):GrD:=swpG y (reachM y)
def hashG (x:GrD):GrD:=sweptG (hsP x)
theorem hashG_ok {x:GrD} (hok:netOkB x=true):netOkB (hashG x)=true:=swpG_ok (hsP_ok hok)
end Go.Proofs.Ytakohcpfjkcfdaa
