/-
  Forward retiming as plain data: an AND node of two flip-flops becomes a flip-flop; the links to the result. Plain lemmas, about no function of the program.
  Conditions: those typed in each theorem.
-/
import Derived.Test.YtnjedabjbeipeaaRa
import Derived.Test.YtnjedabjbeipeaaRc
import Derived.Test.YtnjedabjbeipeaaNk
namespace Go.Proofs.Ytnjedabjbeipeaa
set_option linter.unusedVariables false
set_option linter.unusedSimpArgs false
def flopL (x:GrD) (l:Int):Int:=if 0≤l / 2 - 1 - x.1∧l / 2 - 1 - x.1<x.2.1.length∧(seqAt x (l / 2 - 1 - x.1).toNat).1=0 then l / 2 - 1 - x.1 else -1
theorem flopL_rng {x:GrD} {l:Int}:-1≤flopL x l∧flopL x l<x.2.1.length∧(0≤flopL x l→(seqAt x (flopL x l).toNat).1=0):=by
 unfold flopL
 split
 · rename_i h;exact⟨by omega,h.2.1,fun _=>h.2.2⟩
 · exact⟨by omega,by omega,fun h=>by omega⟩
def andK (x:GrD) (k:Int):AndD:=(x.2.2.1[k.toNat]?).getD (0,0)
def frontB (x:GrD) (k:Int):Bool:=netOkB x&&(decide (0≤k∧k<x.2.2.1.length)&&(decide (0≤flopL x (andK x k).1)&&(decide (0≤flopL x (andK x k).2)&&decide (x.2.1.length<12))))
def initV (x:GrD) (l:Int):Int:=xor64 (seqAt x (flopL x l).toNat).2.1 (l % 2)
def fwdInit (x:GrD) (k:Int):Int:=and64 (initV x (andK x k).1) (initV x (andK x k).2)
def fwdImp (x:GrD) (k:Int):List Int×List AndD×Bool:=impR x (firstG x+1:Nat) k (2*(firstG x:Int)) (leafL (firstG x)) [] x.2.2.1.length
def fwdLit (x:GrD) (k l:Int):Int:=xor64 (plMapV (fwdImp x k).1 (((seqAt x (flopL x l).toNat).2.2[0]?).getD 0)) (l % 2)
def fwdV (x:GrD) (k:Int):Int:=addV (firstG x+1:Nat) (fwdImp x k).2.1 (fwdLit x k (andK x k).1) (fwdLit x k (andK x k).2)
def fwdOkB (x:GrD) (k:Int):Bool:=frontB x k&&((fwdImp x k).2.2&&decide (0≤fwdV x k))
def mapSeq (pl:List Int) (s:SeqD):SeqD:=(s.1,s.2.1,s.2.2.map (plMapV pl))
def fwdG (x:GrD) (k:Int):GrD:=(x.1,x.2.1.map (mapSeq (fwdImp x k).1)++[(0,fwdInit x k,[fwdV x k])],addN (fwdImp x k).2.1 (fwdLit x k (andK x k).1) (fwdLit x k (andK x k).2),x.2.2.2.map (plMapV (fwdImp x k).1))
def zeroSeq (s:SeqD):SeqD:=(s.1,s.2.1,s.2.2.map fun _=>0)
def fwdM (x:GrD) (k:Int):GrD:=(x.1,x.2.1.map zeroSeq++[(0,fwdInit x k,[0])],[],[])
def fwdMask (a:AndD):Int:=2 ^ (3 - (a.1 % 2).toNat - 2*(a.2 % 2).toNat)
def lkOf (x:GrD) (k i:Int):LinkD:=if i<x.2.1.length then ([i],2) else ([flopL x (andK x k).1,flopL x (andK x k).2],fwdMask (andK x k))
noncomputable def fwdLk (x:GrD) (k:Int):List LinkD:=if fwdOkB x k=true then (keptG (fwdG x k)).map (lkOf x k) else []
theorem frontB_of {x:GrD} {k:Int} (h:frontB x k=true):netOkB x=true∧(0≤k∧k<x.2.2.1.length)∧0≤flopL x (andK x k).1∧0≤flopL x (andK x k).2∧x.2.1.length<12:=by
 unfold frontB at h
 simp only[Bool.and_eq_true,decide_eq_true_eq] at h
 exact⟨h.1,h.2.1,h.2.2.1,h.2.2.2.1,h.2.2.2.2⟩
theorem andK_at {x:GrD} {k:Int} (h:0≤k∧k<x.2.2.1.length):x.2.2.1[k.toNat]? = some (andK x k)∧andK x k=andAt x (firstG x+k.toNat):=by
 unfold andK andAt
 rw[Nat.add_sub_cancel_left,List.getElem?_eq_getElem (by omega)]
 exact⟨rfl,rfl⟩
theorem andK_rng {x:GrD} (hok:netOkB x=true) {k:Int} (h:0≤k∧k<x.2.2.1.length):(0≤(andK x k).1∧(andK x k).1≤1000)∧0≤(andK x k).2∧(andK x k).2≤1000:=by
 obtain⟨hF,hgl,hNi,hno⟩:=ok_sizes hok
 have hN:=grN_eq x
 have e:=(andK_at h).2
 obtain⟨-,a1,a2,a3,a4,a5,a6⟩:=and_at hok (v:=firstG x+k.toNat) (by omega) (by omega)
 rw[e]
 have h1:kidA x (firstG x+k.toNat)=(andAt x (firstG x+k.toNat)).1.toNat / 2:=rfl
 have h2:kidB x (firstG x+k.toNat)=(andAt x (firstG x+k.toNat)).2.toNat / 2:=rfl
 omega
theorem flop_in {x:GrD} (hok:netOkB x=true) {l:Int} (h:0≤flopL x l):∃ q,(seqAt x (flopL x l).toNat).2.2=[q]∧0≤q∧q<2*(grN x:Int)∧(0≤(seqAt x (flopL x l).toNat).2.1∧(seqAt x (flopL x l).toNat).2.1≤1):=by
 obtain⟨-,r2,r3⟩:=flopL_rng (x:=x) (l:=l)
 obtain⟨-,o1,o2,-⟩:=netOk_of hok
 have hlt:(flopL x l).toNat<x.2.1.length:=by omega
 obtain⟨e1,e2⟩:=seqAt_mem hlt
 have h1:=o1 _ e2
 have h0:=r3 h
 have hroot:∀ q∈(seqAt x (flopL x l).toNat).2.2,q∈grRoots x:=fun q hq=>seq_root hlt hq
 generalize seqAt x (flopL x l).toNat=s at *
 unfold seqOkB at h1
 rw[if_pos h0] at h1
 simp only[Bool.and_eq_true,decide_eq_true_eq] at h1
 obtain⟨q,hq⟩:=List.length_eq_one_iff.1 h1.2
 have:=o2 q (hroot q (by rw[hq];simp))
 exact⟨q,hq,by omega,by omega,rng_iff.1 h1.1⟩
theorem initV_bit {x:GrD} (hok:netOkB x=true) {l:Int} (h:0≤flopL x l):0≤initV x l∧initV x l≤1:=by
 obtain⟨q,-,-,-,b1,b2⟩:=flop_in hok h
 unfold initV
 have hl:l % 2=0∨l % 2=1:=by omega
 have hs:(seqAt x (flopL x l).toNat).2.1=0∨(seqAt x (flopL x l).toNat).2.1=1:=by omega
 rcases hl with h1|h1<;>rcases hs with h2|h2<;>rw[h1,h2]<;>decide
theorem fwdInit_bit {x:GrD} {k:Int} (h:frontB x k=true):0≤fwdInit x k∧fwdInit x k≤1:=by
 obtain⟨hok,-,fa,fb,-⟩:=frontB_of h
 have ha:=initV_bit hok fa
 have hb:=initV_bit hok fb
 unfold fwdInit
 generalize initV x (andK x k).1=a at *
 generalize initV x (andK x k).2=b at *
 have ha':a=0∨a=1:=by omega
 have hb':b=0∨b=1:=by omega
 rcases ha' with rfl|rfl<;>rcases hb' with rfl|rfl<;>decide
theorem fwdImp_ok {x:GrD} {k:Int} (h:frontB x k=true) (i:Nat) (hi:i≤x.2.2.1.length):ImpOk (firstG x+1:Nat) (firstG x+i) (impR x (firstG x+1:Nat) k (2*(firstG x:Int)) (leafL (firstG x)) [] i):=by
 obtain⟨hok,-,-,-,h12⟩:=frontB_of h
 obtain⟨⟨n1,n2,n3,n4,n5,n6⟩,-,-,-⟩:=netOk_of hok
 obtain⟨hF,hgl,hNi,hno⟩:=ok_sizes hok
 refine (impR_ok hok (fa:=(firstG x+1:Nat)) (by omega) (by omega) ?_ i hi).1
 exact⟨fun _=>leafL_len,by simp[leafL_len],leafL_in (by simp;omega),by simp,rfl⟩
theorem fwdLit_rng {x:GrD} {k:Int} (h:frontB x k=true) (hi:(fwdImp x k).2.2=true) {l:Int} (hl:0≤flopL x l):0≤fwdLit x k l∧fwdLit x k l<2*(((firstG x+1:Nat):Int)+(fwdImp x k).2.1.length)∧0≤plMapV (fwdImp x k).1 (((seqAt x (flopL x l).toNat).2.2[0]?).getD 0)∧plMapV (fwdImp x k).1 (((seqAt x (flopL x l).toNat).2.2[0]?).getD 0)<2*(((firstG x+1:Nat):Int)+(fwdImp x k).2.1.length):=by
 obtain⟨hok,-,-,-,h12⟩:=frontB_of h
 obtain⟨⟨n1,n2,n3,n4,n5,n6⟩,-,-,-⟩:=netOk_of hok
 obtain⟨hF,hgl,hNi,hno⟩:=ok_sizes hok
 have hN:=grN_eq x
 have I:=fwdImp_ok h x.2.2.1.length (Nat.le_refl _)
 change ImpOk _ _ (fwdImp x k) at I
 obtain⟨q,hq,q1,q2,-⟩:=flop_in hok hl
 unfold fwdLit
 rw[hq]
 simp only[List.getElem?_cons_zero,Option.getD_some]
 have h3:=I.an
 have hr:=mapV_rng (l:=q) (plIn_at I.pl (by omega) (q / 2)) (by omega)
 generalize plMapV (fwdImp x k).1 q=w at *
 have hl2:l % 2=0∨l % 2=1:=by omega
 rcases hl2 with e|e<;>rw[e]
 · rw[xor64_zero hr.1 (by omega)];exact⟨hr.1,hr.2,hr.1,hr.2⟩
 · rw[xor64_one hr.1 (by omega)];have:=flip_half hr.1;omega
theorem fwdOk_of {x:GrD} {k:Int} (h:fwdOkB x k=true):frontB x k=true∧(fwdImp x k).2.2=true∧0≤fwdV x k:=by
 unfold fwdOkB at h
 simp only[Bool.and_eq_true,decide_eq_true_eq] at h
 exact⟨h.1,h.2.1,h.2.2⟩
theorem fwdG_ok {x:GrD} {k:Int} (h:fwdOkB x k=true):netOkB (fwdG x k)=true:=by
 obtain⟨hf,hi,hv⟩:=fwdOk_of h
 obtain⟨hok,hk,fa,fb,h12⟩:=frontB_of hf
 obtain⟨⟨n1,n2,n3,n4,n5,n6⟩,o1,o2,o3⟩:=netOk_of hok
 obtain⟨hF,hgl,hNi,hno⟩:=ok_sizes hok
 have hN:=grN_eq x
 have I:=fwdImp_ok hf x.2.2.1.length (Nat.le_refl _)
 change ImpOk _ _ (fwdImp x k) at I
 obtain⟨la1,la2,-,-⟩:=fwdLit_rng hf hi fa
 obtain⟨lb1,lb2,-,-⟩:=fwdLit_rng hf hi fb
 have hin:=fwdInit_bit hf
 have hbv:fwdV x k<2*(((firstG x+1:Nat):Int)+(addN (fwdImp x k).2.1 (fwdLit x k (andK x k).1) (fwdLit x k (andK x k).2)).length):=(addV_rng (fa:=(firstG x+1:Nat)) (by omega) (by omega) (by omega)).2
 have h300:=addN_300 (a:=fwdLit x k (andK x k).1) (b:=fwdLit x k (andK x k).2) I.an
 have hle:=(addN_len (an:=(fwdImp x k).2.1) (a:=fwdLit x k (andK x k).1) (b:=fwdLit x k (andK x k).2)).1
 have hans:=ansOk_add I.ok (a:=fwdLit x k (andK x k).1) (b:=fwdLit x k (andK x k).2) (by omega) (by omega)
 have hpl:=I.pl
 have hlen:=I.len hi
 have hI3:=I.an
 unfold fwdG
 generalize fwdV x k=fv at *
 generalize addN (fwdImp x k).2.1 (fwdLit x k (andK x k).1) (fwdLit x k (andK x k).2)=an at *
 generalize fwdInit x k=ini at *
 generalize fwdImp x k=R at *
 obtain⟨to,an0,bb⟩:=R
 simp only at hi hpl hlen hI3 hle hbv ⊢
 have hm:∀ l,0≤l→l<2*(grN x:Int)→0≤plMapV to l∧plMapV to l<2*(((firstG x+1:Nat):Int)+an.length):=fun l h0 h1=>by
  have:=mapV_rng (l:=l) (plIn_at hpl (by omega) (l / 2)) (by omega)
  omega
 have hn:nodesG ((x.1,x.2.1.map (mapSeq to)++[(0,ini,[fv])],an,x.2.2.2.map (plMapV to)):GrD)=((firstG x+1:Nat):Int)+an.length:=by
  unfold nodesG
  rw[if_pos ⟨rng_iff.2 ⟨n1,n2⟩,by simp;omega,h300,by simp;omega⟩]
  simp
  omega
 unfold netOkB
 rw[hn]
 simp only[Bool.and_eq_true,decide_eq_true_eq]
 refine⟨⟨⟨by omega,?_⟩,?_⟩,?_⟩
 · rw[List.all_eq_true]
   intro s hs
   rcases List.mem_append.1 hs with hs|hs
   · obtain⟨s0,hs0,rfl⟩:=List.mem_map.1 hs
     have:=o1 s0 hs0
     unfold seqOkB mapSeq at *
     simpa using this
   · rw[List.mem_singleton.1 hs]
     unfold seqOkB
     simp only[if_pos,Bool.and_eq_true]
     exact⟨rng_iff.2 hin,by simp⟩
 · unfold belowB
   rw[List.all_eq_true]
   intro y hy
   refine rng_iff.2 ?_
   unfold grRoots at hy
   rcases List.mem_append.1 hy with hy|hy
   · obtain⟨l,hl,rfl⟩:=List.mem_map.1 hy
     have:=o2 l (outs_root hl)
     have:=hm l (by omega) (by omega)
     omega
   · obtain⟨ls,hls,hyl⟩:=List.mem_flatten.1 hy
     obtain⟨s,hs,rfl⟩:=List.mem_map.1 hls
     rcases List.mem_append.1 hs with hs|hs
     · obtain⟨s0,hs0,rfl⟩:=List.mem_map.1 hs
       obtain⟨l,hl,rfl⟩:=List.mem_map.1 hyl
       have:=o2 l (List.mem_append_right _ (List.mem_flatten.2 ⟨_,List.mem_map.2 ⟨s0,hs0,rfl⟩,hl⟩))
       have:=hm l (by omega) (by omega)
       omega
     · rw[List.mem_singleton.1 hs] at hyl
       rw[List.mem_singleton.1 hyl]
       omega
 · have e:(1+x.1+((x.2.1.map (mapSeq to)++[((0:Int),ini,[fv])]).length:Int))=((firstG x+1:Nat):Int):=by simp;omega
   rw[e]
   exact hans
theorem fwdM_ok {x:GrD} {k:Int} (h:frontB x k=true):netOkB (fwdM x k)=true∧firstG (fwdM x k)=firstG x+1:=by
 obtain⟨hok,hk,fa,fb,h12⟩:=frontB_of h
 obtain⟨⟨n1,n2,n3,n4,n5,n6⟩,o1,o2,o3⟩:=netOk_of hok
 obtain⟨hF,hgl,hNi,hno⟩:=ok_sizes hok
 have hin:=fwdInit_bit h
 unfold fwdM
 generalize fwdInit x k=ini at *
 have hn:nodesG ((x.1,x.2.1.map zeroSeq++[(0,ini,[0])],[],[]):GrD)=((firstG x+1:Nat):Int):=by
  unfold nodesG
  rw[if_pos ⟨rng_iff.2 ⟨n1,n2⟩,by simp;omega,by simp,by simp⟩]
  simp
  omega
 refine⟨?_,by simp[firstG];omega⟩
 unfold netOkB
 rw[hn]
 simp only[Bool.and_eq_true,decide_eq_true_eq]
 refine⟨⟨⟨by omega,?_⟩,?_⟩,rfl⟩
 · rw[List.all_eq_true]
   intro s hs
   rcases List.mem_append.1 hs with hs|hs
   · obtain⟨s0,hs0,rfl⟩:=List.mem_map.1 hs
     have:=o1 s0 hs0
     unfold seqOkB zeroSeq at *
     simpa using this
   · rw[List.mem_singleton.1 hs]
     unfold seqOkB
     simp only[if_pos,Bool.and_eq_true]
     exact⟨rng_iff.2 hin,by simp⟩
 · unfold belowB
   rw[List.all_eq_true]
   intro y hy
   refine rng_iff.2 ?_
   unfold grRoots at hy
   rw[List.nil_append] at hy
   obtain⟨ls,hls,hyl⟩:=List.mem_flatten.1 hy
   obtain⟨s,hs,rfl⟩:=List.mem_map.1 hls
   rcases List.mem_append.1 hs with hs|hs
   · obtain⟨s0,hs0,rfl⟩:=List.mem_map.1 hs
     obtain⟨l,hl,rfl⟩:=List.mem_map.1 hyl
     omega
   · rw[List.mem_singleton.1 hs] at hyl
     rw[List.mem_singleton.1 hyl]
     omega
end Go.Proofs.Ytnjedabjbeipeaa
