/-
  How slices and their elements read in memory: 'rd' (read only, all below a block number), 'ow' (owned, through a list of blocks). Plain lemmas, about no function of the program.
  Conditions: those typed in each theorem.
-/
import Derived.Test.YtnjedabjbeipeaaBase
import Derived.Maps.AppendAt
import Derived.Laws.MakeOwn
import Derived.Laws.OwnMore
import Derived.WideKeyEntry
import Derived.DeepKeys4
namespace Go.Proofs.Ytnjedabjbeipeaa
open Go.RowKit Go.ChangeShapes Go.WideShapes
set_option maxRecDepth 100000
set_option maxHeartbeats 10000000
def same {α:Type} [DecidableEq α] (x y:α):Bool:=decide (x=y)
structure Ty (α:Type) where
 id:TypeId
 size:Nat
 rd:World→Nat→List Value→α→Prop
 ow:World→List Value→α→List Nat→Prop
 pos:0<size
 keep:∀ {w w':World} {B:Nat} {cs:List Value} {d:α},(∀ p:Addr,p.block<B→w'.cell? p=w.cell? p)→rd w B cs d→rd w' B cs d
 mono:∀ {w:World} {B B':Nat} {cs:List Value} {d:α},B≤B'→rd w B cs d→rd w B' cs d
 stay:∀ {w w':World} {cs:List Value} {d:α} {F:List Nat},(∀ g∈F,w'.heap[g]? = w.heap[g]?)→ow w cs d F→ow w' cs d F
 lt:∀ {w:World} {cs:List Value} {d:α} {F:List Nat},ow w cs d F→∀ g∈F,g<w.heap.size
 toRd:∀ {w:World} {cs:List Value} {d:α} {F:List Nat} {B:Nat},ow w cs d F→(∀ g∈F,g<B)→rd w B cs d
 len:∀ {w:World} {cs:List Value} {d:α} {F:List Nat},ow w cs d F→cs.length=size
 one:∀ {w:World} {cs:List Value} {d:α} {F:List Nat},ow w cs d F→∀ u∈cs,u.oneCell'=true
 rlen:∀ {w:World} {B:Nat} {cs:List Value} {d:α},rd w B cs d→cs.length=size
def Blk (w:World) (g:Nat) (t:TypeId) (cs:Array Value):Prop:=w.heap[g]? = some (.cells cs t (0,0))
section
variable {w w':World} {g:Nat} {t:TypeId} {cs:Array Value}
theorem Blk.lt (h:Blk w g t cs):g<w.heap.size:=(ACC.1 h).1
theorem Blk.cell (h:Blk w g t cs) (i:Nat):w.cell? ⟨g,i,none⟩=cs[i]?:=cell_of_row w g i cs t (0,0) h
theorem Blk.frozen (h:Blk w g t cs) (i:Nat):w.frozen? ⟨g,i,none⟩=false:=frozen_of_row w g i cs t h
theorem Blk.new (w:World) (t:TypeId) (cs:Array Value):Blk (w.alloc (.cells cs t)) w.heap.size t cs:=heap_alloc_new w _
theorem Blk.alloc (h:Blk w g t cs) (o:Obj):Blk (w.alloc o) g t cs:=(Below.heap_alloc w o g h.lt).trans h
theorem Blk.far (h:Blk w g t cs) {p:Addr} (hp:g≠p.block) (u:Value):Blk (w.setCell p u) g t cs:=(heap_setCell_other w p g u hp).trans h
theorem Blk.below {B:Nat} (h:Blk w g t cs) (hb:Below B w w') (hg:g<B):Blk w' g t cs:=(hb.block g hg).trans h
end
def SlR {α:Type} (T:Ty α) (w:World) (B:Nat) (A:Option Addr) (xs:List α):Prop :=
 xs.length≤9223372036854775807∧(0<xs.length→∃ b o,A=some ⟨b,o,none⟩∧b<B∧∀ i x,xs[i]? = some x →
  ∃ cs:List Value,(∀ j u,cs[j]? = some u→w.cell? ⟨b,o+i*T.size+j,none⟩=some u)∧T.rd w B cs x)
section
variable {α:Type} {T:Ty α} {w w':World} {B B':Nat} {A:Option Addr} {xs:List α}
theorem SlR.keep (h:SlR T w B A xs) (hk:∀ p:Addr,p.block<B→w'.cell? p=w.cell? p):SlR T w' B A xs :=
 ⟨h.1,fun hn=>by
   obtain⟨b,o,e,hb,hc⟩:=h.2 hn;refine⟨b,o,e,hb,fun i x hx=>?_⟩;obtain⟨cs,h1,h2⟩:=hc i x hx
   exact⟨cs,fun j u hu=>(hk _ hb).trans (h1 j u hu),T.keep hk h2⟩⟩
theorem SlR.below (h:SlR T w B A xs) (hb:Below B w w'):SlR T w' B A xs:=h.keep fun _ hp=>hb.cell hp
theorem SlR.mono (h:SlR T w B A xs) (hB:B≤B'):SlR T w B' A xs :=
 ⟨h.1,fun hn=>by
   obtain⟨b,o,e,hb,hc⟩:=h.2 hn;refine⟨b,o,e,by omega,fun i x hx=>?_⟩;obtain⟨cs,h1,h2⟩:=hc i x hx
   exact⟨cs,h1,T.mono hB h2⟩⟩
theorem SlR.nil:SlR T w B A []:=⟨by simp,fun h=>absurd h (by simp)⟩
theorem SlR.at_ (h:SlR T w B A xs) {k:Nat} (hk:k<xs.length):∃ b o x cs,A=some ⟨b,o,none⟩∧b<B∧xs[k]? = some x∧(∀ j u,cs[j]? = some u→w.cell? ⟨b,o+k*T.size+j,none⟩=some u)∧T.rd w B cs x:=by
 obtain⟨b,o,e,hb,hc⟩:=h.2 (by omega);obtain⟨cs,h1,h2⟩:=hc k _ (zz0 hk);exact⟨b,o,xs[k],cs,e,hb,zz0 hk,h1,h2⟩
end
structure R3 {α:Type} (T:Ty α) (w:World) (g c:Nat) (xs:List α) (Fs:List (List Nat)):Prop where
 cap:xs.length≤c
 len:Fs.length=xs.length
 row:∃ cur:Array Value,w.heap[g]? = some (.cells cur T.id (0,0))∧cur.size=c*T.size∧∀ (i:Nat) (x:α) (f:List Nat),xs[i]? = some x→Fs[i]? = some f→T.ow w ((cur.toList.drop (i*T.size)).take T.size) x f
section
variable {α:Type} {T:Ty α} {w w':World} {g c:Nat} {xs:List α} {Fs:List (List Nat)}
theorem A5 {Fs:List (List Nat)} {i:Nat} {f:List Nat} (h:Fs[i]? = some f) {k:Nat} (hk:k∈f):k∈Fs.flatten :=
 List.mem_flatten.2 ⟨f,zz6 h,hk⟩
theorem R3.stay (h:R3 T w g c xs Fs) (hg:w'.heap[g]? = w.heap[g]?) (hF:∀ k∈Fs.flatten,w'.heap[k]? = w.heap[k]?):R3 T w' g c xs Fs:=by
 obtain⟨h1,h2,cur,hr,hs,hc⟩:=h;exact⟨h1,h2,cur,hg.trans hr,hs,fun i x f hx hf=>T.stay (fun k hk=>hF k (A5 hf hk)) (hc i x f hx hf)⟩
theorem R3.lt (h:R3 T w g c xs Fs):g<w.heap.size:=by
 obtain⟨_,_,cur,hr,_⟩:=h;exact (ACC.1 hr).1
theorem R3.ltF (h:R3 T w g c xs Fs):∀ k∈Fs.flatten,k<w.heap.size:=by
 obtain⟨h1,h2,cur,hr,hs,hc⟩:=h;intro k hk;obtain⟨f,hf,hk⟩:=List.mem_flatten.1 hk;obtain⟨i,hi,rfl⟩:=List.mem_iff_getElem.1 hf;have hx:i<xs.length:=by omega
 exact T.lt (hc i xs[i] Fs[i] (zz0 hx) (zz0 hi)) k hk
theorem aJ (h:R3 T w g c xs Fs) {i:Nat} {x:α} (hx:xs[i]? = some x):∃ f cs,Fs[i]? = some f∧(∀ j u,cs[j]? = some u→w.cell? ⟨g,i*T.size+j,none⟩=some u)∧T.ow w cs x f:=by
 obtain⟨h1,h2,cur,hr,hs,hc⟩:=h;have hi:i<xs.length:=(zz1.1 hx).1;have hf:Fs[i]? = some (Fs[i]'(by omega)):=zz0 (by omega);refine⟨_,_,hf,?_,hc i x _ hx hf⟩;intro j u hu;rw[ACi] at hu;split at hu
 · rw[ACj] at hu;rw[cell_of_row w g _ cur T.id (0,0) hr];simpa using hu
 · cases hu
theorem R3.toRd (h:R3 T w g c xs Fs) {B:Nat} (hB:g<B) (hF:∀ k∈Fs.flatten,k<B) (hm:xs.length≤9223372036854775807):SlR T w B (some ⟨g,0,none⟩) xs:=by
 refine⟨hm,fun _=>⟨g,0,rfl,hB,fun i x hx=>?_⟩⟩;obtain⟨f,cs,hf,h1,h2⟩:=aJ h hx;exact⟨cs,fun j u hu=>by simpa using h1 j u hu,T.toRd h2 (fun k hk=>hF k (A5 hf hk))⟩
end
section
variable {α:Type} {T:Ty α} {w:World} {g c:Nat} {xs:List α} {Fs:List (List Nat)}
theorem R3.slot (h:R3 T w g c xs Fs) {j:Nat} (hj:j<c*T.size):∃ u,w.cell? ⟨g,j,none⟩=some u:=by
 obtain⟨_,_,cur,hr,hs,_⟩:=h;rw[cell_of_row w g j cur T.id (0,0) hr];exact⟨cur[j]'(by omega),Array.getElem?_eq_getElem (by omega)⟩
theorem R3.free (h:R3 T w g c xs Fs) (j:Nat):w.frozen? ⟨g,j,none⟩=false:=by
 obtain⟨_,_,cur,hr,_⟩:=h;exact frozen_of_row w g j cur T.id hr
theorem R3.made (T:Ty α) (w:World) (z:Array Value) (c:Nat):R3 T (w.alloc (.cells (madeCells z (c*T.size)) T.id)) w.heap.size c ([]:List α) [] :=
 ⟨Nat.zero_le _,rfl,_,heap_alloc_new w _,size_madeCells _ _,fun i x f hx=>by simp at hx⟩
end
def SlO {α:Type} (T:Ty α) (w:World) (A:Option Addr) (c:Nat) (xs:List α) (F:List Nat):Prop :=
 c≤9223372036854775807∧((A=none∧c=0∧xs=[]∧F=[])∨∃ g Fs,A=some ⟨g,0,none⟩∧F=g::Fs.flatten∧R3 T w g c xs Fs)
section
variable {α:Type} {T:Ty α} {w w':World} {A:Option Addr} {c:Nat} {xs:List α} {F:List Nat}
theorem SlO.nil:SlO T w none 0 [] []:=⟨by omega,.inl ⟨rfl,rfl,rfl,rfl⟩⟩
theorem SlO.stay (h:SlO T w A c xs F) (hF:∀ g∈F,w'.heap[g]? = w.heap[g]?):SlO T w' A c xs F:=by
 obtain⟨hc,hn|⟨g,Fs,rfl,rfl,hr⟩⟩:=h
 · exact⟨hc,.inl hn⟩
 · exact⟨hc,.inr ⟨g,Fs,rfl,rfl,hr.stay (hF g (by simp)) (fun k hk=>hF k (by simp[hk]))⟩⟩
theorem SlO.lt (h:SlO T w A c xs F):∀ g∈F,g<w.heap.size:=by
 obtain⟨hc,⟨_,_,_,rfl⟩|⟨g,Fs,rfl,rfl,hr⟩⟩:=h
 · simp
 · intro k hk;rcases List.mem_cons.1 hk with rfl|hk
   · exact hr.lt
   · exact hr.ltF k hk
theorem SlO.cap (h:SlO T w A c xs F):xs.length≤c:=by
 obtain⟨hc,⟨_,_,rfl,_⟩|⟨g,Fs,rfl,rfl,hr⟩⟩:=h
 · simp
 · exact hr.cap
theorem SlO.toRd {B:Nat} (h:SlO T w A c xs F) (hB:∀ g∈F,g<B):SlR T w B A xs:=by
 have hcap:=h.cap;obtain⟨hc,⟨rfl,_,rfl,rfl⟩|⟨g,Fs,rfl,rfl,hr⟩⟩:=h
 · exact SlR.nil
 · exact hr.toRd (hB g (by simp)) (fun k hk=>hB k (by simp[hk])) (by omega)
theorem SlO.rd (h:SlO T w A c xs F):SlR T w w.heap.size A xs:=h.toRd h.lt
theorem SlO.below {B:Nat} (h:SlO T w A c xs F) (hb:Below B w w') (hF:∀ g∈F,g<B):SlO T w' A c xs F:=h.stay fun g hg=>hb.block g (hF g hg)
theorem SlO.far (h:SlO T w A c xs F) {p:Addr} (hp:p.block∉F) (u:Value):SlO T (w.setCell p u) A c xs F :=
 h.stay fun g hg=>heap_setCell_other w p g u (fun e=>hp (e▸hg))
theorem SlO.alloc (h:SlO T w A c xs F) (o:Obj):SlO T (w.alloc o) A c xs F:=h.stay fun g hg=>Below.heap_alloc w o g (h.lt g hg)
theorem SlO.after (h:SlO T w A c xs F) (hb:Below w.heap.size w w'):SlO T w' A c xs F:=h.below hb h.lt
end
section
variable {α:Type} {T:Ty α} {w w':World} {A:Option Addr} {c:Nat} {xs:List α} {F:List Nat}
theorem SlO.at_ (h:SlO T w A c xs F) {k:Nat} (hk:k<xs.length):∃ g Fs,A=some ⟨g,0,none⟩∧F=g::Fs.flatten∧R3 T w g c xs Fs:=by
 obtain⟨_,⟨_,_,rfl,_⟩|⟨g,Fs,rfl,rfl,hr⟩⟩:=h
 · simp at hk
 · exact⟨g,Fs,rfl,rfl,hr⟩
def Ty.Leaf (T:Ty α):Prop:=∀ {w:World} {cs:List Value} {d:α} {F:List Nat},T.ow w cs d F→F=[]
theorem R3.leaf {g:Nat} {Fs:List (List Nat)} (h:R3 T w g c xs Fs) (hl:T.Leaf):Fs.flatten=[]:=by
 obtain⟨h1,h2,cur,hr,hs,hc⟩:=h;rw[List.flatten_eq_nil_iff];intro f hf;obtain⟨i,hi,rfl⟩:=List.mem_iff_getElem.1 hf;exact hl (hc i (xs[i]'(by omega)) Fs[i] (zz0 (by omega)) (zz0 hi))
end
section
variable {α:Type} {T:Ty α} {w w':World} {A:Option Addr} {c:Nat} {xs:List α} {F:List Nat}
end
structure CO (S:List Nat) (w w':World):Prop where
 os:w'.os=w.os
 tape:w'.tape=w.tape
 output:w'.output=w.output
 size:w.heap.size≤w'.heap.size
 block:∀ k,k<w.heap.size→k∉S→w'.heap[k]? = w.heap[k]?
section
variable {S:List Nat} {a b c:World}
theorem CO.refl (S:List Nat) (w:World):CO S w w:=⟨rfl,rfl,rfl,Nat.le_refl _,fun _ _ _=>rfl⟩
theorem CO.trans (h:CO S a b) (k:CO S b c):CO S a c :=
 ⟨k.os.trans h.os,k.tape.trans h.tape,k.output.trans h.output,Nat.le_trans h.size k.size,fun i hi hn=>(k.block i (ACM hi h.size) hn).trans (h.block i hi hn)⟩
theorem CO.mono {S':List Nat} (h:CO S a b) (hs:∀ k∈S,k∈S'∨a.heap.size≤k):CO S' a b :=
 ⟨h.os,h.tape,h.output,h.size,fun i hi hn=>h.block i hi (fun hi'=>by rcases hs i hi' with h'|h'<;>first | exact hn h'|omega)⟩
theorem CO.of_below (h:Below a.heap.size a b):CO S a b:=⟨h.os,h.tape,h.output,h.size,fun i hi _=>h.block i hi⟩
theorem CO.alloc (h:CO S a b) (o:Obj):CO S a (b.alloc o) :=
 h.trans (CO.of_below (T2 b o))
theorem CO.drew (h:CO S a b):CO S a b.drew:=⟨h.os,h.tape,h.output,h.size,h.block⟩
theorem CO.setCell (h:CO S a b) {p:Addr} (hp:p.block∈S∨a.heap.size≤p.block) (u:Value):CO S a (b.setCell p u) :=
 ⟨h.os,h.tape,h.output,by simpa [World.setCell] using h.size,fun i hi hn=>by
   have hne:i≠p.block:=by
    rintro rfl;rcases hp with hp|hp
    · exact hn hp
    · omega
   exact (Below.heap_setCell _ _ _ _ hne).trans (h.block i hi hn)⟩
end
section
variable {α:Type} {T:Ty α} {id:TypeId} {w w':World} {A:Option Addr} {c:Nat} {xs:List (List α)} {F:List Nat}
theorem Cf:∀ {Fs:List (List Nat)},Fs.flatten.Nodup→∀ {i j:Nat} {f f':List Nat},Fs[i]? = some f→Fs[j]? = some f'→i≠j→∀ q∈f,q∉f'
 | [],_,i,_,_,_,hi,_,_=>by simp at hi
 | a::Fs,hn,i,j,f,f',hi,hj,hne=>by
   rw[List.flatten_cons,List.nodup_append] at hn;obtain⟨h1,h2,h3⟩:=hn;intro q hq hq'
   match i,j with
   | 0,0=>exact hne rfl
   | 0,j+1 =>
     simp at hi hj;subst hi;exact h3 q hq q (A5 hj hq') rfl
   | i+1,0 =>
     simp at hi hj;subst hj;exact h3 q hq' q (A5 hi hq) rfl
   | i+1,j+1 =>
     simp at hi hj;exact Cf h2 hi hj (by omega) q hq hq'
theorem SlO.only {α:Type} {T:Ty α} {w w':World} {A:Option Addr} {c:Nat} {xs:List α} {F S:List Nat} (h:SlO T w A c xs F) (ho:CO S w w') (hd:∀ g∈F,g∈S→False):SlO T w' A c xs F :=
 h.stay fun g hg=>ho.block g (h.lt g hg) (fun h'=>hd g hg h')
theorem Blk.only {w w':World} {g:Nat} {t:TypeId} {cs:Array Value} {S:List Nat} (h:Blk w g t cs) (ho:CO S w w') (hd:g∈S→False):Blk w' g t cs :=
 (ho.block g h.lt (fun h'=>hd h')).trans h
end
end Go.Proofs.Ytnjedabjbeipeaa
