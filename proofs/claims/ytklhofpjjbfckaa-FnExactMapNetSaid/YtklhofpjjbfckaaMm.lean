/-
  Marks over rows of structs that hold rows.
  Conditions: those typed in each theorem.
-/
import Derived.Test.YtklhofpjjbfckaaMs
import Derived.Test.YtklhofpjjbfckaaVu
import Derived.Test.YtklhofpjjbfckaaNa
import Derived.Test.YtklhofpjjbfckaaNi
namespace Go.Proofs.Ytklhofpjjbfckaa
open Go.RowKit Go.ChangeShapes Go.WideShapes
set_option linter.unusedVariables false
set_option linter.unusedSimpArgs false
theorem keep_set {A:Option Nat} {P:Program} {w:World} {t:TypeId} {es:List (List D)} {c g:Nat} {f:List Nat} (h:RowOf P w (Owns P w) t es A c f) (hg:g∉f) (o:Nat) (u:Value):RowOf P (w.setCell ⟨g,o,none⟩ u) (Owns P (w.setCell ⟨g,o,none⟩ u)) t es A c f:=by
 have hs:∀ q∈f,(w.setCell ⟨g,o,none⟩ u).heap[q]? = w.heap[q]?:=fun q hq=>heap_setCell_other w _ q u (fun e=>hg (by have:q=g:=e;subst this;exact hq))
 refine h.stay (fun q hq=>hs q ?_) (fun e cs f' he hf' ho=>ho.stay fun q hq=>hs q (hf' q hq))
 obtain⟨_,_,⟨rfl,_⟩|⟨g',cur,Fs,rfl,_,_,_,_,_,rfl⟩⟩:=h
 · cases hq
 · cases hq;simp
theorem owns_set {P:Program} {W:World} {a b:Int} {rest:List D}:∀ {pre:List D} {cs:List Value} {f:List Nat},Owns P W (pre++.int .i64 a::rest) cs f→Owns P W (pre++.int .i64 b::rest) (cs.set pre.length (.int .i64 b)) f
 | [],cs,f,h=>by
   cases h with
   | int _ _ h=>exact .int _ _ h
 | d::ds,cs,f,h=>by
   cases h with
   | int _ _ h=>exact .int _ _ (owns_set h)
   | bool _ h=>exact .bool _ (owns_set h)
   | none _ h=>exact .none _ (owns_set h)
   | sl t es g c cur Fs hg hcap hc63 hsz hF hl he h=>exact .sl t es g c cur Fs hg hcap hc63 hsz hF hl he (owns_set h)
theorem cell_set_far {w:World} {g i j:Nat} {u:Value} (h:i≠j):(w.setCell ⟨g,i,none⟩ u).cell? ⟨g,j,none⟩=w.cell? ⟨g,j,none⟩:=World.cell?_setCell_other _ _ _ _ fun e=>h (by cases e;rfl)
def cSeq (x:SeqD):Nat:=2+x.2.2.length
def mSeq (k:Int) (x:SeqD):SeqD:=(k,k+1,markL x.2.2 (k+2))
set_option maxRecDepth 100000 in
theorem markSeqS_conM (xs:List SeqD) (k:Int) (h0:0≤k) (hk:k+costs cSeq xs≤1152921504606846976) :
 ConM Try.prog 101 31 (xs.map enSeq) k (k+costs cSeq xs) ((mks cSeq mSeq k xs).map enSeq):=by
 refine⟨by kernel_rfl,by simp[mks_len],fun w A c F hrow hF=>?_⟩
 have hmx:xs.length≤9223372036854775807:=by have h1:=hrow.1;have h2:=hrow.cap;simp at h2;omega
 have hcl:Try.prog.cellsOf 31=3:=by kernel_rfl
 have HX:=Lib.hid hrow
 have HN:=Lib.hid hF
 have HC:=Lib.hid hcl
 clear hrow hF hcl
 rw[List.length_map]
 obtain⟨A',hA'⟩:∃ A',A'=hdr A:=⟨_,rfl⟩
 rw[←hA']
 go_enter Try.func101,Try.ntmps101
 go_wp2
 go_loopw [1,5] (fun q i wr=>∃ j:Nat,j≤xs.length∧i=.int .i64 j∧q=.int .i64 (k+costs cSeq (xs.take j))∧Only F w wr∧RowOf Try.prog wr (Owns Try.prog wr) 31 ((mkJ cSeq mSeq k xs j).map enSeq) A c F) (fun _ i _=>xs.length - (intOf i).toNat)
 case atStart=>exact⟨0,Nat.zero_le _,rfl,by simp[costs],Only.refl _ _,by rw[mkJ_0];exact HX.out⟩
 case round =>
  obtain⟨j,hj,rfl,rfl,ho,hr⟩:=hrel
  by_cases hlt:j<xs.length
  · obtain⟨g,Fs,hA,hFe,hop⟩:=open_row hr HN.out (by simp[mkJ_len j hj];omega)
    obtain⟨x,hx⟩:∃ x,xs[j]? = some x:=⟨_,List.getElem?_eq_getElem hlt⟩
    have he:((mkJ cSeq mSeq k xs j).map enSeq)[j]? = some (enSeq x):=by rw[List.getElem?_map,mkJ_at hx];rfl
    have hco:=cost_take_le (f:=cSeq) hx
    have hcs:=costs_snoc (f:=cSeq) hx
    have hnx:=mkJ_succ (f:=cSeq) (m:=mSeq) (k:=k) hx
    obtain⟨a,b,ins⟩:=x
    have hc2:cSeq (a,b,ins)=2+ins.length:=rfl
    obtain⟨A2,c2,f,hf,hcell,hin,hnd⟩:=hop.inner (j:=2) he [.int .i64 a,.int .i64 b] [] rfl rfl (by simp[flatD]) (by simp)
    have hu0:=hop.int_at (j:=0) he rfl
    have hu1:=hop.int_at (j:=1) he rfl
    have hgf:g∉f:=fun hq=>(List.nodup_cons.1 hop.nd).1 (mem_flat hf hq)
    have hfF:∀ q∈f,q∈F:=fun q hq=>by rw[hFe];exact List.mem_cons_of_mem _ (mem_flat hf hq)
    have hgF:g∈F:=by rw[hFe];simp
    have hop1:=hop.put (j:=0) (u:=.int .i64 (k+costs cSeq (xs.take j))) (e':=enSeq (k+costs cSeq (xs.take j),b,ins)) he (by rw[HC.out];omega) (fun W cs f _ o=>owns_set (pre:=[]) o) rfl
    have hop2:=hop1.put (i:=j) (j:=1) (e:=enSeq (k+costs cSeq (xs.take j),b,ins)) (u:=.int .i64 (k+costs cSeq (xs.take j)+1)) (e':=enSeq (k+costs cSeq (xs.take j),k+costs cSeq (xs.take j)+1,ins)) (by rw[List.getElem?_set_self (List.getElem?_eq_some_iff.1 he).1]) (by rw[HC.out];omega) (fun W cs f _ o=>owns_set (pre:=[.int .i64 _]) o) rfl
    rw[HC.out] at hu0 hu1 hcell hop2
    rw[Nat.add_zero] at hu0 hop2
    rw[List.length_map] at hcell
    rw[List.set_set] at hop2
    have hm:=(markIntS_conM ins (k+costs cSeq (xs.take j)+1+1) (by omega) (by omega)).2.2 _ A2 c2 f (keep_set (keep_set hin hgf (j*3) (.int .i64 (k+costs cSeq (xs.take j)))) hgf (j*3+1) (.int .i64 (k+costs cSeq (xs.take j)+1))) hnd
    rw[List.length_map] at hm
    have hfin:∀ w1,Only f ((wr.setCell ⟨g,j*3,none⟩ (.int .i64 (k+costs cSeq (xs.take j)))).setCell ⟨g,j*3+1,none⟩ (.int .i64 (k+costs cSeq (xs.take j)+1))) w1 →
     RowOf Try.prog w1 (Owns Try.prog w1) 3 ((markL ins (k+costs cSeq (xs.take j)+1+1)).map (e1 eInt)) A2 c2 f→RowOf Try.prog w1 (Owns Try.prog w1) 31 ((mkJ cSeq mSeq k xs (j+1)).map enSeq) A c F:=fun w1 ho1 hr1=>by
     have h3:=hop2.turned (i:=j) (j:=2) (A:=A2) (c2:=c2) (f:=f) (t2:=3) (es2:=ins.map (e1 eInt)) (by rw[List.getElem?_set_self (List.getElem?_eq_some_iff.1 he).1];rfl) hf ho1 [.int .i64 _,.int .i64 _] [] rfl rfl (by simp[flatD]) (by simp) (by rw[HC.out,cell_set_far,cell_set_far,hcell,List.length_map]<;>simp) (by simp[markL_len]) hr1
     have h4:=h3.close
     rw[←hA,←hFe] at h4
     rw[hnx,List.map_set]
     rw[List.set_set] at h4
     have e5:k+(costs cSeq (xs.take j):Int)+1+1=k+costs cSeq (xs.take j)+2:=by omega
     rw[e5] at h4
     exact h4
    have hA2:A'=some ⟨g,0,none⟩:=by rw[hA',hA];rfl
    clear hA' hA
    subst hA2
    have HFin:=Lib.hid hfin
    have HM:=Lib.hid hm
    have HX1:=Lib.hid hx
    have hfr:=hop.free
    clear hr hop hop1 hop2 hin he hFe hx hnx hf hm hfin
    go_wp2_with fail
    refine HM.out.mono ?_
    rintro e w1 ⟨rfl,hrow1,ho1⟩
    have HRow:=Lib.hid hrow1
    clear hrow1
    go_wp2
    refine⟨⟨j+1,by omega,by go_num,?_,((ho.setCell (.inl hgF) _).setCell (.inl hgF) _).trans (ho1.mono fun q hq=>.inl (hfF q hq)),HFin.out w1 ho1 HRow.out⟩,by simp[intOf];omega⟩
    exact congrArg _ (by omega)
  · have hjj:j=xs.length:=by omega
    subst hjj
    rw[mkJ_all] at hr
    have HR:=Lib.hid hr
    clear hr
    go_wp2
    go_ret
    exact⟨ret_int (by rw[List.take_length]),HR.out,ho⟩
def cRow (x:RowD):Nat:=x.length
def mRow (k:Int) (x:RowD):RowD:=markL x k
set_option maxRecDepth 100000 in
theorem markIntSS_conM (xs:List RowD) (k:Int) (h0:0≤k) (hk:k+costs cRow xs≤1152921504606846976) :
 ConM Try.prog 29 26 (xs.map enRow) k (k+costs cRow xs) ((mks cRow mRow k xs).map enRow):=by
 refine⟨by kernel_rfl,by simp[mks_len],fun w A c F hrow hF=>?_⟩
 have hmx:xs.length≤9223372036854775807:=by have h1:=hrow.1;have h2:=hrow.cap;simp at h2;omega
 have hcl:Try.prog.cellsOf 26=1:=by kernel_rfl
 have HX:=Lib.hid hrow
 have HN:=Lib.hid hF
 have HC:=Lib.hid hcl
 clear hrow hF hcl
 rw[List.length_map]
 obtain⟨A',hA'⟩:∃ A',A'=hdr A:=⟨_,rfl⟩
 rw[←hA']
 go_enter Try.func29,Try.ntmps29
 go_wp2
 go_loopw [1,5] (fun q i wr=>∃ j:Nat,j≤xs.length∧i=.int .i64 j∧q=.int .i64 (k+costs cRow (xs.take j))∧Only F w wr∧RowOf Try.prog wr (Owns Try.prog wr) 26 ((mkJ cRow mRow k xs j).map enRow) A c F) (fun _ i _=>xs.length - (intOf i).toNat)
 case atStart=>exact⟨0,Nat.zero_le _,rfl,by simp[costs],Only.refl _ _,by rw[mkJ_0];exact HX.out⟩
 case round =>
  obtain⟨j,hj,rfl,rfl,ho,hr⟩:=hrel
  by_cases hlt:j<xs.length
  · obtain⟨g,Fs,hA,hFe,hop⟩:=open_row hr HN.out (by simp[mkJ_len j hj];omega)
    obtain⟨x,hx⟩:∃ x,xs[j]? = some x:=⟨_,List.getElem?_eq_getElem hlt⟩
    have he:((mkJ cRow mRow k xs j).map enRow)[j]? = some (enRow x):=by rw[List.getElem?_map,mkJ_at hx];rfl
    have hco:=cost_take_le (f:=cRow) hx
    have hcs:=costs_snoc (f:=cRow) hx
    have hnx:=mkJ_succ (f:=cRow) (m:=mRow) (k:=k) hx
    have hc2:cRow x=x.length:=rfl
    obtain⟨A2,c2,f,hf,hcell,hin,hnd⟩:=hop.inner (j:=0) he [] [] rfl rfl (by simp) (by simp)
    have hgf:g∉f:=fun hq=>(List.nodup_cons.1 hop.nd).1 (mem_flat hf hq)
    have hfF:∀ q∈f,q∈F:=fun q hq=>by rw[hFe];exact List.mem_cons_of_mem _ (mem_flat hf hq)
    have hm:=(markIntS_conM x (k+costs cRow (xs.take j)) (by omega) (by omega)).2.2 wr A2 c2 f hin hnd
    rw[List.length_map] at hm
    have hfin:∀ w1,Only f wr w1→RowOf Try.prog w1 (Owns Try.prog w1) 3 ((markL x (k+costs cRow (xs.take j))).map (e1 eInt)) A2 c2 f →
     RowOf Try.prog w1 (Owns Try.prog w1) 26 ((mkJ cRow mRow k xs (j+1)).map enRow) A c F:=fun w1 ho1 hr1=>by
     have h3:=hop.turned (i:=j) (j:=0) he hf ho1 [] [] rfl rfl (by simp) (by simp) hcell (by simp[markL_len]) hr1
     have h4:=h3.close
     rw[←hA,←hFe] at h4
     rw[hnx,List.map_set]
     exact h4
    rw[HC.out,Nat.mul_one,Nat.add_zero,List.length_map] at hcell
    have hA2:A'=some ⟨g,0,none⟩:=by rw[hA',hA];rfl
    clear hA' hA
    subst hA2
    have HFin:=Lib.hid hfin
    have HM:=Lib.hid hm
    have HX1:=Lib.hid hx
    have hfr:=hop.free
    clear hr hop hin he hFe hx hnx hf hm hfin
    go_wp2_with fail
    refine HM.out.mono ?_
    rintro e w1 ⟨rfl,hrow1,ho1⟩
    have HRow:=Lib.hid hrow1
    clear hrow1
    go_wp2
    refine⟨⟨j+1,by omega,by go_num,?_,ho.trans (ho1.mono fun q hq=>.inl (hfF q hq)),HFin.out w1 ho1 HRow.out⟩,by simp[intOf];omega⟩
    exact congrArg _ (by omega)
  · have hjj:j=xs.length:=by omega
    subst hjj
    rw[mkJ_all] at hr
    have HR:=Lib.hid hr
    clear hr
    go_wp2
    go_ret
    exact⟨ret_int (by rw[List.take_length]),HR.out,ho⟩
end Go.Proofs.Ytklhofpjjbfckaa
