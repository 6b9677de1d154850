/-
  The search on the reference's side.
  Conditions: those typed in each theorem.
-/
import Derived.Test.YtoppcdccplgalaaQf
namespace Go.Proofs.Ytoppcdccplgalaa
open Go.RowKit Go.ChangeShapes Go.WideShapes
set_option linter.unusedVariables false
set_option linter.unusedSimpArgs false
attribute [local simp ↓] condG_true condG_false condB_true condB_false
attribute [local simp] AWp_skip AWp_region_t AWp_region_d AWp_region_f still_mk AWp_seq AWp_cond condV_bool condB AWp_block AWp_exit AWp_ret
attribute [local simp] AOps_nil AOp_move AOp_assign AOp_pick AOp_binOp AOp_unOp AOp_convert AOp_len AOp_max AOp_min AOp_indexAddr AOp_load
attribute [local simp] AOp_fieldAddr AOp_field AOp_extract AOp_nilCheck AOp_build AOp_alloc AOp_box AOp_call AOp_store AOp_append AOp_buildSlice nextB_some
attribute [local simp] nextB_none adoptO adoptC AOp_makeSlice AOp_slice AOp_makeFunc AOp_guard guardD_some guardG_bool guardG_undef nextO_some nextS_some
attribute [local simp] nextZ_some nextL_some nextM_some nextT_some sliceO sliceL sliceT partO partV boundV funcO pickO
attribute [local simp] convO lenO maxO minO idxO extO nilO buildO litO litC makeO chunks
attribute [local simp] fillV placeOf thenA inBlockA St.get St.put St.eval ofCell evalT abin_add abin_sub abin_mul
attribute [local simp] abin_quo abin_rem abin_and abin_or abin_xor abin_andNot abin_shl abin_shr abin_shlu abin_eql abin_eqp abin_neq
attribute [local simp] abin_lss abin_leq abin_gtr abin_geq abin_eqlb abin_neqb aun pickV lenV intOf? indexV takeD
attribute [local simp] takeV loadV fieldAddrV fieldV ofX presD presDs pres presAll cellsV V.cell storeV
attribute [local simp] freezeC putAt kill takeC plains plainV scalarV nat_neg keepT sets eSl e1
attribute [local simp] e2 e3 e4 eInt eBool afterCall inst inst1 inst1s instD instDs RetA
attribute [local simp] resVs resV gives give1 give1s Le isPin leSlots leS leTmps leV le0
attribute [local simp] le0s ren ren0 renS ren0s frame enterT afterT_some afterC_some lives Slot.live arrsOk
attribute [local simp] viewV view0 renT rens renSs setAll List.range'_succ RetT RetW joinV leT AOpsE_nil
attribute [local simp] AOpsE_cons AOpsT_nil AOpsT_cons isCallT callOf condC_true condC_false beginT_mk thenT_mk pickE pickT isT
attribute [local simp] loose namesOf namesV names1 names0 stableN sameAt Op.operands Call.operands
theorem decOk_one {v : Nat} {par dec a b : List Int} (h1 : decOk v par dec a) (h2 : decOk v par dec b) : a = b := by
  rcases h1 with ⟨h, rfl⟩ | ⟨d, l, h, _, rfl⟩ <;> rcases h2 with ⟨h', rfl⟩ | ⟨d', l', h', _, rfl⟩
  · rfl
  · rw [h] at h'; exact absurd h'.symm (by simp)
  · rw [h'] at h; exact absurd h.symm (by simp)
  · rw [h] at h'
    have := List.append_inj_right' h' rfl
    simp at this
    rw [this]
abbrev sisA (v : Nat) (cls : List RowD) (u p f : V) : Slot := .var 165 [.d (.int .i64 v), .d (eSl 24 enRow cls), u, p, f]
def sisIn (v : Nat) (cls : List RowD) (left : Nat) (pf : List RowD) : List Slot :=
  if pf = [] then [sisA v cls (.d (.int .i64 left)) (.nil 24) .any] else [sisA v cls (.d (.int .i64 left)) (.ref 1) .any, .arr 24 true (pf.map enRow)]
def sisOk (v : Nat) (cls : List RowD) (pf : List RowD) (r : SRes) : List Slot :=
  if pf = [] then [sisA v cls (.d (.int .i64 r.left)) (.ref 1) .any, .arr 24 true (r.pf.map enRow)] else [sisA v cls (.d (.int .i64 r.left)) (.ref 2) .any, .dead, .arr 24 true (r.pf.map enRow)]
def sisNo (v : Nat) (cls : List RowD) (pf : List RowD) (r : SRes) : List Slot :=
  if pf = [] then [sisA v cls .any .any (if r.code = 1 then .d (eSl 3 (e1 eInt) r.model) else .any)] else [sisA v cls .any .any (if r.code = 1 then .d (eSl 3 (e1 eInt) r.model) else .any), .dead]
def sisOut (v : Nat) (cls : List RowD) (pf : List RowD) (r : SRes) : List Slot := if r.code = 2 then sisOk v cls pf r else sisNo v cls pf r
theorem sis_laters {v : Nat} {cls : List RowD} {left : Nat} {pf : List RowD} {r : SRes} : laters (sisIn v cls left pf) (sisOut v cls pf r) := by
  unfold sisIn sisOut sisOk sisNo
  by_cases h : pf = [] <;> by_cases h2 : r.code = 2 <;> simp [h, h2, laters, Later]
theorem sis_lives {v : Nat} {cls : List RowD} {left : Nat} {pf : List RowD} : lives (sisIn v cls left pf) := by
  unfold sisIn
  by_cases h : pf = [] <;> simp [h, lives, Slot.live]
def sisT (v : Nat) (cls : List RowD) (left : Nat) (p dec : List Int) (pf : List RowD) (r : SRes) : Prop :=
  ConT Try.prog 177 [.ptr 0 0, .d (eSl 3 (e1 eInt) p), .d (eSl 3 (e1 eInt) dec)] (sisIn v cls left pf) (.d (.int .i64 r.code)) (sisOut v cls pf r)
set_option maxRecDepth 100000 in
set_option maxHeartbeats 8000000 in
theorem sVisit_conT (v : Nat) (cls : List RowD) (hv : v ≤ 400) (hc : fitRw 1048576 cls) (hcl : clausesIn v cls) : ∀ (k left : Nat) (own dec : List Int) (pf : List RowD), left ≤ k → own.length = v → trits own → (∀ x ∈ dec, litIn v x) → dec.length + k ≤ 1048576 → pf.length + left ≤ 600 → (∀ c ∈ pf, c.length ≤ 1048576) →
    sisT v cls left own dec pf (srch cls k left own dec pf) := by
  intro k
  induction k with
  | zero =>
    intro left own dec pf h1 hol hot hdl hdk hpl hpc
    obtain rfl : left = 0 := by omega
    refine conT_ofD (by kernel_rfl) Try.func177 rfl rfl rfl sis_laters sis_lives ?_
    by_cases hpf : pf = []
    · simp [sisIn, sisOut, sisNo, srch, hpf]
      exact ⟨[0], by simp⟩
    · simp [sisIn, sisOut, sisNo, srch, hpf]
      exact ⟨[0, 1], by simp⟩
  | succ k ih =>
    intro left own dec pf h1 hol hot hdl hdk hpl hpc
    have hR : srch cls (k + 1) left own dec pf = srch cls (k + 1) left own dec pf := rfl
    conv at hR => lhs; unfold srch
    have hF := srch_facts hcl k
    generalize srch cls (k + 1) left own dec pf = R at *
    generalize srch cls k = S at *
    have ih2 : ∀ (left : Nat) (par dec own : List Int) (pf : List RowD), left ≤ k → (left : Int) ≤ 600 → par.length = v → trits par → decOk v par dec own → (∀ x ∈ dec, litIn v x) → dec.length + k ≤ 1048576 → pf.length + left ≤ 600 → (∀ c ∈ pf, c.length ≤ 1048576) → (∀ own', decOk v par dec own' → sisT v cls left own' dec pf (S left own dec pf)) := by
      intro left par dec own pf a1 a2 a3 a4 a5 a6 a7 a8 a9 own' a10
      obtain rfl := decOk_one a5 a10
      refine ih left own dec pf a1 ?_ ?_ a6 a7 a8 a9
      · rcases a5 with ⟨_, rfl⟩ | ⟨_, l, _, _, rfl⟩
        · exact a3
        · rw [setLit_len]; exact a3
      · rcases a5 with ⟨_, rfl⟩ | ⟨_, l, _, _, rfl⟩
        · exact a4
        · exact trits_setLit a4 l
    clear ih
    have hdb : ∀ x ∈ dec, -1048576 ≤ x ∧ x ≤ 1048576 := fun x hx => by have := hdl x hx; unfold litIn at this; omega
    refine conT_ofD (by kernel_rfl) Try.func177 rfl rfl rfl sis_laters sis_lives ?_
    by_cases hpf : pf = []
--@@begin step
    · simp [sisIn, hpf]
      by_cases h0 : left = 0
      · rw [if_pos h0] at hR
        subst hR h0
        simp [sisOut, sisNo, hpf]
        exact ⟨[0], by simp⟩
      rw [if_neg h0] at hR
      have wv : IntKind.i64.wrap ((left : Int) - 1) = ((left - 1 : Nat) : Int) := by rw [wrap_id (by omega) (by omega)]; omega
      have h0b : ((left : Int) == 0) = false := beq_false_of_ne (by omega)
      have h0c : ¬ (left : Int) = 0 := by omega
      simp [h0, h0b, h0c, wv]
      have hP := sRun_con cls own _ rfl hc (by omega) hot (by rw [hol]; exact hcl)
      have hPf := fun q => propL_facts (cls := cls) (p := own) (p' := q) (by rw [hol]; exact hcl) hot
      generalize propL cls own = Rq at *
      refine call_step (hP) ?_
      simp
      cases Rq with
      | none =>
        simp only at hR
        subst hR
        simp
        refine aw_loopU [true, false, true, false, false, false, false, false, false, false, false, false, false, true, true, false, false, false, false, false, false, false, false, false, false, false, false, false, false, false, false, false, false, false, false, false, false, false, false, false, false, false, false, false, false, false, false, false, false, false, false, false, false, false, false, false, false, false, false, false, false, false, false, false, false, false, false, false, false, false, false, false, false, false, false, false, false, false, false, false, false, false, false, false, false, false, false, false, false, false, false, false, false, false, false, false, false, false, false, false, false, false, false, false, false, false, false, false, false, false, false] (fun i : Nat => i ≤ dec.length) (fun i : Nat => [(14, .d (.int .i64 i))]) (fun i : Nat => [(2, .arr 3 true ((negs (dec.take i)).map (e1 eInt)))]) (fun i : Nat => dec.length - i) 0 ?_ ?_ ?_
        · exact Nat.zero_le _
        · exact ⟨[0, 1, 2], by simp [negs]⟩
        rintro I3 Z3 μ3 hI3 hS3 hμ3 i hi
        by_cases hil : i < dec.length
        · have hx1 : dec[i]? = some dec[i] := List.getElem?_eq_getElem hil
          have w5 : IntKind.i64.wrap ((i : Int) + 1) = (i : Int) + 1 := wrap_id (by omega) (by omega)
          have hx := hdb _ (List.getElem_mem hil)
          have hn : negs (dec.take (i + 1)) = negs (dec.take i) ++ [-dec[i]] := by unfold negs; rw [take_snoc' hx1, List.map_append]; rfl
          have hl : (negs (dec.take i)).length = i := by unfold negs; simp; omega
          generalize dec[i] = y at *
          have w6 : IntKind.i64.wrap (-y) = -y := wrap_id (by omega) (by omega)
          generalize negs (dec.take i) = ms at *
          simp [decide_eq_true hil, hx1, w6]
          refine app_data vt_el_24 rfl (by simp) rfl (by simp) (by simp) (by first | (simp; done) | (simp; omega)) (by simp [flatP, flatD]) ?_
          simp [w5]
          exact round_of hI3 hS3 hμ3 (i + 1) (by omega) (by omega) ⟨[0, 1, 4], by simp [hn, e1, eInt]⟩
        have hi' : i = dec.length := by omega
        subst hi'
        rw [List.take_length]
        simp [decide_eq_false hil, hil]
        first | refine app_lit (q := 1) vt_el_40 (by exact rfl) (by simp) (by exact rfl) (by exact rfl) (by simp) (by simp) (by first | (simp; done) | (simp; omega)) ?_ | refine app_row vt_el_40 (by exact rfl) (by simp) (by exact rfl) (by simp) (by first | (simp; done) | (simp; omega)) ?_
        simp
        exact ⟨[0, 4], by simp [sisOut, sisOk, hpf, enRow, e1]⟩
      | some q =>
        obtain ⟨hql, hqt, -⟩ := hPf q rfl
        rw [hol] at hql
        have hzl := zeroAt_le q
        have hz0 := zeroAt_zero (q := q)
        replace hR : srchB S (left - 1) dec pf q = R := hR
        simp
        refine aw_loopU [true, false, true, false, false, false, false, true, false, true, false, false, false, false, false, false, false, false, false, false, false, false, false, false, false, false, false, false, false, false, false, false, false, false, false, false, false, false, false, false, false, false, false, false, false, false, false, false, false, false, false, false, false, false, false, false, false, false, false, false, false, false, false, false, false, false, false, false, false, false, false, false, false, false, false, false, false, false, false, false, false, false, false, false, false, false, false, false, false, false, false, false, false, false, false, false, false, false, false, false, false, false, false, false, false, false, false, false, false, false, false] (fun i : Nat => i ≤ q.length ∧ zeroAt (q.drop i) + i = zeroAt q) (fun i : Nat => [(9, .d (.int .i64 i))]) (fun i : Nat => []) (fun i : Nat => q.length - i) 0 ?_ ?_ ?_
        · exact ⟨by omega, by simp⟩
        · exact ⟨[0, 1], by simp⟩
        rintro I Z μ hI hS hμ i ⟨hi, hzi⟩
        by_cases hend : i = zeroAt q
        case neg =>
          have hlt : i < q.length := by
            rcases Nat.lt_or_ge i q.length with h | h
            · exact h
            · rw [List.drop_eq_nil_of_le h, zeroAt] at hzi; omega
          have hx1 : q[i]? = some q[i] := List.getElem?_eq_getElem hlt
          rw [zeroAt_at hx1] at hzi
          generalize q[i] = y at *
          by_cases hy : y = 0
          · rw [if_pos hy] at hzi; omega
          rw [if_neg hy] at hzi
          have w5 : IntKind.i64.wrap ((i : Int) + 1) = (i : Int) + 1 := wrap_id (by omega) (by omega)
          simp [decide_eq_true hlt, hx1, hy, show (y != 0) = true by simpa using hy, w5]
          exact round_of hI hS hμ (i + 1) ⟨by omega, by omega⟩ (by omega) ⟨[0, 1], by simp⟩
        subst hend
        clear hzi
        by_cases hfull : zeroAt q = q.length
        · have hRf := srchB_full hR hfull
          clear hR
          subst hRf
          have hlt : ¬ zeroAt q < q.length := by omega
          simp [hlt, decide_eq_false hlt, hfull]
          exact ⟨[0], by simp [sisOut, sisNo, hpf]⟩
        obtain ⟨r1, r2, hC1, hC2, hR1, hR2, hR3, hp1, hp2⟩ := step_two (T := fun left par dec pf r => ∀ own, decOk v par dec own → sisT v cls left own dec pf r) (B := 600) hv ih2 hF hR hfull hql hqt (by omega) (by omega) hdl hdk (by omega) hpc
        clear hR ih2 hF
        have hlt : zeroAt q < q.length := by omega
        have hx0 := hz0 hlt
        replace hC1 := hC1 (q.set (zeroAt q) (-1)) (.inr ⟨dec, _, rfl, ⟨by omega, by omega, by omega⟩, (setLit_neg q _).symm⟩)
        replace hC2 := fun h => hC2 h (q.set (zeroAt q) 1) (.inr ⟨dec, _, rfl, ⟨by omega, by omega, by omega⟩, (setLit_pos q _).symm⟩)
        clear hz0
        generalize zeroAt q = z at *
        have wz : IntKind.i64.wrap ((z : Int) + 1) = (z : Int) + 1 := wrap_id (by omega) (by omega)
        have wn : IntKind.i64.wrap (-((z : Int) + 1)) = -((z : Int) + 1) := wrap_id (by omega) (by omega)
        have hzn : ¬ z = q.length := hfull
        have hzf : ((z : Int) == (q.length : Int)) = false := beq_false_of_ne (fun h => hzn (Int.ofNat.inj h))
        have hzg : (z == q.length) = false := beq_false_of_ne hzn
        have hsa := map_setI (q := q) (m := z) (v := -1)
        have hsb := map_setI (q := q) (m := z) (v := 1)
        generalize q.set z (-1) = qa at *
        generalize q.set z 1 = qb at *
        simp [decide_eq_true hlt, hx0, wz, wn, hzn, hzf, hzg]
        refine aw_loopN [true, false, true, false, false, false, false, true, false, true, true, false, false, false, false, false, false, false, false, false, false, false, false, false, false, false, false, false, false, false, false, false, false, false, false, false, false, false, false, false, false, false, false, false, false, false, false, false, false, false, false, false, false, false, false, false, false, false, false, false, false, false, false, false, false, false, false, false, false, false, false, false, false, false, false, false, false, false, false, false, false, false, false, false, false, false, false, false, false, false, false, false, false, false, false, false, false, false, false, false, false, false, false, false, false, false, false, false, false, false, false] (fun i : Nat => i = 0 ∨ (i = 1 ∧ r1.code = 2) ∨ (i = 2 ∧ r1.code = 2 ∧ r2.code = 2)) (fun i : Nat => [(7, .d (.sl 3 (q.map (e1 eInt)))), (10, .d (.int .i64 (2 * i - 1)))]) (fun i : Nat => fun _ => if i = 0 then [sisA v cls (.d (.int .i64 (left - 1 : Nat))) (.nil 24) .any] else if i = 1 then [sisA v cls (.d (.int .i64 (r1.left : Nat))) (.ref 1) .any, .arr 24 true (r1.pf.map enRow)] else [sisA v cls (.d (.int .i64 (r2.left : Nat))) (.ref 1) .any, .arr 24 true (r2.pf.map enRow)]) (fun i : Nat => 2 - i) 0 ?_ ?_ ?_
        · simp
        · exact ⟨[0], by simp⟩
        rintro I2 Z2 μ2 hI2 hS2 hμ2 i (rfl | ⟨rfl, hc1⟩ | ⟨rfl, hc1, hc2⟩)
        · simp
          refine app_data vt_el_24 rfl (by simp) rfl (by simp) (by simp) (by first | (simp; done) | (simp; omega)) (by simp [flatP, flatD]) ?_
          simp [hsa, hx0]
          refine app_data vt_el_24 rfl (by simp) rfl (by simp) (by simp) (by first | (simp; done) | (simp; omega)) (by simp [flatP, flatD]) ?_
          simp [wz, wn]
          refine app_data vt_el_24 rfl (by simp) rfl (by simp) (by simp) (by first | (simp; done) | (simp; omega)) (by simp [flatP, flatD]) ?_
          simp
          have hcc := hC1
          by_cases hk2 : r1.code = 2
          · simp only [sisT, sisIn, sisOut, sisOk, hpf, hk2, if_true, if_false] at hcc
            refine callT_step (hcc) [2, 6] [0] (by simp) ?_
            simp [hk2, show IntKind.i64.wrap 1 = 1 from rfl, show IntKind.i64.wrap 3 = 3 from rfl]
            exact round_of hI2 hS2 hμ2 1 (.inr (.inl ⟨rfl, hk2⟩)) (by simp) ⟨[0, 7], by simp⟩
          · have hRe := hR1 hk2
            subst hRe
            have hk3 : (R.code != 2) = true := by simpa using hk2
            by_cases hk1 : R.code = 1
            · simp only [sisT, sisIn, sisOut, sisNo, hpf, hk2, hk1, if_true, if_false] at hcc
              simp only [show ((1 : Int) = 2) = False by simp, if_false] at hcc
              refine callT_step (hcc) [2, 6] [0] (by simp) ?_
              simp [hk2, hk3, hk1]
              exact ⟨[0], by simp [sisOut, sisNo, hpf, hk2, hk1]⟩
            · simp only [sisT, sisIn, sisOut, sisNo, hpf, hk2, hk1, if_true, if_false] at hcc
              refine callT_step (hcc) [2, 6] [0] (by simp) ?_
              simp [hk2, hk3, hk1]
              exact ⟨[0], by simp [sisOut, sisNo, hpf, hk2, hk1]⟩
        · have hpn := hp1 hc1
          simp
          refine app_data vt_el_24 rfl (by simp) rfl (by simp) (by simp) (by first | (simp; done) | (simp; omega)) (by simp [flatP, flatD]) ?_
          simp [hsb, hx0]
          refine app_data vt_el_24 rfl (by simp) rfl (by simp) (by simp) (by first | (simp; done) | (simp; omega)) (by simp [flatP, flatD]) ?_
          simp [wz, wn]
          refine app_data vt_el_24 rfl (by simp) rfl (by simp) (by simp) (by first | (simp; done) | (simp; omega)) (by simp [flatP, flatD]) ?_
          simp
          have hcc := hC2 hc1
          by_cases hk2 : r2.code = 2
          · simp only [sisT, sisIn, sisOut, sisOk, hpn, hk2, if_true, if_false] at hcc
            refine callT_step (hcc) [3, 7] [0, 1] (by simp) ?_
            simp [hk2, show IntKind.i64.wrap 1 = 1 from rfl, show IntKind.i64.wrap 3 = 3 from rfl]
            exact round_of hI2 hS2 hμ2 2 (.inr (.inr ⟨rfl, hc1, hk2⟩)) (by simp) ⟨[0, 8], by simp⟩
          · have hRe := hR2 hc1 hk2
            subst hRe
            have hk3 : (R.code != 2) = true := by simpa using hk2
            by_cases hk1 : R.code = 1
            · simp only [sisT, sisIn, sisOut, sisNo, hpn, hk2, hk1, if_true, if_false] at hcc
              simp only [show ((1 : Int) = 2) = False by simp, if_false] at hcc
              refine callT_step (hcc) [3, 7] [0, 1] (by simp) ?_
              simp [hk2, hk3, hk1]
              exact ⟨[0], by simp [sisOut, sisNo, hpf, hk2, hk1]⟩
            · simp only [sisT, sisIn, sisOut, sisNo, hpn, hk2, hk1, if_true, if_false] at hcc
              refine callT_step (hcc) [3, 7] [0, 1] (by simp) ?_
              simp [hk2, hk3, hk1]
              exact ⟨[0], by simp [sisOut, sisNo, hpf, hk2, hk1]⟩
        · obtain ⟨hp3, hp4⟩ := hp2 hc1 hc2
          have hRe := hR3 hc1 hc2
          subst hRe
          simp
          refine aw_loopU [true, false, true, false, false, false, false, false, false, false, false, false, false, true, true, false, false, false, false, false, false, false, false, false, false, false, false, false, false, false, false, false, false, false, false, false, false, false, false, false, false, false, false, false, false, false, false, false, false, false, false, false, false, false, false, false, false, false, false, false, false, false, false, false, false, false, false, false, false, false, false, false, false, false, false, false, false, false, false, false, false, false, false, false, false, false, false, false, false, false, false, false, false, false, false, false, false, false, false, false, false, false, false, false, false, false, false, false, false, false, false] (fun i : Nat => i ≤ dec.length) (fun i : Nat => [(14, .d (.int .i64 i))]) (fun i : Nat => [(2, .arr 3 true ((negs (dec.take i)).map (e1 eInt)))]) (fun i : Nat => dec.length - i) 0 ?_ ?_ ?_
          · exact Nat.zero_le _
          · exact ⟨[0, 1, 2], by simp [negs]⟩
          rintro I3 Z3 μ3 hI3 hS3 hμ3 i hi
          by_cases hil : i < dec.length
          · have hx1 : dec[i]? = some dec[i] := List.getElem?_eq_getElem hil
            have w5 : IntKind.i64.wrap ((i : Int) + 1) = (i : Int) + 1 := wrap_id (by omega) (by omega)
            have hx := hdb _ (List.getElem_mem hil)
            have hn : negs (dec.take (i + 1)) = negs (dec.take i) ++ [-dec[i]] := by unfold negs; rw [take_snoc' hx1, List.map_append]; rfl
            have hl : (negs (dec.take i)).length = i := by unfold negs; simp; omega
            generalize dec[i] = y at *
            have w6 : IntKind.i64.wrap (-y) = -y := wrap_id (by omega) (by omega)
            generalize negs (dec.take i) = ms at *
            simp [decide_eq_true hil, hx1, w6]
            refine app_data vt_el_24 rfl (by simp) rfl (by simp) (by simp) (by first | (simp; done) | (simp; omega)) (by simp [flatP, flatD]) ?_
            simp [w5]
            exact round_of hI3 hS3 hμ3 (i + 1) (by omega) (by omega) ⟨[0, 1, 4], by simp [hn, e1, eInt]⟩
          have hi' : i = dec.length := by omega
          subst hi'
          rw [List.take_length]
          simp [decide_eq_false hil, hil]
          first | refine app_lit (q := 1) vt_el_40 (by exact rfl) (by simp) (by exact rfl) (by exact rfl) (by simp) (by simp) (by first | (simp; done) | (simp; omega)) ?_ | refine app_row vt_el_40 (by exact rfl) (by simp) (by exact rfl) (by simp) (by first | (simp; done) | (simp; omega)) ?_
          simp
          exact ⟨[0, 4], by simp [sisOut, sisOk, hpf, enRow, e1]⟩
    · simp [sisIn, hpf]
      by_cases h0 : left = 0
      · rw [if_pos h0] at hR
        subst hR h0
        simp [sisOut, sisNo, hpf]
        exact ⟨[0, 1], by simp⟩
      rw [if_neg h0] at hR
      have wv : IntKind.i64.wrap ((left : Int) - 1) = ((left - 1 : Nat) : Int) := by rw [wrap_id (by omega) (by omega)]; omega
      have h0b : ((left : Int) == 0) = false := beq_false_of_ne (by omega)
      have h0c : ¬ (left : Int) = 0 := by omega
      simp [h0, h0b, h0c, wv]
      have hP := sRun_con cls own _ rfl hc (by omega) hot (by rw [hol]; exact hcl)
      have hPf := fun q => propL_facts (cls := cls) (p := own) (p' := q) (by rw [hol]; exact hcl) hot
      generalize propL cls own = Rq at *
      refine call_step (hP) ?_
      simp
      cases Rq with
      | none =>
        simp only at hR
        subst hR
        simp
        refine aw_loopU [true, false, true, false, false, false, false, false, false, false, false, false, false, true, true, false, false, false, false, false, false, false, false, false, false, false, false, false, false, false, false, false, false, false, false, false, false, false, false, false, false, false, false, false, false, false, false, false, false, false, false, false, false, false, false, false, false, false, false, false, false, false, false, false, false, false, false, false, false, false, false, false, false, false, false, false, false, false, false, false, false, false, false, false, false, false, false, false, false, false, false, false, false, false, false, false, false, false, false, false, false, false, false, false, false, false, false, false, false, false, false] (fun i : Nat => i ≤ dec.length) (fun i : Nat => [(14, .d (.int .i64 i))]) (fun i : Nat => [(3, .arr 3 true ((negs (dec.take i)).map (e1 eInt)))]) (fun i : Nat => dec.length - i) 0 ?_ ?_ ?_
        · exact Nat.zero_le _
        · exact ⟨[0, 1, 2, 3], by simp [negs]⟩
        rintro I3 Z3 μ3 hI3 hS3 hμ3 i hi
        by_cases hil : i < dec.length
        · have hx1 : dec[i]? = some dec[i] := List.getElem?_eq_getElem hil
          have w5 : IntKind.i64.wrap ((i : Int) + 1) = (i : Int) + 1 := wrap_id (by omega) (by omega)
          have hx := hdb _ (List.getElem_mem hil)
          have hn : negs (dec.take (i + 1)) = negs (dec.take i) ++ [-dec[i]] := by unfold negs; rw [take_snoc' hx1, List.map_append]; rfl
          have hl : (negs (dec.take i)).length = i := by unfold negs; simp; omega
          generalize dec[i] = y at *
          have w6 : IntKind.i64.wrap (-y) = -y := wrap_id (by omega) (by omega)
          generalize negs (dec.take i) = ms at *
          simp [decide_eq_true hil, hx1, w6]
          refine app_data vt_el_24 rfl (by simp) rfl (by simp) (by simp) (by first | (simp; done) | (simp; omega)) (by simp [flatP, flatD]) ?_
          simp [w5]
          exact round_of hI3 hS3 hμ3 (i + 1) (by omega) (by omega) ⟨[0, 1, 2, 5], by simp [hn, e1, eInt]⟩
        have hi' : i = dec.length := by omega
        subst hi'
        rw [List.take_length]
        simp [decide_eq_false hil, hil]
        first | refine app_lit (q := 1) vt_el_40 (by exact rfl) (by simp) (by exact rfl) (by exact rfl) (by simp) (by simp) (by first | (simp; done) | (simp; omega)) ?_ | refine app_row vt_el_40 (by exact rfl) (by simp) (by exact rfl) (by simp) (by first | (simp; done) | (simp; omega)) ?_
        simp
        exact ⟨[0, 1, 5], by simp [sisOut, sisOk, hpf, enRow, e1]⟩
      | some q =>
        obtain ⟨hql, hqt, -⟩ := hPf q rfl
        rw [hol] at hql
        have hzl := zeroAt_le q
        have hz0 := zeroAt_zero (q := q)
        replace hR : srchB S (left - 1) dec pf q = R := hR
        simp
        refine aw_loopU [true, false, true, false, false, false, false, true, false, true, false, false, false, false, false, false, false, false, false, false, false, false, false, false, false, false, false, false, false, false, false, false, false, false, false, false, false, false, false, false, false, false, false, false, false, false, false, false, false, false, false, false, false, false, false, false, false, false, false, false, false, false, false, false, false, false, false, false, false, false, false, false, false, false, false, false, false, false, false, false, false, false, false, false, false, false, false, false, false, false, false, false, false, false, false, false, false, false, false, false, false, false, false, false, false, false, false, false, false, false, false] (fun i : Nat => i ≤ q.length ∧ zeroAt (q.drop i) + i = zeroAt q) (fun i : Nat => [(9, .d (.int .i64 i))]) (fun i : Nat => []) (fun i : Nat => q.length - i) 0 ?_ ?_ ?_
        · exact ⟨by omega, by simp⟩
        · exact ⟨[0, 1, 2], by simp⟩
        rintro I Z μ hI hS hμ i ⟨hi, hzi⟩
        by_cases hend : i = zeroAt q
        case neg =>
          have hlt : i < q.length := by
            rcases Nat.lt_or_ge i q.length with h | h
            · exact h
            · rw [List.drop_eq_nil_of_le h, zeroAt] at hzi; omega
          have hx1 : q[i]? = some q[i] := List.getElem?_eq_getElem hlt
          rw [zeroAt_at hx1] at hzi
          generalize q[i] = y at *
          by_cases hy : y = 0
          · rw [if_pos hy] at hzi; omega
          rw [if_neg hy] at hzi
          have w5 : IntKind.i64.wrap ((i : Int) + 1) = (i : Int) + 1 := wrap_id (by omega) (by omega)
          simp [decide_eq_true hlt, hx1, hy, show (y != 0) = true by simpa using hy, w5]
          exact round_of hI hS hμ (i + 1) ⟨by omega, by omega⟩ (by omega) ⟨[0, 1, 2], by simp⟩
        subst hend
        clear hzi
        by_cases hfull : zeroAt q = q.length
        · have hRf := srchB_full hR hfull
          clear hR
          subst hRf
          have hlt : ¬ zeroAt q < q.length := by omega
          simp [hlt, decide_eq_false hlt, hfull]
          exact ⟨[0, 1], by simp [sisOut, sisNo, hpf]⟩
        obtain ⟨r1, r2, hC1, hC2, hR1, hR2, hR3, hp1, hp2⟩ := step_two (T := fun left par dec pf r => ∀ own, decOk v par dec own → sisT v cls left own dec pf r) (B := 600) hv ih2 hF hR hfull hql hqt (by omega) (by omega) hdl hdk (by omega) hpc
        clear hR ih2 hF
        have hlt : zeroAt q < q.length := by omega
        have hx0 := hz0 hlt
        replace hC1 := hC1 (q.set (zeroAt q) (-1)) (.inr ⟨dec, _, rfl, ⟨by omega, by omega, by omega⟩, (setLit_neg q _).symm⟩)
        replace hC2 := fun h => hC2 h (q.set (zeroAt q) 1) (.inr ⟨dec, _, rfl, ⟨by omega, by omega, by omega⟩, (setLit_pos q _).symm⟩)
        clear hz0
        generalize zeroAt q = z at *
        have wz : IntKind.i64.wrap ((z : Int) + 1) = (z : Int) + 1 := wrap_id (by omega) (by omega)
        have wn : IntKind.i64.wrap (-((z : Int) + 1)) = -((z : Int) + 1) := wrap_id (by omega) (by omega)
        have hzn : ¬ z = q.length := hfull
        have hzf : ((z : Int) == (q.length : Int)) = false := beq_false_of_ne (fun h => hzn (Int.ofNat.inj h))
        have hzg : (z == q.length) = false := beq_false_of_ne hzn
        have hsa := map_setI (q := q) (m := z) (v := -1)
        have hsb := map_setI (q := q) (m := z) (v := 1)
        generalize q.set z (-1) = qa at *
        generalize q.set z 1 = qb at *
        simp [decide_eq_true hlt, hx0, wz, wn, hzn, hzf, hzg]
        refine aw_loopN [true, false, true, false, false, false, false, true, false, true, true, false, false, false, false, false, false, false, false, false, false, false, false, false, false, false, false, false, false, false, false, false, false, false, false, false, false, false, false, false, false, false, false, false, false, false, false, false, false, false, false, false, false, false, false, false, false, false, false, false, false, false, false, false, false, false, false, false, false, false, false, false, false, false, false, false, false, false, false, false, false, false, false, false, false, false, false, false, false, false, false, false, false, false, false, false, false, false, false, false, false, false, false, false, false, false, false, false, false, false, false] (fun i : Nat => i = 0 ∨ (i = 1 ∧ r1.code = 2) ∨ (i = 2 ∧ r1.code = 2 ∧ r2.code = 2)) (fun i : Nat => [(7, .d (.sl 3 (q.map (e1 eInt)))), (10, .d (.int .i64 (2 * i - 1)))]) (fun i : Nat => fun _ => if i = 0 then [sisA v cls (.d (.int .i64 (left - 1 : Nat))) (.ref 1) .any, .arr 24 true (pf.map enRow)] else if i = 1 then [sisA v cls (.d (.int .i64 (r1.left : Nat))) (.ref 2) .any, .dead, .arr 24 true (r1.pf.map enRow)] else [sisA v cls (.d (.int .i64 (r2.left : Nat))) (.ref 2) .any, .dead, .arr 24 true (r2.pf.map enRow)]) (fun i : Nat => 2 - i) 0 ?_ ?_ ?_
        · simp
        · exact ⟨[0, 1], by simp⟩
        rintro I2 Z2 μ2 hI2 hS2 hμ2 i (rfl | ⟨rfl, hc1⟩ | ⟨rfl, hc1, hc2⟩)
        · simp
          refine app_data vt_el_24 rfl (by simp) rfl (by simp) (by simp) (by first | (simp; done) | (simp; omega)) (by simp [flatP, flatD]) ?_
          simp [hsa, hx0]
          refine app_data vt_el_24 rfl (by simp) rfl (by simp) (by simp) (by first | (simp; done) | (simp; omega)) (by simp [flatP, flatD]) ?_
          simp [wz, wn]
          refine app_data vt_el_24 rfl (by simp) rfl (by simp) (by simp) (by first | (simp; done) | (simp; omega)) (by simp [flatP, flatD]) ?_
          simp
          have hcc := hC1
          by_cases hk2 : r1.code = 2
          · simp only [sisT, sisIn, sisOut, sisOk, hpf, hk2, if_true, if_false] at hcc
            refine callT_step (hcc) [3, 7] [0, 1] (by simp) ?_
            simp [hk2, show IntKind.i64.wrap 1 = 1 from rfl, show IntKind.i64.wrap 3 = 3 from rfl]
            exact round_of hI2 hS2 hμ2 1 (.inr (.inl ⟨rfl, hk2⟩)) (by simp) ⟨[0, 1, 8], by simp⟩
          · have hRe := hR1 hk2
            subst hRe
            have hk3 : (R.code != 2) = true := by simpa using hk2
            by_cases hk1 : R.code = 1
            · simp only [sisT, sisIn, sisOut, sisNo, hpf, hk2, hk1, if_true, if_false] at hcc
              simp only [show ((1 : Int) = 2) = False by simp, if_false] at hcc
              refine callT_step (hcc) [3, 7] [0, 1] (by simp) ?_
              simp [hk2, hk3, hk1]
              exact ⟨[0, 1], by simp [sisOut, sisNo, hpf, hk2, hk1]⟩
            · simp only [sisT, sisIn, sisOut, sisNo, hpf, hk2, hk1, if_true, if_false] at hcc
              refine callT_step (hcc) [3, 7] [0, 1] (by simp) ?_
              simp [hk2, hk3, hk1]
              exact ⟨[0, 1], by simp [sisOut, sisNo, hpf, hk2, hk1]⟩
        · have hpn := hp1 hc1
          simp
          refine app_data vt_el_24 rfl (by simp) rfl (by simp) (by simp) (by first | (simp; done) | (simp; omega)) (by simp [flatP, flatD]) ?_
          simp [hsb, hx0]
          refine app_data vt_el_24 rfl (by simp) rfl (by simp) (by simp) (by first | (simp; done) | (simp; omega)) (by simp [flatP, flatD]) ?_
          simp [wz, wn]
          refine app_data vt_el_24 rfl (by simp) rfl (by simp) (by simp) (by first | (simp; done) | (simp; omega)) (by simp [flatP, flatD]) ?_
          simp
          have hcc := hC2 hc1
          by_cases hk2 : r2.code = 2
          · simp only [sisT, sisIn, sisOut, sisOk, hpn, hk2, if_true, if_false] at hcc
            refine callT_step (hcc) [4, 8] [0, 2] (by simp) ?_
            simp [hk2, show IntKind.i64.wrap 1 = 1 from rfl, show IntKind.i64.wrap 3 = 3 from rfl]
            exact round_of hI2 hS2 hμ2 2 (.inr (.inr ⟨rfl, hc1, hk2⟩)) (by simp) ⟨[0, 1, 9], by simp⟩
          · have hRe := hR2 hc1 hk2
            subst hRe
            have hk3 : (R.code != 2) = true := by simpa using hk2
            by_cases hk1 : R.code = 1
            · simp only [sisT, sisIn, sisOut, sisNo, hpn, hk2, hk1, if_true, if_false] at hcc
              simp only [show ((1 : Int) = 2) = False by simp, if_false] at hcc
              refine callT_step (hcc) [4, 8] [0, 2] (by simp) ?_
              simp [hk2, hk3, hk1]
              exact ⟨[0, 1], by simp [sisOut, sisNo, hpf, hk2, hk1]⟩
            · simp only [sisT, sisIn, sisOut, sisNo, hpn, hk2, hk1, if_true, if_false] at hcc
              refine callT_step (hcc) [4, 8] [0, 2] (by simp) ?_
              simp [hk2, hk3, hk1]
              exact ⟨[0, 1], by simp [sisOut, sisNo, hpf, hk2, hk1]⟩
        · obtain ⟨hp3, hp4⟩ := hp2 hc1 hc2
          have hRe := hR3 hc1 hc2
          subst hRe
          simp
          refine aw_loopU [true, false, true, false, false, false, false, false, false, false, false, false, false, true, true, false, false, false, false, false, false, false, false, false, false, false, false, false, false, false, false, false, false, false, false, false, false, false, false, false, false, false, false, false, false, false, false, false, false, false, false, false, false, false, false, false, false, false, false, false, false, false, false, false, false, false, false, false, false, false, false, false, false, false, false, false, false, false, false, false, false, false, false, false, false, false, false, false, false, false, false, false, false, false, false, false, false, false, false, false, false, false, false, false, false, false, false, false, false, false, false] (fun i : Nat => i ≤ dec.length) (fun i : Nat => [(14, .d (.int .i64 i))]) (fun i : Nat => [(3, .arr 3 true ((negs (dec.take i)).map (e1 eInt)))]) (fun i : Nat => dec.length - i) 0 ?_ ?_ ?_
          · exact Nat.zero_le _
          · exact ⟨[0, 1, 2, 3], by simp [negs]⟩
          rintro I3 Z3 μ3 hI3 hS3 hμ3 i hi
          by_cases hil : i < dec.length
          · have hx1 : dec[i]? = some dec[i] := List.getElem?_eq_getElem hil
            have w5 : IntKind.i64.wrap ((i : Int) + 1) = (i : Int) + 1 := wrap_id (by omega) (by omega)
            have hx := hdb _ (List.getElem_mem hil)
            have hn : negs (dec.take (i + 1)) = negs (dec.take i) ++ [-dec[i]] := by unfold negs; rw [take_snoc' hx1, List.map_append]; rfl
            have hl : (negs (dec.take i)).length = i := by unfold negs; simp; omega
            generalize dec[i] = y at *
            have w6 : IntKind.i64.wrap (-y) = -y := wrap_id (by omega) (by omega)
            generalize negs (dec.take i) = ms at *
            simp [decide_eq_true hil, hx1, w6]
            refine app_data vt_el_24 rfl (by simp) rfl (by simp) (by simp) (by first | (simp; done) | (simp; omega)) (by simp [flatP, flatD]) ?_
            simp [w5]
            exact round_of hI3 hS3 hμ3 (i + 1) (by omega) (by omega) ⟨[0, 1, 2, 5], by simp [hn, e1, eInt]⟩
          have hi' : i = dec.length := by omega
          subst hi'
          rw [List.take_length]
          simp [decide_eq_false hil, hil]
          first | refine app_lit (q := 1) vt_el_40 (by exact rfl) (by simp) (by exact rfl) (by exact rfl) (by simp) (by simp) (by first | (simp; done) | (simp; omega)) ?_ | refine app_row vt_el_40 (by exact rfl) (by simp) (by exact rfl) (by simp) (by first | (simp; done) | (simp; omega)) ?_
          simp
          exact ⟨[0, 1, 5], by simp [sisOut, sisOk, hpf, enRow, e1]⟩
--@@end step
end Go.Proofs.Ytoppcdccplgalaa
