/-
  Steps and runs of networks of look-up tables, by abstract walks.
  Conditions: those typed in each theorem.
-/
import Derived.Test.YtklhofpjjbfckaaWl
namespace Go.Proofs.Ytklhofpjjbfckaa
open Go.RowKit Go.ChangeShapes Go.WideShapes
set_option linter.unusedVariables false
set_option linter.unusedSimpArgs false
attribute [local simp ↓] condG_true condG_false condB_true condB_false
attribute [local simp] AWp_skip AWp_region_t AWp_region_d AWp_region_f still_mk AWp_seq AWp_cond condV_bool condB AWp_block AWp_exit AWp_ret
attribute [local simp] AOps_nil AOp_move AOp_assign AOp_pick AOp_binOp AOp_unOp AOp_convert AOp_len AOp_max AOp_min AOp_indexAddr AOp_load
attribute [local simp] AOp_fieldAddr AOp_field AOp_extract AOp_nilCheck AOp_build AOp_alloc AOp_box AOp_call AOp_store AOp_append AOp_buildSlice nextB_some
attribute [local simp] nextB_none adoptO adoptC AOp_makeSlice AOp_slice AOp_makeFunc AOp_guard guardD_some guardG_bool guardG_undef nextO_some nextS_some
attribute [local simp] nextZ_some nextL_some nextM_some nextT_some sliceO sliceL sliceT partO partV boundV funcO pickO
attribute [local simp] convO lenO maxO minO idxO extO nilO buildO litO litC makeO chunks
attribute [local simp] fillV placeOf thenA inBlockA St.get St.put St.eval ofCell evalT abin_add abin_sub abin_mul
attribute [local simp] abin_quo abin_rem abin_and abin_or abin_xor abin_andNot abin_shl abin_shr abin_shlu abin_eql abin_eqp abin_neq
attribute [local simp] abin_lss abin_leq abin_gtr abin_geq abin_eqlb abin_neqb aun pickV lenV intOf? indexV takeD
attribute [local simp] takeV loadV fieldAddrV fieldV ofX presD presDs pres presAll cellsV V.cell storeV
attribute [local simp] freezeC putAt kill takeC plains plainV scalarV nat_neg keepT sets eSl e1
attribute [local simp] e2 e3 e4 eInt eBool afterCall inst inst1 inst1s instD instDs RetA
attribute [local simp] resVs resV gives give1 give1s Le isPin leSlots leS leTmps leV le0
attribute [local simp] le0s ren ren0 renS ren0s frame enterT afterT_some afterC_some lives Slot.live arrsOk
attribute [local simp] viewV view0 renT rens renSs setAll List.range'_succ RetT RetW joinV leT AOpsE_nil
attribute [local simp] AOpsE_cons AOpsT_nil AOpsT_cons isCallT isFnO callOf callVC_fn condC_true condC_false beginT_mk thenT_mk pickE
attribute [local simp] pickT isT loose namesOf namesV names1 names0 stableN sameAt Op.operands Call.operands
theorem seqNext_rng {k v i : Int} (h : rng v 0 (seqMostL k) = true) : rng (seqNextL k v i) 0 (seqMostL k) = true := by
  unfold seqNextL seqMostL at *
  by_cases h0 : k = 0
  · subst h0
    simp only [if_true] at h ⊢
    rw [h]
    exact rng_iff.2 (by simp; omega)
  by_cases h1 : k = 1
  · subst h1
    simp only [if_neg h0, if_true] at h ⊢
    rw [h]
    have he := ram_eq (rng_iff.1 h) (a := i % 4) (w := shr64 i 3 % 2) (d := shr64 i 2 % 2) (by omega) (by omega) (by omega)
    exact rng_iff.2 (by simp; omega)
  · simp only [if_neg h0, if_neg h1] at h
    have := rng_iff.1 h
    omega
theorem stateOk_at {x : NetD} {st : List Int} : stateOkB x st = true ↔ lutNetOkB x = true ∧ st.length = x.2.1.length ∧ ∀ (i : Nat) (v : Int) (s : SeqD), st[i]? = some v → x.2.1[i]? = some s → rng v 0 (seqMostL s.1) = true := by
  simp only [stateOkB, Bool.and_eq_true, decide_eq_true_eq, List.all_eq_true]
  constructor
  · rintro ⟨⟨h1, h2⟩, h3⟩
    refine ⟨h1, h2, fun i v s hv hs => h3 (v, s) (List.mem_of_getElem? (i := i) ?_)⟩
    simp [List.getElem?_zip_eq_some, hv, hs]
  · rintro ⟨h1, h2, h3⟩
    refine ⟨⟨h1, h2⟩, fun p hp => ?_⟩
    obtain ⟨i, hi⟩ := List.mem_iff_getElem?.1 hp
    obtain ⟨a, b⟩ := List.getElem?_zip_eq_some.1 hi
    exact h3 i _ _ a b
theorem nxtU_len {x : NetD} {st vals : List Int} (hl : st.length = x.2.1.length) : (nxtU x st vals).length = x.2.1.length := by simp [nxtU]; omega
theorem state_next {x : NetD} {st vals : List Int} (h : stateOkB x st = true) : stateOkB x (nxtU x st vals) = true := by
  obtain ⟨h1, h2, h3⟩ := stateOk_at.1 h
  refine stateOk_at.2 ⟨h1, nxtU_len h2, fun i v s hv hs => ?_⟩
  unfold nxtU at hv
  rw [List.getElem?_map, Option.map_eq_some_iff] at hv
  obtain ⟨p, hp, rfl⟩ := hv
  obtain ⟨a, b⟩ := List.getElem?_zip_eq_some.1 hp
  rw [a] at hs
  have e : p.1 = s := Option.some.inj hs
  have := h3 i _ _ b a
  unfold nxUF
  rw [← e]
  exact seqNext_rng this
theorem state_start {x : NetD} (h : lutNetOkB x = true) : stateOkB x (startU x) = true := by
  refine stateOk_at.2 ⟨h, by simp [startU], fun i v s hv hs => ?_⟩
  unfold startU at hv
  rw [List.getElem?_map, hs] at hv
  have e : s.2.1 = v := Option.some.inj hv
  have h1 := ((lutOk_of h).2.2.1 s (List.mem_of_getElem? hs)).1
  rw [← e]
  unfold seqOkB at h1
  unfold seqMostL
  split at h1
  · rename_i h0
    rw [if_pos h0]
    simp only [Bool.and_eq_true] at h1
    exact h1.1
  · rename_i h0
    rw [if_neg h0]
    split at h1
    · rename_i h2
      rw [if_pos h2]
      simp only [Bool.and_eq_true] at h1
      exact h1.1
    · cases h1
def runSt (x : NetD) (ins : List Int) : Nat → List Int
  | 0 => startU x
  | k + 1 => (stepU x (runSt x ins k) ((ins[k]?).getD 0)).1
def runOut (x : NetD) (ins : List Int) (k : Nat) : Int := (stepU x (runSt x ins k) ((ins[k]?).getD 0)).2
def runOuts (x : NetD) (ins : List Int) (k : Nat) : List Int := (List.range k).map (runOut x ins)
theorem runOuts_snoc {x : NetD} {ins : List Int} {k : Nat} : runOuts x ins (k + 1) = runOuts x ins k ++ [runOut x ins k] := by simp [runOuts, List.range_succ]
theorem runOuts_len {x : NetD} {ins : List Int} {k : Nat} : (runOuts x ins k).length = k := by simp [runOuts]
theorem runSt_ok {x : NetD} {ins : List Int} (h : lutNetOkB x = true) : ∀ k, stateOkB x (runSt x ins k) = true
  | 0 => state_start h
  | k + 1 => state_next (runSt_ok h k)
def lutRunL (x : NetD) (ins : List Int) : List Int := if lutNetOkB x = true ∧ ins.length ≤ 16 then runOuts x ins ins.length else []
set_option maxRecDepth 100000 in
set_option maxHeartbeats 1000000 in
theorem iLutRun_con (x : NetD) (ins : List Int) (hx : fitNet 1048576 x) (hi : ins.length ≤ 1048576) : ConC Try.prog 67 [inet x, ints ins] (ints (lutRunL x ins)) := by
  refine con_of (by kernel_rfl) Try.func67 rfl rfl rfl ?_
  simp [enNet]
  refine call_step (iLutNetOk_con x hx) ?_
  simp
  rcases Bool.eq_false_or_eq_true (lutNetOkB x) with hok | hok
  case inr => simp [hok, lutRunL]
  by_cases h16 : ins.length ≤ 16
  case neg => simp [hok, lutRunL, h16, show (16 : Int) < ins.length by omega, show ¬ (ins.length : Int) ≤ 16 by omega]
  have hres : lutRunL x ins = runOuts x ins ins.length := by simp [lutRunL, hok, h16]
  rw [hres]
  simp [hok, show ¬ (16 : Int) < ins.length by omega, show (ins.length : Int) ≤ 16 by omega]
  refine call_step (lutStart_con x hx) ?_
  simp
  refine aw_loopN [false, false, true, false, false, true, true, false, false, false, false, false, false, false, false, false, false, false, false, false, false, true, true, true, false, false, false, false, false, false, false, false, false, false, false, false, false, false, false, false, false] (fun k : Nat => k ≤ ins.length) (fun k : Nat => [(5, .ref 1), (6, nilR k 2), (23, .d (.int .i64 k))]) (fun k : Nat => fun sl => nilS k (runOuts x ins k) (sl.set 1 (.arr 3 true ((runSt x ins k).map (e1 eInt))))) (fun k : Nat => ins.length - k) 0 ?_ ?_ ?_
  · simp
  · exact ⟨[0, 1], by simp [nilR, nilS, runSt]⟩
  rintro I S μ hI hS hμ k hk
  by_cases hlt : k < ins.length
  · have hx1 : ins[k]? = some ins[k] := List.getElem?_eq_getElem hlt
    have w2 : IntKind.i64.wrap ((k : Int) + 1) = (k : Int) + 1 := wrap_id (by omega) (by omega)
    have hd : decide (k < ins.length) = true := decide_eq_true hlt
    have hso := runSt_ok (ins := ins) hok k
    have hc := lutStep_con x (runSt x ins k) ins[k] hx hok (stateOk_net hso).2
    have hn1 : runSt x ins (k + 1) = (stepU x (runSt x ins k) ins[k]).1 := by simp [runSt, hx1]
    have hn2 : runOuts x ins (k + 1) = runOuts x ins k ++ [(stepU x (runSt x ins k) ins[k]).2] := by rw [runOuts_snoc]; simp [runOut, hx1]
    have hlen := runOuts_len (x := x) (ins := ins) (k := k)
    generalize hst : runSt x ins k = st at *
    generalize ins[k] = u at *
    generalize stepU x st u = p at *
    generalize runOuts x ins k = os at *
    by_cases hk0 : k = 0
    · subst hk0
      have w20 : IntKind.i64.wrap 1 = 1 := by decide
      simp [nilR, nilS, hd, hx1]
      refine call_step (hc) ?_
      simp
      refine app_data vt_el_26 rfl (by simp) rfl (by simp) (by simp) (by first | (simp; done) | (simp; omega)) (by simp [flatP, flatD]) ?_
      simp [w20]
      exact round_of hI hS hμ 1 (by omega) (by omega) ⟨[0, 2, 4], by simp [nilR, nilS, hn1, hn2, show os = [] from List.eq_nil_of_length_eq_zero hlen]⟩
    · simp [nilR, nilS, hd, hx1, hk0]
      refine call_step (hc) ?_
      simp
      refine app_data vt_el_26 rfl (by simp) rfl (by simp) (by simp) (by first | (simp; done) | (simp; omega)) (by simp [flatP, flatD]) ?_
      simp [w2]
      exact round_of hI hS hμ (k + 1) (by omega) (by omega) ⟨[0, 3, 5], by simp [nilR, nilS, hn1, hn2]⟩
  · have hk' : k = ins.length := by omega
    subst hk'
    by_cases hk0 : ins.length = 0
    · simp [nilR, nilS, hk0, show runOuts x ins 0 = [] from rfl]
    · simp [nilR, nilS, hk0]
end Go.Proofs.Ytklhofpjjbfckaa
