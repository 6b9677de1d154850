/-
  Regions whose order is drawn: the abstract operations do not mind which other slots there are; new slots are listed where they belong. Plain lemmas, about no function of the program.
  Conditions: those typed in each theorem.
-/
import Derived.Test.YtdliejnmpdodhaaVk
namespace Go.Proofs.Ytdliejnmpdodhaa
open Go.RowKit Go.ChangeShapes Go.WideShapes
set_option linter.unusedVariables false

section
variable {P : Program} {w0 : Base} {st : Bool} {w w' : World} {φ φ' : Hdrs} {σ σ' : St} {a : Act} {sl sl' : List Slot} {Fs Fs' : List (List Nat)}
/-- The slots that a value of one cell names. -/
def names0 (x : V) : List Nat :=
  match x with
  | .ref s | .lit s _ | .ptr s _ | .eptr s _ _ _ => [s]
  | _ => []
def names1 (x : V) : List Nat :=
  match x with
  | .agg xs => xs.flatMap names0
  | x => names0 x
def namesV (x : V) : List Nat :=
  match x with
  | .fn _ xs => xs.flatMap names1
  | x => names1 x
/-- What is listed in sl under these names is listed in sl' too. -/
def Known (sl sl' : List Slot) (ns : List Nat) : Prop := ∀ s ∈ ns, ∀ y, sl[s]? = some y → sl'[s]? = some y
theorem lenV_mono {x : V} {n : Nat} (h : lenV sl x = some n) (hk : Known sl sl' (names0 x)) : lenV sl' x = some n := by
  unfold lenV at h ⊢
  split at h
  · exact h
  · exact h
  · split at h
    · rename_i hs; rw [hk _ (by simp [names0]) _ hs]; exact h
    · cases h
  · split at h
    · rename_i hs; rw [hk _ (by simp [names0]) _ hs]; exact h
    · cases h
  · cases h
theorem indexV_mono {t : TypeId} {x y : V} {i : Int} (h : indexV P t sl x i = some y) (hk : Known sl sl' (names0 x)) : indexV P t sl' x i = some y := by
  unfold indexV at h ⊢
  split at h
  · cases h
  split at h
  · cases h
  rename_i hi
  rw [if_neg hi]
  split at h
  · exact h
  · split at h
    · rename_i hs; rw [hk _ (by simp [names0]) _ hs]; exact h
    · cases h
  · split at h
    · rename_i hs; rw [hk _ (by simp [names0]) _ hs]; exact h
    · cases h
  · cases h
theorem loadV_mono {t : TypeId} {x y : V} (h : loadV P st t sl x = some y) (hk : Known sl sl' (names0 x)) : loadV P st t sl' x = some y := by
  unfold loadV at h ⊢
  split at h
  · cases h
  rename_i hi
  rw [if_neg hi]
  split at h
  · exact h
  · split at h
    · rename_i hs; rw [hk _ (by simp [names0]) _ hs]; exact h
    · cases h
  · split at h
    · rename_i hs; rw [hk _ (by simp [names0]) _ hs]; exact h
    · cases h
  · cases h
theorem fieldAddrV_mono {t : TypeId} {x y : V} {f : Nat} (h : fieldAddrV P t sl x f = some y) (hk : Known sl sl' (names0 x)) : fieldAddrV P t sl' x f = some y := by
  unfold fieldAddrV at h ⊢
  split at h
  · cases h
  split at h
  · cases h
  rename_i hi
  rw [if_neg hi]
  split at h
  · exact h
  · split at h
    · rename_i hs; rw [hk _ (by simp [names0]) _ hs]; exact h
    · cases h
  · split at h
    · rename_i hs; rw [hk _ (by simp [names0]) _ hs]; exact h
    · cases h
  · cases h
theorem presD_mono {x : V} {d : D} (h : presD sl x = some d) (hk : Known sl sl' (names0 x)) : presD sl' x = some d := by
  unfold presD at h ⊢
  split at h
  · exact h
  · exact h
  · split at h
    · rename_i hs; rw [hk _ (by simp [names0]) _ hs]; exact h
    · cases h
  · cases h
theorem presDs_mono : ∀ {xs : List V} {ds : List D}, presDs sl xs = some ds → Known sl sl' (xs.flatMap names0) → presDs sl' xs = some ds
  | [], ds, h, _ => h
  | x :: xs, ds, h, hk => by
    unfold presDs at h ⊢
    split at h
    · rename_i d ds' h1 h2
      rw [presD_mono h1 (fun s hs => hk s (by simp [hs])), presDs_mono h2 (fun s hs => hk s (by simp only [List.flatMap_cons, List.mem_append]; exact .inr hs))]
      exact h
    · cases h
theorem pres_mono {x : V} {r : X} (h : pres sl x = some r) (hk : Known sl sl' (names1 x)) : pres sl' x = some r := by
  unfold pres at h ⊢
  split at h
  · rw [Option.map_eq_some_iff] at h
    obtain ⟨ds, h1, rfl⟩ := h
    rw [presDs_mono h1 hk]
    rfl
  · rename_i hna
    rw [Option.map_eq_some_iff] at h
    obtain ⟨d, h1, rfl⟩ := h
    have : names1 x = names0 x := by
      unfold names1
      split
      · exact absurd rfl (hna _)
      · rfl
    rw [this] at hk
    rw [presD_mono h1 hk]
    rfl
theorem presAll_mono : ∀ {xs : List V} {rs : List X}, presAll sl xs = some rs → Known sl sl' (xs.flatMap names1) → presAll sl' xs = some rs
  | [], ds, h, _ => h
  | x :: xs, ds, h, hk => by
    unfold presAll at h ⊢
    split at h
    · rename_i d ds' h1 h2
      rw [pres_mono h1 (fun s hs => hk s (by simp only [List.flatMap_cons, List.mem_append]; exact .inl hs)), presAll_mono h2 (fun s hs => hk s (by simp only [List.flatMap_cons, List.mem_append]; exact .inr hs))]
      exact h
    · cases h
/-- The same operation in another state: its operands are the same, and so is what they name. -/
structure SameFor (o : Oper) (σ σ' : St) : Prop where
  ev : ∀ x ∈ o.op.operands.toList, σ'.eval x = σ.eval x
  kn : ∀ x ∈ o.op.operands.toList, Known σ.slots σ'.slots (namesV (σ.eval x))
theorem names0_sub (x : V) : ∀ s ∈ names0 x, s ∈ namesV x := by
  intro s hs
  cases x <;> simp_all [names0, names1, namesV]
theorem names1_sub (x : V) : ∀ s ∈ names1 x, s ∈ namesV x := by
  intro s hs
  cases x <;> simp_all [names0, names1, namesV]
theorem boundV_mono {x : Option Operand} {d : Nat} (h : ∀ y, x = some y → σ'.eval y = σ.eval y) : boundV σ' x d = boundV σ x d := by
  cases x with
  | none => rfl
  | some y => simp only [boundV, h y rfl]
theorem apure_mono {o : Oper} {y : V} (h : apure P st σ o = some y) (hs : SameFor o σ σ') : apure P st σ' o = some y := by
  have hev := hs.ev
  have hkn : ∀ x ∈ o.op.operands.toList, Known σ.slots σ'.slots (names0 (σ.eval x)) := fun x hx s hn => hs.kn x hx s (names0_sub _ s hn)
  unfold apure at h ⊢
  split at h
  · rename_i x ho
    rw [ho] at hev
    have e : evalT P o.type σ' x = evalT P o.type σ x := by
      unfold evalT
      split <;> first | rfl | exact hev _ (by simp [Op.operands])
    rw [e]; exact h
  · rename_i x ho
    rw [ho] at hev
    have e : evalT P o.type σ' x = evalT P o.type σ x := by
      unfold evalT
      split <;> first | rfl | exact hev _ (by simp [Op.operands])
    rw [e]; exact h
  · rename_i c x y ho
    rw [ho] at hev
    rw [hev c (by simp [Op.operands]), hev x (by simp [Op.operands]), hev y (by simp [Op.operands])]; exact h
  · rename_i op t x y yt ho
    rw [ho] at hev
    rw [hev x (by simp [Op.operands]), hev y (by simp [Op.operands])]; exact h
  · rename_i op t x ho
    rw [ho] at hev
    rw [hev x (by simp [Op.operands])]; exact h
  · rename_i s d x ho
    rw [ho] at hev
    rw [hev x (by simp [Op.operands])]; exact h
  · rename_i c ho
    rw [ho] at hev hkn
    split at h
    · rename_i b hb
      have hmem : ∀ x ∈ c.args.toList, x ∈ (Op.call c).operands.toList := fun x hx => by simp only [Op.operands, Call.operands, hb]; simpa using hx
      have e : c.args.toList.map σ'.eval = c.args.toList.map σ.eval := List.map_congr_left fun x hx => hev x (hmem x hx)
      rw [e]
      generalize hxs : c.args.toList.map σ.eval = xs at *
      have hk2 : ∀ x ∈ xs, Known σ.slots σ'.slots (names0 x) := by
        intro x hx
        rw [← hxs] at hx
        obtain ⟨y, hy, rfl⟩ := List.mem_map.1 hx
        exact hkn y (hmem y hy)
      unfold abuiltin at h ⊢
      split at h
      · split at h
        · split at h
          · rename_i e' he
            rw [Option.map_eq_some_iff] at h
            obtain ⟨n, hn, rfl⟩ := h
            rw [lenV_mono hn (hk2 _ (by simp))]
            rfl
          · cases h
        · cases h
      · exact h
      · exact h
      · cases h
    · cases h
  · rename_i t x i ho
    rw [ho] at hev hkn
    rw [hev i (by simp [Op.operands]), hev x (by simp [Op.operands])]
    split at h
    · exact indexV_mono h (hkn x (by simp [Op.operands]))
    · cases h
  · rename_i t x ho
    rw [ho] at hev hkn
    rw [hev x (by simp [Op.operands])]
    exact loadV_mono h (hkn x (by simp [Op.operands]))
  · rename_i t x f ho
    rw [ho] at hev hkn
    rw [hev x (by simp [Op.operands])]
    exact fieldAddrV_mono h (hkn x (by simp [Op.operands]))
  · rename_i t x f ho
    rw [ho] at hev
    rw [hev x (by simp [Op.operands])]; exact h
  · rename_i x i ho
    rw [ho] at hev
    rw [hev x (by simp [Op.operands])]; exact h
  · rename_i x ho
    rw [ho] at hev hkn
    rw [hev x (by simp [Op.operands])]
    have hk := hkn x (by simp [Op.operands])
    split at h
    · rename_i s p hx
      rw [hx] at hk
      split at h
      · rename_i hsl; rw [hk s (by simp [names0]) _ hsl]; exact h
      · cases h
    · exact h
    · cases h
  · rename_i t ps ho
    rw [ho] at hev
    have e : ps.toList.map (fun p => (p.1, σ'.eval p.2)) = ps.toList.map (fun p => (p.1, σ.eval p.2)) := List.map_congr_left fun p hp => by
      rw [hev p.2 (by simp only [Op.operands]; simpa using ⟨p.1, by simpa using hp⟩)]
    rw [e]; exact h
  · rename_i f first caps ho
    rw [ho] at hev
    have e : caps.toList.map σ'.eval = caps.toList.map σ.eval := List.map_congr_left fun x hx => hev x (by simp only [Op.operands]; simp; exact .inr (by simpa using hx))
    rw [e]; exact h
  · rename_i t x lo hi ho
    rw [ho] at hev hkn
    rw [hev x (by simp [Op.operands])]
    have e1 : boundV σ' lo 0 = boundV σ lo 0 := boundV_mono fun y hy => hev y (by simp [Op.operands, hy])
    have e2 : ∀ n, boundV σ' hi n = boundV σ hi n := fun n => boundV_mono fun y hy => hev y (by simp [Op.operands, hy])
    split at h
    · rename_i n hn
      rw [lenV_mono hn (hkn x (by simp [Op.operands]))]
      simp only
      rw [e1, e2]
      exact h
    · cases h
  · cases h
theorem litV_eq {n : Nat} {t : TypeId} {len : Nat} {ps : List (Nat × V)} : litV P σ n t len ps = litV P σ' n t len ps := rfl
theorem aq_mono {n : Nat} {o : Oper} {x : V} {news : List Slot} (h : AQ P st n σ o x news) (hs : SameFor o σ σ') : AQ P st n σ' o x news := by
  have hp : apure P st σ o = some x ∧ news = [] → apure P st σ' o = some x ∧ news = [] := fun h => ⟨apure_mono h.1 hs, h.2⟩
  have hev := hs.ev
  have hkn := hs.kn
  unfold AQ at h ⊢
  split at h
  · exact h
  · rename_i t y ho
    rw [ho] at hev
    rw [hev y (by simp [Op.operands])]; exact h
  · rename_i t len ps ho
    rw [ho] at hev
    have e : ps.toList.map (fun p => (p.1, σ'.eval p.2)) = ps.toList.map (fun p => (p.1, σ.eval p.2)) := List.map_congr_left fun p hp => by
      rw [hev p.2 (by simp only [Op.operands]; simpa using ⟨p.1, by simpa using hp⟩)]
    rw [e]; exact h
  · rename_i t l c ho
    rw [ho] at hev
    rw [hev l (by simp [Op.operands]), hev c (by simp [Op.operands])]; exact h
  · rename_i c ho
    rw [ho] at hev hkn
    split at h
    · rename_i g hf
      have hg : g ∈ (Op.call c).operands.toList := by simp [Op.operands, Call.operands, hf]
      rw [hev g hg]
      split at h
      · rename_i f caps hfc
        obtain ⟨r, ⟨xs, h1, h3⟩, h2⟩ := h
        have hmem : ∀ x ∈ c.args.toList, x ∈ (Op.call c).operands.toList := fun x hx => by simp only [Op.operands, Call.operands, hf]; simp; exact .inr (by simpa using hx)
        have e : c.args.toList.map σ'.eval = c.args.toList.map σ.eval := List.map_congr_left fun x hx => hev x (hmem x hx)
        refine ⟨r, ⟨xs, ?_, h3⟩, h2⟩
        rw [e]
        refine presAll_mono h1 fun s hs => ?_
        obtain ⟨y, hy, hs⟩ := List.mem_flatMap.1 hs
        rcases List.mem_append.1 hy with hy | hy
        · obtain ⟨z, hz, rfl⟩ := List.mem_map.1 hy
          exact hkn z (hmem z hz) s (names1_sub _ s hs)
        · exact hkn g hg s (by rw [hfc]; exact List.mem_flatMap.2 ⟨y, hy, hs⟩)
      · exact h
    · exact hp h
  · exact hp h

/-- Slots that were listed ahead of time come to be. -/
theorem turn_born (hm : MemR P w0 φ sl w Fs) {n : Nat} {x : V} {news : List Slot} {v : Value} (h : QPost w0.R P n φ sl w x news v w') (hn : n + news.length ≤ sl.length) (hub : ∀ i, i < news.length → sl[n + i]? = some .unborn) :
    ∃ φ', Turn P w0 φ sl w φ' (putAt sl n news) w' ∧ VR w' (good w0.R φ' (putAt sl n news) w') φ' (putAt sl n news) x v := by
  obtain ⟨ψ, Fn, hmade, hq⟩ := h
  have hnφ : n + ψ.length ≤ φ.length := by rw [hmade.plen, hm.flen]; exact hn
  have hnF : n + Fn.length ≤ Fs.length := by rw [hmade.Flen, hm.Flen]; exact hn
  have hO : Only [] w w' := Only.of_below hmade.below
  have old : ∀ {i : Nat}, ¬ (n ≤ i ∧ i < n + news.length) → (putAt sl n news)[i]? = sl[i]? ∧ (putAt φ n ψ)[i]? = φ[i]? ∧ (putAt Fs n Fn)[i]? = Fs[i]? := by
    intro i hi
    rw [putAt_at hn, putAt_at hnφ, putAt_at hnF, hmade.plen, hmade.Flen]
    by_cases h1 : i < n
    · simp [h1]
    · have h2 : ¬ i < n + news.length := fun h => hi ⟨by omega, h⟩
      simp [h1, h2]
  have new : ∀ {i : Nat}, i < news.length → (putAt sl n news)[n + i]? = news[i]? ∧ (putAt φ n ψ)[n + i]? = ψ[i]? ∧ (putAt Fs n Fn)[n + i]? = Fn[i]? := by
    intro i hi
    rw [putAt_at hn, putAt_at hnφ, putAt_at hnF, hmade.plen, hmade.Flen]
    have h1 : ¬ n + i < n := by omega
    have h2 : n + i < n + news.length := by omega
    simp [h1, h2]
  have split : ∀ i : Nat, (∃ j, j < news.length ∧ i = n + j) ∨ ¬ (n ≤ i ∧ i < n + news.length) := by
    intro i
    by_cases h : n ≤ i ∧ i < n + news.length
    · exact .inl ⟨i - n, by omega, by omega⟩
    · exact .inr h
  have hs : ∀ (s : Nat) (x : Slot), sl[s]? = some x → ∃ x', (putAt sl n news)[s]? = some x' ∧ Later x x' := by
    intro s x hx
    rcases split s with ⟨j, hj, rfl⟩ | hn'
    · rw [hub j hj] at hx
      cases hx
      exact ⟨news[j], by rw [(new hj).1]; exact List.getElem?_eq_getElem hj, by simp [Later]⟩
    · exact ⟨x, by rw [(old hn').1]; exact hx, Later.refl x⟩
  have hp : ∀ (s : Nat) (h : Option Nat × Nat), φ[s]? = some h → sl[s]? ≠ some .unborn → (putAt φ n ψ)[s]? = some h := by
    intro s h hh hu
    rcases split s with ⟨j, hj, rfl⟩ | hn'
    · exact absurd (hub j hj) hu
    · rw [(old hn').2.1]; exact hh
  have hT : ∀ b, top (putAt φ n ψ) (putAt sl n news) b → w.heap.size ≤ b ∨ top φ sl b := by
    rintro b ⟨s, x, c, h1, h2, h3⟩
    rcases split s with ⟨j, hj, rfl⟩ | hn'
    · rw [(new hj).2.1] at h3
      exact .inl (hmade.hd _ b c h3)
    · rw [(old hn').1] at h1
      rw [(old hn').2.1] at h3
      exact .inr ⟨s, x, c, h1, h2, h3⟩
  have he : Ext w0.R φ sl w (putAt φ n ψ) (putAt sl n news) w' := ⟨good_mono hO (by simp) hT, hs, hp⟩
  obtain ⟨q1, q2⟩ := hq _ _ he (fun i hi => ⟨(new hi).1, (new hi).2.1⟩)
  -- the blocks
  have hcnt : ∀ q, cnt q (putAt Fs n Fn) ≤ cnt q Fs + Fn.flatten.count q := by
    intro q
    have h1 : cnt q Fs = cnt q (Fs.take n) + cnt q ((Fs.drop n).take Fn.length) + cnt q (Fs.drop (n + Fn.length)) := by
      have e1 : cnt q (Fs.take n ++ Fs.drop n) = cnt q Fs := by rw [List.take_append_drop]
      have e2 : cnt q ((Fs.drop n).take Fn.length ++ (Fs.drop n).drop Fn.length) = cnt q (Fs.drop n) := by rw [List.take_append_drop]
      rw [List.drop_drop] at e2
      simp only [cnt, List.flatten_append, List.count_append] at e1 e2 ⊢
      omega
    have h2 : cnt q (putAt Fs n Fn) = cnt q (Fs.take n) + Fn.flatten.count q + cnt q (Fs.drop (n + Fn.length)) := by
      simp [cnt, putAt, Nat.add_assoc]
    omega
  refine ⟨putAt φ n ψ, hm.turn (Fs' := putAt Fs n Fn) hO (by simp) (by rw [putAt_length hnφ, putAt_length hn, hm.flen]) (by rw [putAt_length hnF, putAt_length hn, hm.Flen]) ?_ ?_ hs hp hT ?_, q2⟩
  · rw [List.nodup_iff_count]
    intro q
    have h1 := hcnt q
    have h2 := List.nodup_iff_count.1 hm.nd q
    have h3 := List.nodup_iff_count.1 hmade.nd q
    simp only [cnt] at h1
    by_cases hq1 : q ∈ Fn.flatten
    · have h4 := hmade.ge q hq1
      have h5 : Fs.flatten.count q = 0 := List.count_eq_zero.2 fun h => by have := hm.lt q h; omega
      omega
    · have h5 : Fn.flatten.count q = 0 := List.count_eq_zero.2 hq1
      omega
  · intro q hq
    have h1 := hcnt q
    have h2 := List.count_pos_iff.2 hq
    simp only [cnt] at h1
    by_cases hq1 : q ∈ Fn.flatten
    · have := hmade.ge q hq1
      have := hm.only.size
      exact .inr (by omega)
    · have h5 : Fn.flatten.count q = 0 := List.count_eq_zero.2 hq1
      exact hm.ge q (List.count_pos_iff.1 (by omega))
  · intro s x h F h1 h2 h3
    rcases split s with ⟨j, hj, rfl⟩ | hn'
    · rw [(new hj).1] at h1
      rw [(new hj).2.1] at h2
      rw [(new hj).2.2] at h3
      exact .inr (q1 j x h F h1 h2 h3)
    · rw [(old hn').1] at h1
      rw [(old hn').2.1] at h2
      rw [(old hn').2.2] at h3
      exact .inl ⟨h1, h2, h3, by simp⟩
end
end Go.Proofs.Ytdliejnmpdodhaa
