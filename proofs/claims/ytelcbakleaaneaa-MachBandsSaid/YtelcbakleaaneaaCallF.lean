/- Calls of the program's functions. -/
import Derived.Test.YtelcbakleaaneaaFlow
namespace Go.Proofs.Ytelcbakleaaneaa.VM
open Go Go.RowKit
set_option linter.unusedVariables false
set_option linter.unusedSimpArgs false
set_option linter.unusedSectionVars false

section
variable {P : Program} {E : Env} {L : List (Fr × Act)} {B0 : Nat} {G T : Nat → Prop} {w0 w w' : World} {A A' : Nat → Prop} {β : LocOf} {H : Hp} {F : Fr} {a : Act} {res : FV} {call : Nat → List FV → Option FV} {inl : Nat → Func → Fr → Hp → (V → Hp → R) → R}

theorem fillPack (vs : List Value) : (if h : vs.toArray.size = 1 then vs.toArray[0] else Value.tuple vs.toArray) = packVal vs := by
  match vs with
  | [] => rfl
  | [v] => rfl
  | v1 :: v2 :: vs => simp [packVal]

/-- One result, as the model reckons it. -/
def resOf (tmps : Array Value) : ResultVar → Sem Value
  | .tmp t => pure (tmps.getD t undef)
  | .cell c t => do loadVar t (← asAddr (tmps.getD c undef))
theorem resOf_tmp (tmps : Array Value) (t : Tmp) : (resOf tmps (.tmp t)).run P w = .ok (tmps.getD t undef) w := by simp only [resOf, Sem.run_pure]
theorem load_as {t : TypeId} {cv u0 : Value} (h5 : (Instr.loadAt t cv).run P w = .ok u0 w) : (do loadVar t (← asAddr cv) : Sem Value).run P w = .ok u0 w := by
  simp only [Instr.loadAt, Sem.run_bind] at h5
  cases cv with
  | pointer ad => cases ad with
    | none => simp [Instr.sureAddr, stuck] at h5
    | some ad => simpa [Instr.sureAddr, asAddr] using h5
  | _ => simp [Instr.sureAddr, stuck] at h5
/-- The results' values. -/
theorem resV_rel (ok : EnvOk P E) (st : St L B0 G T w0 F H a w A β) : ∀ (rs : List ResultVar) (acc : List V) (k : List V → R), resV E F H rs acc k = some res →
    ∃ (vs : List V) (us : List Value), k (acc.reverse ++ vs) = some res ∧ vs.length = us.length ∧ (∀ (i : Nat) v u, vs[i]? = some v → us[i]? = some u → VR w A β H v u) ∧
      (List.mapM (resOf a.tmps) rs).run P w = .ok us w
  | [], acc, k, h => ⟨[], [], by simpa [resV] using h, rfl, by simp, by simp⟩
  | .tmp t :: rs, acc, k, h => by
    simp only [resV] at h
    obtain ⟨vs, us, h1, h2, h3, h4⟩ := resV_rel ok st rs _ k h
    refine ⟨getF F t :: vs, a.tmps.getD t undef :: us, by simpa using h1, by simp [h2], fun i v u hv hu => ?_, by simp only [List.mapM_cons, Sem.run_bind, resOf_tmp, Result.andThen, h4, Sem.run_pure]⟩
    cases i with
    | zero => cases hv; cases hu; exact getF_rel st.fr t
    | succ i => exact h3 i v u hv hu
  | .cell c t :: rs, acc, k, h => by
    simp only [resV] at h
    obtain ⟨u0, v0, h0, hv0, h⟩ := loadK_rel ok.ty (getF_rel st.fr c) st.hp h
    obtain ⟨vs, us, h1, h2, h3, h4⟩ := resV_rel ok st rs _ k h
    have hl : (resOf a.tmps (.cell c t)).run P w = .ok u0 w := load_as h0
    refine ⟨v0 :: vs, u0 :: us, by simpa using h1, by simp [h2], fun i v u hv hu => ?_, ?_⟩
    · cases i with
      | zero => cases hv; cases hu; exact hv0
      | succ i => exact h3 i v u hv hu
    · simp only [List.mapM_cons, Sem.run_bind, hl, Result.andThen, h4, Sem.run_pure]
theorem results_run {fn : Func} {us : List Value} (h : (List.mapM (resOf a.tmps) fn.results.toList).run P w = .ok us w) :
    (results fn a.tmps).run P w = .ok (packVal us) w := by
  have e : (fun r : ResultVar => match r with | .tmp t => pure (a.tmps.getD t undef) | .cell c t => do loadVar t (← asAddr (a.tmps.getD c undef)) : ResultVar → Sem Value) = resOf a.tmps := by
    funext r; cases r <;> rfl
  have h2 : (fn.results.mapM (resOf a.tmps)).run P w = .ok us.toArray w := by
    rw [Array.mapM_eq_mapM_toList]
    simp [h]
  unfold results
  rw [Sem.run_bind]
  erw [h2]
  simp only [Result.andThen, Sem.run_pure]
  rw [fillPack]

theorem nodupB_nodup : ∀ {l : List Nat}, nodupB l = true → l.Nodup
  | [], _ => List.nodup_nil
  | x :: l, h => by
    simp only [nodupB, Bool.and_eq_true, Bool.not_eq_true'] at h
    refine List.nodup_cons.2 ⟨fun hm => ?_, nodupB_nodup h.2⟩
    have := h.1
    simp [hm] at this

/-- Where marks do not reach. -/
theorem marks_keep (id : Nat) : ∀ (ids : List Nat) (H : Hp), id ∉ ids → (ids.foldl markOne H)[id]? = H[id]?
  | [], H, _ => rfl
  | i :: ids, H, h => by
    rw [List.foldl_cons, marks_keep id ids _ (fun hm => h (List.mem_cons_of_mem _ hm))]
    have hne : i ≠ id := fun e => h (e ▸ List.mem_cons_self)
    unfold markOne
    split
    · rw [get_set_hp, if_neg (fun q => hne q.1)]
    · split
      · rw [get_set_hp, if_neg (fun q => hne q.1)]
      · rfl
    · rfl

theorem blocks_nodup {K : Hp} (hp : HRel B0 G T w A β K) : ∀ (ids : List Nat), ids.Nodup → (∀ id ∈ ids, ∃ q r, K[id]? = some (Blk.own q r)) → (blocksOf β ids).Nodup ∧ ∀ b ∈ blocksOf β ids, ∃ id ∈ ids, (β id).block = some b
  | [], _, _ => ⟨by simp [blocksOf], by simp [blocksOf]⟩
  | id :: ids, hn, ho => by
    obtain ⟨h1, h2⟩ := List.nodup_cons.1 hn
    obtain ⟨g1, g2⟩ := blocks_nodup hp ids h2 (fun i hi => ho i (List.mem_cons_of_mem _ hi))
    cases hb : (β id).block with
    | none =>
      have e : blocksOf β (id :: ids) = blocksOf β ids := by simp [blocksOf, hb]
      rw [e]
      exact ⟨g1, fun b hb' => let ⟨i, hi, q⟩ := g2 b hb'; ⟨i, List.mem_cons_of_mem _ hi, q⟩⟩
    | some b =>
      have e : blocksOf β (id :: ids) = b :: blocksOf β ids := by simp [blocksOf, hb]
      rw [e]
      refine ⟨List.nodup_cons.2 ⟨fun hm => ?_, g1⟩, fun b' hb' => ?_⟩
      · obtain ⟨i, hi, q⟩ := g2 b hm
        obtain ⟨q1, r1, k1⟩ := ho id List.mem_cons_self
        obtain ⟨q2, r2, k2⟩ := ho i (List.mem_cons_of_mem _ hi)
        cases hl : β id with
        | no => rw [hl] at hb; cases hb
        | nil => rw [hl] at hb; cases hb
        | «at» b1 o1 s1 c1 =>
          cases hl2 : β i with
          | no => rw [hl2] at q; cases q
          | nil => rw [hl2] at q; cases q
          | «at» b2 o2 s2 c2 =>
            rw [hl] at hb; rw [hl2] at q
            cases hb; cases q
            have := hp.inj id i b o1 s1 c1 o2 s2 c2 _ _ k1 k2 rfl rfl hl hl2
            exact h1 (this ▸ hi)
      · rcases List.mem_cons.1 hb' with rfl | hb'
        · exact ⟨id, List.mem_cons_self, hb⟩
        · obtain ⟨i, hi, q⟩ := g2 b' hb'; exact ⟨i, List.mem_cons_of_mem _ hi, q⟩

theorem outV_length {own : List (Nat × Nat × Nat)} : ∀ {i : Nat} {ts : List Nat} {vs : List V} {xs : List FV}, outV E H own i ts vs = some xs → xs.length = ts.length
  | i, [], [], xs, h => by cases h; rfl
  | i, t :: ts, v :: vs, xs, h => by
    simp only [outV] at h
    split at h
    · split at h
      · rename_i xs' hxs
        cases h
        simp [outV_length hxs]
      · cases h
    · cases h
  | i, [], v :: vs, xs, h => by simp [outV] at h
  | i, t :: ts, [], xs, h => by simp [outV] at h

/-- A return: what is handed out. -/
theorem retK_sound (ok : EnvOk P E) {own : List (Nat × Nat × Nat)} {fn : Func} (hT : ∀ b, T b → b < w0.heap.size) (h : retK E own fn F H = some res) (st : St L w0.heap.size (fun _ => False) T w0 F H a w A β) :
    a.defers = [] ∧ ∃ v, (results fn a.tmps).run P w = .ok v w ∧ Ret E own fn w0 T res v w := by
  unfold retK at h
  obtain ⟨vs, us, h1, h2, h3, h4⟩ := resV_rel ok st _ _ _ h
  simp only [List.reverse_nil, List.nil_append] at h1
  obtain ⟨hc, h1⟩ := gB_some h1
  simp only [Bool.and_eq_true] at hc
  split at h1
  · rename_i xs hxs
    cases h1
    obtain ⟨A1, fe1, he1, hp1, hin⟩ := marksL_rel (resIds E own 0 fn.resultTypes.toList vs).2 st.hp
    have hdis : ∀ id ∈ (resIds E own 0 fn.resultTypes.toList vs).1, id ∉ (resIds E own 0 fn.resultTypes.toList vs).2 := fun id hi hm => by
      have := List.all_eq_true.1 hc.2 id hi
      simp [hm] at this
    obtain ⟨g1, g2⟩ := outV_rel st.hp fe1 hp1 he1 0 fn.resultTypes.toList vs us xs h2 h3 hxs hin (fun id hi => marks_keep id _ H (hdis id hi))
    obtain ⟨g3, g4⟩ := blocks_nodup hp1 _ (nodupB_nodup hc.1) g2
    refine ⟨st.fr.defers, packVal us, results_run h4, A1, us, xs, _, ⟨fun b hb => hp1.top b hb, fun b hb => st.below.block b (hT b hb) (fun h => h)⟩, fun b hb => ?_, hp1.lt, ⟨st.below.os, st.below.tape, st.below.output, st.below.size, fun k hk => st.below.block k hk (fun h => h)⟩, rfl, rfl, by rw [outV_length hxs]; simp, g1, g3, fun b hb => ?_⟩
    · by_cases hlt : b < w0.heap.size
      · rcases hp1.low b hb hlt with h5 | h5
        · exact .inl h5
        · exact h5.elim
      · exact .inr (by omega)
    · obtain ⟨id, hi, hbl⟩ := g4 b hb
      obtain ⟨q, r, hk⟩ := g2 id hi
      cases hl : β id with
      | no => rw [hl] at hbl; cases hbl
      | nil => rw [hl] at hbl; cases hbl
      | «at» b1 o1 s1 c1 =>
        rw [hl] at hbl; cases hbl
        obtain ⟨q1, q2⟩ := hp1.ours id b o1 s1 c1 _ hk rfl hl
        rcases q1 with q1 | q1
        · exact ⟨q1, q2⟩
        · exact q1.elim
  · cases h1

theorem argsK_rel {β : LocOf} {H : Hp} {k : List V → R} : ∀ (ts : List Nat) (xs : List FV) (cs : List Value) (acc : List V), ArgsR E w A ts xs cs → argsK E ts xs acc k = some res →
    ∃ vs, k (acc.reverse ++ vs) = some res ∧ vs.length = cs.length ∧ ∀ (i : Nat) v c, vs[i]? = some v → cs[i]? = some c → VR w A β H v c
  | [], xs, cs, acc, ha, h => by
    obtain ⟨h1, h2, _⟩ := ha
    have : xs = [] := List.eq_nil_of_length_eq_zero (by simpa using h1.symm)
    subst this
    have : cs = [] := List.eq_nil_of_length_eq_zero (by simpa using h2.symm)
    subst this
    exact ⟨[], by simpa [argsK] using h, rfl, by simp⟩
  | t :: ts, xs, cs, acc, ha, h => by
    obtain ⟨h1, h2, h3⟩ := ha
    cases xs with
    | nil => simp at h1
    | cons x xs =>
      cases cs with
      | nil => simp at h2
      | cons c cs =>
        simp only [argsK] at h
        obtain ⟨q1, q2⟩ := h3 0 t x c rfl rfl rfl
        obtain ⟨v, hv, hk, _⟩ := splitAs_rel (β := β) (H := H) q1 q2 h
        obtain ⟨vs, g1, g2, g3⟩ := argsK_rel ts xs cs (v :: acc) ⟨by simpa using h1, by simpa using h2, fun i t x c ht hx hc => h3 (i + 1) t x c ht hx hc⟩ hk
        refine ⟨v :: vs, by simpa using g1, by simp [g2], fun i y u hy hu => ?_⟩
        cases i with
        | zero => cases hy; cases hu; exact hv
        | succ i => exact g3 i y u hy hu
end
end Go.Proofs.Ytelcbakleaaneaa.VM
