/- Calls of the program's functions, continued: bodies. -/
import Derived.Test.YtelcbakleaaneaaCallF
namespace Go.Proofs.Ytelcbakleaaneaa.VM
open Go Go.RowKit
set_option linter.unusedVariables false
set_option linter.unusedSimpArgs false
set_option linter.unusedSectionVars false

/-- Functions whose calls are reckoned otherwise. -/
def OvSpec (P : Program) (E : Env) : Prop := ∀ g f, E.ov g = some f → ∀ xs y own lend fn, E.mode g = .call own lend → E.fn g = some fn → f xs = some y → ∀ (cs : List Value) (w : World) (A : Nat → Prop), (∀ b, A b → b < w.heap.size) → ArgsR E w A (pars E fn) xs cs →
  Calls P g cs.toArray w fun e w' => ∃ v, e = .returned v ∧ Ret E own fn w A y v w'

section
variable {P : Program} {E : Env} {res : FV} {call : Nat → List FV → Option FV}

theorem inlK_sound (ok : EnvOk P E) (ns : NormSpec) (ds : DrawSpec P E) (spec : CallSpec P E call) : ∀ d, InlSpec P E (inlK E call d)
  | 0 => fun g fn F H k res L B0 G T w0 a w A β hm hg h st => by simp [inlK] at h
  | d + 1 => fun g fn F H k res L B0 G T w0 a w A β hm hg h st => by
    simp only [inlK] at h
    split at h
    · rename_i c hc
      refine ⟨c, hc, ?_⟩
      have haft : ∀ {N : Act → World → Prop}, (∀ a w, (a.defers = [] ∧ ∃ v, (results fn a.tmps).run P w = .ok v w ∧ InlPost L B0 G T w0 k res (.returned v) w) → N a w) →
          After L B0 G T w0 res (fun F H => resV E F H fn.results.toList [] fun vs => k (packV vs) H) N := by
        intro N hN F' H' a' w' A' β' he st'
        refine hN a' w' ⟨st'.fr.defers, ?_⟩
        obtain ⟨vs, us, h1, h2, h3, h4⟩ := resV_rel ok st' _ _ _ he
        simp only [List.reverse_nil, List.nil_append] at h1
        exact ⟨packVal us, results_run h4, packV vs, packVal us, H', A', β', rfl, h1, pack_rel h2 h3, st'.hp, st'.below, st'.fr.sus⟩
      exact execK_sound (.inr fun _ _ _ => rfl) ok ns ds spec (inlK_sound ok ns ds spec d) c [] F H _ (bodyPost P fn (InlPost L B0 G T w0 k res)) a w A β ⟨haft fun _ _ h => let ⟨h1, v, h2, h3⟩ := h; ⟨h1, v, h2, h3⟩, fun id k hk => by simp [findExit] at hk, haft fun _ _ h => let ⟨h1, v, h2, h3⟩ := h; ⟨h1, v, h2, h3⟩⟩
        (fun p F H a w A β he _ => by cases he) h st
    · cases h

theorem jump_sound (ok : EnvOk P E) (ns : NormSpec) (ds : DrawSpec P E) (spec : CallSpec P E call) {g : Nat} {own : List (Nat × Nat × Nat)} {fn : Func} {c : Code} (hg : E.fn g = some fn) (hc : fn.body = some c) {T : Nat → Prop} {w0 : World} {Q : Exit → Act → World → Prop}
    (hctx : CtxOk [] w0.heap.size (fun _ => False) T w0 res ⟨retK E own fn, [], retK E own fn⟩ Q) : ∀ m, JOk P [] w0.heap.size (fun _ => False) T w0 res (jump E call g own m) c [] Q
  | 0 => fun p F H a w A β he _ => by simp [jump] at he
  | m + 1 => fun p F H a w A β he st => by
    simp only [jump, pointK, hg, hc, List.append_nil, List.reverse_reverse] at he
    exact segK_sound (.inl rfl) ok ns ds spec (inlK_sound ok ns ds spec 3) c [] p F H _ Q a w A β hctx (jump_sound ok ns ds spec hg hc hctx m) he st

theorem callF_sound (ok : EnvOk P E) (ns : NormSpec) (ds : DrawSpec P E) (ov : OvSpec P E) : ∀ n, CallSpec P E (callF E n)
  | 0 => fun g xs y own lend fn hm hg h => by simp [callF] at h
  | n + 1 => fun g xs y own lend fn hm hg h cs w A hA ha => by
    simp only [callF] at h
    split at h
    · rename_i f hf
      exact ov g f hf xs y own lend fn hm hg h cs w A hA ha
    · rw [hm, hg] at h
      simp only at h
      have ih := callF_sound ok ns ds ov n
      obtain ⟨vs, h1, h2, h3⟩ := argsK_rel (β := fun _ => .no) (H := []) _ _ _ _ ha h
      simp only [List.reverse_nil, List.nil_append, bodyK, hg] at h1
      split at h1
      · rename_i c hc
        obtain ⟨e1, _, _⟩ := ok.fn g fn hg
        refine calls_of_wp e1 hc ?_
        have hp : HRel w.heap.size (fun _ => False) A w A (fun _ => .no) [] := by
          refine ⟨by simp, by simp, by simp, hA, fun b hb _ => .inl hb, fun b hb => hb.elim, Nat.le_refl _, fun b hb => hb⟩
        have st : St [] w.heap.size (fun _ => False) A w (padF fn.ntmps vs) [] { tmps := cs.toArray ++ Array.replicate (fn.ntmps - cs.toArray.size) undef, defers := [] } w A (fun _ => .no) :=
          ⟨by simpa using pad_rel (L := []) (n := fn.ntmps) h2 h3 (by simp), hp, Belowx.refl _ _ _⟩
        have hctx : CtxOk [] w.heap.size (fun _ => False) A w y ⟨retK E own fn, [], retK E own fn⟩ (bodyPost P fn fun e w' => ∃ v, e = .returned v ∧ Ret E own fn w A y v w') := by
          have key : ∀ F H a w1 A1 β, retK E own fn F H = some y → St [] w.heap.size (fun _ => False) A w F H a w1 A1 β → a.defers = [] ∧ ∃ v, (results fn a.tmps).run P w1 = .ok v w1 ∧ ∃ v', Ending.returned v = .returned v' ∧ Ret E own fn w A y v' w1 := by
            intro F H a w1 A1 β he st
            obtain ⟨q1, v, q2, q3⟩ := retK_sound ok hA he st
            exact ⟨q1, v, q2, v, rfl, q3⟩
          exact ⟨fun F H a w1 A1 β he st => key F H a w1 A1 β he st, fun id k hk => by simp [findExit] at hk, fun F H a w1 A1 β he st => key F H a w1 A1 β he st⟩
        exact execK_sound (.inl rfl) ok ns ds ih (inlK_sound ok ns ds ih 3) c [] _ _ _ _ _ _ _ _ hctx (jump_sound ok ns ds ih hg hc hctx n) h1 st
      · cases h1
end
end Go.Proofs.Ytelcbakleaaneaa.VM
