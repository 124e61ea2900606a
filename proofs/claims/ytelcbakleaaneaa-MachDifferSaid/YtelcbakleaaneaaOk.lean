/- The tables fit the program. -/
import Derived.Test.YtelcbakleaaneaaEnv
import Derived.Test.YtelcbakleaaneaaTab
import Derived.KernelRfl
namespace Go.Proofs.Ytelcbakleaaneaa
open Go Go.Proofs Go.Proofs.Ytelcbakleaaneaa.VM
theorem tyL_ok : tysB Try.prog tyL tyL = true := by kernel_rfl
theorem fnL_ok : AllFn Try.prog fnL := ⟨⟨Try.func4, by kernel_rfl, by kernel_rfl⟩, ⟨Try.func6, by kernel_rfl, by kernel_rfl⟩, ⟨Try.func16, by kernel_rfl, by kernel_rfl⟩, ⟨Try.func17, by kernel_rfl, by kernel_rfl⟩, ⟨Try.func18, by kernel_rfl, by kernel_rfl⟩, ⟨Try.func19, by kernel_rfl, by kernel_rfl⟩, ⟨Try.func20, by kernel_rfl, by kernel_rfl⟩, ⟨Try.func21, by kernel_rfl, by kernel_rfl⟩, ⟨Try.func25, by kernel_rfl, by kernel_rfl⟩, ⟨Try.func26, by kernel_rfl, by kernel_rfl⟩, ⟨Try.func27, by kernel_rfl, by kernel_rfl⟩, ⟨Try.func29, by kernel_rfl, by kernel_rfl⟩, ⟨Try.func54, by kernel_rfl, by kernel_rfl⟩, ⟨Try.func55, by kernel_rfl, by kernel_rfl⟩, ⟨Try.func56, by kernel_rfl, by kernel_rfl⟩, ⟨Try.func57, by kernel_rfl, by kernel_rfl⟩, ⟨Try.func58, by kernel_rfl, by kernel_rfl⟩, ⟨Try.func59, by kernel_rfl, by kernel_rfl⟩, ⟨Try.func60, by kernel_rfl, by kernel_rfl⟩, ⟨Try.func64, by kernel_rfl, by kernel_rfl⟩, ⟨Try.func65, by kernel_rfl, by kernel_rfl⟩, ⟨Try.func66, by kernel_rfl, by kernel_rfl⟩, ⟨Try.func67, by kernel_rfl, by kernel_rfl⟩, ⟨Try.func68, by kernel_rfl, by kernel_rfl⟩, ⟨Try.func69, by kernel_rfl, by kernel_rfl⟩, ⟨Try.func70, by kernel_rfl, by kernel_rfl⟩, ⟨Try.func71, by kernel_rfl, by kernel_rfl⟩, ⟨Try.func72, by kernel_rfl, by kernel_rfl⟩, ⟨Try.func73, by kernel_rfl, by kernel_rfl⟩, ⟨Try.func74, by kernel_rfl, by kernel_rfl⟩, ⟨Try.func75, by kernel_rfl, by kernel_rfl⟩, ⟨Try.func76, by kernel_rfl, by kernel_rfl⟩, ⟨Try.func77, by kernel_rfl, by kernel_rfl⟩, ⟨Try.func78, by kernel_rfl, by kernel_rfl⟩, ⟨Try.func79, by kernel_rfl, by kernel_rfl⟩, ⟨Try.func89, by kernel_rfl, by kernel_rfl⟩, ⟨Try.func90, by kernel_rfl, by kernel_rfl⟩, ⟨Try.func91, by kernel_rfl, by kernel_rfl⟩, ⟨Try.func112, by kernel_rfl, by kernel_rfl⟩, ⟨Try.func139, by kernel_rfl, by kernel_rfl⟩, ⟨Try.func141, by kernel_rfl, by kernel_rfl⟩, ⟨Try.func143, by kernel_rfl, by kernel_rfl⟩, ⟨Try.func151, by kernel_rfl, by kernel_rfl⟩, True.intro⟩
theorem envOk : EnvOk Try.prog E := ⟨tyOk_of (tysB_ok tyL_ok), fun g fn h => allFn_ok fnL_ok h, by kernel_rfl⟩
theorem ovOk : OvSpec Try.prog E := by
  have no : ∀ g f, E.ov g = some f → False := fun g f h => by
    have h2 : (none : Option (List FV → Option FV)) = some f := h
    cases h2
  exact ⟨fun g f h => (no g f h).elim, fun g f h => (no g f h).elim⟩
end Go.Proofs.Ytelcbakleaaneaa
