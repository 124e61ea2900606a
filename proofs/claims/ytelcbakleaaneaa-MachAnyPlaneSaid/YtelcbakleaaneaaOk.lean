/- The tables fit the program. -/
import Derived.Test.YtelcbakleaaneaaEnv
import Derived.Test.YtelcbakleaaneaaTab
import Derived.KernelRfl
namespace Go.Proofs.Ytelcbakleaaneaa
open Go Go.Proofs Go.Proofs.Ytelcbakleaaneaa.VM
theorem tyL_ok : tysB Try.prog tyL tyL = true := by kernel_rfl
theorem fnL_ok : AllFn Try.prog fnL := ⟨⟨Try.func3, by kernel_rfl, by kernel_rfl⟩, ⟨Try.func14, by kernel_rfl, by kernel_rfl⟩, ⟨Try.func15, by kernel_rfl, by kernel_rfl⟩, ⟨Try.func16, by kernel_rfl, by kernel_rfl⟩, ⟨Try.func48, by kernel_rfl, by kernel_rfl⟩, ⟨Try.func49, by kernel_rfl, by kernel_rfl⟩, ⟨Try.func50, by kernel_rfl, by kernel_rfl⟩, ⟨Try.func51, by kernel_rfl, by kernel_rfl⟩, ⟨Try.func52, by kernel_rfl, by kernel_rfl⟩, ⟨Try.func53, by kernel_rfl, by kernel_rfl⟩, ⟨Try.func54, by kernel_rfl, by kernel_rfl⟩, ⟨Try.func55, by kernel_rfl, by kernel_rfl⟩, ⟨Try.func134, by kernel_rfl, by kernel_rfl⟩, ⟨Try.func135, by kernel_rfl, by kernel_rfl⟩, ⟨Try.func136, by kernel_rfl, by kernel_rfl⟩, ⟨Try.func137, by kernel_rfl, by kernel_rfl⟩, ⟨Try.func138, by kernel_rfl, by kernel_rfl⟩, True.intro⟩
theorem envOk : EnvOk Try.prog E := ⟨tyOk_of (tysB_ok tyL_ok), fun g fn h => allFn_ok fnL_ok h, by kernel_rfl⟩
theorem ovOk : OvSpec Try.prog E := fun g f h => by
  have h2 : (none : Option (List FV → Option FV)) = some f := h
  cases h2
end Go.Proofs.Ytelcbakleaaneaa
