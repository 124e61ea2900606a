/- The tables fit the program. -/
import Derived.Test.YtelcbakleaaneaaEnv
import Derived.Test.YtelcbakleaaneaaTab
import Derived.KernelRfl
namespace Go.Proofs.Ytelcbakleaaneaa
open Go Go.Proofs Go.Proofs.Ytelcbakleaaneaa.VM
theorem tyL_ok : tysB Try.prog tyL tyL = true := by kernel_rfl
theorem fnL_ok : AllFn Try.prog fnL := ⟨⟨Try.func4, by kernel_rfl, by kernel_rfl⟩, ⟨Try.func5, by kernel_rfl, by kernel_rfl⟩, ⟨Try.func16, by kernel_rfl, by kernel_rfl⟩, ⟨Try.func17, by kernel_rfl, by kernel_rfl⟩, ⟨Try.func18, by kernel_rfl, by kernel_rfl⟩, ⟨Try.func19, by kernel_rfl, by kernel_rfl⟩, ⟨Try.func20, by kernel_rfl, by kernel_rfl⟩, ⟨Try.func21, by kernel_rfl, by kernel_rfl⟩, ⟨Try.func22, by kernel_rfl, by kernel_rfl⟩, ⟨Try.func23, by kernel_rfl, by kernel_rfl⟩, ⟨Try.func24, by kernel_rfl, by kernel_rfl⟩, ⟨Try.func27, by kernel_rfl, by kernel_rfl⟩, ⟨Try.func29, by kernel_rfl, by kernel_rfl⟩, ⟨Try.func52, by kernel_rfl, by kernel_rfl⟩, ⟨Try.func54, by kernel_rfl, by kernel_rfl⟩, ⟨Try.func55, by kernel_rfl, by kernel_rfl⟩, ⟨Try.func56, by kernel_rfl, by kernel_rfl⟩, ⟨Try.func57, by kernel_rfl, by kernel_rfl⟩, ⟨Try.func58, by kernel_rfl, by kernel_rfl⟩, ⟨Try.func59, by kernel_rfl, by kernel_rfl⟩, ⟨Try.func60, by kernel_rfl, by kernel_rfl⟩, ⟨Try.func61, by kernel_rfl, by kernel_rfl⟩, ⟨Try.func62, by kernel_rfl, by kernel_rfl⟩, ⟨Try.func63, by kernel_rfl, by kernel_rfl⟩, ⟨Try.func76, by kernel_rfl, by kernel_rfl⟩, ⟨Try.func77, by kernel_rfl, by kernel_rfl⟩, ⟨Try.func78, by kernel_rfl, by kernel_rfl⟩, ⟨Try.func79, by kernel_rfl, by kernel_rfl⟩, ⟨Try.func89, by kernel_rfl, by kernel_rfl⟩, ⟨Try.func90, by kernel_rfl, by kernel_rfl⟩, ⟨Try.func91, by kernel_rfl, by kernel_rfl⟩, ⟨Try.func99, by kernel_rfl, by kernel_rfl⟩, ⟨Try.func138, by kernel_rfl, by kernel_rfl⟩, ⟨Try.func139, by kernel_rfl, by kernel_rfl⟩, ⟨Try.func140, by kernel_rfl, by kernel_rfl⟩, ⟨Try.func141, by kernel_rfl, by kernel_rfl⟩, ⟨Try.func143, by kernel_rfl, by kernel_rfl⟩, ⟨Try.func151, by kernel_rfl, by kernel_rfl⟩, True.intro⟩
theorem envOk : EnvOk Try.prog E := ⟨tyOk_of (tysB_ok tyL_ok), fun g fn h => allFn_ok fnL_ok h, by kernel_rfl⟩
theorem ovOk : OvSpec Try.prog E := fun g f h => by
  have h2 : (none : Option (List FV → Option FV)) = some f := h
  cases h2
end Go.Proofs.Ytelcbakleaaneaa
