/- MachMinimal, for the row's arguments. -/
import Derived.Test.YtelcbakleaaneaaMinRun
import Derived.Test.YtelcbakleaaneaaMachF
import Derived.Test.YtelcbakleaaneaaTcsMachMinimal
namespace Go.Proofs.Ytelcbakleaaneaa
open Go Go.Proofs.Ytelcbakleaaneaa.VM
theorem machMinimal_pure (x : Vals tcsMachMinimal) (h : wfs tcsMachMinimal x) : den E 9 (argsF tcsMachMinimal x) = some (.bool true) := by
  obtain ⟨⟨nm, sts, start, ins, outs, rows, ⟨⟩⟩, xs, ⟨one, two, ⟨⟩⟩, ⟨⟩⟩ := x
  obtain ⟨⟨h1, h2, h3, h4, h5, h6, _⟩, _⟩ := h
  have hA : WfM nm sts ins outs rows := ⟨h1, h2, ⟨h4.1, fun p hp => ⟨(h4.2 p hp).1, (h4.2 p hp).2.1⟩⟩, ⟨h5.1, fun p hp => ⟨(h5.2 p hp).1, (h5.2 p hp).2.1⟩⟩, ⟨h6.1, fun r hr => (h6.2 r hr).2.1.1⟩⟩
  exact min_law hA.sm one two
end Go.Proofs.Ytelcbakleaaneaa
