/- MachDiffer, for the row's arguments. -/
import Derived.Test.YtelcbakleaaneaaDifRun
import Derived.Test.YtelcbakleaaneaaMachF
import Derived.Test.YtelcbakleaaneaaTcsMachDiffer
namespace Go.Proofs.Ytelcbakleaaneaa
open Go Go.Proofs.Ytelcbakleaaneaa.VM
theorem machDiffer_pure (x : Vals tcsMachDiffer) (h : wfs tcsMachDiffer x) : den E 6 (argsF tcsMachDiffer x) = some (.bool true) := by
  obtain ⟨⟨nA, sA, a0, iA, oA, wA, ⟨⟩⟩, ⟨nB, sB, b0, iB, oB, wB, ⟨⟩⟩, ⟨⟩⟩ := x
  obtain ⟨⟨h1, h2, h3, h4, h5, h6, _⟩, ⟨k1, k2, k3, k4, k5, k6, _⟩, _⟩ := h
  have hA : WfM nA sA iA oA wA := ⟨h1, h2, ⟨h4.1, fun p hp => ⟨(h4.2 p hp).1, (h4.2 p hp).2.1⟩⟩, ⟨h5.1, fun p hp => ⟨(h5.2 p hp).1, (h5.2 p hp).2.1⟩⟩, ⟨h6.1, fun r hr => (h6.2 r hr).2.1.1⟩⟩
  have hB : WfM nB sB iB oB wB := ⟨k1, k2, ⟨k4.1, fun p hp => ⟨(k4.2 p hp).1, (k4.2 p hp).2.1⟩⟩, ⟨k5.1, fun p hp => ⟨(k5.2 p hp).1, (k5.2 p hp).2.1⟩⟩, ⟨k6.1, fun r hr => (k6.2 r hr).2.1.1⟩⟩
  exact differ_law hA.sm hB.sm
end Go.Proofs.Ytelcbakleaaneaa
