/- MachRuns, for the row's arguments. -/
import Derived.Test.YtelcbakleaaneaaMachRun
import Derived.Test.YtelcbakleaaneaaTcsMachRuns
namespace Go.Proofs.Ytelcbakleaaneaa
open Go Go.Proofs.Ytelcbakleaaneaa.VM
/-- What the row says of a machine. -/
structure WfM (nm : Str) (sts : Option (List Str)) (ins outs : Option (List TPort)) (rows : Option (List TRow)) : Prop where
  nm : nm.length ≤ reachBytes
  sts : (li sts).length * 16 ≤ reachBytes ∧ ∀ s ∈ li sts, s.length ≤ reachBytes
  ins : (li ins).length * 40 ≤ reachBytes ∧ ∀ p ∈ li ins, p.1.length ≤ reachBytes ∧ ((li p.2.1).length * 16 ≤ reachBytes ∧ ∀ s ∈ li p.2.1, s.length ≤ reachBytes)
  outs : (li outs).length * 40 ≤ reachBytes ∧ ∀ p ∈ li outs, p.1.length ≤ reachBytes ∧ ((li p.2.1).length * 16 ≤ reachBytes ∧ ∀ s ∈ li p.2.1, s.length ≤ reachBytes)
  rows : (li rows).length * 32 ≤ reachBytes ∧ ∀ r ∈ li rows, (li r.2.1).length * 8 ≤ reachBytes
theorem WfM.sm {nm : Str} {sts : Option (List Str)} {start : Int} {ins outs : Option (List TPort)} {rows : Option (List TRow)} (h : WfM nm sts ins outs rows) : SmM (nm, sts, start, ins, outs, rows, ()) := by
  obtain ⟨h1, h2, h3, h4, h5⟩ := h
  have hr : reachBytes < 1000000000000000 := by unfold reachBytes; omega
  refine ⟨Nat.lt_of_le_of_lt h1 hr, ⟨show (li sts).length < _ by omega, fun s hs => Nat.lt_of_le_of_lt (h2.2 s hs) hr⟩, ⟨show (li ins).length < _ by omega, fun p hp => ?_⟩, ⟨show (li outs).length < _ by omega, fun p hp => ?_⟩, ⟨show (li rows).length < _ by omega, fun r hp => ?_⟩⟩
  · obtain ⟨k1, k2, k3⟩ := h3.2 p hp
    exact ⟨Nat.lt_of_le_of_lt k1 hr, by omega, fun s hs => Nat.lt_of_le_of_lt (k3 s hs) hr⟩
  · obtain ⟨k1, k2, k3⟩ := h4.2 p hp
    exact ⟨Nat.lt_of_le_of_lt k1 hr, by omega, fun s hs => Nat.lt_of_le_of_lt (k3 s hs) hr⟩
  · have := h5.2 r hp
    omega
theorem machRuns_typed (nm : Str) (sts : Option (List Str)) (start : Int) (ins outs : Option (List TPort)) (rows : Option (List TRow)) (xs : Option (List (Option (List Int)))) (h : WfM nm sts ins outs rows) (h6 : (li xs).length * 24 ≤ reachBytes) :
    law02_MachRuns (.agg [.str nm, sl S sts, .int .i64 start, sl P ins, sl P outs, sl RW rows]) (sl SI xs) = some (.bool true) :=
  law_ok h.sm (by have hr : reachBytes < 1000000000000000 := by { unfold reachBytes; omega }; omega)
theorem machRuns_pure (x : Vals tcsMachRuns) (h : wfs tcsMachRuns x) : den E 4 (argsF tcsMachRuns x) = some (.bool true) := by
  obtain ⟨⟨nm, sts, start, ins, outs, rows, ⟨⟩⟩, xs, ⟨⟩⟩ := x
  obtain ⟨⟨h1, h2, h3, h4, h5, h6, _⟩, h7, _⟩ := h
  exact machRuns_typed nm sts start ins outs rows xs ⟨h1, h2, ⟨h4.1, fun p hp => ⟨(h4.2 p hp).1, (h4.2 p hp).2.1⟩⟩, ⟨h5.1, fun p hp => ⟨(h5.2 p hp).1, (h5.2 p hp).2.1⟩⟩, ⟨h6.1, fun r hr => (h6.2 r hr).2.1.1⟩⟩ h7.1
end Go.Proofs.Ytelcbakleaaneaa
