/- MachNets, for the row's arguments. -/
import Derived.Test.YtelcbakleaaneaaNetRun
import Derived.Test.YtelcbakleaaneaaNetG
import Derived.Test.YtelcbakleaaneaaTcsMachNets
namespace Go.Proofs.Ytelcbakleaaneaa
open Go Go.Proofs.Ytelcbakleaaneaa.VM
theorem WN.outs {n : TNet} (h : WN n) : (li n.2.2.2.2.1).length < 10000000000000 := by
  have hr : reachBytes < 150000000000000 := by unfold reachBytes; omega
  have := h.2.2.2.2
  omega
theorem machNets_typed (oms : Option (List TMach)) (ons : Option (List TNet)) (i : Int) (ox : Option (List (Option (List Int)))) (h2 : (li oms).length * 120 ≤ reachBytes ∧ ∀ m ∈ li oms, WM m) (h3 : ∀ n ∈ li ons, WN n) :
    law02_MachNets (.agg [sl MC oms, sl NT ons]) (.int .i64 i) (sl SI ox) = some (.bool true) := by
  have hr : reachBytes < 1000000000000000 := by unfold reachBytes; omega
  exact nets_law (by omega) (fun m hm => WfM.sm (start := m.2.2.1) (h2.2 m hm)) (fun n hn => (h3 n hn).sm) i (fun n hn => (h3 n hn).outs)
theorem wm_of (m : TMach) : wf (.cons .str (.cons (.sl 16 .str) (.cons (.int .i64) (.cons (.sl 40 (.cons .str (.cons (.sl 16 .str) .nil))) (.cons (.sl 40 (.cons .str (.cons (.sl 16 .str) .nil))) (.cons (.sl 32 (.cons (.int .i64) (.cons (.sl 8 (.int .i64)) .nil))) .nil)))))) m → WM m := by
  obtain ⟨nm, sts, start, ins, outs, rows, ⟨⟩⟩ := m
  rintro ⟨h1, h2, h3, h4, h5, h6, _⟩
  exact ⟨h1, h2, ⟨h4.1, fun p hp => ⟨(h4.2 p hp).1, (h4.2 p hp).2.1⟩⟩, ⟨h5.1, fun p hp => ⟨(h5.2 p hp).1, (h5.2 p hp).2.1⟩⟩, ⟨h6.1, fun r hr => (h6.2 r hr).2.1.1⟩⟩
theorem machNets_pure (x : Vals tcsMachNets) (h : wfs tcsMachNets x) : den E 11 (argsF tcsMachNets x) = some (.bool true) := by
  obtain ⟨⟨oms, ons, ⟨⟩⟩, i, ox, ⟨⟩⟩ := x
  obtain ⟨⟨h2, h3, _⟩, h4, h5, _⟩ := h
  exact machNets_typed oms ons i ox ⟨h2.1, fun m hm => wm_of m (h2.2 m hm)⟩ (fun n hn => by
    obtain ⟨k1, k2, k3, k4, k5, _⟩ := h3.2 n hn
    exact ⟨k1, ⟨k2.1, fun p hp => (k2.2 p hp).1⟩, ⟨k3.1, fun l hl => (k3.2 l hl).2.2.2.1.1⟩, k4.1, k5.1⟩)
end Go.Proofs.Ytelcbakleaaneaa
