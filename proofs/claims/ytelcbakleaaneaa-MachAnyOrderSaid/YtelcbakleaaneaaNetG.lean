/- MachChecks, for the row's arguments. -/
import Derived.Test.YtelcbakleaaneaaNetChk
import Derived.Test.YtelcbakleaaneaaMachF
import Derived.Test.YtelcbakleaaneaaTcsMachChecks
namespace Go.Proofs.Ytelcbakleaaneaa
open Go Go.Proofs.Ytelcbakleaaneaa.VM
abbrev WM (m : TMach) : Prop := WfM m.1 m.2.1 m.2.2.2.1 m.2.2.2.2.1 m.2.2.2.2.2.1
/-- What the row says of a net. -/
def WN (n : TNet) : Prop := n.1.length ≤ reachBytes ∧ ((li n.2.1).length * 24 ≤ reachBytes ∧ ∀ p ∈ li n.2.1, p.1.length ≤ reachBytes) ∧ ((li n.2.2.1).length * 64 ≤ reachBytes ∧ ∀ l ∈ li n.2.2.1, (li l.2.2.2.1).length * 8 ≤ reachBytes) ∧ (li n.2.2.2.1).length * 16 ≤ reachBytes ∧ (li n.2.2.2.2.1).length * 16 ≤ reachBytes
theorem WN.sm {n : TNet} (h : WN n) : SmN n := by
  obtain ⟨h1, h2, h3, h4, h5⟩ := h
  have hr : reachBytes < 1000000000000000 := by unfold reachBytes; omega
  exact ⟨by omega, ⟨by omega, fun p hp => by have := h2.2 p hp; omega⟩, ⟨by omega, fun l hl => by have := h3.2 l hl; unfold SmL; omega⟩, by omega, by omega⟩
theorem machChecks_typed (m : TMach) (oms : Option (List TMach)) (ons : Option (List TNet)) (i : Int) (h1 : WM m) (h2 : (li oms).length * 120 ≤ reachBytes ∧ ∀ m ∈ li oms, WM m) (h3 : ∀ n ∈ li ons, WN n) :
    law02_MachChecks (.agg (MC m)) (.agg [sl MC oms, sl NT ons]) (.int .i64 i) = some (.bool true) := by
  have hr : reachBytes < 1000000000000000 := by unfold reachBytes; omega
  exact checks_law (WfM.sm (start := m.2.2.1) h1) (by omega) (fun m hm => WfM.sm (start := m.2.2.1) (h2.2 m hm)) (fun n hn => (h3 n hn).sm) i
theorem machChecks_pure (x : Vals tcsMachChecks) (h : wfs tcsMachChecks x) : den E 7 (argsF tcsMachChecks x) = some (.bool true) := by
  have wm : ∀ m : TMach, wf (.cons .str (.cons (.sl 16 .str) (.cons (.int .i64) (.cons (.sl 40 (.cons .str (.cons (.sl 16 .str) .nil))) (.cons (.sl 40 (.cons .str (.cons (.sl 16 .str) .nil))) (.cons (.sl 32 (.cons (.int .i64) (.cons (.sl 8 (.int .i64)) .nil))) .nil)))))) m → WM m := by
    rintro ⟨nm, sts, start, ins, outs, rows, ⟨⟩⟩ ⟨h1, h2, h3, h4, h5, h6, _⟩
    exact ⟨h1, h2, ⟨h4.1, fun p hp => ⟨(h4.2 p hp).1, (h4.2 p hp).2.1⟩⟩, ⟨h5.1, fun p hp => ⟨(h5.2 p hp).1, (h5.2 p hp).2.1⟩⟩, ⟨h6.1, fun r hr => (h6.2 r hr).2.1.1⟩⟩
  obtain ⟨m, ⟨oms, ons, ⟨⟩⟩, i, ⟨⟩⟩ := x
  obtain ⟨h1, ⟨h2, h3, _⟩, h4, _⟩ := h
  exact machChecks_typed m oms ons i (wm m h1) ⟨h2.1, fun m hm => wm m (h2.2 m hm)⟩ (fun n hn => by
    obtain ⟨k1, k2, k3, k4, k5, _⟩ := h3.2 n hn
    exact ⟨k1, ⟨k2.1, fun p hp => (k2.2 p hp).1⟩, ⟨k3.1, fun l hl => (k3.2 l hl).2.2.2.1.1⟩, k4.1, k5.1⟩)
end Go.Proofs.Ytelcbakleaaneaa
