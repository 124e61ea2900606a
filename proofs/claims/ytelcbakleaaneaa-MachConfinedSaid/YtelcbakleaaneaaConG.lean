/- MachConfined, for the row's arguments. -/
import Derived.Test.YtelcbakleaaneaaConRun
import Derived.Test.YtelcbakleaaneaaMachF
import Derived.Test.YtelcbakleaaneaaTcsMachConfined
namespace Go.Proofs.Ytelcbakleaaneaa
open Go Go.Proofs.Ytelcbakleaaneaa.VM
theorem machConfined_typed (nm : Str) (sts : Option (List Str)) (start : Int) (ins outs : Option (List TPort)) (rows : Option (List TRow)) (h : WfM nm sts ins outs rows) (sq : Option (List Int)) (ps st : Int) (hh : Bool) (k n : Int) (h6 : (li sq).length * 8 ≤ reachBytes) :
    law02_MachConfined (.agg [.str nm, sl S sts, .int .i64 start, sl P ins, sl P outs, sl RW rows]) (.agg [sl I sq, .int .i64 ps, .int .i64 st, .bool hh, .int .i64 k]) (.int .i64 n) = some (.bool true) :=
  con_law h.sm (by have hr : reachBytes < 1000000000000000 := by { unfold reachBytes; omega }; omega) ps st hh k n
theorem machConfined_pure (x : Vals tcsMachConfined) (h : wfs tcsMachConfined x) : den E 8 (argsF tcsMachConfined x) = some (.bool true) := by
  obtain ⟨⟨nm, sts, start, ins, outs, rows, ⟨⟩⟩, ⟨sq, ps, st, hh, k, ⟨⟩⟩, n, ⟨⟩⟩ := x
  obtain ⟨⟨h1, h2, h3, h4, h5, h6, _⟩, ⟨h7, _⟩, _⟩ := h
  have hA : WfM nm sts ins outs rows := ⟨h1, h2, ⟨h4.1, fun p hp => ⟨(h4.2 p hp).1, (h4.2 p hp).2.1⟩⟩, ⟨h5.1, fun p hp => ⟨(h5.2 p hp).1, (h5.2 p hp).2.1⟩⟩, ⟨h6.1, fun r hr => (h6.2 r hr).2.1.1⟩⟩
  exact machConfined_typed nm sts start ins outs rows hA sq ps st hh k n h7.1
end Go.Proofs.Ytelcbakleaaneaa
