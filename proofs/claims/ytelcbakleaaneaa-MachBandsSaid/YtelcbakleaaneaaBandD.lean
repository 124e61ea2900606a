/- MachBands, for the row's arguments. -/
import Derived.Test.YtelcbakleaaneaaBandRun
import Derived.Test.YtelcbakleaaneaaMachF
import Derived.Test.YtelcbakleaaneaaTcsMachBands
namespace Go.Proofs.Ytelcbakleaaneaa
open Go Go.Proofs.Ytelcbakleaaneaa.VM
theorem machBands_typed (nm : Str) (sts : Option (List Str)) (start : Int) (ins outs : Option (List TPort)) (rows : Option (List TRow)) (h : WfM nm sts ins outs rows) (sq : Option (List Int)) (ps st : Int) (hh : Bool) (k T first : Int) (h6 : (li sq).length * 8 ≤ reachBytes) :
    law02_MachBands (.agg [.str nm, sl S sts, .int .i64 start, sl P ins, sl P outs, sl RW rows]) (.agg [sl I sq, .int .i64 ps, .int .i64 st, .bool hh, .int .i64 k]) (.agg [.int .i64 T, .int .i64 first]) = some (.bool true) :=
  bands_law h.sm (by have hr : reachBytes < 1000000000000000 := by { unfold reachBytes; omega }; omega) ps st hh k T first
theorem machBands_pure (x : Vals tcsMachBands) (h : wfs tcsMachBands x) : den E 5 (argsF tcsMachBands x) = some (.bool true) := by
  obtain ⟨⟨nm, sts, start, ins, outs, rows, ⟨⟩⟩, ⟨sq, ps, st, hh, k, ⟨⟩⟩, ⟨T, first, ⟨⟩⟩, ⟨⟩⟩ := x
  obtain ⟨⟨h1, h2, h3, h4, h5, h6, _⟩, ⟨h7, _⟩, _⟩ := h
  exact machBands_typed nm sts start ins outs rows ⟨h1, h2, ⟨h4.1, fun p hp => ⟨(h4.2 p hp).1, (h4.2 p hp).2.1⟩⟩, ⟨h5.1, fun p hp => ⟨(h5.2 p hp).1, (h5.2 p hp).2.1⟩⟩, ⟨h6.1, fun r hr => (h6.2 r hr).2.1.1⟩⟩ sq ps st hh k T first h7.1
end Go.Proofs.Ytelcbakleaaneaa
