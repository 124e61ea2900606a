/- MachAnyOrder, for the row's arguments. -/
import Derived.Test.YtelcbakleaaneaaOrdAll
import Derived.Test.YtelcbakleaaneaaNetX
import Derived.Test.YtelcbakleaaneaaTcsMachAnyOrder
namespace Go.Proofs.Ytelcbakleaaneaa
open Go Go.Proofs.Ytelcbakleaaneaa.VM
theorem cpM_of {m : TMach} (h : WM m) : CpM m := by
  obtain ⟨h1, h2, h3, h4, h5⟩ := h
  unfold reachBytes at *
  exact ⟨by omega, ⟨by omega, fun q hq => by have := (h3.2 q hq).2.1; omega⟩, ⟨by omega, fun q hq => by have := (h4.2 q hq).2.1; omega⟩, ⟨by omega, fun q hq => by have := h5.2 q hq; omega⟩⟩
theorem cpNe_of {n : TNet} (h : WN n) : CpNe n := by
  obtain ⟨h1, h2, h3, h4, h5⟩ := h
  unfold reachBytes at *
  exact ⟨by omega, ⟨by omega, fun q hq => by have := h3.2 q hq; omega⟩, by omega, by omega⟩
theorem machAnyOrder_typed (oms : Option (List TMach)) (ons : Option (List TNet)) (i : Int) (ox : Option (List (Option (List Int)))) (oP oL : Option (List Int)) (h2 : (li oms).length * 120 ≤ reachBytes ∧ ∀ m ∈ li oms, WM m) (h3 : (li ons).length * 112 ≤ reachBytes ∧ ∀ n ∈ li ons, WN n) (h4 : (li ox).length * 24 ≤ reachBytes ∧ ∀ x ∈ li ox, (li x).length * 8 ≤ reachBytes) :
    law02_MachAnyOrder (.agg [sl MC oms, sl NT ons]) (.int .i64 i) (.agg [sl SI ox, sl I oP, sl I oL]) = some (.bool true) := by
  have hcm : (li oms).length ≤ 1172812402961 ∧ ∀ m ∈ li oms, CpM m := ⟨by have := h2.1; unfold reachBytes at this; omega, fun m hm => cpM_of (h2.2 m hm)⟩
  have hcn : (li ons).length ≤ 1256584717458 ∧ ∀ n ∈ li ons, CpNe n := ⟨by have := h3.1; unfold reachBytes at this; omega, fun n hn => cpNe_of (h3.2 n hn)⟩
  have hsm : ∀ m ∈ li oms, SmM m := fun m hm => WfM.sm (start := m.2.2.1) (h2.2 m hm)
  have hns : ∀ n ∈ li ons, SmN n := fun n hn => (h3.2 n hn).sm
  by_cases g : netCk (li oms) (li ons) i = 0
  · exact order_ok hcm hcn hsm hns i (by have := h4.1; unfold reachBytes at this; omega) (fun x hx => by have := h4.2 x hx; unfold reachBytes at this; omega) g
  · exact order_bad hcm hcn hsm hns i rfl g
theorem machAnyOrder_pure (x : Vals tcsMachAnyOrder) (h : wfs tcsMachAnyOrder x) : den E 12 (argsF tcsMachAnyOrder x) = some (.bool true) := by
  obtain ⟨⟨oms, ons, ⟨⟩⟩, i, ⟨ox, oP, oL, ⟨⟩⟩, ⟨⟩⟩ := x
  obtain ⟨⟨h2, h3, _⟩, h4, ⟨h5, _⟩, _⟩ := h
  exact machAnyOrder_typed oms ons i ox oP oL ⟨h2.1, fun m hm => wm_of m (h2.2 m hm)⟩ ⟨h3.1, fun n hn => by
    obtain ⟨k1, k2, k3, k4, k5, _⟩ := h3.2 n hn
    exact ⟨k1, ⟨k2.1, fun p hp => (k2.2 p hp).1⟩, ⟨k3.1, fun l hl => (k3.2 l hl).2.2.2.1.1⟩, k4.1, k5.1⟩⟩ ⟨h5.1, fun x hx => (h5.2 x hx).1⟩
end Go.Proofs.Ytelcbakleaaneaa
