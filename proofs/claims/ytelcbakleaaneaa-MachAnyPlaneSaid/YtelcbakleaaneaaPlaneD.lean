/- MachAnyPlane, for the row's arguments. -/
import Derived.Test.YtelcbakleaaneaaPlaneC
import Derived.Test.YtelcbakleaaneaaTcsMachAnyPlane
namespace Go.Proofs.Ytelcbakleaaneaa
open Go Go.Proofs.Ytelcbakleaaneaa.VM
def tmOf (t : Option (List Int) × Option (List Int) × Unit) : Tm := (t.1, t.2.1)
def T' (t : Option (List Int) × Option (List Int) × Unit) : List FV := [sl I t.1, sl I t.2.1]
theorem machAnyPlane_typed (ins outs : Option (List Int)) (st : Int) (start : Option (List Int)) (terms : Option (List (Option (List Int) × Option (List Int) × Unit))) (xs : Option (List (Option (List Int))))
    (h1 : (li ins).length * 8 ≤ reachBytes ∧ ∀ n ∈ li ins, (Lit.int .i64 n).wf = true) (h2 : (li outs).length * 8 ≤ reachBytes ∧ ∀ n ∈ li outs, (Lit.int .i64 n).wf = true) (h4 : (li start).length * 8 ≤ reachBytes)
    (h5 : (li terms).length * 48 ≤ reachBytes ∧ ∀ t ∈ li terms, (li t.1).length * 8 ≤ reachBytes ∧ (li t.2.1).length * 8 ≤ reachBytes) (h6 : (li xs).length * 24 ≤ reachBytes ∧ ∀ x ∈ li xs, (li x).length * 8 ≤ reachBytes) :
    law02_MachAnyPlane (.agg [sl I ins, sl I outs, .int .i64 st, sl I start, sl T' terms]) (sl SI xs) = some (.bool true) := by
  have e : sl T' terms = sl T (terms.map (List.map tmOf)) := sl_map (e := T') (e' := T) tmOf (fun a => rfl) terms
  rw [e]
  unfold reachBytes at *
  refine anyPlane ⟨⟨by omega, fun n hn => (wf64 (h1.2 n hn)).2⟩, ⟨by omega, fun n hn => (wf64 (h2.2 n hn)).2⟩, by omega, by rw [li_map, List.length_map]; omega, fun t ht => ?_⟩ ⟨by omega, fun x hx => by have := h6.2 x hx; omega⟩
  rw [li_map] at ht
  obtain ⟨u, hu, rfl⟩ := List.mem_map.1 ht
  obtain ⟨k1, k2⟩ := h5.2 u hu
  exact ⟨show (li u.1).length < _ by omega, show (li u.2.1).length < _ by omega⟩
theorem machAnyPlane_pure (x : Vals tcsMachAnyPlane) (h : wfs tcsMachAnyPlane x) : den E 3 (argsF tcsMachAnyPlane x) = some (.bool true) := by
  obtain ⟨⟨ins, outs, st, start, terms, ⟨⟩⟩, xs, ⟨⟩⟩ := x
  obtain ⟨⟨h1, h2, h3, h4, h5, _⟩, h6, _⟩ := h
  exact machAnyPlane_typed ins outs st start terms xs h1 h2 h4.1 ⟨h5.1, fun t ht => ⟨(h5.2 t ht).1.1, (h5.2 t ht).2.1.1⟩⟩ ⟨h6.1, fun x hx => (h6.2 x hx).1⟩
end Go.Proofs.Ytelcbakleaaneaa
