/-
  No cell of these rows narrows 'for every input' (looked for: loops, veiled, ifaces, maps, wideKeys, modest, calm, conditions, laid).
  DERIVED. THE GIVEN ROWS OF THIS SEAT. 11 by the template 'for every input the law returns true; each argument reads behind the call as it read before'; 0 by the template 'total and deterministic' (their statements: YtelcbakleaaneaaTotals.lean).
  GIVEN WITH THE SEED: the statements are not yours to turn. If you find one false, say at which input.
  Laid BY PROGRAM, IN A SANDBOX (cutbox-rows.mjs): the forced cells as the released guide's own fill.sh prints them over the translation 8f4f50fe86529286… (all of the seat's roots in one cut). By AI agents, Wed Nov 11 2026. No macro, syntax, notation, axiom, sorry.
-/
import Derived.Test.YtelcbakleaaneaaChecked
import GoSem.Claim
import GoSem.ClaimJoined
import GoSem.ClaimMapViews
import Derived.JoinedTies
import Derived.KernelRfl
namespace Go.Proofs.Ytelcbakleaaneaa
/- THE CELL 'sum', in the pinned program and in every row, IS THE sha256 OF THE DUMP (.gsa) THAT YtelcbakleaaneaaProg.lean LOADS. Nothing in Lean hashes anything: it is a label: what it is worth is what the hold of that sum in a sandbox is worth. -/
noncomputable def Try.pinned : Pinned := { name := "ytelcbakleaaneaa", sum := "8f4f50fe865292865cc6679f9fffd36b81dd8105bea703ea4689c706ee207a02", checked := Try.checked }
namespace Rows
def none {H : Type} : Left H := { results := [], args := [] }

/-- 'rametlaw02.MachAnyPlane': WHATEVER THE INPUT: true; the input reads as it did. -/
def machAnyPlaneSpec : ChangeSpec := { name := "machAnyPlane", fn := fun _ => fun
  | [d1, d2] => { results := [.lit (.bool true)], args := [d1, d2] }
  | _ => none }
def machAnyPlaneRow : OpenClaim := { program := "ytelcbakleaaneaa", sum := "8f4f50fe865292865cc6679f9fffd36b81dd8105bea703ea4689c706ee207a02", func := "ramet/rametlaw02.MachAnyPlane", spec := "machAnyPlane", unfollowed := true, recurses := true, plainKeys := false, apart := false }
def MachAnyPlaneSaid : Prop := machAnyPlaneRow.holds Try.pinned (OpenSpec.ofChange machAnyPlaneSpec)

/-- ITS FALSE NEIGHBOUR: 'it returns false'. Refute it at one input. -/
def machAnyPlaneWrong : ChangeSpec := { name := "machAnyPlane", fn := fun _ => fun
  | [d1, d2] => { results := [.lit (.bool false)], args := [d1, d2] }
  | _ => none }
def MachAnyPlaneWrongFalsely : Prop := machAnyPlaneRow.holds Try.pinned (OpenSpec.ofChange machAnyPlaneWrong)

/-- 'rametlaw02.MachRuns': WHATEVER THE INPUT: true; the input reads as it did. -/
def machRunsSpec : ChangeSpec := { name := "machRuns", fn := fun _ => fun
  | [d1, d2] => { results := [.lit (.bool true)], args := [d1, d2] }
  | _ => none }
def machRunsRow : OpenClaim := { program := "ytelcbakleaaneaa", sum := "8f4f50fe865292865cc6679f9fffd36b81dd8105bea703ea4689c706ee207a02", func := "ramet/rametlaw02.MachRuns", spec := "machRuns", plainKeys := false, apart := false }
def MachRunsSaid : Prop := machRunsRow.holds Try.pinned (OpenSpec.ofChange machRunsSpec)

/-- ITS FALSE NEIGHBOUR: 'it returns false'. Refute it at one input. -/
def machRunsWrong : ChangeSpec := { name := "machRuns", fn := fun _ => fun
  | [d1, d2] => { results := [.lit (.bool false)], args := [d1, d2] }
  | _ => none }
def MachRunsWrongFalsely : Prop := machRunsRow.holds Try.pinned (OpenSpec.ofChange machRunsWrong)

/-- 'rametlaw02.MachBands': WHATEVER THE INPUT: true; the input reads as it did. -/
def machBandsSpec : ChangeSpec := { name := "machBands", fn := fun _ => fun
  | [d1, d2, d3] => { results := [.lit (.bool true)], args := [d1, d2, d3] }
  | _ => none }
def machBandsRow : OpenClaim := { program := "ytelcbakleaaneaa", sum := "8f4f50fe865292865cc6679f9fffd36b81dd8105bea703ea4689c706ee207a02", func := "ramet/rametlaw02.MachBands", spec := "machBands", unfollowed := true, recurses := true, plainKeys := false, apart := false }
def MachBandsSaid : Prop := machBandsRow.holds Try.pinned (OpenSpec.ofChange machBandsSpec)

/-- ITS FALSE NEIGHBOUR: 'it returns false'. Refute it at one input. -/
def machBandsWrong : ChangeSpec := { name := "machBands", fn := fun _ => fun
  | [d1, d2, d3] => { results := [.lit (.bool false)], args := [d1, d2, d3] }
  | _ => none }
def MachBandsWrongFalsely : Prop := machBandsRow.holds Try.pinned (OpenSpec.ofChange machBandsWrong)

/-- 'rametlaw02.MachDiffer': WHATEVER THE INPUT: true; the input reads as it did. -/
def machDifferSpec : ChangeSpec := { name := "machDiffer", fn := fun _ => fun
  | [d1, d2] => { results := [.lit (.bool true)], args := [d1, d2] }
  | _ => none }
def machDifferRow : OpenClaim := { program := "ytelcbakleaaneaa", sum := "8f4f50fe865292865cc6679f9fffd36b81dd8105bea703ea4689c706ee207a02", func := "ramet/rametlaw02.MachDiffer", spec := "machDiffer", unfollowed := true, recurses := true, plainKeys := false, apart := false }
def MachDifferSaid : Prop := machDifferRow.holds Try.pinned (OpenSpec.ofChange machDifferSpec)

/-- ITS FALSE NEIGHBOUR: 'it returns false'. Refute it at one input. -/
def machDifferWrong : ChangeSpec := { name := "machDiffer", fn := fun _ => fun
  | [d1, d2] => { results := [.lit (.bool false)], args := [d1, d2] }
  | _ => none }
def MachDifferWrongFalsely : Prop := machDifferRow.holds Try.pinned (OpenSpec.ofChange machDifferWrong)

/-- 'rametlaw02.MachChecks': WHATEVER THE INPUT: true; the input reads as it did. -/
def machChecksSpec : ChangeSpec := { name := "machChecks", fn := fun _ => fun
  | [d1, d2, d3] => { results := [.lit (.bool true)], args := [d1, d2, d3] }
  | _ => none }
def machChecksRow : OpenClaim := { program := "ytelcbakleaaneaa", sum := "8f4f50fe865292865cc6679f9fffd36b81dd8105bea703ea4689c706ee207a02", func := "ramet/rametlaw02.MachChecks", spec := "machChecks", plainKeys := false, apart := false }
def MachChecksSaid : Prop := machChecksRow.holds Try.pinned (OpenSpec.ofChange machChecksSpec)

/-- ITS FALSE NEIGHBOUR: 'it returns false'. Refute it at one input. -/
def machChecksWrong : ChangeSpec := { name := "machChecks", fn := fun _ => fun
  | [d1, d2, d3] => { results := [.lit (.bool false)], args := [d1, d2, d3] }
  | _ => none }
def MachChecksWrongFalsely : Prop := machChecksRow.holds Try.pinned (OpenSpec.ofChange machChecksWrong)

/-- 'rametlaw02.MachConfined': WHATEVER THE INPUT: true; the input reads as it did. -/
def machConfinedSpec : ChangeSpec := { name := "machConfined", fn := fun _ => fun
  | [d1, d2, d3] => { results := [.lit (.bool true)], args := [d1, d2, d3] }
  | _ => none }
def machConfinedRow : OpenClaim := { program := "ytelcbakleaaneaa", sum := "8f4f50fe865292865cc6679f9fffd36b81dd8105bea703ea4689c706ee207a02", func := "ramet/rametlaw02.MachConfined", spec := "machConfined", unfollowed := true, recurses := true, plainKeys := false, apart := false }
def MachConfinedSaid : Prop := machConfinedRow.holds Try.pinned (OpenSpec.ofChange machConfinedSpec)

/-- ITS FALSE NEIGHBOUR: 'it returns false'. Refute it at one input. -/
def machConfinedWrong : ChangeSpec := { name := "machConfined", fn := fun _ => fun
  | [d1, d2, d3] => { results := [.lit (.bool false)], args := [d1, d2, d3] }
  | _ => none }
def MachConfinedWrongFalsely : Prop := machConfinedRow.holds Try.pinned (OpenSpec.ofChange machConfinedWrong)

/-- 'rametlaw02.MachMinimal': WHATEVER THE INPUT: true; the input reads as it did. -/
def machMinimalSpec : ChangeSpec := { name := "machMinimal", fn := fun _ => fun
  | [d1, d2, d3] => { results := [.lit (.bool true)], args := [d1, d2, d3] }
  | _ => none }
def machMinimalRow : OpenClaim := { program := "ytelcbakleaaneaa", sum := "8f4f50fe865292865cc6679f9fffd36b81dd8105bea703ea4689c706ee207a02", func := "ramet/rametlaw02.MachMinimal", spec := "machMinimal", unfollowed := true, recurses := true, plainKeys := false, apart := false }
def MachMinimalSaid : Prop := machMinimalRow.holds Try.pinned (OpenSpec.ofChange machMinimalSpec)

/-- ITS FALSE NEIGHBOUR: 'it returns false'. Refute it at one input. -/
def machMinimalWrong : ChangeSpec := { name := "machMinimal", fn := fun _ => fun
  | [d1, d2, d3] => { results := [.lit (.bool false)], args := [d1, d2, d3] }
  | _ => none }
def MachMinimalWrongFalsely : Prop := machMinimalRow.holds Try.pinned (OpenSpec.ofChange machMinimalWrong)

/-- 'rametlaw02.MachPlanes': WHATEVER THE INPUT: true; the input reads as it did. -/
def machPlanesSpec : ChangeSpec := { name := "machPlanes", fn := fun _ => fun
  | [d1, d2] => { results := [.lit (.bool true)], args := [d1, d2] }
  | _ => none }
def machPlanesRow : OpenClaim := { program := "ytelcbakleaaneaa", sum := "8f4f50fe865292865cc6679f9fffd36b81dd8105bea703ea4689c706ee207a02", func := "ramet/rametlaw02.MachPlanes", spec := "machPlanes", unfollowed := true, recurses := true, plainKeys := false, apart := false }
def MachPlanesSaid : Prop := machPlanesRow.holds Try.pinned (OpenSpec.ofChange machPlanesSpec)

/-- ITS FALSE NEIGHBOUR: 'it returns false'. Refute it at one input. -/
def machPlanesWrong : ChangeSpec := { name := "machPlanes", fn := fun _ => fun
  | [d1, d2] => { results := [.lit (.bool false)], args := [d1, d2] }
  | _ => none }
def MachPlanesWrongFalsely : Prop := machPlanesRow.holds Try.pinned (OpenSpec.ofChange machPlanesWrong)

/-- 'rametlaw02.MachNets': WHATEVER THE INPUT: true; the input reads as it did. -/
def machNetsSpec : ChangeSpec := { name := "machNets", fn := fun _ => fun
  | [d1, d2, d3] => { results := [.lit (.bool true)], args := [d1, d2, d3] }
  | _ => none }
def machNetsRow : OpenClaim := { program := "ytelcbakleaaneaa", sum := "8f4f50fe865292865cc6679f9fffd36b81dd8105bea703ea4689c706ee207a02", func := "ramet/rametlaw02.MachNets", spec := "machNets", unfollowed := true, recurses := true, plainKeys := false, apart := false }
def MachNetsSaid : Prop := machNetsRow.holds Try.pinned (OpenSpec.ofChange machNetsSpec)

/-- ITS FALSE NEIGHBOUR: 'it returns false'. Refute it at one input. -/
def machNetsWrong : ChangeSpec := { name := "machNets", fn := fun _ => fun
  | [d1, d2, d3] => { results := [.lit (.bool false)], args := [d1, d2, d3] }
  | _ => none }
def MachNetsWrongFalsely : Prop := machNetsRow.holds Try.pinned (OpenSpec.ofChange machNetsWrong)

/-- 'rametlaw02.MachAnyOrder': WHATEVER THE INPUT: true; the input reads as it did. -/
def machAnyOrderSpec : ChangeSpec := { name := "machAnyOrder", fn := fun _ => fun
  | [d1, d2, d3] => { results := [.lit (.bool true)], args := [d1, d2, d3] }
  | _ => none }
def machAnyOrderRow : OpenClaim := { program := "ytelcbakleaaneaa", sum := "8f4f50fe865292865cc6679f9fffd36b81dd8105bea703ea4689c706ee207a02", func := "ramet/rametlaw02.MachAnyOrder", spec := "machAnyOrder", unfollowed := true, recurses := true, plainKeys := false, apart := false }
def MachAnyOrderSaid : Prop := machAnyOrderRow.holds Try.pinned (OpenSpec.ofChange machAnyOrderSpec)

/-- ITS FALSE NEIGHBOUR: 'it returns false'. Refute it at one input. -/
def machAnyOrderWrong : ChangeSpec := { name := "machAnyOrder", fn := fun _ => fun
  | [d1, d2, d3] => { results := [.lit (.bool false)], args := [d1, d2, d3] }
  | _ => none }
def MachAnyOrderWrongFalsely : Prop := machAnyOrderRow.holds Try.pinned (OpenSpec.ofChange machAnyOrderWrong)

/-- 'rametlaw02.MachFlat': WHATEVER THE INPUT: true; the input reads as it did. -/
def machFlatSpec : ChangeSpec := { name := "machFlat", fn := fun _ => fun
  | [d1, d2, d3] => { results := [.lit (.bool true)], args := [d1, d2, d3] }
  | _ => none }
def machFlatRow : OpenClaim := { program := "ytelcbakleaaneaa", sum := "8f4f50fe865292865cc6679f9fffd36b81dd8105bea703ea4689c706ee207a02", func := "ramet/rametlaw02.MachFlat", spec := "machFlat", unfollowed := true, recurses := true, plainKeys := false, apart := false }
def MachFlatSaid : Prop := machFlatRow.holds Try.pinned (OpenSpec.ofChange machFlatSpec)

/-- ITS FALSE NEIGHBOUR: 'it returns false'. Refute it at one input. -/
def machFlatWrong : ChangeSpec := { name := "machFlat", fn := fun _ => fun
  | [d1, d2, d3] => { results := [.lit (.bool false)], args := [d1, d2, d3] }
  | _ => none }
def MachFlatWrongFalsely : Prop := machFlatRow.holds Try.pinned (OpenSpec.ofChange machFlatWrong)

/- THE SECOND FORM. 'bulk': how many values and letters a reading holds, each counted each time it is reached (what is shared counts as often as it is met; a slice's spare places count too). A statement '..UptoSaid' is the law's where the arguments, and the package variables that the reading takes, are together of bulk at most 1048576: NARROWER than '..Said'. Prove '..Said' where nothing that the law and all that it calls make is longer than what came in: it says more and counts as full. Else prove '..UptoSaid'. A law counts once. -/
mutual
def uptoBulk {H : Type} : DataW H → Nat
  | .lit (.string bytes) => bytes.length + 1
  | .lit _ => 1
  | .nil => 1
  | .ptr d => uptoBulk d + 1
  | .slice elems spare => uptoBulkAll elems + uptoBulkAll spare + 1
  | .agg parts => uptoBulkAll parts + 1
  | .iface _ d => uptoBulk d + 1
  | .map entries => uptoBulkEntries entries + 1
  | .held _ => 1
def uptoBulkAll {H : Type} : List (DataW H) → Nat
  | [] => 0
  | d :: r => uptoBulk d + uptoBulkAll r
def uptoBulkEntries {H : Type} : List (Lit × DataW H) → Nat
  | [] => 0
  | x :: r => uptoBulkEntry x + uptoBulkEntries r
def uptoBulkEntry {H : Type} : Lit × DataW H → Nat
  | (.string bytes, d) => bytes.length + uptoBulk d + 1
  | (_, d) => uptoBulk d + 1
 end
def uptoSmall : (H : Type) → List (DataW H) → Bool := fun _ ds => decide (uptoBulkAll ds ≤ 1048576)
def OpenSpec.upto (s : _root_.Go.ChangeSpec) : _root_.Go.OpenSpec := { _root_.Go.OpenSpec.ofChange s with cond := some uptoSmall }

/-- 'rametlaw02.MachAnyPlane', WHERE WHAT IT READS IS OF BULK AT MOST 1048576: true; the input reads as it did. -/
def machAnyPlaneUptoRow : OpenClaim := { program := "ytelcbakleaaneaa", sum := "8f4f50fe865292865cc6679f9fffd36b81dd8105bea703ea4689c706ee207a02", func := "ramet/rametlaw02.MachAnyPlane", spec := "machAnyPlane", unfollowed := true, recurses := true, plainKeys := false, apart := false, narrowed := true }
def MachAnyPlaneUptoSaid : Prop := machAnyPlaneUptoRow.holds Try.pinned (OpenSpec.upto machAnyPlaneSpec)

/-- 'rametlaw02.MachRuns', WHERE WHAT IT READS IS OF BULK AT MOST 1048576: true; the input reads as it did. -/
def machRunsUptoRow : OpenClaim := { program := "ytelcbakleaaneaa", sum := "8f4f50fe865292865cc6679f9fffd36b81dd8105bea703ea4689c706ee207a02", func := "ramet/rametlaw02.MachRuns", spec := "machRuns", plainKeys := false, apart := false, narrowed := true }
def MachRunsUptoSaid : Prop := machRunsUptoRow.holds Try.pinned (OpenSpec.upto machRunsSpec)

/-- 'rametlaw02.MachBands', WHERE WHAT IT READS IS OF BULK AT MOST 1048576: true; the input reads as it did. -/
def machBandsUptoRow : OpenClaim := { program := "ytelcbakleaaneaa", sum := "8f4f50fe865292865cc6679f9fffd36b81dd8105bea703ea4689c706ee207a02", func := "ramet/rametlaw02.MachBands", spec := "machBands", unfollowed := true, recurses := true, plainKeys := false, apart := false, narrowed := true }
def MachBandsUptoSaid : Prop := machBandsUptoRow.holds Try.pinned (OpenSpec.upto machBandsSpec)

/-- 'rametlaw02.MachDiffer', WHERE WHAT IT READS IS OF BULK AT MOST 1048576: true; the input reads as it did. -/
def machDifferUptoRow : OpenClaim := { program := "ytelcbakleaaneaa", sum := "8f4f50fe865292865cc6679f9fffd36b81dd8105bea703ea4689c706ee207a02", func := "ramet/rametlaw02.MachDiffer", spec := "machDiffer", unfollowed := true, recurses := true, plainKeys := false, apart := false, narrowed := true }
def MachDifferUptoSaid : Prop := machDifferUptoRow.holds Try.pinned (OpenSpec.upto machDifferSpec)

/-- 'rametlaw02.MachChecks', WHERE WHAT IT READS IS OF BULK AT MOST 1048576: true; the input reads as it did. -/
def machChecksUptoRow : OpenClaim := { program := "ytelcbakleaaneaa", sum := "8f4f50fe865292865cc6679f9fffd36b81dd8105bea703ea4689c706ee207a02", func := "ramet/rametlaw02.MachChecks", spec := "machChecks", plainKeys := false, apart := false, narrowed := true }
def MachChecksUptoSaid : Prop := machChecksUptoRow.holds Try.pinned (OpenSpec.upto machChecksSpec)

/-- 'rametlaw02.MachConfined', WHERE WHAT IT READS IS OF BULK AT MOST 1048576: true; the input reads as it did. -/
def machConfinedUptoRow : OpenClaim := { program := "ytelcbakleaaneaa", sum := "8f4f50fe865292865cc6679f9fffd36b81dd8105bea703ea4689c706ee207a02", func := "ramet/rametlaw02.MachConfined", spec := "machConfined", unfollowed := true, recurses := true, plainKeys := false, apart := false, narrowed := true }
def MachConfinedUptoSaid : Prop := machConfinedUptoRow.holds Try.pinned (OpenSpec.upto machConfinedSpec)

/-- 'rametlaw02.MachMinimal', WHERE WHAT IT READS IS OF BULK AT MOST 1048576: true; the input reads as it did. -/
def machMinimalUptoRow : OpenClaim := { program := "ytelcbakleaaneaa", sum := "8f4f50fe865292865cc6679f9fffd36b81dd8105bea703ea4689c706ee207a02", func := "ramet/rametlaw02.MachMinimal", spec := "machMinimal", unfollowed := true, recurses := true, plainKeys := false, apart := false, narrowed := true }
def MachMinimalUptoSaid : Prop := machMinimalUptoRow.holds Try.pinned (OpenSpec.upto machMinimalSpec)

/-- 'rametlaw02.MachPlanes', WHERE WHAT IT READS IS OF BULK AT MOST 1048576: true; the input reads as it did. -/
def machPlanesUptoRow : OpenClaim := { program := "ytelcbakleaaneaa", sum := "8f4f50fe865292865cc6679f9fffd36b81dd8105bea703ea4689c706ee207a02", func := "ramet/rametlaw02.MachPlanes", spec := "machPlanes", unfollowed := true, recurses := true, plainKeys := false, apart := false, narrowed := true }
def MachPlanesUptoSaid : Prop := machPlanesUptoRow.holds Try.pinned (OpenSpec.upto machPlanesSpec)

/-- 'rametlaw02.MachNets', WHERE WHAT IT READS IS OF BULK AT MOST 1048576: true; the input reads as it did. -/
def machNetsUptoRow : OpenClaim := { program := "ytelcbakleaaneaa", sum := "8f4f50fe865292865cc6679f9fffd36b81dd8105bea703ea4689c706ee207a02", func := "ramet/rametlaw02.MachNets", spec := "machNets", unfollowed := true, recurses := true, plainKeys := false, apart := false, narrowed := true }
def MachNetsUptoSaid : Prop := machNetsUptoRow.holds Try.pinned (OpenSpec.upto machNetsSpec)

/-- 'rametlaw02.MachAnyOrder', WHERE WHAT IT READS IS OF BULK AT MOST 1048576: true; the input reads as it did. -/
def machAnyOrderUptoRow : OpenClaim := { program := "ytelcbakleaaneaa", sum := "8f4f50fe865292865cc6679f9fffd36b81dd8105bea703ea4689c706ee207a02", func := "ramet/rametlaw02.MachAnyOrder", spec := "machAnyOrder", unfollowed := true, recurses := true, plainKeys := false, apart := false, narrowed := true }
def MachAnyOrderUptoSaid : Prop := machAnyOrderUptoRow.holds Try.pinned (OpenSpec.upto machAnyOrderSpec)

/-- 'rametlaw02.MachFlat', WHERE WHAT IT READS IS OF BULK AT MOST 1048576: true; the input reads as it did. -/
def machFlatUptoRow : OpenClaim := { program := "ytelcbakleaaneaa", sum := "8f4f50fe865292865cc6679f9fffd36b81dd8105bea703ea4689c706ee207a02", func := "ramet/rametlaw02.MachFlat", spec := "machFlat", unfollowed := true, recurses := true, plainKeys := false, apart := false, narrowed := true }
def MachFlatUptoSaid : Prop := machFlatUptoRow.holds Try.pinned (OpenSpec.upto machFlatSpec)

end Rows
end Go.Proofs.Ytelcbakleaaneaa
