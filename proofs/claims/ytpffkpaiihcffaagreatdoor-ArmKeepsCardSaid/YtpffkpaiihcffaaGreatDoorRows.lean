/-
  NARROWER THAN 'FOR EVERY INPUT', by the rows' own cells (each row's printed sentence says how): ArmStands: laid · ArmMoves: laid · ArmLoaded: laid · ArmTrains: laid · ArmKeeps: laid · ArmNamed: laid · ArmWorld: laid.
  DERIVED. THE GIVEN ROWS OF THIS SEAT. 7 by the template 'for every input the law returns true; each argument reads behind the call as it read before'; 0 by the template 'total and deterministic' (their statements: YtpffkpaiihcffaaGreatDoorTotals.lean).
  GIVEN WITH THE SEED: the statements are not yours to turn. If you find one false, say at which input.
  Laid BY PROGRAM, IN A SANDBOX (cutbox-rows.mjs): the forced cells as the released guide's own fill.sh prints them over the translation 780d8247d3c3203b… (all of the seat's roots in one cut). By AI agents, Wed Nov 11 2026. No macro, syntax, notation, axiom, sorry.
-/
import Derived.Test.YtpffkpaiihcffaaGreatDoorChecked
import GoSem.Claim
import GoSem.ClaimJoined
import GoSem.ClaimMapViews
import Derived.JoinedTies
import Derived.KernelRfl
namespace Go.Proofs.YtpffkpaiihcffaaGreatDoor
/- THE CELL 'sum', in the pinned program and in every row, IS THE sha256 OF THE DUMP (.gsa) THAT YtpffkpaiihcffaaGreatDoorProg.lean LOADS. Nothing in Lean hashes anything: it is a label: what it is worth is what the hold of that sum in a sandbox is worth. -/
noncomputable def Tryz.pinned : Pinned := { name := "ytpffkpaiihcffaagreatdoor", sum := "780d8247d3c3203befae0f421cbd4e249d09b317c9faaddc5d3821debbd544c6", checked := Tryz.checked }
namespace Rows
def none {H : Type} : Left H := { results := [], args := [] }

/- WHAT THE LISTED PACKAGE-LEVEL VARIABLES READ AS WHEN THE CALL BEGINS. Each datum BY PROGRAM (the guide's laid-datum.mjs) off the statement by which the dump's own 'gosem.cut.vars' lays the variable. In a bare row this is a premise. The card (YtpffkpaiihcffaaGreatDoorCards.lean) ties it to the program's text. -/
def laid_ramet_cells_grown {H : Type} : DataW H := .agg [.agg [.lit (.string [48, 48, 48, 48]), .lit (.int .i64 9)], .agg [.lit (.string [48, 48, 48, 49]), .lit (.int .i64 10)], .agg [.lit (.string [48, 48, 49]), .lit (.int .i64 11)], .agg [.lit (.string [48, 49, 48]), .lit (.int .i64 12)], .agg [.lit (.string [48, 49, 49]), .lit (.int .i64 17)], .agg [.lit (.string [49, 48, 48]), .lit (.int .i64 18)], .agg [.lit (.string [49, 48, 49]), .lit (.int .i64 19)], .agg [.lit (.string [49, 49, 48]), .lit (.int .i64 20)], .agg [.lit (.string [49, 49, 49]), .lit (.int .i64 25)]]
def laid_ramet_arm_fixed {H : Type} : DataW H := .agg [.agg [.lit (.string [49, 48, 48, 48, 48]), .lit (.string [49, 48, 49, 49, 48])], .agg [.lit (.string [49, 48, 48, 48, 49, 48, 48, 48, 48, 48, 48, 48]), .lit (.string [49, 48, 49, 49, 49, 49, 48, 48, 49, 49, 48, 48])], .agg [.lit (.string [49, 48, 48, 48, 49]), .lit (.string [49, 49, 48, 48, 48])]]
def laid_math_bits_deBruijn32tab {H : Type} : DataW H := .agg [.lit (.int .u8 0), .lit (.int .u8 1), .lit (.int .u8 28), .lit (.int .u8 2), .lit (.int .u8 29), .lit (.int .u8 14), .lit (.int .u8 24), .lit (.int .u8 3), .lit (.int .u8 30), .lit (.int .u8 22), .lit (.int .u8 20), .lit (.int .u8 15), .lit (.int .u8 25), .lit (.int .u8 17), .lit (.int .u8 4), .lit (.int .u8 8), .lit (.int .u8 31), .lit (.int .u8 27), .lit (.int .u8 13), .lit (.int .u8 23), .lit (.int .u8 21), .lit (.int .u8 19), .lit (.int .u8 16), .lit (.int .u8 7), .lit (.int .u8 26), .lit (.int .u8 12), .lit (.int .u8 18), .lit (.int .u8 6), .lit (.int .u8 11), .lit (.int .u8 5), .lit (.int .u8 10), .lit (.int .u8 9)]
def laid_math_bits_deBruijn64tab {H : Type} : DataW H := .agg [.lit (.int .u8 0), .lit (.int .u8 1), .lit (.int .u8 56), .lit (.int .u8 2), .lit (.int .u8 57), .lit (.int .u8 49), .lit (.int .u8 28), .lit (.int .u8 3), .lit (.int .u8 61), .lit (.int .u8 58), .lit (.int .u8 42), .lit (.int .u8 50), .lit (.int .u8 38), .lit (.int .u8 29), .lit (.int .u8 17), .lit (.int .u8 4), .lit (.int .u8 62), .lit (.int .u8 47), .lit (.int .u8 59), .lit (.int .u8 36), .lit (.int .u8 45), .lit (.int .u8 43), .lit (.int .u8 51), .lit (.int .u8 22), .lit (.int .u8 53), .lit (.int .u8 39), .lit (.int .u8 33), .lit (.int .u8 30), .lit (.int .u8 24), .lit (.int .u8 18), .lit (.int .u8 12), .lit (.int .u8 5), .lit (.int .u8 63), .lit (.int .u8 55), .lit (.int .u8 48), .lit (.int .u8 27), .lit (.int .u8 60), .lit (.int .u8 41), .lit (.int .u8 37), .lit (.int .u8 16), .lit (.int .u8 46), .lit (.int .u8 35), .lit (.int .u8 44), .lit (.int .u8 21), .lit (.int .u8 52), .lit (.int .u8 32), .lit (.int .u8 23), .lit (.int .u8 11), .lit (.int .u8 54), .lit (.int .u8 26), .lit (.int .u8 40), .lit (.int .u8 15), .lit (.int .u8 34), .lit (.int .u8 20), .lit (.int .u8 31), .lit (.int .u8 10), .lit (.int .u8 25), .lit (.int .u8 14), .lit (.int .u8 19), .lit (.int .u8 9), .lit (.int .u8 13), .lit (.int .u8 8), .lit (.int .u8 7), .lit (.int .u8 6)]
def laid_internal_strconv_uint64pow10 {H : Type} : DataW H := .agg [.lit (.int .u64 1), .lit (.int .u64 10), .lit (.int .u64 100), .lit (.int .u64 1000), .lit (.int .u64 10000), .lit (.int .u64 100000), .lit (.int .u64 1000000), .lit (.int .u64 10000000), .lit (.int .u64 100000000), .lit (.int .u64 1000000000), .lit (.int .u64 10000000000), .lit (.int .u64 100000000000), .lit (.int .u64 1000000000000), .lit (.int .u64 10000000000000), .lit (.int .u64 100000000000000), .lit (.int .u64 1000000000000000), .lit (.int .u64 10000000000000000), .lit (.int .u64 100000000000000000), .lit (.int .u64 1000000000000000000), .lit (.int .u64 10000000000000000000)]

/-- 'rametlaw08.ArmStands': WHATEVER THE INPUT: true; the input reads as it did. -/
def armStandsSpec : ChangeSpec := { name := "armStands", fn := fun _ => fun
  | [d1, d2, d3] => { results := [.lit (.bool true)], args := [d1, d2, d3] }
  | _ => none }
def armStandsRow : OpenClaim := { program := "ytpffkpaiihcffaagreatdoor", sum := "780d8247d3c3203befae0f421cbd4e249d09b317c9faaddc5d3821debbd544c6", func := "ramet/rametlaw08.ArmStands", spec := "armStands", inPlace := ["internal/abi.NoEscape", "internal/bytealg.MakeNoZero"], unfollowed := true, recurses := true, named := ["ramet/cells.grown", "ramet/arm.fixed"], plainKeys := false, apart := false, laid := [("ramet/cells.grown", laid_ramet_cells_grown), ("ramet/arm.fixed", laid_ramet_arm_fixed)] }
def ArmStandsSaid : Prop := armStandsRow.holds Tryz.pinned (OpenSpec.ofChange armStandsSpec)

/-- ITS FALSE NEIGHBOUR: 'it returns false'. Refute it at one input. -/
def armStandsWrong : ChangeSpec := { name := "armStands", fn := fun _ => fun
  | [d1, d2, d3] => { results := [.lit (.bool false)], args := [d1, d2, d3] }
  | _ => none }
def ArmStandsWrongFalsely : Prop := armStandsRow.holds Tryz.pinned (OpenSpec.ofChange armStandsWrong)

/-- 'rametlaw08.ArmMoves': WHATEVER THE INPUT: true; the input reads as it did. -/
def armMovesSpec : ChangeSpec := { name := "armMoves", fn := fun _ => fun
  | [d] => { results := [.lit (.bool true)], args := [d] }
  | _ => none }
def armMovesRow : OpenClaim := { program := "ytpffkpaiihcffaagreatdoor", sum := "780d8247d3c3203befae0f421cbd4e249d09b317c9faaddc5d3821debbd544c6", func := "ramet/rametlaw08.ArmMoves", spec := "armMoves", inPlace := ["internal/abi.NoEscape", "internal/bytealg.MakeNoZero"], unfollowed := true, recurses := true, named := ["ramet/cells.grown", "ramet/arm.fixed"], plainKeys := false, apart := false, laid := [("ramet/cells.grown", laid_ramet_cells_grown), ("ramet/arm.fixed", laid_ramet_arm_fixed)] }
def ArmMovesSaid : Prop := armMovesRow.holds Tryz.pinned (OpenSpec.ofChange armMovesSpec)

/-- ITS FALSE NEIGHBOUR: 'it returns false'. Refute it at one input. -/
def armMovesWrong : ChangeSpec := { name := "armMoves", fn := fun _ => fun
  | [d] => { results := [.lit (.bool false)], args := [d] }
  | _ => none }
def ArmMovesWrongFalsely : Prop := armMovesRow.holds Tryz.pinned (OpenSpec.ofChange armMovesWrong)

/-- 'rametlaw08.ArmLoaded': WHATEVER THE INPUT: true; the input reads as it did. -/
def armLoadedSpec : ChangeSpec := { name := "armLoaded", fn := fun _ => fun
  | [d1, d2, d3] => { results := [.lit (.bool true)], args := [d1, d2, d3] }
  | _ => none }
def armLoadedRow : OpenClaim := { program := "ytpffkpaiihcffaagreatdoor", sum := "780d8247d3c3203befae0f421cbd4e249d09b317c9faaddc5d3821debbd544c6", func := "ramet/rametlaw08.ArmLoaded", spec := "armLoaded", inPlace := ["internal/abi.NoEscape", "internal/bytealg.MakeNoZero"], unfollowed := true, recurses := true, named := ["ramet/cells.grown", "ramet/arm.fixed"], plainKeys := false, apart := false, laid := [("ramet/cells.grown", laid_ramet_cells_grown), ("ramet/arm.fixed", laid_ramet_arm_fixed)] }
def ArmLoadedSaid : Prop := armLoadedRow.holds Tryz.pinned (OpenSpec.ofChange armLoadedSpec)

/-- ITS FALSE NEIGHBOUR: 'it returns false'. Refute it at one input. -/
def armLoadedWrong : ChangeSpec := { name := "armLoaded", fn := fun _ => fun
  | [d1, d2, d3] => { results := [.lit (.bool false)], args := [d1, d2, d3] }
  | _ => none }
def ArmLoadedWrongFalsely : Prop := armLoadedRow.holds Tryz.pinned (OpenSpec.ofChange armLoadedWrong)

/-- 'rametlaw08.ArmTrains': WHATEVER THE INPUT: true; the input reads as it did. -/
def armTrainsSpec : ChangeSpec := { name := "armTrains", fn := fun _ => fun
  | [d1, d2] => { results := [.lit (.bool true)], args := [d1, d2] }
  | _ => none }
def armTrainsRow : OpenClaim := { program := "ytpffkpaiihcffaagreatdoor", sum := "780d8247d3c3203befae0f421cbd4e249d09b317c9faaddc5d3821debbd544c6", func := "ramet/rametlaw08.ArmTrains", spec := "armTrains", inPlace := ["internal/abi.NoEscape", "internal/bytealg.MakeNoZero"], unfollowed := true, recurses := true, named := ["ramet/cells.grown", "ramet/arm.fixed"], plainKeys := false, apart := false, laid := [("ramet/cells.grown", laid_ramet_cells_grown), ("ramet/arm.fixed", laid_ramet_arm_fixed)] }
def ArmTrainsSaid : Prop := armTrainsRow.holds Tryz.pinned (OpenSpec.ofChange armTrainsSpec)

/-- ITS FALSE NEIGHBOUR: 'it returns false'. Refute it at one input. -/
def armTrainsWrong : ChangeSpec := { name := "armTrains", fn := fun _ => fun
  | [d1, d2] => { results := [.lit (.bool false)], args := [d1, d2] }
  | _ => none }
def ArmTrainsWrongFalsely : Prop := armTrainsRow.holds Tryz.pinned (OpenSpec.ofChange armTrainsWrong)

/-- 'rametlaw08.ArmKeeps': WHATEVER THE INPUT: true; the input reads as it did. -/
def armKeepsSpec : ChangeSpec := { name := "armKeeps", fn := fun _ => fun
  | [d1, d2, d3] => { results := [.lit (.bool true)], args := [d1, d2, d3] }
  | _ => none }
def armKeepsRow : OpenClaim := { program := "ytpffkpaiihcffaagreatdoor", sum := "780d8247d3c3203befae0f421cbd4e249d09b317c9faaddc5d3821debbd544c6", func := "ramet/rametlaw08.ArmKeeps", spec := "armKeeps", inPlace := ["internal/abi.NoEscape", "internal/bytealg.MakeNoZero"], unfollowed := true, recurses := true, named := ["ramet/cells.grown", "ramet/arm.fixed"], plainKeys := false, apart := false, laid := [("ramet/cells.grown", laid_ramet_cells_grown), ("ramet/arm.fixed", laid_ramet_arm_fixed)] }
def ArmKeepsSaid : Prop := armKeepsRow.holds Tryz.pinned (OpenSpec.ofChange armKeepsSpec)

/-- ITS FALSE NEIGHBOUR: 'it returns false'. Refute it at one input. -/
def armKeepsWrong : ChangeSpec := { name := "armKeeps", fn := fun _ => fun
  | [d1, d2, d3] => { results := [.lit (.bool false)], args := [d1, d2, d3] }
  | _ => none }
def ArmKeepsWrongFalsely : Prop := armKeepsRow.holds Tryz.pinned (OpenSpec.ofChange armKeepsWrong)

/-- 'rametlaw08.ArmNamed': WHATEVER THE INPUT: true; the input reads as it did. -/
def armNamedSpec : ChangeSpec := { name := "armNamed", fn := fun _ => fun
  | [d] => { results := [.lit (.bool true)], args := [d] }
  | _ => none }
def armNamedRow : OpenClaim := { program := "ytpffkpaiihcffaagreatdoor", sum := "780d8247d3c3203befae0f421cbd4e249d09b317c9faaddc5d3821debbd544c6", func := "ramet/rametlaw08.ArmNamed", spec := "armNamed", inPlace := ["internal/abi.NoEscape", "internal/bytealg.MakeNoZero"], unfollowed := true, recurses := true, named := ["ramet/cells.grown", "internal/strconv.uint64pow10", "math/bits.deBruijn32tab", "math/bits.deBruijn64tab", "ramet/arm.fixed"], plainKeys := false, apart := false, laid := [("math/bits.deBruijn32tab", laid_math_bits_deBruijn32tab), ("math/bits.deBruijn64tab", laid_math_bits_deBruijn64tab), ("internal/strconv.uint64pow10", laid_internal_strconv_uint64pow10), ("ramet/cells.grown", laid_ramet_cells_grown), ("ramet/arm.fixed", laid_ramet_arm_fixed)] }
def ArmNamedSaid : Prop := armNamedRow.holds Tryz.pinned (OpenSpec.ofChange armNamedSpec)

/-- ITS FALSE NEIGHBOUR: 'it returns false'. Refute it at one input. -/
def armNamedWrong : ChangeSpec := { name := "armNamed", fn := fun _ => fun
  | [d] => { results := [.lit (.bool false)], args := [d] }
  | _ => none }
def ArmNamedWrongFalsely : Prop := armNamedRow.holds Tryz.pinned (OpenSpec.ofChange armNamedWrong)

/-- 'rametlaw08.ArmWorld': WHATEVER THE INPUT: true; the input reads as it did. -/
def armWorldSpec : ChangeSpec := { name := "armWorld", fn := fun _ => fun
  | [d1, d2] => { results := [.lit (.bool true)], args := [d1, d2] }
  | _ => none }
def armWorldRow : OpenClaim := { program := "ytpffkpaiihcffaagreatdoor", sum := "780d8247d3c3203befae0f421cbd4e249d09b317c9faaddc5d3821debbd544c6", func := "ramet/rametlaw08.ArmWorld", spec := "armWorld", inPlace := ["internal/abi.NoEscape", "internal/bytealg.MakeNoZero"], unfollowed := true, recurses := true, named := ["ramet/cells.grown", "internal/strconv.uint64pow10", "math/bits.deBruijn32tab", "math/bits.deBruijn64tab", "ramet/arm.fixed"], plainKeys := false, apart := false, laid := [("math/bits.deBruijn32tab", laid_math_bits_deBruijn32tab), ("math/bits.deBruijn64tab", laid_math_bits_deBruijn64tab), ("internal/strconv.uint64pow10", laid_internal_strconv_uint64pow10), ("ramet/cells.grown", laid_ramet_cells_grown), ("ramet/arm.fixed", laid_ramet_arm_fixed)] }
def ArmWorldSaid : Prop := armWorldRow.holds Tryz.pinned (OpenSpec.ofChange armWorldSpec)

/-- ITS FALSE NEIGHBOUR: 'it returns false'. Refute it at one input. -/
def armWorldWrong : ChangeSpec := { name := "armWorld", fn := fun _ => fun
  | [d1, d2] => { results := [.lit (.bool false)], args := [d1, d2] }
  | _ => none }
def ArmWorldWrongFalsely : Prop := armWorldRow.holds Tryz.pinned (OpenSpec.ofChange armWorldWrong)

/- THE SECOND FORM. 'bulk': how many values and letters a reading holds, each counted each time it is reached (what is shared counts as often as it is met; a slice's spare places count too). A statement '..UptoSaid' is the law's where the arguments, and the package variables that the reading takes, are together of bulk at most 1048576: NARROWER than '..Said'. Prove '..Said' where nothing that the law and all that it calls make is longer than what came in: it says more and counts as full. Else prove '..UptoSaid'. A law counts once. -/
mutual
def uptoBulk {H : Type} : DataW H → Nat
  | .lit (.string bytes) => bytes.length + 1
  | .lit _ => 1
  | .nil => 1
  | .ptr d => uptoBulk d + 1
  | .slice elems spare => uptoBulkAll elems + uptoBulkAll spare + 1
  | .agg parts => uptoBulkAll parts + 1
  | .iface _ d => uptoBulk d + 1
  | .map entries => uptoBulkEntries entries + 1
  | .held _ => 1
def uptoBulkAll {H : Type} : List (DataW H) → Nat
  | [] => 0
  | d :: r => uptoBulk d + uptoBulkAll r
def uptoBulkEntries {H : Type} : List (Lit × DataW H) → Nat
  | [] => 0
  | x :: r => uptoBulkEntry x + uptoBulkEntries r
def uptoBulkEntry {H : Type} : Lit × DataW H → Nat
  | (.string bytes, d) => bytes.length + uptoBulk d + 1
  | (_, d) => uptoBulk d + 1
 end
def uptoSmall : (H : Type) → List (DataW H) → Bool := fun _ ds => decide (uptoBulkAll ds ≤ 1048576)
def OpenSpec.upto (s : _root_.Go.ChangeSpec) : _root_.Go.OpenSpec := { _root_.Go.OpenSpec.ofChange s with cond := some uptoSmall }

/-- 'rametlaw08.ArmStands', WHERE WHAT IT READS IS OF BULK AT MOST 1048576: true; the input reads as it did. -/
def armStandsUptoRow : OpenClaim := { program := "ytpffkpaiihcffaagreatdoor", sum := "780d8247d3c3203befae0f421cbd4e249d09b317c9faaddc5d3821debbd544c6", func := "ramet/rametlaw08.ArmStands", spec := "armStands", inPlace := ["internal/abi.NoEscape", "internal/bytealg.MakeNoZero"], unfollowed := true, recurses := true, named := ["ramet/cells.grown", "ramet/arm.fixed"], plainKeys := false, apart := false, laid := [("ramet/cells.grown", laid_ramet_cells_grown), ("ramet/arm.fixed", laid_ramet_arm_fixed)], narrowed := true }
def ArmStandsUptoSaid : Prop := armStandsUptoRow.holds Tryz.pinned (OpenSpec.upto armStandsSpec)

/-- 'rametlaw08.ArmMoves', WHERE WHAT IT READS IS OF BULK AT MOST 1048576: true; the input reads as it did. -/
def armMovesUptoRow : OpenClaim := { program := "ytpffkpaiihcffaagreatdoor", sum := "780d8247d3c3203befae0f421cbd4e249d09b317c9faaddc5d3821debbd544c6", func := "ramet/rametlaw08.ArmMoves", spec := "armMoves", inPlace := ["internal/abi.NoEscape", "internal/bytealg.MakeNoZero"], unfollowed := true, recurses := true, named := ["ramet/cells.grown", "ramet/arm.fixed"], plainKeys := false, apart := false, laid := [("ramet/cells.grown", laid_ramet_cells_grown), ("ramet/arm.fixed", laid_ramet_arm_fixed)], narrowed := true }
def ArmMovesUptoSaid : Prop := armMovesUptoRow.holds Tryz.pinned (OpenSpec.upto armMovesSpec)

/-- 'rametlaw08.ArmLoaded', WHERE WHAT IT READS IS OF BULK AT MOST 1048576: true; the input reads as it did. -/
def armLoadedUptoRow : OpenClaim := { program := "ytpffkpaiihcffaagreatdoor", sum := "780d8247d3c3203befae0f421cbd4e249d09b317c9faaddc5d3821debbd544c6", func := "ramet/rametlaw08.ArmLoaded", spec := "armLoaded", inPlace := ["internal/abi.NoEscape", "internal/bytealg.MakeNoZero"], unfollowed := true, recurses := true, named := ["ramet/cells.grown", "ramet/arm.fixed"], plainKeys := false, apart := false, laid := [("ramet/cells.grown", laid_ramet_cells_grown), ("ramet/arm.fixed", laid_ramet_arm_fixed)], narrowed := true }
def ArmLoadedUptoSaid : Prop := armLoadedUptoRow.holds Tryz.pinned (OpenSpec.upto armLoadedSpec)

/-- 'rametlaw08.ArmTrains', WHERE WHAT IT READS IS OF BULK AT MOST 1048576: true; the input reads as it did. -/
def armTrainsUptoRow : OpenClaim := { program := "ytpffkpaiihcffaagreatdoor", sum := "780d8247d3c3203befae0f421cbd4e249d09b317c9faaddc5d3821debbd544c6", func := "ramet/rametlaw08.ArmTrains", spec := "armTrains", inPlace := ["internal/abi.NoEscape", "internal/bytealg.MakeNoZero"], unfollowed := true, recurses := true, named := ["ramet/cells.grown", "ramet/arm.fixed"], plainKeys := false, apart := false, laid := [("ramet/cells.grown", laid_ramet_cells_grown), ("ramet/arm.fixed", laid_ramet_arm_fixed)], narrowed := true }
def ArmTrainsUptoSaid : Prop := armTrainsUptoRow.holds Tryz.pinned (OpenSpec.upto armTrainsSpec)

/-- 'rametlaw08.ArmKeeps', WHERE WHAT IT READS IS OF BULK AT MOST 1048576: true; the input reads as it did. -/
def armKeepsUptoRow : OpenClaim := { program := "ytpffkpaiihcffaagreatdoor", sum := "780d8247d3c3203befae0f421cbd4e249d09b317c9faaddc5d3821debbd544c6", func := "ramet/rametlaw08.ArmKeeps", spec := "armKeeps", inPlace := ["internal/abi.NoEscape", "internal/bytealg.MakeNoZero"], unfollowed := true, recurses := true, named := ["ramet/cells.grown", "ramet/arm.fixed"], plainKeys := false, apart := false, laid := [("ramet/cells.grown", laid_ramet_cells_grown), ("ramet/arm.fixed", laid_ramet_arm_fixed)], narrowed := true }
def ArmKeepsUptoSaid : Prop := armKeepsUptoRow.holds Tryz.pinned (OpenSpec.upto armKeepsSpec)

/-- 'rametlaw08.ArmNamed', WHERE WHAT IT READS IS OF BULK AT MOST 1048576: true; the input reads as it did. -/
def armNamedUptoRow : OpenClaim := { program := "ytpffkpaiihcffaagreatdoor", sum := "780d8247d3c3203befae0f421cbd4e249d09b317c9faaddc5d3821debbd544c6", func := "ramet/rametlaw08.ArmNamed", spec := "armNamed", inPlace := ["internal/abi.NoEscape", "internal/bytealg.MakeNoZero"], unfollowed := true, recurses := true, named := ["ramet/cells.grown", "internal/strconv.uint64pow10", "math/bits.deBruijn32tab", "math/bits.deBruijn64tab", "ramet/arm.fixed"], plainKeys := false, apart := false, laid := [("math/bits.deBruijn32tab", laid_math_bits_deBruijn32tab), ("math/bits.deBruijn64tab", laid_math_bits_deBruijn64tab), ("internal/strconv.uint64pow10", laid_internal_strconv_uint64pow10), ("ramet/cells.grown", laid_ramet_cells_grown), ("ramet/arm.fixed", laid_ramet_arm_fixed)], narrowed := true }
def ArmNamedUptoSaid : Prop := armNamedUptoRow.holds Tryz.pinned (OpenSpec.upto armNamedSpec)

/-- 'rametlaw08.ArmWorld', WHERE WHAT IT READS IS OF BULK AT MOST 1048576: true; the input reads as it did. -/
def armWorldUptoRow : OpenClaim := { program := "ytpffkpaiihcffaagreatdoor", sum := "780d8247d3c3203befae0f421cbd4e249d09b317c9faaddc5d3821debbd544c6", func := "ramet/rametlaw08.ArmWorld", spec := "armWorld", inPlace := ["internal/abi.NoEscape", "internal/bytealg.MakeNoZero"], unfollowed := true, recurses := true, named := ["ramet/cells.grown", "internal/strconv.uint64pow10", "math/bits.deBruijn32tab", "math/bits.deBruijn64tab", "ramet/arm.fixed"], plainKeys := false, apart := false, laid := [("math/bits.deBruijn32tab", laid_math_bits_deBruijn32tab), ("math/bits.deBruijn64tab", laid_math_bits_deBruijn64tab), ("internal/strconv.uint64pow10", laid_internal_strconv_uint64pow10), ("ramet/cells.grown", laid_ramet_cells_grown), ("ramet/arm.fixed", laid_ramet_arm_fixed)], narrowed := true }
def ArmWorldUptoSaid : Prop := armWorldUptoRow.holds Tryz.pinned (OpenSpec.upto armWorldSpec)

end Rows
end Go.Proofs.YtpffkpaiihcffaaGreatDoor
