/- The code of the functions, as the abstract machine runs it. -/
import Derived.Test.YtpffkpaiihcffaaGreatDoorEnvZ
import Derived.KernelRfl
set_option linter.unusedVariables false
namespace Go.Proofs.YtpffkpaiihcffaaGreatDoor.Z
open Go Go.Proofs.YtpffkpaiihcffaaGreatDoor.VM
variable (x0 x1 x2 x3 x4 x5 x6 x7 x8 x9 x10 x11 x12 x13 x14 x15 x16 x17 x18 x19 : FV)
noncomputable def cells_Check.L0 : R:=jden E 63 [] [4,1,0,1] (mkF 61 [(1,.ptr 0 0 0),(8,.f x0),(9,.f x1)]) [.box [.f x2,.f x3]]
noncomputable def cells_Check.L1 : R:=jden E 63 [] [4,1,0,1,1,1] (mkF 61 [(1,.ptr 0 0 0),(20,.f x0),(21,.f x1),(22,.f x2)]) [.box [.f x3,.f x4]]
theorem cells_Check.eq : cells_Check x0 = (
 gB (fIsAgg 2 x0) <|
 bindO (fBin .eql (fCell x0 0) (.int .i64 0)) fun v1 =>
 fCond v1
 (cells_Check.L0 (fCell x0 0) v1 (fCell x0 0) (fCell x0 1))
 (bindO (fBin .eql (fCell x0 0) (.int .i64 1)) fun v2 =>
 fCond v2
 (cells_Check.L0 (fCell x0 0) v2 (fCell x0 0) (fCell x0 1))
 (bindO (fBin .eql (fCell x0 0) (.int .i64 2)) fun v3 =>
 cells_Check.L0 (fCell x0 0) v3 (fCell x0 0) (fCell x0 1)))):=(den_eq ..).trans (by kernel_rfl)
theorem cells_Check.L0_eq : cells_Check.L0 x0 x1 x2 x3 = (
 fCond x1
 (some (.int .i64 0))
 (bindO (fBin .eql x0 (.int .i64 3)) fun v5 =>
 fCond v5
 (bindO (fLen x3) fun v6 =>
 bindO (fBin .gtr v6 (.int .i64 4096)) fun v7 =>
 fCond v7
 (some (.int .i64 10))
 (bindO (fLen x3) fun v8 =>
 cells_Check.L1 x3 v8 (.int .i64 0) x2 x3))
 (some (.int .i64 10)))):=(jden_eq ..).trans (by kernel_rfl)
theorem field_Far.eq : field_Far x0 x1 = (
 bindO (fBin .lss x0 (.int .i64 (-1073741824))) fun v1 =>
 fCond v1
 (some (.bool true))
 (bindO (fBin .gtr x0 (.int .i64 1073741824)) fun v2 =>
 fCond v2
 (some (.bool true))
 (bindO (fBin .lss x1 (.int .i64 (-1073741824))) fun v3 =>
 fCond v3
 (some (.bool true))
 (bindO (fBin .gtr x1 (.int .i64 1073741824)) fun v4 =>
 some v4)))):=(den_eq ..).trans (by kernel_rfl)
theorem cells_far.eq : cells_far x0 x1 = (
 bindO (field_Far x0 x1) fun v1 =>
 some v1):=(den_eq ..).trans (by kernel_rfl)
noncomputable def cmp_Or_int.L0 : R:=jden E 122 [] [4,1,0,1,1] (mkF 18 [(3,.f x0),(6,.f x1),(7,.f x2),(8,.f x3)]) []
theorem cmp_Or_int.eq : cmp_Or_int x0 = (
 bindO (fLen x0) fun v1 =>
 cmp_Or_int.L0 (.int .i64 0) x0 v1 (.int .i64 0)):=(den_eq ..).trans (by kernel_rfl)
theorem cmp_Or_int.L0_eq : cmp_Or_int.L0 x0 x1 x2 x3 = (
 bindO (fBin .lss x3 x2) fun v5 =>
 fCond v5
 (bindO (fIdxC 1 x1 x3) fun c6 =>
 bindO (c6[0]?) fun v7 =>
 bindO (fBin .neq v7 x0) fun v8 =>
 fCond v8
 (some v7)
 (bindO (fBin .add x3 (.int .i64 1)) fun v9 =>
 cmp_Or_int.L0 x0 x1 x2 v9))
 (some x0)):=(jden_eq ..).trans (by kernel_rfl)
theorem cmp_isNaN_int64.eq : cmp_isNaN_int64 x0 = (
 bindO (fBin .neq x0 x0) fun v1 =>
 some v1):=(den_eq ..).trans (by kernel_rfl)
theorem cmp_Compare_int64.eq : cmp_Compare_int64 x0 x1 = (
 bindO (cmp_isNaN_int64 x0) fun v1 =>
 bindO (cmp_isNaN_int64 x1) fun v2 =>
 fCond v1
 (fCond v2
 (some (.int .i64 0))
 (some (.int .i64 (-1))))
 (fCond v2
 (some (.int .i64 1))
 (bindO (fBin .lss x0 x1) fun v3 =>
 fCond v3
 (some (.int .i64 (-1)))
 (bindO (fBin .gtr x0 x1) fun v4 =>
 fCond v4
 (some (.int .i64 1))
 (some (.int .i64 0)))))):=(den_eq ..).trans (by kernel_rfl)
theorem field_Behind.eq : field_Behind x0 x1 = (
 gB (fIsAgg 3 x0) <|
 gB (fIsAgg 3 x1) <|
 bindO (cmp_Compare_int64 (fCell x0 1) (fCell x1 1)) fun v1 =>
 bindO (cmp_Compare_int64 (fCell x0 0) (fCell x1 0)) fun v2 =>
 bindO (cmp_Or_int (.arr [[v1],[v2]])) fun v3 =>
 some v3):=(den_eq ..).trans (by kernel_rfl)
theorem cells_behind.eq : cells_behind x0 x1 = (
 gB (fIsAgg 3 x0) <|
 gB (fIsAgg 3 x1) <|
 bindO (field_Behind (.agg [(fCell x0 0),(fCell x0 1),(fCell x0 2)]) (.agg [(fCell x1 0),(fCell x1 1),(fCell x1 2)])) fun v1 =>
 some v1):=(den_eq ..).trans (by kernel_rfl)
noncomputable def cells_look.L0 : R:=jden E 85 [] [4,1,0,1] (mkF 43 [(0,.f x0),(1,.f x1),(7,.f x2),(8,.f x3),(9,.f x4)]) []
theorem cells_look.eq : cells_look x0 x1 = (
 bindO (fLen x0) fun v1 =>
 cells_look.L0 x0 x1 x0 v1 (.int .i64 0)):=(den_eq ..).trans (by kernel_rfl)
theorem cells_look.L0_eq : cells_look.L0 x0 x1 x2 x3 x4 = (
 bindO (fBin .lss x4 x3) fun v6 =>
 fCond v6
 (bindO (fIdxC 3 x2 x4) fun c7 =>
 bindO (c7[0]?) fun v8 =>
 bindO (c7[1]?) fun v9 =>
 bindO (c7[2]?) fun v10 =>
 bindO (cells_far v8 v9) fun v11 =>
 fCond v11
 (some (.int .i64 13))
 (bindO (callDyn false x1 [v10]) fun v12 =>
 bindO (fUn .not v12) fun v13 =>
 fCond v13
 (some (.int .i64 11))
 (bindO (fBin .gtr x4 (.int .i64 0)) fun v14 =>
 fCond v14
 (bindO (fBin .sub x4 (.int .i64 1)) fun v15 =>
 bindO (fIdxC 3 x0 v15) fun c16 =>
 bindO (c16[0]?) fun v17 =>
 bindO (c16[1]?) fun v18 =>
 bindO (c16[2]?) fun v19 =>
 bindO (cells_behind (.agg [v17,v18,v19]) (.agg [v8,v9,v10])) fun v20 =>
 bindO (fBin .geq v20 (.int .i64 0)) fun v21 =>
 fCond v21
 (some (.int .i64 12))
 (bindO (fBin .add x4 (.int .i64 1)) fun v22 =>
 cells_look.L0 x0 x1 x2 x3 v22))
 (bindO (fBin .add x4 (.int .i64 1)) fun v23 =>
 cells_look.L0 x0 x1 x2 x3 v23))))
 (bindO (fLen x0) fun v24 =>
 bindO (fBin .gtr v24 (.int .i64 65536)) fun v25 =>
 fCond v25
 (some (.int .i64 14))
 (some (.int .i64 0)))):=(jden_eq ..).trans (by kernel_rfl)
theorem cells_isState.eq : cells_isState x0 x1 = (
 bindO (fBin .eql x0 (.int .i64 0)) fun v1 =>
 fCond v1
 (bindO (fBin .geq x1 (.int .i64 0)) fun v2 =>
 fCond v2
 (bindO (fBin .lss x1 (.int .i64 29)) fun v3 =>
 some v3)
 (some (.bool false)))
 (bindO (fBin .eql x0 (.int .i64 1)) fun v4 =>
 fCond v4
 (bindO (fBin .geq x1 (.int .i64 0)) fun v5 =>
 fCond v5
 (bindO (fBin .lss x1 (.int .i64 32)) fun v6 =>
 some v6)
 (some (.bool false)))
 (bindO (fBin .eql x0 (.int .i64 3)) fun v7 =>
 fCond v7
 (bindO (fBin .geq x1 (.int .i64 0)) fun v8 =>
 fCond v8
 (bindO (fBin .lss x1 (.int .i64 256)) fun v9 =>
 some v9)
 (some (.bool false)))
 (bindO (cells_YardOf x1) fun v10 =>
 gB (fIsTup 2 v10) <|
 gB (fIsAgg 10 (fTup v10 0)) <|
 bindO (fBin .eql (fTup v10 1) (.int .i64 0)) fun v11 =>
 some v11)))):=(den_eq ..).trans (by kernel_rfl)
theorem cells_Proper_1.eq : cells_Proper_1 x0 x1 = (
 bindO (fBin .neq x0 (.int .i64 0)) fun v1 =>
 fCond v1
 (bindO (fAddrO x1 0) fun p2 =>
 bindO (fLd p2 0) fun v3 =>
 bindO (cells_isState v3 x0) fun v4 =>
 some v4)
 (some (.bool false))):=(den_eq ..).trans (by kernel_rfl)
theorem cells_Proper.eq : cells_Proper x0 x1 = (
 gB (fIsAgg 2 x0) <|
 bindO (cells_Check (.agg [(fCell x0 0),(fCell x0 1)])) fun v1 =>
 bindO (fBin .neq v1 (.int .i64 0)) fun v2 =>
 fCond v2
 (some v1)
 (bindO (cells_look x1 (.func 86 [.eptr [(fCell x0 0),(fCell x0 1)] 0])) fun v3 =>
 some v3)):=(den_eq ..).trans (by kernel_rfl)
noncomputable def cells_Word.L0 : R:=jden E 52 [] [4,1,0,1] (mkF 18 [(0,.f x0),(6,.agg [.f x1,.f x2,.f x3,.f x4,.f x5,.f x6,.f x7,.f x8,.f x9,.f x10,.f x11,.f x12,.f x13,.f x14,.f x15,.f x16,.f x17,.f x18]),(7,.f x19)]) []
theorem cells_Word.eq : cells_Word x0 = (
 cells_Word.L0 x0 (.str [48,48,48,48]) (.int .i64 9) (.str [48,48,48,49]) (.int .i64 10) (.str [48,48,49]) (.int .i64 11) (.str [48,49,48]) (.int .i64 12) (.str [48,49,49]) (.int .i64 17) (.str [49,48,48]) (.int .i64 18) (.str [49,48,49]) (.int .i64 19) (.str [49,49,48]) (.int .i64 20) (.str [49,49,49]) (.int .i64 25) (.int .i64 0)):=(den_eq ..).trans (by kernel_rfl)
theorem cells_Word.L0_eq : cells_Word.L0 x0 x1 x2 x3 x4 x5 x6 x7 x8 x9 x10 x11 x12 x13 x14 x15 x16 x17 x18 x19 = (
 bindO (fBin .lss x19 (.int .i64 9)) fun v21 =>
 fCond v21
 (bindO (asNat x19) fun j22 =>
 gB (decide (j22 < 9)) <|
 bindO ([(x1 : FV),x2,x3,x4,x5,x6,x7,x8,x9,x10,x11,x12,x13,x14,x15,x16,x17,x18][j22 * 2]?) fun v23 =>
 bindO ([(x1 : FV),x2,x3,x4,x5,x6,x7,x8,x9,x10,x11,x12,x13,x14,x15,x16,x17,x18][j22 * 2 + 1]?) fun v24 =>
 bindO (fBin .eql v24 x0) fun v25 =>
 fCond v25
 (bindO (fBin .add (.str [49]) v23) fun v26 =>
 some (.tup [v26,.bool true]))
 (bindO (fBin .add x19 (.int .i64 1)) fun v27 =>
 cells_Word.L0 x0 x1 x2 x3 x4 x5 x6 x7 x8 x9 x10 x11 x12 x13 x14 x15 x16 x17 x18 v27))
 (some (.tup [.str [],.bool false]))):=(jden_eq ..).trans (by kernel_rfl)
theorem arm_stands.eq : arm_stands x0 x1 = (
 bindO (fBin .geq x0 (.int .i64 2)) fun v1 =>
 fCond v1
 (bindO (fBin .leq x0 (.int .i64 60)) fun v2 =>
 fCond v2
 (bindO (fBin .geq x1 (.int .i64 (-1))) fun v3 =>
 fCond v3
 (bindO (fBin .leq x1 (.int .i64 60)) fun v4 =>
 some v4)
 (some (.bool false)))
 (some (.bool false)))
 (some (.bool false))):=(den_eq ..).trans (by kernel_rfl)
noncomputable def arm_formed.L0 : R:=jden E 38 [] [1] (mkF 33 [(1,.ptr 0 0 0)]) [.box [.f x0,.f x1]]
theorem arm_formed.eq : arm_formed x0 = (
 gB (fIsAgg 2 x0) <|
 bindO (fBin .eql (fCell x0 0) (.int .i64 7)) fun v1 =>
 fCond v1
 (bindO (cells_Word (fCell x0 1)) fun v2 =>
 gB (fIsTup 2 v2) <|
 some (fTup v2 1))
 (bindO (fBin .eql (fCell x0 0) (.int .i64 8)) fun v3 =>
 fCond v3
 (bindO (cells_Word (fCell x0 1)) fun v4 =>
 gB (fIsTup 2 v4) <|
 some (fTup v4 1))
 (arm_formed.L0 (fCell x0 0) (fCell x0 1)))):=(den_eq ..).trans (by kernel_rfl)
theorem arm_formed.L0_eq : arm_formed.L0 x0 x1 = (
 bindO (fBin .geq x0 (.int .i64 1)) fun v3 =>
 fCond v3
 (bindO (fBin .leq x0 (.int .i64 6)) fun v4 =>
 fCond v4
 (bindO (fBin .eql x1 (.int .i64 0)) fun v5 =>
 some v5)
 (some (.bool false)))
 (some (.bool false))):=(jden_eq ..).trans (by kernel_rfl)
noncomputable def arm_After.L0 : R:=jden E 13 [] [1,1] (mkF 69 [(0,.f x0),(1,.f x1),(5,.ptr 0 0 0)]) [.box [.f x2,.f x3]]
noncomputable def arm_After.L2 : R:=jden E 13 [] [1,0,1,1,1] (mkF 69 [(0,.f x0),(1,.f x1)]) [.box [.f x2,.f x3]]
noncomputable def arm_After.L1 : R:=jden E 13 [] [1,1,1] (mkF 69 [(0,.f x0),(1,.f x1)]) [.box [.f x2,.f x3]]
theorem arm_After.eq : arm_After x0 x1 x2 = (
 gB (fIsAgg 2 x2) <|
 bindO (arm_stands x0 x1) fun v1 =>
 bindO (fUn .not v1) fun v2 =>
 fCond v2
 (some (.tup [.int .i64 0,.int .i64 0,.int .i64 81]))
 (bindO (arm_formed (.agg [(fCell x2 0),(fCell x2 1)])) fun v3 =>
 bindO (fUn .not v3) fun v4 =>
 fCond v4
 (some (.tup [.int .i64 0,.int .i64 0,.int .i64 80]))
 (bindO (fBin .lss x1 (.int .i64 0)) fun v5 =>
 bindO (fBin .leq (fCell x2 0) (.int .i64 3)) fun v6 =>
 bindO (fBoolBin .neq v5 v6) fun v7 =>
 fCond v7
 (some (.tup [.int .i64 0,.int .i64 0,.int .i64 80]))
 (bindO (fBin .eql (fCell x2 0) (.int .i64 5)) fun v8 =>
 fCond v8
 (bindO (fBin .lss x1 (.int .i64 1)) fun v9 =>
 fCond v9
 (some (.tup [.int .i64 0,.int .i64 0,.int .i64 80]))
 (bindO (fBin .eql (fCell x2 0) (.int .i64 6)) fun v10 =>
 fCond v10
 (bindO (fBin .neq x1 (.int .i64 0)) fun v11 =>
 fCond v11
 (some (.tup [.int .i64 0,.int .i64 0,.int .i64 80]))
 (arm_After.L0 x0 x1 (fCell x2 0) (fCell x2 1)))
 (arm_After.L0 x0 x1 (fCell x2 0) (fCell x2 1))))
 (bindO (fBin .eql (fCell x2 0) (.int .i64 6)) fun v12 =>
 fCond v12
 (bindO (fBin .neq x1 (.int .i64 0)) fun v13 =>
 fCond v13
 (some (.tup [.int .i64 0,.int .i64 0,.int .i64 80]))
 (arm_After.L0 x0 x1 (fCell x2 0) (fCell x2 1)))
 (arm_After.L0 x0 x1 (fCell x2 0) (fCell x2 1))))))):=(den_eq ..).trans (by kernel_rfl)
theorem arm_After.L0_eq : arm_After.L0 x0 x1 x2 x3 = (
 bindO (fBin .eql x2 (.int .i64 1)) fun v5 =>
 fCond v5
 (bindO (fBin .add x0 (.int .i64 1)) fun v6 =>
 arm_After.L2 v6 x1 x2 x3)
 (bindO (fBin .eql x2 (.int .i64 2)) fun v7 =>
 fCond v7
 (bindO (fBin .sub x0 (.int .i64 1)) fun v8 =>
 arm_After.L2 v8 x1 x2 x3)
 (bindO (fBin .eql x2 (.int .i64 3)) fun v9 =>
 fCond v9
 (arm_After.L2 x0 (.int .i64 0) x2 x3)
 (bindO (fBin .eql x2 (.int .i64 4)) fun v10 =>
 fCond v10
 (bindO (fBin .add x1 (.int .i64 1)) fun v11 =>
 arm_After.L2 x0 v11 x2 x3)
 (bindO (fBin .eql x2 (.int .i64 5)) fun v12 =>
 fCond v12
 (fCond v12
 (bindO (fBin .sub x1 (.int .i64 1)) fun v13 =>
 arm_After.L2 x0 v13 x2 x3)
 (arm_After.L2 x0 x1 x2 x3))
 (bindO (fBin .eql x2 (.int .i64 6)) fun v14 =>
 fCond v14
 (bindO (fBin .sub x1 (.int .i64 1)) fun v15 =>
 arm_After.L2 x0 v15 x2 x3)
 (arm_After.L2 x0 x1 x2 x3))))))):=(jden_eq ..).trans (by kernel_rfl)
theorem arm_After.L2_eq : arm_After.L2 x0 x1 x2 x3 = (
 arm_After.L1 x0 x1 x2 x3):=(jden_eq ..).trans (by kernel_rfl)
theorem arm_After.L1_eq : arm_After.L1 x0 x1 x2 x3 = (
 bindO (arm_stands x0 x1) fun v5 =>
 bindO (fUn .not v5) fun v6 =>
 fCond v6
 (some (.tup [.int .i64 0,.int .i64 0,.int .i64 81]))
 (some (.tup [x0,x1,.int .i64 0]))):=(jden_eq ..).trans (by kernel_rfl)
noncomputable def arm_Pulses.L0 : R:=jden E 24 [] [4,1,0,1,1] (mkF 28 [(1,.ptr 0 0 0),(2,.ptr 1 0 0),(10,.f x0),(11,.f x1),(12,.f x2)]) [.box [.f x3,.f x4],.box [.f x5,.f x6]]
theorem arm_Pulses.eq : arm_Pulses x0 = (
 gB (fIsAgg 2 x0) <|
 bindO (arm_formed (.agg [(fCell x0 0),(fCell x0 1)])) fun v1 =>
 bindO (fUn .not v1) fun v2 =>
 fCond v2
 (some (.tup [.agg [.str [],.str []],.int .i64 80]))
 (bindO arm_doers fun v3 =>
 bindO (fLen v3) fun v4 =>
 arm_Pulses.L0 v3 v4 (.int .i64 0) (fCell x0 0) (fCell x0 1) (.str []) (.str []))):=(den_eq ..).trans (by kernel_rfl)
end Go.Proofs.YtpffkpaiihcffaaGreatDoor.Z
