/- The code of the functions, as the abstract machine runs it. -/
import Derived.Test.YtpffkpaiihcffaaGreatDoorEnv
import Derived.KernelRfl
set_option linter.unusedVariables false
namespace Go.Proofs.YtpffkpaiihcffaaGreatDoor
open Go Go.Proofs.YtpffkpaiihcffaaGreatDoor.VM
variable (x0 x1 : FV) (r2 : List (List FV)) (x2 : FV) (r3 : List (List FV)) (x3 : FV) (es4 : List (FV × FV)) (r4 : List (List FV)) (x4 : FV) (r5 : List (List FV)) (x5 : FV) (r6 : List (List FV)) (x6 : FV) (r7 : List (List FV)) (x7 x8 x9 x10 x11 x12 x13 x14 x15 x16 x17 x18 x19 : FV)
noncomputable def ref01_Check.L0 : R:=jden E 59 [] [1] (mkF 74 [(1,.ptr 0 0 0)]) [.box [.f x0,.f x1]]
noncomputable def ref01_Check.L1 : R:=jden E 59 [] [4,1,0,1,1,1,1] (mkF 74 [(1,.ptr 0 0 0),(3,.f x0)]) [.box [.f x1,.f x2]]
theorem ref01_Check.eq : ref01_Check x0 = (
 gB (fIsAgg 2 x0) <|
 bindO (fBin .lss (fCell x0 0) (.int .i64 0)) fun v1 =>
 fCond v1
 (some (.int .i64 10))
 (bindO (fBin .gtr (fCell x0 0) (.int .i64 3)) fun v2 =>
 fCond v2
 (some (.int .i64 10))
 (ref01_Check.L0 (fCell x0 0) (fCell x0 1)))):=(den_eq ..).trans (by kernel_rfl)
theorem ref01_Check.L0_eq : ref01_Check.L0 x0 x1 = (
 bindO (fBin .neq x0 (.int .i64 3)) fun v3 =>
 fCond v3
 (some (.int .i64 0))
 (bindO (fLen x1) fun v4 =>
 bindO (fBin .gtr v4 (.int .i64 4096)) fun v5 =>
 fCond v5
 (some (.int .i64 10))
 (ref01_Check.L1 (.int .i64 0) x0 x1))):=(jden_eq ..).trans (by kernel_rfl)
theorem ref01_near.eq : ref01_near x0 x1 = (
 bindO (fBin .geq x0 (.int .i64 (-1073741824))) fun v1 =>
 fCond v1
 (bindO (fBin .leq x0 (.int .i64 1073741824)) fun v2 =>
 fCond v2
 (bindO (fBin .geq x1 (.int .i64 (-1073741824))) fun v3 =>
 fCond v3
 (bindO (fBin .leq x1 (.int .i64 1073741824)) fun v4 =>
 some v4)
 (some (.bool false)))
 (some (.bool false)))
 (some (.bool false))):=(den_eq ..).trans (by kernel_rfl)
theorem ref01_States.eq : ref01_States x0 = (
 gB (fIsAgg 2 x0) <|
 bindO (ref01_Check (.agg [(fCell x0 0),(fCell x0 1)])) fun v1 =>
 bindO (fBin .neq v1 (.int .i64 0)) fun v2 =>
 fCond v2
 (some (.int .i64 0))
 (bindO (fBin .eql (fCell x0 0) (.int .i64 0)) fun v3 =>
 fCond v3
 (some (.int .i64 29))
 (bindO (fBin .eql (fCell x0 0) (.int .i64 1)) fun v4 =>
 fCond v4
 (some (.int .i64 32))
 (bindO (fBin .eql (fCell x0 0) (.int .i64 2)) fun v5 =>
 fCond v5
 (some (.int .i64 8388608))
 (some (.int .i64 256)))))):=(den_eq ..).trans (by kernel_rfl)
theorem ref01_isState.eq : ref01_isState x0 x1 = (
 gB (fIsAgg 2 x0) <|
 bindO (fBin .eql (fCell x0 0) (.int .i64 2)) fun v1 =>
 fCond v1
 (bindO (ref01_YardOf x1) fun v2 =>
 gB (fIsTup 2 v2) <|
 gB (fIsAgg 10 (fTup v2 0)) <|
 bindO (fBin .eql (fTup v2 1) (.int .i64 0)) fun v3 =>
 some v3)
 (bindO (fBin .geq x1 (.int .i64 0)) fun v4 =>
 fCond v4
 (bindO (ref01_States (.agg [(fCell x0 0),(fCell x0 1)])) fun v5 =>
 bindO (fBin .lss x1 v5) fun v6 =>
 some v6)
 (some (.bool false)))):=(den_eq ..).trans (by kernel_rfl)
theorem ref01_behind.eq : ref01_behind x0 x1 = (
 gB (fIsAgg 3 x0) <|
 gB (fIsAgg 3 x1) <|
 bindO (fBin .gtr (fCell x0 1) (fCell x1 1)) fun v1 =>
 fCond v1
 (some (.bool true))
 (bindO (fBin .eql (fCell x0 1) (fCell x1 1)) fun v2 =>
 fCond v2
 (bindO (fBin .gtr (fCell x0 0) (fCell x1 0)) fun v3 =>
 some v3)
 (some (.bool false)))):=(den_eq ..).trans (by kernel_rfl)
theorem ref01_Word.eq : ref01_Word x0 = (
 bindO (fBin .eql x0 (.int .i64 9)) fun v1 =>
 fCond v1
 (some (.tup [.str [49,48,48,48,48],.bool true]))
 (bindO (fBin .eql x0 (.int .i64 10)) fun v2 =>
 fCond v2
 (some (.tup [.str [49,48,48,48,49],.bool true]))
 (bindO (fBin .eql x0 (.int .i64 11)) fun v3 =>
 fCond v3
 (some (.tup [.str [49,48,48,49],.bool true]))
 (bindO (fBin .eql x0 (.int .i64 12)) fun v4 =>
 fCond v4
 (some (.tup [.str [49,48,49,48],.bool true]))
 (bindO (fBin .eql x0 (.int .i64 17)) fun v5 =>
 fCond v5
 (some (.tup [.str [49,48,49,49],.bool true]))
 (bindO (fBin .eql x0 (.int .i64 18)) fun v6 =>
 fCond v6
 (some (.tup [.str [49,49,48,48],.bool true]))
 (bindO (fBin .eql x0 (.int .i64 19)) fun v7 =>
 fCond v7
 (some (.tup [.str [49,49,48,49],.bool true]))
 (bindO (fBin .eql x0 (.int .i64 20)) fun v8 =>
 fCond v8
 (some (.tup [.str [49,49,49,48],.bool true]))
 (bindO (fBin .eql x0 (.int .i64 25)) fun v9 =>
 fCond v9
 (some (.tup [.str [49,49,49,49],.bool true]))
 (some (.tup [.str [],.bool false]))))))))))):=(den_eq ..).trans (by kernel_rfl)
theorem ref08_Nine.eq : ref08_Nine x0 = (
 bindO (ref01_Word x0) fun v1 =>
 gB (fIsTup 2 v1) <|
 some (fTup v1 1)):=(den_eq ..).trans (by kernel_rfl)
noncomputable def cells_Word.L0 : R:=jden E 52 [] [4,1,0,1] (mkF 18 [(0,.f x0),(6,.agg [.f x1,.f x2,.f x3,.f x4,.f x5,.f x6,.f x7,.f x8,.f x9,.f x10,.f x11,.f x12,.f x13,.f x14,.f x15,.f x16,.f x17,.f x18]),(7,.f x19)]) []
theorem cells_Word.eq : cells_Word x0 = (
 cells_Word.L0 x0 (.str [48,48,48,48]) (.int .i64 9) (.str [48,48,48,49]) (.int .i64 10) (.str [48,48,49]) (.int .i64 11) (.str [48,49,48]) (.int .i64 12) (.str [48,49,49]) (.int .i64 17) (.str [49,48,48]) (.int .i64 18) (.str [49,48,49]) (.int .i64 19) (.str [49,49,48]) (.int .i64 20) (.str [49,49,49]) (.int .i64 25) (.int .i64 0)):=(den_eq ..).trans (by kernel_rfl)
theorem cells_Word.L0_eq : cells_Word.L0 x0 x1 x2 x3 x4 x5 x6 x7 x8 x9 x10 x11 x12 x13 x14 x15 x16 x17 x18 x19 = (
 bindO (fBin .lss x19 (.int .i64 9)) fun v21 =>
 fCond v21
 (bindO (asNat x19) fun j22 =>
 gB (decide (j22 < 9)) <|
 bindO ([(x1 : FV),x2,x3,x4,x5,x6,x7,x8,x9,x10,x11,x12,x13,x14,x15,x16,x17,x18][j22 * 2]?) fun v23 =>
 bindO ([(x1 : FV),x2,x3,x4,x5,x6,x7,x8,x9,x10,x11,x12,x13,x14,x15,x16,x17,x18][j22 * 2 + 1]?) fun v24 =>
 bindO (fBin .eql v24 x0) fun v25 =>
 fCond v25
 (bindO (fBin .add (.str [49]) v23) fun v26 =>
 some (.tup [v26,.bool true]))
 (bindO (fBin .add x19 (.int .i64 1)) fun v27 =>
 cells_Word.L0 x0 x1 x2 x3 x4 x5 x6 x7 x8 x9 x10 x11 x12 x13 x14 x15 x16 x17 x18 v27))
 (some (.tup [.str [],.bool false]))):=(jden_eq ..).trans (by kernel_rfl)
noncomputable def arm_formed.L0 : R:=jden E 38 [] [1] (mkF 33 [(1,.ptr 0 0 0)]) [.box [.f x0,.f x1]]
theorem arm_formed.eq : arm_formed x0 = (
 gB (fIsAgg 2 x0) <|
 bindO (fBin .eql (fCell x0 0) (.int .i64 7)) fun v1 =>
 fCond v1
 (bindO (cells_Word (fCell x0 1)) fun v2 =>
 gB (fIsTup 2 v2) <|
 some (fTup v2 1))
 (bindO (fBin .eql (fCell x0 0) (.int .i64 8)) fun v3 =>
 fCond v3
 (bindO (cells_Word (fCell x0 1)) fun v4 =>
 gB (fIsTup 2 v4) <|
 some (fTup v4 1))
 (arm_formed.L0 (fCell x0 0) (fCell x0 1)))):=(den_eq ..).trans (by kernel_rfl)
theorem arm_formed.L0_eq : arm_formed.L0 x0 x1 = (
 bindO (fBin .geq x0 (.int .i64 1)) fun v3 =>
 fCond v3
 (bindO (fBin .leq x0 (.int .i64 6)) fun v4 =>
 fCond v4
 (bindO (fBin .eql x1 (.int .i64 0)) fun v5 =>
 some v5)
 (some (.bool false)))
 (some (.bool false))):=(jden_eq ..).trans (by kernel_rfl)
noncomputable def arm_times.L0 : R:=jden E 44 [(0,0,2)] [4,1,0,1,1] (mkF 16 [(0,.f x0),(5,.ref 0),(6,.f x1),(7,.f x2)]) [.own 2 r3]
theorem arm_times.eq : arm_times x0 x1 = (
 arm_times.L0 x0 x1 (.int .i64 0) []):=(den_eq ..).trans (by kernel_rfl)
theorem arm_times.L0_eq : arm_times.L0 x0 x1 x2 r3 = (
 bindO (fBin .lss x2 x1) fun v5 =>
 fCond v5
 (gB (decide ((r3.length + 1) * 16 ≤ room)) <|
 bindO (fBin .add x2 (.int .i64 1)) fun v6 =>
 arm_times.L0 x0 x1 v6 (r3 ++ ([[x0,.int .i64 0]] : List (List FV))))
 (some (.arr r3))):=(jden_eq ..).trans (by kernel_rfl)
noncomputable def arm_Moves.L0 : R:=jden E 18 [] [4,1,0,1,1,1,1] (mkF 83 [(4,.ptr 0 0 0),(6,.ref 1),(19,.f x0),(20,.f x1),(21,.f x2)]) [.box [.f x3],.own 2 r4]
noncomputable def arm_Moves.L1 : R:=jden E 18 [] [1,4,0,1,1,5,4,1,0,1,1,1,1] (mkF 83 [(4,.ptr 0 0 0),(6,.ref 2),(8,.f x0),(19,.f x1),(20,.f x2),(21,.f x3)]) [.box [.f x4],.dead,.own 2 r5]
noncomputable def arm_Moves.L2 : R:=jden E 18 [] [4,1,0,1,1,1,1,1,4,0,1,1,5,4,1,0,1,1,1,1] (mkF 83 [(4,.ptr 0 0 0),(6,.ref 6),(8,.f x0),(9,.f x1),(19,.f x2),(20,.f x3),(21,.f x4)]) [.box [.f x5],.dead,.dead,.dead,.own 2 r6,.dead,.own 2 r7]
noncomputable def arm_Moves.L3 : R:=jden E 18 [] [4,0,1,5,4,1,0,1,1,1,1,1,4,0,1,1,5,4,1,0,1,1,1,1] (mkF 83 [(4,.ptr 0 0 0),(6,.ref 6),(8,.f x0),(9,.f x1),(19,.f x2),(20,.f x3),(21,.f x4)]) [.box [.f x5],.dead,.dead,.dead,.own 2 r6,.dead,.own 2 r7]
theorem arm_Moves.eq : arm_Moves x0 = (
 bindO (arm_read x0) fun v1 =>
 gB (fIsTup 2 v1) <|
 gB (fIsAgg 1 (fTup v1 0)) <|
 bindO (fBin .neq (fTup v1 1) (.int .i64 0)) fun v2 =>
 fCond v2
 (some (.tup [.nilS,(fTup v1 1)]))
 (bindO (fLen (fCell (fTup v1 0) 0)) fun v3 =>
 arm_Moves.L0 (fCell (fTup v1 0) 0) v3 (.int .i64 0) (fCell (fTup v1 0) 0) [])):=(den_eq ..).trans (by kernel_rfl)
theorem arm_Moves.L0_eq : arm_Moves.L0 x0 x1 x2 x3 r4 = (
 bindO (fBin .lss x2 x1) fun v6 =>
 fCond v6
 (bindO (fIdxC 1 x0 x2) fun c7 =>
 bindO (c7[0]?) fun v8 =>
 bindO (fBin .gtr x2 (.int .i64 0)) fun v9 =>
 fCond v9
 (gB (decide ((r4.length + 1) * 16 ≤ room)) <|
 arm_Moves.L1 v8 x0 x1 x2 x3 (r4 ++ ([[.int .i64 1,.int .i64 0]] : List (List FV))))
 (arm_Moves.L1 v8 x0 x1 x2 x3 r4))
 (bindO (fLen x3) fun v10 =>
 bindO (fBin .sub v10 (.int .i64 1)) fun v11 =>
 bindO (arm_times (.int .i64 2) v11) fun v12 =>
 bindO (arrRows v12) fun r13 =>
 gB (rowsSz 2 r13) <|
 gB (decide ((r4.length + r13.length) * 16 ≤ room)) <|
 some (.tup [.arr (r4 ++ r13),.int .i64 0]))):=(jden_eq ..).trans (by kernel_rfl)
theorem arm_Moves.L1_eq : arm_Moves.L1 x0 x1 x2 x3 x4 r5 = (
 bindO (fLen x0) fun v7 =>
 bindO (fBin .eql v7 (.int .i64 0)) fun v8 =>
 fCond v8
 (bindO (fBin .add x3 (.int .i64 1)) fun v9 =>
 arm_Moves.L0 x1 x2 v9 x4 r5)
 (gB (decide ((r5.length + 1) * 16 ≤ room)) <|
 bindO (fLen x0) fun v10 =>
 bindO (fBin .sub v10 (.int .i64 1)) fun v11 =>
 bindO (arm_times (.int .i64 4) v11) fun v12 =>
 bindO (arrRows v12) fun r13 =>
 gB (rowsSz 2 r13) <|
 gB (decide (((r5 ++ ([[.int .i64 3,.int .i64 0]] : List (List FV))).length + r13.length) * 16 ≤ room)) <|
 bindO (fLen x0) fun v14 =>
 bindO (fBin .sub v14 (.int .i64 1)) fun v15 =>
 arm_Moves.L2 x0 v15 x1 x2 x3 x4 r13 ((r5 ++ ([[.int .i64 3,.int .i64 0]] : List (List FV))) ++ r13))):=(jden_eq ..).trans (by kernel_rfl)
theorem arm_Moves.L2_eq : arm_Moves.L2 x0 x1 x2 x3 x4 x5 r6 r7 = (
 bindO (fBin .geq x1 (.int .i64 0)) fun v9 =>
 fCond v9
 (bindO (fIdxC 1 x0 x1) fun c10 =>
 bindO (c10[0]?) fun v11 =>
 bindO (fBin .neq v11 (.int .i64 0)) fun v12 =>
 fCond v12
 (bindO (fIdxC 1 x0 x1) fun c13 =>
 bindO (c13[0]?) fun v14 =>
 gB (decide ((r7.length + 1) * 16 ≤ room)) <|
 arm_Moves.L3 x0 x1 x2 x3 x4 x5 r6 (r7 ++ ([[.int .i64 7,v14]] : List (List FV))))
 (arm_Moves.L3 x0 x1 x2 x3 x4 x5 r6 r7))
 (gB (decide ((r7.length + 1) * 16 ≤ room)) <|
 bindO (fBin .add x4 (.int .i64 1)) fun v15 =>
 arm_Moves.L0 x2 x3 v15 x5 (r7 ++ ([[.int .i64 6,.int .i64 0]] : List (List FV))))):=(jden_eq ..).trans (by kernel_rfl)
theorem arm_Moves.L3_eq : arm_Moves.L3 x0 x1 x2 x3 x4 x5 r6 r7 = (
 bindO (fBin .gtr x1 (.int .i64 0)) fun v9 =>
 fCond v9
 (gB (decide ((r7.length + 1) * 16 ≤ room)) <|
 bindO (fBin .sub x1 (.int .i64 1)) fun v10 =>
 arm_Moves.L2 x0 v10 x2 x3 x4 x5 r6 (r7 ++ ([[.int .i64 5,.int .i64 0]] : List (List FV))))
 (bindO (fBin .sub x1 (.int .i64 1)) fun v11 =>
 arm_Moves.L2 x0 v11 x2 x3 x4 x5 r6 r7)):=(jden_eq ..).trans (by kernel_rfl)
noncomputable def ref01_proper.L0 : R:=jden E 91 [] [4,1,0,1] (mkF 63 [(1,.f x0),(2,.f x1),(3,.ptr 0 0 0),(7,.f x2)]) [.box [.f x3,.f x4]]
noncomputable def ref01_proper.L1 : R:=jden E 91 [] [1,4,0,1,5,4,1,0,1] (mkF 63 [(1,.f x0),(2,.f x1),(3,.ptr 0 0 0),(7,.f x2)]) [.box [.f x3,.f x4]]
theorem ref01_proper.eq : ref01_proper x0 x1 x2 = (
 gB (fIsAgg 2 x0) <|
 ref01_proper.L0 x1 x2 (.int .i64 0) (fCell x0 0) (fCell x0 1)):=(den_eq ..).trans (by kernel_rfl)
theorem ref01_proper.L0_eq : ref01_proper.L0 x0 x1 x2 x3 x4 = (
 bindO (fLen x1) fun v6 =>
 bindO (fBin .lss x2 v6) fun v7 =>
 fCond v7
 (bindO (fIdxC 3 x1 x2) fun c8 =>
 bindO (c8[0]?) fun v9 =>
 bindO (fIdxC 3 x1 x2) fun c10 =>
 bindO (c10[1]?) fun v11 =>
 bindO (ref01_near v9 v11) fun v12 =>
 bindO (fUn .not v12) fun v13 =>
 fCond v13
 (some (.int .i64 13))
 (bindO (fIdxC 3 x1 x2) fun c14 =>
 bindO (c14[2]?) fun v15 =>
 bindO (fBin .lss v15 (.int .i64 1)) fun v16 =>
 fCond v16
 (some (.int .i64 11))
 (fCond x0
 (bindO (fIdxC 3 x1 x2) fun c17 =>
 bindO (c17[2]?) fun v18 =>
 bindO (ref01_isState (.agg [x3,x4]) v18) fun v19 =>
 bindO (fUn .not v19) fun v20 =>
 fCond v20
 (some (.int .i64 11))
 (ref01_proper.L1 x0 x1 x2 x3 x4))
 (ref01_proper.L1 x0 x1 x2 x3 x4))))
 (bindO (fLen x1) fun v21 =>
 bindO (fBin .gtr v21 (.int .i64 65536)) fun v22 =>
 fCond v22
 (some (.int .i64 14))
 (some (.int .i64 0)))):=(jden_eq ..).trans (by kernel_rfl)
theorem ref01_proper.L1_eq : ref01_proper.L1 x0 x1 x2 x3 x4 = (
 bindO (fBin .gtr x2 (.int .i64 0)) fun v6 =>
 fCond v6
 (bindO (fIdxC 3 x1 x2) fun c7 =>
 bindO (c7[0]?) fun v8 =>
 bindO (c7[1]?) fun v9 =>
 bindO (c7[2]?) fun v10 =>
 bindO (fBin .sub x2 (.int .i64 1)) fun v11 =>
 bindO (fIdxC 3 x1 v11) fun c12 =>
 bindO (c12[0]?) fun v13 =>
 bindO (c12[1]?) fun v14 =>
 bindO (c12[2]?) fun v15 =>
 bindO (ref01_behind (.agg [v8,v9,v10]) (.agg [v13,v14,v15])) fun v16 =>
 bindO (fUn .not v16) fun v17 =>
 fCond v17
 (some (.int .i64 12))
 (bindO (fBin .add x2 (.int .i64 1)) fun v18 =>
 ref01_proper.L0 x0 x1 v18 x3 x4))
 (bindO (fBin .add x2 (.int .i64 1)) fun v19 =>
 ref01_proper.L0 x0 x1 v19 x3 x4)):=(jden_eq ..).trans (by kernel_rfl)
theorem ref01_Proper.eq : ref01_Proper x0 x1 = (
 gB (fIsAgg 2 x0) <|
 bindO (ref01_Check (.agg [(fCell x0 0),(fCell x0 1)])) fun v1 =>
 bindO (fBin .neq v1 (.int .i64 0)) fun v2 =>
 fCond v2
 (some (.int .i64 10))
 (bindO (ref01_proper (.agg [(fCell x0 0),(fCell x0 1)]) (.bool true) x1) fun v3 =>
 some v3)):=(den_eq ..).trans (by kernel_rfl)
noncomputable def ref08_field.L0 : R:=jden E 39 [] [4,1,0,1,1,1] (mkF 54 [(0,.f x0),(4,.f x1)]) []
theorem ref08_field.eq : ref08_field x0 = (
 bindO (ref01_Proper (.agg [.int .i64 0,.nilS]) x0) fun v1 =>
 bindO (fBin .neq v1 (.int .i64 0)) fun v2 =>
 fCond v2
 (some v1)
 (ref08_field.L0 x0 (.int .i64 0))):=(den_eq ..).trans (by kernel_rfl)
theorem ref08_field.L0_eq : ref08_field.L0 x0 x1 = (
 bindO (fLen x0) fun v3 =>
 bindO (fBin .lss x1 v3) fun v4 =>
 fCond v4
 (bindO (fIdxC 3 x0 x1) fun c5 =>
 bindO (c5[2]?) fun v6 =>
 bindO (ref08_Nine v6) fun v7 =>
 bindO (fUn .not v7) fun v8 =>
 fCond v8
 (some (.int .i64 82))
 (bindO (fIdxC 3 x0 x1) fun c9 =>
 bindO (c9[0]?) fun v10 =>
 bindO (fBin .lss v10 (.int .i64 2)) fun v11 =>
 fCond v11
 (some (.int .i64 81))
 (bindO (fIdxC 3 x0 x1) fun c12 =>
 bindO (c12[0]?) fun v13 =>
 bindO (fBin .gtr v13 (.int .i64 57)) fun v14 =>
 fCond v14
 (some (.int .i64 81))
 (bindO (fIdxC 3 x0 x1) fun c15 =>
 bindO (c15[1]?) fun v16 =>
 bindO (fBin .lss v16 (.int .i64 (-56))) fun v17 =>
 fCond v17
 (some (.int .i64 81))
 (bindO (fIdxC 3 x0 x1) fun c18 =>
 bindO (c18[1]?) fun v19 =>
 bindO (fBin .gtr v19 (.int .i64 (-1))) fun v20 =>
 fCond v20
 (some (.int .i64 81))
 (bindO (fBin .add x1 (.int .i64 1)) fun v21 =>
 ref08_field.L0 x0 v21))))))
 (some (.int .i64 0))):=(jden_eq ..).trans (by kernel_rfl)
noncomputable def ref08_last.L0 : R:=jden E 40 [] [4,1,0,1,1] (mkF 19 [(0,.f x0),(3,.f x1),(4,.f x2)]) []
theorem ref08_last.eq : ref08_last x0 = (
 ref08_last.L0 x0 (.int .i64 0) (.int .i64 0)):=(den_eq ..).trans (by kernel_rfl)
theorem ref08_last.L0_eq : ref08_last.L0 x0 x1 x2 = (
 bindO (fLen x0) fun v4 =>
 bindO (fBin .lss x2 v4) fun v5 =>
 fCond v5
 (bindO (fIdxC 3 x0 x2) fun c6 =>
 bindO (c6[0]?) fun v7 =>
 bindO (fMinMax true x1 v7) fun v8 =>
 bindO (fBin .add x2 (.int .i64 1)) fun v9 =>
 ref08_last.L0 x0 v8 v9)
 (some x1)):=(jden_eq ..).trans (by kernel_rfl)
noncomputable def ref08_top.L0 : R:=jden E 41 [] [4,1,0,1,1] (mkF 28 [(0,.f x0),(1,.f x1),(5,.f x2),(6,.f x3)]) []
theorem ref08_top.eq : ref08_top x0 x1 = (
 ref08_top.L0 x0 x1 (.int .i64 0) (.int .i64 0)):=(den_eq ..).trans (by kernel_rfl)
theorem ref08_top.L0_eq : ref08_top.L0 x0 x1 x2 x3 = (
 bindO (fLen x0) fun v5 =>
 bindO (fBin .lss x3 v5) fun v6 =>
 fCond v6
 (bindO (fIdxC 3 x0 x3) fun c7 =>
 bindO (c7[0]?) fun v8 =>
 bindO (fBin .eql v8 x1) fun v9 =>
 fCond v9
 (bindO (fIdxC 3 x0 x3) fun c10 =>
 bindO (c10[1]?) fun v11 =>
 bindO (fMinMax false x2 v11) fun v12 =>
 bindO (fBin .add x3 (.int .i64 1)) fun v13 =>
 ref08_top.L0 x0 x1 v12 v13)
 (bindO (fBin .add x3 (.int .i64 1)) fun v14 =>
 ref08_top.L0 x0 x1 x2 v14))
 (some x2)):=(jden_eq ..).trans (by kernel_rfl)
noncomputable def ref01_At.L0 : R:=jden E 42 [] [4,1,0,1] (mkF 35 [(0,.f x0),(1,.f x1),(2,.f x2),(7,.f x3)]) []
theorem ref01_At.eq : ref01_At x0 x1 x2 = (
 ref01_At.L0 x0 x1 x2 (.int .i64 0)):=(den_eq ..).trans (by kernel_rfl)
theorem ref01_At.L0_eq : ref01_At.L0 x0 x1 x2 x3 = (
 bindO (fLen x0) fun v5 =>
 bindO (fBin .lss x3 v5) fun v6 =>
 fCond v6
 (bindO (fIdxC 3 x0 x3) fun c7 =>
 bindO (c7[0]?) fun v8 =>
 bindO (fBin .eql v8 x1) fun v9 =>
 fCond v9
 (bindO (fIdxC 3 x0 x3) fun c10 =>
 bindO (c10[1]?) fun v11 =>
 bindO (fBin .eql v11 x2) fun v12 =>
 fCond v12
 (bindO (fIdxC 3 x0 x3) fun c13 =>
 bindO (c13[2]?) fun v14 =>
 some v14)
 (bindO (fBin .add x3 (.int .i64 1)) fun v15 =>
 ref01_At.L0 x0 x1 x2 v15))
 (bindO (fBin .add x3 (.int .i64 1)) fun v16 =>
 ref01_At.L0 x0 x1 x2 v16))
 (some (.int .i64 0))):=(jden_eq ..).trans (by kernel_rfl)
noncomputable def ref08_Moves.L0 : R:=jden E 16 [] [4,1,0,1,1,1,1,1] (mkF 87 [(0,.f x0),(5,.ref 1),(6,.f x1),(7,.f x2)]) [.dead,.own 2 r3]
noncomputable def ref08_Moves.L1 : R:=jden E 16 [] [1,4,0,1,5,4,1,0,1,1,1,1,1] (mkF 87 [(0,.f x0),(5,.ref 1),(6,.f x1),(7,.f x2),(8,.f x3)]) [.dead,.own 2 r4]
noncomputable def ref08_Moves.L5 : R:=jden E 16 [] [4,1,0,1,1,1,1,1,1] (mkF 87 [(5,.ref 2),(6,.f x0),(12,.f x1)]) [.dead,.dead,.own 2 r2]
noncomputable def ref08_Moves.L2 : R:=jden E 16 [] [4,1,0,1,1,4,0,1,5,4,1,0,1,1,1,1,1] (mkF 87 [(0,.f x0),(5,.ref 2),(6,.f x1),(7,.f x2),(8,.f x3),(9,.f x4)]) [.dead,.dead,.own 2 r5]
noncomputable def ref08_Moves.L3 : R:=jden E 16 [] [4,1,0,1,1,1,4,0,1,5,4,1,0,1,1,1,1,1] (mkF 87 [(0,.f x0),(5,.ref 3),(6,.f x1),(7,.f x2),(10,.f x3)]) [.dead,.dead,.dead,.own 2 r4]
noncomputable def ref08_Moves.L4 : R:=jden E 16 [] [1,4,0,1,5,4,1,0,1,1,1,4,0,1,5,4,1,0,1,1,1,1,1] (mkF 87 [(0,.f x0),(5,.ref 3),(6,.f x1),(7,.f x2),(10,.f x3)]) [.dead,.dead,.dead,.own 2 r4]
theorem ref08_Moves.eq : ref08_Moves x0 = (
 bindO (ref08_field x0) fun v1 =>
 bindO (fBin .neq v1 (.int .i64 0)) fun v2 =>
 fCond v2
 (some (.tup [.nilS,v1]))
 (bindO (ref08_last x0) fun v3 =>
 ref08_Moves.L0 x0 v3 (.int .i64 2) [])):=(den_eq ..).trans (by kernel_rfl)
theorem ref08_Moves.L0_eq : ref08_Moves.L0 x0 x1 x2 r3 = (
 bindO (fBin .leq x2 x1) fun v5 =>
 fCond v5
 (bindO (ref08_top x0 x2) fun v6 =>
 bindO (fBin .lss v6 (.int .i64 0)) fun v7 =>
 fCond v7
 (gB (decide ((r3.length + 1) * 16 ≤ room)) <|
 ref08_Moves.L1 x0 x1 x2 v6 (r3 ++ ([[.int .i64 3,.int .i64 0]] : List (List FV))))
 (ref08_Moves.L1 x0 x1 x2 v6 r3))
 (ref08_Moves.L5 x1 (.int .i64 2) r3)):=(jden_eq ..).trans (by kernel_rfl)
theorem ref08_Moves.L1_eq : ref08_Moves.L1 x0 x1 x2 x3 r4 = (
 ref08_Moves.L2 x0 x1 x2 x3 x3 r4):=(jden_eq ..).trans (by kernel_rfl)
theorem ref08_Moves.L5_eq : ref08_Moves.L5 x0 x1 r2 = (
 bindO (fBin .lss x1 x0) fun v4 =>
 fCond v4
 (gB (decide ((r2.length + 1) * 16 ≤ room)) <|
 bindO (fBin .add x1 (.int .i64 1)) fun v5 =>
 ref08_Moves.L5 x0 v5 (r2 ++ ([[.int .i64 2,.int .i64 0]] : List (List FV))))
 (some (.tup [.arr r2,.int .i64 0]))):=(jden_eq ..).trans (by kernel_rfl)
theorem ref08_Moves.L2_eq : ref08_Moves.L2 x0 x1 x2 x3 x4 r5 = (
 bindO (fBin .lss x4 (.int .i64 (-1))) fun v7 =>
 fCond v7
 (gB (decide ((r5.length + 1) * 16 ≤ room)) <|
 bindO (fBin .add x4 (.int .i64 1)) fun v8 =>
 ref08_Moves.L2 x0 x1 x2 x3 v8 (r5 ++ ([[.int .i64 4,.int .i64 0]] : List (List FV))))
 (ref08_Moves.L3 x0 x1 x2 x3 r5)):=(jden_eq ..).trans (by kernel_rfl)
theorem ref08_Moves.L3_eq : ref08_Moves.L3 x0 x1 x2 x3 r4 = (
 bindO (fBin .lss x3 (.int .i64 0)) fun v6 =>
 fCond v6
 (bindO (ref01_At x0 x2 x3) fun v7 =>
 bindO (fBin .neq v7 (.int .i64 0)) fun v8 =>
 fCond v8
 (gB (decide ((r4.length + 1) * 16 ≤ room)) <|
 ref08_Moves.L4 x0 x1 x2 x3 (r4 ++ ([[.int .i64 7,v7]] : List (List FV))))
 (ref08_Moves.L4 x0 x1 x2 x3 r4))
 (bindO (fBin .lss x2 x1) fun v9 =>
 fCond v9
 (gB (decide ((r4.length + 1) * 16 ≤ room)) <|
 bindO (fBin .add x2 (.int .i64 1)) fun v10 =>
 ref08_Moves.L0 x0 x1 v10 (r4 ++ ([[.int .i64 1,.int .i64 0]] : List (List FV))))
 (bindO (fBin .add x2 (.int .i64 1)) fun v11 =>
 ref08_Moves.L0 x0 x1 v11 r4))):=(jden_eq ..).trans (by kernel_rfl)
theorem ref08_Moves.L4_eq : ref08_Moves.L4 x0 x1 x2 x3 r4 = (
 bindO (fBin .lss x3 (.int .i64 (-1))) fun v6 =>
 fCond v6
 (gB (decide ((r4.length + 1) * 16 ≤ room)) <|
 bindO (fBin .add x3 (.int .i64 1)) fun v7 =>
 ref08_Moves.L3 x0 x1 x2 v7 (r4 ++ ([[.int .i64 5,.int .i64 0]] : List (List FV))))
 (gB (decide ((r4.length + 1) * 16 ≤ room)) <|
 bindO (fBin .add x3 (.int .i64 1)) fun v8 =>
 ref08_Moves.L3 x0 x1 x2 v8 (r4 ++ ([[.int .i64 6,.int .i64 0]] : List (List FV))))):=(jden_eq ..).trans (by kernel_rfl)
noncomputable def arm_Length.L0 : R:=jden E 25 [] [4,1,0,1,1,1,1] (mkF 48 [(6,.mp 0),(7,.f x0),(21,.f x1),(22,.f x2),(23,.f x3)]) [.map false es4]
noncomputable def arm_Length.L1 : R:=jden E 25 [] [1,4,0,1,1,5,4,1,0,1,1,1,1] (mkF 48 [(6,.mp 0),(7,.f x0),(9,.ptr 1 0 0),(21,.f x1),(22,.f x2),(23,.f x3)]) [.map false es4,.box [.f x5,.f x6]]
theorem arm_Length.eq : arm_Length x0 = (
 bindO (arm_Moves x0) fun v1 =>
 gB (fIsTup 2 v1) <|
 bindO (fBin .neq (fTup v1 1) (.int .i64 0)) fun v2 =>
 fCond v2
 (some (.tup [.int .i64 0,(fTup v1 1)]))
 (bindO (fLen (fTup v1 0)) fun v3 =>
 arm_Length.L0 (.int .i64 0) (fTup v1 0) v3 (.int .i64 0) [])):=(den_eq ..).trans (by kernel_rfl)
theorem arm_Length.L0_eq : arm_Length.L0 x0 x1 x2 x3 es4 = (
 bindO (fBin .lss x3 x2) fun v6 =>
 fCond v6
 (bindO (fIdxC 2 x1 x3) fun c7 =>
 bindO (c7[0]?) fun v8 =>
 bindO (c7[1]?) fun v9 =>
 bindO (mLook true [.int,.int] es4 (.agg [v8,v9]) (.int .i64 0)) fun v10 =>
 bindO (fBin .eql v10.1 (.int .i64 0)) fun v11 =>
 fCond v11
 (bindO (arm_Pulses (.agg [v8,v9])) fun v12 =>
 gB (fIsTup 2 v12) <|
 gB (fIsAgg 2 (fTup v12 0)) <|
 bindO (fLenT (fCell (fTup v12 0) 0)) fun v13 =>
 gB (keyOk true [.int,.int] (.agg [v8,v9])) <|
 bindO (mPut true [.int,.int] es4 (.agg [v8,v9]) v13) fun es14 =>
 arm_Length.L1 x0 x1 x2 x3 es14 v8 v9)
 (arm_Length.L1 x0 x1 x2 x3 es4 v8 v9))
 (some (.tup [x0,.int .i64 0]))):=(jden_eq ..).trans (by kernel_rfl)
theorem arm_Length.L1_eq : arm_Length.L1 x0 x1 x2 x3 es4 x5 x6 = (
 bindO (mLook true [.int,.int] es4 (.agg [x5,x6]) (.int .i64 0)) fun v8 =>
 bindO (fBin .add x0 v8.1) fun v9 =>
 bindO (fBin .add x3 (.int .i64 1)) fun v10 =>
 arm_Length.L0 v9 x1 x2 v10 es4):=(jden_eq ..).trans (by kernel_rfl)
noncomputable def law08_ArmTrains.L0 : R:=jden E 6 [] [1] (mkF 132 [(0,.f x0),(1,.f x1)]) []
noncomputable def law08_ArmTrains.L1 : R:=jden E 6 [] [4,1,0,1,1,1,1,1,1] (mkF 132 [(0,.f x0),(1,.f x1),(5,.f x2),(6,.f x3),(7,.ptr 2 0 0),(8,.f x4),(9,.ptr 3 0 0),(10,.f x5),(11,.f x6)]) [.dead,.fz r7,.box [.f x8,.f x9],.box [.f x10,.f x11]]
noncomputable def law08_ArmTrains.L2 : R:=jden E 6 [] [1,4,0,1,5,4,1,0,1,1,1,1,1,1] (mkF 132 [(0,.f x0),(1,.f x1),(5,.f x2),(6,.f x3),(7,.ptr 2 0 0),(8,.f x4),(9,.ptr 3 0 0),(10,.f x5),(11,.f x6),(12,.ptr 4 0 0)]) [.dead,.fz r7,.box [.f x8,.f x9],.box [.f x10,.f x11],.box [.f x12,.f x13]]
noncomputable def law08_ArmTrains.L3 : R:=jden E 6 [] [1,1,1,1,1,1,1] (mkF 132 [(1,.f x0),(5,.f x1),(6,.f x2),(7,.ptr 2 0 0),(8,.f x3),(9,.ptr 3 0 0),(10,.f x4)]) [.dead,.fz r5,.box [.f x6,.f x7],.box [.f x8,.f x9]]
noncomputable def law08_ArmTrains.L4 : R:=jden E 6 [] [1,1,1,1,1,1,1,1] (mkF 132 [(1,.f x0),(5,.f x1),(6,.f x2)]) [.dead,.fz r3,.box [.f x4,.f x5],.box [.f x6,.f x7]]
noncomputable def law08_ArmTrains.L5 : R:=jden E 6 [] [4,1,0,1,1,1,1,1,1,1,1,1,1,1,1] (mkF 132 [(5,.f x0),(14,.f x1),(15,.f x2),(16,.f x3),(17,.f x4)]) [.dead,.fz r5,.box [.f x6,.f x7],.box [.f x8,.f x9]]
theorem law08_ArmTrains.eq : law08_ArmTrains x0 x1 = (
 bindO (fLen x0) fun v1 =>
 bindO (fBin .gtr v1 (.int .i64 40)) fun v2 =>
 fCond v2
 (bindO law08_awake fun v3 =>
 some v3)
 (bindO (fLen x1) fun v4 =>
 bindO (fBin .gtr v4 (.int .i64 60)) fun v5 =>
 fCond v5
 (bindO law08_awake fun v6 =>
 some v6)
 (law08_ArmTrains.L0 x0 x1))):=(den_eq ..).trans (by kernel_rfl)
theorem law08_ArmTrains.L0_eq : law08_ArmTrains.L0 x0 x1 = (
 bindO (ref08_Moves x1) fun v3 =>
 gB (fIsTup 2 v3) <|
 bindO (asRows x0) fun r4 =>
 gB (rowsSz 2 r4) <|
 gB (decide ((0 + r4.length) * 16 ≤ room)) <|
 bindO (arm_TrainOf (.arr ([] ++ r4))) fun v5 =>
 gB (fIsTup 2 v5) <|
 gB (fIsAgg 2 (fTup v5 0)) <|
 law08_ArmTrains.L1 x0 x1 (fTup v3 0) (fTup v3 1) (fTup v5 1) (.int .i64 0) (.int .i64 0) ([] ++ r4) (fCell (fTup v5 0) 0) (fCell (fTup v5 0) 1) (.str []) (.str [])):=(jden_eq ..).trans (by kernel_rfl)
theorem law08_ArmTrains.L1_eq : law08_ArmTrains.L1 x0 x1 x2 x3 x4 x5 x6 r7 x8 x9 x10 x11 = (
 bindO (fLen x0) fun v13 =>
 bindO (fBin .lss x6 v13) fun v14 =>
 fCond v14
 (bindO (fIdxC 2 x0 x6) fun c15 =>
 bindO (c15[0]?) fun v16 =>
 bindO (c15[1]?) fun v17 =>
 bindO (arm_Pulses (.agg [v16,v17])) fun v18 =>
 gB (fIsTup 2 v18) <|
 gB (fIsAgg 2 (fTup v18 0)) <|
 bindO (fBin .neq (fTup v18 1) (.int .i64 0)) fun v19 =>
 fCond v19
 (bindO (fBin .eql x5 (.int .i64 0)) fun v20 =>
 fCond v20
 (law08_ArmTrains.L2 x0 x1 x2 x3 x4 (fTup v18 1) x6 r7 x8 x9 x10 x11 (fCell (fTup v18 0) 0) (fCell (fTup v18 0) 1))
 (law08_ArmTrains.L2 x0 x1 x2 x3 x4 x5 x6 r7 x8 x9 x10 x11 (fCell (fTup v18 0) 0) (fCell (fTup v18 0) 1)))
 (law08_ArmTrains.L2 x0 x1 x2 x3 x4 x5 x6 r7 x8 x9 x10 x11 (fCell (fTup v18 0) 0) (fCell (fTup v18 0) 1)))
 (bindO (fBin .neq x5 (.int .i64 0)) fun v21 =>
 fCond v21
 (law08_ArmTrains.L3 x1 x2 x3 x4 x5 r7 x8 x9 (.str []) (.str []))
 (law08_ArmTrains.L3 x1 x2 x3 x4 x5 r7 x8 x9 x10 x11))):=(jden_eq ..).trans (by kernel_rfl)
theorem law08_ArmTrains.L2_eq : law08_ArmTrains.L2 x0 x1 x2 x3 x4 x5 x6 r7 x8 x9 x10 x11 x12 x13 = (
 bindO (fBin .add x10 x12) fun v15 =>
 bindO (fBin .add x11 x13) fun v16 =>
 bindO (fBin .add x6 (.int .i64 1)) fun v17 =>
 law08_ArmTrains.L1 x0 x1 x2 x3 x4 x5 v17 r7 x8 x9 v15 v16):=(jden_eq ..).trans (by kernel_rfl)
theorem law08_ArmTrains.L3_eq : law08_ArmTrains.L3 x0 x1 x2 x3 x4 r5 x6 x7 x8 x9 = (
 bindO (fBin .neq x3 x4) fun v11 =>
 fCond v11
 (some (.bool false))
 (bindO (fAggBin [.str,.str] .neq [x6,x7] [x8,x9]) fun v12 =>
 fCond v12
 (some (.bool false))
 (law08_ArmTrains.L4 x0 x1 x2 r5 x6 x7 x8 x9))):=(jden_eq ..).trans (by kernel_rfl)
theorem law08_ArmTrains.L4_eq : law08_ArmTrains.L4 x0 x1 x2 r3 x4 x5 x6 x7 = (
 bindO (arm_Length x0) fun v9 =>
 gB (fIsTup 2 v9) <|
 bindO (fBin .neq x2 (.int .i64 0)) fun v10 =>
 fCond v10
 (bindO (fBin .eql (fTup v9 1) x2) fun v11 =>
 fCond v11
 (bindO (fBin .eql (fTup v9 0) (.int .i64 0)) fun v12 =>
 fCond v12
 (bindO law08_awake fun v13 =>
 some v13)
 (some (.bool false)))
 (some (.bool false)))
 (law08_ArmTrains.L5 x1 (fTup v9 0) (fTup v9 1) (.int .i64 0) (.int .i64 0) r3 x4 x5 x6 x7)):=(jden_eq ..).trans (by kernel_rfl)
theorem law08_ArmTrains.L5_eq : law08_ArmTrains.L5 x0 x1 x2 x3 x4 r5 x6 x7 x8 x9 = (
 bindO (fLen x0) fun v11 =>
 bindO (fBin .lss x4 v11) fun v12 =>
 fCond v12
 (bindO (fIdxC 2 x0 x4) fun c13 =>
 bindO (c13[0]?) fun v14 =>
 bindO (c13[1]?) fun v15 =>
 bindO (arm_Pulses (.agg [v14,v15])) fun v16 =>
 gB (fIsTup 2 v16) <|
 gB (fIsAgg 2 (fTup v16 0)) <|
 bindO (fLenT (fCell (fTup v16 0) 0)) fun v17 =>
 bindO (fBin .add x3 v17) fun v18 =>
 bindO (fBin .add x4 (.int .i64 1)) fun v19 =>
 law08_ArmTrains.L5 x0 x1 x2 v18 v19 r5 x6 x7 x8 x9)
 (bindO (fBin .eql x2 (.int .i64 0)) fun v20 =>
 fCond v20
 (bindO (fBin .eql x1 x3) fun v21 =>
 fCond v21
 (bindO law08_awake fun v22 =>
 some v22)
 (some (.bool false)))
 (some (.bool false)))):=(jden_eq ..).trans (by kernel_rfl)
end Go.Proofs.YtpffkpaiihcffaaGreatDoor
