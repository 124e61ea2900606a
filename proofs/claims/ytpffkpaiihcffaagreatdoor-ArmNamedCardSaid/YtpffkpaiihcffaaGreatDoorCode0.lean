/- The code of the functions, as the abstract machine runs it. -/
import Derived.Test.YtpffkpaiihcffaaGreatDoorEnv
import Derived.KernelRfl
set_option linter.unusedVariables false
namespace Go.Proofs.YtpffkpaiihcffaaGreatDoor
open Go Go.Proofs.YtpffkpaiihcffaaGreatDoor.VM
variable (x0 x1 x2 x3 : FV) (r4 : List (List FV)) (x4 : FV) (r5 : List (List FV)) (x5 x6 x7 x8 x9 x10 x11 x12 x13 x14 x15 x16 x17 x18 x19 : FV)
theorem ref01_Word.eq : ref01_Word x0 = (
 bindO (fBin .eql x0 (.int .i64 9)) fun v1 =>
 fCond v1
 (some (.tup [.str [49,48,48,48,48],.bool true]))
 (bindO (fBin .eql x0 (.int .i64 10)) fun v2 =>
 fCond v2
 (some (.tup [.str [49,48,48,48,49],.bool true]))
 (bindO (fBin .eql x0 (.int .i64 11)) fun v3 =>
 fCond v3
 (some (.tup [.str [49,48,48,49],.bool true]))
 (bindO (fBin .eql x0 (.int .i64 12)) fun v4 =>
 fCond v4
 (some (.tup [.str [49,48,49,48],.bool true]))
 (bindO (fBin .eql x0 (.int .i64 17)) fun v5 =>
 fCond v5
 (some (.tup [.str [49,48,49,49],.bool true]))
 (bindO (fBin .eql x0 (.int .i64 18)) fun v6 =>
 fCond v6
 (some (.tup [.str [49,49,48,48],.bool true]))
 (bindO (fBin .eql x0 (.int .i64 19)) fun v7 =>
 fCond v7
 (some (.tup [.str [49,49,48,49],.bool true]))
 (bindO (fBin .eql x0 (.int .i64 20)) fun v8 =>
 fCond v8
 (some (.tup [.str [49,49,49,48],.bool true]))
 (bindO (fBin .eql x0 (.int .i64 25)) fun v9 =>
 fCond v9
 (some (.tup [.str [49,49,49,49],.bool true]))
 (some (.tup [.str [],.bool false]))))))))))):=(den_eq ..).trans (by kernel_rfl)
theorem ref08_Nine.eq : ref08_Nine x0 = (
 bindO (ref01_Word x0) fun v1 =>
 gB (fIsTup 2 v1) <|
 some (fTup v1 1)):=(den_eq ..).trans (by kernel_rfl)
theorem arm_stands.eq : arm_stands x0 x1 = (
 bindO (fBin .geq x0 (.int .i64 2)) fun v1 =>
 fCond v1
 (bindO (fBin .leq x0 (.int .i64 60)) fun v2 =>
 fCond v2
 (bindO (fBin .geq x1 (.int .i64 (-1))) fun v3 =>
 fCond v3
 (bindO (fBin .leq x1 (.int .i64 60)) fun v4 =>
 some v4)
 (some (.bool false)))
 (some (.bool false)))
 (some (.bool false))):=(den_eq ..).trans (by kernel_rfl)
noncomputable def cells_Word.L0 : R:=jden E 52 [] [4,1,0,1] (mkF 18 [(0,.f x0),(6,.agg [.f x1,.f x2,.f x3,.f x4,.f x5,.f x6,.f x7,.f x8,.f x9,.f x10,.f x11,.f x12,.f x13,.f x14,.f x15,.f x16,.f x17,.f x18]),(7,.f x19)]) []
theorem cells_Word.eq : cells_Word x0 = (
 cells_Word.L0 x0 (.str [48,48,48,48]) (.int .i64 9) (.str [48,48,48,49]) (.int .i64 10) (.str [48,48,49]) (.int .i64 11) (.str [48,49,48]) (.int .i64 12) (.str [48,49,49]) (.int .i64 17) (.str [49,48,48]) (.int .i64 18) (.str [49,48,49]) (.int .i64 19) (.str [49,49,48]) (.int .i64 20) (.str [49,49,49]) (.int .i64 25) (.int .i64 0)):=(den_eq ..).trans (by kernel_rfl)
theorem cells_Word.L0_eq : cells_Word.L0 x0 x1 x2 x3 x4 x5 x6 x7 x8 x9 x10 x11 x12 x13 x14 x15 x16 x17 x18 x19 = (
 bindO (fBin .lss x19 (.int .i64 9)) fun v21 =>
 fCond v21
 (bindO (asNat x19) fun j22 =>
 gB (decide (j22 < 9)) <|
 bindO ([(x1 : FV),x2,x3,x4,x5,x6,x7,x8,x9,x10,x11,x12,x13,x14,x15,x16,x17,x18][j22 * 2]?) fun v23 =>
 bindO ([(x1 : FV),x2,x3,x4,x5,x6,x7,x8,x9,x10,x11,x12,x13,x14,x15,x16,x17,x18][j22 * 2 + 1]?) fun v24 =>
 bindO (fBin .eql v24 x0) fun v25 =>
 fCond v25
 (bindO (fBin .add (.str [49]) v23) fun v26 =>
 some (.tup [v26,.bool true]))
 (bindO (fBin .add x19 (.int .i64 1)) fun v27 =>
 cells_Word.L0 x0 x1 x2 x3 x4 x5 x6 x7 x8 x9 x10 x11 x12 x13 x14 x15 x16 x17 x18 v27))
 (some (.tup [.str [],.bool false]))):=(jden_eq ..).trans (by kernel_rfl)
noncomputable def arm_formed.L0 : R:=jden E 38 [] [1] (mkF 33 [(1,.ptr 0 0 0)]) [.box [.f x0,.f x1]]
theorem arm_formed.eq : arm_formed x0 = (
 gB (fIsAgg 2 x0) <|
 bindO (fBin .eql (fCell x0 0) (.int .i64 7)) fun v1 =>
 fCond v1
 (bindO (cells_Word (fCell x0 1)) fun v2 =>
 gB (fIsTup 2 v2) <|
 some (fTup v2 1))
 (bindO (fBin .eql (fCell x0 0) (.int .i64 8)) fun v3 =>
 fCond v3
 (bindO (cells_Word (fCell x0 1)) fun v4 =>
 gB (fIsTup 2 v4) <|
 some (fTup v4 1))
 (arm_formed.L0 (fCell x0 0) (fCell x0 1)))):=(den_eq ..).trans (by kernel_rfl)
theorem arm_formed.L0_eq : arm_formed.L0 x0 x1 = (
 bindO (fBin .geq x0 (.int .i64 1)) fun v3 =>
 fCond v3
 (bindO (fBin .leq x0 (.int .i64 6)) fun v4 =>
 fCond v4
 (bindO (fBin .eql x1 (.int .i64 0)) fun v5 =>
 some v5)
 (some (.bool false)))
 (some (.bool false))):=(jden_eq ..).trans (by kernel_rfl)
noncomputable def arm_After.L0 : R:=jden E 13 [] [1,1] (mkF 69 [(0,.f x0),(1,.f x1),(5,.ptr 0 0 0)]) [.box [.f x2,.f x3]]
noncomputable def arm_After.L2 : R:=jden E 13 [] [1,0,1,1,1] (mkF 69 [(0,.f x0),(1,.f x1)]) [.box [.f x2,.f x3]]
noncomputable def arm_After.L1 : R:=jden E 13 [] [1,1,1] (mkF 69 [(0,.f x0),(1,.f x1)]) [.box [.f x2,.f x3]]
theorem arm_After.eq : arm_After x0 x1 x2 = (
 gB (fIsAgg 2 x2) <|
 bindO (arm_stands x0 x1) fun v1 =>
 bindO (fUn .not v1) fun v2 =>
 fCond v2
 (some (.tup [.int .i64 0,.int .i64 0,.int .i64 81]))
 (bindO (arm_formed (.agg [(fCell x2 0),(fCell x2 1)])) fun v3 =>
 bindO (fUn .not v3) fun v4 =>
 fCond v4
 (some (.tup [.int .i64 0,.int .i64 0,.int .i64 80]))
 (bindO (fBin .lss x1 (.int .i64 0)) fun v5 =>
 bindO (fBin .leq (fCell x2 0) (.int .i64 3)) fun v6 =>
 bindO (fBoolBin .neq v5 v6) fun v7 =>
 fCond v7
 (some (.tup [.int .i64 0,.int .i64 0,.int .i64 80]))
 (bindO (fBin .eql (fCell x2 0) (.int .i64 5)) fun v8 =>
 fCond v8
 (bindO (fBin .lss x1 (.int .i64 1)) fun v9 =>
 fCond v9
 (some (.tup [.int .i64 0,.int .i64 0,.int .i64 80]))
 (bindO (fBin .eql (fCell x2 0) (.int .i64 6)) fun v10 =>
 fCond v10
 (bindO (fBin .neq x1 (.int .i64 0)) fun v11 =>
 fCond v11
 (some (.tup [.int .i64 0,.int .i64 0,.int .i64 80]))
 (arm_After.L0 x0 x1 (fCell x2 0) (fCell x2 1)))
 (arm_After.L0 x0 x1 (fCell x2 0) (fCell x2 1))))
 (bindO (fBin .eql (fCell x2 0) (.int .i64 6)) fun v12 =>
 fCond v12
 (bindO (fBin .neq x1 (.int .i64 0)) fun v13 =>
 fCond v13
 (some (.tup [.int .i64 0,.int .i64 0,.int .i64 80]))
 (arm_After.L0 x0 x1 (fCell x2 0) (fCell x2 1)))
 (arm_After.L0 x0 x1 (fCell x2 0) (fCell x2 1))))))):=(den_eq ..).trans (by kernel_rfl)
theorem arm_After.L0_eq : arm_After.L0 x0 x1 x2 x3 = (
 bindO (fBin .eql x2 (.int .i64 1)) fun v5 =>
 fCond v5
 (bindO (fBin .add x0 (.int .i64 1)) fun v6 =>
 arm_After.L2 v6 x1 x2 x3)
 (bindO (fBin .eql x2 (.int .i64 2)) fun v7 =>
 fCond v7
 (bindO (fBin .sub x0 (.int .i64 1)) fun v8 =>
 arm_After.L2 v8 x1 x2 x3)
 (bindO (fBin .eql x2 (.int .i64 3)) fun v9 =>
 fCond v9
 (arm_After.L2 x0 (.int .i64 0) x2 x3)
 (bindO (fBin .eql x2 (.int .i64 4)) fun v10 =>
 fCond v10
 (bindO (fBin .add x1 (.int .i64 1)) fun v11 =>
 arm_After.L2 x0 v11 x2 x3)
 (bindO (fBin .eql x2 (.int .i64 5)) fun v12 =>
 fCond v12
 (fCond v12
 (bindO (fBin .sub x1 (.int .i64 1)) fun v13 =>
 arm_After.L2 x0 v13 x2 x3)
 (arm_After.L2 x0 x1 x2 x3))
 (bindO (fBin .eql x2 (.int .i64 6)) fun v14 =>
 fCond v14
 (bindO (fBin .sub x1 (.int .i64 1)) fun v15 =>
 arm_After.L2 x0 v15 x2 x3)
 (arm_After.L2 x0 x1 x2 x3))))))):=(jden_eq ..).trans (by kernel_rfl)
theorem arm_After.L2_eq : arm_After.L2 x0 x1 x2 x3 = (
 arm_After.L1 x0 x1 x2 x3):=(jden_eq ..).trans (by kernel_rfl)
theorem arm_After.L1_eq : arm_After.L1 x0 x1 x2 x3 = (
 bindO (arm_stands x0 x1) fun v5 =>
 bindO (fUn .not v5) fun v6 =>
 fCond v6
 (some (.tup [.int .i64 0,.int .i64 0,.int .i64 81]))
 (some (.tup [x0,x1,.int .i64 0]))):=(jden_eq ..).trans (by kernel_rfl)
noncomputable def arm_Named.L0 : R:=jden E 27 [] [4,1,0,1] (mkF 49 [(0,.f x0),(2,.ptr 0 0 0),(9,.ref 1),(10,.f x1),(11,.f x2)]) [.box [.f x3,.f x4],.own 1 r5]
noncomputable def arm_Named.L1 : R:=jden E 27 [] [4,1,0,1,1] (mkF 49 [(0,.f x0),(2,.ptr 0 0 0),(6,.f x1)]) [.box [.f x2,.f x3],.own 1 r4]
theorem arm_Named.eq : arm_Named x0 = (
 arm_Named.L0 x0 (.int .i64 ((7 : Nat) : Int)) (.int .i64 0) (.int .i64 0) (.int .i64 0) [[.str [114,101,115,116]],[.str [102,111,114,116,104]],[.str [98,97,99,107]],[.str [114,105,115,101]],[.str [117,112]],[.str [100,111,119,110]],[.str [115,105,110,107]]]):=(den_eq ..).trans (by kernel_rfl)
theorem arm_Named.L0_eq : arm_Named.L0 x0 x1 x2 x3 x4 r5 = (
 bindO (fBin .lss x2 x1) fun v7 =>
 fCond v7
 (bindO (rIdx r5 x2) fun j8 =>
 bindO (rGet r5 j8 0) fun v9 =>
 bindO (fBin .eql x0 v9) fun v10 =>
 fCond v10
 (some (.tup [.agg [x2,.int .i64 0],.int .i64 0]))
 (bindO (fBin .add x2 (.int .i64 1)) fun v11 =>
 arm_Named.L0 x0 x1 v11 x3 x4 r5))
 (arm_Named.L1 x0 (.int .i64 9) x3 x4 r5)):=(jden_eq ..).trans (by kernel_rfl)
theorem arm_Named.L1_eq : arm_Named.L1 x0 x1 x2 x3 r4 = (
 bindO (fBin .leq x1 (.int .i64 25)) fun v6 =>
 fCond v6
 (bindO (cells_Word x1) fun v7 =>
 gB (fIsTup 2 v7) <|
 bindO (fUn .not (fTup v7 1)) fun v8 =>
 fCond v8
 (bindO (fBin .add x1 (.int .i64 1)) fun v9 =>
 arm_Named.L1 x0 v9 x2 x3 r4)
 (bindO (strconv_Itoa x1) fun v10 =>
 bindO (fBin .add (.str [112,117,116]) v10) fun v11 =>
 bindO (fBin .eql x0 v11) fun v12 =>
 fCond v12
 (some (.tup [.agg [.int .i64 7,x1],.int .i64 0]))
 (bindO (strconv_Itoa x1) fun v13 =>
 bindO (fBin .add (.str [101,114,97,115,101]) v13) fun v14 =>
 bindO (fBin .eql x0 v14) fun v15 =>
 fCond v15
 (some (.tup [.agg [.int .i64 8,x1],.int .i64 0]))
 (bindO (fBin .add x1 (.int .i64 1)) fun v16 =>
 arm_Named.L1 x0 v16 x2 x3 r4))))
 (some (.tup [.agg [.int .i64 0,.int .i64 0],.int .i64 80]))):=(jden_eq ..).trans (by kernel_rfl)
noncomputable def ref08_Named.L0 : R:=jden E 28 [] [4,1,0,1,1] (mkF 49 [(0,.f x0),(2,.ptr 0 0 0),(4,.ref 1),(5,.f x1)]) [.box [.f x2,.f x3],.own 1 r4]
noncomputable def ref08_Named.L1 : R:=jden E 28 [] [4,1,0,1,1,1] (mkF 49 [(0,.f x0),(2,.ptr 0 0 0),(6,.f x1)]) [.box [.f x2,.f x3],.own 1 r4]
noncomputable def ref08_Named.L2 : R:=jden E 28 [] [4,0,1,5,4,1,0,1,1,1] (mkF 49 [(0,.f x0),(2,.ptr 0 0 0),(6,.f x1)]) [.box [.f x2,.f x3],.own 1 r4]
theorem ref08_Named.eq : ref08_Named x0 = (
 ref08_Named.L0 x0 (.int .i64 0) (.int .i64 0) (.int .i64 0) [[.str [114,101,115,116]],[.str [102,111,114,116,104]],[.str [98,97,99,107]],[.str [114,105,115,101]],[.str [117,112]],[.str [100,111,119,110]],[.str [115,105,110,107]]]):=(den_eq ..).trans (by kernel_rfl)
theorem ref08_Named.L0_eq : ref08_Named.L0 x0 x1 x2 x3 r4 = (
 bindO (fBin .lss x1 (.int .i64 ((r4.length : Nat) : Int))) fun v6 =>
 fCond v6
 (bindO (rIdx r4 x1) fun j7 =>
 bindO (rGet r4 j7 0) fun v8 =>
 bindO (fBin .eql v8 x0) fun v9 =>
 fCond v9
 (some (.tup [.agg [x1,.int .i64 0],.int .i64 0]))
 (bindO (fBin .add x1 (.int .i64 1)) fun v10 =>
 ref08_Named.L0 x0 v10 x2 x3 r4))
 (ref08_Named.L1 x0 (.int .i64 9) x2 x3 r4)):=(jden_eq ..).trans (by kernel_rfl)
theorem ref08_Named.L1_eq : ref08_Named.L1 x0 x1 x2 x3 r4 = (
 bindO (fBin .leq x1 (.int .i64 25)) fun v6 =>
 fCond v6
 (bindO (ref08_Nine x1) fun v7 =>
 fCond v7
 (bindO (ref01_Digits x1) fun v8 =>
 bindO (fBin .add (.str [112,117,116]) v8) fun v9 =>
 bindO (fBin .eql x0 v9) fun v10 =>
 fCond v10
 (some (.tup [.agg [.int .i64 7,x1],.int .i64 0]))
 (ref08_Named.L2 x0 x1 x2 x3 r4))
 (ref08_Named.L2 x0 x1 x2 x3 r4))
 (some (.tup [.agg [.int .i64 0,.int .i64 0],.int .i64 80]))):=(jden_eq ..).trans (by kernel_rfl)
theorem ref08_Named.L2_eq : ref08_Named.L2 x0 x1 x2 x3 r4 = (
 bindO (ref08_Nine x1) fun v6 =>
 fCond v6
 (bindO (ref01_Digits x1) fun v7 =>
 bindO (fBin .add (.str [101,114,97,115,101]) v7) fun v8 =>
 bindO (fBin .eql x0 v8) fun v9 =>
 fCond v9
 (some (.tup [.agg [.int .i64 8,x1],.int .i64 0]))
 (bindO (fBin .add x1 (.int .i64 1)) fun v10 =>
 ref08_Named.L1 x0 v10 x2 x3 r4))
 (bindO (fBin .add x1 (.int .i64 1)) fun v11 =>
 ref08_Named.L1 x0 v11 x2 x3 r4)):=(jden_eq ..).trans (by kernel_rfl)
theorem law08_ArmNamed.eq : law08_ArmNamed x0 = (
 bindO (arm_Named x0) fun v1 =>
 gB (fIsTup 2 v1) <|
 gB (fIsAgg 2 (fTup v1 0)) <|
 bindO (ref08_Named x0) fun v2 =>
 gB (fIsTup 2 v2) <|
 gB (fIsAgg 2 (fTup v2 0)) <|
 bindO (fAggBin [.int,.int] .eql [(fCell (fTup v1 0) 0),(fCell (fTup v1 0) 1)] [(fCell (fTup v2 0) 0),(fCell (fTup v2 0) 1)]) fun v3 =>
 fCond v3
 (bindO (fBin .eql (fTup v1 1) (fTup v2 1)) fun v4 =>
 fCond v4
 (bindO law08_ready fun v5 =>
 some v5)
 (some (.bool false)))
 (some (.bool false))):=(den_eq ..).trans (by kernel_rfl)
end Go.Proofs.YtpffkpaiihcffaaGreatDoor
