/- The code of the functions, as the abstract machine runs it. -/
import Derived.Test.YtpffkpaiihcffaaGreatDoorEnv
import Derived.KernelRfl
set_option linter.unusedVariables false
namespace Go.Proofs.YtpffkpaiihcffaaGreatDoor
open Go Go.Proofs.YtpffkpaiihcffaaGreatDoor.VM
variable (x0 x1 : FV) (r2 : List (List FV)) (x2 : FV) (r3 : List (List FV)) (x3 : FV) (es4 : List (FV × FV)) (r4 : List (List FV)) (x4 : FV) (r5 : List (List FV)) (x5 : FV) (r6 : List (List FV)) (x6 : FV) (r7 : List (List FV)) (x7 : FV) (r8 : List (List FV)) (x8 : FV) (r9 : List (List FV)) (x9 : FV) (r10 : List (List FV)) (x10 x11 x12 x13 x14 x15 x16 x17 x18 x19 : FV)
theorem ref08_stands.eq : ref08_stands x0 x1 = (
 bindO (fBin .geq x0 (.int .i64 2)) fun v1 =>
 fCond v1
 (bindO (fBin .leq x0 (.int .i64 60)) fun v2 =>
 fCond v2
 (bindO (fBin .geq x1 (.int .i64 (-1))) fun v3 =>
 fCond v3
 (bindO (fBin .leq x1 (.int .i64 60)) fun v4 =>
 some v4)
 (some (.bool false)))
 (some (.bool false)))
 (some (.bool false))):=(den_eq ..).trans (by kernel_rfl)
noncomputable def ref01_Check.L0 : R:=jden E 59 [] [1] (mkF 74 [(1,.ptr 0 0 0)]) [.box [.f x0,.f x1]]
noncomputable def ref01_Check.L1 : R:=jden E 59 [] [4,1,0,1,1,1,1] (mkF 74 [(1,.ptr 0 0 0),(3,.f x0)]) [.box [.f x1,.f x2]]
theorem ref01_Check.eq : ref01_Check x0 = (
 gB (fIsAgg 2 x0) <|
 bindO (fBin .lss (fCell x0 0) (.int .i64 0)) fun v1 =>
 fCond v1
 (some (.int .i64 10))
 (bindO (fBin .gtr (fCell x0 0) (.int .i64 3)) fun v2 =>
 fCond v2
 (some (.int .i64 10))
 (ref01_Check.L0 (fCell x0 0) (fCell x0 1)))):=(den_eq ..).trans (by kernel_rfl)
theorem ref01_Check.L0_eq : ref01_Check.L0 x0 x1 = (
 bindO (fBin .neq x0 (.int .i64 3)) fun v3 =>
 fCond v3
 (some (.int .i64 0))
 (bindO (fLen x1) fun v4 =>
 bindO (fBin .gtr v4 (.int .i64 4096)) fun v5 =>
 fCond v5
 (some (.int .i64 10))
 (ref01_Check.L1 (.int .i64 0) x0 x1))):=(jden_eq ..).trans (by kernel_rfl)
theorem ref01_near.eq : ref01_near x0 x1 = (
 bindO (fBin .geq x0 (.int .i64 (-1073741824))) fun v1 =>
 fCond v1
 (bindO (fBin .leq x0 (.int .i64 1073741824)) fun v2 =>
 fCond v2
 (bindO (fBin .geq x1 (.int .i64 (-1073741824))) fun v3 =>
 fCond v3
 (bindO (fBin .leq x1 (.int .i64 1073741824)) fun v4 =>
 some v4)
 (some (.bool false)))
 (some (.bool false)))
 (some (.bool false))):=(den_eq ..).trans (by kernel_rfl)
theorem ref01_States.eq : ref01_States x0 = (
 gB (fIsAgg 2 x0) <|
 bindO (ref01_Check (.agg [(fCell x0 0),(fCell x0 1)])) fun v1 =>
 bindO (fBin .neq v1 (.int .i64 0)) fun v2 =>
 fCond v2
 (some (.int .i64 0))
 (bindO (fBin .eql (fCell x0 0) (.int .i64 0)) fun v3 =>
 fCond v3
 (some (.int .i64 29))
 (bindO (fBin .eql (fCell x0 0) (.int .i64 1)) fun v4 =>
 fCond v4
 (some (.int .i64 32))
 (bindO (fBin .eql (fCell x0 0) (.int .i64 2)) fun v5 =>
 fCond v5
 (some (.int .i64 8388608))
 (some (.int .i64 256)))))):=(den_eq ..).trans (by kernel_rfl)
theorem ref01_isState.eq : ref01_isState x0 x1 = (
 gB (fIsAgg 2 x0) <|
 bindO (fBin .eql (fCell x0 0) (.int .i64 2)) fun v1 =>
 fCond v1
 (bindO (ref01_YardOf x1) fun v2 =>
 gB (fIsTup 2 v2) <|
 gB (fIsAgg 10 (fTup v2 0)) <|
 bindO (fBin .eql (fTup v2 1) (.int .i64 0)) fun v3 =>
 some v3)
 (bindO (fBin .geq x1 (.int .i64 0)) fun v4 =>
 fCond v4
 (bindO (ref01_States (.agg [(fCell x0 0),(fCell x0 1)])) fun v5 =>
 bindO (fBin .lss x1 v5) fun v6 =>
 some v6)
 (some (.bool false)))):=(den_eq ..).trans (by kernel_rfl)
theorem ref01_behind.eq : ref01_behind x0 x1 = (
 gB (fIsAgg 3 x0) <|
 gB (fIsAgg 3 x1) <|
 bindO (fBin .gtr (fCell x0 1) (fCell x1 1)) fun v1 =>
 fCond v1
 (some (.bool true))
 (bindO (fBin .eql (fCell x0 1) (fCell x1 1)) fun v2 =>
 fCond v2
 (bindO (fBin .gtr (fCell x0 0) (fCell x1 0)) fun v3 =>
 some v3)
 (some (.bool false)))):=(den_eq ..).trans (by kernel_rfl)
noncomputable def ref01_sorted.L0 : R:=jden E 62 [] [4,0,1,1,1,1,1,1,1] (mkF 78 [(3,.f x0),(4,.f x1),(5,.ref 1),(6,.f x2),(7,.f x3)]) [.dead,.own 3 r4]
noncomputable def ref01_sorted.L1 : R:=jden E 62 [] [5,4,0,1,1,1,1,1,1,1] (mkF 78 [(3,.f x0),(4,.f x1),(5,.ref 1),(6,.f x2),(7,.f x3)]) [.dead,.own 3 r4]
theorem ref01_sorted.eq : ref01_sorted x0 = (
 bindO (fLen x0) fun v1 =>
 bindO (fBin .lss v1 (.int .i64 2)) fun v2 =>
 fCond v2
 (bindO (asRows x0) fun r3 =>
 gB (rowsSz 3 r3) <|
 gB (decide ((0 + r3.length) * 24 ≤ room)) <|
 some (.arr ([] ++ r3)))
 (bindO (fLen x0) fun v4 =>
 bindO (fBin .quo v4 (.int .i64 2)) fun v5 =>
 bindO (fCut 3 x0 none (some v5)) fun v6 =>
 bindO (ref01_sorted v6) fun v7 =>
 bindO (fLen x0) fun v8 =>
 bindO (fBin .quo v8 (.int .i64 2)) fun v9 =>
 bindO (fCut 3 x0 (some v9) none) fun v10 =>
 bindO (ref01_sorted v10) fun v11 =>
 ref01_sorted.L0 v7 v11 (.int .i64 0) (.int .i64 0) [])):=(den_eq ..).trans (by kernel_rfl)
theorem ref01_sorted.L0_eq : ref01_sorted.L0 x0 x1 x2 x3 r4 = (
 bindO (fLen x0) fun v6 =>
 bindO (fBin .lss x2 v6) fun v7 =>
 fCond v7
 (ref01_sorted.L1 x0 x1 x2 x3 r4)
 (bindO (fLen x1) fun v8 =>
 bindO (fBin .lss x3 v8) fun v9 =>
 fCond v9
 (ref01_sorted.L1 x0 x1 x2 x3 r4)
 (some (.arr r4)))):=(jden_eq ..).trans (by kernel_rfl)
theorem ref01_sorted.L1_eq : ref01_sorted.L1 x0 x1 x2 x3 r4 = (
 bindO (fLen x1) fun v6 =>
 bindO (fBin .eql x3 v6) fun v7 =>
 fCond v7
 (bindO (fIdxC 3 x0 x2) fun c8 =>
 bindO (c8[0]?) fun v9 =>
 bindO (c8[1]?) fun v10 =>
 bindO (c8[2]?) fun v11 =>
 gB (decide ((r4.length + 1) * 24 ≤ room)) <|
 bindO (fBin .add x2 (.int .i64 1)) fun v12 =>
 ref01_sorted.L0 x0 x1 v12 x3 (r4 ++ ([[v9,v10,v11]] : List (List FV))))
 (bindO (fLen x0) fun v13 =>
 bindO (fBin .lss x2 v13) fun v14 =>
 fCond v14
 (bindO (fIdxC 3 x0 x2) fun c15 =>
 bindO (c15[0]?) fun v16 =>
 bindO (c15[1]?) fun v17 =>
 bindO (c15[2]?) fun v18 =>
 bindO (fIdxC 3 x1 x3) fun c19 =>
 bindO (c19[0]?) fun v20 =>
 bindO (c19[1]?) fun v21 =>
 bindO (c19[2]?) fun v22 =>
 bindO (ref01_behind (.agg [v16,v17,v18]) (.agg [v20,v21,v22])) fun v23 =>
 bindO (fUn .not v23) fun v24 =>
 fCond v24
 (bindO (fIdxC 3 x0 x2) fun c25 =>
 bindO (c25[0]?) fun v26 =>
 bindO (c25[1]?) fun v27 =>
 bindO (c25[2]?) fun v28 =>
 gB (decide ((r4.length + 1) * 24 ≤ room)) <|
 bindO (fBin .add x2 (.int .i64 1)) fun v29 =>
 ref01_sorted.L0 x0 x1 v29 x3 (r4 ++ ([[v26,v27,v28]] : List (List FV))))
 (bindO (fIdxC 3 x1 x3) fun c30 =>
 bindO (c30[0]?) fun v31 =>
 bindO (c30[1]?) fun v32 =>
 bindO (c30[2]?) fun v33 =>
 gB (decide ((r4.length + 1) * 24 ≤ room)) <|
 bindO (fBin .add x3 (.int .i64 1)) fun v34 =>
 ref01_sorted.L0 x0 x1 x2 v34 (r4 ++ ([[v31,v32,v33]] : List (List FV)))))
 (bindO (fIdxC 3 x1 x3) fun c35 =>
 bindO (c35[0]?) fun v36 =>
 bindO (c35[1]?) fun v37 =>
 bindO (c35[2]?) fun v38 =>
 gB (decide ((r4.length + 1) * 24 ≤ room)) <|
 bindO (fBin .add x3 (.int .i64 1)) fun v39 =>
 ref01_sorted.L0 x0 x1 x2 v39 (r4 ++ ([[v36,v37,v38]] : List (List FV)))))):=(jden_eq ..).trans (by kernel_rfl)
noncomputable def ref01_Canon.L0 : R:=jden E 32 [(0,0,3)] [4,1,0,1,1] (mkF 102 [(1,.f x0),(2,.ptr 0 0 0),(6,.f x1)]) [.box [.f x2,.f x3]]
noncomputable def ref01_Canon.L1 : R:=jden E 32 [(0,0,3)] [4,1,0,1,1,1,1,1] (mkF 102 [(7,.f x0),(8,.ref 2),(9,.f x1)]) [.box [.f x2,.f x3],.dead,.own 3 r4]
theorem ref01_Canon.eq : ref01_Canon x0 x1 = (
 gB (fIsAgg 2 x0) <|
 bindO (ref01_Check (.agg [(fCell x0 0),(fCell x0 1)])) fun v1 =>
 bindO (fBin .neq v1 (.int .i64 0)) fun v2 =>
 fCond v2
 (some (.tup [.arr [],.int .i64 10]))
 (ref01_Canon.L0 x1 (.int .i64 0) (fCell x0 0) (fCell x0 1))):=(den_eq ..).trans (by kernel_rfl)
theorem ref01_Canon.L0_eq : ref01_Canon.L0 x0 x1 x2 x3 = (
 bindO (fLen x0) fun v5 =>
 bindO (fBin .lss x1 v5) fun v6 =>
 fCond v6
 (bindO (fIdxC 3 x0 x1) fun c7 =>
 bindO (c7[0]?) fun v8 =>
 bindO (fIdxC 3 x0 x1) fun c9 =>
 bindO (c9[1]?) fun v10 =>
 bindO (ref01_near v8 v10) fun v11 =>
 bindO (fUn .not v11) fun v12 =>
 fCond v12
 (some (.tup [.arr [],.int .i64 13]))
 (bindO (fIdxC 3 x0 x1) fun c13 =>
 bindO (c13[2]?) fun v14 =>
 bindO (ref01_isState (.agg [x2,x3]) v14) fun v15 =>
 bindO (fUn .not v15) fun v16 =>
 fCond v16
 (some (.tup [.arr [],.int .i64 11]))
 (bindO (fBin .add x1 (.int .i64 1)) fun v17 =>
 ref01_Canon.L0 x0 v17 x2 x3)))
 (bindO (ref01_sorted x0) fun v18 =>
 ref01_Canon.L1 v18 (.int .i64 0) x2 x3 [])):=(jden_eq ..).trans (by kernel_rfl)
theorem ref01_Canon.L1_eq : ref01_Canon.L1 x0 x1 x2 x3 r4 = (
 bindO (fLen x0) fun v6 =>
 bindO (fBin .lss x1 v6) fun v7 =>
 fCond v7
 (bindO (fBin .add x1 (.int .i64 1)) fun v8 =>
 bindO (fLen x0) fun v9 =>
 bindO (fBin .eql v8 v9) fun v10 =>
 fCond v10
 (bindO (fIdxC 3 x0 x1) fun c11 =>
 bindO (c11[2]?) fun v12 =>
 bindO (fBin .neq v12 (.int .i64 0)) fun v13 =>
 fCond v13
 (bindO (fIdxC 3 x0 x1) fun c14 =>
 bindO (c14[0]?) fun v15 =>
 bindO (c14[1]?) fun v16 =>
 bindO (c14[2]?) fun v17 =>
 gB (decide ((r4.length + 1) * 24 ≤ room)) <|
 bindO (fBin .add x1 (.int .i64 1)) fun v18 =>
 ref01_Canon.L1 x0 v18 x2 x3 (r4 ++ ([[v15,v16,v17]] : List (List FV))))
 (bindO (fBin .add x1 (.int .i64 1)) fun v19 =>
 ref01_Canon.L1 x0 v19 x2 x3 r4))
 (bindO (fBin .add x1 (.int .i64 1)) fun v20 =>
 bindO (fIdxC 3 x0 v20) fun c21 =>
 bindO (c21[0]?) fun v22 =>
 bindO (fIdxC 3 x0 x1) fun c23 =>
 bindO (c23[0]?) fun v24 =>
 bindO (fBin .neq v22 v24) fun v25 =>
 fCond v25
 (bindO (fIdxC 3 x0 x1) fun c26 =>
 bindO (c26[2]?) fun v27 =>
 bindO (fBin .neq v27 (.int .i64 0)) fun v28 =>
 fCond v28
 (bindO (fIdxC 3 x0 x1) fun c29 =>
 bindO (c29[0]?) fun v30 =>
 bindO (c29[1]?) fun v31 =>
 bindO (c29[2]?) fun v32 =>
 gB (decide ((r4.length + 1) * 24 ≤ room)) <|
 bindO (fBin .add x1 (.int .i64 1)) fun v33 =>
 ref01_Canon.L1 x0 v33 x2 x3 (r4 ++ ([[v30,v31,v32]] : List (List FV))))
 (bindO (fBin .add x1 (.int .i64 1)) fun v34 =>
 ref01_Canon.L1 x0 v34 x2 x3 r4))
 (bindO (fBin .add x1 (.int .i64 1)) fun v35 =>
 bindO (fIdxC 3 x0 v35) fun c36 =>
 bindO (c36[1]?) fun v37 =>
 bindO (fIdxC 3 x0 x1) fun c38 =>
 bindO (c38[1]?) fun v39 =>
 bindO (fBin .neq v37 v39) fun v40 =>
 fCond v40
 (bindO (fIdxC 3 x0 x1) fun c41 =>
 bindO (c41[2]?) fun v42 =>
 bindO (fBin .neq v42 (.int .i64 0)) fun v43 =>
 fCond v43
 (bindO (fIdxC 3 x0 x1) fun c44 =>
 bindO (c44[0]?) fun v45 =>
 bindO (c44[1]?) fun v46 =>
 bindO (c44[2]?) fun v47 =>
 gB (decide ((r4.length + 1) * 24 ≤ room)) <|
 bindO (fBin .add x1 (.int .i64 1)) fun v48 =>
 ref01_Canon.L1 x0 v48 x2 x3 (r4 ++ ([[v45,v46,v47]] : List (List FV))))
 (bindO (fBin .add x1 (.int .i64 1)) fun v49 =>
 ref01_Canon.L1 x0 v49 x2 x3 r4))
 (bindO (fBin .add x1 (.int .i64 1)) fun v50 =>
 ref01_Canon.L1 x0 v50 x2 x3 r4))))
 (bindO (fBin .gtr (.int .i64 ((r4.length : Nat) : Int)) (.int .i64 65536)) fun v51 =>
 fCond v51
 (some (.tup [.arr [],.int .i64 14]))
 (some (.tup [.arr r4,.int .i64 0])))):=(jden_eq ..).trans (by kernel_rfl)
noncomputable def ref08_Arm.L0 : R:=jden E 10 [] [4,1,0,1,1,1,1,1] (mkF 64 [(0,.f x0),(1,.f x1),(6,.ref 1),(7,.f x2),(8,.f x3),(9,.f x4)]) [.dead,.own 3 r5]
noncomputable def ref08_Arm.L1 : R:=jden E 10 [] [1,1,1,1,1,1] (mkF 64 [(0,.f x0),(1,.f x1),(6,.ref 2),(8,.f x2)]) [.dead,.dead,.own 3 r3]
noncomputable def ref08_Arm.L2 : R:=jden E 10 [] [4,1,0,1,1,1,1,1,1,1] (mkF 64 [(0,.f x0),(1,.f x1),(6,.ref 3),(8,.f x2),(10,.f x3)]) [.dead,.dead,.dead,.own 3 r4]
theorem ref08_Arm.eq : ref08_Arm x0 x1 = (
 bindO (ref08_stands x0 x1) fun v1 =>
 bindO (fUn .not v1) fun v2 =>
 fCond v2
 (some (.tup [.nilS,.int .i64 81]))
 (ref08_Arm.L0 x0 x1 (.int .i64 9) (.int .i64 10) (.int .i64 0) [])):=(den_eq ..).trans (by kernel_rfl)
theorem ref08_Arm.L0_eq : ref08_Arm.L0 x0 x1 x2 x3 x4 r5 = (
 bindO (fBin .leq x4 x0) fun v7 =>
 fCond v7
 (gB (decide ((r5.length + 2) * 24 ≤ room)) <|
 bindO (fBin .add x4 (.int .i64 1)) fun v8 =>
 ref08_Arm.L0 x0 x1 x2 x3 v8 (r5 ++ ([[x4,.int .i64 0,x2],[x4,.int .i64 1,.int .i64 17]] : List (List FV))))
 (bindO (fBin .geq x1 (.int .i64 0)) fun v9 =>
 fCond v9
 (bindO (fBin .add x0 (.int .i64 1)) fun v10 =>
 bindO (fBin .add x0 (.int .i64 2)) fun v11 =>
 gB (decide ((r5.length + 2) * 24 ≤ room)) <|
 ref08_Arm.L1 x0 x1 x3 (r5 ++ ([[v10,.int .i64 1,.int .i64 17],[v11,.int .i64 1,.int .i64 18]] : List (List FV))))
 (ref08_Arm.L1 x0 x1 x3 r5))):=(jden_eq ..).trans (by kernel_rfl)
theorem ref08_Arm.L1_eq : ref08_Arm.L1 x0 x1 x2 r3 = (
 ref08_Arm.L2 x0 x1 x2 (.int .i64 0) r3):=(jden_eq ..).trans (by kernel_rfl)
theorem ref08_Arm.L2_eq : ref08_Arm.L2 x0 x1 x2 x3 r4 = (
 bindO (fBin .leq x3 x1) fun v6 =>
 fCond v6
 (bindO (fBin .add x0 (.int .i64 1)) fun v7 =>
 bindO (fUn .neg x3) fun v8 =>
 bindO (fBin .add x0 (.int .i64 2)) fun v9 =>
 bindO (fUn .neg x3) fun v10 =>
 gB (decide ((r4.length + 2) * 24 ≤ room)) <|
 bindO (fBin .add x3 (.int .i64 1)) fun v11 =>
 ref08_Arm.L2 x0 x1 x2 v11 (r4 ++ ([[v7,v8,x2],[v9,v10,.int .i64 18]] : List (List FV))))
 (bindO (ref01_Canon (.agg [.int .i64 0,.nilS]) (.arr r4)) fun v12 =>
 gB (fIsTup 2 v12) <|
 bindO (arrRows (fTup v12 0)) fun r13 =>
 some (.tup [.arr r13,(fTup v12 1)]))):=(jden_eq ..).trans (by kernel_rfl)
theorem arm_stands.eq : arm_stands x0 x1 = (
 bindO (fBin .geq x0 (.int .i64 2)) fun v1 =>
 fCond v1
 (bindO (fBin .leq x0 (.int .i64 60)) fun v2 =>
 fCond v2
 (bindO (fBin .geq x1 (.int .i64 (-1))) fun v3 =>
 fCond v3
 (bindO (fBin .leq x1 (.int .i64 60)) fun v4 =>
 some v4)
 (some (.bool false)))
 (some (.bool false)))
 (some (.bool false))):=(den_eq ..).trans (by kernel_rfl)
theorem arm_space.eq : arm_space = (
 some (.agg [.int .i64 0,.nilS])):=(den_eq ..).trans (by kernel_rfl)
noncomputable def arm_wires.L1 : R:=jden E 37 [(0,0,3)] [4,1,1,2,1,0,1,1,1] (mkF 58 [(0,.f x0),(5,.ref 0),(6,.f x1),(7,.f x2)]) [.own 3 r3]
noncomputable def arm_wires.L0 : R:=jden E 37 [(0,0,3)] [1,1,1] (mkF 58 [(0,.f x0),(5,.ref 0),(6,.f x1)]) [.own 3 r2]
noncomputable def arm_wires.L2 : R:=jden E 37 [(0,0,3)] [4,0,1,5,4,1,1,2,1,0,1,1,1] (mkF 58 [(0,.f x0),(5,.ref 1),(6,.f x1),(7,.f x2)]) [.dead,.own 3 r3]
noncomputable def arm_wires.L3 : R:=jden E 37 [(0,0,3)] [4,1,0,1,1,1,1] (mkF 58 [(0,.f x0),(5,.ref 1),(6,.f x1),(8,.f x2)]) [.dead,.own 3 r3]
noncomputable def arm_wires.L4 : R:=jden E 37 [(0,0,3)] [4,1,0,1,1,1,1,1] (mkF 58 [(5,.ref 2),(6,.f x0),(9,.f x1)]) [.dead,.dead,.own 3 r2]
theorem arm_wires.eq : arm_wires x0 x1 = (
 bindO (fBin .geq x1 (.int .i64 0)) fun v1 =>
 fCond v1
 (bindO (fBin .add x0 (.int .i64 1)) fun v2 =>
 bindO (fUn .neg x1) fun v3 =>
 arm_wires.L1 x0 v2 v3 [])
 (arm_wires.L0 x0 x0 [])):=(den_eq ..).trans (by kernel_rfl)
theorem arm_wires.L1_eq : arm_wires.L1 x0 x1 x2 r3 = (
 bindO (fBin .leq x2 (.int .i64 1)) fun v5 =>
 fCond v5
 (bindO (fBin .leq x2 (.int .i64 0)) fun v6 =>
 fCond v6
 (bindO (fBin .add x0 (.int .i64 1)) fun v7 =>
 gB (decide ((r3.length + 1) * 24 ≤ room)) <|
 arm_wires.L2 x0 x1 x2 (r3 ++ ([[v7,x2,.int .i64 10]] : List (List FV))))
 (arm_wires.L2 x0 x1 x2 r3))
 (arm_wires.L0 x0 x1 r3)):=(jden_eq ..).trans (by kernel_rfl)
theorem arm_wires.L0_eq : arm_wires.L0 x0 x1 r2 = (
 arm_wires.L3 x0 x1 (.int .i64 0) r2):=(jden_eq ..).trans (by kernel_rfl)
theorem arm_wires.L2_eq : arm_wires.L2 x0 x1 x2 r3 = (
 bindO (fBin .add x0 (.int .i64 2)) fun v5 =>
 gB (decide ((r3.length + 1) * 24 ≤ room)) <|
 bindO (fBin .add x2 (.int .i64 1)) fun v6 =>
 arm_wires.L1 x0 x1 v6 (r3 ++ ([[v5,x2,.int .i64 18]] : List (List FV)))):=(jden_eq ..).trans (by kernel_rfl)
theorem arm_wires.L3_eq : arm_wires.L3 x0 x1 x2 r3 = (
 bindO (fBin .leq x2 x0) fun v5 =>
 fCond v5
 (gB (decide ((r3.length + 1) * 24 ≤ room)) <|
 bindO (fBin .add x2 (.int .i64 1)) fun v6 =>
 arm_wires.L3 x0 x1 v6 (r3 ++ ([[x2,.int .i64 0,.int .i64 9]] : List (List FV))))
 (arm_wires.L4 x1 (.int .i64 0) r3)):=(jden_eq ..).trans (by kernel_rfl)
theorem arm_wires.L4_eq : arm_wires.L4 x0 x1 r2 = (
 bindO (fBin .leq x1 x0) fun v4 =>
 fCond v4
 (gB (decide ((r2.length + 1) * 24 ≤ room)) <|
 bindO (fBin .add x1 (.int .i64 1)) fun v5 =>
 arm_wires.L4 x0 v5 (r2 ++ ([[x1,.int .i64 1,.int .i64 17]] : List (List FV))))
 (some (.arr r2))):=(jden_eq ..).trans (by kernel_rfl)
theorem arm_Arm.eq : arm_Arm x0 x1 = (
 bindO (arm_stands x0 x1) fun v1 =>
 bindO (fUn .not v1) fun v2 =>
 fCond v2
 (some (.tup [.arr [],.int .i64 81]))
 (bindO arm_space fun v3 =>
 gB (fIsAgg 2 v3) <|
 bindO (arm_wires x0 x1) fun v4 =>
 bindO (arrRows v4) fun r5 =>
 bindO (cells_Canon (.agg [(fCell v3 0),(fCell v3 1)]) (.arr r5)) fun v6 =>
 gB (fIsTup 2 v6) <|
 bindO (arrRows (fTup v6 0)) fun r7 =>
 some (.tup [.arr r7,(fTup v6 1)]))):=(den_eq ..).trans (by kernel_rfl)
noncomputable def cells_Word.L0 : R:=jden E 52 [] [4,1,0,1] (mkF 18 [(0,.f x0),(6,.agg [.f x1,.f x2,.f x3,.f x4,.f x5,.f x6,.f x7,.f x8,.f x9,.f x10,.f x11,.f x12,.f x13,.f x14,.f x15,.f x16,.f x17,.f x18]),(7,.f x19)]) []
theorem cells_Word.eq : cells_Word x0 = (
 cells_Word.L0 x0 (.str [48,48,48,48]) (.int .i64 9) (.str [48,48,48,49]) (.int .i64 10) (.str [48,48,49]) (.int .i64 11) (.str [48,49,48]) (.int .i64 12) (.str [48,49,49]) (.int .i64 17) (.str [49,48,48]) (.int .i64 18) (.str [49,48,49]) (.int .i64 19) (.str [49,49,48]) (.int .i64 20) (.str [49,49,49]) (.int .i64 25) (.int .i64 0)):=(den_eq ..).trans (by kernel_rfl)
theorem cells_Word.L0_eq : cells_Word.L0 x0 x1 x2 x3 x4 x5 x6 x7 x8 x9 x10 x11 x12 x13 x14 x15 x16 x17 x18 x19 = (
 bindO (fBin .lss x19 (.int .i64 9)) fun v21 =>
 fCond v21
 (bindO (asNat x19) fun j22 =>
 gB (decide (j22 < 9)) <|
 bindO ([(x1 : FV),x2,x3,x4,x5,x6,x7,x8,x9,x10,x11,x12,x13,x14,x15,x16,x17,x18][j22 * 2]?) fun v23 =>
 bindO ([(x1 : FV),x2,x3,x4,x5,x6,x7,x8,x9,x10,x11,x12,x13,x14,x15,x16,x17,x18][j22 * 2 + 1]?) fun v24 =>
 bindO (fBin .eql v24 x0) fun v25 =>
 fCond v25
 (bindO (fBin .add (.str [49]) v23) fun v26 =>
 some (.tup [v26,.bool true]))
 (bindO (fBin .add x19 (.int .i64 1)) fun v27 =>
 cells_Word.L0 x0 x1 x2 x3 x4 x5 x6 x7 x8 x9 x10 x11 x12 x13 x14 x15 x16 x17 x18 v27))
 (some (.tup [.str [],.bool false]))):=(jden_eq ..).trans (by kernel_rfl)
noncomputable def arm_formed.L0 : R:=jden E 38 [] [1] (mkF 33 [(1,.ptr 0 0 0)]) [.box [.f x0,.f x1]]
theorem arm_formed.eq : arm_formed x0 = (
 gB (fIsAgg 2 x0) <|
 bindO (fBin .eql (fCell x0 0) (.int .i64 7)) fun v1 =>
 fCond v1
 (bindO (cells_Word (fCell x0 1)) fun v2 =>
 gB (fIsTup 2 v2) <|
 some (fTup v2 1))
 (bindO (fBin .eql (fCell x0 0) (.int .i64 8)) fun v3 =>
 fCond v3
 (bindO (cells_Word (fCell x0 1)) fun v4 =>
 gB (fIsTup 2 v4) <|
 some (fTup v4 1))
 (arm_formed.L0 (fCell x0 0) (fCell x0 1)))):=(den_eq ..).trans (by kernel_rfl)
theorem arm_formed.L0_eq : arm_formed.L0 x0 x1 = (
 bindO (fBin .geq x0 (.int .i64 1)) fun v3 =>
 fCond v3
 (bindO (fBin .leq x0 (.int .i64 6)) fun v4 =>
 fCond v4
 (bindO (fBin .eql x1 (.int .i64 0)) fun v5 =>
 some v5)
 (some (.bool false)))
 (some (.bool false))):=(jden_eq ..).trans (by kernel_rfl)
noncomputable def arm_After.L0 : R:=jden E 13 [] [1,1] (mkF 69 [(0,.f x0),(1,.f x1),(5,.ptr 0 0 0)]) [.box [.f x2,.f x3]]
noncomputable def arm_After.L2 : R:=jden E 13 [] [1,0,1,1,1] (mkF 69 [(0,.f x0),(1,.f x1)]) [.box [.f x2,.f x3]]
noncomputable def arm_After.L1 : R:=jden E 13 [] [1,1,1] (mkF 69 [(0,.f x0),(1,.f x1)]) [.box [.f x2,.f x3]]
theorem arm_After.eq : arm_After x0 x1 x2 = (
 gB (fIsAgg 2 x2) <|
 bindO (arm_stands x0 x1) fun v1 =>
 bindO (fUn .not v1) fun v2 =>
 fCond v2
 (some (.tup [.int .i64 0,.int .i64 0,.int .i64 81]))
 (bindO (arm_formed (.agg [(fCell x2 0),(fCell x2 1)])) fun v3 =>
 bindO (fUn .not v3) fun v4 =>
 fCond v4
 (some (.tup [.int .i64 0,.int .i64 0,.int .i64 80]))
 (bindO (fBin .lss x1 (.int .i64 0)) fun v5 =>
 bindO (fBin .leq (fCell x2 0) (.int .i64 3)) fun v6 =>
 bindO (fBoolBin .neq v5 v6) fun v7 =>
 fCond v7
 (some (.tup [.int .i64 0,.int .i64 0,.int .i64 80]))
 (bindO (fBin .eql (fCell x2 0) (.int .i64 5)) fun v8 =>
 fCond v8
 (bindO (fBin .lss x1 (.int .i64 1)) fun v9 =>
 fCond v9
 (some (.tup [.int .i64 0,.int .i64 0,.int .i64 80]))
 (bindO (fBin .eql (fCell x2 0) (.int .i64 6)) fun v10 =>
 fCond v10
 (bindO (fBin .neq x1 (.int .i64 0)) fun v11 =>
 fCond v11
 (some (.tup [.int .i64 0,.int .i64 0,.int .i64 80]))
 (arm_After.L0 x0 x1 (fCell x2 0) (fCell x2 1)))
 (arm_After.L0 x0 x1 (fCell x2 0) (fCell x2 1))))
 (bindO (fBin .eql (fCell x2 0) (.int .i64 6)) fun v12 =>
 fCond v12
 (bindO (fBin .neq x1 (.int .i64 0)) fun v13 =>
 fCond v13
 (some (.tup [.int .i64 0,.int .i64 0,.int .i64 80]))
 (arm_After.L0 x0 x1 (fCell x2 0) (fCell x2 1)))
 (arm_After.L0 x0 x1 (fCell x2 0) (fCell x2 1))))))):=(den_eq ..).trans (by kernel_rfl)
theorem arm_After.L0_eq : arm_After.L0 x0 x1 x2 x3 = (
 bindO (fBin .eql x2 (.int .i64 1)) fun v5 =>
 fCond v5
 (bindO (fBin .add x0 (.int .i64 1)) fun v6 =>
 arm_After.L2 v6 x1 x2 x3)
 (bindO (fBin .eql x2 (.int .i64 2)) fun v7 =>
 fCond v7
 (bindO (fBin .sub x0 (.int .i64 1)) fun v8 =>
 arm_After.L2 v8 x1 x2 x3)
 (bindO (fBin .eql x2 (.int .i64 3)) fun v9 =>
 fCond v9
 (arm_After.L2 x0 (.int .i64 0) x2 x3)
 (bindO (fBin .eql x2 (.int .i64 4)) fun v10 =>
 fCond v10
 (bindO (fBin .add x1 (.int .i64 1)) fun v11 =>
 arm_After.L2 x0 v11 x2 x3)
 (bindO (fBin .eql x2 (.int .i64 5)) fun v12 =>
 fCond v12
 (fCond v12
 (bindO (fBin .sub x1 (.int .i64 1)) fun v13 =>
 arm_After.L2 x0 v13 x2 x3)
 (arm_After.L2 x0 x1 x2 x3))
 (bindO (fBin .eql x2 (.int .i64 6)) fun v14 =>
 fCond v14
 (bindO (fBin .sub x1 (.int .i64 1)) fun v15 =>
 arm_After.L2 x0 v15 x2 x3)
 (arm_After.L2 x0 x1 x2 x3))))))):=(jden_eq ..).trans (by kernel_rfl)
theorem arm_After.L2_eq : arm_After.L2 x0 x1 x2 x3 = (
 arm_After.L1 x0 x1 x2 x3):=(jden_eq ..).trans (by kernel_rfl)
theorem arm_After.L1_eq : arm_After.L1 x0 x1 x2 x3 = (
 bindO (arm_stands x0 x1) fun v5 =>
 bindO (fUn .not v5) fun v6 =>
 fCond v6
 (some (.tup [.int .i64 0,.int .i64 0,.int .i64 81]))
 (some (.tup [x0,x1,.int .i64 0]))):=(jden_eq ..).trans (by kernel_rfl)
noncomputable def law08_same.L0 : R:=jden E 14 [] [4,1,0,1,1] (mkF 26 [(0,.f x0),(1,.f x1),(5,.f x2)]) []
theorem law08_same.eq : law08_same x0 x1 = (
 bindO (fLen x0) fun v1 =>
 bindO (fLen x1) fun v2 =>
 bindO (fBin .neq v1 v2) fun v3 =>
 fCond v3
 (some (.bool false))
 (law08_same.L0 x0 x1 (.int .i64 0))):=(den_eq ..).trans (by kernel_rfl)
theorem law08_same.L0_eq : law08_same.L0 x0 x1 x2 = (
 bindO (fLen x0) fun v4 =>
 bindO (fBin .lss x2 v4) fun v5 =>
 fCond v5
 (bindO (fIdxC 3 x0 x2) fun c6 =>
 bindO (c6[0]?) fun v7 =>
 bindO (c6[1]?) fun v8 =>
 bindO (c6[2]?) fun v9 =>
 bindO (fIdxC 3 x1 x2) fun c10 =>
 bindO (c10[0]?) fun v11 =>
 bindO (c10[1]?) fun v12 =>
 bindO (c10[2]?) fun v13 =>
 bindO (fAggBin [.int,.int,.int] .neq [v7,v8,v9] [v11,v12,v13]) fun v14 =>
 fCond v14
 (some (.bool false))
 (bindO (fBin .add x2 (.int .i64 1)) fun v15 =>
 law08_same.L0 x0 x1 v15))
 (some (.bool true))):=(jden_eq ..).trans (by kernel_rfl)
noncomputable def arm_times.L0 : R:=jden E 44 [(0,0,2)] [4,1,0,1,1] (mkF 16 [(0,.f x0),(5,.ref 0),(6,.f x1),(7,.f x2)]) [.own 2 r3]
theorem arm_times.eq : arm_times x0 x1 = (
 arm_times.L0 x0 x1 (.int .i64 0) []):=(den_eq ..).trans (by kernel_rfl)
theorem arm_times.L0_eq : arm_times.L0 x0 x1 x2 r3 = (
 bindO (fBin .lss x2 x1) fun v5 =>
 fCond v5
 (gB (decide ((r3.length + 1) * 16 ≤ room)) <|
 bindO (fBin .add x2 (.int .i64 1)) fun v6 =>
 arm_times.L0 x0 x1 v6 (r3 ++ ([[x0,.int .i64 0]] : List (List FV))))
 (some (.arr r3))):=(jden_eq ..).trans (by kernel_rfl)
noncomputable def arm_Moves.L0 : R:=jden E 18 [(0,0,2)] [4,1,0,1,1,1,1] (mkF 83 [(4,.ptr 0 0 0),(6,.ref 1),(19,.f x0),(20,.f x1),(21,.f x2)]) [.box [.f x3],.own 2 r4]
noncomputable def arm_Moves.L1 : R:=jden E 18 [(0,0,2)] [1,4,0,1,1,5,4,1,0,1,1,1,1] (mkF 83 [(4,.ptr 0 0 0),(6,.ref 2),(8,.f x0),(19,.f x1),(20,.f x2),(21,.f x3)]) [.box [.f x4],.dead,.own 2 r5]
noncomputable def arm_Moves.L2 : R:=jden E 18 [(0,0,2)] [4,1,0,1,1,1,1,1,4,0,1,1,5,4,1,0,1,1,1,1] (mkF 83 [(4,.ptr 0 0 0),(6,.ref 6),(8,.f x0),(9,.f x1),(19,.f x2),(20,.f x3),(21,.f x4)]) [.box [.f x5],.dead,.dead,.dead,.own 2 r6,.dead,.own 2 r7]
noncomputable def arm_Moves.L3 : R:=jden E 18 [(0,0,2)] [4,0,1,5,4,1,0,1,1,1,1,1,4,0,1,1,5,4,1,0,1,1,1,1] (mkF 83 [(4,.ptr 0 0 0),(6,.ref 6),(8,.f x0),(9,.f x1),(19,.f x2),(20,.f x3),(21,.f x4)]) [.box [.f x5],.dead,.dead,.dead,.own 2 r6,.dead,.own 2 r7]
theorem arm_Moves.eq : arm_Moves x0 = (
 bindO (arm_read x0) fun v1 =>
 gB (fIsTup 2 v1) <|
 gB (fIsAgg 1 (fTup v1 0)) <|
 bindO (fBin .neq (fTup v1 1) (.int .i64 0)) fun v2 =>
 fCond v2
 (some (.tup [.arr [],(fTup v1 1)]))
 (bindO (fLen (fCell (fTup v1 0) 0)) fun v3 =>
 arm_Moves.L0 (fCell (fTup v1 0) 0) v3 (.int .i64 0) (fCell (fTup v1 0) 0) [])):=(den_eq ..).trans (by kernel_rfl)
theorem arm_Moves.L0_eq : arm_Moves.L0 x0 x1 x2 x3 r4 = (
 bindO (fBin .lss x2 x1) fun v6 =>
 fCond v6
 (bindO (fIdxC 1 x0 x2) fun c7 =>
 bindO (c7[0]?) fun v8 =>
 bindO (fBin .gtr x2 (.int .i64 0)) fun v9 =>
 fCond v9
 (gB (decide ((r4.length + 1) * 16 ≤ room)) <|
 arm_Moves.L1 v8 x0 x1 x2 x3 (r4 ++ ([[.int .i64 1,.int .i64 0]] : List (List FV))))
 (arm_Moves.L1 v8 x0 x1 x2 x3 r4))
 (bindO (fLen x3) fun v10 =>
 bindO (fBin .sub v10 (.int .i64 1)) fun v11 =>
 bindO (arm_times (.int .i64 2) v11) fun v12 =>
 bindO (arrRows v12) fun r13 =>
 gB (rowsSz 2 r13) <|
 gB (decide ((r4.length + r13.length) * 16 ≤ room)) <|
 some (.tup [.arr (r4 ++ r13),.int .i64 0]))):=(jden_eq ..).trans (by kernel_rfl)
theorem arm_Moves.L1_eq : arm_Moves.L1 x0 x1 x2 x3 x4 r5 = (
 bindO (fLen x0) fun v7 =>
 bindO (fBin .eql v7 (.int .i64 0)) fun v8 =>
 fCond v8
 (bindO (fBin .add x3 (.int .i64 1)) fun v9 =>
 arm_Moves.L0 x1 x2 v9 x4 r5)
 (gB (decide ((r5.length + 1) * 16 ≤ room)) <|
 bindO (fLen x0) fun v10 =>
 bindO (fBin .sub v10 (.int .i64 1)) fun v11 =>
 bindO (arm_times (.int .i64 4) v11) fun v12 =>
 bindO (arrRows v12) fun r13 =>
 gB (rowsSz 2 r13) <|
 gB (decide (((r5 ++ ([[.int .i64 3,.int .i64 0]] : List (List FV))).length + r13.length) * 16 ≤ room)) <|
 bindO (fLen x0) fun v14 =>
 bindO (fBin .sub v14 (.int .i64 1)) fun v15 =>
 arm_Moves.L2 x0 v15 x1 x2 x3 x4 r13 ((r5 ++ ([[.int .i64 3,.int .i64 0]] : List (List FV))) ++ r13))):=(jden_eq ..).trans (by kernel_rfl)
theorem arm_Moves.L2_eq : arm_Moves.L2 x0 x1 x2 x3 x4 x5 r6 r7 = (
 bindO (fBin .geq x1 (.int .i64 0)) fun v9 =>
 fCond v9
 (bindO (fIdxC 1 x0 x1) fun c10 =>
 bindO (c10[0]?) fun v11 =>
 bindO (fBin .neq v11 (.int .i64 0)) fun v12 =>
 fCond v12
 (bindO (fIdxC 1 x0 x1) fun c13 =>
 bindO (c13[0]?) fun v14 =>
 gB (decide ((r7.length + 1) * 16 ≤ room)) <|
 arm_Moves.L3 x0 x1 x2 x3 x4 x5 r6 (r7 ++ ([[.int .i64 7,v14]] : List (List FV))))
 (arm_Moves.L3 x0 x1 x2 x3 x4 x5 r6 r7))
 (gB (decide ((r7.length + 1) * 16 ≤ room)) <|
 bindO (fBin .add x4 (.int .i64 1)) fun v15 =>
 arm_Moves.L0 x2 x3 v15 x5 (r7 ++ ([[.int .i64 6,.int .i64 0]] : List (List FV))))):=(jden_eq ..).trans (by kernel_rfl)
theorem arm_Moves.L3_eq : arm_Moves.L3 x0 x1 x2 x3 x4 x5 r6 r7 = (
 bindO (fBin .gtr x1 (.int .i64 0)) fun v9 =>
 fCond v9
 (gB (decide ((r7.length + 1) * 16 ≤ room)) <|
 bindO (fBin .sub x1 (.int .i64 1)) fun v10 =>
 arm_Moves.L2 x0 v10 x2 x3 x4 x5 r6 (r7 ++ ([[.int .i64 5,.int .i64 0]] : List (List FV))))
 (bindO (fBin .sub x1 (.int .i64 1)) fun v11 =>
 arm_Moves.L2 x0 v11 x2 x3 x4 x5 r6 r7)):=(jden_eq ..).trans (by kernel_rfl)
noncomputable def arm_Wipe.L0 : R:=jden E 19 [(0,0,2)] [4,1,0,1,1,1,1] (mkF 82 [(4,.ptr 0 0 0),(6,.ref 2),(7,.f x0)]) [.box [.f x1],.dead,.own 2 r2]
noncomputable def arm_Wipe.L2 : R:=jden E 19 [(0,0,2)] [4,1,0,1,2,1,1,0,4,0,1,5,4,1,0,1,1,1,1] (mkF 82 [(4,.ptr 0 0 0),(6,.ref 4),(7,.f x0),(8,.f x1),(44,.f x2),(45,.f x3),(46,.f x4)]) [.box [.f x5],.dead,.dead,.dead,.own 2 r6]
noncomputable def arm_Wipe.L1 : R:=jden E 19 [(0,0,2)] [4,0,1,5,4,1,0,1,1,1,1] (mkF 82 [(4,.ptr 0 0 0),(6,.ref 3),(7,.f x0)]) [.box [.f x1],.dead,.dead,.own 2 r2]
noncomputable def arm_Wipe.L3 : R:=jden E 19 [(0,0,2)] [1,4,0,1,1,5,4,1,0,1,2,1,1,0,4,0,1,5,4,1,0,1,1,1,1] (mkF 82 [(4,.ptr 0 0 0),(6,.ref 3),(7,.f x0),(8,.f x1),(10,.f x2),(44,.f x3),(45,.f x4),(46,.f x5)]) [.box [.f x6],.dead,.dead,.own 2 r7]
theorem arm_Wipe.eq : arm_Wipe x0 = (
 bindO (arm_read x0) fun v1 =>
 gB (fIsTup 2 v1) <|
 gB (fIsAgg 1 (fTup v1 0)) <|
 bindO (fBin .neq (fTup v1 1) (.int .i64 0)) fun v2 =>
 fCond v2
 (some (.tup [.arr [],(fTup v1 1)]))
 (bindO (fLen (fCell (fTup v1 0) 0)) fun v3 =>
 bindO (fBin .sub v3 (.int .i64 1)) fun v4 =>
 bindO (arm_times (.int .i64 1) v4) fun v5 =>
 bindO (arrRows v5) fun r6 =>
 bindO (fLen (fCell (fTup v1 0) 0)) fun v7 =>
 bindO (fBin .sub v7 (.int .i64 1)) fun v8 =>
 arm_Wipe.L0 v8 (fCell (fTup v1 0) 0) r6)):=(den_eq ..).trans (by kernel_rfl)
theorem arm_Wipe.L0_eq : arm_Wipe.L0 x0 x1 r2 = (
 bindO (fBin .geq x0 (.int .i64 0)) fun v4 =>
 fCond v4
 (bindO (fIdxC 1 x1 x0) fun c5 =>
 bindO (c5[0]?) fun v6 =>
 bindO (fLen v6) fun v7 =>
 bindO (fBin .gtr v7 (.int .i64 0)) fun v8 =>
 fCond v8
 (gB (decide ((r2.length + 1) * 16 ≤ room)) <|
 bindO (fLen v6) fun v9 =>
 arm_Wipe.L2 x0 v6 v6 v9 (.int .i64 0) x1 (r2 ++ ([[.int .i64 3,.int .i64 0]] : List (List FV))))
 (arm_Wipe.L1 x0 x1 r2))
 (some (.tup [.arr r2,.int .i64 0]))):=(jden_eq ..).trans (by kernel_rfl)
theorem arm_Wipe.L2_eq : arm_Wipe.L2 x0 x1 x2 x3 x4 x5 r6 = (
 bindO (fBin .lss x4 x3) fun v8 =>
 fCond v8
 (bindO (fIdxC 1 x2 x4) fun c9 =>
 bindO (c9[0]?) fun v10 =>
 bindO (fBin .gtr x4 (.int .i64 0)) fun v11 =>
 fCond v11
 (gB (decide ((r6.length + 1) * 16 ≤ room)) <|
 arm_Wipe.L3 x0 x1 v10 x2 x3 x4 x5 (r6 ++ ([[.int .i64 4,.int .i64 0]] : List (List FV))))
 (arm_Wipe.L3 x0 x1 v10 x2 x3 x4 x5 r6))
 (bindO (fLen x1) fun v12 =>
 bindO (fBin .sub v12 (.int .i64 1)) fun v13 =>
 bindO (arm_times (.int .i64 5) v13) fun v14 =>
 bindO (arrRows v14) fun r15 =>
 gB (rowsSz 2 r15) <|
 gB (decide ((r6.length + r15.length) * 16 ≤ room)) <|
 gB (decide (((r6 ++ r15).length + 1) * 16 ≤ room)) <|
 arm_Wipe.L1 x0 x5 ((r6 ++ r15) ++ ([[.int .i64 6,.int .i64 0]] : List (List FV))))):=(jden_eq ..).trans (by kernel_rfl)
theorem arm_Wipe.L1_eq : arm_Wipe.L1 x0 x1 r2 = (
 bindO (fBin .gtr x0 (.int .i64 0)) fun v4 =>
 fCond v4
 (gB (decide ((r2.length + 1) * 16 ≤ room)) <|
 bindO (fBin .sub x0 (.int .i64 1)) fun v5 =>
 arm_Wipe.L0 v5 x1 (r2 ++ ([[.int .i64 2,.int .i64 0]] : List (List FV))))
 (bindO (fBin .sub x0 (.int .i64 1)) fun v6 =>
 arm_Wipe.L0 v6 x1 r2)):=(jden_eq ..).trans (by kernel_rfl)
theorem arm_Wipe.L3_eq : arm_Wipe.L3 x0 x1 x2 x3 x4 x5 x6 r7 = (
 bindO (fBin .neq x2 (.int .i64 0)) fun v9 =>
 fCond v9
 (gB (decide ((r7.length + 1) * 16 ≤ room)) <|
 bindO (fBin .add x5 (.int .i64 1)) fun v10 =>
 arm_Wipe.L2 x0 x1 x3 x4 v10 x6 (r7 ++ ([[.int .i64 8,x2]] : List (List FV))))
 (bindO (fBin .add x5 (.int .i64 1)) fun v11 =>
 arm_Wipe.L2 x0 x1 x3 x4 v11 x6 r7)):=(jden_eq ..).trans (by kernel_rfl)
noncomputable def law08_sameMoves.L0 : R:=jden E 20 [] [4,1,0,1,1] (mkF 26 [(0,.f x0),(1,.f x1),(5,.f x2)]) []
theorem law08_sameMoves.eq : law08_sameMoves x0 x1 = (
 bindO (fLen x0) fun v1 =>
 bindO (fLen x1) fun v2 =>
 bindO (fBin .neq v1 v2) fun v3 =>
 fCond v3
 (some (.bool false))
 (law08_sameMoves.L0 x0 x1 (.int .i64 0))):=(den_eq ..).trans (by kernel_rfl)
theorem law08_sameMoves.L0_eq : law08_sameMoves.L0 x0 x1 x2 = (
 bindO (fLen x0) fun v4 =>
 bindO (fBin .lss x2 v4) fun v5 =>
 fCond v5
 (bindO (fIdxC 2 x0 x2) fun c6 =>
 bindO (c6[0]?) fun v7 =>
 bindO (c6[1]?) fun v8 =>
 bindO (fIdxC 2 x1 x2) fun c9 =>
 bindO (c9[0]?) fun v10 =>
 bindO (c9[1]?) fun v11 =>
 bindO (fAggBin [.int,.int] .neq [v7,v8] [v10,v11]) fun v12 =>
 fCond v12
 (some (.bool false))
 (bindO (fBin .add x2 (.int .i64 1)) fun v13 =>
 law08_sameMoves.L0 x0 x1 v13))
 (some (.bool true))):=(jden_eq ..).trans (by kernel_rfl)
noncomputable def arm_Length.L0 : R:=jden E 25 [] [4,1,0,1,1,1,1] (mkF 48 [(6,.mp 1),(7,.f x0),(21,.ref 0),(22,.f x1),(23,.f x2)]) [.own 2 r3,.map false es4]
noncomputable def arm_Length.L1 : R:=jden E 25 [] [1,4,0,1,1,5,4,1,0,1,1,1,1] (mkF 48 [(6,.mp 1),(7,.f x0),(9,.ptr 2 0 0),(21,.ref 0),(22,.f x1),(23,.f x2)]) [.own 2 r3,.map false es4,.box [.f x5,.f x6]]
theorem arm_Length.eq : arm_Length x0 = (
 bindO (arm_Moves x0) fun v1 =>
 gB (fIsTup 2 v1) <|
 bindO (arrRows (fTup v1 0)) fun r2 =>
 bindO (fBin .neq (fTup v1 1) (.int .i64 0)) fun v3 =>
 fCond v3
 (some (.tup [.int .i64 0,(fTup v1 1)]))
 (arm_Length.L0 (.int .i64 0) (.int .i64 ((r2.length : Nat) : Int)) (.int .i64 0) r2 [])):=(den_eq ..).trans (by kernel_rfl)
theorem arm_Length.L0_eq : arm_Length.L0 x0 x1 x2 r3 es4 = (
 bindO (fBin .lss x2 x1) fun v6 =>
 fCond v6
 (bindO (rIdx r3 x2) fun j7 =>
 bindO (rGet r3 j7 0) fun v8 =>
 bindO (rGet r3 j7 1) fun v9 =>
 bindO (mLook true [.int,.int] es4 (.agg [v8,v9]) (.int .i64 0)) fun v10 =>
 bindO (fBin .eql v10.1 (.int .i64 0)) fun v11 =>
 fCond v11
 (bindO (arm_Pulses (.agg [v8,v9])) fun v12 =>
 gB (fIsTup 2 v12) <|
 gB (fIsAgg 2 (fTup v12 0)) <|
 bindO (fLenT (fCell (fTup v12 0) 0)) fun v13 =>
 gB (keyOk true [.int,.int] (.agg [v8,v9])) <|
 bindO (mPut true [.int,.int] es4 (.agg [v8,v9]) v13) fun es14 =>
 arm_Length.L1 x0 x1 x2 r3 es14 v8 v9)
 (arm_Length.L1 x0 x1 x2 r3 es4 v8 v9))
 (some (.tup [x0,.int .i64 0]))):=(jden_eq ..).trans (by kernel_rfl)
theorem arm_Length.L1_eq : arm_Length.L1 x0 x1 x2 r3 es4 x5 x6 = (
 bindO (mLook true [.int,.int] es4 (.agg [x5,x6]) (.int .i64 0)) fun v8 =>
 bindO (fBin .add x0 v8.1) fun v9 =>
 bindO (fBin .add x2 (.int .i64 1)) fun v10 =>
 arm_Length.L0 v9 x1 v10 r3 es4):=(jden_eq ..).trans (by kernel_rfl)
noncomputable def law08_ArmKeeps.L0 : R:=jden E 7 [] [1] (mkF 146 [(0,.f x0),(1,.f x1),(5,.ptr 0 0 0)]) [.box [.f x2,.f x3]]
noncomputable def law08_ArmKeeps.L1 : R:=jden E 7 [] [4,1,0,1,1,1,1,1,1,1,1,1,1] (mkF 146 [(0,.f x0),(1,.f x1),(5,.ptr 0 0 0),(7,.ref 2),(8,.ref 4),(9,.ref 5),(11,.ref 6),(15,.ref 7),(18,.ref 8),(20,.f x2)]) [.box [.f x3,.f x4],.dead,.own 3 r5,.dead,.own 2 r6,.own 2 r7,.own 2 r8,.own 3 r9,.own 3 r10]
noncomputable def law08_ArmKeeps.L2 : R:=jden E 7 [] [4,1,0,1,1,1,1,1,1,1,1,1,1,1] (mkF 146 [(0,.f x0),(1,.f x1),(5,.ptr 0 0 0),(7,.ref 2),(8,.ref 4),(11,.ref 6),(15,.ref 7),(18,.ref 8),(21,.f x2)]) [.box [.f x3,.f x4],.dead,.own 3 r5,.dead,.own 2 r6,.own 2 r7,.own 2 r8,.own 3 r9,.own 3 r10]
noncomputable def law08_ArmKeeps.L3 : R:=jden E 7 [] [4,1,0,1,1,1,1,1,1,1,1,1,1,1,1] (mkF 146 [(0,.f x0),(1,.f x1),(5,.ptr 0 0 0),(7,.ref 2),(8,.ref 4),(15,.ref 7),(18,.ref 8),(22,.f x2)]) [.box [.f x3,.f x4],.dead,.own 3 r5,.dead,.own 2 r6,.own 2 r7,.own 2 r8,.own 3 r9,.own 3 r10]
noncomputable def law08_ArmKeeps.L4 : R:=jden E 7 [] [4,1,0,1,1,1,1,1,1,1,1,1,1,1,1,1] (mkF 146 [(0,.f x0),(1,.f x1),(5,.ptr 0 0 0),(7,.ref 2),(8,.ref 4),(18,.ref 8),(23,.f x2)]) [.box [.f x3,.f x4],.dead,.own 3 r5,.dead,.own 2 r6,.own 2 r7,.own 2 r8,.own 3 r9,.own 3 r10]
theorem law08_ArmKeeps.eq : law08_ArmKeeps x0 x1 x2 = (
 gB (fIsAgg 2 x2) <|
 bindO (fLen x0) fun v1 =>
 bindO (fBin .gtr v1 (.int .i64 6)) fun v2 =>
 fCond v2
 (bindO law08_awake fun v3 =>
 some v3)
 (bindO (fLen x1) fun v4 =>
 bindO (fBin .gtr v4 (.int .i64 20)) fun v5 =>
 fCond v5
 (bindO law08_awake fun v6 =>
 some v6)
 (law08_ArmKeeps.L0 x0 x1 (fCell x2 0) (fCell x2 1)))):=(den_eq ..).trans (by kernel_rfl)
theorem law08_ArmKeeps.L0_eq : law08_ArmKeeps.L0 x0 x1 x2 x3 = (
 bindO (asRows x0) fun r5 =>
 gB (rowsSz 3 r5) <|
 gB (decide ((0 + r5.length) * 24 ≤ room)) <|
 bindO (asRows x1) fun r6 =>
 gB (rowsSz 2 r6) <|
 gB (decide ((0 + r6.length) * 16 ≤ room)) <|
 bindO (arm_Moves x0) fun v7 =>
 gB (fIsTup 2 v7) <|
 bindO (arrRows (fTup v7 0)) fun r8 =>
 bindO (arm_Wipe x0) fun v9 =>
 gB (fIsTup 2 v9) <|
 bindO (arrRows (fTup v9 0)) fun r10 =>
 bindO (arm_Length x0) fun v11 =>
 gB (fIsTup 2 v11) <|
 bindO (arm_TrainOf x1) fun v12 =>
 gB (fIsTup 2 v12) <|
 gB (fIsAgg 2 (fTup v12 0)) <|
 bindO (arm_World x1 x0) fun v13 =>
 gB (fIsTup 5 v13) <|
 bindO (arrRows (fTup v13 2)) fun r14 =>
 bindO (arm_Arm x2 x3) fun v15 =>
 gB (fIsTup 2 v15) <|
 bindO (arrRows (fTup v15 0)) fun r16 =>
 law08_ArmKeeps.L1 x0 x1 (.int .i64 0) x2 x3 ([] ++ r5) ([] ++ r6) r8 r10 r14 r16):=(jden_eq ..).trans (by kernel_rfl)
theorem law08_ArmKeeps.L1_eq : law08_ArmKeeps.L1 x0 x1 x2 x3 x4 r5 r6 r7 r8 r9 r10 = (
 bindO (fBin .lss x2 (.int .i64 ((r7.length : Nat) : Int))) fun v12 =>
 fCond v12
 (bindO (rIdx r7 x2) fun j13 =>
 bindO (rSet r7 j13 0 [.int .i64 99,.int .i64 0]) fun r14 =>
 bindO (fBin .add x2 (.int .i64 1)) fun v15 =>
 law08_ArmKeeps.L1 x0 x1 v15 x3 x4 r5 r6 r14 r8 r9 r10)
 (law08_ArmKeeps.L2 x0 x1 (.int .i64 0) x3 x4 r5 r6 r7 r8 r9 r10)):=(jden_eq ..).trans (by kernel_rfl)
theorem law08_ArmKeeps.L2_eq : law08_ArmKeeps.L2 x0 x1 x2 x3 x4 r5 r6 r7 r8 r9 r10 = (
 bindO (fBin .lss x2 (.int .i64 ((r8.length : Nat) : Int))) fun v12 =>
 fCond v12
 (bindO (rIdx r8 x2) fun j13 =>
 bindO (rSet r8 j13 0 [.int .i64 99,.int .i64 0]) fun r14 =>
 bindO (fBin .add x2 (.int .i64 1)) fun v15 =>
 law08_ArmKeeps.L2 x0 x1 v15 x3 x4 r5 r6 r7 r14 r9 r10)
 (law08_ArmKeeps.L3 x0 x1 (.int .i64 0) x3 x4 r5 r6 r7 r8 r9 r10)):=(jden_eq ..).trans (by kernel_rfl)
theorem law08_ArmKeeps.L3_eq : law08_ArmKeeps.L3 x0 x1 x2 x3 x4 r5 r6 r7 r8 r9 r10 = (
 bindO (fBin .lss x2 (.int .i64 ((r9.length : Nat) : Int))) fun v12 =>
 fCond v12
 (bindO (rIdx r9 x2) fun j13 =>
 bindO (rSet r9 j13 0 [.int .i64 1,.int .i64 2,.int .i64 3]) fun r14 =>
 bindO (fBin .add x2 (.int .i64 1)) fun v15 =>
 law08_ArmKeeps.L3 x0 x1 v15 x3 x4 r5 r6 r7 r8 r14 r10)
 (law08_ArmKeeps.L4 x0 x1 (.int .i64 0) x3 x4 r5 r6 r7 r8 r9 r10)):=(jden_eq ..).trans (by kernel_rfl)
theorem law08_ArmKeeps.L4_eq : law08_ArmKeeps.L4 x0 x1 x2 x3 x4 r5 r6 r7 r8 r9 r10 = (
 bindO (fBin .lss x2 (.int .i64 ((r10.length : Nat) : Int))) fun v12 =>
 fCond v12
 (bindO (rIdx r10 x2) fun j13 =>
 bindO (rSet r10 j13 0 [.int .i64 1,.int .i64 2,.int .i64 3]) fun r14 =>
 bindO (fBin .add x2 (.int .i64 1)) fun v15 =>
 law08_ArmKeeps.L4 x0 x1 v15 x3 x4 r5 r6 r7 r8 r9 r14)
 (bindO (arm_Arm x3 x4) fun v16 =>
 gB (fIsTup 2 v16) <|
 bindO (arrRows (fTup v16 0)) fun r17 =>
 bindO (ref08_Arm x3 x4) fun v18 =>
 gB (fIsTup 2 v18) <|
 bindO (law08_same x0 (.arr r5)) fun v19 =>
 fCond v19
 (bindO (law08_sameMoves x1 (.arr r6)) fun v20 =>
 fCond v20
 (bindO (law08_same (.arr r17) (fTup v18 0)) fun v21 =>
 fCond v21
 (bindO law08_awake fun v22 =>
 some v22)
 (some (.bool false)))
 (some (.bool false)))
 (some (.bool false)))):=(jden_eq ..).trans (by kernel_rfl)
end Go.Proofs.YtpffkpaiihcffaaGreatDoor
