/- The code of the functions, as the abstract machine runs it. -/
import Derived.Test.YtpffkpaiihcffaaGreatDoorEnv
import Derived.KernelRfl
set_option linter.unusedVariables false
namespace Go.Proofs.YtpffkpaiihcffaaGreatDoor
open Go Go.Proofs.YtpffkpaiihcffaaGreatDoor.VM
variable (x0 x1 x2 x3 : FV) (r4 : List (List FV)) (x4 : FV) (r5 : List (List FV)) (x5 : FV) (r6 : List (List FV)) (x6 : FV) (r7 : List (List FV)) (x7 : FV) (r8 : List (List FV)) (x8 : FV) (r9 : List (List FV)) (x9 : FV) (r10 : List (List FV)) (x10 x11 x12 x13 x14 x15 x16 x17 x18 x19 : FV)
theorem ref08_stands.eq : ref08_stands x0 x1 = (
 bindO (fBin .geq x0 (.int .i64 2)) fun v1 =>
 fCond v1
 (bindO (fBin .leq x0 (.int .i64 60)) fun v2 =>
 fCond v2
 (bindO (fBin .geq x1 (.int .i64 (-1))) fun v3 =>
 fCond v3
 (bindO (fBin .leq x1 (.int .i64 60)) fun v4 =>
 some v4)
 (some (.bool false)))
 (some (.bool false)))
 (some (.bool false))):=(den_eq ..).trans (by kernel_rfl)
noncomputable def ref01_Check.L0 : R:=jden E 59 [] [1] (mkF 74 [(1,.ptr 0 0 0)]) [.box [.f x0,.f x1]]
noncomputable def ref01_Check.L1 : R:=jden E 59 [] [4,1,0,1,1,1,1] (mkF 74 [(1,.ptr 0 0 0),(3,.f x0)]) [.box [.f x1,.f x2]]
theorem ref01_Check.eq : ref01_Check x0 = (
 gB (fIsAgg 2 x0) <|
 bindO (fBin .lss (fCell x0 0) (.int .i64 0)) fun v1 =>
 fCond v1
 (some (.int .i64 10))
 (bindO (fBin .gtr (fCell x0 0) (.int .i64 3)) fun v2 =>
 fCond v2
 (some (.int .i64 10))
 (ref01_Check.L0 (fCell x0 0) (fCell x0 1)))):=(den_eq ..).trans (by kernel_rfl)
theorem ref01_Check.L0_eq : ref01_Check.L0 x0 x1 = (
 bindO (fBin .neq x0 (.int .i64 3)) fun v3 =>
 fCond v3
 (some (.int .i64 0))
 (bindO (fLen x1) fun v4 =>
 bindO (fBin .gtr v4 (.int .i64 4096)) fun v5 =>
 fCond v5
 (some (.int .i64 10))
 (ref01_Check.L1 (.int .i64 0) x0 x1))):=(jden_eq ..).trans (by kernel_rfl)
theorem ref01_near.eq : ref01_near x0 x1 = (
 bindO (fBin .geq x0 (.int .i64 (-1073741824))) fun v1 =>
 fCond v1
 (bindO (fBin .leq x0 (.int .i64 1073741824)) fun v2 =>
 fCond v2
 (bindO (fBin .geq x1 (.int .i64 (-1073741824))) fun v3 =>
 fCond v3
 (bindO (fBin .leq x1 (.int .i64 1073741824)) fun v4 =>
 some v4)
 (some (.bool false)))
 (some (.bool false)))
 (some (.bool false))):=(den_eq ..).trans (by kernel_rfl)
theorem ref01_States.eq : ref01_States x0 = (
 gB (fIsAgg 2 x0) <|
 bindO (ref01_Check (.agg [(fCell x0 0),(fCell x0 1)])) fun v1 =>
 bindO (fBin .neq v1 (.int .i64 0)) fun v2 =>
 fCond v2
 (some (.int .i64 0))
 (bindO (fBin .eql (fCell x0 0) (.int .i64 0)) fun v3 =>
 fCond v3
 (some (.int .i64 29))
 (bindO (fBin .eql (fCell x0 0) (.int .i64 1)) fun v4 =>
 fCond v4
 (some (.int .i64 32))
 (bindO (fBin .eql (fCell x0 0) (.int .i64 2)) fun v5 =>
 fCond v5
 (some (.int .i64 8388608))
 (some (.int .i64 256)))))):=(den_eq ..).trans (by kernel_rfl)
theorem ref01_isState.eq : ref01_isState x0 x1 = (
 gB (fIsAgg 2 x0) <|
 bindO (fBin .eql (fCell x0 0) (.int .i64 2)) fun v1 =>
 fCond v1
 (bindO (ref01_YardOf x1) fun v2 =>
 gB (fIsTup 2 v2) <|
 gB (fIsAgg 10 (fTup v2 0)) <|
 bindO (fBin .eql (fTup v2 1) (.int .i64 0)) fun v3 =>
 some v3)
 (bindO (fBin .geq x1 (.int .i64 0)) fun v4 =>
 fCond v4
 (bindO (ref01_States (.agg [(fCell x0 0),(fCell x0 1)])) fun v5 =>
 bindO (fBin .lss x1 v5) fun v6 =>
 some v6)
 (some (.bool false)))):=(den_eq ..).trans (by kernel_rfl)
theorem ref01_behind.eq : ref01_behind x0 x1 = (
 gB (fIsAgg 3 x0) <|
 gB (fIsAgg 3 x1) <|
 bindO (fBin .gtr (fCell x0 1) (fCell x1 1)) fun v1 =>
 fCond v1
 (some (.bool true))
 (bindO (fBin .eql (fCell x0 1) (fCell x1 1)) fun v2 =>
 fCond v2
 (bindO (fBin .gtr (fCell x0 0) (fCell x1 0)) fun v3 =>
 some v3)
 (some (.bool false)))):=(den_eq ..).trans (by kernel_rfl)
noncomputable def ref01_sorted.L0 : R:=jden E 62 [] [4,0,1,1,1,1,1,1,1] (mkF 78 [(3,.f x0),(4,.f x1),(5,.ref 1),(6,.f x2),(7,.f x3)]) [.dead,.own 3 r4]
noncomputable def ref01_sorted.L1 : R:=jden E 62 [] [5,4,0,1,1,1,1,1,1,1] (mkF 78 [(3,.f x0),(4,.f x1),(5,.ref 1),(6,.f x2),(7,.f x3)]) [.dead,.own 3 r4]
theorem ref01_sorted.eq : ref01_sorted x0 = (
 bindO (fLen x0) fun v1 =>
 bindO (fBin .lss v1 (.int .i64 2)) fun v2 =>
 fCond v2
 (bindO (asRows x0) fun r3 =>
 gB (rowsSz 3 r3) <|
 gB (decide ((0 + r3.length) * 24 ≤ room)) <|
 some (.arr ([] ++ r3)))
 (bindO (fLen x0) fun v4 =>
 bindO (fBin .quo v4 (.int .i64 2)) fun v5 =>
 bindO (fCut 3 x0 none (some v5)) fun v6 =>
 bindO (ref01_sorted v6) fun v7 =>
 bindO (fLen x0) fun v8 =>
 bindO (fBin .quo v8 (.int .i64 2)) fun v9 =>
 bindO (fCut 3 x0 (some v9) none) fun v10 =>
 bindO (ref01_sorted v10) fun v11 =>
 ref01_sorted.L0 v7 v11 (.int .i64 0) (.int .i64 0) [])):=(den_eq ..).trans (by kernel_rfl)
theorem ref01_sorted.L0_eq : ref01_sorted.L0 x0 x1 x2 x3 r4 = (
 bindO (fLen x0) fun v6 =>
 bindO (fBin .lss x2 v6) fun v7 =>
 fCond v7
 (ref01_sorted.L1 x0 x1 x2 x3 r4)
 (bindO (fLen x1) fun v8 =>
 bindO (fBin .lss x3 v8) fun v9 =>
 fCond v9
 (ref01_sorted.L1 x0 x1 x2 x3 r4)
 (some (.arr r4)))):=(jden_eq ..).trans (by kernel_rfl)
theorem ref01_sorted.L1_eq : ref01_sorted.L1 x0 x1 x2 x3 r4 = (
 bindO (fLen x1) fun v6 =>
 bindO (fBin .eql x3 v6) fun v7 =>
 fCond v7
 (bindO (fIdxC 3 x0 x2) fun c8 =>
 bindO (c8[0]?) fun v9 =>
 bindO (c8[1]?) fun v10 =>
 bindO (c8[2]?) fun v11 =>
 gB (decide ((r4.length + 1) * 24 ≤ room)) <|
 bindO (fBin .add x2 (.int .i64 1)) fun v12 =>
 ref01_sorted.L0 x0 x1 v12 x3 (r4 ++ ([[v9,v10,v11]] : List (List FV))))
 (bindO (fLen x0) fun v13 =>
 bindO (fBin .lss x2 v13) fun v14 =>
 fCond v14
 (bindO (fIdxC 3 x0 x2) fun c15 =>
 bindO (c15[0]?) fun v16 =>
 bindO (c15[1]?) fun v17 =>
 bindO (c15[2]?) fun v18 =>
 bindO (fIdxC 3 x1 x3) fun c19 =>
 bindO (c19[0]?) fun v20 =>
 bindO (c19[1]?) fun v21 =>
 bindO (c19[2]?) fun v22 =>
 bindO (ref01_behind (.agg [v16,v17,v18]) (.agg [v20,v21,v22])) fun v23 =>
 bindO (fUn .not v23) fun v24 =>
 fCond v24
 (bindO (fIdxC 3 x0 x2) fun c25 =>
 bindO (c25[0]?) fun v26 =>
 bindO (c25[1]?) fun v27 =>
 bindO (c25[2]?) fun v28 =>
 gB (decide ((r4.length + 1) * 24 ≤ room)) <|
 bindO (fBin .add x2 (.int .i64 1)) fun v29 =>
 ref01_sorted.L0 x0 x1 v29 x3 (r4 ++ ([[v26,v27,v28]] : List (List FV))))
 (bindO (fIdxC 3 x1 x3) fun c30 =>
 bindO (c30[0]?) fun v31 =>
 bindO (c30[1]?) fun v32 =>
 bindO (c30[2]?) fun v33 =>
 gB (decide ((r4.length + 1) * 24 ≤ room)) <|
 bindO (fBin .add x3 (.int .i64 1)) fun v34 =>
 ref01_sorted.L0 x0 x1 x2 v34 (r4 ++ ([[v31,v32,v33]] : List (List FV)))))
 (bindO (fIdxC 3 x1 x3) fun c35 =>
 bindO (c35[0]?) fun v36 =>
 bindO (c35[1]?) fun v37 =>
 bindO (c35[2]?) fun v38 =>
 gB (decide ((r4.length + 1) * 24 ≤ room)) <|
 bindO (fBin .add x3 (.int .i64 1)) fun v39 =>
 ref01_sorted.L0 x0 x1 x2 v39 (r4 ++ ([[v36,v37,v38]] : List (List FV)))))):=(jden_eq ..).trans (by kernel_rfl)
noncomputable def ref01_Canon.L0 : R:=jden E 32 [(0,0,3)] [4,1,0,1,1] (mkF 102 [(1,.f x0),(2,.ptr 0 0 0),(6,.f x1)]) [.box [.f x2,.f x3]]
noncomputable def ref01_Canon.L1 : R:=jden E 32 [(0,0,3)] [4,1,0,1,1,1,1,1] (mkF 102 [(7,.f x0),(8,.ref 2),(9,.f x1)]) [.box [.f x2,.f x3],.dead,.own 3 r4]
theorem ref01_Canon.eq : ref01_Canon x0 x1 = (
 gB (fIsAgg 2 x0) <|
 bindO (ref01_Check (.agg [(fCell x0 0),(fCell x0 1)])) fun v1 =>
 bindO (fBin .neq v1 (.int .i64 0)) fun v2 =>
 fCond v2
 (some (.tup [.arr [],.int .i64 10]))
 (ref01_Canon.L0 x1 (.int .i64 0) (fCell x0 0) (fCell x0 1))):=(den_eq ..).trans (by kernel_rfl)
theorem ref01_Canon.L0_eq : ref01_Canon.L0 x0 x1 x2 x3 = (
 bindO (fLen x0) fun v5 =>
 bindO (fBin .lss x1 v5) fun v6 =>
 fCond v6
 (bindO (fIdxC 3 x0 x1) fun c7 =>
 bindO (c7[0]?) fun v8 =>
 bindO (fIdxC 3 x0 x1) fun c9 =>
 bindO (c9[1]?) fun v10 =>
 bindO (ref01_near v8 v10) fun v11 =>
 bindO (fUn .not v11) fun v12 =>
 fCond v12
 (some (.tup [.arr [],.int .i64 13]))
 (bindO (fIdxC 3 x0 x1) fun c13 =>
 bindO (c13[2]?) fun v14 =>
 bindO (ref01_isState (.agg [x2,x3]) v14) fun v15 =>
 bindO (fUn .not v15) fun v16 =>
 fCond v16
 (some (.tup [.arr [],.int .i64 11]))
 (bindO (fBin .add x1 (.int .i64 1)) fun v17 =>
 ref01_Canon.L0 x0 v17 x2 x3)))
 (bindO (ref01_sorted x0) fun v18 =>
 ref01_Canon.L1 v18 (.int .i64 0) x2 x3 [])):=(jden_eq ..).trans (by kernel_rfl)
theorem ref01_Canon.L1_eq : ref01_Canon.L1 x0 x1 x2 x3 r4 = (
 bindO (fLen x0) fun v6 =>
 bindO (fBin .lss x1 v6) fun v7 =>
 fCond v7
 (bindO (fBin .add x1 (.int .i64 1)) fun v8 =>
 bindO (fLen x0) fun v9 =>
 bindO (fBin .eql v8 v9) fun v10 =>
 fCond v10
 (bindO (fIdxC 3 x0 x1) fun c11 =>
 bindO (c11[2]?) fun v12 =>
 bindO (fBin .neq v12 (.int .i64 0)) fun v13 =>
 fCond v13
 (bindO (fIdxC 3 x0 x1) fun c14 =>
 bindO (c14[0]?) fun v15 =>
 bindO (c14[1]?) fun v16 =>
 bindO (c14[2]?) fun v17 =>
 gB (decide ((r4.length + 1) * 24 ≤ room)) <|
 bindO (fBin .add x1 (.int .i64 1)) fun v18 =>
 ref01_Canon.L1 x0 v18 x2 x3 (r4 ++ ([[v15,v16,v17]] : List (List FV))))
 (bindO (fBin .add x1 (.int .i64 1)) fun v19 =>
 ref01_Canon.L1 x0 v19 x2 x3 r4))
 (bindO (fBin .add x1 (.int .i64 1)) fun v20 =>
 bindO (fIdxC 3 x0 v20) fun c21 =>
 bindO (c21[0]?) fun v22 =>
 bindO (fIdxC 3 x0 x1) fun c23 =>
 bindO (c23[0]?) fun v24 =>
 bindO (fBin .neq v22 v24) fun v25 =>
 fCond v25
 (bindO (fIdxC 3 x0 x1) fun c26 =>
 bindO (c26[2]?) fun v27 =>
 bindO (fBin .neq v27 (.int .i64 0)) fun v28 =>
 fCond v28
 (bindO (fIdxC 3 x0 x1) fun c29 =>
 bindO (c29[0]?) fun v30 =>
 bindO (c29[1]?) fun v31 =>
 bindO (c29[2]?) fun v32 =>
 gB (decide ((r4.length + 1) * 24 ≤ room)) <|
 bindO (fBin .add x1 (.int .i64 1)) fun v33 =>
 ref01_Canon.L1 x0 v33 x2 x3 (r4 ++ ([[v30,v31,v32]] : List (List FV))))
 (bindO (fBin .add x1 (.int .i64 1)) fun v34 =>
 ref01_Canon.L1 x0 v34 x2 x3 r4))
 (bindO (fBin .add x1 (.int .i64 1)) fun v35 =>
 bindO (fIdxC 3 x0 v35) fun c36 =>
 bindO (c36[1]?) fun v37 =>
 bindO (fIdxC 3 x0 x1) fun c38 =>
 bindO (c38[1]?) fun v39 =>
 bindO (fBin .neq v37 v39) fun v40 =>
 fCond v40
 (bindO (fIdxC 3 x0 x1) fun c41 =>
 bindO (c41[2]?) fun v42 =>
 bindO (fBin .neq v42 (.int .i64 0)) fun v43 =>
 fCond v43
 (bindO (fIdxC 3 x0 x1) fun c44 =>
 bindO (c44[0]?) fun v45 =>
 bindO (c44[1]?) fun v46 =>
 bindO (c44[2]?) fun v47 =>
 gB (decide ((r4.length + 1) * 24 ≤ room)) <|
 bindO (fBin .add x1 (.int .i64 1)) fun v48 =>
 ref01_Canon.L1 x0 v48 x2 x3 (r4 ++ ([[v45,v46,v47]] : List (List FV))))
 (bindO (fBin .add x1 (.int .i64 1)) fun v49 =>
 ref01_Canon.L1 x0 v49 x2 x3 r4))
 (bindO (fBin .add x1 (.int .i64 1)) fun v50 =>
 ref01_Canon.L1 x0 v50 x2 x3 r4))))
 (bindO (fBin .gtr (.int .i64 ((r4.length : Nat) : Int)) (.int .i64 65536)) fun v51 =>
 fCond v51
 (some (.tup [.arr [],.int .i64 14]))
 (some (.tup [.arr r4,.int .i64 0])))):=(jden_eq ..).trans (by kernel_rfl)
theorem ref01_Word.eq : ref01_Word x0 = (
 bindO (fBin .eql x0 (.int .i64 9)) fun v1 =>
 fCond v1
 (some (.tup [.str [49,48,48,48,48],.bool true]))
 (bindO (fBin .eql x0 (.int .i64 10)) fun v2 =>
 fCond v2
 (some (.tup [.str [49,48,48,48,49],.bool true]))
 (bindO (fBin .eql x0 (.int .i64 11)) fun v3 =>
 fCond v3
 (some (.tup [.str [49,48,48,49],.bool true]))
 (bindO (fBin .eql x0 (.int .i64 12)) fun v4 =>
 fCond v4
 (some (.tup [.str [49,48,49,48],.bool true]))
 (bindO (fBin .eql x0 (.int .i64 17)) fun v5 =>
 fCond v5
 (some (.tup [.str [49,48,49,49],.bool true]))
 (bindO (fBin .eql x0 (.int .i64 18)) fun v6 =>
 fCond v6
 (some (.tup [.str [49,49,48,48],.bool true]))
 (bindO (fBin .eql x0 (.int .i64 19)) fun v7 =>
 fCond v7
 (some (.tup [.str [49,49,48,49],.bool true]))
 (bindO (fBin .eql x0 (.int .i64 20)) fun v8 =>
 fCond v8
 (some (.tup [.str [49,49,49,48],.bool true]))
 (bindO (fBin .eql x0 (.int .i64 25)) fun v9 =>
 fCond v9
 (some (.tup [.str [49,49,49,49],.bool true]))
 (some (.tup [.str [],.bool false]))))))))))):=(den_eq ..).trans (by kernel_rfl)
theorem ref08_Nine.eq : ref08_Nine x0 = (
 bindO (ref01_Word x0) fun v1 =>
 gB (fIsTup 2 v1) <|
 some (fTup v1 1)):=(den_eq ..).trans (by kernel_rfl)
noncomputable def ref08_Right.L0 : R:=jden E 33 [] [1] (mkF 25 [(1,.ptr 0 0 0)]) [.box [.f x0,.f x1]]
noncomputable def ref08_Right.L1 : R:=jden E 33 [] [1,1] (mkF 25 [(1,.ptr 0 0 0)]) [.box [.f x0,.f x1]]
theorem ref08_Right.eq : ref08_Right x0 = (
 gB (fIsAgg 2 x0) <|
 bindO (fBin .lss (fCell x0 0) (.int .i64 1)) fun v1 =>
 fCond v1
 (some (.bool false))
 (bindO (fBin .gtr (fCell x0 0) (.int .i64 8)) fun v2 =>
 fCond v2
 (some (.bool false))
 (ref08_Right.L0 (fCell x0 0) (fCell x0 1)))):=(den_eq ..).trans (by kernel_rfl)
theorem ref08_Right.L0_eq : ref08_Right.L0 x0 x1 = (
 bindO (fBin .eql x0 (.int .i64 7)) fun v3 =>
 fCond v3
 (bindO (ref08_Nine x1) fun v4 =>
 some v4)
 (bindO (fBin .eql x0 (.int .i64 8)) fun v5 =>
 fCond v5
 (bindO (ref08_Nine x1) fun v6 =>
 some v6)
 (ref08_Right.L1 x0 x1))):=(jden_eq ..).trans (by kernel_rfl)
theorem ref08_Right.L1_eq : ref08_Right.L1 x0 x1 = (
 bindO (fBin .eql x1 (.int .i64 0)) fun v3 =>
 some v3):=(jden_eq ..).trans (by kernel_rfl)
noncomputable def ref08_After.L1 : R:=jden E 11 [] [1,0,1,1,1,1,1,1,1] (mkF 65 [(10,.f x0),(11,.f x1),(12,.f x2)]) [.box [.f x3,.f x4]]
noncomputable def ref08_After.L0 : R:=jden E 11 [] [1,1,1,1,1,1,1] (mkF 65 [(10,.f x0),(11,.f x1),(12,.f x2)]) [.box [.f x3,.f x4]]
theorem ref08_After.eq : ref08_After x0 x1 x2 = (
 gB (fIsAgg 2 x2) <|
 bindO (ref08_stands x0 x1) fun v1 =>
 bindO (fUn .not v1) fun v2 =>
 fCond v2
 (some (.tup [.int .i64 0,.int .i64 0,.int .i64 81]))
 (bindO (ref08_Right (.agg [(fCell x2 0),(fCell x2 1)])) fun v3 =>
 bindO (fUn .not v3) fun v4 =>
 fCond v4
 (some (.tup [.int .i64 0,.int .i64 0,.int .i64 80]))
 (bindO (fBin .eql x1 (.int .i64 (-1))) fun v5 =>
 bindO (fBin .eql (fCell x2 0) (.int .i64 1)) fun v6 =>
 fCond v6
 (bindO (fBin .add x0 (.int .i64 1)) fun v7 =>
 ref08_After.L1 v7 x1 v5 (fCell x2 0) (fCell x2 1))
 (bindO (fBin .eql (fCell x2 0) (.int .i64 2)) fun v8 =>
 fCond v8
 (bindO (fBin .sub x0 (.int .i64 1)) fun v9 =>
 ref08_After.L1 v9 x1 v5 (fCell x2 0) (fCell x2 1))
 (bindO (fBin .eql (fCell x2 0) (.int .i64 3)) fun v10 =>
 fCond v10
 (ref08_After.L1 x0 (.int .i64 0) v5 (fCell x2 0) (fCell x2 1))
 (bindO (fBin .eql (fCell x2 0) (.int .i64 4)) fun v11 =>
 fCond v11
 (bindO (fUn .not v5) fun v12 =>
 bindO (fBin .add x1 (.int .i64 1)) fun v13 =>
 ref08_After.L1 x0 v13 v12 (fCell x2 0) (fCell x2 1))
 (bindO (fBin .eql (fCell x2 0) (.int .i64 5)) fun v14 =>
 fCond v14
 (bindO (fBin .geq x1 (.int .i64 1)) fun v15 =>
 bindO (fBin .sub x1 (.int .i64 1)) fun v16 =>
 ref08_After.L1 x0 v16 v15 (fCell x2 0) (fCell x2 1))
 (bindO (fBin .eql (fCell x2 0) (.int .i64 6)) fun v17 =>
 fCond v17
 (bindO (fBin .eql x1 (.int .i64 0)) fun v18 =>
 ref08_After.L1 x0 (.int .i64 (-1)) v18 (fCell x2 0) (fCell x2 1))
 (bindO (fUn .not v5) fun v19 =>
 ref08_After.L1 x0 x1 v19 (fCell x2 0) (fCell x2 1)))))))))):=(den_eq ..).trans (by kernel_rfl)
theorem ref08_After.L1_eq : ref08_After.L1 x0 x1 x2 x3 x4 = (
 ref08_After.L0 x0 x1 x2 x3 x4):=(jden_eq ..).trans (by kernel_rfl)
theorem ref08_After.L0_eq : ref08_After.L0 x0 x1 x2 x3 x4 = (
 bindO (fUn .not x2) fun v6 =>
 fCond v6
 (some (.tup [.int .i64 0,.int .i64 0,.int .i64 80]))
 (bindO (ref08_stands x0 x1) fun v7 =>
 bindO (fUn .not v7) fun v8 =>
 fCond v8
 (some (.tup [.int .i64 0,.int .i64 0,.int .i64 81]))
 (some (.tup [x0,x1,.int .i64 0])))):=(jden_eq ..).trans (by kernel_rfl)
theorem arm_stands.eq : arm_stands x0 x1 = (
 bindO (fBin .geq x0 (.int .i64 2)) fun v1 =>
 fCond v1
 (bindO (fBin .leq x0 (.int .i64 60)) fun v2 =>
 fCond v2
 (bindO (fBin .geq x1 (.int .i64 (-1))) fun v3 =>
 fCond v3
 (bindO (fBin .leq x1 (.int .i64 60)) fun v4 =>
 some v4)
 (some (.bool false)))
 (some (.bool false)))
 (some (.bool false))):=(den_eq ..).trans (by kernel_rfl)
noncomputable def cells_Word.L0 : R:=jden E 52 [] [4,1,0,1] (mkF 18 [(0,.f x0),(6,.agg [.f x1,.f x2,.f x3,.f x4,.f x5,.f x6,.f x7,.f x8,.f x9,.f x10,.f x11,.f x12,.f x13,.f x14,.f x15,.f x16,.f x17,.f x18]),(7,.f x19)]) []
theorem cells_Word.eq : cells_Word x0 = (
 cells_Word.L0 x0 (.str [48,48,48,48]) (.int .i64 9) (.str [48,48,48,49]) (.int .i64 10) (.str [48,48,49]) (.int .i64 11) (.str [48,49,48]) (.int .i64 12) (.str [48,49,49]) (.int .i64 17) (.str [49,48,48]) (.int .i64 18) (.str [49,48,49]) (.int .i64 19) (.str [49,49,48]) (.int .i64 20) (.str [49,49,49]) (.int .i64 25) (.int .i64 0)):=(den_eq ..).trans (by kernel_rfl)
theorem cells_Word.L0_eq : cells_Word.L0 x0 x1 x2 x3 x4 x5 x6 x7 x8 x9 x10 x11 x12 x13 x14 x15 x16 x17 x18 x19 = (
 bindO (fBin .lss x19 (.int .i64 9)) fun v21 =>
 fCond v21
 (bindO (asNat x19) fun j22 =>
 gB (decide (j22 < 9)) <|
 bindO ([(x1 : FV),x2,x3,x4,x5,x6,x7,x8,x9,x10,x11,x12,x13,x14,x15,x16,x17,x18][j22 * 2]?) fun v23 =>
 bindO ([(x1 : FV),x2,x3,x4,x5,x6,x7,x8,x9,x10,x11,x12,x13,x14,x15,x16,x17,x18][j22 * 2 + 1]?) fun v24 =>
 bindO (fBin .eql v24 x0) fun v25 =>
 fCond v25
 (bindO (fBin .add (.str [49]) v23) fun v26 =>
 some (.tup [v26,.bool true]))
 (bindO (fBin .add x19 (.int .i64 1)) fun v27 =>
 cells_Word.L0 x0 x1 x2 x3 x4 x5 x6 x7 x8 x9 x10 x11 x12 x13 x14 x15 x16 x17 x18 v27))
 (some (.tup [.str [],.bool false]))):=(jden_eq ..).trans (by kernel_rfl)
noncomputable def arm_formed.L0 : R:=jden E 38 [] [1] (mkF 33 [(1,.ptr 0 0 0)]) [.box [.f x0,.f x1]]
theorem arm_formed.eq : arm_formed x0 = (
 gB (fIsAgg 2 x0) <|
 bindO (fBin .eql (fCell x0 0) (.int .i64 7)) fun v1 =>
 fCond v1
 (bindO (cells_Word (fCell x0 1)) fun v2 =>
 gB (fIsTup 2 v2) <|
 some (fTup v2 1))
 (bindO (fBin .eql (fCell x0 0) (.int .i64 8)) fun v3 =>
 fCond v3
 (bindO (cells_Word (fCell x0 1)) fun v4 =>
 gB (fIsTup 2 v4) <|
 some (fTup v4 1))
 (arm_formed.L0 (fCell x0 0) (fCell x0 1)))):=(den_eq ..).trans (by kernel_rfl)
theorem arm_formed.L0_eq : arm_formed.L0 x0 x1 = (
 bindO (fBin .geq x0 (.int .i64 1)) fun v3 =>
 fCond v3
 (bindO (fBin .leq x0 (.int .i64 6)) fun v4 =>
 fCond v4
 (bindO (fBin .eql x1 (.int .i64 0)) fun v5 =>
 some v5)
 (some (.bool false)))
 (some (.bool false))):=(jden_eq ..).trans (by kernel_rfl)
noncomputable def arm_After.L0 : R:=jden E 13 [] [1,1] (mkF 69 [(0,.f x0),(1,.f x1),(5,.ptr 0 0 0)]) [.box [.f x2,.f x3]]
noncomputable def arm_After.L2 : R:=jden E 13 [] [1,0,1,1,1] (mkF 69 [(0,.f x0),(1,.f x1)]) [.box [.f x2,.f x3]]
noncomputable def arm_After.L1 : R:=jden E 13 [] [1,1,1] (mkF 69 [(0,.f x0),(1,.f x1)]) [.box [.f x2,.f x3]]
theorem arm_After.eq : arm_After x0 x1 x2 = (
 gB (fIsAgg 2 x2) <|
 bindO (arm_stands x0 x1) fun v1 =>
 bindO (fUn .not v1) fun v2 =>
 fCond v2
 (some (.tup [.int .i64 0,.int .i64 0,.int .i64 81]))
 (bindO (arm_formed (.agg [(fCell x2 0),(fCell x2 1)])) fun v3 =>
 bindO (fUn .not v3) fun v4 =>
 fCond v4
 (some (.tup [.int .i64 0,.int .i64 0,.int .i64 80]))
 (bindO (fBin .lss x1 (.int .i64 0)) fun v5 =>
 bindO (fBin .leq (fCell x2 0) (.int .i64 3)) fun v6 =>
 bindO (fBoolBin .neq v5 v6) fun v7 =>
 fCond v7
 (some (.tup [.int .i64 0,.int .i64 0,.int .i64 80]))
 (bindO (fBin .eql (fCell x2 0) (.int .i64 5)) fun v8 =>
 fCond v8
 (bindO (fBin .lss x1 (.int .i64 1)) fun v9 =>
 fCond v9
 (some (.tup [.int .i64 0,.int .i64 0,.int .i64 80]))
 (bindO (fBin .eql (fCell x2 0) (.int .i64 6)) fun v10 =>
 fCond v10
 (bindO (fBin .neq x1 (.int .i64 0)) fun v11 =>
 fCond v11
 (some (.tup [.int .i64 0,.int .i64 0,.int .i64 80]))
 (arm_After.L0 x0 x1 (fCell x2 0) (fCell x2 1)))
 (arm_After.L0 x0 x1 (fCell x2 0) (fCell x2 1))))
 (bindO (fBin .eql (fCell x2 0) (.int .i64 6)) fun v12 =>
 fCond v12
 (bindO (fBin .neq x1 (.int .i64 0)) fun v13 =>
 fCond v13
 (some (.tup [.int .i64 0,.int .i64 0,.int .i64 80]))
 (arm_After.L0 x0 x1 (fCell x2 0) (fCell x2 1)))
 (arm_After.L0 x0 x1 (fCell x2 0) (fCell x2 1))))))):=(den_eq ..).trans (by kernel_rfl)
theorem arm_After.L0_eq : arm_After.L0 x0 x1 x2 x3 = (
 bindO (fBin .eql x2 (.int .i64 1)) fun v5 =>
 fCond v5
 (bindO (fBin .add x0 (.int .i64 1)) fun v6 =>
 arm_After.L2 v6 x1 x2 x3)
 (bindO (fBin .eql x2 (.int .i64 2)) fun v7 =>
 fCond v7
 (bindO (fBin .sub x0 (.int .i64 1)) fun v8 =>
 arm_After.L2 v8 x1 x2 x3)
 (bindO (fBin .eql x2 (.int .i64 3)) fun v9 =>
 fCond v9
 (arm_After.L2 x0 (.int .i64 0) x2 x3)
 (bindO (fBin .eql x2 (.int .i64 4)) fun v10 =>
 fCond v10
 (bindO (fBin .add x1 (.int .i64 1)) fun v11 =>
 arm_After.L2 x0 v11 x2 x3)
 (bindO (fBin .eql x2 (.int .i64 5)) fun v12 =>
 fCond v12
 (fCond v12
 (bindO (fBin .sub x1 (.int .i64 1)) fun v13 =>
 arm_After.L2 x0 v13 x2 x3)
 (arm_After.L2 x0 x1 x2 x3))
 (bindO (fBin .eql x2 (.int .i64 6)) fun v14 =>
 fCond v14
 (bindO (fBin .sub x1 (.int .i64 1)) fun v15 =>
 arm_After.L2 x0 v15 x2 x3)
 (arm_After.L2 x0 x1 x2 x3))))))):=(jden_eq ..).trans (by kernel_rfl)
theorem arm_After.L2_eq : arm_After.L2 x0 x1 x2 x3 = (
 arm_After.L1 x0 x1 x2 x3):=(jden_eq ..).trans (by kernel_rfl)
theorem arm_After.L1_eq : arm_After.L1 x0 x1 x2 x3 = (
 bindO (arm_stands x0 x1) fun v5 =>
 bindO (fUn .not v5) fun v6 =>
 fCond v6
 (some (.tup [.int .i64 0,.int .i64 0,.int .i64 81]))
 (some (.tup [x0,x1,.int .i64 0]))):=(jden_eq ..).trans (by kernel_rfl)
noncomputable def law08_same.L0 : R:=jden E 14 [] [4,1,0,1,1] (mkF 26 [(0,.f x0),(1,.f x1),(5,.f x2)]) []
theorem law08_same.eq : law08_same x0 x1 = (
 bindO (fLen x0) fun v1 =>
 bindO (fLen x1) fun v2 =>
 bindO (fBin .neq v1 v2) fun v3 =>
 fCond v3
 (some (.bool false))
 (law08_same.L0 x0 x1 (.int .i64 0))):=(den_eq ..).trans (by kernel_rfl)
theorem law08_same.L0_eq : law08_same.L0 x0 x1 x2 = (
 bindO (fLen x0) fun v4 =>
 bindO (fBin .lss x2 v4) fun v5 =>
 fCond v5
 (bindO (fIdxC 3 x0 x2) fun c6 =>
 bindO (c6[0]?) fun v7 =>
 bindO (c6[1]?) fun v8 =>
 bindO (c6[2]?) fun v9 =>
 bindO (fIdxC 3 x1 x2) fun c10 =>
 bindO (c10[0]?) fun v11 =>
 bindO (c10[1]?) fun v12 =>
 bindO (c10[2]?) fun v13 =>
 bindO (fAggBin [.int,.int,.int] .neq [v7,v8,v9] [v11,v12,v13]) fun v14 =>
 fCond v14
 (some (.bool false))
 (bindO (fBin .add x2 (.int .i64 1)) fun v15 =>
 law08_same.L0 x0 x1 v15))
 (some (.bool true))):=(jden_eq ..).trans (by kernel_rfl)
noncomputable def ref01_proper.L0 : R:=jden E 91 [] [4,1,0,1] (mkF 63 [(1,.f x0),(2,.f x1),(3,.ptr 0 0 0),(7,.f x2)]) [.box [.f x3,.f x4]]
noncomputable def ref01_proper.L1 : R:=jden E 91 [] [1,4,0,1,5,4,1,0,1] (mkF 63 [(1,.f x0),(2,.f x1),(3,.ptr 0 0 0),(7,.f x2)]) [.box [.f x3,.f x4]]
theorem ref01_proper.eq : ref01_proper x0 x1 x2 = (
 gB (fIsAgg 2 x0) <|
 ref01_proper.L0 x1 x2 (.int .i64 0) (fCell x0 0) (fCell x0 1)):=(den_eq ..).trans (by kernel_rfl)
theorem ref01_proper.L0_eq : ref01_proper.L0 x0 x1 x2 x3 x4 = (
 bindO (fLen x1) fun v6 =>
 bindO (fBin .lss x2 v6) fun v7 =>
 fCond v7
 (bindO (fIdxC 3 x1 x2) fun c8 =>
 bindO (c8[0]?) fun v9 =>
 bindO (fIdxC 3 x1 x2) fun c10 =>
 bindO (c10[1]?) fun v11 =>
 bindO (ref01_near v9 v11) fun v12 =>
 bindO (fUn .not v12) fun v13 =>
 fCond v13
 (some (.int .i64 13))
 (bindO (fIdxC 3 x1 x2) fun c14 =>
 bindO (c14[2]?) fun v15 =>
 bindO (fBin .lss v15 (.int .i64 1)) fun v16 =>
 fCond v16
 (some (.int .i64 11))
 (fCond x0
 (bindO (fIdxC 3 x1 x2) fun c17 =>
 bindO (c17[2]?) fun v18 =>
 bindO (ref01_isState (.agg [x3,x4]) v18) fun v19 =>
 bindO (fUn .not v19) fun v20 =>
 fCond v20
 (some (.int .i64 11))
 (ref01_proper.L1 x0 x1 x2 x3 x4))
 (ref01_proper.L1 x0 x1 x2 x3 x4))))
 (bindO (fLen x1) fun v21 =>
 bindO (fBin .gtr v21 (.int .i64 65536)) fun v22 =>
 fCond v22
 (some (.int .i64 14))
 (some (.int .i64 0)))):=(jden_eq ..).trans (by kernel_rfl)
theorem ref01_proper.L1_eq : ref01_proper.L1 x0 x1 x2 x3 x4 = (
 bindO (fBin .gtr x2 (.int .i64 0)) fun v6 =>
 fCond v6
 (bindO (fIdxC 3 x1 x2) fun c7 =>
 bindO (c7[0]?) fun v8 =>
 bindO (c7[1]?) fun v9 =>
 bindO (c7[2]?) fun v10 =>
 bindO (fBin .sub x2 (.int .i64 1)) fun v11 =>
 bindO (fIdxC 3 x1 v11) fun c12 =>
 bindO (c12[0]?) fun v13 =>
 bindO (c12[1]?) fun v14 =>
 bindO (c12[2]?) fun v15 =>
 bindO (ref01_behind (.agg [v8,v9,v10]) (.agg [v13,v14,v15])) fun v16 =>
 bindO (fUn .not v16) fun v17 =>
 fCond v17
 (some (.int .i64 12))
 (bindO (fBin .add x2 (.int .i64 1)) fun v18 =>
 ref01_proper.L0 x0 x1 v18 x3 x4))
 (bindO (fBin .add x2 (.int .i64 1)) fun v19 =>
 ref01_proper.L0 x0 x1 v19 x3 x4)):=(jden_eq ..).trans (by kernel_rfl)
theorem ref01_Proper.eq : ref01_Proper x0 x1 = (
 gB (fIsAgg 2 x0) <|
 bindO (ref01_Check (.agg [(fCell x0 0),(fCell x0 1)])) fun v1 =>
 bindO (fBin .neq v1 (.int .i64 0)) fun v2 =>
 fCond v2
 (some (.int .i64 10))
 (bindO (ref01_proper (.agg [(fCell x0 0),(fCell x0 1)]) (.bool true) x1) fun v3 =>
 some v3)):=(den_eq ..).trans (by kernel_rfl)
noncomputable def ref01_At.L0 : R:=jden E 42 [] [4,1,0,1] (mkF 35 [(0,.f x0),(1,.f x1),(2,.f x2),(7,.f x3)]) []
theorem ref01_At.eq : ref01_At x0 x1 x2 = (
 ref01_At.L0 x0 x1 x2 (.int .i64 0)):=(den_eq ..).trans (by kernel_rfl)
theorem ref01_At.L0_eq : ref01_At.L0 x0 x1 x2 x3 = (
 bindO (fLen x0) fun v5 =>
 bindO (fBin .lss x3 v5) fun v6 =>
 fCond v6
 (bindO (fIdxC 3 x0 x3) fun c7 =>
 bindO (c7[0]?) fun v8 =>
 bindO (fBin .eql v8 x1) fun v9 =>
 fCond v9
 (bindO (fIdxC 3 x0 x3) fun c10 =>
 bindO (c10[1]?) fun v11 =>
 bindO (fBin .eql v11 x2) fun v12 =>
 fCond v12
 (bindO (fIdxC 3 x0 x3) fun c13 =>
 bindO (c13[2]?) fun v14 =>
 some v14)
 (bindO (fBin .add x3 (.int .i64 1)) fun v15 =>
 ref01_At.L0 x0 x1 x2 v15))
 (bindO (fBin .add x3 (.int .i64 1)) fun v16 =>
 ref01_At.L0 x0 x1 x2 v16))
 (some (.int .i64 0))):=(jden_eq ..).trans (by kernel_rfl)
theorem ref08_inBox.eq : ref08_inBox x0 x1 x2 x3 x4 x5 = (
 bindO (fBin .geq x0 x2) fun v1 =>
 fCond v1
 (bindO (fBin .leq x0 x3) fun v2 =>
 fCond v2
 (bindO (fBin .geq x1 x4) fun v3 =>
 fCond v3
 (bindO (fBin .leq x1 x5) fun v4 =>
 some v4)
 (some (.bool false)))
 (some (.bool false)))
 (some (.bool false))):=(den_eq ..).trans (by kernel_rfl)
noncomputable def ref08_InRoom.L0 : R:=jden E 92 [] [4,1,0,1] (mkF 61 [(0,.f x0),(1,.f x1),(3,.f x2),(4,.f x3),(7,.ptr 0 0 0),(12,.f x4),(13,.f x5)]) [.box [.f x6,.f x7]]
noncomputable def ref08_InRoom.L1 : R:=jden E 92 [] [1,1] (mkF 61 [(0,.f x0),(1,.f x1),(3,.f x2),(4,.f x3)]) [.box [.f x4,.f x5]]
theorem ref08_InRoom.eq : ref08_InRoom x0 x1 x2 x3 x4 = (
 gB (fIsAgg 2 x2) <|
 bindO (fBin .eql (fCell x2 0) (.int .i64 1)) fun v1 =>
 fCond v1
 (ref08_InRoom.L0 x0 x1 x3 x4 (fCell x2 0) v1 (fCell x2 0) (fCell x2 1))
 (bindO (fBin .eql (fCell x2 0) (.int .i64 2)) fun v2 =>
 fCond v2
 (ref08_InRoom.L0 x0 x1 x3 x4 (fCell x2 0) v2 (fCell x2 0) (fCell x2 1))
 (bindO (fBin .eql (fCell x2 0) (.int .i64 3)) fun v3 =>
 ref08_InRoom.L0 x0 x1 x3 x4 (fCell x2 0) v3 (fCell x2 0) (fCell x2 1)))):=(den_eq ..).trans (by kernel_rfl)
theorem ref08_InRoom.L0_eq : ref08_InRoom.L0 x0 x1 x2 x3 x4 x5 x6 x7 = (
 fCond x5
 (bindO (fBin .add x0 (.int .i64 1)) fun v9 =>
 bindO (fBin .add x0 (.int .i64 3)) fun v10 =>
 bindO (ref08_inBox x2 x3 v9 v10 (.int .i64 0) (.int .i64 1)) fun v11 =>
 some v11)
 (bindO (fBin .eql x4 (.int .i64 6)) fun v12 =>
 fCond v12
 (bindO (fBin .add x0 (.int .i64 1)) fun v13 =>
 bindO (fBin .add x0 (.int .i64 3)) fun v14 =>
 bindO (ref08_inBox x2 x3 v13 v14 (.int .i64 (-1)) (.int .i64 1)) fun v15 =>
 some v15)
 (bindO (fBin .eql x2 x0) fun v16 =>
 fCond v16
 (bindO (fBin .add x1 (.int .i64 1)) fun v17 =>
 bindO (fUn .neg v17) fun v18 =>
 bindO (fBin .eql x3 v18) fun v19 =>
 fCond v19
 (bindO (fBin .eql x6 (.int .i64 7)) fun v20 =>
 fCond v20
 (some (.bool true))
 (bindO (fBin .eql x6 (.int .i64 8)) fun v21 =>
 some v21))
 (ref08_InRoom.L1 x0 x1 x2 x3 x6 x7))
 (ref08_InRoom.L1 x0 x1 x2 x3 x6 x7)))):=(jden_eq ..).trans (by kernel_rfl)
theorem ref08_InRoom.L1_eq : ref08_InRoom.L1 x0 x1 x2 x3 x4 x5 = (
 bindO (fBin .add x0 (.int .i64 1)) fun v7 =>
 bindO (fBin .add x0 (.int .i64 2)) fun v8 =>
 bindO (fBin .add x1 (.int .i64 2)) fun v9 =>
 bindO (fUn .neg v9) fun v10 =>
 bindO (ref08_inBox x2 x3 v7 v8 v10 (.int .i64 1)) fun v11 =>
 some v11):=(jden_eq ..).trans (by kernel_rfl)
noncomputable def ref08_blocked.L0 : R:=jden E 58 [] [4,1,0,1] (mkF 58 [(0,.f x0),(1,.f x1),(2,.f x2),(7,.ptr 0 0 0),(9,.f x3)]) [.box [.f x4,.f x5]]
theorem ref08_blocked.eq : ref08_blocked x0 x1 x2 x3 = (
 gB (fIsAgg 2 x3) <|
 ref08_blocked.L0 x0 x1 x2 (.int .i64 0) (fCell x3 0) (fCell x3 1)):=(den_eq ..).trans (by kernel_rfl)
theorem ref08_blocked.L0_eq : ref08_blocked.L0 x0 x1 x2 x3 x4 x5 = (
 bindO (fLen x0) fun v7 =>
 bindO (fBin .lss x3 v7) fun v8 =>
 fCond v8
 (bindO (fIdxC 3 x0 x3) fun c9 =>
 bindO (c9[0]?) fun v10 =>
 bindO (fBin .eql v10 x1) fun v11 =>
 fCond v11
 (bindO (fIdxC 3 x0 x3) fun c12 =>
 bindO (c12[1]?) fun v13 =>
 bindO (fBin .add x2 (.int .i64 1)) fun v14 =>
 bindO (fUn .neg v14) fun v15 =>
 bindO (fBin .eql v13 v15) fun v16 =>
 bindO (fIdxC 3 x0 x3) fun c17 =>
 bindO (c17[0]?) fun v18 =>
 bindO (fIdxC 3 x0 x3) fun c19 =>
 bindO (c19[1]?) fun v20 =>
 bindO (ref08_InRoom x1 x2 (.agg [x4,x5]) v18 v20) fun v21 =>
 fCond v21
 (fCond v16
 (bindO (fBin .eql x4 (.int .i64 8)) fun v22 =>
 bindO (fUn .not v22) fun v23 =>
 fCond v23
 (some (.bool true))
 (bindO (fBin .add x3 (.int .i64 1)) fun v24 =>
 ref08_blocked.L0 x0 x1 x2 v24 x4 x5))
 (bindO (fUn .not (.bool false)) fun v25 =>
 fCond v25
 (some (.bool true))
 (bindO (fBin .add x3 (.int .i64 1)) fun v26 =>
 ref08_blocked.L0 x0 x1 x2 v26 x4 x5)))
 (bindO (fBin .add x3 (.int .i64 1)) fun v27 =>
 ref08_blocked.L0 x0 x1 x2 v27 x4 x5))
 (bindO (fIdxC 3 x0 x3) fun c28 =>
 bindO (c28[0]?) fun v29 =>
 bindO (fIdxC 3 x0 x3) fun c30 =>
 bindO (c30[1]?) fun v31 =>
 bindO (ref08_InRoom x1 x2 (.agg [x4,x5]) v29 v31) fun v32 =>
 fCond v32
 (bindO (fUn .not (.bool false)) fun v33 =>
 fCond v33
 (some (.bool true))
 (bindO (fBin .add x3 (.int .i64 1)) fun v34 =>
 ref08_blocked.L0 x0 x1 x2 v34 x4 x5))
 (bindO (fBin .add x3 (.int .i64 1)) fun v35 =>
 ref08_blocked.L0 x0 x1 x2 v35 x4 x5)))
 (some (.bool false))):=(jden_eq ..).trans (by kernel_rfl)
noncomputable def ref08_World.L0 : R:=jden E 30 [] [4,1,0,1,1,1,1] (mkF 160 [(0,.f x0),(1,.f x1),(9,.ptr 0 0 0),(11,.f x2)]) [.box [.f x3,.ref 1],.own 1 r4]
noncomputable def ref08_World.L1 : R:=jden E 30 [] [4,1,0,1,1,1,1,1] (mkF 160 [(0,.f x0),(1,.f x1),(9,.ptr 0 0 0),(12,.f x2)]) [.box [.f x3,.ref 1],.own 1 r4]
noncomputable def ref08_World.L4 : R:=jden E 30 [] [4,0,1,1,1,1,1,1,1,1,1,1] (mkF 160 [(0,.f x0),(9,.ptr 0 0 0),(13,.f x1),(14,.f x2),(15,.f x3),(16,.ref 4)]) [.box [.f x4,.f x5],.fz r6,.dead,.dead,.own 3 r7]
noncomputable def ref08_World.L3 : R:=jden E 30 [] [0,1,1,1,1,1,1,1,1,1,1] (mkF 160 [(13,.f x0),(14,.f x1),(15,.f x2),(16,.ref 4)]) [.box [.f x3,.f x4],.fz r5,.dead,.dead,.own 3 r6]
noncomputable def ref08_World.L5 : R:=jden E 30 [] [1,1,1,1,1,4,1,5,4,0,1,1,1,1,1,1,1,1,1,1] (mkF 160 [(0,.f x0),(9,.ptr 0 0 0),(15,.f x1),(16,.ref 4),(17,.ptr 5 0 0),(18,.f x2),(19,.f x3),(21,.f x4),(22,.f x5)]) [.box [.f x6,.f x7],.fz r8,.dead,.dead,.own 3 r9,.box [.f x10,.f x11]]
noncomputable def ref08_World.L2 : R:=jden E 30 [] [1,1,1,1,1,1,1,1,1,1] (mkF 160 [(13,.f x0),(14,.f x1),(15,.f x2),(16,.ref 4)]) [.box [.f x3,.f x4],.fz r5,.dead,.dead,.own 3 r6]
noncomputable def ref08_World.L6 : R:=jden E 30 [] [1,1,1,1,1,1,4,1,5,4,0,1,1,1,1,1,1,1,1,1,1] (mkF 160 [(0,.f x0),(9,.ptr 0 0 0),(15,.f x1),(16,.ref 5),(17,.f x2),(18,.f x3),(19,.f x4),(21,.f x5),(22,.f x6)]) [.box [.f x7,.f x8],.fz r9,.dead,.dead,.dead,.own 3 r10]
noncomputable def ref08_World.L7 : R:=jden E 30 [] [1,1,1,1,1,1,1,4,1,5,4,0,1,1,1,1,1,1,1,1,1,1] (mkF 160 [(0,.f x0),(9,.ptr 0 0 0),(15,.f x1),(16,.ref 6),(18,.f x2),(19,.f x3)]) [.box [.f x4,.f x5],.fz r6,.dead,.dead,.dead,.dead,.own 3 r7]
theorem ref08_World.eq : ref08_World x0 x1 = (
 bindO (ref01_Proper (.agg [.int .i64 0,.nilS]) x1) fun v1 =>
 bindO (fBin .neq v1 (.int .i64 0)) fun v2 =>
 fCond v2
 (some (.tup [.int .i64 0,.int .i64 0,.nilS,.int .i64 0,v1]))
 (ref08_World.L0 x0 x1 (.int .i64 0) (.int .i64 0) [])):=(den_eq ..).trans (by kernel_rfl)
theorem ref08_World.L0_eq : ref08_World.L0 x0 x1 x2 x3 r4 = (
 bindO (fLen x1) fun v6 =>
 bindO (fBin .lss x2 v6) fun v7 =>
 fCond v7
 (bindO (fIdxC 3 x1 x2) fun c8 =>
 bindO (c8[2]?) fun v9 =>
 bindO (ref08_Nine v9) fun v10 =>
 bindO (fUn .not v10) fun v11 =>
 fCond v11
 (some (.tup [.int .i64 0,.int .i64 0,.nilS,.int .i64 0,.int .i64 82]))
 (bindO (fBin .add x2 (.int .i64 1)) fun v12 =>
 ref08_World.L0 x0 x1 v12 x3 r4))
 (ref08_World.L1 x0 x1 (.int .i64 0) x3 r4)):=(jden_eq ..).trans (by kernel_rfl)
theorem ref08_World.L1_eq : ref08_World.L1 x0 x1 x2 x3 r4 = (
 bindO (fLen x1) fun v6 =>
 bindO (fBin .lss x2 v6) fun v7 =>
 fCond v7
 (bindO (fIdxC 3 x1 x2) fun c8 =>
 bindO (c8[1]?) fun v9 =>
 bindO (fBin .eql v9 (.int .i64 0)) fun v10 =>
 fCond v10
 (some (.tup [.int .i64 0,.int .i64 0,.nilS,.int .i64 0,.int .i64 81]))
 (bindO (fIdxC 3 x1 x2) fun c11 =>
 bindO (c11[1]?) fun v12 =>
 bindO (fBin .eql v12 (.int .i64 1)) fun v13 =>
 fCond v13
 (some (.tup [.int .i64 0,.int .i64 0,.nilS,.int .i64 0,.int .i64 81]))
 (bindO (fIdxC 3 x1 x2) fun c14 =>
 bindO (c14[0]?) fun v15 =>
 bindO (fBin .lss v15 (.int .i64 2)) fun v16 =>
 fCond v16
 (some (.tup [.int .i64 0,.int .i64 0,.nilS,.int .i64 0,.int .i64 81]))
 (bindO (fBin .add x2 (.int .i64 1)) fun v17 =>
 ref08_World.L1 x0 x1 v17 x3 r4))))
 (bindO (asRows x1) fun r18 =>
 gB (rowsSz 3 r18) <|
 gB (decide ((0 + r18.length) * 24 ≤ room)) <|
 ref08_World.L4 x0 (.int .i64 2) (.int .i64 (-1)) (.int .i64 0) x3 (.arr r4) r4 ([] ++ r18))):=(jden_eq ..).trans (by kernel_rfl)
theorem ref08_World.L4_eq : ref08_World.L4 x0 x1 x2 x3 x4 x5 r6 r7 = (
 bindO (fLen x0) fun v9 =>
 bindO (fBin .lss x3 v9) fun v10 =>
 fCond v10
 (bindO (fIdxC 2 x0 x3) fun c11 =>
 bindO (c11[0]?) fun v12 =>
 bindO (c11[1]?) fun v13 =>
 bindO (fAggBin [.int,.int] .eql [v12,v13] [.int .i64 0,.int .i64 0]) fun v14 =>
 fCond v14
 (bindO (fBin .add x3 (.int .i64 1)) fun v15 =>
 ref08_World.L4 x0 x1 x2 v15 x4 x5 r6 r7)
 (bindO (ref08_After x1 x2 (.agg [v12,v13])) fun v16 =>
 gB (fIsTup 3 v16) <|
 bindO (fBin .add x2 (.int .i64 1)) fun v17 =>
 bindO (fUn .neg v17) fun v18 =>
 bindO (fBin .neq (fTup v16 2) (.int .i64 0)) fun v19 =>
 fCond v19
 (ref08_World.L3 x1 x2 x3 x4 x5 r6 r7)
 (bindO (ref08_blocked (.arr r7) x1 x2 (.agg [v12,v13])) fun v20 =>
 gB (fScal v20) <|
 fCond v20
 (ref08_World.L3 x1 x2 x3 x4 x5 r6 r7)
 (bindO (fBin .eql v12 (.int .i64 8)) fun v21 =>
 fCond v21
 (bindO (ref01_At (.arr r7) x1 v18) fun v22 =>
 gB (fScal v22) <|
 bindO (fBin .neq v22 v13) fun v23 =>
 fCond v23
 (ref08_World.L3 x1 x2 x3 x4 x5 r6 r7)
 (ref08_World.L5 x0 x3 (fTup v16 0) (fTup v16 1) x1 v18 x4 x5 r6 r7 v12 v13))
 (ref08_World.L5 x0 x3 (fTup v16 0) (fTup v16 1) x1 v18 x4 x5 r6 r7 v12 v13)))))
 (ref08_World.L3 x1 x2 x3 x4 x5 r6 r7)):=(jden_eq ..).trans (by kernel_rfl)
theorem ref08_World.L3_eq : ref08_World.L3 x0 x1 x2 x3 x4 r5 r6 = (
 ref08_World.L2 x0 x1 x2 x3 x4 r5 r6):=(jden_eq ..).trans (by kernel_rfl)
theorem ref08_World.L5_eq : ref08_World.L5 x0 x1 x2 x3 x4 x5 x6 x7 r8 r9 x10 x11 = (
 bindO (fBin .eql x10 (.int .i64 7)) fun v13 =>
 fCond v13
 (gB (decide ((r9.length + 1) * 24 ≤ room)) <|
 bindO (ref01_Canon (.agg [x6,x7]) (.arr (r9 ++ ([[x4,x5,x11]] : List (List FV))))) fun v14 =>
 gB (fIsTup 2 v14) <|
 bindO (arrRows (fTup v14 0)) fun r15 =>
 ref08_World.L6 x0 x1 (.eptr [x10,x11] 0) x2 x3 x4 x5 x6 x7 r8 r15)
 (ref08_World.L6 x0 x1 (.eptr [x10,x11] 0) x2 x3 x4 x5 x6 x7 r8 r9)):=(jden_eq ..).trans (by kernel_rfl)
theorem ref08_World.L2_eq : ref08_World.L2 x0 x1 x2 x3 x4 r5 r6 = (
 some (.tup [x0,x1,.arr r6,x2,.int .i64 0])):=(jden_eq ..).trans (by kernel_rfl)
theorem ref08_World.L6_eq : ref08_World.L6 x0 x1 x2 x3 x4 x5 x6 x7 x8 r9 r10 = (
 bindO (fAddrO x2 0) fun p12 =>
 bindO (fLd p12 0) fun v13 =>
 bindO (fBin .eql v13 (.int .i64 8)) fun v14 =>
 fCond v14
 (gB (decide ((r10.length + 1) * 24 ≤ room)) <|
 bindO (ref01_Canon (.agg [x7,x8]) (.arr (r10 ++ ([[x5,x6,.int .i64 0]] : List (List FV))))) fun v15 =>
 gB (fIsTup 2 v15) <|
 bindO (arrRows (fTup v15 0)) fun r16 =>
 ref08_World.L7 x0 x1 x3 x4 x7 x8 r9 r16)
 (ref08_World.L7 x0 x1 x3 x4 x7 x8 r9 r10)):=(jden_eq ..).trans (by kernel_rfl)
theorem ref08_World.L7_eq : ref08_World.L7 x0 x1 x2 x3 x4 x5 r6 r7 = (
 bindO (fBin .add x1 (.int .i64 1)) fun v9 =>
 ref08_World.L4 x0 x2 x3 v9 x4 x5 r6 r7):=(jden_eq ..).trans (by kernel_rfl)
noncomputable def law08_ArmWorld.L0 : R:=jden E 9 [] [1] (mkF 68 [(0,.f x0),(1,.f x1)]) []
theorem law08_ArmWorld.eq : law08_ArmWorld x0 x1 = (
 bindO (fLen x0) fun v1 =>
 bindO (fBin .gtr v1 (.int .i64 60)) fun v2 =>
 fCond v2
 (bindO law08_ready fun v3 =>
 some v3)
 (bindO (fLen x1) fun v4 =>
 bindO (fBin .gtr v4 (.int .i64 200)) fun v5 =>
 fCond v5
 (bindO law08_ready fun v6 =>
 some v6)
 (law08_ArmWorld.L0 x0 x1))):=(den_eq ..).trans (by kernel_rfl)
theorem law08_ArmWorld.L0_eq : law08_ArmWorld.L0 x0 x1 = (
 bindO (ref08_World x0 x1) fun v3 =>
 gB (fIsTup 5 v3) <|
 bindO (arm_World x0 x1) fun v4 =>
 gB (fIsTup 5 v4) <|
 bindO (fBin .eql (fTup v4 0) (fTup v3 0)) fun v5 =>
 fCond v5
 (bindO (fBin .eql (fTup v4 1) (fTup v3 1)) fun v6 =>
 fCond v6
 (bindO (law08_same (fTup v4 2) (fTup v3 2)) fun v7 =>
 fCond v7
 (bindO (fBin .eql (fTup v4 3) (fTup v3 3)) fun v8 =>
 fCond v8
 (bindO (fBin .eql (fTup v4 4) (fTup v3 4)) fun v9 =>
 fCond v9
 (bindO law08_ready fun v10 =>
 some v10)
 (some (.bool false)))
 (some (.bool false)))
 (some (.bool false)))
 (some (.bool false)))
 (some (.bool false))):=(jden_eq ..).trans (by kernel_rfl)
end Go.Proofs.YtpffkpaiihcffaaGreatDoor
