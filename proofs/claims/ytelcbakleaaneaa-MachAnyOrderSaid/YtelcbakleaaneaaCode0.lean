/- The code of the functions, as the abstract machine runs it. -/
import Derived.Test.YtelcbakleaaneaaEnv
import Derived.KernelRfl
namespace Go.Proofs.Ytelcbakleaaneaa
open Go Go.Proofs.Ytelcbakleaaneaa.VM
set_option linter.unusedVariables false
/-! ### ramet/rametref02.sameInts (function 55) -/
noncomputable def ref02_sameInts.L0 (x0 : FV) (x1 : FV) (x2 : FV) : R := jden E 55 [] [4, 1, 0, 1, 1] (mkF 26 [(0, .f x0), (1, .f x1), (5, .f x2)]) []
theorem ref02_sameInts.eq (x0 x1 : FV) : ref02_sameInts x0 x1 = (
  bindO (fLen x0) fun v1 =>
  bindO (fLen x1) fun v2 =>
  bindO (fBin .neq v1 v2) fun v3 =>
  fCond v3
  (some (.bool false))
  (ref02_sameInts.L0 x0 x1 (.int .i64 0))) := (den_eq E 55 [x0, x1]).trans (by kernel_rfl)
theorem ref02_sameInts.L0_eq (x0 : FV) (x1 : FV) (x2 : FV) : ref02_sameInts.L0 x0 x1 x2 = (
  bindO (fLen x0) fun v4 =>
  bindO (fBin .lss x2 v4) fun v5 =>
  fCond v5
  (bindO (fIdxC 1 x0 x2) fun c6 =>
  bindO (c6[0]?) fun v7 =>
  bindO (fIdxC 1 x1 x2) fun c8 =>
  bindO (c8[0]?) fun v9 =>
  bindO (fBin .neq v7 v9) fun v10 =>
  fCond v10
  (some (.bool false))
  (bindO (fBin .add x2 (.int .i64 1)) fun v11 =>
  ref02_sameInts.L0 x0 x1 v11))
  (some (.bool true))) := (jden_eq E 55 [] [4, 1, 0, 1, 1] _ _).trans (by kernel_rfl)
/-! ### ramet/rametref02.SameLists (function 16) -/
noncomputable def ref02_SameLists.L0 (x0 : FV) (x1 : FV) (x2 : FV) : R := jden E 16 [] [4, 1, 0, 1, 1] (mkF 27 [(0, .f x0), (1, .f x1), (5, .f x2)]) []
theorem ref02_SameLists.eq (x0 x1 : FV) : ref02_SameLists x0 x1 = (
  bindO (fLen x0) fun v1 =>
  bindO (fLen x1) fun v2 =>
  bindO (fBin .neq v1 v2) fun v3 =>
  fCond v3
  (some (.bool false))
  (ref02_SameLists.L0 x0 x1 (.int .i64 0))) := (den_eq E 16 [x0, x1]).trans (by kernel_rfl)
theorem ref02_SameLists.L0_eq (x0 : FV) (x1 : FV) (x2 : FV) : ref02_SameLists.L0 x0 x1 x2 = (
  bindO (fLen x0) fun v4 =>
  bindO (fBin .lss x2 v4) fun v5 =>
  fCond v5
  (bindO (fIdxC 1 x0 x2) fun c6 =>
  bindO (c6[0]?) fun v7 =>
  bindO (fIdxC 1 x1 x2) fun c8 =>
  bindO (c8[0]?) fun v9 =>
  bindO (ref02_sameInts v7 v9) fun v10 =>
  bindO (fUn .not v10) fun v11 =>
  fCond v11
  (some (.bool false))
  (bindO (fBin .add x2 (.int .i64 1)) fun v12 =>
  ref02_SameLists.L0 x0 x1 v12))
  (some (.bool true))) := (jden_eq E 16 [] [4, 1, 0, 1, 1] _ _).trans (by kernel_rfl)
/-! ### ramet/rametref02.right (function 56) -/
noncomputable def ref02_right.L0 (x0 : FV) (x1 : FV) (x2 : FV) : R := jden E 56 [] [4, 1, 0, 1, 1] (mkF 35 [(0, .f x0), (1, .f x1), (5, .f x2)]) []
theorem ref02_right.eq (x0 x1 : FV) : ref02_right x0 x1 = (
  bindO (fLen x1) fun v1 =>
  bindO (fLen x0) fun v2 =>
  bindO (fBin .neq v1 v2) fun v3 =>
  fCond v3
  (some (.bool false))
  (ref02_right.L0 x0 x1 (.int .i64 0))) := (den_eq E 56 [x0, x1]).trans (by kernel_rfl)
theorem ref02_right.L0_eq (x0 : FV) (x1 : FV) (x2 : FV) : ref02_right.L0 x0 x1 x2 = (
  bindO (fLen x0) fun v4 =>
  bindO (fBin .lss x2 v4) fun v5 =>
  fCond v5
  (bindO (fIdxC 1 x1 x2) fun c6 =>
  bindO (c6[0]?) fun v7 =>
  bindO (fBin .lss v7 (.int .i64 0)) fun v8 =>
  fCond v8
  (some (.bool false))
  (bindO (fIdxC 1 x1 x2) fun c9 =>
  bindO (c9[0]?) fun v10 =>
  bindO (fIdxC 2 x0 x2) fun c11 =>
  bindO (c11[1]?) fun v12 =>
  bindO (fLen v12) fun v13 =>
  bindO (fBin .geq v10 v13) fun v14 =>
  fCond v14
  (some (.bool false))
  (bindO (fBin .add x2 (.int .i64 1)) fun v15 =>
  ref02_right.L0 x0 x1 v15)))
  (some (.bool true))) := (jden_eq E 56 [] [4, 1, 0, 1, 1] _ _).trans (by kernel_rfl)
/-! ### ramet/rametref02.IsName (function 76) -/
noncomputable def ref02_IsName.L0 (x0 : FV) (x1 : FV) : R := jden E 76 [] [4, 1, 0, 1] (mkF 45 [(0, .f x0), (3, .f x1)]) []
theorem ref02_IsName.eq (x0 : FV) : ref02_IsName x0 = (
  ref02_IsName.L0 x0 (.int .i64 0)) := (den_eq E 76 [x0]).trans (by kernel_rfl)
theorem ref02_IsName.L0_eq (x0 : FV) (x1 : FV) : ref02_IsName.L0 x0 x1 = (
  bindO (fLenT x0) fun v3 =>
  bindO (fBin .lss x1 v3) fun v4 =>
  fCond v4
  (bindO (fByte x0 x1) fun v5 =>
  bindO (fBin .geq v5 (.int .u8 97)) fun v6 =>
  fCond v6
  (bindO (fBin .leq v5 (.int .u8 122)) fun v7 =>
  fCond v7
  (bindO (fUn .not (.bool true)) fun v8 =>
  fCond v8
  (some (.bool false))
  (bindO (fBin .add x1 (.int .i64 1)) fun v9 =>
  ref02_IsName.L0 x0 v9))
  (bindO (fBin .geq v5 (.int .u8 65)) fun v10 =>
  fCond v10
  (bindO (fBin .leq v5 (.int .u8 90)) fun v11 =>
  fCond v11
  (bindO (fUn .not (.bool true)) fun v12 =>
  fCond v12
  (some (.bool false))
  (bindO (fBin .add x1 (.int .i64 1)) fun v13 =>
  ref02_IsName.L0 x0 v13))
  (bindO (fBin .geq v5 (.int .u8 48)) fun v14 =>
  fCond v14
  (bindO (fBin .leq v5 (.int .u8 57)) fun v15 =>
  bindO (fUn .not v15) fun v16 =>
  fCond v16
  (some (.bool false))
  (bindO (fBin .add x1 (.int .i64 1)) fun v17 =>
  ref02_IsName.L0 x0 v17))
  (bindO (fUn .not (.bool false)) fun v18 =>
  fCond v18
  (some (.bool false))
  (bindO (fBin .add x1 (.int .i64 1)) fun v19 =>
  ref02_IsName.L0 x0 v19))))
  (bindO (fBin .geq v5 (.int .u8 48)) fun v20 =>
  fCond v20
  (bindO (fBin .leq v5 (.int .u8 57)) fun v21 =>
  bindO (fUn .not v21) fun v22 =>
  fCond v22
  (some (.bool false))
  (bindO (fBin .add x1 (.int .i64 1)) fun v23 =>
  ref02_IsName.L0 x0 v23))
  (bindO (fUn .not (.bool false)) fun v24 =>
  fCond v24
  (some (.bool false))
  (bindO (fBin .add x1 (.int .i64 1)) fun v25 =>
  ref02_IsName.L0 x0 v25)))))
  (bindO (fBin .geq v5 (.int .u8 65)) fun v26 =>
  fCond v26
  (bindO (fBin .leq v5 (.int .u8 90)) fun v27 =>
  fCond v27
  (bindO (fUn .not (.bool true)) fun v28 =>
  fCond v28
  (some (.bool false))
  (bindO (fBin .add x1 (.int .i64 1)) fun v29 =>
  ref02_IsName.L0 x0 v29))
  (bindO (fBin .geq v5 (.int .u8 48)) fun v30 =>
  fCond v30
  (bindO (fBin .leq v5 (.int .u8 57)) fun v31 =>
  bindO (fUn .not v31) fun v32 =>
  fCond v32
  (some (.bool false))
  (bindO (fBin .add x1 (.int .i64 1)) fun v33 =>
  ref02_IsName.L0 x0 v33))
  (bindO (fUn .not (.bool false)) fun v34 =>
  fCond v34
  (some (.bool false))
  (bindO (fBin .add x1 (.int .i64 1)) fun v35 =>
  ref02_IsName.L0 x0 v35))))
  (bindO (fBin .geq v5 (.int .u8 48)) fun v36 =>
  fCond v36
  (bindO (fBin .leq v5 (.int .u8 57)) fun v37 =>
  bindO (fUn .not v37) fun v38 =>
  fCond v38
  (some (.bool false))
  (bindO (fBin .add x1 (.int .i64 1)) fun v39 =>
  ref02_IsName.L0 x0 v39))
  (bindO (fUn .not (.bool false)) fun v40 =>
  fCond v40
  (some (.bool false))
  (bindO (fBin .add x1 (.int .i64 1)) fun v41 =>
  ref02_IsName.L0 x0 v41)))))
  (bindO (fLenT x0) fun v42 =>
  bindO (fBin .geq v42 (.int .i64 1)) fun v43 =>
  fCond v43
  (bindO (fLenT x0) fun v44 =>
  bindO (fBin .leq v44 (.int .i64 16)) fun v45 =>
  some v45)
  (some (.bool false)))) := (jden_eq E 76 [] [4, 1, 0, 1] _ _).trans (by kernel_rfl)
/-! ### ramet/rametref02.place (function 141) -/
noncomputable def ref02_place.L0 (x0 : FV) (x1 : FV) (x2 : FV) : R := jden E 141 [] [4, 1, 0, 1] (mkF 19 [(0, .f x0), (1, .f x1), (5, .f x2)]) []
theorem ref02_place.eq (x0 x1 : FV) : ref02_place x0 x1 = (
  ref02_place.L0 x0 x1 (.int .i64 0)) := (den_eq E 141 [x0, x1]).trans (by kernel_rfl)
theorem ref02_place.L0_eq (x0 : FV) (x1 : FV) (x2 : FV) : ref02_place.L0 x0 x1 x2 = (
  bindO (fLen x0) fun v4 =>
  bindO (fBin .lss x2 v4) fun v5 =>
  fCond v5
  (bindO (fIdxC 1 x0 x2) fun c6 =>
  bindO (c6[0]?) fun v7 =>
  bindO (fBin .eql v7 x1) fun v8 =>
  fCond v8
  (some x2)
  (bindO (fBin .add x2 (.int .i64 1)) fun v9 =>
  ref02_place.L0 x0 x1 v9))
  (some (.int .i64 (-1)))) := (jden_eq E 141 [] [4, 1, 0, 1] _ _).trans (by kernel_rfl)
/-! ### ramet/rametref02.checkNames (function 77) -/
noncomputable def ref02_checkNames.L0 (x0 : FV) (x1 : FV) : R := jden E 77 [] [4, 1, 0, 1] (mkF 25 [(0, .f x0), (3, .f x1)]) []
theorem ref02_checkNames.eq (x0 : FV) : ref02_checkNames x0 = (
  ref02_checkNames.L0 x0 (.int .i64 0)) := (den_eq E 77 [x0]).trans (by kernel_rfl)
theorem ref02_checkNames.L0_eq (x0 : FV) (x1 : FV) : ref02_checkNames.L0 x0 x1 = (
  bindO (fLen x0) fun v3 =>
  bindO (fBin .lss x1 v3) fun v4 =>
  fCond v4
  (bindO (fIdxC 1 x0 x1) fun c5 =>
  bindO (c5[0]?) fun v6 =>
  bindO (ref02_IsName v6) fun v7 =>
  bindO (fUn .not v7) fun v8 =>
  fCond v8
  (some (.int .i64 21))
  (bindO (fCut 1 x0 none (some x1)) fun v9 =>
  bindO (fIdxC 1 x0 x1) fun c10 =>
  bindO (c10[0]?) fun v11 =>
  bindO (ref02_place v9 v11) fun v12 =>
  bindO (fBin .geq v12 (.int .i64 0)) fun v13 =>
  fCond v13
  (some (.int .i64 22))
  (bindO (fBin .add x1 (.int .i64 1)) fun v14 =>
  ref02_checkNames.L0 x0 v14)))
  (some (.int .i64 0))) := (jden_eq E 77 [] [4, 1, 0, 1] _ _).trans (by kernel_rfl)
/-! ### ramet/rametref02.portAt (function 78) -/
noncomputable def ref02_portAt.L0 (x0 : FV) (x1 : FV) (x2 : FV) : R := jden E 78 [] [4, 1, 0, 1] (mkF 20 [(0, .f x0), (1, .f x1), (5, .f x2)]) []
theorem ref02_portAt.eq (x0 x1 : FV) : ref02_portAt x0 x1 = (
  ref02_portAt.L0 x0 x1 (.int .i64 0)) := (den_eq E 78 [x0, x1]).trans (by kernel_rfl)
theorem ref02_portAt.L0_eq (x0 : FV) (x1 : FV) (x2 : FV) : ref02_portAt.L0 x0 x1 x2 = (
  bindO (fLen x0) fun v4 =>
  bindO (fBin .lss x2 v4) fun v5 =>
  fCond v5
  (bindO (fIdxC 2 x0 x2) fun c6 =>
  bindO (c6[0]?) fun v7 =>
  bindO (fBin .eql v7 x1) fun v8 =>
  fCond v8
  (some x2)
  (bindO (fBin .add x2 (.int .i64 1)) fun v9 =>
  ref02_portAt.L0 x0 x1 v9))
  (some (.int .i64 (-1)))) := (jden_eq E 78 [] [4, 1, 0, 1] _ _).trans (by kernel_rfl)
/-! ### ramet/rametref02.product (function 79) -/
noncomputable def ref02_product.L0 (x0 : FV) (x1 : FV) (x2 : FV) : R := jden E 79 [] [4, 1, 0, 1, 1] (mkF 21 [(0, .f x0), (3, .f x1), (4, .f x2)]) []
theorem ref02_product.eq (x0 : FV) : ref02_product x0 = (
  ref02_product.L0 x0 (.int .i64 1) (.int .i64 0)) := (den_eq E 79 [x0]).trans (by kernel_rfl)
theorem ref02_product.L0_eq (x0 : FV) (x1 : FV) (x2 : FV) : ref02_product.L0 x0 x1 x2 = (
  bindO (fLen x0) fun v4 =>
  bindO (fBin .lss x2 v4) fun v5 =>
  fCond v5
  (bindO (fIdxC 2 x0 x2) fun c6 =>
  bindO (c6[1]?) fun v7 =>
  bindO (fLen v7) fun v8 =>
  bindO (fBin .mul x1 v8) fun v9 =>
  bindO (fMinMax false v9 (.int .i64 2097152)) fun v10 =>
  bindO (fBin .add x2 (.int .i64 1)) fun v11 =>
  ref02_product.L0 x0 v10 v11)
  (some x1)) := (jden_eq E 79 [] [4, 1, 0, 1, 1] _ _).trans (by kernel_rfl)
/-! ### ramet/rametref02.Check (function 27) -/
noncomputable def ref02_Check.L0 (x0 : FV) (x1 : FV) (x2 : FV) (x3 : FV) (x4 : FV) (x5 : FV) : R := jden E 27 [] [1, 1] (mkF 161 [(1, .ptr 0 0 0)]) [.box [.f x0, .f x1, .f x2, .f x3, .f x4, .f x5]]
noncomputable def ref02_Check.L1 (x0 : FV) (x1 : FV) (x2 : FV) (x3 : FV) (x4 : FV) (x5 : FV) : R := jden E 27 [] [1, 1, 1, 1] (mkF 161 [(1, .ptr 0 0 0)]) [.box [.f x0, .f x1, .f x2, .f x3, .f x4, .f x5]]
noncomputable def ref02_Check.L2 (x0 : FV) (x1 : FV) (x2 : FV) (x3 : FV) (x4 : FV) (x5 : FV) (x6 : FV) (x7 : FV) (r8 : List (List FV)) : R := jden E 27 [] [4, 1, 0, 1, 1, 1, 1, 1, 1] (mkF 161 [(1, .ptr 0 0 0), (4, .f x0), (5, .f x1)]) [.box [.f x2, .f x3, .f x4, .f x5, .f x6, .f x7], .dead, .dead, .fz r8]
noncomputable def ref02_Check.L3 (x0 : FV) (x1 : FV) (x2 : FV) (x3 : FV) (x4 : FV) (x5 : FV) (x6 : FV) (x7 : FV) (r8 : List (List FV)) : R := jden E 27 [] [1, 1, 4, 0, 1, 5, 4, 1, 0, 1, 1, 1, 1, 1, 1] (mkF 161 [(1, .ptr 0 0 0), (4, .f x0), (5, .f x1)]) [.box [.f x2, .f x3, .f x4, .f x5, .f x6, .f x7], .dead, .dead, .fz r8]
noncomputable def ref02_Check.L4 (x0 : FV) (x1 : FV) (x2 : FV) (x3 : FV) (x4 : FV) (x5 : FV) (r6 : List (List FV)) : R := jden E 27 [] [1, 1, 1, 1, 1, 1, 1] (mkF 161 [(1, .ptr 0 0 0)]) [.box [.f x0, .f x1, .f x2, .f x3, .f x4, .f x5], .dead, .dead, .fz r6]
noncomputable def ref02_Check.L5 (x0 : FV) (x1 : FV) (x2 : FV) (x3 : FV) (x4 : FV) (x5 : FV) (x6 : FV) (r7 : List (List FV)) : R := jden E 27 [] [4, 1, 0, 1, 1, 1, 1, 1, 1, 1, 1, 1, 1, 1] (mkF 161 [(1, .ptr 0 0 0), (8, .f x0)]) [.box [.f x1, .f x2, .f x3, .f x4, .f x5, .f x6], .dead, .dead, .fz r7]
theorem ref02_Check.eq (x0 : FV) : ref02_Check x0 = (
  gB (fIsAgg 6 x0) <|
  bindO (ref02_IsName (fCell x0 0)) fun v1 =>
  bindO (fUn .not v1) fun v2 =>
  fCond v2
  (some (.int .i64 21))
  (bindO (fLen (fCell x0 1)) fun v3 =>
  bindO (fBin .eql v3 (.int .i64 0)) fun v4 =>
  fCond v4
  (some (.int .i64 26))
  (bindO (fLen (fCell x0 1)) fun v5 =>
  bindO (fBin .gtr v5 (.int .i64 256)) fun v6 =>
  fCond v6
  (some (.int .i64 26))
  (ref02_Check.L0 (fCell x0 0) (fCell x0 1) (fCell x0 2) (fCell x0 3) (fCell x0 4) (fCell x0 5))))) := (den_eq E 27 [x0]).trans (by kernel_rfl)
theorem ref02_Check.L0_eq (x0 : FV) (x1 : FV) (x2 : FV) (x3 : FV) (x4 : FV) (x5 : FV) : ref02_Check.L0 x0 x1 x2 x3 x4 x5 = (
  bindO (ref02_checkNames x1) fun v7 =>
  bindO (fBin .neq v7 (.int .i64 0)) fun v8 =>
  fCond v8
  (some v7)
  (bindO (fLen x3) fun v9 =>
  bindO (fBin .gtr v9 (.int .i64 8)) fun v10 =>
  fCond v10
  (some (.int .i64 26))
  (bindO (fLen x4) fun v11 =>
  bindO (fBin .gtr v11 (.int .i64 8)) fun v12 =>
  fCond v12
  (some (.int .i64 26))
  (ref02_Check.L1 x0 x1 x2 x3 x4 x5)))) := (jden_eq E 27 [] [1, 1] _ _).trans (by kernel_rfl)
theorem ref02_Check.L1_eq (x0 : FV) (x1 : FV) (x2 : FV) (x3 : FV) (x4 : FV) (x5 : FV) : ref02_Check.L1 x0 x1 x2 x3 x4 x5 = (
  bindO (asRows x3) fun r7 =>
  gB (rowsSz 2 r7) <|
  gB (decide ((0 + r7.length) * 40 ≤ room)) <|
  bindO (asRows x4) fun r8 =>
  gB (rowsSz 2 r8) <|
  gB (decide ((([] ++ r7).length + r8.length) * 40 ≤ room)) <|
  ref02_Check.L2 (.arr (([] ++ r7) ++ r8)) (.int .i64 0) x0 x1 x2 x3 x4 x5 (([] ++ r7) ++ r8)) := (jden_eq E 27 [] [1, 1, 1, 1] _ _).trans (by kernel_rfl)
theorem ref02_Check.L2_eq (x0 : FV) (x1 : FV) (x2 : FV) (x3 : FV) (x4 : FV) (x5 : FV) (x6 : FV) (x7 : FV) (r8 : List (List FV)) : ref02_Check.L2 x0 x1 x2 x3 x4 x5 x6 x7 r8 = (
  bindO (fLen x0) fun v10 =>
  bindO (fBin .lss x1 v10) fun v11 =>
  fCond v11
  (bindO (fIdxC 2 x0 x1) fun c12 =>
  bindO (c12[0]?) fun v13 =>
  bindO (ref02_IsName v13) fun v14 =>
  bindO (fUn .not v14) fun v15 =>
  fCond v15
  (some (.int .i64 21))
  (bindO (fCut 2 x0 none (some x1)) fun v16 =>
  bindO (fIdxC 2 x0 x1) fun c17 =>
  bindO (c17[0]?) fun v18 =>
  bindO (ref02_portAt v16 v18) fun v19 =>
  bindO (fBin .geq v19 (.int .i64 0)) fun v20 =>
  fCond v20
  (some (.int .i64 22))
  (bindO (fIdxC 2 x0 x1) fun c21 =>
  bindO (c21[1]?) fun v22 =>
  bindO (fLen v22) fun v23 =>
  bindO (fBin .eql v23 (.int .i64 0)) fun v24 =>
  fCond v24
  (some (.int .i64 26))
  (bindO (fIdxC 2 x0 x1) fun c25 =>
  bindO (c25[1]?) fun v26 =>
  bindO (fLen v26) fun v27 =>
  bindO (fBin .gtr v27 (.int .i64 64)) fun v28 =>
  fCond v28
  (some (.int .i64 26))
  (ref02_Check.L3 x0 x1 x2 x3 x4 x5 x6 x7 r8)))))
  (bindO (fBin .lss x4 (.int .i64 0)) fun v29 =>
  fCond v29
  (some (.int .i64 27))
  (bindO (fLen x3) fun v30 =>
  bindO (fBin .geq x4 v30) fun v31 =>
  fCond v31
  (some (.int .i64 27))
  (ref02_Check.L4 x2 x3 x4 x5 x6 x7 r8)))) := (jden_eq E 27 [] [4, 1, 0, 1, 1, 1, 1, 1, 1] _ _).trans (by kernel_rfl)
theorem ref02_Check.L3_eq (x0 : FV) (x1 : FV) (x2 : FV) (x3 : FV) (x4 : FV) (x5 : FV) (x6 : FV) (x7 : FV) (r8 : List (List FV)) : ref02_Check.L3 x0 x1 x2 x3 x4 x5 x6 x7 r8 = (
  bindO (fIdxC 2 x0 x1) fun c10 =>
  bindO (c10[1]?) fun v11 =>
  bindO (ref02_checkNames v11) fun v12 =>
  bindO (fBin .neq v12 (.int .i64 0)) fun v13 =>
  fCond v13
  (some v12)
  (bindO (fBin .add x1 (.int .i64 1)) fun v14 =>
  ref02_Check.L2 x0 v14 x2 x3 x4 x5 x6 x7 r8)) := (jden_eq E 27 [] [1, 1, 4, 0, 1, 5, 4, 1, 0, 1, 1, 1, 1, 1, 1] _ _).trans (by kernel_rfl)
theorem ref02_Check.L4_eq (x0 : FV) (x1 : FV) (x2 : FV) (x3 : FV) (x4 : FV) (x5 : FV) (r6 : List (List FV)) : ref02_Check.L4 x0 x1 x2 x3 x4 x5 r6 = (
  bindO (ref02_product x3) fun v8 =>
  bindO (fLen x1) fun v9 =>
  bindO (fBin .mul v9 v8) fun v10 =>
  bindO (fBin .gtr v10 (.int .i64 4096)) fun v11 =>
  fCond v11
  (some (.int .i64 26))
  (bindO (fLen x5) fun v12 =>
  bindO (fLen x1) fun v13 =>
  bindO (fBin .mul v13 v8) fun v14 =>
  bindO (fBin .neq v12 v14) fun v15 =>
  fCond v15
  (some (.int .i64 23))
  (ref02_Check.L5 (.int .i64 0) x0 x1 x2 x3 x4 x5 r6))) := (jden_eq E 27 [] [1, 1, 1, 1, 1, 1, 1] _ _).trans (by kernel_rfl)
theorem ref02_Check.L5_eq (x0 : FV) (x1 : FV) (x2 : FV) (x3 : FV) (x4 : FV) (x5 : FV) (x6 : FV) (r7 : List (List FV)) : ref02_Check.L5 x0 x1 x2 x3 x4 x5 x6 r7 = (
  bindO (fLen x6) fun v9 =>
  bindO (fBin .lss x0 v9) fun v10 =>
  fCond v10
  (bindO (fIdxC 2 x6 x0) fun c11 =>
  bindO (c11[0]?) fun v12 =>
  bindO (fBin .lss v12 (.int .i64 0)) fun v13 =>
  fCond v13
  (some (.int .i64 27))
  (bindO (fIdxC 2 x6 x0) fun c14 =>
  bindO (c14[0]?) fun v15 =>
  bindO (fLen x2) fun v16 =>
  bindO (fBin .geq v15 v16) fun v17 =>
  fCond v17
  (some (.int .i64 27))
  (bindO (fIdxC 2 x6 x0) fun c18 =>
  bindO (c18[1]?) fun v19 =>
  bindO (ref02_right x5 v19) fun v20 =>
  bindO (fUn .not v20) fun v21 =>
  fCond v21
  (some (.int .i64 27))
  (bindO (fBin .add x0 (.int .i64 1)) fun v22 =>
  ref02_Check.L5 v22 x1 x2 x3 x4 x5 x6 r7))))
  (some (.int .i64 0))) := (jden_eq E 27 [] [4, 1, 0, 1, 1, 1, 1, 1, 1, 1, 1, 1, 1, 1] _ _).trans (by kernel_rfl)
/-! ### ramet/rametref02.Index (function 139) -/
noncomputable def ref02_Index.L0 (x0 : FV) (x1 : FV) (x2 : FV) (x3 : FV) : R := jden E 139 [] [4, 1, 0, 1, 1] (mkF 27 [(0, .f x0), (1, .f x1), (5, .f x2), (6, .f x3)]) []
theorem ref02_Index.eq (x0 x1 : FV) : ref02_Index x0 x1 = (
  ref02_Index.L0 x0 x1 (.int .i64 0) (.int .i64 0)) := (den_eq E 139 [x0, x1]).trans (by kernel_rfl)
theorem ref02_Index.L0_eq (x0 : FV) (x1 : FV) (x2 : FV) (x3 : FV) : ref02_Index.L0 x0 x1 x2 x3 = (
  bindO (fLen x0) fun v5 =>
  bindO (fBin .lss x3 v5) fun v6 =>
  fCond v6
  (bindO (fIdxC 2 x0 x3) fun c7 =>
  bindO (c7[1]?) fun v8 =>
  bindO (fLen v8) fun v9 =>
  bindO (fBin .mul x2 v9) fun v10 =>
  bindO (fIdxC 1 x1 x3) fun c11 =>
  bindO (c11[0]?) fun v12 =>
  bindO (fBin .add v10 v12) fun v13 =>
  bindO (fBin .add x3 (.int .i64 1)) fun v14 =>
  ref02_Index.L0 x0 x1 v13 v14)
  (some x2)) := (jden_eq E 139 [] [4, 1, 0, 1, 1] _ _).trans (by kernel_rfl)
/-! ### ramet/rametref02.one (function 57) -/
theorem ref02_one.eq (x0 x1 x2 : FV) : ref02_one x0 x1 x2 = (
  gB (fIsAgg 6 x0) <|
  bindO (ref02_product (fCell x0 3)) fun v1 =>
  bindO (fBin .mul x1 v1) fun v2 =>
  bindO (ref02_Index (fCell x0 3) x2) fun v3 =>
  bindO (fBin .add v2 v3) fun v4 =>
  bindO (fIdxC 2 (fCell x0 5) v4) fun c5 =>
  bindO (c5[0]?) fun v6 =>
  bindO (c5[1]?) fun v7 =>
  some (.agg [v6, v7])) := (den_eq E 57 [x0, x1, x2]).trans (by kernel_rfl)
/-! ### ramet/rametref02.Run (function 17) -/
noncomputable def ref02_Run.L0 (x0 : FV) (x1 : FV) (x2 : FV) (x3 : FV) (x4 : FV) (x5 : FV) (x6 : FV) (x7 : FV) (x8 : FV) (r9 : List (List FV)) : R := jden E 17 [] [4, 1, 0, 1, 1, 1, 1, 1] (mkF 54 [(1, .f x0), (2, .ptr 0 0 0), (8, .ref 1), (9, .f x1), (10, .f x2)]) [.box [.f x3, .f x4, .f x5, .f x6, .f x7, .f x8], .own 1 r9]
theorem ref02_Run.eq (x0 x1 : FV) : ref02_Run x0 x1 = (
  gB (fIsAgg 6 x0) <|
  bindO (ref02_Check (.agg [(fCell x0 0), (fCell x0 1), (fCell x0 2), (fCell x0 3), (fCell x0 4), (fCell x0 5)])) fun v1 =>
  bindO (fBin .neq v1 (.int .i64 0)) fun v2 =>
  fCond v2
  (some (.tup [.nilS, .int .i64 0, v1]))
  (bindO (fLen x1) fun v3 =>
  bindO (fBin .gtr v3 (.int .i64 4096)) fun v4 =>
  fCond v4
  (some (.tup [.nilS, .int .i64 0, .int .i64 26]))
  (ref02_Run.L0 x1 (fCell x0 2) (.int .i64 0) (fCell x0 0) (fCell x0 1) (fCell x0 2) (fCell x0 3) (fCell x0 4) (fCell x0 5) []))) := (den_eq E 17 [x0, x1]).trans (by kernel_rfl)
theorem ref02_Run.L0_eq (x0 : FV) (x1 : FV) (x2 : FV) (x3 : FV) (x4 : FV) (x5 : FV) (x6 : FV) (x7 : FV) (x8 : FV) (r9 : List (List FV)) : ref02_Run.L0 x0 x1 x2 x3 x4 x5 x6 x7 x8 r9 = (
  bindO (fLen x0) fun v11 =>
  bindO (fBin .lss x2 v11) fun v12 =>
  fCond v12
  (bindO (fIdxC 1 x0 x2) fun c13 =>
  bindO (c13[0]?) fun v14 =>
  bindO (ref02_right x6 v14) fun v15 =>
  bindO (fUn .not v15) fun v16 =>
  fCond v16
  (some (.tup [.nilS, .int .i64 0, .int .i64 27]))
  (bindO (fIdxC 1 x0 x2) fun c17 =>
  bindO (c17[0]?) fun v18 =>
  bindO (ref02_one (.agg [x3, x4, x5, x6, x7, x8]) x1 v18) fun v19 =>
  gB (fIsAgg 2 v19) <|
  bindO (asRows (fCell v19 1)) fun r20 =>
  gB (rowsSz 1 r20) <|
  gB (decide ((0 + r20.length) * 8 ≤ room)) <|
  gB (decide ((r9.length + 1) * 24 ≤ room)) <|
  bindO (fBin .add x2 (.int .i64 1)) fun v21 =>
  ref02_Run.L0 x0 (fCell v19 0) v21 x3 x4 x5 x6 x7 x8 (r9 ++ [[.arr ([] ++ r20)]])))
  (some (.tup [.arr r9, x1, .int .i64 0]))) := (jden_eq E 17 [] [4, 1, 0, 1, 1, 1, 1, 1] _ _).trans (by kernel_rfl)
/-! ### ramet/mach.fit (function 58) -/
noncomputable def mach_fit.L0 (x0 : FV) (x1 : FV) (x2 : FV) (x3 : FV) : R := jden E 58 [] [4, 1, 0, 1, 1] (mkF 32 [(0, .f x0), (12, .f x1), (13, .f x2), (14, .f x3)]) []
theorem mach_fit.eq (x0 x1 : FV) : mach_fit x0 x1 = (
  bindO (fLen x0) fun v1 =>
  bindO (fLen x1) fun v2 =>
  bindO (fBin .neq v1 v2) fun v3 =>
  fCond v3
  (some (.bool false))
  (bindO (fLen x1) fun v4 =>
  mach_fit.L0 x0 x1 v4 (.int .i64 0))) := (den_eq E 58 [x0, x1]).trans (by kernel_rfl)
theorem mach_fit.L0_eq (x0 : FV) (x1 : FV) (x2 : FV) (x3 : FV) : mach_fit.L0 x0 x1 x2 x3 = (
  bindO (fBin .lss x3 x2) fun v5 =>
  fCond v5
  (bindO (fIdxC 1 x1 x3) fun c6 =>
  bindO (c6[0]?) fun v7 =>
  bindO (fBin .lss v7 (.int .i64 0)) fun v8 =>
  fCond v8
  (some (.bool false))
  (bindO (fIdxC 2 x0 x3) fun c9 =>
  bindO (c9[1]?) fun v10 =>
  bindO (fLen v10) fun v11 =>
  bindO (fBin .geq v7 v11) fun v12 =>
  fCond v12
  (some (.bool false))
  (bindO (fBin .add x3 (.int .i64 1)) fun v13 =>
  mach_fit.L0 x0 x1 x2 v13)))
  (some (.bool true))) := (jden_eq E 58 [] [4, 1, 0, 1, 1] _ _).trans (by kernel_rfl)
/-! ### ramet/mach.product (function 59) -/
noncomputable def mach_product.L0 (x0 : FV) (x1 : FV) (x2 : FV) (x3 : FV) : R := jden E 59 [] [4, 1, 0, 1, 1] (mkF 21 [(3, .f x0), (6, .f x1), (7, .f x2), (8, .f x3)]) []
theorem mach_product.eq (x0 : FV) : mach_product x0 = (
  bindO (fLen x0) fun v1 =>
  mach_product.L0 (.int .i64 1) x0 v1 (.int .i64 0)) := (den_eq E 59 [x0]).trans (by kernel_rfl)
theorem mach_product.L0_eq (x0 : FV) (x1 : FV) (x2 : FV) (x3 : FV) : mach_product.L0 x0 x1 x2 x3 = (
  bindO (fBin .lss x3 x2) fun v5 =>
  fCond v5
  (bindO (fIdxC 2 x1 x3) fun c6 =>
  bindO (c6[0]?) fun v7 =>
  bindO (c6[1]?) fun v8 =>
  bindO (fLen v8) fun v9 =>
  bindO (fBin .mul x0 v9) fun v10 =>
  bindO (fBin .gtr v10 (.int .i64 1099511627776)) fun v11 =>
  fCond v11
  (some (.int .i64 1099511627776))
  (bindO (fBin .add x3 (.int .i64 1)) fun v12 =>
  mach_product.L0 v10 x1 x2 v12))
  (some x0)) := (jden_eq E 59 [] [4, 1, 0, 1, 1] _ _).trans (by kernel_rfl)
/-! ### ramet/mach.isName (function 89) -/
noncomputable def mach_isName.L0 (x0 : FV) (x1 : FV) (k2 : Nat) : R := jden E 89 [] [4, 1, 0, 1, 1] (mkF 42 [(3, .f x0), (7, .it 0)]) [.sit x1 k2]
theorem mach_isName.eq (x0 : FV) : mach_isName x0 = (
  gB (isStrF x0) <|
  mach_isName.L0 (.int .i64 0) x0 0) := (den_eq E 89 [x0]).trans (by kernel_rfl)
theorem mach_isName.L0_eq (x0 : FV) (x1 : FV) (k2 : Nat) : mach_isName.L0 x0 x1 k2 = (
  bindO (fNext x1 k2) fun v4 =>
  fCond (.bool v4.1)
  (bindO (fBin .geq (.int .i32 v4.2.1) (.int .i32 65)) fun v5 =>
  fCond v5
  (bindO (fBin .leq (.int .i32 v4.2.1) (.int .i32 90)) fun v6 =>
  fCond v6
  (bindO (fUn .not (.bool true)) fun v7 =>
  fCond v7
  (some (.bool false))
  (bindO (fBin .add x0 (.int .i64 1)) fun v8 =>
  mach_isName.L0 v8 x1 v4.2.2))
  (bindO (fBin .geq (.int .i32 v4.2.1) (.int .i32 97)) fun v9 =>
  fCond v9
  (bindO (fBin .leq (.int .i32 v4.2.1) (.int .i32 122)) fun v10 =>
  fCond v10
  (bindO (fUn .not (.bool true)) fun v11 =>
  fCond v11
  (some (.bool false))
  (bindO (fBin .add x0 (.int .i64 1)) fun v12 =>
  mach_isName.L0 v12 x1 v4.2.2))
  (bindO (fBin .geq (.int .i32 v4.2.1) (.int .i32 48)) fun v13 =>
  fCond v13
  (bindO (fBin .leq (.int .i32 v4.2.1) (.int .i32 57)) fun v14 =>
  bindO (fUn .not v14) fun v15 =>
  fCond v15
  (some (.bool false))
  (bindO (fBin .add x0 (.int .i64 1)) fun v16 =>
  mach_isName.L0 v16 x1 v4.2.2))
  (bindO (fUn .not (.bool false)) fun v17 =>
  fCond v17
  (some (.bool false))
  (bindO (fBin .add x0 (.int .i64 1)) fun v18 =>
  mach_isName.L0 v18 x1 v4.2.2))))
  (bindO (fBin .geq (.int .i32 v4.2.1) (.int .i32 48)) fun v19 =>
  fCond v19
  (bindO (fBin .leq (.int .i32 v4.2.1) (.int .i32 57)) fun v20 =>
  bindO (fUn .not v20) fun v21 =>
  fCond v21
  (some (.bool false))
  (bindO (fBin .add x0 (.int .i64 1)) fun v22 =>
  mach_isName.L0 v22 x1 v4.2.2))
  (bindO (fUn .not (.bool false)) fun v23 =>
  fCond v23
  (some (.bool false))
  (bindO (fBin .add x0 (.int .i64 1)) fun v24 =>
  mach_isName.L0 v24 x1 v4.2.2)))))
  (bindO (fBin .geq (.int .i32 v4.2.1) (.int .i32 97)) fun v25 =>
  fCond v25
  (bindO (fBin .leq (.int .i32 v4.2.1) (.int .i32 122)) fun v26 =>
  fCond v26
  (bindO (fUn .not (.bool true)) fun v27 =>
  fCond v27
  (some (.bool false))
  (bindO (fBin .add x0 (.int .i64 1)) fun v28 =>
  mach_isName.L0 v28 x1 v4.2.2))
  (bindO (fBin .geq (.int .i32 v4.2.1) (.int .i32 48)) fun v29 =>
  fCond v29
  (bindO (fBin .leq (.int .i32 v4.2.1) (.int .i32 57)) fun v30 =>
  bindO (fUn .not v30) fun v31 =>
  fCond v31
  (some (.bool false))
  (bindO (fBin .add x0 (.int .i64 1)) fun v32 =>
  mach_isName.L0 v32 x1 v4.2.2))
  (bindO (fUn .not (.bool false)) fun v33 =>
  fCond v33
  (some (.bool false))
  (bindO (fBin .add x0 (.int .i64 1)) fun v34 =>
  mach_isName.L0 v34 x1 v4.2.2))))
  (bindO (fBin .geq (.int .i32 v4.2.1) (.int .i32 48)) fun v35 =>
  fCond v35
  (bindO (fBin .leq (.int .i32 v4.2.1) (.int .i32 57)) fun v36 =>
  bindO (fUn .not v36) fun v37 =>
  fCond v37
  (some (.bool false))
  (bindO (fBin .add x0 (.int .i64 1)) fun v38 =>
  mach_isName.L0 v38 x1 v4.2.2))
  (bindO (fUn .not (.bool false)) fun v39 =>
  fCond v39
  (some (.bool false))
  (bindO (fBin .add x0 (.int .i64 1)) fun v40 =>
  mach_isName.L0 v40 x1 v4.2.2)))))
  (bindO (fBin .geq x0 (.int .i64 1)) fun v41 =>
  fCond v41
  (bindO (fBin .leq x0 (.int .i64 16)) fun v42 =>
  some v42)
  (some (.bool false)))) := (jden_eq E 89 [] [4, 1, 0, 1, 1] _ _).trans (by kernel_rfl)
/-! ### ramet/mach.names (function 90) -/
noncomputable def mach_names.L0 (x0 : FV) (x1 : FV) (x2 : FV) (es3 : List (FV × FV)) : R := jden E 90 [] [4, 1, 0, 1, 1] (mkF 22 [(3, .mp 0), (7, .f x0), (8, .f x1), (9, .f x2)]) [.map false es3]
theorem mach_names.eq (x0 : FV) : mach_names x0 = (
  bindO (fLen x0) fun v1 =>
  mach_names.L0 x0 v1 (.int .i64 0) []) := (den_eq E 90 [x0]).trans (by kernel_rfl)
theorem mach_names.L0_eq (x0 : FV) (x1 : FV) (x2 : FV) (es3 : List (FV × FV)) : mach_names.L0 x0 x1 x2 es3 = (
  bindO (fBin .lss x2 x1) fun v5 =>
  fCond v5
  (bindO (fIdxC 1 x0 x2) fun c6 =>
  bindO (c6[0]?) fun v7 =>
  bindO (mach_isName v7) fun v8 =>
  bindO (fUn .not v8) fun v9 =>
  fCond v9
  (some (.int .i64 21))
  (bindO (mLook false [.str] es3 v7 (.bool false)) fun v10 =>
  fCond v10.1
  (some (.int .i64 22))
  (gB (keyOk false [.str] v7) <|
  bindO (mPut false [.str] es3 v7 (.bool true)) fun es11 =>
  bindO (fBin .add x2 (.int .i64 1)) fun v12 =>
  mach_names.L0 x0 x1 v12 es11)))
  (some (.int .i64 0))) := (jden_eq E 90 [] [4, 1, 0, 1, 1] _ _).trans (by kernel_rfl)
/-! ### slices.Concat[[]ramet/api.Port,ramet/api.Port] (function 143) -/
noncomputable def slices_Concat_api_Port.L0 (x0 : FV) (x1 : FV) (x2 : FV) (x3 : FV) (x4 : FV) : R := jden E 143 [] [4, 1, 0, 1, 1] (mkF 36 [(0, .f x0), (3, .f x1), (9, .f x2), (10, .f x3), (11, .f x4)]) []
noncomputable def slices_Concat_api_Port.L1 (x0 : FV) (x1 : FV) (x2 : FV) (r3 : List (List FV)) : R := jden E 143 [] [4, 1, 0, 1, 1, 1, 1] (mkF 36 [(6, .ref 0), (25, .f x0), (26, .f x1), (27, .f x2)]) [.own 2 r3]
theorem slices_Concat_api_Port.eq (x0 : FV) : slices_Concat_api_Port x0 = (
  bindO (fLen x0) fun v1 =>
  slices_Concat_api_Port.L0 x0 (.int .i64 0) x0 v1 (.int .i64 0)) := (den_eq E 143 [x0]).trans (by kernel_rfl)
theorem slices_Concat_api_Port.L0_eq (x0 : FV) (x1 : FV) (x2 : FV) (x3 : FV) (x4 : FV) : slices_Concat_api_Port.L0 x0 x1 x2 x3 x4 = (
  bindO (fBin .lss x4 x3) fun v6 =>
  fCond v6
  (bindO (fIdxC 1 x2 x4) fun c7 =>
  bindO (c7[0]?) fun v8 =>
  bindO (fLen v8) fun v9 =>
  bindO (fBin .add x1 v9) fun v10 =>
  bindO (fBin .lss v10 (.int .i64 0)) fun v11 =>
  fCond v11
  (none)
  (bindO (fBin .add x4 (.int .i64 1)) fun v12 =>
  slices_Concat_api_Port.L0 x0 v10 x2 x3 v12))
  (bindO (fBin .lss x1 (.int .i64 0)) fun v13 =>
  fCond v13
  (none)
  (bindO (fCap .nilS) fun v14 =>
  bindO (fLen .nilS) fun v15 =>
  bindO (fBin .sub v14 v15) fun v16 =>
  bindO (fBin .sub x1 v16) fun v17 =>
  bindO (fBin .gtr v17 (.int .i64 0)) fun v18 =>
  fCond v18
  (bindO (fCap .nilS) fun v19 =>
  bindO (fCut 2 .nilS none (some v19)) fun v20 =>
  onNil v20 <|
  bindO (asNat v17) fun j21 =>
  gB (decide (j21 * 40 ≤ room)) <|
  bindO (fLen .nilS) fun v22 =>
  bindO (cut? ((List.replicate j21 [(.str [] : FV), .nilS]).length) none (some v22)) fun q24 =>
  bindO (fLen x0) fun v25 =>
  slices_Concat_api_Port.L1 x0 v25 (.int .i64 0) (((List.replicate j21 [(.str [] : FV), .nilS]).take q24.2).drop q24.1))
  (bindO (fLen x0) fun v26 =>
  slices_Concat_api_Port.L1 x0 v26 (.int .i64 0) [])))) := (jden_eq E 143 [] [4, 1, 0, 1, 1] _ _).trans (by kernel_rfl)
theorem slices_Concat_api_Port.L1_eq (x0 : FV) (x1 : FV) (x2 : FV) (r3 : List (List FV)) : slices_Concat_api_Port.L1 x0 x1 x2 r3 = (
  bindO (fBin .lss x2 x1) fun v5 =>
  fCond v5
  (bindO (fIdxC 1 x0 x2) fun c6 =>
  bindO (c6[0]?) fun v7 =>
  bindO (asRows v7) fun r8 =>
  gB (rowsSz 2 r8) <|
  gB (decide ((r3.length + r8.length) * 40 ≤ room)) <|
  bindO (fBin .add x2 (.int .i64 1)) fun v9 =>
  slices_Concat_api_Port.L1 x0 x1 v9 (r3 ++ r8))
  (some (.arr r3))) := (jden_eq E 143 [] [4, 1, 0, 1, 1, 1, 1] _ _).trans (by kernel_rfl)
/-! ### ramet/mach.checkPorts (function 91) -/
noncomputable def mach_checkPorts.L0 (x0 : FV) (x1 : FV) (x2 : FV) (x3 : FV) (x4 : FV) (x5 : FV) : R := jden E 91 [] [1] (mkF 60 [(1, .ptr 0 0 0)]) [.box [.f x0, .f x1, .f x2, .f x3, .f x4, .f x5]]
noncomputable def mach_checkPorts.L1 (x0 : FV) (x1 : FV) (x2 : FV) (x3 : FV) (x4 : FV) (x5 : FV) (x6 : FV) (x7 : FV) (x8 : FV) (es9 : List (FV × FV)) (r10 : List (List FV)) : R := jden E 91 [] [4, 1, 0, 1, 1, 1] (mkF 60 [(3, .mp 1), (23, .f x0), (24, .f x1), (25, .f x2)]) [.box [.f x3, .f x4, .f x5, .f x6, .f x7, .f x8], .map false es9, .fz r10]
noncomputable def mach_checkPorts.L3 (x0 : FV) (x1 : FV) (x2 : FV) (x3 : FV) (x4 : FV) (x5 : FV) (x6 : FV) (x7 : FV) (x8 : FV) (es9 : List (FV × FV)) (r10 : List (List FV)) (x11 : FV) (x12 : FV) : R := jden E 91 [] [0, 1, 4, 0, 1, 1, 5, 4, 1, 0, 1, 1, 1] (mkF 60 [(3, .mp 1), (5, .ptr 3 0 0), (23, .f x0), (24, .f x1), (25, .f x2)]) [.box [.f x3, .f x4, .f x5, .f x6, .f x7, .f x8], .map false es9, .fz r10, .box [.f x11, .f x12]]
noncomputable def mach_checkPorts.L2 (x0 : FV) (x1 : FV) (x2 : FV) (x3 : FV) (x4 : FV) (x5 : FV) (x6 : FV) (x7 : FV) (x8 : FV) (es9 : List (FV × FV)) (r10 : List (List FV)) (x11 : FV) (x12 : FV) : R := jden E 91 [] [1, 4, 0, 1, 1, 5, 4, 1, 0, 1, 1, 1] (mkF 60 [(3, .mp 1), (5, .ptr 3 0 0), (23, .f x0), (24, .f x1), (25, .f x2)]) [.box [.f x3, .f x4, .f x5, .f x6, .f x7, .f x8], .map false es9, .fz r10, .box [.f x11, .f x12]]
theorem mach_checkPorts.eq (x0 : FV) : mach_checkPorts x0 = (
  gB (fIsAgg 6 x0) <|
  bindO (fLen (fCell x0 3)) fun v1 =>
  bindO (fBin .gtr v1 (.int .i64 8)) fun v2 =>
  fCond v2
  (some (.int .i64 26))
  (bindO (fLen (fCell x0 4)) fun v3 =>
  bindO (fBin .gtr v3 (.int .i64 8)) fun v4 =>
  fCond v4
  (some (.int .i64 26))
  (mach_checkPorts.L0 (fCell x0 0) (fCell x0 1) (fCell x0 2) (fCell x0 3) (fCell x0 4) (fCell x0 5)))) := (den_eq E 91 [x0]).trans (by kernel_rfl)
theorem mach_checkPorts.L0_eq (x0 : FV) (x1 : FV) (x2 : FV) (x3 : FV) (x4 : FV) (x5 : FV) : mach_checkPorts.L0 x0 x1 x2 x3 x4 x5 = (
  bindO (slices_Concat_api_Port (.arr [[x3], [x4]])) fun v7 =>
  bindO (fLen v7) fun v8 =>
  mach_checkPorts.L1 v7 v8 (.int .i64 0) x0 x1 x2 x3 x4 x5 [] [[x3], [x4]]) := (jden_eq E 91 [] [1] _ _).trans (by kernel_rfl)
theorem mach_checkPorts.L1_eq (x0 : FV) (x1 : FV) (x2 : FV) (x3 : FV) (x4 : FV) (x5 : FV) (x6 : FV) (x7 : FV) (x8 : FV) (es9 : List (FV × FV)) (r10 : List (List FV)) : mach_checkPorts.L1 x0 x1 x2 x3 x4 x5 x6 x7 x8 es9 r10 = (
  bindO (fBin .lss x2 x1) fun v12 =>
  fCond v12
  (bindO (fIdxC 2 x0 x2) fun c13 =>
  bindO (c13[0]?) fun v14 =>
  bindO (c13[1]?) fun v15 =>
  bindO (mach_isName v14) fun v16 =>
  bindO (fUn .not v16) fun v17 =>
  fCond v17
  (some (.int .i64 21))
  (bindO (mLook false [.str] es9 v14 (.bool false)) fun v18 =>
  fCond v18.1
  (some (.int .i64 22))
  (bindO (fLen v15) fun v19 =>
  bindO (fBin .eql v19 (.int .i64 0)) fun v20 =>
  fCond v20
  (some (.int .i64 26))
  (bindO (fLen v15) fun v21 =>
  bindO (fBin .gtr v21 (.int .i64 64)) fun v22 =>
  fCond v22
  (some (.int .i64 26))
  (mach_checkPorts.L3 x0 x1 x2 x3 x4 x5 x6 x7 x8 es9 r10 v14 v15)))))
  (some (.int .i64 0))) := (jden_eq E 91 [] [4, 1, 0, 1, 1, 1] _ _).trans (by kernel_rfl)
theorem mach_checkPorts.L3_eq (x0 : FV) (x1 : FV) (x2 : FV) (x3 : FV) (x4 : FV) (x5 : FV) (x6 : FV) (x7 : FV) (x8 : FV) (es9 : List (FV × FV)) (r10 : List (List FV)) (x11 : FV) (x12 : FV) : mach_checkPorts.L3 x0 x1 x2 x3 x4 x5 x6 x7 x8 es9 r10 x11 x12 = (
  mach_checkPorts.L2 x0 x1 x2 x3 x4 x5 x6 x7 x8 es9 r10 x11 x12) := (jden_eq E 91 [] [0, 1, 4, 0, 1, 1, 5, 4, 1, 0, 1, 1, 1] _ _).trans (by kernel_rfl)
theorem mach_checkPorts.L2_eq (x0 : FV) (x1 : FV) (x2 : FV) (x3 : FV) (x4 : FV) (x5 : FV) (x6 : FV) (x7 : FV) (x8 : FV) (es9 : List (FV × FV)) (r10 : List (List FV)) (x11 : FV) (x12 : FV) : mach_checkPorts.L2 x0 x1 x2 x3 x4 x5 x6 x7 x8 es9 r10 x11 x12 = (
  gB (keyOk false [.str] x11) <|
  bindO (mPut false [.str] es9 x11 (.bool true)) fun es14 =>
  bindO (mach_names x12) fun v15 =>
  bindO (fBin .neq v15 (.int .i64 0)) fun v16 =>
  fCond v16
  (some v15)
  (bindO (fBin .add x2 (.int .i64 1)) fun v17 =>
  mach_checkPorts.L1 x0 x1 v17 x3 x4 x5 x6 x7 x8 es14 r10)) := (jden_eq E 91 [] [1, 4, 0, 1, 1, 5, 4, 1, 0, 1, 1, 1] _ _).trans (by kernel_rfl)
/-! ### ramet/mach.Check (function 29) -/
noncomputable def mach_Check.L0 (x0 : FV) (x1 : FV) (x2 : FV) (x3 : FV) (x4 : FV) (x5 : FV) : R := jden E 29 [] [1, 1] (mkF 85 [(1, .ptr 0 0 0)]) [.box [.f x0, .f x1, .f x2, .f x3, .f x4, .f x5]]
noncomputable def mach_Check.L1 (x0 : FV) (x1 : FV) (x2 : FV) (x3 : FV) (x4 : FV) (x5 : FV) : R := jden E 29 [] [1, 1, 1, 1, 1] (mkF 85 [(1, .ptr 0 0 0)]) [.box [.f x0, .f x1, .f x2, .f x3, .f x4, .f x5]]
noncomputable def mach_Check.L2 (x0 : FV) (x1 : FV) (x2 : FV) (x3 : FV) (x4 : FV) (x5 : FV) (x6 : FV) (x7 : FV) (x8 : FV) : R := jden E 29 [] [4, 1, 0, 1, 1, 1, 1, 1, 1, 1, 1, 1] (mkF 85 [(1, .ptr 0 0 0), (59, .f x0), (60, .f x1), (61, .f x2)]) [.box [.f x3, .f x4, .f x5, .f x6, .f x7, .f x8]]
theorem mach_Check.eq (x0 : FV) : mach_Check x0 = (
  gB (fIsAgg 6 x0) <|
  bindO (mach_isName (fCell x0 0)) fun v1 =>
  bindO (fUn .not v1) fun v2 =>
  fCond v2
  (some (.int .i64 21))
  (bindO (fLen (fCell x0 1)) fun v3 =>
  bindO (fBin .eql v3 (.int .i64 0)) fun v4 =>
  fCond v4
  (some (.int .i64 26))
  (bindO (fLen (fCell x0 1)) fun v5 =>
  bindO (fBin .gtr v5 (.int .i64 256)) fun v6 =>
  fCond v6
  (some (.int .i64 26))
  (mach_Check.L0 (fCell x0 0) (fCell x0 1) (fCell x0 2) (fCell x0 3) (fCell x0 4) (fCell x0 5))))) := (den_eq E 29 [x0]).trans (by kernel_rfl)
theorem mach_Check.L0_eq (x0 : FV) (x1 : FV) (x2 : FV) (x3 : FV) (x4 : FV) (x5 : FV) : mach_Check.L0 x0 x1 x2 x3 x4 x5 = (
  bindO (mach_names x1) fun v7 =>
  bindO (fBin .neq v7 (.int .i64 0)) fun v8 =>
  fCond v8
  (some v7)
  (bindO (mach_checkPorts (.agg [x0, x1, x2, x3, x4, x5])) fun v9 =>
  bindO (fBin .neq v9 (.int .i64 0)) fun v10 =>
  fCond v10
  (some v9)
  (bindO (fBin .lss x2 (.int .i64 0)) fun v11 =>
  fCond v11
  (some (.int .i64 27))
  (bindO (fLen x1) fun v12 =>
  bindO (fBin .geq x2 v12) fun v13 =>
  fCond v13
  (some (.int .i64 27))
  (mach_Check.L1 x0 x1 x2 x3 x4 x5))))) := (jden_eq E 29 [] [1, 1] _ _).trans (by kernel_rfl)
theorem mach_Check.L1_eq (x0 : FV) (x1 : FV) (x2 : FV) (x3 : FV) (x4 : FV) (x5 : FV) : mach_Check.L1 x0 x1 x2 x3 x4 x5 = (
  bindO (fLen x1) fun v7 =>
  bindO (mach_product x3) fun v8 =>
  bindO (fBin .mul v7 v8) fun v9 =>
  bindO (fBin .gtr v9 (.int .i64 4096)) fun v10 =>
  fCond v10
  (some (.int .i64 26))
  (bindO (fLen x5) fun v11 =>
  bindO (fBin .neq v11 v9) fun v12 =>
  fCond v12
  (some (.int .i64 23))
  (bindO (fLen x5) fun v13 =>
  mach_Check.L2 x5 v13 (.int .i64 0) x0 x1 x2 x3 x4 x5))) := (jden_eq E 29 [] [1, 1, 1, 1, 1] _ _).trans (by kernel_rfl)
theorem mach_Check.L2_eq (x0 : FV) (x1 : FV) (x2 : FV) (x3 : FV) (x4 : FV) (x5 : FV) (x6 : FV) (x7 : FV) (x8 : FV) : mach_Check.L2 x0 x1 x2 x3 x4 x5 x6 x7 x8 = (
  bindO (fBin .lss x2 x1) fun v10 =>
  fCond v10
  (bindO (fIdxC 2 x0 x2) fun c11 =>
  bindO (c11[0]?) fun v12 =>
  bindO (c11[1]?) fun v13 =>
  bindO (fBin .lss v12 (.int .i64 0)) fun v14 =>
  fCond v14
  (some (.int .i64 27))
  (bindO (fLen x4) fun v15 =>
  bindO (fBin .geq v12 v15) fun v16 =>
  fCond v16
  (some (.int .i64 27))
  (bindO (mach_fit x7 v13) fun v17 =>
  bindO (fUn .not v17) fun v18 =>
  fCond v18
  (some (.int .i64 27))
  (bindO (fBin .add x2 (.int .i64 1)) fun v19 =>
  mach_Check.L2 x0 x1 v19 x3 x4 x5 x6 x7 x8))))
  (some (.int .i64 0))) := (jden_eq E 29 [] [4, 1, 0, 1, 1, 1, 1, 1, 1, 1, 1, 1] _ _).trans (by kernel_rfl)
/-! ### slices.Clone[[]int,int] (function 54) -/
theorem slices_Clone_int.eq (x0 : FV) : slices_Clone_int x0 = (
  onFV x0
  (some (.arr []))
  (bindO (asRows x0) fun r1 =>
  gB (rowsSz 1 r1) <|
  gB (decide ((0 + r1.length) * 8 ≤ room)) <|
  some (.arr ([] ++ r1)))) := (den_eq E 54 [x0]).trans (by kernel_rfl)
/-! ### ramet/mach.number (function 60) -/
noncomputable def mach_number.L0 (x0 : FV) (x1 : FV) (x2 : FV) (x3 : FV) (x4 : FV) : R := jden E 60 [] [4, 1, 0, 1, 1] (mkF 27 [(0, .f x0), (5, .f x1), (8, .f x2), (9, .f x3), (10, .f x4)]) []
theorem mach_number.eq (x0 x1 : FV) : mach_number x0 x1 = (
  bindO (fLen x1) fun v1 =>
  mach_number.L0 x0 (.int .i64 0) x1 v1 (.int .i64 0)) := (den_eq E 60 [x0, x1]).trans (by kernel_rfl)
theorem mach_number.L0_eq (x0 : FV) (x1 : FV) (x2 : FV) (x3 : FV) (x4 : FV) : mach_number.L0 x0 x1 x2 x3 x4 = (
  bindO (fBin .lss x4 x3) fun v6 =>
  fCond v6
  (bindO (fIdxC 1 x2 x4) fun c7 =>
  bindO (c7[0]?) fun v8 =>
  bindO (fIdxC 2 x0 x4) fun c9 =>
  bindO (c9[1]?) fun v10 =>
  bindO (fLen v10) fun v11 =>
  bindO (fBin .mul x1 v11) fun v12 =>
  bindO (fBin .add v12 v8) fun v13 =>
  bindO (fBin .add x4 (.int .i64 1)) fun v14 =>
  mach_number.L0 x0 v13 x2 x3 v14)
  (some x1)) := (jden_eq E 60 [] [4, 1, 0, 1, 1] _ _).trans (by kernel_rfl)
/-! ### ramet/mach.Run (function 18) -/
noncomputable def mach_Run.L0 (x0 : FV) (x1 : FV) (x2 : FV) (x3 : FV) (x4 : FV) (x5 : FV) (x6 : FV) (x7 : FV) (x8 : FV) (x9 : FV) : R := jden E 18 [] [4, 1, 0, 1, 1, 1] (mkF 70 [(1, .f x0), (2, .ptr 0 0 0), (24, .f x1), (25, .f x2), (26, .f x3)]) [.box [.f x4, .f x5, .f x6, .f x7, .f x8, .f x9]]
noncomputable def mach_Run.L1 (x0 : FV) (x1 : FV) (x2 : FV) (x3 : FV) (x4 : FV) (x5 : FV) (x6 : FV) (x7 : FV) (x8 : FV) (x9 : FV) (x10 : FV) (r11 : List (List FV)) : R := jden E 18 [] [4, 1, 0, 1, 1, 1, 1, 1, 1] (mkF 70 [(2, .ptr 0 0 0), (10, .ref 1), (11, .f x0), (12, .f x1), (41, .f x2), (42, .f x3), (43, .f x4)]) [.box [.f x5, .f x6, .f x7, .f x8, .f x9, .f x10], .own 1 r11]
theorem mach_Run.eq (x0 x1 : FV) : mach_Run x0 x1 = (
  gB (fIsAgg 6 x0) <|
  bindO (mach_Check (.agg [(fCell x0 0), (fCell x0 1), (fCell x0 2), (fCell x0 3), (fCell x0 4), (fCell x0 5)])) fun v1 =>
  bindO (fBin .neq v1 (.int .i64 0)) fun v2 =>
  fCond v2
  (some (.tup [.nilS, .int .i64 0, v1]))
  (bindO (fLen x1) fun v3 =>
  bindO (fBin .gtr v3 (.int .i64 4096)) fun v4 =>
  fCond v4
  (some (.tup [.nilS, .int .i64 0, .int .i64 26]))
  (bindO (fLen x1) fun v5 =>
  mach_Run.L0 x1 x1 v5 (.int .i64 0) (fCell x0 0) (fCell x0 1) (fCell x0 2) (fCell x0 3) (fCell x0 4) (fCell x0 5)))) := (den_eq E 18 [x0, x1]).trans (by kernel_rfl)
theorem mach_Run.L0_eq (x0 : FV) (x1 : FV) (x2 : FV) (x3 : FV) (x4 : FV) (x5 : FV) (x6 : FV) (x7 : FV) (x8 : FV) (x9 : FV) : mach_Run.L0 x0 x1 x2 x3 x4 x5 x6 x7 x8 x9 = (
  bindO (fBin .lss x3 x2) fun v11 =>
  fCond v11
  (bindO (fIdxC 1 x1 x3) fun c12 =>
  bindO (c12[0]?) fun v13 =>
  bindO (mach_fit x7 v13) fun v14 =>
  bindO (fUn .not v14) fun v15 =>
  fCond v15
  (some (.tup [.nilS, .int .i64 0, .int .i64 27]))
  (bindO (fBin .add x3 (.int .i64 1)) fun v16 =>
  mach_Run.L0 x0 x1 x2 v16 x4 x5 x6 x7 x8 x9))
  (bindO (mach_product x7) fun v17 =>
  bindO (fLen x0) fun v18 =>
  mach_Run.L1 x6 v17 x0 v18 (.int .i64 0) x4 x5 x6 x7 x8 x9 [])) := (jden_eq E 18 [] [4, 1, 0, 1, 1, 1] _ _).trans (by kernel_rfl)
theorem mach_Run.L1_eq (x0 : FV) (x1 : FV) (x2 : FV) (x3 : FV) (x4 : FV) (x5 : FV) (x6 : FV) (x7 : FV) (x8 : FV) (x9 : FV) (x10 : FV) (r11 : List (List FV)) : mach_Run.L1 x0 x1 x2 x3 x4 x5 x6 x7 x8 x9 x10 r11 = (
  bindO (fBin .lss x4 x3) fun v13 =>
  fCond v13
  (bindO (fIdxC 1 x2 x4) fun c14 =>
  bindO (c14[0]?) fun v15 =>
  bindO (fBin .mul x0 x1) fun v16 =>
  bindO (mach_number x8 v15) fun v17 =>
  bindO (fBin .add v16 v17) fun v18 =>
  bindO (fIdxC 2 x10 v18) fun c19 =>
  bindO (c19[0]?) fun v20 =>
  bindO (c19[1]?) fun v21 =>
  bindO (slices_Clone_int v21) fun v22 =>
  bindO (arrRows v22) fun r23 =>
  gB (decide ((r11.length + 1) * 24 ≤ room)) <|
  bindO (fBin .add x4 (.int .i64 1)) fun v24 =>
  mach_Run.L1 v20 x1 x2 x3 v24 x5 x6 x7 x8 x9 x10 (r11 ++ [[.arr r23]]))
  (some (.tup [.arr r11, x0, .int .i64 0]))) := (jden_eq E 18 [] [4, 1, 0, 1, 1, 1, 1, 1, 1] _ _).trans (by kernel_rfl)
/-! ### ramet/rametref02.Step (function 19) -/
noncomputable def ref02_Step.L0 (x0 : FV) (x1 : FV) (x2 : FV) (x3 : FV) (x4 : FV) (x5 : FV) (x6 : FV) (x7 : FV) : R := jden E 19 [] [1, 1] (mkF 42 [(1, .f x0), (2, .f x1), (3, .ptr 0 0 0)]) [.box [.f x2, .f x3, .f x4, .f x5, .f x6, .f x7]]
theorem ref02_Step.eq (x0 x1 x2 : FV) : ref02_Step x0 x1 x2 = (
  gB (fIsAgg 6 x0) <|
  bindO (ref02_Check (.agg [(fCell x0 0), (fCell x0 1), (fCell x0 2), (fCell x0 3), (fCell x0 4), (fCell x0 5)])) fun v1 =>
  bindO (fBin .neq v1 (.int .i64 0)) fun v2 =>
  fCond v2
  (some (.tup [.int .i64 0, .nilS, v1]))
  (bindO (fBin .lss x1 (.int .i64 0)) fun v3 =>
  fCond v3
  (some (.tup [.int .i64 0, .nilS, .int .i64 27]))
  (bindO (fLen (fCell x0 1)) fun v4 =>
  bindO (fBin .geq x1 v4) fun v5 =>
  fCond v5
  (some (.tup [.int .i64 0, .nilS, .int .i64 27]))
  (bindO (ref02_right (fCell x0 3) x2) fun v6 =>
  bindO (fUn .not v6) fun v7 =>
  fCond v7
  (some (.tup [.int .i64 0, .nilS, .int .i64 27]))
  (ref02_Step.L0 x1 x2 (fCell x0 0) (fCell x0 1) (fCell x0 2) (fCell x0 3) (fCell x0 4) (fCell x0 5)))))) := (den_eq E 19 [x0, x1, x2]).trans (by kernel_rfl)
theorem ref02_Step.L0_eq (x0 : FV) (x1 : FV) (x2 : FV) (x3 : FV) (x4 : FV) (x5 : FV) (x6 : FV) (x7 : FV) : ref02_Step.L0 x0 x1 x2 x3 x4 x5 x6 x7 = (
  bindO (ref02_one (.agg [x2, x3, x4, x5, x6, x7]) x0 x1) fun v9 =>
  gB (fIsAgg 2 v9) <|
  bindO (asRows (fCell v9 1)) fun r10 =>
  gB (rowsSz 1 r10) <|
  gB (decide ((0 + r10.length) * 8 ≤ room)) <|
  some (.tup [(fCell v9 0), .arr ([] ++ r10), .int .i64 0])) := (jden_eq E 19 [] [1, 1] _ _).trans (by kernel_rfl)
/-! ### ramet/mach.Step (function 20) -/
noncomputable def mach_Step.L0 (x0 : FV) (x1 : FV) (x2 : FV) (x3 : FV) (x4 : FV) (x5 : FV) (x6 : FV) (x7 : FV) : R := jden E 20 [] [1, 1] (mkF 51 [(1, .f x0), (2, .f x1), (3, .ptr 0 0 0)]) [.box [.f x2, .f x3, .f x4, .f x5, .f x6, .f x7]]
theorem mach_Step.eq (x0 x1 x2 : FV) : mach_Step x0 x1 x2 = (
  gB (fIsAgg 6 x0) <|
  bindO (mach_Check (.agg [(fCell x0 0), (fCell x0 1), (fCell x0 2), (fCell x0 3), (fCell x0 4), (fCell x0 5)])) fun v1 =>
  bindO (fBin .neq v1 (.int .i64 0)) fun v2 =>
  fCond v2
  (some (.tup [.int .i64 0, .nilS, v1]))
  (bindO (fBin .lss x1 (.int .i64 0)) fun v3 =>
  fCond v3
  (some (.tup [.int .i64 0, .nilS, .int .i64 27]))
  (bindO (fLen (fCell x0 1)) fun v4 =>
  bindO (fBin .geq x1 v4) fun v5 =>
  fCond v5
  (some (.tup [.int .i64 0, .nilS, .int .i64 27]))
  (bindO (mach_fit (fCell x0 3) x2) fun v6 =>
  bindO (fUn .not v6) fun v7 =>
  fCond v7
  (some (.tup [.int .i64 0, .nilS, .int .i64 27]))
  (mach_Step.L0 x1 x2 (fCell x0 0) (fCell x0 1) (fCell x0 2) (fCell x0 3) (fCell x0 4) (fCell x0 5)))))) := (den_eq E 20 [x0, x1, x2]).trans (by kernel_rfl)
theorem mach_Step.L0_eq (x0 : FV) (x1 : FV) (x2 : FV) (x3 : FV) (x4 : FV) (x5 : FV) (x6 : FV) (x7 : FV) : mach_Step.L0 x0 x1 x2 x3 x4 x5 x6 x7 = (
  bindO (mach_product x5) fun v9 =>
  bindO (fBin .mul x0 v9) fun v10 =>
  bindO (mach_number x5 x1) fun v11 =>
  bindO (fBin .add v10 v11) fun v12 =>
  bindO (fIdxC 2 x7 v12) fun c13 =>
  bindO (c13[0]?) fun v14 =>
  bindO (c13[1]?) fun v15 =>
  bindO (slices_Clone_int v15) fun v16 =>
  bindO (arrRows v16) fun r17 =>
  some (.tup [v14, .arr r17, .int .i64 0])) := (jden_eq E 20 [] [1, 1] _ _).trans (by kernel_rfl)
/-! ### ramet/rametref02.SameInts (function 21) -/
theorem ref02_SameInts.eq (x0 x1 : FV) : ref02_SameInts x0 x1 = (
  bindO (ref02_sameInts x0 x1) fun v1 =>
  some v1) := (den_eq E 21 [x0, x1]).trans (by kernel_rfl)
/-! ### ramet/rametlaw02.MachRuns (function 4) -/
noncomputable def law02_MachRuns.L0 (x0 : FV) (x1 : FV) (x2 : FV) (x3 : FV) (x4 : FV) (x5 : FV) (x6 : FV) (x7 : FV) (x8 : FV) : R := jden E 4 [] [1, 1, 1] (mkF 111 [(1, .f x0), (2, .ptr 0 0 0), (8, .f x1), (10, .f x2)]) [.box [.f x3, .f x4, .f x5, .f x6, .f x7, .f x8]]
noncomputable def law02_MachRuns.L1 (x0 : FV) (x1 : FV) (x2 : FV) (x3 : FV) (x4 : FV) (x5 : FV) (x6 : FV) (x7 : FV) (x8 : FV) (x9 : FV) (x10 : FV) : R := jden E 4 [] [4, 1, 0, 1, 1, 1, 1, 1] (mkF 111 [(1, .f x0), (2, .ptr 0 0 0), (8, .f x1), (10, .f x2), (11, .f x3), (12, .f x4)]) [.box [.f x5, .f x6, .f x7, .f x8, .f x9, .f x10]]
noncomputable def law02_MachRuns.L2 (x0 : FV) (x1 : FV) (x2 : FV) (x3 : FV) (x4 : FV) (x5 : FV) (x6 : FV) (x7 : FV) (x8 : FV) (x9 : FV) (x10 : FV) : R := jden E 4 [] [5, 4, 1, 0, 1, 1, 1, 1, 1] (mkF 111 [(1, .f x0), (2, .ptr 0 0 0), (8, .f x1), (10, .f x2), (11, .f x3), (12, .f x4)]) [.box [.f x5, .f x6, .f x7, .f x8, .f x9, .f x10]]
noncomputable def law02_MachRuns.L3 (x0 : FV) (x1 : FV) (x2 : FV) (x3 : FV) (x4 : FV) (x5 : FV) (x6 : FV) (x7 : FV) (x8 : FV) (x9 : FV) (x10 : FV) (x11 : FV) (x12 : FV) : R := jden E 4 [] [1, 1, 4, 0, 1, 5, 4, 1, 0, 1, 1, 1, 1, 1] (mkF 111 [(1, .f x0), (2, .ptr 0 0 0), (8, .f x1), (10, .f x2), (12, .f x3), (16, .f x4), (17, .f x5), (18, .f x6)]) [.box [.f x7, .f x8, .f x9, .f x10, .f x11, .f x12]]
theorem law02_MachRuns.eq (x0 x1 : FV) : law02_MachRuns x0 x1 = (
  gB (fIsAgg 6 x0) <|
  bindO (ref02_Run (.agg [(fCell x0 0), (fCell x0 1), (fCell x0 2), (fCell x0 3), (fCell x0 4), (fCell x0 5)]) x1) fun v1 =>
  gB (fIsTup 3 v1) <|
  bindO (mach_Run (.agg [(fCell x0 0), (fCell x0 1), (fCell x0 2), (fCell x0 3), (fCell x0 4), (fCell x0 5)]) x1) fun v2 =>
  gB (fIsTup 3 v2) <|
  bindO (fBin .neq (fTup v2 2) (fTup v1 2)) fun v3 =>
  fCond v3
  (some (.bool false))
  (bindO (fBin .neq (fTup v2 1) (fTup v1 1)) fun v4 =>
  fCond v4
  (some (.bool false))
  (bindO (ref02_SameLists (fTup v2 0) (fTup v1 0)) fun v5 =>
  bindO (fUn .not v5) fun v6 =>
  fCond v6
  (some (.bool false))
  (law02_MachRuns.L0 x1 (fTup v2 0) (fTup v2 2) (fCell x0 0) (fCell x0 1) (fCell x0 2) (fCell x0 3) (fCell x0 4) (fCell x0 5))))) := (den_eq E 4 [x0, x1]).trans (by kernel_rfl)
theorem law02_MachRuns.L0_eq (x0 : FV) (x1 : FV) (x2 : FV) (x3 : FV) (x4 : FV) (x5 : FV) (x6 : FV) (x7 : FV) (x8 : FV) : law02_MachRuns.L0 x0 x1 x2 x3 x4 x5 x6 x7 x8 = (
  law02_MachRuns.L1 x0 x1 x2 x5 (.int .i64 0) x3 x4 x5 x6 x7 x8) := (jden_eq E 4 [] [1, 1, 1] _ _).trans (by kernel_rfl)
theorem law02_MachRuns.L1_eq (x0 : FV) (x1 : FV) (x2 : FV) (x3 : FV) (x4 : FV) (x5 : FV) (x6 : FV) (x7 : FV) (x8 : FV) (x9 : FV) (x10 : FV) : law02_MachRuns.L1 x0 x1 x2 x3 x4 x5 x6 x7 x8 x9 x10 = (
  bindO (fLen x0) fun v12 =>
  bindO (fBin .lss x4 v12) fun v13 =>
  fCond v13
  (bindO (fBin .lss x4 (.int .i64 50)) fun v14 =>
  fCond v14
  (law02_MachRuns.L2 x0 x1 x2 x3 x4 x5 x6 x7 x8 x9 x10)
  (some (.bool true)))
  (some (.bool true))) := (jden_eq E 4 [] [4, 1, 0, 1, 1, 1, 1, 1] _ _).trans (by kernel_rfl)
theorem law02_MachRuns.L2_eq (x0 : FV) (x1 : FV) (x2 : FV) (x3 : FV) (x4 : FV) (x5 : FV) (x6 : FV) (x7 : FV) (x8 : FV) (x9 : FV) (x10 : FV) : law02_MachRuns.L2 x0 x1 x2 x3 x4 x5 x6 x7 x8 x9 x10 = (
  bindO (fIdxC 1 x0 x4) fun c12 =>
  bindO (c12[0]?) fun v13 =>
  bindO (ref02_Step (.agg [x5, x6, x7, x8, x9, x10]) x3 v13) fun v14 =>
  gB (fIsTup 3 v14) <|
  bindO (fIdxC 1 x0 x4) fun c15 =>
  bindO (c15[0]?) fun v16 =>
  bindO (mach_Step (.agg [x5, x6, x7, x8, x9, x10]) x3 v16) fun v17 =>
  gB (fIsTup 3 v17) <|
  bindO (fBin .neq (fTup v17 2) (fTup v14 2)) fun v18 =>
  fCond v18
  (some (.bool false))
  (bindO (fBin .neq (fTup v17 0) (fTup v14 0)) fun v19 =>
  fCond v19
  (some (.bool false))
  (bindO (ref02_SameInts (fTup v17 1) (fTup v14 1)) fun v20 =>
  bindO (fUn .not v20) fun v21 =>
  fCond v21
  (some (.bool false))
  (law02_MachRuns.L3 x0 x1 x2 x4 (fTup v17 0) (fTup v17 1) (fTup v17 2) x5 x6 x7 x8 x9 x10)))) := (jden_eq E 4 [] [5, 4, 1, 0, 1, 1, 1, 1, 1] _ _).trans (by kernel_rfl)
theorem law02_MachRuns.L3_eq (x0 : FV) (x1 : FV) (x2 : FV) (x3 : FV) (x4 : FV) (x5 : FV) (x6 : FV) (x7 : FV) (x8 : FV) (x9 : FV) (x10 : FV) (x11 : FV) (x12 : FV) : law02_MachRuns.L3 x0 x1 x2 x3 x4 x5 x6 x7 x8 x9 x10 x11 x12 = (
  bindO (fBin .eql x2 (.int .i64 0)) fun v14 =>
  fCond v14
  (bindO (fBin .neq x6 (.int .i64 0)) fun v15 =>
  fCond v15
  (some (.bool false))
  (bindO (fIdxC 1 x1 x3) fun c16 =>
  bindO (c16[0]?) fun v17 =>
  bindO (ref02_SameInts x5 v17) fun v18 =>
  bindO (fUn .not v18) fun v19 =>
  fCond v19
  (some (.bool false))
  (bindO (fBin .add x3 (.int .i64 1)) fun v20 =>
  law02_MachRuns.L1 x0 x1 x2 x4 v20 x7 x8 x9 x10 x11 x12)))
  (bindO (fBin .add x3 (.int .i64 1)) fun v21 =>
  law02_MachRuns.L1 x0 x1 x2 x4 v21 x7 x8 x9 x10 x11 x12)) := (jden_eq E 4 [] [1, 1, 4, 0, 1, 5, 4, 1, 0, 1, 1, 1, 1, 1] _ _).trans (by kernel_rfl)
/-! ### ramet/rametref02.machineAt (function 142) -/
noncomputable def ref02_machineAt.L0 (x0 : FV) (x1 : FV) (x2 : FV) : R := jden E 142 [] [4, 1, 0, 1] (mkF 20 [(0, .f x0), (1, .f x1), (5, .f x2)]) []
theorem ref02_machineAt.eq (x0 x1 : FV) : ref02_machineAt x0 x1 = (
  ref02_machineAt.L0 x0 x1 (.int .i64 0)) := (den_eq E 142 [x0, x1]).trans (by kernel_rfl)
theorem ref02_machineAt.L0_eq (x0 : FV) (x1 : FV) (x2 : FV) : ref02_machineAt.L0 x0 x1 x2 = (
  bindO (fLen x0) fun v4 =>
  bindO (fBin .lss x2 v4) fun v5 =>
  fCond v5
  (bindO (fIdxC 6 x0 x2) fun c6 =>
  bindO (c6[0]?) fun v7 =>
  bindO (fBin .eql v7 x1) fun v8 =>
  fCond v8
  (some x2)
  (bindO (fBin .add x2 (.int .i64 1)) fun v9 =>
  ref02_machineAt.L0 x0 x1 v9))
  (some (.int .i64 (-1)))) := (jden_eq E 142 [] [4, 1, 0, 1] _ _).trans (by kernel_rfl)
/-! ### ramet/rametref02.checkMachines (function 80) -/
noncomputable def ref02_checkMachines.L0 (x0 : FV) (x1 : FV) : R := jden E 80 [] [4, 1, 0, 1] (mkF 29 [(0, .f x0), (3, .f x1)]) []
theorem ref02_checkMachines.eq (x0 : FV) : ref02_checkMachines x0 = (
  ref02_checkMachines.L0 x0 (.int .i64 0)) := (den_eq E 80 [x0]).trans (by kernel_rfl)
theorem ref02_checkMachines.L0_eq (x0 : FV) (x1 : FV) : ref02_checkMachines.L0 x0 x1 = (
  bindO (fLen x0) fun v3 =>
  bindO (fBin .lss x1 v3) fun v4 =>
  fCond v4
  (bindO (fIdxC 6 x0 x1) fun c5 =>
  bindO (c5[0]?) fun v6 =>
  bindO (c5[1]?) fun v7 =>
  bindO (c5[2]?) fun v8 =>
  bindO (c5[3]?) fun v9 =>
  bindO (c5[4]?) fun v10 =>
  bindO (c5[5]?) fun v11 =>
  bindO (ref02_Check (.agg [v6, v7, v8, v9, v10, v11])) fun v12 =>
  bindO (fBin .neq v12 (.int .i64 0)) fun v13 =>
  fCond v13
  (some v12)
  (bindO (fCut 6 x0 none (some x1)) fun v14 =>
  bindO (fIdxC 6 x0 x1) fun c15 =>
  bindO (c15[0]?) fun v16 =>
  bindO (ref02_machineAt v14 v16) fun v17 =>
  bindO (fBin .geq v17 (.int .i64 0)) fun v18 =>
  fCond v18
  (some (.int .i64 22))
  (bindO (fBin .add x1 (.int .i64 1)) fun v19 =>
  ref02_checkMachines.L0 x0 v19)))
  (some (.int .i64 0))) := (jden_eq E 80 [] [4, 1, 0, 1] _ _).trans (by kernel_rfl)
/-! ### ramet/rametref02.partAt (function 81) -/
noncomputable def ref02_partAt.L0 (x0 : FV) (x1 : FV) (x2 : FV) : R := jden E 81 [] [4, 1, 0, 1] (mkF 20 [(0, .f x0), (1, .f x1), (5, .f x2)]) []
theorem ref02_partAt.eq (x0 x1 : FV) : ref02_partAt x0 x1 = (
  ref02_partAt.L0 x0 x1 (.int .i64 0)) := (den_eq E 81 [x0, x1]).trans (by kernel_rfl)
theorem ref02_partAt.L0_eq (x0 : FV) (x1 : FV) (x2 : FV) : ref02_partAt.L0 x0 x1 x2 = (
  bindO (fLen x0) fun v4 =>
  bindO (fBin .lss x2 v4) fun v5 =>
  fCond v5
  (bindO (fIdxC 2 x0 x2) fun c6 =>
  bindO (c6[0]?) fun v7 =>
  bindO (fBin .eql v7 x1) fun v8 =>
  fCond v8
  (some x2)
  (bindO (fBin .add x2 (.int .i64 1)) fun v9 =>
  ref02_partAt.L0 x0 x1 v9))
  (some (.int .i64 (-1)))) := (jden_eq E 81 [] [4, 1, 0, 1] _ _).trans (by kernel_rfl)
/-! ### ramet/rametref02.isIn (function 83) -/
theorem ref02_isIn.eq (x0 x1 x2 : FV) : ref02_isIn x0 x1 x2 = (
  gB (fIsAgg 5 x1) <|
  gB (fIsAgg 2 x2) <|
  bindO (fBin .geq (fCell x2 0) (.int .i64 0)) fun v1 =>
  fCond v1
  (bindO (fLen (fCell x1 1)) fun v2 =>
  bindO (fBin .lss (fCell x2 0) v2) fun v3 =>
  fCond v3
  (bindO (fBin .geq (fCell x2 1) (.int .i64 0)) fun v4 =>
  fCond v4
  (bindO (fIdxC 2 (fCell x1 1) (fCell x2 0)) fun c5 =>
  bindO (c5[1]?) fun v6 =>
  bindO (fIdxC 6 x0 v6) fun c7 =>
  bindO (c7[3]?) fun v8 =>
  bindO (fLen v8) fun v9 =>
  bindO (fBin .lss (fCell x2 1) v9) fun v10 =>
  some v10)
  (some (.bool false)))
  (some (.bool false)))
  (some (.bool false))) := (den_eq E 83 [x0, x1, x2]).trans (by kernel_rfl)
/-! ### ramet/rametref02.linked (function 84) -/
noncomputable def ref02_linked.L0 (x0 : FV) (x1 : FV) (x2 : FV) (x3 : FV) (x4 : FV) : R := jden E 84 [] [4, 1, 0, 1] (mkF 20 [(0, .f x0), (1, .f x1), (5, .ptr 0 0 0), (7, .f x2)]) [.box [.f x3, .f x4]]
theorem ref02_linked.eq (x0 x1 x2 : FV) : ref02_linked x0 x1 x2 = (
  gB (fIsAgg 2 x2) <|
  ref02_linked.L0 x0 x1 (.int .i64 0) (fCell x2 0) (fCell x2 1)) := (den_eq E 84 [x0, x1, x2]).trans (by kernel_rfl)
theorem ref02_linked.L0_eq (x0 : FV) (x1 : FV) (x2 : FV) (x3 : FV) (x4 : FV) : ref02_linked.L0 x0 x1 x2 x3 x4 = (
  bindO (fBin .lss x2 x1) fun v6 =>
  fCond v6
  (bindO (fIdxC 6 x0 x2) fun c7 =>
  bindO (c7[2]?) fun v8 =>
  bindO (c7[3]?) fun v9 =>
  bindO (fAggBin [.int, .int] .eql [v8, v9] [x3, x4]) fun v10 =>
  fCond v10
  (some (.bool true))
  (bindO (fBin .add x2 (.int .i64 1)) fun v11 =>
  ref02_linked.L0 x0 x1 v11 x3 x4))
  (some (.bool false))) := (jden_eq E 84 [] [4, 1, 0, 1] _ _).trans (by kernel_rfl)
/-! ### ramet/rametref02.isOut (function 86) -/
theorem ref02_isOut.eq (x0 x1 x2 : FV) : ref02_isOut x0 x1 x2 = (
  gB (fIsAgg 5 x1) <|
  gB (fIsAgg 2 x2) <|
  bindO (fBin .geq (fCell x2 0) (.int .i64 0)) fun v1 =>
  fCond v1
  (bindO (fLen (fCell x1 1)) fun v2 =>
  bindO (fBin .lss (fCell x2 0) v2) fun v3 =>
  fCond v3
  (bindO (fBin .geq (fCell x2 1) (.int .i64 0)) fun v4 =>
  fCond v4
  (bindO (fIdxC 2 (fCell x1 1) (fCell x2 0)) fun c5 =>
  bindO (c5[1]?) fun v6 =>
  bindO (fIdxC 6 x0 v6) fun c7 =>
  bindO (c7[4]?) fun v8 =>
  bindO (fLen v8) fun v9 =>
  bindO (fBin .lss (fCell x2 1) v9) fun v10 =>
  some v10)
  (some (.bool false)))
  (some (.bool false)))
  (some (.bool false))) := (den_eq E 86 [x0, x1, x2]).trans (by kernel_rfl)
/-! ### ramet/rametref02.checkLink (function 82) -/
noncomputable def ref02_checkLink.L0 (x0 : FV) (x1 : FV) (x2 : FV) (x3 : FV) (x4 : FV) (x5 : FV) (x6 : FV) (x7 : FV) (x8 : FV) (x9 : FV) (x10 : FV) (x11 : FV) (x12 : FV) : R := jden E 82 [] [1, 1] (mkF 111 [(0, .f x0), (2, .f x1), (4, .ptr 0 0 0), (7, .ptr 1 0 0)]) [.box [.f x2, .f x3, .f x4, .f x5, .f x6], .box [.f x7, .f x8, .f x9, .f x10, .f x11, .f x12]]
noncomputable def ref02_checkLink.L1 (x0 : FV) (x1 : FV) (x2 : FV) (x3 : FV) (x4 : FV) (x5 : FV) (x6 : FV) (x7 : FV) (x8 : FV) (x9 : FV) (x10 : FV) (x11 : FV) (x12 : FV) : R := jden E 82 [] [1, 1, 1] (mkF 111 [(0, .f x0), (2, .f x1), (4, .ptr 0 0 0), (7, .ptr 1 0 0)]) [.box [.f x2, .f x3, .f x4, .f x5, .f x6], .box [.f x7, .f x8, .f x9, .f x10, .f x11, .f x12]]
noncomputable def ref02_checkLink.L2 (x0 : FV) (x1 : FV) (x2 : FV) (x3 : FV) (x4 : FV) (x5 : FV) (x6 : FV) (x7 : FV) (x8 : FV) (x9 : FV) (x10 : FV) (x11 : FV) (x12 : FV) (x13 : FV) (x14 : FV) : R := jden E 82 [] [4, 1, 0, 1, 1, 1, 1, 1, 1] (mkF 111 [(0, .f x0), (2, .f x1), (4, .ptr 0 0 0), (7, .ptr 1 0 0), (8, .f x2), (9, .f x3)]) [.box [.f x4, .f x5, .f x6, .f x7, .f x8], .box [.f x9, .f x10, .f x11, .f x12, .f x13, .f x14]]
theorem ref02_checkLink.eq (x0 x1 x2 : FV) : ref02_checkLink x0 x1 x2 = (
  gB (fIsAgg 5 x1) <|
  bindO (fIdxC 6 (fCell x1 2) x2) fun c1 =>
  bindO (c1[0]?) fun v2 =>
  bindO (c1[1]?) fun v3 =>
  bindO (c1[2]?) fun v4 =>
  bindO (c1[3]?) fun v5 =>
  bindO (c1[4]?) fun v6 =>
  bindO (c1[5]?) fun v7 =>
  bindO (ref02_isOut x0 (.agg [(fCell x1 0), (fCell x1 1), (fCell x1 2), (fCell x1 3), (fCell x1 4)]) (.agg [v2, v3])) fun v8 =>
  bindO (fUn .not v8) fun v9 =>
  fCond v9
  (some (.int .i64 24))
  (bindO (ref02_isIn x0 (.agg [(fCell x1 0), (fCell x1 1), (fCell x1 2), (fCell x1 3), (fCell x1 4)]) (.agg [v4, v5])) fun v10 =>
  bindO (fUn .not v10) fun v11 =>
  fCond v11
  (some (.int .i64 24))
  (ref02_checkLink.L0 x0 x2 (fCell x1 0) (fCell x1 1) (fCell x1 2) (fCell x1 3) (fCell x1 4) v2 v3 v4 v5 v6 v7))) := (den_eq E 82 [x0, x1, x2]).trans (by kernel_rfl)
theorem ref02_checkLink.L0_eq (x0 : FV) (x1 : FV) (x2 : FV) (x3 : FV) (x4 : FV) (x5 : FV) (x6 : FV) (x7 : FV) (x8 : FV) (x9 : FV) (x10 : FV) (x11 : FV) (x12 : FV) : ref02_checkLink.L0 x0 x1 x2 x3 x4 x5 x6 x7 x8 x9 x10 x11 x12 = (
  bindO (fBin .lss x11 (.int .i64 0)) fun v14 =>
  fCond v14
  (some (.int .i64 26))
  (bindO (fBin .gtr x11 (.int .i64 100)) fun v15 =>
  fCond v15
  (some (.int .i64 26))
  (ref02_checkLink.L1 x0 x1 x2 x3 x4 x5 x6 x7 x8 x9 x10 x11 x12))) := (jden_eq E 82 [] [1, 1] _ _).trans (by kernel_rfl)
theorem ref02_checkLink.L1_eq (x0 : FV) (x1 : FV) (x2 : FV) (x3 : FV) (x4 : FV) (x5 : FV) (x6 : FV) (x7 : FV) (x8 : FV) (x9 : FV) (x10 : FV) (x11 : FV) (x12 : FV) : ref02_checkLink.L1 x0 x1 x2 x3 x4 x5 x6 x7 x8 x9 x10 x11 x12 = (
  bindO (fLen x12) fun v14 =>
  bindO (fBin .neq v14 x11) fun v15 =>
  fCond v15
  (some (.int .i64 24))
  (bindO (fIdxC 2 x3 x7) fun c16 =>
  bindO (c16[1]?) fun v17 =>
  bindO (fIdxC 6 x0 v17) fun c18 =>
  bindO (c18[4]?) fun v19 =>
  bindO (fIdxC 2 v19 x8) fun c20 =>
  bindO (c20[1]?) fun v21 =>
  bindO (fLen v21) fun v22 =>
  ref02_checkLink.L2 x0 x1 v22 (.int .i64 0) x2 x3 x4 x5 x6 x7 x8 x9 x10 x11 x12)) := (jden_eq E 82 [] [1, 1, 1] _ _).trans (by kernel_rfl)
theorem ref02_checkLink.L2_eq (x0 : FV) (x1 : FV) (x2 : FV) (x3 : FV) (x4 : FV) (x5 : FV) (x6 : FV) (x7 : FV) (x8 : FV) (x9 : FV) (x10 : FV) (x11 : FV) (x12 : FV) (x13 : FV) (x14 : FV) : ref02_checkLink.L2 x0 x1 x2 x3 x4 x5 x6 x7 x8 x9 x10 x11 x12 x13 x14 = (
  bindO (fLen x14) fun v16 =>
  bindO (fBin .lss x3 v16) fun v17 =>
  fCond v17
  (bindO (fIdxC 1 x14 x3) fun c18 =>
  bindO (c18[0]?) fun v19 =>
  bindO (fBin .lss v19 (.int .i64 0)) fun v20 =>
  fCond v20
  (some (.int .i64 27))
  (bindO (fIdxC 1 x14 x3) fun c21 =>
  bindO (c21[0]?) fun v22 =>
  bindO (fBin .geq v22 x2) fun v23 =>
  fCond v23
  (some (.int .i64 27))
  (bindO (fBin .add x3 (.int .i64 1)) fun v24 =>
  ref02_checkLink.L2 x0 x1 x2 v24 x4 x5 x6 x7 x8 x9 x10 x11 x12 x13 x14)))
  (bindO (fIdxC 2 x5 x11) fun c25 =>
  bindO (c25[1]?) fun v26 =>
  bindO (fIdxC 6 x0 v26) fun c27 =>
  bindO (c27[3]?) fun v28 =>
  bindO (fIdxC 2 v28 x12) fun c29 =>
  bindO (c29[1]?) fun v30 =>
  bindO (fLen v30) fun v31 =>
  bindO (fBin .gtr x2 v31) fun v32 =>
  fCond v32
  (some (.int .i64 24))
  (bindO (ref02_linked x6 x1 (.agg [x11, x12])) fun v33 =>
  fCond v33
  (some (.int .i64 22))
  (some (.int .i64 0))))) := (jden_eq E 82 [] [4, 1, 0, 1, 1, 1, 1, 1, 1] _ _).trans (by kernel_rfl)
/-! ### ramet/rametref02.has (function 85) -/
noncomputable def ref02_has.L0 (x0 : FV) (x1 : FV) (x2 : FV) (x3 : FV) : R := jden E 85 [] [4, 1, 0, 1] (mkF 18 [(0, .f x0), (3, .ptr 0 0 0), (5, .f x1)]) [.box [.f x2, .f x3]]
theorem ref02_has.eq (x0 x1 : FV) : ref02_has x0 x1 = (
  gB (fIsAgg 2 x1) <|
  ref02_has.L0 x0 (.int .i64 0) (fCell x1 0) (fCell x1 1)) := (den_eq E 85 [x0, x1]).trans (by kernel_rfl)
theorem ref02_has.L0_eq (x0 : FV) (x1 : FV) (x2 : FV) (x3 : FV) : ref02_has.L0 x0 x1 x2 x3 = (
  bindO (fLen x0) fun v5 =>
  bindO (fBin .lss x1 v5) fun v6 =>
  fCond v6
  (bindO (fIdxC 2 x0 x1) fun c7 =>
  bindO (c7[0]?) fun v8 =>
  bindO (c7[1]?) fun v9 =>
  bindO (fAggBin [.int, .int] .eql [v8, v9] [x2, x3]) fun v10 =>
  fCond v10
  (some (.bool true))
  (bindO (fBin .add x1 (.int .i64 1)) fun v11 =>
  ref02_has.L0 x0 v11 x2 x3))
  (some (.bool false))) := (jden_eq E 85 [] [4, 1, 0, 1] _ _).trans (by kernel_rfl)
/-! ### ramet/rametref02.whole (function 87) -/
noncomputable def ref02_whole.L0 (x0 : FV) (x1 : FV) (x2 : FV) (x3 : FV) (x4 : FV) (x5 : FV) (x6 : FV) : R := jden E 87 [] [4, 1, 0, 1] (mkF 48 [(0, .f x0), (3, .ptr 0 0 0), (5, .f x1)]) [.box [.f x2, .f x3, .f x4, .f x5, .f x6]]
noncomputable def ref02_whole.L1 (x0 : FV) (x1 : FV) (x2 : FV) (x3 : FV) (x4 : FV) (x5 : FV) (x6 : FV) (x7 : FV) : R := jden E 87 [] [4, 1, 4, 0, 1, 5, 4, 1, 0, 1] (mkF 48 [(0, .f x0), (3, .ptr 0 0 0), (5, .f x1), (6, .f x2)]) [.box [.f x3, .f x4, .f x5, .f x6, .f x7]]
theorem ref02_whole.eq (x0 x1 : FV) : ref02_whole x0 x1 = (
  gB (fIsAgg 5 x1) <|
  ref02_whole.L0 x0 (.int .i64 0) (fCell x1 0) (fCell x1 1) (fCell x1 2) (fCell x1 3) (fCell x1 4)) := (den_eq E 87 [x0, x1]).trans (by kernel_rfl)
theorem ref02_whole.L0_eq (x0 : FV) (x1 : FV) (x2 : FV) (x3 : FV) (x4 : FV) (x5 : FV) (x6 : FV) : ref02_whole.L0 x0 x1 x2 x3 x4 x5 x6 = (
  bindO (fLen x3) fun v8 =>
  bindO (fBin .lss x1 v8) fun v9 =>
  fCond v9
  (ref02_whole.L1 x0 x1 (.int .i64 0) x2 x3 x4 x5 x6)
  (some (.bool true))) := (jden_eq E 87 [] [4, 1, 0, 1] _ _).trans (by kernel_rfl)
theorem ref02_whole.L1_eq (x0 : FV) (x1 : FV) (x2 : FV) (x3 : FV) (x4 : FV) (x5 : FV) (x6 : FV) (x7 : FV) : ref02_whole.L1 x0 x1 x2 x3 x4 x5 x6 x7 = (
  bindO (fIdxC 2 x4 x1) fun c9 =>
  bindO (c9[1]?) fun v10 =>
  bindO (fIdxC 6 x0 v10) fun c11 =>
  bindO (c11[3]?) fun v12 =>
  bindO (fLen v12) fun v13 =>
  bindO (fBin .lss x2 v13) fun v14 =>
  fCond v14
  (bindO (fLen x5) fun v15 =>
  bindO (ref02_linked x5 v15 (.agg [x1, x2])) fun v16 =>
  bindO (fUn .not v16) fun v17 =>
  fCond v17
  (bindO (ref02_has x6 (.agg [x1, x2])) fun v18 =>
  bindO (fUn .not v18) fun v19 =>
  fCond v19
  (some (.bool false))
  (bindO (fBin .add x2 (.int .i64 1)) fun v20 =>
  ref02_whole.L1 x0 x1 v20 x3 x4 x5 x6 x7))
  (bindO (fBin .add x2 (.int .i64 1)) fun v21 =>
  ref02_whole.L1 x0 x1 v21 x3 x4 x5 x6 x7))
  (bindO (fBin .add x1 (.int .i64 1)) fun v22 =>
  ref02_whole.L0 x0 v22 x3 x4 x5 x6 x7)) := (jden_eq E 87 [] [4, 1, 4, 0, 1, 5, 4, 1, 0, 1] _ _).trans (by kernel_rfl)
/-! ### ramet/rametref02.Order (function 88) -/
noncomputable def ref02_Order.L0 (x0 : FV) (x1 : FV) (x2 : FV) (x3 : FV) (x4 : FV) (r5 : List (List FV)) (r6 : List (List FV)) : R := jden E 88 [] [4, 0, 1, 1, 1] (mkF 84 [(1, .ptr 0 0 0), (4, .ref 2), (5, .ref 1)]) [.box [.f x0, .f x1, .f x2, .f x3, .f x4], .own 1 r5, .own 1 r6]
noncomputable def ref02_Order.L1 (x0 : FV) (x1 : FV) (x2 : FV) (x3 : FV) (x4 : FV) (x5 : FV) (x6 : FV) (r7 : List (List FV)) (r8 : List (List FV)) : R := jden E 88 [] [4, 1, 0, 1, 4, 1, 5, 4, 0, 1, 1, 1] (mkF 84 [(1, .ptr 0 0 0), (4, .ref 2), (5, .ref 1), (6, .f x0), (7, .f x1)]) [.box [.f x2, .f x3, .f x4, .f x5, .f x6], .own 1 r7, .own 1 r8]
noncomputable def ref02_Order.L2 (x0 : FV) (x1 : FV) (x2 : FV) (x3 : FV) (x4 : FV) (x5 : FV) (x6 : FV) (r7 : List (List FV)) (r8 : List (List FV)) : R := jden E 88 [] [5, 4, 1, 0, 1, 4, 1, 5, 4, 0, 1, 1, 1] (mkF 84 [(1, .ptr 0 0 0), (4, .ref 2), (5, .ref 1), (6, .f x0), (7, .f x1)]) [.box [.f x2, .f x3, .f x4, .f x5, .f x6], .own 1 r7, .own 1 r8]
noncomputable def ref02_Order.L3 (x0 : FV) (x1 : FV) (x2 : FV) (x3 : FV) (x4 : FV) (x5 : FV) (x6 : FV) (x7 : FV) (x8 : FV) (r9 : List (List FV)) (r10 : List (List FV)) : R := jden E 88 [] [4, 1, 0, 1, 4, 0, 1, 5, 4, 1, 0, 1, 4, 1, 5, 4, 0, 1, 1, 1] (mkF 84 [(1, .ptr 0 0 0), (4, .ref 2), (5, .ref 1), (6, .f x0), (7, .f x1), (8, .f x2), (9, .f x3)]) [.box [.f x4, .f x5, .f x6, .f x7, .f x8], .own 1 r9, .own 1 r10]
theorem ref02_Order.eq (x0 : FV) : ref02_Order x0 = (
  gB (fIsAgg 5 x0) <|
  bindO (fLen (fCell x0 1)) fun v1 =>
  bindO (asNat v1) fun j2 =>
  bindO (asNat v1) fun j3 =>
  gB (j2 ≤ j3 && j3 * 1 ≤ room && 1 ≥ 1) <|
  ref02_Order.L0 (fCell x0 0) (fCell x0 1) (fCell x0 2) (fCell x0 3) (fCell x0 4) (List.replicate j2 [(.bool false : FV)]) []) := (den_eq E 88 [x0]).trans (by kernel_rfl)
theorem ref02_Order.L0_eq (x0 : FV) (x1 : FV) (x2 : FV) (x3 : FV) (x4 : FV) (r5 : List (List FV)) (r6 : List (List FV)) : ref02_Order.L0 x0 x1 x2 x3 x4 r5 r6 = (
  bindO (fLen x1) fun v8 =>
  bindO (fBin .lss (.int .i64 ((r6.length : Nat) : Int)) v8) fun v9 =>
  fCond v9
  (ref02_Order.L1 (.int .i64 (-1)) (.int .i64 0) x0 x1 x2 x3 x4 r5 r6)
  (some (.tup [.arr r6, .bool true]))) := (jden_eq E 88 [] [4, 0, 1, 1, 1] _ _).trans (by kernel_rfl)
theorem ref02_Order.L1_eq (x0 : FV) (x1 : FV) (x2 : FV) (x3 : FV) (x4 : FV) (x5 : FV) (x6 : FV) (r7 : List (List FV)) (r8 : List (List FV)) : ref02_Order.L1 x0 x1 x2 x3 x4 x5 x6 r7 r8 = (
  bindO (fLen x3) fun v10 =>
  bindO (fBin .lss x1 v10) fun v11 =>
  fCond v11
  (bindO (fBin .lss x0 (.int .i64 0)) fun v12 =>
  fCond v12
  (ref02_Order.L2 x0 x1 x2 x3 x4 x5 x6 r7 r8)
  (bindO (fBin .lss x0 (.int .i64 0)) fun v13 =>
  fCond v13
  (some (.tup [.nilS, .bool false]))
  (bindO (rIdx r7 x0) fun j14 =>
  bindO (rSet r7 j14 0 [.bool true]) fun r15 =>
  gB (decide ((r8.length + 1) * 8 ≤ room)) <|
  ref02_Order.L0 x2 x3 x4 x5 x6 r15 (r8 ++ [[x0]]))))
  (bindO (fBin .lss x0 (.int .i64 0)) fun v16 =>
  fCond v16
  (some (.tup [.nilS, .bool false]))
  (bindO (rIdx r7 x0) fun j17 =>
  bindO (rSet r7 j17 0 [.bool true]) fun r18 =>
  gB (decide ((r8.length + 1) * 8 ≤ room)) <|
  ref02_Order.L0 x2 x3 x4 x5 x6 r18 (r8 ++ [[x0]])))) := (jden_eq E 88 [] [4, 1, 0, 1, 4, 1, 5, 4, 0, 1, 1, 1] _ _).trans (by kernel_rfl)
theorem ref02_Order.L2_eq (x0 : FV) (x1 : FV) (x2 : FV) (x3 : FV) (x4 : FV) (x5 : FV) (x6 : FV) (r7 : List (List FV)) (r8 : List (List FV)) : ref02_Order.L2 x0 x1 x2 x3 x4 x5 x6 r7 r8 = (
  bindO (rIdx r7 x1) fun j10 =>
  bindO (rGet r7 j10 0) fun v11 =>
  bindO (fUn .not v11) fun v12 =>
  ref02_Order.L3 x0 x1 v12 (.int .i64 0) x2 x3 x4 x5 x6 r7 r8) := (jden_eq E 88 [] [5, 4, 1, 0, 1, 4, 1, 5, 4, 0, 1, 1, 1] _ _).trans (by kernel_rfl)
theorem ref02_Order.L3_eq (x0 : FV) (x1 : FV) (x2 : FV) (x3 : FV) (x4 : FV) (x5 : FV) (x6 : FV) (x7 : FV) (x8 : FV) (r9 : List (List FV)) (r10 : List (List FV)) : ref02_Order.L3 x0 x1 x2 x3 x4 x5 x6 x7 x8 r9 r10 = (
  bindO (fLen x6) fun v12 =>
  bindO (fBin .lss x3 v12) fun v13 =>
  fCond v13
  (bindO (fIdxC 6 x6 x3) fun c14 =>
  bindO (c14[0]?) fun v15 =>
  bindO (c14[1]?) fun v16 =>
  bindO (c14[2]?) fun v17 =>
  bindO (c14[3]?) fun v18 =>
  bindO (c14[4]?) fun v19 =>
  bindO (c14[5]?) fun v20 =>
  fCond x2
  (bindO (fBin .eql v19 (.int .i64 0)) fun v21 =>
  fCond v21
  (bindO (fBin .eql v17 x1) fun v22 =>
  fCond v22
  (bindO (rIdx r9 v15) fun j23 =>
  bindO (rGet r9 j23 0) fun v24 =>
  bindO (fUn .not v24) fun v25 =>
  bindO (fUn .not v25) fun v26 =>
  bindO (fBin .add x3 (.int .i64 1)) fun v27 =>
  ref02_Order.L3 x0 x1 v26 v27 x4 x5 x6 x7 x8 r9 r10)
  (bindO (fUn .not (.bool false)) fun v28 =>
  bindO (fBin .add x3 (.int .i64 1)) fun v29 =>
  ref02_Order.L3 x0 x1 v28 v29 x4 x5 x6 x7 x8 r9 r10))
  (bindO (fUn .not (.bool false)) fun v30 =>
  bindO (fBin .add x3 (.int .i64 1)) fun v31 =>
  ref02_Order.L3 x0 x1 v30 v31 x4 x5 x6 x7 x8 r9 r10))
  (bindO (fBin .add x3 (.int .i64 1)) fun v32 =>
  ref02_Order.L3 x0 x1 (.bool false) v32 x4 x5 x6 x7 x8 r9 r10))
  (fCond x2
  (bindO (fBin .add x1 (.int .i64 1)) fun v33 =>
  ref02_Order.L1 x1 v33 x4 x5 x6 x7 x8 r9 r10)
  (bindO (fBin .add x1 (.int .i64 1)) fun v34 =>
  ref02_Order.L1 x0 v34 x4 x5 x6 x7 x8 r9 r10))) := (jden_eq E 88 [] [4, 1, 0, 1, 4, 0, 1, 5, 4, 1, 0, 1, 4, 1, 5, 4, 0, 1, 1, 1] _ _).trans (by kernel_rfl)
/-! ### ramet/rametref02.CheckNet (function 28) -/
noncomputable def ref02_CheckNet.L0 (x0 : FV) (x1 : FV) (x2 : FV) : R := jden E 28 [] [1] (mkF 192 [(1, .f x0), (2, .ptr 0 0 0)]) [.box [.f x1, .f x2]]
noncomputable def ref02_CheckNet.L1 (x0 : FV) (x1 : FV) (x2 : FV) (x3 : FV) (x4 : FV) (x5 : FV) (x6 : FV) : R := jden E 28 [] [1, 1, 1, 1, 1] (mkF 192 [(2, .ptr 0 0 0), (6, .ptr 1 0 0)]) [.box [.f x0, .f x1], .box [.f x2, .f x3, .f x4, .f x5, .f x6]]
noncomputable def ref02_CheckNet.L2 (x0 : FV) (x1 : FV) (x2 : FV) (x3 : FV) (x4 : FV) (x5 : FV) (x6 : FV) (x7 : FV) : R := jden E 28 [] [4, 1, 0, 1, 1, 1, 1, 1, 1] (mkF 192 [(2, .ptr 0 0 0), (6, .ptr 1 0 0), (7, .f x0)]) [.box [.f x1, .f x2], .box [.f x3, .f x4, .f x5, .f x6, .f x7]]
noncomputable def ref02_CheckNet.L3 (x0 : FV) (x1 : FV) (x2 : FV) (x3 : FV) (x4 : FV) (x5 : FV) (x6 : FV) (x7 : FV) : R := jden E 28 [] [4, 1, 0, 1, 1, 1, 1, 1, 1, 1, 1] (mkF 192 [(2, .ptr 0 0 0), (6, .ptr 1 0 0), (8, .f x0)]) [.box [.f x1, .f x2], .box [.f x3, .f x4, .f x5, .f x6, .f x7]]
noncomputable def ref02_CheckNet.L4 (x0 : FV) (x1 : FV) (x2 : FV) (x3 : FV) (x4 : FV) (x5 : FV) (x6 : FV) (x7 : FV) : R := jden E 28 [] [4, 1, 0, 1, 1, 1, 1, 1, 1, 1, 1, 1] (mkF 192 [(2, .ptr 0 0 0), (6, .ptr 1 0 0), (10, .f x0)]) [.box [.f x1, .f x2], .box [.f x3, .f x4, .f x5, .f x6, .f x7]]
noncomputable def ref02_CheckNet.L5 (x0 : FV) (x1 : FV) (x2 : FV) (x3 : FV) (x4 : FV) (x5 : FV) (x6 : FV) (x7 : FV) : R := jden E 28 [] [4, 1, 0, 1, 1, 1, 1, 1, 1, 1, 1, 1, 1] (mkF 192 [(2, .ptr 0 0 0), (6, .ptr 1 0 0), (11, .f x0)]) [.box [.f x1, .f x2], .box [.f x3, .f x4, .f x5, .f x6, .f x7]]
theorem ref02_CheckNet.eq (x0 x1 : FV) : ref02_CheckNet x0 x1 = (
  gB (fIsAgg 2 x0) <|
  bindO (fBin .lss x1 (.int .i64 0)) fun v1 =>
  fCond v1
  (some (.int .i64 21))
  (bindO (fLen (fCell x0 1)) fun v2 =>
  bindO (fBin .geq x1 v2) fun v3 =>
  fCond v3
  (some (.int .i64 21))
  (ref02_CheckNet.L0 x1 (fCell x0 0) (fCell x0 1)))) := (den_eq E 28 [x0, x1]).trans (by kernel_rfl)
theorem ref02_CheckNet.L0_eq (x0 : FV) (x1 : FV) (x2 : FV) : ref02_CheckNet.L0 x0 x1 x2 = (
  bindO (ref02_checkMachines x1) fun v4 =>
  bindO (fBin .neq v4 (.int .i64 0)) fun v5 =>
  fCond v5
  (some v4)
  (bindO (fIdxC 5 x2 x0) fun c6 =>
  bindO (c6[0]?) fun v7 =>
  bindO (c6[1]?) fun v8 =>
  bindO (c6[2]?) fun v9 =>
  bindO (c6[3]?) fun v10 =>
  bindO (c6[4]?) fun v11 =>
  bindO (ref02_IsName v7) fun v12 =>
  bindO (fUn .not v12) fun v13 =>
  fCond v13
  (some (.int .i64 21))
  (bindO (fLen v8) fun v14 =>
  bindO (fBin .eql v14 (.int .i64 0)) fun v15 =>
  fCond v15
  (some (.int .i64 26))
  (bindO (fLen v8) fun v16 =>
  bindO (fBin .gtr v16 (.int .i64 32)) fun v17 =>
  fCond v17
  (some (.int .i64 26))
  (ref02_CheckNet.L1 x1 x2 v7 v8 v9 v10 v11))))) := (jden_eq E 28 [] [1] _ _).trans (by kernel_rfl)
theorem ref02_CheckNet.L1_eq (x0 : FV) (x1 : FV) (x2 : FV) (x3 : FV) (x4 : FV) (x5 : FV) (x6 : FV) : ref02_CheckNet.L1 x0 x1 x2 x3 x4 x5 x6 = (
  ref02_CheckNet.L2 (.int .i64 0) x0 x1 x2 x3 x4 x5 x6) := (jden_eq E 28 [] [1, 1, 1, 1, 1] _ _).trans (by kernel_rfl)
theorem ref02_CheckNet.L2_eq (x0 : FV) (x1 : FV) (x2 : FV) (x3 : FV) (x4 : FV) (x5 : FV) (x6 : FV) (x7 : FV) : ref02_CheckNet.L2 x0 x1 x2 x3 x4 x5 x6 x7 = (
  bindO (fLen x4) fun v9 =>
  bindO (fBin .lss x0 v9) fun v10 =>
  fCond v10
  (bindO (fIdxC 2 x4 x0) fun c11 =>
  bindO (c11[0]?) fun v12 =>
  bindO (ref02_IsName v12) fun v13 =>
  bindO (fUn .not v13) fun v14 =>
  fCond v14
  (some (.int .i64 21))
  (bindO (fCut 2 x4 none (some x0)) fun v15 =>
  bindO (fIdxC 2 x4 x0) fun c16 =>
  bindO (c16[0]?) fun v17 =>
  bindO (ref02_partAt v15 v17) fun v18 =>
  bindO (fBin .geq v18 (.int .i64 0)) fun v19 =>
  fCond v19
  (some (.int .i64 22))
  (bindO (fIdxC 2 x4 x0) fun c20 =>
  bindO (c20[1]?) fun v21 =>
  bindO (fBin .lss v21 (.int .i64 0)) fun v22 =>
  fCond v22
  (some (.int .i64 21))
  (bindO (fIdxC 2 x4 x0) fun c23 =>
  bindO (c23[1]?) fun v24 =>
  bindO (fLen x1) fun v25 =>
  bindO (fBin .geq v24 v25) fun v26 =>
  fCond v26
  (some (.int .i64 21))
  (bindO (fBin .add x0 (.int .i64 1)) fun v27 =>
  ref02_CheckNet.L2 v27 x1 x2 x3 x4 x5 x6 x7)))))
  (bindO (fLen x5) fun v28 =>
  bindO (fBin .gtr v28 (.int .i64 64)) fun v29 =>
  fCond v29
  (some (.int .i64 26))
  (ref02_CheckNet.L3 (.int .i64 0) x1 x2 x3 x4 x5 x6 x7))) := (jden_eq E 28 [] [4, 1, 0, 1, 1, 1, 1, 1, 1] _ _).trans (by kernel_rfl)
theorem ref02_CheckNet.L3_eq (x0 : FV) (x1 : FV) (x2 : FV) (x3 : FV) (x4 : FV) (x5 : FV) (x6 : FV) (x7 : FV) : ref02_CheckNet.L3 x0 x1 x2 x3 x4 x5 x6 x7 = (
  bindO (fLen x5) fun v9 =>
  bindO (fBin .lss x0 v9) fun v10 =>
  fCond v10
  (bindO (ref02_checkLink x1 (.agg [x3, x4, x5, x6, x7]) x0) fun v11 =>
  bindO (fBin .neq v11 (.int .i64 0)) fun v12 =>
  fCond v12
  (some v11)
  (bindO (fBin .add x0 (.int .i64 1)) fun v13 =>
  ref02_CheckNet.L3 v13 x1 x2 x3 x4 x5 x6 x7))
  (ref02_CheckNet.L4 (.int .i64 0) x1 x2 x3 x4 x5 x6 x7)) := (jden_eq E 28 [] [4, 1, 0, 1, 1, 1, 1, 1, 1, 1, 1] _ _).trans (by kernel_rfl)
theorem ref02_CheckNet.L4_eq (x0 : FV) (x1 : FV) (x2 : FV) (x3 : FV) (x4 : FV) (x5 : FV) (x6 : FV) (x7 : FV) : ref02_CheckNet.L4 x0 x1 x2 x3 x4 x5 x6 x7 = (
  bindO (fLen x6) fun v9 =>
  bindO (fBin .lss x0 v9) fun v10 =>
  fCond v10
  (bindO (fIdxC 2 x6 x0) fun c11 =>
  bindO (c11[0]?) fun v12 =>
  bindO (c11[1]?) fun v13 =>
  bindO (ref02_isIn x1 (.agg [x3, x4, x5, x6, x7]) (.agg [v12, v13])) fun v14 =>
  bindO (fUn .not v14) fun v15 =>
  fCond v15
  (some (.int .i64 24))
  (bindO (fLen x5) fun v16 =>
  bindO (fIdxC 2 x6 x0) fun c17 =>
  bindO (c17[0]?) fun v18 =>
  bindO (c17[1]?) fun v19 =>
  bindO (ref02_linked x5 v16 (.agg [v18, v19])) fun v20 =>
  fCond v20
  (some (.int .i64 22))
  (bindO (fCut 2 x6 none (some x0)) fun v21 =>
  bindO (fIdxC 2 x6 x0) fun c22 =>
  bindO (c22[0]?) fun v23 =>
  bindO (c22[1]?) fun v24 =>
  bindO (ref02_has v21 (.agg [v23, v24])) fun v25 =>
  fCond v25
  (some (.int .i64 22))
  (bindO (fBin .add x0 (.int .i64 1)) fun v26 =>
  ref02_CheckNet.L4 v26 x1 x2 x3 x4 x5 x6 x7))))
  (ref02_CheckNet.L5 (.int .i64 0) x1 x2 x3 x4 x5 x6 x7)) := (jden_eq E 28 [] [4, 1, 0, 1, 1, 1, 1, 1, 1, 1, 1, 1] _ _).trans (by kernel_rfl)
theorem ref02_CheckNet.L5_eq (x0 : FV) (x1 : FV) (x2 : FV) (x3 : FV) (x4 : FV) (x5 : FV) (x6 : FV) (x7 : FV) : ref02_CheckNet.L5 x0 x1 x2 x3 x4 x5 x6 x7 = (
  bindO (fLen x7) fun v9 =>
  bindO (fBin .lss x0 v9) fun v10 =>
  fCond v10
  (bindO (fIdxC 2 x7 x0) fun c11 =>
  bindO (c11[0]?) fun v12 =>
  bindO (c11[1]?) fun v13 =>
  bindO (ref02_isOut x1 (.agg [x3, x4, x5, x6, x7]) (.agg [v12, v13])) fun v14 =>
  bindO (fUn .not v14) fun v15 =>
  fCond v15
  (some (.int .i64 24))
  (bindO (fCut 2 x7 none (some x0)) fun v16 =>
  bindO (fIdxC 2 x7 x0) fun c17 =>
  bindO (c17[0]?) fun v18 =>
  bindO (c17[1]?) fun v19 =>
  bindO (ref02_has v16 (.agg [v18, v19])) fun v20 =>
  fCond v20
  (some (.int .i64 22))
  (bindO (fBin .add x0 (.int .i64 1)) fun v21 =>
  ref02_CheckNet.L5 v21 x1 x2 x3 x4 x5 x6 x7)))
  (bindO (ref02_whole x1 (.agg [x3, x4, x5, x6, x7])) fun v22 =>
  bindO (fUn .not v22) fun v23 =>
  fCond v23
  (some (.int .i64 24))
  (bindO (ref02_Order (.agg [x3, x4, x5, x6, x7])) fun v24 =>
  gB (fIsTup 2 v24) <|
  bindO (fUn .not (fTup v24 1)) fun v25 =>
  fCond v25
  (some (.int .i64 25))
  (some (.int .i64 0))))) := (jden_eq E 28 [] [4, 1, 0, 1, 1, 1, 1, 1, 1, 1, 1, 1, 1] _ _).trans (by kernel_rfl)
/-! ### ramet/mach.book (function 92) -/
noncomputable def mach_book.L0 (x0 : FV) (x1 : FV) (x2 : FV) (x3 : FV) (x4 : FV) (es5 : List (FV × FV)) : R := jden E 92 [] [4, 1, 0, 1, 1] (mkF 28 [(3, .mp 1), (9, .f x0), (10, .f x1), (11, .f x2)]) [.box [.f x3, .f x4], .map false es5]
theorem mach_book.eq (x0 : FV) : mach_book x0 = (
  gB (fIsAgg 2 x0) <|
  bindO (fLen (fCell x0 0)) fun v1 =>
  mach_book.L0 (fCell x0 0) v1 (.int .i64 0) (fCell x0 0) (fCell x0 1) []) := (den_eq E 92 [x0]).trans (by kernel_rfl)
theorem mach_book.L0_eq (x0 : FV) (x1 : FV) (x2 : FV) (x3 : FV) (x4 : FV) (es5 : List (FV × FV)) : mach_book.L0 x0 x1 x2 x3 x4 es5 = (
  bindO (fBin .lss x2 x1) fun v7 =>
  fCond v7
  (bindO (fIdxC 6 x0 x2) fun c8 =>
  bindO (c8[0]?) fun v9 =>
  bindO (c8[1]?) fun v10 =>
  bindO (c8[2]?) fun v11 =>
  bindO (c8[3]?) fun v12 =>
  bindO (c8[4]?) fun v13 =>
  bindO (c8[5]?) fun v14 =>
  bindO (mach_Check (.agg [v9, v10, v11, v12, v13, v14])) fun v15 =>
  bindO (fBin .neq v15 (.int .i64 0)) fun v16 =>
  fCond v16
  (some v15)
  (bindO (mLook false [.str] es5 v9 (.bool false)) fun v17 =>
  fCond v17.1
  (some (.int .i64 22))
  (gB (keyOk false [.str] v9) <|
  bindO (mPut false [.str] es5 v9 (.bool true)) fun es18 =>
  bindO (fBin .add x2 (.int .i64 1)) fun v19 =>
  mach_book.L0 x0 x1 v19 x3 x4 es18)))
  (some (.int .i64 0))) := (jden_eq E 92 [] [4, 1, 0, 1, 1] _ _).trans (by kernel_rfl)
/-! ### ramet/mach.in (function 121) -/
theorem mach_in.eq (x0 x1 x2 : FV) : mach_in x0 x1 x2 = (
  gB (fIsAgg 2 x0) <|
  gB (fIsAgg 5 x1) <|
  gB (fIsAgg 2 x2) <|
  bindO (fIdxC 2 (fCell x1 1) (fCell x2 0)) fun c1 =>
  bindO (c1[1]?) fun v2 =>
  bindO (fIdxC 6 (fCell x0 0) v2) fun c3 =>
  bindO (c3[3]?) fun v4 =>
  bindO (fIdxC 2 v4 (fCell x2 1)) fun c5 =>
  bindO (c5[0]?) fun v6 =>
  bindO (c5[1]?) fun v7 =>
  some (.agg [v6, v7])) := (den_eq E 121 [x0, x1, x2]).trans (by kernel_rfl)
/-! ### ramet/mach.out (function 127) -/
theorem mach_out.eq (x0 x1 x2 : FV) : mach_out x0 x1 x2 = (
  gB (fIsAgg 2 x0) <|
  gB (fIsAgg 5 x1) <|
  gB (fIsAgg 2 x2) <|
  bindO (fIdxC 2 (fCell x1 1) (fCell x2 0)) fun c1 =>
  bindO (c1[1]?) fun v2 =>
  bindO (fIdxC 6 (fCell x0 0) v2) fun c3 =>
  bindO (c3[4]?) fun v4 =>
  bindO (fIdxC 2 v4 (fCell x2 1)) fun c5 =>
  bindO (c5[0]?) fun v6 =>
  bindO (c5[1]?) fun v7 =>
  some (.agg [v6, v7])) := (den_eq E 127 [x0, x1, x2]).trans (by kernel_rfl)
/-! ### ramet/mach.isOut (function 144) -/
theorem mach_isOut.eq (x0 x1 x2 : FV) : mach_isOut x0 x1 x2 = (
  gB (fIsAgg 2 x0) <|
  gB (fIsAgg 5 x1) <|
  gB (fIsAgg 2 x2) <|
  bindO (fBin .geq (fCell x2 0) (.int .i64 0)) fun v1 =>
  fCond v1
  (bindO (fLen (fCell x1 1)) fun v2 =>
  bindO (fBin .lss (fCell x2 0) v2) fun v3 =>
  fCond v3
  (bindO (fBin .geq (fCell x2 1) (.int .i64 0)) fun v4 =>
  fCond v4
  (bindO (fIdxC 2 (fCell x1 1) (fCell x2 0)) fun c5 =>
  bindO (c5[1]?) fun v6 =>
  bindO (fIdxC 6 (fCell x0 0) v6) fun c7 =>
  bindO (c7[4]?) fun v8 =>
  bindO (fLen v8) fun v9 =>
  bindO (fBin .lss (fCell x2 1) v9) fun v10 =>
  some v10)
  (some (.bool false)))
  (some (.bool false)))
  (some (.bool false))) := (den_eq E 144 [x0, x1, x2]).trans (by kernel_rfl)
/-! ### ramet/mach.isIn (function 145) -/
theorem mach_isIn.eq (x0 x1 x2 : FV) : mach_isIn x0 x1 x2 = (
  gB (fIsAgg 2 x0) <|
  gB (fIsAgg 5 x1) <|
  gB (fIsAgg 2 x2) <|
  bindO (fBin .geq (fCell x2 0) (.int .i64 0)) fun v1 =>
  fCond v1
  (bindO (fLen (fCell x1 1)) fun v2 =>
  bindO (fBin .lss (fCell x2 0) v2) fun v3 =>
  fCond v3
  (bindO (fBin .geq (fCell x2 1) (.int .i64 0)) fun v4 =>
  fCond v4
  (bindO (fIdxC 2 (fCell x1 1) (fCell x2 0)) fun c5 =>
  bindO (c5[1]?) fun v6 =>
  bindO (fIdxC 6 (fCell x0 0) v6) fun c7 =>
  bindO (c7[3]?) fun v8 =>
  bindO (fLen v8) fun v9 =>
  bindO (fBin .lss (fCell x2 1) v9) fun v10 =>
  some v10)
  (some (.bool false)))
  (some (.bool false)))
  (some (.bool false))) := (den_eq E 145 [x0, x1, x2]).trans (by kernel_rfl)
/-! ### ramet/mach.checkLinks (function 93) -/
noncomputable def mach_checkLinks.L0 (x0 : FV) (x1 : FV) (x2 : FV) (x3 : FV) (x4 : FV) (x5 : FV) (x6 : FV) (x7 : FV) (x8 : FV) (x9 : FV) (es10 : List (FV × FV)) (es11 : List (FV × FV)) : R := jden E 93 [] [4, 1, 0, 1, 1, 1] (mkF 165 [(2, .ptr 0 0 0), (3, .ptr 1 0 0), (5, .mp 2), (6, .mp 3), (26, .f x0), (27, .f x1), (28, .f x2)]) [.box [.f x3, .f x4], .box [.f x5, .f x6, .f x7, .f x8, .f x9], .map false es10, .map false es11]
noncomputable def mach_checkLinks.L2 (x0 : FV) (x1 : FV) (x2 : FV) (x3 : FV) (x4 : FV) (x5 : FV) (x6 : FV) (x7 : FV) (x8 : FV) (x9 : FV) (es10 : List (FV × FV)) (es11 : List (FV × FV)) (x12 : FV) (x13 : FV) (x14 : FV) (x15 : FV) (x16 : FV) (x17 : FV) : R := jden E 93 [] [0, 1, 4, 0, 1, 1, 5, 4, 1, 0, 1, 1, 1] (mkF 165 [(2, .ptr 0 0 0), (3, .ptr 1 0 0), (5, .mp 2), (6, .mp 3), (8, .ptr 4 0 0), (26, .f x0), (27, .f x1), (28, .f x2)]) [.box [.f x3, .f x4], .box [.f x5, .f x6, .f x7, .f x8, .f x9], .map false es10, .map false es11, .box [.f x12, .f x13, .f x14, .f x15, .f x16, .f x17]]
noncomputable def mach_checkLinks.L4 (x0 : FV) (x1 : FV) (x2 : FV) (x3 : FV) (x4 : FV) (x5 : FV) (x6 : FV) (x7 : FV) (x8 : FV) (x9 : FV) (es10 : List (FV × FV)) (es11 : List (FV × FV)) : R := jden E 93 [] [4, 1, 0, 1, 1, 1, 1] (mkF 165 [(2, .ptr 0 0 0), (3, .ptr 1 0 0), (5, .mp 2), (6, .mp 3), (103, .f x0), (104, .f x1), (105, .f x2)]) [.box [.f x3, .f x4], .box [.f x5, .f x6, .f x7, .f x8, .f x9], .map false es10, .map false es11]
noncomputable def mach_checkLinks.L1 (x0 : FV) (x1 : FV) (x2 : FV) (x3 : FV) (x4 : FV) (x5 : FV) (x6 : FV) (x7 : FV) (x8 : FV) (x9 : FV) (es10 : List (FV × FV)) (es11 : List (FV × FV)) (x12 : FV) (x13 : FV) (x14 : FV) (x15 : FV) (x16 : FV) (x17 : FV) : R := jden E 93 [] [1, 4, 0, 1, 1, 5, 4, 1, 0, 1, 1, 1] (mkF 165 [(2, .ptr 0 0 0), (3, .ptr 1 0 0), (5, .mp 2), (6, .mp 3), (8, .ptr 4 0 0), (26, .f x0), (27, .f x1), (28, .f x2)]) [.box [.f x3, .f x4], .box [.f x5, .f x6, .f x7, .f x8, .f x9], .map false es10, .map false es11, .box [.f x12, .f x13, .f x14, .f x15, .f x16, .f x17]]
noncomputable def mach_checkLinks.L5 (x0 : FV) (x1 : FV) (x2 : FV) (x3 : FV) (x4 : FV) (x5 : FV) (x6 : FV) (x7 : FV) (x8 : FV) (x9 : FV) (es10 : List (FV × FV)) (es11 : List (FV × FV)) : R := jden E 93 [] [4, 1, 0, 1, 1, 1, 1, 1] (mkF 165 [(2, .ptr 0 0 0), (3, .ptr 1 0 0), (5, .mp 2), (6, .mp 3), (121, .f x0), (122, .f x1), (123, .f x2)]) [.box [.f x3, .f x4], .box [.f x5, .f x6, .f x7, .f x8, .f x9], .map false es10, .map false es11]
noncomputable def mach_checkLinks.L3 (x0 : FV) (x1 : FV) (x2 : FV) (x3 : FV) (x4 : FV) (x5 : FV) (x6 : FV) (x7 : FV) (x8 : FV) (x9 : FV) (x10 : FV) (x11 : FV) (x12 : FV) (x13 : FV) (es14 : List (FV × FV)) (es15 : List (FV × FV)) (x16 : FV) (x17 : FV) (x18 : FV) (x19 : FV) (x20 : FV) (x21 : FV) : R := jden E 93 [] [4, 1, 0, 1, 1, 1, 4, 0, 1, 1, 5, 4, 1, 0, 1, 1, 1] (mkF 165 [(2, .ptr 0 0 0), (3, .ptr 1 0 0), (5, .mp 2), (6, .mp 3), (8, .ptr 4 0 0), (9, .f x0), (26, .f x1), (27, .f x2), (28, .f x3), (71, .f x4), (72, .f x5), (73, .f x6)]) [.box [.f x7, .f x8], .box [.f x9, .f x10, .f x11, .f x12, .f x13], .map false es14, .map false es15, .box [.f x16, .f x17, .f x18, .f x19, .f x20, .f x21]]
noncomputable def mach_checkLinks.L6 (x0 : FV) (x1 : FV) (x2 : FV) (x3 : FV) (x4 : FV) (x5 : FV) (x6 : FV) (x7 : FV) (x8 : FV) (x9 : FV) (es10 : List (FV × FV)) (es11 : List (FV × FV)) : R := jden E 93 [] [4, 1, 0, 1, 1, 1, 1, 1, 1] (mkF 165 [(2, .ptr 0 0 0), (5, .mp 2), (139, .f x0), (140, .f x1), (141, .f x2)]) [.box [.f x3, .f x4], .box [.f x5, .f x6, .f x7, .f x8, .f x9], .map false es10, .map false es11]
noncomputable def mach_checkLinks.L7 (x0 : FV) (x1 : FV) (x2 : FV) (x3 : FV) (x4 : FV) (x5 : FV) (x6 : FV) (x7 : FV) (x8 : FV) (x9 : FV) (x10 : FV) (x11 : FV) (x12 : FV) (es13 : List (FV × FV)) (es14 : List (FV × FV)) (x15 : FV) (x16 : FV) : R := jden E 93 [] [4, 1, 1, 4, 0, 1, 1, 5, 4, 1, 0, 1, 1, 1, 1, 1, 1] (mkF 165 [(2, .ptr 0 0 0), (5, .mp 2), (16, .f x0), (139, .f x1), (140, .f x2), (141, .f x3), (153, .f x4), (154, .f x5)]) [.box [.f x6, .f x7], .box [.f x8, .f x9, .f x10, .f x11, .f x12], .map false es13, .map false es14, .box [.f x15, .f x16]]
theorem mach_checkLinks.eq (x0 x1 : FV) : mach_checkLinks x0 x1 = (
  gB (fIsAgg 2 x0) <|
  gB (fIsAgg 5 x1) <|
  bindO (fLen (fCell x1 2)) fun v1 =>
  bindO (fBin .gtr v1 (.int .i64 64)) fun v2 =>
  fCond v2
  (some (.int .i64 26))
  (bindO (fLen (fCell x1 2)) fun v3 =>
  mach_checkLinks.L0 (fCell x1 2) v3 (.int .i64 0) (fCell x0 0) (fCell x0 1) (fCell x1 0) (fCell x1 1) (fCell x1 2) (fCell x1 3) (fCell x1 4) [] [])) := (den_eq E 93 [x0, x1]).trans (by kernel_rfl)
theorem mach_checkLinks.L0_eq (x0 : FV) (x1 : FV) (x2 : FV) (x3 : FV) (x4 : FV) (x5 : FV) (x6 : FV) (x7 : FV) (x8 : FV) (x9 : FV) (es10 : List (FV × FV)) (es11 : List (FV × FV)) : mach_checkLinks.L0 x0 x1 x2 x3 x4 x5 x6 x7 x8 x9 es10 es11 = (
  bindO (fBin .lss x2 x1) fun v13 =>
  fCond v13
  (bindO (fIdxC 6 x0 x2) fun c14 =>
  bindO (c14[0]?) fun v15 =>
  bindO (c14[1]?) fun v16 =>
  bindO (c14[2]?) fun v17 =>
  bindO (c14[3]?) fun v18 =>
  bindO (c14[4]?) fun v19 =>
  bindO (c14[5]?) fun v20 =>
  bindO (mach_isOut (.agg [x3, x4]) (.agg [x5, x6, x7, x8, x9]) (.agg [v15, v16])) fun v21 =>
  bindO (fUn .not v21) fun v22 =>
  fCond v22
  (some (.int .i64 24))
  (bindO (mach_isIn (.agg [x3, x4]) (.agg [x5, x6, x7, x8, x9]) (.agg [v17, v18])) fun v23 =>
  bindO (fUn .not v23) fun v24 =>
  fCond v24
  (some (.int .i64 24))
  (bindO (fBin .lss v19 (.int .i64 0)) fun v25 =>
  fCond v25
  (some (.int .i64 26))
  (bindO (fBin .gtr v19 (.int .i64 100)) fun v26 =>
  fCond v26
  (some (.int .i64 26))
  (bindO (fLen v20) fun v27 =>
  bindO (fBin .neq v27 v19) fun v28 =>
  fCond v28
  (some (.int .i64 24))
  (mach_checkLinks.L2 x0 x1 x2 x3 x4 x5 x6 x7 x8 x9 es10 es11 v15 v16 v17 v18 v19 v20))))))
  (bindO (fLen x8) fun v29 =>
  mach_checkLinks.L4 x8 v29 (.int .i64 0) x3 x4 x5 x6 x7 x8 x9 es10 es11)) := (jden_eq E 93 [] [4, 1, 0, 1, 1, 1] _ _).trans (by kernel_rfl)
theorem mach_checkLinks.L2_eq (x0 : FV) (x1 : FV) (x2 : FV) (x3 : FV) (x4 : FV) (x5 : FV) (x6 : FV) (x7 : FV) (x8 : FV) (x9 : FV) (es10 : List (FV × FV)) (es11 : List (FV × FV)) (x12 : FV) (x13 : FV) (x14 : FV) (x15 : FV) (x16 : FV) (x17 : FV) : mach_checkLinks.L2 x0 x1 x2 x3 x4 x5 x6 x7 x8 x9 es10 es11 x12 x13 x14 x15 x16 x17 = (
  mach_checkLinks.L1 x0 x1 x2 x3 x4 x5 x6 x7 x8 x9 es10 es11 x12 x13 x14 x15 x16 x17) := (jden_eq E 93 [] [0, 1, 4, 0, 1, 1, 5, 4, 1, 0, 1, 1, 1] _ _).trans (by kernel_rfl)
theorem mach_checkLinks.L4_eq (x0 : FV) (x1 : FV) (x2 : FV) (x3 : FV) (x4 : FV) (x5 : FV) (x6 : FV) (x7 : FV) (x8 : FV) (x9 : FV) (es10 : List (FV × FV)) (es11 : List (FV × FV)) : mach_checkLinks.L4 x0 x1 x2 x3 x4 x5 x6 x7 x8 x9 es10 es11 = (
  bindO (fBin .lss x2 x1) fun v13 =>
  fCond v13
  (bindO (fIdxC 2 x0 x2) fun c14 =>
  bindO (c14[0]?) fun v15 =>
  bindO (c14[1]?) fun v16 =>
  bindO (mach_isIn (.agg [x3, x4]) (.agg [x5, x6, x7, x8, x9]) (.agg [v15, v16])) fun v17 =>
  bindO (fUn .not v17) fun v18 =>
  fCond v18
  (some (.int .i64 24))
  (bindO (mLook true [.int, .int] es10 (.agg [v15, v16]) (.bool false)) fun v19 =>
  fCond v19.1
  (some (.int .i64 22))
  (gB (keyOk true [.int, .int] (.agg [v15, v16])) <|
  bindO (mPut true [.int, .int] es10 (.agg [v15, v16]) (.bool true)) fun es20 =>
  bindO (fBin .add x2 (.int .i64 1)) fun v21 =>
  mach_checkLinks.L4 x0 x1 v21 x3 x4 x5 x6 x7 x8 x9 es20 es11)))
  (bindO (fLen x9) fun v22 =>
  mach_checkLinks.L5 x9 v22 (.int .i64 0) x3 x4 x5 x6 x7 x8 x9 es10 es11)) := (jden_eq E 93 [] [4, 1, 0, 1, 1, 1, 1] _ _).trans (by kernel_rfl)
theorem mach_checkLinks.L1_eq (x0 : FV) (x1 : FV) (x2 : FV) (x3 : FV) (x4 : FV) (x5 : FV) (x6 : FV) (x7 : FV) (x8 : FV) (x9 : FV) (es10 : List (FV × FV)) (es11 : List (FV × FV)) (x12 : FV) (x13 : FV) (x14 : FV) (x15 : FV) (x16 : FV) (x17 : FV) : mach_checkLinks.L1 x0 x1 x2 x3 x4 x5 x6 x7 x8 x9 es10 es11 x12 x13 x14 x15 x16 x17 = (
  bindO (mach_out (.agg [x3, x4]) (.agg [x5, x6, x7, x8, x9]) (.agg [x12, x13])) fun v19 =>
  gB (fIsAgg 2 v19) <|
  bindO (fLen (fCell v19 1)) fun v20 =>
  bindO (fLen x17) fun v21 =>
  mach_checkLinks.L3 v20 x0 x1 x2 x17 v21 (.int .i64 0) x3 x4 x5 x6 x7 x8 x9 es10 es11 x12 x13 x14 x15 x16 x17) := (jden_eq E 93 [] [1, 4, 0, 1, 1, 5, 4, 1, 0, 1, 1, 1] _ _).trans (by kernel_rfl)
theorem mach_checkLinks.L5_eq (x0 : FV) (x1 : FV) (x2 : FV) (x3 : FV) (x4 : FV) (x5 : FV) (x6 : FV) (x7 : FV) (x8 : FV) (x9 : FV) (es10 : List (FV × FV)) (es11 : List (FV × FV)) : mach_checkLinks.L5 x0 x1 x2 x3 x4 x5 x6 x7 x8 x9 es10 es11 = (
  bindO (fBin .lss x2 x1) fun v13 =>
  fCond v13
  (bindO (fIdxC 2 x0 x2) fun c14 =>
  bindO (c14[0]?) fun v15 =>
  bindO (c14[1]?) fun v16 =>
  bindO (mach_isOut (.agg [x3, x4]) (.agg [x5, x6, x7, x8, x9]) (.agg [v15, v16])) fun v17 =>
  bindO (fUn .not v17) fun v18 =>
  fCond v18
  (some (.int .i64 24))
  (bindO (mLook true [.int, .int] es11 (.agg [v15, v16]) (.bool false)) fun v19 =>
  fCond v19.1
  (some (.int .i64 22))
  (gB (keyOk true [.int, .int] (.agg [v15, v16])) <|
  bindO (mPut true [.int, .int] es11 (.agg [v15, v16]) (.bool true)) fun es20 =>
  bindO (fBin .add x2 (.int .i64 1)) fun v21 =>
  mach_checkLinks.L5 x0 x1 v21 x3 x4 x5 x6 x7 x8 x9 es10 es20)))
  (bindO (fLen x6) fun v22 =>
  mach_checkLinks.L6 x6 v22 (.int .i64 0) x3 x4 x5 x6 x7 x8 x9 es10 es11)) := (jden_eq E 93 [] [4, 1, 0, 1, 1, 1, 1, 1] _ _).trans (by kernel_rfl)
theorem mach_checkLinks.L3_eq (x0 : FV) (x1 : FV) (x2 : FV) (x3 : FV) (x4 : FV) (x5 : FV) (x6 : FV) (x7 : FV) (x8 : FV) (x9 : FV) (x10 : FV) (x11 : FV) (x12 : FV) (x13 : FV) (es14 : List (FV × FV)) (es15 : List (FV × FV)) (x16 : FV) (x17 : FV) (x18 : FV) (x19 : FV) (x20 : FV) (x21 : FV) : mach_checkLinks.L3 x0 x1 x2 x3 x4 x5 x6 x7 x8 x9 x10 x11 x12 x13 es14 es15 x16 x17 x18 x19 x20 x21 = (
  bindO (fBin .lss x6 x5) fun v23 =>
  fCond v23
  (bindO (fIdxC 1 x4 x6) fun c24 =>
  bindO (c24[0]?) fun v25 =>
  bindO (fBin .lss v25 (.int .i64 0)) fun v26 =>
  fCond v26
  (some (.int .i64 27))
  (bindO (fBin .geq v25 x0) fun v27 =>
  fCond v27
  (some (.int .i64 27))
  (bindO (fBin .add x6 (.int .i64 1)) fun v28 =>
  mach_checkLinks.L3 x0 x1 x2 x3 x4 x5 v28 x7 x8 x9 x10 x11 x12 x13 es14 es15 x16 x17 x18 x19 x20 x21)))
  (bindO (mach_in (.agg [x7, x8]) (.agg [x9, x10, x11, x12, x13]) (.agg [x18, x19])) fun v29 =>
  gB (fIsAgg 2 v29) <|
  bindO (fLen (fCell v29 1)) fun v30 =>
  bindO (fBin .gtr x0 v30) fun v31 =>
  fCond v31
  (some (.int .i64 24))
  (bindO (mLook true [.int, .int] es14 (.agg [x18, x19]) (.bool false)) fun v32 =>
  fCond v32.1
  (some (.int .i64 22))
  (gB (keyOk true [.int, .int] (.agg [x18, x19])) <|
  bindO (mPut true [.int, .int] es14 (.agg [x18, x19]) (.bool true)) fun es33 =>
  bindO (fBin .add x3 (.int .i64 1)) fun v34 =>
  mach_checkLinks.L0 x1 x2 v34 x7 x8 x9 x10 x11 x12 x13 es33 es15)))) := (jden_eq E 93 [] [4, 1, 0, 1, 1, 1, 4, 0, 1, 1, 5, 4, 1, 0, 1, 1, 1] _ _).trans (by kernel_rfl)
theorem mach_checkLinks.L6_eq (x0 : FV) (x1 : FV) (x2 : FV) (x3 : FV) (x4 : FV) (x5 : FV) (x6 : FV) (x7 : FV) (x8 : FV) (x9 : FV) (es10 : List (FV × FV)) (es11 : List (FV × FV)) : mach_checkLinks.L6 x0 x1 x2 x3 x4 x5 x6 x7 x8 x9 es10 es11 = (
  bindO (fBin .lss x2 x1) fun v13 =>
  fCond v13
  (bindO (fIdxC 2 x0 x2) fun c14 =>
  bindO (c14[0]?) fun v15 =>
  bindO (c14[1]?) fun v16 =>
  bindO (fIdxC 6 x3 v16) fun c17 =>
  bindO (c17[3]?) fun v18 =>
  bindO (fLen v18) fun v19 =>
  mach_checkLinks.L7 x2 x0 x1 x2 v19 (.int .i64 0) x3 x4 x5 x6 x7 x8 x9 es10 es11 v15 v16)
  (some (.int .i64 0))) := (jden_eq E 93 [] [4, 1, 0, 1, 1, 1, 1, 1, 1] _ _).trans (by kernel_rfl)
theorem mach_checkLinks.L7_eq (x0 : FV) (x1 : FV) (x2 : FV) (x3 : FV) (x4 : FV) (x5 : FV) (x6 : FV) (x7 : FV) (x8 : FV) (x9 : FV) (x10 : FV) (x11 : FV) (x12 : FV) (es13 : List (FV × FV)) (es14 : List (FV × FV)) (x15 : FV) (x16 : FV) : mach_checkLinks.L7 x0 x1 x2 x3 x4 x5 x6 x7 x8 x9 x10 x11 x12 es13 es14 x15 x16 = (
  bindO (fBin .lss x5 x4) fun v18 =>
  fCond v18
  (bindO (mLook true [.int, .int] es13 (.agg [x0, x5]) (.bool false)) fun v19 =>
  bindO (fUn .not v19.1) fun v20 =>
  fCond v20
  (some (.int .i64 24))
  (bindO (fBin .add x5 (.int .i64 1)) fun v21 =>
  mach_checkLinks.L7 x0 x1 x2 x3 x4 v21 x6 x7 x8 x9 x10 x11 x12 es13 es14 x15 x16))
  (bindO (fBin .add x3 (.int .i64 1)) fun v22 =>
  mach_checkLinks.L6 x1 x2 v22 x6 x7 x8 x9 x10 x11 x12 es13 es14)) := (jden_eq E 93 [] [4, 1, 1, 4, 0, 1, 1, 5, 4, 1, 0, 1, 1, 1, 1, 1, 1] _ _).trans (by kernel_rfl)
/-! ### ramet/mach.order (function 94) -/
noncomputable def mach_order.L0 (x0 : FV) (x1 : FV) (x2 : FV) (x3 : FV) (x4 : FV) (x5 : FV) (x6 : FV) (x7 : FV) (r8 : List (List FV)) : R := jden E 94 [] [4, 1, 0, 1, 1] (mkF 100 [(1, .ptr 0 0 0), (4, .ref 1), (19, .f x0), (20, .f x1), (21, .f x2)]) [.box [.f x3, .f x4, .f x5, .f x6, .f x7], .own 1 r8]
noncomputable def mach_order.L1 (x0 : FV) (x1 : FV) (x2 : FV) (x3 : FV) (x4 : FV) (x5 : FV) (x6 : FV) (r7 : List (List FV)) (x8 : FV) (r9 : List (List FV)) : R := jden E 94 [] [4, 1, 0, 1, 1, 1, 1] (mkF 100 [(1, .ptr 0 0 0), (4, .ref 1), (7, .ptr 2 0 0), (37, .ref 1), (38, .f x0), (39, .f x1)]) [.box [.f x2, .f x3, .f x4, .f x5, .f x6], .own 1 r7, .box [.ref 3, .f x8], .own 1 r9]
noncomputable def mach_order.L2 (x0 : FV) (x1 : FV) (x2 : FV) (x3 : FV) (x4 : FV) (r5 : List (List FV)) (x6 : FV) (r7 : List (List FV)) (r8 : List (List FV)) : R := jden E 94 [] [4, 0, 1, 1, 1, 1, 1, 1] (mkF 100 [(1, .ptr 0 0 0), (4, .ref 1), (7, .ptr 2 0 0), (10, .ref 4)]) [.box [.f x0, .f x1, .f x2, .f x3, .f x4], .own 1 r5, .box [.ref 5, .f x6], .dead, .own 1 r7, .own 1 r8]
noncomputable def mach_order.L3 (x0 : FV) (x1 : FV) (x2 : FV) (x3 : FV) (x4 : FV) (x5 : FV) (x6 : FV) (x7 : FV) (x8 : FV) (r9 : List (List FV)) (x10 : FV) (r11 : List (List FV)) (r12 : List (List FV)) : R := jden E 94 [] [4, 1, 1, 1, 4, 1, 5, 4, 0, 1, 1, 1, 1, 1, 1] (mkF 100 [(1, .ptr 0 0 0), (4, .ref 1), (7, .ptr 2 0 0), (10, .ref 7), (11, .f x0), (57, .f x1), (58, .f x2), (59, .f x3)]) [.box [.f x4, .f x5, .f x6, .f x7, .f x8], .own 1 r9, .box [.ref 6, .f x10], .dead, .dead, .dead, .own 1 r11, .own 1 r12]
noncomputable def mach_order.L4 (x0 : FV) (x1 : FV) (x2 : FV) (x3 : FV) (x4 : FV) (x5 : FV) (x6 : FV) (x7 : FV) (x8 : FV) (x9 : FV) (r10 : List (List FV)) (x11 : FV) (r12 : List (List FV)) (r13 : List (List FV)) : R := jden E 94 [] [1, 4, 0, 1, 1, 5, 4, 1, 1, 1, 4, 1, 5, 4, 0, 1, 1, 1, 1, 1, 1] (mkF 100 [(1, .ptr 0 0 0), (4, .ref 1), (7, .ptr 2 0 0), (10, .ref 7), (11, .f x0), (13, .f x1), (57, .f x2), (58, .f x3), (59, .f x4)]) [.box [.f x5, .f x6, .f x7, .f x8, .f x9], .own 1 r10, .box [.ref 6, .f x11], .dead, .dead, .dead, .own 1 r12, .own 1 r13]
theorem mach_order.eq (x0 : FV) : mach_order x0 = (
  gB (fIsAgg 5 x0) <|
  bindO (fLen (fCell x0 1)) fun v1 =>
  bindO (asNat v1) fun j2 =>
  bindO (asNat v1) fun j3 =>
  gB (j2 ≤ j3 && j3 * 8 ≤ room && 1 ≥ 1) <|
  bindO (fLen (fCell x0 2)) fun v4 =>
  mach_order.L0 (fCell x0 2) v4 (.int .i64 0) (fCell x0 0) (fCell x0 1) (fCell x0 2) (fCell x0 3) (fCell x0 4) (List.replicate j2 [(.int .i64 0 : FV)])) := (den_eq E 94 [x0]).trans (by kernel_rfl)
theorem mach_order.L0_eq (x0 : FV) (x1 : FV) (x2 : FV) (x3 : FV) (x4 : FV) (x5 : FV) (x6 : FV) (x7 : FV) (r8 : List (List FV)) : mach_order.L0 x0 x1 x2 x3 x4 x5 x6 x7 r8 = (
  bindO (fBin .lss x2 x1) fun v10 =>
  fCond v10
  (bindO (fIdxC 6 x0 x2) fun c11 =>
  bindO (c11[0]?) fun v12 =>
  bindO (c11[1]?) fun v13 =>
  bindO (c11[2]?) fun v14 =>
  bindO (c11[3]?) fun v15 =>
  bindO (c11[4]?) fun v16 =>
  bindO (c11[5]?) fun v17 =>
  bindO (fBin .eql v16 (.int .i64 0)) fun v18 =>
  fCond v18
  (bindO (rIdx r8 v14) fun j19 =>
  bindO (rGet r8 j19 0) fun v20 =>
  bindO (fBin .add v20 (.int .i64 1)) fun v21 =>
  bindO (rIdx r8 v14) fun j22 =>
  bindO (rSet r8 j22 0 [v21]) fun r23 =>
  bindO (fBin .add x2 (.int .i64 1)) fun v24 =>
  mach_order.L0 x0 x1 v24 x3 x4 x5 x6 x7 r23)
  (bindO (fBin .add x2 (.int .i64 1)) fun v25 =>
  mach_order.L0 x0 x1 v25 x3 x4 x5 x6 x7 r8))
  (mach_order.L1 (.int .i64 ((r8.length : Nat) : Int)) (.int .i64 0) x3 x4 x5 x6 x7 r8 (.int .i64 0) [])) := (jden_eq E 94 [] [4, 1, 0, 1, 1] _ _).trans (by kernel_rfl)
theorem mach_order.L1_eq (x0 : FV) (x1 : FV) (x2 : FV) (x3 : FV) (x4 : FV) (x5 : FV) (x6 : FV) (r7 : List (List FV)) (x8 : FV) (r9 : List (List FV)) : mach_order.L1 x0 x1 x2 x3 x4 x5 x6 r7 x8 r9 = (
  bindO (fBin .lss x1 x0) fun v11 =>
  fCond v11
  (bindO (rIdx r7 x1) fun j12 =>
  bindO (rGet r7 j12 0) fun v13 =>
  bindO (fBin .eql v13 (.int .i64 0)) fun v14 =>
  fCond v14
  (gB (decide ((r9.length + 1) * 8 ≤ room)) <|
  bindO (fBin .add x1 (.int .i64 1)) fun v15 =>
  mach_order.L1 x0 v15 x2 x3 x4 x5 x6 r7 x8 (r9 ++ [[x1]]))
  (bindO (fBin .add x1 (.int .i64 1)) fun v16 =>
  mach_order.L1 x0 v16 x2 x3 x4 x5 x6 r7 x8 r9))
  (mach_order.L2 x2 x3 x4 x5 x6 r7 x8 [] r9)) := (jden_eq E 94 [] [4, 1, 0, 1, 1, 1, 1] _ _).trans (by kernel_rfl)
theorem mach_order.L2_eq (x0 : FV) (x1 : FV) (x2 : FV) (x3 : FV) (x4 : FV) (r5 : List (List FV)) (x6 : FV) (r7 : List (List FV)) (r8 : List (List FV)) : mach_order.L2 x0 x1 x2 x3 x4 r5 x6 r7 r8 = (
  bindO (fBin .eql x6 (.int .i64 ((r8.length : Nat) : Int))) fun v10 =>
  bindO (fUn .not v10) fun v11 =>
  fCond v11
  (bindO (rIdx r8 x6) fun j12 =>
  bindO (rGet r8 j12 0) fun v13 =>
  bindO (fBin .add x6 (.int .i64 1)) fun v14 =>
  gB (decide ((r7.length + 1) * 8 ≤ room)) <|
  bindO (fLen x2) fun v15 =>
  mach_order.L3 v13 x2 v15 (.int .i64 0) x0 x1 x2 x3 x4 r5 v14 r8 (r7 ++ [[v13]]))
  (bindO (fLen x1) fun v16 =>
  bindO (fBin .eql (.int .i64 ((r7.length : Nat) : Int)) v16) fun v17 =>
  some (.tup [.arr r7, v17]))) := (jden_eq E 94 [] [4, 0, 1, 1, 1, 1, 1, 1] _ _).trans (by kernel_rfl)
theorem mach_order.L3_eq (x0 : FV) (x1 : FV) (x2 : FV) (x3 : FV) (x4 : FV) (x5 : FV) (x6 : FV) (x7 : FV) (x8 : FV) (r9 : List (List FV)) (x10 : FV) (r11 : List (List FV)) (r12 : List (List FV)) : mach_order.L3 x0 x1 x2 x3 x4 x5 x6 x7 x8 r9 x10 r11 r12 = (
  bindO (fBin .lss x3 x2) fun v14 =>
  fCond v14
  (bindO (fIdxC 6 x1 x3) fun c15 =>
  bindO (c15[0]?) fun v16 =>
  bindO (c15[1]?) fun v17 =>
  bindO (c15[2]?) fun v18 =>
  bindO (c15[3]?) fun v19 =>
  bindO (c15[4]?) fun v20 =>
  bindO (c15[5]?) fun v21 =>
  bindO (fBin .neq v20 (.int .i64 0)) fun v22 =>
  fCond v22
  (bindO (fBin .add x3 (.int .i64 1)) fun v23 =>
  mach_order.L3 x0 x1 x2 v23 x4 x5 x6 x7 x8 r9 x10 r11 r12)
  (bindO (fBin .neq v16 x0) fun v24 =>
  fCond v24
  (bindO (fBin .add x3 (.int .i64 1)) fun v25 =>
  mach_order.L3 x0 x1 x2 v25 x4 x5 x6 x7 x8 r9 x10 r11 r12)
  (mach_order.L4 x0 (.eptr [v16, v17, v18, v19, v20, v21] 0) x1 x2 x3 x4 x5 x6 x7 x8 r9 x10 r11 r12)))
  (mach_order.L2 x4 x5 x6 x7 x8 r9 x10 r12 r11)) := (jden_eq E 94 [] [4, 1, 1, 1, 4, 1, 5, 4, 0, 1, 1, 1, 1, 1, 1] _ _).trans (by kernel_rfl)
theorem mach_order.L4_eq (x0 : FV) (x1 : FV) (x2 : FV) (x3 : FV) (x4 : FV) (x5 : FV) (x6 : FV) (x7 : FV) (x8 : FV) (x9 : FV) (r10 : List (List FV)) (x11 : FV) (r12 : List (List FV)) (r13 : List (List FV)) : mach_order.L4 x0 x1 x2 x3 x4 x5 x6 x7 x8 x9 r10 x11 r12 r13 = (
  bindO (fAddrO x1 2) fun p15 =>
  bindO (fAddrO p15 0) fun p16 =>
  bindO (fLd p16 0) fun v17 =>
  bindO (rIdx r10 v17) fun j18 =>
  bindO (rGet r10 j18 0) fun v19 =>
  bindO (fBin .sub v19 (.int .i64 1)) fun v20 =>
  bindO (rIdx r10 v17) fun j21 =>
  bindO (rSet r10 j21 0 [v20]) fun r22 =>
  bindO (fAddrO x1 2) fun p23 =>
  bindO (fAddrO p23 0) fun p24 =>
  bindO (fLd p24 0) fun v25 =>
  bindO (rIdx r22 v25) fun j26 =>
  bindO (rGet r22 j26 0) fun v27 =>
  bindO (fBin .eql v27 (.int .i64 0)) fun v28 =>
  fCond v28
  (bindO (fAddrO x1 2) fun p29 =>
  bindO (fAddrO p29 0) fun p30 =>
  bindO (fLd p30 0) fun v31 =>
  gB (decide ((r12.length + 1) * 8 ≤ room)) <|
  bindO (fBin .add x4 (.int .i64 1)) fun v32 =>
  mach_order.L3 x0 x2 x3 v32 x5 x6 x7 x8 x9 r22 x11 (r12 ++ [[v31]]) r13)
  (bindO (fBin .add x4 (.int .i64 1)) fun v33 =>
  mach_order.L3 x0 x2 x3 v33 x5 x6 x7 x8 x9 r22 x11 r12 r13)) := (jden_eq E 94 [] [1, 4, 0, 1, 1, 5, 4, 1, 1, 1, 4, 1, 5, 4, 0, 1, 1, 1, 1, 1, 1] _ _).trans (by kernel_rfl)
/-! ### ramet/mach.CheckNet (function 30) -/
noncomputable def mach_CheckNet.L0 (x0 : FV) (x1 : FV) (x2 : FV) : R := jden E 30 [] [1] (mkF 93 [(1, .f x0), (2, .ptr 0 0 0)]) [.box [.f x1, .f x2]]
noncomputable def mach_CheckNet.L1 (x0 : FV) (x1 : FV) (x2 : FV) (x3 : FV) (x4 : FV) (x5 : FV) (x6 : FV) : R := jden E 30 [] [1, 1, 1, 1, 1] (mkF 93 [(2, .ptr 0 0 0), (6, .ptr 1 0 0)]) [.box [.f x0, .f x1], .box [.f x2, .f x3, .f x4, .f x5, .f x6]]
noncomputable def mach_CheckNet.L2 (x0 : FV) (x1 : FV) (x2 : FV) (x3 : FV) (x4 : FV) (x5 : FV) (x6 : FV) (x7 : FV) (x8 : FV) (x9 : FV) (es10 : List (FV × FV)) : R := jden E 30 [] [4, 1, 0, 1, 1, 1, 1, 1, 1, 1] (mkF 93 [(2, .ptr 0 0 0), (6, .ptr 1 0 0), (7, .mp 2), (48, .f x0), (49, .f x1), (50, .f x2)]) [.box [.f x3, .f x4], .box [.f x5, .f x6, .f x7, .f x8, .f x9], .map false es10]
noncomputable def mach_CheckNet.L3 (x0 : FV) (x1 : FV) (x2 : FV) (x3 : FV) (x4 : FV) (x5 : FV) (x6 : FV) (x7 : FV) (x8 : FV) (x9 : FV) (es10 : List (FV × FV)) (x11 : FV) (x12 : FV) : R := jden E 30 [] [1, 4, 0, 1, 1, 5, 4, 1, 0, 1, 1, 1, 1, 1, 1, 1] (mkF 93 [(2, .ptr 0 0 0), (6, .ptr 1 0 0), (7, .mp 2), (9, .ptr 3 0 0), (48, .f x0), (49, .f x1), (50, .f x2)]) [.box [.f x3, .f x4], .box [.f x5, .f x6, .f x7, .f x8, .f x9], .map false es10, .box [.f x11, .f x12]]
theorem mach_CheckNet.eq (x0 x1 : FV) : mach_CheckNet x0 x1 = (
  gB (fIsAgg 2 x0) <|
  bindO (fBin .lss x1 (.int .i64 0)) fun v1 =>
  fCond v1
  (some (.int .i64 21))
  (bindO (fLen (fCell x0 1)) fun v2 =>
  bindO (fBin .geq x1 v2) fun v3 =>
  fCond v3
  (some (.int .i64 21))
  (mach_CheckNet.L0 x1 (fCell x0 0) (fCell x0 1)))) := (den_eq E 30 [x0, x1]).trans (by kernel_rfl)
theorem mach_CheckNet.L0_eq (x0 : FV) (x1 : FV) (x2 : FV) : mach_CheckNet.L0 x0 x1 x2 = (
  bindO (mach_book (.agg [x1, x2])) fun v4 =>
  bindO (fBin .neq v4 (.int .i64 0)) fun v5 =>
  fCond v5
  (some v4)
  (bindO (fIdxC 5 x2 x0) fun c6 =>
  bindO (c6[0]?) fun v7 =>
  bindO (c6[1]?) fun v8 =>
  bindO (c6[2]?) fun v9 =>
  bindO (c6[3]?) fun v10 =>
  bindO (c6[4]?) fun v11 =>
  bindO (mach_isName v7) fun v12 =>
  bindO (fUn .not v12) fun v13 =>
  fCond v13
  (some (.int .i64 21))
  (bindO (fLen v8) fun v14 =>
  bindO (fBin .eql v14 (.int .i64 0)) fun v15 =>
  fCond v15
  (some (.int .i64 26))
  (bindO (fLen v8) fun v16 =>
  bindO (fBin .gtr v16 (.int .i64 32)) fun v17 =>
  fCond v17
  (some (.int .i64 26))
  (mach_CheckNet.L1 x1 x2 v7 v8 v9 v10 v11))))) := (jden_eq E 30 [] [1] _ _).trans (by kernel_rfl)
theorem mach_CheckNet.L1_eq (x0 : FV) (x1 : FV) (x2 : FV) (x3 : FV) (x4 : FV) (x5 : FV) (x6 : FV) : mach_CheckNet.L1 x0 x1 x2 x3 x4 x5 x6 = (
  bindO (fLen x3) fun v8 =>
  mach_CheckNet.L2 x3 v8 (.int .i64 0) x0 x1 x2 x3 x4 x5 x6 []) := (jden_eq E 30 [] [1, 1, 1, 1, 1] _ _).trans (by kernel_rfl)
theorem mach_CheckNet.L2_eq (x0 : FV) (x1 : FV) (x2 : FV) (x3 : FV) (x4 : FV) (x5 : FV) (x6 : FV) (x7 : FV) (x8 : FV) (x9 : FV) (es10 : List (FV × FV)) : mach_CheckNet.L2 x0 x1 x2 x3 x4 x5 x6 x7 x8 x9 es10 = (
  bindO (fBin .lss x2 x1) fun v12 =>
  fCond v12
  (bindO (fIdxC 2 x0 x2) fun c13 =>
  bindO (c13[0]?) fun v14 =>
  bindO (c13[1]?) fun v15 =>
  bindO (mach_isName v14) fun v16 =>
  bindO (fUn .not v16) fun v17 =>
  fCond v17
  (some (.int .i64 21))
  (bindO (mLook false [.str] es10 v14 (.bool false)) fun v18 =>
  fCond v18.1
  (some (.int .i64 22))
  (bindO (fBin .lss v15 (.int .i64 0)) fun v19 =>
  fCond v19
  (some (.int .i64 21))
  (bindO (fLen x3) fun v20 =>
  bindO (fBin .geq v15 v20) fun v21 =>
  fCond v21
  (some (.int .i64 21))
  (mach_CheckNet.L3 x0 x1 x2 x3 x4 x5 x6 x7 x8 x9 es10 v14 v15)))))
  (bindO (mach_checkLinks (.agg [x3, x4]) (.agg [x5, x6, x7, x8, x9])) fun v22 =>
  bindO (fBin .neq v22 (.int .i64 0)) fun v23 =>
  fCond v23
  (some v22)
  (bindO (mach_order (.agg [x5, x6, x7, x8, x9])) fun v24 =>
  gB (fIsTup 2 v24) <|
  bindO (fUn .not (fTup v24 1)) fun v25 =>
  fCond v25
  (some (.int .i64 25))
  (some (.int .i64 0))))) := (jden_eq E 30 [] [4, 1, 0, 1, 1, 1, 1, 1, 1, 1] _ _).trans (by kernel_rfl)
theorem mach_CheckNet.L3_eq (x0 : FV) (x1 : FV) (x2 : FV) (x3 : FV) (x4 : FV) (x5 : FV) (x6 : FV) (x7 : FV) (x8 : FV) (x9 : FV) (es10 : List (FV × FV)) (x11 : FV) (x12 : FV) : mach_CheckNet.L3 x0 x1 x2 x3 x4 x5 x6 x7 x8 x9 es10 x11 x12 = (
  gB (keyOk false [.str] x11) <|
  bindO (mPut false [.str] es10 x11 (.bool true)) fun es14 =>
  bindO (fBin .add x2 (.int .i64 1)) fun v15 =>
  mach_CheckNet.L2 x0 x1 v15 x3 x4 x5 x6 x7 x8 x9 es14) := (jden_eq E 30 [] [1, 4, 0, 1, 1, 5, 4, 1, 0, 1, 1, 1, 1, 1, 1, 1] _ _).trans (by kernel_rfl)
/-! ### ramet/rametlaw02.MachChecks (function 7) -/
theorem law02_MachChecks.eq (x0 x1 x2 : FV) : law02_MachChecks x0 x1 x2 = (
  gB (fIsAgg 6 x0) <|
  gB (fIsAgg 2 x1) <|
  bindO (ref02_Check (.agg [(fCell x0 0), (fCell x0 1), (fCell x0 2), (fCell x0 3), (fCell x0 4), (fCell x0 5)])) fun v1 =>
  bindO (ref02_CheckNet (.agg [(fCell x1 0), (fCell x1 1)]) x2) fun v2 =>
  bindO (mach_Check (.agg [(fCell x0 0), (fCell x0 1), (fCell x0 2), (fCell x0 3), (fCell x0 4), (fCell x0 5)])) fun v3 =>
  bindO (fBin .eql v3 v1) fun v4 =>
  fCond v4
  (bindO (mach_CheckNet (.agg [(fCell x1 0), (fCell x1 1)]) x2) fun v5 =>
  bindO (fBin .eql v5 v2) fun v6 =>
  some v6)
  (some (.bool false))) := (den_eq E 7 [x0, x1, x2]).trans (by kernel_rfl)
/-! ### ramet/rametref02.netPorts (function 117) -/
noncomputable def ref02_netPorts.L0 (x0 : FV) (x1 : FV) (x2 : FV) (x3 : FV) (x4 : FV) (x5 : FV) (x6 : FV) (r7 : List (List FV)) : R := jden E 117 [] [4, 1, 0, 1, 1] (mkF 39 [(0, .f x0), (3, .ptr 0 0 0), (5, .ref 1), (6, .f x1)]) [.box [.f x2, .f x3, .f x4, .f x5, .f x6], .own 2 r7]
theorem ref02_netPorts.eq (x0 x1 : FV) : ref02_netPorts x0 x1 = (
  gB (fIsAgg 5 x1) <|
  ref02_netPorts.L0 x0 (.int .i64 0) (fCell x1 0) (fCell x1 1) (fCell x1 2) (fCell x1 3) (fCell x1 4) []) := (den_eq E 117 [x0, x1]).trans (by kernel_rfl)
theorem ref02_netPorts.L0_eq (x0 : FV) (x1 : FV) (x2 : FV) (x3 : FV) (x4 : FV) (x5 : FV) (x6 : FV) (r7 : List (List FV)) : ref02_netPorts.L0 x0 x1 x2 x3 x4 x5 x6 r7 = (
  bindO (fLen x5) fun v9 =>
  bindO (fBin .lss x1 v9) fun v10 =>
  fCond v10
  (bindO (fIdxC 2 x5 x1) fun c11 =>
  bindO (c11[0]?) fun v12 =>
  bindO (c11[1]?) fun v13 =>
  bindO (fIdxC 2 x3 v12) fun c14 =>
  bindO (c14[1]?) fun v15 =>
  bindO (fIdxC 6 x0 v15) fun c16 =>
  bindO (c16[3]?) fun v17 =>
  bindO (fIdxC 2 v17 v13) fun c18 =>
  bindO (c18[0]?) fun v19 =>
  bindO (c18[1]?) fun v20 =>
  gB (decide ((r7.length + 1) * 40 ≤ room)) <|
  bindO (fBin .add x1 (.int .i64 1)) fun v21 =>
  ref02_netPorts.L0 x0 v21 x2 x3 x4 x5 x6 (r7 ++ [[v19, v20]]))
  (some (.arr r7))) := (jden_eq E 117 [] [4, 1, 0, 1, 1] _ _).trans (by kernel_rfl)
/-! ### ramet/rametref02.first (function 118) -/
noncomputable def ref02_first.L0 (x0 : FV) (x1 : FV) (x2 : FV) (x3 : FV) (x4 : FV) (x5 : FV) (x6 : FV) (r7 : List (List FV)) (r8 : List (List FV)) (r9 : List (List FV)) (r10 : List (List FV)) : R := jden E 118 [] [4, 1, 0, 1, 1] (mkF 52 [(0, .f x0), (3, .ptr 0 0 0), (4, .ptr 1 0 0), (5, .ptr 2 0 0), (6, .f x1)]) [.box [.f x2, .f x3, .f x4, .f x5, .f x6], .box [.ref 3, .ref 4], .box [.ref 5, .ref 6], .own 1 r7, .own 1 r8, .own 1 r9, .own 1 r10]
noncomputable def ref02_first.L1 (x0 : FV) (x1 : FV) (x2 : FV) (x3 : FV) (x4 : FV) (x5 : FV) (r6 : List (List FV)) (r7 : List (List FV)) (r8 : List (List FV)) (r9 : List (List FV)) : R := jden E 118 [] [4, 1, 0, 1, 1, 1] (mkF 52 [(3, .ptr 0 0 0), (4, .ptr 1 0 0), (5, .ptr 2 0 0), (7, .f x0)]) [.box [.f x1, .f x2, .f x3, .f x4, .f x5], .box [.ref 3, .ref 4], .box [.ref 5, .ref 7], .own 1 r6, .own 1 r7, .own 1 r8, .dead, .own 1 r9]
theorem ref02_first.eq (x0 x1 : FV) : ref02_first x0 x1 = (
  gB (fIsAgg 5 x1) <|
  ref02_first.L0 x0 (.int .i64 0) (fCell x1 0) (fCell x1 1) (fCell x1 2) (fCell x1 3) (fCell x1 4) [] [] [] []) := (den_eq E 118 [x0, x1]).trans (by kernel_rfl)
theorem ref02_first.L0_eq (x0 : FV) (x1 : FV) (x2 : FV) (x3 : FV) (x4 : FV) (x5 : FV) (x6 : FV) (r7 : List (List FV)) (r8 : List (List FV)) (r9 : List (List FV)) (r10 : List (List FV)) : ref02_first.L0 x0 x1 x2 x3 x4 x5 x6 r7 r8 r9 r10 = (
  bindO (fLen x3) fun v12 =>
  bindO (fBin .lss x1 v12) fun v13 =>
  fCond v13
  (bindO (fIdxC 2 x3 x1) fun c14 =>
  bindO (c14[1]?) fun v15 =>
  bindO (fIdxC 6 x0 v15) fun c16 =>
  bindO (c16[2]?) fun v17 =>
  gB (decide ((r9.length + 1) * 8 ≤ room)) <|
  bindO (fBin .add x1 (.int .i64 1)) fun v18 =>
  ref02_first.L0 x0 v18 x2 x3 x4 x5 x6 r7 r8 (r9 ++ [[v17]]) r10)
  (ref02_first.L1 (.int .i64 0) x2 x3 x4 x5 x6 r7 r8 r9 r10)) := (jden_eq E 118 [] [4, 1, 0, 1, 1] _ _).trans (by kernel_rfl)
theorem ref02_first.L1_eq (x0 : FV) (x1 : FV) (x2 : FV) (x3 : FV) (x4 : FV) (x5 : FV) (r6 : List (List FV)) (r7 : List (List FV)) (r8 : List (List FV)) (r9 : List (List FV)) : ref02_first.L1 x0 x1 x2 x3 x4 x5 r6 r7 r8 r9 = (
  bindO (fLen x3) fun v11 =>
  bindO (fBin .lss x0 v11) fun v12 =>
  fCond v12
  (bindO (fIdxC 6 x3 x0) fun c13 =>
  bindO (c13[5]?) fun v14 =>
  bindO (asRows v14) fun r15 =>
  gB (rowsSz 1 r15) <|
  gB (decide ((0 + r15.length) * 8 ≤ room)) <|
  gB (decide ((r9.length + 1) * 24 ≤ room)) <|
  bindO (fBin .add x0 (.int .i64 1)) fun v16 =>
  ref02_first.L1 v16 x1 x2 x3 x4 x5 r6 r7 r8 (r9 ++ [[.arr ([] ++ r15)]]))
  (some (.agg [.arr r8, .arr r9]))) := (jden_eq E 118 [] [4, 1, 0, 1, 1, 1] _ _).trans (by kernel_rfl)
/-! ### ramet/rametref02.move (function 119) -/
noncomputable def ref02_move.L0 (x0 : FV) (x1 : FV) (x2 : FV) (x3 : FV) (x4 : FV) (x5 : FV) (x6 : FV) (x7 : FV) (x8 : FV) (x9 : FV) (x10 : FV) (r11 : List (List FV)) (r12 : List (List FV)) (r13 : List (List FV)) (r14 : List (List FV)) (r15 : List (List FV)) : R := jden E 119 [] [4, 1, 0, 1, 1, 1] (mkF 224 [(0, .f x0), (2, .f x1), (4, .f x2), (6, .ptr 0 0 0), (8, .ptr 1 0 0), (10, .ptr 2 0 0), (12, .ref 3), (13, .ptr 5 0 0), (14, .f x3)]) [.box [.f x4, .f x5, .f x6, .f x7, .f x8], .box [.f x9, .f x10], .box [.ref 6, .ref 7], .own 1 r11, .own 1 r12, .box [.ref 4, .ref 8], .own 1 r13, .own 1 r14, .own 1 r15]
noncomputable def ref02_move.L1 (x0 : FV) (x1 : FV) (x2 : FV) (x3 : FV) (x4 : FV) (x5 : FV) (x6 : FV) (x7 : FV) (x8 : FV) (x9 : FV) (x10 : FV) (x11 : FV) (x12 : FV) (r13 : List (List FV)) (r14 : List (List FV)) (r15 : List (List FV)) (r16 : List (List FV)) (r17 : List (List FV)) (x18 : FV) (x19 : FV) (x20 : FV) (x21 : FV) (x22 : FV) (x23 : FV) (r24 : List (List FV)) : R := jden E 119 [] [4, 1, 0, 1, 1, 1, 4, 0, 1, 5, 4, 1, 0, 1, 1, 1] (mkF 224 [(0, .f x0), (2, .f x1), (4, .f x2), (6, .ptr 0 0 0), (8, .ptr 1 0 0), (10, .ptr 2 0 0), (12, .ref 3), (13, .ptr 5 0 0), (14, .f x3), (15, .f x4), (16, .ptr 9 0 0), (17, .ref 10), (18, .f x5)]) [.box [.f x6, .f x7, .f x8, .f x9, .f x10], .box [.f x11, .f x12], .box [.ref 6, .ref 7], .own 1 r13, .own 1 r14, .box [.ref 4, .ref 8], .own 1 r15, .own 1 r16, .own 1 r17, .box [.f x18, .f x19, .f x20, .f x21, .f x22, .f x23], .own 1 r24]
noncomputable def ref02_move.L3 (x0 : FV) (x1 : FV) (x2 : FV) (x3 : FV) (x4 : FV) (x5 : FV) (x6 : FV) (x7 : FV) (r8 : List (List FV)) (r9 : List (List FV)) (r10 : List (List FV)) (r11 : List (List FV)) (r12 : List (List FV)) : R := jden E 119 [] [4, 1, 0, 1, 1, 1, 1] (mkF 224 [(6, .ptr 0 0 0), (8, .ptr 1 0 0), (10, .ptr 2 0 0), (12, .ref 3), (13, .ptr 5 0 0), (22, .f x0)]) [.box [.f x1, .f x2, .f x3, .f x4, .f x5], .box [.f x6, .f x7], .box [.ref 6, .ref 7], .own 1 r8, .own 1 r9, .box [.ref 4, .ref 9], .own 1 r10, .own 1 r11, .dead, .own 1 r12]
noncomputable def ref02_move.L2 (x0 : FV) (x1 : FV) (x2 : FV) (x3 : FV) (x4 : FV) (x5 : FV) (x6 : FV) (x7 : FV) (x8 : FV) (x9 : FV) (x10 : FV) (x11 : FV) (x12 : FV) (r13 : List (List FV)) (r14 : List (List FV)) (r15 : List (List FV)) (r16 : List (List FV)) (r17 : List (List FV)) (x18 : FV) (x19 : FV) (x20 : FV) (x21 : FV) (x22 : FV) (x23 : FV) (r24 : List (List FV)) : R := jden E 119 [] [4, 1, 0, 1, 1, 1, 1, 4, 0, 1, 5, 4, 1, 0, 1, 1, 1] (mkF 224 [(0, .f x0), (2, .f x1), (4, .f x2), (6, .ptr 0 0 0), (8, .ptr 1 0 0), (10, .ptr 2 0 0), (12, .ref 3), (13, .ptr 5 0 0), (14, .f x3), (15, .f x4), (16, .ptr 9 0 0), (17, .ref 10), (19, .f x5)]) [.box [.f x6, .f x7, .f x8, .f x9, .f x10], .box [.f x11, .f x12], .box [.ref 6, .ref 7], .own 1 r13, .own 1 r14, .box [.ref 4, .ref 8], .own 1 r15, .own 1 r16, .own 1 r17, .box [.f x18, .f x19, .f x20, .f x21, .f x22, .f x23], .own 1 r24]
noncomputable def ref02_move.L4 (x0 : FV) (x1 : FV) (x2 : FV) (x3 : FV) (x4 : FV) (x5 : FV) (x6 : FV) (x7 : FV) (r8 : List (List FV)) (r9 : List (List FV)) (r10 : List (List FV)) (r11 : List (List FV)) (r12 : List (List FV)) (r13 : List (List FV)) : R := jden E 119 [] [1, 1, 4, 0, 1, 5, 4, 1, 0, 1, 1, 1, 1] (mkF 224 [(6, .ptr 0 0 0), (8, .ptr 1 0 0), (10, .ptr 2 0 0), (12, .ref 3), (13, .ptr 5 0 0), (22, .f x0), (24, .ref 10)]) [.box [.f x1, .f x2, .f x3, .f x4, .f x5], .box [.f x6, .f x7], .box [.ref 6, .ref 7], .own 1 r8, .own 1 r9, .box [.ref 4, .ref 9], .own 1 r10, .own 1 r11, .dead, .own 1 r12, .own 1 r13]
noncomputable def ref02_move.L5 (x0 : FV) (x1 : FV) (x2 : FV) (x3 : FV) (x4 : FV) (x5 : FV) (x6 : FV) (x7 : FV) (r8 : List (List FV)) (r9 : List (List FV)) (r10 : List (List FV)) (r11 : List (List FV)) (r12 : List (List FV)) (r13 : List (List FV)) : R := jden E 119 [] [4, 1, 0, 1, 1, 1, 1, 1, 1] (mkF 224 [(6, .ptr 0 0 0), (10, .ptr 2 0 0), (12, .ref 3), (13, .ptr 5 0 0), (25, .ref 9), (26, .f x0)]) [.box [.f x1, .f x2, .f x3, .f x4, .f x5], .box [.f x6, .f x7], .box [.ref 6, .ref 7], .own 1 r8, .own 1 r9, .box [.ref 4, .ref 10], .own 1 r10, .own 1 r11, .dead, .own 1 r12, .own 1 r13]
theorem ref02_move.eq (x0 x1 x2 x3 x4 : FV) : ref02_move x0 x1 x2 x3 x4 = (
  gB (fIsAgg 5 x1) <|
  gB (fIsAgg 2 x3) <|
  bindO (fLen (fCell x1 1)) fun v1 =>
  bindO (asNat v1) fun j2 =>
  bindO (asNat v1) fun j3 =>
  gB (j2 ≤ j3 && j3 * 24 ≤ room && 1 ≥ 1) <|
  bindO (fLen (fCell x1 1)) fun v4 =>
  bindO (asNat v4) fun j5 =>
  bindO (asNat v4) fun j6 =>
  gB (j5 ≤ j6 && j6 * 8 ≤ room && 1 ≥ 1) <|
  ref02_move.L0 x0 x2 x4 (.int .i64 0) (fCell x1 0) (fCell x1 1) (fCell x1 2) (fCell x1 3) (fCell x1 4) (fCell x3 0) (fCell x3 1) (List.replicate j2 [(.nilS : FV)]) (List.replicate j5 [(.int .i64 0 : FV)]) [] [] []) := (den_eq E 119 [x0, x1, x2, x3, x4]).trans (by kernel_rfl)
theorem ref02_move.L0_eq (x0 : FV) (x1 : FV) (x2 : FV) (x3 : FV) (x4 : FV) (x5 : FV) (x6 : FV) (x7 : FV) (x8 : FV) (x9 : FV) (x10 : FV) (r11 : List (List FV)) (r12 : List (List FV)) (r13 : List (List FV)) (r14 : List (List FV)) (r15 : List (List FV)) : ref02_move.L0 x0 x1 x2 x3 x4 x5 x6 x7 x8 x9 x10 r11 r12 r13 r14 r15 = (
  bindO (fLen x1) fun v17 =>
  bindO (fBin .lss x3 v17) fun v18 =>
  fCond v18
  (bindO (fIdxC 1 x1 x3) fun c19 =>
  bindO (c19[0]?) fun v20 =>
  bindO (fIdxC 2 x5 v20) fun c21 =>
  bindO (c21[1]?) fun v22 =>
  bindO (fIdxC 6 x0 v22) fun c23 =>
  bindO (c23[0]?) fun v24 =>
  bindO (c23[1]?) fun v25 =>
  bindO (c23[2]?) fun v26 =>
  bindO (c23[3]?) fun v27 =>
  bindO (c23[4]?) fun v28 =>
  bindO (c23[5]?) fun v29 =>
  bindO (fLen v27) fun v30 =>
  bindO (asNat v30) fun j31 =>
  bindO (asNat v30) fun j32 =>
  gB (j31 ≤ j32 && j32 * 8 ≤ room && 1 ≥ 1) <|
  ref02_move.L1 x0 x1 x2 x3 v20 (.int .i64 0) x4 x5 x6 x7 x8 x9 x10 r11 r12 r13 r14 r15 v24 v25 v26 v27 v28 v29 (List.replicate j31 [(.int .i64 0 : FV)]))
  (ref02_move.L3 (.int .i64 0) x4 x5 x6 x7 x8 x9 x10 r11 r12 r13 r14 r15)) := (jden_eq E 119 [] [4, 1, 0, 1, 1, 1] _ _).trans (by kernel_rfl)
theorem ref02_move.L1_eq (x0 : FV) (x1 : FV) (x2 : FV) (x3 : FV) (x4 : FV) (x5 : FV) (x6 : FV) (x7 : FV) (x8 : FV) (x9 : FV) (x10 : FV) (x11 : FV) (x12 : FV) (r13 : List (List FV)) (r14 : List (List FV)) (r15 : List (List FV)) (r16 : List (List FV)) (r17 : List (List FV)) (x18 : FV) (x19 : FV) (x20 : FV) (x21 : FV) (x22 : FV) (x23 : FV) (r24 : List (List FV)) : ref02_move.L1 x0 x1 x2 x3 x4 x5 x6 x7 x8 x9 x10 x11 x12 r13 r14 r15 r16 r17 x18 x19 x20 x21 x22 x23 r24 = (
  bindO (fLen x9) fun v26 =>
  bindO (fBin .lss x5 v26) fun v27 =>
  fCond v27
  (bindO (fIdxC 2 x9 x5) fun c28 =>
  bindO (c28[0]?) fun v29 =>
  bindO (fBin .eql v29 x4) fun v30 =>
  fCond v30
  (bindO (fIdxC 2 x9 x5) fun c31 =>
  bindO (c31[1]?) fun v32 =>
  bindO (fIdxC 1 x2 x5) fun c33 =>
  bindO (c33[0]?) fun v34 =>
  bindO (rIdx r24 v32) fun j35 =>
  bindO (rSet r24 j35 0 [v34]) fun r36 =>
  bindO (fBin .add x5 (.int .i64 1)) fun v37 =>
  ref02_move.L1 x0 x1 x2 x3 x4 v37 x6 x7 x8 x9 x10 x11 x12 r13 r14 r15 r16 r17 x18 x19 x20 x21 x22 x23 r36)
  (bindO (fBin .add x5 (.int .i64 1)) fun v38 =>
  ref02_move.L1 x0 x1 x2 x3 x4 v38 x6 x7 x8 x9 x10 x11 x12 r13 r14 r15 r16 r17 x18 x19 x20 x21 x22 x23 r24))
  (ref02_move.L2 x0 x1 x2 x3 x4 (.int .i64 0) x6 x7 x8 x9 x10 x11 x12 r13 r14 r15 r16 r17 x18 x19 x20 x21 x22 x23 r24)) := (jden_eq E 119 [] [4, 1, 0, 1, 1, 1, 4, 0, 1, 5, 4, 1, 0, 1, 1, 1] _ _).trans (by kernel_rfl)
theorem ref02_move.L3_eq (x0 : FV) (x1 : FV) (x2 : FV) (x3 : FV) (x4 : FV) (x5 : FV) (x6 : FV) (x7 : FV) (r8 : List (List FV)) (r9 : List (List FV)) (r10 : List (List FV)) (r11 : List (List FV)) (r12 : List (List FV)) : ref02_move.L3 x0 x1 x2 x3 x4 x5 x6 x7 r8 r9 r10 r11 r12 = (
  bindO (fLen x3) fun v14 =>
  bindO (fBin .lss x0 v14) fun v15 =>
  fCond v15
  (bindO (fIdxC 6 x3 x0) fun c16 =>
  bindO (c16[0]?) fun v17 =>
  bindO (c16[1]?) fun v18 =>
  bindO (c16[2]?) fun v19 =>
  bindO (c16[3]?) fun v20 =>
  bindO (c16[4]?) fun v21 =>
  bindO (c16[5]?) fun v22 =>
  bindO (fBin .gtr v21 (.int .i64 0)) fun v23 =>
  fCond v23
  (bindO (fIdxC 1 x7 x0) fun c24 =>
  bindO (c24[0]?) fun v25 =>
  bindO (fCut 1 v25 (some (.int .i64 1)) none) fun v26 =>
  bindO (rIdx r8 v17) fun j27 =>
  bindO (rGet r8 j27 0) fun v28 =>
  bindO (fIdxC 1 v28 v18) fun c29 =>
  bindO (c29[0]?) fun v30 =>
  bindO (asRows v26) fun r31 =>
  gB (rowsSz 1 r31) <|
  gB (decide (r31.length * 8 ≤ room)) <|
  gB (decide ((r31.length + 1) * 8 ≤ room)) <|
  ref02_move.L4 x0 x1 x2 x3 x4 x5 x6 x7 r8 r9 r10 r11 r12 (r31 ++ [[v30]]))
  (ref02_move.L4 x0 x1 x2 x3 x4 x5 x6 x7 r8 r9 r10 r11 r12 []))
  (ref02_move.L5 (.int .i64 0) x1 x2 x3 x4 x5 x6 x7 r8 r9 r10 r11 [] r12)) := (jden_eq E 119 [] [4, 1, 0, 1, 1, 1, 1] _ _).trans (by kernel_rfl)
theorem ref02_move.L2_eq (x0 : FV) (x1 : FV) (x2 : FV) (x3 : FV) (x4 : FV) (x5 : FV) (x6 : FV) (x7 : FV) (x8 : FV) (x9 : FV) (x10 : FV) (x11 : FV) (x12 : FV) (r13 : List (List FV)) (r14 : List (List FV)) (r15 : List (List FV)) (r16 : List (List FV)) (r17 : List (List FV)) (x18 : FV) (x19 : FV) (x20 : FV) (x21 : FV) (x22 : FV) (x23 : FV) (r24 : List (List FV)) : ref02_move.L2 x0 x1 x2 x3 x4 x5 x6 x7 x8 x9 x10 x11 x12 r13 r14 r15 r16 r17 x18 x19 x20 x21 x22 x23 r24 = (
  bindO (fLen x8) fun v26 =>
  bindO (fBin .lss x5 v26) fun v27 =>
  fCond v27
  (bindO (fIdxC 6 x8 x5) fun c28 =>
  bindO (c28[0]?) fun v29 =>
  bindO (c28[1]?) fun v30 =>
  bindO (c28[2]?) fun v31 =>
  bindO (c28[3]?) fun v32 =>
  bindO (c28[4]?) fun v33 =>
  bindO (c28[5]?) fun v34 =>
  bindO (fBin .neq v31 x4) fun v35 =>
  fCond v35
  (bindO (fBin .add x5 (.int .i64 1)) fun v36 =>
  ref02_move.L2 x0 x1 x2 x3 x4 v36 x6 x7 x8 x9 x10 x11 x12 r13 r14 r15 r16 r17 x18 x19 x20 x21 x22 x23 r24)
  (bindO (fBin .eql v33 (.int .i64 0)) fun v37 =>
  fCond v37
  (bindO (rIdx r13 v29) fun j38 =>
  bindO (rGet r13 j38 0) fun v39 =>
  bindO (fIdxC 1 v39 v30) fun c40 =>
  bindO (c40[0]?) fun v41 =>
  bindO (rIdx r24 v32) fun j42 =>
  bindO (rSet r24 j42 0 [v41]) fun r43 =>
  bindO (fBin .add x5 (.int .i64 1)) fun v44 =>
  ref02_move.L2 x0 x1 x2 x3 x4 v44 x6 x7 x8 x9 x10 x11 x12 r13 r14 r15 r16 r17 x18 x19 x20 x21 x22 x23 r43)
  (bindO (fIdxC 1 x12 x5) fun c45 =>
  bindO (c45[0]?) fun v46 =>
  bindO (fIdxC 1 v46 (.int .i64 0)) fun c47 =>
  bindO (c47[0]?) fun v48 =>
  bindO (rIdx r24 v32) fun j49 =>
  bindO (rSet r24 j49 0 [v48]) fun r50 =>
  bindO (fBin .add x5 (.int .i64 1)) fun v51 =>
  ref02_move.L2 x0 x1 x2 x3 x4 v51 x6 x7 x8 x9 x10 x11 x12 r13 r14 r15 r16 r17 x18 x19 x20 x21 x22 x23 r50)))
  (bindO (fIdxC 1 x11 x4) fun c52 =>
  bindO (c52[0]?) fun v53 =>
  bindO (ref02_one (.agg [x18, x19, x20, x21, x22, x23]) v53 (.arr r24)) fun v54 =>
  gB (fIsAgg 2 v54) <|
  bindO (rIdx r13 x4) fun j55 =>
  bindO (rSet r13 j55 0 [(fCell v54 1)]) fun r56 =>
  bindO (rIdx r14 x4) fun j57 =>
  bindO (rSet r14 j57 0 [(fCell v54 0)]) fun r58 =>
  bindO (fBin .add x3 (.int .i64 1)) fun v59 =>
  ref02_move.L0 x0 x1 x2 v59 x6 x7 x8 x9 x10 x11 x12 r56 r58 r15 r16 r17)) := (jden_eq E 119 [] [4, 1, 0, 1, 1, 1, 1, 4, 0, 1, 5, 4, 1, 0, 1, 1, 1] _ _).trans (by kernel_rfl)
theorem ref02_move.L4_eq (x0 : FV) (x1 : FV) (x2 : FV) (x3 : FV) (x4 : FV) (x5 : FV) (x6 : FV) (x7 : FV) (r8 : List (List FV)) (r9 : List (List FV)) (r10 : List (List FV)) (r11 : List (List FV)) (r12 : List (List FV)) (r13 : List (List FV)) : ref02_move.L4 x0 x1 x2 x3 x4 x5 x6 x7 r8 r9 r10 r11 r12 r13 = (
  gB (decide ((r12.length + 1) * 24 ≤ room)) <|
  bindO (fBin .add x0 (.int .i64 1)) fun v15 =>
  ref02_move.L3 v15 x1 x2 x3 x4 x5 x6 x7 r8 r9 r10 r11 (r12 ++ [[.arr r13]])) := (jden_eq E 119 [] [1, 1, 4, 0, 1, 5, 4, 1, 0, 1, 1, 1, 1] _ _).trans (by kernel_rfl)
theorem ref02_move.L5_eq (x0 : FV) (x1 : FV) (x2 : FV) (x3 : FV) (x4 : FV) (x5 : FV) (x6 : FV) (x7 : FV) (r8 : List (List FV)) (r9 : List (List FV)) (r10 : List (List FV)) (r11 : List (List FV)) (r12 : List (List FV)) (r13 : List (List FV)) : ref02_move.L5 x0 x1 x2 x3 x4 x5 x6 x7 r8 r9 r10 r11 r12 r13 = (
  bindO (fLen x5) fun v15 =>
  bindO (fBin .lss x0 v15) fun v16 =>
  fCond v16
  (bindO (fIdxC 2 x5 x0) fun c17 =>
  bindO (c17[0]?) fun v18 =>
  bindO (rIdx r8 v18) fun j19 =>
  bindO (rGet r8 j19 0) fun v20 =>
  bindO (fIdxC 2 x5 x0) fun c21 =>
  bindO (c21[1]?) fun v22 =>
  bindO (fIdxC 1 v20 v22) fun c23 =>
  bindO (c23[0]?) fun v24 =>
  gB (decide ((r12.length + 1) * 8 ≤ room)) <|
  bindO (fBin .add x0 (.int .i64 1)) fun v25 =>
  ref02_move.L5 v25 x1 x2 x3 x4 x5 x6 x7 r8 r9 r10 r11 (r12 ++ [[v24]]) r13)
  (some (.tup [.agg [.arr r9, .arr r13], .arr r12]))) := (jden_eq E 119 [] [4, 1, 0, 1, 1, 1, 1, 1, 1] _ _).trans (by kernel_rfl)
/-! ### ramet/rametref02.RunNet (function 40) -/
noncomputable def ref02_RunNet.L0 (x0 : FV) (x1 : FV) (x2 : FV) (x3 : FV) (x4 : FV) (x5 : FV) (x6 : FV) (x7 : FV) (x8 : FV) (x9 : FV) (x10 : FV) (x11 : FV) (x12 : FV) (r13 : List (List FV)) : R := jden E 40 [] [4, 1, 0, 1, 1, 1, 1, 1, 1, 1, 1] (mkF 77 [(2, .f x0), (3, .ptr 0 0 0), (9, .ptr 1 0 0), (10, .f x1), (12, .f x2), (13, .ptr 2 0 0), (14, .ref 3), (15, .f x3)]) [.box [.f x4, .f x5], .box [.f x6, .f x7, .f x8, .f x9, .f x10], .box [.f x11, .f x12], .own 1 r13]
theorem ref02_RunNet.eq (x0 x1 x2 : FV) : ref02_RunNet x0 x1 x2 = (
  gB (fIsAgg 2 x0) <|
  bindO (ref02_CheckNet (.agg [(fCell x0 0), (fCell x0 1)]) x1) fun v1 =>
  bindO (fBin .neq v1 (.int .i64 0)) fun v2 =>
  fCond v2
  (some (.tup [.nilS, v1]))
  (bindO (fLen x2) fun v3 =>
  bindO (fBin .gtr v3 (.int .i64 4096)) fun v4 =>
  fCond v4
  (some (.tup [.nilS, .int .i64 26]))
  (bindO (fIdxC 5 (fCell x0 1) x1) fun c5 =>
  bindO (c5[0]?) fun v6 =>
  bindO (c5[1]?) fun v7 =>
  bindO (c5[2]?) fun v8 =>
  bindO (c5[3]?) fun v9 =>
  bindO (c5[4]?) fun v10 =>
  bindO (ref02_Order (.agg [v6, v7, v8, v9, v10])) fun v11 =>
  gB (fIsTup 2 v11) <|
  bindO (ref02_netPorts (fCell x0 0) (.agg [v6, v7, v8, v9, v10])) fun v12 =>
  bindO (ref02_first (fCell x0 0) (.agg [v6, v7, v8, v9, v10])) fun v13 =>
  gB (fIsAgg 2 v13) <|
  ref02_RunNet.L0 x2 (fTup v11 0) v12 (.int .i64 0) (fCell x0 0) (fCell x0 1) v6 v7 v8 v9 v10 (fCell v13 0) (fCell v13 1) []))) := (den_eq E 40 [x0, x1, x2]).trans (by kernel_rfl)
theorem ref02_RunNet.L0_eq (x0 : FV) (x1 : FV) (x2 : FV) (x3 : FV) (x4 : FV) (x5 : FV) (x6 : FV) (x7 : FV) (x8 : FV) (x9 : FV) (x10 : FV) (x11 : FV) (x12 : FV) (r13 : List (List FV)) : ref02_RunNet.L0 x0 x1 x2 x3 x4 x5 x6 x7 x8 x9 x10 x11 x12 r13 = (
  bindO (fLen x0) fun v15 =>
  bindO (fBin .lss x3 v15) fun v16 =>
  fCond v16
  (bindO (fIdxC 1 x0 x3) fun c17 =>
  bindO (c17[0]?) fun v18 =>
  bindO (ref02_right x2 v18) fun v19 =>
  bindO (fUn .not v19) fun v20 =>
  fCond v20
  (some (.tup [.nilS, .int .i64 27]))
  (bindO (fIdxC 1 x0 x3) fun c21 =>
  bindO (c21[0]?) fun v22 =>
  bindO (ref02_move x4 (.agg [x6, x7, x8, x9, x10]) x1 (.agg [x11, x12]) v22) fun v23 =>
  gB (fIsTup 2 v23) <|
  gB (fIsAgg 2 (fTup v23 0)) <|
  gB (decide ((r13.length + 1) * 24 ≤ room)) <|
  bindO (fBin .add x3 (.int .i64 1)) fun v24 =>
  ref02_RunNet.L0 x0 x1 x2 v24 x4 x5 x6 x7 x8 x9 x10 (fCell (fTup v23 0) 0) (fCell (fTup v23 0) 1) (r13 ++ [[(fTup v23 1)]])))
  (some (.tup [.arr r13, .int .i64 0]))) := (jden_eq E 40 [] [4, 1, 0, 1, 1, 1, 1, 1, 1, 1, 1] _ _).trans (by kernel_rfl)
/-! ### (ramet/mach.runner).ports (function 120) -/
noncomputable def mach_runner_ports.L0 (x0 : FV) (x1 : FV) (x2 : FV) (x3 : FV) (x4 : FV) (x5 : FV) (x6 : FV) (x7 : FV) (x8 : FV) (x9 : FV) (x10 : FV) (x11 : FV) (r12 : List (List FV)) : R := jden E 120 [] [4, 1, 0, 1, 1] (mkF 28 [(2, .f x0), (3, .ptr 0 0 0), (7, .ref 1), (10, .f x1), (11, .f x2), (12, .f x3)]) [.box [.f x4, .f x5, .f x6, .f x7, .f x8, .f x9, .f x10, .f x11], .own 2 r12]
theorem mach_runner_ports.eq (x0 x1 x2 : FV) : mach_runner_ports x0 x1 x2 = (
  gB (fIsAgg 8 x0) <|
  bindO (fLen x1) fun v1 =>
  mach_runner_ports.L0 x2 x1 v1 (.int .i64 0) (fCell x0 0) (fCell x0 1) (fCell x0 2) (fCell x0 3) (fCell x0 4) (fCell x0 5) (fCell x0 6) (fCell x0 7) []) := (den_eq E 120 [x0, x1, x2]).trans (by kernel_rfl)
theorem mach_runner_ports.L0_eq (x0 : FV) (x1 : FV) (x2 : FV) (x3 : FV) (x4 : FV) (x5 : FV) (x6 : FV) (x7 : FV) (x8 : FV) (x9 : FV) (x10 : FV) (x11 : FV) (r12 : List (List FV)) : mach_runner_ports.L0 x0 x1 x2 x3 x4 x5 x6 x7 x8 x9 x10 x11 r12 = (
  bindO (fBin .lss x3 x2) fun v14 =>
  fCond v14
  (bindO (fIdxC 2 x1 x3) fun c15 =>
  bindO (c15[0]?) fun v16 =>
  bindO (c15[1]?) fun v17 =>
  bindO (callDyn true x0 [.agg [x4, x5], .agg [x6, x7, x8, x9, x10], .agg [v16, v17]]) fun v18 =>
  gB (fIsAgg 2 v18) <|
  gB (decide ((r12.length + 1) * 40 ≤ room)) <|
  bindO (fBin .add x3 (.int .i64 1)) fun v19 =>
  mach_runner_ports.L0 x0 x1 x2 v19 x4 x5 x6 x7 x8 x9 x10 x11 (r12 ++ [[(fCell v18 0), (fCell v18 1)]]))
  (some (.arr r12))) := (jden_eq E 120 [] [4, 1, 0, 1, 1] _ _).trans (by kernel_rfl)
/-! ### (ramet/mach.runner).begin (function 122) -/
noncomputable def mach_runner_begin.L0 (x0 : FV) (x1 : FV) (x2 : FV) (x3 : FV) (x4 : FV) (x5 : FV) (x6 : FV) (x7 : FV) (x8 : FV) (x9 : FV) (x10 : FV) (r11 : List (List FV)) (r12 : List (List FV)) (r13 : List (List FV)) (r14 : List (List FV)) : R := jden E 122 [] [4, 1, 0, 1, 1] (mkF 48 [(1, .ptr 0 0 0), (2, .ptr 1 0 0), (3, .ptr 2 0 0), (10, .f x0), (11, .f x1), (12, .f x2)]) [.box [.f x3, .f x4, .f x5, .f x6, .f x7, .f x8, .f x9, .f x10], .box [.ref 3, .ref 4], .box [.ref 5, .ref 6], .own 1 r11, .own 1 r12, .own 1 r13, .own 1 r14]
noncomputable def mach_runner_begin.L1 (x0 : FV) (x1 : FV) (x2 : FV) (x3 : FV) (x4 : FV) (x5 : FV) (x6 : FV) (x7 : FV) (x8 : FV) (x9 : FV) (x10 : FV) (r11 : List (List FV)) (r12 : List (List FV)) (r13 : List (List FV)) (r14 : List (List FV)) : R := jden E 122 [] [4, 1, 0, 1, 1, 1] (mkF 48 [(2, .ptr 1 0 0), (3, .ptr 2 0 0), (32, .f x0), (33, .f x1), (34, .f x2)]) [.box [.f x3, .f x4, .f x5, .f x6, .f x7, .f x8, .f x9, .f x10], .box [.ref 3, .ref 4], .box [.ref 5, .ref 7], .own 1 r11, .own 1 r12, .own 1 r13, .dead, .own 1 r14]
theorem mach_runner_begin.eq (x0 : FV) : mach_runner_begin x0 = (
  gB (fIsAgg 8 x0) <|
  bindO (fLen (fCell x0 3)) fun v1 =>
  mach_runner_begin.L0 (fCell x0 3) v1 (.int .i64 0) (fCell x0 0) (fCell x0 1) (fCell x0 2) (fCell x0 3) (fCell x0 4) (fCell x0 5) (fCell x0 6) (fCell x0 7) [] [] [] []) := (den_eq E 122 [x0]).trans (by kernel_rfl)
theorem mach_runner_begin.L0_eq (x0 : FV) (x1 : FV) (x2 : FV) (x3 : FV) (x4 : FV) (x5 : FV) (x6 : FV) (x7 : FV) (x8 : FV) (x9 : FV) (x10 : FV) (r11 : List (List FV)) (r12 : List (List FV)) (r13 : List (List FV)) (r14 : List (List FV)) : mach_runner_begin.L0 x0 x1 x2 x3 x4 x5 x6 x7 x8 x9 x10 r11 r12 r13 r14 = (
  bindO (fBin .lss x2 x1) fun v16 =>
  fCond v16
  (bindO (fIdxC 2 x0 x2) fun c17 =>
  bindO (c17[0]?) fun v18 =>
  bindO (c17[1]?) fun v19 =>
  bindO (fIdxC 6 x3 v19) fun c20 =>
  bindO (c20[2]?) fun v21 =>
  gB (decide ((r13.length + 1) * 8 ≤ room)) <|
  bindO (fBin .add x2 (.int .i64 1)) fun v22 =>
  mach_runner_begin.L0 x0 x1 v22 x3 x4 x5 x6 x7 x8 x9 x10 r11 r12 (r13 ++ [[v21]]) r14)
  (bindO (fLen x7) fun v23 =>
  mach_runner_begin.L1 x7 v23 (.int .i64 0) x3 x4 x5 x6 x7 x8 x9 x10 r11 r12 r13 r14)) := (jden_eq E 122 [] [4, 1, 0, 1, 1] _ _).trans (by kernel_rfl)
theorem mach_runner_begin.L1_eq (x0 : FV) (x1 : FV) (x2 : FV) (x3 : FV) (x4 : FV) (x5 : FV) (x6 : FV) (x7 : FV) (x8 : FV) (x9 : FV) (x10 : FV) (r11 : List (List FV)) (r12 : List (List FV)) (r13 : List (List FV)) (r14 : List (List FV)) : mach_runner_begin.L1 x0 x1 x2 x3 x4 x5 x6 x7 x8 x9 x10 r11 r12 r13 r14 = (
  bindO (fBin .lss x2 x1) fun v16 =>
  fCond v16
  (bindO (fIdxC 6 x0 x2) fun c17 =>
  bindO (c17[0]?) fun v18 =>
  bindO (c17[1]?) fun v19 =>
  bindO (c17[2]?) fun v20 =>
  bindO (c17[3]?) fun v21 =>
  bindO (c17[4]?) fun v22 =>
  bindO (c17[5]?) fun v23 =>
  bindO (slices_Clone_int v23) fun v24 =>
  bindO (arrRows v24) fun r25 =>
  gB (decide ((r14.length + 1) * 24 ≤ room)) <|
  bindO (fBin .add x2 (.int .i64 1)) fun v26 =>
  mach_runner_begin.L1 x0 x1 v26 x3 x4 x5 x6 x7 x8 x9 x10 r11 r12 r13 (r14 ++ [[.arr r25]]))
  (some (.agg [.arr r13, .arr r14]))) := (jden_eq E 122 [] [4, 1, 0, 1, 1, 1] _ _).trans (by kernel_rfl)
/-! ### (ramet/mach.runner).step (function 123) -/
noncomputable def mach_runner_step.L0 (x0 : FV) (x1 : FV) (x2 : FV) (x3 : FV) (x4 : FV) (x5 : FV) (x6 : FV) (x7 : FV) (x8 : FV) (x9 : FV) (x10 : FV) (x11 : FV) (x12 : FV) (x13 : FV) (es14 : List (FV × FV)) (r15 : List (List FV)) (r16 : List (List FV)) : R := jden E 123 [] [4, 1, 0, 1, 1] (mkF 239 [(2, .f x0), (3, .ptr 0 0 0), (4, .ptr 1 0 0), (7, .ptr 2 0 0), (8, .mp 3), (32, .f x1), (33, .f x2), (34, .f x3)]) [.box [.f x4, .f x5, .f x6, .f x7, .f x8, .f x9, .f x10, .f x11], .box [.f x12, .f x13], .box [.ref 4, .ref 5], .map false es14, .own 1 r15, .own 1 r16]
noncomputable def mach_runner_step.L1 (x0 : FV) (x1 : FV) (x2 : FV) (x3 : FV) (x4 : FV) (x5 : FV) (x6 : FV) (x7 : FV) (x8 : FV) (x9 : FV) (x10 : FV) (x11 : FV) (x12 : FV) (es13 : List (FV × FV)) (r14 : List (List FV)) (r15 : List (List FV)) : R := jden E 123 [] [4, 1, 0, 1, 1, 1] (mkF 239 [(3, .ptr 0 0 0), (4, .ptr 1 0 0), (7, .ptr 2 0 0), (8, .mp 3), (48, .f x0), (49, .f x1), (50, .f x2)]) [.box [.f x3, .f x4, .f x5, .f x6, .f x7, .f x8, .f x9, .f x10], .box [.f x11, .f x12], .box [.ref 4, .ref 5], .map false es13, .own 1 r14, .own 1 r15]
noncomputable def mach_runner_step.L2 (x0 : FV) (x1 : FV) (x2 : FV) (x3 : FV) (x4 : FV) (x5 : FV) (x6 : FV) (x7 : FV) (x8 : FV) (x9 : FV) (x10 : FV) (x11 : FV) (x12 : FV) (es13 : List (FV × FV)) (r14 : List (List FV)) (r15 : List (List FV)) (r16 : List (List FV)) (r17 : List (List FV)) (r18 : List (List FV)) : R := jden E 123 [] [4, 1, 0, 1, 1, 1, 1, 1, 1] (mkF 239 [(3, .ptr 0 0 0), (4, .ptr 1 0 0), (7, .ptr 2 0 0), (8, .mp 3), (13, .ref 6), (14, .ptr 8 0 0), (81, .f x0), (82, .f x1), (83, .f x2)]) [.box [.f x3, .f x4, .f x5, .f x6, .f x7, .f x8, .f x9, .f x10], .box [.f x11, .f x12], .box [.ref 4, .ref 5], .map false es13, .own 1 r14, .own 1 r15, .own 1 r16, .own 1 r17, .box [.ref 7, .ref 9], .own 1 r18]
noncomputable def mach_runner_step.L3 (x0 : FV) (x1 : FV) (x2 : FV) (x3 : FV) (x4 : FV) (x5 : FV) (x6 : FV) (x7 : FV) (x8 : FV) (x9 : FV) (x10 : FV) (x11 : FV) (x12 : FV) (x13 : FV) (x14 : FV) (x15 : FV) (es16 : List (FV × FV)) (r17 : List (List FV)) (r18 : List (List FV)) (r19 : List (List FV)) (r20 : List (List FV)) (r21 : List (List FV)) (x22 : FV) (x23 : FV) (x24 : FV) (x25 : FV) (x26 : FV) (x27 : FV) (r28 : List (List FV)) : R := jden E 123 [] [4, 1, 0, 1, 1, 1, 4, 0, 1, 1, 5, 4, 1, 0, 1, 1, 1, 1, 1, 1] (mkF 239 [(3, .ptr 0 0 0), (4, .ptr 1 0 0), (7, .ptr 2 0 0), (8, .mp 3), (13, .ref 6), (14, .ptr 8 0 0), (16, .f x0), (17, .ptr 10 0 0), (18, .ref 11), (81, .f x1), (82, .f x2), (83, .f x3), (104, .f x4), (105, .f x5)]) [.box [.f x6, .f x7, .f x8, .f x9, .f x10, .f x11, .f x12, .f x13], .box [.f x14, .f x15], .box [.ref 4, .ref 5], .map false es16, .own 1 r17, .own 1 r18, .own 1 r19, .own 1 r20, .box [.ref 7, .ref 9], .own 1 r21, .box [.f x22, .f x23, .f x24, .f x25, .f x26, .f x27], .own 1 r28]
noncomputable def mach_runner_step.L5 (x0 : FV) (x1 : FV) (x2 : FV) (x3 : FV) (x4 : FV) (x5 : FV) (x6 : FV) (x7 : FV) (x8 : FV) (x9 : FV) (x10 : FV) (x11 : FV) (x12 : FV) (es13 : List (FV × FV)) (r14 : List (List FV)) (r15 : List (List FV)) (r16 : List (List FV)) (r17 : List (List FV)) (r18 : List (List FV)) : R := jden E 123 [] [4, 1, 0, 1, 1, 1, 1, 1, 1, 1] (mkF 239 [(3, .ptr 0 0 0), (4, .ptr 1 0 0), (7, .ptr 2 0 0), (13, .ref 6), (14, .ptr 8 0 0), (178, .f x0), (179, .f x1), (180, .f x2)]) [.box [.f x3, .f x4, .f x5, .f x6, .f x7, .f x8, .f x9, .f x10], .box [.f x11, .f x12], .box [.ref 4, .ref 5], .map false es13, .own 1 r14, .own 1 r15, .own 1 r16, .own 1 r17, .box [.ref 7, .ref 10], .dead, .own 1 r18]
noncomputable def mach_runner_step.L4 (x0 : FV) (x1 : FV) (x2 : FV) (x3 : FV) (x4 : FV) (x5 : FV) (x6 : FV) (x7 : FV) (x8 : FV) (x9 : FV) (x10 : FV) (x11 : FV) (x12 : FV) (x13 : FV) (x14 : FV) (x15 : FV) (x16 : FV) (es17 : List (FV × FV)) (r18 : List (List FV)) (r19 : List (List FV)) (r20 : List (List FV)) (r21 : List (List FV)) (r22 : List (List FV)) (x23 : FV) (x24 : FV) (x25 : FV) (x26 : FV) (x27 : FV) (x28 : FV) (r29 : List (List FV)) (x30 : FV) (x31 : FV) : R := jden E 123 [] [4, 1, 1, 1, 1, 1, 1, 1, 4, 0, 1, 1, 5, 4, 1, 0, 1, 1, 1, 1, 1, 1] (mkF 239 [(3, .ptr 0 0 0), (4, .ptr 1 0 0), (7, .ptr 2 0 0), (8, .mp 3), (13, .ref 6), (14, .ptr 8 0 0), (16, .f x0), (20, .ptr 12 0 0), (81, .f x1), (82, .f x2), (83, .f x3), (148, .f x4), (149, .f x5), (150, .f x6)]) [.box [.f x7, .f x8, .f x9, .f x10, .f x11, .f x12, .f x13, .f x14], .box [.f x15, .f x16], .box [.ref 4, .ref 5], .map false es17, .own 1 r18, .own 1 r19, .own 1 r20, .own 1 r21, .box [.ref 7, .ref 9], .own 1 r22, .box [.f x23, .f x24, .f x25, .f x26, .f x27, .f x28], .fz r29, .box [.f x30, .f x31]]
noncomputable def mach_runner_step.L6 (x0 : FV) (x1 : FV) (x2 : FV) (x3 : FV) (x4 : FV) (x5 : FV) (x6 : FV) (x7 : FV) (x8 : FV) (x9 : FV) (x10 : FV) (x11 : FV) (x12 : FV) (es13 : List (FV × FV)) (r14 : List (List FV)) (r15 : List (List FV)) (r16 : List (List FV)) (r17 : List (List FV)) (r18 : List (List FV)) (x19 : FV) (x20 : FV) (x21 : FV) (x22 : FV) (x23 : FV) (x24 : FV) (r25 : List (List FV)) : R := jden E 123 [] [1, 1, 4, 0, 1, 1, 5, 4, 1, 0, 1, 1, 1, 1, 1, 1, 1] (mkF 239 [(3, .ptr 0 0 0), (4, .ptr 1 0 0), (7, .ptr 2 0 0), (13, .ref 6), (14, .ptr 8 0 0), (25, .ref 12), (178, .f x0), (179, .f x1), (180, .f x2)]) [.box [.f x3, .f x4, .f x5, .f x6, .f x7, .f x8, .f x9, .f x10], .box [.f x11, .f x12], .box [.ref 4, .ref 5], .map false es13, .own 1 r14, .own 1 r15, .own 1 r16, .own 1 r17, .box [.ref 7, .ref 10], .dead, .own 1 r18, .box [.f x19, .f x20, .f x21, .f x22, .f x23, .f x24], .own 1 r25]
noncomputable def mach_runner_step.L7 (x0 : FV) (x1 : FV) (x2 : FV) (x3 : FV) (x4 : FV) (x5 : FV) (x6 : FV) (x7 : FV) (x8 : FV) (x9 : FV) (x10 : FV) (x11 : FV) (x12 : FV) (es13 : List (FV × FV)) (r14 : List (List FV)) (r15 : List (List FV)) (r16 : List (List FV)) (r17 : List (List FV)) (r18 : List (List FV)) (r19 : List (List FV)) : R := jden E 123 [] [4, 1, 0, 1, 1, 1, 1, 1, 1, 1, 1, 1] (mkF 239 [(7, .ptr 2 0 0), (13, .ref 6), (14, .ptr 8 0 0), (26, .ref 10), (218, .f x0), (219, .f x1), (220, .f x2)]) [.box [.f x3, .f x4, .f x5, .f x6, .f x7, .f x8, .f x9, .f x10], .box [.f x11, .f x12], .box [.ref 4, .ref 5], .map false es13, .own 1 r14, .own 1 r15, .own 1 r16, .own 1 r17, .box [.ref 7, .ref 11], .dead, .own 1 r18, .own 1 r19]
theorem mach_runner_step.eq (x0 x1 x2 : FV) : mach_runner_step x0 x1 x2 = (
  gB (fIsAgg 8 x0) <|
  gB (fIsAgg 2 x1) <|
  bindO (fLen (fCell x0 5)) fun v1 =>
  mach_runner_step.L0 x2 (fCell x0 5) v1 (.int .i64 0) (fCell x0 0) (fCell x0 1) (fCell x0 2) (fCell x0 3) (fCell x0 4) (fCell x0 5) (fCell x0 6) (fCell x0 7) (fCell x1 0) (fCell x1 1) [] [] []) := (den_eq E 123 [x0, x1, x2]).trans (by kernel_rfl)
theorem mach_runner_step.L0_eq (x0 : FV) (x1 : FV) (x2 : FV) (x3 : FV) (x4 : FV) (x5 : FV) (x6 : FV) (x7 : FV) (x8 : FV) (x9 : FV) (x10 : FV) (x11 : FV) (x12 : FV) (x13 : FV) (es14 : List (FV × FV)) (r15 : List (List FV)) (r16 : List (List FV)) : mach_runner_step.L0 x0 x1 x2 x3 x4 x5 x6 x7 x8 x9 x10 x11 x12 x13 es14 r15 r16 = (
  bindO (fBin .lss x3 x2) fun v18 =>
  fCond v18
  (bindO (fIdxC 2 x1 x3) fun c19 =>
  bindO (c19[0]?) fun v20 =>
  bindO (c19[1]?) fun v21 =>
  bindO (fIdxC 1 x0 x3) fun c22 =>
  bindO (c22[0]?) fun v23 =>
  gB (keyOk true [.int, .int] (.agg [v20, v21])) <|
  bindO (mPut true [.int, .int] es14 (.agg [v20, v21]) v23) fun es24 =>
  bindO (fBin .add x3 (.int .i64 1)) fun v25 =>
  mach_runner_step.L0 x0 x1 x2 v25 x4 x5 x6 x7 x8 x9 x10 x11 x12 x13 es24 r15 r16)
  (bindO (fLen x8) fun v26 =>
  mach_runner_step.L1 x8 v26 (.int .i64 0) x4 x5 x6 x7 x8 x9 x10 x11 x12 x13 es14 r15 r16)) := (jden_eq E 123 [] [4, 1, 0, 1, 1] _ _).trans (by kernel_rfl)
theorem mach_runner_step.L1_eq (x0 : FV) (x1 : FV) (x2 : FV) (x3 : FV) (x4 : FV) (x5 : FV) (x6 : FV) (x7 : FV) (x8 : FV) (x9 : FV) (x10 : FV) (x11 : FV) (x12 : FV) (es13 : List (FV × FV)) (r14 : List (List FV)) (r15 : List (List FV)) : mach_runner_step.L1 x0 x1 x2 x3 x4 x5 x6 x7 x8 x9 x10 x11 x12 es13 r14 r15 = (
  bindO (fBin .lss x2 x1) fun v17 =>
  fCond v17
  (bindO (fIdxC 6 x0 x2) fun c18 =>
  bindO (c18[0]?) fun v19 =>
  bindO (c18[1]?) fun v20 =>
  bindO (c18[2]?) fun v21 =>
  bindO (c18[3]?) fun v22 =>
  bindO (c18[4]?) fun v23 =>
  bindO (c18[5]?) fun v24 =>
  bindO (fBin .gtr v23 (.int .i64 0)) fun v25 =>
  fCond v25
  (bindO (fIdxC 1 x12 x2) fun c26 =>
  bindO (c26[0]?) fun v27 =>
  bindO (fIdxC 1 v27 (.int .i64 0)) fun c28 =>
  bindO (c28[0]?) fun v29 =>
  gB (keyOk true [.int, .int] (.agg [v21, v22])) <|
  bindO (mPut true [.int, .int] es13 (.agg [v21, v22]) v29) fun es30 =>
  bindO (fBin .add x2 (.int .i64 1)) fun v31 =>
  mach_runner_step.L1 x0 x1 v31 x3 x4 x5 x6 x7 x8 x9 x10 x11 x12 es30 r14 r15)
  (bindO (fBin .add x2 (.int .i64 1)) fun v32 =>
  mach_runner_step.L1 x0 x1 v32 x3 x4 x5 x6 x7 x8 x9 x10 x11 x12 es13 r14 r15))
  (bindO (fLen x6) fun v33 =>
  bindO (asNat v33) fun j34 =>
  bindO (asNat v33) fun j35 =>
  gB (j34 ≤ j35 && j35 * 24 ≤ room && 1 ≥ 1) <|
  bindO (fLen x6) fun v36 =>
  bindO (asNat v36) fun j37 =>
  bindO (asNat v36) fun j38 =>
  gB (j37 ≤ j38 && j38 * 8 ≤ room && 1 ≥ 1) <|
  bindO (fLen x10) fun v39 =>
  mach_runner_step.L2 x10 v39 (.int .i64 0) x3 x4 x5 x6 x7 x8 x9 x10 x11 x12 es13 r14 r15 (List.replicate j34 [(.nilS : FV)]) (List.replicate j37 [(.int .i64 0 : FV)]) [])) := (jden_eq E 123 [] [4, 1, 0, 1, 1, 1] _ _).trans (by kernel_rfl)
theorem mach_runner_step.L2_eq (x0 : FV) (x1 : FV) (x2 : FV) (x3 : FV) (x4 : FV) (x5 : FV) (x6 : FV) (x7 : FV) (x8 : FV) (x9 : FV) (x10 : FV) (x11 : FV) (x12 : FV) (es13 : List (FV × FV)) (r14 : List (List FV)) (r15 : List (List FV)) (r16 : List (List FV)) (r17 : List (List FV)) (r18 : List (List FV)) : mach_runner_step.L2 x0 x1 x2 x3 x4 x5 x6 x7 x8 x9 x10 x11 x12 es13 r14 r15 r16 r17 r18 = (
  bindO (fBin .lss x2 x1) fun v20 =>
  fCond v20
  (bindO (fIdxC 1 x0 x2) fun c21 =>
  bindO (c21[0]?) fun v22 =>
  bindO (fIdxC 2 x6 v22) fun c23 =>
  bindO (c23[1]?) fun v24 =>
  bindO (fIdxC 6 x3 v24) fun c25 =>
  bindO (c25[0]?) fun v26 =>
  bindO (c25[1]?) fun v27 =>
  bindO (c25[2]?) fun v28 =>
  bindO (c25[3]?) fun v29 =>
  bindO (c25[4]?) fun v30 =>
  bindO (c25[5]?) fun v31 =>
  bindO (fLen v29) fun v32 =>
  bindO (asNat v32) fun j33 =>
  bindO (asNat v32) fun j34 =>
  gB (j33 ≤ j34 && j34 * 8 ≤ room && 1 ≥ 1) <|
  mach_runner_step.L3 v22 x0 x1 x2 (.int .i64 (((List.replicate j33 [(.int .i64 0 : FV)]).length : Nat) : Int)) (.int .i64 0) x3 x4 x5 x6 x7 x8 x9 x10 x11 x12 es13 r14 r15 r16 r17 r18 v26 v27 v28 v29 v30 v31 (List.replicate j33 [(.int .i64 0 : FV)]))
  (bindO (fLen x7) fun v35 =>
  mach_runner_step.L5 x7 v35 (.int .i64 0) x3 x4 x5 x6 x7 x8 x9 x10 x11 x12 es13 r14 r15 r16 r17 r18)) := (jden_eq E 123 [] [4, 1, 0, 1, 1, 1, 1, 1, 1] _ _).trans (by kernel_rfl)
theorem mach_runner_step.L3_eq (x0 : FV) (x1 : FV) (x2 : FV) (x3 : FV) (x4 : FV) (x5 : FV) (x6 : FV) (x7 : FV) (x8 : FV) (x9 : FV) (x10 : FV) (x11 : FV) (x12 : FV) (x13 : FV) (x14 : FV) (x15 : FV) (es16 : List (FV × FV)) (r17 : List (List FV)) (r18 : List (List FV)) (r19 : List (List FV)) (r20 : List (List FV)) (r21 : List (List FV)) (x22 : FV) (x23 : FV) (x24 : FV) (x25 : FV) (x26 : FV) (x27 : FV) (r28 : List (List FV)) : mach_runner_step.L3 x0 x1 x2 x3 x4 x5 x6 x7 x8 x9 x10 x11 x12 x13 x14 x15 es16 r17 r18 r19 r20 r21 x22 x23 x24 x25 x26 x27 r28 = (
  bindO (fBin .lss x5 x4) fun v30 =>
  fCond v30
  (bindO (mLook true [.int, .int] es16 (.agg [x0, x5]) (.int .i64 0)) fun v31 =>
  bindO (rIdx r28 x5) fun j32 =>
  bindO (rSet r28 j32 0 [v31.1]) fun r33 =>
  bindO (fBin .add x5 (.int .i64 1)) fun v34 =>
  mach_runner_step.L3 x0 x1 x2 x3 x4 v34 x6 x7 x8 x9 x10 x11 x12 x13 x14 x15 es16 r17 r18 r19 r20 r21 x22 x23 x24 x25 x26 x27 r33)
  (bindO (fIdxC 1 x14 x0) fun c35 =>
  bindO (c35[0]?) fun v36 =>
  bindO (mach_product x25) fun v37 =>
  bindO (fBin .mul v36 v37) fun v38 =>
  bindO (mach_number x25 (.arr r28)) fun v39 =>
  bindO (fBin .add v38 v39) fun v40 =>
  bindO (fIdxC 2 x27 v40) fun c41 =>
  bindO (c41[0]?) fun v42 =>
  bindO (c41[1]?) fun v43 =>
  bindO (rIdx r19 x0) fun j44 =>
  bindO (rSet r19 j44 0 [v43]) fun r45 =>
  bindO (rIdx r20 x0) fun j46 =>
  bindO (rSet r20 j46 0 [v42]) fun r47 =>
  bindO (fLen x10) fun v48 =>
  mach_runner_step.L4 x0 x1 x2 x3 x10 v48 (.int .i64 0) x6 x7 x8 x9 x10 x11 x12 x13 x14 x15 es16 r17 r18 r45 r47 r21 x22 x23 x24 x25 x26 x27 r28 v42 v43)) := (jden_eq E 123 [] [4, 1, 0, 1, 1, 1, 4, 0, 1, 1, 5, 4, 1, 0, 1, 1, 1, 1, 1, 1] _ _).trans (by kernel_rfl)
theorem mach_runner_step.L5_eq (x0 : FV) (x1 : FV) (x2 : FV) (x3 : FV) (x4 : FV) (x5 : FV) (x6 : FV) (x7 : FV) (x8 : FV) (x9 : FV) (x10 : FV) (x11 : FV) (x12 : FV) (es13 : List (FV × FV)) (r14 : List (List FV)) (r15 : List (List FV)) (r16 : List (List FV)) (r17 : List (List FV)) (r18 : List (List FV)) : mach_runner_step.L5 x0 x1 x2 x3 x4 x5 x6 x7 x8 x9 x10 x11 x12 es13 r14 r15 r16 r17 r18 = (
  bindO (fBin .lss x2 x1) fun v20 =>
  fCond v20
  (bindO (fIdxC 6 x0 x2) fun c21 =>
  bindO (c21[0]?) fun v22 =>
  bindO (c21[1]?) fun v23 =>
  bindO (c21[2]?) fun v24 =>
  bindO (c21[3]?) fun v25 =>
  bindO (c21[4]?) fun v26 =>
  bindO (c21[5]?) fun v27 =>
  bindO (fIdxC 1 x12 x2) fun c28 =>
  bindO (c28[0]?) fun v29 =>
  bindO (slices_Clone_int v29) fun v30 =>
  bindO (arrRows v30) fun r31 =>
  bindO (fBin .gtr v26 (.int .i64 0)) fun v32 =>
  fCond v32
  (bindO (rIdx r16 v22) fun j33 =>
  bindO (rGet r16 j33 0) fun v34 =>
  bindO (fIdxC 1 v34 v23) fun c35 =>
  bindO (c35[0]?) fun v36 =>
  bindO (cut? r31.length (some (.int .i64 1)) none) fun q38 =>
  gB (decide ((((r31.take q38.2).drop q38.1).length + 1) * 8 ≤ room)) <|
  mach_runner_step.L6 x0 x1 x2 x3 x4 x5 x6 x7 x8 x9 x10 x11 x12 es13 r14 r15 r16 r17 r18 v22 v23 v24 v25 v26 v27 (((r31.take q38.2).drop q38.1) ++ [[v36]]))
  (mach_runner_step.L6 x0 x1 x2 x3 x4 x5 x6 x7 x8 x9 x10 x11 x12 es13 r14 r15 r16 r17 r18 v22 v23 v24 v25 v26 v27 r31))
  (bindO (fLen x9) fun v39 =>
  mach_runner_step.L7 x9 v39 (.int .i64 0) x3 x4 x5 x6 x7 x8 x9 x10 x11 x12 es13 r14 r15 r16 r17 [] r18)) := (jden_eq E 123 [] [4, 1, 0, 1, 1, 1, 1, 1, 1, 1] _ _).trans (by kernel_rfl)
theorem mach_runner_step.L4_eq (x0 : FV) (x1 : FV) (x2 : FV) (x3 : FV) (x4 : FV) (x5 : FV) (x6 : FV) (x7 : FV) (x8 : FV) (x9 : FV) (x10 : FV) (x11 : FV) (x12 : FV) (x13 : FV) (x14 : FV) (x15 : FV) (x16 : FV) (es17 : List (FV × FV)) (r18 : List (List FV)) (r19 : List (List FV)) (r20 : List (List FV)) (r21 : List (List FV)) (r22 : List (List FV)) (x23 : FV) (x24 : FV) (x25 : FV) (x26 : FV) (x27 : FV) (x28 : FV) (r29 : List (List FV)) (x30 : FV) (x31 : FV) : mach_runner_step.L4 x0 x1 x2 x3 x4 x5 x6 x7 x8 x9 x10 x11 x12 x13 x14 x15 x16 es17 r18 r19 r20 r21 r22 x23 x24 x25 x26 x27 x28 r29 x30 x31 = (
  bindO (fBin .lss x6 x5) fun v33 =>
  fCond v33
  (bindO (fIdxC 6 x4 x6) fun c34 =>
  bindO (c34[0]?) fun v35 =>
  bindO (c34[1]?) fun v36 =>
  bindO (c34[2]?) fun v37 =>
  bindO (c34[3]?) fun v38 =>
  bindO (c34[4]?) fun v39 =>
  bindO (c34[5]?) fun v40 =>
  bindO (fBin .eql v39 (.int .i64 0)) fun v41 =>
  fCond v41
  (bindO (fBin .eql v35 x0) fun v42 =>
  fCond v42
  (bindO (fIdxC 1 x31 v36) fun c43 =>
  bindO (c43[0]?) fun v44 =>
  gB (keyOk true [.int, .int] (.agg [v37, v38])) <|
  bindO (mPut true [.int, .int] es17 (.agg [v37, v38]) v44) fun es45 =>
  bindO (fBin .add x6 (.int .i64 1)) fun v46 =>
  mach_runner_step.L4 x0 x1 x2 x3 x4 x5 v46 x7 x8 x9 x10 x11 x12 x13 x14 x15 x16 es45 r18 r19 r20 r21 r22 x23 x24 x25 x26 x27 x28 r29 x30 x31)
  (bindO (fBin .add x6 (.int .i64 1)) fun v47 =>
  mach_runner_step.L4 x0 x1 x2 x3 x4 x5 v47 x7 x8 x9 x10 x11 x12 x13 x14 x15 x16 es17 r18 r19 r20 r21 r22 x23 x24 x25 x26 x27 x28 r29 x30 x31))
  (bindO (fBin .add x6 (.int .i64 1)) fun v48 =>
  mach_runner_step.L4 x0 x1 x2 x3 x4 x5 v48 x7 x8 x9 x10 x11 x12 x13 x14 x15 x16 es17 r18 r19 r20 r21 r22 x23 x24 x25 x26 x27 x28 r29 x30 x31))
  (bindO (fBin .add x3 (.int .i64 1)) fun v49 =>
  mach_runner_step.L2 x1 x2 v49 x7 x8 x9 x10 x11 x12 x13 x14 x15 x16 es17 r18 r19 r20 r21 r22)) := (jden_eq E 123 [] [4, 1, 1, 1, 1, 1, 1, 1, 4, 0, 1, 1, 5, 4, 1, 0, 1, 1, 1, 1, 1, 1] _ _).trans (by kernel_rfl)
theorem mach_runner_step.L6_eq (x0 : FV) (x1 : FV) (x2 : FV) (x3 : FV) (x4 : FV) (x5 : FV) (x6 : FV) (x7 : FV) (x8 : FV) (x9 : FV) (x10 : FV) (x11 : FV) (x12 : FV) (es13 : List (FV × FV)) (r14 : List (List FV)) (r15 : List (List FV)) (r16 : List (List FV)) (r17 : List (List FV)) (r18 : List (List FV)) (x19 : FV) (x20 : FV) (x21 : FV) (x22 : FV) (x23 : FV) (x24 : FV) (r25 : List (List FV)) : mach_runner_step.L6 x0 x1 x2 x3 x4 x5 x6 x7 x8 x9 x10 x11 x12 es13 r14 r15 r16 r17 r18 x19 x20 x21 x22 x23 x24 r25 = (
  gB (decide ((r18.length + 1) * 24 ≤ room)) <|
  bindO (fBin .add x2 (.int .i64 1)) fun v27 =>
  mach_runner_step.L5 x0 x1 v27 x3 x4 x5 x6 x7 x8 x9 x10 x11 x12 es13 r14 r15 r16 r17 (r18 ++ [[.arr r25]])) := (jden_eq E 123 [] [1, 1, 4, 0, 1, 1, 5, 4, 1, 0, 1, 1, 1, 1, 1, 1, 1] _ _).trans (by kernel_rfl)
theorem mach_runner_step.L7_eq (x0 : FV) (x1 : FV) (x2 : FV) (x3 : FV) (x4 : FV) (x5 : FV) (x6 : FV) (x7 : FV) (x8 : FV) (x9 : FV) (x10 : FV) (x11 : FV) (x12 : FV) (es13 : List (FV × FV)) (r14 : List (List FV)) (r15 : List (List FV)) (r16 : List (List FV)) (r17 : List (List FV)) (r18 : List (List FV)) (r19 : List (List FV)) : mach_runner_step.L7 x0 x1 x2 x3 x4 x5 x6 x7 x8 x9 x10 x11 x12 es13 r14 r15 r16 r17 r18 r19 = (
  bindO (fBin .lss x2 x1) fun v21 =>
  fCond v21
  (bindO (fIdxC 2 x0 x2) fun c22 =>
  bindO (c22[0]?) fun v23 =>
  bindO (c22[1]?) fun v24 =>
  bindO (rIdx r16 v23) fun j25 =>
  bindO (rGet r16 j25 0) fun v26 =>
  bindO (fIdxC 1 v26 v24) fun c27 =>
  bindO (c27[0]?) fun v28 =>
  gB (decide ((r18.length + 1) * 8 ≤ room)) <|
  bindO (fBin .add x2 (.int .i64 1)) fun v29 =>
  mach_runner_step.L7 x0 x1 v29 x3 x4 x5 x6 x7 x8 x9 x10 x11 x12 es13 r14 r15 r16 r17 (r18 ++ [[v28]]) r19)
  (some (.tup [.arr r18, .agg [.arr r17, .arr r19]]))) := (jden_eq E 123 [] [4, 1, 0, 1, 1, 1, 1, 1, 1, 1, 1, 1] _ _).trans (by kernel_rfl)
/-! ### ramet/mach.RunNet (function 41) -/
noncomputable def mach_RunNet.L0 (x0 : FV) (x1 : FV) (x2 : FV) (x3 : FV) (x4 : FV) (x5 : FV) (x6 : FV) (x7 : FV) (x8 : FV) (x9 : FV) (x10 : FV) (x11 : FV) (x12 : FV) (x13 : FV) (x14 : FV) : R := jden E 41 [] [4, 1, 0, 1, 1, 1, 1, 1, 1] (mkF 85 [(2, .f x0), (11, .ptr 1 0 0), (12, .f x1), (52, .f x2), (53, .f x3), (54, .f x4)]) [.box [.f x5, .f x6], .box [.f x7, .f x8, .f x9, .f x10, .f x11, .f x12, .f x13, .f x14]]
noncomputable def mach_RunNet.L1 (x0 : FV) (x1 : FV) (x2 : FV) (x3 : FV) (x4 : FV) (x5 : FV) (x6 : FV) (x7 : FV) (x8 : FV) (x9 : FV) (x10 : FV) (x11 : FV) (x12 : FV) (x13 : FV) (x14 : FV) (r15 : List (List FV)) : R := jden E 41 [] [4, 1, 0, 1, 1, 1, 1, 1, 1, 1, 1, 1] (mkF 85 [(11, .ptr 1 0 0), (15, .ref 3), (16, .ptr 2 0 0), (65, .f x0), (66, .f x1), (67, .f x2)]) [.box [.f x3, .f x4], .box [.f x5, .f x6, .f x7, .f x8, .f x9, .f x10, .f x11, .f x12], .box [.f x13, .f x14], .own 1 r15]
theorem mach_RunNet.eq (x0 x1 x2 : FV) : mach_RunNet x0 x1 x2 = (
  gB (fIsAgg 2 x0) <|
  bindO (mach_CheckNet (.agg [(fCell x0 0), (fCell x0 1)]) x1) fun v1 =>
  bindO (fBin .neq v1 (.int .i64 0)) fun v2 =>
  fCond v2
  (some (.tup [.nilS, v1]))
  (bindO (fLen x2) fun v3 =>
  bindO (fBin .gtr v3 (.int .i64 4096)) fun v4 =>
  fCond v4
  (some (.tup [.nilS, .int .i64 26]))
  (bindO (fIdxC 5 (fCell x0 1) x1) fun c5 =>
  bindO (c5[0]?) fun v6 =>
  bindO (c5[1]?) fun v7 =>
  bindO (c5[2]?) fun v8 =>
  bindO (c5[3]?) fun v9 =>
  bindO (c5[4]?) fun v10 =>
  bindO (mach_order (.agg [v6, v7, v8, v9, v10])) fun v11 =>
  gB (fIsTup 2 v11) <|
  bindO (fIdxC 5 (fCell x0 1) x1) fun c12 =>
  bindO (c12[0]?) fun v13 =>
  bindO (c12[1]?) fun v14 =>
  bindO (c12[2]?) fun v15 =>
  bindO (c12[3]?) fun v16 =>
  bindO (c12[4]?) fun v17 =>
  bindO (mach_runner_ports (.agg [(fCell x0 0), (fCell x0 1), v13, v14, v15, v16, v17, (fTup v11 0)]) v16 (.func 121 [])) fun v18 =>
  bindO (fLen x2) fun v19 =>
  mach_RunNet.L0 x2 v18 x2 v19 (.int .i64 0) (fCell x0 0) (fCell x0 1) (fCell x0 0) (fCell x0 1) v13 v14 v15 v16 v17 (fTup v11 0)))) := (den_eq E 41 [x0, x1, x2]).trans (by kernel_rfl)
theorem mach_RunNet.L0_eq (x0 : FV) (x1 : FV) (x2 : FV) (x3 : FV) (x4 : FV) (x5 : FV) (x6 : FV) (x7 : FV) (x8 : FV) (x9 : FV) (x10 : FV) (x11 : FV) (x12 : FV) (x13 : FV) (x14 : FV) : mach_RunNet.L0 x0 x1 x2 x3 x4 x5 x6 x7 x8 x9 x10 x11 x12 x13 x14 = (
  bindO (fBin .lss x4 x3) fun v16 =>
  fCond v16
  (bindO (fIdxC 1 x2 x4) fun c17 =>
  bindO (c17[0]?) fun v18 =>
  bindO (mach_fit x1 v18) fun v19 =>
  bindO (fUn .not v19) fun v20 =>
  fCond v20
  (some (.tup [.nilS, .int .i64 27]))
  (bindO (fBin .add x4 (.int .i64 1)) fun v21 =>
  mach_RunNet.L0 x0 x1 x2 x3 v21 x5 x6 x7 x8 x9 x10 x11 x12 x13 x14))
  (bindO (mach_runner_begin (.agg [x7, x8, x9, x10, x11, x12, x13, x14])) fun v22 =>
  gB (fIsAgg 2 v22) <|
  bindO (fLen x0) fun v23 =>
  mach_RunNet.L1 x0 v23 (.int .i64 0) x5 x6 x7 x8 x9 x10 x11 x12 x13 x14 (fCell v22 0) (fCell v22 1) [])) := (jden_eq E 41 [] [4, 1, 0, 1, 1, 1, 1, 1, 1] _ _).trans (by kernel_rfl)
theorem mach_RunNet.L1_eq (x0 : FV) (x1 : FV) (x2 : FV) (x3 : FV) (x4 : FV) (x5 : FV) (x6 : FV) (x7 : FV) (x8 : FV) (x9 : FV) (x10 : FV) (x11 : FV) (x12 : FV) (x13 : FV) (x14 : FV) (r15 : List (List FV)) : mach_RunNet.L1 x0 x1 x2 x3 x4 x5 x6 x7 x8 x9 x10 x11 x12 x13 x14 r15 = (
  bindO (fBin .lss x2 x1) fun v17 =>
  fCond v17
  (bindO (fIdxC 1 x0 x2) fun c18 =>
  bindO (c18[0]?) fun v19 =>
  bindO (mach_runner_step (.agg [x5, x6, x7, x8, x9, x10, x11, x12]) (.agg [x13, x14]) v19) fun v20 =>
  gB (fIsTup 2 v20) <|
  gB (fIsAgg 2 (fTup v20 1)) <|
  gB (decide ((r15.length + 1) * 24 ≤ room)) <|
  bindO (fBin .add x2 (.int .i64 1)) fun v21 =>
  mach_RunNet.L1 x0 x1 v21 x3 x4 x5 x6 x7 x8 x9 x10 x11 x12 (fCell (fTup v20 1) 0) (fCell (fTup v20 1) 1) (r15 ++ [[(fTup v20 0)]]))
  (some (.tup [.arr r15, .int .i64 0]))) := (jden_eq E 41 [] [4, 1, 0, 1, 1, 1, 1, 1, 1, 1, 1, 1] _ _).trans (by kernel_rfl)
/-! ### ramet/rametlaw02.MachNets (function 11) -/
theorem law02_MachNets.eq (x0 x1 x2 : FV) : law02_MachNets x0 x1 x2 = (
  gB (fIsAgg 2 x0) <|
  bindO (ref02_RunNet (.agg [(fCell x0 0), (fCell x0 1)]) x1 x2) fun v1 =>
  gB (fIsTup 2 v1) <|
  bindO (mach_RunNet (.agg [(fCell x0 0), (fCell x0 1)]) x1 x2) fun v2 =>
  gB (fIsTup 2 v2) <|
  bindO (fBin .eql (fTup v2 1) (fTup v1 1)) fun v3 =>
  fCond v3
  (bindO (ref02_SameLists (fTup v2 0) (fTup v1 0)) fun v4 =>
  some v4)
  (some (.bool false))) := (den_eq E 11 [x0, x1, x2]).trans (by kernel_rfl)
/-! ### ramet/rametlaw02.turned (function 42) -/
noncomputable def law02_turned.L0 (x0 : FV) (x1 : FV) (x2 : FV) (r3 : List (List FV)) (r4 : List (List FV)) : R := jden E 42 [] [4, 1, 0, 1, 1, 1] (mkF 59 [(0, .f x0), (1, .f x1), (5, .ref 0), (6, .ref 1), (7, .f x2)]) [.own 1 r3, .own 1 r4]
noncomputable def law02_turned.L1 (x0 : FV) (x1 : FV) (x2 : FV) (r3 : List (List FV)) (r4 : List (List FV)) : R := jden E 42 [] [4, 1, 0, 1, 1, 1, 1] (mkF 59 [(0, .f x0), (1, .f x1), (5, .ref 2), (6, .ref 3), (8, .f x2)]) [.dead, .dead, .own 1 r3, .own 1 r4]
noncomputable def law02_turned.L2 (x0 : FV) (x1 : FV) (x2 : FV) (x3 : FV) (x4 : FV) (r5 : List (List FV)) (r6 : List (List FV)) : R := jden E 42 [] [1, 4, 0, 1, 5, 4, 1, 0, 1, 1, 1, 1] (mkF 59 [(0, .f x0), (1, .f x1), (5, .f x2), (6, .ref 3), (8, .f x3), (9, .f x4)]) [.dead, .dead, .fz r5, .own 1 r6]
theorem law02_turned.eq (x0 x1 : FV) : law02_turned x0 x1 = (
  law02_turned.L0 x0 x1 (.int .i64 0) [] []) := (den_eq E 42 [x0, x1]).trans (by kernel_rfl)
theorem law02_turned.L0_eq (x0 : FV) (x1 : FV) (x2 : FV) (r3 : List (List FV)) (r4 : List (List FV)) : law02_turned.L0 x0 x1 x2 r3 r4 = (
  bindO (fBin .lss x2 x0) fun v6 =>
  fCond v6
  (gB (decide ((r3.length + 1) * 8 ≤ room)) <|
  bindO (fBin .add x2 (.int .i64 1)) fun v7 =>
  law02_turned.L0 x0 x1 v7 (r3 ++ [[x2]]) r4)
  (law02_turned.L1 x0 x1 (.int .i64 0) r3 r4)) := (jden_eq E 42 [] [4, 1, 0, 1, 1, 1] _ _).trans (by kernel_rfl)
theorem law02_turned.L1_eq (x0 : FV) (x1 : FV) (x2 : FV) (r3 : List (List FV)) (r4 : List (List FV)) : law02_turned.L1 x0 x1 x2 r3 r4 = (
  bindO (fBin .lss x2 x0) fun v6 =>
  fCond v6
  (bindO (fLen x1) fun v7 =>
  bindO (fBin .lss x2 v7) fun v8 =>
  fCond v8
  (bindO (fIdxC 1 x1 x2) fun c9 =>
  bindO (c9[0]?) fun v10 =>
  bindO (fBin .rem v10 (.int .i64 ((r3.length : Nat) : Int))) fun v11 =>
  bindO (fBin .add v11 (.int .i64 ((r3.length : Nat) : Int))) fun v12 =>
  bindO (fBin .rem v12 (.int .i64 ((r3.length : Nat) : Int))) fun v13 =>
  law02_turned.L2 x0 x1 (.arr r3) x2 v13 r3 r4)
  (law02_turned.L2 x0 x1 (.arr r3) x2 (.int .i64 0) r3 r4))
  (some (.arr r4))) := (jden_eq E 42 [] [4, 1, 0, 1, 1, 1, 1] _ _).trans (by kernel_rfl)
theorem law02_turned.L2_eq (x0 : FV) (x1 : FV) (x2 : FV) (x3 : FV) (x4 : FV) (r5 : List (List FV)) (r6 : List (List FV)) : law02_turned.L2 x0 x1 x2 x3 x4 r5 r6 = (
  bindO (fIdxC 1 x2 x4) fun c8 =>
  bindO (c8[0]?) fun v9 =>
  gB (decide ((r6.length + 1) * 8 ≤ room)) <|
  bindO (fCut 1 x2 none (some x4)) fun v10 =>
  bindO (fBin .add x4 (.int .i64 1)) fun v11 =>
  bindO (fCut 1 x2 (some v11) none) fun v12 =>
  bindO (asRows v10) fun r13 =>
  gB (rowsSz 1 r13) <|
  gB (decide ((0 + r13.length) * 8 ≤ room)) <|
  bindO (asRows v12) fun r14 =>
  gB (rowsSz 1 r14) <|
  gB (decide ((([] ++ r13).length + r14.length) * 8 ≤ room)) <|
  bindO (fBin .add x3 (.int .i64 1)) fun v15 =>
  law02_turned.L1 x0 x1 v15 (([] ++ r13) ++ r14) (r6 ++ [[v9]])) := (jden_eq E 42 [] [1, 4, 0, 1, 5, 4, 1, 0, 1, 1, 1, 1] _ _).trans (by kernel_rfl)
/-! ### ramet/rametlaw02.moved (function 43) -/
theorem law02_moved.eq (x0 x1 : FV) : law02_moved x0 x1 = (
  gB (fIsAgg 2 x0) <|
  bindO (fIdxC 1 x1 (fCell x0 0)) fun c1 =>
  bindO (c1[0]?) fun v2 =>
  some (.agg [v2, (fCell x0 1)])) := (den_eq E 43 [x0, x1]).trans (by kernel_rfl)
/-! ### ramet/rametref02.copyPorts (function 102) -/
noncomputable def ref02_copyPorts.L0 (x0 : FV) (x1 : FV) (r2 : List (List FV)) : R := jden E 102 [] [4, 1, 0, 1, 1] (mkF 28 [(0, .f x0), (3, .ref 0), (4, .f x1)]) [.own 2 r2]
theorem ref02_copyPorts.eq (x0 : FV) : ref02_copyPorts x0 = (
  ref02_copyPorts.L0 x0 (.int .i64 0) []) := (den_eq E 102 [x0]).trans (by kernel_rfl)
theorem ref02_copyPorts.L0_eq (x0 : FV) (x1 : FV) (r2 : List (List FV)) : ref02_copyPorts.L0 x0 x1 r2 = (
  bindO (fLen x0) fun v4 =>
  bindO (fBin .lss x1 v4) fun v5 =>
  fCond v5
  (bindO (fIdxC 2 x0 x1) fun c6 =>
  bindO (c6[0]?) fun v7 =>
  bindO (fIdxC 2 x0 x1) fun c8 =>
  bindO (c8[1]?) fun v9 =>
  bindO (asRows v9) fun r10 =>
  gB (rowsSz 1 r10) <|
  gB (decide ((0 + r10.length) * 16 ≤ room)) <|
  gB (decide ((r2.length + 1) * 40 ≤ room)) <|
  bindO (fBin .add x1 (.int .i64 1)) fun v11 =>
  ref02_copyPorts.L0 x0 v11 (r2 ++ [[v7, .arr ([] ++ r10)]]))
  (some (.arr r2))) := (jden_eq E 102 [] [4, 1, 0, 1, 1] _ _).trans (by kernel_rfl)
/-! ### ramet/rametref02.CopyMachine (function 124) -/
noncomputable def ref02_CopyMachine.L0 (x0 : FV) (x1 : FV) (x2 : FV) (x3 : FV) (x4 : FV) (x5 : FV) (x6 : FV) (x7 : FV) (x8 : FV) (r9 : List (List FV)) (x10 : FV) (x11 : FV) (x12 : FV) (x13 : FV) (r14 : List (List FV)) (r15 : List (List FV)) (r16 : List (List FV)) (r17 : List (List FV)) (r18 : List (List FV)) : R := jden E 124 [] [4, 1, 0, 1, 1] (mkF 48 [(1, .ptr 0 0 0), (2, .ptr 1 0 0), (3, .ptr 4 0 0), (4, .f x0)]) [.box [.f x1, .f x2, .f x3, .f x4, .f x5, .f x6], .box [.f x7, .ref 5, .f x8, .ref 6, .ref 7, .ref 8], .dead, .own 1 r9, .box [.f x10, .ref 3, .f x11, .f x12, .f x13, .ref 9], .own 1 r14, .own 1 r15, .own 1 r16, .own 1 r17, .own 2 r18]
theorem ref02_CopyMachine.eq (x0 : FV) : ref02_CopyMachine x0 = (
  gB (fIsAgg 6 x0) <|
  bindO (asRows (fCell x0 1)) fun r1 =>
  gB (rowsSz 1 r1) <|
  gB (decide ((0 + r1.length) * 16 ≤ room)) <|
  bindO (ref02_copyPorts (fCell x0 3)) fun v2 =>
  bindO (ref02_copyPorts (fCell x0 4)) fun v3 =>
  ref02_CopyMachine.L0 (.int .i64 0) (fCell x0 0) (fCell x0 1) (fCell x0 2) (fCell x0 3) (fCell x0 4) (fCell x0 5) (.str []) (.int .i64 0) ([] ++ r1) (fCell x0 0) (fCell x0 2) v2 v3 [] [] [] [] []) := (den_eq E 124 [x0]).trans (by kernel_rfl)
theorem ref02_CopyMachine.L0_eq (x0 : FV) (x1 : FV) (x2 : FV) (x3 : FV) (x4 : FV) (x5 : FV) (x6 : FV) (x7 : FV) (x8 : FV) (r9 : List (List FV)) (x10 : FV) (x11 : FV) (x12 : FV) (x13 : FV) (r14 : List (List FV)) (r15 : List (List FV)) (r16 : List (List FV)) (r17 : List (List FV)) (r18 : List (List FV)) : ref02_CopyMachine.L0 x0 x1 x2 x3 x4 x5 x6 x7 x8 r9 x10 x11 x12 x13 r14 r15 r16 r17 r18 = (
  bindO (fLen x6) fun v20 =>
  bindO (fBin .lss x0 v20) fun v21 =>
  fCond v21
  (bindO (fIdxC 2 x6 x0) fun c22 =>
  bindO (c22[0]?) fun v23 =>
  bindO (fIdxC 2 x6 x0) fun c24 =>
  bindO (c24[1]?) fun v25 =>
  bindO (asRows v25) fun r26 =>
  gB (rowsSz 1 r26) <|
  gB (decide ((0 + r26.length) * 8 ≤ room)) <|
  gB (decide ((r18.length + 1) * 32 ≤ room)) <|
  bindO (fBin .add x0 (.int .i64 1)) fun v27 =>
  ref02_CopyMachine.L0 v27 x1 x2 x3 x4 x5 x6 x7 x8 r9 x10 x11 x12 x13 r14 r15 r16 r17 (r18 ++ [[v23, .arr ([] ++ r26)]]))
  (some (.agg [x10, .arr r9, x11, x12, x13, .arr r18]))) := (jden_eq E 124 [] [4, 1, 0, 1, 1] _ _).trans (by kernel_rfl)
/-! ### ramet/rametref02.CopyBook (function 44) -/
noncomputable def ref02_CopyBook.L0 (x0 : FV) (x1 : FV) (x2 : FV) (r3 : List (List FV)) (r4 : List (List FV)) (r5 : List (List FV)) (r6 : List (List FV)) : R := jden E 44 [] [4, 1, 0, 1, 1] (mkF 85 [(1, .ptr 0 0 0), (2, .ptr 1 0 0), (3, .ptr 2 0 0), (4, .f x0)]) [.box [.f x1, .f x2], .box [.ref 3, .ref 4], .box [.ref 5, .ref 6], .own 1 r3, .own 1 r4, .own 6 r5, .own 5 r6]
noncomputable def ref02_CopyBook.L1 (x0 : FV) (x1 : FV) (x2 : FV) (r3 : List (List FV)) (r4 : List (List FV)) (r5 : List (List FV)) (r6 : List (List FV)) : R := jden E 44 [] [4, 1, 0, 1, 1, 1] (mkF 85 [(1, .ptr 0 0 0), (2, .ptr 1 0 0), (3, .ptr 2 0 0), (5, .f x0)]) [.box [.f x1, .f x2], .box [.ref 3, .ref 4], .box [.ref 5, .ref 7], .own 1 r3, .own 1 r4, .own 6 r5, .dead, .own 5 r6]
noncomputable def ref02_CopyBook.L2 (x0 : FV) (x1 : FV) (x2 : FV) (x3 : FV) (r4 : List (List FV)) (r5 : List (List FV)) (r6 : List (List FV)) (r7 : List (List FV)) (x8 : FV) (x9 : FV) (x10 : FV) (x11 : FV) (x12 : FV) (r13 : List (List FV)) (r14 : List (List FV)) (r15 : List (List FV)) (x16 : FV) (r17 : List (List FV)) : R := jden E 44 [] [4, 1, 0, 1, 1, 4, 0, 1, 5, 4, 1, 0, 1, 1, 1] (mkF 85 [(1, .ptr 0 0 0), (2, .ptr 1 0 0), (3, .ptr 2 0 0), (5, .f x0), (6, .ptr 8 0 0), (7, .ptr 15 0 0), (8, .f x1)]) [.box [.f x2, .f x3], .box [.ref 3, .ref 4], .box [.ref 5, .ref 7], .own 1 r4, .own 1 r5, .own 6 r6, .dead, .own 5 r7, .box [.f x8, .f x9, .f x10, .f x11, .f x12], .dead, .own 2 r13, .dead, .own 2 r14, .dead, .own 2 r15, .box [.f x16, .ref 10, .ref 16, .ref 12, .ref 14], .own 6 r17]
theorem ref02_CopyBook.eq (x0 : FV) : ref02_CopyBook x0 = (
  gB (fIsAgg 2 x0) <|
  ref02_CopyBook.L0 (.int .i64 0) (fCell x0 0) (fCell x0 1) [] [] [] []) := (den_eq E 44 [x0]).trans (by kernel_rfl)
theorem ref02_CopyBook.L0_eq (x0 : FV) (x1 : FV) (x2 : FV) (r3 : List (List FV)) (r4 : List (List FV)) (r5 : List (List FV)) (r6 : List (List FV)) : ref02_CopyBook.L0 x0 x1 x2 r3 r4 r5 r6 = (
  bindO (fLen x1) fun v8 =>
  bindO (fBin .lss x0 v8) fun v9 =>
  fCond v9
  (bindO (fIdxC 6 x1 x0) fun c10 =>
  bindO (c10[0]?) fun v11 =>
  bindO (c10[1]?) fun v12 =>
  bindO (c10[2]?) fun v13 =>
  bindO (c10[3]?) fun v14 =>
  bindO (c10[4]?) fun v15 =>
  bindO (c10[5]?) fun v16 =>
  bindO (ref02_CopyMachine (.agg [v11, v12, v13, v14, v15, v16])) fun v17 =>
  gB (fIsAgg 6 v17) <|
  gB (decide ((r5.length + 1) * 120 ≤ room)) <|
  bindO (fBin .add x0 (.int .i64 1)) fun v18 =>
  ref02_CopyBook.L0 v18 x1 x2 r3 r4 (r5 ++ [[(fCell v17 0), (fCell v17 1), (fCell v17 2), (fCell v17 3), (fCell v17 4), (fCell v17 5)]]) r6)
  (ref02_CopyBook.L1 (.int .i64 0) x1 x2 r3 r4 r5 r6)) := (jden_eq E 44 [] [4, 1, 0, 1, 1] _ _).trans (by kernel_rfl)
theorem ref02_CopyBook.L1_eq (x0 : FV) (x1 : FV) (x2 : FV) (r3 : List (List FV)) (r4 : List (List FV)) (r5 : List (List FV)) (r6 : List (List FV)) : ref02_CopyBook.L1 x0 x1 x2 r3 r4 r5 r6 = (
  bindO (fLen x2) fun v8 =>
  bindO (fBin .lss x0 v8) fun v9 =>
  fCond v9
  (bindO (fIdxC 5 x2 x0) fun c10 =>
  bindO (c10[0]?) fun v11 =>
  bindO (c10[1]?) fun v12 =>
  bindO (c10[2]?) fun v13 =>
  bindO (c10[3]?) fun v14 =>
  bindO (c10[4]?) fun v15 =>
  bindO (asRows v12) fun r16 =>
  gB (rowsSz 2 r16) <|
  gB (decide ((0 + r16.length) * 24 ≤ room)) <|
  bindO (asRows v14) fun r17 =>
  gB (rowsSz 2 r17) <|
  gB (decide ((0 + r17.length) * 16 ≤ room)) <|
  bindO (asRows v15) fun r18 =>
  gB (rowsSz 2 r18) <|
  gB (decide ((0 + r18.length) * 16 ≤ room)) <|
  ref02_CopyBook.L2 x0 (.int .i64 0) x1 x2 r3 r4 r5 r6 v11 v12 v13 v14 v15 ([] ++ r16) ([] ++ r17) ([] ++ r18) v11 [])
  (some (.agg [.arr r5, .arr r6]))) := (jden_eq E 44 [] [4, 1, 0, 1, 1, 1] _ _).trans (by kernel_rfl)
theorem ref02_CopyBook.L2_eq (x0 : FV) (x1 : FV) (x2 : FV) (x3 : FV) (r4 : List (List FV)) (r5 : List (List FV)) (r6 : List (List FV)) (r7 : List (List FV)) (x8 : FV) (x9 : FV) (x10 : FV) (x11 : FV) (x12 : FV) (r13 : List (List FV)) (r14 : List (List FV)) (r15 : List (List FV)) (x16 : FV) (r17 : List (List FV)) : ref02_CopyBook.L2 x0 x1 x2 x3 r4 r5 r6 r7 x8 x9 x10 x11 x12 r13 r14 r15 x16 r17 = (
  bindO (fLen x10) fun v19 =>
  bindO (fBin .lss x1 v19) fun v20 =>
  fCond v20
  (bindO (fIdxC 6 x10 x1) fun c21 =>
  bindO (c21[0]?) fun v22 =>
  bindO (c21[1]?) fun v23 =>
  bindO (c21[2]?) fun v24 =>
  bindO (c21[3]?) fun v25 =>
  bindO (c21[4]?) fun v26 =>
  bindO (c21[5]?) fun v27 =>
  bindO (asRows v27) fun r28 =>
  gB (rowsSz 1 r28) <|
  gB (decide ((0 + r28.length) * 8 ≤ room)) <|
  gB (decide ((r17.length + 1) * 64 ≤ room)) <|
  bindO (fBin .add x1 (.int .i64 1)) fun v29 =>
  ref02_CopyBook.L2 x0 v29 x2 x3 r4 r5 r6 r7 x8 x9 x10 x11 x12 r13 r14 r15 x16 (r17 ++ [[v22, v23, v24, v25, v26, .arr ([] ++ r28)]]))
  (gB (decide ((r7.length + 1) * 112 ≤ room)) <|
  bindO (fBin .add x0 (.int .i64 1)) fun v30 =>
  ref02_CopyBook.L1 v30 x2 x3 r4 r5 r6 (r7 ++ [[x16, .arr r13, .arr r17, .arr r14, .arr r15]]))) := (jden_eq E 44 [] [4, 1, 0, 1, 1, 4, 0, 1, 5, 4, 1, 0, 1, 1, 1] _ _).trans (by kernel_rfl)
/-! ### ramet/rametref02.CopyLists (function 45) -/
noncomputable def ref02_CopyLists.L0 (x0 : FV) (x1 : FV) (r2 : List (List FV)) : R := jden E 45 [] [4, 1, 0, 1, 1] (mkF 21 [(0, .f x0), (3, .ref 0), (4, .f x1)]) [.own 1 r2]
theorem ref02_CopyLists.eq (x0 : FV) : ref02_CopyLists x0 = (
  ref02_CopyLists.L0 x0 (.int .i64 0) []) := (den_eq E 45 [x0]).trans (by kernel_rfl)
theorem ref02_CopyLists.L0_eq (x0 : FV) (x1 : FV) (r2 : List (List FV)) : ref02_CopyLists.L0 x0 x1 r2 = (
  bindO (fLen x0) fun v4 =>
  bindO (fBin .lss x1 v4) fun v5 =>
  fCond v5
  (bindO (fIdxC 1 x0 x1) fun c6 =>
  bindO (c6[0]?) fun v7 =>
  bindO (asRows v7) fun r8 =>
  gB (rowsSz 1 r8) <|
  gB (decide ((0 + r8.length) * 8 ≤ room)) <|
  gB (decide ((r2.length + 1) * 24 ≤ room)) <|
  bindO (fBin .add x1 (.int .i64 1)) fun v9 =>
  ref02_CopyLists.L0 x0 v9 (r2 ++ [[.arr ([] ++ r8)]]))
  (some (.arr r2))) := (jden_eq E 45 [] [4, 1, 0, 1, 1] _ _).trans (by kernel_rfl)
/-! ### ramet/rametlaw02.MachAnyOrder (function 12) -/
noncomputable def law02_MachAnyOrder.L0 (x0 : FV) (x1 : FV) (x2 : FV) (x3 : FV) (x4 : FV) (x5 : FV) (x6 : FV) (x7 : FV) (x8 : FV) (x9 : FV) (x10 : FV) (x11 : FV) (x12 : FV) (x13 : FV) (r14 : List (List FV)) (r15 : List (List FV)) (r16 : List (List FV)) (r17 : List (List FV)) (r18 : List (List FV)) : R := jden E 12 [] [4, 1, 0, 1, 1, 1, 1, 1, 1] (mkF 206 [(1, .f x0), (3, .ptr 0 0 0), (5, .ptr 1 0 0), (8, .ptr 2 0 0), (9, .ptr 3 0 0), (10, .f x1), (11, .ref 4), (12, .f x2)]) [.box [.f x3, .f x4], .box [.f x5, .f x6, .f x7], .box [.f x8, .f x9, .f x10, .f x11, .f x12], .box [.f x13, .ref 5, .ref 6, .ref 7, .ref 8], .own 1 r14, .own 2 r15, .own 6 r16, .own 2 r17, .own 2 r18]
noncomputable def law02_MachAnyOrder.L1 (x0 : FV) (x1 : FV) (x2 : FV) (x3 : FV) (x4 : FV) (x5 : FV) (x6 : FV) (x7 : FV) (x8 : FV) (x9 : FV) (x10 : FV) (x11 : FV) (x12 : FV) (x13 : FV) (x14 : FV) (r15 : List (List FV)) (r16 : List (List FV)) (r17 : List (List FV)) (r18 : List (List FV)) (r19 : List (List FV)) : R := jden E 12 [] [4, 1, 0, 1, 1, 1, 1, 1, 1, 1, 1] (mkF 206 [(1, .f x0), (3, .ptr 0 0 0), (5, .ptr 1 0 0), (8, .ptr 2 0 0), (9, .ptr 3 0 0), (11, .f x1), (13, .f x2), (14, .f x3)]) [.box [.f x4, .f x5], .box [.f x6, .f x7, .f x8], .box [.f x9, .f x10, .f x11, .f x12, .f x13], .box [.f x14, .ref 5, .ref 9, .ref 7, .ref 8], .fz r15, .own 2 r16, .dead, .own 2 r17, .own 2 r18, .own 6 r19]
noncomputable def law02_MachAnyOrder.L2 (x0 : FV) (x1 : FV) (x2 : FV) (x3 : FV) (x4 : FV) (x5 : FV) (x6 : FV) (x7 : FV) (x8 : FV) (x9 : FV) (x10 : FV) (x11 : FV) (x12 : FV) (x13 : FV) (r14 : List (List FV)) (r15 : List (List FV)) (r16 : List (List FV)) (r17 : List (List FV)) (r18 : List (List FV)) : R := jden E 12 [] [4, 1, 0, 1, 1, 1, 1, 1, 1, 1, 1, 1] (mkF 206 [(1, .f x0), (3, .ptr 0 0 0), (5, .ptr 1 0 0), (8, .ptr 2 0 0), (9, .ptr 3 0 0), (11, .f x1), (16, .f x2)]) [.box [.f x3, .f x4], .box [.f x5, .f x6, .f x7], .box [.f x8, .f x9, .f x10, .f x11, .f x12], .box [.f x13, .ref 5, .ref 9, .ref 10, .ref 8], .fz r14, .own 2 r15, .dead, .dead, .own 2 r16, .own 6 r17, .own 2 r18]
noncomputable def law02_MachAnyOrder.L3 (x0 : FV) (x1 : FV) (x2 : FV) (x3 : FV) (x4 : FV) (x5 : FV) (x6 : FV) (x7 : FV) (x8 : FV) (x9 : FV) (x10 : FV) (x11 : FV) (x12 : FV) (x13 : FV) (r14 : List (List FV)) (r15 : List (List FV)) (r16 : List (List FV)) (r17 : List (List FV)) (r18 : List (List FV)) : R := jden E 12 [] [4, 1, 0, 1, 1, 1, 1, 1, 1, 1, 1, 1, 1] (mkF 206 [(1, .f x0), (3, .ptr 0 0 0), (5, .ptr 1 0 0), (8, .ptr 2 0 0), (9, .ptr 3 0 0), (11, .f x1), (17, .f x2)]) [.box [.f x3, .f x4], .box [.f x5, .f x6, .f x7], .box [.f x8, .f x9, .f x10, .f x11, .f x12], .box [.f x13, .ref 5, .ref 9, .ref 10, .ref 11], .fz r14, .own 2 r15, .dead, .dead, .dead, .own 6 r16, .own 2 r17, .own 2 r18]
theorem law02_MachAnyOrder.eq (x0 x1 x2 : FV) : law02_MachAnyOrder x0 x1 x2 = (
  gB (fIsAgg 2 x0) <|
  gB (fIsAgg 3 x2) <|
  bindO (ref02_CheckNet (.agg [(fCell x0 0), (fCell x0 1)]) x1) fun v1 =>
  bindO (fBin .neq v1 (.int .i64 0)) fun v2 =>
  fCond v2
  (bindO (mach_CheckNet (.agg [(fCell x0 0), (fCell x0 1)]) x1) fun v3 =>
  bindO (fBin .eql v3 v1) fun v4 =>
  some v4)
  (bindO (fIdxC 5 (fCell x0 1) x1) fun c5 =>
  bindO (c5[0]?) fun v6 =>
  bindO (c5[1]?) fun v7 =>
  bindO (c5[2]?) fun v8 =>
  bindO (c5[3]?) fun v9 =>
  bindO (c5[4]?) fun v10 =>
  bindO (fLen v7) fun v11 =>
  bindO (law02_turned v11 (fCell x2 1)) fun v12 =>
  bindO (fLen v7) fun v13 =>
  bindO (asNat v13) fun j14 =>
  bindO (asNat v13) fun j15 =>
  gB (j14 ≤ j15 && j15 * 8 ≤ room && 1 ≥ 1) <|
  law02_MachAnyOrder.L0 x1 v12 (.int .i64 0) (fCell x0 0) (fCell x0 1) (fCell x2 0) (fCell x2 1) (fCell x2 2) v6 v7 v8 v9 v10 v6 (List.replicate j14 [(.int .i64 0 : FV)]) [] [] [] [])) := (den_eq E 12 [x0, x1, x2]).trans (by kernel_rfl)
theorem law02_MachAnyOrder.L0_eq (x0 : FV) (x1 : FV) (x2 : FV) (x3 : FV) (x4 : FV) (x5 : FV) (x6 : FV) (x7 : FV) (x8 : FV) (x9 : FV) (x10 : FV) (x11 : FV) (x12 : FV) (x13 : FV) (r14 : List (List FV)) (r15 : List (List FV)) (r16 : List (List FV)) (r17 : List (List FV)) (r18 : List (List FV)) : law02_MachAnyOrder.L0 x0 x1 x2 x3 x4 x5 x6 x7 x8 x9 x10 x11 x12 x13 r14 r15 r16 r17 r18 = (
  bindO (fLen x1) fun v20 =>
  bindO (fBin .lss x2 v20) fun v21 =>
  fCond v21
  (bindO (fIdxC 1 x1 x2) fun c22 =>
  bindO (c22[0]?) fun v23 =>
  bindO (fIdxC 2 x9 v23) fun c24 =>
  bindO (c24[0]?) fun v25 =>
  bindO (c24[1]?) fun v26 =>
  gB (decide ((r15.length + 1) * 24 ≤ room)) <|
  bindO (fIdxC 1 x1 x2) fun c27 =>
  bindO (c27[0]?) fun v28 =>
  bindO (rIdx r14 v28) fun j29 =>
  bindO (rSet r14 j29 0 [x2]) fun r30 =>
  bindO (fBin .add x2 (.int .i64 1)) fun v31 =>
  law02_MachAnyOrder.L0 x0 x1 v31 x3 x4 x5 x6 x7 x8 x9 x10 x11 x12 x13 r30 (r15 ++ [[v25, v26]]) r16 r17 r18)
  (bindO (fLen x10) fun v32 =>
  bindO (law02_turned v32 x7) fun v33 =>
  law02_MachAnyOrder.L1 x0 (.arr r14) v33 (.int .i64 0) x3 x4 x5 x6 x7 x8 x9 x10 x11 x12 x13 r14 r15 r17 r18 r16)) := (jden_eq E 12 [] [4, 1, 0, 1, 1, 1, 1, 1, 1] _ _).trans (by kernel_rfl)
theorem law02_MachAnyOrder.L1_eq (x0 : FV) (x1 : FV) (x2 : FV) (x3 : FV) (x4 : FV) (x5 : FV) (x6 : FV) (x7 : FV) (x8 : FV) (x9 : FV) (x10 : FV) (x11 : FV) (x12 : FV) (x13 : FV) (x14 : FV) (r15 : List (List FV)) (r16 : List (List FV)) (r17 : List (List FV)) (r18 : List (List FV)) (r19 : List (List FV)) : law02_MachAnyOrder.L1 x0 x1 x2 x3 x4 x5 x6 x7 x8 x9 x10 x11 x12 x13 x14 r15 r16 r17 r18 r19 = (
  bindO (fLen x2) fun v21 =>
  bindO (fBin .lss x3 v21) fun v22 =>
  fCond v22
  (bindO (fIdxC 1 x2 x3) fun c23 =>
  bindO (c23[0]?) fun v24 =>
  bindO (fIdxC 6 x11 v24) fun c25 =>
  bindO (c25[0]?) fun v26 =>
  bindO (c25[1]?) fun v27 =>
  bindO (c25[2]?) fun v28 =>
  bindO (c25[3]?) fun v29 =>
  bindO (c25[4]?) fun v30 =>
  bindO (c25[5]?) fun v31 =>
  bindO (law02_moved (.agg [v26, v27]) x1) fun v32 =>
  gB (fIsAgg 2 v32) <|
  bindO (law02_moved (.agg [v28, v29]) x1) fun v33 =>
  gB (fIsAgg 2 v33) <|
  gB (decide ((r19.length + 1) * 64 ≤ room)) <|
  bindO (fBin .add x3 (.int .i64 1)) fun v34 =>
  law02_MachAnyOrder.L1 x0 x1 x2 v34 x4 x5 x6 x7 x8 x9 x10 x11 x12 x13 x14 r15 r16 r17 r18 (r19 ++ [[(fCell v32 0), (fCell v32 1), (fCell v33 0), (fCell v33 1), v30, v31]]))
  (law02_MachAnyOrder.L2 x0 x1 (.int .i64 0) x4 x5 x6 x7 x8 x9 x10 x11 x12 x13 x14 r15 r16 r18 r19 r17)) := (jden_eq E 12 [] [4, 1, 0, 1, 1, 1, 1, 1, 1, 1, 1] _ _).trans (by kernel_rfl)
theorem law02_MachAnyOrder.L2_eq (x0 : FV) (x1 : FV) (x2 : FV) (x3 : FV) (x4 : FV) (x5 : FV) (x6 : FV) (x7 : FV) (x8 : FV) (x9 : FV) (x10 : FV) (x11 : FV) (x12 : FV) (x13 : FV) (r14 : List (List FV)) (r15 : List (List FV)) (r16 : List (List FV)) (r17 : List (List FV)) (r18 : List (List FV)) : law02_MachAnyOrder.L2 x0 x1 x2 x3 x4 x5 x6 x7 x8 x9 x10 x11 x12 x13 r14 r15 r16 r17 r18 = (
  bindO (fLen x11) fun v20 =>
  bindO (fBin .lss x2 v20) fun v21 =>
  fCond v21
  (bindO (fIdxC 2 x11 x2) fun c22 =>
  bindO (c22[0]?) fun v23 =>
  bindO (c22[1]?) fun v24 =>
  bindO (law02_moved (.agg [v23, v24]) x1) fun v25 =>
  gB (fIsAgg 2 v25) <|
  gB (decide ((r18.length + 1) * 16 ≤ room)) <|
  bindO (fBin .add x2 (.int .i64 1)) fun v26 =>
  law02_MachAnyOrder.L2 x0 x1 v26 x3 x4 x5 x6 x7 x8 x9 x10 x11 x12 x13 r14 r15 r16 r17 (r18 ++ [[(fCell v25 0), (fCell v25 1)]]))
  (law02_MachAnyOrder.L3 x0 x1 (.int .i64 0) x3 x4 x5 x6 x7 x8 x9 x10 x11 x12 x13 r14 r15 r17 r18 r16)) := (jden_eq E 12 [] [4, 1, 0, 1, 1, 1, 1, 1, 1, 1, 1, 1] _ _).trans (by kernel_rfl)
theorem law02_MachAnyOrder.L3_eq (x0 : FV) (x1 : FV) (x2 : FV) (x3 : FV) (x4 : FV) (x5 : FV) (x6 : FV) (x7 : FV) (x8 : FV) (x9 : FV) (x10 : FV) (x11 : FV) (x12 : FV) (x13 : FV) (r14 : List (List FV)) (r15 : List (List FV)) (r16 : List (List FV)) (r17 : List (List FV)) (r18 : List (List FV)) : law02_MachAnyOrder.L3 x0 x1 x2 x3 x4 x5 x6 x7 x8 x9 x10 x11 x12 x13 r14 r15 r16 r17 r18 = (
  bindO (fLen x12) fun v20 =>
  bindO (fBin .lss x2 v20) fun v21 =>
  fCond v21
  (bindO (fIdxC 2 x12 x2) fun c22 =>
  bindO (c22[0]?) fun v23 =>
  bindO (c22[1]?) fun v24 =>
  bindO (law02_moved (.agg [v23, v24]) x1) fun v25 =>
  gB (fIsAgg 2 v25) <|
  gB (decide ((r18.length + 1) * 16 ≤ room)) <|
  bindO (fBin .add x2 (.int .i64 1)) fun v26 =>
  law02_MachAnyOrder.L3 x0 x1 v26 x3 x4 x5 x6 x7 x8 x9 x10 x11 x12 x13 r14 r15 r16 r17 (r18 ++ [[(fCell v25 0), (fCell v25 1)]]))
  (bindO (ref02_RunNet (.agg [x3, x4]) x0 x5) fun v27 =>
  gB (fIsTup 2 v27) <|
  bindO (ref02_CopyBook (.agg [x3, x4])) fun v28 =>
  gB (fIsAgg 2 v28) <|
  bindO (ref02_CopyLists x5) fun v29 =>
  bindO (mach_RunNet (.agg [(fCell v28 0), (fCell v28 1)]) x0 v29) fun v30 =>
  gB (fIsTup 2 v30) <|
  bindO (mach_RunNet (.agg [x3, .arr [[x13, .arr r15, .arr r16, .arr r17, .arr r18]]]) (.int .i64 0) x5) fun v31 =>
  gB (fIsTup 2 v31) <|
  bindO (fBin .eql (fTup v30 1) (fTup v27 1)) fun v32 =>
  fCond v32
  (bindO (fBin .eql (fTup v30 1) (fTup v31 1)) fun v33 =>
  fCond v33
  (bindO (ref02_SameLists (fTup v30 0) (fTup v31 0)) fun v34 =>
  fCond v34
  (bindO (fBin .neq (fTup v30 1) (.int .i64 0)) fun v35 =>
  fCond v35
  (some (.bool true))
  (bindO (fLen (fTup v30 0)) fun v36 =>
  bindO (fLen x5) fun v37 =>
  bindO (fBin .eql v36 v37) fun v38 =>
  some v38))
  (some (.bool false)))
  (some (.bool false)))
  (some (.bool false)))) := (jden_eq E 12 [] [4, 1, 0, 1, 1, 1, 1, 1, 1, 1, 1, 1, 1] _ _).trans (by kernel_rfl)
end Go.Proofs.Ytelcbakleaaneaa
