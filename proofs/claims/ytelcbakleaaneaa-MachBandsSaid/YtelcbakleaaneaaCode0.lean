/- The code of the functions, as the abstract machine runs it. -/
import Derived.Test.YtelcbakleaaneaaEnv
import Derived.KernelRfl
namespace Go.Proofs.Ytelcbakleaaneaa
open Go Go.Proofs.Ytelcbakleaaneaa.VM
set_option linter.unusedVariables false
/-! ### ramet/rametref02.sameInts (function 55) -/
noncomputable def ref02_sameInts.L0 (x0 : FV) (x1 : FV) (x2 : FV) : R := jden E 55 [] [4, 1, 0, 1, 1] (mkF 26 [(0, .f x0), (1, .f x1), (5, .f x2)]) []
theorem ref02_sameInts.eq (x0 x1 : FV) : ref02_sameInts x0 x1 = (
  bindO (fLen x0) fun v1 =>
  bindO (fLen x1) fun v2 =>
  bindO (fBin .neq v1 v2) fun v3 =>
  fCond v3
  (some (.bool false))
  (ref02_sameInts.L0 x0 x1 (.int .i64 0))) := (den_eq E 55 [x0, x1]).trans (by kernel_rfl)
theorem ref02_sameInts.L0_eq (x0 : FV) (x1 : FV) (x2 : FV) : ref02_sameInts.L0 x0 x1 x2 = (
  bindO (fLen x0) fun v4 =>
  bindO (fBin .lss x2 v4) fun v5 =>
  fCond v5
  (bindO (fIdxC 1 x0 x2) fun c6 =>
  bindO (c6[0]?) fun v7 =>
  bindO (fIdxC 1 x1 x2) fun c8 =>
  bindO (c8[0]?) fun v9 =>
  bindO (fBin .neq v7 v9) fun v10 =>
  fCond v10
  (some (.bool false))
  (bindO (fBin .add x2 (.int .i64 1)) fun v11 =>
  ref02_sameInts.L0 x0 x1 v11))
  (some (.bool true))) := (jden_eq E 55 [] [4, 1, 0, 1, 1] _ _).trans (by kernel_rfl)
/-! ### ramet/rametref02.SameLists (function 16) -/
noncomputable def ref02_SameLists.L0 (x0 : FV) (x1 : FV) (x2 : FV) : R := jden E 16 [] [4, 1, 0, 1, 1] (mkF 27 [(0, .f x0), (1, .f x1), (5, .f x2)]) []
theorem ref02_SameLists.eq (x0 x1 : FV) : ref02_SameLists x0 x1 = (
  bindO (fLen x0) fun v1 =>
  bindO (fLen x1) fun v2 =>
  bindO (fBin .neq v1 v2) fun v3 =>
  fCond v3
  (some (.bool false))
  (ref02_SameLists.L0 x0 x1 (.int .i64 0))) := (den_eq E 16 [x0, x1]).trans (by kernel_rfl)
theorem ref02_SameLists.L0_eq (x0 : FV) (x1 : FV) (x2 : FV) : ref02_SameLists.L0 x0 x1 x2 = (
  bindO (fLen x0) fun v4 =>
  bindO (fBin .lss x2 v4) fun v5 =>
  fCond v5
  (bindO (fIdxC 1 x0 x2) fun c6 =>
  bindO (c6[0]?) fun v7 =>
  bindO (fIdxC 1 x1 x2) fun c8 =>
  bindO (c8[0]?) fun v9 =>
  bindO (ref02_sameInts v7 v9) fun v10 =>
  bindO (fUn .not v10) fun v11 =>
  fCond v11
  (some (.bool false))
  (bindO (fBin .add x2 (.int .i64 1)) fun v12 =>
  ref02_SameLists.L0 x0 x1 v12))
  (some (.bool true))) := (jden_eq E 16 [] [4, 1, 0, 1, 1] _ _).trans (by kernel_rfl)
/-! ### ramet/rametref02.right (function 56) -/
noncomputable def ref02_right.L0 (x0 : FV) (x1 : FV) (x2 : FV) : R := jden E 56 [] [4, 1, 0, 1, 1] (mkF 35 [(0, .f x0), (1, .f x1), (5, .f x2)]) []
theorem ref02_right.eq (x0 x1 : FV) : ref02_right x0 x1 = (
  bindO (fLen x1) fun v1 =>
  bindO (fLen x0) fun v2 =>
  bindO (fBin .neq v1 v2) fun v3 =>
  fCond v3
  (some (.bool false))
  (ref02_right.L0 x0 x1 (.int .i64 0))) := (den_eq E 56 [x0, x1]).trans (by kernel_rfl)
theorem ref02_right.L0_eq (x0 : FV) (x1 : FV) (x2 : FV) : ref02_right.L0 x0 x1 x2 = (
  bindO (fLen x0) fun v4 =>
  bindO (fBin .lss x2 v4) fun v5 =>
  fCond v5
  (bindO (fIdxC 1 x1 x2) fun c6 =>
  bindO (c6[0]?) fun v7 =>
  bindO (fBin .lss v7 (.int .i64 0)) fun v8 =>
  fCond v8
  (some (.bool false))
  (bindO (fIdxC 1 x1 x2) fun c9 =>
  bindO (c9[0]?) fun v10 =>
  bindO (fIdxC 2 x0 x2) fun c11 =>
  bindO (c11[1]?) fun v12 =>
  bindO (fLen v12) fun v13 =>
  bindO (fBin .geq v10 v13) fun v14 =>
  fCond v14
  (some (.bool false))
  (bindO (fBin .add x2 (.int .i64 1)) fun v15 =>
  ref02_right.L0 x0 x1 v15)))
  (some (.bool true))) := (jden_eq E 56 [] [4, 1, 0, 1, 1] _ _).trans (by kernel_rfl)
/-! ### ramet/rametref02.IsName (function 76) -/
noncomputable def ref02_IsName.L0 (x0 : FV) (x1 : FV) : R := jden E 76 [] [4, 1, 0, 1] (mkF 45 [(0, .f x0), (3, .f x1)]) []
theorem ref02_IsName.eq (x0 : FV) : ref02_IsName x0 = (
  ref02_IsName.L0 x0 (.int .i64 0)) := (den_eq E 76 [x0]).trans (by kernel_rfl)
theorem ref02_IsName.L0_eq (x0 : FV) (x1 : FV) : ref02_IsName.L0 x0 x1 = (
  bindO (fLenT x0) fun v3 =>
  bindO (fBin .lss x1 v3) fun v4 =>
  fCond v4
  (bindO (fByte x0 x1) fun v5 =>
  bindO (fBin .geq v5 (.int .u8 97)) fun v6 =>
  fCond v6
  (bindO (fBin .leq v5 (.int .u8 122)) fun v7 =>
  fCond v7
  (bindO (fUn .not (.bool true)) fun v8 =>
  fCond v8
  (some (.bool false))
  (bindO (fBin .add x1 (.int .i64 1)) fun v9 =>
  ref02_IsName.L0 x0 v9))
  (bindO (fBin .geq v5 (.int .u8 65)) fun v10 =>
  fCond v10
  (bindO (fBin .leq v5 (.int .u8 90)) fun v11 =>
  fCond v11
  (bindO (fUn .not (.bool true)) fun v12 =>
  fCond v12
  (some (.bool false))
  (bindO (fBin .add x1 (.int .i64 1)) fun v13 =>
  ref02_IsName.L0 x0 v13))
  (bindO (fBin .geq v5 (.int .u8 48)) fun v14 =>
  fCond v14
  (bindO (fBin .leq v5 (.int .u8 57)) fun v15 =>
  bindO (fUn .not v15) fun v16 =>
  fCond v16
  (some (.bool false))
  (bindO (fBin .add x1 (.int .i64 1)) fun v17 =>
  ref02_IsName.L0 x0 v17))
  (bindO (fUn .not (.bool false)) fun v18 =>
  fCond v18
  (some (.bool false))
  (bindO (fBin .add x1 (.int .i64 1)) fun v19 =>
  ref02_IsName.L0 x0 v19))))
  (bindO (fBin .geq v5 (.int .u8 48)) fun v20 =>
  fCond v20
  (bindO (fBin .leq v5 (.int .u8 57)) fun v21 =>
  bindO (fUn .not v21) fun v22 =>
  fCond v22
  (some (.bool false))
  (bindO (fBin .add x1 (.int .i64 1)) fun v23 =>
  ref02_IsName.L0 x0 v23))
  (bindO (fUn .not (.bool false)) fun v24 =>
  fCond v24
  (some (.bool false))
  (bindO (fBin .add x1 (.int .i64 1)) fun v25 =>
  ref02_IsName.L0 x0 v25)))))
  (bindO (fBin .geq v5 (.int .u8 65)) fun v26 =>
  fCond v26
  (bindO (fBin .leq v5 (.int .u8 90)) fun v27 =>
  fCond v27
  (bindO (fUn .not (.bool true)) fun v28 =>
  fCond v28
  (some (.bool false))
  (bindO (fBin .add x1 (.int .i64 1)) fun v29 =>
  ref02_IsName.L0 x0 v29))
  (bindO (fBin .geq v5 (.int .u8 48)) fun v30 =>
  fCond v30
  (bindO (fBin .leq v5 (.int .u8 57)) fun v31 =>
  bindO (fUn .not v31) fun v32 =>
  fCond v32
  (some (.bool false))
  (bindO (fBin .add x1 (.int .i64 1)) fun v33 =>
  ref02_IsName.L0 x0 v33))
  (bindO (fUn .not (.bool false)) fun v34 =>
  fCond v34
  (some (.bool false))
  (bindO (fBin .add x1 (.int .i64 1)) fun v35 =>
  ref02_IsName.L0 x0 v35))))
  (bindO (fBin .geq v5 (.int .u8 48)) fun v36 =>
  fCond v36
  (bindO (fBin .leq v5 (.int .u8 57)) fun v37 =>
  bindO (fUn .not v37) fun v38 =>
  fCond v38
  (some (.bool false))
  (bindO (fBin .add x1 (.int .i64 1)) fun v39 =>
  ref02_IsName.L0 x0 v39))
  (bindO (fUn .not (.bool false)) fun v40 =>
  fCond v40
  (some (.bool false))
  (bindO (fBin .add x1 (.int .i64 1)) fun v41 =>
  ref02_IsName.L0 x0 v41)))))
  (bindO (fLenT x0) fun v42 =>
  bindO (fBin .geq v42 (.int .i64 1)) fun v43 =>
  fCond v43
  (bindO (fLenT x0) fun v44 =>
  bindO (fBin .leq v44 (.int .i64 16)) fun v45 =>
  some v45)
  (some (.bool false)))) := (jden_eq E 76 [] [4, 1, 0, 1] _ _).trans (by kernel_rfl)
/-! ### ramet/rametref02.place (function 141) -/
noncomputable def ref02_place.L0 (x0 : FV) (x1 : FV) (x2 : FV) : R := jden E 141 [] [4, 1, 0, 1] (mkF 19 [(0, .f x0), (1, .f x1), (5, .f x2)]) []
theorem ref02_place.eq (x0 x1 : FV) : ref02_place x0 x1 = (
  ref02_place.L0 x0 x1 (.int .i64 0)) := (den_eq E 141 [x0, x1]).trans (by kernel_rfl)
theorem ref02_place.L0_eq (x0 : FV) (x1 : FV) (x2 : FV) : ref02_place.L0 x0 x1 x2 = (
  bindO (fLen x0) fun v4 =>
  bindO (fBin .lss x2 v4) fun v5 =>
  fCond v5
  (bindO (fIdxC 1 x0 x2) fun c6 =>
  bindO (c6[0]?) fun v7 =>
  bindO (fBin .eql v7 x1) fun v8 =>
  fCond v8
  (some x2)
  (bindO (fBin .add x2 (.int .i64 1)) fun v9 =>
  ref02_place.L0 x0 x1 v9))
  (some (.int .i64 (-1)))) := (jden_eq E 141 [] [4, 1, 0, 1] _ _).trans (by kernel_rfl)
/-! ### ramet/rametref02.checkNames (function 77) -/
noncomputable def ref02_checkNames.L0 (x0 : FV) (x1 : FV) : R := jden E 77 [] [4, 1, 0, 1] (mkF 25 [(0, .f x0), (3, .f x1)]) []
theorem ref02_checkNames.eq (x0 : FV) : ref02_checkNames x0 = (
  ref02_checkNames.L0 x0 (.int .i64 0)) := (den_eq E 77 [x0]).trans (by kernel_rfl)
theorem ref02_checkNames.L0_eq (x0 : FV) (x1 : FV) : ref02_checkNames.L0 x0 x1 = (
  bindO (fLen x0) fun v3 =>
  bindO (fBin .lss x1 v3) fun v4 =>
  fCond v4
  (bindO (fIdxC 1 x0 x1) fun c5 =>
  bindO (c5[0]?) fun v6 =>
  bindO (ref02_IsName v6) fun v7 =>
  bindO (fUn .not v7) fun v8 =>
  fCond v8
  (some (.int .i64 21))
  (bindO (fCut 1 x0 none (some x1)) fun v9 =>
  bindO (fIdxC 1 x0 x1) fun c10 =>
  bindO (c10[0]?) fun v11 =>
  bindO (ref02_place v9 v11) fun v12 =>
  bindO (fBin .geq v12 (.int .i64 0)) fun v13 =>
  fCond v13
  (some (.int .i64 22))
  (bindO (fBin .add x1 (.int .i64 1)) fun v14 =>
  ref02_checkNames.L0 x0 v14)))
  (some (.int .i64 0))) := (jden_eq E 77 [] [4, 1, 0, 1] _ _).trans (by kernel_rfl)
/-! ### ramet/rametref02.portAt (function 78) -/
noncomputable def ref02_portAt.L0 (x0 : FV) (x1 : FV) (x2 : FV) : R := jden E 78 [] [4, 1, 0, 1] (mkF 20 [(0, .f x0), (1, .f x1), (5, .f x2)]) []
theorem ref02_portAt.eq (x0 x1 : FV) : ref02_portAt x0 x1 = (
  ref02_portAt.L0 x0 x1 (.int .i64 0)) := (den_eq E 78 [x0, x1]).trans (by kernel_rfl)
theorem ref02_portAt.L0_eq (x0 : FV) (x1 : FV) (x2 : FV) : ref02_portAt.L0 x0 x1 x2 = (
  bindO (fLen x0) fun v4 =>
  bindO (fBin .lss x2 v4) fun v5 =>
  fCond v5
  (bindO (fIdxC 2 x0 x2) fun c6 =>
  bindO (c6[0]?) fun v7 =>
  bindO (fBin .eql v7 x1) fun v8 =>
  fCond v8
  (some x2)
  (bindO (fBin .add x2 (.int .i64 1)) fun v9 =>
  ref02_portAt.L0 x0 x1 v9))
  (some (.int .i64 (-1)))) := (jden_eq E 78 [] [4, 1, 0, 1] _ _).trans (by kernel_rfl)
/-! ### ramet/rametref02.product (function 79) -/
noncomputable def ref02_product.L0 (x0 : FV) (x1 : FV) (x2 : FV) : R := jden E 79 [] [4, 1, 0, 1, 1] (mkF 21 [(0, .f x0), (3, .f x1), (4, .f x2)]) []
theorem ref02_product.eq (x0 : FV) : ref02_product x0 = (
  ref02_product.L0 x0 (.int .i64 1) (.int .i64 0)) := (den_eq E 79 [x0]).trans (by kernel_rfl)
theorem ref02_product.L0_eq (x0 : FV) (x1 : FV) (x2 : FV) : ref02_product.L0 x0 x1 x2 = (
  bindO (fLen x0) fun v4 =>
  bindO (fBin .lss x2 v4) fun v5 =>
  fCond v5
  (bindO (fIdxC 2 x0 x2) fun c6 =>
  bindO (c6[1]?) fun v7 =>
  bindO (fLen v7) fun v8 =>
  bindO (fBin .mul x1 v8) fun v9 =>
  bindO (fMinMax false v9 (.int .i64 2097152)) fun v10 =>
  bindO (fBin .add x2 (.int .i64 1)) fun v11 =>
  ref02_product.L0 x0 v10 v11)
  (some x1)) := (jden_eq E 79 [] [4, 1, 0, 1, 1] _ _).trans (by kernel_rfl)
/-! ### ramet/rametref02.Check (function 27) -/
noncomputable def ref02_Check.L0 (x0 : FV) (x1 : FV) (x2 : FV) (x3 : FV) (x4 : FV) (x5 : FV) : R := jden E 27 [] [1, 1] (mkF 161 [(1, .ptr 0 0 0)]) [.box [.f x0, .f x1, .f x2, .f x3, .f x4, .f x5]]
noncomputable def ref02_Check.L1 (x0 : FV) (x1 : FV) (x2 : FV) (x3 : FV) (x4 : FV) (x5 : FV) : R := jden E 27 [] [1, 1, 1, 1] (mkF 161 [(1, .ptr 0 0 0)]) [.box [.f x0, .f x1, .f x2, .f x3, .f x4, .f x5]]
noncomputable def ref02_Check.L2 (x0 : FV) (x1 : FV) (x2 : FV) (x3 : FV) (x4 : FV) (x5 : FV) (x6 : FV) (x7 : FV) (r8 : List (List FV)) : R := jden E 27 [] [4, 1, 0, 1, 1, 1, 1, 1, 1] (mkF 161 [(1, .ptr 0 0 0), (4, .f x0), (5, .f x1)]) [.box [.f x2, .f x3, .f x4, .f x5, .f x6, .f x7], .dead, .dead, .fz r8]
noncomputable def ref02_Check.L3 (x0 : FV) (x1 : FV) (x2 : FV) (x3 : FV) (x4 : FV) (x5 : FV) (x6 : FV) (x7 : FV) (r8 : List (List FV)) : R := jden E 27 [] [1, 1, 4, 0, 1, 5, 4, 1, 0, 1, 1, 1, 1, 1, 1] (mkF 161 [(1, .ptr 0 0 0), (4, .f x0), (5, .f x1)]) [.box [.f x2, .f x3, .f x4, .f x5, .f x6, .f x7], .dead, .dead, .fz r8]
noncomputable def ref02_Check.L4 (x0 : FV) (x1 : FV) (x2 : FV) (x3 : FV) (x4 : FV) (x5 : FV) (r6 : List (List FV)) : R := jden E 27 [] [1, 1, 1, 1, 1, 1, 1] (mkF 161 [(1, .ptr 0 0 0)]) [.box [.f x0, .f x1, .f x2, .f x3, .f x4, .f x5], .dead, .dead, .fz r6]
noncomputable def ref02_Check.L5 (x0 : FV) (x1 : FV) (x2 : FV) (x3 : FV) (x4 : FV) (x5 : FV) (x6 : FV) (r7 : List (List FV)) : R := jden E 27 [] [4, 1, 0, 1, 1, 1, 1, 1, 1, 1, 1, 1, 1, 1] (mkF 161 [(1, .ptr 0 0 0), (8, .f x0)]) [.box [.f x1, .f x2, .f x3, .f x4, .f x5, .f x6], .dead, .dead, .fz r7]
theorem ref02_Check.eq (x0 : FV) : ref02_Check x0 = (
  gB (fIsAgg 6 x0) <|
  bindO (ref02_IsName (fCell x0 0)) fun v1 =>
  bindO (fUn .not v1) fun v2 =>
  fCond v2
  (some (.int .i64 21))
  (bindO (fLen (fCell x0 1)) fun v3 =>
  bindO (fBin .eql v3 (.int .i64 0)) fun v4 =>
  fCond v4
  (some (.int .i64 26))
  (bindO (fLen (fCell x0 1)) fun v5 =>
  bindO (fBin .gtr v5 (.int .i64 256)) fun v6 =>
  fCond v6
  (some (.int .i64 26))
  (ref02_Check.L0 (fCell x0 0) (fCell x0 1) (fCell x0 2) (fCell x0 3) (fCell x0 4) (fCell x0 5))))) := (den_eq E 27 [x0]).trans (by kernel_rfl)
theorem ref02_Check.L0_eq (x0 : FV) (x1 : FV) (x2 : FV) (x3 : FV) (x4 : FV) (x5 : FV) : ref02_Check.L0 x0 x1 x2 x3 x4 x5 = (
  bindO (ref02_checkNames x1) fun v7 =>
  bindO (fBin .neq v7 (.int .i64 0)) fun v8 =>
  fCond v8
  (some v7)
  (bindO (fLen x3) fun v9 =>
  bindO (fBin .gtr v9 (.int .i64 8)) fun v10 =>
  fCond v10
  (some (.int .i64 26))
  (bindO (fLen x4) fun v11 =>
  bindO (fBin .gtr v11 (.int .i64 8)) fun v12 =>
  fCond v12
  (some (.int .i64 26))
  (ref02_Check.L1 x0 x1 x2 x3 x4 x5)))) := (jden_eq E 27 [] [1, 1] _ _).trans (by kernel_rfl)
theorem ref02_Check.L1_eq (x0 : FV) (x1 : FV) (x2 : FV) (x3 : FV) (x4 : FV) (x5 : FV) : ref02_Check.L1 x0 x1 x2 x3 x4 x5 = (
  bindO (asRows x3) fun r7 =>
  gB (rowsSz 2 r7) <|
  gB (decide ((0 + r7.length) * 40 ≤ room)) <|
  bindO (asRows x4) fun r8 =>
  gB (rowsSz 2 r8) <|
  gB (decide ((([] ++ r7).length + r8.length) * 40 ≤ room)) <|
  ref02_Check.L2 (.arr (([] ++ r7) ++ r8)) (.int .i64 0) x0 x1 x2 x3 x4 x5 (([] ++ r7) ++ r8)) := (jden_eq E 27 [] [1, 1, 1, 1] _ _).trans (by kernel_rfl)
theorem ref02_Check.L2_eq (x0 : FV) (x1 : FV) (x2 : FV) (x3 : FV) (x4 : FV) (x5 : FV) (x6 : FV) (x7 : FV) (r8 : List (List FV)) : ref02_Check.L2 x0 x1 x2 x3 x4 x5 x6 x7 r8 = (
  bindO (fLen x0) fun v10 =>
  bindO (fBin .lss x1 v10) fun v11 =>
  fCond v11
  (bindO (fIdxC 2 x0 x1) fun c12 =>
  bindO (c12[0]?) fun v13 =>
  bindO (ref02_IsName v13) fun v14 =>
  bindO (fUn .not v14) fun v15 =>
  fCond v15
  (some (.int .i64 21))
  (bindO (fCut 2 x0 none (some x1)) fun v16 =>
  bindO (fIdxC 2 x0 x1) fun c17 =>
  bindO (c17[0]?) fun v18 =>
  bindO (ref02_portAt v16 v18) fun v19 =>
  bindO (fBin .geq v19 (.int .i64 0)) fun v20 =>
  fCond v20
  (some (.int .i64 22))
  (bindO (fIdxC 2 x0 x1) fun c21 =>
  bindO (c21[1]?) fun v22 =>
  bindO (fLen v22) fun v23 =>
  bindO (fBin .eql v23 (.int .i64 0)) fun v24 =>
  fCond v24
  (some (.int .i64 26))
  (bindO (fIdxC 2 x0 x1) fun c25 =>
  bindO (c25[1]?) fun v26 =>
  bindO (fLen v26) fun v27 =>
  bindO (fBin .gtr v27 (.int .i64 64)) fun v28 =>
  fCond v28
  (some (.int .i64 26))
  (ref02_Check.L3 x0 x1 x2 x3 x4 x5 x6 x7 r8)))))
  (bindO (fBin .lss x4 (.int .i64 0)) fun v29 =>
  fCond v29
  (some (.int .i64 27))
  (bindO (fLen x3) fun v30 =>
  bindO (fBin .geq x4 v30) fun v31 =>
  fCond v31
  (some (.int .i64 27))
  (ref02_Check.L4 x2 x3 x4 x5 x6 x7 r8)))) := (jden_eq E 27 [] [4, 1, 0, 1, 1, 1, 1, 1, 1] _ _).trans (by kernel_rfl)
theorem ref02_Check.L3_eq (x0 : FV) (x1 : FV) (x2 : FV) (x3 : FV) (x4 : FV) (x5 : FV) (x6 : FV) (x7 : FV) (r8 : List (List FV)) : ref02_Check.L3 x0 x1 x2 x3 x4 x5 x6 x7 r8 = (
  bindO (fIdxC 2 x0 x1) fun c10 =>
  bindO (c10[1]?) fun v11 =>
  bindO (ref02_checkNames v11) fun v12 =>
  bindO (fBin .neq v12 (.int .i64 0)) fun v13 =>
  fCond v13
  (some v12)
  (bindO (fBin .add x1 (.int .i64 1)) fun v14 =>
  ref02_Check.L2 x0 v14 x2 x3 x4 x5 x6 x7 r8)) := (jden_eq E 27 [] [1, 1, 4, 0, 1, 5, 4, 1, 0, 1, 1, 1, 1, 1, 1] _ _).trans (by kernel_rfl)
theorem ref02_Check.L4_eq (x0 : FV) (x1 : FV) (x2 : FV) (x3 : FV) (x4 : FV) (x5 : FV) (r6 : List (List FV)) : ref02_Check.L4 x0 x1 x2 x3 x4 x5 r6 = (
  bindO (ref02_product x3) fun v8 =>
  bindO (fLen x1) fun v9 =>
  bindO (fBin .mul v9 v8) fun v10 =>
  bindO (fBin .gtr v10 (.int .i64 4096)) fun v11 =>
  fCond v11
  (some (.int .i64 26))
  (bindO (fLen x5) fun v12 =>
  bindO (fLen x1) fun v13 =>
  bindO (fBin .mul v13 v8) fun v14 =>
  bindO (fBin .neq v12 v14) fun v15 =>
  fCond v15
  (some (.int .i64 23))
  (ref02_Check.L5 (.int .i64 0) x0 x1 x2 x3 x4 x5 r6))) := (jden_eq E 27 [] [1, 1, 1, 1, 1, 1, 1] _ _).trans (by kernel_rfl)
theorem ref02_Check.L5_eq (x0 : FV) (x1 : FV) (x2 : FV) (x3 : FV) (x4 : FV) (x5 : FV) (x6 : FV) (r7 : List (List FV)) : ref02_Check.L5 x0 x1 x2 x3 x4 x5 x6 r7 = (
  bindO (fLen x6) fun v9 =>
  bindO (fBin .lss x0 v9) fun v10 =>
  fCond v10
  (bindO (fIdxC 2 x6 x0) fun c11 =>
  bindO (c11[0]?) fun v12 =>
  bindO (fBin .lss v12 (.int .i64 0)) fun v13 =>
  fCond v13
  (some (.int .i64 27))
  (bindO (fIdxC 2 x6 x0) fun c14 =>
  bindO (c14[0]?) fun v15 =>
  bindO (fLen x2) fun v16 =>
  bindO (fBin .geq v15 v16) fun v17 =>
  fCond v17
  (some (.int .i64 27))
  (bindO (fIdxC 2 x6 x0) fun c18 =>
  bindO (c18[1]?) fun v19 =>
  bindO (ref02_right x5 v19) fun v20 =>
  bindO (fUn .not v20) fun v21 =>
  fCond v21
  (some (.int .i64 27))
  (bindO (fBin .add x0 (.int .i64 1)) fun v22 =>
  ref02_Check.L5 v22 x1 x2 x3 x4 x5 x6 r7))))
  (some (.int .i64 0))) := (jden_eq E 27 [] [4, 1, 0, 1, 1, 1, 1, 1, 1, 1, 1, 1, 1, 1] _ _).trans (by kernel_rfl)
/-! ### ramet/rametref02.Index (function 139) -/
noncomputable def ref02_Index.L0 (x0 : FV) (x1 : FV) (x2 : FV) (x3 : FV) : R := jden E 139 [] [4, 1, 0, 1, 1] (mkF 27 [(0, .f x0), (1, .f x1), (5, .f x2), (6, .f x3)]) []
theorem ref02_Index.eq (x0 x1 : FV) : ref02_Index x0 x1 = (
  ref02_Index.L0 x0 x1 (.int .i64 0) (.int .i64 0)) := (den_eq E 139 [x0, x1]).trans (by kernel_rfl)
theorem ref02_Index.L0_eq (x0 : FV) (x1 : FV) (x2 : FV) (x3 : FV) : ref02_Index.L0 x0 x1 x2 x3 = (
  bindO (fLen x0) fun v5 =>
  bindO (fBin .lss x3 v5) fun v6 =>
  fCond v6
  (bindO (fIdxC 2 x0 x3) fun c7 =>
  bindO (c7[1]?) fun v8 =>
  bindO (fLen v8) fun v9 =>
  bindO (fBin .mul x2 v9) fun v10 =>
  bindO (fIdxC 1 x1 x3) fun c11 =>
  bindO (c11[0]?) fun v12 =>
  bindO (fBin .add v10 v12) fun v13 =>
  bindO (fBin .add x3 (.int .i64 1)) fun v14 =>
  ref02_Index.L0 x0 x1 v13 v14)
  (some x2)) := (jden_eq E 139 [] [4, 1, 0, 1, 1] _ _).trans (by kernel_rfl)
/-! ### ramet/rametref02.one (function 57) -/
theorem ref02_one.eq (x0 x1 x2 : FV) : ref02_one x0 x1 x2 = (
  gB (fIsAgg 6 x0) <|
  bindO (ref02_product (fCell x0 3)) fun v1 =>
  bindO (fBin .mul x1 v1) fun v2 =>
  bindO (ref02_Index (fCell x0 3) x2) fun v3 =>
  bindO (fBin .add v2 v3) fun v4 =>
  bindO (fIdxC 2 (fCell x0 5) v4) fun c5 =>
  bindO (c5[0]?) fun v6 =>
  bindO (c5[1]?) fun v7 =>
  some (.agg [v6, v7])) := (den_eq E 57 [x0, x1, x2]).trans (by kernel_rfl)
/-! ### ramet/rametref02.Run (function 17) -/
noncomputable def ref02_Run.L0 (x0 : FV) (x1 : FV) (x2 : FV) (x3 : FV) (x4 : FV) (x5 : FV) (x6 : FV) (x7 : FV) (x8 : FV) (r9 : List (List FV)) : R := jden E 17 [] [4, 1, 0, 1, 1, 1, 1, 1] (mkF 54 [(1, .f x0), (2, .ptr 0 0 0), (8, .ref 1), (9, .f x1), (10, .f x2)]) [.box [.f x3, .f x4, .f x5, .f x6, .f x7, .f x8], .own 1 r9]
theorem ref02_Run.eq (x0 x1 : FV) : ref02_Run x0 x1 = (
  gB (fIsAgg 6 x0) <|
  bindO (ref02_Check (.agg [(fCell x0 0), (fCell x0 1), (fCell x0 2), (fCell x0 3), (fCell x0 4), (fCell x0 5)])) fun v1 =>
  bindO (fBin .neq v1 (.int .i64 0)) fun v2 =>
  fCond v2
  (some (.tup [.nilS, .int .i64 0, v1]))
  (bindO (fLen x1) fun v3 =>
  bindO (fBin .gtr v3 (.int .i64 4096)) fun v4 =>
  fCond v4
  (some (.tup [.nilS, .int .i64 0, .int .i64 26]))
  (ref02_Run.L0 x1 (fCell x0 2) (.int .i64 0) (fCell x0 0) (fCell x0 1) (fCell x0 2) (fCell x0 3) (fCell x0 4) (fCell x0 5) []))) := (den_eq E 17 [x0, x1]).trans (by kernel_rfl)
theorem ref02_Run.L0_eq (x0 : FV) (x1 : FV) (x2 : FV) (x3 : FV) (x4 : FV) (x5 : FV) (x6 : FV) (x7 : FV) (x8 : FV) (r9 : List (List FV)) : ref02_Run.L0 x0 x1 x2 x3 x4 x5 x6 x7 x8 r9 = (
  bindO (fLen x0) fun v11 =>
  bindO (fBin .lss x2 v11) fun v12 =>
  fCond v12
  (bindO (fIdxC 1 x0 x2) fun c13 =>
  bindO (c13[0]?) fun v14 =>
  bindO (ref02_right x6 v14) fun v15 =>
  bindO (fUn .not v15) fun v16 =>
  fCond v16
  (some (.tup [.nilS, .int .i64 0, .int .i64 27]))
  (bindO (fIdxC 1 x0 x2) fun c17 =>
  bindO (c17[0]?) fun v18 =>
  bindO (ref02_one (.agg [x3, x4, x5, x6, x7, x8]) x1 v18) fun v19 =>
  gB (fIsAgg 2 v19) <|
  bindO (asRows (fCell v19 1)) fun r20 =>
  gB (rowsSz 1 r20) <|
  gB (decide ((0 + r20.length) * 8 ≤ room)) <|
  gB (decide ((r9.length + 1) * 24 ≤ room)) <|
  bindO (fBin .add x2 (.int .i64 1)) fun v21 =>
  ref02_Run.L0 x0 (fCell v19 0) v21 x3 x4 x5 x6 x7 x8 (r9 ++ [[.arr ([] ++ r20)]])))
  (some (.tup [.arr r9, x1, .int .i64 0]))) := (jden_eq E 17 [] [4, 1, 0, 1, 1, 1, 1, 1] _ _).trans (by kernel_rfl)
/-! ### ramet/mach.fit (function 58) -/
noncomputable def mach_fit.L0 (x0 : FV) (x1 : FV) (x2 : FV) (x3 : FV) : R := jden E 58 [] [4, 1, 0, 1, 1] (mkF 32 [(0, .f x0), (12, .f x1), (13, .f x2), (14, .f x3)]) []
theorem mach_fit.eq (x0 x1 : FV) : mach_fit x0 x1 = (
  bindO (fLen x0) fun v1 =>
  bindO (fLen x1) fun v2 =>
  bindO (fBin .neq v1 v2) fun v3 =>
  fCond v3
  (some (.bool false))
  (bindO (fLen x1) fun v4 =>
  mach_fit.L0 x0 x1 v4 (.int .i64 0))) := (den_eq E 58 [x0, x1]).trans (by kernel_rfl)
theorem mach_fit.L0_eq (x0 : FV) (x1 : FV) (x2 : FV) (x3 : FV) : mach_fit.L0 x0 x1 x2 x3 = (
  bindO (fBin .lss x3 x2) fun v5 =>
  fCond v5
  (bindO (fIdxC 1 x1 x3) fun c6 =>
  bindO (c6[0]?) fun v7 =>
  bindO (fBin .lss v7 (.int .i64 0)) fun v8 =>
  fCond v8
  (some (.bool false))
  (bindO (fIdxC 2 x0 x3) fun c9 =>
  bindO (c9[1]?) fun v10 =>
  bindO (fLen v10) fun v11 =>
  bindO (fBin .geq v7 v11) fun v12 =>
  fCond v12
  (some (.bool false))
  (bindO (fBin .add x3 (.int .i64 1)) fun v13 =>
  mach_fit.L0 x0 x1 x2 v13)))
  (some (.bool true))) := (jden_eq E 58 [] [4, 1, 0, 1, 1] _ _).trans (by kernel_rfl)
/-! ### ramet/mach.product (function 59) -/
noncomputable def mach_product.L0 (x0 : FV) (x1 : FV) (x2 : FV) (x3 : FV) : R := jden E 59 [] [4, 1, 0, 1, 1] (mkF 21 [(3, .f x0), (6, .f x1), (7, .f x2), (8, .f x3)]) []
theorem mach_product.eq (x0 : FV) : mach_product x0 = (
  bindO (fLen x0) fun v1 =>
  mach_product.L0 (.int .i64 1) x0 v1 (.int .i64 0)) := (den_eq E 59 [x0]).trans (by kernel_rfl)
theorem mach_product.L0_eq (x0 : FV) (x1 : FV) (x2 : FV) (x3 : FV) : mach_product.L0 x0 x1 x2 x3 = (
  bindO (fBin .lss x3 x2) fun v5 =>
  fCond v5
  (bindO (fIdxC 2 x1 x3) fun c6 =>
  bindO (c6[0]?) fun v7 =>
  bindO (c6[1]?) fun v8 =>
  bindO (fLen v8) fun v9 =>
  bindO (fBin .mul x0 v9) fun v10 =>
  bindO (fBin .gtr v10 (.int .i64 1099511627776)) fun v11 =>
  fCond v11
  (some (.int .i64 1099511627776))
  (bindO (fBin .add x3 (.int .i64 1)) fun v12 =>
  mach_product.L0 v10 x1 x2 v12))
  (some x0)) := (jden_eq E 59 [] [4, 1, 0, 1, 1] _ _).trans (by kernel_rfl)
/-! ### ramet/mach.isName (function 89) -/
noncomputable def mach_isName.L0 (x0 : FV) (x1 : FV) (k2 : Nat) : R := jden E 89 [] [4, 1, 0, 1, 1] (mkF 42 [(3, .f x0), (7, .it 0)]) [.sit x1 k2]
theorem mach_isName.eq (x0 : FV) : mach_isName x0 = (
  gB (isStrF x0) <|
  mach_isName.L0 (.int .i64 0) x0 0) := (den_eq E 89 [x0]).trans (by kernel_rfl)
theorem mach_isName.L0_eq (x0 : FV) (x1 : FV) (k2 : Nat) : mach_isName.L0 x0 x1 k2 = (
  bindO (fNext x1 k2) fun v4 =>
  fCond (.bool v4.1)
  (bindO (fBin .geq (.int .i32 v4.2.1) (.int .i32 65)) fun v5 =>
  fCond v5
  (bindO (fBin .leq (.int .i32 v4.2.1) (.int .i32 90)) fun v6 =>
  fCond v6
  (bindO (fUn .not (.bool true)) fun v7 =>
  fCond v7
  (some (.bool false))
  (bindO (fBin .add x0 (.int .i64 1)) fun v8 =>
  mach_isName.L0 v8 x1 v4.2.2))
  (bindO (fBin .geq (.int .i32 v4.2.1) (.int .i32 97)) fun v9 =>
  fCond v9
  (bindO (fBin .leq (.int .i32 v4.2.1) (.int .i32 122)) fun v10 =>
  fCond v10
  (bindO (fUn .not (.bool true)) fun v11 =>
  fCond v11
  (some (.bool false))
  (bindO (fBin .add x0 (.int .i64 1)) fun v12 =>
  mach_isName.L0 v12 x1 v4.2.2))
  (bindO (fBin .geq (.int .i32 v4.2.1) (.int .i32 48)) fun v13 =>
  fCond v13
  (bindO (fBin .leq (.int .i32 v4.2.1) (.int .i32 57)) fun v14 =>
  bindO (fUn .not v14) fun v15 =>
  fCond v15
  (some (.bool false))
  (bindO (fBin .add x0 (.int .i64 1)) fun v16 =>
  mach_isName.L0 v16 x1 v4.2.2))
  (bindO (fUn .not (.bool false)) fun v17 =>
  fCond v17
  (some (.bool false))
  (bindO (fBin .add x0 (.int .i64 1)) fun v18 =>
  mach_isName.L0 v18 x1 v4.2.2))))
  (bindO (fBin .geq (.int .i32 v4.2.1) (.int .i32 48)) fun v19 =>
  fCond v19
  (bindO (fBin .leq (.int .i32 v4.2.1) (.int .i32 57)) fun v20 =>
  bindO (fUn .not v20) fun v21 =>
  fCond v21
  (some (.bool false))
  (bindO (fBin .add x0 (.int .i64 1)) fun v22 =>
  mach_isName.L0 v22 x1 v4.2.2))
  (bindO (fUn .not (.bool false)) fun v23 =>
  fCond v23
  (some (.bool false))
  (bindO (fBin .add x0 (.int .i64 1)) fun v24 =>
  mach_isName.L0 v24 x1 v4.2.2)))))
  (bindO (fBin .geq (.int .i32 v4.2.1) (.int .i32 97)) fun v25 =>
  fCond v25
  (bindO (fBin .leq (.int .i32 v4.2.1) (.int .i32 122)) fun v26 =>
  fCond v26
  (bindO (fUn .not (.bool true)) fun v27 =>
  fCond v27
  (some (.bool false))
  (bindO (fBin .add x0 (.int .i64 1)) fun v28 =>
  mach_isName.L0 v28 x1 v4.2.2))
  (bindO (fBin .geq (.int .i32 v4.2.1) (.int .i32 48)) fun v29 =>
  fCond v29
  (bindO (fBin .leq (.int .i32 v4.2.1) (.int .i32 57)) fun v30 =>
  bindO (fUn .not v30) fun v31 =>
  fCond v31
  (some (.bool false))
  (bindO (fBin .add x0 (.int .i64 1)) fun v32 =>
  mach_isName.L0 v32 x1 v4.2.2))
  (bindO (fUn .not (.bool false)) fun v33 =>
  fCond v33
  (some (.bool false))
  (bindO (fBin .add x0 (.int .i64 1)) fun v34 =>
  mach_isName.L0 v34 x1 v4.2.2))))
  (bindO (fBin .geq (.int .i32 v4.2.1) (.int .i32 48)) fun v35 =>
  fCond v35
  (bindO (fBin .leq (.int .i32 v4.2.1) (.int .i32 57)) fun v36 =>
  bindO (fUn .not v36) fun v37 =>
  fCond v37
  (some (.bool false))
  (bindO (fBin .add x0 (.int .i64 1)) fun v38 =>
  mach_isName.L0 v38 x1 v4.2.2))
  (bindO (fUn .not (.bool false)) fun v39 =>
  fCond v39
  (some (.bool false))
  (bindO (fBin .add x0 (.int .i64 1)) fun v40 =>
  mach_isName.L0 v40 x1 v4.2.2)))))
  (bindO (fBin .geq x0 (.int .i64 1)) fun v41 =>
  fCond v41
  (bindO (fBin .leq x0 (.int .i64 16)) fun v42 =>
  some v42)
  (some (.bool false)))) := (jden_eq E 89 [] [4, 1, 0, 1, 1] _ _).trans (by kernel_rfl)
/-! ### ramet/mach.names (function 90) -/
noncomputable def mach_names.L0 (x0 : FV) (x1 : FV) (x2 : FV) (es3 : List (FV × FV)) : R := jden E 90 [] [4, 1, 0, 1, 1] (mkF 22 [(3, .mp 0), (7, .f x0), (8, .f x1), (9, .f x2)]) [.map false es3]
theorem mach_names.eq (x0 : FV) : mach_names x0 = (
  bindO (fLen x0) fun v1 =>
  mach_names.L0 x0 v1 (.int .i64 0) []) := (den_eq E 90 [x0]).trans (by kernel_rfl)
theorem mach_names.L0_eq (x0 : FV) (x1 : FV) (x2 : FV) (es3 : List (FV × FV)) : mach_names.L0 x0 x1 x2 es3 = (
  bindO (fBin .lss x2 x1) fun v5 =>
  fCond v5
  (bindO (fIdxC 1 x0 x2) fun c6 =>
  bindO (c6[0]?) fun v7 =>
  bindO (mach_isName v7) fun v8 =>
  bindO (fUn .not v8) fun v9 =>
  fCond v9
  (some (.int .i64 21))
  (bindO (mLook false [.str] es3 v7 (.bool false)) fun v10 =>
  fCond v10.1
  (some (.int .i64 22))
  (gB (keyOk false [.str] v7) <|
  bindO (mPut false [.str] es3 v7 (.bool true)) fun es11 =>
  bindO (fBin .add x2 (.int .i64 1)) fun v12 =>
  mach_names.L0 x0 x1 v12 es11)))
  (some (.int .i64 0))) := (jden_eq E 90 [] [4, 1, 0, 1, 1] _ _).trans (by kernel_rfl)
/-! ### slices.Concat[[]ramet/api.Port,ramet/api.Port] (function 143) -/
noncomputable def slices_Concat_api_Port.L0 (x0 : FV) (x1 : FV) (x2 : FV) (x3 : FV) (x4 : FV) : R := jden E 143 [] [4, 1, 0, 1, 1] (mkF 36 [(0, .f x0), (3, .f x1), (9, .f x2), (10, .f x3), (11, .f x4)]) []
noncomputable def slices_Concat_api_Port.L1 (x0 : FV) (x1 : FV) (x2 : FV) (r3 : List (List FV)) : R := jden E 143 [] [4, 1, 0, 1, 1, 1, 1] (mkF 36 [(6, .ref 0), (25, .f x0), (26, .f x1), (27, .f x2)]) [.own 2 r3]
theorem slices_Concat_api_Port.eq (x0 : FV) : slices_Concat_api_Port x0 = (
  bindO (fLen x0) fun v1 =>
  slices_Concat_api_Port.L0 x0 (.int .i64 0) x0 v1 (.int .i64 0)) := (den_eq E 143 [x0]).trans (by kernel_rfl)
theorem slices_Concat_api_Port.L0_eq (x0 : FV) (x1 : FV) (x2 : FV) (x3 : FV) (x4 : FV) : slices_Concat_api_Port.L0 x0 x1 x2 x3 x4 = (
  bindO (fBin .lss x4 x3) fun v6 =>
  fCond v6
  (bindO (fIdxC 1 x2 x4) fun c7 =>
  bindO (c7[0]?) fun v8 =>
  bindO (fLen v8) fun v9 =>
  bindO (fBin .add x1 v9) fun v10 =>
  bindO (fBin .lss v10 (.int .i64 0)) fun v11 =>
  fCond v11
  (none)
  (bindO (fBin .add x4 (.int .i64 1)) fun v12 =>
  slices_Concat_api_Port.L0 x0 v10 x2 x3 v12))
  (bindO (fBin .lss x1 (.int .i64 0)) fun v13 =>
  fCond v13
  (none)
  (bindO (fCap .nilS) fun v14 =>
  bindO (fLen .nilS) fun v15 =>
  bindO (fBin .sub v14 v15) fun v16 =>
  bindO (fBin .sub x1 v16) fun v17 =>
  bindO (fBin .gtr v17 (.int .i64 0)) fun v18 =>
  fCond v18
  (bindO (fCap .nilS) fun v19 =>
  bindO (fCut 2 .nilS none (some v19)) fun v20 =>
  onNil v20 <|
  bindO (asNat v17) fun j21 =>
  gB (decide (j21 * 40 ≤ room)) <|
  bindO (fLen .nilS) fun v22 =>
  bindO (cut? ((List.replicate j21 [(.str [] : FV), .nilS]).length) none (some v22)) fun q24 =>
  bindO (fLen x0) fun v25 =>
  slices_Concat_api_Port.L1 x0 v25 (.int .i64 0) (((List.replicate j21 [(.str [] : FV), .nilS]).take q24.2).drop q24.1))
  (bindO (fLen x0) fun v26 =>
  slices_Concat_api_Port.L1 x0 v26 (.int .i64 0) [])))) := (jden_eq E 143 [] [4, 1, 0, 1, 1] _ _).trans (by kernel_rfl)
theorem slices_Concat_api_Port.L1_eq (x0 : FV) (x1 : FV) (x2 : FV) (r3 : List (List FV)) : slices_Concat_api_Port.L1 x0 x1 x2 r3 = (
  bindO (fBin .lss x2 x1) fun v5 =>
  fCond v5
  (bindO (fIdxC 1 x0 x2) fun c6 =>
  bindO (c6[0]?) fun v7 =>
  bindO (asRows v7) fun r8 =>
  gB (rowsSz 2 r8) <|
  gB (decide ((r3.length + r8.length) * 40 ≤ room)) <|
  bindO (fBin .add x2 (.int .i64 1)) fun v9 =>
  slices_Concat_api_Port.L1 x0 x1 v9 (r3 ++ r8))
  (some (.arr r3))) := (jden_eq E 143 [] [4, 1, 0, 1, 1, 1, 1] _ _).trans (by kernel_rfl)
/-! ### ramet/mach.checkPorts (function 91) -/
noncomputable def mach_checkPorts.L0 (x0 : FV) (x1 : FV) (x2 : FV) (x3 : FV) (x4 : FV) (x5 : FV) : R := jden E 91 [] [1] (mkF 60 [(1, .ptr 0 0 0)]) [.box [.f x0, .f x1, .f x2, .f x3, .f x4, .f x5]]
noncomputable def mach_checkPorts.L1 (x0 : FV) (x1 : FV) (x2 : FV) (x3 : FV) (x4 : FV) (x5 : FV) (x6 : FV) (x7 : FV) (x8 : FV) (es9 : List (FV × FV)) (r10 : List (List FV)) : R := jden E 91 [] [4, 1, 0, 1, 1, 1] (mkF 60 [(3, .mp 1), (23, .f x0), (24, .f x1), (25, .f x2)]) [.box [.f x3, .f x4, .f x5, .f x6, .f x7, .f x8], .map false es9, .fz r10]
noncomputable def mach_checkPorts.L3 (x0 : FV) (x1 : FV) (x2 : FV) (x3 : FV) (x4 : FV) (x5 : FV) (x6 : FV) (x7 : FV) (x8 : FV) (es9 : List (FV × FV)) (r10 : List (List FV)) (x11 : FV) (x12 : FV) : R := jden E 91 [] [0, 1, 4, 0, 1, 1, 5, 4, 1, 0, 1, 1, 1] (mkF 60 [(3, .mp 1), (5, .ptr 3 0 0), (23, .f x0), (24, .f x1), (25, .f x2)]) [.box [.f x3, .f x4, .f x5, .f x6, .f x7, .f x8], .map false es9, .fz r10, .box [.f x11, .f x12]]
noncomputable def mach_checkPorts.L2 (x0 : FV) (x1 : FV) (x2 : FV) (x3 : FV) (x4 : FV) (x5 : FV) (x6 : FV) (x7 : FV) (x8 : FV) (es9 : List (FV × FV)) (r10 : List (List FV)) (x11 : FV) (x12 : FV) : R := jden E 91 [] [1, 4, 0, 1, 1, 5, 4, 1, 0, 1, 1, 1] (mkF 60 [(3, .mp 1), (5, .ptr 3 0 0), (23, .f x0), (24, .f x1), (25, .f x2)]) [.box [.f x3, .f x4, .f x5, .f x6, .f x7, .f x8], .map false es9, .fz r10, .box [.f x11, .f x12]]
theorem mach_checkPorts.eq (x0 : FV) : mach_checkPorts x0 = (
  gB (fIsAgg 6 x0) <|
  bindO (fLen (fCell x0 3)) fun v1 =>
  bindO (fBin .gtr v1 (.int .i64 8)) fun v2 =>
  fCond v2
  (some (.int .i64 26))
  (bindO (fLen (fCell x0 4)) fun v3 =>
  bindO (fBin .gtr v3 (.int .i64 8)) fun v4 =>
  fCond v4
  (some (.int .i64 26))
  (mach_checkPorts.L0 (fCell x0 0) (fCell x0 1) (fCell x0 2) (fCell x0 3) (fCell x0 4) (fCell x0 5)))) := (den_eq E 91 [x0]).trans (by kernel_rfl)
theorem mach_checkPorts.L0_eq (x0 : FV) (x1 : FV) (x2 : FV) (x3 : FV) (x4 : FV) (x5 : FV) : mach_checkPorts.L0 x0 x1 x2 x3 x4 x5 = (
  bindO (slices_Concat_api_Port (.arr [[x3], [x4]])) fun v7 =>
  bindO (fLen v7) fun v8 =>
  mach_checkPorts.L1 v7 v8 (.int .i64 0) x0 x1 x2 x3 x4 x5 [] [[x3], [x4]]) := (jden_eq E 91 [] [1] _ _).trans (by kernel_rfl)
theorem mach_checkPorts.L1_eq (x0 : FV) (x1 : FV) (x2 : FV) (x3 : FV) (x4 : FV) (x5 : FV) (x6 : FV) (x7 : FV) (x8 : FV) (es9 : List (FV × FV)) (r10 : List (List FV)) : mach_checkPorts.L1 x0 x1 x2 x3 x4 x5 x6 x7 x8 es9 r10 = (
  bindO (fBin .lss x2 x1) fun v12 =>
  fCond v12
  (bindO (fIdxC 2 x0 x2) fun c13 =>
  bindO (c13[0]?) fun v14 =>
  bindO (c13[1]?) fun v15 =>
  bindO (mach_isName v14) fun v16 =>
  bindO (fUn .not v16) fun v17 =>
  fCond v17
  (some (.int .i64 21))
  (bindO (mLook false [.str] es9 v14 (.bool false)) fun v18 =>
  fCond v18.1
  (some (.int .i64 22))
  (bindO (fLen v15) fun v19 =>
  bindO (fBin .eql v19 (.int .i64 0)) fun v20 =>
  fCond v20
  (some (.int .i64 26))
  (bindO (fLen v15) fun v21 =>
  bindO (fBin .gtr v21 (.int .i64 64)) fun v22 =>
  fCond v22
  (some (.int .i64 26))
  (mach_checkPorts.L3 x0 x1 x2 x3 x4 x5 x6 x7 x8 es9 r10 v14 v15)))))
  (some (.int .i64 0))) := (jden_eq E 91 [] [4, 1, 0, 1, 1, 1] _ _).trans (by kernel_rfl)
theorem mach_checkPorts.L3_eq (x0 : FV) (x1 : FV) (x2 : FV) (x3 : FV) (x4 : FV) (x5 : FV) (x6 : FV) (x7 : FV) (x8 : FV) (es9 : List (FV × FV)) (r10 : List (List FV)) (x11 : FV) (x12 : FV) : mach_checkPorts.L3 x0 x1 x2 x3 x4 x5 x6 x7 x8 es9 r10 x11 x12 = (
  mach_checkPorts.L2 x0 x1 x2 x3 x4 x5 x6 x7 x8 es9 r10 x11 x12) := (jden_eq E 91 [] [0, 1, 4, 0, 1, 1, 5, 4, 1, 0, 1, 1, 1] _ _).trans (by kernel_rfl)
theorem mach_checkPorts.L2_eq (x0 : FV) (x1 : FV) (x2 : FV) (x3 : FV) (x4 : FV) (x5 : FV) (x6 : FV) (x7 : FV) (x8 : FV) (es9 : List (FV × FV)) (r10 : List (List FV)) (x11 : FV) (x12 : FV) : mach_checkPorts.L2 x0 x1 x2 x3 x4 x5 x6 x7 x8 es9 r10 x11 x12 = (
  gB (keyOk false [.str] x11) <|
  bindO (mPut false [.str] es9 x11 (.bool true)) fun es14 =>
  bindO (mach_names x12) fun v15 =>
  bindO (fBin .neq v15 (.int .i64 0)) fun v16 =>
  fCond v16
  (some v15)
  (bindO (fBin .add x2 (.int .i64 1)) fun v17 =>
  mach_checkPorts.L1 x0 x1 v17 x3 x4 x5 x6 x7 x8 es14 r10)) := (jden_eq E 91 [] [1, 4, 0, 1, 1, 5, 4, 1, 0, 1, 1, 1] _ _).trans (by kernel_rfl)
/-! ### ramet/mach.Check (function 29) -/
noncomputable def mach_Check.L0 (x0 : FV) (x1 : FV) (x2 : FV) (x3 : FV) (x4 : FV) (x5 : FV) : R := jden E 29 [] [1, 1] (mkF 85 [(1, .ptr 0 0 0)]) [.box [.f x0, .f x1, .f x2, .f x3, .f x4, .f x5]]
noncomputable def mach_Check.L1 (x0 : FV) (x1 : FV) (x2 : FV) (x3 : FV) (x4 : FV) (x5 : FV) : R := jden E 29 [] [1, 1, 1, 1, 1] (mkF 85 [(1, .ptr 0 0 0)]) [.box [.f x0, .f x1, .f x2, .f x3, .f x4, .f x5]]
noncomputable def mach_Check.L2 (x0 : FV) (x1 : FV) (x2 : FV) (x3 : FV) (x4 : FV) (x5 : FV) (x6 : FV) (x7 : FV) (x8 : FV) : R := jden E 29 [] [4, 1, 0, 1, 1, 1, 1, 1, 1, 1, 1, 1] (mkF 85 [(1, .ptr 0 0 0), (59, .f x0), (60, .f x1), (61, .f x2)]) [.box [.f x3, .f x4, .f x5, .f x6, .f x7, .f x8]]
theorem mach_Check.eq (x0 : FV) : mach_Check x0 = (
  gB (fIsAgg 6 x0) <|
  bindO (mach_isName (fCell x0 0)) fun v1 =>
  bindO (fUn .not v1) fun v2 =>
  fCond v2
  (some (.int .i64 21))
  (bindO (fLen (fCell x0 1)) fun v3 =>
  bindO (fBin .eql v3 (.int .i64 0)) fun v4 =>
  fCond v4
  (some (.int .i64 26))
  (bindO (fLen (fCell x0 1)) fun v5 =>
  bindO (fBin .gtr v5 (.int .i64 256)) fun v6 =>
  fCond v6
  (some (.int .i64 26))
  (mach_Check.L0 (fCell x0 0) (fCell x0 1) (fCell x0 2) (fCell x0 3) (fCell x0 4) (fCell x0 5))))) := (den_eq E 29 [x0]).trans (by kernel_rfl)
theorem mach_Check.L0_eq (x0 : FV) (x1 : FV) (x2 : FV) (x3 : FV) (x4 : FV) (x5 : FV) : mach_Check.L0 x0 x1 x2 x3 x4 x5 = (
  bindO (mach_names x1) fun v7 =>
  bindO (fBin .neq v7 (.int .i64 0)) fun v8 =>
  fCond v8
  (some v7)
  (bindO (mach_checkPorts (.agg [x0, x1, x2, x3, x4, x5])) fun v9 =>
  bindO (fBin .neq v9 (.int .i64 0)) fun v10 =>
  fCond v10
  (some v9)
  (bindO (fBin .lss x2 (.int .i64 0)) fun v11 =>
  fCond v11
  (some (.int .i64 27))
  (bindO (fLen x1) fun v12 =>
  bindO (fBin .geq x2 v12) fun v13 =>
  fCond v13
  (some (.int .i64 27))
  (mach_Check.L1 x0 x1 x2 x3 x4 x5))))) := (jden_eq E 29 [] [1, 1] _ _).trans (by kernel_rfl)
theorem mach_Check.L1_eq (x0 : FV) (x1 : FV) (x2 : FV) (x3 : FV) (x4 : FV) (x5 : FV) : mach_Check.L1 x0 x1 x2 x3 x4 x5 = (
  bindO (fLen x1) fun v7 =>
  bindO (mach_product x3) fun v8 =>
  bindO (fBin .mul v7 v8) fun v9 =>
  bindO (fBin .gtr v9 (.int .i64 4096)) fun v10 =>
  fCond v10
  (some (.int .i64 26))
  (bindO (fLen x5) fun v11 =>
  bindO (fBin .neq v11 v9) fun v12 =>
  fCond v12
  (some (.int .i64 23))
  (bindO (fLen x5) fun v13 =>
  mach_Check.L2 x5 v13 (.int .i64 0) x0 x1 x2 x3 x4 x5))) := (jden_eq E 29 [] [1, 1, 1, 1, 1] _ _).trans (by kernel_rfl)
theorem mach_Check.L2_eq (x0 : FV) (x1 : FV) (x2 : FV) (x3 : FV) (x4 : FV) (x5 : FV) (x6 : FV) (x7 : FV) (x8 : FV) : mach_Check.L2 x0 x1 x2 x3 x4 x5 x6 x7 x8 = (
  bindO (fBin .lss x2 x1) fun v10 =>
  fCond v10
  (bindO (fIdxC 2 x0 x2) fun c11 =>
  bindO (c11[0]?) fun v12 =>
  bindO (c11[1]?) fun v13 =>
  bindO (fBin .lss v12 (.int .i64 0)) fun v14 =>
  fCond v14
  (some (.int .i64 27))
  (bindO (fLen x4) fun v15 =>
  bindO (fBin .geq v12 v15) fun v16 =>
  fCond v16
  (some (.int .i64 27))
  (bindO (mach_fit x7 v13) fun v17 =>
  bindO (fUn .not v17) fun v18 =>
  fCond v18
  (some (.int .i64 27))
  (bindO (fBin .add x2 (.int .i64 1)) fun v19 =>
  mach_Check.L2 x0 x1 v19 x3 x4 x5 x6 x7 x8))))
  (some (.int .i64 0))) := (jden_eq E 29 [] [4, 1, 0, 1, 1, 1, 1, 1, 1, 1, 1, 1] _ _).trans (by kernel_rfl)
/-! ### slices.Clone[[]int,int] (function 54) -/
theorem slices_Clone_int.eq (x0 : FV) : slices_Clone_int x0 = (
  onFV x0
  (some (.arr []))
  (bindO (asRows x0) fun r1 =>
  gB (rowsSz 1 r1) <|
  gB (decide ((0 + r1.length) * 8 ≤ room)) <|
  some (.arr ([] ++ r1)))) := (den_eq E 54 [x0]).trans (by kernel_rfl)
/-! ### ramet/mach.number (function 60) -/
noncomputable def mach_number.L0 (x0 : FV) (x1 : FV) (x2 : FV) (x3 : FV) (x4 : FV) : R := jden E 60 [] [4, 1, 0, 1, 1] (mkF 27 [(0, .f x0), (5, .f x1), (8, .f x2), (9, .f x3), (10, .f x4)]) []
theorem mach_number.eq (x0 x1 : FV) : mach_number x0 x1 = (
  bindO (fLen x1) fun v1 =>
  mach_number.L0 x0 (.int .i64 0) x1 v1 (.int .i64 0)) := (den_eq E 60 [x0, x1]).trans (by kernel_rfl)
theorem mach_number.L0_eq (x0 : FV) (x1 : FV) (x2 : FV) (x3 : FV) (x4 : FV) : mach_number.L0 x0 x1 x2 x3 x4 = (
  bindO (fBin .lss x4 x3) fun v6 =>
  fCond v6
  (bindO (fIdxC 1 x2 x4) fun c7 =>
  bindO (c7[0]?) fun v8 =>
  bindO (fIdxC 2 x0 x4) fun c9 =>
  bindO (c9[1]?) fun v10 =>
  bindO (fLen v10) fun v11 =>
  bindO (fBin .mul x1 v11) fun v12 =>
  bindO (fBin .add v12 v8) fun v13 =>
  bindO (fBin .add x4 (.int .i64 1)) fun v14 =>
  mach_number.L0 x0 v13 x2 x3 v14)
  (some x1)) := (jden_eq E 60 [] [4, 1, 0, 1, 1] _ _).trans (by kernel_rfl)
/-! ### ramet/mach.Run (function 18) -/
noncomputable def mach_Run.L0 (x0 : FV) (x1 : FV) (x2 : FV) (x3 : FV) (x4 : FV) (x5 : FV) (x6 : FV) (x7 : FV) (x8 : FV) (x9 : FV) : R := jden E 18 [] [4, 1, 0, 1, 1, 1] (mkF 70 [(1, .f x0), (2, .ptr 0 0 0), (24, .f x1), (25, .f x2), (26, .f x3)]) [.box [.f x4, .f x5, .f x6, .f x7, .f x8, .f x9]]
noncomputable def mach_Run.L1 (x0 : FV) (x1 : FV) (x2 : FV) (x3 : FV) (x4 : FV) (x5 : FV) (x6 : FV) (x7 : FV) (x8 : FV) (x9 : FV) (x10 : FV) (r11 : List (List FV)) : R := jden E 18 [] [4, 1, 0, 1, 1, 1, 1, 1, 1] (mkF 70 [(2, .ptr 0 0 0), (10, .ref 1), (11, .f x0), (12, .f x1), (41, .f x2), (42, .f x3), (43, .f x4)]) [.box [.f x5, .f x6, .f x7, .f x8, .f x9, .f x10], .own 1 r11]
theorem mach_Run.eq (x0 x1 : FV) : mach_Run x0 x1 = (
  gB (fIsAgg 6 x0) <|
  bindO (mach_Check (.agg [(fCell x0 0), (fCell x0 1), (fCell x0 2), (fCell x0 3), (fCell x0 4), (fCell x0 5)])) fun v1 =>
  bindO (fBin .neq v1 (.int .i64 0)) fun v2 =>
  fCond v2
  (some (.tup [.nilS, .int .i64 0, v1]))
  (bindO (fLen x1) fun v3 =>
  bindO (fBin .gtr v3 (.int .i64 4096)) fun v4 =>
  fCond v4
  (some (.tup [.nilS, .int .i64 0, .int .i64 26]))
  (bindO (fLen x1) fun v5 =>
  mach_Run.L0 x1 x1 v5 (.int .i64 0) (fCell x0 0) (fCell x0 1) (fCell x0 2) (fCell x0 3) (fCell x0 4) (fCell x0 5)))) := (den_eq E 18 [x0, x1]).trans (by kernel_rfl)
theorem mach_Run.L0_eq (x0 : FV) (x1 : FV) (x2 : FV) (x3 : FV) (x4 : FV) (x5 : FV) (x6 : FV) (x7 : FV) (x8 : FV) (x9 : FV) : mach_Run.L0 x0 x1 x2 x3 x4 x5 x6 x7 x8 x9 = (
  bindO (fBin .lss x3 x2) fun v11 =>
  fCond v11
  (bindO (fIdxC 1 x1 x3) fun c12 =>
  bindO (c12[0]?) fun v13 =>
  bindO (mach_fit x7 v13) fun v14 =>
  bindO (fUn .not v14) fun v15 =>
  fCond v15
  (some (.tup [.nilS, .int .i64 0, .int .i64 27]))
  (bindO (fBin .add x3 (.int .i64 1)) fun v16 =>
  mach_Run.L0 x0 x1 x2 v16 x4 x5 x6 x7 x8 x9))
  (bindO (mach_product x7) fun v17 =>
  bindO (fLen x0) fun v18 =>
  mach_Run.L1 x6 v17 x0 v18 (.int .i64 0) x4 x5 x6 x7 x8 x9 [])) := (jden_eq E 18 [] [4, 1, 0, 1, 1, 1] _ _).trans (by kernel_rfl)
theorem mach_Run.L1_eq (x0 : FV) (x1 : FV) (x2 : FV) (x3 : FV) (x4 : FV) (x5 : FV) (x6 : FV) (x7 : FV) (x8 : FV) (x9 : FV) (x10 : FV) (r11 : List (List FV)) : mach_Run.L1 x0 x1 x2 x3 x4 x5 x6 x7 x8 x9 x10 r11 = (
  bindO (fBin .lss x4 x3) fun v13 =>
  fCond v13
  (bindO (fIdxC 1 x2 x4) fun c14 =>
  bindO (c14[0]?) fun v15 =>
  bindO (fBin .mul x0 x1) fun v16 =>
  bindO (mach_number x8 v15) fun v17 =>
  bindO (fBin .add v16 v17) fun v18 =>
  bindO (fIdxC 2 x10 v18) fun c19 =>
  bindO (c19[0]?) fun v20 =>
  bindO (c19[1]?) fun v21 =>
  bindO (slices_Clone_int v21) fun v22 =>
  bindO (arrRows v22) fun r23 =>
  gB (decide ((r11.length + 1) * 24 ≤ room)) <|
  bindO (fBin .add x4 (.int .i64 1)) fun v24 =>
  mach_Run.L1 v20 x1 x2 x3 v24 x5 x6 x7 x8 x9 x10 (r11 ++ [[.arr r23]]))
  (some (.tup [.arr r11, x0, .int .i64 0]))) := (jden_eq E 18 [] [4, 1, 0, 1, 1, 1, 1, 1, 1] _ _).trans (by kernel_rfl)
/-! ### ramet/rametref02.Step (function 19) -/
noncomputable def ref02_Step.L0 (x0 : FV) (x1 : FV) (x2 : FV) (x3 : FV) (x4 : FV) (x5 : FV) (x6 : FV) (x7 : FV) : R := jden E 19 [] [1, 1] (mkF 42 [(1, .f x0), (2, .f x1), (3, .ptr 0 0 0)]) [.box [.f x2, .f x3, .f x4, .f x5, .f x6, .f x7]]
theorem ref02_Step.eq (x0 x1 x2 : FV) : ref02_Step x0 x1 x2 = (
  gB (fIsAgg 6 x0) <|
  bindO (ref02_Check (.agg [(fCell x0 0), (fCell x0 1), (fCell x0 2), (fCell x0 3), (fCell x0 4), (fCell x0 5)])) fun v1 =>
  bindO (fBin .neq v1 (.int .i64 0)) fun v2 =>
  fCond v2
  (some (.tup [.int .i64 0, .nilS, v1]))
  (bindO (fBin .lss x1 (.int .i64 0)) fun v3 =>
  fCond v3
  (some (.tup [.int .i64 0, .nilS, .int .i64 27]))
  (bindO (fLen (fCell x0 1)) fun v4 =>
  bindO (fBin .geq x1 v4) fun v5 =>
  fCond v5
  (some (.tup [.int .i64 0, .nilS, .int .i64 27]))
  (bindO (ref02_right (fCell x0 3) x2) fun v6 =>
  bindO (fUn .not v6) fun v7 =>
  fCond v7
  (some (.tup [.int .i64 0, .nilS, .int .i64 27]))
  (ref02_Step.L0 x1 x2 (fCell x0 0) (fCell x0 1) (fCell x0 2) (fCell x0 3) (fCell x0 4) (fCell x0 5)))))) := (den_eq E 19 [x0, x1, x2]).trans (by kernel_rfl)
theorem ref02_Step.L0_eq (x0 : FV) (x1 : FV) (x2 : FV) (x3 : FV) (x4 : FV) (x5 : FV) (x6 : FV) (x7 : FV) : ref02_Step.L0 x0 x1 x2 x3 x4 x5 x6 x7 = (
  bindO (ref02_one (.agg [x2, x3, x4, x5, x6, x7]) x0 x1) fun v9 =>
  gB (fIsAgg 2 v9) <|
  bindO (asRows (fCell v9 1)) fun r10 =>
  gB (rowsSz 1 r10) <|
  gB (decide ((0 + r10.length) * 8 ≤ room)) <|
  some (.tup [(fCell v9 0), .arr ([] ++ r10), .int .i64 0])) := (jden_eq E 19 [] [1, 1] _ _).trans (by kernel_rfl)
/-! ### ramet/mach.Step (function 20) -/
noncomputable def mach_Step.L0 (x0 : FV) (x1 : FV) (x2 : FV) (x3 : FV) (x4 : FV) (x5 : FV) (x6 : FV) (x7 : FV) : R := jden E 20 [] [1, 1] (mkF 51 [(1, .f x0), (2, .f x1), (3, .ptr 0 0 0)]) [.box [.f x2, .f x3, .f x4, .f x5, .f x6, .f x7]]
theorem mach_Step.eq (x0 x1 x2 : FV) : mach_Step x0 x1 x2 = (
  gB (fIsAgg 6 x0) <|
  bindO (mach_Check (.agg [(fCell x0 0), (fCell x0 1), (fCell x0 2), (fCell x0 3), (fCell x0 4), (fCell x0 5)])) fun v1 =>
  bindO (fBin .neq v1 (.int .i64 0)) fun v2 =>
  fCond v2
  (some (.tup [.int .i64 0, .nilS, v1]))
  (bindO (fBin .lss x1 (.int .i64 0)) fun v3 =>
  fCond v3
  (some (.tup [.int .i64 0, .nilS, .int .i64 27]))
  (bindO (fLen (fCell x0 1)) fun v4 =>
  bindO (fBin .geq x1 v4) fun v5 =>
  fCond v5
  (some (.tup [.int .i64 0, .nilS, .int .i64 27]))
  (bindO (mach_fit (fCell x0 3) x2) fun v6 =>
  bindO (fUn .not v6) fun v7 =>
  fCond v7
  (some (.tup [.int .i64 0, .nilS, .int .i64 27]))
  (mach_Step.L0 x1 x2 (fCell x0 0) (fCell x0 1) (fCell x0 2) (fCell x0 3) (fCell x0 4) (fCell x0 5)))))) := (den_eq E 20 [x0, x1, x2]).trans (by kernel_rfl)
theorem mach_Step.L0_eq (x0 : FV) (x1 : FV) (x2 : FV) (x3 : FV) (x4 : FV) (x5 : FV) (x6 : FV) (x7 : FV) : mach_Step.L0 x0 x1 x2 x3 x4 x5 x6 x7 = (
  bindO (mach_product x5) fun v9 =>
  bindO (fBin .mul x0 v9) fun v10 =>
  bindO (mach_number x5 x1) fun v11 =>
  bindO (fBin .add v10 v11) fun v12 =>
  bindO (fIdxC 2 x7 v12) fun c13 =>
  bindO (c13[0]?) fun v14 =>
  bindO (c13[1]?) fun v15 =>
  bindO (slices_Clone_int v15) fun v16 =>
  bindO (arrRows v16) fun r17 =>
  some (.tup [v14, .arr r17, .int .i64 0])) := (jden_eq E 20 [] [1, 1] _ _).trans (by kernel_rfl)
/-! ### ramet/rametref02.SameInts (function 21) -/
theorem ref02_SameInts.eq (x0 x1 : FV) : ref02_SameInts x0 x1 = (
  bindO (ref02_sameInts x0 x1) fun v1 =>
  some v1) := (den_eq E 21 [x0, x1]).trans (by kernel_rfl)
/-! ### ramet/rametlaw02.MachRuns (function 4) -/
noncomputable def law02_MachRuns.L0 (x0 : FV) (x1 : FV) (x2 : FV) (x3 : FV) (x4 : FV) (x5 : FV) (x6 : FV) (x7 : FV) (x8 : FV) : R := jden E 4 [] [1, 1, 1] (mkF 111 [(1, .f x0), (2, .ptr 0 0 0), (8, .f x1), (10, .f x2)]) [.box [.f x3, .f x4, .f x5, .f x6, .f x7, .f x8]]
noncomputable def law02_MachRuns.L1 (x0 : FV) (x1 : FV) (x2 : FV) (x3 : FV) (x4 : FV) (x5 : FV) (x6 : FV) (x7 : FV) (x8 : FV) (x9 : FV) (x10 : FV) : R := jden E 4 [] [4, 1, 0, 1, 1, 1, 1, 1] (mkF 111 [(1, .f x0), (2, .ptr 0 0 0), (8, .f x1), (10, .f x2), (11, .f x3), (12, .f x4)]) [.box [.f x5, .f x6, .f x7, .f x8, .f x9, .f x10]]
noncomputable def law02_MachRuns.L2 (x0 : FV) (x1 : FV) (x2 : FV) (x3 : FV) (x4 : FV) (x5 : FV) (x6 : FV) (x7 : FV) (x8 : FV) (x9 : FV) (x10 : FV) : R := jden E 4 [] [5, 4, 1, 0, 1, 1, 1, 1, 1] (mkF 111 [(1, .f x0), (2, .ptr 0 0 0), (8, .f x1), (10, .f x2), (11, .f x3), (12, .f x4)]) [.box [.f x5, .f x6, .f x7, .f x8, .f x9, .f x10]]
noncomputable def law02_MachRuns.L3 (x0 : FV) (x1 : FV) (x2 : FV) (x3 : FV) (x4 : FV) (x5 : FV) (x6 : FV) (x7 : FV) (x8 : FV) (x9 : FV) (x10 : FV) (x11 : FV) (x12 : FV) : R := jden E 4 [] [1, 1, 4, 0, 1, 5, 4, 1, 0, 1, 1, 1, 1, 1] (mkF 111 [(1, .f x0), (2, .ptr 0 0 0), (8, .f x1), (10, .f x2), (12, .f x3), (16, .f x4), (17, .f x5), (18, .f x6)]) [.box [.f x7, .f x8, .f x9, .f x10, .f x11, .f x12]]
theorem law02_MachRuns.eq (x0 x1 : FV) : law02_MachRuns x0 x1 = (
  gB (fIsAgg 6 x0) <|
  bindO (ref02_Run (.agg [(fCell x0 0), (fCell x0 1), (fCell x0 2), (fCell x0 3), (fCell x0 4), (fCell x0 5)]) x1) fun v1 =>
  gB (fIsTup 3 v1) <|
  bindO (mach_Run (.agg [(fCell x0 0), (fCell x0 1), (fCell x0 2), (fCell x0 3), (fCell x0 4), (fCell x0 5)]) x1) fun v2 =>
  gB (fIsTup 3 v2) <|
  bindO (fBin .neq (fTup v2 2) (fTup v1 2)) fun v3 =>
  fCond v3
  (some (.bool false))
  (bindO (fBin .neq (fTup v2 1) (fTup v1 1)) fun v4 =>
  fCond v4
  (some (.bool false))
  (bindO (ref02_SameLists (fTup v2 0) (fTup v1 0)) fun v5 =>
  bindO (fUn .not v5) fun v6 =>
  fCond v6
  (some (.bool false))
  (law02_MachRuns.L0 x1 (fTup v2 0) (fTup v2 2) (fCell x0 0) (fCell x0 1) (fCell x0 2) (fCell x0 3) (fCell x0 4) (fCell x0 5))))) := (den_eq E 4 [x0, x1]).trans (by kernel_rfl)
theorem law02_MachRuns.L0_eq (x0 : FV) (x1 : FV) (x2 : FV) (x3 : FV) (x4 : FV) (x5 : FV) (x6 : FV) (x7 : FV) (x8 : FV) : law02_MachRuns.L0 x0 x1 x2 x3 x4 x5 x6 x7 x8 = (
  law02_MachRuns.L1 x0 x1 x2 x5 (.int .i64 0) x3 x4 x5 x6 x7 x8) := (jden_eq E 4 [] [1, 1, 1] _ _).trans (by kernel_rfl)
theorem law02_MachRuns.L1_eq (x0 : FV) (x1 : FV) (x2 : FV) (x3 : FV) (x4 : FV) (x5 : FV) (x6 : FV) (x7 : FV) (x8 : FV) (x9 : FV) (x10 : FV) : law02_MachRuns.L1 x0 x1 x2 x3 x4 x5 x6 x7 x8 x9 x10 = (
  bindO (fLen x0) fun v12 =>
  bindO (fBin .lss x4 v12) fun v13 =>
  fCond v13
  (bindO (fBin .lss x4 (.int .i64 50)) fun v14 =>
  fCond v14
  (law02_MachRuns.L2 x0 x1 x2 x3 x4 x5 x6 x7 x8 x9 x10)
  (some (.bool true)))
  (some (.bool true))) := (jden_eq E 4 [] [4, 1, 0, 1, 1, 1, 1, 1] _ _).trans (by kernel_rfl)
theorem law02_MachRuns.L2_eq (x0 : FV) (x1 : FV) (x2 : FV) (x3 : FV) (x4 : FV) (x5 : FV) (x6 : FV) (x7 : FV) (x8 : FV) (x9 : FV) (x10 : FV) : law02_MachRuns.L2 x0 x1 x2 x3 x4 x5 x6 x7 x8 x9 x10 = (
  bindO (fIdxC 1 x0 x4) fun c12 =>
  bindO (c12[0]?) fun v13 =>
  bindO (ref02_Step (.agg [x5, x6, x7, x8, x9, x10]) x3 v13) fun v14 =>
  gB (fIsTup 3 v14) <|
  bindO (fIdxC 1 x0 x4) fun c15 =>
  bindO (c15[0]?) fun v16 =>
  bindO (mach_Step (.agg [x5, x6, x7, x8, x9, x10]) x3 v16) fun v17 =>
  gB (fIsTup 3 v17) <|
  bindO (fBin .neq (fTup v17 2) (fTup v14 2)) fun v18 =>
  fCond v18
  (some (.bool false))
  (bindO (fBin .neq (fTup v17 0) (fTup v14 0)) fun v19 =>
  fCond v19
  (some (.bool false))
  (bindO (ref02_SameInts (fTup v17 1) (fTup v14 1)) fun v20 =>
  bindO (fUn .not v20) fun v21 =>
  fCond v21
  (some (.bool false))
  (law02_MachRuns.L3 x0 x1 x2 x4 (fTup v17 0) (fTup v17 1) (fTup v17 2) x5 x6 x7 x8 x9 x10)))) := (jden_eq E 4 [] [5, 4, 1, 0, 1, 1, 1, 1, 1] _ _).trans (by kernel_rfl)
theorem law02_MachRuns.L3_eq (x0 : FV) (x1 : FV) (x2 : FV) (x3 : FV) (x4 : FV) (x5 : FV) (x6 : FV) (x7 : FV) (x8 : FV) (x9 : FV) (x10 : FV) (x11 : FV) (x12 : FV) : law02_MachRuns.L3 x0 x1 x2 x3 x4 x5 x6 x7 x8 x9 x10 x11 x12 = (
  bindO (fBin .eql x2 (.int .i64 0)) fun v14 =>
  fCond v14
  (bindO (fBin .neq x6 (.int .i64 0)) fun v15 =>
  fCond v15
  (some (.bool false))
  (bindO (fIdxC 1 x1 x3) fun c16 =>
  bindO (c16[0]?) fun v17 =>
  bindO (ref02_SameInts x5 v17) fun v18 =>
  bindO (fUn .not v18) fun v19 =>
  fCond v19
  (some (.bool false))
  (bindO (fBin .add x3 (.int .i64 1)) fun v20 =>
  law02_MachRuns.L1 x0 x1 x2 x4 v20 x7 x8 x9 x10 x11 x12)))
  (bindO (fBin .add x3 (.int .i64 1)) fun v21 =>
  law02_MachRuns.L1 x0 x1 x2 x4 v21 x7 x8 x9 x10 x11 x12)) := (jden_eq E 4 [] [1, 1, 4, 0, 1, 5, 4, 1, 0, 1, 1, 1, 1, 1] _ _).trans (by kernel_rfl)
/-! ### ramet/rametref02.equal (function 99) -/
noncomputable def ref02_equal.L0 (x0 : FV) (x1 : FV) (x2 : FV) : R := jden E 99 [] [4, 1, 0, 1, 1] (mkF 26 [(0, .f x0), (1, .f x1), (5, .f x2)]) []
theorem ref02_equal.eq (x0 x1 : FV) : ref02_equal x0 x1 = (
  bindO (fLen x0) fun v1 =>
  bindO (fLen x1) fun v2 =>
  bindO (fBin .neq v1 v2) fun v3 =>
  fCond v3
  (some (.bool false))
  (ref02_equal.L0 x0 x1 (.int .i64 0))) := (den_eq E 99 [x0, x1]).trans (by kernel_rfl)
theorem ref02_equal.L0_eq (x0 : FV) (x1 : FV) (x2 : FV) : ref02_equal.L0 x0 x1 x2 = (
  bindO (fLen x0) fun v4 =>
  bindO (fBin .lss x2 v4) fun v5 =>
  fCond v5
  (bindO (fIdxC 1 x0 x2) fun c6 =>
  bindO (c6[0]?) fun v7 =>
  bindO (fIdxC 1 x1 x2) fun c8 =>
  bindO (c8[0]?) fun v9 =>
  bindO (fBin .neq v7 v9) fun v10 =>
  fCond v10
  (some (.bool false))
  (bindO (fBin .add x2 (.int .i64 1)) fun v11 =>
  ref02_equal.L0 x0 x1 v11))
  (some (.bool true))) := (jden_eq E 99 [] [4, 1, 0, 1, 1] _ _).trans (by kernel_rfl)
/-! ### ramet/rametref02.IsBand (function 61) -/
noncomputable def ref02_IsBand.L0 (x0 : FV) (x1 : FV) (x2 : FV) (x3 : FV) (x4 : FV) (x5 : FV) : R := jden E 61 [] [1] (mkF 74 [(1, .ptr 0 0 0)]) [.box [.f x0, .f x1, .f x2, .f x3, .f x4, .f x5]]
theorem ref02_IsBand.eq (x0 : FV) : ref02_IsBand x0 = (
  gB (fIsAgg 6 x0) <|
  bindO (fLen (fCell x0 3)) fun v1 =>
  bindO (fBin .neq v1 (.int .i64 1)) fun v2 =>
  fCond v2
  (some (.bool false))
  (bindO (fLen (fCell x0 4)) fun v3 =>
  bindO (fBin .neq v3 (.int .i64 3)) fun v4 =>
  fCond v4
  (some (.bool false))
  (bindO (fIdxC 2 (fCell x0 3) (.int .i64 0)) fun c5 =>
  bindO (c5[0]?) fun v6 =>
  bindO (fBin .neq v6 (.str [114, 101, 97, 100])) fun v7 =>
  fCond v7
  (some (.bool false))
  (bindO (fIdxC 2 (fCell x0 4) (.int .i64 0)) fun c8 =>
  bindO (c8[0]?) fun v9 =>
  bindO (fBin .neq v9 (.str [119, 114, 105, 116, 101])) fun v10 =>
  fCond v10
  (some (.bool false))
  (bindO (fIdxC 2 (fCell x0 4) (.int .i64 1)) fun c11 =>
  bindO (c11[0]?) fun v12 =>
  bindO (fBin .neq v12 (.str [109, 111, 118, 101])) fun v13 =>
  fCond v13
  (some (.bool false))
  (bindO (fIdxC 2 (fCell x0 4) (.int .i64 2)) fun c14 =>
  bindO (c14[0]?) fun v15 =>
  bindO (fBin .neq v15 (.str [104, 97, 108, 116])) fun v16 =>
  fCond v16
  (some (.bool false))
  (ref02_IsBand.L0 (fCell x0 0) (fCell x0 1) (fCell x0 2) (fCell x0 3) (fCell x0 4) (fCell x0 5)))))))) := (den_eq E 61 [x0]).trans (by kernel_rfl)
theorem ref02_IsBand.L0_eq (x0 : FV) (x1 : FV) (x2 : FV) (x3 : FV) (x4 : FV) (x5 : FV) : ref02_IsBand.L0 x0 x1 x2 x3 x4 x5 = (
  bindO (fIdxC 2 x3 (.int .i64 0)) fun c7 =>
  bindO (c7[1]?) fun v8 =>
  bindO (fIdxC 2 x4 (.int .i64 0)) fun c9 =>
  bindO (c9[1]?) fun v10 =>
  bindO (ref02_equal v8 v10) fun v11 =>
  fCond v11
  (bindO (fIdxC 2 x4 (.int .i64 1)) fun c12 =>
  bindO (c12[1]?) fun v13 =>
  bindO (ref02_equal v13 (.arr [[.str [108, 101, 102, 116]], [.str [115, 116, 97, 121]], [.str [114, 105, 103, 104, 116]]])) fun v14 =>
  fCond v14
  (bindO (fIdxC 2 x4 (.int .i64 2)) fun c15 =>
  bindO (c15[1]?) fun v16 =>
  bindO (ref02_equal v16 (.arr [[.str [110, 111]], [.str [121, 101, 115]]])) fun v17 =>
  some v17)
  (some (.bool false)))
  (some (.bool false))) := (jden_eq E 61 [] [1] _ _).trans (by kernel_rfl)
/-! ### ramet/rametref02.RunBand (function 22) -/
noncomputable def ref02_RunBand.L0 (x0 : FV) (x1 : FV) (x2 : FV) (x3 : FV) (x4 : FV) (x5 : FV) (x6 : FV) (x7 : FV) (x8 : FV) (x9 : FV) (x10 : FV) (x11 : FV) (x12 : FV) (x13 : FV) (x14 : FV) (x15 : FV) (x16 : FV) (r17 : List (List FV)) : R := jden E 22 [] [1, 1, 1, 1] (mkF 161 [(2, .f x0), (3, .ptr 0 0 0), (4, .ptr 1 0 0), (6, .ptr 2 0 0), (9, .f x1)]) [.box [.f x2, .f x3, .f x4, .f x5, .f x6, .f x7], .box [.f x8, .f x9, .f x10, .f x11, .f x12], .box [.ref 3, .f x13, .f x14, .f x15, .f x16], .own 1 r17]
noncomputable def ref02_RunBand.L1 (x0 : FV) (x1 : FV) (x2 : FV) (x3 : FV) (x4 : FV) (x5 : FV) (x6 : FV) (x7 : FV) (x8 : FV) (x9 : FV) (x10 : FV) (x11 : FV) (x12 : FV) (x13 : FV) (x14 : FV) (x15 : FV) (x16 : FV) (x17 : FV) (r18 : List (List FV)) : R := jden E 22 [] [4, 1, 0, 1, 1, 1, 1, 1] (mkF 161 [(2, .f x0), (3, .ptr 0 0 0), (4, .ptr 1 0 0), (6, .ptr 2 0 0), (9, .f x1), (10, .f x2)]) [.box [.f x3, .f x4, .f x5, .f x6, .f x7, .f x8], .box [.f x9, .f x10, .f x11, .f x12, .f x13], .box [.ref 3, .f x14, .f x15, .f x16, .f x17], .own 1 r18]
noncomputable def ref02_RunBand.L2 (x0 : FV) (x1 : FV) (x2 : FV) (x3 : FV) (x4 : FV) (x5 : FV) (x6 : FV) (x7 : FV) (x8 : FV) (x9 : FV) (x10 : FV) (x11 : FV) (x12 : FV) (x13 : FV) (x14 : FV) (x15 : FV) (x16 : FV) (r17 : List (List FV)) : R := jden E 22 [] [1, 1, 1, 1, 1, 1] (mkF 161 [(2, .f x0), (3, .ptr 0 0 0), (4, .ptr 1 0 0), (6, .ptr 2 0 0), (9, .f x1)]) [.box [.f x2, .f x3, .f x4, .f x5, .f x6, .f x7], .box [.f x8, .f x9, .f x10, .f x11, .f x12], .box [.ref 3, .f x13, .f x14, .f x15, .f x16], .own 1 r17]
noncomputable def ref02_RunBand.L3 (x0 : FV) (x1 : FV) (x2 : FV) (x3 : FV) (x4 : FV) (x5 : FV) (x6 : FV) (x7 : FV) (x8 : FV) (x9 : FV) (x10 : FV) (x11 : FV) (x12 : FV) (x13 : FV) (x14 : FV) (x15 : FV) (x16 : FV) (r17 : List (List FV)) : R := jden E 22 [] [1, 1, 1, 1, 1, 1, 1] (mkF 161 [(2, .f x0), (3, .ptr 0 0 0), (4, .ptr 1 0 0), (6, .ptr 2 0 0), (9, .f x1)]) [.box [.f x2, .f x3, .f x4, .f x5, .f x6, .f x7], .box [.f x8, .f x9, .f x10, .f x11, .f x12], .box [.ref 3, .f x13, .f x14, .f x15, .f x16], .own 1 r17]
noncomputable def ref02_RunBand.L4 (x0 : FV) (x1 : FV) (x2 : FV) (x3 : FV) (x4 : FV) (x5 : FV) (x6 : FV) (x7 : FV) (x8 : FV) (x9 : FV) (x10 : FV) (x11 : FV) (x12 : FV) (x13 : FV) (x14 : FV) (x15 : FV) (x16 : FV) (r17 : List (List FV)) (r18 : List (List FV)) : R := jden E 22 [] [4, 1, 0, 1, 1, 1, 1, 1, 1, 1, 1, 1] (mkF 161 [(2, .f x0), (3, .ptr 0 0 0), (4, .ptr 1 0 0), (6, .ptr 2 0 0), (9, .f x1), (11, .f x2)]) [.box [.f x3, .f x4, .f x5, .f x6, .f x7, .f x8], .box [.ref 5, .f x9, .f x10, .f x11, .f x12], .box [.ref 3, .f x13, .f x14, .f x15, .f x16], .own 1 r17, .dead, .own 1 r18]
noncomputable def ref02_RunBand.L5 (x0 : FV) (x1 : FV) (x2 : FV) (x3 : FV) (x4 : FV) (x5 : FV) (x6 : FV) (x7 : FV) (x8 : FV) (x9 : FV) (x10 : FV) (x11 : FV) (x12 : FV) (x13 : FV) (x14 : FV) (x15 : FV) (x16 : FV) (r17 : List (List FV)) (r18 : List (List FV)) : R := jden E 22 [] [5, 4, 1, 0, 1, 1, 1, 1, 1, 1, 1, 1, 1] (mkF 161 [(2, .f x0), (3, .ptr 0 0 0), (4, .ptr 1 0 0), (6, .ptr 2 0 0), (9, .f x1), (11, .f x2)]) [.box [.f x3, .f x4, .f x5, .f x6, .f x7, .f x8], .box [.ref 5, .f x9, .f x10, .f x11, .f x12], .box [.ref 3, .f x13, .f x14, .f x15, .f x16], .own 1 r17, .dead, .own 1 r18]
theorem ref02_RunBand.eq (x0 x1 x2 : FV) : ref02_RunBand x0 x1 x2 = (
  gB (fIsAgg 6 x0) <|
  gB (fIsAgg 5 x1) <|
  bindO (ref02_Check (.agg [(fCell x0 0), (fCell x0 1), (fCell x0 2), (fCell x0 3), (fCell x0 4), (fCell x0 5)])) fun v1 =>
  bindO (fBin .neq v1 (.int .i64 0)) fun v2 =>
  fCond v2
  (some (.tup [.agg [.nilS, .int .i64 0, .int .i64 0, .bool false, .int .i64 0], v1]))
  (bindO (ref02_IsBand (.agg [(fCell x0 0), (fCell x0 1), (fCell x0 2), (fCell x0 3), (fCell x0 4), (fCell x0 5)])) fun v3 =>
  bindO (fUn .not v3) fun v4 =>
  fCond v4
  (some (.tup [.agg [.nilS, .int .i64 0, .int .i64 0, .bool false, .int .i64 0], .int .i64 21]))
  (bindO (fLen (fCell x1 0)) fun v5 =>
  bindO (fBin .eql v5 (.int .i64 0)) fun v6 =>
  fCond v6
  (some (.tup [.agg [.nilS, .int .i64 0, .int .i64 0, .bool false, .int .i64 0], .int .i64 26]))
  (bindO (fBin .gtr v5 (.int .i64 4096)) fun v7 =>
  fCond v7
  (some (.tup [.agg [.nilS, .int .i64 0, .int .i64 0, .bool false, .int .i64 0], .int .i64 26]))
  (ref02_RunBand.L0 x2 v5 (fCell x0 0) (fCell x0 1) (fCell x0 2) (fCell x0 3) (fCell x0 4) (fCell x0 5) (fCell x1 0) (fCell x1 1) (fCell x1 2) (fCell x1 3) (fCell x1 4) (.int .i64 0) (.int .i64 0) (.bool false) (.int .i64 0) []))))) := (den_eq E 22 [x0, x1, x2]).trans (by kernel_rfl)
theorem ref02_RunBand.L0_eq (x0 : FV) (x1 : FV) (x2 : FV) (x3 : FV) (x4 : FV) (x5 : FV) (x6 : FV) (x7 : FV) (x8 : FV) (x9 : FV) (x10 : FV) (x11 : FV) (x12 : FV) (x13 : FV) (x14 : FV) (x15 : FV) (x16 : FV) (r17 : List (List FV)) : ref02_RunBand.L0 x0 x1 x2 x3 x4 x5 x6 x7 x8 x9 x10 x11 x12 x13 x14 x15 x16 r17 = (
  ref02_RunBand.L1 x0 x1 (.int .i64 0) x2 x3 x4 x5 x6 x7 x8 x9 x10 x11 x12 x13 x14 x15 x16 r17) := (jden_eq E 22 [] [1, 1, 1, 1] _ _).trans (by kernel_rfl)
theorem ref02_RunBand.L1_eq (x0 : FV) (x1 : FV) (x2 : FV) (x3 : FV) (x4 : FV) (x5 : FV) (x6 : FV) (x7 : FV) (x8 : FV) (x9 : FV) (x10 : FV) (x11 : FV) (x12 : FV) (x13 : FV) (x14 : FV) (x15 : FV) (x16 : FV) (x17 : FV) (r18 : List (List FV)) : ref02_RunBand.L1 x0 x1 x2 x3 x4 x5 x6 x7 x8 x9 x10 x11 x12 x13 x14 x15 x16 x17 r18 = (
  bindO (fBin .lss x2 x1) fun v20 =>
  fCond v20
  (bindO (fIdxC 1 x9 x2) fun c21 =>
  bindO (c21[0]?) fun v22 =>
  bindO (fBin .lss v22 (.int .i64 0)) fun v23 =>
  fCond v23
  (some (.tup [.agg [.nilS, .int .i64 0, .int .i64 0, .bool false, .int .i64 0], .int .i64 27]))
  (bindO (fIdxC 1 x9 x2) fun c24 =>
  bindO (c24[0]?) fun v25 =>
  bindO (fIdxC 2 x6 (.int .i64 0)) fun c26 =>
  bindO (c26[1]?) fun v27 =>
  bindO (fLen v27) fun v28 =>
  bindO (fBin .geq v25 v28) fun v29 =>
  fCond v29
  (some (.tup [.agg [.nilS, .int .i64 0, .int .i64 0, .bool false, .int .i64 0], .int .i64 27]))
  (bindO (fBin .add x2 (.int .i64 1)) fun v30 =>
  ref02_RunBand.L1 x0 x1 v30 x3 x4 x5 x6 x7 x8 x9 x10 x11 x12 x13 x14 x15 x16 x17 r18)))
  (bindO (fBin .lss x10 (.int .i64 0)) fun v31 =>
  fCond v31
  (some (.tup [.agg [.nilS, .int .i64 0, .int .i64 0, .bool false, .int .i64 0], .int .i64 27]))
  (bindO (fBin .geq x10 x1) fun v32 =>
  fCond v32
  (some (.tup [.agg [.nilS, .int .i64 0, .int .i64 0, .bool false, .int .i64 0], .int .i64 27]))
  (bindO (fBin .lss x11 (.int .i64 0)) fun v33 =>
  fCond v33
  (some (.tup [.agg [.nilS, .int .i64 0, .int .i64 0, .bool false, .int .i64 0], .int .i64 27]))
  (bindO (fLen x4) fun v34 =>
  bindO (fBin .geq x11 v34) fun v35 =>
  fCond v35
  (some (.tup [.agg [.nilS, .int .i64 0, .int .i64 0, .bool false, .int .i64 0], .int .i64 27]))
  (bindO (fBin .lss x13 (.int .i64 0)) fun v36 =>
  fCond v36
  (some (.tup [.agg [.nilS, .int .i64 0, .int .i64 0, .bool false, .int .i64 0], .int .i64 27]))
  (bindO (fBin .gtr x13 (.int .i64 1099511627776)) fun v37 =>
  fCond v37
  (some (.tup [.agg [.nilS, .int .i64 0, .int .i64 0, .bool false, .int .i64 0], .int .i64 27]))
  (ref02_RunBand.L2 x0 x1 x3 x4 x5 x6 x7 x8 x9 x10 x11 x12 x13 x14 x15 x16 x17 r18)))))))) := (jden_eq E 22 [] [4, 1, 0, 1, 1, 1, 1, 1] _ _).trans (by kernel_rfl)
theorem ref02_RunBand.L2_eq (x0 : FV) (x1 : FV) (x2 : FV) (x3 : FV) (x4 : FV) (x5 : FV) (x6 : FV) (x7 : FV) (x8 : FV) (x9 : FV) (x10 : FV) (x11 : FV) (x12 : FV) (x13 : FV) (x14 : FV) (x15 : FV) (x16 : FV) (r17 : List (List FV)) : ref02_RunBand.L2 x0 x1 x2 x3 x4 x5 x6 x7 x8 x9 x10 x11 x12 x13 x14 x15 x16 r17 = (
  bindO (fBin .lss x0 (.int .i64 0)) fun v19 =>
  fCond v19
  (some (.tup [.agg [.nilS, .int .i64 0, .int .i64 0, .bool false, .int .i64 0], .int .i64 26]))
  (bindO (fBin .gtr x0 (.int .i64 1048576)) fun v20 =>
  fCond v20
  (some (.tup [.agg [.nilS, .int .i64 0, .int .i64 0, .bool false, .int .i64 0], .int .i64 26]))
  (ref02_RunBand.L3 x0 x1 x2 x3 x4 x5 x6 x7 x8 x9 x10 x11 x12 x13 x14 x15 x16 r17))) := (jden_eq E 22 [] [1, 1, 1, 1, 1, 1] _ _).trans (by kernel_rfl)
theorem ref02_RunBand.L3_eq (x0 : FV) (x1 : FV) (x2 : FV) (x3 : FV) (x4 : FV) (x5 : FV) (x6 : FV) (x7 : FV) (x8 : FV) (x9 : FV) (x10 : FV) (x11 : FV) (x12 : FV) (x13 : FV) (x14 : FV) (x15 : FV) (x16 : FV) (r17 : List (List FV)) : ref02_RunBand.L3 x0 x1 x2 x3 x4 x5 x6 x7 x8 x9 x10 x11 x12 x13 x14 x15 x16 r17 = (
  bindO (asRows x8) fun r19 =>
  gB (rowsSz 1 r19) <|
  gB (decide ((0 + r19.length) * 8 ≤ room)) <|
  ref02_RunBand.L4 x0 x1 (.int .i64 0) x2 x3 x4 x5 x6 x7 x9 x10 x11 x12 x13 x14 x15 x16 r17 ([] ++ r19)) := (jden_eq E 22 [] [1, 1, 1, 1, 1, 1, 1] _ _).trans (by kernel_rfl)
theorem ref02_RunBand.L4_eq (x0 : FV) (x1 : FV) (x2 : FV) (x3 : FV) (x4 : FV) (x5 : FV) (x6 : FV) (x7 : FV) (x8 : FV) (x9 : FV) (x10 : FV) (x11 : FV) (x12 : FV) (x13 : FV) (x14 : FV) (x15 : FV) (x16 : FV) (r17 : List (List FV)) (r18 : List (List FV)) : ref02_RunBand.L4 x0 x1 x2 x3 x4 x5 x6 x7 x8 x9 x10 x11 x12 x13 x14 x15 x16 r17 r18 = (
  bindO (fBin .lss x2 x0) fun v20 =>
  fCond v20
  (bindO (fUn .not x11) fun v21 =>
  fCond v21
  (ref02_RunBand.L5 x0 x1 x2 x3 x4 x5 x6 x7 x8 x9 x10 x11 x12 x13 x14 x15 x16 r17 r18)
  (some (.tup [.agg [.arr r18, x9, x10, x11, x12], .int .i64 0])))
  (some (.tup [.agg [.arr r18, x9, x10, x11, x12], .int .i64 0]))) := (jden_eq E 22 [] [4, 1, 0, 1, 1, 1, 1, 1, 1, 1, 1, 1] _ _).trans (by kernel_rfl)
theorem ref02_RunBand.L5_eq (x0 : FV) (x1 : FV) (x2 : FV) (x3 : FV) (x4 : FV) (x5 : FV) (x6 : FV) (x7 : FV) (x8 : FV) (x9 : FV) (x10 : FV) (x11 : FV) (x12 : FV) (x13 : FV) (x14 : FV) (x15 : FV) (x16 : FV) (r17 : List (List FV)) (r18 : List (List FV)) : ref02_RunBand.L5 x0 x1 x2 x3 x4 x5 x6 x7 x8 x9 x10 x11 x12 x13 x14 x15 x16 r17 r18 = (
  bindO (rIdx r18 x9) fun j20 =>
  bindO (rGet r18 j20 0) fun v21 =>
  bindO (ref02_one (.agg [x3, x4, x5, x6, x7, x8]) x10 (.arr [[v21]])) fun v22 =>
  gB (fIsAgg 2 v22) <|
  bindO (fIdxC 1 (fCell v22 1) (.int .i64 0)) fun c23 =>
  bindO (c23[0]?) fun v24 =>
  bindO (rIdx r18 x9) fun j25 =>
  bindO (rSet r18 j25 0 [v24]) fun r26 =>
  bindO (fIdxC 1 (fCell v22 1) (.int .i64 1)) fun c27 =>
  bindO (c27[0]?) fun v28 =>
  bindO (fBin .add x9 v28) fun v29 =>
  bindO (fBin .sub v29 (.int .i64 1)) fun v30 =>
  bindO (fMinMax true v30 (.int .i64 0)) fun v31 =>
  bindO (fBin .sub x1 (.int .i64 1)) fun v32 =>
  bindO (fMinMax false v31 v32) fun v33 =>
  bindO (fBin .add x12 (.int .i64 1)) fun v34 =>
  bindO (fIdxC 1 (fCell v22 1) (.int .i64 2)) fun c35 =>
  bindO (c35[0]?) fun v36 =>
  bindO (fBin .eql v36 (.int .i64 1)) fun v37 =>
  bindO (fBin .add x2 (.int .i64 1)) fun v38 =>
  ref02_RunBand.L4 x0 x1 v38 x3 x4 x5 x6 x7 x8 v33 (fCell v22 0) v37 v34 x13 x14 x15 x16 r17 r26) := (jden_eq E 22 [] [5, 4, 1, 0, 1, 1, 1, 1, 1, 1, 1, 1, 1] _ _).trans (by kernel_rfl)
/-! ### slices.IndexFunc[[]int,int] (function 138) -/
noncomputable def slices_IndexFunc_int.L0 (x0 : FV) (x1 : FV) (x2 : FV) (x3 : FV) : R := jden E 138 [] [4, 1, 0, 1] (mkF 19 [(0, .f x0), (1, .f x1), (7, .f x2), (8, .f x3)]) []
theorem slices_IndexFunc_int.eq (x0 x1 : FV) : slices_IndexFunc_int x0 x1 = (
  bindO (fLen x0) fun v1 =>
  slices_IndexFunc_int.L0 x0 x1 v1 (.int .i64 0)) := (den_eq E 138 [x0, x1]).trans (by kernel_rfl)
theorem slices_IndexFunc_int.L0_eq (x0 : FV) (x1 : FV) (x2 : FV) (x3 : FV) : slices_IndexFunc_int.L0 x0 x1 x2 x3 = (
  bindO (fBin .lss x3 x2) fun v5 =>
  fCond v5
  (bindO (fIdxC 1 x0 x3) fun c6 =>
  bindO (c6[0]?) fun v7 =>
  bindO (callDyn false x1 [v7]) fun v8 =>
  fCond v8
  (some x3)
  (bindO (fBin .add x3 (.int .i64 1)) fun v9 =>
  slices_IndexFunc_int.L0 x0 x1 x2 v9))
  (some (.int .i64 (-1)))) := (jden_eq E 138 [] [4, 1, 0, 1] _ _).trans (by kernel_rfl)
/-! ### slices.ContainsFunc[[]int,int] (function 52) -/
theorem slices_ContainsFunc_int.eq (x0 x1 : FV) : slices_ContainsFunc_int x0 x1 = (
  bindO (slices_IndexFunc_int x0 x1) fun v1 =>
  bindO (fBin .geq v1 (.int .i64 0)) fun v2 =>
  some v2) := (den_eq E 52 [x0, x1]).trans (by kernel_rfl)
/-! ### slices.Equal[[]string,string] (function 140) -/
noncomputable def slices_Equal_string.L0 (x0 : FV) (x1 : FV) (x2 : FV) (x3 : FV) : R := jden E 140 [] [4, 1, 0, 1, 1] (mkF 26 [(0, .f x0), (1, .f x1), (12, .f x2), (13, .f x3)]) []
theorem slices_Equal_string.eq (x0 x1 : FV) : slices_Equal_string x0 x1 = (
  bindO (fLen x0) fun v1 =>
  bindO (fLen x1) fun v2 =>
  bindO (fBin .neq v1 v2) fun v3 =>
  fCond v3
  (some (.bool false))
  (bindO (fLen x0) fun v4 =>
  slices_Equal_string.L0 x0 x1 v4 (.int .i64 0))) := (den_eq E 140 [x0, x1]).trans (by kernel_rfl)
theorem slices_Equal_string.L0_eq (x0 : FV) (x1 : FV) (x2 : FV) (x3 : FV) : slices_Equal_string.L0 x0 x1 x2 x3 = (
  bindO (fBin .lss x3 x2) fun v5 =>
  fCond v5
  (bindO (fIdxC 1 x0 x3) fun c6 =>
  bindO (c6[0]?) fun v7 =>
  bindO (fIdxC 1 x1 x3) fun c8 =>
  bindO (c8[0]?) fun v9 =>
  bindO (fBin .neq v7 v9) fun v10 =>
  fCond v10
  (some (.bool false))
  (bindO (fBin .add x3 (.int .i64 1)) fun v11 =>
  slices_Equal_string.L0 x0 x1 x2 v11))
  (some (.bool true))) := (jden_eq E 140 [] [4, 1, 0, 1, 1] _ _).trans (by kernel_rfl)
/-! ### ramet/mach.isBander (function 62) -/
noncomputable def mach_isBander.L0 (x0 : FV) (x1 : FV) (x2 : FV) (x3 : FV) (x4 : FV) (x5 : FV) : R := jden E 62 [] [1] (mkF 64 [(1, .ptr 0 0 0)]) [.box [.f x0, .f x1, .f x2, .f x3, .f x4, .f x5]]
noncomputable def mach_isBander.L1 (x0 : FV) (x1 : FV) (x2 : FV) (x3 : FV) (x4 : FV) (x5 : FV) (x6 : FV) (x7 : FV) (r8 : List (List FV)) (r9 : List (List FV)) (r10 : List (List FV)) : R := jden E 62 [] [4, 1, 0, 1, 1, 1] (mkF 64 [(1, .ptr 0 0 0), (35, .ref 3), (36, .f x0), (37, .f x1)]) [.box [.f x2, .f x3, .f x4, .f x5, .f x6, .f x7], .fz r8, .fz r9, .own 2 r10]
theorem mach_isBander.eq (x0 : FV) : mach_isBander x0 = (
  gB (fIsAgg 6 x0) <|
  bindO (fLen (fCell x0 3)) fun v1 =>
  bindO (fBin .neq v1 (.int .i64 1)) fun v2 =>
  fCond v2
  (some (.bool false))
  (bindO (fLen (fCell x0 4)) fun v3 =>
  bindO (fBin .neq v3 (.int .i64 3)) fun v4 =>
  fCond v4
  (some (.bool false))
  (bindO (fIdxC 2 (fCell x0 3) (.int .i64 0)) fun c5 =>
  bindO (c5[0]?) fun v6 =>
  bindO (fBin .neq v6 (.str [114, 101, 97, 100])) fun v7 =>
  fCond v7
  (some (.bool false))
  (mach_isBander.L0 (fCell x0 0) (fCell x0 1) (fCell x0 2) (fCell x0 3) (fCell x0 4) (fCell x0 5))))) := (den_eq E 62 [x0]).trans (by kernel_rfl)
theorem mach_isBander.L0_eq (x0 : FV) (x1 : FV) (x2 : FV) (x3 : FV) (x4 : FV) (x5 : FV) : mach_isBander.L0 x0 x1 x2 x3 x4 x5 = (
  bindO (fIdxC 2 x3 (.int .i64 0)) fun c7 =>
  bindO (c7[1]?) fun v8 =>
  mach_isBander.L1 (.int .i64 ((3 : Nat) : Int)) (.int .i64 0) x0 x1 x2 x3 x4 x5 [[.str [108, 101, 102, 116]], [.str [115, 116, 97, 121]], [.str [114, 105, 103, 104, 116]]] [[.str [110, 111]], [.str [121, 101, 115]]] [[.str [119, 114, 105, 116, 101], v8], [.str [109, 111, 118, 101], .arr [[.str [108, 101, 102, 116]], [.str [115, 116, 97, 121]], [.str [114, 105, 103, 104, 116]]]], [.str [104, 97, 108, 116], .arr [[.str [110, 111]], [.str [121, 101, 115]]]]]) := (jden_eq E 62 [] [1] _ _).trans (by kernel_rfl)
theorem mach_isBander.L1_eq (x0 : FV) (x1 : FV) (x2 : FV) (x3 : FV) (x4 : FV) (x5 : FV) (x6 : FV) (x7 : FV) (r8 : List (List FV)) (r9 : List (List FV)) (r10 : List (List FV)) : mach_isBander.L1 x0 x1 x2 x3 x4 x5 x6 x7 r8 r9 r10 = (
  bindO (fBin .lss x1 x0) fun v12 =>
  fCond v12
  (bindO (rIdx r10 x1) fun j13 =>
  bindO (rGet r10 j13 0) fun v14 =>
  bindO (rGet r10 j13 1) fun v15 =>
  bindO (fIdxC 2 x6 x1) fun c16 =>
  bindO (c16[0]?) fun v17 =>
  bindO (fBin .neq v17 v14) fun v18 =>
  fCond v18
  (some (.bool false))
  (bindO (fIdxC 2 x6 x1) fun c19 =>
  bindO (c19[1]?) fun v20 =>
  bindO (slices_Equal_string v20 v15) fun v21 =>
  bindO (fUn .not v21) fun v22 =>
  fCond v22
  (some (.bool false))
  (bindO (fBin .add x1 (.int .i64 1)) fun v23 =>
  mach_isBander.L1 x0 v23 x2 x3 x4 x5 x6 x7 r8 r9 r10)))
  (some (.bool true))) := (jden_eq E 62 [] [4, 1, 0, 1, 1, 1] _ _).trans (by kernel_rfl)
/-! ### ramet/mach.RunBand$1 (function 63) -/
theorem mach_RunBand_1.eq (x0 x1 : FV) : mach_RunBand_1 x0 x1 = (
  bindO (fBin .lss x0 (.int .i64 0)) fun v1 =>
  fCond v1
  (some (.bool true))
  (bindO (fLd x1 0) fun v2 =>
  bindO (fBin .geq x0 v2) fun v3 =>
  some v3)) := (den_eq E 63 [x0, x1]).trans (by kernel_rfl)
/-! ### ramet/mach.RunBand (function 23) -/
noncomputable def mach_RunBand.L1 (x0 : FV) (x1 : FV) (x2 : FV) (x3 : FV) (x4 : FV) (x5 : FV) (x6 : FV) (x7 : FV) (x8 : FV) (x9 : FV) (x10 : FV) (x11 : FV) (x12 : FV) (x13 : FV) (x14 : FV) (x15 : FV) (c16 : List FV) (r17 : List (List FV)) : R := jden E 23 [] [0, 1, 1, 1, 1] (mkF 152 [(2, .f x0), (3, .ptr 0 0 0), (4, .ptr 1 0 0), (6, .ptr 2 0 0), (9, .ptr 3 0 0)]) [.box [.f x1, .f x2, .f x3, .f x4, .f x5, .f x6], .box [.f x7, .f x8, .f x9, .f x10, .f x11], .box [.ref 4, .f x12, .f x13, .f x14, .f x15], .fzb c16, .own 1 r17]
noncomputable def mach_RunBand.L0 (x0 : FV) (x1 : FV) (x2 : FV) (x3 : FV) (x4 : FV) (x5 : FV) (x6 : FV) (x7 : FV) (x8 : FV) (x9 : FV) (x10 : FV) (x11 : FV) (x12 : FV) (x13 : FV) (x14 : FV) (x15 : FV) (c16 : List FV) (r17 : List (List FV)) : R := jden E 23 [] [1, 1, 1, 1] (mkF 152 [(2, .f x0), (3, .ptr 0 0 0), (4, .ptr 1 0 0), (6, .ptr 2 0 0), (9, .ptr 3 0 0)]) [.box [.f x1, .f x2, .f x3, .f x4, .f x5, .f x6], .box [.f x7, .f x8, .f x9, .f x10, .f x11], .box [.ref 4, .f x12, .f x13, .f x14, .f x15], .fzb c16, .own 1 r17]
noncomputable def mach_RunBand.L2 (x0 : FV) (x1 : FV) (x2 : FV) (x3 : FV) (x4 : FV) (x5 : FV) (x6 : FV) (x7 : FV) (x8 : FV) (x9 : FV) (x10 : FV) (x11 : FV) (x12 : FV) (x13 : FV) (x14 : FV) (x15 : FV) (c16 : List FV) (r17 : List (List FV)) (r18 : List (List FV)) : R := jden E 23 [] [4, 1, 0, 1, 1, 1, 1, 1, 1] (mkF 152 [(3, .ptr 0 0 0), (4, .ptr 1 0 0), (6, .ptr 2 0 0), (9, .ptr 3 0 0), (93, .f x0), (94, .f x1)]) [.box [.f x2, .f x3, .f x4, .f x5, .f x6, .f x7], .box [.ref 5, .f x8, .f x9, .f x10, .f x11], .box [.ref 4, .f x12, .f x13, .f x14, .f x15], .fzb c16, .own 1 r17, .own 1 r18]
theorem mach_RunBand.eq (x0 x1 x2 : FV) : mach_RunBand x0 x1 x2 = (
  gB (fIsAgg 6 x0) <|
  gB (fIsAgg 5 x1) <|
  bindO (mach_Check (.agg [(fCell x0 0), (fCell x0 1), (fCell x0 2), (fCell x0 3), (fCell x0 4), (fCell x0 5)])) fun v1 =>
  bindO (fBin .neq v1 (.int .i64 0)) fun v2 =>
  fCond v2
  (some (.tup [.agg [.nilS, .int .i64 0, .int .i64 0, .bool false, .int .i64 0], v1]))
  (bindO (mach_isBander (.agg [(fCell x0 0), (fCell x0 1), (fCell x0 2), (fCell x0 3), (fCell x0 4), (fCell x0 5)])) fun v3 =>
  bindO (fUn .not v3) fun v4 =>
  fCond v4
  (some (.tup [.agg [.nilS, .int .i64 0, .int .i64 0, .bool false, .int .i64 0], .int .i64 21]))
  (bindO (fIdxC 2 (fCell x0 3) (.int .i64 0)) fun c5 =>
  bindO (c5[1]?) fun v6 =>
  bindO (fLen v6) fun v7 =>
  bindO (fLen (fCell x1 0)) fun v8 =>
  bindO (fBin .eql v8 (.int .i64 0)) fun v9 =>
  fCond v9
  (some (.tup [.agg [.nilS, .int .i64 0, .int .i64 0, .bool false, .int .i64 0], .int .i64 26]))
  (bindO (fLen (fCell x1 0)) fun v10 =>
  bindO (fBin .gtr v10 (.int .i64 4096)) fun v11 =>
  fCond v11
  (some (.tup [.agg [.nilS, .int .i64 0, .int .i64 0, .bool false, .int .i64 0], .int .i64 26]))
  (bindO (slices_ContainsFunc_int (fCell x1 0) (.func 63 [.eptr [v7] 0])) fun v12 =>
  fCond v12
  (some (.tup [.agg [.nilS, .int .i64 0, .int .i64 0, .bool false, .int .i64 0], .int .i64 27]))
  (bindO (fBin .lss (fCell x1 1) (.int .i64 0)) fun v13 =>
  fCond v13
  (some (.tup [.agg [.nilS, .int .i64 0, .int .i64 0, .bool false, .int .i64 0], .int .i64 27]))
  (bindO (fLen (fCell x1 0)) fun v14 =>
  bindO (fBin .geq (fCell x1 1) v14) fun v15 =>
  fCond v15
  (some (.tup [.agg [.nilS, .int .i64 0, .int .i64 0, .bool false, .int .i64 0], .int .i64 27]))
  (bindO (fBin .lss (fCell x1 2) (.int .i64 0)) fun v16 =>
  fCond v16
  (some (.tup [.agg [.nilS, .int .i64 0, .int .i64 0, .bool false, .int .i64 0], .int .i64 27]))
  (bindO (fLen (fCell x0 1)) fun v17 =>
  bindO (fBin .geq (fCell x1 2) v17) fun v18 =>
  fCond v18
  (some (.tup [.agg [.nilS, .int .i64 0, .int .i64 0, .bool false, .int .i64 0], .int .i64 27]))
  (bindO (fBin .lss (fCell x1 4) (.int .i64 0)) fun v19 =>
  fCond v19
  (some (.tup [.agg [.nilS, .int .i64 0, .int .i64 0, .bool false, .int .i64 0], .int .i64 27]))
  (bindO (fBin .gtr (fCell x1 4) (.int .i64 1099511627776)) fun v20 =>
  fCond v20
  (some (.tup [.agg [.nilS, .int .i64 0, .int .i64 0, .bool false, .int .i64 0], .int .i64 27]))
  (bindO (fBin .lss x2 (.int .i64 0)) fun v21 =>
  fCond v21
  (some (.tup [.agg [.nilS, .int .i64 0, .int .i64 0, .bool false, .int .i64 0], .int .i64 26]))
  (bindO (fBin .gtr x2 (.int .i64 1048576)) fun v22 =>
  fCond v22
  (some (.tup [.agg [.nilS, .int .i64 0, .int .i64 0, .bool false, .int .i64 0], .int .i64 26]))
  (mach_RunBand.L1 x2 (fCell x0 0) (fCell x0 1) (fCell x0 2) (fCell x0 3) (fCell x0 4) (fCell x0 5) (fCell x1 0) (fCell x1 1) (fCell x1 2) (fCell x1 3) (fCell x1 4) (.int .i64 0) (.int .i64 0) (.bool false) (.int .i64 0) [v7] [])))))))))))))) := (den_eq E 23 [x0, x1, x2]).trans (by kernel_rfl)
theorem mach_RunBand.L1_eq (x0 : FV) (x1 : FV) (x2 : FV) (x3 : FV) (x4 : FV) (x5 : FV) (x6 : FV) (x7 : FV) (x8 : FV) (x9 : FV) (x10 : FV) (x11 : FV) (x12 : FV) (x13 : FV) (x14 : FV) (x15 : FV) (c16 : List FV) (r17 : List (List FV)) : mach_RunBand.L1 x0 x1 x2 x3 x4 x5 x6 x7 x8 x9 x10 x11 x12 x13 x14 x15 c16 r17 = (
  mach_RunBand.L0 x0 x1 x2 x3 x4 x5 x6 x7 x8 x9 x10 x11 x12 x13 x14 x15 c16 r17) := (jden_eq E 23 [] [0, 1, 1, 1, 1] _ _).trans (by kernel_rfl)
theorem mach_RunBand.L0_eq (x0 : FV) (x1 : FV) (x2 : FV) (x3 : FV) (x4 : FV) (x5 : FV) (x6 : FV) (x7 : FV) (x8 : FV) (x9 : FV) (x10 : FV) (x11 : FV) (x12 : FV) (x13 : FV) (x14 : FV) (x15 : FV) (c16 : List FV) (r17 : List (List FV)) : mach_RunBand.L0 x0 x1 x2 x3 x4 x5 x6 x7 x8 x9 x10 x11 x12 x13 x14 x15 c16 r17 = (
  bindO (slices_Clone_int x7) fun v19 =>
  bindO (arrRows v19) fun r20 =>
  mach_RunBand.L2 x0 (.int .i64 0) x1 x2 x3 x4 x5 x6 x8 x9 x10 x11 x12 x13 x14 x15 c16 r17 r20) := (jden_eq E 23 [] [1, 1, 1, 1] _ _).trans (by kernel_rfl)
theorem mach_RunBand.L2_eq (x0 : FV) (x1 : FV) (x2 : FV) (x3 : FV) (x4 : FV) (x5 : FV) (x6 : FV) (x7 : FV) (x8 : FV) (x9 : FV) (x10 : FV) (x11 : FV) (x12 : FV) (x13 : FV) (x14 : FV) (x15 : FV) (c16 : List FV) (r17 : List (List FV)) (r18 : List (List FV)) : mach_RunBand.L2 x0 x1 x2 x3 x4 x5 x6 x7 x8 x9 x10 x11 x12 x13 x14 x15 c16 r17 r18 = (
  bindO (fBin .lss x1 x0) fun v20 =>
  fCond v20
  (fCond x10
  (some (.tup [.agg [.arr r18, x8, x9, x10, x11], .int .i64 0]))
  (bindO (c16[0]?) fun v21 =>
  bindO (fBin .mul x9 v21) fun v22 =>
  bindO (rIdx r18 x8) fun j23 =>
  bindO (rGet r18 j23 0) fun v24 =>
  bindO (fBin .add v22 v24) fun v25 =>
  bindO (fIdxC 2 x7 v25) fun c26 =>
  bindO (c26[0]?) fun v27 =>
  bindO (c26[1]?) fun v28 =>
  bindO (fIdxC 1 v28 (.int .i64 0)) fun c29 =>
  bindO (c29[0]?) fun v30 =>
  bindO (rIdx r18 x8) fun j31 =>
  bindO (rSet r18 j31 0 [v30]) fun r32 =>
  bindO (fIdxC 1 v28 (.int .i64 1)) fun c33 =>
  bindO (c33[0]?) fun v34 =>
  bindO (fBin .add x8 v34) fun v35 =>
  bindO (fBin .sub v35 (.int .i64 1)) fun v36 =>
  bindO (fMinMax true v36 (.int .i64 0)) fun v37 =>
  bindO (fBin .sub (.int .i64 ((r32.length : Nat) : Int)) (.int .i64 1)) fun v38 =>
  bindO (fMinMax false v37 v38) fun v39 =>
  bindO (fBin .add x11 (.int .i64 1)) fun v40 =>
  bindO (fIdxC 1 v28 (.int .i64 2)) fun c41 =>
  bindO (c41[0]?) fun v42 =>
  bindO (fBin .eql v42 (.int .i64 1)) fun v43 =>
  bindO (fBin .add x1 (.int .i64 1)) fun v44 =>
  mach_RunBand.L2 x0 v44 x2 x3 x4 x5 x6 x7 v39 v27 v43 v40 x12 x13 x14 x15 c16 r17 r32))
  (some (.tup [.agg [.arr r18, x8, x9, x10, x11], .int .i64 0]))) := (jden_eq E 23 [] [4, 1, 0, 1, 1, 1, 1, 1, 1] _ _).trans (by kernel_rfl)
/-! ### ramet/rametref02.SameBand (function 24) -/
theorem ref02_SameBand.eq (x0 x1 : FV) : ref02_SameBand x0 x1 = (
  gB (fIsAgg 5 x0) <|
  gB (fIsAgg 5 x1) <|
  bindO (ref02_sameInts (fCell x0 0) (fCell x1 0)) fun v1 =>
  fCond v1
  (bindO (fBin .eql (fCell x0 1) (fCell x1 1)) fun v2 =>
  fCond v2
  (bindO (fBin .eql (fCell x0 2) (fCell x1 2)) fun v3 =>
  fCond v3
  (bindO (fBoolBin .eql (fCell x0 3) (fCell x1 3)) fun v4 =>
  fCond v4
  (bindO (fBin .eql (fCell x0 4) (fCell x1 4)) fun v5 =>
  some v5)
  (some (.bool false)))
  (some (.bool false)))
  (some (.bool false)))
  (some (.bool false))) := (den_eq E 24 [x0, x1]).trans (by kernel_rfl)
/-! ### ramet/rametlaw02.MachBands (function 5) -/
noncomputable def law02_MachBands.L0 (x0 : FV) (x1 : FV) (x2 : FV) (x3 : FV) (x4 : FV) (x5 : FV) (x6 : FV) (x7 : FV) (x8 : FV) (x9 : FV) (x10 : FV) (x11 : FV) (x12 : FV) (x13 : FV) (x14 : FV) (x15 : FV) (x16 : FV) (x17 : FV) (x18 : FV) (x19 : FV) (x20 : FV) (x21 : FV) (x22 : FV) (x23 : FV) (x24 : FV) (x25 : FV) : R := jden E 5 [] [1, 1, 1, 1, 1] (mkF 83 [(3, .ptr 0 0 0), (4, .ptr 1 0 0), (7, .f x0), (8, .f x1), (11, .ptr 4 0 0), (12, .f x2)]) [.box [.f x3, .f x4, .f x5, .f x6, .f x7, .f x8], .box [.f x9, .f x10, .f x11, .f x12, .f x13], .box [.f x14, .f x15], .box [.f x16, .f x17, .f x18, .f x19, .f x20], .box [.f x21, .f x22, .f x23, .f x24, .f x25]]
noncomputable def law02_MachBands.L1 (x0 : FV) (x1 : FV) (x2 : FV) (x3 : FV) (x4 : FV) (x5 : FV) (x6 : FV) (x7 : FV) (x8 : FV) (x9 : FV) (x10 : FV) (x11 : FV) (x12 : FV) (x13 : FV) (x14 : FV) (x15 : FV) (x16 : FV) (x17 : FV) (x18 : FV) (x19 : FV) (x20 : FV) (x21 : FV) (x22 : FV) (x23 : FV) (x24 : FV) : R := jden E 5 [] [1, 1, 1, 1, 1, 1] (mkF 83 [(3, .ptr 0 0 0), (4, .ptr 1 0 0), (7, .f x0), (8, .f x1), (11, .ptr 4 0 0)]) [.box [.f x2, .f x3, .f x4, .f x5, .f x6, .f x7], .box [.f x8, .f x9, .f x10, .f x11, .f x12], .box [.f x13, .f x14], .box [.f x15, .f x16, .f x17, .f x18, .f x19], .box [.f x20, .f x21, .f x22, .f x23, .f x24]]
theorem law02_MachBands.eq (x0 x1 x2 : FV) : law02_MachBands x0 x1 x2 = (
  gB (fIsAgg 6 x0) <|
  gB (fIsAgg 5 x1) <|
  gB (fIsAgg 2 x2) <|
  bindO (ref02_RunBand (.agg [(fCell x0 0), (fCell x0 1), (fCell x0 2), (fCell x0 3), (fCell x0 4), (fCell x0 5)]) (.agg [(fCell x1 0), (fCell x1 1), (fCell x1 2), (fCell x1 3), (fCell x1 4)]) (fCell x2 0)) fun v1 =>
  gB (fIsTup 2 v1) <|
  gB (fIsAgg 5 (fTup v1 0)) <|
  bindO (mach_RunBand (.agg [(fCell x0 0), (fCell x0 1), (fCell x0 2), (fCell x0 3), (fCell x0 4), (fCell x0 5)]) (.agg [(fCell x1 0), (fCell x1 1), (fCell x1 2), (fCell x1 3), (fCell x1 4)]) (fCell x2 0)) fun v2 =>
  gB (fIsTup 2 v2) <|
  gB (fIsAgg 5 (fTup v2 0)) <|
  bindO (fBin .neq (fTup v2 1) (fTup v1 1)) fun v3 =>
  fCond v3
  (some (.bool false))
  (bindO (ref02_SameBand (.agg [(fCell (fTup v2 0) 0), (fCell (fTup v2 0) 1), (fCell (fTup v2 0) 2), (fCell (fTup v2 0) 3), (fCell (fTup v2 0) 4)]) (.agg [(fCell (fTup v1 0) 0), (fCell (fTup v1 0) 1), (fCell (fTup v1 0) 2), (fCell (fTup v1 0) 3), (fCell (fTup v1 0) 4)])) fun v4 =>
  bindO (fUn .not v4) fun v5 =>
  fCond v5
  (some (.bool false))
  (law02_MachBands.L0 (fCell x2 0) (fCell x2 1) (fTup v2 1) (fCell x0 0) (fCell x0 1) (fCell x0 2) (fCell x0 3) (fCell x0 4) (fCell x0 5) (fCell x1 0) (fCell x1 1) (fCell x1 2) (fCell x1 3) (fCell x1 4) (fCell x2 0) (fCell x2 1) (fCell (fTup v1 0) 0) (fCell (fTup v1 0) 1) (fCell (fTup v1 0) 2) (fCell (fTup v1 0) 3) (fCell (fTup v1 0) 4) (fCell (fTup v2 0) 0) (fCell (fTup v2 0) 1) (fCell (fTup v2 0) 2) (fCell (fTup v2 0) 3) (fCell (fTup v2 0) 4)))) := (den_eq E 5 [x0, x1, x2]).trans (by kernel_rfl)
theorem law02_MachBands.L0_eq (x0 : FV) (x1 : FV) (x2 : FV) (x3 : FV) (x4 : FV) (x5 : FV) (x6 : FV) (x7 : FV) (x8 : FV) (x9 : FV) (x10 : FV) (x11 : FV) (x12 : FV) (x13 : FV) (x14 : FV) (x15 : FV) (x16 : FV) (x17 : FV) (x18 : FV) (x19 : FV) (x20 : FV) (x21 : FV) (x22 : FV) (x23 : FV) (x24 : FV) (x25 : FV) : law02_MachBands.L0 x0 x1 x2 x3 x4 x5 x6 x7 x8 x9 x10 x11 x12 x13 x14 x15 x16 x17 x18 x19 x20 x21 x22 x23 x24 x25 = (
  bindO (fBin .neq x2 (.int .i64 0)) fun v27 =>
  fCond v27
  (some (.bool true))
  (bindO (fBin .lss x1 (.int .i64 0)) fun v28 =>
  fCond v28
  (some (.bool true))
  (bindO (fBin .gtr x1 x0) fun v29 =>
  fCond v29
  (some (.bool true))
  (law02_MachBands.L1 x0 x1 x3 x4 x5 x6 x7 x8 x9 x10 x11 x12 x13 x14 x15 x16 x17 x18 x19 x20 x21 x22 x23 x24 x25)))) := (jden_eq E 5 [] [1, 1, 1, 1, 1] _ _).trans (by kernel_rfl)
theorem law02_MachBands.L1_eq (x0 : FV) (x1 : FV) (x2 : FV) (x3 : FV) (x4 : FV) (x5 : FV) (x6 : FV) (x7 : FV) (x8 : FV) (x9 : FV) (x10 : FV) (x11 : FV) (x12 : FV) (x13 : FV) (x14 : FV) (x15 : FV) (x16 : FV) (x17 : FV) (x18 : FV) (x19 : FV) (x20 : FV) (x21 : FV) (x22 : FV) (x23 : FV) (x24 : FV) : law02_MachBands.L1 x0 x1 x2 x3 x4 x5 x6 x7 x8 x9 x10 x11 x12 x13 x14 x15 x16 x17 x18 x19 x20 x21 x22 x23 x24 = (
  bindO (mach_RunBand (.agg [x2, x3, x4, x5, x6, x7]) (.agg [x8, x9, x10, x11, x12]) x1) fun v26 =>
  gB (fIsTup 2 v26) <|
  gB (fIsAgg 5 (fTup v26 0)) <|
  bindO (fBin .neq (fTup v26 1) (.int .i64 0)) fun v27 =>
  fCond v27
  (some (.bool false))
  (bindO (fBin .gtr (fCell (fTup v26 0) 4) (.int .i64 1099511627776)) fun v28 =>
  fCond v28
  (some (.bool true))
  (bindO (fBin .sub x0 x1) fun v29 =>
  bindO (mach_RunBand (.agg [x2, x3, x4, x5, x6, x7]) (.agg [(fCell (fTup v26 0) 0), (fCell (fTup v26 0) 1), (fCell (fTup v26 0) 2), (fCell (fTup v26 0) 3), (fCell (fTup v26 0) 4)]) v29) fun v30 =>
  gB (fIsTup 2 v30) <|
  gB (fIsAgg 5 (fTup v30 0)) <|
  bindO (fBin .eql (fTup v30 1) (.int .i64 0)) fun v31 =>
  fCond v31
  (bindO (ref02_SameBand (.agg [(fCell (fTup v30 0) 0), (fCell (fTup v30 0) 1), (fCell (fTup v30 0) 2), (fCell (fTup v30 0) 3), (fCell (fTup v30 0) 4)]) (.agg [x20, x21, x22, x23, x24])) fun v32 =>
  some v32)
  (some (.bool false))))) := (jden_eq E 5 [] [1, 1, 1, 1, 1, 1] _ _).trans (by kernel_rfl)
end Go.Proofs.Ytelcbakleaaneaa
