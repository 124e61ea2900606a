/- The code of the functions, as the abstract machine runs it. -/
import Derived.Test.YtelcbakleaaneaaEnv
import Derived.KernelRfl
namespace Go.Proofs.Ytelcbakleaaneaa
open Go Go.Proofs.Ytelcbakleaaneaa.VM
set_option linter.unusedVariables false
/-! ### ramet/rametref02.sameInts (function 55) -/
noncomputable def ref02_sameInts.L0 (x0 : FV) (x1 : FV) (x2 : FV) : R := jden E 55 [] [4, 1, 0, 1, 1] (mkF 26 [(0, .f x0), (1, .f x1), (5, .f x2)]) []
theorem ref02_sameInts.eq (x0 x1 : FV) : ref02_sameInts x0 x1 = (
  bindO (fLen x0) fun v1 =>
  bindO (fLen x1) fun v2 =>
  bindO (fBin .neq v1 v2) fun v3 =>
  fCond v3
  (some (.bool false))
  (ref02_sameInts.L0 x0 x1 (.int .i64 0))) := (den_eq E 55 [x0, x1]).trans (by kernel_rfl)
theorem ref02_sameInts.L0_eq (x0 : FV) (x1 : FV) (x2 : FV) : ref02_sameInts.L0 x0 x1 x2 = (
  bindO (fLen x0) fun v4 =>
  bindO (fBin .lss x2 v4) fun v5 =>
  fCond v5
  (bindO (fIdxC 1 x0 x2) fun c6 =>
  bindO (c6[0]?) fun v7 =>
  bindO (fIdxC 1 x1 x2) fun c8 =>
  bindO (c8[0]?) fun v9 =>
  bindO (fBin .neq v7 v9) fun v10 =>
  fCond v10
  (some (.bool false))
  (bindO (fBin .add x2 (.int .i64 1)) fun v11 =>
  ref02_sameInts.L0 x0 x1 v11))
  (some (.bool true))) := (jden_eq E 55 [] [4, 1, 0, 1, 1] _ _).trans (by kernel_rfl)
/-! ### ramet/rametref02.SameLists (function 16) -/
noncomputable def ref02_SameLists.L0 (x0 : FV) (x1 : FV) (x2 : FV) : R := jden E 16 [] [4, 1, 0, 1, 1] (mkF 27 [(0, .f x0), (1, .f x1), (5, .f x2)]) []
theorem ref02_SameLists.eq (x0 x1 : FV) : ref02_SameLists x0 x1 = (
  bindO (fLen x0) fun v1 =>
  bindO (fLen x1) fun v2 =>
  bindO (fBin .neq v1 v2) fun v3 =>
  fCond v3
  (some (.bool false))
  (ref02_SameLists.L0 x0 x1 (.int .i64 0))) := (den_eq E 16 [x0, x1]).trans (by kernel_rfl)
theorem ref02_SameLists.L0_eq (x0 : FV) (x1 : FV) (x2 : FV) : ref02_SameLists.L0 x0 x1 x2 = (
  bindO (fLen x0) fun v4 =>
  bindO (fBin .lss x2 v4) fun v5 =>
  fCond v5
  (bindO (fIdxC 1 x0 x2) fun c6 =>
  bindO (c6[0]?) fun v7 =>
  bindO (fIdxC 1 x1 x2) fun c8 =>
  bindO (c8[0]?) fun v9 =>
  bindO (ref02_sameInts v7 v9) fun v10 =>
  bindO (fUn .not v10) fun v11 =>
  fCond v11
  (some (.bool false))
  (bindO (fBin .add x2 (.int .i64 1)) fun v12 =>
  ref02_SameLists.L0 x0 x1 v12))
  (some (.bool true))) := (jden_eq E 16 [] [4, 1, 0, 1, 1] _ _).trans (by kernel_rfl)
/-! ### ramet/rametref02.right (function 56) -/
noncomputable def ref02_right.L0 (x0 : FV) (x1 : FV) (x2 : FV) : R := jden E 56 [] [4, 1, 0, 1, 1] (mkF 35 [(0, .f x0), (1, .f x1), (5, .f x2)]) []
theorem ref02_right.eq (x0 x1 : FV) : ref02_right x0 x1 = (
  bindO (fLen x1) fun v1 =>
  bindO (fLen x0) fun v2 =>
  bindO (fBin .neq v1 v2) fun v3 =>
  fCond v3
  (some (.bool false))
  (ref02_right.L0 x0 x1 (.int .i64 0))) := (den_eq E 56 [x0, x1]).trans (by kernel_rfl)
theorem ref02_right.L0_eq (x0 : FV) (x1 : FV) (x2 : FV) : ref02_right.L0 x0 x1 x2 = (
  bindO (fLen x0) fun v4 =>
  bindO (fBin .lss x2 v4) fun v5 =>
  fCond v5
  (bindO (fIdxC 1 x1 x2) fun c6 =>
  bindO (c6[0]?) fun v7 =>
  bindO (fBin .lss v7 (.int .i64 0)) fun v8 =>
  fCond v8
  (some (.bool false))
  (bindO (fIdxC 1 x1 x2) fun c9 =>
  bindO (c9[0]?) fun v10 =>
  bindO (fIdxC 2 x0 x2) fun c11 =>
  bindO (c11[1]?) fun v12 =>
  bindO (fLen v12) fun v13 =>
  bindO (fBin .geq v10 v13) fun v14 =>
  fCond v14
  (some (.bool false))
  (bindO (fBin .add x2 (.int .i64 1)) fun v15 =>
  ref02_right.L0 x0 x1 v15)))
  (some (.bool true))) := (jden_eq E 56 [] [4, 1, 0, 1, 1] _ _).trans (by kernel_rfl)
/-! ### ramet/rametref02.IsName (function 76) -/
noncomputable def ref02_IsName.L0 (x0 : FV) (x1 : FV) : R := jden E 76 [] [4, 1, 0, 1] (mkF 45 [(0, .f x0), (3, .f x1)]) []
theorem ref02_IsName.eq (x0 : FV) : ref02_IsName x0 = (
  ref02_IsName.L0 x0 (.int .i64 0)) := (den_eq E 76 [x0]).trans (by kernel_rfl)
theorem ref02_IsName.L0_eq (x0 : FV) (x1 : FV) : ref02_IsName.L0 x0 x1 = (
  bindO (fLenT x0) fun v3 =>
  bindO (fBin .lss x1 v3) fun v4 =>
  fCond v4
  (bindO (fByte x0 x1) fun v5 =>
  bindO (fBin .geq v5 (.int .u8 97)) fun v6 =>
  fCond v6
  (bindO (fBin .leq v5 (.int .u8 122)) fun v7 =>
  fCond v7
  (bindO (fUn .not (.bool true)) fun v8 =>
  fCond v8
  (some (.bool false))
  (bindO (fBin .add x1 (.int .i64 1)) fun v9 =>
  ref02_IsName.L0 x0 v9))
  (bindO (fBin .geq v5 (.int .u8 65)) fun v10 =>
  fCond v10
  (bindO (fBin .leq v5 (.int .u8 90)) fun v11 =>
  fCond v11
  (bindO (fUn .not (.bool true)) fun v12 =>
  fCond v12
  (some (.bool false))
  (bindO (fBin .add x1 (.int .i64 1)) fun v13 =>
  ref02_IsName.L0 x0 v13))
  (bindO (fBin .geq v5 (.int .u8 48)) fun v14 =>
  fCond v14
  (bindO (fBin .leq v5 (.int .u8 57)) fun v15 =>
  bindO (fUn .not v15) fun v16 =>
  fCond v16
  (some (.bool false))
  (bindO (fBin .add x1 (.int .i64 1)) fun v17 =>
  ref02_IsName.L0 x0 v17))
  (bindO (fUn .not (.bool false)) fun v18 =>
  fCond v18
  (some (.bool false))
  (bindO (fBin .add x1 (.int .i64 1)) fun v19 =>
  ref02_IsName.L0 x0 v19))))
  (bindO (fBin .geq v5 (.int .u8 48)) fun v20 =>
  fCond v20
  (bindO (fBin .leq v5 (.int .u8 57)) fun v21 =>
  bindO (fUn .not v21) fun v22 =>
  fCond v22
  (some (.bool false))
  (bindO (fBin .add x1 (.int .i64 1)) fun v23 =>
  ref02_IsName.L0 x0 v23))
  (bindO (fUn .not (.bool false)) fun v24 =>
  fCond v24
  (some (.bool false))
  (bindO (fBin .add x1 (.int .i64 1)) fun v25 =>
  ref02_IsName.L0 x0 v25)))))
  (bindO (fBin .geq v5 (.int .u8 65)) fun v26 =>
  fCond v26
  (bindO (fBin .leq v5 (.int .u8 90)) fun v27 =>
  fCond v27
  (bindO (fUn .not (.bool true)) fun v28 =>
  fCond v28
  (some (.bool false))
  (bindO (fBin .add x1 (.int .i64 1)) fun v29 =>
  ref02_IsName.L0 x0 v29))
  (bindO (fBin .geq v5 (.int .u8 48)) fun v30 =>
  fCond v30
  (bindO (fBin .leq v5 (.int .u8 57)) fun v31 =>
  bindO (fUn .not v31) fun v32 =>
  fCond v32
  (some (.bool false))
  (bindO (fBin .add x1 (.int .i64 1)) fun v33 =>
  ref02_IsName.L0 x0 v33))
  (bindO (fUn .not (.bool false)) fun v34 =>
  fCond v34
  (some (.bool false))
  (bindO (fBin .add x1 (.int .i64 1)) fun v35 =>
  ref02_IsName.L0 x0 v35))))
  (bindO (fBin .geq v5 (.int .u8 48)) fun v36 =>
  fCond v36
  (bindO (fBin .leq v5 (.int .u8 57)) fun v37 =>
  bindO (fUn .not v37) fun v38 =>
  fCond v38
  (some (.bool false))
  (bindO (fBin .add x1 (.int .i64 1)) fun v39 =>
  ref02_IsName.L0 x0 v39))
  (bindO (fUn .not (.bool false)) fun v40 =>
  fCond v40
  (some (.bool false))
  (bindO (fBin .add x1 (.int .i64 1)) fun v41 =>
  ref02_IsName.L0 x0 v41)))))
  (bindO (fLenT x0) fun v42 =>
  bindO (fBin .geq v42 (.int .i64 1)) fun v43 =>
  fCond v43
  (bindO (fLenT x0) fun v44 =>
  bindO (fBin .leq v44 (.int .i64 16)) fun v45 =>
  some v45)
  (some (.bool false)))) := (jden_eq E 76 [] [4, 1, 0, 1] _ _).trans (by kernel_rfl)
/-! ### ramet/rametref02.place (function 141) -/
noncomputable def ref02_place.L0 (x0 : FV) (x1 : FV) (x2 : FV) : R := jden E 141 [] [4, 1, 0, 1] (mkF 19 [(0, .f x0), (1, .f x1), (5, .f x2)]) []
theorem ref02_place.eq (x0 x1 : FV) : ref02_place x0 x1 = (
  ref02_place.L0 x0 x1 (.int .i64 0)) := (den_eq E 141 [x0, x1]).trans (by kernel_rfl)
theorem ref02_place.L0_eq (x0 : FV) (x1 : FV) (x2 : FV) : ref02_place.L0 x0 x1 x2 = (
  bindO (fLen x0) fun v4 =>
  bindO (fBin .lss x2 v4) fun v5 =>
  fCond v5
  (bindO (fIdxC 1 x0 x2) fun c6 =>
  bindO (c6[0]?) fun v7 =>
  bindO (fBin .eql v7 x1) fun v8 =>
  fCond v8
  (some x2)
  (bindO (fBin .add x2 (.int .i64 1)) fun v9 =>
  ref02_place.L0 x0 x1 v9))
  (some (.int .i64 (-1)))) := (jden_eq E 141 [] [4, 1, 0, 1] _ _).trans (by kernel_rfl)
/-! ### ramet/rametref02.checkNames (function 77) -/
noncomputable def ref02_checkNames.L0 (x0 : FV) (x1 : FV) : R := jden E 77 [] [4, 1, 0, 1] (mkF 25 [(0, .f x0), (3, .f x1)]) []
theorem ref02_checkNames.eq (x0 : FV) : ref02_checkNames x0 = (
  ref02_checkNames.L0 x0 (.int .i64 0)) := (den_eq E 77 [x0]).trans (by kernel_rfl)
theorem ref02_checkNames.L0_eq (x0 : FV) (x1 : FV) : ref02_checkNames.L0 x0 x1 = (
  bindO (fLen x0) fun v3 =>
  bindO (fBin .lss x1 v3) fun v4 =>
  fCond v4
  (bindO (fIdxC 1 x0 x1) fun c5 =>
  bindO (c5[0]?) fun v6 =>
  bindO (ref02_IsName v6) fun v7 =>
  bindO (fUn .not v7) fun v8 =>
  fCond v8
  (some (.int .i64 21))
  (bindO (fCut 1 x0 none (some x1)) fun v9 =>
  bindO (fIdxC 1 x0 x1) fun c10 =>
  bindO (c10[0]?) fun v11 =>
  bindO (ref02_place v9 v11) fun v12 =>
  bindO (fBin .geq v12 (.int .i64 0)) fun v13 =>
  fCond v13
  (some (.int .i64 22))
  (bindO (fBin .add x1 (.int .i64 1)) fun v14 =>
  ref02_checkNames.L0 x0 v14)))
  (some (.int .i64 0))) := (jden_eq E 77 [] [4, 1, 0, 1] _ _).trans (by kernel_rfl)
/-! ### ramet/rametref02.portAt (function 78) -/
noncomputable def ref02_portAt.L0 (x0 : FV) (x1 : FV) (x2 : FV) : R := jden E 78 [] [4, 1, 0, 1] (mkF 20 [(0, .f x0), (1, .f x1), (5, .f x2)]) []
theorem ref02_portAt.eq (x0 x1 : FV) : ref02_portAt x0 x1 = (
  ref02_portAt.L0 x0 x1 (.int .i64 0)) := (den_eq E 78 [x0, x1]).trans (by kernel_rfl)
theorem ref02_portAt.L0_eq (x0 : FV) (x1 : FV) (x2 : FV) : ref02_portAt.L0 x0 x1 x2 = (
  bindO (fLen x0) fun v4 =>
  bindO (fBin .lss x2 v4) fun v5 =>
  fCond v5
  (bindO (fIdxC 2 x0 x2) fun c6 =>
  bindO (c6[0]?) fun v7 =>
  bindO (fBin .eql v7 x1) fun v8 =>
  fCond v8
  (some x2)
  (bindO (fBin .add x2 (.int .i64 1)) fun v9 =>
  ref02_portAt.L0 x0 x1 v9))
  (some (.int .i64 (-1)))) := (jden_eq E 78 [] [4, 1, 0, 1] _ _).trans (by kernel_rfl)
/-! ### ramet/rametref02.product (function 79) -/
noncomputable def ref02_product.L0 (x0 : FV) (x1 : FV) (x2 : FV) : R := jden E 79 [] [4, 1, 0, 1, 1] (mkF 21 [(0, .f x0), (3, .f x1), (4, .f x2)]) []
theorem ref02_product.eq (x0 : FV) : ref02_product x0 = (
  ref02_product.L0 x0 (.int .i64 1) (.int .i64 0)) := (den_eq E 79 [x0]).trans (by kernel_rfl)
theorem ref02_product.L0_eq (x0 : FV) (x1 : FV) (x2 : FV) : ref02_product.L0 x0 x1 x2 = (
  bindO (fLen x0) fun v4 =>
  bindO (fBin .lss x2 v4) fun v5 =>
  fCond v5
  (bindO (fIdxC 2 x0 x2) fun c6 =>
  bindO (c6[1]?) fun v7 =>
  bindO (fLen v7) fun v8 =>
  bindO (fBin .mul x1 v8) fun v9 =>
  bindO (fMinMax false v9 (.int .i64 2097152)) fun v10 =>
  bindO (fBin .add x2 (.int .i64 1)) fun v11 =>
  ref02_product.L0 x0 v10 v11)
  (some x1)) := (jden_eq E 79 [] [4, 1, 0, 1, 1] _ _).trans (by kernel_rfl)
/-! ### ramet/rametref02.Check (function 27) -/
noncomputable def ref02_Check.L0 (x0 : FV) (x1 : FV) (x2 : FV) (x3 : FV) (x4 : FV) (x5 : FV) : R := jden E 27 [] [1, 1] (mkF 161 [(1, .ptr 0 0 0)]) [.box [.f x0, .f x1, .f x2, .f x3, .f x4, .f x5]]
noncomputable def ref02_Check.L1 (x0 : FV) (x1 : FV) (x2 : FV) (x3 : FV) (x4 : FV) (x5 : FV) : R := jden E 27 [] [1, 1, 1, 1] (mkF 161 [(1, .ptr 0 0 0)]) [.box [.f x0, .f x1, .f x2, .f x3, .f x4, .f x5]]
noncomputable def ref02_Check.L2 (x0 : FV) (x1 : FV) (x2 : FV) (x3 : FV) (x4 : FV) (x5 : FV) (x6 : FV) (x7 : FV) (r8 : List (List FV)) : R := jden E 27 [] [4, 1, 0, 1, 1, 1, 1, 1, 1] (mkF 161 [(1, .ptr 0 0 0), (4, .f x0), (5, .f x1)]) [.box [.f x2, .f x3, .f x4, .f x5, .f x6, .f x7], .dead, .dead, .fz r8]
noncomputable def ref02_Check.L3 (x0 : FV) (x1 : FV) (x2 : FV) (x3 : FV) (x4 : FV) (x5 : FV) (x6 : FV) (x7 : FV) (r8 : List (List FV)) : R := jden E 27 [] [1, 1, 4, 0, 1, 5, 4, 1, 0, 1, 1, 1, 1, 1, 1] (mkF 161 [(1, .ptr 0 0 0), (4, .f x0), (5, .f x1)]) [.box [.f x2, .f x3, .f x4, .f x5, .f x6, .f x7], .dead, .dead, .fz r8]
noncomputable def ref02_Check.L4 (x0 : FV) (x1 : FV) (x2 : FV) (x3 : FV) (x4 : FV) (x5 : FV) (r6 : List (List FV)) : R := jden E 27 [] [1, 1, 1, 1, 1, 1, 1] (mkF 161 [(1, .ptr 0 0 0)]) [.box [.f x0, .f x1, .f x2, .f x3, .f x4, .f x5], .dead, .dead, .fz r6]
noncomputable def ref02_Check.L5 (x0 : FV) (x1 : FV) (x2 : FV) (x3 : FV) (x4 : FV) (x5 : FV) (x6 : FV) (r7 : List (List FV)) : R := jden E 27 [] [4, 1, 0, 1, 1, 1, 1, 1, 1, 1, 1, 1, 1, 1] (mkF 161 [(1, .ptr 0 0 0), (8, .f x0)]) [.box [.f x1, .f x2, .f x3, .f x4, .f x5, .f x6], .dead, .dead, .fz r7]
theorem ref02_Check.eq (x0 : FV) : ref02_Check x0 = (
  gB (fIsAgg 6 x0) <|
  bindO (ref02_IsName (fCell x0 0)) fun v1 =>
  bindO (fUn .not v1) fun v2 =>
  fCond v2
  (some (.int .i64 21))
  (bindO (fLen (fCell x0 1)) fun v3 =>
  bindO (fBin .eql v3 (.int .i64 0)) fun v4 =>
  fCond v4
  (some (.int .i64 26))
  (bindO (fLen (fCell x0 1)) fun v5 =>
  bindO (fBin .gtr v5 (.int .i64 256)) fun v6 =>
  fCond v6
  (some (.int .i64 26))
  (ref02_Check.L0 (fCell x0 0) (fCell x0 1) (fCell x0 2) (fCell x0 3) (fCell x0 4) (fCell x0 5))))) := (den_eq E 27 [x0]).trans (by kernel_rfl)
theorem ref02_Check.L0_eq (x0 : FV) (x1 : FV) (x2 : FV) (x3 : FV) (x4 : FV) (x5 : FV) : ref02_Check.L0 x0 x1 x2 x3 x4 x5 = (
  bindO (ref02_checkNames x1) fun v7 =>
  bindO (fBin .neq v7 (.int .i64 0)) fun v8 =>
  fCond v8
  (some v7)
  (bindO (fLen x3) fun v9 =>
  bindO (fBin .gtr v9 (.int .i64 8)) fun v10 =>
  fCond v10
  (some (.int .i64 26))
  (bindO (fLen x4) fun v11 =>
  bindO (fBin .gtr v11 (.int .i64 8)) fun v12 =>
  fCond v12
  (some (.int .i64 26))
  (ref02_Check.L1 x0 x1 x2 x3 x4 x5)))) := (jden_eq E 27 [] [1, 1] _ _).trans (by kernel_rfl)
theorem ref02_Check.L1_eq (x0 : FV) (x1 : FV) (x2 : FV) (x3 : FV) (x4 : FV) (x5 : FV) : ref02_Check.L1 x0 x1 x2 x3 x4 x5 = (
  bindO (asRows x3) fun r7 =>
  gB (rowsSz 2 r7) <|
  gB (decide ((0 + r7.length) * 40 ≤ room)) <|
  bindO (asRows x4) fun r8 =>
  gB (rowsSz 2 r8) <|
  gB (decide ((([] ++ r7).length + r8.length) * 40 ≤ room)) <|
  ref02_Check.L2 (.arr (([] ++ r7) ++ r8)) (.int .i64 0) x0 x1 x2 x3 x4 x5 (([] ++ r7) ++ r8)) := (jden_eq E 27 [] [1, 1, 1, 1] _ _).trans (by kernel_rfl)
theorem ref02_Check.L2_eq (x0 : FV) (x1 : FV) (x2 : FV) (x3 : FV) (x4 : FV) (x5 : FV) (x6 : FV) (x7 : FV) (r8 : List (List FV)) : ref02_Check.L2 x0 x1 x2 x3 x4 x5 x6 x7 r8 = (
  bindO (fLen x0) fun v10 =>
  bindO (fBin .lss x1 v10) fun v11 =>
  fCond v11
  (bindO (fIdxC 2 x0 x1) fun c12 =>
  bindO (c12[0]?) fun v13 =>
  bindO (ref02_IsName v13) fun v14 =>
  bindO (fUn .not v14) fun v15 =>
  fCond v15
  (some (.int .i64 21))
  (bindO (fCut 2 x0 none (some x1)) fun v16 =>
  bindO (fIdxC 2 x0 x1) fun c17 =>
  bindO (c17[0]?) fun v18 =>
  bindO (ref02_portAt v16 v18) fun v19 =>
  bindO (fBin .geq v19 (.int .i64 0)) fun v20 =>
  fCond v20
  (some (.int .i64 22))
  (bindO (fIdxC 2 x0 x1) fun c21 =>
  bindO (c21[1]?) fun v22 =>
  bindO (fLen v22) fun v23 =>
  bindO (fBin .eql v23 (.int .i64 0)) fun v24 =>
  fCond v24
  (some (.int .i64 26))
  (bindO (fIdxC 2 x0 x1) fun c25 =>
  bindO (c25[1]?) fun v26 =>
  bindO (fLen v26) fun v27 =>
  bindO (fBin .gtr v27 (.int .i64 64)) fun v28 =>
  fCond v28
  (some (.int .i64 26))
  (ref02_Check.L3 x0 x1 x2 x3 x4 x5 x6 x7 r8)))))
  (bindO (fBin .lss x4 (.int .i64 0)) fun v29 =>
  fCond v29
  (some (.int .i64 27))
  (bindO (fLen x3) fun v30 =>
  bindO (fBin .geq x4 v30) fun v31 =>
  fCond v31
  (some (.int .i64 27))
  (ref02_Check.L4 x2 x3 x4 x5 x6 x7 r8)))) := (jden_eq E 27 [] [4, 1, 0, 1, 1, 1, 1, 1, 1] _ _).trans (by kernel_rfl)
theorem ref02_Check.L3_eq (x0 : FV) (x1 : FV) (x2 : FV) (x3 : FV) (x4 : FV) (x5 : FV) (x6 : FV) (x7 : FV) (r8 : List (List FV)) : ref02_Check.L3 x0 x1 x2 x3 x4 x5 x6 x7 r8 = (
  bindO (fIdxC 2 x0 x1) fun c10 =>
  bindO (c10[1]?) fun v11 =>
  bindO (ref02_checkNames v11) fun v12 =>
  bindO (fBin .neq v12 (.int .i64 0)) fun v13 =>
  fCond v13
  (some v12)
  (bindO (fBin .add x1 (.int .i64 1)) fun v14 =>
  ref02_Check.L2 x0 v14 x2 x3 x4 x5 x6 x7 r8)) := (jden_eq E 27 [] [1, 1, 4, 0, 1, 5, 4, 1, 0, 1, 1, 1, 1, 1, 1] _ _).trans (by kernel_rfl)
theorem ref02_Check.L4_eq (x0 : FV) (x1 : FV) (x2 : FV) (x3 : FV) (x4 : FV) (x5 : FV) (r6 : List (List FV)) : ref02_Check.L4 x0 x1 x2 x3 x4 x5 r6 = (
  bindO (ref02_product x3) fun v8 =>
  bindO (fLen x1) fun v9 =>
  bindO (fBin .mul v9 v8) fun v10 =>
  bindO (fBin .gtr v10 (.int .i64 4096)) fun v11 =>
  fCond v11
  (some (.int .i64 26))
  (bindO (fLen x5) fun v12 =>
  bindO (fLen x1) fun v13 =>
  bindO (fBin .mul v13 v8) fun v14 =>
  bindO (fBin .neq v12 v14) fun v15 =>
  fCond v15
  (some (.int .i64 23))
  (ref02_Check.L5 (.int .i64 0) x0 x1 x2 x3 x4 x5 r6))) := (jden_eq E 27 [] [1, 1, 1, 1, 1, 1, 1] _ _).trans (by kernel_rfl)
theorem ref02_Check.L5_eq (x0 : FV) (x1 : FV) (x2 : FV) (x3 : FV) (x4 : FV) (x5 : FV) (x6 : FV) (r7 : List (List FV)) : ref02_Check.L5 x0 x1 x2 x3 x4 x5 x6 r7 = (
  bindO (fLen x6) fun v9 =>
  bindO (fBin .lss x0 v9) fun v10 =>
  fCond v10
  (bindO (fIdxC 2 x6 x0) fun c11 =>
  bindO (c11[0]?) fun v12 =>
  bindO (fBin .lss v12 (.int .i64 0)) fun v13 =>
  fCond v13
  (some (.int .i64 27))
  (bindO (fIdxC 2 x6 x0) fun c14 =>
  bindO (c14[0]?) fun v15 =>
  bindO (fLen x2) fun v16 =>
  bindO (fBin .geq v15 v16) fun v17 =>
  fCond v17
  (some (.int .i64 27))
  (bindO (fIdxC 2 x6 x0) fun c18 =>
  bindO (c18[1]?) fun v19 =>
  bindO (ref02_right x5 v19) fun v20 =>
  bindO (fUn .not v20) fun v21 =>
  fCond v21
  (some (.int .i64 27))
  (bindO (fBin .add x0 (.int .i64 1)) fun v22 =>
  ref02_Check.L5 v22 x1 x2 x3 x4 x5 x6 r7))))
  (some (.int .i64 0))) := (jden_eq E 27 [] [4, 1, 0, 1, 1, 1, 1, 1, 1, 1, 1, 1, 1, 1] _ _).trans (by kernel_rfl)
/-! ### ramet/rametref02.Index (function 139) -/
noncomputable def ref02_Index.L0 (x0 : FV) (x1 : FV) (x2 : FV) (x3 : FV) : R := jden E 139 [] [4, 1, 0, 1, 1] (mkF 27 [(0, .f x0), (1, .f x1), (5, .f x2), (6, .f x3)]) []
theorem ref02_Index.eq (x0 x1 : FV) : ref02_Index x0 x1 = (
  ref02_Index.L0 x0 x1 (.int .i64 0) (.int .i64 0)) := (den_eq E 139 [x0, x1]).trans (by kernel_rfl)
theorem ref02_Index.L0_eq (x0 : FV) (x1 : FV) (x2 : FV) (x3 : FV) : ref02_Index.L0 x0 x1 x2 x3 = (
  bindO (fLen x0) fun v5 =>
  bindO (fBin .lss x3 v5) fun v6 =>
  fCond v6
  (bindO (fIdxC 2 x0 x3) fun c7 =>
  bindO (c7[1]?) fun v8 =>
  bindO (fLen v8) fun v9 =>
  bindO (fBin .mul x2 v9) fun v10 =>
  bindO (fIdxC 1 x1 x3) fun c11 =>
  bindO (c11[0]?) fun v12 =>
  bindO (fBin .add v10 v12) fun v13 =>
  bindO (fBin .add x3 (.int .i64 1)) fun v14 =>
  ref02_Index.L0 x0 x1 v13 v14)
  (some x2)) := (jden_eq E 139 [] [4, 1, 0, 1, 1] _ _).trans (by kernel_rfl)
/-! ### ramet/rametref02.one (function 57) -/
theorem ref02_one.eq (x0 x1 x2 : FV) : ref02_one x0 x1 x2 = (
  gB (fIsAgg 6 x0) <|
  bindO (ref02_product (fCell x0 3)) fun v1 =>
  bindO (fBin .mul x1 v1) fun v2 =>
  bindO (ref02_Index (fCell x0 3) x2) fun v3 =>
  bindO (fBin .add v2 v3) fun v4 =>
  bindO (fIdxC 2 (fCell x0 5) v4) fun c5 =>
  bindO (c5[0]?) fun v6 =>
  bindO (c5[1]?) fun v7 =>
  some (.agg [v6, v7])) := (den_eq E 57 [x0, x1, x2]).trans (by kernel_rfl)
/-! ### ramet/rametref02.Run (function 17) -/
noncomputable def ref02_Run.L0 (x0 : FV) (x1 : FV) (x2 : FV) (x3 : FV) (x4 : FV) (x5 : FV) (x6 : FV) (x7 : FV) (x8 : FV) (r9 : List (List FV)) : R := jden E 17 [] [4, 1, 0, 1, 1, 1, 1, 1] (mkF 54 [(1, .f x0), (2, .ptr 0 0 0), (8, .ref 1), (9, .f x1), (10, .f x2)]) [.box [.f x3, .f x4, .f x5, .f x6, .f x7, .f x8], .own 1 r9]
theorem ref02_Run.eq (x0 x1 : FV) : ref02_Run x0 x1 = (
  gB (fIsAgg 6 x0) <|
  bindO (ref02_Check (.agg [(fCell x0 0), (fCell x0 1), (fCell x0 2), (fCell x0 3), (fCell x0 4), (fCell x0 5)])) fun v1 =>
  bindO (fBin .neq v1 (.int .i64 0)) fun v2 =>
  fCond v2
  (some (.tup [.nilS, .int .i64 0, v1]))
  (bindO (fLen x1) fun v3 =>
  bindO (fBin .gtr v3 (.int .i64 4096)) fun v4 =>
  fCond v4
  (some (.tup [.nilS, .int .i64 0, .int .i64 26]))
  (ref02_Run.L0 x1 (fCell x0 2) (.int .i64 0) (fCell x0 0) (fCell x0 1) (fCell x0 2) (fCell x0 3) (fCell x0 4) (fCell x0 5) []))) := (den_eq E 17 [x0, x1]).trans (by kernel_rfl)
theorem ref02_Run.L0_eq (x0 : FV) (x1 : FV) (x2 : FV) (x3 : FV) (x4 : FV) (x5 : FV) (x6 : FV) (x7 : FV) (x8 : FV) (r9 : List (List FV)) : ref02_Run.L0 x0 x1 x2 x3 x4 x5 x6 x7 x8 r9 = (
  bindO (fLen x0) fun v11 =>
  bindO (fBin .lss x2 v11) fun v12 =>
  fCond v12
  (bindO (fIdxC 1 x0 x2) fun c13 =>
  bindO (c13[0]?) fun v14 =>
  bindO (ref02_right x6 v14) fun v15 =>
  bindO (fUn .not v15) fun v16 =>
  fCond v16
  (some (.tup [.nilS, .int .i64 0, .int .i64 27]))
  (bindO (fIdxC 1 x0 x2) fun c17 =>
  bindO (c17[0]?) fun v18 =>
  bindO (ref02_one (.agg [x3, x4, x5, x6, x7, x8]) x1 v18) fun v19 =>
  gB (fIsAgg 2 v19) <|
  bindO (asRows (fCell v19 1)) fun r20 =>
  gB (rowsSz 1 r20) <|
  gB (decide ((0 + r20.length) * 8 ≤ room)) <|
  gB (decide ((r9.length + 1) * 24 ≤ room)) <|
  bindO (fBin .add x2 (.int .i64 1)) fun v21 =>
  ref02_Run.L0 x0 (fCell v19 0) v21 x3 x4 x5 x6 x7 x8 (r9 ++ [[.arr ([] ++ r20)]])))
  (some (.tup [.arr r9, x1, .int .i64 0]))) := (jden_eq E 17 [] [4, 1, 0, 1, 1, 1, 1, 1] _ _).trans (by kernel_rfl)
/-! ### ramet/mach.fit (function 58) -/
noncomputable def mach_fit.L0 (x0 : FV) (x1 : FV) (x2 : FV) (x3 : FV) : R := jden E 58 [] [4, 1, 0, 1, 1] (mkF 32 [(0, .f x0), (12, .f x1), (13, .f x2), (14, .f x3)]) []
theorem mach_fit.eq (x0 x1 : FV) : mach_fit x0 x1 = (
  bindO (fLen x0) fun v1 =>
  bindO (fLen x1) fun v2 =>
  bindO (fBin .neq v1 v2) fun v3 =>
  fCond v3
  (some (.bool false))
  (bindO (fLen x1) fun v4 =>
  mach_fit.L0 x0 x1 v4 (.int .i64 0))) := (den_eq E 58 [x0, x1]).trans (by kernel_rfl)
theorem mach_fit.L0_eq (x0 : FV) (x1 : FV) (x2 : FV) (x3 : FV) : mach_fit.L0 x0 x1 x2 x3 = (
  bindO (fBin .lss x3 x2) fun v5 =>
  fCond v5
  (bindO (fIdxC 1 x1 x3) fun c6 =>
  bindO (c6[0]?) fun v7 =>
  bindO (fBin .lss v7 (.int .i64 0)) fun v8 =>
  fCond v8
  (some (.bool false))
  (bindO (fIdxC 2 x0 x3) fun c9 =>
  bindO (c9[1]?) fun v10 =>
  bindO (fLen v10) fun v11 =>
  bindO (fBin .geq v7 v11) fun v12 =>
  fCond v12
  (some (.bool false))
  (bindO (fBin .add x3 (.int .i64 1)) fun v13 =>
  mach_fit.L0 x0 x1 x2 v13)))
  (some (.bool true))) := (jden_eq E 58 [] [4, 1, 0, 1, 1] _ _).trans (by kernel_rfl)
/-! ### ramet/mach.product (function 59) -/
noncomputable def mach_product.L0 (x0 : FV) (x1 : FV) (x2 : FV) (x3 : FV) : R := jden E 59 [] [4, 1, 0, 1, 1] (mkF 21 [(3, .f x0), (6, .f x1), (7, .f x2), (8, .f x3)]) []
theorem mach_product.eq (x0 : FV) : mach_product x0 = (
  bindO (fLen x0) fun v1 =>
  mach_product.L0 (.int .i64 1) x0 v1 (.int .i64 0)) := (den_eq E 59 [x0]).trans (by kernel_rfl)
theorem mach_product.L0_eq (x0 : FV) (x1 : FV) (x2 : FV) (x3 : FV) : mach_product.L0 x0 x1 x2 x3 = (
  bindO (fBin .lss x3 x2) fun v5 =>
  fCond v5
  (bindO (fIdxC 2 x1 x3) fun c6 =>
  bindO (c6[0]?) fun v7 =>
  bindO (c6[1]?) fun v8 =>
  bindO (fLen v8) fun v9 =>
  bindO (fBin .mul x0 v9) fun v10 =>
  bindO (fBin .gtr v10 (.int .i64 1099511627776)) fun v11 =>
  fCond v11
  (some (.int .i64 1099511627776))
  (bindO (fBin .add x3 (.int .i64 1)) fun v12 =>
  mach_product.L0 v10 x1 x2 v12))
  (some x0)) := (jden_eq E 59 [] [4, 1, 0, 1, 1] _ _).trans (by kernel_rfl)
/-! ### ramet/mach.isName (function 89) -/
noncomputable def mach_isName.L0 (x0 : FV) (x1 : FV) (k2 : Nat) : R := jden E 89 [] [4, 1, 0, 1, 1] (mkF 42 [(3, .f x0), (7, .it 0)]) [.sit x1 k2]
theorem mach_isName.eq (x0 : FV) : mach_isName x0 = (
  gB (isStrF x0) <|
  mach_isName.L0 (.int .i64 0) x0 0) := (den_eq E 89 [x0]).trans (by kernel_rfl)
theorem mach_isName.L0_eq (x0 : FV) (x1 : FV) (k2 : Nat) : mach_isName.L0 x0 x1 k2 = (
  bindO (fNext x1 k2) fun v4 =>
  fCond (.bool v4.1)
  (bindO (fBin .geq (.int .i32 v4.2.1) (.int .i32 65)) fun v5 =>
  fCond v5
  (bindO (fBin .leq (.int .i32 v4.2.1) (.int .i32 90)) fun v6 =>
  fCond v6
  (bindO (fUn .not (.bool true)) fun v7 =>
  fCond v7
  (some (.bool false))
  (bindO (fBin .add x0 (.int .i64 1)) fun v8 =>
  mach_isName.L0 v8 x1 v4.2.2))
  (bindO (fBin .geq (.int .i32 v4.2.1) (.int .i32 97)) fun v9 =>
  fCond v9
  (bindO (fBin .leq (.int .i32 v4.2.1) (.int .i32 122)) fun v10 =>
  fCond v10
  (bindO (fUn .not (.bool true)) fun v11 =>
  fCond v11
  (some (.bool false))
  (bindO (fBin .add x0 (.int .i64 1)) fun v12 =>
  mach_isName.L0 v12 x1 v4.2.2))
  (bindO (fBin .geq (.int .i32 v4.2.1) (.int .i32 48)) fun v13 =>
  fCond v13
  (bindO (fBin .leq (.int .i32 v4.2.1) (.int .i32 57)) fun v14 =>
  bindO (fUn .not v14) fun v15 =>
  fCond v15
  (some (.bool false))
  (bindO (fBin .add x0 (.int .i64 1)) fun v16 =>
  mach_isName.L0 v16 x1 v4.2.2))
  (bindO (fUn .not (.bool false)) fun v17 =>
  fCond v17
  (some (.bool false))
  (bindO (fBin .add x0 (.int .i64 1)) fun v18 =>
  mach_isName.L0 v18 x1 v4.2.2))))
  (bindO (fBin .geq (.int .i32 v4.2.1) (.int .i32 48)) fun v19 =>
  fCond v19
  (bindO (fBin .leq (.int .i32 v4.2.1) (.int .i32 57)) fun v20 =>
  bindO (fUn .not v20) fun v21 =>
  fCond v21
  (some (.bool false))
  (bindO (fBin .add x0 (.int .i64 1)) fun v22 =>
  mach_isName.L0 v22 x1 v4.2.2))
  (bindO (fUn .not (.bool false)) fun v23 =>
  fCond v23
  (some (.bool false))
  (bindO (fBin .add x0 (.int .i64 1)) fun v24 =>
  mach_isName.L0 v24 x1 v4.2.2)))))
  (bindO (fBin .geq (.int .i32 v4.2.1) (.int .i32 97)) fun v25 =>
  fCond v25
  (bindO (fBin .leq (.int .i32 v4.2.1) (.int .i32 122)) fun v26 =>
  fCond v26
  (bindO (fUn .not (.bool true)) fun v27 =>
  fCond v27
  (some (.bool false))
  (bindO (fBin .add x0 (.int .i64 1)) fun v28 =>
  mach_isName.L0 v28 x1 v4.2.2))
  (bindO (fBin .geq (.int .i32 v4.2.1) (.int .i32 48)) fun v29 =>
  fCond v29
  (bindO (fBin .leq (.int .i32 v4.2.1) (.int .i32 57)) fun v30 =>
  bindO (fUn .not v30) fun v31 =>
  fCond v31
  (some (.bool false))
  (bindO (fBin .add x0 (.int .i64 1)) fun v32 =>
  mach_isName.L0 v32 x1 v4.2.2))
  (bindO (fUn .not (.bool false)) fun v33 =>
  fCond v33
  (some (.bool false))
  (bindO (fBin .add x0 (.int .i64 1)) fun v34 =>
  mach_isName.L0 v34 x1 v4.2.2))))
  (bindO (fBin .geq (.int .i32 v4.2.1) (.int .i32 48)) fun v35 =>
  fCond v35
  (bindO (fBin .leq (.int .i32 v4.2.1) (.int .i32 57)) fun v36 =>
  bindO (fUn .not v36) fun v37 =>
  fCond v37
  (some (.bool false))
  (bindO (fBin .add x0 (.int .i64 1)) fun v38 =>
  mach_isName.L0 v38 x1 v4.2.2))
  (bindO (fUn .not (.bool false)) fun v39 =>
  fCond v39
  (some (.bool false))
  (bindO (fBin .add x0 (.int .i64 1)) fun v40 =>
  mach_isName.L0 v40 x1 v4.2.2)))))
  (bindO (fBin .geq x0 (.int .i64 1)) fun v41 =>
  fCond v41
  (bindO (fBin .leq x0 (.int .i64 16)) fun v42 =>
  some v42)
  (some (.bool false)))) := (jden_eq E 89 [] [4, 1, 0, 1, 1] _ _).trans (by kernel_rfl)
/-! ### ramet/mach.names (function 90) -/
noncomputable def mach_names.L0 (x0 : FV) (x1 : FV) (x2 : FV) (es3 : List (FV × FV)) : R := jden E 90 [] [4, 1, 0, 1, 1] (mkF 22 [(3, .mp 0), (7, .f x0), (8, .f x1), (9, .f x2)]) [.map false es3]
theorem mach_names.eq (x0 : FV) : mach_names x0 = (
  bindO (fLen x0) fun v1 =>
  mach_names.L0 x0 v1 (.int .i64 0) []) := (den_eq E 90 [x0]).trans (by kernel_rfl)
theorem mach_names.L0_eq (x0 : FV) (x1 : FV) (x2 : FV) (es3 : List (FV × FV)) : mach_names.L0 x0 x1 x2 es3 = (
  bindO (fBin .lss x2 x1) fun v5 =>
  fCond v5
  (bindO (fIdxC 1 x0 x2) fun c6 =>
  bindO (c6[0]?) fun v7 =>
  bindO (mach_isName v7) fun v8 =>
  bindO (fUn .not v8) fun v9 =>
  fCond v9
  (some (.int .i64 21))
  (bindO (mLook false [.str] es3 v7 (.bool false)) fun v10 =>
  fCond v10.1
  (some (.int .i64 22))
  (gB (keyOk false [.str] v7) <|
  bindO (mPut false [.str] es3 v7 (.bool true)) fun es11 =>
  bindO (fBin .add x2 (.int .i64 1)) fun v12 =>
  mach_names.L0 x0 x1 v12 es11)))
  (some (.int .i64 0))) := (jden_eq E 90 [] [4, 1, 0, 1, 1] _ _).trans (by kernel_rfl)
/-! ### slices.Concat[[]ramet/api.Port,ramet/api.Port] (function 143) -/
noncomputable def slices_Concat_api_Port.L0 (x0 : FV) (x1 : FV) (x2 : FV) (x3 : FV) (x4 : FV) : R := jden E 143 [] [4, 1, 0, 1, 1] (mkF 36 [(0, .f x0), (3, .f x1), (9, .f x2), (10, .f x3), (11, .f x4)]) []
noncomputable def slices_Concat_api_Port.L1 (x0 : FV) (x1 : FV) (x2 : FV) (r3 : List (List FV)) : R := jden E 143 [] [4, 1, 0, 1, 1, 1, 1] (mkF 36 [(6, .ref 0), (25, .f x0), (26, .f x1), (27, .f x2)]) [.own 2 r3]
theorem slices_Concat_api_Port.eq (x0 : FV) : slices_Concat_api_Port x0 = (
  bindO (fLen x0) fun v1 =>
  slices_Concat_api_Port.L0 x0 (.int .i64 0) x0 v1 (.int .i64 0)) := (den_eq E 143 [x0]).trans (by kernel_rfl)
theorem slices_Concat_api_Port.L0_eq (x0 : FV) (x1 : FV) (x2 : FV) (x3 : FV) (x4 : FV) : slices_Concat_api_Port.L0 x0 x1 x2 x3 x4 = (
  bindO (fBin .lss x4 x3) fun v6 =>
  fCond v6
  (bindO (fIdxC 1 x2 x4) fun c7 =>
  bindO (c7[0]?) fun v8 =>
  bindO (fLen v8) fun v9 =>
  bindO (fBin .add x1 v9) fun v10 =>
  bindO (fBin .lss v10 (.int .i64 0)) fun v11 =>
  fCond v11
  (none)
  (bindO (fBin .add x4 (.int .i64 1)) fun v12 =>
  slices_Concat_api_Port.L0 x0 v10 x2 x3 v12))
  (bindO (fBin .lss x1 (.int .i64 0)) fun v13 =>
  fCond v13
  (none)
  (bindO (fCap .nilS) fun v14 =>
  bindO (fLen .nilS) fun v15 =>
  bindO (fBin .sub v14 v15) fun v16 =>
  bindO (fBin .sub x1 v16) fun v17 =>
  bindO (fBin .gtr v17 (.int .i64 0)) fun v18 =>
  fCond v18
  (bindO (fCap .nilS) fun v19 =>
  bindO (fCut 2 .nilS none (some v19)) fun v20 =>
  onNil v20 <|
  bindO (asNat v17) fun j21 =>
  gB (decide (j21 * 40 ≤ room)) <|
  bindO (fLen .nilS) fun v22 =>
  bindO (cut? ((List.replicate j21 [(.str [] : FV), .nilS]).length) none (some v22)) fun q24 =>
  bindO (fLen x0) fun v25 =>
  slices_Concat_api_Port.L1 x0 v25 (.int .i64 0) (((List.replicate j21 [(.str [] : FV), .nilS]).take q24.2).drop q24.1))
  (bindO (fLen x0) fun v26 =>
  slices_Concat_api_Port.L1 x0 v26 (.int .i64 0) [])))) := (jden_eq E 143 [] [4, 1, 0, 1, 1] _ _).trans (by kernel_rfl)
theorem slices_Concat_api_Port.L1_eq (x0 : FV) (x1 : FV) (x2 : FV) (r3 : List (List FV)) : slices_Concat_api_Port.L1 x0 x1 x2 r3 = (
  bindO (fBin .lss x2 x1) fun v5 =>
  fCond v5
  (bindO (fIdxC 1 x0 x2) fun c6 =>
  bindO (c6[0]?) fun v7 =>
  bindO (asRows v7) fun r8 =>
  gB (rowsSz 2 r8) <|
  gB (decide ((r3.length + r8.length) * 40 ≤ room)) <|
  bindO (fBin .add x2 (.int .i64 1)) fun v9 =>
  slices_Concat_api_Port.L1 x0 x1 v9 (r3 ++ r8))
  (some (.arr r3))) := (jden_eq E 143 [] [4, 1, 0, 1, 1, 1, 1] _ _).trans (by kernel_rfl)
/-! ### ramet/mach.checkPorts (function 91) -/
noncomputable def mach_checkPorts.L0 (x0 : FV) (x1 : FV) (x2 : FV) (x3 : FV) (x4 : FV) (x5 : FV) : R := jden E 91 [] [1] (mkF 60 [(1, .ptr 0 0 0)]) [.box [.f x0, .f x1, .f x2, .f x3, .f x4, .f x5]]
noncomputable def mach_checkPorts.L1 (x0 : FV) (x1 : FV) (x2 : FV) (x3 : FV) (x4 : FV) (x5 : FV) (x6 : FV) (x7 : FV) (x8 : FV) (es9 : List (FV × FV)) (r10 : List (List FV)) : R := jden E 91 [] [4, 1, 0, 1, 1, 1] (mkF 60 [(3, .mp 1), (23, .f x0), (24, .f x1), (25, .f x2)]) [.box [.f x3, .f x4, .f x5, .f x6, .f x7, .f x8], .map false es9, .fz r10]
noncomputable def mach_checkPorts.L3 (x0 : FV) (x1 : FV) (x2 : FV) (x3 : FV) (x4 : FV) (x5 : FV) (x6 : FV) (x7 : FV) (x8 : FV) (es9 : List (FV × FV)) (r10 : List (List FV)) (x11 : FV) (x12 : FV) : R := jden E 91 [] [0, 1, 4, 0, 1, 1, 5, 4, 1, 0, 1, 1, 1] (mkF 60 [(3, .mp 1), (5, .ptr 3 0 0), (23, .f x0), (24, .f x1), (25, .f x2)]) [.box [.f x3, .f x4, .f x5, .f x6, .f x7, .f x8], .map false es9, .fz r10, .box [.f x11, .f x12]]
noncomputable def mach_checkPorts.L2 (x0 : FV) (x1 : FV) (x2 : FV) (x3 : FV) (x4 : FV) (x5 : FV) (x6 : FV) (x7 : FV) (x8 : FV) (es9 : List (FV × FV)) (r10 : List (List FV)) (x11 : FV) (x12 : FV) : R := jden E 91 [] [1, 4, 0, 1, 1, 5, 4, 1, 0, 1, 1, 1] (mkF 60 [(3, .mp 1), (5, .ptr 3 0 0), (23, .f x0), (24, .f x1), (25, .f x2)]) [.box [.f x3, .f x4, .f x5, .f x6, .f x7, .f x8], .map false es9, .fz r10, .box [.f x11, .f x12]]
theorem mach_checkPorts.eq (x0 : FV) : mach_checkPorts x0 = (
  gB (fIsAgg 6 x0) <|
  bindO (fLen (fCell x0 3)) fun v1 =>
  bindO (fBin .gtr v1 (.int .i64 8)) fun v2 =>
  fCond v2
  (some (.int .i64 26))
  (bindO (fLen (fCell x0 4)) fun v3 =>
  bindO (fBin .gtr v3 (.int .i64 8)) fun v4 =>
  fCond v4
  (some (.int .i64 26))
  (mach_checkPorts.L0 (fCell x0 0) (fCell x0 1) (fCell x0 2) (fCell x0 3) (fCell x0 4) (fCell x0 5)))) := (den_eq E 91 [x0]).trans (by kernel_rfl)
theorem mach_checkPorts.L0_eq (x0 : FV) (x1 : FV) (x2 : FV) (x3 : FV) (x4 : FV) (x5 : FV) : mach_checkPorts.L0 x0 x1 x2 x3 x4 x5 = (
  bindO (slices_Concat_api_Port (.arr [[x3], [x4]])) fun v7 =>
  bindO (fLen v7) fun v8 =>
  mach_checkPorts.L1 v7 v8 (.int .i64 0) x0 x1 x2 x3 x4 x5 [] [[x3], [x4]]) := (jden_eq E 91 [] [1] _ _).trans (by kernel_rfl)
theorem mach_checkPorts.L1_eq (x0 : FV) (x1 : FV) (x2 : FV) (x3 : FV) (x4 : FV) (x5 : FV) (x6 : FV) (x7 : FV) (x8 : FV) (es9 : List (FV × FV)) (r10 : List (List FV)) : mach_checkPorts.L1 x0 x1 x2 x3 x4 x5 x6 x7 x8 es9 r10 = (
  bindO (fBin .lss x2 x1) fun v12 =>
  fCond v12
  (bindO (fIdxC 2 x0 x2) fun c13 =>
  bindO (c13[0]?) fun v14 =>
  bindO (c13[1]?) fun v15 =>
  bindO (mach_isName v14) fun v16 =>
  bindO (fUn .not v16) fun v17 =>
  fCond v17
  (some (.int .i64 21))
  (bindO (mLook false [.str] es9 v14 (.bool false)) fun v18 =>
  fCond v18.1
  (some (.int .i64 22))
  (bindO (fLen v15) fun v19 =>
  bindO (fBin .eql v19 (.int .i64 0)) fun v20 =>
  fCond v20
  (some (.int .i64 26))
  (bindO (fLen v15) fun v21 =>
  bindO (fBin .gtr v21 (.int .i64 64)) fun v22 =>
  fCond v22
  (some (.int .i64 26))
  (mach_checkPorts.L3 x0 x1 x2 x3 x4 x5 x6 x7 x8 es9 r10 v14 v15)))))
  (some (.int .i64 0))) := (jden_eq E 91 [] [4, 1, 0, 1, 1, 1] _ _).trans (by kernel_rfl)
theorem mach_checkPorts.L3_eq (x0 : FV) (x1 : FV) (x2 : FV) (x3 : FV) (x4 : FV) (x5 : FV) (x6 : FV) (x7 : FV) (x8 : FV) (es9 : List (FV × FV)) (r10 : List (List FV)) (x11 : FV) (x12 : FV) : mach_checkPorts.L3 x0 x1 x2 x3 x4 x5 x6 x7 x8 es9 r10 x11 x12 = (
  mach_checkPorts.L2 x0 x1 x2 x3 x4 x5 x6 x7 x8 es9 r10 x11 x12) := (jden_eq E 91 [] [0, 1, 4, 0, 1, 1, 5, 4, 1, 0, 1, 1, 1] _ _).trans (by kernel_rfl)
theorem mach_checkPorts.L2_eq (x0 : FV) (x1 : FV) (x2 : FV) (x3 : FV) (x4 : FV) (x5 : FV) (x6 : FV) (x7 : FV) (x8 : FV) (es9 : List (FV × FV)) (r10 : List (List FV)) (x11 : FV) (x12 : FV) : mach_checkPorts.L2 x0 x1 x2 x3 x4 x5 x6 x7 x8 es9 r10 x11 x12 = (
  gB (keyOk false [.str] x11) <|
  bindO (mPut false [.str] es9 x11 (.bool true)) fun es14 =>
  bindO (mach_names x12) fun v15 =>
  bindO (fBin .neq v15 (.int .i64 0)) fun v16 =>
  fCond v16
  (some v15)
  (bindO (fBin .add x2 (.int .i64 1)) fun v17 =>
  mach_checkPorts.L1 x0 x1 v17 x3 x4 x5 x6 x7 x8 es14 r10)) := (jden_eq E 91 [] [1, 4, 0, 1, 1, 5, 4, 1, 0, 1, 1, 1] _ _).trans (by kernel_rfl)
/-! ### ramet/mach.Check (function 29) -/
noncomputable def mach_Check.L0 (x0 : FV) (x1 : FV) (x2 : FV) (x3 : FV) (x4 : FV) (x5 : FV) : R := jden E 29 [] [1, 1] (mkF 85 [(1, .ptr 0 0 0)]) [.box [.f x0, .f x1, .f x2, .f x3, .f x4, .f x5]]
noncomputable def mach_Check.L1 (x0 : FV) (x1 : FV) (x2 : FV) (x3 : FV) (x4 : FV) (x5 : FV) : R := jden E 29 [] [1, 1, 1, 1, 1] (mkF 85 [(1, .ptr 0 0 0)]) [.box [.f x0, .f x1, .f x2, .f x3, .f x4, .f x5]]
noncomputable def mach_Check.L2 (x0 : FV) (x1 : FV) (x2 : FV) (x3 : FV) (x4 : FV) (x5 : FV) (x6 : FV) (x7 : FV) (x8 : FV) : R := jden E 29 [] [4, 1, 0, 1, 1, 1, 1, 1, 1, 1, 1, 1] (mkF 85 [(1, .ptr 0 0 0), (59, .f x0), (60, .f x1), (61, .f x2)]) [.box [.f x3, .f x4, .f x5, .f x6, .f x7, .f x8]]
theorem mach_Check.eq (x0 : FV) : mach_Check x0 = (
  gB (fIsAgg 6 x0) <|
  bindO (mach_isName (fCell x0 0)) fun v1 =>
  bindO (fUn .not v1) fun v2 =>
  fCond v2
  (some (.int .i64 21))
  (bindO (fLen (fCell x0 1)) fun v3 =>
  bindO (fBin .eql v3 (.int .i64 0)) fun v4 =>
  fCond v4
  (some (.int .i64 26))
  (bindO (fLen (fCell x0 1)) fun v5 =>
  bindO (fBin .gtr v5 (.int .i64 256)) fun v6 =>
  fCond v6
  (some (.int .i64 26))
  (mach_Check.L0 (fCell x0 0) (fCell x0 1) (fCell x0 2) (fCell x0 3) (fCell x0 4) (fCell x0 5))))) := (den_eq E 29 [x0]).trans (by kernel_rfl)
theorem mach_Check.L0_eq (x0 : FV) (x1 : FV) (x2 : FV) (x3 : FV) (x4 : FV) (x5 : FV) : mach_Check.L0 x0 x1 x2 x3 x4 x5 = (
  bindO (mach_names x1) fun v7 =>
  bindO (fBin .neq v7 (.int .i64 0)) fun v8 =>
  fCond v8
  (some v7)
  (bindO (mach_checkPorts (.agg [x0, x1, x2, x3, x4, x5])) fun v9 =>
  bindO (fBin .neq v9 (.int .i64 0)) fun v10 =>
  fCond v10
  (some v9)
  (bindO (fBin .lss x2 (.int .i64 0)) fun v11 =>
  fCond v11
  (some (.int .i64 27))
  (bindO (fLen x1) fun v12 =>
  bindO (fBin .geq x2 v12) fun v13 =>
  fCond v13
  (some (.int .i64 27))
  (mach_Check.L1 x0 x1 x2 x3 x4 x5))))) := (jden_eq E 29 [] [1, 1] _ _).trans (by kernel_rfl)
theorem mach_Check.L1_eq (x0 : FV) (x1 : FV) (x2 : FV) (x3 : FV) (x4 : FV) (x5 : FV) : mach_Check.L1 x0 x1 x2 x3 x4 x5 = (
  bindO (fLen x1) fun v7 =>
  bindO (mach_product x3) fun v8 =>
  bindO (fBin .mul v7 v8) fun v9 =>
  bindO (fBin .gtr v9 (.int .i64 4096)) fun v10 =>
  fCond v10
  (some (.int .i64 26))
  (bindO (fLen x5) fun v11 =>
  bindO (fBin .neq v11 v9) fun v12 =>
  fCond v12
  (some (.int .i64 23))
  (bindO (fLen x5) fun v13 =>
  mach_Check.L2 x5 v13 (.int .i64 0) x0 x1 x2 x3 x4 x5))) := (jden_eq E 29 [] [1, 1, 1, 1, 1] _ _).trans (by kernel_rfl)
theorem mach_Check.L2_eq (x0 : FV) (x1 : FV) (x2 : FV) (x3 : FV) (x4 : FV) (x5 : FV) (x6 : FV) (x7 : FV) (x8 : FV) : mach_Check.L2 x0 x1 x2 x3 x4 x5 x6 x7 x8 = (
  bindO (fBin .lss x2 x1) fun v10 =>
  fCond v10
  (bindO (fIdxC 2 x0 x2) fun c11 =>
  bindO (c11[0]?) fun v12 =>
  bindO (c11[1]?) fun v13 =>
  bindO (fBin .lss v12 (.int .i64 0)) fun v14 =>
  fCond v14
  (some (.int .i64 27))
  (bindO (fLen x4) fun v15 =>
  bindO (fBin .geq v12 v15) fun v16 =>
  fCond v16
  (some (.int .i64 27))
  (bindO (mach_fit x7 v13) fun v17 =>
  bindO (fUn .not v17) fun v18 =>
  fCond v18
  (some (.int .i64 27))
  (bindO (fBin .add x2 (.int .i64 1)) fun v19 =>
  mach_Check.L2 x0 x1 v19 x3 x4 x5 x6 x7 x8))))
  (some (.int .i64 0))) := (jden_eq E 29 [] [4, 1, 0, 1, 1, 1, 1, 1, 1, 1, 1, 1] _ _).trans (by kernel_rfl)
/-! ### slices.Clone[[]int,int] (function 54) -/
theorem slices_Clone_int.eq (x0 : FV) : slices_Clone_int x0 = (
  onFV x0
  (some (.arr []))
  (bindO (asRows x0) fun r1 =>
  gB (rowsSz 1 r1) <|
  gB (decide ((0 + r1.length) * 8 ≤ room)) <|
  some (.arr ([] ++ r1)))) := (den_eq E 54 [x0]).trans (by kernel_rfl)
/-! ### ramet/mach.number (function 60) -/
noncomputable def mach_number.L0 (x0 : FV) (x1 : FV) (x2 : FV) (x3 : FV) (x4 : FV) : R := jden E 60 [] [4, 1, 0, 1, 1] (mkF 27 [(0, .f x0), (5, .f x1), (8, .f x2), (9, .f x3), (10, .f x4)]) []
theorem mach_number.eq (x0 x1 : FV) : mach_number x0 x1 = (
  bindO (fLen x1) fun v1 =>
  mach_number.L0 x0 (.int .i64 0) x1 v1 (.int .i64 0)) := (den_eq E 60 [x0, x1]).trans (by kernel_rfl)
theorem mach_number.L0_eq (x0 : FV) (x1 : FV) (x2 : FV) (x3 : FV) (x4 : FV) : mach_number.L0 x0 x1 x2 x3 x4 = (
  bindO (fBin .lss x4 x3) fun v6 =>
  fCond v6
  (bindO (fIdxC 1 x2 x4) fun c7 =>
  bindO (c7[0]?) fun v8 =>
  bindO (fIdxC 2 x0 x4) fun c9 =>
  bindO (c9[1]?) fun v10 =>
  bindO (fLen v10) fun v11 =>
  bindO (fBin .mul x1 v11) fun v12 =>
  bindO (fBin .add v12 v8) fun v13 =>
  bindO (fBin .add x4 (.int .i64 1)) fun v14 =>
  mach_number.L0 x0 v13 x2 x3 v14)
  (some x1)) := (jden_eq E 60 [] [4, 1, 0, 1, 1] _ _).trans (by kernel_rfl)
/-! ### ramet/mach.Run (function 18) -/
noncomputable def mach_Run.L0 (x0 : FV) (x1 : FV) (x2 : FV) (x3 : FV) (x4 : FV) (x5 : FV) (x6 : FV) (x7 : FV) (x8 : FV) (x9 : FV) : R := jden E 18 [] [4, 1, 0, 1, 1, 1] (mkF 70 [(1, .f x0), (2, .ptr 0 0 0), (24, .f x1), (25, .f x2), (26, .f x3)]) [.box [.f x4, .f x5, .f x6, .f x7, .f x8, .f x9]]
noncomputable def mach_Run.L1 (x0 : FV) (x1 : FV) (x2 : FV) (x3 : FV) (x4 : FV) (x5 : FV) (x6 : FV) (x7 : FV) (x8 : FV) (x9 : FV) (x10 : FV) (r11 : List (List FV)) : R := jden E 18 [] [4, 1, 0, 1, 1, 1, 1, 1, 1] (mkF 70 [(2, .ptr 0 0 0), (10, .ref 1), (11, .f x0), (12, .f x1), (41, .f x2), (42, .f x3), (43, .f x4)]) [.box [.f x5, .f x6, .f x7, .f x8, .f x9, .f x10], .own 1 r11]
theorem mach_Run.eq (x0 x1 : FV) : mach_Run x0 x1 = (
  gB (fIsAgg 6 x0) <|
  bindO (mach_Check (.agg [(fCell x0 0), (fCell x0 1), (fCell x0 2), (fCell x0 3), (fCell x0 4), (fCell x0 5)])) fun v1 =>
  bindO (fBin .neq v1 (.int .i64 0)) fun v2 =>
  fCond v2
  (some (.tup [.nilS, .int .i64 0, v1]))
  (bindO (fLen x1) fun v3 =>
  bindO (fBin .gtr v3 (.int .i64 4096)) fun v4 =>
  fCond v4
  (some (.tup [.nilS, .int .i64 0, .int .i64 26]))
  (bindO (fLen x1) fun v5 =>
  mach_Run.L0 x1 x1 v5 (.int .i64 0) (fCell x0 0) (fCell x0 1) (fCell x0 2) (fCell x0 3) (fCell x0 4) (fCell x0 5)))) := (den_eq E 18 [x0, x1]).trans (by kernel_rfl)
theorem mach_Run.L0_eq (x0 : FV) (x1 : FV) (x2 : FV) (x3 : FV) (x4 : FV) (x5 : FV) (x6 : FV) (x7 : FV) (x8 : FV) (x9 : FV) : mach_Run.L0 x0 x1 x2 x3 x4 x5 x6 x7 x8 x9 = (
  bindO (fBin .lss x3 x2) fun v11 =>
  fCond v11
  (bindO (fIdxC 1 x1 x3) fun c12 =>
  bindO (c12[0]?) fun v13 =>
  bindO (mach_fit x7 v13) fun v14 =>
  bindO (fUn .not v14) fun v15 =>
  fCond v15
  (some (.tup [.nilS, .int .i64 0, .int .i64 27]))
  (bindO (fBin .add x3 (.int .i64 1)) fun v16 =>
  mach_Run.L0 x0 x1 x2 v16 x4 x5 x6 x7 x8 x9))
  (bindO (mach_product x7) fun v17 =>
  bindO (fLen x0) fun v18 =>
  mach_Run.L1 x6 v17 x0 v18 (.int .i64 0) x4 x5 x6 x7 x8 x9 [])) := (jden_eq E 18 [] [4, 1, 0, 1, 1, 1] _ _).trans (by kernel_rfl)
theorem mach_Run.L1_eq (x0 : FV) (x1 : FV) (x2 : FV) (x3 : FV) (x4 : FV) (x5 : FV) (x6 : FV) (x7 : FV) (x8 : FV) (x9 : FV) (x10 : FV) (r11 : List (List FV)) : mach_Run.L1 x0 x1 x2 x3 x4 x5 x6 x7 x8 x9 x10 r11 = (
  bindO (fBin .lss x4 x3) fun v13 =>
  fCond v13
  (bindO (fIdxC 1 x2 x4) fun c14 =>
  bindO (c14[0]?) fun v15 =>
  bindO (fBin .mul x0 x1) fun v16 =>
  bindO (mach_number x8 v15) fun v17 =>
  bindO (fBin .add v16 v17) fun v18 =>
  bindO (fIdxC 2 x10 v18) fun c19 =>
  bindO (c19[0]?) fun v20 =>
  bindO (c19[1]?) fun v21 =>
  bindO (slices_Clone_int v21) fun v22 =>
  bindO (arrRows v22) fun r23 =>
  gB (decide ((r11.length + 1) * 24 ≤ room)) <|
  bindO (fBin .add x4 (.int .i64 1)) fun v24 =>
  mach_Run.L1 v20 x1 x2 x3 v24 x5 x6 x7 x8 x9 x10 (r11 ++ [[.arr r23]]))
  (some (.tup [.arr r11, x0, .int .i64 0]))) := (jden_eq E 18 [] [4, 1, 0, 1, 1, 1, 1, 1, 1] _ _).trans (by kernel_rfl)
/-! ### ramet/rametref02.Step (function 19) -/
noncomputable def ref02_Step.L0 (x0 : FV) (x1 : FV) (x2 : FV) (x3 : FV) (x4 : FV) (x5 : FV) (x6 : FV) (x7 : FV) : R := jden E 19 [] [1, 1] (mkF 42 [(1, .f x0), (2, .f x1), (3, .ptr 0 0 0)]) [.box [.f x2, .f x3, .f x4, .f x5, .f x6, .f x7]]
theorem ref02_Step.eq (x0 x1 x2 : FV) : ref02_Step x0 x1 x2 = (
  gB (fIsAgg 6 x0) <|
  bindO (ref02_Check (.agg [(fCell x0 0), (fCell x0 1), (fCell x0 2), (fCell x0 3), (fCell x0 4), (fCell x0 5)])) fun v1 =>
  bindO (fBin .neq v1 (.int .i64 0)) fun v2 =>
  fCond v2
  (some (.tup [.int .i64 0, .nilS, v1]))
  (bindO (fBin .lss x1 (.int .i64 0)) fun v3 =>
  fCond v3
  (some (.tup [.int .i64 0, .nilS, .int .i64 27]))
  (bindO (fLen (fCell x0 1)) fun v4 =>
  bindO (fBin .geq x1 v4) fun v5 =>
  fCond v5
  (some (.tup [.int .i64 0, .nilS, .int .i64 27]))
  (bindO (ref02_right (fCell x0 3) x2) fun v6 =>
  bindO (fUn .not v6) fun v7 =>
  fCond v7
  (some (.tup [.int .i64 0, .nilS, .int .i64 27]))
  (ref02_Step.L0 x1 x2 (fCell x0 0) (fCell x0 1) (fCell x0 2) (fCell x0 3) (fCell x0 4) (fCell x0 5)))))) := (den_eq E 19 [x0, x1, x2]).trans (by kernel_rfl)
theorem ref02_Step.L0_eq (x0 : FV) (x1 : FV) (x2 : FV) (x3 : FV) (x4 : FV) (x5 : FV) (x6 : FV) (x7 : FV) : ref02_Step.L0 x0 x1 x2 x3 x4 x5 x6 x7 = (
  bindO (ref02_one (.agg [x2, x3, x4, x5, x6, x7]) x0 x1) fun v9 =>
  gB (fIsAgg 2 v9) <|
  bindO (asRows (fCell v9 1)) fun r10 =>
  gB (rowsSz 1 r10) <|
  gB (decide ((0 + r10.length) * 8 ≤ room)) <|
  some (.tup [(fCell v9 0), .arr ([] ++ r10), .int .i64 0])) := (jden_eq E 19 [] [1, 1] _ _).trans (by kernel_rfl)
/-! ### ramet/mach.Step (function 20) -/
noncomputable def mach_Step.L0 (x0 : FV) (x1 : FV) (x2 : FV) (x3 : FV) (x4 : FV) (x5 : FV) (x6 : FV) (x7 : FV) : R := jden E 20 [] [1, 1] (mkF 51 [(1, .f x0), (2, .f x1), (3, .ptr 0 0 0)]) [.box [.f x2, .f x3, .f x4, .f x5, .f x6, .f x7]]
theorem mach_Step.eq (x0 x1 x2 : FV) : mach_Step x0 x1 x2 = (
  gB (fIsAgg 6 x0) <|
  bindO (mach_Check (.agg [(fCell x0 0), (fCell x0 1), (fCell x0 2), (fCell x0 3), (fCell x0 4), (fCell x0 5)])) fun v1 =>
  bindO (fBin .neq v1 (.int .i64 0)) fun v2 =>
  fCond v2
  (some (.tup [.int .i64 0, .nilS, v1]))
  (bindO (fBin .lss x1 (.int .i64 0)) fun v3 =>
  fCond v3
  (some (.tup [.int .i64 0, .nilS, .int .i64 27]))
  (bindO (fLen (fCell x0 1)) fun v4 =>
  bindO (fBin .geq x1 v4) fun v5 =>
  fCond v5
  (some (.tup [.int .i64 0, .nilS, .int .i64 27]))
  (bindO (mach_fit (fCell x0 3) x2) fun v6 =>
  bindO (fUn .not v6) fun v7 =>
  fCond v7
  (some (.tup [.int .i64 0, .nilS, .int .i64 27]))
  (mach_Step.L0 x1 x2 (fCell x0 0) (fCell x0 1) (fCell x0 2) (fCell x0 3) (fCell x0 4) (fCell x0 5)))))) := (den_eq E 20 [x0, x1, x2]).trans (by kernel_rfl)
theorem mach_Step.L0_eq (x0 : FV) (x1 : FV) (x2 : FV) (x3 : FV) (x4 : FV) (x5 : FV) (x6 : FV) (x7 : FV) : mach_Step.L0 x0 x1 x2 x3 x4 x5 x6 x7 = (
  bindO (mach_product x5) fun v9 =>
  bindO (fBin .mul x0 v9) fun v10 =>
  bindO (mach_number x5 x1) fun v11 =>
  bindO (fBin .add v10 v11) fun v12 =>
  bindO (fIdxC 2 x7 v12) fun c13 =>
  bindO (c13[0]?) fun v14 =>
  bindO (c13[1]?) fun v15 =>
  bindO (slices_Clone_int v15) fun v16 =>
  bindO (arrRows v16) fun r17 =>
  some (.tup [v14, .arr r17, .int .i64 0])) := (jden_eq E 20 [] [1, 1] _ _).trans (by kernel_rfl)
/-! ### ramet/rametref02.SameInts (function 21) -/
theorem ref02_SameInts.eq (x0 x1 : FV) : ref02_SameInts x0 x1 = (
  bindO (ref02_sameInts x0 x1) fun v1 =>
  some v1) := (den_eq E 21 [x0, x1]).trans (by kernel_rfl)
/-! ### ramet/rametlaw02.MachRuns (function 4) -/
noncomputable def law02_MachRuns.L0 (x0 : FV) (x1 : FV) (x2 : FV) (x3 : FV) (x4 : FV) (x5 : FV) (x6 : FV) (x7 : FV) (x8 : FV) : R := jden E 4 [] [1, 1, 1] (mkF 111 [(1, .f x0), (2, .ptr 0 0 0), (8, .f x1), (10, .f x2)]) [.box [.f x3, .f x4, .f x5, .f x6, .f x7, .f x8]]
noncomputable def law02_MachRuns.L1 (x0 : FV) (x1 : FV) (x2 : FV) (x3 : FV) (x4 : FV) (x5 : FV) (x6 : FV) (x7 : FV) (x8 : FV) (x9 : FV) (x10 : FV) : R := jden E 4 [] [4, 1, 0, 1, 1, 1, 1, 1] (mkF 111 [(1, .f x0), (2, .ptr 0 0 0), (8, .f x1), (10, .f x2), (11, .f x3), (12, .f x4)]) [.box [.f x5, .f x6, .f x7, .f x8, .f x9, .f x10]]
noncomputable def law02_MachRuns.L2 (x0 : FV) (x1 : FV) (x2 : FV) (x3 : FV) (x4 : FV) (x5 : FV) (x6 : FV) (x7 : FV) (x8 : FV) (x9 : FV) (x10 : FV) : R := jden E 4 [] [5, 4, 1, 0, 1, 1, 1, 1, 1] (mkF 111 [(1, .f x0), (2, .ptr 0 0 0), (8, .f x1), (10, .f x2), (11, .f x3), (12, .f x4)]) [.box [.f x5, .f x6, .f x7, .f x8, .f x9, .f x10]]
noncomputable def law02_MachRuns.L3 (x0 : FV) (x1 : FV) (x2 : FV) (x3 : FV) (x4 : FV) (x5 : FV) (x6 : FV) (x7 : FV) (x8 : FV) (x9 : FV) (x10 : FV) (x11 : FV) (x12 : FV) : R := jden E 4 [] [1, 1, 4, 0, 1, 5, 4, 1, 0, 1, 1, 1, 1, 1] (mkF 111 [(1, .f x0), (2, .ptr 0 0 0), (8, .f x1), (10, .f x2), (12, .f x3), (16, .f x4), (17, .f x5), (18, .f x6)]) [.box [.f x7, .f x8, .f x9, .f x10, .f x11, .f x12]]
theorem law02_MachRuns.eq (x0 x1 : FV) : law02_MachRuns x0 x1 = (
  gB (fIsAgg 6 x0) <|
  bindO (ref02_Run (.agg [(fCell x0 0), (fCell x0 1), (fCell x0 2), (fCell x0 3), (fCell x0 4), (fCell x0 5)]) x1) fun v1 =>
  gB (fIsTup 3 v1) <|
  bindO (mach_Run (.agg [(fCell x0 0), (fCell x0 1), (fCell x0 2), (fCell x0 3), (fCell x0 4), (fCell x0 5)]) x1) fun v2 =>
  gB (fIsTup 3 v2) <|
  bindO (fBin .neq (fTup v2 2) (fTup v1 2)) fun v3 =>
  fCond v3
  (some (.bool false))
  (bindO (fBin .neq (fTup v2 1) (fTup v1 1)) fun v4 =>
  fCond v4
  (some (.bool false))
  (bindO (ref02_SameLists (fTup v2 0) (fTup v1 0)) fun v5 =>
  bindO (fUn .not v5) fun v6 =>
  fCond v6
  (some (.bool false))
  (law02_MachRuns.L0 x1 (fTup v2 0) (fTup v2 2) (fCell x0 0) (fCell x0 1) (fCell x0 2) (fCell x0 3) (fCell x0 4) (fCell x0 5))))) := (den_eq E 4 [x0, x1]).trans (by kernel_rfl)
theorem law02_MachRuns.L0_eq (x0 : FV) (x1 : FV) (x2 : FV) (x3 : FV) (x4 : FV) (x5 : FV) (x6 : FV) (x7 : FV) (x8 : FV) : law02_MachRuns.L0 x0 x1 x2 x3 x4 x5 x6 x7 x8 = (
  law02_MachRuns.L1 x0 x1 x2 x5 (.int .i64 0) x3 x4 x5 x6 x7 x8) := (jden_eq E 4 [] [1, 1, 1] _ _).trans (by kernel_rfl)
theorem law02_MachRuns.L1_eq (x0 : FV) (x1 : FV) (x2 : FV) (x3 : FV) (x4 : FV) (x5 : FV) (x6 : FV) (x7 : FV) (x8 : FV) (x9 : FV) (x10 : FV) : law02_MachRuns.L1 x0 x1 x2 x3 x4 x5 x6 x7 x8 x9 x10 = (
  bindO (fLen x0) fun v12 =>
  bindO (fBin .lss x4 v12) fun v13 =>
  fCond v13
  (bindO (fBin .lss x4 (.int .i64 50)) fun v14 =>
  fCond v14
  (law02_MachRuns.L2 x0 x1 x2 x3 x4 x5 x6 x7 x8 x9 x10)
  (some (.bool true)))
  (some (.bool true))) := (jden_eq E 4 [] [4, 1, 0, 1, 1, 1, 1, 1] _ _).trans (by kernel_rfl)
theorem law02_MachRuns.L2_eq (x0 : FV) (x1 : FV) (x2 : FV) (x3 : FV) (x4 : FV) (x5 : FV) (x6 : FV) (x7 : FV) (x8 : FV) (x9 : FV) (x10 : FV) : law02_MachRuns.L2 x0 x1 x2 x3 x4 x5 x6 x7 x8 x9 x10 = (
  bindO (fIdxC 1 x0 x4) fun c12 =>
  bindO (c12[0]?) fun v13 =>
  bindO (ref02_Step (.agg [x5, x6, x7, x8, x9, x10]) x3 v13) fun v14 =>
  gB (fIsTup 3 v14) <|
  bindO (fIdxC 1 x0 x4) fun c15 =>
  bindO (c15[0]?) fun v16 =>
  bindO (mach_Step (.agg [x5, x6, x7, x8, x9, x10]) x3 v16) fun v17 =>
  gB (fIsTup 3 v17) <|
  bindO (fBin .neq (fTup v17 2) (fTup v14 2)) fun v18 =>
  fCond v18
  (some (.bool false))
  (bindO (fBin .neq (fTup v17 0) (fTup v14 0)) fun v19 =>
  fCond v19
  (some (.bool false))
  (bindO (ref02_SameInts (fTup v17 1) (fTup v14 1)) fun v20 =>
  bindO (fUn .not v20) fun v21 =>
  fCond v21
  (some (.bool false))
  (law02_MachRuns.L3 x0 x1 x2 x4 (fTup v17 0) (fTup v17 1) (fTup v17 2) x5 x6 x7 x8 x9 x10)))) := (jden_eq E 4 [] [5, 4, 1, 0, 1, 1, 1, 1, 1] _ _).trans (by kernel_rfl)
theorem law02_MachRuns.L3_eq (x0 : FV) (x1 : FV) (x2 : FV) (x3 : FV) (x4 : FV) (x5 : FV) (x6 : FV) (x7 : FV) (x8 : FV) (x9 : FV) (x10 : FV) (x11 : FV) (x12 : FV) : law02_MachRuns.L3 x0 x1 x2 x3 x4 x5 x6 x7 x8 x9 x10 x11 x12 = (
  bindO (fBin .eql x2 (.int .i64 0)) fun v14 =>
  fCond v14
  (bindO (fBin .neq x6 (.int .i64 0)) fun v15 =>
  fCond v15
  (some (.bool false))
  (bindO (fIdxC 1 x1 x3) fun c16 =>
  bindO (c16[0]?) fun v17 =>
  bindO (ref02_SameInts x5 v17) fun v18 =>
  bindO (fUn .not v18) fun v19 =>
  fCond v19
  (some (.bool false))
  (bindO (fBin .add x3 (.int .i64 1)) fun v20 =>
  law02_MachRuns.L1 x0 x1 x2 x4 v20 x7 x8 x9 x10 x11 x12)))
  (bindO (fBin .add x3 (.int .i64 1)) fun v21 =>
  law02_MachRuns.L1 x0 x1 x2 x4 v21 x7 x8 x9 x10 x11 x12)) := (jden_eq E 4 [] [1, 1, 4, 0, 1, 5, 4, 1, 0, 1, 1, 1, 1, 1] _ _).trans (by kernel_rfl)
/-! ### ramet/rametref02.equal (function 99) -/
noncomputable def ref02_equal.L0 (x0 : FV) (x1 : FV) (x2 : FV) : R := jden E 99 [] [4, 1, 0, 1, 1] (mkF 26 [(0, .f x0), (1, .f x1), (5, .f x2)]) []
theorem ref02_equal.eq (x0 x1 : FV) : ref02_equal x0 x1 = (
  bindO (fLen x0) fun v1 =>
  bindO (fLen x1) fun v2 =>
  bindO (fBin .neq v1 v2) fun v3 =>
  fCond v3
  (some (.bool false))
  (ref02_equal.L0 x0 x1 (.int .i64 0))) := (den_eq E 99 [x0, x1]).trans (by kernel_rfl)
theorem ref02_equal.L0_eq (x0 : FV) (x1 : FV) (x2 : FV) : ref02_equal.L0 x0 x1 x2 = (
  bindO (fLen x0) fun v4 =>
  bindO (fBin .lss x2 v4) fun v5 =>
  fCond v5
  (bindO (fIdxC 1 x0 x2) fun c6 =>
  bindO (c6[0]?) fun v7 =>
  bindO (fIdxC 1 x1 x2) fun c8 =>
  bindO (c8[0]?) fun v9 =>
  bindO (fBin .neq v7 v9) fun v10 =>
  fCond v10
  (some (.bool false))
  (bindO (fBin .add x2 (.int .i64 1)) fun v11 =>
  ref02_equal.L0 x0 x1 v11))
  (some (.bool true))) := (jden_eq E 99 [] [4, 1, 0, 1, 1] _ _).trans (by kernel_rfl)
/-! ### ramet/rametref02.IsBand (function 61) -/
noncomputable def ref02_IsBand.L0 (x0 : FV) (x1 : FV) (x2 : FV) (x3 : FV) (x4 : FV) (x5 : FV) : R := jden E 61 [] [1] (mkF 74 [(1, .ptr 0 0 0)]) [.box [.f x0, .f x1, .f x2, .f x3, .f x4, .f x5]]
theorem ref02_IsBand.eq (x0 : FV) : ref02_IsBand x0 = (
  gB (fIsAgg 6 x0) <|
  bindO (fLen (fCell x0 3)) fun v1 =>
  bindO (fBin .neq v1 (.int .i64 1)) fun v2 =>
  fCond v2
  (some (.bool false))
  (bindO (fLen (fCell x0 4)) fun v3 =>
  bindO (fBin .neq v3 (.int .i64 3)) fun v4 =>
  fCond v4
  (some (.bool false))
  (bindO (fIdxC 2 (fCell x0 3) (.int .i64 0)) fun c5 =>
  bindO (c5[0]?) fun v6 =>
  bindO (fBin .neq v6 (.str [114, 101, 97, 100])) fun v7 =>
  fCond v7
  (some (.bool false))
  (bindO (fIdxC 2 (fCell x0 4) (.int .i64 0)) fun c8 =>
  bindO (c8[0]?) fun v9 =>
  bindO (fBin .neq v9 (.str [119, 114, 105, 116, 101])) fun v10 =>
  fCond v10
  (some (.bool false))
  (bindO (fIdxC 2 (fCell x0 4) (.int .i64 1)) fun c11 =>
  bindO (c11[0]?) fun v12 =>
  bindO (fBin .neq v12 (.str [109, 111, 118, 101])) fun v13 =>
  fCond v13
  (some (.bool false))
  (bindO (fIdxC 2 (fCell x0 4) (.int .i64 2)) fun c14 =>
  bindO (c14[0]?) fun v15 =>
  bindO (fBin .neq v15 (.str [104, 97, 108, 116])) fun v16 =>
  fCond v16
  (some (.bool false))
  (ref02_IsBand.L0 (fCell x0 0) (fCell x0 1) (fCell x0 2) (fCell x0 3) (fCell x0 4) (fCell x0 5)))))))) := (den_eq E 61 [x0]).trans (by kernel_rfl)
theorem ref02_IsBand.L0_eq (x0 : FV) (x1 : FV) (x2 : FV) (x3 : FV) (x4 : FV) (x5 : FV) : ref02_IsBand.L0 x0 x1 x2 x3 x4 x5 = (
  bindO (fIdxC 2 x3 (.int .i64 0)) fun c7 =>
  bindO (c7[1]?) fun v8 =>
  bindO (fIdxC 2 x4 (.int .i64 0)) fun c9 =>
  bindO (c9[1]?) fun v10 =>
  bindO (ref02_equal v8 v10) fun v11 =>
  fCond v11
  (bindO (fIdxC 2 x4 (.int .i64 1)) fun c12 =>
  bindO (c12[1]?) fun v13 =>
  bindO (ref02_equal v13 (.arr [[.str [108, 101, 102, 116]], [.str [115, 116, 97, 121]], [.str [114, 105, 103, 104, 116]]])) fun v14 =>
  fCond v14
  (bindO (fIdxC 2 x4 (.int .i64 2)) fun c15 =>
  bindO (c15[1]?) fun v16 =>
  bindO (ref02_equal v16 (.arr [[.str [110, 111]], [.str [121, 101, 115]]])) fun v17 =>
  some v17)
  (some (.bool false)))
  (some (.bool false))) := (jden_eq E 61 [] [1] _ _).trans (by kernel_rfl)
/-! ### ramet/rametref02.RunBand (function 22) -/
noncomputable def ref02_RunBand.L0 (x0 : FV) (x1 : FV) (x2 : FV) (x3 : FV) (x4 : FV) (x5 : FV) (x6 : FV) (x7 : FV) (x8 : FV) (x9 : FV) (x10 : FV) (x11 : FV) (x12 : FV) (x13 : FV) (x14 : FV) (x15 : FV) (x16 : FV) (r17 : List (List FV)) : R := jden E 22 [] [1, 1, 1, 1] (mkF 161 [(2, .f x0), (3, .ptr 0 0 0), (4, .ptr 1 0 0), (6, .ptr 2 0 0), (9, .f x1)]) [.box [.f x2, .f x3, .f x4, .f x5, .f x6, .f x7], .box [.f x8, .f x9, .f x10, .f x11, .f x12], .box [.ref 3, .f x13, .f x14, .f x15, .f x16], .own 1 r17]
noncomputable def ref02_RunBand.L1 (x0 : FV) (x1 : FV) (x2 : FV) (x3 : FV) (x4 : FV) (x5 : FV) (x6 : FV) (x7 : FV) (x8 : FV) (x9 : FV) (x10 : FV) (x11 : FV) (x12 : FV) (x13 : FV) (x14 : FV) (x15 : FV) (x16 : FV) (x17 : FV) (r18 : List (List FV)) : R := jden E 22 [] [4, 1, 0, 1, 1, 1, 1, 1] (mkF 161 [(2, .f x0), (3, .ptr 0 0 0), (4, .ptr 1 0 0), (6, .ptr 2 0 0), (9, .f x1), (10, .f x2)]) [.box [.f x3, .f x4, .f x5, .f x6, .f x7, .f x8], .box [.f x9, .f x10, .f x11, .f x12, .f x13], .box [.ref 3, .f x14, .f x15, .f x16, .f x17], .own 1 r18]
noncomputable def ref02_RunBand.L2 (x0 : FV) (x1 : FV) (x2 : FV) (x3 : FV) (x4 : FV) (x5 : FV) (x6 : FV) (x7 : FV) (x8 : FV) (x9 : FV) (x10 : FV) (x11 : FV) (x12 : FV) (x13 : FV) (x14 : FV) (x15 : FV) (x16 : FV) (r17 : List (List FV)) : R := jden E 22 [] [1, 1, 1, 1, 1, 1] (mkF 161 [(2, .f x0), (3, .ptr 0 0 0), (4, .ptr 1 0 0), (6, .ptr 2 0 0), (9, .f x1)]) [.box [.f x2, .f x3, .f x4, .f x5, .f x6, .f x7], .box [.f x8, .f x9, .f x10, .f x11, .f x12], .box [.ref 3, .f x13, .f x14, .f x15, .f x16], .own 1 r17]
noncomputable def ref02_RunBand.L3 (x0 : FV) (x1 : FV) (x2 : FV) (x3 : FV) (x4 : FV) (x5 : FV) (x6 : FV) (x7 : FV) (x8 : FV) (x9 : FV) (x10 : FV) (x11 : FV) (x12 : FV) (x13 : FV) (x14 : FV) (x15 : FV) (x16 : FV) (r17 : List (List FV)) : R := jden E 22 [] [1, 1, 1, 1, 1, 1, 1] (mkF 161 [(2, .f x0), (3, .ptr 0 0 0), (4, .ptr 1 0 0), (6, .ptr 2 0 0), (9, .f x1)]) [.box [.f x2, .f x3, .f x4, .f x5, .f x6, .f x7], .box [.f x8, .f x9, .f x10, .f x11, .f x12], .box [.ref 3, .f x13, .f x14, .f x15, .f x16], .own 1 r17]
noncomputable def ref02_RunBand.L4 (x0 : FV) (x1 : FV) (x2 : FV) (x3 : FV) (x4 : FV) (x5 : FV) (x6 : FV) (x7 : FV) (x8 : FV) (x9 : FV) (x10 : FV) (x11 : FV) (x12 : FV) (x13 : FV) (x14 : FV) (x15 : FV) (x16 : FV) (r17 : List (List FV)) (r18 : List (List FV)) : R := jden E 22 [] [4, 1, 0, 1, 1, 1, 1, 1, 1, 1, 1, 1] (mkF 161 [(2, .f x0), (3, .ptr 0 0 0), (4, .ptr 1 0 0), (6, .ptr 2 0 0), (9, .f x1), (11, .f x2)]) [.box [.f x3, .f x4, .f x5, .f x6, .f x7, .f x8], .box [.ref 5, .f x9, .f x10, .f x11, .f x12], .box [.ref 3, .f x13, .f x14, .f x15, .f x16], .own 1 r17, .dead, .own 1 r18]
noncomputable def ref02_RunBand.L5 (x0 : FV) (x1 : FV) (x2 : FV) (x3 : FV) (x4 : FV) (x5 : FV) (x6 : FV) (x7 : FV) (x8 : FV) (x9 : FV) (x10 : FV) (x11 : FV) (x12 : FV) (x13 : FV) (x14 : FV) (x15 : FV) (x16 : FV) (r17 : List (List FV)) (r18 : List (List FV)) : R := jden E 22 [] [5, 4, 1, 0, 1, 1, 1, 1, 1, 1, 1, 1, 1] (mkF 161 [(2, .f x0), (3, .ptr 0 0 0), (4, .ptr 1 0 0), (6, .ptr 2 0 0), (9, .f x1), (11, .f x2)]) [.box [.f x3, .f x4, .f x5, .f x6, .f x7, .f x8], .box [.ref 5, .f x9, .f x10, .f x11, .f x12], .box [.ref 3, .f x13, .f x14, .f x15, .f x16], .own 1 r17, .dead, .own 1 r18]
theorem ref02_RunBand.eq (x0 x1 x2 : FV) : ref02_RunBand x0 x1 x2 = (
  gB (fIsAgg 6 x0) <|
  gB (fIsAgg 5 x1) <|
  bindO (ref02_Check (.agg [(fCell x0 0), (fCell x0 1), (fCell x0 2), (fCell x0 3), (fCell x0 4), (fCell x0 5)])) fun v1 =>
  bindO (fBin .neq v1 (.int .i64 0)) fun v2 =>
  fCond v2
  (some (.tup [.agg [.nilS, .int .i64 0, .int .i64 0, .bool false, .int .i64 0], v1]))
  (bindO (ref02_IsBand (.agg [(fCell x0 0), (fCell x0 1), (fCell x0 2), (fCell x0 3), (fCell x0 4), (fCell x0 5)])) fun v3 =>
  bindO (fUn .not v3) fun v4 =>
  fCond v4
  (some (.tup [.agg [.nilS, .int .i64 0, .int .i64 0, .bool false, .int .i64 0], .int .i64 21]))
  (bindO (fLen (fCell x1 0)) fun v5 =>
  bindO (fBin .eql v5 (.int .i64 0)) fun v6 =>
  fCond v6
  (some (.tup [.agg [.nilS, .int .i64 0, .int .i64 0, .bool false, .int .i64 0], .int .i64 26]))
  (bindO (fBin .gtr v5 (.int .i64 4096)) fun v7 =>
  fCond v7
  (some (.tup [.agg [.nilS, .int .i64 0, .int .i64 0, .bool false, .int .i64 0], .int .i64 26]))
  (ref02_RunBand.L0 x2 v5 (fCell x0 0) (fCell x0 1) (fCell x0 2) (fCell x0 3) (fCell x0 4) (fCell x0 5) (fCell x1 0) (fCell x1 1) (fCell x1 2) (fCell x1 3) (fCell x1 4) (.int .i64 0) (.int .i64 0) (.bool false) (.int .i64 0) []))))) := (den_eq E 22 [x0, x1, x2]).trans (by kernel_rfl)
theorem ref02_RunBand.L0_eq (x0 : FV) (x1 : FV) (x2 : FV) (x3 : FV) (x4 : FV) (x5 : FV) (x6 : FV) (x7 : FV) (x8 : FV) (x9 : FV) (x10 : FV) (x11 : FV) (x12 : FV) (x13 : FV) (x14 : FV) (x15 : FV) (x16 : FV) (r17 : List (List FV)) : ref02_RunBand.L0 x0 x1 x2 x3 x4 x5 x6 x7 x8 x9 x10 x11 x12 x13 x14 x15 x16 r17 = (
  ref02_RunBand.L1 x0 x1 (.int .i64 0) x2 x3 x4 x5 x6 x7 x8 x9 x10 x11 x12 x13 x14 x15 x16 r17) := (jden_eq E 22 [] [1, 1, 1, 1] _ _).trans (by kernel_rfl)
theorem ref02_RunBand.L1_eq (x0 : FV) (x1 : FV) (x2 : FV) (x3 : FV) (x4 : FV) (x5 : FV) (x6 : FV) (x7 : FV) (x8 : FV) (x9 : FV) (x10 : FV) (x11 : FV) (x12 : FV) (x13 : FV) (x14 : FV) (x15 : FV) (x16 : FV) (x17 : FV) (r18 : List (List FV)) : ref02_RunBand.L1 x0 x1 x2 x3 x4 x5 x6 x7 x8 x9 x10 x11 x12 x13 x14 x15 x16 x17 r18 = (
  bindO (fBin .lss x2 x1) fun v20 =>
  fCond v20
  (bindO (fIdxC 1 x9 x2) fun c21 =>
  bindO (c21[0]?) fun v22 =>
  bindO (fBin .lss v22 (.int .i64 0)) fun v23 =>
  fCond v23
  (some (.tup [.agg [.nilS, .int .i64 0, .int .i64 0, .bool false, .int .i64 0], .int .i64 27]))
  (bindO (fIdxC 1 x9 x2) fun c24 =>
  bindO (c24[0]?) fun v25 =>
  bindO (fIdxC 2 x6 (.int .i64 0)) fun c26 =>
  bindO (c26[1]?) fun v27 =>
  bindO (fLen v27) fun v28 =>
  bindO (fBin .geq v25 v28) fun v29 =>
  fCond v29
  (some (.tup [.agg [.nilS, .int .i64 0, .int .i64 0, .bool false, .int .i64 0], .int .i64 27]))
  (bindO (fBin .add x2 (.int .i64 1)) fun v30 =>
  ref02_RunBand.L1 x0 x1 v30 x3 x4 x5 x6 x7 x8 x9 x10 x11 x12 x13 x14 x15 x16 x17 r18)))
  (bindO (fBin .lss x10 (.int .i64 0)) fun v31 =>
  fCond v31
  (some (.tup [.agg [.nilS, .int .i64 0, .int .i64 0, .bool false, .int .i64 0], .int .i64 27]))
  (bindO (fBin .geq x10 x1) fun v32 =>
  fCond v32
  (some (.tup [.agg [.nilS, .int .i64 0, .int .i64 0, .bool false, .int .i64 0], .int .i64 27]))
  (bindO (fBin .lss x11 (.int .i64 0)) fun v33 =>
  fCond v33
  (some (.tup [.agg [.nilS, .int .i64 0, .int .i64 0, .bool false, .int .i64 0], .int .i64 27]))
  (bindO (fLen x4) fun v34 =>
  bindO (fBin .geq x11 v34) fun v35 =>
  fCond v35
  (some (.tup [.agg [.nilS, .int .i64 0, .int .i64 0, .bool false, .int .i64 0], .int .i64 27]))
  (bindO (fBin .lss x13 (.int .i64 0)) fun v36 =>
  fCond v36
  (some (.tup [.agg [.nilS, .int .i64 0, .int .i64 0, .bool false, .int .i64 0], .int .i64 27]))
  (bindO (fBin .gtr x13 (.int .i64 1099511627776)) fun v37 =>
  fCond v37
  (some (.tup [.agg [.nilS, .int .i64 0, .int .i64 0, .bool false, .int .i64 0], .int .i64 27]))
  (ref02_RunBand.L2 x0 x1 x3 x4 x5 x6 x7 x8 x9 x10 x11 x12 x13 x14 x15 x16 x17 r18)))))))) := (jden_eq E 22 [] [4, 1, 0, 1, 1, 1, 1, 1] _ _).trans (by kernel_rfl)
theorem ref02_RunBand.L2_eq (x0 : FV) (x1 : FV) (x2 : FV) (x3 : FV) (x4 : FV) (x5 : FV) (x6 : FV) (x7 : FV) (x8 : FV) (x9 : FV) (x10 : FV) (x11 : FV) (x12 : FV) (x13 : FV) (x14 : FV) (x15 : FV) (x16 : FV) (r17 : List (List FV)) : ref02_RunBand.L2 x0 x1 x2 x3 x4 x5 x6 x7 x8 x9 x10 x11 x12 x13 x14 x15 x16 r17 = (
  bindO (fBin .lss x0 (.int .i64 0)) fun v19 =>
  fCond v19
  (some (.tup [.agg [.nilS, .int .i64 0, .int .i64 0, .bool false, .int .i64 0], .int .i64 26]))
  (bindO (fBin .gtr x0 (.int .i64 1048576)) fun v20 =>
  fCond v20
  (some (.tup [.agg [.nilS, .int .i64 0, .int .i64 0, .bool false, .int .i64 0], .int .i64 26]))
  (ref02_RunBand.L3 x0 x1 x2 x3 x4 x5 x6 x7 x8 x9 x10 x11 x12 x13 x14 x15 x16 r17))) := (jden_eq E 22 [] [1, 1, 1, 1, 1, 1] _ _).trans (by kernel_rfl)
theorem ref02_RunBand.L3_eq (x0 : FV) (x1 : FV) (x2 : FV) (x3 : FV) (x4 : FV) (x5 : FV) (x6 : FV) (x7 : FV) (x8 : FV) (x9 : FV) (x10 : FV) (x11 : FV) (x12 : FV) (x13 : FV) (x14 : FV) (x15 : FV) (x16 : FV) (r17 : List (List FV)) : ref02_RunBand.L3 x0 x1 x2 x3 x4 x5 x6 x7 x8 x9 x10 x11 x12 x13 x14 x15 x16 r17 = (
  bindO (asRows x8) fun r19 =>
  gB (rowsSz 1 r19) <|
  gB (decide ((0 + r19.length) * 8 ≤ room)) <|
  ref02_RunBand.L4 x0 x1 (.int .i64 0) x2 x3 x4 x5 x6 x7 x9 x10 x11 x12 x13 x14 x15 x16 r17 ([] ++ r19)) := (jden_eq E 22 [] [1, 1, 1, 1, 1, 1, 1] _ _).trans (by kernel_rfl)
theorem ref02_RunBand.L4_eq (x0 : FV) (x1 : FV) (x2 : FV) (x3 : FV) (x4 : FV) (x5 : FV) (x6 : FV) (x7 : FV) (x8 : FV) (x9 : FV) (x10 : FV) (x11 : FV) (x12 : FV) (x13 : FV) (x14 : FV) (x15 : FV) (x16 : FV) (r17 : List (List FV)) (r18 : List (List FV)) : ref02_RunBand.L4 x0 x1 x2 x3 x4 x5 x6 x7 x8 x9 x10 x11 x12 x13 x14 x15 x16 r17 r18 = (
  bindO (fBin .lss x2 x0) fun v20 =>
  fCond v20
  (bindO (fUn .not x11) fun v21 =>
  fCond v21
  (ref02_RunBand.L5 x0 x1 x2 x3 x4 x5 x6 x7 x8 x9 x10 x11 x12 x13 x14 x15 x16 r17 r18)
  (some (.tup [.agg [.arr r18, x9, x10, x11, x12], .int .i64 0])))
  (some (.tup [.agg [.arr r18, x9, x10, x11, x12], .int .i64 0]))) := (jden_eq E 22 [] [4, 1, 0, 1, 1, 1, 1, 1, 1, 1, 1, 1] _ _).trans (by kernel_rfl)
theorem ref02_RunBand.L5_eq (x0 : FV) (x1 : FV) (x2 : FV) (x3 : FV) (x4 : FV) (x5 : FV) (x6 : FV) (x7 : FV) (x8 : FV) (x9 : FV) (x10 : FV) (x11 : FV) (x12 : FV) (x13 : FV) (x14 : FV) (x15 : FV) (x16 : FV) (r17 : List (List FV)) (r18 : List (List FV)) : ref02_RunBand.L5 x0 x1 x2 x3 x4 x5 x6 x7 x8 x9 x10 x11 x12 x13 x14 x15 x16 r17 r18 = (
  bindO (rIdx r18 x9) fun j20 =>
  bindO (rGet r18 j20 0) fun v21 =>
  bindO (ref02_one (.agg [x3, x4, x5, x6, x7, x8]) x10 (.arr [[v21]])) fun v22 =>
  gB (fIsAgg 2 v22) <|
  bindO (fIdxC 1 (fCell v22 1) (.int .i64 0)) fun c23 =>
  bindO (c23[0]?) fun v24 =>
  bindO (rIdx r18 x9) fun j25 =>
  bindO (rSet r18 j25 0 [v24]) fun r26 =>
  bindO (fIdxC 1 (fCell v22 1) (.int .i64 1)) fun c27 =>
  bindO (c27[0]?) fun v28 =>
  bindO (fBin .add x9 v28) fun v29 =>
  bindO (fBin .sub v29 (.int .i64 1)) fun v30 =>
  bindO (fMinMax true v30 (.int .i64 0)) fun v31 =>
  bindO (fBin .sub x1 (.int .i64 1)) fun v32 =>
  bindO (fMinMax false v31 v32) fun v33 =>
  bindO (fBin .add x12 (.int .i64 1)) fun v34 =>
  bindO (fIdxC 1 (fCell v22 1) (.int .i64 2)) fun c35 =>
  bindO (c35[0]?) fun v36 =>
  bindO (fBin .eql v36 (.int .i64 1)) fun v37 =>
  bindO (fBin .add x2 (.int .i64 1)) fun v38 =>
  ref02_RunBand.L4 x0 x1 v38 x3 x4 x5 x6 x7 x8 v33 (fCell v22 0) v37 v34 x13 x14 x15 x16 r17 r26) := (jden_eq E 22 [] [5, 4, 1, 0, 1, 1, 1, 1, 1, 1, 1, 1, 1] _ _).trans (by kernel_rfl)
/-! ### slices.IndexFunc[[]int,int] (function 138) -/
noncomputable def slices_IndexFunc_int.L0 (x0 : FV) (x1 : FV) (x2 : FV) (x3 : FV) : R := jden E 138 [] [4, 1, 0, 1] (mkF 19 [(0, .f x0), (1, .f x1), (7, .f x2), (8, .f x3)]) []
theorem slices_IndexFunc_int.eq (x0 x1 : FV) : slices_IndexFunc_int x0 x1 = (
  bindO (fLen x0) fun v1 =>
  slices_IndexFunc_int.L0 x0 x1 v1 (.int .i64 0)) := (den_eq E 138 [x0, x1]).trans (by kernel_rfl)
theorem slices_IndexFunc_int.L0_eq (x0 : FV) (x1 : FV) (x2 : FV) (x3 : FV) : slices_IndexFunc_int.L0 x0 x1 x2 x3 = (
  bindO (fBin .lss x3 x2) fun v5 =>
  fCond v5
  (bindO (fIdxC 1 x0 x3) fun c6 =>
  bindO (c6[0]?) fun v7 =>
  bindO (callDyn false x1 [v7]) fun v8 =>
  fCond v8
  (some x3)
  (bindO (fBin .add x3 (.int .i64 1)) fun v9 =>
  slices_IndexFunc_int.L0 x0 x1 x2 v9))
  (some (.int .i64 (-1)))) := (jden_eq E 138 [] [4, 1, 0, 1] _ _).trans (by kernel_rfl)
/-! ### slices.ContainsFunc[[]int,int] (function 52) -/
theorem slices_ContainsFunc_int.eq (x0 x1 : FV) : slices_ContainsFunc_int x0 x1 = (
  bindO (slices_IndexFunc_int x0 x1) fun v1 =>
  bindO (fBin .geq v1 (.int .i64 0)) fun v2 =>
  some v2) := (den_eq E 52 [x0, x1]).trans (by kernel_rfl)
/-! ### slices.Equal[[]string,string] (function 140) -/
noncomputable def slices_Equal_string.L0 (x0 : FV) (x1 : FV) (x2 : FV) (x3 : FV) : R := jden E 140 [] [4, 1, 0, 1, 1] (mkF 26 [(0, .f x0), (1, .f x1), (12, .f x2), (13, .f x3)]) []
theorem slices_Equal_string.eq (x0 x1 : FV) : slices_Equal_string x0 x1 = (
  bindO (fLen x0) fun v1 =>
  bindO (fLen x1) fun v2 =>
  bindO (fBin .neq v1 v2) fun v3 =>
  fCond v3
  (some (.bool false))
  (bindO (fLen x0) fun v4 =>
  slices_Equal_string.L0 x0 x1 v4 (.int .i64 0))) := (den_eq E 140 [x0, x1]).trans (by kernel_rfl)
theorem slices_Equal_string.L0_eq (x0 : FV) (x1 : FV) (x2 : FV) (x3 : FV) : slices_Equal_string.L0 x0 x1 x2 x3 = (
  bindO (fBin .lss x3 x2) fun v5 =>
  fCond v5
  (bindO (fIdxC 1 x0 x3) fun c6 =>
  bindO (c6[0]?) fun v7 =>
  bindO (fIdxC 1 x1 x3) fun c8 =>
  bindO (c8[0]?) fun v9 =>
  bindO (fBin .neq v7 v9) fun v10 =>
  fCond v10
  (some (.bool false))
  (bindO (fBin .add x3 (.int .i64 1)) fun v11 =>
  slices_Equal_string.L0 x0 x1 x2 v11))
  (some (.bool true))) := (jden_eq E 140 [] [4, 1, 0, 1, 1] _ _).trans (by kernel_rfl)
/-! ### ramet/mach.isBander (function 62) -/
noncomputable def mach_isBander.L0 (x0 : FV) (x1 : FV) (x2 : FV) (x3 : FV) (x4 : FV) (x5 : FV) : R := jden E 62 [] [1] (mkF 64 [(1, .ptr 0 0 0)]) [.box [.f x0, .f x1, .f x2, .f x3, .f x4, .f x5]]
noncomputable def mach_isBander.L1 (x0 : FV) (x1 : FV) (x2 : FV) (x3 : FV) (x4 : FV) (x5 : FV) (x6 : FV) (x7 : FV) (r8 : List (List FV)) (r9 : List (List FV)) (r10 : List (List FV)) : R := jden E 62 [] [4, 1, 0, 1, 1, 1] (mkF 64 [(1, .ptr 0 0 0), (35, .ref 3), (36, .f x0), (37, .f x1)]) [.box [.f x2, .f x3, .f x4, .f x5, .f x6, .f x7], .fz r8, .fz r9, .own 2 r10]
theorem mach_isBander.eq (x0 : FV) : mach_isBander x0 = (
  gB (fIsAgg 6 x0) <|
  bindO (fLen (fCell x0 3)) fun v1 =>
  bindO (fBin .neq v1 (.int .i64 1)) fun v2 =>
  fCond v2
  (some (.bool false))
  (bindO (fLen (fCell x0 4)) fun v3 =>
  bindO (fBin .neq v3 (.int .i64 3)) fun v4 =>
  fCond v4
  (some (.bool false))
  (bindO (fIdxC 2 (fCell x0 3) (.int .i64 0)) fun c5 =>
  bindO (c5[0]?) fun v6 =>
  bindO (fBin .neq v6 (.str [114, 101, 97, 100])) fun v7 =>
  fCond v7
  (some (.bool false))
  (mach_isBander.L0 (fCell x0 0) (fCell x0 1) (fCell x0 2) (fCell x0 3) (fCell x0 4) (fCell x0 5))))) := (den_eq E 62 [x0]).trans (by kernel_rfl)
theorem mach_isBander.L0_eq (x0 : FV) (x1 : FV) (x2 : FV) (x3 : FV) (x4 : FV) (x5 : FV) : mach_isBander.L0 x0 x1 x2 x3 x4 x5 = (
  bindO (fIdxC 2 x3 (.int .i64 0)) fun c7 =>
  bindO (c7[1]?) fun v8 =>
  mach_isBander.L1 (.int .i64 ((3 : Nat) : Int)) (.int .i64 0) x0 x1 x2 x3 x4 x5 [[.str [108, 101, 102, 116]], [.str [115, 116, 97, 121]], [.str [114, 105, 103, 104, 116]]] [[.str [110, 111]], [.str [121, 101, 115]]] [[.str [119, 114, 105, 116, 101], v8], [.str [109, 111, 118, 101], .arr [[.str [108, 101, 102, 116]], [.str [115, 116, 97, 121]], [.str [114, 105, 103, 104, 116]]]], [.str [104, 97, 108, 116], .arr [[.str [110, 111]], [.str [121, 101, 115]]]]]) := (jden_eq E 62 [] [1] _ _).trans (by kernel_rfl)
theorem mach_isBander.L1_eq (x0 : FV) (x1 : FV) (x2 : FV) (x3 : FV) (x4 : FV) (x5 : FV) (x6 : FV) (x7 : FV) (r8 : List (List FV)) (r9 : List (List FV)) (r10 : List (List FV)) : mach_isBander.L1 x0 x1 x2 x3 x4 x5 x6 x7 r8 r9 r10 = (
  bindO (fBin .lss x1 x0) fun v12 =>
  fCond v12
  (bindO (rIdx r10 x1) fun j13 =>
  bindO (rGet r10 j13 0) fun v14 =>
  bindO (rGet r10 j13 1) fun v15 =>
  bindO (fIdxC 2 x6 x1) fun c16 =>
  bindO (c16[0]?) fun v17 =>
  bindO (fBin .neq v17 v14) fun v18 =>
  fCond v18
  (some (.bool false))
  (bindO (fIdxC 2 x6 x1) fun c19 =>
  bindO (c19[1]?) fun v20 =>
  bindO (slices_Equal_string v20 v15) fun v21 =>
  bindO (fUn .not v21) fun v22 =>
  fCond v22
  (some (.bool false))
  (bindO (fBin .add x1 (.int .i64 1)) fun v23 =>
  mach_isBander.L1 x0 v23 x2 x3 x4 x5 x6 x7 r8 r9 r10)))
  (some (.bool true))) := (jden_eq E 62 [] [4, 1, 0, 1, 1, 1] _ _).trans (by kernel_rfl)
/-! ### ramet/mach.RunBand$1 (function 63) -/
theorem mach_RunBand_1.eq (x0 x1 : FV) : mach_RunBand_1 x0 x1 = (
  bindO (fBin .lss x0 (.int .i64 0)) fun v1 =>
  fCond v1
  (some (.bool true))
  (bindO (fLd x1 0) fun v2 =>
  bindO (fBin .geq x0 v2) fun v3 =>
  some v3)) := (den_eq E 63 [x0, x1]).trans (by kernel_rfl)
/-! ### ramet/mach.RunBand (function 23) -/
noncomputable def mach_RunBand.L1 (x0 : FV) (x1 : FV) (x2 : FV) (x3 : FV) (x4 : FV) (x5 : FV) (x6 : FV) (x7 : FV) (x8 : FV) (x9 : FV) (x10 : FV) (x11 : FV) (x12 : FV) (x13 : FV) (x14 : FV) (x15 : FV) (c16 : List FV) (r17 : List (List FV)) : R := jden E 23 [] [0, 1, 1, 1, 1] (mkF 152 [(2, .f x0), (3, .ptr 0 0 0), (4, .ptr 1 0 0), (6, .ptr 2 0 0), (9, .ptr 3 0 0)]) [.box [.f x1, .f x2, .f x3, .f x4, .f x5, .f x6], .box [.f x7, .f x8, .f x9, .f x10, .f x11], .box [.ref 4, .f x12, .f x13, .f x14, .f x15], .fzb c16, .own 1 r17]
noncomputable def mach_RunBand.L0 (x0 : FV) (x1 : FV) (x2 : FV) (x3 : FV) (x4 : FV) (x5 : FV) (x6 : FV) (x7 : FV) (x8 : FV) (x9 : FV) (x10 : FV) (x11 : FV) (x12 : FV) (x13 : FV) (x14 : FV) (x15 : FV) (c16 : List FV) (r17 : List (List FV)) : R := jden E 23 [] [1, 1, 1, 1] (mkF 152 [(2, .f x0), (3, .ptr 0 0 0), (4, .ptr 1 0 0), (6, .ptr 2 0 0), (9, .ptr 3 0 0)]) [.box [.f x1, .f x2, .f x3, .f x4, .f x5, .f x6], .box [.f x7, .f x8, .f x9, .f x10, .f x11], .box [.ref 4, .f x12, .f x13, .f x14, .f x15], .fzb c16, .own 1 r17]
noncomputable def mach_RunBand.L2 (x0 : FV) (x1 : FV) (x2 : FV) (x3 : FV) (x4 : FV) (x5 : FV) (x6 : FV) (x7 : FV) (x8 : FV) (x9 : FV) (x10 : FV) (x11 : FV) (x12 : FV) (x13 : FV) (x14 : FV) (x15 : FV) (c16 : List FV) (r17 : List (List FV)) (r18 : List (List FV)) : R := jden E 23 [] [4, 1, 0, 1, 1, 1, 1, 1, 1] (mkF 152 [(3, .ptr 0 0 0), (4, .ptr 1 0 0), (6, .ptr 2 0 0), (9, .ptr 3 0 0), (93, .f x0), (94, .f x1)]) [.box [.f x2, .f x3, .f x4, .f x5, .f x6, .f x7], .box [.ref 5, .f x8, .f x9, .f x10, .f x11], .box [.ref 4, .f x12, .f x13, .f x14, .f x15], .fzb c16, .own 1 r17, .own 1 r18]
theorem mach_RunBand.eq (x0 x1 x2 : FV) : mach_RunBand x0 x1 x2 = (
  gB (fIsAgg 6 x0) <|
  gB (fIsAgg 5 x1) <|
  bindO (mach_Check (.agg [(fCell x0 0), (fCell x0 1), (fCell x0 2), (fCell x0 3), (fCell x0 4), (fCell x0 5)])) fun v1 =>
  bindO (fBin .neq v1 (.int .i64 0)) fun v2 =>
  fCond v2
  (some (.tup [.agg [.nilS, .int .i64 0, .int .i64 0, .bool false, .int .i64 0], v1]))
  (bindO (mach_isBander (.agg [(fCell x0 0), (fCell x0 1), (fCell x0 2), (fCell x0 3), (fCell x0 4), (fCell x0 5)])) fun v3 =>
  bindO (fUn .not v3) fun v4 =>
  fCond v4
  (some (.tup [.agg [.nilS, .int .i64 0, .int .i64 0, .bool false, .int .i64 0], .int .i64 21]))
  (bindO (fIdxC 2 (fCell x0 3) (.int .i64 0)) fun c5 =>
  bindO (c5[1]?) fun v6 =>
  bindO (fLen v6) fun v7 =>
  bindO (fLen (fCell x1 0)) fun v8 =>
  bindO (fBin .eql v8 (.int .i64 0)) fun v9 =>
  fCond v9
  (some (.tup [.agg [.nilS, .int .i64 0, .int .i64 0, .bool false, .int .i64 0], .int .i64 26]))
  (bindO (fLen (fCell x1 0)) fun v10 =>
  bindO (fBin .gtr v10 (.int .i64 4096)) fun v11 =>
  fCond v11
  (some (.tup [.agg [.nilS, .int .i64 0, .int .i64 0, .bool false, .int .i64 0], .int .i64 26]))
  (bindO (slices_ContainsFunc_int (fCell x1 0) (.func 63 [.eptr [v7] 0])) fun v12 =>
  fCond v12
  (some (.tup [.agg [.nilS, .int .i64 0, .int .i64 0, .bool false, .int .i64 0], .int .i64 27]))
  (bindO (fBin .lss (fCell x1 1) (.int .i64 0)) fun v13 =>
  fCond v13
  (some (.tup [.agg [.nilS, .int .i64 0, .int .i64 0, .bool false, .int .i64 0], .int .i64 27]))
  (bindO (fLen (fCell x1 0)) fun v14 =>
  bindO (fBin .geq (fCell x1 1) v14) fun v15 =>
  fCond v15
  (some (.tup [.agg [.nilS, .int .i64 0, .int .i64 0, .bool false, .int .i64 0], .int .i64 27]))
  (bindO (fBin .lss (fCell x1 2) (.int .i64 0)) fun v16 =>
  fCond v16
  (some (.tup [.agg [.nilS, .int .i64 0, .int .i64 0, .bool false, .int .i64 0], .int .i64 27]))
  (bindO (fLen (fCell x0 1)) fun v17 =>
  bindO (fBin .geq (fCell x1 2) v17) fun v18 =>
  fCond v18
  (some (.tup [.agg [.nilS, .int .i64 0, .int .i64 0, .bool false, .int .i64 0], .int .i64 27]))
  (bindO (fBin .lss (fCell x1 4) (.int .i64 0)) fun v19 =>
  fCond v19
  (some (.tup [.agg [.nilS, .int .i64 0, .int .i64 0, .bool false, .int .i64 0], .int .i64 27]))
  (bindO (fBin .gtr (fCell x1 4) (.int .i64 1099511627776)) fun v20 =>
  fCond v20
  (some (.tup [.agg [.nilS, .int .i64 0, .int .i64 0, .bool false, .int .i64 0], .int .i64 27]))
  (bindO (fBin .lss x2 (.int .i64 0)) fun v21 =>
  fCond v21
  (some (.tup [.agg [.nilS, .int .i64 0, .int .i64 0, .bool false, .int .i64 0], .int .i64 26]))
  (bindO (fBin .gtr x2 (.int .i64 1048576)) fun v22 =>
  fCond v22
  (some (.tup [.agg [.nilS, .int .i64 0, .int .i64 0, .bool false, .int .i64 0], .int .i64 26]))
  (mach_RunBand.L1 x2 (fCell x0 0) (fCell x0 1) (fCell x0 2) (fCell x0 3) (fCell x0 4) (fCell x0 5) (fCell x1 0) (fCell x1 1) (fCell x1 2) (fCell x1 3) (fCell x1 4) (.int .i64 0) (.int .i64 0) (.bool false) (.int .i64 0) [v7] [])))))))))))))) := (den_eq E 23 [x0, x1, x2]).trans (by kernel_rfl)
theorem mach_RunBand.L1_eq (x0 : FV) (x1 : FV) (x2 : FV) (x3 : FV) (x4 : FV) (x5 : FV) (x6 : FV) (x7 : FV) (x8 : FV) (x9 : FV) (x10 : FV) (x11 : FV) (x12 : FV) (x13 : FV) (x14 : FV) (x15 : FV) (c16 : List FV) (r17 : List (List FV)) : mach_RunBand.L1 x0 x1 x2 x3 x4 x5 x6 x7 x8 x9 x10 x11 x12 x13 x14 x15 c16 r17 = (
  mach_RunBand.L0 x0 x1 x2 x3 x4 x5 x6 x7 x8 x9 x10 x11 x12 x13 x14 x15 c16 r17) := (jden_eq E 23 [] [0, 1, 1, 1, 1] _ _).trans (by kernel_rfl)
theorem mach_RunBand.L0_eq (x0 : FV) (x1 : FV) (x2 : FV) (x3 : FV) (x4 : FV) (x5 : FV) (x6 : FV) (x7 : FV) (x8 : FV) (x9 : FV) (x10 : FV) (x11 : FV) (x12 : FV) (x13 : FV) (x14 : FV) (x15 : FV) (c16 : List FV) (r17 : List (List FV)) : mach_RunBand.L0 x0 x1 x2 x3 x4 x5 x6 x7 x8 x9 x10 x11 x12 x13 x14 x15 c16 r17 = (
  bindO (slices_Clone_int x7) fun v19 =>
  bindO (arrRows v19) fun r20 =>
  mach_RunBand.L2 x0 (.int .i64 0) x1 x2 x3 x4 x5 x6 x8 x9 x10 x11 x12 x13 x14 x15 c16 r17 r20) := (jden_eq E 23 [] [1, 1, 1, 1] _ _).trans (by kernel_rfl)
theorem mach_RunBand.L2_eq (x0 : FV) (x1 : FV) (x2 : FV) (x3 : FV) (x4 : FV) (x5 : FV) (x6 : FV) (x7 : FV) (x8 : FV) (x9 : FV) (x10 : FV) (x11 : FV) (x12 : FV) (x13 : FV) (x14 : FV) (x15 : FV) (c16 : List FV) (r17 : List (List FV)) (r18 : List (List FV)) : mach_RunBand.L2 x0 x1 x2 x3 x4 x5 x6 x7 x8 x9 x10 x11 x12 x13 x14 x15 c16 r17 r18 = (
  bindO (fBin .lss x1 x0) fun v20 =>
  fCond v20
  (fCond x10
  (some (.tup [.agg [.arr r18, x8, x9, x10, x11], .int .i64 0]))
  (bindO (c16[0]?) fun v21 =>
  bindO (fBin .mul x9 v21) fun v22 =>
  bindO (rIdx r18 x8) fun j23 =>
  bindO (rGet r18 j23 0) fun v24 =>
  bindO (fBin .add v22 v24) fun v25 =>
  bindO (fIdxC 2 x7 v25) fun c26 =>
  bindO (c26[0]?) fun v27 =>
  bindO (c26[1]?) fun v28 =>
  bindO (fIdxC 1 v28 (.int .i64 0)) fun c29 =>
  bindO (c29[0]?) fun v30 =>
  bindO (rIdx r18 x8) fun j31 =>
  bindO (rSet r18 j31 0 [v30]) fun r32 =>
  bindO (fIdxC 1 v28 (.int .i64 1)) fun c33 =>
  bindO (c33[0]?) fun v34 =>
  bindO (fBin .add x8 v34) fun v35 =>
  bindO (fBin .sub v35 (.int .i64 1)) fun v36 =>
  bindO (fMinMax true v36 (.int .i64 0)) fun v37 =>
  bindO (fBin .sub (.int .i64 ((r32.length : Nat) : Int)) (.int .i64 1)) fun v38 =>
  bindO (fMinMax false v37 v38) fun v39 =>
  bindO (fBin .add x11 (.int .i64 1)) fun v40 =>
  bindO (fIdxC 1 v28 (.int .i64 2)) fun c41 =>
  bindO (c41[0]?) fun v42 =>
  bindO (fBin .eql v42 (.int .i64 1)) fun v43 =>
  bindO (fBin .add x1 (.int .i64 1)) fun v44 =>
  mach_RunBand.L2 x0 v44 x2 x3 x4 x5 x6 x7 v39 v27 v43 v40 x12 x13 x14 x15 c16 r17 r32))
  (some (.tup [.agg [.arr r18, x8, x9, x10, x11], .int .i64 0]))) := (jden_eq E 23 [] [4, 1, 0, 1, 1, 1, 1, 1, 1] _ _).trans (by kernel_rfl)
/-! ### ramet/rametref02.SameBand (function 24) -/
theorem ref02_SameBand.eq (x0 x1 : FV) : ref02_SameBand x0 x1 = (
  gB (fIsAgg 5 x0) <|
  gB (fIsAgg 5 x1) <|
  bindO (ref02_sameInts (fCell x0 0) (fCell x1 0)) fun v1 =>
  fCond v1
  (bindO (fBin .eql (fCell x0 1) (fCell x1 1)) fun v2 =>
  fCond v2
  (bindO (fBin .eql (fCell x0 2) (fCell x1 2)) fun v3 =>
  fCond v3
  (bindO (fBoolBin .eql (fCell x0 3) (fCell x1 3)) fun v4 =>
  fCond v4
  (bindO (fBin .eql (fCell x0 4) (fCell x1 4)) fun v5 =>
  some v5)
  (some (.bool false)))
  (some (.bool false)))
  (some (.bool false)))
  (some (.bool false))) := (den_eq E 24 [x0, x1]).trans (by kernel_rfl)
/-! ### ramet/rametlaw02.MachBands (function 5) -/
noncomputable def law02_MachBands.L0 (x0 : FV) (x1 : FV) (x2 : FV) (x3 : FV) (x4 : FV) (x5 : FV) (x6 : FV) (x7 : FV) (x8 : FV) (x9 : FV) (x10 : FV) (x11 : FV) (x12 : FV) (x13 : FV) (x14 : FV) (x15 : FV) (x16 : FV) (x17 : FV) (x18 : FV) (x19 : FV) (x20 : FV) (x21 : FV) (x22 : FV) (x23 : FV) (x24 : FV) (x25 : FV) : R := jden E 5 [] [1, 1, 1, 1, 1] (mkF 83 [(3, .ptr 0 0 0), (4, .ptr 1 0 0), (7, .f x0), (8, .f x1), (11, .ptr 4 0 0), (12, .f x2)]) [.box [.f x3, .f x4, .f x5, .f x6, .f x7, .f x8], .box [.f x9, .f x10, .f x11, .f x12, .f x13], .box [.f x14, .f x15], .box [.f x16, .f x17, .f x18, .f x19, .f x20], .box [.f x21, .f x22, .f x23, .f x24, .f x25]]
noncomputable def law02_MachBands.L1 (x0 : FV) (x1 : FV) (x2 : FV) (x3 : FV) (x4 : FV) (x5 : FV) (x6 : FV) (x7 : FV) (x8 : FV) (x9 : FV) (x10 : FV) (x11 : FV) (x12 : FV) (x13 : FV) (x14 : FV) (x15 : FV) (x16 : FV) (x17 : FV) (x18 : FV) (x19 : FV) (x20 : FV) (x21 : FV) (x22 : FV) (x23 : FV) (x24 : FV) : R := jden E 5 [] [1, 1, 1, 1, 1, 1] (mkF 83 [(3, .ptr 0 0 0), (4, .ptr 1 0 0), (7, .f x0), (8, .f x1), (11, .ptr 4 0 0)]) [.box [.f x2, .f x3, .f x4, .f x5, .f x6, .f x7], .box [.f x8, .f x9, .f x10, .f x11, .f x12], .box [.f x13, .f x14], .box [.f x15, .f x16, .f x17, .f x18, .f x19], .box [.f x20, .f x21, .f x22, .f x23, .f x24]]
theorem law02_MachBands.eq (x0 x1 x2 : FV) : law02_MachBands x0 x1 x2 = (
  gB (fIsAgg 6 x0) <|
  gB (fIsAgg 5 x1) <|
  gB (fIsAgg 2 x2) <|
  bindO (ref02_RunBand (.agg [(fCell x0 0), (fCell x0 1), (fCell x0 2), (fCell x0 3), (fCell x0 4), (fCell x0 5)]) (.agg [(fCell x1 0), (fCell x1 1), (fCell x1 2), (fCell x1 3), (fCell x1 4)]) (fCell x2 0)) fun v1 =>
  gB (fIsTup 2 v1) <|
  gB (fIsAgg 5 (fTup v1 0)) <|
  bindO (mach_RunBand (.agg [(fCell x0 0), (fCell x0 1), (fCell x0 2), (fCell x0 3), (fCell x0 4), (fCell x0 5)]) (.agg [(fCell x1 0), (fCell x1 1), (fCell x1 2), (fCell x1 3), (fCell x1 4)]) (fCell x2 0)) fun v2 =>
  gB (fIsTup 2 v2) <|
  gB (fIsAgg 5 (fTup v2 0)) <|
  bindO (fBin .neq (fTup v2 1) (fTup v1 1)) fun v3 =>
  fCond v3
  (some (.bool false))
  (bindO (ref02_SameBand (.agg [(fCell (fTup v2 0) 0), (fCell (fTup v2 0) 1), (fCell (fTup v2 0) 2), (fCell (fTup v2 0) 3), (fCell (fTup v2 0) 4)]) (.agg [(fCell (fTup v1 0) 0), (fCell (fTup v1 0) 1), (fCell (fTup v1 0) 2), (fCell (fTup v1 0) 3), (fCell (fTup v1 0) 4)])) fun v4 =>
  bindO (fUn .not v4) fun v5 =>
  fCond v5
  (some (.bool false))
  (law02_MachBands.L0 (fCell x2 0) (fCell x2 1) (fTup v2 1) (fCell x0 0) (fCell x0 1) (fCell x0 2) (fCell x0 3) (fCell x0 4) (fCell x0 5) (fCell x1 0) (fCell x1 1) (fCell x1 2) (fCell x1 3) (fCell x1 4) (fCell x2 0) (fCell x2 1) (fCell (fTup v1 0) 0) (fCell (fTup v1 0) 1) (fCell (fTup v1 0) 2) (fCell (fTup v1 0) 3) (fCell (fTup v1 0) 4) (fCell (fTup v2 0) 0) (fCell (fTup v2 0) 1) (fCell (fTup v2 0) 2) (fCell (fTup v2 0) 3) (fCell (fTup v2 0) 4)))) := (den_eq E 5 [x0, x1, x2]).trans (by kernel_rfl)
theorem law02_MachBands.L0_eq (x0 : FV) (x1 : FV) (x2 : FV) (x3 : FV) (x4 : FV) (x5 : FV) (x6 : FV) (x7 : FV) (x8 : FV) (x9 : FV) (x10 : FV) (x11 : FV) (x12 : FV) (x13 : FV) (x14 : FV) (x15 : FV) (x16 : FV) (x17 : FV) (x18 : FV) (x19 : FV) (x20 : FV) (x21 : FV) (x22 : FV) (x23 : FV) (x24 : FV) (x25 : FV) : law02_MachBands.L0 x0 x1 x2 x3 x4 x5 x6 x7 x8 x9 x10 x11 x12 x13 x14 x15 x16 x17 x18 x19 x20 x21 x22 x23 x24 x25 = (
  bindO (fBin .neq x2 (.int .i64 0)) fun v27 =>
  fCond v27
  (some (.bool true))
  (bindO (fBin .lss x1 (.int .i64 0)) fun v28 =>
  fCond v28
  (some (.bool true))
  (bindO (fBin .gtr x1 x0) fun v29 =>
  fCond v29
  (some (.bool true))
  (law02_MachBands.L1 x0 x1 x3 x4 x5 x6 x7 x8 x9 x10 x11 x12 x13 x14 x15 x16 x17 x18 x19 x20 x21 x22 x23 x24 x25)))) := (jden_eq E 5 [] [1, 1, 1, 1, 1] _ _).trans (by kernel_rfl)
theorem law02_MachBands.L1_eq (x0 : FV) (x1 : FV) (x2 : FV) (x3 : FV) (x4 : FV) (x5 : FV) (x6 : FV) (x7 : FV) (x8 : FV) (x9 : FV) (x10 : FV) (x11 : FV) (x12 : FV) (x13 : FV) (x14 : FV) (x15 : FV) (x16 : FV) (x17 : FV) (x18 : FV) (x19 : FV) (x20 : FV) (x21 : FV) (x22 : FV) (x23 : FV) (x24 : FV) : law02_MachBands.L1 x0 x1 x2 x3 x4 x5 x6 x7 x8 x9 x10 x11 x12 x13 x14 x15 x16 x17 x18 x19 x20 x21 x22 x23 x24 = (
  bindO (mach_RunBand (.agg [x2, x3, x4, x5, x6, x7]) (.agg [x8, x9, x10, x11, x12]) x1) fun v26 =>
  gB (fIsTup 2 v26) <|
  gB (fIsAgg 5 (fTup v26 0)) <|
  bindO (fBin .neq (fTup v26 1) (.int .i64 0)) fun v27 =>
  fCond v27
  (some (.bool false))
  (bindO (fBin .gtr (fCell (fTup v26 0) 4) (.int .i64 1099511627776)) fun v28 =>
  fCond v28
  (some (.bool true))
  (bindO (fBin .sub x0 x1) fun v29 =>
  bindO (mach_RunBand (.agg [x2, x3, x4, x5, x6, x7]) (.agg [(fCell (fTup v26 0) 0), (fCell (fTup v26 0) 1), (fCell (fTup v26 0) 2), (fCell (fTup v26 0) 3), (fCell (fTup v26 0) 4)]) v29) fun v30 =>
  gB (fIsTup 2 v30) <|
  gB (fIsAgg 5 (fTup v30 0)) <|
  bindO (fBin .eql (fTup v30 1) (.int .i64 0)) fun v31 =>
  fCond v31
  (bindO (ref02_SameBand (.agg [(fCell (fTup v30 0) 0), (fCell (fTup v30 0) 1), (fCell (fTup v30 0) 2), (fCell (fTup v30 0) 3), (fCell (fTup v30 0) 4)]) (.agg [x20, x21, x22, x23, x24])) fun v32 =>
  some v32)
  (some (.bool false))))) := (jden_eq E 5 [] [1, 1, 1, 1, 1, 1] _ _).trans (by kernel_rfl)
/-! ### ramet/rametref02.sameSizes (function 64) -/
noncomputable def ref02_sameSizes.L0 (x0 : FV) (x1 : FV) (x2 : FV) : R := jden E 64 [] [4, 1, 0, 1, 1] (mkF 30 [(0, .f x0), (1, .f x1), (5, .f x2)]) []
theorem ref02_sameSizes.eq (x0 x1 : FV) : ref02_sameSizes x0 x1 = (
  bindO (fLen x0) fun v1 =>
  bindO (fLen x1) fun v2 =>
  bindO (fBin .neq v1 v2) fun v3 =>
  fCond v3
  (some (.bool false))
  (ref02_sameSizes.L0 x0 x1 (.int .i64 0))) := (den_eq E 64 [x0, x1]).trans (by kernel_rfl)
theorem ref02_sameSizes.L0_eq (x0 : FV) (x1 : FV) (x2 : FV) : ref02_sameSizes.L0 x0 x1 x2 = (
  bindO (fLen x0) fun v4 =>
  bindO (fBin .lss x2 v4) fun v5 =>
  fCond v5
  (bindO (fIdxC 2 x0 x2) fun c6 =>
  bindO (c6[1]?) fun v7 =>
  bindO (fLen v7) fun v8 =>
  bindO (fIdxC 2 x1 x2) fun c9 =>
  bindO (c9[1]?) fun v10 =>
  bindO (fLen v10) fun v11 =>
  bindO (fBin .neq v8 v11) fun v12 =>
  fCond v12
  (some (.bool false))
  (bindO (fBin .add x2 (.int .i64 1)) fun v13 =>
  ref02_sameSizes.L0 x0 x1 v13))
  (some (.bool true))) := (jden_eq E 64 [] [4, 1, 0, 1, 1] _ _).trans (by kernel_rfl)
/-! ### ramet/rametref02.bareOf (function 65) -/
noncomputable def ref02_bareOf.L0 (x0 : FV) (x1 : FV) (x2 : FV) (x3 : FV) (x4 : FV) (x5 : FV) (x6 : FV) (x7 : FV) (x8 : FV) (r9 : List (List FV)) (r10 : List (List FV)) (r11 : List (List FV)) (r12 : List (List FV)) : R := jden E 65 [] [4, 1, 0, 1, 1] (mkF 39 [(1, .ptr 0 0 0), (2, .ptr 1 0 0), (3, .ptr 2 0 0), (4, .f x0)]) [.box [.f x1, .f x2, .f x3, .f x4, .f x5, .f x6], .box [.f x7, .ref 3, .ref 4], .box [.f x8, .ref 5, .ref 6], .own 1 r9, .own 1 r10, .own 1 r11, .own 1 r12]
theorem ref02_bareOf.eq (x0 : FV) : ref02_bareOf x0 = (
  gB (fIsAgg 6 x0) <|
  bindO (ref02_product (fCell x0 3)) fun v1 =>
  ref02_bareOf.L0 (.int .i64 0) (fCell x0 0) (fCell x0 1) (fCell x0 2) (fCell x0 3) (fCell x0 4) (fCell x0 5) (.int .i64 0) v1 [] [] [] []) := (den_eq E 65 [x0]).trans (by kernel_rfl)
theorem ref02_bareOf.L0_eq (x0 : FV) (x1 : FV) (x2 : FV) (x3 : FV) (x4 : FV) (x5 : FV) (x6 : FV) (x7 : FV) (x8 : FV) (r9 : List (List FV)) (r10 : List (List FV)) (r11 : List (List FV)) (r12 : List (List FV)) : ref02_bareOf.L0 x0 x1 x2 x3 x4 x5 x6 x7 x8 r9 r10 r11 r12 = (
  bindO (fLen x6) fun v14 =>
  bindO (fBin .lss x0 v14) fun v15 =>
  fCond v15
  (bindO (fIdxC 2 x6 x0) fun c16 =>
  bindO (c16[0]?) fun v17 =>
  gB (decide ((r11.length + 1) * 8 ≤ room)) <|
  bindO (fIdxC 2 x6 x0) fun c18 =>
  bindO (c18[1]?) fun v19 =>
  gB (decide ((r12.length + 1) * 24 ≤ room)) <|
  bindO (fBin .add x0 (.int .i64 1)) fun v20 =>
  ref02_bareOf.L0 v20 x1 x2 x3 x4 x5 x6 x7 x8 r9 r10 (r11 ++ [[v17]]) (r12 ++ [[v19]]))
  (some (.agg [x8, .arr r11, .arr r12]))) := (jden_eq E 65 [] [4, 1, 0, 1, 1] _ _).trans (by kernel_rfl)
/-! ### ramet/rametref02.Parts (function 112) -/
noncomputable def ref02_Parts.L0 (x0 : FV) (x1 : FV) (x2 : FV) (r3 : List (List FV)) : R := jden E 112 [] [4, 1, 0, 1, 1] (mkF 37 [(0, .f x0), (1, .f x1), (5, .ref 0), (6, .f x2)]) [.own 1 r3]
theorem ref02_Parts.eq (x0 x1 : FV) : ref02_Parts x0 x1 = (
  bindO (fLen x0) fun v1 =>
  bindO (asNat v1) fun j2 =>
  bindO (asNat v1) fun j3 =>
  gB (j2 ≤ j3 && j3 * 8 ≤ room && 1 ≥ 1) <|
  bindO (fLen x0) fun v4 =>
  bindO (fBin .sub v4 (.int .i64 1)) fun v5 =>
  ref02_Parts.L0 x0 x1 v5 (List.replicate j2 [(.int .i64 0 : FV)])) := (den_eq E 112 [x0, x1]).trans (by kernel_rfl)
theorem ref02_Parts.L0_eq (x0 : FV) (x1 : FV) (x2 : FV) (r3 : List (List FV)) : ref02_Parts.L0 x0 x1 x2 r3 = (
  bindO (fBin .geq x2 (.int .i64 0)) fun v5 =>
  fCond v5
  (bindO (fIdxC 2 x0 x2) fun c6 =>
  bindO (c6[1]?) fun v7 =>
  bindO (fLen v7) fun v8 =>
  bindO (fBin .rem x1 v8) fun v9 =>
  bindO (rIdx r3 x2) fun j10 =>
  bindO (rSet r3 j10 0 [v9]) fun r11 =>
  bindO (fIdxC 2 x0 x2) fun c12 =>
  bindO (c12[1]?) fun v13 =>
  bindO (fLen v13) fun v14 =>
  bindO (fBin .quo x1 v14) fun v15 =>
  bindO (fBin .sub x2 (.int .i64 1)) fun v16 =>
  ref02_Parts.L0 x0 v15 v16 r11)
  (some (.arr r3))) := (jden_eq E 112 [] [4, 1, 0, 1, 1] _ _).trans (by kernel_rfl)
/-! ### ramet/rametref02.way (function 66) -/
noncomputable def ref02_way.L0 (x0 : FV) (x1 : FV) (x2 : FV) (x3 : FV) (r4 : List (List FV)) : R := jden E 66 [] [4, 0, 1, 1] (mkF 35 [(0, .f x0), (1, .f x1), (2, .f x2), (3, .f x3), (11, .ref 1)]) [.dead, .own 1 r4]
theorem ref02_way.eq (x0 x1 x2 x3 x4 : FV) : ref02_way x0 x1 x2 x3 x4 = (
  bindO (ref02_Parts x0 x4) fun v1 =>
  ref02_way.L0 x0 x1 x2 x3 [[v1]]) := (den_eq E 66 [x0, x1, x2, x3, x4]).trans (by kernel_rfl)
theorem ref02_way.L0_eq (x0 : FV) (x1 : FV) (x2 : FV) (x3 : FV) (r4 : List (List FV)) : ref02_way.L0 x0 x1 x2 x3 r4 = (
  bindO (fIdxC 1 x1 x3) fun c6 =>
  bindO (c6[0]?) fun v7 =>
  bindO (fBin .geq v7 (.int .i64 0)) fun v8 =>
  fCond v8
  (bindO (fIdxC 1 x2 x3) fun c9 =>
  bindO (c9[0]?) fun v10 =>
  bindO (ref02_Parts x0 v10) fun v11 =>
  gB (rowsSz 1 r4) <|
  gB (decide ((1 + r4.length) * 24 ≤ room)) <|
  bindO (fIdxC 1 x1 x3) fun c12 =>
  bindO (c12[0]?) fun v13 =>
  ref02_way.L0 x0 x1 x2 v13 ([[v11]] ++ r4))
  (some (.arr r4))) := (jden_eq E 66 [] [4, 0, 1, 1] _ _).trans (by kernel_rfl)
/-! ### ramet/rametref02.Differ (function 25) -/
noncomputable def ref02_Differ.L0 (x0 : FV) (x1 : FV) (x2 : FV) (x3 : FV) (x4 : FV) (x5 : FV) (x6 : FV) (x7 : FV) (x8 : FV) (x9 : FV) (x10 : FV) (x11 : FV) : R := jden E 25 [] [1, 1, 1] (mkF 159 [(2, .ptr 0 0 0), (3, .ptr 1 0 0)]) [.box [.f x0, .f x1, .f x2, .f x3, .f x4, .f x5], .box [.f x6, .f x7, .f x8, .f x9, .f x10, .f x11]]
noncomputable def ref02_Differ.L1 (x0 : FV) (x1 : FV) (x2 : FV) (x3 : FV) (x4 : FV) (x5 : FV) (x6 : FV) (x7 : FV) (x8 : FV) (x9 : FV) (x10 : FV) (x11 : FV) (x12 : FV) (x13 : FV) (x14 : FV) (x15 : FV) (x16 : FV) (x17 : FV) (x18 : FV) (x19 : FV) (r20 : List (List FV)) (r21 : List (List FV)) (r22 : List (List FV)) (r23 : List (List FV)) : R := jden E 25 [] [4, 1, 0, 1, 1, 1, 1, 1, 1, 1, 1, 1, 1, 1, 1] (mkF 159 [(2, .ptr 0 0 0), (9, .ptr 2 0 0), (10, .ptr 3 0 0), (11, .f x0), (12, .ref 4), (13, .ref 8), (14, .ref 9), (15, .ref 10), (16, .f x1)]) [.box [.f x2, .f x3, .f x4, .f x5, .f x6, .f x7], .box [.f x8, .f x9, .f x10, .f x11, .f x12, .f x13], .box [.f x14, .f x15, .f x16], .box [.f x17, .f x18, .f x19], .own 1 r20, .dead, .dead, .dead, .own 1 r21, .own 1 r22, .own 1 r23]
noncomputable def ref02_Differ.L2 (x0 : FV) (x1 : FV) (x2 : FV) (x3 : FV) (x4 : FV) (x5 : FV) (x6 : FV) (x7 : FV) (x8 : FV) (x9 : FV) (x10 : FV) (x11 : FV) (x12 : FV) (x13 : FV) (x14 : FV) (x15 : FV) (x16 : FV) (x17 : FV) (x18 : FV) (x19 : FV) (x20 : FV) (r21 : List (List FV)) (r22 : List (List FV)) (r23 : List (List FV)) (r24 : List (List FV)) : R := jden E 25 [] [4, 1, 4, 0, 1, 5, 4, 1, 0, 1, 1, 1, 1, 1, 1, 1, 1, 1, 1, 1, 1] (mkF 159 [(2, .ptr 0 0 0), (9, .ptr 2 0 0), (10, .ptr 3 0 0), (11, .f x0), (12, .ref 4), (13, .ref 11), (14, .ref 12), (15, .ref 13), (16, .f x1), (17, .f x2)]) [.box [.f x3, .f x4, .f x5, .f x6, .f x7, .f x8], .box [.f x9, .f x10, .f x11, .f x12, .f x13, .f x14], .box [.f x15, .f x16, .f x17], .box [.f x18, .f x19, .f x20], .own 1 r21, .dead, .dead, .dead, .dead, .dead, .dead, .own 1 r22, .own 1 r23, .own 1 r24]
theorem ref02_Differ.eq (x0 x1 : FV) : ref02_Differ x0 x1 = (
  gB (fIsAgg 6 x0) <|
  gB (fIsAgg 6 x1) <|
  bindO (ref02_Check (.agg [(fCell x0 0), (fCell x0 1), (fCell x0 2), (fCell x0 3), (fCell x0 4), (fCell x0 5)])) fun v1 =>
  bindO (fBin .neq v1 (.int .i64 0)) fun v2 =>
  fCond v2
  (some (.tup [.nilS, .bool false, v1]))
  (bindO (ref02_Check (.agg [(fCell x1 0), (fCell x1 1), (fCell x1 2), (fCell x1 3), (fCell x1 4), (fCell x1 5)])) fun v3 =>
  bindO (fBin .neq v3 (.int .i64 0)) fun v4 =>
  fCond v4
  (some (.tup [.nilS, .bool false, v3]))
  (bindO (ref02_sameSizes (fCell x0 3) (fCell x1 3)) fun v5 =>
  bindO (fUn .not v5) fun v6 =>
  fCond v6
  (some (.tup [.nilS, .bool false, .int .i64 27]))
  (bindO (ref02_sameSizes (fCell x0 4) (fCell x1 4)) fun v7 =>
  bindO (fUn .not v7) fun v8 =>
  fCond v8
  (some (.tup [.nilS, .bool false, .int .i64 27]))
  (ref02_Differ.L0 (fCell x0 0) (fCell x0 1) (fCell x0 2) (fCell x0 3) (fCell x0 4) (fCell x0 5) (fCell x1 0) (fCell x1 1) (fCell x1 2) (fCell x1 3) (fCell x1 4) (fCell x1 5)))))) := (den_eq E 25 [x0, x1]).trans (by kernel_rfl)
theorem ref02_Differ.L0_eq (x0 : FV) (x1 : FV) (x2 : FV) (x3 : FV) (x4 : FV) (x5 : FV) (x6 : FV) (x7 : FV) (x8 : FV) (x9 : FV) (x10 : FV) (x11 : FV) : ref02_Differ.L0 x0 x1 x2 x3 x4 x5 x6 x7 x8 x9 x10 x11 = (
  bindO (ref02_bareOf (.agg [x0, x1, x2, x3, x4, x5])) fun v13 =>
  gB (fIsAgg 3 v13) <|
  bindO (ref02_bareOf (.agg [x6, x7, x8, x9, x10, x11])) fun v14 =>
  gB (fIsAgg 3 v14) <|
  bindO (fLen x7) fun v15 =>
  bindO (fLen x1) fun v16 =>
  bindO (fBin .mul v16 v15) fun v17 =>
  bindO (asNat v17) fun j18 =>
  bindO (asNat v17) fun j19 =>
  gB (j18 ≤ j19 && j19 * 1 ≤ room && 1 ≥ 1) <|
  bindO (fBin .mul x2 v15) fun v20 =>
  bindO (fBin .add v20 x8) fun v21 =>
  bindO (rIdx [[v21]] (.int .i64 0)) fun j22 =>
  bindO (rGet [[v21]] j22 0) fun v23 =>
  bindO (rIdx (List.replicate j18 [(.bool false : FV)]) v23) fun j24 =>
  bindO (rSet (List.replicate j18 [(.bool false : FV)]) j24 0 [.bool true]) fun r25 =>
  ref02_Differ.L1 v15 (.int .i64 0) x0 x1 x2 x3 x4 x5 x6 x7 x8 x9 x10 x11 (fCell v13 0) (fCell v13 1) (fCell v13 2) (fCell v14 0) (fCell v14 1) (fCell v14 2) r25 [[v21]] [[.int .i64 (-1)]] [[.int .i64 0]]) := (jden_eq E 25 [] [1, 1, 1] _ _).trans (by kernel_rfl)
theorem ref02_Differ.L1_eq (x0 : FV) (x1 : FV) (x2 : FV) (x3 : FV) (x4 : FV) (x5 : FV) (x6 : FV) (x7 : FV) (x8 : FV) (x9 : FV) (x10 : FV) (x11 : FV) (x12 : FV) (x13 : FV) (x14 : FV) (x15 : FV) (x16 : FV) (x17 : FV) (x18 : FV) (x19 : FV) (r20 : List (List FV)) (r21 : List (List FV)) (r22 : List (List FV)) (r23 : List (List FV)) : ref02_Differ.L1 x0 x1 x2 x3 x4 x5 x6 x7 x8 x9 x10 x11 x12 x13 x14 x15 x16 x17 x18 x19 r20 r21 r22 r23 = (
  bindO (fBin .lss x1 (.int .i64 ((r21.length : Nat) : Int))) fun v25 =>
  fCond v25
  (ref02_Differ.L2 x0 x1 (.int .i64 0) x2 x3 x4 x5 x6 x7 x8 x9 x10 x11 x12 x13 x14 x15 x16 x17 x18 x19 r20 r21 r22 r23)
  (some (.tup [.nilS, .bool false, .int .i64 0]))) := (jden_eq E 25 [] [4, 1, 0, 1, 1, 1, 1, 1, 1, 1, 1, 1, 1, 1, 1] _ _).trans (by kernel_rfl)
theorem ref02_Differ.L2_eq (x0 : FV) (x1 : FV) (x2 : FV) (x3 : FV) (x4 : FV) (x5 : FV) (x6 : FV) (x7 : FV) (x8 : FV) (x9 : FV) (x10 : FV) (x11 : FV) (x12 : FV) (x13 : FV) (x14 : FV) (x15 : FV) (x16 : FV) (x17 : FV) (x18 : FV) (x19 : FV) (x20 : FV) (r21 : List (List FV)) (r22 : List (List FV)) (r23 : List (List FV)) (r24 : List (List FV)) : ref02_Differ.L2 x0 x1 x2 x3 x4 x5 x6 x7 x8 x9 x10 x11 x12 x13 x14 x15 x16 x17 x18 x19 x20 r21 r22 r23 r24 = (
  bindO (fBin .lss x2 x15) fun v26 =>
  fCond v26
  (bindO (rIdx r22 x1) fun j27 =>
  bindO (rGet r22 j27 0) fun v28 =>
  bindO (fBin .quo v28 x0) fun v29 =>
  bindO (fBin .mul v29 x15) fun v30 =>
  bindO (fBin .add v30 x2) fun v31 =>
  bindO (rIdx r22 x1) fun j32 =>
  bindO (rGet r22 j32 0) fun v33 =>
  bindO (fBin .rem v33 x0) fun v34 =>
  bindO (fBin .mul v34 x15) fun v35 =>
  bindO (fBin .add v35 x2) fun v36 =>
  bindO (fIdxC 1 x17 v31) fun c37 =>
  bindO (c37[0]?) fun v38 =>
  bindO (fIdxC 1 x20 v36) fun c39 =>
  bindO (c39[0]?) fun v40 =>
  bindO (ref02_sameInts v38 v40) fun v41 =>
  bindO (fUn .not v41) fun v42 =>
  fCond v42
  (bindO (ref02_way x6 (.arr r23) (.arr r24) x1 x2) fun v43 =>
  some (.tup [v43, .bool true, .int .i64 0]))
  (bindO (fIdxC 1 x16 v31) fun c44 =>
  bindO (c44[0]?) fun v45 =>
  bindO (fBin .mul v45 x0) fun v46 =>
  bindO (fIdxC 1 x19 v36) fun c47 =>
  bindO (c47[0]?) fun v48 =>
  bindO (fBin .add v46 v48) fun v49 =>
  bindO (rIdx r21 v49) fun j50 =>
  bindO (rGet r21 j50 0) fun v51 =>
  bindO (fUn .not v51) fun v52 =>
  fCond v52
  (bindO (rIdx r21 v49) fun j53 =>
  bindO (rSet r21 j53 0 [.bool true]) fun r54 =>
  gB (decide ((r22.length + 1) * 8 ≤ room)) <|
  gB (decide ((r23.length + 1) * 8 ≤ room)) <|
  gB (decide ((r24.length + 1) * 8 ≤ room)) <|
  bindO (fBin .add x2 (.int .i64 1)) fun v55 =>
  ref02_Differ.L2 x0 x1 v55 x3 x4 x5 x6 x7 x8 x9 x10 x11 x12 x13 x14 x15 x16 x17 x18 x19 x20 r54 (r22 ++ [[v49]]) (r23 ++ [[x1]]) (r24 ++ [[x2]]))
  (bindO (fBin .add x2 (.int .i64 1)) fun v56 =>
  ref02_Differ.L2 x0 x1 v56 x3 x4 x5 x6 x7 x8 x9 x10 x11 x12 x13 x14 x15 x16 x17 x18 x19 x20 r21 r22 r23 r24)))
  (bindO (fBin .add x1 (.int .i64 1)) fun v57 =>
  ref02_Differ.L1 x0 v57 x3 x4 x5 x6 x7 x8 x9 x10 x11 x12 x13 x14 x15 x16 x17 x18 x19 x20 r21 r22 r23 r24)) := (jden_eq E 25 [] [4, 1, 4, 0, 1, 5, 4, 1, 0, 1, 1, 1, 1, 1, 1, 1, 1, 1, 1, 1, 1] _ _).trans (by kernel_rfl)
/-! ### slices.EqualFunc[[]ramet/api.Port,[]ramet/api.Port,ramet/api.Port,ramet/api.Port] (function 68) -/
noncomputable def slices_EqualFunc_api_Port.L0 (x0 : FV) (x1 : FV) (x2 : FV) (x3 : FV) (x4 : FV) : R := jden E 68 [] [4, 1, 0, 1, 1] (mkF 32 [(1, .f x0), (2, .f x1), (15, .f x2), (16, .f x3), (17, .f x4)]) []
theorem slices_EqualFunc_api_Port.eq (x0 x1 x2 : FV) : slices_EqualFunc_api_Port x0 x1 x2 = (
  bindO (fLen x0) fun v1 =>
  bindO (fLen x1) fun v2 =>
  bindO (fBin .neq v1 v2) fun v3 =>
  fCond v3
  (some (.bool false))
  (bindO (fLen x0) fun v4 =>
  slices_EqualFunc_api_Port.L0 x1 x2 x0 v4 (.int .i64 0))) := (den_eq E 68 [x0, x1, x2]).trans (by kernel_rfl)
theorem slices_EqualFunc_api_Port.L0_eq (x0 : FV) (x1 : FV) (x2 : FV) (x3 : FV) (x4 : FV) : slices_EqualFunc_api_Port.L0 x0 x1 x2 x3 x4 = (
  bindO (fBin .lss x4 x3) fun v6 =>
  fCond v6
  (bindO (fIdxC 2 x2 x4) fun c7 =>
  bindO (c7[0]?) fun v8 =>
  bindO (c7[1]?) fun v9 =>
  bindO (fIdxC 2 x0 x4) fun c10 =>
  bindO (c10[0]?) fun v11 =>
  bindO (c10[1]?) fun v12 =>
  bindO (callDyn false x1 [.agg [v8, v9], .agg [v11, v12]]) fun v13 =>
  bindO (fUn .not v13) fun v14 =>
  fCond v14
  (some (.bool false))
  (bindO (fBin .add x4 (.int .i64 1)) fun v15 =>
  slices_EqualFunc_api_Port.L0 x0 x1 x2 x3 v15))
  (some (.bool true))) := (jden_eq E 68 [] [4, 1, 0, 1, 1] _ _).trans (by kernel_rfl)
/-! ### ramet/mach.Differ$1$1 (function 69) -/
theorem mach_Differ_1_1.eq (x0 x1 : FV) : mach_Differ_1_1 x0 x1 = (
  gB (fIsAgg 2 x0) <|
  gB (fIsAgg 2 x1) <|
  bindO (fLen (fCell x0 1)) fun v1 =>
  bindO (fLen (fCell x1 1)) fun v2 =>
  bindO (fBin .eql v1 v2) fun v3 =>
  some v3) := (den_eq E 69 [x0, x1]).trans (by kernel_rfl)
/-! ### ramet/mach.Differ$1 (function 67) -/
theorem mach_Differ_1.eq (x0 x1 : FV) : mach_Differ_1 x0 x1 = (
  bindO (slices_EqualFunc_api_Port x0 x1 (.func 69 [])) fun v1 =>
  some v1) := (den_eq E 67 [x0, x1]).trans (by kernel_rfl)
/-! ### slices.Equal[[]int,int] (function 73) -/
noncomputable def slices_Equal_int.L0 (x0 : FV) (x1 : FV) (x2 : FV) (x3 : FV) : R := jden E 73 [] [4, 1, 0, 1, 1] (mkF 26 [(0, .f x0), (1, .f x1), (12, .f x2), (13, .f x3)]) []
theorem slices_Equal_int.eq (x0 x1 : FV) : slices_Equal_int x0 x1 = (
  bindO (fLen x0) fun v1 =>
  bindO (fLen x1) fun v2 =>
  bindO (fBin .neq v1 v2) fun v3 =>
  fCond v3
  (some (.bool false))
  (bindO (fLen x0) fun v4 =>
  slices_Equal_int.L0 x0 x1 v4 (.int .i64 0))) := (den_eq E 73 [x0, x1]).trans (by kernel_rfl)
theorem slices_Equal_int.L0_eq (x0 : FV) (x1 : FV) (x2 : FV) (x3 : FV) : slices_Equal_int.L0 x0 x1 x2 x3 = (
  bindO (fBin .lss x3 x2) fun v5 =>
  fCond v5
  (bindO (fIdxC 1 x0 x3) fun c6 =>
  bindO (c6[0]?) fun v7 =>
  bindO (fIdxC 1 x1 x3) fun c8 =>
  bindO (c8[0]?) fun v9 =>
  bindO (fBin .neq v7 v9) fun v10 =>
  fCond v10
  (some (.bool false))
  (bindO (fBin .add x3 (.int .i64 1)) fun v11 =>
  slices_Equal_int.L0 x0 x1 x2 v11))
  (some (.bool true))) := (jden_eq E 73 [] [4, 1, 0, 1, 1] _ _).trans (by kernel_rfl)
/-! ### ramet/mach.digits (function 74) -/
noncomputable def mach_digits.L0 (x0 : FV) (x1 : FV) (x2 : FV) (r3 : List (List FV)) : R := jden E 74 [] [4, 1, 0, 1, 1] (mkF 37 [(0, .f x0), (1, .f x1), (5, .ref 0), (6, .f x2)]) [.own 1 r3]
theorem mach_digits.eq (x0 x1 : FV) : mach_digits x0 x1 = (
  bindO (fLen x0) fun v1 =>
  bindO (asNat v1) fun j2 =>
  bindO (asNat v1) fun j3 =>
  gB (j2 ≤ j3 && j3 * 8 ≤ room && 1 ≥ 1) <|
  bindO (fLen x0) fun v4 =>
  bindO (fBin .sub v4 (.int .i64 1)) fun v5 =>
  mach_digits.L0 x0 x1 v5 (List.replicate j2 [(.int .i64 0 : FV)])) := (den_eq E 74 [x0, x1]).trans (by kernel_rfl)
theorem mach_digits.L0_eq (x0 : FV) (x1 : FV) (x2 : FV) (r3 : List (List FV)) : mach_digits.L0 x0 x1 x2 r3 = (
  bindO (fBin .geq x2 (.int .i64 0)) fun v5 =>
  fCond v5
  (bindO (fIdxC 2 x0 x2) fun c6 =>
  bindO (c6[1]?) fun v7 =>
  bindO (fLen v7) fun v8 =>
  bindO (fBin .rem x1 v8) fun v9 =>
  bindO (rIdx r3 x2) fun j10 =>
  bindO (rSet r3 j10 0 [v9]) fun r11 =>
  bindO (fIdxC 2 x0 x2) fun c12 =>
  bindO (c12[1]?) fun v13 =>
  bindO (fLen v13) fun v14 =>
  bindO (fBin .quo x1 v14) fun v15 =>
  bindO (fBin .sub x2 (.int .i64 1)) fun v16 =>
  mach_digits.L0 x0 v15 v16 r11)
  (some (.arr r3))) := (jden_eq E 74 [] [4, 1, 0, 1, 1] _ _).trans (by kernel_rfl)
/-! ### slices.Reverse[[][]int,[]int] (function 75) -/
noncomputable def slices_Reverse_int.L0 (x0 : FV) (x1 : FV) (r2 : List (List FV)) : R := jden E 75 [] [4, 1] (mkF 28 [(0, .ref 0), (2, .f x0), (3, .f x1)]) [.own 1 r2]
theorem slices_Reverse_int.eq (r0 : List (List FV)) : slices_Reverse_int (.arr r0) = (
  bindO (fBin .sub (.int .i64 ((r0.length : Nat) : Int)) (.int .i64 1)) fun v1 =>
  slices_Reverse_int.L0 (.int .i64 0) v1 r0) := (den_eq E 75 [.arr r0]).trans (by kernel_rfl)
theorem slices_Reverse_int.L0_eq (x0 : FV) (x1 : FV) (r2 : List (List FV)) : slices_Reverse_int.L0 x0 x1 r2 = (
  bindO (fBin .lss x0 x1) fun v4 =>
  fCond v4
  (bindO (rIdx r2 x1) fun j5 =>
  bindO (rGet r2 j5 0) fun v6 =>
  bindO (rIdx r2 x0) fun j7 =>
  bindO (rGet r2 j7 0) fun v8 =>
  bindO (rIdx r2 x0) fun j9 =>
  bindO (rSet r2 j9 0 [v6]) fun r10 =>
  bindO (rIdx r10 x1) fun j11 =>
  bindO (rSet r10 j11 0 [v8]) fun r12 =>
  bindO (fBin .add x0 (.int .i64 1)) fun v13 =>
  bindO (fBin .sub x1 (.int .i64 1)) fun v14 =>
  slices_Reverse_int.L0 v13 v14 r12)
  (some (.arr r2))) := (jden_eq E 75 [] [4, 1] _ _).trans (by kernel_rfl)
/-! ### ramet/mach.Differ (function 26) -/
noncomputable def mach_Differ.L0 (x0 : FV) (x1 : FV) (x2 : FV) (x3 : FV) (x4 : FV) (x5 : FV) (x6 : FV) (x7 : FV) (x8 : FV) (x9 : FV) (x10 : FV) (x11 : FV) : R := jden E 26 [] [1, 1, 1, 1] (mkF 144 [(2, .ptr 0 0 0), (3, .ptr 1 0 0)]) [.box [.f x0, .f x1, .f x2, .f x3, .f x4, .f x5], .box [.f x6, .f x7, .f x8, .f x9, .f x10, .f x11]]
noncomputable def mach_Differ.L1 (x0 : FV) (x1 : FV) (x2 : FV) (x3 : FV) (x4 : FV) (x5 : FV) (x6 : FV) (x7 : FV) (x8 : FV) (x9 : FV) (x10 : FV) (x11 : FV) (x12 : FV) (x13 : FV) (x14 : FV) (es15 : List (FV × FV)) (x16 : FV) (x17 : FV) (x18 : FV) (r19 : List (List FV)) : R := jden E 26 [] [4, 0, 1, 1, 1, 1, 1, 1, 1, 1, 1, 1] (mkF 144 [(2, .ptr 0 0 0), (3, .ptr 1 0 0), (10, .f x0), (12, .mp 3), (13, .ptr 4 0 0)]) [.box [.f x1, .f x2, .f x3, .f x4, .f x5, .f x6], .box [.f x7, .f x8, .f x9, .f x10, .f x11, .f x12], .box [.f x13, .f x14], .map true es15, .box [.ref 7, .f x16], .box [.f x17, .f x18], .dead, .own 2 r19]
noncomputable def mach_Differ.L2 (x0 : FV) (x1 : FV) (x2 : FV) (x3 : FV) (x4 : FV) (x5 : FV) (x6 : FV) (x7 : FV) (x8 : FV) (x9 : FV) (x10 : FV) (x11 : FV) (x12 : FV) (x13 : FV) (x14 : FV) (x15 : FV) (x16 : FV) (es17 : List (FV × FV)) (x18 : FV) (x19 : FV) (x20 : FV) (x21 : FV) (x22 : FV) (x23 : FV) (x24 : FV) (x25 : FV) (x26 : FV) (r27 : List (List FV)) : R := jden E 26 [] [4, 1, 1, 4, 1, 5, 4, 0, 1, 1, 1, 1, 1, 1, 1, 1, 1, 1] (mkF 144 [(2, .ptr 0 0 0), (3, .ptr 1 0 0), (10, .f x0), (12, .mp 3), (13, .ptr 4 0 0), (14, .ptr 10 0 0), (66, .f x1), (67, .f x2)]) [.box [.f x3, .f x4, .f x5, .f x6, .f x7, .f x8], .box [.f x9, .f x10, .f x11, .f x12, .f x13, .f x14], .box [.f x15, .f x16], .map true es17, .box [.ref 11, .f x18], .box [.f x19, .f x20], .dead, .dead, .box [.f x21, .f x22], .box [.f x23, .f x24], .box [.f x25, .f x26], .own 2 r27]
noncomputable def mach_Differ.L3 (x0 : FV) (x1 : FV) (x2 : FV) (x3 : FV) (x4 : FV) (x5 : FV) (x6 : FV) (x7 : FV) (x8 : FV) (x9 : FV) (x10 : FV) (x11 : FV) (x12 : FV) (x13 : FV) (es14 : List (FV × FV)) (x15 : FV) (x16 : FV) (x17 : FV) (x18 : FV) (x19 : FV) (x20 : FV) (x21 : FV) (x22 : FV) (x23 : FV) (r24 : List (List FV)) (x25 : FV) (x26 : FV) (x27 : FV) (x28 : FV) (r29 : List (List FV)) : R := jden E 26 [] [4, 0, 1, 2, 1, 0, 1, 1, 4, 0, 1, 1, 5, 4, 1, 1, 4, 1, 5, 4, 0, 1, 1, 1, 1, 1, 1, 1, 1, 1, 1] (mkF 144 [(2, .ptr 0 0 0), (12, .mp 3), (14, .ptr 10 0 0), (18, .ref 15)]) [.box [.f x0, .f x1, .f x2, .f x3, .f x4, .f x5], .box [.f x6, .f x7, .f x8, .f x9, .f x10, .f x11], .box [.f x12, .f x13], .map true es14, .box [.ref 11, .f x15], .box [.f x16, .f x17], .dead, .dead, .box [.f x18, .f x19], .box [.f x20, .f x21], .box [.f x22, .f x23], .own 2 r24, .box [.f x25, .f x26], .box [.f x27, .f x28], .dead, .own 1 r29]
theorem mach_Differ.eq (x0 x1 : FV) : mach_Differ x0 x1 = (
  gB (fIsAgg 6 x0) <|
  gB (fIsAgg 6 x1) <|
  bindO (mach_Check (.agg [(fCell x0 0), (fCell x0 1), (fCell x0 2), (fCell x0 3), (fCell x0 4), (fCell x0 5)])) fun v1 =>
  bindO (fBin .neq v1 (.int .i64 0)) fun v2 =>
  fCond v2
  (some (.tup [.nilS, .bool false, v1]))
  (bindO (mach_Check (.agg [(fCell x1 0), (fCell x1 1), (fCell x1 2), (fCell x1 3), (fCell x1 4), (fCell x1 5)])) fun v3 =>
  bindO (fBin .neq v3 (.int .i64 0)) fun v4 =>
  fCond v4
  (some (.tup [.nilS, .bool false, v3]))
  (bindO (mach_Differ_1 (fCell x0 3) (fCell x1 3)) fun v5 =>
  bindO (fUn .not v5) fun v6 =>
  fCond v6
  (some (.tup [.nilS, .bool false, .int .i64 27]))
  (bindO (mach_Differ_1 (fCell x0 4) (fCell x1 4)) fun v7 =>
  bindO (fUn .not v7) fun v8 =>
  fCond v8
  (some (.tup [.nilS, .bool false, .int .i64 27]))
  (mach_Differ.L0 (fCell x0 0) (fCell x0 1) (fCell x0 2) (fCell x0 3) (fCell x0 4) (fCell x0 5) (fCell x1 0) (fCell x1 1) (fCell x1 2) (fCell x1 3) (fCell x1 4) (fCell x1 5)))))) := (den_eq E 26 [x0, x1]).trans (by kernel_rfl)
theorem mach_Differ.L0_eq (x0 : FV) (x1 : FV) (x2 : FV) (x3 : FV) (x4 : FV) (x5 : FV) (x6 : FV) (x7 : FV) (x8 : FV) (x9 : FV) (x10 : FV) (x11 : FV) : mach_Differ.L0 x0 x1 x2 x3 x4 x5 x6 x7 x8 x9 x10 x11 = (
  bindO (mach_product x3) fun v13 =>
  gB (keyOk true [.int, .int] (.agg [x2, x8])) <|
  bindO (mPut true [.int, .int] [] (.agg [x2, x8]) (.agg [x2, x8, .int .i64 (-1)])) fun es14 =>
  gB (decide (1 * 16 ≤ room)) <|
  mach_Differ.L1 v13 x0 x1 x2 x3 x4 x5 x6 x7 x8 x9 x10 x11 x2 x8 es14 (.int .i64 0) x2 x8 [[x2, x8]]) := (jden_eq E 26 [] [1, 1, 1, 1] _ _).trans (by kernel_rfl)
theorem mach_Differ.L1_eq (x0 : FV) (x1 : FV) (x2 : FV) (x3 : FV) (x4 : FV) (x5 : FV) (x6 : FV) (x7 : FV) (x8 : FV) (x9 : FV) (x10 : FV) (x11 : FV) (x12 : FV) (x13 : FV) (x14 : FV) (es15 : List (FV × FV)) (x16 : FV) (x17 : FV) (x18 : FV) (r19 : List (List FV)) : mach_Differ.L1 x0 x1 x2 x3 x4 x5 x6 x7 x8 x9 x10 x11 x12 x13 x14 es15 x16 x17 x18 r19 = (
  bindO (fBin .eql x16 (.int .i64 ((r19.length : Nat) : Int))) fun v21 =>
  bindO (fUn .not v21) fun v22 =>
  fCond v22
  (bindO (rIdx r19 x16) fun j23 =>
  bindO (rGet r19 j23 0) fun v24 =>
  bindO (rGet r19 j23 1) fun v25 =>
  bindO (fBin .add x16 (.int .i64 1)) fun v26 =>
  mach_Differ.L2 x0 x0 (.int .i64 0) x1 x2 x3 x4 x5 x6 x7 x8 x9 x10 x11 x12 x13 x14 es15 v26 x17 x18 v24 v25 v24 v25 v24 v25 r19)
  (some (.tup [.nilS, .bool false, .int .i64 0]))) := (jden_eq E 26 [] [4, 0, 1, 1, 1, 1, 1, 1, 1, 1, 1, 1] _ _).trans (by kernel_rfl)
theorem mach_Differ.L2_eq (x0 : FV) (x1 : FV) (x2 : FV) (x3 : FV) (x4 : FV) (x5 : FV) (x6 : FV) (x7 : FV) (x8 : FV) (x9 : FV) (x10 : FV) (x11 : FV) (x12 : FV) (x13 : FV) (x14 : FV) (x15 : FV) (x16 : FV) (es17 : List (FV × FV)) (x18 : FV) (x19 : FV) (x20 : FV) (x21 : FV) (x22 : FV) (x23 : FV) (x24 : FV) (x25 : FV) (x26 : FV) (r27 : List (List FV)) : mach_Differ.L2 x0 x1 x2 x3 x4 x5 x6 x7 x8 x9 x10 x11 x12 x13 x14 x15 x16 es17 x18 x19 x20 x21 x22 x23 x24 x25 x26 r27 = (
  bindO (fBin .lss x2 x1) fun v29 =>
  fCond v29
  (bindO (fBin .mul x25 x0) fun v30 =>
  bindO (fBin .add v30 x2) fun v31 =>
  bindO (fIdxC 2 x8 v31) fun c32 =>
  bindO (c32[0]?) fun v33 =>
  bindO (c32[1]?) fun v34 =>
  bindO (fBin .mul x26 x0) fun v35 =>
  bindO (fBin .add v35 x2) fun v36 =>
  bindO (fIdxC 2 x14 v36) fun c37 =>
  bindO (c37[0]?) fun v38 =>
  bindO (c37[1]?) fun v39 =>
  bindO (slices_Equal_int v34 v39) fun v40 =>
  bindO (fUn .not v40) fun v41 =>
  fCond v41
  (bindO (mach_digits x6 x2) fun v42 =>
  mach_Differ.L3 x3 x4 x5 x6 x7 x8 x9 x10 x11 x12 x13 x14 x15 x16 es17 x18 x19 x20 x21 x22 x23 x24 x25 x26 r27 v33 v34 v38 v39 [[v42]])
  (bindO (mLook true [.int, .int] es17 (.agg [v33, v38]) (.agg [.int .i64 0, .int .i64 0, .int .i64 0])) fun v43 =>
  gB (fIsAgg 3 v43.1) <|
  bindO (fUn .not (.bool v43.2)) fun v44 =>
  fCond v44
  (gB (keyOk true [.int, .int] (.agg [v33, v38])) <|
  bindO (mPut true [.int, .int] es17 (.agg [v33, v38]) (.agg [x25, x26, x2])) fun es45 =>
  gB (decide ((r27.length + 1) * 16 ≤ room)) <|
  bindO (fBin .add x2 (.int .i64 1)) fun v46 =>
  mach_Differ.L2 x0 x1 v46 x3 x4 x5 x6 x7 x8 x9 x10 x11 x12 x13 x14 x15 x16 es45 x18 x19 x20 x21 x22 x23 x24 x25 x26 (r27 ++ [[v33, v38]]))
  (bindO (fBin .add x2 (.int .i64 1)) fun v47 =>
  mach_Differ.L2 x0 x1 v47 x3 x4 x5 x6 x7 x8 x9 x10 x11 x12 x13 x14 x15 x16 es17 x18 x19 x20 x21 x22 x23 x24 x25 x26 r27)))
  (mach_Differ.L1 x0 x3 x4 x5 x6 x7 x8 x9 x10 x11 x12 x13 x14 x15 x16 es17 x18 x19 x20 r27)) := (jden_eq E 26 [] [4, 1, 1, 4, 1, 5, 4, 0, 1, 1, 1, 1, 1, 1, 1, 1, 1, 1] _ _).trans (by kernel_rfl)
theorem mach_Differ.L3_eq (x0 : FV) (x1 : FV) (x2 : FV) (x3 : FV) (x4 : FV) (x5 : FV) (x6 : FV) (x7 : FV) (x8 : FV) (x9 : FV) (x10 : FV) (x11 : FV) (x12 : FV) (x13 : FV) (es14 : List (FV × FV)) (x15 : FV) (x16 : FV) (x17 : FV) (x18 : FV) (x19 : FV) (x20 : FV) (x21 : FV) (x22 : FV) (x23 : FV) (r24 : List (List FV)) (x25 : FV) (x26 : FV) (x27 : FV) (x28 : FV) (r29 : List (List FV)) : mach_Differ.L3 x0 x1 x2 x3 x4 x5 x6 x7 x8 x9 x10 x11 x12 x13 es14 x15 x16 x17 x18 x19 x20 x21 x22 x23 r24 x25 x26 x27 x28 r29 = (
  bindO (mLook true [.int, .int] es14 (.agg [x22, x23]) (.agg [.int .i64 0, .int .i64 0, .int .i64 0])) fun v31 =>
  gB (fIsAgg 3 v31.1) <|
  bindO (fBin .geq (fCell v31.1 2) (.int .i64 0)) fun v32 =>
  fCond v32
  (bindO (mLook true [.int, .int] es14 (.agg [x22, x23]) (.agg [.int .i64 0, .int .i64 0, .int .i64 0])) fun v33 =>
  gB (fIsAgg 3 v33.1) <|
  bindO (mach_digits x3 (fCell v33.1 2)) fun v34 =>
  gB (decide ((r29.length + 1) * 24 ≤ room)) <|
  bindO (mLook true [.int, .int] es14 (.agg [x22, x23]) (.agg [.int .i64 0, .int .i64 0, .int .i64 0])) fun v35 =>
  gB (fIsAgg 3 v35.1) <|
  mach_Differ.L3 x0 x1 x2 x3 x4 x5 x6 x7 x8 x9 x10 x11 x12 x13 es14 x15 x16 x17 x18 x19 x20 x21 (fCell v35.1 0) (fCell v35.1 1) r24 x25 x26 x27 x28 (r29 ++ [[v34]]))
  (bindO (slices_Reverse_int (.arr r29)) fun v36 =>
  bindO (arrRows v36) fun r37 =>
  some (.tup [.arr r37, .bool true, .int .i64 0]))) := (jden_eq E 26 [] [4, 0, 1, 2, 1, 0, 1, 1, 4, 0, 1, 1, 5, 4, 1, 1, 4, 1, 5, 4, 0, 1, 1, 1, 1, 1, 1, 1, 1, 1, 1] _ _).trans (by kernel_rfl)
/-! ### ramet/rametlaw02.MachDiffer (function 6) -/
noncomputable def law02_MachDiffer.L0 (x0 : FV) (x1 : FV) (x2 : FV) (x3 : FV) (x4 : FV) (x5 : FV) (x6 : FV) (x7 : FV) (x8 : FV) (x9 : FV) (x10 : FV) (x11 : FV) (x12 : FV) (x13 : FV) : R := jden E 6 [] [1, 1, 1] (mkF 110 [(2, .ptr 0 0 0), (3, .ptr 1 0 0), (8, .f x0), (9, .f x1)]) [.box [.f x2, .f x3, .f x4, .f x5, .f x6, .f x7], .box [.f x8, .f x9, .f x10, .f x11, .f x12, .f x13]]
theorem law02_MachDiffer.eq (x0 x1 : FV) : law02_MachDiffer x0 x1 = (
  gB (fIsAgg 6 x0) <|
  gB (fIsAgg 6 x1) <|
  bindO (ref02_Differ (.agg [(fCell x0 0), (fCell x0 1), (fCell x0 2), (fCell x0 3), (fCell x0 4), (fCell x0 5)]) (.agg [(fCell x1 0), (fCell x1 1), (fCell x1 2), (fCell x1 3), (fCell x1 4), (fCell x1 5)])) fun v1 =>
  gB (fIsTup 3 v1) <|
  bindO (mach_Differ (.agg [(fCell x0 0), (fCell x0 1), (fCell x0 2), (fCell x0 3), (fCell x0 4), (fCell x0 5)]) (.agg [(fCell x1 0), (fCell x1 1), (fCell x1 2), (fCell x1 3), (fCell x1 4), (fCell x1 5)])) fun v2 =>
  gB (fIsTup 3 v2) <|
  bindO (fBin .neq (fTup v2 2) (fTup v1 2)) fun v3 =>
  fCond v3
  (some (.bool false))
  (bindO (fBoolBin .neq (fTup v2 1) (fTup v1 1)) fun v4 =>
  fCond v4
  (some (.bool false))
  (bindO (ref02_SameLists (fTup v2 0) (fTup v1 0)) fun v5 =>
  bindO (fUn .not v5) fun v6 =>
  fCond v6
  (some (.bool false))
  (law02_MachDiffer.L0 (fTup v2 0) (fTup v2 1) (fCell x0 0) (fCell x0 1) (fCell x0 2) (fCell x0 3) (fCell x0 4) (fCell x0 5) (fCell x1 0) (fCell x1 1) (fCell x1 2) (fCell x1 3) (fCell x1 4) (fCell x1 5))))) := (den_eq E 6 [x0, x1]).trans (by kernel_rfl)
theorem law02_MachDiffer.L0_eq (x0 : FV) (x1 : FV) (x2 : FV) (x3 : FV) (x4 : FV) (x5 : FV) (x6 : FV) (x7 : FV) (x8 : FV) (x9 : FV) (x10 : FV) (x11 : FV) (x12 : FV) (x13 : FV) : law02_MachDiffer.L0 x0 x1 x2 x3 x4 x5 x6 x7 x8 x9 x10 x11 x12 x13 = (
  bindO (fUn .not x1) fun v15 =>
  fCond v15
  (some (.bool true))
  (bindO (fLen x0) fun v16 =>
  bindO (fBin .gtr v16 (.int .i64 4096)) fun v17 =>
  fCond v17
  (some (.bool true))
  (bindO (mach_Run (.agg [x2, x3, x4, x5, x6, x7]) x0) fun v18 =>
  gB (fIsTup 3 v18) <|
  bindO (mach_Run (.agg [x8, x9, x10, x11, x12, x13]) x0) fun v19 =>
  gB (fIsTup 3 v19) <|
  bindO (fLen x0) fun v20 =>
  bindO (fBin .eql (fTup v18 2) (.int .i64 0)) fun v21 =>
  fCond v21
  (bindO (fBin .eql (fTup v19 2) (.int .i64 0)) fun v22 =>
  fCond v22
  (bindO (fLen (fTup v18 0)) fun v23 =>
  bindO (fBin .eql v23 v20) fun v24 =>
  fCond v24
  (bindO (fLen (fTup v19 0)) fun v25 =>
  bindO (fBin .eql v25 v20) fun v26 =>
  fCond v26
  (bindO (fBin .sub v20 (.int .i64 1)) fun v27 =>
  bindO (fCut 1 (fTup v18 0) none (some v27)) fun v28 =>
  bindO (fBin .sub v20 (.int .i64 1)) fun v29 =>
  bindO (fCut 1 (fTup v19 0) none (some v29)) fun v30 =>
  bindO (ref02_SameLists v28 v30) fun v31 =>
  fCond v31
  (bindO (fBin .sub v20 (.int .i64 1)) fun v32 =>
  bindO (fIdxC 1 (fTup v18 0) v32) fun c33 =>
  bindO (c33[0]?) fun v34 =>
  bindO (fBin .sub v20 (.int .i64 1)) fun v35 =>
  bindO (fIdxC 1 (fTup v19 0) v35) fun c36 =>
  bindO (c36[0]?) fun v37 =>
  bindO (ref02_SameInts v34 v37) fun v38 =>
  bindO (fUn .not v38) fun v39 =>
  some v39)
  (some (.bool false)))
  (some (.bool false)))
  (some (.bool false)))
  (some (.bool false)))
  (some (.bool false))))) := (jden_eq E 6 [] [1, 1, 1] _ _).trans (by kernel_rfl)
/-! ### ramet/rametref02.samePorts (function 100) -/
noncomputable def ref02_samePorts.L0 (x0 : FV) (x1 : FV) (x2 : FV) : R := jden E 100 [] [4, 1, 0, 1, 1] (mkF 42 [(0, .f x0), (1, .f x1), (5, .f x2)]) []
theorem ref02_samePorts.eq (x0 x1 : FV) : ref02_samePorts x0 x1 = (
  bindO (fLen x0) fun v1 =>
  bindO (fLen x1) fun v2 =>
  bindO (fBin .neq v1 v2) fun v3 =>
  fCond v3
  (some (.bool false))
  (ref02_samePorts.L0 x0 x1 (.int .i64 0))) := (den_eq E 100 [x0, x1]).trans (by kernel_rfl)
theorem ref02_samePorts.L0_eq (x0 : FV) (x1 : FV) (x2 : FV) : ref02_samePorts.L0 x0 x1 x2 = (
  bindO (fLen x0) fun v4 =>
  bindO (fBin .lss x2 v4) fun v5 =>
  fCond v5
  (bindO (fIdxC 2 x0 x2) fun c6 =>
  bindO (c6[0]?) fun v7 =>
  bindO (fIdxC 2 x1 x2) fun c8 =>
  bindO (c8[0]?) fun v9 =>
  bindO (fBin .neq v7 v9) fun v10 =>
  fCond v10
  (some (.bool false))
  (bindO (fIdxC 2 x0 x2) fun c11 =>
  bindO (c11[1]?) fun v12 =>
  bindO (fIdxC 2 x1 x2) fun c13 =>
  bindO (c13[1]?) fun v14 =>
  bindO (ref02_equal v12 v14) fun v15 =>
  bindO (fUn .not v15) fun v16 =>
  fCond v16
  (some (.bool false))
  (bindO (fBin .add x2 (.int .i64 1)) fun v17 =>
  ref02_samePorts.L0 x0 x1 v17)))
  (some (.bool true))) := (jden_eq E 100 [] [4, 1, 0, 1, 1] _ _).trans (by kernel_rfl)
/-! ### ramet/rametref02.SameMachine (function 33) -/
noncomputable def ref02_SameMachine.L0 (x0 : FV) (x1 : FV) (x2 : FV) (x3 : FV) (x4 : FV) (x5 : FV) (x6 : FV) (x7 : FV) (x8 : FV) (x9 : FV) (x10 : FV) (x11 : FV) : R := jden E 33 [] [1] (mkF 87 [(2, .ptr 0 0 0), (3, .ptr 1 0 0)]) [.box [.f x0, .f x1, .f x2, .f x3, .f x4, .f x5], .box [.f x6, .f x7, .f x8, .f x9, .f x10, .f x11]]
noncomputable def ref02_SameMachine.L1 (x0 : FV) (x1 : FV) (x2 : FV) (x3 : FV) (x4 : FV) (x5 : FV) (x6 : FV) (x7 : FV) (x8 : FV) (x9 : FV) (x10 : FV) (x11 : FV) (x12 : FV) : R := jden E 33 [] [4, 1, 0, 1, 1] (mkF 87 [(2, .ptr 0 0 0), (3, .ptr 1 0 0), (5, .f x0)]) [.box [.f x1, .f x2, .f x3, .f x4, .f x5, .f x6], .box [.f x7, .f x8, .f x9, .f x10, .f x11, .f x12]]
theorem ref02_SameMachine.eq (x0 x1 : FV) : ref02_SameMachine x0 x1 = (
  gB (fIsAgg 6 x0) <|
  gB (fIsAgg 6 x1) <|
  bindO (fBin .neq (fCell x0 0) (fCell x1 0)) fun v1 =>
  fCond v1
  (some (.bool false))
  (bindO (fBin .neq (fCell x0 2) (fCell x1 2)) fun v2 =>
  fCond v2
  (some (.bool false))
  (bindO (ref02_equal (fCell x0 1) (fCell x1 1)) fun v3 =>
  bindO (fUn .not v3) fun v4 =>
  fCond v4
  (some (.bool false))
  (bindO (ref02_samePorts (fCell x0 3) (fCell x1 3)) fun v5 =>
  bindO (fUn .not v5) fun v6 =>
  fCond v6
  (some (.bool false))
  (bindO (ref02_samePorts (fCell x0 4) (fCell x1 4)) fun v7 =>
  bindO (fUn .not v7) fun v8 =>
  fCond v8
  (some (.bool false))
  (bindO (fLen (fCell x0 5)) fun v9 =>
  bindO (fLen (fCell x1 5)) fun v10 =>
  bindO (fBin .neq v9 v10) fun v11 =>
  fCond v11
  (some (.bool false))
  (ref02_SameMachine.L0 (fCell x0 0) (fCell x0 1) (fCell x0 2) (fCell x0 3) (fCell x0 4) (fCell x0 5) (fCell x1 0) (fCell x1 1) (fCell x1 2) (fCell x1 3) (fCell x1 4) (fCell x1 5)))))))) := (den_eq E 33 [x0, x1]).trans (by kernel_rfl)
theorem ref02_SameMachine.L0_eq (x0 : FV) (x1 : FV) (x2 : FV) (x3 : FV) (x4 : FV) (x5 : FV) (x6 : FV) (x7 : FV) (x8 : FV) (x9 : FV) (x10 : FV) (x11 : FV) : ref02_SameMachine.L0 x0 x1 x2 x3 x4 x5 x6 x7 x8 x9 x10 x11 = (
  ref02_SameMachine.L1 (.int .i64 0) x0 x1 x2 x3 x4 x5 x6 x7 x8 x9 x10 x11) := (jden_eq E 33 [] [1] _ _).trans (by kernel_rfl)
theorem ref02_SameMachine.L1_eq (x0 : FV) (x1 : FV) (x2 : FV) (x3 : FV) (x4 : FV) (x5 : FV) (x6 : FV) (x7 : FV) (x8 : FV) (x9 : FV) (x10 : FV) (x11 : FV) (x12 : FV) : ref02_SameMachine.L1 x0 x1 x2 x3 x4 x5 x6 x7 x8 x9 x10 x11 x12 = (
  bindO (fLen x6) fun v14 =>
  bindO (fBin .lss x0 v14) fun v15 =>
  fCond v15
  (bindO (fIdxC 2 x6 x0) fun c16 =>
  bindO (c16[0]?) fun v17 =>
  bindO (fIdxC 2 x12 x0) fun c18 =>
  bindO (c18[0]?) fun v19 =>
  bindO (fBin .neq v17 v19) fun v20 =>
  fCond v20
  (some (.bool false))
  (bindO (fIdxC 2 x6 x0) fun c21 =>
  bindO (c21[1]?) fun v22 =>
  bindO (fIdxC 2 x12 x0) fun c23 =>
  bindO (c23[1]?) fun v24 =>
  bindO (ref02_sameInts v22 v24) fun v25 =>
  bindO (fUn .not v25) fun v26 =>
  fCond v26
  (some (.bool false))
  (bindO (fBin .add x0 (.int .i64 1)) fun v27 =>
  ref02_SameMachine.L1 v27 x1 x2 x3 x4 x5 x6 x7 x8 x9 x10 x11 x12)))
  (some (.bool true))) := (jden_eq E 33 [] [4, 1, 0, 1, 1] _ _).trans (by kernel_rfl)
/-! ### ramet/rametref02.reach (function 146) -/
noncomputable def ref02_reach.L0 (x0 : FV) (x1 : FV) (x2 : FV) (x3 : FV) (r4 : List (List FV)) (r5 : List (List FV)) : R := jden E 146 [] [4, 1, 0, 1, 1, 1, 1] (mkF 60 [(2, .ptr 0 0 0), (5, .ref 3), (6, .ref 2), (7, .f x0)]) [.box [.f x1, .f x2, .f x3], .dead, .own 1 r4, .own 1 r5]
noncomputable def ref02_reach.L1 (x0 : FV) (x1 : FV) (x2 : FV) (x3 : FV) (x4 : FV) (r5 : List (List FV)) (r6 : List (List FV)) : R := jden E 146 [] [4, 1, 4, 0, 1, 5, 4, 1, 0, 1, 1, 1, 1] (mkF 60 [(2, .ptr 0 0 0), (5, .ref 4), (6, .ref 2), (7, .f x0), (8, .f x1)]) [.box [.f x2, .f x3, .f x4], .dead, .own 1 r5, .dead, .own 1 r6]
theorem ref02_reach.eq (x0 x1 : FV) : ref02_reach x0 x1 = (
  gB (fIsAgg 3 x0) <|
  bindO (fLen (fCell x0 1)) fun v1 =>
  bindO (fBin .quo v1 (fCell x0 0)) fun v2 =>
  bindO (asNat v2) fun j3 =>
  bindO (asNat v2) fun j4 =>
  gB (j3 ≤ j4 && j4 * 1 ≤ room && 1 ≥ 1) <|
  bindO (rIdx (List.replicate j3 [(.bool false : FV)]) x1) fun j5 =>
  bindO (rSet (List.replicate j3 [(.bool false : FV)]) j5 0 [.bool true]) fun r6 =>
  ref02_reach.L0 (.int .i64 0) (fCell x0 0) (fCell x0 1) (fCell x0 2) r6 [[x1]]) := (den_eq E 146 [x0, x1]).trans (by kernel_rfl)
theorem ref02_reach.L0_eq (x0 : FV) (x1 : FV) (x2 : FV) (x3 : FV) (r4 : List (List FV)) (r5 : List (List FV)) : ref02_reach.L0 x0 x1 x2 x3 r4 r5 = (
  bindO (fBin .lss x0 (.int .i64 ((r5.length : Nat) : Int))) fun v7 =>
  fCond v7
  (ref02_reach.L1 x0 (.int .i64 0) x1 x2 x3 r4 r5)
  (some (.arr r5))) := (jden_eq E 146 [] [4, 1, 0, 1, 1, 1, 1] _ _).trans (by kernel_rfl)
theorem ref02_reach.L1_eq (x0 : FV) (x1 : FV) (x2 : FV) (x3 : FV) (x4 : FV) (r5 : List (List FV)) (r6 : List (List FV)) : ref02_reach.L1 x0 x1 x2 x3 x4 r5 r6 = (
  bindO (fBin .lss x1 x2) fun v8 =>
  fCond v8
  (bindO (rIdx r6 x0) fun j9 =>
  bindO (rGet r6 j9 0) fun v10 =>
  bindO (fBin .mul v10 x2) fun v11 =>
  bindO (fBin .add v11 x1) fun v12 =>
  bindO (fIdxC 1 x3 v12) fun c13 =>
  bindO (c13[0]?) fun v14 =>
  bindO (rIdx r5 v14) fun j15 =>
  bindO (rGet r5 j15 0) fun v16 =>
  bindO (fUn .not v16) fun v17 =>
  fCond v17
  (bindO (rIdx r5 v14) fun j18 =>
  bindO (rSet r5 j18 0 [.bool true]) fun r19 =>
  gB (decide ((r6.length + 1) * 8 ≤ room)) <|
  bindO (fBin .add x1 (.int .i64 1)) fun v20 =>
  ref02_reach.L1 x0 v20 x2 x3 x4 r19 (r6 ++ [[v14]]))
  (bindO (fBin .add x1 (.int .i64 1)) fun v21 =>
  ref02_reach.L1 x0 v21 x2 x3 x4 r5 r6))
  (bindO (fBin .add x0 (.int .i64 1)) fun v22 =>
  ref02_reach.L0 v22 x2 x3 x4 r5 r6)) := (jden_eq E 146 [] [4, 1, 4, 0, 1, 5, 4, 1, 0, 1, 1, 1, 1] _ _).trans (by kernel_rfl)
/-! ### ramet/rametref02.alike (function 152) -/
noncomputable def ref02_alike.L0 (x0 : FV) (x1 : FV) (x2 : FV) (x3 : FV) (x4 : FV) (x5 : FV) (x6 : FV) : R := jden E 152 [] [4, 1, 0, 1, 1] (mkF 76 [(1, .f x0), (2, .f x1), (3, .f x2), (4, .ptr 0 0 0), (9, .f x3)]) [.box [.f x4, .f x5, .f x6]]
theorem ref02_alike.eq (x0 x1 x2 x3 : FV) : ref02_alike x0 x1 x2 x3 = (
  gB (fIsAgg 3 x0) <|
  bindO (fIdxC 1 x1 x2) fun c1 =>
  bindO (c1[0]?) fun v2 =>
  bindO (fIdxC 1 x1 x3) fun c3 =>
  bindO (c3[0]?) fun v4 =>
  bindO (fBin .neq v2 v4) fun v5 =>
  fCond v5
  (some (.bool false))
  (ref02_alike.L0 x1 x2 x3 (.int .i64 0) (fCell x0 0) (fCell x0 1) (fCell x0 2))) := (den_eq E 152 [x0, x1, x2, x3]).trans (by kernel_rfl)
theorem ref02_alike.L0_eq (x0 : FV) (x1 : FV) (x2 : FV) (x3 : FV) (x4 : FV) (x5 : FV) (x6 : FV) : ref02_alike.L0 x0 x1 x2 x3 x4 x5 x6 = (
  bindO (fBin .lss x3 x4) fun v8 =>
  fCond v8
  (bindO (fBin .mul x1 x4) fun v9 =>
  bindO (fBin .add v9 x3) fun v10 =>
  bindO (fIdxC 1 x6 v10) fun c11 =>
  bindO (c11[0]?) fun v12 =>
  bindO (fBin .mul x2 x4) fun v13 =>
  bindO (fBin .add v13 x3) fun v14 =>
  bindO (fIdxC 1 x6 v14) fun c15 =>
  bindO (c15[0]?) fun v16 =>
  bindO (ref02_sameInts v12 v16) fun v17 =>
  bindO (fUn .not v17) fun v18 =>
  fCond v18
  (some (.bool false))
  (bindO (fBin .mul x1 x4) fun v19 =>
  bindO (fBin .add v19 x3) fun v20 =>
  bindO (fIdxC 1 x5 v20) fun c21 =>
  bindO (c21[0]?) fun v22 =>
  bindO (fIdxC 1 x0 v22) fun c23 =>
  bindO (c23[0]?) fun v24 =>
  bindO (fBin .mul x2 x4) fun v25 =>
  bindO (fBin .add v25 x3) fun v26 =>
  bindO (fIdxC 1 x5 v26) fun c27 =>
  bindO (c27[0]?) fun v28 =>
  bindO (fIdxC 1 x0 v28) fun c29 =>
  bindO (c29[0]?) fun v30 =>
  bindO (fBin .neq v24 v30) fun v31 =>
  fCond v31
  (some (.bool false))
  (bindO (fBin .add x3 (.int .i64 1)) fun v32 =>
  ref02_alike.L0 x0 x1 x2 v32 x4 x5 x6)))
  (some (.bool true))) := (jden_eq E 152 [] [4, 1, 0, 1, 1] _ _).trans (by kernel_rfl)
/-! ### ramet/rametref02.classes (function 147) -/
noncomputable def ref02_classes.L0 (x0 : FV) (x1 : FV) (x2 : FV) (x3 : FV) (x4 : FV) (r5 : List (List FV)) : R := jden E 147 [(0, 0, 1)] [4, 1, 1, 1] (mkF 76 [(1, .f x0), (2, .ptr 0 0 0), (5, .ref 2), (6, .f x1)]) [.box [.f x2, .f x3, .f x4], .dead, .own 1 r5]
noncomputable def ref02_classes.L1 (x0 : FV) (x1 : FV) (x2 : FV) (x3 : FV) (x4 : FV) (x5 : FV) (x6 : FV) (r7 : List (List FV)) (r8 : List (List FV)) (r9 : List (List FV)) : R := jden E 147 [(0, 0, 1)] [4, 1, 0, 1, 1, 4, 5, 4, 1, 1, 1] (mkF 76 [(1, .f x0), (2, .ptr 0 0 0), (5, .f x1), (6, .f x2), (7, .ref 3), (8, .ref 4), (9, .f x3)]) [.box [.f x4, .f x5, .f x6], .dead, .fz r7, .own 1 r8, .own 1 r9]
noncomputable def ref02_classes.L2 (x0 : FV) (x1 : FV) (x2 : FV) (x3 : FV) (x4 : FV) (x5 : FV) (x6 : FV) (x7 : FV) (x8 : FV) (r9 : List (List FV)) (r10 : List (List FV)) (r11 : List (List FV)) : R := jden E 147 [(0, 0, 1)] [4, 1, 0, 1, 4, 0, 1, 5, 4, 1, 0, 1, 1, 4, 5, 4, 1, 1, 1] (mkF 76 [(1, .f x0), (2, .ptr 0 0 0), (5, .f x1), (6, .f x2), (7, .ref 3), (8, .ref 4), (9, .f x3), (10, .f x4), (11, .f x5)]) [.box [.f x6, .f x7, .f x8], .dead, .fz r9, .own 1 r10, .own 1 r11]
noncomputable def ref02_classes.L3 (x0 : FV) (x1 : FV) (x2 : FV) (x3 : FV) (x4 : FV) (x5 : FV) (x6 : FV) (x7 : FV) (x8 : FV) (r9 : List (List FV)) (r10 : List (List FV)) (r11 : List (List FV)) : R := jden E 147 [(0, 0, 1)] [5, 4, 1, 0, 1, 4, 0, 1, 5, 4, 1, 0, 1, 1, 4, 5, 4, 1, 1, 1] (mkF 76 [(1, .f x0), (2, .ptr 0 0 0), (5, .f x1), (6, .f x2), (7, .ref 3), (8, .ref 4), (9, .f x3), (10, .f x4), (11, .f x5)]) [.box [.f x6, .f x7, .f x8], .dead, .fz r9, .own 1 r10, .own 1 r11]
noncomputable def ref02_classes.L4 (x0 : FV) (x1 : FV) (x2 : FV) (x3 : FV) (x4 : FV) (x5 : FV) (x6 : FV) (x7 : FV) (r8 : List (List FV)) (r9 : List (List FV)) (r10 : List (List FV)) : R := jden E 147 [(0, 0, 1)] [1, 1, 4, 0, 1, 5, 4, 1, 0, 1, 1, 4, 5, 4, 1, 1, 1] (mkF 76 [(1, .f x0), (2, .ptr 0 0 0), (5, .f x1), (6, .f x2), (7, .ref 3), (8, .ref 5), (9, .f x3), (10, .f x4)]) [.box [.f x5, .f x6, .f x7], .dead, .fz r8, .own 1 r9, .dead, .own 1 r10]
theorem ref02_classes.eq (x0 x1 : FV) : ref02_classes x0 x1 = (
  gB (fIsAgg 3 x0) <|
  bindO (fLen (fCell x0 1)) fun v1 =>
  bindO (fBin .quo v1 (fCell x0 0)) fun v2 =>
  bindO (asNat v2) fun j3 =>
  bindO (asNat v2) fun j4 =>
  gB (j3 ≤ j4 && j4 * 8 ≤ room && 1 ≥ 1) <|
  ref02_classes.L0 x1 (.int .i64 1) (fCell x0 0) (fCell x0 1) (fCell x0 2) (List.replicate j3 [(.int .i64 0 : FV)])) := (den_eq E 147 [x0, x1]).trans (by kernel_rfl)
theorem ref02_classes.L0_eq (x0 : FV) (x1 : FV) (x2 : FV) (x3 : FV) (x4 : FV) (r5 : List (List FV)) : ref02_classes.L0 x0 x1 x2 x3 x4 r5 = (
  bindO (asNat (.int .i64 ((r5.length : Nat) : Int))) fun j7 =>
  bindO (asNat (.int .i64 ((r5.length : Nat) : Int))) fun j8 =>
  gB (j7 ≤ j8 && j8 * 8 ≤ room && 1 ≥ 1) <|
  ref02_classes.L1 x0 (.arr r5) x1 (.int .i64 0) x2 x3 x4 r5 (List.replicate j7 [(.int .i64 0 : FV)]) []) := (jden_eq E 147 [(0, 0, 1)] [4, 1, 1, 1] _ _).trans (by kernel_rfl)
theorem ref02_classes.L1_eq (x0 : FV) (x1 : FV) (x2 : FV) (x3 : FV) (x4 : FV) (x5 : FV) (x6 : FV) (r7 : List (List FV)) (r8 : List (List FV)) (r9 : List (List FV)) : ref02_classes.L1 x0 x1 x2 x3 x4 x5 x6 r7 r8 r9 = (
  bindO (fLen x0) fun v11 =>
  bindO (fBin .lss x3 v11) fun v12 =>
  fCond v12
  (ref02_classes.L2 x0 x1 x2 x3 (.int .i64 (-1)) (.int .i64 0) x4 x5 x6 r7 r8 r9)
  (bindO (fBin .eql (.int .i64 ((r9.length : Nat) : Int)) x2) fun v13 =>
  fCond v13
  (some (.arr r8))
  (ref02_classes.L0 x0 (.int .i64 ((r9.length : Nat) : Int)) x4 x5 x6 r8))) := (jden_eq E 147 [(0, 0, 1)] [4, 1, 0, 1, 1, 4, 5, 4, 1, 1, 1] _ _).trans (by kernel_rfl)
theorem ref02_classes.L2_eq (x0 : FV) (x1 : FV) (x2 : FV) (x3 : FV) (x4 : FV) (x5 : FV) (x6 : FV) (x7 : FV) (x8 : FV) (r9 : List (List FV)) (r10 : List (List FV)) (r11 : List (List FV)) : ref02_classes.L2 x0 x1 x2 x3 x4 x5 x6 x7 x8 r9 r10 r11 = (
  bindO (fBin .lss x5 (.int .i64 ((r11.length : Nat) : Int))) fun v13 =>
  fCond v13
  (bindO (fBin .lss x4 (.int .i64 0)) fun v14 =>
  fCond v14
  (ref02_classes.L3 x0 x1 x2 x3 x4 x5 x6 x7 x8 r9 r10 r11)
  (bindO (fBin .lss x4 (.int .i64 0)) fun v15 =>
  fCond v15
  (bindO (fIdxC 1 x0 x3) fun c16 =>
  bindO (c16[0]?) fun v17 =>
  gB (decide ((r11.length + 1) * 8 ≤ room)) <|
  ref02_classes.L4 x0 x1 x2 x3 (.int .i64 ((r11.length : Nat) : Int)) x6 x7 x8 r9 r10 (r11 ++ [[v17]]))
  (ref02_classes.L4 x0 x1 x2 x3 x4 x6 x7 x8 r9 r10 r11)))
  (bindO (fBin .lss x4 (.int .i64 0)) fun v18 =>
  fCond v18
  (bindO (fIdxC 1 x0 x3) fun c19 =>
  bindO (c19[0]?) fun v20 =>
  gB (decide ((r11.length + 1) * 8 ≤ room)) <|
  ref02_classes.L4 x0 x1 x2 x3 (.int .i64 ((r11.length : Nat) : Int)) x6 x7 x8 r9 r10 (r11 ++ [[v20]]))
  (ref02_classes.L4 x0 x1 x2 x3 x4 x6 x7 x8 r9 r10 r11))) := (jden_eq E 147 [(0, 0, 1)] [4, 1, 0, 1, 4, 0, 1, 5, 4, 1, 0, 1, 1, 4, 5, 4, 1, 1, 1] _ _).trans (by kernel_rfl)
theorem ref02_classes.L3_eq (x0 : FV) (x1 : FV) (x2 : FV) (x3 : FV) (x4 : FV) (x5 : FV) (x6 : FV) (x7 : FV) (x8 : FV) (r9 : List (List FV)) (r10 : List (List FV)) (r11 : List (List FV)) : ref02_classes.L3 x0 x1 x2 x3 x4 x5 x6 x7 x8 r9 r10 r11 = (
  bindO (rIdx r11 x5) fun j13 =>
  bindO (rGet r11 j13 0) fun v14 =>
  bindO (fIdxC 1 x0 x3) fun c15 =>
  bindO (c15[0]?) fun v16 =>
  bindO (ref02_alike (.agg [x6, x7, x8]) x1 v14 v16) fun v17 =>
  fCond v17
  (bindO (fBin .add x5 (.int .i64 1)) fun v18 =>
  ref02_classes.L2 x0 x1 x2 x3 x5 v18 x6 x7 x8 r9 r10 r11)
  (bindO (fBin .add x5 (.int .i64 1)) fun v19 =>
  ref02_classes.L2 x0 x1 x2 x3 x4 v19 x6 x7 x8 r9 r10 r11)) := (jden_eq E 147 [(0, 0, 1)] [5, 4, 1, 0, 1, 4, 0, 1, 5, 4, 1, 0, 1, 1, 4, 5, 4, 1, 1, 1] _ _).trans (by kernel_rfl)
theorem ref02_classes.L4_eq (x0 : FV) (x1 : FV) (x2 : FV) (x3 : FV) (x4 : FV) (x5 : FV) (x6 : FV) (x7 : FV) (r8 : List (List FV)) (r9 : List (List FV)) (r10 : List (List FV)) : ref02_classes.L4 x0 x1 x2 x3 x4 x5 x6 x7 r8 r9 r10 = (
  bindO (fIdxC 1 x0 x3) fun c12 =>
  bindO (c12[0]?) fun v13 =>
  bindO (rIdx r9 v13) fun j14 =>
  bindO (rSet r9 j14 0 [x4]) fun r15 =>
  bindO (fBin .add x3 (.int .i64 1)) fun v16 =>
  ref02_classes.L1 x0 x1 x2 v16 x5 x6 x7 r8 r15 r10) := (jden_eq E 147 [(0, 0, 1)] [1, 1, 4, 0, 1, 5, 4, 1, 0, 1, 1, 4, 5, 4, 1, 1, 1] _ _).trans (by kernel_rfl)
/-! ### ramet/rametref02.least (function 101) -/
noncomputable def ref02_least.L0 (x0 : FV) (x1 : FV) (x2 : FV) (x3 : FV) (x4 : FV) (r5 : List (List FV)) (r6 : List (List FV)) (r7 : List (List FV)) (r8 : List (List FV)) : R := jden E 101 [] [4, 1, 0, 1, 1, 1, 1, 1, 1] (mkF 93 [(6, .f x0), (7, .ref 1), (8, .ref 4), (9, .ref 2), (10, .ref 3), (11, .f x1)]) [.box [.f x2, .f x3, .f x4], .own 1 r5, .own 1 r6, .own 1 r7, .own 1 r8]
noncomputable def ref02_least.L1 (x0 : FV) (x1 : FV) (x2 : FV) (x3 : FV) (x4 : FV) (r5 : List (List FV)) (r6 : List (List FV)) (r7 : List (List FV)) (r8 : List (List FV)) : R := jden E 101 [] [4, 1, 0, 1, 1, 1, 1, 1, 1, 1] (mkF 93 [(6, .f x0), (7, .ref 1), (8, .ref 4), (10, .ref 3), (12, .f x1)]) [.box [.f x2, .f x3, .f x4], .own 1 r5, .own 1 r6, .own 1 r7, .own 1 r8]
theorem ref02_least.eq (x0 x1 : FV) : ref02_least x0 x1 = (
  gB (fIsAgg 3 x0) <|
  bindO (ref02_reach (.agg [(fCell x0 0), (fCell x0 1), (fCell x0 2)]) x1) fun v1 =>
  bindO (ref02_classes (.agg [(fCell x0 0), (fCell x0 1), (fCell x0 2)]) v1) fun v2 =>
  bindO (arrRows v2) fun r3 =>
  bindO (asNat (.int .i64 ((r3.length : Nat) : Int))) fun j4 =>
  bindO (asNat (.int .i64 ((r3.length : Nat) : Int))) fun j5 =>
  gB (j4 ≤ j5 && j5 * 1 ≤ room && 1 ≥ 1) <|
  bindO (asNat (.int .i64 ((r3.length : Nat) : Int))) fun j6 =>
  bindO (asNat (.int .i64 ((r3.length : Nat) : Int))) fun j7 =>
  gB (j6 ≤ j7 && j7 * 8 ≤ room && 1 ≥ 1) <|
  ref02_least.L0 v1 (.int .i64 0) (fCell x0 0) (fCell x0 1) (fCell x0 2) r3 (List.replicate j4 [(.bool false : FV)]) (List.replicate j6 [(.int .i64 0 : FV)]) []) := (den_eq E 101 [x0, x1]).trans (by kernel_rfl)
theorem ref02_least.L0_eq (x0 : FV) (x1 : FV) (x2 : FV) (x3 : FV) (x4 : FV) (r5 : List (List FV)) (r6 : List (List FV)) (r7 : List (List FV)) (r8 : List (List FV)) : ref02_least.L0 x0 x1 x2 x3 x4 r5 r6 r7 r8 = (
  bindO (fLen x0) fun v10 =>
  bindO (fBin .lss x1 v10) fun v11 =>
  fCond v11
  (bindO (fIdxC 1 x0 x1) fun c12 =>
  bindO (c12[0]?) fun v13 =>
  bindO (rIdx r5 v13) fun j14 =>
  bindO (rGet r5 j14 0) fun v15 =>
  bindO (rIdx r6 v15) fun j16 =>
  bindO (rGet r6 j16 0) fun v17 =>
  bindO (fUn .not v17) fun v18 =>
  fCond v18
  (bindO (fIdxC 1 x0 x1) fun c19 =>
  bindO (c19[0]?) fun v20 =>
  bindO (rIdx r5 v20) fun j21 =>
  bindO (rGet r5 j21 0) fun v22 =>
  bindO (rIdx r6 v22) fun j23 =>
  bindO (rSet r6 j23 0 [.bool true]) fun r24 =>
  bindO (fIdxC 1 x0 x1) fun c25 =>
  bindO (c25[0]?) fun v26 =>
  bindO (rIdx r5 v26) fun j27 =>
  bindO (rGet r5 j27 0) fun v28 =>
  bindO (rIdx r7 v28) fun j29 =>
  bindO (rSet r7 j29 0 [.int .i64 ((r8.length : Nat) : Int)]) fun r30 =>
  bindO (fIdxC 1 x0 x1) fun c31 =>
  bindO (c31[0]?) fun v32 =>
  gB (decide ((r8.length + 1) * 8 ≤ room)) <|
  bindO (fBin .add x1 (.int .i64 1)) fun v33 =>
  ref02_least.L0 x0 v33 x2 x3 x4 r5 r24 r30 (r8 ++ [[v32]]))
  (bindO (fBin .add x1 (.int .i64 1)) fun v34 =>
  ref02_least.L0 x0 v34 x2 x3 x4 r5 r6 r7 r8))
  (ref02_least.L1 x0 (.int .i64 0) x2 x3 x4 r5 r6 r7 r8)) := (jden_eq E 101 [] [4, 1, 0, 1, 1, 1, 1, 1, 1] _ _).trans (by kernel_rfl)
theorem ref02_least.L1_eq (x0 : FV) (x1 : FV) (x2 : FV) (x3 : FV) (x4 : FV) (r5 : List (List FV)) (r6 : List (List FV)) (r7 : List (List FV)) (r8 : List (List FV)) : ref02_least.L1 x0 x1 x2 x3 x4 r5 r6 r7 r8 = (
  bindO (fLen x0) fun v10 =>
  bindO (fBin .lss x1 v10) fun v11 =>
  fCond v11
  (bindO (fIdxC 1 x0 x1) fun c12 =>
  bindO (c12[0]?) fun v13 =>
  bindO (fIdxC 1 x0 x1) fun c14 =>
  bindO (c14[0]?) fun v15 =>
  bindO (rIdx r5 v15) fun j16 =>
  bindO (rGet r5 j16 0) fun v17 =>
  bindO (rIdx r7 v17) fun j18 =>
  bindO (rGet r7 j18 0) fun v19 =>
  bindO (rIdx r5 v13) fun j20 =>
  bindO (rSet r5 j20 0 [v19]) fun r21 =>
  bindO (fBin .add x1 (.int .i64 1)) fun v22 =>
  ref02_least.L1 x0 v22 x2 x3 x4 r21 r6 r7 r8)
  (some (.tup [.arr r8, .arr r5]))) := (jden_eq E 101 [] [4, 1, 0, 1, 1, 1, 1, 1, 1, 1] _ _).trans (by kernel_rfl)
/-! ### ramet/rametref02.copyPorts (function 102) -/
noncomputable def ref02_copyPorts.L0 (x0 : FV) (x1 : FV) (r2 : List (List FV)) : R := jden E 102 [] [4, 1, 0, 1, 1] (mkF 28 [(0, .f x0), (3, .ref 0), (4, .f x1)]) [.own 2 r2]
theorem ref02_copyPorts.eq (x0 : FV) : ref02_copyPorts x0 = (
  ref02_copyPorts.L0 x0 (.int .i64 0) []) := (den_eq E 102 [x0]).trans (by kernel_rfl)
theorem ref02_copyPorts.L0_eq (x0 : FV) (x1 : FV) (r2 : List (List FV)) : ref02_copyPorts.L0 x0 x1 r2 = (
  bindO (fLen x0) fun v4 =>
  bindO (fBin .lss x1 v4) fun v5 =>
  fCond v5
  (bindO (fIdxC 2 x0 x1) fun c6 =>
  bindO (c6[0]?) fun v7 =>
  bindO (fIdxC 2 x0 x1) fun c8 =>
  bindO (c8[1]?) fun v9 =>
  bindO (asRows v9) fun r10 =>
  gB (rowsSz 1 r10) <|
  gB (decide ((0 + r10.length) * 16 ≤ room)) <|
  gB (decide ((r2.length + 1) * 40 ≤ room)) <|
  bindO (fBin .add x1 (.int .i64 1)) fun v11 =>
  ref02_copyPorts.L0 x0 v11 (r2 ++ [[v7, .arr ([] ++ r10)]]))
  (some (.arr r2))) := (jden_eq E 102 [] [4, 1, 0, 1, 1] _ _).trans (by kernel_rfl)
/-! ### ramet/rametref02.rowsOf (function 103) -/
noncomputable def ref02_rowsOf.L0 (x0 : FV) (x1 : FV) (x2 : FV) (x3 : FV) (x4 : FV) (x5 : FV) (r6 : List (List FV)) : R := jden E 103 [] [4, 1, 0, 1, 1] (mkF 52 [(1, .f x0), (2, .f x1), (3, .ptr 0 0 0), (7, .ref 1), (8, .f x2)]) [.box [.f x3, .f x4, .f x5], .own 2 r6]
noncomputable def ref02_rowsOf.L1 (x0 : FV) (x1 : FV) (x2 : FV) (x3 : FV) (x4 : FV) (x5 : FV) (x6 : FV) (r7 : List (List FV)) : R := jden E 103 [] [4, 1, 4, 0, 1, 5, 4, 1, 0, 1, 1] (mkF 52 [(1, .f x0), (2, .f x1), (3, .ptr 0 0 0), (7, .ref 2), (8, .f x2), (9, .f x3)]) [.box [.f x4, .f x5, .f x6], .dead, .own 2 r7]
theorem ref02_rowsOf.eq (x0 x1 x2 : FV) : ref02_rowsOf x0 x1 x2 = (
  gB (fIsAgg 3 x0) <|
  ref02_rowsOf.L0 x1 x2 (.int .i64 0) (fCell x0 0) (fCell x0 1) (fCell x0 2) []) := (den_eq E 103 [x0, x1, x2]).trans (by kernel_rfl)
theorem ref02_rowsOf.L0_eq (x0 : FV) (x1 : FV) (x2 : FV) (x3 : FV) (x4 : FV) (x5 : FV) (r6 : List (List FV)) : ref02_rowsOf.L0 x0 x1 x2 x3 x4 x5 r6 = (
  bindO (fLen x0) fun v8 =>
  bindO (fBin .lss x2 v8) fun v9 =>
  fCond v9
  (ref02_rowsOf.L1 x0 x1 x2 (.int .i64 0) x3 x4 x5 r6)
  (some (.arr r6))) := (jden_eq E 103 [] [4, 1, 0, 1, 1] _ _).trans (by kernel_rfl)
theorem ref02_rowsOf.L1_eq (x0 : FV) (x1 : FV) (x2 : FV) (x3 : FV) (x4 : FV) (x5 : FV) (x6 : FV) (r7 : List (List FV)) : ref02_rowsOf.L1 x0 x1 x2 x3 x4 x5 x6 r7 = (
  bindO (fBin .lss x3 x4) fun v9 =>
  fCond v9
  (bindO (fIdxC 1 x0 x2) fun c10 =>
  bindO (c10[0]?) fun v11 =>
  bindO (fBin .mul v11 x4) fun v12 =>
  bindO (fBin .add v12 x3) fun v13 =>
  bindO (fIdxC 1 x5 v13) fun c14 =>
  bindO (c14[0]?) fun v15 =>
  bindO (fIdxC 1 x1 v15) fun c16 =>
  bindO (c16[0]?) fun v17 =>
  bindO (fIdxC 1 x6 v13) fun c18 =>
  bindO (c18[0]?) fun v19 =>
  bindO (asRows v19) fun r20 =>
  gB (rowsSz 1 r20) <|
  gB (decide ((0 + r20.length) * 8 ≤ room)) <|
  gB (decide ((r7.length + 1) * 32 ≤ room)) <|
  bindO (fBin .add x3 (.int .i64 1)) fun v21 =>
  ref02_rowsOf.L1 x0 x1 x2 v21 x4 x5 x6 (r7 ++ [[v17, .arr ([] ++ r20)]]))
  (bindO (fBin .add x2 (.int .i64 1)) fun v22 =>
  ref02_rowsOf.L0 x0 x1 v22 x4 x5 x6 r7)) := (jden_eq E 103 [] [4, 1, 4, 0, 1, 5, 4, 1, 0, 1, 1] _ _).trans (by kernel_rfl)
/-! ### ramet/rametref02.Minimal (function 34) -/
noncomputable def ref02_Minimal.L0 (x0 : FV) (x1 : FV) (x2 : FV) (x3 : FV) (x4 : FV) (x5 : FV) (x6 : FV) (x7 : FV) (x8 : FV) (x9 : FV) (x10 : FV) (x11 : FV) (x12 : FV) (x13 : FV) (x14 : FV) (x15 : FV) (x16 : FV) (x17 : FV) (r18 : List (List FV)) (r19 : List (List FV)) (r20 : List (List FV)) (r21 : List (List FV)) (r22 : List (List FV)) : R := jden E 34 [] [4, 1, 0, 1, 1, 1, 1, 1] (mkF 58 [(1, .ptr 0 0 0), (2, .ptr 1 0 0), (6, .f x0), (8, .ptr 3 0 0), (9, .f x1)]) [.box [.f x2, .f x3, .f x4, .f x5, .f x6, .f x7], .box [.f x8, .ref 4, .f x9, .ref 5, .ref 6, .ref 7], .box [.f x10, .f x11, .f x12], .box [.f x13, .ref 8, .f x14, .f x15, .f x16, .f x17], .own 1 r18, .own 1 r19, .own 1 r20, .own 1 r21, .own 1 r22]
theorem ref02_Minimal.eq (x0 : FV) : ref02_Minimal x0 = (
  gB (fIsAgg 6 x0) <|
  bindO (ref02_Check (.agg [(fCell x0 0), (fCell x0 1), (fCell x0 2), (fCell x0 3), (fCell x0 4), (fCell x0 5)])) fun v1 =>
  bindO (fBin .neq v1 (.int .i64 0)) fun v2 =>
  fCond v2
  (some (.tup [.agg [.str [], .nilS, .int .i64 0, .nilS, .nilS, .nilS], v1]))
  (bindO (ref02_bareOf (.agg [(fCell x0 0), (fCell x0 1), (fCell x0 2), (fCell x0 3), (fCell x0 4), (fCell x0 5)])) fun v3 =>
  gB (fIsAgg 3 v3) <|
  bindO (ref02_least (.agg [(fCell v3 0), (fCell v3 1), (fCell v3 2)]) (fCell x0 2)) fun v4 =>
  gB (fIsTup 2 v4) <|
  bindO (ref02_copyPorts (fCell x0 3)) fun v5 =>
  bindO (ref02_copyPorts (fCell x0 4)) fun v6 =>
  bindO (ref02_rowsOf (.agg [(fCell v3 0), (fCell v3 1), (fCell v3 2)]) (fTup v4 0) (fTup v4 1)) fun v7 =>
  ref02_Minimal.L0 (fTup v4 0) (.int .i64 0) (fCell x0 0) (fCell x0 1) (fCell x0 2) (fCell x0 3) (fCell x0 4) (fCell x0 5) (.str []) (.int .i64 0) (fCell v3 0) (fCell v3 1) (fCell v3 2) (fCell x0 0) (.int .i64 0) v5 v6 v7 [] [] [] [] [])) := (den_eq E 34 [x0]).trans (by kernel_rfl)
theorem ref02_Minimal.L0_eq (x0 : FV) (x1 : FV) (x2 : FV) (x3 : FV) (x4 : FV) (x5 : FV) (x6 : FV) (x7 : FV) (x8 : FV) (x9 : FV) (x10 : FV) (x11 : FV) (x12 : FV) (x13 : FV) (x14 : FV) (x15 : FV) (x16 : FV) (x17 : FV) (r18 : List (List FV)) (r19 : List (List FV)) (r20 : List (List FV)) (r21 : List (List FV)) (r22 : List (List FV)) : ref02_Minimal.L0 x0 x1 x2 x3 x4 x5 x6 x7 x8 x9 x10 x11 x12 x13 x14 x15 x16 x17 r18 r19 r20 r21 r22 = (
  bindO (fLen x0) fun v24 =>
  bindO (fBin .lss x1 v24) fun v25 =>
  fCond v25
  (bindO (fIdxC 1 x0 x1) fun c26 =>
  bindO (c26[0]?) fun v27 =>
  bindO (fIdxC 1 x3 v27) fun c28 =>
  bindO (c28[0]?) fun v29 =>
  gB (decide ((r22.length + 1) * 16 ≤ room)) <|
  bindO (fBin .add x1 (.int .i64 1)) fun v30 =>
  ref02_Minimal.L0 x0 v30 x2 x3 x4 x5 x6 x7 x8 x9 x10 x11 x12 x13 x14 x15 x16 x17 r18 r19 r20 r21 (r22 ++ [[v29]]))
  (some (.tup [.agg [x13, .arr r22, x14, x15, x16, x17], .int .i64 0]))) := (jden_eq E 34 [] [4, 1, 0, 1, 1, 1, 1, 1] _ _).trans (by kernel_rfl)
/-! ### ramet/mach.classes (function 104) -/
noncomputable def mach_classes.L0 (x0 : FV) (x1 : FV) (x2 : FV) (x3 : FV) (x4 : FV) (x5 : FV) (x6 : FV) (x7 : FV) (r8 : List (List FV)) : R := jden E 104 [] [4, 1, 1, 1, 1] (mkF 117 [(1, .ptr 0 0 0), (3, .f x0), (4, .ref 2), (5, .f x1)]) [.box [.f x2, .f x3, .f x4, .f x5, .f x6, .f x7], .dead, .own 1 r8]
noncomputable def mach_classes.L1 (x0 : FV) (x1 : FV) (x2 : FV) (x3 : FV) (x4 : FV) (x5 : FV) (x6 : FV) (x7 : FV) (x8 : FV) (x9 : FV) (r10 : List (List FV)) (es11 : List (FV × FV)) (r12 : List (List FV)) : R := jden E 104 [] [4, 1, 0, 1, 1, 4, 5, 4, 1, 1, 1, 1] (mkF 117 [(1, .ptr 0 0 0), (3, .f x0), (4, .ref 2), (5, .f x1), (6, .mp 3), (7, .ref 4), (28, .f x2), (29, .f x3)]) [.box [.f x4, .f x5, .f x6, .f x7, .f x8, .f x9], .dead, .own 1 r10, .map false es11, .own 1 r12]
noncomputable def mach_classes.L2 (x0 : FV) (x1 : FV) (x2 : FV) (x3 : FV) (x4 : FV) (x5 : FV) (x6 : FV) (x7 : FV) (x8 : FV) (x9 : FV) (x10 : FV) (x11 : FV) (x12 : FV) (x13 : FV) (r14 : List (List FV)) (es15 : List (FV × FV)) (r16 : List (List FV)) (r17 : List (List FV)) : R := jden E 104 [] [4, 1, 0, 1, 1, 4, 0, 1, 1, 5, 4, 1, 0, 1, 1, 4, 5, 4, 1, 1, 1, 1] (mkF 117 [(1, .ptr 0 0 0), (3, .f x0), (4, .ref 2), (5, .f x1), (6, .mp 3), (7, .ref 4), (8, .f x2), (9, .ref 6), (28, .f x3), (29, .f x4), (53, .f x5), (54, .f x6), (55, .f x7)]) [.box [.f x8, .f x9, .f x10, .f x11, .f x12, .f x13], .dead, .own 1 r14, .map false es15, .own 1 r16, .dead, .own 1 r17]
noncomputable def mach_classes.L3 (x0 : FV) (x1 : FV) (x2 : FV) (x3 : FV) (x4 : FV) (x5 : FV) (x6 : FV) (x7 : FV) (x8 : FV) (x9 : FV) (x10 : FV) (x11 : FV) (x12 : FV) (x13 : FV) (x14 : FV) (x15 : FV) (x16 : FV) (r17 : List (List FV)) (es18 : List (FV × FV)) (r19 : List (List FV)) (x20 : FV) (x21 : FV) (r22 : List (List FV)) : R := jden E 104 [] [4, 1, 0, 1, 4, 0, 1, 1, 5, 4, 1, 0, 1, 1, 4, 0, 1, 1, 5, 4, 1, 0, 1, 1, 4, 5, 4, 1, 1, 1, 1] (mkF 117 [(1, .ptr 0 0 0), (3, .f x0), (4, .ref 2), (5, .f x1), (6, .mp 3), (7, .ref 4), (8, .f x2), (9, .ref 8), (11, .ptr 7 0 0), (28, .f x3), (29, .f x4), (53, .f x5), (54, .f x6), (55, .f x7), (60, .f x8), (61, .f x9), (62, .f x10)]) [.box [.f x11, .f x12, .f x13, .f x14, .f x15, .f x16], .dead, .own 1 r17, .map false es18, .own 1 r19, .dead, .dead, .box [.f x20, .f x21], .own 1 r22]
noncomputable def mach_classes.L4 (x0 : FV) (x1 : FV) (x2 : FV) (x3 : FV) (x4 : FV) (x5 : FV) (x6 : FV) (x7 : FV) (x8 : FV) (x9 : FV) (x10 : FV) (x11 : FV) (r12 : List (List FV)) (es13 : List (FV × FV)) (r14 : List (List FV)) (r15 : List (List FV)) : R := jden E 104 [] [1, 1, 1, 1, 4, 0, 1, 1, 5, 4, 1, 0, 1, 1, 4, 5, 4, 1, 1, 1, 1] (mkF 117 [(1, .ptr 0 0 0), (3, .f x0), (4, .ref 2), (5, .f x1), (6, .mp 3), (7, .ref 4), (8, .f x2), (14, .f x3), (28, .f x4), (29, .f x5)]) [.box [.f x6, .f x7, .f x8, .f x9, .f x10, .f x11], .dead, .own 1 r12, .map false es13, .own 1 r14, .dead, .own 1 r15]
theorem mach_classes.eq (x0 : FV) : mach_classes x0 = (
  gB (fIsAgg 6 x0) <|
  bindO (mach_product (fCell x0 3)) fun v1 =>
  bindO (fLen (fCell x0 1)) fun v2 =>
  bindO (asNat v2) fun j3 =>
  bindO (asNat v2) fun j4 =>
  gB (j3 ≤ j4 && j4 * 8 ≤ room && 1 ≥ 1) <|
  mach_classes.L0 v1 (.int .i64 0) (fCell x0 0) (fCell x0 1) (fCell x0 2) (fCell x0 3) (fCell x0 4) (fCell x0 5) (List.replicate j3 [(.int .i64 0 : FV)])) := (den_eq E 104 [x0]).trans (by kernel_rfl)
theorem mach_classes.L0_eq (x0 : FV) (x1 : FV) (x2 : FV) (x3 : FV) (x4 : FV) (x5 : FV) (x6 : FV) (x7 : FV) (r8 : List (List FV)) : mach_classes.L0 x0 x1 x2 x3 x4 x5 x6 x7 r8 = (
  bindO (asNat (.int .i64 ((r8.length : Nat) : Int))) fun j10 =>
  bindO (asNat (.int .i64 ((r8.length : Nat) : Int))) fun j11 =>
  gB (j10 ≤ j11 && j11 * 8 ≤ room && 1 ≥ 1) <|
  mach_classes.L1 x0 x1 (.int .i64 ((r8.length : Nat) : Int)) (.int .i64 0) x2 x3 x4 x5 x6 x7 r8 [] (List.replicate j10 [(.int .i64 0 : FV)])) := (jden_eq E 104 [] [4, 1, 1, 1, 1] _ _).trans (by kernel_rfl)
theorem mach_classes.L1_eq (x0 : FV) (x1 : FV) (x2 : FV) (x3 : FV) (x4 : FV) (x5 : FV) (x6 : FV) (x7 : FV) (x8 : FV) (x9 : FV) (r10 : List (List FV)) (es11 : List (FV × FV)) (r12 : List (List FV)) : mach_classes.L1 x0 x1 x2 x3 x4 x5 x6 x7 x8 x9 r10 es11 r12 = (
  bindO (fBin .lss x3 x2) fun v14 =>
  fCond v14
  (bindO (rIdx r10 x3) fun j15 =>
  bindO (rGet r10 j15 0) fun v16 =>
  bindO (fConvInt .u8 v16) fun v17 =>
  bindO (rIdx r10 x3) fun j18 =>
  bindO (rGet r10 j18 0) fun v19 =>
  bindO (fBin .shr v19 (.int .u64 8)) fun v20 =>
  bindO (fConvInt .u8 v20) fun v21 =>
  bindO (fBin .mul x3 x0) fun v22 =>
  bindO (fBin .add x3 (.int .i64 1)) fun v23 =>
  bindO (fBin .mul v23 x0) fun v24 =>
  bindO (fCut 2 x9 (some v22) (some v24)) fun v25 =>
  bindO (fLen v25) fun v26 =>
  mach_classes.L2 x0 x1 x3 x2 x3 v25 v26 (.int .i64 0) x4 x5 x6 x7 x8 x9 r10 es11 r12 [[v17], [v21]])
  (bindO (fBin .eql (.int .i64 ((es11.length : Nat) : Int)) x1) fun v27 =>
  fCond v27
  (some (.arr r12))
  (mach_classes.L0 x0 (.int .i64 ((es11.length : Nat) : Int)) x4 x5 x6 x7 x8 x9 r12))) := (jden_eq E 104 [] [4, 1, 0, 1, 1, 4, 5, 4, 1, 1, 1, 1] _ _).trans (by kernel_rfl)
theorem mach_classes.L2_eq (x0 : FV) (x1 : FV) (x2 : FV) (x3 : FV) (x4 : FV) (x5 : FV) (x6 : FV) (x7 : FV) (x8 : FV) (x9 : FV) (x10 : FV) (x11 : FV) (x12 : FV) (x13 : FV) (r14 : List (List FV)) (es15 : List (FV × FV)) (r16 : List (List FV)) (r17 : List (List FV)) : mach_classes.L2 x0 x1 x2 x3 x4 x5 x6 x7 x8 x9 x10 x11 x12 x13 r14 es15 r16 r17 = (
  bindO (fBin .lss x7 x6) fun v19 =>
  fCond v19
  (bindO (fIdxC 2 x5 x7) fun c20 =>
  bindO (c20[0]?) fun v21 =>
  bindO (c20[1]?) fun v22 =>
  bindO (fLen v22) fun v23 =>
  mach_classes.L3 x0 x1 x2 x3 x4 x5 x6 x7 v22 v23 (.int .i64 0) x8 x9 x10 x11 x12 x13 r14 es15 r16 v21 v22 r17)
  (bindO (bytes? r17) fun v24 =>
  bindO (mLook false [.str] es15 (.str v24) (.int .i64 0)) fun v25 =>
  bindO (fUn .not (.bool v25.2)) fun v26 =>
  fCond v26
  (bindO (bytes? r17) fun v27 =>
  gB (keyOk false [.str] (.str v27)) <|
  bindO (mPut false [.str] es15 (.str v27) (.int .i64 ((es15.length : Nat) : Int))) fun es28 =>
  mach_classes.L4 x0 x1 x2 (.int .i64 ((es15.length : Nat) : Int)) x3 x4 x8 x9 x10 x11 x12 x13 r14 es28 r16 r17)
  (mach_classes.L4 x0 x1 x2 v25.1 x3 x4 x8 x9 x10 x11 x12 x13 r14 es15 r16 r17))) := (jden_eq E 104 [] [4, 1, 0, 1, 1, 4, 0, 1, 1, 5, 4, 1, 0, 1, 1, 4, 5, 4, 1, 1, 1, 1] _ _).trans (by kernel_rfl)
theorem mach_classes.L3_eq (x0 : FV) (x1 : FV) (x2 : FV) (x3 : FV) (x4 : FV) (x5 : FV) (x6 : FV) (x7 : FV) (x8 : FV) (x9 : FV) (x10 : FV) (x11 : FV) (x12 : FV) (x13 : FV) (x14 : FV) (x15 : FV) (x16 : FV) (r17 : List (List FV)) (es18 : List (FV × FV)) (r19 : List (List FV)) (x20 : FV) (x21 : FV) (r22 : List (List FV)) : mach_classes.L3 x0 x1 x2 x3 x4 x5 x6 x7 x8 x9 x10 x11 x12 x13 x14 x15 x16 r17 es18 r19 x20 x21 r22 = (
  bindO (fBin .lss x10 x9) fun v24 =>
  fCond v24
  (bindO (fIdxC 1 x8 x10) fun c25 =>
  bindO (c25[0]?) fun v26 =>
  bindO (fConvInt .u8 v26) fun v27 =>
  gB (decide ((r22.length + 1) * 1 ≤ room)) <|
  bindO (fBin .add x10 (.int .i64 1)) fun v28 =>
  mach_classes.L3 x0 x1 x2 x3 x4 x5 x6 x7 x8 x9 v28 x11 x12 x13 x14 x15 x16 r17 es18 r19 x20 x21 (r22 ++ [[v27]]))
  (bindO (rIdx r17 x20) fun j29 =>
  bindO (rGet r17 j29 0) fun v30 =>
  bindO (fConvInt .u8 v30) fun v31 =>
  bindO (rIdx r17 x20) fun j32 =>
  bindO (rGet r17 j32 0) fun v33 =>
  bindO (fBin .shr v33 (.int .u64 8)) fun v34 =>
  bindO (fConvInt .u8 v34) fun v35 =>
  gB (decide ((r22.length + 2) * 1 ≤ room)) <|
  bindO (fBin .add x7 (.int .i64 1)) fun v36 =>
  mach_classes.L2 x0 x1 x2 x3 x4 x5 x6 v36 x11 x12 x13 x14 x15 x16 r17 es18 r19 (r22 ++ [[v31], [v35]]))) := (jden_eq E 104 [] [4, 1, 0, 1, 4, 0, 1, 1, 5, 4, 1, 0, 1, 1, 4, 0, 1, 1, 5, 4, 1, 0, 1, 1, 4, 5, 4, 1, 1, 1, 1] _ _).trans (by kernel_rfl)
theorem mach_classes.L4_eq (x0 : FV) (x1 : FV) (x2 : FV) (x3 : FV) (x4 : FV) (x5 : FV) (x6 : FV) (x7 : FV) (x8 : FV) (x9 : FV) (x10 : FV) (x11 : FV) (r12 : List (List FV)) (es13 : List (FV × FV)) (r14 : List (List FV)) (r15 : List (List FV)) : mach_classes.L4 x0 x1 x2 x3 x4 x5 x6 x7 x8 x9 x10 x11 r12 es13 r14 r15 = (
  bindO (rIdx r14 x2) fun j17 =>
  bindO (rSet r14 j17 0 [x3]) fun r18 =>
  bindO (fBin .add x5 (.int .i64 1)) fun v19 =>
  mach_classes.L1 x0 x1 x4 v19 x6 x7 x8 x9 x10 x11 r12 es13 r18) := (jden_eq E 104 [] [1, 1, 1, 1, 4, 0, 1, 1, 5, 4, 1, 0, 1, 1, 4, 5, 4, 1, 1, 1, 1] _ _).trans (by kernel_rfl)
/-! ### slices.Clone[[]string,string] (function 98) -/
theorem slices_Clone_string.eq (x0 : FV) : slices_Clone_string x0 = (
  onFV x0
  (some (.arr []))
  (bindO (asRows x0) fun r1 =>
  gB (rowsSz 1 r1) <|
  gB (decide ((0 + r1.length) * 16 ≤ room)) <|
  some (.arr ([] ++ r1)))) := (den_eq E 98 [x0]).trans (by kernel_rfl)
/-! ### ramet/mach.clonePorts (function 106) -/
noncomputable def mach_clonePorts.L0 (x0 : FV) (x1 : FV) (x2 : FV) (r3 : List (List FV)) : R := jden E 106 [] [4, 1, 0, 1, 1] (mkF 23 [(3, .ref 0), (6, .f x0), (7, .f x1), (8, .f x2)]) [.own 2 r3]
theorem mach_clonePorts.eq (x0 : FV) : mach_clonePorts x0 = (
  bindO (fLen x0) fun v1 =>
  mach_clonePorts.L0 x0 v1 (.int .i64 0) []) := (den_eq E 106 [x0]).trans (by kernel_rfl)
theorem mach_clonePorts.L0_eq (x0 : FV) (x1 : FV) (x2 : FV) (r3 : List (List FV)) : mach_clonePorts.L0 x0 x1 x2 r3 = (
  bindO (fBin .lss x2 x1) fun v5 =>
  fCond v5
  (bindO (fIdxC 2 x0 x2) fun c6 =>
  bindO (c6[0]?) fun v7 =>
  bindO (c6[1]?) fun v8 =>
  bindO (slices_Clone_string v8) fun v9 =>
  bindO (arrRows v9) fun r10 =>
  gB (decide ((r3.length + 1) * 40 ≤ room)) <|
  bindO (fBin .add x2 (.int .i64 1)) fun v11 =>
  mach_clonePorts.L0 x0 x1 v11 (r3 ++ [[v7, .arr r10]]))
  (some (.arr r3))) := (jden_eq E 106 [] [4, 1, 0, 1, 1] _ _).trans (by kernel_rfl)
/-! ### ramet/mach.Minimal (function 35) -/
noncomputable def mach_Minimal.L0 (x0 : FV) (x1 : FV) (x2 : FV) (x3 : FV) (x4 : FV) (x5 : FV) (x6 : FV) (x7 : FV) (x8 : FV) (x9 : FV) (x10 : FV) (es11 : List (FV × FV)) (x12 : FV) (x13 : FV) (x14 : FV) (x15 : FV) (r16 : List (List FV)) (r17 : List (List FV)) (r18 : List (List FV)) (r19 : List (List FV)) (r20 : List (List FV)) (r21 : List (List FV)) (r22 : List (List FV)) : R := jden E 35 [] [4, 0, 1, 1, 1, 1, 1, 1, 1] (mkF 109 [(1, .ptr 0 0 0), (2, .ptr 1 0 0), (5, .f x0), (6, .f x1), (7, .ptr 2 0 0), (8, .mp 3), (9, .ptr 5 0 0)]) [.box [.f x2, .f x3, .f x4, .f x5, .f x6, .f x7], .box [.f x8, .ref 6, .f x9, .ref 7, .ref 8, .ref 9], .box [.ref 12, .f x10], .map false es11, .dead, .box [.f x12, .ref 10, .f x13, .f x14, .f x15, .ref 11], .own 1 r16, .own 1 r17, .own 1 r18, .own 1 r19, .own 1 r20, .own 2 r21, .own 1 r22]
noncomputable def mach_Minimal.L1 (x0 : FV) (x1 : FV) (x2 : FV) (x3 : FV) (x4 : FV) (x5 : FV) (x6 : FV) (x7 : FV) (x8 : FV) (x9 : FV) (x10 : FV) (x11 : FV) (x12 : FV) (x13 : FV) (es14 : List (FV × FV)) (x15 : FV) (x16 : FV) (x17 : FV) (x18 : FV) (r19 : List (List FV)) (r20 : List (List FV)) (r21 : List (List FV)) (r22 : List (List FV)) (r23 : List (List FV)) (r24 : List (List FV)) (r25 : List (List FV)) : R := jden E 35 [] [4, 1, 1, 1, 4, 1, 5, 4, 0, 1, 1, 1, 1, 1, 1, 1] (mkF 109 [(1, .ptr 0 0 0), (2, .ptr 1 0 0), (5, .f x0), (6, .f x1), (7, .ptr 2 0 0), (8, .mp 3), (9, .ptr 5 0 0), (67, .f x2), (68, .f x3), (69, .f x4)]) [.box [.f x5, .f x6, .f x7, .f x8, .f x9, .f x10], .box [.f x11, .ref 6, .f x12, .ref 7, .ref 8, .ref 9], .box [.ref 14, .f x13], .map false es14, .dead, .box [.f x15, .ref 13, .f x16, .f x17, .f x18, .ref 15], .own 1 r19, .own 1 r20, .own 1 r21, .own 1 r22, .dead, .dead, .dead, .own 1 r23, .own 1 r24, .own 2 r25]
noncomputable def mach_Minimal.L2 (x0 : FV) (x1 : FV) (x2 : FV) (x3 : FV) (x4 : FV) (x5 : FV) (x6 : FV) (x7 : FV) (x8 : FV) (x9 : FV) (x10 : FV) (x11 : FV) (x12 : FV) (x13 : FV) (x14 : FV) (x15 : FV) (es16 : List (FV × FV)) (x17 : FV) (x18 : FV) (x19 : FV) (x20 : FV) (r21 : List (List FV)) (r22 : List (List FV)) (r23 : List (List FV)) (r24 : List (List FV)) (r25 : List (List FV)) (r26 : List (List FV)) (r27 : List (List FV)) : R := jden E 35 [] [1, 1, 4, 0, 1, 1, 5, 4, 1, 1, 1, 4, 1, 5, 4, 0, 1, 1, 1, 1, 1, 1, 1] (mkF 109 [(1, .ptr 0 0 0), (2, .ptr 1 0 0), (5, .f x0), (6, .f x1), (7, .ptr 2 0 0), (8, .mp 3), (9, .ptr 5 0 0), (12, .f x2), (13, .f x3), (67, .f x4), (68, .f x5), (69, .f x6)]) [.box [.f x7, .f x8, .f x9, .f x10, .f x11, .f x12], .box [.f x13, .ref 6, .f x14, .ref 7, .ref 8, .ref 9], .box [.ref 14, .f x15], .map false es16, .dead, .box [.f x17, .ref 13, .f x18, .f x19, .f x20, .ref 15], .own 1 r21, .own 1 r22, .own 1 r23, .own 1 r24, .dead, .dead, .dead, .own 1 r25, .own 1 r26, .own 2 r27]
theorem mach_Minimal.eq (x0 : FV) : mach_Minimal x0 = (
  gB (fIsAgg 6 x0) <|
  bindO (mach_Check (.agg [(fCell x0 0), (fCell x0 1), (fCell x0 2), (fCell x0 3), (fCell x0 4), (fCell x0 5)])) fun v1 =>
  bindO (fBin .neq v1 (.int .i64 0)) fun v2 =>
  fCond v2
  (some (.tup [.agg [.str [], .nilS, .int .i64 0, .nilS, .nilS, .nilS], v1]))
  (bindO (mach_classes (.agg [(fCell x0 0), (fCell x0 1), (fCell x0 2), (fCell x0 3), (fCell x0 4), (fCell x0 5)])) fun v3 =>
  bindO (mach_product (fCell x0 3)) fun v4 =>
  bindO (fIdxC 1 v3 (fCell x0 2)) fun c5 =>
  bindO (c5[0]?) fun v6 =>
  gB (keyOk false [.int] v6) <|
  bindO (mPut false [.int] [] v6 (.int .i64 0)) fun es7 =>
  gB (decide (1 * 8 ≤ room)) <|
  bindO (mach_clonePorts (fCell x0 3)) fun v8 =>
  bindO (mach_clonePorts (fCell x0 4)) fun v9 =>
  mach_Minimal.L0 v3 v4 (fCell x0 0) (fCell x0 1) (fCell x0 2) (fCell x0 3) (fCell x0 4) (fCell x0 5) (.str []) (.int .i64 0) (.int .i64 0) es7 (fCell x0 0) (.int .i64 0) v8 v9 [] [] [] [] [] [] [[(fCell x0 2)]])) := (den_eq E 35 [x0]).trans (by kernel_rfl)
theorem mach_Minimal.L0_eq (x0 : FV) (x1 : FV) (x2 : FV) (x3 : FV) (x4 : FV) (x5 : FV) (x6 : FV) (x7 : FV) (x8 : FV) (x9 : FV) (x10 : FV) (es11 : List (FV × FV)) (x12 : FV) (x13 : FV) (x14 : FV) (x15 : FV) (r16 : List (List FV)) (r17 : List (List FV)) (r18 : List (List FV)) (r19 : List (List FV)) (r20 : List (List FV)) (r21 : List (List FV)) (r22 : List (List FV)) : mach_Minimal.L0 x0 x1 x2 x3 x4 x5 x6 x7 x8 x9 x10 es11 x12 x13 x14 x15 r16 r17 r18 r19 r20 r21 r22 = (
  bindO (fBin .eql x10 (.int .i64 ((r22.length : Nat) : Int))) fun v24 =>
  bindO (fUn .not v24) fun v25 =>
  fCond v25
  (bindO (rIdx r22 x10) fun j26 =>
  bindO (rGet r22 j26 0) fun v27 =>
  bindO (fBin .add x10 (.int .i64 1)) fun v28 =>
  bindO (fIdxC 1 x3 v27) fun c29 =>
  bindO (c29[0]?) fun v30 =>
  gB (decide ((r20.length + 1) * 16 ≤ room)) <|
  bindO (fBin .mul v27 x1) fun v31 =>
  bindO (fBin .add v27 (.int .i64 1)) fun v32 =>
  bindO (fBin .mul v32 x1) fun v33 =>
  bindO (fCut 2 x7 (some v31) (some v33)) fun v34 =>
  bindO (fLen v34) fun v35 =>
  mach_Minimal.L1 x0 x1 v34 v35 (.int .i64 0) x2 x3 x4 x5 x6 x7 x8 x9 v28 es11 x12 x13 x14 x15 r16 r17 r18 r19 (r20 ++ [[v30]]) r22 r21)
  (some (.tup [.agg [x12, .arr r20, x13, x14, x15, .arr r21], .int .i64 0]))) := (jden_eq E 35 [] [4, 0, 1, 1, 1, 1, 1, 1, 1] _ _).trans (by kernel_rfl)
theorem mach_Minimal.L1_eq (x0 : FV) (x1 : FV) (x2 : FV) (x3 : FV) (x4 : FV) (x5 : FV) (x6 : FV) (x7 : FV) (x8 : FV) (x9 : FV) (x10 : FV) (x11 : FV) (x12 : FV) (x13 : FV) (es14 : List (FV × FV)) (x15 : FV) (x16 : FV) (x17 : FV) (x18 : FV) (r19 : List (List FV)) (r20 : List (List FV)) (r21 : List (List FV)) (r22 : List (List FV)) (r23 : List (List FV)) (r24 : List (List FV)) (r25 : List (List FV)) : mach_Minimal.L1 x0 x1 x2 x3 x4 x5 x6 x7 x8 x9 x10 x11 x12 x13 es14 x15 x16 x17 x18 r19 r20 r21 r22 r23 r24 r25 = (
  bindO (fBin .lss x4 x3) fun v27 =>
  fCond v27
  (bindO (fIdxC 2 x2 x4) fun c28 =>
  bindO (c28[0]?) fun v29 =>
  bindO (c28[1]?) fun v30 =>
  bindO (fIdxC 1 x0 v29) fun c31 =>
  bindO (c31[0]?) fun v32 =>
  bindO (mLook false [.int] es14 v32 (.int .i64 0)) fun v33 =>
  bindO (fUn .not (.bool v33.2)) fun v34 =>
  fCond v34
  (bindO (fIdxC 1 x0 v29) fun c35 =>
  bindO (c35[0]?) fun v36 =>
  gB (keyOk false [.int] v36) <|
  bindO (mPut false [.int] es14 v36 (.int .i64 ((es14.length : Nat) : Int))) fun es37 =>
  gB (decide ((r24.length + 1) * 8 ≤ room)) <|
  mach_Minimal.L2 x0 x1 (.eptr [v29, v30] 0) (.int .i64 ((es14.length : Nat) : Int)) x2 x3 x4 x5 x6 x7 x8 x9 x10 x11 x12 x13 es37 x15 x16 x17 x18 r19 r20 r21 r22 r23 (r24 ++ [[v29]]) r25)
  (mach_Minimal.L2 x0 x1 (.eptr [v29, v30] 0) v33.1 x2 x3 x4 x5 x6 x7 x8 x9 x10 x11 x12 x13 es14 x15 x16 x17 x18 r19 r20 r21 r22 r23 r24 r25))
  (mach_Minimal.L0 x0 x1 x5 x6 x7 x8 x9 x10 x11 x12 x13 es14 x15 x16 x17 x18 r19 r20 r21 r22 r23 r25 r24)) := (jden_eq E 35 [] [4, 1, 1, 1, 4, 1, 5, 4, 0, 1, 1, 1, 1, 1, 1, 1] _ _).trans (by kernel_rfl)
theorem mach_Minimal.L2_eq (x0 : FV) (x1 : FV) (x2 : FV) (x3 : FV) (x4 : FV) (x5 : FV) (x6 : FV) (x7 : FV) (x8 : FV) (x9 : FV) (x10 : FV) (x11 : FV) (x12 : FV) (x13 : FV) (x14 : FV) (x15 : FV) (es16 : List (FV × FV)) (x17 : FV) (x18 : FV) (x19 : FV) (x20 : FV) (r21 : List (List FV)) (r22 : List (List FV)) (r23 : List (List FV)) (r24 : List (List FV)) (r25 : List (List FV)) (r26 : List (List FV)) (r27 : List (List FV)) : mach_Minimal.L2 x0 x1 x2 x3 x4 x5 x6 x7 x8 x9 x10 x11 x12 x13 x14 x15 es16 x17 x18 x19 x20 r21 r22 r23 r24 r25 r26 r27 = (
  bindO (fAddrO x2 1) fun p29 =>
  bindO (fLd p29 0) fun v30 =>
  bindO (slices_Clone_int v30) fun v31 =>
  bindO (arrRows v31) fun r32 =>
  gB (decide ((r27.length + 1) * 32 ≤ room)) <|
  bindO (fBin .add x6 (.int .i64 1)) fun v33 =>
  mach_Minimal.L1 x0 x1 x4 x5 v33 x7 x8 x9 x10 x11 x12 x13 x14 x15 es16 x17 x18 x19 x20 r21 r22 r23 r24 r25 r26 (r27 ++ [[x3, .arr r32]])) := (jden_eq E 35 [] [1, 1, 4, 0, 1, 1, 5, 4, 1, 1, 1, 4, 1, 5, 4, 0, 1, 1, 1, 1, 1, 1, 1] _ _).trans (by kernel_rfl)
/-! ### ramet/rametlaw02.MachMinimal (function 9) -/
noncomputable def law02_MachMinimal.L0 (x0 : FV) (x1 : FV) (x2 : FV) (x3 : FV) (x4 : FV) (x5 : FV) (x6 : FV) (x7 : FV) (x8 : FV) (x9 : FV) (x10 : FV) (x11 : FV) (x12 : FV) (x13 : FV) (x14 : FV) (x15 : FV) (x16 : FV) (x17 : FV) (x18 : FV) (x19 : FV) (x20 : FV) (x21 : FV) (x22 : FV) (x23 : FV) : R := jden E 9 [] [1, 1, 1, 1, 1] (mkF 149 [(1, .f x0), (3, .ptr 0 0 0), (7, .f x1), (8, .f x2), (11, .ptr 3 0 0), (12, .f x3)]) [.box [.f x4, .f x5, .f x6, .f x7, .f x8, .f x9], .box [.f x10, .f x11], .box [.f x12, .f x13, .f x14, .f x15, .f x16, .f x17], .box [.f x18, .f x19, .f x20, .f x21, .f x22, .f x23]]
noncomputable def law02_MachMinimal.L1 (x0 : FV) (x1 : FV) (x2 : FV) (x3 : FV) (x4 : FV) (x5 : FV) (x6 : FV) (x7 : FV) (x8 : FV) (x9 : FV) (x10 : FV) (x11 : FV) (x12 : FV) (x13 : FV) (x14 : FV) (x15 : FV) (x16 : FV) (x17 : FV) (x18 : FV) (x19 : FV) (x20 : FV) (x21 : FV) : R := jden E 9 [] [1, 1, 1, 1, 1, 1, 1, 1, 1] (mkF 149 [(3, .ptr 0 0 0), (7, .f x0), (8, .f x1), (11, .ptr 3 0 0)]) [.box [.f x2, .f x3, .f x4, .f x5, .f x6, .f x7], .box [.f x8, .f x9], .box [.f x10, .f x11, .f x12, .f x13, .f x14, .f x15], .box [.f x16, .f x17, .f x18, .f x19, .f x20, .f x21]]
noncomputable def law02_MachMinimal.L2 (x0 : FV) (x1 : FV) (x2 : FV) (x3 : FV) (x4 : FV) (x5 : FV) (x6 : FV) (x7 : FV) (x8 : FV) (x9 : FV) (x10 : FV) (x11 : FV) (x12 : FV) (x13 : FV) (x14 : FV) (x15 : FV) (x16 : FV) (x17 : FV) (x18 : FV) (x19 : FV) (x20 : FV) (x21 : FV) : R := jden E 9 [] [1, 1, 1, 1, 1, 1, 1, 1, 1, 1] (mkF 149 [(7, .f x0), (8, .f x1), (11, .ptr 3 0 0)]) [.box [.f x2, .f x3, .f x4, .f x5, .f x6, .f x7], .box [.f x8, .f x9], .box [.f x10, .f x11, .f x12, .f x13, .f x14, .f x15], .box [.f x16, .f x17, .f x18, .f x19, .f x20, .f x21]]
noncomputable def law02_MachMinimal.L3 (x0 : FV) (x1 : FV) (x2 : FV) (x3 : FV) (x4 : FV) (x5 : FV) (x6 : FV) (x7 : FV) (x8 : FV) (x9 : FV) (x10 : FV) (x11 : FV) (x12 : FV) (x13 : FV) (x14 : FV) (x15 : FV) (x16 : FV) (x17 : FV) (x18 : FV) (x19 : FV) (x20 : FV) (x21 : FV) : R := jden E 9 [] [1, 1, 1, 1, 1, 1, 1, 1, 1, 1, 1] (mkF 149 [(7, .f x0), (8, .f x1), (11, .ptr 3 0 0)]) [.box [.f x2, .f x3, .f x4, .f x5, .f x6, .f x7], .box [.f x8, .f x9], .box [.f x10, .f x11, .f x12, .f x13, .f x14, .f x15], .box [.f x16, .f x17, .f x18, .f x19, .f x20, .f x21]]
theorem law02_MachMinimal.eq (x0 x1 x2 : FV) : law02_MachMinimal x0 x1 x2 = (
  gB (fIsAgg 6 x0) <|
  gB (fIsAgg 2 x2) <|
  bindO (ref02_Minimal (.agg [(fCell x0 0), (fCell x0 1), (fCell x0 2), (fCell x0 3), (fCell x0 4), (fCell x0 5)])) fun v1 =>
  gB (fIsTup 2 v1) <|
  gB (fIsAgg 6 (fTup v1 0)) <|
  bindO (mach_Minimal (.agg [(fCell x0 0), (fCell x0 1), (fCell x0 2), (fCell x0 3), (fCell x0 4), (fCell x0 5)])) fun v2 =>
  gB (fIsTup 2 v2) <|
  gB (fIsAgg 6 (fTup v2 0)) <|
  bindO (fBin .neq (fTup v2 1) (fTup v1 1)) fun v3 =>
  fCond v3
  (some (.bool false))
  (bindO (ref02_SameMachine (.agg [(fCell (fTup v2 0) 0), (fCell (fTup v2 0) 1), (fCell (fTup v2 0) 2), (fCell (fTup v2 0) 3), (fCell (fTup v2 0) 4), (fCell (fTup v2 0) 5)]) (.agg [(fCell (fTup v1 0) 0), (fCell (fTup v1 0) 1), (fCell (fTup v1 0) 2), (fCell (fTup v1 0) 3), (fCell (fTup v1 0) 4), (fCell (fTup v1 0) 5)])) fun v4 =>
  bindO (fUn .not v4) fun v5 =>
  fCond v5
  (some (.bool false))
  (law02_MachMinimal.L0 x1 (fCell x2 0) (fCell x2 1) (fTup v2 1) (fCell x0 0) (fCell x0 1) (fCell x0 2) (fCell x0 3) (fCell x0 4) (fCell x0 5) (fCell x2 0) (fCell x2 1) (fCell (fTup v1 0) 0) (fCell (fTup v1 0) 1) (fCell (fTup v1 0) 2) (fCell (fTup v1 0) 3) (fCell (fTup v1 0) 4) (fCell (fTup v1 0) 5) (fCell (fTup v2 0) 0) (fCell (fTup v2 0) 1) (fCell (fTup v2 0) 2) (fCell (fTup v2 0) 3) (fCell (fTup v2 0) 4) (fCell (fTup v2 0) 5)))) := (den_eq E 9 [x0, x1, x2]).trans (by kernel_rfl)
theorem law02_MachMinimal.L0_eq (x0 : FV) (x1 : FV) (x2 : FV) (x3 : FV) (x4 : FV) (x5 : FV) (x6 : FV) (x7 : FV) (x8 : FV) (x9 : FV) (x10 : FV) (x11 : FV) (x12 : FV) (x13 : FV) (x14 : FV) (x15 : FV) (x16 : FV) (x17 : FV) (x18 : FV) (x19 : FV) (x20 : FV) (x21 : FV) (x22 : FV) (x23 : FV) : law02_MachMinimal.L0 x0 x1 x2 x3 x4 x5 x6 x7 x8 x9 x10 x11 x12 x13 x14 x15 x16 x17 x18 x19 x20 x21 x22 x23 = (
  bindO (fBin .neq x3 (.int .i64 0)) fun v25 =>
  fCond v25
  (some (.bool true))
  (bindO (mach_Run (.agg [x4, x5, x6, x7, x8, x9]) x0) fun v26 =>
  gB (fIsTup 3 v26) <|
  bindO (mach_Run (.agg [x18, x19, x20, x21, x22, x23]) x0) fun v27 =>
  gB (fIsTup 3 v27) <|
  bindO (fBin .neq (fTup v26 2) (fTup v27 2)) fun v28 =>
  fCond v28
  (some (.bool false))
  (bindO (ref02_SameLists (fTup v26 0) (fTup v27 0)) fun v29 =>
  bindO (fUn .not v29) fun v30 =>
  fCond v30
  (some (.bool false))
  (bindO (fBin .eql (fTup v26 2) (.int .i64 0)) fun v31 =>
  fCond v31
  (bindO (fBin .lss (fTup v26 1) (.int .i64 0)) fun v32 =>
  fCond v32
  (some (.bool false))
  (bindO (fBin .lss (fTup v27 1) (.int .i64 0)) fun v33 =>
  fCond v33
  (some (.bool false))
  (bindO (fLen (fTup v26 0)) fun v34 =>
  bindO (fLen x0) fun v35 =>
  bindO (fBin .neq v34 v35) fun v36 =>
  fCond v36
  (some (.bool false))
  (law02_MachMinimal.L1 x1 x2 x4 x5 x6 x7 x8 x9 x10 x11 x12 x13 x14 x15 x16 x17 x18 x19 x20 x21 x22 x23))))
  (law02_MachMinimal.L1 x1 x2 x4 x5 x6 x7 x8 x9 x10 x11 x12 x13 x14 x15 x16 x17 x18 x19 x20 x21 x22 x23))))) := (jden_eq E 9 [] [1, 1, 1, 1, 1] _ _).trans (by kernel_rfl)
theorem law02_MachMinimal.L1_eq (x0 : FV) (x1 : FV) (x2 : FV) (x3 : FV) (x4 : FV) (x5 : FV) (x6 : FV) (x7 : FV) (x8 : FV) (x9 : FV) (x10 : FV) (x11 : FV) (x12 : FV) (x13 : FV) (x14 : FV) (x15 : FV) (x16 : FV) (x17 : FV) (x18 : FV) (x19 : FV) (x20 : FV) (x21 : FV) : law02_MachMinimal.L1 x0 x1 x2 x3 x4 x5 x6 x7 x8 x9 x10 x11 x12 x13 x14 x15 x16 x17 x18 x19 x20 x21 = (
  bindO (mach_Differ (.agg [x2, x3, x4, x5, x6, x7]) (.agg [x16, x17, x18, x19, x20, x21])) fun v23 =>
  gB (fIsTup 3 v23) <|
  fCond (fTup v23 1)
  (some (.bool false))
  (bindO (fBin .neq (fTup v23 2) (.int .i64 0)) fun v24 =>
  fCond v24
  (some (.bool false))
  (law02_MachMinimal.L2 x0 x1 x2 x3 x4 x5 x6 x7 x8 x9 x10 x11 x12 x13 x14 x15 x16 x17 x18 x19 x20 x21))) := (jden_eq E 9 [] [1, 1, 1, 1, 1, 1, 1, 1, 1] _ _).trans (by kernel_rfl)
theorem law02_MachMinimal.L2_eq (x0 : FV) (x1 : FV) (x2 : FV) (x3 : FV) (x4 : FV) (x5 : FV) (x6 : FV) (x7 : FV) (x8 : FV) (x9 : FV) (x10 : FV) (x11 : FV) (x12 : FV) (x13 : FV) (x14 : FV) (x15 : FV) (x16 : FV) (x17 : FV) (x18 : FV) (x19 : FV) (x20 : FV) (x21 : FV) : law02_MachMinimal.L2 x0 x1 x2 x3 x4 x5 x6 x7 x8 x9 x10 x11 x12 x13 x14 x15 x16 x17 x18 x19 x20 x21 = (
  bindO (fBin .lss x0 (.int .i64 0)) fun v23 =>
  fCond v23
  (some (.bool true))
  (bindO (fBin .lss x1 (.int .i64 0)) fun v24 =>
  fCond v24
  (some (.bool true))
  (bindO (fLen x17) fun v25 =>
  bindO (fBin .geq x0 v25) fun v26 =>
  fCond v26
  (some (.bool true))
  (bindO (fLen x17) fun v27 =>
  bindO (fBin .geq x1 v27) fun v28 =>
  fCond v28
  (some (.bool true))
  (bindO (fBin .eql x0 x1) fun v29 =>
  fCond v29
  (some (.bool true))
  (law02_MachMinimal.L3 x0 x1 x2 x3 x4 x5 x6 x7 x8 x9 x10 x11 x12 x13 x14 x15 x16 x17 x18 x19 x20 x21)))))) := (jden_eq E 9 [] [1, 1, 1, 1, 1, 1, 1, 1, 1, 1] _ _).trans (by kernel_rfl)
theorem law02_MachMinimal.L3_eq (x0 : FV) (x1 : FV) (x2 : FV) (x3 : FV) (x4 : FV) (x5 : FV) (x6 : FV) (x7 : FV) (x8 : FV) (x9 : FV) (x10 : FV) (x11 : FV) (x12 : FV) (x13 : FV) (x14 : FV) (x15 : FV) (x16 : FV) (x17 : FV) (x18 : FV) (x19 : FV) (x20 : FV) (x21 : FV) : law02_MachMinimal.L3 x0 x1 x2 x3 x4 x5 x6 x7 x8 x9 x10 x11 x12 x13 x14 x15 x16 x17 x18 x19 x20 x21 = (
  bindO (mach_Differ (.agg [x16, x17, x0, x19, x20, x21]) (.agg [x16, x17, x1, x19, x20, x21])) fun v23 =>
  gB (fIsTup 3 v23) <|
  fCond (fTup v23 1)
  (bindO (fBin .eql (fTup v23 2) (.int .i64 0)) fun v24 =>
  some v24)
  (some (.bool false))) := (jden_eq E 9 [] [1, 1, 1, 1, 1, 1, 1, 1, 1, 1, 1] _ _).trans (by kernel_rfl)
/-! ### ramet/rametref02.digits (function 95) -/
theorem ref02_digits.eq (x0 : FV) : ref02_digits x0 = (
  bindO (fBin .lss x0 (.int .i64 10)) fun v1 =>
  fCond v1
  (bindO (fBin .add (.int .i64 48) x0) fun v2 =>
  bindO (fConvInt .u8 v2) fun v3 =>
  bindO (bytes? [[v3]]) fun v4 =>
  some (.str v4))
  (bindO (fBin .quo x0 (.int .i64 10)) fun v5 =>
  bindO (ref02_digits v5) fun v6 =>
  bindO (fBin .rem x0 (.int .i64 10)) fun v7 =>
  bindO (fBin .add (.int .i64 48) v7) fun v8 =>
  bindO (fConvInt .u8 v8) fun v9 =>
  bindO (bytes? [[v9]]) fun v10 =>
  bindO (fBin .add v6 (.str v10)) fun v11 =>
  some v11)) := (den_eq E 95 [x0]).trans (by kernel_rfl)
/-! ### ramet/rametref02.sameBands (function 96) -/
theorem ref02_sameBands.eq (x0 x1 : FV) : ref02_sameBands x0 x1 = (
  gB (fIsAgg 5 x0) <|
  gB (fIsAgg 5 x1) <|
  bindO (ref02_sameInts (fCell x0 0) (fCell x1 0)) fun v1 =>
  fCond v1
  (bindO (fBin .eql (fCell x0 1) (fCell x1 1)) fun v2 =>
  fCond v2
  (bindO (fBin .eql (fCell x0 2) (fCell x1 2)) fun v3 =>
  fCond v3
  (bindO (fBoolBin .eql (fCell x0 3) (fCell x1 3)) fun v4 =>
  some v4)
  (some (.bool false)))
  (some (.bool false)))
  (some (.bool false))) := (den_eq E 96 [x0, x1]).trans (by kernel_rfl)
/-! ### ramet/rametref02.Confined (function 31) -/
noncomputable def ref02_Confined.L0 (x0 : FV) (x1 : FV) (x2 : FV) (x3 : FV) (x4 : FV) (x5 : FV) (x6 : FV) (x7 : FV) (x8 : FV) (x9 : FV) (x10 : FV) (x11 : FV) (x12 : FV) (x13 : FV) (x14 : FV) (x15 : FV) (x16 : FV) (x17 : FV) (x18 : FV) (x19 : FV) (x20 : FV) (r21 : List (List FV)) (r22 : List (List FV)) (r23 : List (List FV)) (r24 : List (List FV)) (r25 : List (List FV)) (r26 : List (List FV)) (r27 : List (List FV)) (r28 : List (List FV)) : R := jden E 31 [] [4, 1, 0, 1, 1, 1, 1, 1] (mkF 125 [(2, .ptr 0 0 0), (4, .ptr 2 0 0), (6, .ptr 3 0 0), (8, .ptr 4 0 0), (9, .f x0)]) [.box [.f x1, .f x2, .f x3, .f x4, .f x5, .f x6], .box [.f x7, .f x8, .f x9, .f x10, .f x11], .box [.f x12, .ref 5, .f x13, .ref 6, .ref 7, .ref 8], .box [.f x14, .f x15, .f x16, .f x17, .f x18], .box [.f x19, .ref 9, .f x20, .ref 10, .ref 11, .ref 12], .own 1 r21, .own 1 r22, .own 1 r23, .own 1 r24, .own 1 r25, .own 1 r26, .own 2 r27, .own 2 r28]
noncomputable def ref02_Confined.L1 (x0 : FV) (x1 : FV) (x2 : FV) (x3 : FV) (x4 : FV) (x5 : FV) (x6 : FV) (x7 : FV) (x8 : FV) (x9 : FV) (x10 : FV) (x11 : FV) (x12 : FV) (x13 : FV) (x14 : FV) (x15 : FV) (x16 : FV) (x17 : FV) (x18 : FV) (x19 : FV) (x20 : FV) (r21 : List (List FV)) (r22 : List (List FV)) (r23 : List (List FV)) (r24 : List (List FV)) (r25 : List (List FV)) (r26 : List (List FV)) (r27 : List (List FV)) (r28 : List (List FV)) (r29 : List (List FV)) : R := jden E 31 [] [4, 1, 0, 1, 1, 1, 1, 1, 1, 1, 1] (mkF 125 [(2, .ptr 0 0 0), (4, .ptr 2 0 0), (8, .ptr 4 0 0), (10, .ref 14), (11, .f x0)]) [.box [.f x1, .f x2, .f x3, .f x4, .f x5, .f x6], .box [.f x7, .f x8, .f x9, .f x10, .f x11], .box [.f x12, .ref 5, .f x13, .ref 6, .ref 7, .ref 8], .box [.f x14, .f x15, .f x16, .f x17, .f x18], .box [.f x19, .ref 15, .f x20, .ref 10, .ref 11, .ref 16], .own 1 r21, .own 1 r22, .own 1 r23, .own 1 r24, .dead, .own 1 r25, .own 2 r26, .dead, .dead, .own 5 r27, .own 1 r28, .own 2 r29]
noncomputable def ref02_Confined.L2 (x0 : FV) (x1 : FV) (x2 : FV) (x3 : FV) (x4 : FV) (x5 : FV) (x6 : FV) (x7 : FV) (x8 : FV) (x9 : FV) (x10 : FV) (x11 : FV) (x12 : FV) (x13 : FV) (x14 : FV) (x15 : FV) (x16 : FV) (x17 : FV) (x18 : FV) (x19 : FV) (x20 : FV) (x21 : FV) (x22 : FV) (r23 : List (List FV)) (r24 : List (List FV)) (r25 : List (List FV)) (r26 : List (List FV)) (r27 : List (List FV)) (r28 : List (List FV)) (r29 : List (List FV)) (r30 : List (List FV)) (r31 : List (List FV)) (x32 : FV) (x33 : FV) (x34 : FV) (x35 : FV) (x36 : FV) : R := jden E 31 [] [4, 1, 0, 1, 1, 1, 1, 4, 0, 1, 5, 4, 1, 0, 1, 1, 1, 1, 1, 1, 1, 1] (mkF 125 [(2, .ptr 0 0 0), (4, .ptr 2 0 0), (8, .ptr 4 0 0), (10, .ref 14), (11, .f x0), (12, .ptr 17 0 0), (14, .f x1), (15, .f x2)]) [.box [.f x3, .f x4, .f x5, .f x6, .f x7, .f x8], .box [.f x9, .f x10, .f x11, .f x12, .f x13], .box [.f x14, .ref 5, .f x15, .ref 6, .ref 7, .ref 8], .box [.f x16, .f x17, .f x18, .f x19, .f x20], .box [.f x21, .ref 15, .f x22, .ref 10, .ref 11, .ref 16], .own 1 r23, .own 1 r24, .own 1 r25, .own 1 r26, .dead, .own 1 r27, .own 2 r28, .dead, .dead, .own 5 r29, .own 1 r30, .own 2 r31, .box [.f x32, .f x33, .f x34, .f x35, .f x36]]
noncomputable def ref02_Confined.L3 (x0 : FV) (x1 : FV) (x2 : FV) (x3 : FV) (x4 : FV) (x5 : FV) (x6 : FV) (x7 : FV) (x8 : FV) (x9 : FV) (x10 : FV) (x11 : FV) (x12 : FV) (x13 : FV) (x14 : FV) (x15 : FV) (x16 : FV) (x17 : FV) (x18 : FV) (x19 : FV) (x20 : FV) (x21 : FV) (x22 : FV) (r23 : List (List FV)) (r24 : List (List FV)) (r25 : List (List FV)) (r26 : List (List FV)) (r27 : List (List FV)) (r28 : List (List FV)) (r29 : List (List FV)) (r30 : List (List FV)) (r31 : List (List FV)) (x32 : FV) (x33 : FV) (x34 : FV) (x35 : FV) (x36 : FV) : R := jden E 31 [] [5, 4, 1, 0, 1, 1, 1, 1, 4, 0, 1, 5, 4, 1, 0, 1, 1, 1, 1, 1, 1, 1, 1] (mkF 125 [(2, .ptr 0 0 0), (4, .ptr 2 0 0), (8, .ptr 4 0 0), (10, .ref 14), (11, .f x0), (12, .ptr 17 0 0), (14, .f x1), (15, .f x2)]) [.box [.f x3, .f x4, .f x5, .f x6, .f x7, .f x8], .box [.f x9, .f x10, .f x11, .f x12, .f x13], .box [.f x14, .ref 5, .f x15, .ref 6, .ref 7, .ref 8], .box [.f x16, .f x17, .f x18, .f x19, .f x20], .box [.f x21, .ref 15, .f x22, .ref 10, .ref 11, .ref 16], .own 1 r23, .own 1 r24, .own 1 r25, .own 1 r26, .dead, .own 1 r27, .own 2 r28, .dead, .dead, .own 5 r29, .own 1 r30, .own 2 r31, .box [.f x32, .f x33, .f x34, .f x35, .f x36]]
noncomputable def ref02_Confined.L4 (x0 : FV) (x1 : FV) (x2 : FV) (x3 : FV) (x4 : FV) (x5 : FV) (x6 : FV) (x7 : FV) (x8 : FV) (x9 : FV) (x10 : FV) (x11 : FV) (x12 : FV) (x13 : FV) (x14 : FV) (x15 : FV) (x16 : FV) (x17 : FV) (x18 : FV) (x19 : FV) (x20 : FV) (x21 : FV) (x22 : FV) (r23 : List (List FV)) (r24 : List (List FV)) (r25 : List (List FV)) (r26 : List (List FV)) (r27 : List (List FV)) (r28 : List (List FV)) (r29 : List (List FV)) (r30 : List (List FV)) (r31 : List (List FV)) : R := jden E 31 [] [1, 1, 1, 1, 1, 4, 0, 1, 5, 4, 1, 0, 1, 1, 1, 1, 1, 1, 1, 1] (mkF 125 [(2, .ptr 0 0 0), (4, .ptr 2 0 0), (8, .ptr 4 0 0), (10, .ref 15), (11, .f x0), (12, .f x1), (14, .f x2)]) [.box [.f x3, .f x4, .f x5, .f x6, .f x7, .f x8], .box [.f x9, .f x10, .f x11, .f x12, .f x13], .box [.f x14, .ref 5, .f x15, .ref 6, .ref 7, .ref 8], .box [.f x16, .f x17, .f x18, .f x19, .f x20], .box [.f x21, .ref 16, .f x22, .ref 10, .ref 11, .ref 17], .own 1 r23, .own 1 r24, .own 1 r25, .own 1 r26, .dead, .own 1 r27, .own 2 r28, .dead, .dead, .dead, .own 5 r29, .own 1 r30, .own 2 r31]
theorem ref02_Confined.eq (x0 x1 : FV) : ref02_Confined x0 x1 = (
  gB (fIsAgg 6 x0) <|
  gB (fIsAgg 5 x1) <|
  bindO (ref02_RunBand (.agg [(fCell x0 0), (fCell x0 1), (fCell x0 2), (fCell x0 3), (fCell x0 4), (fCell x0 5)]) (.agg [(fCell x1 0), (fCell x1 1), (fCell x1 2), (fCell x1 3), (fCell x1 4)]) (.int .i64 0)) fun v1 =>
  gB (fIsTup 2 v1) <|
  gB (fIsAgg 5 (fTup v1 0)) <|
  bindO (fBin .neq (fTup v1 1) (.int .i64 0)) fun v2 =>
  fCond v2
  (some (.tup [.agg [.str [], .nilS, .int .i64 0, .nilS, .nilS, .nilS], (fTup v1 1)]))
  (bindO (fLen (fCell x1 0)) fun v3 =>
  bindO (fBin .gtr v3 (.int .i64 8)) fun v4 =>
  fCond v4
  (some (.tup [.agg [.str [], .nilS, .int .i64 0, .nilS, .nilS, .nilS], .int .i64 26]))
  (ref02_Confined.L0 (.int .i64 0) (fCell x0 0) (fCell x0 1) (fCell x0 2) (fCell x0 3) (fCell x0 4) (fCell x0 5) (fCell x1 0) (fCell x1 1) (fCell x1 2) (fCell x1 3) (fCell x1 4) (.str []) (.int .i64 0) (fCell (fTup v1 0) 0) (fCell (fTup v1 0) 1) (fCell (fTup v1 0) 2) (fCell (fTup v1 0) 3) (fCell (fTup v1 0) 4) (fCell x0 0) (.int .i64 0) [] [] [] [] [] [] [] []))) := (den_eq E 31 [x0, x1]).trans (by kernel_rfl)
theorem ref02_Confined.L0_eq (x0 : FV) (x1 : FV) (x2 : FV) (x3 : FV) (x4 : FV) (x5 : FV) (x6 : FV) (x7 : FV) (x8 : FV) (x9 : FV) (x10 : FV) (x11 : FV) (x12 : FV) (x13 : FV) (x14 : FV) (x15 : FV) (x16 : FV) (x17 : FV) (x18 : FV) (x19 : FV) (x20 : FV) (r21 : List (List FV)) (r22 : List (List FV)) (r23 : List (List FV)) (r24 : List (List FV)) (r25 : List (List FV)) (r26 : List (List FV)) (r27 : List (List FV)) (r28 : List (List FV)) : ref02_Confined.L0 x0 x1 x2 x3 x4 x5 x6 x7 x8 x9 x10 x11 x12 x13 x14 x15 x16 x17 x18 x19 x20 r21 r22 r23 r24 r25 r26 r27 r28 = (
  bindO (fLen x14) fun v30 =>
  bindO (fBin .lss x0 v30) fun v31 =>
  fCond v31
  (bindO (ref02_digits x0) fun v32 =>
  bindO (fBin .add (.str [115]) v32) fun v33 =>
  bindO (fIdxC 2 x4 (.int .i64 0)) fun c34 =>
  bindO (c34[1]?) fun v35 =>
  bindO (asRows v35) fun r36 =>
  gB (rowsSz 1 r36) <|
  gB (decide ((0 + r36.length) * 16 ≤ room)) <|
  gB (decide ((r27.length + 1) * 40 ≤ room)) <|
  bindO (fBin .add x0 (.int .i64 1)) fun v37 =>
  ref02_Confined.L0 v37 x1 x2 x3 x4 x5 x6 x7 x8 x9 x10 x11 x12 x13 x14 x15 x16 x17 x18 x19 x20 r21 r22 r23 r24 r25 r26 (r27 ++ [[v33, .arr ([] ++ r36)]]) r28)
  (ref02_Confined.L1 (.int .i64 0) x1 x2 x3 x4 x5 x6 x7 x8 x9 x10 x11 x12 x13 x14 x15 x16 x17 (.int .i64 0) x19 x20 r21 r22 r23 r24 r26 r27 [[x14, x15, x16, x17, .int .i64 0]] r25 r28)) := (jden_eq E 31 [] [4, 1, 0, 1, 1, 1, 1, 1] _ _).trans (by kernel_rfl)
theorem ref02_Confined.L1_eq (x0 : FV) (x1 : FV) (x2 : FV) (x3 : FV) (x4 : FV) (x5 : FV) (x6 : FV) (x7 : FV) (x8 : FV) (x9 : FV) (x10 : FV) (x11 : FV) (x12 : FV) (x13 : FV) (x14 : FV) (x15 : FV) (x16 : FV) (x17 : FV) (x18 : FV) (x19 : FV) (x20 : FV) (r21 : List (List FV)) (r22 : List (List FV)) (r23 : List (List FV)) (r24 : List (List FV)) (r25 : List (List FV)) (r26 : List (List FV)) (r27 : List (List FV)) (r28 : List (List FV)) (r29 : List (List FV)) : ref02_Confined.L1 x0 x1 x2 x3 x4 x5 x6 x7 x8 x9 x10 x11 x12 x13 x14 x15 x16 x17 x18 x19 x20 r21 r22 r23 r24 r25 r26 r27 r28 r29 = (
  bindO (fBin .lss x0 (.int .i64 ((r27.length : Nat) : Int))) fun v31 =>
  fCond v31
  (bindO (fBin .gtr (.int .i64 ((r27.length : Nat) : Int)) (.int .i64 256)) fun v32 =>
  fCond v32
  (some (.tup [.agg [.str [], .nilS, .int .i64 0, .nilS, .nilS, .nilS], .int .i64 26]))
  (bindO (rIdx r27 x0) fun j33 =>
  bindO (rGet r27 j33 0) fun v34 =>
  bindO (rGet r27 j33 1) fun v35 =>
  bindO (rGet r27 j33 2) fun v36 =>
  bindO (rGet r27 j33 3) fun v37 =>
  bindO (rGet r27 j33 4) fun v38 =>
  bindO (ref02_RunBand (.agg [x1, x2, x3, x4, x5, x6]) (.agg [v34, v35, v36, v37, v38]) (.int .i64 1)) fun v39 =>
  gB (fIsTup 2 v39) <|
  gB (fIsAgg 5 (fTup v39 0)) <|
  ref02_Confined.L2 x0 (.int .i64 (-1)) (.int .i64 0) x1 x2 x3 x4 x5 x6 x7 x8 x9 x10 x11 x12 x13 x14 x15 x16 x17 x18 x19 x20 r21 r22 r23 r24 r25 r26 r27 r28 r29 (fCell (fTup v39 0) 0) (fCell (fTup v39 0) 1) (fCell (fTup v39 0) 2) (fCell (fTup v39 0) 3) (.int .i64 0)))
  (some (.tup [.agg [x19, .arr r28, x20, .arr r25, .arr r26, .arr r29], .int .i64 0]))) := (jden_eq E 31 [] [4, 1, 0, 1, 1, 1, 1, 1, 1, 1, 1] _ _).trans (by kernel_rfl)
theorem ref02_Confined.L2_eq (x0 : FV) (x1 : FV) (x2 : FV) (x3 : FV) (x4 : FV) (x5 : FV) (x6 : FV) (x7 : FV) (x8 : FV) (x9 : FV) (x10 : FV) (x11 : FV) (x12 : FV) (x13 : FV) (x14 : FV) (x15 : FV) (x16 : FV) (x17 : FV) (x18 : FV) (x19 : FV) (x20 : FV) (x21 : FV) (x22 : FV) (r23 : List (List FV)) (r24 : List (List FV)) (r25 : List (List FV)) (r26 : List (List FV)) (r27 : List (List FV)) (r28 : List (List FV)) (r29 : List (List FV)) (r30 : List (List FV)) (r31 : List (List FV)) (x32 : FV) (x33 : FV) (x34 : FV) (x35 : FV) (x36 : FV) : ref02_Confined.L2 x0 x1 x2 x3 x4 x5 x6 x7 x8 x9 x10 x11 x12 x13 x14 x15 x16 x17 x18 x19 x20 x21 x22 r23 r24 r25 r26 r27 r28 r29 r30 r31 x32 x33 x34 x35 x36 = (
  bindO (fBin .lss x2 (.int .i64 ((r29.length : Nat) : Int))) fun v38 =>
  fCond v38
  (bindO (fBin .lss x1 (.int .i64 0)) fun v39 =>
  fCond v39
  (ref02_Confined.L3 x0 x1 x2 x3 x4 x5 x6 x7 x8 x9 x10 x11 x12 x13 x14 x15 x16 x17 x18 x19 x20 x21 x22 r23 r24 r25 r26 r27 r28 r29 r30 r31 x32 x33 x34 x35 x36)
  (bindO (fBin .lss x1 (.int .i64 0)) fun v40 =>
  fCond v40
  (gB (decide ((r29.length + 1) * 56 ≤ room)) <|
  ref02_Confined.L4 x0 (.eptr [x32, x33, x34, x35, x36] 0) (.int .i64 ((r29.length : Nat) : Int)) x3 x4 x5 x6 x7 x8 x9 x10 x11 x12 x13 x14 x15 x16 x17 x18 x19 x20 x21 x22 r23 r24 r25 r26 r27 r28 (r29 ++ [[x32, x33, x34, x35, x36]]) r30 r31)
  (ref02_Confined.L4 x0 (.eptr [x32, x33, x34, x35, x36] 0) x1 x3 x4 x5 x6 x7 x8 x9 x10 x11 x12 x13 x14 x15 x16 x17 x18 x19 x20 x21 x22 r23 r24 r25 r26 r27 r28 r29 r30 r31)))
  (bindO (fBin .lss x1 (.int .i64 0)) fun v41 =>
  fCond v41
  (gB (decide ((r29.length + 1) * 56 ≤ room)) <|
  ref02_Confined.L4 x0 (.eptr [x32, x33, x34, x35, x36] 0) (.int .i64 ((r29.length : Nat) : Int)) x3 x4 x5 x6 x7 x8 x9 x10 x11 x12 x13 x14 x15 x16 x17 x18 x19 x20 x21 x22 r23 r24 r25 r26 r27 r28 (r29 ++ [[x32, x33, x34, x35, x36]]) r30 r31)
  (ref02_Confined.L4 x0 (.eptr [x32, x33, x34, x35, x36] 0) x1 x3 x4 x5 x6 x7 x8 x9 x10 x11 x12 x13 x14 x15 x16 x17 x18 x19 x20 x21 x22 r23 r24 r25 r26 r27 r28 r29 r30 r31))) := (jden_eq E 31 [] [4, 1, 0, 1, 1, 1, 1, 4, 0, 1, 5, 4, 1, 0, 1, 1, 1, 1, 1, 1, 1, 1] _ _).trans (by kernel_rfl)
theorem ref02_Confined.L3_eq (x0 : FV) (x1 : FV) (x2 : FV) (x3 : FV) (x4 : FV) (x5 : FV) (x6 : FV) (x7 : FV) (x8 : FV) (x9 : FV) (x10 : FV) (x11 : FV) (x12 : FV) (x13 : FV) (x14 : FV) (x15 : FV) (x16 : FV) (x17 : FV) (x18 : FV) (x19 : FV) (x20 : FV) (x21 : FV) (x22 : FV) (r23 : List (List FV)) (r24 : List (List FV)) (r25 : List (List FV)) (r26 : List (List FV)) (r27 : List (List FV)) (r28 : List (List FV)) (r29 : List (List FV)) (r30 : List (List FV)) (r31 : List (List FV)) (x32 : FV) (x33 : FV) (x34 : FV) (x35 : FV) (x36 : FV) : ref02_Confined.L3 x0 x1 x2 x3 x4 x5 x6 x7 x8 x9 x10 x11 x12 x13 x14 x15 x16 x17 x18 x19 x20 x21 x22 r23 r24 r25 r26 r27 r28 r29 r30 r31 x32 x33 x34 x35 x36 = (
  bindO (rIdx r29 x2) fun j38 =>
  bindO (rGet r29 j38 0) fun v39 =>
  bindO (rGet r29 j38 1) fun v40 =>
  bindO (rGet r29 j38 2) fun v41 =>
  bindO (rGet r29 j38 3) fun v42 =>
  bindO (rGet r29 j38 4) fun v43 =>
  bindO (ref02_sameBands (.agg [v39, v40, v41, v42, v43]) (.agg [x32, x33, x34, x35, x36])) fun v44 =>
  fCond v44
  (bindO (fBin .add x2 (.int .i64 1)) fun v45 =>
  ref02_Confined.L2 x0 x2 v45 x3 x4 x5 x6 x7 x8 x9 x10 x11 x12 x13 x14 x15 x16 x17 x18 x19 x20 x21 x22 r23 r24 r25 r26 r27 r28 r29 r30 r31 x32 x33 x34 x35 x36)
  (bindO (fBin .add x2 (.int .i64 1)) fun v46 =>
  ref02_Confined.L2 x0 x1 v46 x3 x4 x5 x6 x7 x8 x9 x10 x11 x12 x13 x14 x15 x16 x17 x18 x19 x20 x21 x22 r23 r24 r25 r26 r27 r28 r29 r30 r31 x32 x33 x34 x35 x36)) := (jden_eq E 31 [] [5, 4, 1, 0, 1, 1, 1, 1, 4, 0, 1, 5, 4, 1, 0, 1, 1, 1, 1, 1, 1, 1, 1] _ _).trans (by kernel_rfl)
theorem ref02_Confined.L4_eq (x0 : FV) (x1 : FV) (x2 : FV) (x3 : FV) (x4 : FV) (x5 : FV) (x6 : FV) (x7 : FV) (x8 : FV) (x9 : FV) (x10 : FV) (x11 : FV) (x12 : FV) (x13 : FV) (x14 : FV) (x15 : FV) (x16 : FV) (x17 : FV) (x18 : FV) (x19 : FV) (x20 : FV) (x21 : FV) (x22 : FV) (r23 : List (List FV)) (r24 : List (List FV)) (r25 : List (List FV)) (r26 : List (List FV)) (r27 : List (List FV)) (r28 : List (List FV)) (r29 : List (List FV)) (r30 : List (List FV)) (r31 : List (List FV)) : ref02_Confined.L4 x0 x1 x2 x3 x4 x5 x6 x7 x8 x9 x10 x11 x12 x13 x14 x15 x16 x17 x18 x19 x20 x21 x22 r23 r24 r25 r26 r27 r28 r29 r30 r31 = (
  bindO (ref02_digits x0) fun v33 =>
  bindO (fBin .add (.str [113]) v33) fun v34 =>
  gB (decide ((r30.length + 1) * 16 ≤ room)) <|
  bindO (fAddrO x1 0) fun p35 =>
  bindO (fLd p35 0) fun v36 =>
  bindO (asRows v36) fun r37 =>
  gB (rowsSz 1 r37) <|
  gB (decide ((0 + r37.length) * 8 ≤ room)) <|
  gB (decide ((r31.length + 1) * 32 ≤ room)) <|
  bindO (fBin .add x0 (.int .i64 1)) fun v38 =>
  ref02_Confined.L1 v38 x3 x4 x5 x6 x7 x8 x9 x10 x11 x12 x13 x14 x15 x16 x17 x18 x19 x20 x21 x22 r23 r24 r25 r26 r27 r28 r29 (r30 ++ [[v34]]) (r31 ++ [[x2, .arr ([] ++ r37)]])) := (jden_eq E 31 [] [1, 1, 1, 1, 1, 4, 0, 1, 5, 4, 1, 0, 1, 1, 1, 1, 1, 1, 1, 1] _ _).trans (by kernel_rfl)
/-! ### ramet/mach.decimal (function 97) -/
noncomputable def mach_decimal.L0 (x0 : FV) (x1 : FV) : R := jden E 97 [] [4, 1, 1] (mkF 16 [(0, .f x0), (3, .f x1)]) []
theorem mach_decimal.eq (x0 : FV) : mach_decimal x0 = (
  mach_decimal.L0 x0 (.str [])) := (den_eq E 97 [x0]).trans (by kernel_rfl)
theorem mach_decimal.L0_eq (x0 : FV) (x1 : FV) : mach_decimal.L0 x0 x1 = (
  bindO (fBin .rem x0 (.int .i64 10)) fun v3 =>
  bindO (fBin .add (.int .i64 48) v3) fun v4 =>
  bindO (fConvInt .i32 v4) fun v5 =>
  bindO (fToStrI v5) fun v6 =>
  bindO (fBin .add v6 x1) fun v7 =>
  bindO (fBin .quo x0 (.int .i64 10)) fun v8 =>
  bindO (fBin .eql v8 (.int .i64 0)) fun v9 =>
  fCond v9
  (some v7)
  (mach_decimal.L0 v8 v7)) := (jden_eq E 97 [] [4, 1, 1] _ _).trans (by kernel_rfl)
/-! ### ramet/mach.Confined (function 32) -/
noncomputable def mach_Confined.L0 (x0 : FV) (x1 : FV) (x2 : FV) (x3 : FV) (x4 : FV) (x5 : FV) (x6 : FV) (x7 : FV) (x8 : FV) (x9 : FV) (x10 : FV) (x11 : FV) (x12 : FV) (x13 : FV) (x14 : FV) (x15 : FV) (x16 : FV) (x17 : FV) (x18 : FV) (x19 : FV) (x20 : FV) (x21 : FV) (r22 : List (List FV)) (r23 : List (List FV)) (r24 : List (List FV)) (r25 : List (List FV)) (r26 : List (List FV)) (r27 : List (List FV)) (r28 : List (List FV)) (r29 : List (List FV)) : R := jden E 32 [] [4, 1, 0, 1, 1, 1, 1, 1] (mkF 138 [(2, .ptr 0 0 0), (4, .ptr 2 0 0), (6, .ptr 3 0 0), (8, .ptr 4 0 0), (37, .f x0), (38, .f x1)]) [.box [.f x2, .f x3, .f x4, .f x5, .f x6, .f x7], .box [.f x8, .f x9, .f x10, .f x11, .f x12], .box [.f x13, .ref 5, .f x14, .ref 6, .ref 7, .ref 8], .box [.f x15, .f x16, .f x17, .f x18, .f x19], .box [.f x20, .ref 9, .f x21, .ref 10, .ref 11, .ref 12], .own 1 r22, .own 1 r23, .own 1 r24, .own 1 r25, .own 1 r26, .own 1 r27, .own 2 r28, .own 2 r29]
noncomputable def mach_Confined.L1 (x0 : FV) (x1 : FV) (x2 : FV) (x3 : FV) (x4 : FV) (x5 : FV) (x6 : FV) (x7 : FV) (x8 : FV) (x9 : FV) (x10 : FV) (x11 : FV) (x12 : FV) (x13 : FV) (x14 : FV) (x15 : FV) (x16 : FV) (x17 : FV) (x18 : FV) (x19 : FV) (r20 : List (List FV)) (r21 : List (List FV)) (r22 : List (List FV)) (r23 : List (List FV)) (r24 : List (List FV)) (r25 : List (List FV)) (es26 : List (FV × FV)) (r27 : List (List FV)) (r28 : List (List FV)) : R := jden E 32 [] [4, 1, 1, 1, 1, 1, 1, 1] (mkF 138 [(2, .ptr 0 0 0), (4, .ptr 2 0 0), (6, .ptr 3 0 0), (8, .ptr 4 0 0), (10, .mp 13)]) [.box [.f x0, .f x1, .f x2, .f x3, .f x4, .f x5], .box [.f x6, .f x7, .f x8, .f x9, .f x10], .box [.f x11, .ref 5, .f x12, .ref 6, .ref 7, .ref 8], .box [.f x13, .f x14, .f x15, .f x16, .f x17], .box [.f x18, .ref 14, .f x19, .ref 10, .ref 11, .ref 15], .own 1 r20, .own 1 r21, .own 1 r22, .own 1 r23, .dead, .own 1 r24, .own 2 r25, .dead, .map false es26, .own 1 r27, .own 2 r28]
noncomputable def mach_Confined.L2 (x0 : FV) (x1 : FV) (x2 : FV) (x3 : FV) (x4 : FV) (x5 : FV) (x6 : FV) (x7 : FV) (x8 : FV) (x9 : FV) (x10 : FV) (x11 : FV) (x12 : FV) (x13 : FV) (x14 : FV) (x15 : FV) (x16 : FV) (x17 : FV) (x18 : FV) (x19 : FV) (x20 : FV) (r21 : List (List FV)) (r22 : List (List FV)) (r23 : List (List FV)) (r24 : List (List FV)) (r25 : List (List FV)) (r26 : List (List FV)) (es27 : List (FV × FV)) (r28 : List (List FV)) (r29 : List (List FV)) : R := jden E 32 [] [1, 4, 5, 4, 1, 1, 1, 1, 1, 1, 1] (mkF 138 [(2, .ptr 0 0 0), (4, .ptr 2 0 0), (6, .ptr 3 0 0), (8, .ptr 4 0 0), (10, .mp 13), (11, .f x0)]) [.box [.f x1, .f x2, .f x3, .f x4, .f x5, .f x6], .box [.f x7, .f x8, .f x9, .f x10, .f x11], .box [.f x12, .ref 5, .f x13, .ref 6, .ref 7, .ref 8], .box [.f x14, .f x15, .f x16, .f x17, .f x18], .box [.f x19, .ref 14, .f x20, .ref 10, .ref 11, .ref 15], .own 1 r21, .own 1 r22, .own 1 r23, .own 1 r24, .dead, .own 1 r25, .own 2 r26, .dead, .map false es27, .own 1 r28, .own 2 r29]
noncomputable def mach_Confined.L3 (x0 : FV) (x1 : FV) (x2 : FV) (x3 : FV) (x4 : FV) (x5 : FV) (x6 : FV) (x7 : FV) (x8 : FV) (x9 : FV) (x10 : FV) (x11 : FV) (x12 : FV) (x13 : FV) (x14 : FV) (x15 : FV) (x16 : FV) (x17 : FV) (x18 : FV) (x19 : FV) (x20 : FV) (x21 : FV) (x22 : FV) (r23 : List (List FV)) (r24 : List (List FV)) (r25 : List (List FV)) (r26 : List (List FV)) (r27 : List (List FV)) (r28 : List (List FV)) (es29 : List (FV × FV)) (r30 : List (List FV)) (r31 : List (List FV)) (r32 : List (List FV)) : R := jden E 32 [] [4, 1, 0, 1, 1, 1, 4, 5, 4, 1, 1, 1, 1, 1, 1, 1] (mkF 138 [(2, .ptr 0 0 0), (4, .ptr 2 0 0), (6, .ptr 3 0 0), (8, .ptr 4 0 0), (10, .mp 13), (12, .ref 17), (70, .f x0), (71, .f x1), (72, .f x2)]) [.box [.f x3, .f x4, .f x5, .f x6, .f x7, .f x8], .box [.f x9, .f x10, .f x11, .f x12, .f x13], .box [.f x14, .ref 5, .f x15, .ref 6, .ref 7, .ref 8], .box [.f x16, .f x17, .f x18, .f x19, .f x20], .box [.f x21, .ref 14, .f x22, .ref 10, .ref 11, .ref 15], .own 1 r23, .own 1 r24, .own 1 r25, .own 1 r26, .dead, .own 1 r27, .own 2 r28, .dead, .map false es29, .own 1 r30, .own 2 r31, .dead, .own 1 r32]
noncomputable def mach_Confined.L5 (x0 : FV) (x1 : FV) (x2 : FV) (x3 : FV) (x4 : FV) (x5 : FV) (x6 : FV) (x7 : FV) (x8 : FV) (x9 : FV) (x10 : FV) (x11 : FV) (x12 : FV) (x13 : FV) (x14 : FV) (x15 : FV) (x16 : FV) (x17 : FV) (x18 : FV) (x19 : FV) (x20 : FV) (x21 : FV) (r22 : List (List FV)) (r23 : List (List FV)) (r24 : List (List FV)) (r25 : List (List FV)) (r26 : List (List FV)) (r27 : List (List FV)) (es28 : List (FV × FV)) (r29 : List (List FV)) (r30 : List (List FV)) (r31 : List (List FV)) : R := jden E 32 [] [2, 1, 0, 1, 1, 1, 1, 1, 4, 5, 4, 1, 1, 1, 1, 1, 1, 1] (mkF 138 [(2, .ptr 0 0 0), (4, .ptr 2 0 0), (6, .ptr 3 0 0), (8, .ptr 4 0 0), (10, .mp 13), (12, .ref 17), (15, .f x0), (16, .f x1)]) [.box [.f x2, .f x3, .f x4, .f x5, .f x6, .f x7], .box [.f x8, .f x9, .f x10, .f x11, .f x12], .box [.f x13, .ref 5, .f x14, .ref 6, .ref 7, .ref 8], .box [.f x15, .f x16, .f x17, .f x18, .f x19], .box [.f x20, .ref 14, .f x21, .ref 10, .ref 11, .ref 15], .own 1 r22, .own 1 r23, .own 1 r24, .own 1 r25, .dead, .own 1 r26, .own 2 r27, .dead, .map false es28, .own 1 r29, .own 2 r30, .dead, .own 1 r31]
noncomputable def mach_Confined.L4 (x0 : FV) (x1 : FV) (x2 : FV) (x3 : FV) (x4 : FV) (x5 : FV) (x6 : FV) (x7 : FV) (x8 : FV) (x9 : FV) (x10 : FV) (x11 : FV) (x12 : FV) (x13 : FV) (x14 : FV) (x15 : FV) (x16 : FV) (x17 : FV) (x18 : FV) (x19 : FV) (x20 : FV) (r21 : List (List FV)) (r22 : List (List FV)) (r23 : List (List FV)) (r24 : List (List FV)) (r25 : List (List FV)) (r26 : List (List FV)) (es27 : List (FV × FV)) (r28 : List (List FV)) (r29 : List (List FV)) (r30 : List (List FV)) : R := jden E 32 [] [1, 1, 1, 1, 1, 4, 5, 4, 1, 1, 1, 1, 1, 1, 1] (mkF 138 [(2, .ptr 0 0 0), (4, .ptr 2 0 0), (6, .ptr 3 0 0), (8, .ptr 4 0 0), (10, .mp 13), (12, .ref 17), (16, .f x0)]) [.box [.f x1, .f x2, .f x3, .f x4, .f x5, .f x6], .box [.f x7, .f x8, .f x9, .f x10, .f x11], .box [.f x12, .ref 5, .f x13, .ref 6, .ref 7, .ref 8], .box [.f x14, .f x15, .f x16, .f x17, .f x18], .box [.f x19, .ref 14, .f x20, .ref 10, .ref 11, .ref 18], .own 1 r21, .own 1 r22, .own 1 r23, .own 1 r24, .dead, .own 1 r25, .own 2 r26, .dead, .map false es27, .own 1 r28, .dead, .dead, .own 1 r29, .own 2 r30]
theorem mach_Confined.eq (x0 x1 : FV) : mach_Confined x0 x1 = (
  gB (fIsAgg 6 x0) <|
  gB (fIsAgg 5 x1) <|
  bindO (mach_RunBand (.agg [(fCell x0 0), (fCell x0 1), (fCell x0 2), (fCell x0 3), (fCell x0 4), (fCell x0 5)]) (.agg [(fCell x1 0), (fCell x1 1), (fCell x1 2), (fCell x1 3), (fCell x1 4)]) (.int .i64 0)) fun v1 =>
  gB (fIsTup 2 v1) <|
  gB (fIsAgg 5 (fTup v1 0)) <|
  bindO (fBin .neq (fTup v1 1) (.int .i64 0)) fun v2 =>
  fCond v2
  (some (.tup [.agg [.str [], .nilS, .int .i64 0, .nilS, .nilS, .nilS], (fTup v1 1)]))
  (bindO (fLen (fCell (fTup v1 0) 0)) fun v3 =>
  bindO (fBin .gtr v3 (.int .i64 8)) fun v4 =>
  fCond v4
  (some (.tup [.agg [.str [], .nilS, .int .i64 0, .nilS, .nilS, .nilS], .int .i64 26]))
  (bindO (fLen (fCell (fTup v1 0) 0)) fun v5 =>
  mach_Confined.L0 v5 (.int .i64 0) (fCell x0 0) (fCell x0 1) (fCell x0 2) (fCell x0 3) (fCell x0 4) (fCell x0 5) (fCell x1 0) (fCell x1 1) (fCell x1 2) (fCell x1 3) (fCell x1 4) (.str []) (.int .i64 0) (fCell (fTup v1 0) 0) (fCell (fTup v1 0) 1) (fCell (fTup v1 0) 2) (fCell (fTup v1 0) 3) (fCell (fTup v1 0) 4) (fCell x0 0) (.int .i64 0) [] [] [] [] [] [] [] []))) := (den_eq E 32 [x0, x1]).trans (by kernel_rfl)
theorem mach_Confined.L0_eq (x0 : FV) (x1 : FV) (x2 : FV) (x3 : FV) (x4 : FV) (x5 : FV) (x6 : FV) (x7 : FV) (x8 : FV) (x9 : FV) (x10 : FV) (x11 : FV) (x12 : FV) (x13 : FV) (x14 : FV) (x15 : FV) (x16 : FV) (x17 : FV) (x18 : FV) (x19 : FV) (x20 : FV) (x21 : FV) (r22 : List (List FV)) (r23 : List (List FV)) (r24 : List (List FV)) (r25 : List (List FV)) (r26 : List (List FV)) (r27 : List (List FV)) (r28 : List (List FV)) (r29 : List (List FV)) : mach_Confined.L0 x0 x1 x2 x3 x4 x5 x6 x7 x8 x9 x10 x11 x12 x13 x14 x15 x16 x17 x18 x19 x20 x21 r22 r23 r24 r25 r26 r27 r28 r29 = (
  bindO (fBin .lss x1 x0) fun v31 =>
  fCond v31
  (bindO (fIdxC 2 x5 (.int .i64 0)) fun c32 =>
  bindO (c32[1]?) fun v33 =>
  bindO (mach_decimal x1) fun v34 =>
  bindO (fBin .add (.str [115]) v34) fun v35 =>
  bindO (slices_Clone_string v33) fun v36 =>
  bindO (arrRows v36) fun r37 =>
  gB (decide ((r28.length + 1) * 40 ≤ room)) <|
  bindO (fBin .add x1 (.int .i64 1)) fun v38 =>
  mach_Confined.L0 x0 v38 x2 x3 x4 x5 x6 x7 x8 x9 x10 x11 x12 x13 x14 x15 x16 x17 x18 x19 x20 x21 r22 r23 r24 r25 r26 r27 (r28 ++ [[v35, .arr r37]]) r29)
  (mach_Confined.L1 x2 x3 x4 x5 x6 x7 x8 x9 x10 x11 x12 x13 x14 x15 x16 x17 x18 x19 x20 x21 r22 r23 r24 r25 r27 r28 [] r26 r29)) := (jden_eq E 32 [] [4, 1, 0, 1, 1, 1, 1, 1] _ _).trans (by kernel_rfl)
theorem mach_Confined.L1_eq (x0 : FV) (x1 : FV) (x2 : FV) (x3 : FV) (x4 : FV) (x5 : FV) (x6 : FV) (x7 : FV) (x8 : FV) (x9 : FV) (x10 : FV) (x11 : FV) (x12 : FV) (x13 : FV) (x14 : FV) (x15 : FV) (x16 : FV) (x17 : FV) (x18 : FV) (x19 : FV) (r20 : List (List FV)) (r21 : List (List FV)) (r22 : List (List FV)) (r23 : List (List FV)) (r24 : List (List FV)) (r25 : List (List FV)) (es26 : List (FV × FV)) (r27 : List (List FV)) (r28 : List (List FV)) : mach_Confined.L1 x0 x1 x2 x3 x4 x5 x6 x7 x8 x9 x10 x11 x12 x13 x14 x15 x16 x17 x18 x19 r20 r21 r22 r23 r24 r25 es26 r27 r28 = (
  fCond x16
  (mach_Confined.L2 (.int .i64 1) x0 x1 x2 x3 x4 x5 x6 x7 x8 x9 x10 x11 x12 x13 x14 x15 x16 x17 x18 x19 r20 r21 r22 r23 r24 r25 es26 r27 r28)
  (mach_Confined.L2 (.int .i64 0) x0 x1 x2 x3 x4 x5 x6 x7 x8 x9 x10 x11 x12 x13 x14 x15 x16 x17 x18 x19 r20 r21 r22 r23 r24 r25 es26 r27 r28)) := (jden_eq E 32 [] [4, 1, 1, 1, 1, 1, 1, 1] _ _).trans (by kernel_rfl)
theorem mach_Confined.L2_eq (x0 : FV) (x1 : FV) (x2 : FV) (x3 : FV) (x4 : FV) (x5 : FV) (x6 : FV) (x7 : FV) (x8 : FV) (x9 : FV) (x10 : FV) (x11 : FV) (x12 : FV) (x13 : FV) (x14 : FV) (x15 : FV) (x16 : FV) (x17 : FV) (x18 : FV) (x19 : FV) (x20 : FV) (r21 : List (List FV)) (r22 : List (List FV)) (r23 : List (List FV)) (r24 : List (List FV)) (r25 : List (List FV)) (r26 : List (List FV)) (es27 : List (FV × FV)) (r28 : List (List FV)) (r29 : List (List FV)) : mach_Confined.L2 x0 x1 x2 x3 x4 x5 x6 x7 x8 x9 x10 x11 x12 x13 x14 x15 x16 x17 x18 x19 x20 r21 r22 r23 r24 r25 r26 es27 r28 r29 = (
  bindO (fConvInt .u8 x15) fun v31 =>
  bindO (fConvInt .u8 x16) fun v32 =>
  bindO (fConvInt .u8 x0) fun v33 =>
  bindO (fLen x14) fun v34 =>
  mach_Confined.L3 x14 v34 (.int .i64 0) x1 x2 x3 x4 x5 x6 x7 x8 x9 x10 x11 x12 x13 x14 x15 x16 x17 x18 x19 x20 r21 r22 r23 r24 r25 r26 es27 r28 r29 [[v31], [v32], [v33]]) := (jden_eq E 32 [] [1, 4, 5, 4, 1, 1, 1, 1, 1, 1, 1] _ _).trans (by kernel_rfl)
theorem mach_Confined.L3_eq (x0 : FV) (x1 : FV) (x2 : FV) (x3 : FV) (x4 : FV) (x5 : FV) (x6 : FV) (x7 : FV) (x8 : FV) (x9 : FV) (x10 : FV) (x11 : FV) (x12 : FV) (x13 : FV) (x14 : FV) (x15 : FV) (x16 : FV) (x17 : FV) (x18 : FV) (x19 : FV) (x20 : FV) (x21 : FV) (x22 : FV) (r23 : List (List FV)) (r24 : List (List FV)) (r25 : List (List FV)) (r26 : List (List FV)) (r27 : List (List FV)) (r28 : List (List FV)) (es29 : List (FV × FV)) (r30 : List (List FV)) (r31 : List (List FV)) (r32 : List (List FV)) : mach_Confined.L3 x0 x1 x2 x3 x4 x5 x6 x7 x8 x9 x10 x11 x12 x13 x14 x15 x16 x17 x18 x19 x20 x21 x22 r23 r24 r25 r26 r27 r28 es29 r30 r31 r32 = (
  bindO (fBin .lss x2 x1) fun v34 =>
  fCond v34
  (bindO (fIdxC 1 x0 x2) fun c35 =>
  bindO (c35[0]?) fun v36 =>
  bindO (fConvInt .u8 v36) fun v37 =>
  gB (decide ((r32.length + 1) * 1 ≤ room)) <|
  bindO (fBin .add x2 (.int .i64 1)) fun v38 =>
  mach_Confined.L3 x0 x1 v38 x3 x4 x5 x6 x7 x8 x9 x10 x11 x12 x13 x14 x15 x16 x17 x18 x19 x20 x21 x22 r23 r24 r25 r26 r27 r28 es29 r30 r31 (r32 ++ [[v37]]))
  (bindO (bytes? r32) fun v39 =>
  bindO (mLook false [.str] es29 (.str v39) (.int .i64 0)) fun v40 =>
  bindO (fBin .gtr (.int .i64 ((r30.length : Nat) : Int)) (.int .i64 0)) fun v41 =>
  fCond v41
  (bindO (fUn .not (.bool v40.2)) fun v42 =>
  fCond v42
  (mach_Confined.L5 (.int .i64 ((r30.length : Nat) : Int)) (.bool v40.2) x3 x4 x5 x6 x7 x8 x9 x10 x11 x12 x13 x14 x15 x16 x17 x18 x19 x20 x21 x22 r23 r24 r25 r26 r27 r28 es29 r30 r31 r32)
  (mach_Confined.L5 v40.1 (.bool v40.2) x3 x4 x5 x6 x7 x8 x9 x10 x11 x12 x13 x14 x15 x16 x17 x18 x19 x20 x21 x22 r23 r24 r25 r26 r27 r28 es29 r30 r31 r32))
  (mach_Confined.L4 (.bool v40.2) x3 x4 x5 x6 x7 x8 x9 x10 x11 x12 x13 x14 x15 x16 x17 x18 x19 x20 x21 x22 r23 r24 r25 r26 r27 r28 es29 r30 r32 r31))) := (jden_eq E 32 [] [4, 1, 0, 1, 1, 1, 4, 5, 4, 1, 1, 1, 1, 1, 1, 1] _ _).trans (by kernel_rfl)
theorem mach_Confined.L5_eq (x0 : FV) (x1 : FV) (x2 : FV) (x3 : FV) (x4 : FV) (x5 : FV) (x6 : FV) (x7 : FV) (x8 : FV) (x9 : FV) (x10 : FV) (x11 : FV) (x12 : FV) (x13 : FV) (x14 : FV) (x15 : FV) (x16 : FV) (x17 : FV) (x18 : FV) (x19 : FV) (x20 : FV) (x21 : FV) (r22 : List (List FV)) (r23 : List (List FV)) (r24 : List (List FV)) (r25 : List (List FV)) (r26 : List (List FV)) (r27 : List (List FV)) (es28 : List (FV × FV)) (r29 : List (List FV)) (r30 : List (List FV)) (r31 : List (List FV)) : mach_Confined.L5 x0 x1 x2 x3 x4 x5 x6 x7 x8 x9 x10 x11 x12 x13 x14 x15 x16 x17 x18 x19 x20 x21 r22 r23 r24 r25 r26 r27 es28 r29 r30 r31 = (
  bindO (slices_Clone_int x15) fun v33 =>
  bindO (arrRows v33) fun r34 =>
  gB (decide ((r30.length + 1) * 32 ≤ room)) <|
  mach_Confined.L4 x1 x2 x3 x4 x5 x6 x7 x8 x9 x10 x11 x12 x13 x14 x15 x16 x17 x18 x19 x20 x21 r22 r23 r24 r25 r26 r27 es28 r29 r31 (r30 ++ [[x0, .arr r34]])) := (jden_eq E 32 [] [2, 1, 0, 1, 1, 1, 1, 1, 4, 5, 4, 1, 1, 1, 1, 1, 1, 1] _ _).trans (by kernel_rfl)
theorem mach_Confined.L4_eq (x0 : FV) (x1 : FV) (x2 : FV) (x3 : FV) (x4 : FV) (x5 : FV) (x6 : FV) (x7 : FV) (x8 : FV) (x9 : FV) (x10 : FV) (x11 : FV) (x12 : FV) (x13 : FV) (x14 : FV) (x15 : FV) (x16 : FV) (x17 : FV) (x18 : FV) (x19 : FV) (x20 : FV) (r21 : List (List FV)) (r22 : List (List FV)) (r23 : List (List FV)) (r24 : List (List FV)) (r25 : List (List FV)) (r26 : List (List FV)) (es27 : List (FV × FV)) (r28 : List (List FV)) (r29 : List (List FV)) (r30 : List (List FV)) : mach_Confined.L4 x0 x1 x2 x3 x4 x5 x6 x7 x8 x9 x10 x11 x12 x13 x14 x15 x16 x17 x18 x19 x20 r21 r22 r23 r24 r25 r26 es27 r28 r29 r30 = (
  fCond x0
  (some (.tup [.agg [x19, .arr r28, x20, .arr r25, .arr r26, .arr r30], .int .i64 0]))
  (bindO (fBin .eql (.int .i64 ((r28.length : Nat) : Int)) (.int .i64 256)) fun v32 =>
  fCond v32
  (some (.tup [.agg [.str [], .nilS, .int .i64 0, .nilS, .nilS, .nilS], .int .i64 26]))
  (bindO (bytes? r29) fun v33 =>
  gB (keyOk false [.str] (.str v33)) <|
  bindO (mPut false [.str] es27 (.str v33) (.int .i64 ((r28.length : Nat) : Int))) fun es34 =>
  bindO (mach_decimal (.int .i64 ((r28.length : Nat) : Int))) fun v35 =>
  bindO (fBin .add (.str [113]) v35) fun v36 =>
  gB (decide ((r28.length + 1) * 16 ≤ room)) <|
  bindO (mach_RunBand (.agg [x1, x2, x3, x4, x5, x6]) (.agg [x14, x15, x16, x17, .int .i64 0]) (.int .i64 1)) fun v37 =>
  gB (fIsTup 2 v37) <|
  gB (fIsAgg 5 (fTup v37 0)) <|
  mach_Confined.L1 x1 x2 x3 x4 x5 x6 x7 x8 x9 x10 x11 x12 x13 (fCell (fTup v37 0) 0) (fCell (fTup v37 0) 1) (fCell (fTup v37 0) 2) (fCell (fTup v37 0) 3) (fCell (fTup v37 0) 4) x19 x20 r21 r22 r23 r24 r25 r26 es34 (r28 ++ [[v36]]) r30))) := (jden_eq E 32 [] [1, 1, 1, 1, 1, 4, 5, 4, 1, 1, 1, 1, 1, 1, 1] _ _).trans (by kernel_rfl)
end Go.Proofs.Ytelcbakleaaneaa
