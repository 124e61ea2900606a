/- The code of the functions, as the abstract machine runs it. -/
import Derived.Test.YtelcbakleaaneaaEnv
import Derived.KernelRfl
namespace Go.Proofs.Ytelcbakleaaneaa
open Go Go.Proofs.Ytelcbakleaaneaa.VM
set_option linter.unusedVariables false
/-! ### ramet/rametref02.sum (function 49) -/
noncomputable def ref02_sum.L0 (x0 : FV) (x1 : FV) (x2 : FV) : R := jden E 49 [] [4, 1, 0, 1, 1] (mkF 25 [(0, .f x0), (3, .f x1), (4, .f x2)]) []
theorem ref02_sum.eq (x0 : FV) : ref02_sum x0 = (
  ref02_sum.L0 x0 (.int .i64 0) (.int .i64 0)) := (den_eq E 49 [x0]).trans (by kernel_rfl)
theorem ref02_sum.L0_eq (x0 : FV) (x1 : FV) (x2 : FV) : ref02_sum.L0 x0 x1 x2 = (
  bindO (fLen x0) fun v4 =>
  bindO (fBin .lss x2 v4) fun v5 =>
  fCond v5
  (bindO (fIdxC 1 x0 x2) fun c6 =>
  bindO (c6[0]?) fun v7 =>
  bindO (fBin .lss v7 (.int .i64 0)) fun v8 =>
  fCond v8
  (some (.int .i64 (-1)))
  (bindO (fIdxC 1 x0 x2) fun c9 =>
  bindO (c9[0]?) fun v10 =>
  bindO (fMinMax false v10 (.int .i64 1099511627776)) fun v11 =>
  bindO (fBin .add x1 v11) fun v12 =>
  bindO (fMinMax false v12 (.int .i64 1099511627776)) fun v13 =>
  bindO (fBin .add x2 (.int .i64 1)) fun v14 =>
  ref02_sum.L0 x0 v13 v14))
  (some x1)) := (jden_eq E 49 [] [4, 1, 0, 1, 1] _ _).trans (by kernel_rfl)
/-! ### ramet/rametref02.bitsAlone (function 50) -/
noncomputable def ref02_bitsAlone.L0 (x0 : FV) (x1 : FV) : R := jden E 50 [] [4, 1, 0, 1, 1] (mkF 28 [(0, .f x0), (5, .f x1)]) []
theorem ref02_bitsAlone.eq (x0 x1 : FV) : ref02_bitsAlone x0 x1 = (
  bindO (fLen x0) fun v1 =>
  bindO (fBin .neq v1 x1) fun v2 =>
  fCond v2
  (some (.bool false))
  (ref02_bitsAlone.L0 x0 (.int .i64 0))) := (den_eq E 50 [x0, x1]).trans (by kernel_rfl)
theorem ref02_bitsAlone.L0_eq (x0 : FV) (x1 : FV) : ref02_bitsAlone.L0 x0 x1 = (
  bindO (fLen x0) fun v3 =>
  bindO (fBin .lss x1 v3) fun v4 =>
  fCond v4
  (bindO (fIdxC 1 x0 x1) fun c5 =>
  bindO (c5[0]?) fun v6 =>
  bindO (fBin .neq v6 (.int .i64 0)) fun v7 =>
  fCond v7
  (bindO (fIdxC 1 x0 x1) fun c8 =>
  bindO (c8[0]?) fun v9 =>
  bindO (fBin .neq v9 (.int .i64 1)) fun v10 =>
  fCond v10
  (some (.bool false))
  (bindO (fBin .add x1 (.int .i64 1)) fun v11 =>
  ref02_bitsAlone.L0 x0 v11))
  (bindO (fBin .add x1 (.int .i64 1)) fun v12 =>
  ref02_bitsAlone.L0 x0 v12))
  (some (.bool true))) := (jden_eq E 50 [] [4, 1, 0, 1, 1] _ _).trans (by kernel_rfl)
/-! ### ramet/rametref02.checkPlane (function 48) -/
noncomputable def ref02_checkPlane.L0 (x0 : FV) (x1 : FV) (x2 : FV) (x3 : FV) (x4 : FV) (x5 : FV) (x6 : FV) : R := jden E 48 [] [1, 1, 1] (mkF 131 [(1, .ptr 0 0 0), (3, .f x0), (4, .f x1)]) [.box [.f x2, .f x3, .f x4, .f x5, .f x6]]
noncomputable def ref02_checkPlane.L1 (x0 : FV) (x1 : FV) (x2 : FV) (x3 : FV) (x4 : FV) (x5 : FV) (x6 : FV) (x7 : FV) : R := jden E 48 [] [4, 1, 0, 1, 1, 1, 1] (mkF 131 [(1, .ptr 0 0 0), (3, .f x0), (4, .f x1), (5, .f x2)]) [.box [.f x3, .f x4, .f x5, .f x6, .f x7]]
noncomputable def ref02_checkPlane.L2 (x0 : FV) (x1 : FV) (x2 : FV) (x3 : FV) (x4 : FV) (x5 : FV) (x6 : FV) (x7 : FV) (x8 : FV) (x9 : FV) (x10 : FV) : R := jden E 48 [] [4, 1, 0, 1, 1, 4, 0, 1, 5, 4, 1, 0, 1, 1, 1, 1] (mkF 131 [(1, .ptr 0 0 0), (3, .f x0), (4, .f x1), (5, .f x2), (6, .ptr 1 0 0), (7, .f x3)]) [.box [.f x4, .f x5, .f x6, .f x7, .f x8], .box [.f x9, .f x10]]
noncomputable def ref02_checkPlane.L3 (x0 : FV) (x1 : FV) (x2 : FV) (x3 : FV) (x4 : FV) (x5 : FV) (x6 : FV) (x7 : FV) (x8 : FV) (x9 : FV) (x10 : FV) : R := jden E 48 [] [4, 1, 1, 1, 1, 4, 0, 1, 5, 4, 1, 0, 1, 1, 1, 1] (mkF 131 [(1, .ptr 0 0 0), (3, .f x0), (4, .f x1), (5, .f x2), (6, .ptr 1 0 0), (8, .f x3)]) [.box [.f x4, .f x5, .f x6, .f x7, .f x8], .box [.f x9, .f x10]]
theorem ref02_checkPlane.eq (x0 : FV) : ref02_checkPlane x0 = (
  gB (fIsAgg 5 x0) <|
  bindO (ref02_sum (fCell x0 0)) fun v1 =>
  bindO (ref02_sum (fCell x0 1)) fun v2 =>
  bindO (fBin .lss v1 (.int .i64 0)) fun v3 =>
  fCond v3
  (some (.int .i64 27))
  (bindO (fBin .lss v2 (.int .i64 0)) fun v4 =>
  fCond v4
  (some (.int .i64 27))
  (bindO (fBin .lss (fCell x0 2) (.int .i64 0)) fun v5 =>
  fCond v5
  (some (.int .i64 27))
  (bindO (ref02_bitsAlone (fCell x0 3) (fCell x0 2)) fun v6 =>
  bindO (fUn .not v6) fun v7 =>
  fCond v7
  (some (.int .i64 27))
  (ref02_checkPlane.L0 v1 v2 (fCell x0 0) (fCell x0 1) (fCell x0 2) (fCell x0 3) (fCell x0 4)))))) := (den_eq E 48 [x0]).trans (by kernel_rfl)
theorem ref02_checkPlane.L0_eq (x0 : FV) (x1 : FV) (x2 : FV) (x3 : FV) (x4 : FV) (x5 : FV) (x6 : FV) : ref02_checkPlane.L0 x0 x1 x2 x3 x4 x5 x6 = (
  ref02_checkPlane.L1 x0 x1 (.int .i64 0) x2 x3 x4 x5 x6) := (jden_eq E 48 [] [1, 1, 1] _ _).trans (by kernel_rfl)
theorem ref02_checkPlane.L1_eq (x0 : FV) (x1 : FV) (x2 : FV) (x3 : FV) (x4 : FV) (x5 : FV) (x6 : FV) (x7 : FV) : ref02_checkPlane.L1 x0 x1 x2 x3 x4 x5 x6 x7 = (
  bindO (fLen x7) fun v9 =>
  bindO (fBin .lss x2 v9) fun v10 =>
  fCond v10
  (bindO (fIdxC 2 x7 x2) fun c11 =>
  bindO (c11[0]?) fun v12 =>
  bindO (c11[1]?) fun v13 =>
  bindO (fLen v12) fun v14 =>
  bindO (fBin .add x0 x5) fun v15 =>
  bindO (fBin .neq v14 v15) fun v16 =>
  fCond v16
  (some (.int .i64 27))
  (ref02_checkPlane.L2 x0 x1 x2 (.int .i64 0) x3 x4 x5 x6 x7 v12 v13))
  (bindO (fBin .add x0 x1) fun v17 =>
  bindO (fBin .add v17 x5) fun v18 =>
  bindO (fBin .gtr v18 (.int .i64 128)) fun v19 =>
  fCond v19
  (some (.int .i64 26))
  (bindO (fLen x7) fun v20 =>
  bindO (fBin .gtr v20 (.int .i64 1024)) fun v21 =>
  fCond v21
  (some (.int .i64 26))
  (some (.int .i64 0))))) := (jden_eq E 48 [] [4, 1, 0, 1, 1, 1, 1] _ _).trans (by kernel_rfl)
theorem ref02_checkPlane.L2_eq (x0 : FV) (x1 : FV) (x2 : FV) (x3 : FV) (x4 : FV) (x5 : FV) (x6 : FV) (x7 : FV) (x8 : FV) (x9 : FV) (x10 : FV) : ref02_checkPlane.L2 x0 x1 x2 x3 x4 x5 x6 x7 x8 x9 x10 = (
  bindO (fLen x9) fun v12 =>
  bindO (fBin .lss x3 v12) fun v13 =>
  fCond v13
  (bindO (fIdxC 1 x9 x3) fun c14 =>
  bindO (c14[0]?) fun v15 =>
  bindO (fBin .lss v15 (.int .i64 (-1))) fun v16 =>
  fCond v16
  (some (.int .i64 27))
  (bindO (fIdxC 1 x9 x3) fun c17 =>
  bindO (c17[0]?) fun v18 =>
  bindO (fBin .gtr v18 (.int .i64 1)) fun v19 =>
  fCond v19
  (some (.int .i64 27))
  (bindO (fBin .add x3 (.int .i64 1)) fun v20 =>
  ref02_checkPlane.L2 x0 x1 x2 v20 x4 x5 x6 x7 x8 x9 x10)))
  (ref02_checkPlane.L3 x0 x1 x2 (.int .i64 0) x4 x5 x6 x7 x8 x9 x10)) := (jden_eq E 48 [] [4, 1, 0, 1, 1, 4, 0, 1, 5, 4, 1, 0, 1, 1, 1, 1] _ _).trans (by kernel_rfl)
theorem ref02_checkPlane.L3_eq (x0 : FV) (x1 : FV) (x2 : FV) (x3 : FV) (x4 : FV) (x5 : FV) (x6 : FV) (x7 : FV) (x8 : FV) (x9 : FV) (x10 : FV) : ref02_checkPlane.L3 x0 x1 x2 x3 x4 x5 x6 x7 x8 x9 x10 = (
  bindO (fLen x10) fun v12 =>
  bindO (fBin .lss x3 v12) fun v13 =>
  fCond v13
  (bindO (fIdxC 1 x10 x3) fun c14 =>
  bindO (c14[0]?) fun v15 =>
  bindO (fBin .lss v15 (.int .i64 0)) fun v16 =>
  fCond v16
  (some (.int .i64 27))
  (bindO (fIdxC 1 x10 x3) fun c17 =>
  bindO (c17[0]?) fun v18 =>
  bindO (fBin .add x1 x6) fun v19 =>
  bindO (fBin .geq v18 v19) fun v20 =>
  fCond v20
  (some (.int .i64 27))
  (bindO (fBin .gtr x3 (.int .i64 0)) fun v21 =>
  fCond v21
  (bindO (fIdxC 1 x10 x3) fun c22 =>
  bindO (c22[0]?) fun v23 =>
  bindO (fBin .sub x3 (.int .i64 1)) fun v24 =>
  bindO (fIdxC 1 x10 v24) fun c25 =>
  bindO (c25[0]?) fun v26 =>
  bindO (fBin .leq v23 v26) fun v27 =>
  fCond v27
  (some (.int .i64 27))
  (bindO (fBin .add x3 (.int .i64 1)) fun v28 =>
  ref02_checkPlane.L3 x0 x1 x2 v28 x4 x5 x6 x7 x8 x9 x10))
  (bindO (fBin .add x3 (.int .i64 1)) fun v29 =>
  ref02_checkPlane.L3 x0 x1 x2 v29 x4 x5 x6 x7 x8 x9 x10))))
  (bindO (fBin .add x2 (.int .i64 1)) fun v30 =>
  ref02_checkPlane.L1 x0 x1 v30 x4 x5 x6 x7 x8)) := (jden_eq E 48 [] [4, 1, 1, 1, 1, 4, 0, 1, 5, 4, 1, 0, 1, 1, 1, 1] _ _).trans (by kernel_rfl)
/-! ### ramet/rametref02.RunPlanes (function 14) -/
noncomputable def ref02_RunPlanes.L0 (x0 : FV) (x1 : FV) (x2 : FV) (x3 : FV) (x4 : FV) (x5 : FV) (x6 : FV) (x7 : FV) (r8 : List (List FV)) (r9 : List (List FV)) : R := jden E 14 [] [4, 1, 0, 1, 1, 1, 1, 1, 1] (mkF 141 [(1, .f x0), (2, .ptr 0 0 0), (7, .ref 4), (8, .f x1), (9, .ref 3), (10, .f x2)]) [.box [.f x3, .f x4, .f x5, .f x6, .f x7], .dead, .dead, .own 1 r8, .own 1 r9]
noncomputable def ref02_RunPlanes.L1 (x0 : FV) (x1 : FV) (x2 : FV) (x3 : FV) (x4 : FV) (x5 : FV) (x6 : FV) (x7 : FV) (x8 : FV) (r9 : List (List FV)) (r10 : List (List FV)) (r11 : List (List FV)) (r12 : List (List FV)) : R := jden E 14 [] [4, 1, 0, 1, 1, 1, 4, 0, 1, 5, 4, 1, 0, 1, 1, 1, 1, 1, 1] (mkF 141 [(1, .f x0), (2, .ptr 0 0 0), (8, .f x1), (9, .ref 3), (10, .f x2), (11, .ref 7), (12, .ref 8), (13, .f x3)]) [.box [.f x4, .f x5, .f x6, .f x7, .f x8], .dead, .dead, .own 1 r9, .own 1 r10, .dead, .dead, .own 1 r11, .own 1 r12]
noncomputable def ref02_RunPlanes.L2 (x0 : FV) (x1 : FV) (x2 : FV) (x3 : FV) (x4 : FV) (x5 : FV) (x6 : FV) (x7 : FV) (x8 : FV) (x9 : FV) (x10 : FV) (r11 : List (List FV)) (r12 : List (List FV)) (r13 : List (List FV)) (r14 : List (List FV)) : R := jden E 14 [] [4, 1, 0, 1, 4, 0, 1, 5, 4, 1, 0, 1, 1, 1, 4, 0, 1, 5, 4, 1, 0, 1, 1, 1, 1, 1, 1] (mkF 141 [(1, .f x0), (2, .ptr 0 0 0), (8, .f x1), (9, .ref 3), (10, .f x2), (11, .ref 7), (12, .ref 8), (13, .f x3), (14, .f x4), (15, .f x5)]) [.box [.f x6, .f x7, .f x8, .f x9, .f x10], .dead, .dead, .own 1 r11, .own 1 r12, .dead, .dead, .own 1 r13, .own 1 r14]
noncomputable def ref02_RunPlanes.L3 (x0 : FV) (x1 : FV) (x2 : FV) (x3 : FV) (x4 : FV) (x5 : FV) (x6 : FV) (x7 : FV) (x8 : FV) (x9 : FV) (x10 : FV) (r11 : List (List FV)) (r12 : List (List FV)) (r13 : List (List FV)) (r14 : List (List FV)) : R := jden E 14 [] [4, 1, 1, 1, 4, 0, 1, 5, 4, 1, 0, 1, 1, 1, 4, 0, 1, 5, 4, 1, 0, 1, 1, 1, 1, 1, 1] (mkF 141 [(1, .f x0), (2, .ptr 0 0 0), (8, .f x1), (9, .ref 3), (10, .f x2), (11, .ref 7), (12, .ref 8), (13, .f x3), (14, .f x4), (16, .f x5)]) [.box [.f x6, .f x7, .f x8, .f x9, .f x10], .dead, .dead, .own 1 r11, .own 1 r12, .dead, .dead, .own 1 r13, .own 1 r14]
noncomputable def ref02_RunPlanes.L4 (x0 : FV) (x1 : FV) (x2 : FV) (x3 : FV) (x4 : FV) (x5 : FV) (x6 : FV) (x7 : FV) (x8 : FV) (x9 : FV) (x10 : FV) (r11 : List (List FV)) (r12 : List (List FV)) (r13 : List (List FV)) (r14 : List (List FV)) : R := jden E 14 [] [5, 4, 1, 1, 1, 4, 0, 1, 5, 4, 1, 0, 1, 1, 1, 4, 0, 1, 5, 4, 1, 0, 1, 1, 1, 1, 1, 1] (mkF 141 [(1, .f x0), (2, .ptr 0 0 0), (8, .f x1), (9, .ref 3), (10, .f x2), (11, .ref 7), (12, .ref 8), (13, .f x3), (14, .f x4), (16, .f x5)]) [.box [.f x6, .f x7, .f x8, .f x9, .f x10], .dead, .dead, .own 1 r11, .own 1 r12, .dead, .dead, .own 1 r13, .own 1 r14]
theorem ref02_RunPlanes.eq (x0 x1 : FV) : ref02_RunPlanes x0 x1 = (
  gB (fIsAgg 5 x0) <|
  bindO (ref02_checkPlane (.agg [(fCell x0 0), (fCell x0 1), (fCell x0 2), (fCell x0 3), (fCell x0 4)])) fun v1 =>
  bindO (fBin .neq v1 (.int .i64 0)) fun v2 =>
  fCond v2
  (some (.tup [.nilS, v1]))
  (bindO (fLen x1) fun v3 =>
  bindO (fBin .gtr v3 (.int .i64 4096)) fun v4 =>
  fCond v4
  (some (.tup [.nilS, .int .i64 26]))
  (bindO (asRows (fCell x0 3)) fun r5 =>
  gB (rowsSz 1 r5) <|
  gB (decide ((0 + r5.length) * 8 ≤ room)) <|
  bindO (ref02_sum (fCell x0 1)) fun v6 =>
  ref02_RunPlanes.L0 x1 v6 (.int .i64 0) (fCell x0 0) (fCell x0 1) (fCell x0 2) (fCell x0 3) (fCell x0 4) [] ([] ++ r5)))) := (den_eq E 14 [x0, x1]).trans (by kernel_rfl)
theorem ref02_RunPlanes.L0_eq (x0 : FV) (x1 : FV) (x2 : FV) (x3 : FV) (x4 : FV) (x5 : FV) (x6 : FV) (x7 : FV) (r8 : List (List FV)) (r9 : List (List FV)) : ref02_RunPlanes.L0 x0 x1 x2 x3 x4 x5 x6 x7 r8 r9 = (
  bindO (fLen x0) fun v11 =>
  bindO (fBin .lss x2 v11) fun v12 =>
  fCond v12
  (bindO (fIdxC 1 x0 x2) fun c13 =>
  bindO (c13[0]?) fun v14 =>
  bindO (ref02_sum x3) fun v15 =>
  bindO (ref02_bitsAlone v14 v15) fun v16 =>
  bindO (fUn .not v16) fun v17 =>
  fCond v17
  (some (.tup [.nilS, .int .i64 27]))
  (bindO (fIdxC 1 x0 x2) fun c18 =>
  bindO (c18[0]?) fun v19 =>
  bindO (asRows v19) fun r20 =>
  gB (rowsSz 1 r20) <|
  gB (decide ((0 + r20.length) * 8 ≤ room)) <|
  gB (rowsSz 1 r9) <|
  gB (decide ((([] ++ r20).length + r9.length) * 8 ≤ room)) <|
  bindO (fBin .add x1 x5) fun v21 =>
  bindO (asNat v21) fun j22 =>
  bindO (asNat v21) fun j23 =>
  gB (j22 ≤ j23 && j23 * 8 ≤ room && 1 ≥ 1) <|
  ref02_RunPlanes.L1 x0 x1 x2 (.int .i64 0) x3 x4 x5 x6 x7 r8 r9 (([] ++ r20) ++ r9) (List.replicate j22 [(.int .i64 0 : FV)])))
  (some (.tup [.arr r8, .int .i64 0]))) := (jden_eq E 14 [] [4, 1, 0, 1, 1, 1, 1, 1, 1] _ _).trans (by kernel_rfl)
theorem ref02_RunPlanes.L1_eq (x0 : FV) (x1 : FV) (x2 : FV) (x3 : FV) (x4 : FV) (x5 : FV) (x6 : FV) (x7 : FV) (x8 : FV) (r9 : List (List FV)) (r10 : List (List FV)) (r11 : List (List FV)) (r12 : List (List FV)) : ref02_RunPlanes.L1 x0 x1 x2 x3 x4 x5 x6 x7 x8 r9 r10 r11 r12 = (
  bindO (fLen x8) fun v14 =>
  bindO (fBin .lss x3 v14) fun v15 =>
  fCond v15
  (ref02_RunPlanes.L2 x0 x1 x2 x3 (.bool true) (.int .i64 0) x4 x5 x6 x7 x8 r9 r10 r11 r12)
  (bindO (fCut 1 (.arr r12) none (some x1)) fun v16 =>
  bindO (asRows v16) fun r17 =>
  gB (rowsSz 1 r17) <|
  gB (decide ((0 + r17.length) * 8 ≤ room)) <|
  gB (decide ((r9.length + 1) * 24 ≤ room)) <|
  bindO (fCut 1 (.arr r12) (some x1) none) fun v18 =>
  bindO (asRows v18) fun r19 =>
  gB (rowsSz 1 r19) <|
  gB (decide ((0 + r19.length) * 8 ≤ room)) <|
  bindO (fBin .add x2 (.int .i64 1)) fun v20 =>
  ref02_RunPlanes.L0 x0 x1 v20 x4 x5 x6 x7 x8 (r9 ++ [[.arr ([] ++ r17)]]) ([] ++ r19))) := (jden_eq E 14 [] [4, 1, 0, 1, 1, 1, 4, 0, 1, 5, 4, 1, 0, 1, 1, 1, 1, 1, 1] _ _).trans (by kernel_rfl)
theorem ref02_RunPlanes.L2_eq (x0 : FV) (x1 : FV) (x2 : FV) (x3 : FV) (x4 : FV) (x5 : FV) (x6 : FV) (x7 : FV) (x8 : FV) (x9 : FV) (x10 : FV) (r11 : List (List FV)) (r12 : List (List FV)) (r13 : List (List FV)) (r14 : List (List FV)) : ref02_RunPlanes.L2 x0 x1 x2 x3 x4 x5 x6 x7 x8 x9 x10 r11 r12 r13 r14 = (
  bindO (fBin .lss x5 (.int .i64 ((r13.length : Nat) : Int))) fun v16 =>
  fCond v16
  (fCond x4
  (bindO (fIdxC 2 x10 x3) fun c17 =>
  bindO (c17[0]?) fun v18 =>
  bindO (fIdxC 1 v18 x5) fun c19 =>
  bindO (c19[0]?) fun v20 =>
  bindO (fBin .eql v20 (.int .i64 (-1))) fun v21 =>
  fCond v21
  (bindO (fBin .add x5 (.int .i64 1)) fun v22 =>
  ref02_RunPlanes.L2 x0 x1 x2 x3 (.bool true) v22 x6 x7 x8 x9 x10 r11 r12 r13 r14)
  (bindO (fIdxC 2 x10 x3) fun c23 =>
  bindO (c23[0]?) fun v24 =>
  bindO (fIdxC 1 v24 x5) fun c25 =>
  bindO (c25[0]?) fun v26 =>
  bindO (rIdx r13 x5) fun j27 =>
  bindO (rGet r13 j27 0) fun v28 =>
  bindO (fBin .eql v26 v28) fun v29 =>
  bindO (fBin .add x5 (.int .i64 1)) fun v30 =>
  ref02_RunPlanes.L2 x0 x1 x2 x3 v29 v30 x6 x7 x8 x9 x10 r11 r12 r13 r14))
  (bindO (fBin .add x5 (.int .i64 1)) fun v31 =>
  ref02_RunPlanes.L2 x0 x1 x2 x3 (.bool false) v31 x6 x7 x8 x9 x10 r11 r12 r13 r14))
  (ref02_RunPlanes.L3 x0 x1 x2 x3 x4 (.int .i64 0) x6 x7 x8 x9 x10 r11 r12 r13 r14)) := (jden_eq E 14 [] [4, 1, 0, 1, 4, 0, 1, 5, 4, 1, 0, 1, 1, 1, 4, 0, 1, 5, 4, 1, 0, 1, 1, 1, 1, 1, 1] _ _).trans (by kernel_rfl)
theorem ref02_RunPlanes.L3_eq (x0 : FV) (x1 : FV) (x2 : FV) (x3 : FV) (x4 : FV) (x5 : FV) (x6 : FV) (x7 : FV) (x8 : FV) (x9 : FV) (x10 : FV) (r11 : List (List FV)) (r12 : List (List FV)) (r13 : List (List FV)) (r14 : List (List FV)) : ref02_RunPlanes.L3 x0 x1 x2 x3 x4 x5 x6 x7 x8 x9 x10 r11 r12 r13 r14 = (
  bindO (fIdxC 2 x10 x3) fun c16 =>
  bindO (c16[1]?) fun v17 =>
  bindO (fLen v17) fun v18 =>
  bindO (fBin .lss x5 v18) fun v19 =>
  fCond v19
  (fCond x4
  (ref02_RunPlanes.L4 x0 x1 x2 x3 x4 x5 x6 x7 x8 x9 x10 r11 r12 r13 r14)
  (bindO (fBin .add x3 (.int .i64 1)) fun v20 =>
  ref02_RunPlanes.L1 x0 x1 x2 v20 x6 x7 x8 x9 x10 r11 r12 r13 r14))
  (bindO (fBin .add x3 (.int .i64 1)) fun v21 =>
  ref02_RunPlanes.L1 x0 x1 x2 v21 x6 x7 x8 x9 x10 r11 r12 r13 r14)) := (jden_eq E 14 [] [4, 1, 1, 1, 4, 0, 1, 5, 4, 1, 0, 1, 1, 1, 4, 0, 1, 5, 4, 1, 0, 1, 1, 1, 1, 1, 1] _ _).trans (by kernel_rfl)
theorem ref02_RunPlanes.L4_eq (x0 : FV) (x1 : FV) (x2 : FV) (x3 : FV) (x4 : FV) (x5 : FV) (x6 : FV) (x7 : FV) (x8 : FV) (x9 : FV) (x10 : FV) (r11 : List (List FV)) (r12 : List (List FV)) (r13 : List (List FV)) (r14 : List (List FV)) : ref02_RunPlanes.L4 x0 x1 x2 x3 x4 x5 x6 x7 x8 x9 x10 r11 r12 r13 r14 = (
  bindO (fIdxC 2 x10 x3) fun c16 =>
  bindO (c16[1]?) fun v17 =>
  bindO (fIdxC 1 v17 x5) fun c18 =>
  bindO (c18[0]?) fun v19 =>
  bindO (rIdx r14 v19) fun j20 =>
  bindO (rSet r14 j20 0 [.int .i64 1]) fun r21 =>
  bindO (fBin .add x5 (.int .i64 1)) fun v22 =>
  ref02_RunPlanes.L3 x0 x1 x2 x3 x4 v22 x6 x7 x8 x9 x10 r11 r12 r13 r21) := (jden_eq E 14 [] [5, 4, 1, 1, 1, 4, 0, 1, 5, 4, 1, 0, 1, 1, 1, 4, 0, 1, 5, 4, 1, 0, 1, 1, 1, 1, 1, 1] _ _).trans (by kernel_rfl)
/-! ### slices.IndexFunc[[]int,int] (function 138) -/
noncomputable def slices_IndexFunc_int.L0 (x0 : FV) (x1 : FV) (x2 : FV) (x3 : FV) : R := jden E 138 [] [4, 1, 0, 1] (mkF 19 [(0, .f x0), (1, .f x1), (7, .f x2), (8, .f x3)]) []
theorem slices_IndexFunc_int.eq (x0 x1 : FV) : slices_IndexFunc_int x0 x1 = (
  bindO (fLen x0) fun v1 =>
  slices_IndexFunc_int.L0 x0 x1 v1 (.int .i64 0)) := (den_eq E 138 [x0, x1]).trans (by kernel_rfl)
theorem slices_IndexFunc_int.L0_eq (x0 : FV) (x1 : FV) (x2 : FV) (x3 : FV) : slices_IndexFunc_int.L0 x0 x1 x2 x3 = (
  bindO (fBin .lss x3 x2) fun v5 =>
  fCond v5
  (bindO (fIdxC 1 x0 x3) fun c6 =>
  bindO (c6[0]?) fun v7 =>
  bindO (callDyn false x1 [v7]) fun v8 =>
  fCond v8
  (some x3)
  (bindO (fBin .add x3 (.int .i64 1)) fun v9 =>
  slices_IndexFunc_int.L0 x0 x1 x2 v9))
  (some (.int .i64 (-1)))) := (jden_eq E 138 [] [4, 1, 0, 1] _ _).trans (by kernel_rfl)
/-! ### slices.ContainsFunc[[]int,int] (function 52) -/
theorem slices_ContainsFunc_int.eq (x0 x1 : FV) : slices_ContainsFunc_int x0 x1 = (
  bindO (slices_IndexFunc_int x0 x1) fun v1 =>
  bindO (fBin .geq v1 (.int .i64 0)) fun v2 =>
  some v2) := (den_eq E 52 [x0, x1]).trans (by kernel_rfl)
/-! ### ramet/mach.sum (function 134) -/
noncomputable def mach_sum.L0 (x0 : FV) (x1 : FV) (x2 : FV) (x3 : FV) : R := jden E 134 [] [4, 1, 0, 1, 1] (mkF 22 [(4, .f x0), (7, .f x1), (8, .f x2), (9, .f x3)]) []
theorem mach_sum.eq (x0 : FV) : mach_sum x0 = (
  bindO (fLen x0) fun v1 =>
  mach_sum.L0 (.int .i64 0) x0 v1 (.int .i64 0)) := (den_eq E 134 [x0]).trans (by kernel_rfl)
theorem mach_sum.L0_eq (x0 : FV) (x1 : FV) (x2 : FV) (x3 : FV) : mach_sum.L0 x0 x1 x2 x3 = (
  bindO (fBin .lss x3 x2) fun v5 =>
  fCond v5
  (bindO (fIdxC 1 x1 x3) fun c6 =>
  bindO (c6[0]?) fun v7 =>
  bindO (fBin .lss v7 (.int .i64 0)) fun v8 =>
  fCond v8
  (some (.tup [.int .i64 0, .bool false]))
  (bindO (fMinMax false v7 (.int .i64 1000)) fun v9 =>
  bindO (fBin .add x0 v9) fun v10 =>
  bindO (fMinMax false v10 (.int .i64 1000)) fun v11 =>
  bindO (fBin .add x3 (.int .i64 1)) fun v12 =>
  mach_sum.L0 v11 x1 x2 v12))
  (some (.tup [x0, .bool true]))) := (jden_eq E 134 [] [4, 1, 0, 1, 1] _ _).trans (by kernel_rfl)
/-! ### ramet/mach.checkPlane$1 (function 135) -/
theorem mach_checkPlane_1.eq (x0 : FV) : mach_checkPlane_1 x0 = (
  bindO (fBin .neq x0 (.int .i64 0)) fun v1 =>
  fCond v1
  (bindO (fBin .neq x0 (.int .i64 1)) fun v2 =>
  some v2)
  (some (.bool false))) := (den_eq E 135 [x0]).trans (by kernel_rfl)
/-! ### ramet/mach.checkPlane$2 (function 136) -/
noncomputable def mach_checkPlane_2.L0 (x0 : FV) (x1 : FV) (x2 : FV) (x3 : FV) : R := jden E 136 [] [4, 1, 0, 1, 1] (mkF 23 [(3, .f x0), (6, .f x1), (7, .f x2), (8, .f x3)]) []
theorem mach_checkPlane_2.eq (x0 : FV) : mach_checkPlane_2 x0 = (
  bindO (fLen x0) fun v1 =>
  mach_checkPlane_2.L0 (.int .i64 0) x0 v1 (.int .i64 0)) := (den_eq E 136 [x0]).trans (by kernel_rfl)
theorem mach_checkPlane_2.L0_eq (x0 : FV) (x1 : FV) (x2 : FV) (x3 : FV) : mach_checkPlane_2.L0 x0 x1 x2 x3 = (
  bindO (fBin .lss x3 x2) fun v5 =>
  fCond v5
  (bindO (fIdxC 1 x1 x3) fun c6 =>
  bindO (c6[0]?) fun v7 =>
  bindO (fBin .add x0 v7) fun v8 =>
  bindO (fBin .lss v8 (.int .i64 0)) fun v9 =>
  fCond v9
  (some (.int .i64 1099511627776))
  (bindO (fBin .gtr v8 (.int .i64 1099511627776)) fun v10 =>
  fCond v10
  (some (.int .i64 1099511627776))
  (bindO (fBin .add x3 (.int .i64 1)) fun v11 =>
  mach_checkPlane_2.L0 v8 x1 x2 v11)))
  (some x0)) := (jden_eq E 136 [] [4, 1, 0, 1, 1] _ _).trans (by kernel_rfl)
/-! ### ramet/mach.checkPlane$3 (function 137) -/
theorem mach_checkPlane_3.eq (x0 : FV) : mach_checkPlane_3 x0 = (
  bindO (fBin .lss x0 (.int .i64 (-1))) fun v1 =>
  fCond v1
  (some (.bool true))
  (bindO (fBin .gtr x0 (.int .i64 1)) fun v2 =>
  some v2)) := (den_eq E 137 [x0]).trans (by kernel_rfl)
/-! ### ramet/mach.checkPlane (function 51) -/
noncomputable def mach_checkPlane.L0 (x0 : FV) (x1 : FV) (x2 : FV) (x3 : FV) (x4 : FV) (x5 : FV) (x6 : FV) : R := jden E 51 [] [1, 1, 1] (mkF 114 [(1, .ptr 0 0 0), (2, .f x0), (3, .f x1)]) [.box [.f x2, .f x3, .f x4, .f x5, .f x6]]
noncomputable def mach_checkPlane.L1 (x0 : FV) (x1 : FV) (x2 : FV) (x3 : FV) (x4 : FV) (x5 : FV) (x6 : FV) : R := jden E 51 [] [1, 1, 1, 1, 1, 1] (mkF 114 [(1, .ptr 0 0 0), (2, .f x0), (3, .f x1), (7, .func 136 [])]) [.box [.f x2, .f x3, .f x4, .f x5, .f x6]]
noncomputable def mach_checkPlane.L2 (x0 : FV) (x1 : FV) (x2 : FV) (x3 : FV) (x4 : FV) (x5 : FV) (x6 : FV) : R := jden E 51 [] [1, 1, 1, 1, 1, 1, 1] (mkF 114 [(1, .ptr 0 0 0), (2, .f x0), (3, .f x1)]) [.box [.f x2, .f x3, .f x4, .f x5, .f x6]]
noncomputable def mach_checkPlane.L3 (x0 : FV) (x1 : FV) (x2 : FV) (x3 : FV) (x4 : FV) (x5 : FV) (x6 : FV) (x7 : FV) (x8 : FV) (x9 : FV) : R := jden E 51 [] [4, 1, 0, 1, 1, 1, 1, 1, 1, 1, 1] (mkF 114 [(1, .ptr 0 0 0), (2, .f x0), (3, .f x1), (59, .f x2), (60, .f x3), (61, .f x4)]) [.box [.f x5, .f x6, .f x7, .f x8, .f x9]]
noncomputable def mach_checkPlane.L4 (x0 : FV) (x1 : FV) (x2 : FV) (x3 : FV) (x4 : FV) (x5 : FV) (x6 : FV) (x7 : FV) (x8 : FV) (x9 : FV) (x10 : FV) (x11 : FV) : R := jden E 51 [] [1, 4, 0, 1, 1, 5, 4, 1, 0, 1, 1, 1, 1, 1, 1, 1, 1] (mkF 114 [(1, .ptr 0 0 0), (2, .f x0), (3, .f x1), (9, .ptr 1 0 0), (59, .f x2), (60, .f x3), (61, .f x4)]) [.box [.f x5, .f x6, .f x7, .f x8, .f x9], .box [.f x10, .f x11]]
noncomputable def mach_checkPlane.L5 (x0 : FV) (x1 : FV) (x2 : FV) (x3 : FV) (x4 : FV) (x5 : FV) (x6 : FV) (x7 : FV) (x8 : FV) (x9 : FV) (x10 : FV) (x11 : FV) (x12 : FV) (x13 : FV) (x14 : FV) : R := jden E 51 [] [4, 1, 1, 1, 4, 0, 1, 1, 5, 4, 1, 0, 1, 1, 1, 1, 1, 1, 1, 1] (mkF 114 [(1, .ptr 0 0 0), (2, .f x0), (3, .f x1), (9, .ptr 1 0 0), (59, .f x2), (60, .f x3), (61, .f x4), (79, .f x5), (80, .f x6), (81, .f x7)]) [.box [.f x8, .f x9, .f x10, .f x11, .f x12], .box [.f x13, .f x14]]
theorem mach_checkPlane.eq (x0 : FV) : mach_checkPlane x0 = (
  gB (fIsAgg 5 x0) <|
  bindO (mach_sum (fCell x0 0)) fun v1 =>
  gB (fIsTup 2 v1) <|
  bindO (mach_sum (fCell x0 1)) fun v2 =>
  gB (fIsTup 2 v2) <|
  bindO (fUn .not (fTup v1 1)) fun v3 =>
  fCond v3
  (some (.tup [.int .i64 0, .int .i64 0, .int .i64 27]))
  (bindO (fUn .not (fTup v2 1)) fun v4 =>
  fCond v4
  (some (.tup [.int .i64 0, .int .i64 0, .int .i64 27]))
  (bindO (fBin .lss (fCell x0 2) (.int .i64 0)) fun v5 =>
  fCond v5
  (some (.tup [.int .i64 0, .int .i64 0, .int .i64 27]))
  (bindO (fLen (fCell x0 3)) fun v6 =>
  bindO (fBin .neq v6 (fCell x0 2)) fun v7 =>
  fCond v7
  (some (.tup [.int .i64 0, .int .i64 0, .int .i64 27]))
  (mach_checkPlane.L0 (fTup v1 0) (fTup v2 0) (fCell x0 0) (fCell x0 1) (fCell x0 2) (fCell x0 3) (fCell x0 4)))))) := (den_eq E 51 [x0]).trans (by kernel_rfl)
theorem mach_checkPlane.L0_eq (x0 : FV) (x1 : FV) (x2 : FV) (x3 : FV) (x4 : FV) (x5 : FV) (x6 : FV) : mach_checkPlane.L0 x0 x1 x2 x3 x4 x5 x6 = (
  bindO (slices_ContainsFunc_int x5 (.func 135 [])) fun v8 =>
  fCond v8
  (some (.tup [.int .i64 0, .int .i64 0, .int .i64 27]))
  (bindO (fBin .eql x0 (.int .i64 1000)) fun v9 =>
  fCond v9
  (bindO (mach_checkPlane_2 x2) fun v10 =>
  mach_checkPlane.L1 v10 x1 x2 x3 x4 x5 x6)
  (mach_checkPlane.L1 x0 x1 x2 x3 x4 x5 x6))) := (jden_eq E 51 [] [1, 1, 1] _ _).trans (by kernel_rfl)
theorem mach_checkPlane.L1_eq (x0 : FV) (x1 : FV) (x2 : FV) (x3 : FV) (x4 : FV) (x5 : FV) (x6 : FV) : mach_checkPlane.L1 x0 x1 x2 x3 x4 x5 x6 = (
  bindO (fBin .eql x1 (.int .i64 1000)) fun v8 =>
  fCond v8
  (bindO (mach_checkPlane_2 x3) fun v9 =>
  mach_checkPlane.L2 x0 v9 x2 x3 x4 x5 x6)
  (mach_checkPlane.L2 x0 x1 x2 x3 x4 x5 x6)) := (jden_eq E 51 [] [1, 1, 1, 1, 1, 1] _ _).trans (by kernel_rfl)
theorem mach_checkPlane.L2_eq (x0 : FV) (x1 : FV) (x2 : FV) (x3 : FV) (x4 : FV) (x5 : FV) (x6 : FV) : mach_checkPlane.L2 x0 x1 x2 x3 x4 x5 x6 = (
  bindO (fLen x6) fun v8 =>
  mach_checkPlane.L3 x0 x1 x6 v8 (.int .i64 0) x2 x3 x4 x5 x6) := (jden_eq E 51 [] [1, 1, 1, 1, 1, 1, 1] _ _).trans (by kernel_rfl)
theorem mach_checkPlane.L3_eq (x0 : FV) (x1 : FV) (x2 : FV) (x3 : FV) (x4 : FV) (x5 : FV) (x6 : FV) (x7 : FV) (x8 : FV) (x9 : FV) : mach_checkPlane.L3 x0 x1 x2 x3 x4 x5 x6 x7 x8 x9 = (
  bindO (fBin .lss x4 x3) fun v11 =>
  fCond v11
  (bindO (fIdxC 2 x2 x4) fun c12 =>
  bindO (c12[0]?) fun v13 =>
  bindO (c12[1]?) fun v14 =>
  bindO (fLen v13) fun v15 =>
  bindO (fBin .add x0 x7) fun v16 =>
  bindO (fBin .neq v15 v16) fun v17 =>
  fCond v17
  (some (.tup [.int .i64 0, .int .i64 0, .int .i64 27]))
  (bindO (slices_ContainsFunc_int v13 (.func 137 [])) fun v18 =>
  fCond v18
  (some (.tup [.int .i64 0, .int .i64 0, .int .i64 27]))
  (mach_checkPlane.L4 x0 x1 x2 x3 x4 x5 x6 x7 x8 x9 v13 v14)))
  (some (.tup [x0, x1, .int .i64 0]))) := (jden_eq E 51 [] [4, 1, 0, 1, 1, 1, 1, 1, 1, 1, 1] _ _).trans (by kernel_rfl)
theorem mach_checkPlane.L4_eq (x0 : FV) (x1 : FV) (x2 : FV) (x3 : FV) (x4 : FV) (x5 : FV) (x6 : FV) (x7 : FV) (x8 : FV) (x9 : FV) (x10 : FV) (x11 : FV) : mach_checkPlane.L4 x0 x1 x2 x3 x4 x5 x6 x7 x8 x9 x10 x11 = (
  bindO (fLen x11) fun v13 =>
  mach_checkPlane.L5 x0 x1 x2 x3 x4 x11 v13 (.int .i64 0) x5 x6 x7 x8 x9 x10 x11) := (jden_eq E 51 [] [1, 4, 0, 1, 1, 5, 4, 1, 0, 1, 1, 1, 1, 1, 1, 1, 1] _ _).trans (by kernel_rfl)
theorem mach_checkPlane.L5_eq (x0 : FV) (x1 : FV) (x2 : FV) (x3 : FV) (x4 : FV) (x5 : FV) (x6 : FV) (x7 : FV) (x8 : FV) (x9 : FV) (x10 : FV) (x11 : FV) (x12 : FV) (x13 : FV) (x14 : FV) : mach_checkPlane.L5 x0 x1 x2 x3 x4 x5 x6 x7 x8 x9 x10 x11 x12 x13 x14 = (
  bindO (fBin .lss x7 x6) fun v16 =>
  fCond v16
  (bindO (fIdxC 1 x5 x7) fun c17 =>
  bindO (c17[0]?) fun v18 =>
  bindO (fBin .lss v18 (.int .i64 0)) fun v19 =>
  fCond v19
  (some (.tup [.int .i64 0, .int .i64 0, .int .i64 27]))
  (bindO (fBin .add x1 x10) fun v20 =>
  bindO (fBin .geq v18 v20) fun v21 =>
  fCond v21
  (some (.tup [.int .i64 0, .int .i64 0, .int .i64 27]))
  (bindO (fBin .gtr x7 (.int .i64 0)) fun v22 =>
  fCond v22
  (bindO (fBin .sub x7 (.int .i64 1)) fun v23 =>
  bindO (fIdxC 1 x14 v23) fun c24 =>
  bindO (c24[0]?) fun v25 =>
  bindO (fBin .leq v18 v25) fun v26 =>
  fCond v26
  (some (.tup [.int .i64 0, .int .i64 0, .int .i64 27]))
  (bindO (fBin .add x7 (.int .i64 1)) fun v27 =>
  mach_checkPlane.L5 x0 x1 x2 x3 x4 x5 x6 v27 x8 x9 x10 x11 x12 x13 x14))
  (bindO (fBin .add x7 (.int .i64 1)) fun v28 =>
  mach_checkPlane.L5 x0 x1 x2 x3 x4 x5 x6 v28 x8 x9 x10 x11 x12 x13 x14))))
  (bindO (fBin .add x4 (.int .i64 1)) fun v29 =>
  mach_checkPlane.L3 x0 x1 x2 x3 v29 x8 x9 x10 x11 x12)) := (jden_eq E 51 [] [4, 1, 1, 1, 4, 0, 1, 1, 5, 4, 1, 0, 1, 1, 1, 1, 1, 1, 1, 1] _ _).trans (by kernel_rfl)
/-! ### ramet/mach.RunPlanes$1 (function 53) -/
theorem mach_RunPlanes_1.eq (x0 : FV) : mach_RunPlanes_1 x0 = (
  bindO (fBin .neq x0 (.int .i64 0)) fun v1 =>
  fCond v1
  (bindO (fBin .neq x0 (.int .i64 1)) fun v2 =>
  some v2)
  (some (.bool false))) := (den_eq E 53 [x0]).trans (by kernel_rfl)
/-! ### slices.Clone[[]int,int] (function 54) -/
theorem slices_Clone_int.eq (x0 : FV) : slices_Clone_int x0 = (
  onFV x0
  (some (.arr []))
  (bindO (asRows x0) fun r1 =>
  gB (rowsSz 1 r1) <|
  gB (decide ((0 + r1.length) * 8 ≤ room)) <|
  some (.arr ([] ++ r1)))) := (den_eq E 54 [x0]).trans (by kernel_rfl)
/-! ### ramet/mach.RunPlanes (function 15) -/
noncomputable def mach_RunPlanes.L0 (x0 : FV) (x1 : FV) (x2 : FV) (x3 : FV) (x4 : FV) (x5 : FV) (x6 : FV) (x7 : FV) : R := jden E 15 [] [1, 1, 1] (mkF 133 [(1, .f x0), (2, .ptr 0 0 0), (6, .f x1), (7, .f x2)]) [.box [.f x3, .f x4, .f x5, .f x6, .f x7]]
noncomputable def mach_RunPlanes.L1 (x0 : FV) (x1 : FV) (x2 : FV) (x3 : FV) (x4 : FV) (x5 : FV) (x6 : FV) (x7 : FV) (x8 : FV) (x9 : FV) (x10 : FV) : R := jden E 15 [] [4, 1, 0, 1, 1, 1, 1] (mkF 133 [(1, .f x0), (2, .ptr 0 0 0), (6, .f x1), (7, .f x2), (50, .f x3), (51, .f x4), (52, .f x5)]) [.box [.f x6, .f x7, .f x8, .f x9, .f x10]]
noncomputable def mach_RunPlanes.L2 (x0 : FV) (x1 : FV) (x2 : FV) (x3 : FV) (x4 : FV) (x5 : FV) (x6 : FV) (x7 : FV) (x8 : FV) (x9 : FV) (r10 : List (List FV)) (r11 : List (List FV)) : R := jden E 15 [] [4, 1, 0, 1, 1, 1, 1, 1, 1, 1] (mkF 133 [(2, .ptr 0 0 0), (7, .f x0), (11, .f x1), (12, .ref 2), (68, .f x2), (69, .f x3), (70, .f x4)]) [.box [.f x5, .f x6, .f x7, .f x8, .f x9], .fz r10, .own 1 r11]
noncomputable def mach_RunPlanes.L4 (x0 : FV) (x1 : FV) (x2 : FV) (x3 : FV) (x4 : FV) (x5 : FV) (x6 : FV) (x7 : FV) (x8 : FV) (x9 : FV) (x10 : FV) (x11 : FV) (r12 : List (List FV)) (r13 : List (List FV)) (r14 : List (List FV)) (r15 : List (List FV)) : R := jden E 15 [] [4, 1, 0, 1, 1, 6, 1, 4, 0, 1, 1, 5, 4, 1, 0, 1, 1, 1, 1, 1, 1, 1] (mkF 133 [(2, .ptr 0 0 0), (7, .f x0), (12, .ref 2), (15, .ref 4), (16, .ref 5), (68, .f x1), (69, .f x2), (70, .f x3), (84, .f x4), (85, .f x5), (86, .f x6)]) [.box [.f x7, .f x8, .f x9, .f x10, .f x11], .fz r12, .own 1 r13, .dead, .own 1 r14, .own 1 r15]
noncomputable def mach_RunPlanes.L5 (x0 : FV) (x1 : FV) (x2 : FV) (x3 : FV) (x4 : FV) (x5 : FV) (x6 : FV) (x7 : FV) (x8 : FV) (x9 : FV) (x10 : FV) (x11 : FV) (x12 : FV) (x13 : FV) (x14 : FV) (r15 : List (List FV)) (r16 : List (List FV)) (r17 : List (List FV)) (r18 : List (List FV)) (x19 : FV) (x20 : FV) : R := jden E 15 [] [4, 1, 0, 1, 4, 0, 1, 1, 5, 4, 1, 0, 1, 1, 6, 1, 4, 0, 1, 1, 5, 4, 1, 0, 1, 1, 1, 1, 1, 1, 1] (mkF 133 [(2, .ptr 0 0 0), (7, .f x0), (12, .ref 2), (15, .ref 4), (16, .ref 5), (18, .ptr 6 0 0), (68, .f x1), (69, .f x2), (70, .f x3), (84, .f x4), (85, .f x5), (86, .f x6), (91, .f x7), (92, .f x8), (93, .f x9)]) [.box [.f x10, .f x11, .f x12, .f x13, .f x14], .fz r15, .own 1 r16, .dead, .own 1 r17, .own 1 r18, .box [.f x19, .f x20]]
noncomputable def mach_RunPlanes.L3 (x0 : FV) (x1 : FV) (x2 : FV) (x3 : FV) (x4 : FV) (x5 : FV) (x6 : FV) (x7 : FV) (x8 : FV) (x9 : FV) (r10 : List (List FV)) (r11 : List (List FV)) (r12 : List (List FV)) (r13 : List (List FV)) : R := jden E 15 [] [1, 1, 6, 1, 4, 0, 1, 1, 5, 4, 1, 0, 1, 1, 1, 1, 1, 1, 1] (mkF 133 [(2, .ptr 0 0 0), (7, .f x0), (12, .ref 2), (16, .f x1), (68, .f x2), (69, .f x3), (70, .f x4)]) [.box [.f x5, .f x6, .f x7, .f x8, .f x9], .fz r10, .own 1 r11, .dead, .own 1 r12, .fz r13]
noncomputable def mach_RunPlanes.L6 (x0 : FV) (x1 : FV) (x2 : FV) (x3 : FV) (x4 : FV) (x5 : FV) (x6 : FV) (x7 : FV) (x8 : FV) (x9 : FV) (x10 : FV) (x11 : FV) (x12 : FV) (x13 : FV) (x14 : FV) (r15 : List (List FV)) (r16 : List (List FV)) (r17 : List (List FV)) (r18 : List (List FV)) (x19 : FV) (x20 : FV) : R := jden E 15 [] [4, 1, 1, 1, 4, 0, 1, 1, 5, 4, 1, 0, 1, 1, 6, 1, 4, 0, 1, 1, 5, 4, 1, 0, 1, 1, 1, 1, 1, 1, 1] (mkF 133 [(2, .ptr 0 0 0), (7, .f x0), (12, .ref 2), (15, .ref 4), (16, .ref 5), (68, .f x1), (69, .f x2), (70, .f x3), (84, .f x4), (85, .f x5), (86, .f x6), (110, .f x7), (111, .f x8), (112, .f x9)]) [.box [.f x10, .f x11, .f x12, .f x13, .f x14], .fz r15, .own 1 r16, .dead, .own 1 r17, .own 1 r18, .box [.f x19, .f x20]]
theorem mach_RunPlanes.eq (x0 x1 : FV) : mach_RunPlanes x0 x1 = (
  gB (fIsAgg 5 x0) <|
  bindO (mach_checkPlane (.agg [(fCell x0 0), (fCell x0 1), (fCell x0 2), (fCell x0 3), (fCell x0 4)])) fun v1 =>
  gB (fIsTup 3 v1) <|
  bindO (fBin .neq (fTup v1 2) (.int .i64 0)) fun v2 =>
  fCond v2
  (some (.tup [.nilS, (fTup v1 2)]))
  (bindO (fBin .add (fTup v1 0) (fTup v1 1)) fun v3 =>
  bindO (fBin .add v3 (fCell x0 2)) fun v4 =>
  bindO (fBin .gtr v4 (.int .i64 128)) fun v5 =>
  fCond v5
  (some (.tup [.nilS, .int .i64 26]))
  (bindO (fLen (fCell x0 4)) fun v6 =>
  bindO (fBin .gtr v6 (.int .i64 1024)) fun v7 =>
  fCond v7
  (some (.tup [.nilS, .int .i64 26]))
  (bindO (fLen x1) fun v8 =>
  bindO (fBin .gtr v8 (.int .i64 4096)) fun v9 =>
  fCond v9
  (some (.tup [.nilS, .int .i64 26]))
  (mach_RunPlanes.L0 x1 (fTup v1 0) (fTup v1 1) (fCell x0 0) (fCell x0 1) (fCell x0 2) (fCell x0 3) (fCell x0 4)))))) := (den_eq E 15 [x0, x1]).trans (by kernel_rfl)
theorem mach_RunPlanes.L0_eq (x0 : FV) (x1 : FV) (x2 : FV) (x3 : FV) (x4 : FV) (x5 : FV) (x6 : FV) (x7 : FV) : mach_RunPlanes.L0 x0 x1 x2 x3 x4 x5 x6 x7 = (
  bindO (fLen x0) fun v9 =>
  mach_RunPlanes.L1 x0 x1 x2 x0 v9 (.int .i64 0) x3 x4 x5 x6 x7) := (jden_eq E 15 [] [1, 1, 1] _ _).trans (by kernel_rfl)
theorem mach_RunPlanes.L1_eq (x0 : FV) (x1 : FV) (x2 : FV) (x3 : FV) (x4 : FV) (x5 : FV) (x6 : FV) (x7 : FV) (x8 : FV) (x9 : FV) (x10 : FV) : mach_RunPlanes.L1 x0 x1 x2 x3 x4 x5 x6 x7 x8 x9 x10 = (
  bindO (fBin .lss x5 x4) fun v12 =>
  fCond v12
  (bindO (fIdxC 1 x3 x5) fun c13 =>
  bindO (c13[0]?) fun v14 =>
  bindO (fLen v14) fun v15 =>
  bindO (fBin .neq v15 x1) fun v16 =>
  fCond v16
  (some (.tup [.nilS, .int .i64 27]))
  (bindO (slices_ContainsFunc_int v14 (.func 53 [])) fun v17 =>
  fCond v17
  (some (.tup [.nilS, .int .i64 27]))
  (bindO (fBin .add x5 (.int .i64 1)) fun v18 =>
  mach_RunPlanes.L1 x0 x1 x2 x3 x4 v18 x6 x7 x8 x9 x10)))
  (bindO (slices_Clone_int x9) fun v19 =>
  bindO (arrRows v19) fun r20 =>
  bindO (fLen x0) fun v21 =>
  mach_RunPlanes.L2 x2 (.arr r20) x0 v21 (.int .i64 0) x6 x7 x8 x9 x10 r20 [])) := (jden_eq E 15 [] [4, 1, 0, 1, 1, 1, 1] _ _).trans (by kernel_rfl)
theorem mach_RunPlanes.L2_eq (x0 : FV) (x1 : FV) (x2 : FV) (x3 : FV) (x4 : FV) (x5 : FV) (x6 : FV) (x7 : FV) (x8 : FV) (x9 : FV) (r10 : List (List FV)) (r11 : List (List FV)) : mach_RunPlanes.L2 x0 x1 x2 x3 x4 x5 x6 x7 x8 x9 r10 r11 = (
  bindO (fBin .lss x4 x3) fun v13 =>
  fCond v13
  (bindO (fIdxC 1 x2 x4) fun c14 =>
  bindO (c14[0]?) fun v15 =>
  bindO (fBin .add x0 x7) fun v16 =>
  bindO (slices_Clone_int v15) fun v17 =>
  bindO (arrRows v17) fun r18 =>
  bindO (asRows x1) fun r19 =>
  gB (rowsSz 1 r19) <|
  gB (decide ((r18.length + r19.length) * 8 ≤ room)) <|
  bindO (asNat v16) fun j20 =>
  bindO (asNat v16) fun j21 =>
  gB (j20 ≤ j21 && j21 * 8 ≤ room && 1 ≥ 1) <|
  bindO (fLen x9) fun v22 =>
  mach_RunPlanes.L4 x0 x2 x3 x4 x9 v22 (.int .i64 0) x5 x6 x7 x8 x9 r10 r11 (r18 ++ r19) (List.replicate j20 [(.int .i64 0 : FV)]))
  (some (.tup [.arr r11, .int .i64 0]))) := (jden_eq E 15 [] [4, 1, 0, 1, 1, 1, 1, 1, 1, 1] _ _).trans (by kernel_rfl)
theorem mach_RunPlanes.L4_eq (x0 : FV) (x1 : FV) (x2 : FV) (x3 : FV) (x4 : FV) (x5 : FV) (x6 : FV) (x7 : FV) (x8 : FV) (x9 : FV) (x10 : FV) (x11 : FV) (r12 : List (List FV)) (r13 : List (List FV)) (r14 : List (List FV)) (r15 : List (List FV)) : mach_RunPlanes.L4 x0 x1 x2 x3 x4 x5 x6 x7 x8 x9 x10 x11 r12 r13 r14 r15 = (
  bindO (fBin .lss x6 x5) fun v17 =>
  fCond v17
  (bindO (fIdxC 2 x4 x6) fun c18 =>
  bindO (c18[0]?) fun v19 =>
  bindO (c18[1]?) fun v20 =>
  bindO (fLen v19) fun v21 =>
  mach_RunPlanes.L5 x0 x1 x2 x3 x4 x5 x6 v19 v21 (.int .i64 0) x7 x8 x9 x10 x11 r12 r13 r14 r15 v19 v20)
  (mach_RunPlanes.L3 x0 (.arr r15) x1 x2 x3 x7 x8 x9 x10 x11 r12 r13 r14 r15)) := (jden_eq E 15 [] [4, 1, 0, 1, 1, 6, 1, 4, 0, 1, 1, 5, 4, 1, 0, 1, 1, 1, 1, 1, 1, 1] _ _).trans (by kernel_rfl)
theorem mach_RunPlanes.L5_eq (x0 : FV) (x1 : FV) (x2 : FV) (x3 : FV) (x4 : FV) (x5 : FV) (x6 : FV) (x7 : FV) (x8 : FV) (x9 : FV) (x10 : FV) (x11 : FV) (x12 : FV) (x13 : FV) (x14 : FV) (r15 : List (List FV)) (r16 : List (List FV)) (r17 : List (List FV)) (r18 : List (List FV)) (x19 : FV) (x20 : FV) : mach_RunPlanes.L5 x0 x1 x2 x3 x4 x5 x6 x7 x8 x9 x10 x11 x12 x13 x14 r15 r16 r17 r18 x19 x20 = (
  bindO (fBin .lss x9 x8) fun v22 =>
  fCond v22
  (bindO (fIdxC 1 x7 x9) fun c23 =>
  bindO (c23[0]?) fun v24 =>
  bindO (fBin .geq v24 (.int .i64 0)) fun v25 =>
  fCond v25
  (bindO (rIdx r17 x9) fun j26 =>
  bindO (rGet r17 j26 0) fun v27 =>
  bindO (fBin .neq v24 v27) fun v28 =>
  fCond v28
  (bindO (fBin .add x6 (.int .i64 1)) fun v29 =>
  mach_RunPlanes.L4 x0 x1 x2 x3 x4 x5 v29 x10 x11 x12 x13 x14 r15 r16 r17 r18)
  (bindO (fBin .add x9 (.int .i64 1)) fun v30 =>
  mach_RunPlanes.L5 x0 x1 x2 x3 x4 x5 x6 x7 x8 v30 x10 x11 x12 x13 x14 r15 r16 r17 r18 x19 x20))
  (bindO (fBin .add x9 (.int .i64 1)) fun v31 =>
  mach_RunPlanes.L5 x0 x1 x2 x3 x4 x5 x6 x7 x8 v31 x10 x11 x12 x13 x14 r15 r16 r17 r18 x19 x20))
  (bindO (fLen x20) fun v32 =>
  mach_RunPlanes.L6 x0 x1 x2 x3 x4 x5 x6 x20 v32 (.int .i64 0) x10 x11 x12 x13 x14 r15 r16 r17 r18 x19 x20)) := (jden_eq E 15 [] [4, 1, 0, 1, 4, 0, 1, 1, 5, 4, 1, 0, 1, 1, 6, 1, 4, 0, 1, 1, 5, 4, 1, 0, 1, 1, 1, 1, 1, 1, 1] _ _).trans (by kernel_rfl)
theorem mach_RunPlanes.L3_eq (x0 : FV) (x1 : FV) (x2 : FV) (x3 : FV) (x4 : FV) (x5 : FV) (x6 : FV) (x7 : FV) (x8 : FV) (x9 : FV) (r10 : List (List FV)) (r11 : List (List FV)) (r12 : List (List FV)) (r13 : List (List FV)) : mach_RunPlanes.L3 x0 x1 x2 x3 x4 x5 x6 x7 x8 x9 r10 r11 r12 r13 = (
  bindO (asNat x0) fun j18 =>
  bindO (asNat x0) fun j19 =>
  gB (Nat.beq j19 j18) <|
  bindO (fCut 1 x1 none (some x0)) fun v15 =>
  bindO (fCut 1 x1 (some x0) none) fun v16 =>
  gB (decide ((r11.length + 1) * 24 ≤ room)) <|
  bindO (fBin .add x4 (.int .i64 1)) fun v17 =>
  mach_RunPlanes.L2 x0 v16 x2 x3 v17 x5 x6 x7 x8 x9 r10 (r11 ++ [[v15]])) := (jden_eq E 15 [] [1, 1, 6, 1, 4, 0, 1, 1, 5, 4, 1, 0, 1, 1, 1, 1, 1, 1, 1] _ _).trans (by kernel_rfl)
theorem mach_RunPlanes.L6_eq (x0 : FV) (x1 : FV) (x2 : FV) (x3 : FV) (x4 : FV) (x5 : FV) (x6 : FV) (x7 : FV) (x8 : FV) (x9 : FV) (x10 : FV) (x11 : FV) (x12 : FV) (x13 : FV) (x14 : FV) (r15 : List (List FV)) (r16 : List (List FV)) (r17 : List (List FV)) (r18 : List (List FV)) (x19 : FV) (x20 : FV) : mach_RunPlanes.L6 x0 x1 x2 x3 x4 x5 x6 x7 x8 x9 x10 x11 x12 x13 x14 r15 r16 r17 r18 x19 x20 = (
  bindO (fBin .lss x9 x8) fun v22 =>
  fCond v22
  (bindO (fIdxC 1 x7 x9) fun c23 =>
  bindO (c23[0]?) fun v24 =>
  bindO (rIdx r18 v24) fun j25 =>
  bindO (rSet r18 j25 0 [.int .i64 1]) fun r26 =>
  bindO (fBin .add x9 (.int .i64 1)) fun v27 =>
  mach_RunPlanes.L6 x0 x1 x2 x3 x4 x5 x6 x7 x8 v27 x10 x11 x12 x13 x14 r15 r16 r17 r26 x19 x20)
  (bindO (fBin .add x6 (.int .i64 1)) fun v28 =>
  mach_RunPlanes.L4 x0 x1 x2 x3 x4 x5 v28 x10 x11 x12 x13 x14 r15 r16 r17 r18)) := (jden_eq E 15 [] [4, 1, 1, 1, 4, 0, 1, 1, 5, 4, 1, 0, 1, 1, 6, 1, 4, 0, 1, 1, 5, 4, 1, 0, 1, 1, 1, 1, 1, 1, 1] _ _).trans (by kernel_rfl)
/-! ### ramet/rametref02.sameInts (function 55) -/
noncomputable def ref02_sameInts.L0 (x0 : FV) (x1 : FV) (x2 : FV) : R := jden E 55 [] [4, 1, 0, 1, 1] (mkF 26 [(0, .f x0), (1, .f x1), (5, .f x2)]) []
theorem ref02_sameInts.eq (x0 x1 : FV) : ref02_sameInts x0 x1 = (
  bindO (fLen x0) fun v1 =>
  bindO (fLen x1) fun v2 =>
  bindO (fBin .neq v1 v2) fun v3 =>
  fCond v3
  (some (.bool false))
  (ref02_sameInts.L0 x0 x1 (.int .i64 0))) := (den_eq E 55 [x0, x1]).trans (by kernel_rfl)
theorem ref02_sameInts.L0_eq (x0 : FV) (x1 : FV) (x2 : FV) : ref02_sameInts.L0 x0 x1 x2 = (
  bindO (fLen x0) fun v4 =>
  bindO (fBin .lss x2 v4) fun v5 =>
  fCond v5
  (bindO (fIdxC 1 x0 x2) fun c6 =>
  bindO (c6[0]?) fun v7 =>
  bindO (fIdxC 1 x1 x2) fun c8 =>
  bindO (c8[0]?) fun v9 =>
  bindO (fBin .neq v7 v9) fun v10 =>
  fCond v10
  (some (.bool false))
  (bindO (fBin .add x2 (.int .i64 1)) fun v11 =>
  ref02_sameInts.L0 x0 x1 v11))
  (some (.bool true))) := (jden_eq E 55 [] [4, 1, 0, 1, 1] _ _).trans (by kernel_rfl)
/-! ### ramet/rametref02.SameLists (function 16) -/
noncomputable def ref02_SameLists.L0 (x0 : FV) (x1 : FV) (x2 : FV) : R := jden E 16 [] [4, 1, 0, 1, 1] (mkF 27 [(0, .f x0), (1, .f x1), (5, .f x2)]) []
theorem ref02_SameLists.eq (x0 x1 : FV) : ref02_SameLists x0 x1 = (
  bindO (fLen x0) fun v1 =>
  bindO (fLen x1) fun v2 =>
  bindO (fBin .neq v1 v2) fun v3 =>
  fCond v3
  (some (.bool false))
  (ref02_SameLists.L0 x0 x1 (.int .i64 0))) := (den_eq E 16 [x0, x1]).trans (by kernel_rfl)
theorem ref02_SameLists.L0_eq (x0 : FV) (x1 : FV) (x2 : FV) : ref02_SameLists.L0 x0 x1 x2 = (
  bindO (fLen x0) fun v4 =>
  bindO (fBin .lss x2 v4) fun v5 =>
  fCond v5
  (bindO (fIdxC 1 x0 x2) fun c6 =>
  bindO (c6[0]?) fun v7 =>
  bindO (fIdxC 1 x1 x2) fun c8 =>
  bindO (c8[0]?) fun v9 =>
  bindO (ref02_sameInts v7 v9) fun v10 =>
  bindO (fUn .not v10) fun v11 =>
  fCond v11
  (some (.bool false))
  (bindO (fBin .add x2 (.int .i64 1)) fun v12 =>
  ref02_SameLists.L0 x0 x1 v12))
  (some (.bool true))) := (jden_eq E 16 [] [4, 1, 0, 1, 1] _ _).trans (by kernel_rfl)
/-! ### ramet/rametlaw02.MachAnyPlane (function 3) -/
theorem law02_MachAnyPlane.eq (x0 x1 : FV) : law02_MachAnyPlane x0 x1 = (
  gB (fIsAgg 5 x0) <|
  bindO (ref02_RunPlanes (.agg [(fCell x0 0), (fCell x0 1), (fCell x0 2), (fCell x0 3), (fCell x0 4)]) x1) fun v1 =>
  gB (fIsTup 2 v1) <|
  bindO (mach_RunPlanes (.agg [(fCell x0 0), (fCell x0 1), (fCell x0 2), (fCell x0 3), (fCell x0 4)]) x1) fun v2 =>
  gB (fIsTup 2 v2) <|
  bindO (fBin .eql (fTup v2 1) (fTup v1 1)) fun v3 =>
  fCond v3
  (bindO (ref02_SameLists (fTup v2 0) (fTup v1 0)) fun v4 =>
  some v4)
  (some (.bool false))) := (den_eq E 3 [x0, x1]).trans (by kernel_rfl)
end Go.Proofs.Ytelcbakleaaneaa
