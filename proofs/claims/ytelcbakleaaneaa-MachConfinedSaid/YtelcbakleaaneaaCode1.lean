/- The code of the functions, as the abstract machine runs it. -/
import Derived.Test.YtelcbakleaaneaaEnv
import Derived.KernelRfl
namespace Go.Proofs.Ytelcbakleaaneaa
open Go Go.Proofs.Ytelcbakleaaneaa.VM
set_option linter.unusedVariables false
/-! ### ramet/rametlaw02.MachConfined (function 8) -/
noncomputable def law02_MachConfined.L0 (x0 : FV) (x1 : FV) (x2 : FV) (x3 : FV) (x4 : FV) (x5 : FV) (x6 : FV) (x7 : FV) (x8 : FV) (x9 : FV) (x10 : FV) (x11 : FV) (x12 : FV) (x13 : FV) (x14 : FV) (x15 : FV) (x16 : FV) (x17 : FV) (x18 : FV) (x19 : FV) (x20 : FV) (x21 : FV) (x22 : FV) (x23 : FV) (x24 : FV) : R := jden E 8 [] [1, 1, 1] (mkF 98 [(2, .f x0), (3, .ptr 0 0 0), (4, .ptr 1 0 0), (9, .ptr 3 0 0), (10, .f x1)]) [.box [.f x2, .f x3, .f x4, .f x5, .f x6, .f x7], .box [.f x8, .f x9, .f x10, .f x11, .f x12], .box [.f x13, .f x14, .f x15, .f x16, .f x17, .f x18], .box [.f x19, .f x20, .f x21, .f x22, .f x23, .f x24]]
noncomputable def law02_MachConfined.L1 (x0 : FV) (x1 : FV) (x2 : FV) (x3 : FV) (x4 : FV) (x5 : FV) (x6 : FV) (x7 : FV) (x8 : FV) (x9 : FV) (x10 : FV) (x11 : FV) (x12 : FV) (x13 : FV) (x14 : FV) (x15 : FV) (x16 : FV) (x17 : FV) (x18 : FV) (x19 : FV) (x20 : FV) (x21 : FV) (x22 : FV) (x23 : FV) : R := jden E 8 [] [1, 1, 1, 1] (mkF 98 [(2, .f x0), (3, .ptr 0 0 0), (4, .ptr 1 0 0), (9, .ptr 3 0 0)]) [.box [.f x1, .f x2, .f x3, .f x4, .f x5, .f x6], .box [.f x7, .f x8, .f x9, .f x10, .f x11], .box [.f x12, .f x13, .f x14, .f x15, .f x16, .f x17], .box [.f x18, .f x19, .f x20, .f x21, .f x22, .f x23]]
noncomputable def law02_MachConfined.L2 (x0 : FV) (x1 : FV) (x2 : FV) (x3 : FV) (x4 : FV) (x5 : FV) (x6 : FV) (x7 : FV) (x8 : FV) (x9 : FV) (x10 : FV) (x11 : FV) (x12 : FV) (x13 : FV) (x14 : FV) (x15 : FV) (x16 : FV) (x17 : FV) (x18 : FV) (x19 : FV) (x20 : FV) (x21 : FV) (x22 : FV) (x23 : FV) (x24 : FV) (r25 : List (List FV)) : R := jden E 8 [] [4, 1, 0, 1, 1, 1, 1, 1, 1] (mkF 98 [(2, .f x0), (3, .ptr 0 0 0), (4, .ptr 1 0 0), (9, .ptr 3 0 0), (11, .ref 4), (12, .f x1)]) [.box [.f x2, .f x3, .f x4, .f x5, .f x6, .f x7], .box [.f x8, .f x9, .f x10, .f x11, .f x12], .box [.f x13, .f x14, .f x15, .f x16, .f x17, .f x18], .box [.f x19, .f x20, .f x21, .f x22, .f x23, .f x24], .own 1 r25]
noncomputable def law02_MachConfined.L3 (x0 : FV) (x1 : FV) (x2 : FV) (x3 : FV) (x4 : FV) (x5 : FV) (x6 : FV) (x7 : FV) (x8 : FV) (x9 : FV) (x10 : FV) (x11 : FV) (x12 : FV) (x13 : FV) (x14 : FV) (x15 : FV) (x16 : FV) (x17 : FV) (x18 : FV) (x19 : FV) (x20 : FV) (x21 : FV) (x22 : FV) (x23 : FV) (x24 : FV) (r25 : List (List FV)) : R := jden E 8 [] [1, 1, 1, 1, 1, 1, 1, 1] (mkF 98 [(2, .f x0), (3, .ptr 0 0 0), (4, .ptr 1 0 0), (13, .f x1)]) [.box [.f x2, .f x3, .f x4, .f x5, .f x6, .f x7], .box [.f x8, .f x9, .f x10, .f x11, .f x12], .box [.f x13, .f x14, .f x15, .f x16, .f x17, .f x18], .box [.f x19, .f x20, .f x21, .f x22, .f x23, .f x24], .fz r25]
noncomputable def law02_MachConfined.L4 (x0 : FV) (x1 : FV) (x2 : FV) (x3 : FV) (x4 : FV) (x5 : FV) (x6 : FV) (x7 : FV) (x8 : FV) (x9 : FV) (x10 : FV) (x11 : FV) (x12 : FV) (x13 : FV) (x14 : FV) (x15 : FV) (x16 : FV) (x17 : FV) (x18 : FV) (x19 : FV) (x20 : FV) (x21 : FV) (x22 : FV) (x23 : FV) (x24 : FV) (x25 : FV) (r26 : List (List FV)) : R := jden E 8 [] [4, 1, 0, 1, 1, 1, 1, 1, 1, 1, 1, 1] (mkF 98 [(2, .f x0), (3, .ptr 0 0 0), (4, .ptr 1 0 0), (13, .f x1), (16, .f x2)]) [.box [.f x3, .f x4, .f x5, .f x6, .f x7, .f x8], .box [.f x9, .f x10, .f x11, .f x12, .f x13], .box [.f x14, .f x15, .f x16, .f x17, .f x18, .f x19], .box [.f x20, .f x21, .f x22, .f x23, .f x24, .f x25], .fz r26]
theorem law02_MachConfined.eq (x0 x1 x2 : FV) : law02_MachConfined x0 x1 x2 = (
  gB (fIsAgg 6 x0) <|
  gB (fIsAgg 5 x1) <|
  bindO (ref02_Confined (.agg [(fCell x0 0), (fCell x0 1), (fCell x0 2), (fCell x0 3), (fCell x0 4), (fCell x0 5)]) (.agg [(fCell x1 0), (fCell x1 1), (fCell x1 2), (fCell x1 3), (fCell x1 4)])) fun v1 =>
  gB (fIsTup 2 v1) <|
  gB (fIsAgg 6 (fTup v1 0)) <|
  bindO (mach_Confined (.agg [(fCell x0 0), (fCell x0 1), (fCell x0 2), (fCell x0 3), (fCell x0 4), (fCell x0 5)]) (.agg [(fCell x1 0), (fCell x1 1), (fCell x1 2), (fCell x1 3), (fCell x1 4)])) fun v2 =>
  gB (fIsTup 2 v2) <|
  gB (fIsAgg 6 (fTup v2 0)) <|
  bindO (fBin .neq (fTup v2 1) (fTup v1 1)) fun v3 =>
  fCond v3
  (some (.bool false))
  (bindO (ref02_SameMachine (.agg [(fCell (fTup v2 0) 0), (fCell (fTup v2 0) 1), (fCell (fTup v2 0) 2), (fCell (fTup v2 0) 3), (fCell (fTup v2 0) 4), (fCell (fTup v2 0) 5)]) (.agg [(fCell (fTup v1 0) 0), (fCell (fTup v1 0) 1), (fCell (fTup v1 0) 2), (fCell (fTup v1 0) 3), (fCell (fTup v1 0) 4), (fCell (fTup v1 0) 5)])) fun v4 =>
  bindO (fUn .not v4) fun v5 =>
  fCond v5
  (some (.bool false))
  (law02_MachConfined.L0 x2 (fTup v2 1) (fCell x0 0) (fCell x0 1) (fCell x0 2) (fCell x0 3) (fCell x0 4) (fCell x0 5) (fCell x1 0) (fCell x1 1) (fCell x1 2) (fCell x1 3) (fCell x1 4) (fCell (fTup v1 0) 0) (fCell (fTup v1 0) 1) (fCell (fTup v1 0) 2) (fCell (fTup v1 0) 3) (fCell (fTup v1 0) 4) (fCell (fTup v1 0) 5) (fCell (fTup v2 0) 0) (fCell (fTup v2 0) 1) (fCell (fTup v2 0) 2) (fCell (fTup v2 0) 3) (fCell (fTup v2 0) 4) (fCell (fTup v2 0) 5)))) := (den_eq E 8 [x0, x1, x2]).trans (by kernel_rfl)
theorem law02_MachConfined.L0_eq (x0 : FV) (x1 : FV) (x2 : FV) (x3 : FV) (x4 : FV) (x5 : FV) (x6 : FV) (x7 : FV) (x8 : FV) (x9 : FV) (x10 : FV) (x11 : FV) (x12 : FV) (x13 : FV) (x14 : FV) (x15 : FV) (x16 : FV) (x17 : FV) (x18 : FV) (x19 : FV) (x20 : FV) (x21 : FV) (x22 : FV) (x23 : FV) (x24 : FV) : law02_MachConfined.L0 x0 x1 x2 x3 x4 x5 x6 x7 x8 x9 x10 x11 x12 x13 x14 x15 x16 x17 x18 x19 x20 x21 x22 x23 x24 = (
  bindO (fBin .neq x1 (.int .i64 0)) fun v26 =>
  fCond v26
  (some (.bool true))
  (bindO (fBin .lss x0 (.int .i64 0)) fun v27 =>
  fCond v27
  (some (.bool true))
  (bindO (fBin .gtr x0 (.int .i64 40)) fun v28 =>
  fCond v28
  (some (.bool true))
  (law02_MachConfined.L1 x0 x2 x3 x4 x5 x6 x7 x8 x9 x10 x11 x12 x13 x14 x15 x16 x17 x18 x19 x20 x21 x22 x23 x24)))) := (jden_eq E 8 [] [1, 1, 1] _ _).trans (by kernel_rfl)
theorem law02_MachConfined.L1_eq (x0 : FV) (x1 : FV) (x2 : FV) (x3 : FV) (x4 : FV) (x5 : FV) (x6 : FV) (x7 : FV) (x8 : FV) (x9 : FV) (x10 : FV) (x11 : FV) (x12 : FV) (x13 : FV) (x14 : FV) (x15 : FV) (x16 : FV) (x17 : FV) (x18 : FV) (x19 : FV) (x20 : FV) (x21 : FV) (x22 : FV) (x23 : FV) : law02_MachConfined.L1 x0 x1 x2 x3 x4 x5 x6 x7 x8 x9 x10 x11 x12 x13 x14 x15 x16 x17 x18 x19 x20 x21 x22 x23 = (
  law02_MachConfined.L2 x0 (.int .i64 0) x1 x2 x3 x4 x5 x6 x7 x8 x9 x10 x11 x12 x13 x14 x15 x16 x17 x18 x19 x20 x21 x22 x23 []) := (jden_eq E 8 [] [1, 1, 1, 1] _ _).trans (by kernel_rfl)
theorem law02_MachConfined.L2_eq (x0 : FV) (x1 : FV) (x2 : FV) (x3 : FV) (x4 : FV) (x5 : FV) (x6 : FV) (x7 : FV) (x8 : FV) (x9 : FV) (x10 : FV) (x11 : FV) (x12 : FV) (x13 : FV) (x14 : FV) (x15 : FV) (x16 : FV) (x17 : FV) (x18 : FV) (x19 : FV) (x20 : FV) (x21 : FV) (x22 : FV) (x23 : FV) (x24 : FV) (r25 : List (List FV)) : law02_MachConfined.L2 x0 x1 x2 x3 x4 x5 x6 x7 x8 x9 x10 x11 x12 x13 x14 x15 x16 x17 x18 x19 x20 x21 x22 x23 x24 r25 = (
  bindO (fBin .lss x1 x0) fun v27 =>
  fCond v27
  (gB (decide ((r25.length + 1) * 24 ≤ room)) <|
  bindO (fBin .add x1 (.int .i64 1)) fun v28 =>
  law02_MachConfined.L2 x0 v28 x2 x3 x4 x5 x6 x7 x8 x9 x10 x11 x12 x13 x14 x15 x16 x17 x18 x19 x20 x21 x22 x23 x24 (r25 ++ [[.nilS]]))
  (bindO (mach_Run (.agg [x19, x20, x21, x22, x23, x24]) (.arr r25)) fun v29 =>
  gB (fIsTup 3 v29) <|
  bindO (fBin .neq (fTup v29 2) (.int .i64 0)) fun v30 =>
  fCond v30
  (some (.bool false))
  (bindO (fLen (fTup v29 0)) fun v31 =>
  bindO (fBin .neq v31 x0) fun v32 =>
  fCond v32
  (some (.bool false))
  (law02_MachConfined.L3 x0 (fTup v29 0) x2 x3 x4 x5 x6 x7 x8 x9 x10 x11 x12 x13 x14 x15 x16 x17 x18 x19 x20 x21 x22 x23 x24 r25)))) := (jden_eq E 8 [] [4, 1, 0, 1, 1, 1, 1, 1, 1] _ _).trans (by kernel_rfl)
theorem law02_MachConfined.L3_eq (x0 : FV) (x1 : FV) (x2 : FV) (x3 : FV) (x4 : FV) (x5 : FV) (x6 : FV) (x7 : FV) (x8 : FV) (x9 : FV) (x10 : FV) (x11 : FV) (x12 : FV) (x13 : FV) (x14 : FV) (x15 : FV) (x16 : FV) (x17 : FV) (x18 : FV) (x19 : FV) (x20 : FV) (x21 : FV) (x22 : FV) (x23 : FV) (x24 : FV) (r25 : List (List FV)) : law02_MachConfined.L3 x0 x1 x2 x3 x4 x5 x6 x7 x8 x9 x10 x11 x12 x13 x14 x15 x16 x17 x18 x19 x20 x21 x22 x23 x24 r25 = (
  law02_MachConfined.L4 x0 x1 (.int .i64 0) x2 x3 x4 x5 x6 x7 x8 x9 x10 x11 x12 x13 x14 x15 x16 x17 x18 x19 x20 x21 x22 x23 x24 r25) := (jden_eq E 8 [] [1, 1, 1, 1, 1, 1, 1, 1] _ _).trans (by kernel_rfl)
theorem law02_MachConfined.L4_eq (x0 : FV) (x1 : FV) (x2 : FV) (x3 : FV) (x4 : FV) (x5 : FV) (x6 : FV) (x7 : FV) (x8 : FV) (x9 : FV) (x10 : FV) (x11 : FV) (x12 : FV) (x13 : FV) (x14 : FV) (x15 : FV) (x16 : FV) (x17 : FV) (x18 : FV) (x19 : FV) (x20 : FV) (x21 : FV) (x22 : FV) (x23 : FV) (x24 : FV) (x25 : FV) (r26 : List (List FV)) : law02_MachConfined.L4 x0 x1 x2 x3 x4 x5 x6 x7 x8 x9 x10 x11 x12 x13 x14 x15 x16 x17 x18 x19 x20 x21 x22 x23 x24 x25 r26 = (
  bindO (fBin .lss x2 x0) fun v28 =>
  fCond v28
  (bindO (fBin .add x2 (.int .i64 1)) fun v29 =>
  bindO (mach_RunBand (.agg [x3, x4, x5, x6, x7, x8]) (.agg [x9, x10, x11, x12, x13]) v29) fun v30 =>
  gB (fIsTup 2 v30) <|
  gB (fIsAgg 5 (fTup v30 0)) <|
  bindO (fBin .neq (fTup v30 1) (.int .i64 0)) fun v31 =>
  fCond v31
  (some (.bool false))
  (bindO (fIdxC 1 x1 x2) fun c32 =>
  bindO (c32[0]?) fun v33 =>
  bindO (ref02_SameInts (fCell (fTup v30 0) 0) v33) fun v34 =>
  bindO (fUn .not v34) fun v35 =>
  fCond v35
  (some (.bool false))
  (bindO (fBin .add x2 (.int .i64 1)) fun v36 =>
  law02_MachConfined.L4 x0 x1 v36 x3 x4 x5 x6 x7 x8 x9 x10 x11 x12 x13 x14 x15 x16 x17 x18 x19 x20 x21 x22 x23 x24 x25 r26)))
  (some (.bool true))) := (jden_eq E 8 [] [4, 1, 0, 1, 1, 1, 1, 1, 1, 1, 1, 1] _ _).trans (by kernel_rfl)
end Go.Proofs.Ytelcbakleaaneaa
