/- The code of the functions, as the abstract machine runs it. -/
import Derived.Test.YtelcbakleaaneaaEnv
import Derived.KernelRfl
set_option linter.unusedVariables false
namespace Go.Proofs.Ytelcbakleaaneaa
open Go Go.Proofs.Ytelcbakleaaneaa.VM
variable (x0 x1 x2:FV) (es3:List (FV × FV)) (r3:List (List FV)) (x3:FV) (r4:List (List FV)) (x4:FV) (es5:List (FV × FV)) (r5:List (List FV)) (x5:FV) (r6:List (List FV)) (x6:FV) (r7:List (List FV)) (x7:FV) (r8:List (List FV)) (x8:FV) (es9:List (FV × FV)) (r9:List (List FV)) (x9:FV) (es10:List (FV × FV)) (r10:List (List FV)) (x10:FV) (es11:List (FV × FV)) (r11:List (List FV)) (x11:FV) (r12:List (List FV)) (x12:FV) (es13:List (FV × FV)) (r13:List (List FV)) (x13:FV) (es14:List (FV × FV)) (r14:List (List FV)) (x14:FV) (es15:List (FV × FV)) (r15:List (List FV)) (x15:FV) (es16:List (FV × FV)) (r16:List (List FV)) (x16:FV) (es17:List (FV × FV)) (r17:List (List FV)) (x17:FV) (es18:List (FV × FV)) (r18:List (List FV)) (x18:FV) (r19:List (List FV)) (x19:FV) (r20:List (List FV)) (x20:FV) (r21:List (List FV)) (x21:FV) (r22:List (List FV)) (x22:FV) (r23:List (List FV)) (x23:FV) (r24:List (List FV)) (x24:FV) (r25:List (List FV)) (x25:FV) (r26:List (List FV)) (x26:FV) (r27:List (List FV)) (x27:FV) (r28:List (List FV)) (x28:FV) (r29:List (List FV)) (x30 x31:FV)
noncomputable def ref02_sameInts.L0:R:=jden E 55 [] [4,1,0,1,1] (mkF 26 [(0,.f x0),(1,.f x1),(5,.f x2)]) []
theorem ref02_sameInts.eq:ref02_sameInts x0 x1 = (
 bindO (fLen x0) fun v1 =>
 bindO (fLen x1) fun v2 =>
 bindO (fBin .neq v1 v2) fun v3 =>
 fCond v3
 (some (.bool false))
 (ref02_sameInts.L0 x0 x1 (.int .i64 0))):=(den_eq ..).trans (by kernel_rfl)
theorem ref02_sameInts.L0_eq:ref02_sameInts.L0 x0 x1 x2 = (
 bindO (fLen x0) fun v4 =>
 bindO (fBin .lss x2 v4) fun v5 =>
 fCond v5
 (bindO (fIdxC 1 x0 x2) fun c6 =>
 bindO (c6[0]?) fun v7 =>
 bindO (fIdxC 1 x1 x2) fun c8 =>
 bindO (c8[0]?) fun v9 =>
 bindO (fBin .neq v7 v9) fun v10 =>
 fCond v10
 (some (.bool false))
 (bindO (fBin .add x2 (.int .i64 1)) fun v11 =>
 ref02_sameInts.L0 x0 x1 v11))
 (some (.bool true))):=(jden_eq ..).trans (by kernel_rfl)
noncomputable def ref02_SameLists.L0:R:=jden E 16 [] [4,1,0,1,1] (mkF 27 [(0,.f x0),(1,.f x1),(5,.f x2)]) []
theorem ref02_SameLists.eq:ref02_SameLists x0 x1 = (
 bindO (fLen x0) fun v1 =>
 bindO (fLen x1) fun v2 =>
 bindO (fBin .neq v1 v2) fun v3 =>
 fCond v3
 (some (.bool false))
 (ref02_SameLists.L0 x0 x1 (.int .i64 0))):=(den_eq ..).trans (by kernel_rfl)
theorem ref02_SameLists.L0_eq:ref02_SameLists.L0 x0 x1 x2 = (
 bindO (fLen x0) fun v4 =>
 bindO (fBin .lss x2 v4) fun v5 =>
 fCond v5
 (bindO (fIdxC 1 x0 x2) fun c6 =>
 bindO (c6[0]?) fun v7 =>
 bindO (fIdxC 1 x1 x2) fun c8 =>
 bindO (c8[0]?) fun v9 =>
 bindO (ref02_sameInts v7 v9) fun v10 =>
 bindO (fUn .not v10) fun v11 =>
 fCond v11
 (some (.bool false))
 (bindO (fBin .add x2 (.int .i64 1)) fun v12 =>
 ref02_SameLists.L0 x0 x1 v12))
 (some (.bool true))):=(jden_eq ..).trans (by kernel_rfl)
noncomputable def mach_fit.L0:R:=jden E 58 [] [4,1,0,1,1] (mkF 32 [(0,.f x0),(12,.f x1),(13,.f x2),(14,.f x3)]) []
theorem mach_fit.eq:mach_fit x0 x1 = (
 bindO (fLen x0) fun v1 =>
 bindO (fLen x1) fun v2 =>
 bindO (fBin .neq v1 v2) fun v3 =>
 fCond v3
 (some (.bool false))
 (bindO (fLen x1) fun v4 =>
 mach_fit.L0 x0 x1 v4 (.int .i64 0))):=(den_eq ..).trans (by kernel_rfl)
theorem mach_fit.L0_eq:mach_fit.L0 x0 x1 x2 x3 = (
 bindO (fBin .lss x3 x2) fun v5 =>
 fCond v5
 (bindO (fIdxC 1 x1 x3) fun c6 =>
 bindO (c6[0]?) fun v7 =>
 bindO (fBin .lss v7 (.int .i64 0)) fun v8 =>
 fCond v8
 (some (.bool false))
 (bindO (fIdxC 2 x0 x3) fun c9 =>
 bindO (c9[1]?) fun v10 =>
 bindO (fLen v10) fun v11 =>
 bindO (fBin .geq v7 v11) fun v12 =>
 fCond v12
 (some (.bool false))
 (bindO (fBin .add x3 (.int .i64 1)) fun v13 =>
 mach_fit.L0 x0 x1 x2 v13)))
 (some (.bool true))):=(jden_eq ..).trans (by kernel_rfl)
noncomputable def mach_product.L0:R:=jden E 59 [] [4,1,0,1,1] (mkF 21 [(3,.f x0),(6,.f x1),(7,.f x2),(8,.f x3)]) []
theorem mach_product.eq:mach_product x0 = (
 bindO (fLen x0) fun v1 =>
 mach_product.L0 (.int .i64 1) x0 v1 (.int .i64 0)):=(den_eq ..).trans (by kernel_rfl)
theorem mach_product.L0_eq:mach_product.L0 x0 x1 x2 x3 = (
 bindO (fBin .lss x3 x2) fun v5 =>
 fCond v5
 (bindO (fIdxC 2 x1 x3) fun c6 =>
 bindO (c6[0]?) fun v7 =>
 bindO (c6[1]?) fun v8 =>
 bindO (fLen v8) fun v9 =>
 bindO (fBin .mul x0 v9) fun v10 =>
 bindO (fBin .gtr v10 (.int .i64 1099511627776)) fun v11 =>
 fCond v11
 (some (.int .i64 1099511627776))
 (bindO (fBin .add x3 (.int .i64 1)) fun v12 =>
 mach_product.L0 v10 x1 x2 v12))
 (some x0)):=(jden_eq ..).trans (by kernel_rfl)
noncomputable def mach_isName.L0 (x0 x1:FV) (k2:Nat):R:=jden E 89 [] [4,1,0,1,1] (mkF 42 [(3,.f x0),(7,.it 0)]) [.sit x1 k2]
theorem mach_isName.eq:mach_isName x0 = (
 gB (isStrF x0) <|
 mach_isName.L0 (.int .i64 0) x0 0):=(den_eq ..).trans (by kernel_rfl)
theorem mach_isName.L0_eq (x0 x1:FV) (k2:Nat):mach_isName.L0 x0 x1 k2 = (
 bindO (fNext x1 k2) fun v4 =>
 fCond (.bool v4.1)
 (bindO (fBin .geq (.int .i32 v4.2.1) (.int .i32 65)) fun v5 =>
 fCond v5
 (bindO (fBin .leq (.int .i32 v4.2.1) (.int .i32 90)) fun v6 =>
 fCond v6
 (bindO (fUn .not (.bool true)) fun v7 =>
 fCond v7
 (some (.bool false))
 (bindO (fBin .add x0 (.int .i64 1)) fun v8 =>
 mach_isName.L0 v8 x1 v4.2.2))
 (bindO (fBin .geq (.int .i32 v4.2.1) (.int .i32 97)) fun v9 =>
 fCond v9
 (bindO (fBin .leq (.int .i32 v4.2.1) (.int .i32 122)) fun v10 =>
 fCond v10
 (bindO (fUn .not (.bool true)) fun v11 =>
 fCond v11
 (some (.bool false))
 (bindO (fBin .add x0 (.int .i64 1)) fun v12 =>
 mach_isName.L0 v12 x1 v4.2.2))
 (bindO (fBin .geq (.int .i32 v4.2.1) (.int .i32 48)) fun v13 =>
 fCond v13
 (bindO (fBin .leq (.int .i32 v4.2.1) (.int .i32 57)) fun v14 =>
 bindO (fUn .not v14) fun v15 =>
 fCond v15
 (some (.bool false))
 (bindO (fBin .add x0 (.int .i64 1)) fun v16 =>
 mach_isName.L0 v16 x1 v4.2.2))
 (bindO (fUn .not (.bool false)) fun v17 =>
 fCond v17
 (some (.bool false))
 (bindO (fBin .add x0 (.int .i64 1)) fun v18 =>
 mach_isName.L0 v18 x1 v4.2.2))))
 (bindO (fBin .geq (.int .i32 v4.2.1) (.int .i32 48)) fun v19 =>
 fCond v19
 (bindO (fBin .leq (.int .i32 v4.2.1) (.int .i32 57)) fun v20 =>
 bindO (fUn .not v20) fun v21 =>
 fCond v21
 (some (.bool false))
 (bindO (fBin .add x0 (.int .i64 1)) fun v22 =>
 mach_isName.L0 v22 x1 v4.2.2))
 (bindO (fUn .not (.bool false)) fun v23 =>
 fCond v23
 (some (.bool false))
 (bindO (fBin .add x0 (.int .i64 1)) fun v24 =>
 mach_isName.L0 v24 x1 v4.2.2)))))
 (bindO (fBin .geq (.int .i32 v4.2.1) (.int .i32 97)) fun v25 =>
 fCond v25
 (bindO (fBin .leq (.int .i32 v4.2.1) (.int .i32 122)) fun v26 =>
 fCond v26
 (bindO (fUn .not (.bool true)) fun v27 =>
 fCond v27
 (some (.bool false))
 (bindO (fBin .add x0 (.int .i64 1)) fun v28 =>
 mach_isName.L0 v28 x1 v4.2.2))
 (bindO (fBin .geq (.int .i32 v4.2.1) (.int .i32 48)) fun v29 =>
 fCond v29
 (bindO (fBin .leq (.int .i32 v4.2.1) (.int .i32 57)) fun v30 =>
 bindO (fUn .not v30) fun v31 =>
 fCond v31
 (some (.bool false))
 (bindO (fBin .add x0 (.int .i64 1)) fun v32 =>
 mach_isName.L0 v32 x1 v4.2.2))
 (bindO (fUn .not (.bool false)) fun v33 =>
 fCond v33
 (some (.bool false))
 (bindO (fBin .add x0 (.int .i64 1)) fun v34 =>
 mach_isName.L0 v34 x1 v4.2.2))))
 (bindO (fBin .geq (.int .i32 v4.2.1) (.int .i32 48)) fun v35 =>
 fCond v35
 (bindO (fBin .leq (.int .i32 v4.2.1) (.int .i32 57)) fun v36 =>
 bindO (fUn .not v36) fun v37 =>
 fCond v37
 (some (.bool false))
 (bindO (fBin .add x0 (.int .i64 1)) fun v38 =>
 mach_isName.L0 v38 x1 v4.2.2))
 (bindO (fUn .not (.bool false)) fun v39 =>
 fCond v39
 (some (.bool false))
 (bindO (fBin .add x0 (.int .i64 1)) fun v40 =>
 mach_isName.L0 v40 x1 v4.2.2)))))
 (bindO (fBin .geq x0 (.int .i64 1)) fun v41 =>
 fCond v41
 (bindO (fBin .leq x0 (.int .i64 16)) fun v42 =>
 some v42)
 (some (.bool false)))):=(jden_eq ..).trans (by kernel_rfl)
noncomputable def mach_names.L0:R:=jden E 90 [] [4,1,0,1,1] (mkF 22 [(3,.mp 0),(7,.f x0),(8,.f x1),(9,.f x2)]) [.map false es3]
theorem mach_names.eq:mach_names x0 = (
 bindO (fLen x0) fun v1 =>
 mach_names.L0 x0 v1 (.int .i64 0) []):=(den_eq ..).trans (by kernel_rfl)
theorem mach_names.L0_eq:mach_names.L0 x0 x1 x2 es3 = (
 bindO (fBin .lss x2 x1) fun v5 =>
 fCond v5
 (bindO (fIdxC 1 x0 x2) fun c6 =>
 bindO (c6[0]?) fun v7 =>
 bindO (mach_isName v7) fun v8 =>
 bindO (fUn .not v8) fun v9 =>
 fCond v9
 (some (.int .i64 21))
 (bindO (mLook false [.str] es3 v7 (.bool false)) fun v10 =>
 fCond v10.1
 (some (.int .i64 22))
 (gB (keyOk false [.str] v7) <|
 bindO (mPut false [.str] es3 v7 (.bool true)) fun es11 =>
 bindO (fBin .add x2 (.int .i64 1)) fun v12 =>
 mach_names.L0 x0 x1 v12 es11)))
 (some (.int .i64 0))):=(jden_eq ..).trans (by kernel_rfl)
noncomputable def slices_Concat_api_Port.L0:R:=jden E 143 [] [4,1,0,1,1] (mkF 36 [(0,.f x0),(3,.f x1),(9,.f x2),(10,.f x3),(11,.f x4)]) []
noncomputable def slices_Concat_api_Port.L1:R:=jden E 143 [] [4,1,0,1,1,1,1] (mkF 36 [(6,.ref 0),(25,.f x0),(26,.f x1),(27,.f x2)]) [.own 2 r3]
theorem slices_Concat_api_Port.eq:slices_Concat_api_Port x0 = (
 bindO (fLen x0) fun v1 =>
 slices_Concat_api_Port.L0 x0 (.int .i64 0) x0 v1 (.int .i64 0)):=(den_eq ..).trans (by kernel_rfl)
theorem slices_Concat_api_Port.L0_eq:slices_Concat_api_Port.L0 x0 x1 x2 x3 x4 = (
 bindO (fBin .lss x4 x3) fun v6 =>
 fCond v6
 (bindO (fIdxC 1 x2 x4) fun c7 =>
 bindO (c7[0]?) fun v8 =>
 bindO (fLen v8) fun v9 =>
 bindO (fBin .add x1 v9) fun v10 =>
 bindO (fBin .lss v10 (.int .i64 0)) fun v11 =>
 fCond v11
 (none)
 (bindO (fBin .add x4 (.int .i64 1)) fun v12 =>
 slices_Concat_api_Port.L0 x0 v10 x2 x3 v12))
 (bindO (fBin .lss x1 (.int .i64 0)) fun v13 =>
 fCond v13
 (none)
 (bindO (fCap .nilS) fun v14 =>
 bindO (fLen .nilS) fun v15 =>
 bindO (fBin .sub v14 v15) fun v16 =>
 bindO (fBin .sub x1 v16) fun v17 =>
 bindO (fBin .gtr v17 (.int .i64 0)) fun v18 =>
 fCond v18
 (bindO (fCap .nilS) fun v19 =>
 bindO (fCut 2 .nilS none (some v19)) fun v20 =>
 onNil v20 <|
 bindO (asNat v17) fun j21 =>
 gB (decide (j21 * 40 ≤ room)) <|
 bindO (fLen .nilS) fun v22 =>
 bindO (cut? ((List.replicate j21 [(.str []:FV),.nilS]).length) none (some v22)) fun q24 =>
 bindO (fLen x0) fun v25 =>
 slices_Concat_api_Port.L1 x0 v25 (.int .i64 0) (((List.replicate j21 [(.str []:FV),.nilS]).take q24.2).drop q24.1))
 (bindO (fLen x0) fun v26 =>
 slices_Concat_api_Port.L1 x0 v26 (.int .i64 0) [])))):=(jden_eq ..).trans (by kernel_rfl)
theorem slices_Concat_api_Port.L1_eq:slices_Concat_api_Port.L1 x0 x1 x2 r3 = (
 bindO (fBin .lss x2 x1) fun v5 =>
 fCond v5
 (bindO (fIdxC 1 x0 x2) fun c6 =>
 bindO (c6[0]?) fun v7 =>
 bindO (asRows v7) fun r8 =>
 gB (rowsSz 2 r8) <|
 gB (decide ((r3.length + r8.length) * 40 ≤ room)) <|
 bindO (fBin .add x2 (.int .i64 1)) fun v9 =>
 slices_Concat_api_Port.L1 x0 x1 v9 (r3 ++ r8))
 (some (.arr r3))):=(jden_eq ..).trans (by kernel_rfl)
noncomputable def mach_checkPorts.L0:R:=jden E 91 [] [1] (mkF 60 [(1,.ptr 0 0 0)]) [.box [.f x0,.f x1,.f x2,.f x3,.f x4,.f x5]]
noncomputable def mach_checkPorts.L1:R:=jden E 91 [] [4,1,0,1,1,1] (mkF 60 [(3,.mp 1),(23,.f x0),(24,.f x1),(25,.f x2)]) [.box [.f x3,.f x4,.f x5,.f x6,.f x7,.f x8],.map false es9,.fz r10]
noncomputable def mach_checkPorts.L3:R:=jden E 91 [] [0,1,4,0,1,1,5,4,1,0,1,1,1] (mkF 60 [(3,.mp 1),(5,.ptr 3 0 0),(23,.f x0),(24,.f x1),(25,.f x2)]) [.box [.f x3,.f x4,.f x5,.f x6,.f x7,.f x8],.map false es9,.fz r10,.box [.f x11,.f x12]]
noncomputable def mach_checkPorts.L2:R:=jden E 91 [] [1,4,0,1,1,5,4,1,0,1,1,1] (mkF 60 [(3,.mp 1),(5,.ptr 3 0 0),(23,.f x0),(24,.f x1),(25,.f x2)]) [.box [.f x3,.f x4,.f x5,.f x6,.f x7,.f x8],.map false es9,.fz r10,.box [.f x11,.f x12]]
theorem mach_checkPorts.eq:mach_checkPorts x0 = (
 gB (fIsAgg 6 x0) <|
 bindO (fLen (fCell x0 3)) fun v1 =>
 bindO (fBin .gtr v1 (.int .i64 8)) fun v2 =>
 fCond v2
 (some (.int .i64 26))
 (bindO (fLen (fCell x0 4)) fun v3 =>
 bindO (fBin .gtr v3 (.int .i64 8)) fun v4 =>
 fCond v4
 (some (.int .i64 26))
 (mach_checkPorts.L0 (fCell x0 0) (fCell x0 1) (fCell x0 2) (fCell x0 3) (fCell x0 4) (fCell x0 5)))):=(den_eq ..).trans (by kernel_rfl)
theorem mach_checkPorts.L0_eq:mach_checkPorts.L0 x0 x1 x2 x3 x4 x5 = (
 bindO (slices_Concat_api_Port (.arr [[x3],[x4]])) fun v7 =>
 bindO (fLen v7) fun v8 =>
 mach_checkPorts.L1 v7 v8 (.int .i64 0) x0 x1 x2 x3 x4 x5 [] [[x3],[x4]]):=(jden_eq ..).trans (by kernel_rfl)
theorem mach_checkPorts.L1_eq:mach_checkPorts.L1 x0 x1 x2 x3 x4 x5 x6 x7 x8 es9 r10 = (
 bindO (fBin .lss x2 x1) fun v12 =>
 fCond v12
 (bindO (fIdxC 2 x0 x2) fun c13 =>
 bindO (c13[0]?) fun v14 =>
 bindO (c13[1]?) fun v15 =>
 bindO (mach_isName v14) fun v16 =>
 bindO (fUn .not v16) fun v17 =>
 fCond v17
 (some (.int .i64 21))
 (bindO (mLook false [.str] es9 v14 (.bool false)) fun v18 =>
 fCond v18.1
 (some (.int .i64 22))
 (bindO (fLen v15) fun v19 =>
 bindO (fBin .eql v19 (.int .i64 0)) fun v20 =>
 fCond v20
 (some (.int .i64 26))
 (bindO (fLen v15) fun v21 =>
 bindO (fBin .gtr v21 (.int .i64 64)) fun v22 =>
 fCond v22
 (some (.int .i64 26))
 (mach_checkPorts.L3 x0 x1 x2 x3 x4 x5 x6 x7 x8 es9 r10 v14 v15)))))
 (some (.int .i64 0))):=(jden_eq ..).trans (by kernel_rfl)
theorem mach_checkPorts.L3_eq:mach_checkPorts.L3 x0 x1 x2 x3 x4 x5 x6 x7 x8 es9 r10 x11 x12 = (
 mach_checkPorts.L2 x0 x1 x2 x3 x4 x5 x6 x7 x8 es9 r10 x11 x12):=(jden_eq ..).trans (by kernel_rfl)
theorem mach_checkPorts.L2_eq:mach_checkPorts.L2 x0 x1 x2 x3 x4 x5 x6 x7 x8 es9 r10 x11 x12 = (
 gB (keyOk false [.str] x11) <|
 bindO (mPut false [.str] es9 x11 (.bool true)) fun es14 =>
 bindO (mach_names x12) fun v15 =>
 bindO (fBin .neq v15 (.int .i64 0)) fun v16 =>
 fCond v16
 (some v15)
 (bindO (fBin .add x2 (.int .i64 1)) fun v17 =>
 mach_checkPorts.L1 x0 x1 v17 x3 x4 x5 x6 x7 x8 es14 r10)):=(jden_eq ..).trans (by kernel_rfl)
noncomputable def mach_Check.L0:R:=jden E 29 [] [1,1] (mkF 85 [(1,.ptr 0 0 0)]) [.box [.f x0,.f x1,.f x2,.f x3,.f x4,.f x5]]
noncomputable def mach_Check.L1:R:=jden E 29 [] [1,1,1,1,1] (mkF 85 [(1,.ptr 0 0 0)]) [.box [.f x0,.f x1,.f x2,.f x3,.f x4,.f x5]]
noncomputable def mach_Check.L2:R:=jden E 29 [] [4,1,0,1,1,1,1,1,1,1,1,1] (mkF 85 [(1,.ptr 0 0 0),(59,.f x0),(60,.f x1),(61,.f x2)]) [.box [.f x3,.f x4,.f x5,.f x6,.f x7,.f x8]]
theorem mach_Check.eq:mach_Check x0 = (
 gB (fIsAgg 6 x0) <|
 bindO (mach_isName (fCell x0 0)) fun v1 =>
 bindO (fUn .not v1) fun v2 =>
 fCond v2
 (some (.int .i64 21))
 (bindO (fLen (fCell x0 1)) fun v3 =>
 bindO (fBin .eql v3 (.int .i64 0)) fun v4 =>
 fCond v4
 (some (.int .i64 26))
 (bindO (fLen (fCell x0 1)) fun v5 =>
 bindO (fBin .gtr v5 (.int .i64 256)) fun v6 =>
 fCond v6
 (some (.int .i64 26))
 (mach_Check.L0 (fCell x0 0) (fCell x0 1) (fCell x0 2) (fCell x0 3) (fCell x0 4) (fCell x0 5))))):=(den_eq ..).trans (by kernel_rfl)
theorem mach_Check.L0_eq:mach_Check.L0 x0 x1 x2 x3 x4 x5 = (
 bindO (mach_names x1) fun v7 =>
 bindO (fBin .neq v7 (.int .i64 0)) fun v8 =>
 fCond v8
 (some v7)
 (bindO (mach_checkPorts (.agg [x0,x1,x2,x3,x4,x5])) fun v9 =>
 bindO (fBin .neq v9 (.int .i64 0)) fun v10 =>
 fCond v10
 (some v9)
 (bindO (fBin .lss x2 (.int .i64 0)) fun v11 =>
 fCond v11
 (some (.int .i64 27))
 (bindO (fLen x1) fun v12 =>
 bindO (fBin .geq x2 v12) fun v13 =>
 fCond v13
 (some (.int .i64 27))
 (mach_Check.L1 x0 x1 x2 x3 x4 x5))))):=(jden_eq ..).trans (by kernel_rfl)
theorem mach_Check.L1_eq:mach_Check.L1 x0 x1 x2 x3 x4 x5 = (
 bindO (fLen x1) fun v7 =>
 bindO (mach_product x3) fun v8 =>
 bindO (fBin .mul v7 v8) fun v9 =>
 bindO (fBin .gtr v9 (.int .i64 4096)) fun v10 =>
 fCond v10
 (some (.int .i64 26))
 (bindO (fLen x5) fun v11 =>
 bindO (fBin .neq v11 v9) fun v12 =>
 fCond v12
 (some (.int .i64 23))
 (bindO (fLen x5) fun v13 =>
 mach_Check.L2 x5 v13 (.int .i64 0) x0 x1 x2 x3 x4 x5))):=(jden_eq ..).trans (by kernel_rfl)
theorem mach_Check.L2_eq:mach_Check.L2 x0 x1 x2 x3 x4 x5 x6 x7 x8 = (
 bindO (fBin .lss x2 x1) fun v10 =>
 fCond v10
 (bindO (fIdxC 2 x0 x2) fun c11 =>
 bindO (c11[0]?) fun v12 =>
 bindO (c11[1]?) fun v13 =>
 bindO (fBin .lss v12 (.int .i64 0)) fun v14 =>
 fCond v14
 (some (.int .i64 27))
 (bindO (fLen x4) fun v15 =>
 bindO (fBin .geq v12 v15) fun v16 =>
 fCond v16
 (some (.int .i64 27))
 (bindO (mach_fit x7 v13) fun v17 =>
 bindO (fUn .not v17) fun v18 =>
 fCond v18
 (some (.int .i64 27))
 (bindO (fBin .add x2 (.int .i64 1)) fun v19 =>
 mach_Check.L2 x0 x1 v19 x3 x4 x5 x6 x7 x8))))
 (some (.int .i64 0))):=(jden_eq ..).trans (by kernel_rfl)
theorem slices_Clone_int.eq:slices_Clone_int x0 = (
 onFV x0
 (some (.arr []))
 (bindO (asRows x0) fun r1 =>
 gB (rowsSz 1 r1) <|
 gB (decide ((0 + r1.length) * 8 ≤ room)) <|
 some (.arr ([] ++ r1)))):=(den_eq ..).trans (by kernel_rfl)
noncomputable def mach_number.L0:R:=jden E 60 [] [4,1,0,1,1] (mkF 27 [(0,.f x0),(5,.f x1),(8,.f x2),(9,.f x3),(10,.f x4)]) []
theorem mach_number.eq:mach_number x0 x1 = (
 bindO (fLen x1) fun v1 =>
 mach_number.L0 x0 (.int .i64 0) x1 v1 (.int .i64 0)):=(den_eq ..).trans (by kernel_rfl)
theorem mach_number.L0_eq:mach_number.L0 x0 x1 x2 x3 x4 = (
 bindO (fBin .lss x4 x3) fun v6 =>
 fCond v6
 (bindO (fIdxC 1 x2 x4) fun c7 =>
 bindO (c7[0]?) fun v8 =>
 bindO (fIdxC 2 x0 x4) fun c9 =>
 bindO (c9[1]?) fun v10 =>
 bindO (fLen v10) fun v11 =>
 bindO (fBin .mul x1 v11) fun v12 =>
 bindO (fBin .add v12 v8) fun v13 =>
 bindO (fBin .add x4 (.int .i64 1)) fun v14 =>
 mach_number.L0 x0 v13 x2 x3 v14)
 (some x1)):=(jden_eq ..).trans (by kernel_rfl)
noncomputable def mach_Run.L0:R:=jden E 18 [] [4,1,0,1,1,1] (mkF 70 [(1,.f x0),(2,.ptr 0 0 0),(24,.f x1),(25,.f x2),(26,.f x3)]) [.box [.f x4,.f x5,.f x6,.f x7,.f x8,.f x9]]
noncomputable def mach_Run.L1:R:=jden E 18 [] [4,1,0,1,1,1,1,1,1] (mkF 70 [(2,.ptr 0 0 0),(10,.ref 1),(11,.f x0),(12,.f x1),(41,.f x2),(42,.f x3),(43,.f x4)]) [.box [.f x5,.f x6,.f x7,.f x8,.f x9,.f x10],.own 1 r11]
theorem mach_Run.eq:mach_Run x0 x1 = (
 gB (fIsAgg 6 x0) <|
 bindO (mach_Check (.agg [(fCell x0 0),(fCell x0 1),(fCell x0 2),(fCell x0 3),(fCell x0 4),(fCell x0 5)])) fun v1 =>
 bindO (fBin .neq v1 (.int .i64 0)) fun v2 =>
 fCond v2
 (some (.tup [.nilS,.int .i64 0,v1]))
 (bindO (fLen x1) fun v3 =>
 bindO (fBin .gtr v3 (.int .i64 4096)) fun v4 =>
 fCond v4
 (some (.tup [.nilS,.int .i64 0,.int .i64 26]))
 (bindO (fLen x1) fun v5 =>
 mach_Run.L0 x1 x1 v5 (.int .i64 0) (fCell x0 0) (fCell x0 1) (fCell x0 2) (fCell x0 3) (fCell x0 4) (fCell x0 5)))):=(den_eq ..).trans (by kernel_rfl)
theorem mach_Run.L0_eq:mach_Run.L0 x0 x1 x2 x3 x4 x5 x6 x7 x8 x9 = (
 bindO (fBin .lss x3 x2) fun v11 =>
 fCond v11
 (bindO (fIdxC 1 x1 x3) fun c12 =>
 bindO (c12[0]?) fun v13 =>
 bindO (mach_fit x7 v13) fun v14 =>
 bindO (fUn .not v14) fun v15 =>
 fCond v15
 (some (.tup [.nilS,.int .i64 0,.int .i64 27]))
 (bindO (fBin .add x3 (.int .i64 1)) fun v16 =>
 mach_Run.L0 x0 x1 x2 v16 x4 x5 x6 x7 x8 x9))
 (bindO (mach_product x7) fun v17 =>
 bindO (fLen x0) fun v18 =>
 mach_Run.L1 x6 v17 x0 v18 (.int .i64 0) x4 x5 x6 x7 x8 x9 [])):=(jden_eq ..).trans (by kernel_rfl)
theorem mach_Run.L1_eq:mach_Run.L1 x0 x1 x2 x3 x4 x5 x6 x7 x8 x9 x10 r11 = (
 bindO (fBin .lss x4 x3) fun v13 =>
 fCond v13
 (bindO (fIdxC 1 x2 x4) fun c14 =>
 bindO (c14[0]?) fun v15 =>
 bindO (fBin .mul x0 x1) fun v16 =>
 bindO (mach_number x8 v15) fun v17 =>
 bindO (fBin .add v16 v17) fun v18 =>
 bindO (fIdxC 2 x10 v18) fun c19 =>
 bindO (c19[0]?) fun v20 =>
 bindO (c19[1]?) fun v21 =>
 bindO (slices_Clone_int v21) fun v22 =>
 bindO (arrRows v22) fun r23 =>
 gB (decide ((r11.length + 1) * 24 ≤ room)) <|
 bindO (fBin .add x4 (.int .i64 1)) fun v24 =>
 mach_Run.L1 v20 x1 x2 x3 v24 x5 x6 x7 x8 x9 x10 (r11 ++ [[.arr r23]]))
 (some (.tup [.arr r11,x0,.int .i64 0]))):=(jden_eq ..).trans (by kernel_rfl)
noncomputable def ref02_equal.L0:R:=jden E 99 [] [4,1,0,1,1] (mkF 26 [(0,.f x0),(1,.f x1),(5,.f x2)]) []
theorem ref02_equal.eq:ref02_equal x0 x1 = (
 bindO (fLen x0) fun v1 =>
 bindO (fLen x1) fun v2 =>
 bindO (fBin .neq v1 v2) fun v3 =>
 fCond v3
 (some (.bool false))
 (ref02_equal.L0 x0 x1 (.int .i64 0))):=(den_eq ..).trans (by kernel_rfl)
theorem ref02_equal.L0_eq:ref02_equal.L0 x0 x1 x2 = (
 bindO (fLen x0) fun v4 =>
 bindO (fBin .lss x2 v4) fun v5 =>
 fCond v5
 (bindO (fIdxC 1 x0 x2) fun c6 =>
 bindO (c6[0]?) fun v7 =>
 bindO (fIdxC 1 x1 x2) fun c8 =>
 bindO (c8[0]?) fun v9 =>
 bindO (fBin .neq v7 v9) fun v10 =>
 fCond v10
 (some (.bool false))
 (bindO (fBin .add x2 (.int .i64 1)) fun v11 =>
 ref02_equal.L0 x0 x1 v11))
 (some (.bool true))):=(jden_eq ..).trans (by kernel_rfl)
noncomputable def ref02_samePorts.L0:R:=jden E 100 [] [4,1,0,1,1] (mkF 42 [(0,.f x0),(1,.f x1),(5,.f x2)]) []
theorem ref02_samePorts.eq:ref02_samePorts x0 x1 = (
 bindO (fLen x0) fun v1 =>
 bindO (fLen x1) fun v2 =>
 bindO (fBin .neq v1 v2) fun v3 =>
 fCond v3
 (some (.bool false))
 (ref02_samePorts.L0 x0 x1 (.int .i64 0))):=(den_eq ..).trans (by kernel_rfl)
theorem ref02_samePorts.L0_eq:ref02_samePorts.L0 x0 x1 x2 = (
 bindO (fLen x0) fun v4 =>
 bindO (fBin .lss x2 v4) fun v5 =>
 fCond v5
 (bindO (fIdxC 2 x0 x2) fun c6 =>
 bindO (c6[0]?) fun v7 =>
 bindO (fIdxC 2 x1 x2) fun c8 =>
 bindO (c8[0]?) fun v9 =>
 bindO (fBin .neq v7 v9) fun v10 =>
 fCond v10
 (some (.bool false))
 (bindO (fIdxC 2 x0 x2) fun c11 =>
 bindO (c11[1]?) fun v12 =>
 bindO (fIdxC 2 x1 x2) fun c13 =>
 bindO (c13[1]?) fun v14 =>
 bindO (ref02_equal v12 v14) fun v15 =>
 bindO (fUn .not v15) fun v16 =>
 fCond v16
 (some (.bool false))
 (bindO (fBin .add x2 (.int .i64 1)) fun v17 =>
 ref02_samePorts.L0 x0 x1 v17)))
 (some (.bool true))):=(jden_eq ..).trans (by kernel_rfl)
noncomputable def ref02_SameMachine.L0:R:=jden E 33 [] [1] (mkF 87 [(2,.ptr 0 0 0),(3,.ptr 1 0 0)]) [.box [.f x0,.f x1,.f x2,.f x3,.f x4,.f x5],.box [.f x6,.f x7,.f x8,.f x9,.f x10,.f x11]]
noncomputable def ref02_SameMachine.L1:R:=jden E 33 [] [4,1,0,1,1] (mkF 87 [(2,.ptr 0 0 0),(3,.ptr 1 0 0),(5,.f x0)]) [.box [.f x1,.f x2,.f x3,.f x4,.f x5,.f x6],.box [.f x7,.f x8,.f x9,.f x10,.f x11,.f x12]]
theorem ref02_SameMachine.eq:ref02_SameMachine x0 x1 = (
 gB (fIsAgg 6 x0) <|
 gB (fIsAgg 6 x1) <|
 bindO (fBin .neq (fCell x0 0) (fCell x1 0)) fun v1 =>
 fCond v1
 (some (.bool false))
 (bindO (fBin .neq (fCell x0 2) (fCell x1 2)) fun v2 =>
 fCond v2
 (some (.bool false))
 (bindO (ref02_equal (fCell x0 1) (fCell x1 1)) fun v3 =>
 bindO (fUn .not v3) fun v4 =>
 fCond v4
 (some (.bool false))
 (bindO (ref02_samePorts (fCell x0 3) (fCell x1 3)) fun v5 =>
 bindO (fUn .not v5) fun v6 =>
 fCond v6
 (some (.bool false))
 (bindO (ref02_samePorts (fCell x0 4) (fCell x1 4)) fun v7 =>
 bindO (fUn .not v7) fun v8 =>
 fCond v8
 (some (.bool false))
 (bindO (fLen (fCell x0 5)) fun v9 =>
 bindO (fLen (fCell x1 5)) fun v10 =>
 bindO (fBin .neq v9 v10) fun v11 =>
 fCond v11
 (some (.bool false))
 (ref02_SameMachine.L0 (fCell x0 0) (fCell x0 1) (fCell x0 2) (fCell x0 3) (fCell x0 4) (fCell x0 5) (fCell x1 0) (fCell x1 1) (fCell x1 2) (fCell x1 3) (fCell x1 4) (fCell x1 5)))))))):=(den_eq ..).trans (by kernel_rfl)
theorem ref02_SameMachine.L0_eq:ref02_SameMachine.L0 x0 x1 x2 x3 x4 x5 x6 x7 x8 x9 x10 x11 = (
 ref02_SameMachine.L1 (.int .i64 0) x0 x1 x2 x3 x4 x5 x6 x7 x8 x9 x10 x11):=(jden_eq ..).trans (by kernel_rfl)
theorem ref02_SameMachine.L1_eq:ref02_SameMachine.L1 x0 x1 x2 x3 x4 x5 x6 x7 x8 x9 x10 x11 x12 = (
 bindO (fLen x6) fun v14 =>
 bindO (fBin .lss x0 v14) fun v15 =>
 fCond v15
 (bindO (fIdxC 2 x6 x0) fun c16 =>
 bindO (c16[0]?) fun v17 =>
 bindO (fIdxC 2 x12 x0) fun c18 =>
 bindO (c18[0]?) fun v19 =>
 bindO (fBin .neq v17 v19) fun v20 =>
 fCond v20
 (some (.bool false))
 (bindO (fIdxC 2 x6 x0) fun c21 =>
 bindO (c21[1]?) fun v22 =>
 bindO (fIdxC 2 x12 x0) fun c23 =>
 bindO (c23[1]?) fun v24 =>
 bindO (ref02_sameInts v22 v24) fun v25 =>
 bindO (fUn .not v25) fun v26 =>
 fCond v26
 (some (.bool false))
 (bindO (fBin .add x0 (.int .i64 1)) fun v27 =>
 ref02_SameMachine.L1 v27 x1 x2 x3 x4 x5 x6 x7 x8 x9 x10 x11 x12)))
 (some (.bool true))):=(jden_eq ..).trans (by kernel_rfl)
noncomputable def mach_book.L0:R:=jden E 92 [] [4,1,0,1,1] (mkF 28 [(3,.mp 1),(9,.f x0),(10,.f x1),(11,.f x2)]) [.box [.f x3,.f x4],.map false es5]
theorem mach_book.eq:mach_book x0 = (
 gB (fIsAgg 2 x0) <|
 bindO (fLen (fCell x0 0)) fun v1 =>
 mach_book.L0 (fCell x0 0) v1 (.int .i64 0) (fCell x0 0) (fCell x0 1) []):=(den_eq ..).trans (by kernel_rfl)
theorem mach_book.L0_eq:mach_book.L0 x0 x1 x2 x3 x4 es5 = (
 bindO (fBin .lss x2 x1) fun v7 =>
 fCond v7
 (bindO (fIdxC 6 x0 x2) fun c8 =>
 bindO (c8[0]?) fun v9 =>
 bindO (c8[1]?) fun v10 =>
 bindO (c8[2]?) fun v11 =>
 bindO (c8[3]?) fun v12 =>
 bindO (c8[4]?) fun v13 =>
 bindO (c8[5]?) fun v14 =>
 bindO (mach_Check (.agg [v9,v10,v11,v12,v13,v14])) fun v15 =>
 bindO (fBin .neq v15 (.int .i64 0)) fun v16 =>
 fCond v16
 (some v15)
 (bindO (mLook false [.str] es5 v9 (.bool false)) fun v17 =>
 fCond v17.1
 (some (.int .i64 22))
 (gB (keyOk false [.str] v9) <|
 bindO (mPut false [.str] es5 v9 (.bool true)) fun es18 =>
 bindO (fBin .add x2 (.int .i64 1)) fun v19 =>
 mach_book.L0 x0 x1 v19 x3 x4 es18)))
 (some (.int .i64 0))):=(jden_eq ..).trans (by kernel_rfl)
theorem mach_in.eq:mach_in x0 x1 x2 = (
 gB (fIsAgg 2 x0) <|
 gB (fIsAgg 5 x1) <|
 gB (fIsAgg 2 x2) <|
 bindO (fIdxC 2 (fCell x1 1) (fCell x2 0)) fun c1 =>
 bindO (c1[1]?) fun v2 =>
 bindO (fIdxC 6 (fCell x0 0) v2) fun c3 =>
 bindO (c3[3]?) fun v4 =>
 bindO (fIdxC 2 v4 (fCell x2 1)) fun c5 =>
 bindO (c5[0]?) fun v6 =>
 bindO (c5[1]?) fun v7 =>
 some (.agg [v6,v7])):=(den_eq ..).trans (by kernel_rfl)
theorem mach_out.eq:mach_out x0 x1 x2 = (
 gB (fIsAgg 2 x0) <|
 gB (fIsAgg 5 x1) <|
 gB (fIsAgg 2 x2) <|
 bindO (fIdxC 2 (fCell x1 1) (fCell x2 0)) fun c1 =>
 bindO (c1[1]?) fun v2 =>
 bindO (fIdxC 6 (fCell x0 0) v2) fun c3 =>
 bindO (c3[4]?) fun v4 =>
 bindO (fIdxC 2 v4 (fCell x2 1)) fun c5 =>
 bindO (c5[0]?) fun v6 =>
 bindO (c5[1]?) fun v7 =>
 some (.agg [v6,v7])):=(den_eq ..).trans (by kernel_rfl)
theorem mach_isOut.eq:mach_isOut x0 x1 x2 = (
 gB (fIsAgg 2 x0) <|
 gB (fIsAgg 5 x1) <|
 gB (fIsAgg 2 x2) <|
 bindO (fBin .geq (fCell x2 0) (.int .i64 0)) fun v1 =>
 fCond v1
 (bindO (fLen (fCell x1 1)) fun v2 =>
 bindO (fBin .lss (fCell x2 0) v2) fun v3 =>
 fCond v3
 (bindO (fBin .geq (fCell x2 1) (.int .i64 0)) fun v4 =>
 fCond v4
 (bindO (fIdxC 2 (fCell x1 1) (fCell x2 0)) fun c5 =>
 bindO (c5[1]?) fun v6 =>
 bindO (fIdxC 6 (fCell x0 0) v6) fun c7 =>
 bindO (c7[4]?) fun v8 =>
 bindO (fLen v8) fun v9 =>
 bindO (fBin .lss (fCell x2 1) v9) fun v10 =>
 some v10)
 (some (.bool false)))
 (some (.bool false)))
 (some (.bool false))):=(den_eq ..).trans (by kernel_rfl)
theorem mach_isIn.eq:mach_isIn x0 x1 x2 = (
 gB (fIsAgg 2 x0) <|
 gB (fIsAgg 5 x1) <|
 gB (fIsAgg 2 x2) <|
 bindO (fBin .geq (fCell x2 0) (.int .i64 0)) fun v1 =>
 fCond v1
 (bindO (fLen (fCell x1 1)) fun v2 =>
 bindO (fBin .lss (fCell x2 0) v2) fun v3 =>
 fCond v3
 (bindO (fBin .geq (fCell x2 1) (.int .i64 0)) fun v4 =>
 fCond v4
 (bindO (fIdxC 2 (fCell x1 1) (fCell x2 0)) fun c5 =>
 bindO (c5[1]?) fun v6 =>
 bindO (fIdxC 6 (fCell x0 0) v6) fun c7 =>
 bindO (c7[3]?) fun v8 =>
 bindO (fLen v8) fun v9 =>
 bindO (fBin .lss (fCell x2 1) v9) fun v10 =>
 some v10)
 (some (.bool false)))
 (some (.bool false)))
 (some (.bool false))):=(den_eq ..).trans (by kernel_rfl)
noncomputable def mach_checkLinks.L0:R:=jden E 93 [] [4,1,0,1,1,1] (mkF 165 [(2,.ptr 0 0 0),(3,.ptr 1 0 0),(5,.mp 2),(6,.mp 3),(26,.f x0),(27,.f x1),(28,.f x2)]) [.box [.f x3,.f x4],.box [.f x5,.f x6,.f x7,.f x8,.f x9],.map false es10,.map false es11]
noncomputable def mach_checkLinks.L2:R:=jden E 93 [] [0,1,4,0,1,1,5,4,1,0,1,1,1] (mkF 165 [(2,.ptr 0 0 0),(3,.ptr 1 0 0),(5,.mp 2),(6,.mp 3),(8,.ptr 4 0 0),(26,.f x0),(27,.f x1),(28,.f x2)]) [.box [.f x3,.f x4],.box [.f x5,.f x6,.f x7,.f x8,.f x9],.map false es10,.map false es11,.box [.f x12,.f x13,.f x14,.f x15,.f x16,.f x17]]
noncomputable def mach_checkLinks.L4:R:=jden E 93 [] [4,1,0,1,1,1,1] (mkF 165 [(2,.ptr 0 0 0),(3,.ptr 1 0 0),(5,.mp 2),(6,.mp 3),(103,.f x0),(104,.f x1),(105,.f x2)]) [.box [.f x3,.f x4],.box [.f x5,.f x6,.f x7,.f x8,.f x9],.map false es10,.map false es11]
noncomputable def mach_checkLinks.L1:R:=jden E 93 [] [1,4,0,1,1,5,4,1,0,1,1,1] (mkF 165 [(2,.ptr 0 0 0),(3,.ptr 1 0 0),(5,.mp 2),(6,.mp 3),(8,.ptr 4 0 0),(26,.f x0),(27,.f x1),(28,.f x2)]) [.box [.f x3,.f x4],.box [.f x5,.f x6,.f x7,.f x8,.f x9],.map false es10,.map false es11,.box [.f x12,.f x13,.f x14,.f x15,.f x16,.f x17]]
noncomputable def mach_checkLinks.L5:R:=jden E 93 [] [4,1,0,1,1,1,1,1] (mkF 165 [(2,.ptr 0 0 0),(3,.ptr 1 0 0),(5,.mp 2),(6,.mp 3),(121,.f x0),(122,.f x1),(123,.f x2)]) [.box [.f x3,.f x4],.box [.f x5,.f x6,.f x7,.f x8,.f x9],.map false es10,.map false es11]
noncomputable def mach_checkLinks.L3:R:=jden E 93 [] [4,1,0,1,1,1,4,0,1,1,5,4,1,0,1,1,1] (mkF 165 [(2,.ptr 0 0 0),(3,.ptr 1 0 0),(5,.mp 2),(6,.mp 3),(8,.ptr 4 0 0),(9,.f x0),(26,.f x1),(27,.f x2),(28,.f x3),(71,.f x4),(72,.f x5),(73,.f x6)]) [.box [.f x7,.f x8],.box [.f x9,.f x10,.f x11,.f x12,.f x13],.map false es14,.map false es15,.box [.f x16,.f x17,.f x18,.f x19,.f x20,.f x21]]
noncomputable def mach_checkLinks.L6:R:=jden E 93 [] [4,1,0,1,1,1,1,1,1] (mkF 165 [(2,.ptr 0 0 0),(5,.mp 2),(139,.f x0),(140,.f x1),(141,.f x2)]) [.box [.f x3,.f x4],.box [.f x5,.f x6,.f x7,.f x8,.f x9],.map false es10,.map false es11]
noncomputable def mach_checkLinks.L7:R:=jden E 93 [] [4,1,1,4,0,1,1,5,4,1,0,1,1,1,1,1,1] (mkF 165 [(2,.ptr 0 0 0),(5,.mp 2),(16,.f x0),(139,.f x1),(140,.f x2),(141,.f x3),(153,.f x4),(154,.f x5)]) [.box [.f x6,.f x7],.box [.f x8,.f x9,.f x10,.f x11,.f x12],.map false es13,.map false es14,.box [.f x15,.f x16]]
theorem mach_checkLinks.eq:mach_checkLinks x0 x1 = (
 gB (fIsAgg 2 x0) <|
 gB (fIsAgg 5 x1) <|
 bindO (fLen (fCell x1 2)) fun v1 =>
 bindO (fBin .gtr v1 (.int .i64 64)) fun v2 =>
 fCond v2
 (some (.int .i64 26))
 (bindO (fLen (fCell x1 2)) fun v3 =>
 mach_checkLinks.L0 (fCell x1 2) v3 (.int .i64 0) (fCell x0 0) (fCell x0 1) (fCell x1 0) (fCell x1 1) (fCell x1 2) (fCell x1 3) (fCell x1 4) [] [])):=(den_eq ..).trans (by kernel_rfl)
theorem mach_checkLinks.L0_eq:mach_checkLinks.L0 x0 x1 x2 x3 x4 x5 x6 x7 x8 x9 es10 es11 = (
 bindO (fBin .lss x2 x1) fun v13 =>
 fCond v13
 (bindO (fIdxC 6 x0 x2) fun c14 =>
 bindO (c14[0]?) fun v15 =>
 bindO (c14[1]?) fun v16 =>
 bindO (c14[2]?) fun v17 =>
 bindO (c14[3]?) fun v18 =>
 bindO (c14[4]?) fun v19 =>
 bindO (c14[5]?) fun v20 =>
 bindO (mach_isOut (.agg [x3,x4]) (.agg [x5,x6,x7,x8,x9]) (.agg [v15,v16])) fun v21 =>
 bindO (fUn .not v21) fun v22 =>
 fCond v22
 (some (.int .i64 24))
 (bindO (mach_isIn (.agg [x3,x4]) (.agg [x5,x6,x7,x8,x9]) (.agg [v17,v18])) fun v23 =>
 bindO (fUn .not v23) fun v24 =>
 fCond v24
 (some (.int .i64 24))
 (bindO (fBin .lss v19 (.int .i64 0)) fun v25 =>
 fCond v25
 (some (.int .i64 26))
 (bindO (fBin .gtr v19 (.int .i64 100)) fun v26 =>
 fCond v26
 (some (.int .i64 26))
 (bindO (fLen v20) fun v27 =>
 bindO (fBin .neq v27 v19) fun v28 =>
 fCond v28
 (some (.int .i64 24))
 (mach_checkLinks.L2 x0 x1 x2 x3 x4 x5 x6 x7 x8 x9 es10 es11 v15 v16 v17 v18 v19 v20))))))
 (bindO (fLen x8) fun v29 =>
 mach_checkLinks.L4 x8 v29 (.int .i64 0) x3 x4 x5 x6 x7 x8 x9 es10 es11)):=(jden_eq ..).trans (by kernel_rfl)
theorem mach_checkLinks.L2_eq:mach_checkLinks.L2 x0 x1 x2 x3 x4 x5 x6 x7 x8 x9 es10 es11 x12 x13 x14 x15 x16 x17 = (
 mach_checkLinks.L1 x0 x1 x2 x3 x4 x5 x6 x7 x8 x9 es10 es11 x12 x13 x14 x15 x16 x17):=(jden_eq ..).trans (by kernel_rfl)
theorem mach_checkLinks.L4_eq:mach_checkLinks.L4 x0 x1 x2 x3 x4 x5 x6 x7 x8 x9 es10 es11 = (
 bindO (fBin .lss x2 x1) fun v13 =>
 fCond v13
 (bindO (fIdxC 2 x0 x2) fun c14 =>
 bindO (c14[0]?) fun v15 =>
 bindO (c14[1]?) fun v16 =>
 bindO (mach_isIn (.agg [x3,x4]) (.agg [x5,x6,x7,x8,x9]) (.agg [v15,v16])) fun v17 =>
 bindO (fUn .not v17) fun v18 =>
 fCond v18
 (some (.int .i64 24))
 (bindO (mLook true [.int,.int] es10 (.agg [v15,v16]) (.bool false)) fun v19 =>
 fCond v19.1
 (some (.int .i64 22))
 (gB (keyOk true [.int,.int] (.agg [v15,v16])) <|
 bindO (mPut true [.int,.int] es10 (.agg [v15,v16]) (.bool true)) fun es20 =>
 bindO (fBin .add x2 (.int .i64 1)) fun v21 =>
 mach_checkLinks.L4 x0 x1 v21 x3 x4 x5 x6 x7 x8 x9 es20 es11)))
 (bindO (fLen x9) fun v22 =>
 mach_checkLinks.L5 x9 v22 (.int .i64 0) x3 x4 x5 x6 x7 x8 x9 es10 es11)):=(jden_eq ..).trans (by kernel_rfl)
theorem mach_checkLinks.L1_eq:mach_checkLinks.L1 x0 x1 x2 x3 x4 x5 x6 x7 x8 x9 es10 es11 x12 x13 x14 x15 x16 x17 = (
 bindO (mach_out (.agg [x3,x4]) (.agg [x5,x6,x7,x8,x9]) (.agg [x12,x13])) fun v19 =>
 gB (fIsAgg 2 v19) <|
 bindO (fLen (fCell v19 1)) fun v20 =>
 bindO (fLen x17) fun v21 =>
 mach_checkLinks.L3 v20 x0 x1 x2 x17 v21 (.int .i64 0) x3 x4 x5 x6 x7 x8 x9 es10 es11 x12 x13 x14 x15 x16 x17):=(jden_eq ..).trans (by kernel_rfl)
theorem mach_checkLinks.L5_eq:mach_checkLinks.L5 x0 x1 x2 x3 x4 x5 x6 x7 x8 x9 es10 es11 = (
 bindO (fBin .lss x2 x1) fun v13 =>
 fCond v13
 (bindO (fIdxC 2 x0 x2) fun c14 =>
 bindO (c14[0]?) fun v15 =>
 bindO (c14[1]?) fun v16 =>
 bindO (mach_isOut (.agg [x3,x4]) (.agg [x5,x6,x7,x8,x9]) (.agg [v15,v16])) fun v17 =>
 bindO (fUn .not v17) fun v18 =>
 fCond v18
 (some (.int .i64 24))
 (bindO (mLook true [.int,.int] es11 (.agg [v15,v16]) (.bool false)) fun v19 =>
 fCond v19.1
 (some (.int .i64 22))
 (gB (keyOk true [.int,.int] (.agg [v15,v16])) <|
 bindO (mPut true [.int,.int] es11 (.agg [v15,v16]) (.bool true)) fun es20 =>
 bindO (fBin .add x2 (.int .i64 1)) fun v21 =>
 mach_checkLinks.L5 x0 x1 v21 x3 x4 x5 x6 x7 x8 x9 es10 es20)))
 (bindO (fLen x6) fun v22 =>
 mach_checkLinks.L6 x6 v22 (.int .i64 0) x3 x4 x5 x6 x7 x8 x9 es10 es11)):=(jden_eq ..).trans (by kernel_rfl)
theorem mach_checkLinks.L3_eq:mach_checkLinks.L3 x0 x1 x2 x3 x4 x5 x6 x7 x8 x9 x10 x11 x12 x13 es14 es15 x16 x17 x18 x19 x20 x21 = (
 bindO (fBin .lss x6 x5) fun v23 =>
 fCond v23
 (bindO (fIdxC 1 x4 x6) fun c24 =>
 bindO (c24[0]?) fun v25 =>
 bindO (fBin .lss v25 (.int .i64 0)) fun v26 =>
 fCond v26
 (some (.int .i64 27))
 (bindO (fBin .geq v25 x0) fun v27 =>
 fCond v27
 (some (.int .i64 27))
 (bindO (fBin .add x6 (.int .i64 1)) fun v28 =>
 mach_checkLinks.L3 x0 x1 x2 x3 x4 x5 v28 x7 x8 x9 x10 x11 x12 x13 es14 es15 x16 x17 x18 x19 x20 x21)))
 (bindO (mach_in (.agg [x7,x8]) (.agg [x9,x10,x11,x12,x13]) (.agg [x18,x19])) fun v29 =>
 gB (fIsAgg 2 v29) <|
 bindO (fLen (fCell v29 1)) fun v30 =>
 bindO (fBin .gtr x0 v30) fun v31 =>
 fCond v31
 (some (.int .i64 24))
 (bindO (mLook true [.int,.int] es14 (.agg [x18,x19]) (.bool false)) fun v32 =>
 fCond v32.1
 (some (.int .i64 22))
 (gB (keyOk true [.int,.int] (.agg [x18,x19])) <|
 bindO (mPut true [.int,.int] es14 (.agg [x18,x19]) (.bool true)) fun es33 =>
 bindO (fBin .add x3 (.int .i64 1)) fun v34 =>
 mach_checkLinks.L0 x1 x2 v34 x7 x8 x9 x10 x11 x12 x13 es33 es15)))):=(jden_eq ..).trans (by kernel_rfl)
theorem mach_checkLinks.L6_eq:mach_checkLinks.L6 x0 x1 x2 x3 x4 x5 x6 x7 x8 x9 es10 es11 = (
 bindO (fBin .lss x2 x1) fun v13 =>
 fCond v13
 (bindO (fIdxC 2 x0 x2) fun c14 =>
 bindO (c14[0]?) fun v15 =>
 bindO (c14[1]?) fun v16 =>
 bindO (fIdxC 6 x3 v16) fun c17 =>
 bindO (c17[3]?) fun v18 =>
 bindO (fLen v18) fun v19 =>
 mach_checkLinks.L7 x2 x0 x1 x2 v19 (.int .i64 0) x3 x4 x5 x6 x7 x8 x9 es10 es11 v15 v16)
 (some (.int .i64 0))):=(jden_eq ..).trans (by kernel_rfl)
theorem mach_checkLinks.L7_eq:mach_checkLinks.L7 x0 x1 x2 x3 x4 x5 x6 x7 x8 x9 x10 x11 x12 es13 es14 x15 x16 = (
 bindO (fBin .lss x5 x4) fun v18 =>
 fCond v18
 (bindO (mLook true [.int,.int] es13 (.agg [x0,x5]) (.bool false)) fun v19 =>
 bindO (fUn .not v19.1) fun v20 =>
 fCond v20
 (some (.int .i64 24))
 (bindO (fBin .add x5 (.int .i64 1)) fun v21 =>
 mach_checkLinks.L7 x0 x1 x2 x3 x4 v21 x6 x7 x8 x9 x10 x11 x12 es13 es14 x15 x16))
 (bindO (fBin .add x3 (.int .i64 1)) fun v22 =>
 mach_checkLinks.L6 x1 x2 v22 x6 x7 x8 x9 x10 x11 x12 es13 es14)):=(jden_eq ..).trans (by kernel_rfl)
noncomputable def mach_order.L0:R:=jden E 94 [] [4,1,0,1,1] (mkF 100 [(1,.ptr 0 0 0),(4,.ref 1),(19,.f x0),(20,.f x1),(21,.f x2)]) [.box [.f x3,.f x4,.f x5,.f x6,.f x7],.own 1 r8]
noncomputable def mach_order.L1:R:=jden E 94 [] [4,1,0,1,1,1,1] (mkF 100 [(1,.ptr 0 0 0),(4,.ref 1),(7,.ptr 2 0 0),(37,.ref 1),(38,.f x0),(39,.f x1)]) [.box [.f x2,.f x3,.f x4,.f x5,.f x6],.own 1 r7,.box [.ref 3,.f x8],.own 1 r9]
noncomputable def mach_order.L2:R:=jden E 94 [] [4,0,1,1,1,1,1,1] (mkF 100 [(1,.ptr 0 0 0),(4,.ref 1),(7,.ptr 2 0 0),(10,.ref 4)]) [.box [.f x0,.f x1,.f x2,.f x3,.f x4],.own 1 r5,.box [.ref 5,.f x6],.dead,.own 1 r7,.own 1 r8]
noncomputable def mach_order.L3:R:=jden E 94 [] [4,1,1,1,4,1,5,4,0,1,1,1,1,1,1] (mkF 100 [(1,.ptr 0 0 0),(4,.ref 1),(7,.ptr 2 0 0),(10,.ref 7),(11,.f x0),(57,.f x1),(58,.f x2),(59,.f x3)]) [.box [.f x4,.f x5,.f x6,.f x7,.f x8],.own 1 r9,.box [.ref 6,.f x10],.dead,.dead,.dead,.own 1 r11,.own 1 r12]
noncomputable def mach_order.L4:R:=jden E 94 [] [1,4,0,1,1,5,4,1,1,1,4,1,5,4,0,1,1,1,1,1,1] (mkF 100 [(1,.ptr 0 0 0),(4,.ref 1),(7,.ptr 2 0 0),(10,.ref 7),(11,.f x0),(13,.f x1),(57,.f x2),(58,.f x3),(59,.f x4)]) [.box [.f x5,.f x6,.f x7,.f x8,.f x9],.own 1 r10,.box [.ref 6,.f x11],.dead,.dead,.dead,.own 1 r12,.own 1 r13]
theorem mach_order.eq:mach_order x0 = (
 gB (fIsAgg 5 x0) <|
 bindO (fLen (fCell x0 1)) fun v1 =>
 bindO (asNat v1) fun j2 =>
 bindO (asNat v1) fun j3 =>
 gB (j2 ≤ j3 && j3 * 8 ≤ room && 1 ≥ 1) <|
 bindO (fLen (fCell x0 2)) fun v4 =>
 mach_order.L0 (fCell x0 2) v4 (.int .i64 0) (fCell x0 0) (fCell x0 1) (fCell x0 2) (fCell x0 3) (fCell x0 4) (List.replicate j2 [(.int .i64 0:FV)])):=(den_eq ..).trans (by kernel_rfl)
theorem mach_order.L0_eq:mach_order.L0 x0 x1 x2 x3 x4 x5 x6 x7 r8 = (
 bindO (fBin .lss x2 x1) fun v10 =>
 fCond v10
 (bindO (fIdxC 6 x0 x2) fun c11 =>
 bindO (c11[0]?) fun v12 =>
 bindO (c11[1]?) fun v13 =>
 bindO (c11[2]?) fun v14 =>
 bindO (c11[3]?) fun v15 =>
 bindO (c11[4]?) fun v16 =>
 bindO (c11[5]?) fun v17 =>
 bindO (fBin .eql v16 (.int .i64 0)) fun v18 =>
 fCond v18
 (bindO (rIdx r8 v14) fun j19 =>
 bindO (rGet r8 j19 0) fun v20 =>
 bindO (fBin .add v20 (.int .i64 1)) fun v21 =>
 bindO (rIdx r8 v14) fun j22 =>
 bindO (rSet r8 j22 0 [v21]) fun r23 =>
 bindO (fBin .add x2 (.int .i64 1)) fun v24 =>
 mach_order.L0 x0 x1 v24 x3 x4 x5 x6 x7 r23)
 (bindO (fBin .add x2 (.int .i64 1)) fun v25 =>
 mach_order.L0 x0 x1 v25 x3 x4 x5 x6 x7 r8))
 (mach_order.L1 (.int .i64 ((r8.length:Nat):Int)) (.int .i64 0) x3 x4 x5 x6 x7 r8 (.int .i64 0) [])):=(jden_eq ..).trans (by kernel_rfl)
theorem mach_order.L1_eq:mach_order.L1 x0 x1 x2 x3 x4 x5 x6 r7 x8 r9 = (
 bindO (fBin .lss x1 x0) fun v11 =>
 fCond v11
 (bindO (rIdx r7 x1) fun j12 =>
 bindO (rGet r7 j12 0) fun v13 =>
 bindO (fBin .eql v13 (.int .i64 0)) fun v14 =>
 fCond v14
 (gB (decide ((r9.length + 1) * 8 ≤ room)) <|
 bindO (fBin .add x1 (.int .i64 1)) fun v15 =>
 mach_order.L1 x0 v15 x2 x3 x4 x5 x6 r7 x8 (r9 ++ [[x1]]))
 (bindO (fBin .add x1 (.int .i64 1)) fun v16 =>
 mach_order.L1 x0 v16 x2 x3 x4 x5 x6 r7 x8 r9))
 (mach_order.L2 x2 x3 x4 x5 x6 r7 x8 [] r9)):=(jden_eq ..).trans (by kernel_rfl)
theorem mach_order.L2_eq:mach_order.L2 x0 x1 x2 x3 x4 r5 x6 r7 r8 = (
 bindO (fBin .eql x6 (.int .i64 ((r8.length:Nat):Int))) fun v10 =>
 bindO (fUn .not v10) fun v11 =>
 fCond v11
 (bindO (rIdx r8 x6) fun j12 =>
 bindO (rGet r8 j12 0) fun v13 =>
 bindO (fBin .add x6 (.int .i64 1)) fun v14 =>
 gB (decide ((r7.length + 1) * 8 ≤ room)) <|
 bindO (fLen x2) fun v15 =>
 mach_order.L3 v13 x2 v15 (.int .i64 0) x0 x1 x2 x3 x4 r5 v14 r8 (r7 ++ [[v13]]))
 (bindO (fLen x1) fun v16 =>
 bindO (fBin .eql (.int .i64 ((r7.length:Nat):Int)) v16) fun v17 =>
 some (.tup [.arr r7,v17]))):=(jden_eq ..).trans (by kernel_rfl)
theorem mach_order.L3_eq:mach_order.L3 x0 x1 x2 x3 x4 x5 x6 x7 x8 r9 x10 r11 r12 = (
 bindO (fBin .lss x3 x2) fun v14 =>
 fCond v14
 (bindO (fIdxC 6 x1 x3) fun c15 =>
 bindO (c15[0]?) fun v16 =>
 bindO (c15[1]?) fun v17 =>
 bindO (c15[2]?) fun v18 =>
 bindO (c15[3]?) fun v19 =>
 bindO (c15[4]?) fun v20 =>
 bindO (c15[5]?) fun v21 =>
 bindO (fBin .neq v20 (.int .i64 0)) fun v22 =>
 fCond v22
 (bindO (fBin .add x3 (.int .i64 1)) fun v23 =>
 mach_order.L3 x0 x1 x2 v23 x4 x5 x6 x7 x8 r9 x10 r11 r12)
 (bindO (fBin .neq v16 x0) fun v24 =>
 fCond v24
 (bindO (fBin .add x3 (.int .i64 1)) fun v25 =>
 mach_order.L3 x0 x1 x2 v25 x4 x5 x6 x7 x8 r9 x10 r11 r12)
 (mach_order.L4 x0 (.eptr [v16,v17,v18,v19,v20,v21] 0) x1 x2 x3 x4 x5 x6 x7 x8 r9 x10 r11 r12)))
 (mach_order.L2 x4 x5 x6 x7 x8 r9 x10 r12 r11)):=(jden_eq ..).trans (by kernel_rfl)
theorem mach_order.L4_eq:mach_order.L4 x0 x1 x2 x3 x4 x5 x6 x7 x8 x9 r10 x11 r12 r13 = (
 bindO (fAddrO x1 2) fun p15 =>
 bindO (fAddrO p15 0) fun p16 =>
 bindO (fLd p16 0) fun v17 =>
 bindO (rIdx r10 v17) fun j18 =>
 bindO (rGet r10 j18 0) fun v19 =>
 bindO (fBin .sub v19 (.int .i64 1)) fun v20 =>
 bindO (rIdx r10 v17) fun j21 =>
 bindO (rSet r10 j21 0 [v20]) fun r22 =>
 bindO (fAddrO x1 2) fun p23 =>
 bindO (fAddrO p23 0) fun p24 =>
 bindO (fLd p24 0) fun v25 =>
 bindO (rIdx r22 v25) fun j26 =>
 bindO (rGet r22 j26 0) fun v27 =>
 bindO (fBin .eql v27 (.int .i64 0)) fun v28 =>
 fCond v28
 (bindO (fAddrO x1 2) fun p29 =>
 bindO (fAddrO p29 0) fun p30 =>
 bindO (fLd p30 0) fun v31 =>
 gB (decide ((r12.length + 1) * 8 ≤ room)) <|
 bindO (fBin .add x4 (.int .i64 1)) fun v32 =>
 mach_order.L3 x0 x2 x3 v32 x5 x6 x7 x8 x9 r22 x11 (r12 ++ [[v31]]) r13)
 (bindO (fBin .add x4 (.int .i64 1)) fun v33 =>
 mach_order.L3 x0 x2 x3 v33 x5 x6 x7 x8 x9 r22 x11 r12 r13)):=(jden_eq ..).trans (by kernel_rfl)
noncomputable def mach_CheckNet.L0:R:=jden E 30 [] [1] (mkF 93 [(1,.f x0),(2,.ptr 0 0 0)]) [.box [.f x1,.f x2]]
noncomputable def mach_CheckNet.L1:R:=jden E 30 [] [1,1,1,1,1] (mkF 93 [(2,.ptr 0 0 0),(6,.ptr 1 0 0)]) [.box [.f x0,.f x1],.box [.f x2,.f x3,.f x4,.f x5,.f x6]]
noncomputable def mach_CheckNet.L2:R:=jden E 30 [] [4,1,0,1,1,1,1,1,1,1] (mkF 93 [(2,.ptr 0 0 0),(6,.ptr 1 0 0),(7,.mp 2),(48,.f x0),(49,.f x1),(50,.f x2)]) [.box [.f x3,.f x4],.box [.f x5,.f x6,.f x7,.f x8,.f x9],.map false es10]
noncomputable def mach_CheckNet.L3:R:=jden E 30 [] [1,4,0,1,1,5,4,1,0,1,1,1,1,1,1,1] (mkF 93 [(2,.ptr 0 0 0),(6,.ptr 1 0 0),(7,.mp 2),(9,.ptr 3 0 0),(48,.f x0),(49,.f x1),(50,.f x2)]) [.box [.f x3,.f x4],.box [.f x5,.f x6,.f x7,.f x8,.f x9],.map false es10,.box [.f x11,.f x12]]
theorem mach_CheckNet.eq:mach_CheckNet x0 x1 = (
 gB (fIsAgg 2 x0) <|
 bindO (fBin .lss x1 (.int .i64 0)) fun v1 =>
 fCond v1
 (some (.int .i64 21))
 (bindO (fLen (fCell x0 1)) fun v2 =>
 bindO (fBin .geq x1 v2) fun v3 =>
 fCond v3
 (some (.int .i64 21))
 (mach_CheckNet.L0 x1 (fCell x0 0) (fCell x0 1)))):=(den_eq ..).trans (by kernel_rfl)
theorem mach_CheckNet.L0_eq:mach_CheckNet.L0 x0 x1 x2 = (
 bindO (mach_book (.agg [x1,x2])) fun v4 =>
 bindO (fBin .neq v4 (.int .i64 0)) fun v5 =>
 fCond v5
 (some v4)
 (bindO (fIdxC 5 x2 x0) fun c6 =>
 bindO (c6[0]?) fun v7 =>
 bindO (c6[1]?) fun v8 =>
 bindO (c6[2]?) fun v9 =>
 bindO (c6[3]?) fun v10 =>
 bindO (c6[4]?) fun v11 =>
 bindO (mach_isName v7) fun v12 =>
 bindO (fUn .not v12) fun v13 =>
 fCond v13
 (some (.int .i64 21))
 (bindO (fLen v8) fun v14 =>
 bindO (fBin .eql v14 (.int .i64 0)) fun v15 =>
 fCond v15
 (some (.int .i64 26))
 (bindO (fLen v8) fun v16 =>
 bindO (fBin .gtr v16 (.int .i64 32)) fun v17 =>
 fCond v17
 (some (.int .i64 26))
 (mach_CheckNet.L1 x1 x2 v7 v8 v9 v10 v11))))):=(jden_eq ..).trans (by kernel_rfl)
theorem mach_CheckNet.L1_eq:mach_CheckNet.L1 x0 x1 x2 x3 x4 x5 x6 = (
 bindO (fLen x3) fun v8 =>
 mach_CheckNet.L2 x3 v8 (.int .i64 0) x0 x1 x2 x3 x4 x5 x6 []):=(jden_eq ..).trans (by kernel_rfl)
theorem mach_CheckNet.L2_eq:mach_CheckNet.L2 x0 x1 x2 x3 x4 x5 x6 x7 x8 x9 es10 = (
 bindO (fBin .lss x2 x1) fun v12 =>
 fCond v12
 (bindO (fIdxC 2 x0 x2) fun c13 =>
 bindO (c13[0]?) fun v14 =>
 bindO (c13[1]?) fun v15 =>
 bindO (mach_isName v14) fun v16 =>
 bindO (fUn .not v16) fun v17 =>
 fCond v17
 (some (.int .i64 21))
 (bindO (mLook false [.str] es10 v14 (.bool false)) fun v18 =>
 fCond v18.1
 (some (.int .i64 22))
 (bindO (fBin .lss v15 (.int .i64 0)) fun v19 =>
 fCond v19
 (some (.int .i64 21))
 (bindO (fLen x3) fun v20 =>
 bindO (fBin .geq v15 v20) fun v21 =>
 fCond v21
 (some (.int .i64 21))
 (mach_CheckNet.L3 x0 x1 x2 x3 x4 x5 x6 x7 x8 x9 es10 v14 v15)))))
 (bindO (mach_checkLinks (.agg [x3,x4]) (.agg [x5,x6,x7,x8,x9])) fun v22 =>
 bindO (fBin .neq v22 (.int .i64 0)) fun v23 =>
 fCond v23
 (some v22)
 (bindO (mach_order (.agg [x5,x6,x7,x8,x9])) fun v24 =>
 gB (fIsTup 2 v24) <|
 bindO (fUn .not (fTup v24 1)) fun v25 =>
 fCond v25
 (some (.int .i64 25))
 (some (.int .i64 0))))):=(jden_eq ..).trans (by kernel_rfl)
theorem mach_CheckNet.L3_eq:mach_CheckNet.L3 x0 x1 x2 x3 x4 x5 x6 x7 x8 x9 es10 x11 x12 = (
 gB (keyOk false [.str] x11) <|
 bindO (mPut false [.str] es10 x11 (.bool true)) fun es14 =>
 bindO (fBin .add x2 (.int .i64 1)) fun v15 =>
 mach_CheckNet.L2 x0 x1 v15 x3 x4 x5 x6 x7 x8 x9 es14):=(jden_eq ..).trans (by kernel_rfl)
noncomputable def mach_runner_ports.L0:R:=jden E 120 [] [4,1,0,1,1] (mkF 28 [(2,.f x0),(3,.ptr 0 0 0),(7,.ref 1),(10,.f x1),(11,.f x2),(12,.f x3)]) [.box [.f x4,.f x5,.f x6,.f x7,.f x8,.f x9,.f x10,.f x11],.own 2 r12]
theorem mach_runner_ports.eq:mach_runner_ports x0 x1 x2 = (
 gB (fIsAgg 8 x0) <|
 bindO (fLen x1) fun v1 =>
 mach_runner_ports.L0 x2 x1 v1 (.int .i64 0) (fCell x0 0) (fCell x0 1) (fCell x0 2) (fCell x0 3) (fCell x0 4) (fCell x0 5) (fCell x0 6) (fCell x0 7) []):=(den_eq ..).trans (by kernel_rfl)
theorem mach_runner_ports.L0_eq:mach_runner_ports.L0 x0 x1 x2 x3 x4 x5 x6 x7 x8 x9 x10 x11 r12 = (
 bindO (fBin .lss x3 x2) fun v14 =>
 fCond v14
 (bindO (fIdxC 2 x1 x3) fun c15 =>
 bindO (c15[0]?) fun v16 =>
 bindO (c15[1]?) fun v17 =>
 bindO (callDyn true x0 [.agg [x4,x5],.agg [x6,x7,x8,x9,x10],.agg [v16,v17]]) fun v18 =>
 gB (fIsAgg 2 v18) <|
 gB (decide ((r12.length + 1) * 40 ≤ room)) <|
 bindO (fBin .add x3 (.int .i64 1)) fun v19 =>
 mach_runner_ports.L0 x0 x1 x2 v19 x4 x5 x6 x7 x8 x9 x10 x11 (r12 ++ [[(fCell v18 0),(fCell v18 1)]]))
 (some (.arr r12))):=(jden_eq ..).trans (by kernel_rfl)
noncomputable def mach_runner_begin.L0:R:=jden E 122 [] [4,1,0,1,1] (mkF 48 [(1,.ptr 0 0 0),(2,.ptr 1 0 0),(3,.ptr 2 0 0),(10,.f x0),(11,.f x1),(12,.f x2)]) [.box [.f x3,.f x4,.f x5,.f x6,.f x7,.f x8,.f x9,.f x10],.box [.ref 3,.ref 4],.box [.ref 5,.ref 6],.own 1 r11,.own 1 r12,.own 1 r13,.own 1 r14]
noncomputable def mach_runner_begin.L1:R:=jden E 122 [] [4,1,0,1,1,1] (mkF 48 [(2,.ptr 1 0 0),(3,.ptr 2 0 0),(32,.f x0),(33,.f x1),(34,.f x2)]) [.box [.f x3,.f x4,.f x5,.f x6,.f x7,.f x8,.f x9,.f x10],.box [.ref 3,.ref 4],.box [.ref 5,.ref 7],.own 1 r11,.own 1 r12,.own 1 r13,.dead,.own 1 r14]
theorem mach_runner_begin.eq:mach_runner_begin x0 = (
 gB (fIsAgg 8 x0) <|
 bindO (fLen (fCell x0 3)) fun v1 =>
 mach_runner_begin.L0 (fCell x0 3) v1 (.int .i64 0) (fCell x0 0) (fCell x0 1) (fCell x0 2) (fCell x0 3) (fCell x0 4) (fCell x0 5) (fCell x0 6) (fCell x0 7) [] [] [] []):=(den_eq ..).trans (by kernel_rfl)
theorem mach_runner_begin.L0_eq:mach_runner_begin.L0 x0 x1 x2 x3 x4 x5 x6 x7 x8 x9 x10 r11 r12 r13 r14 = (
 bindO (fBin .lss x2 x1) fun v16 =>
 fCond v16
 (bindO (fIdxC 2 x0 x2) fun c17 =>
 bindO (c17[0]?) fun v18 =>
 bindO (c17[1]?) fun v19 =>
 bindO (fIdxC 6 x3 v19) fun c20 =>
 bindO (c20[2]?) fun v21 =>
 gB (decide ((r13.length + 1) * 8 ≤ room)) <|
 bindO (fBin .add x2 (.int .i64 1)) fun v22 =>
 mach_runner_begin.L0 x0 x1 v22 x3 x4 x5 x6 x7 x8 x9 x10 r11 r12 (r13 ++ [[v21]]) r14)
 (bindO (fLen x7) fun v23 =>
 mach_runner_begin.L1 x7 v23 (.int .i64 0) x3 x4 x5 x6 x7 x8 x9 x10 r11 r12 r13 r14)):=(jden_eq ..).trans (by kernel_rfl)
theorem mach_runner_begin.L1_eq:mach_runner_begin.L1 x0 x1 x2 x3 x4 x5 x6 x7 x8 x9 x10 r11 r12 r13 r14 = (
 bindO (fBin .lss x2 x1) fun v16 =>
 fCond v16
 (bindO (fIdxC 6 x0 x2) fun c17 =>
 bindO (c17[0]?) fun v18 =>
 bindO (c17[1]?) fun v19 =>
 bindO (c17[2]?) fun v20 =>
 bindO (c17[3]?) fun v21 =>
 bindO (c17[4]?) fun v22 =>
 bindO (c17[5]?) fun v23 =>
 bindO (slices_Clone_int v23) fun v24 =>
 bindO (arrRows v24) fun r25 =>
 gB (decide ((r14.length + 1) * 24 ≤ room)) <|
 bindO (fBin .add x2 (.int .i64 1)) fun v26 =>
 mach_runner_begin.L1 x0 x1 v26 x3 x4 x5 x6 x7 x8 x9 x10 r11 r12 r13 (r14 ++ [[.arr r25]]))
 (some (.agg [.arr r13,.arr r14]))):=(jden_eq ..).trans (by kernel_rfl)
noncomputable def mach_runner_step.L0:R:=jden E 123 [] [4,1,0,1,1] (mkF 239 [(2,.f x0),(3,.ptr 0 0 0),(4,.ptr 1 0 0),(7,.ptr 2 0 0),(8,.mp 3),(32,.f x1),(33,.f x2),(34,.f x3)]) [.box [.f x4,.f x5,.f x6,.f x7,.f x8,.f x9,.f x10,.f x11],.box [.f x12,.f x13],.box [.ref 4,.ref 5],.map false es14,.own 1 r15,.own 1 r16]
noncomputable def mach_runner_step.L1:R:=jden E 123 [] [4,1,0,1,1,1] (mkF 239 [(3,.ptr 0 0 0),(4,.ptr 1 0 0),(7,.ptr 2 0 0),(8,.mp 3),(48,.f x0),(49,.f x1),(50,.f x2)]) [.box [.f x3,.f x4,.f x5,.f x6,.f x7,.f x8,.f x9,.f x10],.box [.f x11,.f x12],.box [.ref 4,.ref 5],.map false es13,.own 1 r14,.own 1 r15]
noncomputable def mach_runner_step.L2:R:=jden E 123 [] [4,1,0,1,1,1,1,1,1] (mkF 239 [(3,.ptr 0 0 0),(4,.ptr 1 0 0),(7,.ptr 2 0 0),(8,.mp 3),(13,.ref 6),(14,.ptr 8 0 0),(81,.f x0),(82,.f x1),(83,.f x2)]) [.box [.f x3,.f x4,.f x5,.f x6,.f x7,.f x8,.f x9,.f x10],.box [.f x11,.f x12],.box [.ref 4,.ref 5],.map false es13,.own 1 r14,.own 1 r15,.own 1 r16,.own 1 r17,.box [.ref 7,.ref 9],.own 1 r18]
noncomputable def mach_runner_step.L3:R:=jden E 123 [] [4,1,0,1,1,1,4,0,1,1,5,4,1,0,1,1,1,1,1,1] (mkF 239 [(3,.ptr 0 0 0),(4,.ptr 1 0 0),(7,.ptr 2 0 0),(8,.mp 3),(13,.ref 6),(14,.ptr 8 0 0),(16,.f x0),(17,.ptr 10 0 0),(18,.ref 11),(81,.f x1),(82,.f x2),(83,.f x3),(104,.f x4),(105,.f x5)]) [.box [.f x6,.f x7,.f x8,.f x9,.f x10,.f x11,.f x12,.f x13],.box [.f x14,.f x15],.box [.ref 4,.ref 5],.map false es16,.own 1 r17,.own 1 r18,.own 1 r19,.own 1 r20,.box [.ref 7,.ref 9],.own 1 r21,.box [.f x22,.f x23,.f x24,.f x25,.f x26,.f x27],.own 1 r28]
noncomputable def mach_runner_step.L5:R:=jden E 123 [] [4,1,0,1,1,1,1,1,1,1] (mkF 239 [(3,.ptr 0 0 0),(4,.ptr 1 0 0),(7,.ptr 2 0 0),(13,.ref 6),(14,.ptr 8 0 0),(178,.f x0),(179,.f x1),(180,.f x2)]) [.box [.f x3,.f x4,.f x5,.f x6,.f x7,.f x8,.f x9,.f x10],.box [.f x11,.f x12],.box [.ref 4,.ref 5],.map false es13,.own 1 r14,.own 1 r15,.own 1 r16,.own 1 r17,.box [.ref 7,.ref 10],.dead,.own 1 r18]
noncomputable def mach_runner_step.L4:R:=jden E 123 [] [4,1,1,1,1,1,1,1,4,0,1,1,5,4,1,0,1,1,1,1,1,1] (mkF 239 [(3,.ptr 0 0 0),(4,.ptr 1 0 0),(7,.ptr 2 0 0),(8,.mp 3),(13,.ref 6),(14,.ptr 8 0 0),(16,.f x0),(20,.ptr 12 0 0),(81,.f x1),(82,.f x2),(83,.f x3),(148,.f x4),(149,.f x5),(150,.f x6)]) [.box [.f x7,.f x8,.f x9,.f x10,.f x11,.f x12,.f x13,.f x14],.box [.f x15,.f x16],.box [.ref 4,.ref 5],.map false es17,.own 1 r18,.own 1 r19,.own 1 r20,.own 1 r21,.box [.ref 7,.ref 9],.own 1 r22,.box [.f x23,.f x24,.f x25,.f x26,.f x27,.f x28],.fz r29,.box [.f x30,.f x31]]
noncomputable def mach_runner_step.L6:R:=jden E 123 [] [1,1,4,0,1,1,5,4,1,0,1,1,1,1,1,1,1] (mkF 239 [(3,.ptr 0 0 0),(4,.ptr 1 0 0),(7,.ptr 2 0 0),(13,.ref 6),(14,.ptr 8 0 0),(25,.ref 12),(178,.f x0),(179,.f x1),(180,.f x2)]) [.box [.f x3,.f x4,.f x5,.f x6,.f x7,.f x8,.f x9,.f x10],.box [.f x11,.f x12],.box [.ref 4,.ref 5],.map false es13,.own 1 r14,.own 1 r15,.own 1 r16,.own 1 r17,.box [.ref 7,.ref 10],.dead,.own 1 r18,.box [.f x19,.f x20,.f x21,.f x22,.f x23,.f x24],.own 1 r25]
noncomputable def mach_runner_step.L7:R:=jden E 123 [] [4,1,0,1,1,1,1,1,1,1,1,1] (mkF 239 [(7,.ptr 2 0 0),(13,.ref 6),(14,.ptr 8 0 0),(26,.ref 10),(218,.f x0),(219,.f x1),(220,.f x2)]) [.box [.f x3,.f x4,.f x5,.f x6,.f x7,.f x8,.f x9,.f x10],.box [.f x11,.f x12],.box [.ref 4,.ref 5],.map false es13,.own 1 r14,.own 1 r15,.own 1 r16,.own 1 r17,.box [.ref 7,.ref 11],.dead,.own 1 r18,.own 1 r19]
theorem mach_runner_step.eq:mach_runner_step x0 x1 x2 = (
 gB (fIsAgg 8 x0) <|
 gB (fIsAgg 2 x1) <|
 bindO (fLen (fCell x0 5)) fun v1 =>
 mach_runner_step.L0 x2 (fCell x0 5) v1 (.int .i64 0) (fCell x0 0) (fCell x0 1) (fCell x0 2) (fCell x0 3) (fCell x0 4) (fCell x0 5) (fCell x0 6) (fCell x0 7) (fCell x1 0) (fCell x1 1) [] [] []):=(den_eq ..).trans (by kernel_rfl)
theorem mach_runner_step.L0_eq:mach_runner_step.L0 x0 x1 x2 x3 x4 x5 x6 x7 x8 x9 x10 x11 x12 x13 es14 r15 r16 = (
 bindO (fBin .lss x3 x2) fun v18 =>
 fCond v18
 (bindO (fIdxC 2 x1 x3) fun c19 =>
 bindO (c19[0]?) fun v20 =>
 bindO (c19[1]?) fun v21 =>
 bindO (fIdxC 1 x0 x3) fun c22 =>
 bindO (c22[0]?) fun v23 =>
 gB (keyOk true [.int,.int] (.agg [v20,v21])) <|
 bindO (mPut true [.int,.int] es14 (.agg [v20,v21]) v23) fun es24 =>
 bindO (fBin .add x3 (.int .i64 1)) fun v25 =>
 mach_runner_step.L0 x0 x1 x2 v25 x4 x5 x6 x7 x8 x9 x10 x11 x12 x13 es24 r15 r16)
 (bindO (fLen x8) fun v26 =>
 mach_runner_step.L1 x8 v26 (.int .i64 0) x4 x5 x6 x7 x8 x9 x10 x11 x12 x13 es14 r15 r16)):=(jden_eq ..).trans (by kernel_rfl)
theorem mach_runner_step.L1_eq:mach_runner_step.L1 x0 x1 x2 x3 x4 x5 x6 x7 x8 x9 x10 x11 x12 es13 r14 r15 = (
 bindO (fBin .lss x2 x1) fun v17 =>
 fCond v17
 (bindO (fIdxC 6 x0 x2) fun c18 =>
 bindO (c18[0]?) fun v19 =>
 bindO (c18[1]?) fun v20 =>
 bindO (c18[2]?) fun v21 =>
 bindO (c18[3]?) fun v22 =>
 bindO (c18[4]?) fun v23 =>
 bindO (c18[5]?) fun v24 =>
 bindO (fBin .gtr v23 (.int .i64 0)) fun v25 =>
 fCond v25
 (bindO (fIdxC 1 x12 x2) fun c26 =>
 bindO (c26[0]?) fun v27 =>
 bindO (fIdxC 1 v27 (.int .i64 0)) fun c28 =>
 bindO (c28[0]?) fun v29 =>
 gB (keyOk true [.int,.int] (.agg [v21,v22])) <|
 bindO (mPut true [.int,.int] es13 (.agg [v21,v22]) v29) fun es30 =>
 bindO (fBin .add x2 (.int .i64 1)) fun v31 =>
 mach_runner_step.L1 x0 x1 v31 x3 x4 x5 x6 x7 x8 x9 x10 x11 x12 es30 r14 r15)
 (bindO (fBin .add x2 (.int .i64 1)) fun v32 =>
 mach_runner_step.L1 x0 x1 v32 x3 x4 x5 x6 x7 x8 x9 x10 x11 x12 es13 r14 r15))
 (bindO (fLen x6) fun v33 =>
 bindO (asNat v33) fun j34 =>
 bindO (asNat v33) fun j35 =>
 gB (j34 ≤ j35 && j35 * 24 ≤ room && 1 ≥ 1) <|
 bindO (fLen x6) fun v36 =>
 bindO (asNat v36) fun j37 =>
 bindO (asNat v36) fun j38 =>
 gB (j37 ≤ j38 && j38 * 8 ≤ room && 1 ≥ 1) <|
 bindO (fLen x10) fun v39 =>
 mach_runner_step.L2 x10 v39 (.int .i64 0) x3 x4 x5 x6 x7 x8 x9 x10 x11 x12 es13 r14 r15 (List.replicate j34 [(.nilS:FV)]) (List.replicate j37 [(.int .i64 0:FV)]) [])):=(jden_eq ..).trans (by kernel_rfl)
theorem mach_runner_step.L2_eq:mach_runner_step.L2 x0 x1 x2 x3 x4 x5 x6 x7 x8 x9 x10 x11 x12 es13 r14 r15 r16 r17 r18 = (
 bindO (fBin .lss x2 x1) fun v20 =>
 fCond v20
 (bindO (fIdxC 1 x0 x2) fun c21 =>
 bindO (c21[0]?) fun v22 =>
 bindO (fIdxC 2 x6 v22) fun c23 =>
 bindO (c23[1]?) fun v24 =>
 bindO (fIdxC 6 x3 v24) fun c25 =>
 bindO (c25[0]?) fun v26 =>
 bindO (c25[1]?) fun v27 =>
 bindO (c25[2]?) fun v28 =>
 bindO (c25[3]?) fun v29 =>
 bindO (c25[4]?) fun v30 =>
 bindO (c25[5]?) fun v31 =>
 bindO (fLen v29) fun v32 =>
 bindO (asNat v32) fun j33 =>
 bindO (asNat v32) fun j34 =>
 gB (j33 ≤ j34 && j34 * 8 ≤ room && 1 ≥ 1) <|
 mach_runner_step.L3 v22 x0 x1 x2 (.int .i64 (((List.replicate j33 [(.int .i64 0:FV)]).length:Nat):Int)) (.int .i64 0) x3 x4 x5 x6 x7 x8 x9 x10 x11 x12 es13 r14 r15 r16 r17 r18 v26 v27 v28 v29 v30 v31 (List.replicate j33 [(.int .i64 0:FV)]))
 (bindO (fLen x7) fun v35 =>
 mach_runner_step.L5 x7 v35 (.int .i64 0) x3 x4 x5 x6 x7 x8 x9 x10 x11 x12 es13 r14 r15 r16 r17 r18)):=(jden_eq ..).trans (by kernel_rfl)
theorem mach_runner_step.L3_eq:mach_runner_step.L3 x0 x1 x2 x3 x4 x5 x6 x7 x8 x9 x10 x11 x12 x13 x14 x15 es16 r17 r18 r19 r20 r21 x22 x23 x24 x25 x26 x27 r28 = (
 bindO (fBin .lss x5 x4) fun v30 =>
 fCond v30
 (bindO (mLook true [.int,.int] es16 (.agg [x0,x5]) (.int .i64 0)) fun v31 =>
 bindO (rIdx r28 x5) fun j32 =>
 bindO (rSet r28 j32 0 [v31.1]) fun r33 =>
 bindO (fBin .add x5 (.int .i64 1)) fun v34 =>
 mach_runner_step.L3 x0 x1 x2 x3 x4 v34 x6 x7 x8 x9 x10 x11 x12 x13 x14 x15 es16 r17 r18 r19 r20 r21 x22 x23 x24 x25 x26 x27 r33)
 (bindO (fIdxC 1 x14 x0) fun c35 =>
 bindO (c35[0]?) fun v36 =>
 bindO (mach_product x25) fun v37 =>
 bindO (fBin .mul v36 v37) fun v38 =>
 bindO (mach_number x25 (.arr r28)) fun v39 =>
 bindO (fBin .add v38 v39) fun v40 =>
 bindO (fIdxC 2 x27 v40) fun c41 =>
 bindO (c41[0]?) fun v42 =>
 bindO (c41[1]?) fun v43 =>
 bindO (rIdx r19 x0) fun j44 =>
 bindO (rSet r19 j44 0 [v43]) fun r45 =>
 bindO (rIdx r20 x0) fun j46 =>
 bindO (rSet r20 j46 0 [v42]) fun r47 =>
 bindO (fLen x10) fun v48 =>
 mach_runner_step.L4 x0 x1 x2 x3 x10 v48 (.int .i64 0) x6 x7 x8 x9 x10 x11 x12 x13 x14 x15 es16 r17 r18 r45 r47 r21 x22 x23 x24 x25 x26 x27 r28 v42 v43)):=(jden_eq ..).trans (by kernel_rfl)
theorem mach_runner_step.L5_eq:mach_runner_step.L5 x0 x1 x2 x3 x4 x5 x6 x7 x8 x9 x10 x11 x12 es13 r14 r15 r16 r17 r18 = (
 bindO (fBin .lss x2 x1) fun v20 =>
 fCond v20
 (bindO (fIdxC 6 x0 x2) fun c21 =>
 bindO (c21[0]?) fun v22 =>
 bindO (c21[1]?) fun v23 =>
 bindO (c21[2]?) fun v24 =>
 bindO (c21[3]?) fun v25 =>
 bindO (c21[4]?) fun v26 =>
 bindO (c21[5]?) fun v27 =>
 bindO (fIdxC 1 x12 x2) fun c28 =>
 bindO (c28[0]?) fun v29 =>
 bindO (slices_Clone_int v29) fun v30 =>
 bindO (arrRows v30) fun r31 =>
 bindO (fBin .gtr v26 (.int .i64 0)) fun v32 =>
 fCond v32
 (bindO (rIdx r16 v22) fun j33 =>
 bindO (rGet r16 j33 0) fun v34 =>
 bindO (fIdxC 1 v34 v23) fun c35 =>
 bindO (c35[0]?) fun v36 =>
 bindO (cut? r31.length (some (.int .i64 1)) none) fun q38 =>
 gB (decide ((((r31.take q38.2).drop q38.1).length + 1) * 8 ≤ room)) <|
 mach_runner_step.L6 x0 x1 x2 x3 x4 x5 x6 x7 x8 x9 x10 x11 x12 es13 r14 r15 r16 r17 r18 v22 v23 v24 v25 v26 v27 (((r31.take q38.2).drop q38.1) ++ [[v36]]))
 (mach_runner_step.L6 x0 x1 x2 x3 x4 x5 x6 x7 x8 x9 x10 x11 x12 es13 r14 r15 r16 r17 r18 v22 v23 v24 v25 v26 v27 r31))
 (bindO (fLen x9) fun v39 =>
 mach_runner_step.L7 x9 v39 (.int .i64 0) x3 x4 x5 x6 x7 x8 x9 x10 x11 x12 es13 r14 r15 r16 r17 [] r18)):=(jden_eq ..).trans (by kernel_rfl)
theorem mach_runner_step.L4_eq:mach_runner_step.L4 x0 x1 x2 x3 x4 x5 x6 x7 x8 x9 x10 x11 x12 x13 x14 x15 x16 es17 r18 r19 r20 r21 r22 x23 x24 x25 x26 x27 x28 r29 x30 x31 = (
 bindO (fBin .lss x6 x5) fun v33 =>
 fCond v33
 (bindO (fIdxC 6 x4 x6) fun c34 =>
 bindO (c34[0]?) fun v35 =>
 bindO (c34[1]?) fun v36 =>
 bindO (c34[2]?) fun v37 =>
 bindO (c34[3]?) fun v38 =>
 bindO (c34[4]?) fun v39 =>
 bindO (c34[5]?) fun v40 =>
 bindO (fBin .eql v39 (.int .i64 0)) fun v41 =>
 fCond v41
 (bindO (fBin .eql v35 x0) fun v42 =>
 fCond v42
 (bindO (fIdxC 1 x31 v36) fun c43 =>
 bindO (c43[0]?) fun v44 =>
 gB (keyOk true [.int,.int] (.agg [v37,v38])) <|
 bindO (mPut true [.int,.int] es17 (.agg [v37,v38]) v44) fun es45 =>
 bindO (fBin .add x6 (.int .i64 1)) fun v46 =>
 mach_runner_step.L4 x0 x1 x2 x3 x4 x5 v46 x7 x8 x9 x10 x11 x12 x13 x14 x15 x16 es45 r18 r19 r20 r21 r22 x23 x24 x25 x26 x27 x28 r29 x30 x31)
 (bindO (fBin .add x6 (.int .i64 1)) fun v47 =>
 mach_runner_step.L4 x0 x1 x2 x3 x4 x5 v47 x7 x8 x9 x10 x11 x12 x13 x14 x15 x16 es17 r18 r19 r20 r21 r22 x23 x24 x25 x26 x27 x28 r29 x30 x31))
 (bindO (fBin .add x6 (.int .i64 1)) fun v48 =>
 mach_runner_step.L4 x0 x1 x2 x3 x4 x5 v48 x7 x8 x9 x10 x11 x12 x13 x14 x15 x16 es17 r18 r19 r20 r21 r22 x23 x24 x25 x26 x27 x28 r29 x30 x31))
 (bindO (fBin .add x3 (.int .i64 1)) fun v49 =>
 mach_runner_step.L2 x1 x2 v49 x7 x8 x9 x10 x11 x12 x13 x14 x15 x16 es17 r18 r19 r20 r21 r22)):=(jden_eq ..).trans (by kernel_rfl)
theorem mach_runner_step.L6_eq:mach_runner_step.L6 x0 x1 x2 x3 x4 x5 x6 x7 x8 x9 x10 x11 x12 es13 r14 r15 r16 r17 r18 x19 x20 x21 x22 x23 x24 r25 = (
 gB (decide ((r18.length + 1) * 24 ≤ room)) <|
 bindO (fBin .add x2 (.int .i64 1)) fun v27 =>
 mach_runner_step.L5 x0 x1 v27 x3 x4 x5 x6 x7 x8 x9 x10 x11 x12 es13 r14 r15 r16 r17 (r18 ++ [[.arr r25]])):=(jden_eq ..).trans (by kernel_rfl)
theorem mach_runner_step.L7_eq:mach_runner_step.L7 x0 x1 x2 x3 x4 x5 x6 x7 x8 x9 x10 x11 x12 es13 r14 r15 r16 r17 r18 r19 = (
 bindO (fBin .lss x2 x1) fun v21 =>
 fCond v21
 (bindO (fIdxC 2 x0 x2) fun c22 =>
 bindO (c22[0]?) fun v23 =>
 bindO (c22[1]?) fun v24 =>
 bindO (rIdx r16 v23) fun j25 =>
 bindO (rGet r16 j25 0) fun v26 =>
 bindO (fIdxC 1 v26 v24) fun c27 =>
 bindO (c27[0]?) fun v28 =>
 gB (decide ((r18.length + 1) * 8 ≤ room)) <|
 bindO (fBin .add x2 (.int .i64 1)) fun v29 =>
 mach_runner_step.L7 x0 x1 v29 x3 x4 x5 x6 x7 x8 x9 x10 x11 x12 es13 r14 r15 r16 r17 (r18 ++ [[v28]]) r19)
 (some (.tup [.arr r18,.agg [.arr r17,.arr r19]]))):=(jden_eq ..).trans (by kernel_rfl)
noncomputable def mach_RunNet.L0:R:=jden E 41 [] [4,1,0,1,1,1,1,1,1] (mkF 85 [(2,.f x0),(11,.ptr 1 0 0),(12,.f x1),(52,.f x2),(53,.f x3),(54,.f x4)]) [.box [.f x5,.f x6],.box [.f x7,.f x8,.f x9,.f x10,.f x11,.f x12,.f x13,.f x14]]
noncomputable def mach_RunNet.L1:R:=jden E 41 [] [4,1,0,1,1,1,1,1,1,1,1,1] (mkF 85 [(11,.ptr 1 0 0),(15,.ref 3),(16,.ptr 2 0 0),(65,.f x0),(66,.f x1),(67,.f x2)]) [.box [.f x3,.f x4],.box [.f x5,.f x6,.f x7,.f x8,.f x9,.f x10,.f x11,.f x12],.box [.f x13,.f x14],.own 1 r15]
theorem mach_RunNet.eq:mach_RunNet x0 x1 x2 = (
 gB (fIsAgg 2 x0) <|
 bindO (mach_CheckNet (.agg [(fCell x0 0),(fCell x0 1)]) x1) fun v1 =>
 bindO (fBin .neq v1 (.int .i64 0)) fun v2 =>
 fCond v2
 (some (.tup [.nilS,v1]))
 (bindO (fLen x2) fun v3 =>
 bindO (fBin .gtr v3 (.int .i64 4096)) fun v4 =>
 fCond v4
 (some (.tup [.nilS,.int .i64 26]))
 (bindO (fIdxC 5 (fCell x0 1) x1) fun c5 =>
 bindO (c5[0]?) fun v6 =>
 bindO (c5[1]?) fun v7 =>
 bindO (c5[2]?) fun v8 =>
 bindO (c5[3]?) fun v9 =>
 bindO (c5[4]?) fun v10 =>
 bindO (mach_order (.agg [v6,v7,v8,v9,v10])) fun v11 =>
 gB (fIsTup 2 v11) <|
 bindO (fIdxC 5 (fCell x0 1) x1) fun c12 =>
 bindO (c12[0]?) fun v13 =>
 bindO (c12[1]?) fun v14 =>
 bindO (c12[2]?) fun v15 =>
 bindO (c12[3]?) fun v16 =>
 bindO (c12[4]?) fun v17 =>
 bindO (mach_runner_ports (.agg [(fCell x0 0),(fCell x0 1),v13,v14,v15,v16,v17,(fTup v11 0)]) v16 (.func 121 [])) fun v18 =>
 bindO (fLen x2) fun v19 =>
 mach_RunNet.L0 x2 v18 x2 v19 (.int .i64 0) (fCell x0 0) (fCell x0 1) (fCell x0 0) (fCell x0 1) v13 v14 v15 v16 v17 (fTup v11 0)))):=(den_eq ..).trans (by kernel_rfl)
theorem mach_RunNet.L0_eq:mach_RunNet.L0 x0 x1 x2 x3 x4 x5 x6 x7 x8 x9 x10 x11 x12 x13 x14 = (
 bindO (fBin .lss x4 x3) fun v16 =>
 fCond v16
 (bindO (fIdxC 1 x2 x4) fun c17 =>
 bindO (c17[0]?) fun v18 =>
 bindO (mach_fit x1 v18) fun v19 =>
 bindO (fUn .not v19) fun v20 =>
 fCond v20
 (some (.tup [.nilS,.int .i64 27]))
 (bindO (fBin .add x4 (.int .i64 1)) fun v21 =>
 mach_RunNet.L0 x0 x1 x2 x3 v21 x5 x6 x7 x8 x9 x10 x11 x12 x13 x14))
 (bindO (mach_runner_begin (.agg [x7,x8,x9,x10,x11,x12,x13,x14])) fun v22 =>
 gB (fIsAgg 2 v22) <|
 bindO (fLen x0) fun v23 =>
 mach_RunNet.L1 x0 v23 (.int .i64 0) x5 x6 x7 x8 x9 x10 x11 x12 x13 x14 (fCell v22 0) (fCell v22 1) [])):=(jden_eq ..).trans (by kernel_rfl)
theorem mach_RunNet.L1_eq:mach_RunNet.L1 x0 x1 x2 x3 x4 x5 x6 x7 x8 x9 x10 x11 x12 x13 x14 r15 = (
 bindO (fBin .lss x2 x1) fun v17 =>
 fCond v17
 (bindO (fIdxC 1 x0 x2) fun c18 =>
 bindO (c18[0]?) fun v19 =>
 bindO (mach_runner_step (.agg [x5,x6,x7,x8,x9,x10,x11,x12]) (.agg [x13,x14]) v19) fun v20 =>
 gB (fIsTup 2 v20) <|
 gB (fIsAgg 2 (fTup v20 1)) <|
 gB (decide ((r15.length + 1) * 24 ≤ room)) <|
 bindO (fBin .add x2 (.int .i64 1)) fun v21 =>
 mach_RunNet.L1 x0 x1 v21 x3 x4 x5 x6 x7 x8 x9 x10 x11 x12 (fCell (fTup v20 1) 0) (fCell (fTup v20 1) 1) (r15 ++ [[(fTup v20 0)]]))
 (some (.tup [.arr r15,.int .i64 0]))):=(jden_eq ..).trans (by kernel_rfl)
noncomputable def ref02_right.L0:R:=jden E 56 [] [4,1,0,1,1] (mkF 35 [(0,.f x0),(1,.f x1),(5,.f x2)]) []
theorem ref02_right.eq:ref02_right x0 x1 = (
 bindO (fLen x1) fun v1 =>
 bindO (fLen x0) fun v2 =>
 bindO (fBin .neq v1 v2) fun v3 =>
 fCond v3
 (some (.bool false))
 (ref02_right.L0 x0 x1 (.int .i64 0))):=(den_eq ..).trans (by kernel_rfl)
theorem ref02_right.L0_eq:ref02_right.L0 x0 x1 x2 = (
 bindO (fLen x0) fun v4 =>
 bindO (fBin .lss x2 v4) fun v5 =>
 fCond v5
 (bindO (fIdxC 1 x1 x2) fun c6 =>
 bindO (c6[0]?) fun v7 =>
 bindO (fBin .lss v7 (.int .i64 0)) fun v8 =>
 fCond v8
 (some (.bool false))
 (bindO (fIdxC 1 x1 x2) fun c9 =>
 bindO (c9[0]?) fun v10 =>
 bindO (fIdxC 2 x0 x2) fun c11 =>
 bindO (c11[1]?) fun v12 =>
 bindO (fLen v12) fun v13 =>
 bindO (fBin .geq v10 v13) fun v14 =>
 fCond v14
 (some (.bool false))
 (bindO (fBin .add x2 (.int .i64 1)) fun v15 =>
 ref02_right.L0 x0 x1 v15)))
 (some (.bool true))):=(jden_eq ..).trans (by kernel_rfl)
noncomputable def ref02_IsName.L0:R:=jden E 76 [] [4,1,0,1] (mkF 45 [(0,.f x0),(3,.f x1)]) []
theorem ref02_IsName.eq:ref02_IsName x0 = (
 ref02_IsName.L0 x0 (.int .i64 0)):=(den_eq ..).trans (by kernel_rfl)
theorem ref02_IsName.L0_eq:ref02_IsName.L0 x0 x1 = (
 bindO (fLenT x0) fun v3 =>
 bindO (fBin .lss x1 v3) fun v4 =>
 fCond v4
 (bindO (fByte x0 x1) fun v5 =>
 bindO (fBin .geq v5 (.int .u8 97)) fun v6 =>
 fCond v6
 (bindO (fBin .leq v5 (.int .u8 122)) fun v7 =>
 fCond v7
 (bindO (fUn .not (.bool true)) fun v8 =>
 fCond v8
 (some (.bool false))
 (bindO (fBin .add x1 (.int .i64 1)) fun v9 =>
 ref02_IsName.L0 x0 v9))
 (bindO (fBin .geq v5 (.int .u8 65)) fun v10 =>
 fCond v10
 (bindO (fBin .leq v5 (.int .u8 90)) fun v11 =>
 fCond v11
 (bindO (fUn .not (.bool true)) fun v12 =>
 fCond v12
 (some (.bool false))
 (bindO (fBin .add x1 (.int .i64 1)) fun v13 =>
 ref02_IsName.L0 x0 v13))
 (bindO (fBin .geq v5 (.int .u8 48)) fun v14 =>
 fCond v14
 (bindO (fBin .leq v5 (.int .u8 57)) fun v15 =>
 bindO (fUn .not v15) fun v16 =>
 fCond v16
 (some (.bool false))
 (bindO (fBin .add x1 (.int .i64 1)) fun v17 =>
 ref02_IsName.L0 x0 v17))
 (bindO (fUn .not (.bool false)) fun v18 =>
 fCond v18
 (some (.bool false))
 (bindO (fBin .add x1 (.int .i64 1)) fun v19 =>
 ref02_IsName.L0 x0 v19))))
 (bindO (fBin .geq v5 (.int .u8 48)) fun v20 =>
 fCond v20
 (bindO (fBin .leq v5 (.int .u8 57)) fun v21 =>
 bindO (fUn .not v21) fun v22 =>
 fCond v22
 (some (.bool false))
 (bindO (fBin .add x1 (.int .i64 1)) fun v23 =>
 ref02_IsName.L0 x0 v23))
 (bindO (fUn .not (.bool false)) fun v24 =>
 fCond v24
 (some (.bool false))
 (bindO (fBin .add x1 (.int .i64 1)) fun v25 =>
 ref02_IsName.L0 x0 v25)))))
 (bindO (fBin .geq v5 (.int .u8 65)) fun v26 =>
 fCond v26
 (bindO (fBin .leq v5 (.int .u8 90)) fun v27 =>
 fCond v27
 (bindO (fUn .not (.bool true)) fun v28 =>
 fCond v28
 (some (.bool false))
 (bindO (fBin .add x1 (.int .i64 1)) fun v29 =>
 ref02_IsName.L0 x0 v29))
 (bindO (fBin .geq v5 (.int .u8 48)) fun v30 =>
 fCond v30
 (bindO (fBin .leq v5 (.int .u8 57)) fun v31 =>
 bindO (fUn .not v31) fun v32 =>
 fCond v32
 (some (.bool false))
 (bindO (fBin .add x1 (.int .i64 1)) fun v33 =>
 ref02_IsName.L0 x0 v33))
 (bindO (fUn .not (.bool false)) fun v34 =>
 fCond v34
 (some (.bool false))
 (bindO (fBin .add x1 (.int .i64 1)) fun v35 =>
 ref02_IsName.L0 x0 v35))))
 (bindO (fBin .geq v5 (.int .u8 48)) fun v36 =>
 fCond v36
 (bindO (fBin .leq v5 (.int .u8 57)) fun v37 =>
 bindO (fUn .not v37) fun v38 =>
 fCond v38
 (some (.bool false))
 (bindO (fBin .add x1 (.int .i64 1)) fun v39 =>
 ref02_IsName.L0 x0 v39))
 (bindO (fUn .not (.bool false)) fun v40 =>
 fCond v40
 (some (.bool false))
 (bindO (fBin .add x1 (.int .i64 1)) fun v41 =>
 ref02_IsName.L0 x0 v41)))))
 (bindO (fLenT x0) fun v42 =>
 bindO (fBin .geq v42 (.int .i64 1)) fun v43 =>
 fCond v43
 (bindO (fLenT x0) fun v44 =>
 bindO (fBin .leq v44 (.int .i64 16)) fun v45 =>
 some v45)
 (some (.bool false)))):=(jden_eq ..).trans (by kernel_rfl)
noncomputable def ref02_place.L0:R:=jden E 141 [] [4,1,0,1] (mkF 19 [(0,.f x0),(1,.f x1),(5,.f x2)]) []
theorem ref02_place.eq:ref02_place x0 x1 = (
 ref02_place.L0 x0 x1 (.int .i64 0)):=(den_eq ..).trans (by kernel_rfl)
theorem ref02_place.L0_eq:ref02_place.L0 x0 x1 x2 = (
 bindO (fLen x0) fun v4 =>
 bindO (fBin .lss x2 v4) fun v5 =>
 fCond v5
 (bindO (fIdxC 1 x0 x2) fun c6 =>
 bindO (c6[0]?) fun v7 =>
 bindO (fBin .eql v7 x1) fun v8 =>
 fCond v8
 (some x2)
 (bindO (fBin .add x2 (.int .i64 1)) fun v9 =>
 ref02_place.L0 x0 x1 v9))
 (some (.int .i64 (-1)))):=(jden_eq ..).trans (by kernel_rfl)
noncomputable def ref02_checkNames.L0:R:=jden E 77 [] [4,1,0,1] (mkF 25 [(0,.f x0),(3,.f x1)]) []
theorem ref02_checkNames.eq:ref02_checkNames x0 = (
 ref02_checkNames.L0 x0 (.int .i64 0)):=(den_eq ..).trans (by kernel_rfl)
theorem ref02_checkNames.L0_eq:ref02_checkNames.L0 x0 x1 = (
 bindO (fLen x0) fun v3 =>
 bindO (fBin .lss x1 v3) fun v4 =>
 fCond v4
 (bindO (fIdxC 1 x0 x1) fun c5 =>
 bindO (c5[0]?) fun v6 =>
 bindO (ref02_IsName v6) fun v7 =>
 bindO (fUn .not v7) fun v8 =>
 fCond v8
 (some (.int .i64 21))
 (bindO (fCut 1 x0 none (some x1)) fun v9 =>
 bindO (fIdxC 1 x0 x1) fun c10 =>
 bindO (c10[0]?) fun v11 =>
 bindO (ref02_place v9 v11) fun v12 =>
 bindO (fBin .geq v12 (.int .i64 0)) fun v13 =>
 fCond v13
 (some (.int .i64 22))
 (bindO (fBin .add x1 (.int .i64 1)) fun v14 =>
 ref02_checkNames.L0 x0 v14)))
 (some (.int .i64 0))):=(jden_eq ..).trans (by kernel_rfl)
noncomputable def ref02_portAt.L0:R:=jden E 78 [] [4,1,0,1] (mkF 20 [(0,.f x0),(1,.f x1),(5,.f x2)]) []
theorem ref02_portAt.eq:ref02_portAt x0 x1 = (
 ref02_portAt.L0 x0 x1 (.int .i64 0)):=(den_eq ..).trans (by kernel_rfl)
theorem ref02_portAt.L0_eq:ref02_portAt.L0 x0 x1 x2 = (
 bindO (fLen x0) fun v4 =>
 bindO (fBin .lss x2 v4) fun v5 =>
 fCond v5
 (bindO (fIdxC 2 x0 x2) fun c6 =>
 bindO (c6[0]?) fun v7 =>
 bindO (fBin .eql v7 x1) fun v8 =>
 fCond v8
 (some x2)
 (bindO (fBin .add x2 (.int .i64 1)) fun v9 =>
 ref02_portAt.L0 x0 x1 v9))
 (some (.int .i64 (-1)))):=(jden_eq ..).trans (by kernel_rfl)
noncomputable def ref02_product.L0:R:=jden E 79 [] [4,1,0,1,1] (mkF 21 [(0,.f x0),(3,.f x1),(4,.f x2)]) []
theorem ref02_product.eq:ref02_product x0 = (
 ref02_product.L0 x0 (.int .i64 1) (.int .i64 0)):=(den_eq ..).trans (by kernel_rfl)
theorem ref02_product.L0_eq:ref02_product.L0 x0 x1 x2 = (
 bindO (fLen x0) fun v4 =>
 bindO (fBin .lss x2 v4) fun v5 =>
 fCond v5
 (bindO (fIdxC 2 x0 x2) fun c6 =>
 bindO (c6[1]?) fun v7 =>
 bindO (fLen v7) fun v8 =>
 bindO (fBin .mul x1 v8) fun v9 =>
 bindO (fMinMax false v9 (.int .i64 2097152)) fun v10 =>
 bindO (fBin .add x2 (.int .i64 1)) fun v11 =>
 ref02_product.L0 x0 v10 v11)
 (some x1)):=(jden_eq ..).trans (by kernel_rfl)
noncomputable def ref02_Check.L0:R:=jden E 27 [] [1,1] (mkF 161 [(1,.ptr 0 0 0)]) [.box [.f x0,.f x1,.f x2,.f x3,.f x4,.f x5]]
noncomputable def ref02_Check.L1:R:=jden E 27 [] [1,1,1,1] (mkF 161 [(1,.ptr 0 0 0)]) [.box [.f x0,.f x1,.f x2,.f x3,.f x4,.f x5]]
noncomputable def ref02_Check.L2:R:=jden E 27 [] [4,1,0,1,1,1,1,1,1] (mkF 161 [(1,.ptr 0 0 0),(4,.f x0),(5,.f x1)]) [.box [.f x2,.f x3,.f x4,.f x5,.f x6,.f x7],.dead,.dead,.fz r8]
noncomputable def ref02_Check.L3:R:=jden E 27 [] [1,1,4,0,1,5,4,1,0,1,1,1,1,1,1] (mkF 161 [(1,.ptr 0 0 0),(4,.f x0),(5,.f x1)]) [.box [.f x2,.f x3,.f x4,.f x5,.f x6,.f x7],.dead,.dead,.fz r8]
noncomputable def ref02_Check.L4:R:=jden E 27 [] [1,1,1,1,1,1,1] (mkF 161 [(1,.ptr 0 0 0)]) [.box [.f x0,.f x1,.f x2,.f x3,.f x4,.f x5],.dead,.dead,.fz r6]
noncomputable def ref02_Check.L5:R:=jden E 27 [] [4,1,0,1,1,1,1,1,1,1,1,1,1,1] (mkF 161 [(1,.ptr 0 0 0),(8,.f x0)]) [.box [.f x1,.f x2,.f x3,.f x4,.f x5,.f x6],.dead,.dead,.fz r7]
theorem ref02_Check.eq:ref02_Check x0 = (
 gB (fIsAgg 6 x0) <|
 bindO (ref02_IsName (fCell x0 0)) fun v1 =>
 bindO (fUn .not v1) fun v2 =>
 fCond v2
 (some (.int .i64 21))
 (bindO (fLen (fCell x0 1)) fun v3 =>
 bindO (fBin .eql v3 (.int .i64 0)) fun v4 =>
 fCond v4
 (some (.int .i64 26))
 (bindO (fLen (fCell x0 1)) fun v5 =>
 bindO (fBin .gtr v5 (.int .i64 256)) fun v6 =>
 fCond v6
 (some (.int .i64 26))
 (ref02_Check.L0 (fCell x0 0) (fCell x0 1) (fCell x0 2) (fCell x0 3) (fCell x0 4) (fCell x0 5))))):=(den_eq ..).trans (by kernel_rfl)
theorem ref02_Check.L0_eq:ref02_Check.L0 x0 x1 x2 x3 x4 x5 = (
 bindO (ref02_checkNames x1) fun v7 =>
 bindO (fBin .neq v7 (.int .i64 0)) fun v8 =>
 fCond v8
 (some v7)
 (bindO (fLen x3) fun v9 =>
 bindO (fBin .gtr v9 (.int .i64 8)) fun v10 =>
 fCond v10
 (some (.int .i64 26))
 (bindO (fLen x4) fun v11 =>
 bindO (fBin .gtr v11 (.int .i64 8)) fun v12 =>
 fCond v12
 (some (.int .i64 26))
 (ref02_Check.L1 x0 x1 x2 x3 x4 x5)))):=(jden_eq ..).trans (by kernel_rfl)
theorem ref02_Check.L1_eq:ref02_Check.L1 x0 x1 x2 x3 x4 x5 = (
 bindO (asRows x3) fun r7 =>
 gB (rowsSz 2 r7) <|
 gB (decide ((0 + r7.length) * 40 ≤ room)) <|
 bindO (asRows x4) fun r8 =>
 gB (rowsSz 2 r8) <|
 gB (decide ((([] ++ r7).length + r8.length) * 40 ≤ room)) <|
 ref02_Check.L2 (.arr (([] ++ r7) ++ r8)) (.int .i64 0) x0 x1 x2 x3 x4 x5 (([] ++ r7) ++ r8)):=(jden_eq ..).trans (by kernel_rfl)
theorem ref02_Check.L2_eq:ref02_Check.L2 x0 x1 x2 x3 x4 x5 x6 x7 r8 = (
 bindO (fLen x0) fun v10 =>
 bindO (fBin .lss x1 v10) fun v11 =>
 fCond v11
 (bindO (fIdxC 2 x0 x1) fun c12 =>
 bindO (c12[0]?) fun v13 =>
 bindO (ref02_IsName v13) fun v14 =>
 bindO (fUn .not v14) fun v15 =>
 fCond v15
 (some (.int .i64 21))
 (bindO (fCut 2 x0 none (some x1)) fun v16 =>
 bindO (fIdxC 2 x0 x1) fun c17 =>
 bindO (c17[0]?) fun v18 =>
 bindO (ref02_portAt v16 v18) fun v19 =>
 bindO (fBin .geq v19 (.int .i64 0)) fun v20 =>
 fCond v20
 (some (.int .i64 22))
 (bindO (fIdxC 2 x0 x1) fun c21 =>
 bindO (c21[1]?) fun v22 =>
 bindO (fLen v22) fun v23 =>
 bindO (fBin .eql v23 (.int .i64 0)) fun v24 =>
 fCond v24
 (some (.int .i64 26))
 (bindO (fIdxC 2 x0 x1) fun c25 =>
 bindO (c25[1]?) fun v26 =>
 bindO (fLen v26) fun v27 =>
 bindO (fBin .gtr v27 (.int .i64 64)) fun v28 =>
 fCond v28
 (some (.int .i64 26))
 (ref02_Check.L3 x0 x1 x2 x3 x4 x5 x6 x7 r8)))))
 (bindO (fBin .lss x4 (.int .i64 0)) fun v29 =>
 fCond v29
 (some (.int .i64 27))
 (bindO (fLen x3) fun v30 =>
 bindO (fBin .geq x4 v30) fun v31 =>
 fCond v31
 (some (.int .i64 27))
 (ref02_Check.L4 x2 x3 x4 x5 x6 x7 r8)))):=(jden_eq ..).trans (by kernel_rfl)
theorem ref02_Check.L3_eq:ref02_Check.L3 x0 x1 x2 x3 x4 x5 x6 x7 r8 = (
 bindO (fIdxC 2 x0 x1) fun c10 =>
 bindO (c10[1]?) fun v11 =>
 bindO (ref02_checkNames v11) fun v12 =>
 bindO (fBin .neq v12 (.int .i64 0)) fun v13 =>
 fCond v13
 (some v12)
 (bindO (fBin .add x1 (.int .i64 1)) fun v14 =>
 ref02_Check.L2 x0 v14 x2 x3 x4 x5 x6 x7 r8)):=(jden_eq ..).trans (by kernel_rfl)
theorem ref02_Check.L4_eq:ref02_Check.L4 x0 x1 x2 x3 x4 x5 r6 = (
 bindO (ref02_product x3) fun v8 =>
 bindO (fLen x1) fun v9 =>
 bindO (fBin .mul v9 v8) fun v10 =>
 bindO (fBin .gtr v10 (.int .i64 4096)) fun v11 =>
 fCond v11
 (some (.int .i64 26))
 (bindO (fLen x5) fun v12 =>
 bindO (fLen x1) fun v13 =>
 bindO (fBin .mul v13 v8) fun v14 =>
 bindO (fBin .neq v12 v14) fun v15 =>
 fCond v15
 (some (.int .i64 23))
 (ref02_Check.L5 (.int .i64 0) x0 x1 x2 x3 x4 x5 r6))):=(jden_eq ..).trans (by kernel_rfl)
theorem ref02_Check.L5_eq:ref02_Check.L5 x0 x1 x2 x3 x4 x5 x6 r7 = (
 bindO (fLen x6) fun v9 =>
 bindO (fBin .lss x0 v9) fun v10 =>
 fCond v10
 (bindO (fIdxC 2 x6 x0) fun c11 =>
 bindO (c11[0]?) fun v12 =>
 bindO (fBin .lss v12 (.int .i64 0)) fun v13 =>
 fCond v13
 (some (.int .i64 27))
 (bindO (fIdxC 2 x6 x0) fun c14 =>
 bindO (c14[0]?) fun v15 =>
 bindO (fLen x2) fun v16 =>
 bindO (fBin .geq v15 v16) fun v17 =>
 fCond v17
 (some (.int .i64 27))
 (bindO (fIdxC 2 x6 x0) fun c18 =>
 bindO (c18[1]?) fun v19 =>
 bindO (ref02_right x5 v19) fun v20 =>
 bindO (fUn .not v20) fun v21 =>
 fCond v21
 (some (.int .i64 27))
 (bindO (fBin .add x0 (.int .i64 1)) fun v22 =>
 ref02_Check.L5 v22 x1 x2 x3 x4 x5 x6 r7))))
 (some (.int .i64 0))):=(jden_eq ..).trans (by kernel_rfl)
noncomputable def ref02_machineAt.L0:R:=jden E 142 [] [4,1,0,1] (mkF 20 [(0,.f x0),(1,.f x1),(5,.f x2)]) []
theorem ref02_machineAt.eq:ref02_machineAt x0 x1 = (
 ref02_machineAt.L0 x0 x1 (.int .i64 0)):=(den_eq ..).trans (by kernel_rfl)
theorem ref02_machineAt.L0_eq:ref02_machineAt.L0 x0 x1 x2 = (
 bindO (fLen x0) fun v4 =>
 bindO (fBin .lss x2 v4) fun v5 =>
 fCond v5
 (bindO (fIdxC 6 x0 x2) fun c6 =>
 bindO (c6[0]?) fun v7 =>
 bindO (fBin .eql v7 x1) fun v8 =>
 fCond v8
 (some x2)
 (bindO (fBin .add x2 (.int .i64 1)) fun v9 =>
 ref02_machineAt.L0 x0 x1 v9))
 (some (.int .i64 (-1)))):=(jden_eq ..).trans (by kernel_rfl)
noncomputable def ref02_checkMachines.L0:R:=jden E 80 [] [4,1,0,1] (mkF 29 [(0,.f x0),(3,.f x1)]) []
theorem ref02_checkMachines.eq:ref02_checkMachines x0 = (
 ref02_checkMachines.L0 x0 (.int .i64 0)):=(den_eq ..).trans (by kernel_rfl)
theorem ref02_checkMachines.L0_eq:ref02_checkMachines.L0 x0 x1 = (
 bindO (fLen x0) fun v3 =>
 bindO (fBin .lss x1 v3) fun v4 =>
 fCond v4
 (bindO (fIdxC 6 x0 x1) fun c5 =>
 bindO (c5[0]?) fun v6 =>
 bindO (c5[1]?) fun v7 =>
 bindO (c5[2]?) fun v8 =>
 bindO (c5[3]?) fun v9 =>
 bindO (c5[4]?) fun v10 =>
 bindO (c5[5]?) fun v11 =>
 bindO (ref02_Check (.agg [v6,v7,v8,v9,v10,v11])) fun v12 =>
 bindO (fBin .neq v12 (.int .i64 0)) fun v13 =>
 fCond v13
 (some v12)
 (bindO (fCut 6 x0 none (some x1)) fun v14 =>
 bindO (fIdxC 6 x0 x1) fun c15 =>
 bindO (c15[0]?) fun v16 =>
 bindO (ref02_machineAt v14 v16) fun v17 =>
 bindO (fBin .geq v17 (.int .i64 0)) fun v18 =>
 fCond v18
 (some (.int .i64 22))
 (bindO (fBin .add x1 (.int .i64 1)) fun v19 =>
 ref02_checkMachines.L0 x0 v19)))
 (some (.int .i64 0))):=(jden_eq ..).trans (by kernel_rfl)
noncomputable def ref02_partAt.L0:R:=jden E 81 [] [4,1,0,1] (mkF 20 [(0,.f x0),(1,.f x1),(5,.f x2)]) []
theorem ref02_partAt.eq:ref02_partAt x0 x1 = (
 ref02_partAt.L0 x0 x1 (.int .i64 0)):=(den_eq ..).trans (by kernel_rfl)
theorem ref02_partAt.L0_eq:ref02_partAt.L0 x0 x1 x2 = (
 bindO (fLen x0) fun v4 =>
 bindO (fBin .lss x2 v4) fun v5 =>
 fCond v5
 (bindO (fIdxC 2 x0 x2) fun c6 =>
 bindO (c6[0]?) fun v7 =>
 bindO (fBin .eql v7 x1) fun v8 =>
 fCond v8
 (some x2)
 (bindO (fBin .add x2 (.int .i64 1)) fun v9 =>
 ref02_partAt.L0 x0 x1 v9))
 (some (.int .i64 (-1)))):=(jden_eq ..).trans (by kernel_rfl)
theorem ref02_isIn.eq:ref02_isIn x0 x1 x2 = (
 gB (fIsAgg 5 x1) <|
 gB (fIsAgg 2 x2) <|
 bindO (fBin .geq (fCell x2 0) (.int .i64 0)) fun v1 =>
 fCond v1
 (bindO (fLen (fCell x1 1)) fun v2 =>
 bindO (fBin .lss (fCell x2 0) v2) fun v3 =>
 fCond v3
 (bindO (fBin .geq (fCell x2 1) (.int .i64 0)) fun v4 =>
 fCond v4
 (bindO (fIdxC 2 (fCell x1 1) (fCell x2 0)) fun c5 =>
 bindO (c5[1]?) fun v6 =>
 bindO (fIdxC 6 x0 v6) fun c7 =>
 bindO (c7[3]?) fun v8 =>
 bindO (fLen v8) fun v9 =>
 bindO (fBin .lss (fCell x2 1) v9) fun v10 =>
 some v10)
 (some (.bool false)))
 (some (.bool false)))
 (some (.bool false))):=(den_eq ..).trans (by kernel_rfl)
noncomputable def ref02_linked.L0:R:=jden E 84 [] [4,1,0,1] (mkF 20 [(0,.f x0),(1,.f x1),(5,.ptr 0 0 0),(7,.f x2)]) [.box [.f x3,.f x4]]
theorem ref02_linked.eq:ref02_linked x0 x1 x2 = (
 gB (fIsAgg 2 x2) <|
 ref02_linked.L0 x0 x1 (.int .i64 0) (fCell x2 0) (fCell x2 1)):=(den_eq ..).trans (by kernel_rfl)
theorem ref02_linked.L0_eq:ref02_linked.L0 x0 x1 x2 x3 x4 = (
 bindO (fBin .lss x2 x1) fun v6 =>
 fCond v6
 (bindO (fIdxC 6 x0 x2) fun c7 =>
 bindO (c7[2]?) fun v8 =>
 bindO (c7[3]?) fun v9 =>
 bindO (fAggBin [.int,.int] .eql [v8,v9] [x3,x4]) fun v10 =>
 fCond v10
 (some (.bool true))
 (bindO (fBin .add x2 (.int .i64 1)) fun v11 =>
 ref02_linked.L0 x0 x1 v11 x3 x4))
 (some (.bool false))):=(jden_eq ..).trans (by kernel_rfl)
theorem ref02_isOut.eq:ref02_isOut x0 x1 x2 = (
 gB (fIsAgg 5 x1) <|
 gB (fIsAgg 2 x2) <|
 bindO (fBin .geq (fCell x2 0) (.int .i64 0)) fun v1 =>
 fCond v1
 (bindO (fLen (fCell x1 1)) fun v2 =>
 bindO (fBin .lss (fCell x2 0) v2) fun v3 =>
 fCond v3
 (bindO (fBin .geq (fCell x2 1) (.int .i64 0)) fun v4 =>
 fCond v4
 (bindO (fIdxC 2 (fCell x1 1) (fCell x2 0)) fun c5 =>
 bindO (c5[1]?) fun v6 =>
 bindO (fIdxC 6 x0 v6) fun c7 =>
 bindO (c7[4]?) fun v8 =>
 bindO (fLen v8) fun v9 =>
 bindO (fBin .lss (fCell x2 1) v9) fun v10 =>
 some v10)
 (some (.bool false)))
 (some (.bool false)))
 (some (.bool false))):=(den_eq ..).trans (by kernel_rfl)
noncomputable def ref02_checkLink.L0:R:=jden E 82 [] [1,1] (mkF 111 [(0,.f x0),(2,.f x1),(4,.ptr 0 0 0),(7,.ptr 1 0 0)]) [.box [.f x2,.f x3,.f x4,.f x5,.f x6],.box [.f x7,.f x8,.f x9,.f x10,.f x11,.f x12]]
noncomputable def ref02_checkLink.L1:R:=jden E 82 [] [1,1,1] (mkF 111 [(0,.f x0),(2,.f x1),(4,.ptr 0 0 0),(7,.ptr 1 0 0)]) [.box [.f x2,.f x3,.f x4,.f x5,.f x6],.box [.f x7,.f x8,.f x9,.f x10,.f x11,.f x12]]
noncomputable def ref02_checkLink.L2:R:=jden E 82 [] [4,1,0,1,1,1,1,1,1] (mkF 111 [(0,.f x0),(2,.f x1),(4,.ptr 0 0 0),(7,.ptr 1 0 0),(8,.f x2),(9,.f x3)]) [.box [.f x4,.f x5,.f x6,.f x7,.f x8],.box [.f x9,.f x10,.f x11,.f x12,.f x13,.f x14]]
theorem ref02_checkLink.eq:ref02_checkLink x0 x1 x2 = (
 gB (fIsAgg 5 x1) <|
 bindO (fIdxC 6 (fCell x1 2) x2) fun c1 =>
 bindO (c1[0]?) fun v2 =>
 bindO (c1[1]?) fun v3 =>
 bindO (c1[2]?) fun v4 =>
 bindO (c1[3]?) fun v5 =>
 bindO (c1[4]?) fun v6 =>
 bindO (c1[5]?) fun v7 =>
 bindO (ref02_isOut x0 (.agg [(fCell x1 0),(fCell x1 1),(fCell x1 2),(fCell x1 3),(fCell x1 4)]) (.agg [v2,v3])) fun v8 =>
 bindO (fUn .not v8) fun v9 =>
 fCond v9
 (some (.int .i64 24))
 (bindO (ref02_isIn x0 (.agg [(fCell x1 0),(fCell x1 1),(fCell x1 2),(fCell x1 3),(fCell x1 4)]) (.agg [v4,v5])) fun v10 =>
 bindO (fUn .not v10) fun v11 =>
 fCond v11
 (some (.int .i64 24))
 (ref02_checkLink.L0 x0 x2 (fCell x1 0) (fCell x1 1) (fCell x1 2) (fCell x1 3) (fCell x1 4) v2 v3 v4 v5 v6 v7))):=(den_eq ..).trans (by kernel_rfl)
theorem ref02_checkLink.L0_eq:ref02_checkLink.L0 x0 x1 x2 x3 x4 x5 x6 x7 x8 x9 x10 x11 x12 = (
 bindO (fBin .lss x11 (.int .i64 0)) fun v14 =>
 fCond v14
 (some (.int .i64 26))
 (bindO (fBin .gtr x11 (.int .i64 100)) fun v15 =>
 fCond v15
 (some (.int .i64 26))
 (ref02_checkLink.L1 x0 x1 x2 x3 x4 x5 x6 x7 x8 x9 x10 x11 x12))):=(jden_eq ..).trans (by kernel_rfl)
theorem ref02_checkLink.L1_eq:ref02_checkLink.L1 x0 x1 x2 x3 x4 x5 x6 x7 x8 x9 x10 x11 x12 = (
 bindO (fLen x12) fun v14 =>
 bindO (fBin .neq v14 x11) fun v15 =>
 fCond v15
 (some (.int .i64 24))
 (bindO (fIdxC 2 x3 x7) fun c16 =>
 bindO (c16[1]?) fun v17 =>
 bindO (fIdxC 6 x0 v17) fun c18 =>
 bindO (c18[4]?) fun v19 =>
 bindO (fIdxC 2 v19 x8) fun c20 =>
 bindO (c20[1]?) fun v21 =>
 bindO (fLen v21) fun v22 =>
 ref02_checkLink.L2 x0 x1 v22 (.int .i64 0) x2 x3 x4 x5 x6 x7 x8 x9 x10 x11 x12)):=(jden_eq ..).trans (by kernel_rfl)
theorem ref02_checkLink.L2_eq:ref02_checkLink.L2 x0 x1 x2 x3 x4 x5 x6 x7 x8 x9 x10 x11 x12 x13 x14 = (
 bindO (fLen x14) fun v16 =>
 bindO (fBin .lss x3 v16) fun v17 =>
 fCond v17
 (bindO (fIdxC 1 x14 x3) fun c18 =>
 bindO (c18[0]?) fun v19 =>
 bindO (fBin .lss v19 (.int .i64 0)) fun v20 =>
 fCond v20
 (some (.int .i64 27))
 (bindO (fIdxC 1 x14 x3) fun c21 =>
 bindO (c21[0]?) fun v22 =>
 bindO (fBin .geq v22 x2) fun v23 =>
 fCond v23
 (some (.int .i64 27))
 (bindO (fBin .add x3 (.int .i64 1)) fun v24 =>
 ref02_checkLink.L2 x0 x1 x2 v24 x4 x5 x6 x7 x8 x9 x10 x11 x12 x13 x14)))
 (bindO (fIdxC 2 x5 x11) fun c25 =>
 bindO (c25[1]?) fun v26 =>
 bindO (fIdxC 6 x0 v26) fun c27 =>
 bindO (c27[3]?) fun v28 =>
 bindO (fIdxC 2 v28 x12) fun c29 =>
 bindO (c29[1]?) fun v30 =>
 bindO (fLen v30) fun v31 =>
 bindO (fBin .gtr x2 v31) fun v32 =>
 fCond v32
 (some (.int .i64 24))
 (bindO (ref02_linked x6 x1 (.agg [x11,x12])) fun v33 =>
 fCond v33
 (some (.int .i64 22))
 (some (.int .i64 0))))):=(jden_eq ..).trans (by kernel_rfl)
noncomputable def ref02_has.L0:R:=jden E 85 [] [4,1,0,1] (mkF 18 [(0,.f x0),(3,.ptr 0 0 0),(5,.f x1)]) [.box [.f x2,.f x3]]
theorem ref02_has.eq:ref02_has x0 x1 = (
 gB (fIsAgg 2 x1) <|
 ref02_has.L0 x0 (.int .i64 0) (fCell x1 0) (fCell x1 1)):=(den_eq ..).trans (by kernel_rfl)
theorem ref02_has.L0_eq:ref02_has.L0 x0 x1 x2 x3 = (
 bindO (fLen x0) fun v5 =>
 bindO (fBin .lss x1 v5) fun v6 =>
 fCond v6
 (bindO (fIdxC 2 x0 x1) fun c7 =>
 bindO (c7[0]?) fun v8 =>
 bindO (c7[1]?) fun v9 =>
 bindO (fAggBin [.int,.int] .eql [v8,v9] [x2,x3]) fun v10 =>
 fCond v10
 (some (.bool true))
 (bindO (fBin .add x1 (.int .i64 1)) fun v11 =>
 ref02_has.L0 x0 v11 x2 x3))
 (some (.bool false))):=(jden_eq ..).trans (by kernel_rfl)
noncomputable def ref02_whole.L0:R:=jden E 87 [] [4,1,0,1] (mkF 48 [(0,.f x0),(3,.ptr 0 0 0),(5,.f x1)]) [.box [.f x2,.f x3,.f x4,.f x5,.f x6]]
noncomputable def ref02_whole.L1:R:=jden E 87 [] [4,1,4,0,1,5,4,1,0,1] (mkF 48 [(0,.f x0),(3,.ptr 0 0 0),(5,.f x1),(6,.f x2)]) [.box [.f x3,.f x4,.f x5,.f x6,.f x7]]
theorem ref02_whole.eq:ref02_whole x0 x1 = (
 gB (fIsAgg 5 x1) <|
 ref02_whole.L0 x0 (.int .i64 0) (fCell x1 0) (fCell x1 1) (fCell x1 2) (fCell x1 3) (fCell x1 4)):=(den_eq ..).trans (by kernel_rfl)
theorem ref02_whole.L0_eq:ref02_whole.L0 x0 x1 x2 x3 x4 x5 x6 = (
 bindO (fLen x3) fun v8 =>
 bindO (fBin .lss x1 v8) fun v9 =>
 fCond v9
 (ref02_whole.L1 x0 x1 (.int .i64 0) x2 x3 x4 x5 x6)
 (some (.bool true))):=(jden_eq ..).trans (by kernel_rfl)
theorem ref02_whole.L1_eq:ref02_whole.L1 x0 x1 x2 x3 x4 x5 x6 x7 = (
 bindO (fIdxC 2 x4 x1) fun c9 =>
 bindO (c9[1]?) fun v10 =>
 bindO (fIdxC 6 x0 v10) fun c11 =>
 bindO (c11[3]?) fun v12 =>
 bindO (fLen v12) fun v13 =>
 bindO (fBin .lss x2 v13) fun v14 =>
 fCond v14
 (bindO (fLen x5) fun v15 =>
 bindO (ref02_linked x5 v15 (.agg [x1,x2])) fun v16 =>
 bindO (fUn .not v16) fun v17 =>
 fCond v17
 (bindO (ref02_has x6 (.agg [x1,x2])) fun v18 =>
 bindO (fUn .not v18) fun v19 =>
 fCond v19
 (some (.bool false))
 (bindO (fBin .add x2 (.int .i64 1)) fun v20 =>
 ref02_whole.L1 x0 x1 v20 x3 x4 x5 x6 x7))
 (bindO (fBin .add x2 (.int .i64 1)) fun v21 =>
 ref02_whole.L1 x0 x1 v21 x3 x4 x5 x6 x7))
 (bindO (fBin .add x1 (.int .i64 1)) fun v22 =>
 ref02_whole.L0 x0 v22 x3 x4 x5 x6 x7)):=(jden_eq ..).trans (by kernel_rfl)
noncomputable def ref02_Order.L0:R:=jden E 88 [] [4,0,1,1,1] (mkF 84 [(1,.ptr 0 0 0),(4,.ref 2),(5,.ref 1)]) [.box [.f x0,.f x1,.f x2,.f x3,.f x4],.own 1 r5,.own 1 r6]
noncomputable def ref02_Order.L1:R:=jden E 88 [] [4,1,0,1,4,1,5,4,0,1,1,1] (mkF 84 [(1,.ptr 0 0 0),(4,.ref 2),(5,.ref 1),(6,.f x0),(7,.f x1)]) [.box [.f x2,.f x3,.f x4,.f x5,.f x6],.own 1 r7,.own 1 r8]
noncomputable def ref02_Order.L2:R:=jden E 88 [] [5,4,1,0,1,4,1,5,4,0,1,1,1] (mkF 84 [(1,.ptr 0 0 0),(4,.ref 2),(5,.ref 1),(6,.f x0),(7,.f x1)]) [.box [.f x2,.f x3,.f x4,.f x5,.f x6],.own 1 r7,.own 1 r8]
noncomputable def ref02_Order.L3:R:=jden E 88 [] [4,1,0,1,4,0,1,5,4,1,0,1,4,1,5,4,0,1,1,1] (mkF 84 [(1,.ptr 0 0 0),(4,.ref 2),(5,.ref 1),(6,.f x0),(7,.f x1),(8,.f x2),(9,.f x3)]) [.box [.f x4,.f x5,.f x6,.f x7,.f x8],.own 1 r9,.own 1 r10]
theorem ref02_Order.eq:ref02_Order x0 = (
 gB (fIsAgg 5 x0) <|
 bindO (fLen (fCell x0 1)) fun v1 =>
 bindO (asNat v1) fun j2 =>
 bindO (asNat v1) fun j3 =>
 gB (j2 ≤ j3 && j3 * 1 ≤ room && 1 ≥ 1) <|
 ref02_Order.L0 (fCell x0 0) (fCell x0 1) (fCell x0 2) (fCell x0 3) (fCell x0 4) (List.replicate j2 [(.bool false:FV)]) []):=(den_eq ..).trans (by kernel_rfl)
theorem ref02_Order.L0_eq:ref02_Order.L0 x0 x1 x2 x3 x4 r5 r6 = (
 bindO (fLen x1) fun v8 =>
 bindO (fBin .lss (.int .i64 ((r6.length:Nat):Int)) v8) fun v9 =>
 fCond v9
 (ref02_Order.L1 (.int .i64 (-1)) (.int .i64 0) x0 x1 x2 x3 x4 r5 r6)
 (some (.tup [.arr r6,.bool true]))):=(jden_eq ..).trans (by kernel_rfl)
theorem ref02_Order.L1_eq:ref02_Order.L1 x0 x1 x2 x3 x4 x5 x6 r7 r8 = (
 bindO (fLen x3) fun v10 =>
 bindO (fBin .lss x1 v10) fun v11 =>
 fCond v11
 (bindO (fBin .lss x0 (.int .i64 0)) fun v12 =>
 fCond v12
 (ref02_Order.L2 x0 x1 x2 x3 x4 x5 x6 r7 r8)
 (bindO (fBin .lss x0 (.int .i64 0)) fun v13 =>
 fCond v13
 (some (.tup [.nilS,.bool false]))
 (bindO (rIdx r7 x0) fun j14 =>
 bindO (rSet r7 j14 0 [.bool true]) fun r15 =>
 gB (decide ((r8.length + 1) * 8 ≤ room)) <|
 ref02_Order.L0 x2 x3 x4 x5 x6 r15 (r8 ++ [[x0]]))))
 (bindO (fBin .lss x0 (.int .i64 0)) fun v16 =>
 fCond v16
 (some (.tup [.nilS,.bool false]))
 (bindO (rIdx r7 x0) fun j17 =>
 bindO (rSet r7 j17 0 [.bool true]) fun r18 =>
 gB (decide ((r8.length + 1) * 8 ≤ room)) <|
 ref02_Order.L0 x2 x3 x4 x5 x6 r18 (r8 ++ [[x0]])))):=(jden_eq ..).trans (by kernel_rfl)
theorem ref02_Order.L2_eq:ref02_Order.L2 x0 x1 x2 x3 x4 x5 x6 r7 r8 = (
 bindO (rIdx r7 x1) fun j10 =>
 bindO (rGet r7 j10 0) fun v11 =>
 bindO (fUn .not v11) fun v12 =>
 ref02_Order.L3 x0 x1 v12 (.int .i64 0) x2 x3 x4 x5 x6 r7 r8):=(jden_eq ..).trans (by kernel_rfl)
theorem ref02_Order.L3_eq:ref02_Order.L3 x0 x1 x2 x3 x4 x5 x6 x7 x8 r9 r10 = (
 bindO (fLen x6) fun v12 =>
 bindO (fBin .lss x3 v12) fun v13 =>
 fCond v13
 (bindO (fIdxC 6 x6 x3) fun c14 =>
 bindO (c14[0]?) fun v15 =>
 bindO (c14[1]?) fun v16 =>
 bindO (c14[2]?) fun v17 =>
 bindO (c14[3]?) fun v18 =>
 bindO (c14[4]?) fun v19 =>
 bindO (c14[5]?) fun v20 =>
 fCond x2
 (bindO (fBin .eql v19 (.int .i64 0)) fun v21 =>
 fCond v21
 (bindO (fBin .eql v17 x1) fun v22 =>
 fCond v22
 (bindO (rIdx r9 v15) fun j23 =>
 bindO (rGet r9 j23 0) fun v24 =>
 bindO (fUn .not v24) fun v25 =>
 bindO (fUn .not v25) fun v26 =>
 bindO (fBin .add x3 (.int .i64 1)) fun v27 =>
 ref02_Order.L3 x0 x1 v26 v27 x4 x5 x6 x7 x8 r9 r10)
 (bindO (fUn .not (.bool false)) fun v28 =>
 bindO (fBin .add x3 (.int .i64 1)) fun v29 =>
 ref02_Order.L3 x0 x1 v28 v29 x4 x5 x6 x7 x8 r9 r10))
 (bindO (fUn .not (.bool false)) fun v30 =>
 bindO (fBin .add x3 (.int .i64 1)) fun v31 =>
 ref02_Order.L3 x0 x1 v30 v31 x4 x5 x6 x7 x8 r9 r10))
 (bindO (fBin .add x3 (.int .i64 1)) fun v32 =>
 ref02_Order.L3 x0 x1 (.bool false) v32 x4 x5 x6 x7 x8 r9 r10))
 (fCond x2
 (bindO (fBin .add x1 (.int .i64 1)) fun v33 =>
 ref02_Order.L1 x1 v33 x4 x5 x6 x7 x8 r9 r10)
 (bindO (fBin .add x1 (.int .i64 1)) fun v34 =>
 ref02_Order.L1 x0 v34 x4 x5 x6 x7 x8 r9 r10))):=(jden_eq ..).trans (by kernel_rfl)
noncomputable def ref02_CheckNet.L0:R:=jden E 28 [] [1] (mkF 192 [(1,.f x0),(2,.ptr 0 0 0)]) [.box [.f x1,.f x2]]
noncomputable def ref02_CheckNet.L1:R:=jden E 28 [] [1,1,1,1,1] (mkF 192 [(2,.ptr 0 0 0),(6,.ptr 1 0 0)]) [.box [.f x0,.f x1],.box [.f x2,.f x3,.f x4,.f x5,.f x6]]
noncomputable def ref02_CheckNet.L2:R:=jden E 28 [] [4,1,0,1,1,1,1,1,1] (mkF 192 [(2,.ptr 0 0 0),(6,.ptr 1 0 0),(7,.f x0)]) [.box [.f x1,.f x2],.box [.f x3,.f x4,.f x5,.f x6,.f x7]]
noncomputable def ref02_CheckNet.L3:R:=jden E 28 [] [4,1,0,1,1,1,1,1,1,1,1] (mkF 192 [(2,.ptr 0 0 0),(6,.ptr 1 0 0),(8,.f x0)]) [.box [.f x1,.f x2],.box [.f x3,.f x4,.f x5,.f x6,.f x7]]
noncomputable def ref02_CheckNet.L4:R:=jden E 28 [] [4,1,0,1,1,1,1,1,1,1,1,1] (mkF 192 [(2,.ptr 0 0 0),(6,.ptr 1 0 0),(10,.f x0)]) [.box [.f x1,.f x2],.box [.f x3,.f x4,.f x5,.f x6,.f x7]]
noncomputable def ref02_CheckNet.L5:R:=jden E 28 [] [4,1,0,1,1,1,1,1,1,1,1,1,1] (mkF 192 [(2,.ptr 0 0 0),(6,.ptr 1 0 0),(11,.f x0)]) [.box [.f x1,.f x2],.box [.f x3,.f x4,.f x5,.f x6,.f x7]]
theorem ref02_CheckNet.eq:ref02_CheckNet x0 x1 = (
 gB (fIsAgg 2 x0) <|
 bindO (fBin .lss x1 (.int .i64 0)) fun v1 =>
 fCond v1
 (some (.int .i64 21))
 (bindO (fLen (fCell x0 1)) fun v2 =>
 bindO (fBin .geq x1 v2) fun v3 =>
 fCond v3
 (some (.int .i64 21))
 (ref02_CheckNet.L0 x1 (fCell x0 0) (fCell x0 1)))):=(den_eq ..).trans (by kernel_rfl)
theorem ref02_CheckNet.L0_eq:ref02_CheckNet.L0 x0 x1 x2 = (
 bindO (ref02_checkMachines x1) fun v4 =>
 bindO (fBin .neq v4 (.int .i64 0)) fun v5 =>
 fCond v5
 (some v4)
 (bindO (fIdxC 5 x2 x0) fun c6 =>
 bindO (c6[0]?) fun v7 =>
 bindO (c6[1]?) fun v8 =>
 bindO (c6[2]?) fun v9 =>
 bindO (c6[3]?) fun v10 =>
 bindO (c6[4]?) fun v11 =>
 bindO (ref02_IsName v7) fun v12 =>
 bindO (fUn .not v12) fun v13 =>
 fCond v13
 (some (.int .i64 21))
 (bindO (fLen v8) fun v14 =>
 bindO (fBin .eql v14 (.int .i64 0)) fun v15 =>
 fCond v15
 (some (.int .i64 26))
 (bindO (fLen v8) fun v16 =>
 bindO (fBin .gtr v16 (.int .i64 32)) fun v17 =>
 fCond v17
 (some (.int .i64 26))
 (ref02_CheckNet.L1 x1 x2 v7 v8 v9 v10 v11))))):=(jden_eq ..).trans (by kernel_rfl)
theorem ref02_CheckNet.L1_eq:ref02_CheckNet.L1 x0 x1 x2 x3 x4 x5 x6 = (
 ref02_CheckNet.L2 (.int .i64 0) x0 x1 x2 x3 x4 x5 x6):=(jden_eq ..).trans (by kernel_rfl)
theorem ref02_CheckNet.L2_eq:ref02_CheckNet.L2 x0 x1 x2 x3 x4 x5 x6 x7 = (
 bindO (fLen x4) fun v9 =>
 bindO (fBin .lss x0 v9) fun v10 =>
 fCond v10
 (bindO (fIdxC 2 x4 x0) fun c11 =>
 bindO (c11[0]?) fun v12 =>
 bindO (ref02_IsName v12) fun v13 =>
 bindO (fUn .not v13) fun v14 =>
 fCond v14
 (some (.int .i64 21))
 (bindO (fCut 2 x4 none (some x0)) fun v15 =>
 bindO (fIdxC 2 x4 x0) fun c16 =>
 bindO (c16[0]?) fun v17 =>
 bindO (ref02_partAt v15 v17) fun v18 =>
 bindO (fBin .geq v18 (.int .i64 0)) fun v19 =>
 fCond v19
 (some (.int .i64 22))
 (bindO (fIdxC 2 x4 x0) fun c20 =>
 bindO (c20[1]?) fun v21 =>
 bindO (fBin .lss v21 (.int .i64 0)) fun v22 =>
 fCond v22
 (some (.int .i64 21))
 (bindO (fIdxC 2 x4 x0) fun c23 =>
 bindO (c23[1]?) fun v24 =>
 bindO (fLen x1) fun v25 =>
 bindO (fBin .geq v24 v25) fun v26 =>
 fCond v26
 (some (.int .i64 21))
 (bindO (fBin .add x0 (.int .i64 1)) fun v27 =>
 ref02_CheckNet.L2 v27 x1 x2 x3 x4 x5 x6 x7)))))
 (bindO (fLen x5) fun v28 =>
 bindO (fBin .gtr v28 (.int .i64 64)) fun v29 =>
 fCond v29
 (some (.int .i64 26))
 (ref02_CheckNet.L3 (.int .i64 0) x1 x2 x3 x4 x5 x6 x7))):=(jden_eq ..).trans (by kernel_rfl)
theorem ref02_CheckNet.L3_eq:ref02_CheckNet.L3 x0 x1 x2 x3 x4 x5 x6 x7 = (
 bindO (fLen x5) fun v9 =>
 bindO (fBin .lss x0 v9) fun v10 =>
 fCond v10
 (bindO (ref02_checkLink x1 (.agg [x3,x4,x5,x6,x7]) x0) fun v11 =>
 bindO (fBin .neq v11 (.int .i64 0)) fun v12 =>
 fCond v12
 (some v11)
 (bindO (fBin .add x0 (.int .i64 1)) fun v13 =>
 ref02_CheckNet.L3 v13 x1 x2 x3 x4 x5 x6 x7))
 (ref02_CheckNet.L4 (.int .i64 0) x1 x2 x3 x4 x5 x6 x7)):=(jden_eq ..).trans (by kernel_rfl)
theorem ref02_CheckNet.L4_eq:ref02_CheckNet.L4 x0 x1 x2 x3 x4 x5 x6 x7 = (
 bindO (fLen x6) fun v9 =>
 bindO (fBin .lss x0 v9) fun v10 =>
 fCond v10
 (bindO (fIdxC 2 x6 x0) fun c11 =>
 bindO (c11[0]?) fun v12 =>
 bindO (c11[1]?) fun v13 =>
 bindO (ref02_isIn x1 (.agg [x3,x4,x5,x6,x7]) (.agg [v12,v13])) fun v14 =>
 bindO (fUn .not v14) fun v15 =>
 fCond v15
 (some (.int .i64 24))
 (bindO (fLen x5) fun v16 =>
 bindO (fIdxC 2 x6 x0) fun c17 =>
 bindO (c17[0]?) fun v18 =>
 bindO (c17[1]?) fun v19 =>
 bindO (ref02_linked x5 v16 (.agg [v18,v19])) fun v20 =>
 fCond v20
 (some (.int .i64 22))
 (bindO (fCut 2 x6 none (some x0)) fun v21 =>
 bindO (fIdxC 2 x6 x0) fun c22 =>
 bindO (c22[0]?) fun v23 =>
 bindO (c22[1]?) fun v24 =>
 bindO (ref02_has v21 (.agg [v23,v24])) fun v25 =>
 fCond v25
 (some (.int .i64 22))
 (bindO (fBin .add x0 (.int .i64 1)) fun v26 =>
 ref02_CheckNet.L4 v26 x1 x2 x3 x4 x5 x6 x7))))
 (ref02_CheckNet.L5 (.int .i64 0) x1 x2 x3 x4 x5 x6 x7)):=(jden_eq ..).trans (by kernel_rfl)
theorem ref02_CheckNet.L5_eq:ref02_CheckNet.L5 x0 x1 x2 x3 x4 x5 x6 x7 = (
 bindO (fLen x7) fun v9 =>
 bindO (fBin .lss x0 v9) fun v10 =>
 fCond v10
 (bindO (fIdxC 2 x7 x0) fun c11 =>
 bindO (c11[0]?) fun v12 =>
 bindO (c11[1]?) fun v13 =>
 bindO (ref02_isOut x1 (.agg [x3,x4,x5,x6,x7]) (.agg [v12,v13])) fun v14 =>
 bindO (fUn .not v14) fun v15 =>
 fCond v15
 (some (.int .i64 24))
 (bindO (fCut 2 x7 none (some x0)) fun v16 =>
 bindO (fIdxC 2 x7 x0) fun c17 =>
 bindO (c17[0]?) fun v18 =>
 bindO (c17[1]?) fun v19 =>
 bindO (ref02_has v16 (.agg [v18,v19])) fun v20 =>
 fCond v20
 (some (.int .i64 22))
 (bindO (fBin .add x0 (.int .i64 1)) fun v21 =>
 ref02_CheckNet.L5 v21 x1 x2 x3 x4 x5 x6 x7)))
 (bindO (ref02_whole x1 (.agg [x3,x4,x5,x6,x7])) fun v22 =>
 bindO (fUn .not v22) fun v23 =>
 fCond v23
 (some (.int .i64 24))
 (bindO (ref02_Order (.agg [x3,x4,x5,x6,x7])) fun v24 =>
 gB (fIsTup 2 v24) <|
 bindO (fUn .not (fTup v24 1)) fun v25 =>
 fCond v25
 (some (.int .i64 25))
 (some (.int .i64 0))))):=(jden_eq ..).trans (by kernel_rfl)
theorem ref02_digits.eq:ref02_digits x0 = (
 bindO (fBin .lss x0 (.int .i64 10)) fun v1 =>
 fCond v1
 (bindO (fBin .add (.int .i64 48) x0) fun v2 =>
 bindO (fConvInt .u8 v2) fun v3 =>
 bindO (bytes? [[v3]]) fun v4 =>
 some (.str v4))
 (bindO (fBin .quo x0 (.int .i64 10)) fun v5 =>
 bindO (ref02_digits v5) fun v6 =>
 bindO (fBin .rem x0 (.int .i64 10)) fun v7 =>
 bindO (fBin .add (.int .i64 48) v7) fun v8 =>
 bindO (fConvInt .u8 v8) fun v9 =>
 bindO (bytes? [[v9]]) fun v10 =>
 bindO (fBin .add v6 (.str v10)) fun v11 =>
 some v11)):=(den_eq ..).trans (by kernel_rfl)
noncomputable def ref02_reach.L0:R:=jden E 146 [] [4,1,0,1,1,1,1] (mkF 60 [(2,.ptr 0 0 0),(5,.ref 3),(6,.ref 2),(7,.f x0)]) [.box [.f x1,.f x2,.f x3],.dead,.own 1 r4,.own 1 r5]
noncomputable def ref02_reach.L1:R:=jden E 146 [] [4,1,4,0,1,5,4,1,0,1,1,1,1] (mkF 60 [(2,.ptr 0 0 0),(5,.ref 4),(6,.ref 2),(7,.f x0),(8,.f x1)]) [.box [.f x2,.f x3,.f x4],.dead,.own 1 r5,.dead,.own 1 r6]
theorem ref02_reach.eq:ref02_reach x0 x1 = (
 gB (fIsAgg 3 x0) <|
 bindO (fLen (fCell x0 1)) fun v1 =>
 bindO (fBin .quo v1 (fCell x0 0)) fun v2 =>
 bindO (asNat v2) fun j3 =>
 bindO (asNat v2) fun j4 =>
 gB (j3 ≤ j4 && j4 * 1 ≤ room && 1 ≥ 1) <|
 bindO (rIdx (List.replicate j3 [(.bool false:FV)]) x1) fun j5 =>
 bindO (rSet (List.replicate j3 [(.bool false:FV)]) j5 0 [.bool true]) fun r6 =>
 ref02_reach.L0 (.int .i64 0) (fCell x0 0) (fCell x0 1) (fCell x0 2) r6 [[x1]]):=(den_eq ..).trans (by kernel_rfl)
theorem ref02_reach.L0_eq:ref02_reach.L0 x0 x1 x2 x3 r4 r5 = (
 bindO (fBin .lss x0 (.int .i64 ((r5.length:Nat):Int))) fun v7 =>
 fCond v7
 (ref02_reach.L1 x0 (.int .i64 0) x1 x2 x3 r4 r5)
 (some (.arr r5))):=(jden_eq ..).trans (by kernel_rfl)
theorem ref02_reach.L1_eq:ref02_reach.L1 x0 x1 x2 x3 x4 r5 r6 = (
 bindO (fBin .lss x1 x2) fun v8 =>
 fCond v8
 (bindO (rIdx r6 x0) fun j9 =>
 bindO (rGet r6 j9 0) fun v10 =>
 bindO (fBin .mul v10 x2) fun v11 =>
 bindO (fBin .add v11 x1) fun v12 =>
 bindO (fIdxC 1 x3 v12) fun c13 =>
 bindO (c13[0]?) fun v14 =>
 bindO (rIdx r5 v14) fun j15 =>
 bindO (rGet r5 j15 0) fun v16 =>
 bindO (fUn .not v16) fun v17 =>
 fCond v17
 (bindO (rIdx r5 v14) fun j18 =>
 bindO (rSet r5 j18 0 [.bool true]) fun r19 =>
 gB (decide ((r6.length + 1) * 8 ≤ room)) <|
 bindO (fBin .add x1 (.int .i64 1)) fun v20 =>
 ref02_reach.L1 x0 v20 x2 x3 x4 r19 (r6 ++ [[v14]]))
 (bindO (fBin .add x1 (.int .i64 1)) fun v21 =>
 ref02_reach.L1 x0 v21 x2 x3 x4 r5 r6))
 (bindO (fBin .add x0 (.int .i64 1)) fun v22 =>
 ref02_reach.L0 v22 x2 x3 x4 r5 r6)):=(jden_eq ..).trans (by kernel_rfl)
noncomputable def ref02_alike.L0:R:=jden E 152 [] [4,1,0,1,1] (mkF 76 [(1,.f x0),(2,.f x1),(3,.f x2),(4,.ptr 0 0 0),(9,.f x3)]) [.box [.f x4,.f x5,.f x6]]
theorem ref02_alike.eq:ref02_alike x0 x1 x2 x3 = (
 gB (fIsAgg 3 x0) <|
 bindO (fIdxC 1 x1 x2) fun c1 =>
 bindO (c1[0]?) fun v2 =>
 bindO (fIdxC 1 x1 x3) fun c3 =>
 bindO (c3[0]?) fun v4 =>
 bindO (fBin .neq v2 v4) fun v5 =>
 fCond v5
 (some (.bool false))
 (ref02_alike.L0 x1 x2 x3 (.int .i64 0) (fCell x0 0) (fCell x0 1) (fCell x0 2))):=(den_eq ..).trans (by kernel_rfl)
theorem ref02_alike.L0_eq:ref02_alike.L0 x0 x1 x2 x3 x4 x5 x6 = (
 bindO (fBin .lss x3 x4) fun v8 =>
 fCond v8
 (bindO (fBin .mul x1 x4) fun v9 =>
 bindO (fBin .add v9 x3) fun v10 =>
 bindO (fIdxC 1 x6 v10) fun c11 =>
 bindO (c11[0]?) fun v12 =>
 bindO (fBin .mul x2 x4) fun v13 =>
 bindO (fBin .add v13 x3) fun v14 =>
 bindO (fIdxC 1 x6 v14) fun c15 =>
 bindO (c15[0]?) fun v16 =>
 bindO (ref02_sameInts v12 v16) fun v17 =>
 bindO (fUn .not v17) fun v18 =>
 fCond v18
 (some (.bool false))
 (bindO (fBin .mul x1 x4) fun v19 =>
 bindO (fBin .add v19 x3) fun v20 =>
 bindO (fIdxC 1 x5 v20) fun c21 =>
 bindO (c21[0]?) fun v22 =>
 bindO (fIdxC 1 x0 v22) fun c23 =>
 bindO (c23[0]?) fun v24 =>
 bindO (fBin .mul x2 x4) fun v25 =>
 bindO (fBin .add v25 x3) fun v26 =>
 bindO (fIdxC 1 x5 v26) fun c27 =>
 bindO (c27[0]?) fun v28 =>
 bindO (fIdxC 1 x0 v28) fun c29 =>
 bindO (c29[0]?) fun v30 =>
 bindO (fBin .neq v24 v30) fun v31 =>
 fCond v31
 (some (.bool false))
 (bindO (fBin .add x3 (.int .i64 1)) fun v32 =>
 ref02_alike.L0 x0 x1 x2 v32 x4 x5 x6)))
 (some (.bool true))):=(jden_eq ..).trans (by kernel_rfl)
noncomputable def ref02_classes.L0:R:=jden E 147 [(0,0,1)] [4,1,1,1] (mkF 76 [(1,.f x0),(2,.ptr 0 0 0),(5,.ref 2),(6,.f x1)]) [.box [.f x2,.f x3,.f x4],.dead,.own 1 r5]
noncomputable def ref02_classes.L1:R:=jden E 147 [(0,0,1)] [4,1,0,1,1,4,5,4,1,1,1] (mkF 76 [(1,.f x0),(2,.ptr 0 0 0),(5,.f x1),(6,.f x2),(7,.ref 3),(8,.ref 4),(9,.f x3)]) [.box [.f x4,.f x5,.f x6],.dead,.fz r7,.own 1 r8,.own 1 r9]
noncomputable def ref02_classes.L2:R:=jden E 147 [(0,0,1)] [4,1,0,1,4,0,1,5,4,1,0,1,1,4,5,4,1,1,1] (mkF 76 [(1,.f x0),(2,.ptr 0 0 0),(5,.f x1),(6,.f x2),(7,.ref 3),(8,.ref 4),(9,.f x3),(10,.f x4),(11,.f x5)]) [.box [.f x6,.f x7,.f x8],.dead,.fz r9,.own 1 r10,.own 1 r11]
noncomputable def ref02_classes.L3:R:=jden E 147 [(0,0,1)] [5,4,1,0,1,4,0,1,5,4,1,0,1,1,4,5,4,1,1,1] (mkF 76 [(1,.f x0),(2,.ptr 0 0 0),(5,.f x1),(6,.f x2),(7,.ref 3),(8,.ref 4),(9,.f x3),(10,.f x4),(11,.f x5)]) [.box [.f x6,.f x7,.f x8],.dead,.fz r9,.own 1 r10,.own 1 r11]
noncomputable def ref02_classes.L4:R:=jden E 147 [(0,0,1)] [1,1,4,0,1,5,4,1,0,1,1,4,5,4,1,1,1] (mkF 76 [(1,.f x0),(2,.ptr 0 0 0),(5,.f x1),(6,.f x2),(7,.ref 3),(8,.ref 5),(9,.f x3),(10,.f x4)]) [.box [.f x5,.f x6,.f x7],.dead,.fz r8,.own 1 r9,.dead,.own 1 r10]
theorem ref02_classes.eq:ref02_classes x0 x1 = (
 gB (fIsAgg 3 x0) <|
 bindO (fLen (fCell x0 1)) fun v1 =>
 bindO (fBin .quo v1 (fCell x0 0)) fun v2 =>
 bindO (asNat v2) fun j3 =>
 bindO (asNat v2) fun j4 =>
 gB (j3 ≤ j4 && j4 * 8 ≤ room && 1 ≥ 1) <|
 ref02_classes.L0 x1 (.int .i64 1) (fCell x0 0) (fCell x0 1) (fCell x0 2) (List.replicate j3 [(.int .i64 0:FV)])):=(den_eq ..).trans (by kernel_rfl)
theorem ref02_classes.L0_eq:ref02_classes.L0 x0 x1 x2 x3 x4 r5 = (
 bindO (asNat (.int .i64 ((r5.length:Nat):Int))) fun j7 =>
 bindO (asNat (.int .i64 ((r5.length:Nat):Int))) fun j8 =>
 gB (j7 ≤ j8 && j8 * 8 ≤ room && 1 ≥ 1) <|
 ref02_classes.L1 x0 (.arr r5) x1 (.int .i64 0) x2 x3 x4 r5 (List.replicate j7 [(.int .i64 0:FV)]) []):=(jden_eq ..).trans (by kernel_rfl)
theorem ref02_classes.L1_eq:ref02_classes.L1 x0 x1 x2 x3 x4 x5 x6 r7 r8 r9 = (
 bindO (fLen x0) fun v11 =>
 bindO (fBin .lss x3 v11) fun v12 =>
 fCond v12
 (ref02_classes.L2 x0 x1 x2 x3 (.int .i64 (-1)) (.int .i64 0) x4 x5 x6 r7 r8 r9)
 (bindO (fBin .eql (.int .i64 ((r9.length:Nat):Int)) x2) fun v13 =>
 fCond v13
 (some (.arr r8))
 (ref02_classes.L0 x0 (.int .i64 ((r9.length:Nat):Int)) x4 x5 x6 r8))):=(jden_eq ..).trans (by kernel_rfl)
theorem ref02_classes.L2_eq:ref02_classes.L2 x0 x1 x2 x3 x4 x5 x6 x7 x8 r9 r10 r11 = (
 bindO (fBin .lss x5 (.int .i64 ((r11.length:Nat):Int))) fun v13 =>
 fCond v13
 (bindO (fBin .lss x4 (.int .i64 0)) fun v14 =>
 fCond v14
 (ref02_classes.L3 x0 x1 x2 x3 x4 x5 x6 x7 x8 r9 r10 r11)
 (bindO (fBin .lss x4 (.int .i64 0)) fun v15 =>
 fCond v15
 (bindO (fIdxC 1 x0 x3) fun c16 =>
 bindO (c16[0]?) fun v17 =>
 gB (decide ((r11.length + 1) * 8 ≤ room)) <|
 ref02_classes.L4 x0 x1 x2 x3 (.int .i64 ((r11.length:Nat):Int)) x6 x7 x8 r9 r10 (r11 ++ [[v17]]))
 (ref02_classes.L4 x0 x1 x2 x3 x4 x6 x7 x8 r9 r10 r11)))
 (bindO (fBin .lss x4 (.int .i64 0)) fun v18 =>
 fCond v18
 (bindO (fIdxC 1 x0 x3) fun c19 =>
 bindO (c19[0]?) fun v20 =>
 gB (decide ((r11.length + 1) * 8 ≤ room)) <|
 ref02_classes.L4 x0 x1 x2 x3 (.int .i64 ((r11.length:Nat):Int)) x6 x7 x8 r9 r10 (r11 ++ [[v20]]))
 (ref02_classes.L4 x0 x1 x2 x3 x4 x6 x7 x8 r9 r10 r11))):=(jden_eq ..).trans (by kernel_rfl)
theorem ref02_classes.L3_eq:ref02_classes.L3 x0 x1 x2 x3 x4 x5 x6 x7 x8 r9 r10 r11 = (
 bindO (rIdx r11 x5) fun j13 =>
 bindO (rGet r11 j13 0) fun v14 =>
 bindO (fIdxC 1 x0 x3) fun c15 =>
 bindO (c15[0]?) fun v16 =>
 bindO (ref02_alike (.agg [x6,x7,x8]) x1 v14 v16) fun v17 =>
 fCond v17
 (bindO (fBin .add x5 (.int .i64 1)) fun v18 =>
 ref02_classes.L2 x0 x1 x2 x3 x5 v18 x6 x7 x8 r9 r10 r11)
 (bindO (fBin .add x5 (.int .i64 1)) fun v19 =>
 ref02_classes.L2 x0 x1 x2 x3 x4 v19 x6 x7 x8 r9 r10 r11)):=(jden_eq ..).trans (by kernel_rfl)
theorem ref02_classes.L4_eq:ref02_classes.L4 x0 x1 x2 x3 x4 x5 x6 x7 r8 r9 r10 = (
 bindO (fIdxC 1 x0 x3) fun c12 =>
 bindO (c12[0]?) fun v13 =>
 bindO (rIdx r9 v13) fun j14 =>
 bindO (rSet r9 j14 0 [x4]) fun r15 =>
 bindO (fBin .add x3 (.int .i64 1)) fun v16 =>
 ref02_classes.L1 x0 x1 x2 v16 x5 x6 x7 r8 r15 r10):=(jden_eq ..).trans (by kernel_rfl)
noncomputable def ref02_least.L0:R:=jden E 101 [] [4,1,0,1,1,1,1,1,1] (mkF 93 [(6,.f x0),(7,.ref 1),(8,.ref 4),(9,.ref 2),(10,.ref 3),(11,.f x1)]) [.box [.f x2,.f x3,.f x4],.own 1 r5,.own 1 r6,.own 1 r7,.own 1 r8]
noncomputable def ref02_least.L1:R:=jden E 101 [] [4,1,0,1,1,1,1,1,1,1] (mkF 93 [(6,.f x0),(7,.ref 1),(8,.ref 4),(10,.ref 3),(12,.f x1)]) [.box [.f x2,.f x3,.f x4],.own 1 r5,.own 1 r6,.own 1 r7,.own 1 r8]
theorem ref02_least.eq:ref02_least x0 x1 = (
 gB (fIsAgg 3 x0) <|
 bindO (ref02_reach (.agg [(fCell x0 0),(fCell x0 1),(fCell x0 2)]) x1) fun v1 =>
 bindO (ref02_classes (.agg [(fCell x0 0),(fCell x0 1),(fCell x0 2)]) v1) fun v2 =>
 bindO (arrRows v2) fun r3 =>
 bindO (asNat (.int .i64 ((r3.length:Nat):Int))) fun j4 =>
 bindO (asNat (.int .i64 ((r3.length:Nat):Int))) fun j5 =>
 gB (j4 ≤ j5 && j5 * 1 ≤ room && 1 ≥ 1) <|
 bindO (asNat (.int .i64 ((r3.length:Nat):Int))) fun j6 =>
 bindO (asNat (.int .i64 ((r3.length:Nat):Int))) fun j7 =>
 gB (j6 ≤ j7 && j7 * 8 ≤ room && 1 ≥ 1) <|
 ref02_least.L0 v1 (.int .i64 0) (fCell x0 0) (fCell x0 1) (fCell x0 2) r3 (List.replicate j4 [(.bool false:FV)]) (List.replicate j6 [(.int .i64 0:FV)]) []):=(den_eq ..).trans (by kernel_rfl)
theorem ref02_least.L0_eq:ref02_least.L0 x0 x1 x2 x3 x4 r5 r6 r7 r8 = (
 bindO (fLen x0) fun v10 =>
 bindO (fBin .lss x1 v10) fun v11 =>
 fCond v11
 (bindO (fIdxC 1 x0 x1) fun c12 =>
 bindO (c12[0]?) fun v13 =>
 bindO (rIdx r5 v13) fun j14 =>
 bindO (rGet r5 j14 0) fun v15 =>
 bindO (rIdx r6 v15) fun j16 =>
 bindO (rGet r6 j16 0) fun v17 =>
 bindO (fUn .not v17) fun v18 =>
 fCond v18
 (bindO (fIdxC 1 x0 x1) fun c19 =>
 bindO (c19[0]?) fun v20 =>
 bindO (rIdx r5 v20) fun j21 =>
 bindO (rGet r5 j21 0) fun v22 =>
 bindO (rIdx r6 v22) fun j23 =>
 bindO (rSet r6 j23 0 [.bool true]) fun r24 =>
 bindO (fIdxC 1 x0 x1) fun c25 =>
 bindO (c25[0]?) fun v26 =>
 bindO (rIdx r5 v26) fun j27 =>
 bindO (rGet r5 j27 0) fun v28 =>
 bindO (rIdx r7 v28) fun j29 =>
 bindO (rSet r7 j29 0 [.int .i64 ((r8.length:Nat):Int)]) fun r30 =>
 bindO (fIdxC 1 x0 x1) fun c31 =>
 bindO (c31[0]?) fun v32 =>
 gB (decide ((r8.length + 1) * 8 ≤ room)) <|
 bindO (fBin .add x1 (.int .i64 1)) fun v33 =>
 ref02_least.L0 x0 v33 x2 x3 x4 r5 r24 r30 (r8 ++ [[v32]]))
 (bindO (fBin .add x1 (.int .i64 1)) fun v34 =>
 ref02_least.L0 x0 v34 x2 x3 x4 r5 r6 r7 r8))
 (ref02_least.L1 x0 (.int .i64 0) x2 x3 x4 r5 r6 r7 r8)):=(jden_eq ..).trans (by kernel_rfl)
theorem ref02_least.L1_eq:ref02_least.L1 x0 x1 x2 x3 x4 r5 r6 r7 r8 = (
 bindO (fLen x0) fun v10 =>
 bindO (fBin .lss x1 v10) fun v11 =>
 fCond v11
 (bindO (fIdxC 1 x0 x1) fun c12 =>
 bindO (c12[0]?) fun v13 =>
 bindO (fIdxC 1 x0 x1) fun c14 =>
 bindO (c14[0]?) fun v15 =>
 bindO (rIdx r5 v15) fun j16 =>
 bindO (rGet r5 j16 0) fun v17 =>
 bindO (rIdx r7 v17) fun j18 =>
 bindO (rGet r7 j18 0) fun v19 =>
 bindO (rIdx r5 v13) fun j20 =>
 bindO (rSet r5 j20 0 [v19]) fun r21 =>
 bindO (fBin .add x1 (.int .i64 1)) fun v22 =>
 ref02_least.L1 x0 v22 x2 x3 x4 r21 r6 r7 r8)
 (some (.tup [.arr r8,.arr r5]))):=(jden_eq ..).trans (by kernel_rfl)
noncomputable def ref02_rowsOf.L0:R:=jden E 103 [] [4,1,0,1,1] (mkF 52 [(1,.f x0),(2,.f x1),(3,.ptr 0 0 0),(7,.ref 1),(8,.f x2)]) [.box [.f x3,.f x4,.f x5],.own 2 r6]
noncomputable def ref02_rowsOf.L1:R:=jden E 103 [] [4,1,4,0,1,5,4,1,0,1,1] (mkF 52 [(1,.f x0),(2,.f x1),(3,.ptr 0 0 0),(7,.ref 2),(8,.f x2),(9,.f x3)]) [.box [.f x4,.f x5,.f x6],.dead,.own 2 r7]
theorem ref02_rowsOf.eq:ref02_rowsOf x0 x1 x2 = (
 gB (fIsAgg 3 x0) <|
 ref02_rowsOf.L0 x1 x2 (.int .i64 0) (fCell x0 0) (fCell x0 1) (fCell x0 2) []):=(den_eq ..).trans (by kernel_rfl)
theorem ref02_rowsOf.L0_eq:ref02_rowsOf.L0 x0 x1 x2 x3 x4 x5 r6 = (
 bindO (fLen x0) fun v8 =>
 bindO (fBin .lss x2 v8) fun v9 =>
 fCond v9
 (ref02_rowsOf.L1 x0 x1 x2 (.int .i64 0) x3 x4 x5 r6)
 (some (.arr r6))):=(jden_eq ..).trans (by kernel_rfl)
theorem ref02_rowsOf.L1_eq:ref02_rowsOf.L1 x0 x1 x2 x3 x4 x5 x6 r7 = (
 bindO (fBin .lss x3 x4) fun v9 =>
 fCond v9
 (bindO (fIdxC 1 x0 x2) fun c10 =>
 bindO (c10[0]?) fun v11 =>
 bindO (fBin .mul v11 x4) fun v12 =>
 bindO (fBin .add v12 x3) fun v13 =>
 bindO (fIdxC 1 x5 v13) fun c14 =>
 bindO (c14[0]?) fun v15 =>
 bindO (fIdxC 1 x1 v15) fun c16 =>
 bindO (c16[0]?) fun v17 =>
 bindO (fIdxC 1 x6 v13) fun c18 =>
 bindO (c18[0]?) fun v19 =>
 bindO (asRows v19) fun r20 =>
 gB (rowsSz 1 r20) <|
 gB (decide ((0 + r20.length) * 8 ≤ room)) <|
 gB (decide ((r7.length + 1) * 32 ≤ room)) <|
 bindO (fBin .add x3 (.int .i64 1)) fun v21 =>
 ref02_rowsOf.L1 x0 x1 x2 v21 x4 x5 x6 (r7 ++ [[v17,.arr ([] ++ r20)]]))
 (bindO (fBin .add x2 (.int .i64 1)) fun v22 =>
 ref02_rowsOf.L0 x0 x1 v22 x4 x5 x6 r7)):=(jden_eq ..).trans (by kernel_rfl)
noncomputable def ref02_Parts.L0:R:=jden E 112 [] [4,1,0,1,1] (mkF 37 [(0,.f x0),(1,.f x1),(5,.ref 0),(6,.f x2)]) [.own 1 r3]
theorem ref02_Parts.eq:ref02_Parts x0 x1 = (
 bindO (fLen x0) fun v1 =>
 bindO (asNat v1) fun j2 =>
 bindO (asNat v1) fun j3 =>
 gB (j2 ≤ j3 && j3 * 8 ≤ room && 1 ≥ 1) <|
 bindO (fLen x0) fun v4 =>
 bindO (fBin .sub v4 (.int .i64 1)) fun v5 =>
 ref02_Parts.L0 x0 x1 v5 (List.replicate j2 [(.int .i64 0:FV)])):=(den_eq ..).trans (by kernel_rfl)
theorem ref02_Parts.L0_eq:ref02_Parts.L0 x0 x1 x2 r3 = (
 bindO (fBin .geq x2 (.int .i64 0)) fun v5 =>
 fCond v5
 (bindO (fIdxC 2 x0 x2) fun c6 =>
 bindO (c6[1]?) fun v7 =>
 bindO (fLen v7) fun v8 =>
 bindO (fBin .rem x1 v8) fun v9 =>
 bindO (rIdx r3 x2) fun j10 =>
 bindO (rSet r3 j10 0 [v9]) fun r11 =>
 bindO (fIdxC 2 x0 x2) fun c12 =>
 bindO (c12[1]?) fun v13 =>
 bindO (fLen v13) fun v14 =>
 bindO (fBin .quo x1 v14) fun v15 =>
 bindO (fBin .sub x2 (.int .i64 1)) fun v16 =>
 ref02_Parts.L0 x0 v15 v16 r11)
 (some (.arr r3))):=(jden_eq ..).trans (by kernel_rfl)
noncomputable def ref02_netPorts.L0:R:=jden E 117 [] [4,1,0,1,1] (mkF 39 [(0,.f x0),(3,.ptr 0 0 0),(5,.ref 1),(6,.f x1)]) [.box [.f x2,.f x3,.f x4,.f x5,.f x6],.own 2 r7]
theorem ref02_netPorts.eq:ref02_netPorts x0 x1 = (
 gB (fIsAgg 5 x1) <|
 ref02_netPorts.L0 x0 (.int .i64 0) (fCell x1 0) (fCell x1 1) (fCell x1 2) (fCell x1 3) (fCell x1 4) []):=(den_eq ..).trans (by kernel_rfl)
theorem ref02_netPorts.L0_eq:ref02_netPorts.L0 x0 x1 x2 x3 x4 x5 x6 r7 = (
 bindO (fLen x5) fun v9 =>
 bindO (fBin .lss x1 v9) fun v10 =>
 fCond v10
 (bindO (fIdxC 2 x5 x1) fun c11 =>
 bindO (c11[0]?) fun v12 =>
 bindO (c11[1]?) fun v13 =>
 bindO (fIdxC 2 x3 v12) fun c14 =>
 bindO (c14[1]?) fun v15 =>
 bindO (fIdxC 6 x0 v15) fun c16 =>
 bindO (c16[3]?) fun v17 =>
 bindO (fIdxC 2 v17 v13) fun c18 =>
 bindO (c18[0]?) fun v19 =>
 bindO (c18[1]?) fun v20 =>
 gB (decide ((r7.length + 1) * 40 ≤ room)) <|
 bindO (fBin .add x1 (.int .i64 1)) fun v21 =>
 ref02_netPorts.L0 x0 v21 x2 x3 x4 x5 x6 (r7 ++ [[v19,v20]]))
 (some (.arr r7))):=(jden_eq ..).trans (by kernel_rfl)
noncomputable def ref02_first.L0:R:=jden E 118 [] [4,1,0,1,1] (mkF 52 [(0,.f x0),(3,.ptr 0 0 0),(4,.ptr 1 0 0),(5,.ptr 2 0 0),(6,.f x1)]) [.box [.f x2,.f x3,.f x4,.f x5,.f x6],.box [.ref 3,.ref 4],.box [.ref 5,.ref 6],.own 1 r7,.own 1 r8,.own 1 r9,.own 1 r10]
noncomputable def ref02_first.L1:R:=jden E 118 [] [4,1,0,1,1,1] (mkF 52 [(3,.ptr 0 0 0),(4,.ptr 1 0 0),(5,.ptr 2 0 0),(7,.f x0)]) [.box [.f x1,.f x2,.f x3,.f x4,.f x5],.box [.ref 3,.ref 4],.box [.ref 5,.ref 7],.own 1 r6,.own 1 r7,.own 1 r8,.dead,.own 1 r9]
theorem ref02_first.eq:ref02_first x0 x1 = (
 gB (fIsAgg 5 x1) <|
 ref02_first.L0 x0 (.int .i64 0) (fCell x1 0) (fCell x1 1) (fCell x1 2) (fCell x1 3) (fCell x1 4) [] [] [] []):=(den_eq ..).trans (by kernel_rfl)
theorem ref02_first.L0_eq:ref02_first.L0 x0 x1 x2 x3 x4 x5 x6 r7 r8 r9 r10 = (
 bindO (fLen x3) fun v12 =>
 bindO (fBin .lss x1 v12) fun v13 =>
 fCond v13
 (bindO (fIdxC 2 x3 x1) fun c14 =>
 bindO (c14[1]?) fun v15 =>
 bindO (fIdxC 6 x0 v15) fun c16 =>
 bindO (c16[2]?) fun v17 =>
 gB (decide ((r9.length + 1) * 8 ≤ room)) <|
 bindO (fBin .add x1 (.int .i64 1)) fun v18 =>
 ref02_first.L0 x0 v18 x2 x3 x4 x5 x6 r7 r8 (r9 ++ [[v17]]) r10)
 (ref02_first.L1 (.int .i64 0) x2 x3 x4 x5 x6 r7 r8 r9 r10)):=(jden_eq ..).trans (by kernel_rfl)
theorem ref02_first.L1_eq:ref02_first.L1 x0 x1 x2 x3 x4 x5 r6 r7 r8 r9 = (
 bindO (fLen x3) fun v11 =>
 bindO (fBin .lss x0 v11) fun v12 =>
 fCond v12
 (bindO (fIdxC 6 x3 x0) fun c13 =>
 bindO (c13[5]?) fun v14 =>
 bindO (asRows v14) fun r15 =>
 gB (rowsSz 1 r15) <|
 gB (decide ((0 + r15.length) * 8 ≤ room)) <|
 gB (decide ((r9.length + 1) * 24 ≤ room)) <|
 bindO (fBin .add x0 (.int .i64 1)) fun v16 =>
 ref02_first.L1 v16 x1 x2 x3 x4 x5 r6 r7 r8 (r9 ++ [[.arr ([] ++ r15)]]))
 (some (.agg [.arr r8,.arr r9]))):=(jden_eq ..).trans (by kernel_rfl)
noncomputable def ref02_Index.L0:R:=jden E 139 [] [4,1,0,1,1] (mkF 27 [(0,.f x0),(1,.f x1),(5,.f x2),(6,.f x3)]) []
theorem ref02_Index.eq:ref02_Index x0 x1 = (
 ref02_Index.L0 x0 x1 (.int .i64 0) (.int .i64 0)):=(den_eq ..).trans (by kernel_rfl)
theorem ref02_Index.L0_eq:ref02_Index.L0 x0 x1 x2 x3 = (
 bindO (fLen x0) fun v5 =>
 bindO (fBin .lss x3 v5) fun v6 =>
 fCond v6
 (bindO (fIdxC 2 x0 x3) fun c7 =>
 bindO (c7[1]?) fun v8 =>
 bindO (fLen v8) fun v9 =>
 bindO (fBin .mul x2 v9) fun v10 =>
 bindO (fIdxC 1 x1 x3) fun c11 =>
 bindO (c11[0]?) fun v12 =>
 bindO (fBin .add v10 v12) fun v13 =>
 bindO (fBin .add x3 (.int .i64 1)) fun v14 =>
 ref02_Index.L0 x0 x1 v13 v14)
 (some x2)):=(jden_eq ..).trans (by kernel_rfl)
theorem ref02_one.eq:ref02_one x0 x1 x2 = (
 gB (fIsAgg 6 x0) <|
 bindO (ref02_product (fCell x0 3)) fun v1 =>
 bindO (fBin .mul x1 v1) fun v2 =>
 bindO (ref02_Index (fCell x0 3) x2) fun v3 =>
 bindO (fBin .add v2 v3) fun v4 =>
 bindO (fIdxC 2 (fCell x0 5) v4) fun c5 =>
 bindO (c5[0]?) fun v6 =>
 bindO (c5[1]?) fun v7 =>
 some (.agg [v6,v7])):=(den_eq ..).trans (by kernel_rfl)
noncomputable def ref02_move.L0:R:=jden E 119 [] [4,1,0,1,1,1] (mkF 224 [(0,.f x0),(2,.f x1),(4,.f x2),(6,.ptr 0 0 0),(8,.ptr 1 0 0),(10,.ptr 2 0 0),(12,.ref 3),(13,.ptr 5 0 0),(14,.f x3)]) [.box [.f x4,.f x5,.f x6,.f x7,.f x8],.box [.f x9,.f x10],.box [.ref 6,.ref 7],.own 1 r11,.own 1 r12,.box [.ref 4,.ref 8],.own 1 r13,.own 1 r14,.own 1 r15]
noncomputable def ref02_move.L1:R:=jden E 119 [] [4,1,0,1,1,1,4,0,1,5,4,1,0,1,1,1] (mkF 224 [(0,.f x0),(2,.f x1),(4,.f x2),(6,.ptr 0 0 0),(8,.ptr 1 0 0),(10,.ptr 2 0 0),(12,.ref 3),(13,.ptr 5 0 0),(14,.f x3),(15,.f x4),(16,.ptr 9 0 0),(17,.ref 10),(18,.f x5)]) [.box [.f x6,.f x7,.f x8,.f x9,.f x10],.box [.f x11,.f x12],.box [.ref 6,.ref 7],.own 1 r13,.own 1 r14,.box [.ref 4,.ref 8],.own 1 r15,.own 1 r16,.own 1 r17,.box [.f x18,.f x19,.f x20,.f x21,.f x22,.f x23],.own 1 r24]
noncomputable def ref02_move.L3:R:=jden E 119 [] [4,1,0,1,1,1,1] (mkF 224 [(6,.ptr 0 0 0),(8,.ptr 1 0 0),(10,.ptr 2 0 0),(12,.ref 3),(13,.ptr 5 0 0),(22,.f x0)]) [.box [.f x1,.f x2,.f x3,.f x4,.f x5],.box [.f x6,.f x7],.box [.ref 6,.ref 7],.own 1 r8,.own 1 r9,.box [.ref 4,.ref 9],.own 1 r10,.own 1 r11,.dead,.own 1 r12]
noncomputable def ref02_move.L2:R:=jden E 119 [] [4,1,0,1,1,1,1,4,0,1,5,4,1,0,1,1,1] (mkF 224 [(0,.f x0),(2,.f x1),(4,.f x2),(6,.ptr 0 0 0),(8,.ptr 1 0 0),(10,.ptr 2 0 0),(12,.ref 3),(13,.ptr 5 0 0),(14,.f x3),(15,.f x4),(16,.ptr 9 0 0),(17,.ref 10),(19,.f x5)]) [.box [.f x6,.f x7,.f x8,.f x9,.f x10],.box [.f x11,.f x12],.box [.ref 6,.ref 7],.own 1 r13,.own 1 r14,.box [.ref 4,.ref 8],.own 1 r15,.own 1 r16,.own 1 r17,.box [.f x18,.f x19,.f x20,.f x21,.f x22,.f x23],.own 1 r24]
noncomputable def ref02_move.L4:R:=jden E 119 [] [1,1,4,0,1,5,4,1,0,1,1,1,1] (mkF 224 [(6,.ptr 0 0 0),(8,.ptr 1 0 0),(10,.ptr 2 0 0),(12,.ref 3),(13,.ptr 5 0 0),(22,.f x0),(24,.ref 10)]) [.box [.f x1,.f x2,.f x3,.f x4,.f x5],.box [.f x6,.f x7],.box [.ref 6,.ref 7],.own 1 r8,.own 1 r9,.box [.ref 4,.ref 9],.own 1 r10,.own 1 r11,.dead,.own 1 r12,.own 1 r13]
noncomputable def ref02_move.L5:R:=jden E 119 [] [4,1,0,1,1,1,1,1,1] (mkF 224 [(6,.ptr 0 0 0),(10,.ptr 2 0 0),(12,.ref 3),(13,.ptr 5 0 0),(25,.ref 9),(26,.f x0)]) [.box [.f x1,.f x2,.f x3,.f x4,.f x5],.box [.f x6,.f x7],.box [.ref 6,.ref 7],.own 1 r8,.own 1 r9,.box [.ref 4,.ref 10],.own 1 r10,.own 1 r11,.dead,.own 1 r12,.own 1 r13]
theorem ref02_move.eq:ref02_move x0 x1 x2 x3 x4 = (
 gB (fIsAgg 5 x1) <|
 gB (fIsAgg 2 x3) <|
 bindO (fLen (fCell x1 1)) fun v1 =>
 bindO (asNat v1) fun j2 =>
 bindO (asNat v1) fun j3 =>
 gB (j2 ≤ j3 && j3 * 24 ≤ room && 1 ≥ 1) <|
 bindO (fLen (fCell x1 1)) fun v4 =>
 bindO (asNat v4) fun j5 =>
 bindO (asNat v4) fun j6 =>
 gB (j5 ≤ j6 && j6 * 8 ≤ room && 1 ≥ 1) <|
 ref02_move.L0 x0 x2 x4 (.int .i64 0) (fCell x1 0) (fCell x1 1) (fCell x1 2) (fCell x1 3) (fCell x1 4) (fCell x3 0) (fCell x3 1) (List.replicate j2 [(.nilS:FV)]) (List.replicate j5 [(.int .i64 0:FV)]) [] [] []):=(den_eq ..).trans (by kernel_rfl)
theorem ref02_move.L0_eq:ref02_move.L0 x0 x1 x2 x3 x4 x5 x6 x7 x8 x9 x10 r11 r12 r13 r14 r15 = (
 bindO (fLen x1) fun v17 =>
 bindO (fBin .lss x3 v17) fun v18 =>
 fCond v18
 (bindO (fIdxC 1 x1 x3) fun c19 =>
 bindO (c19[0]?) fun v20 =>
 bindO (fIdxC 2 x5 v20) fun c21 =>
 bindO (c21[1]?) fun v22 =>
 bindO (fIdxC 6 x0 v22) fun c23 =>
 bindO (c23[0]?) fun v24 =>
 bindO (c23[1]?) fun v25 =>
 bindO (c23[2]?) fun v26 =>
 bindO (c23[3]?) fun v27 =>
 bindO (c23[4]?) fun v28 =>
 bindO (c23[5]?) fun v29 =>
 bindO (fLen v27) fun v30 =>
 bindO (asNat v30) fun j31 =>
 bindO (asNat v30) fun j32 =>
 gB (j31 ≤ j32 && j32 * 8 ≤ room && 1 ≥ 1) <|
 ref02_move.L1 x0 x1 x2 x3 v20 (.int .i64 0) x4 x5 x6 x7 x8 x9 x10 r11 r12 r13 r14 r15 v24 v25 v26 v27 v28 v29 (List.replicate j31 [(.int .i64 0:FV)]))
 (ref02_move.L3 (.int .i64 0) x4 x5 x6 x7 x8 x9 x10 r11 r12 r13 r14 r15)):=(jden_eq ..).trans (by kernel_rfl)
theorem ref02_move.L1_eq:ref02_move.L1 x0 x1 x2 x3 x4 x5 x6 x7 x8 x9 x10 x11 x12 r13 r14 r15 r16 r17 x18 x19 x20 x21 x22 x23 r24 = (
 bindO (fLen x9) fun v26 =>
 bindO (fBin .lss x5 v26) fun v27 =>
 fCond v27
 (bindO (fIdxC 2 x9 x5) fun c28 =>
 bindO (c28[0]?) fun v29 =>
 bindO (fBin .eql v29 x4) fun v30 =>
 fCond v30
 (bindO (fIdxC 2 x9 x5) fun c31 =>
 bindO (c31[1]?) fun v32 =>
 bindO (fIdxC 1 x2 x5) fun c33 =>
 bindO (c33[0]?) fun v34 =>
 bindO (rIdx r24 v32) fun j35 =>
 bindO (rSet r24 j35 0 [v34]) fun r36 =>
 bindO (fBin .add x5 (.int .i64 1)) fun v37 =>
 ref02_move.L1 x0 x1 x2 x3 x4 v37 x6 x7 x8 x9 x10 x11 x12 r13 r14 r15 r16 r17 x18 x19 x20 x21 x22 x23 r36)
 (bindO (fBin .add x5 (.int .i64 1)) fun v38 =>
 ref02_move.L1 x0 x1 x2 x3 x4 v38 x6 x7 x8 x9 x10 x11 x12 r13 r14 r15 r16 r17 x18 x19 x20 x21 x22 x23 r24))
 (ref02_move.L2 x0 x1 x2 x3 x4 (.int .i64 0) x6 x7 x8 x9 x10 x11 x12 r13 r14 r15 r16 r17 x18 x19 x20 x21 x22 x23 r24)):=(jden_eq ..).trans (by kernel_rfl)
theorem ref02_move.L3_eq:ref02_move.L3 x0 x1 x2 x3 x4 x5 x6 x7 r8 r9 r10 r11 r12 = (
 bindO (fLen x3) fun v14 =>
 bindO (fBin .lss x0 v14) fun v15 =>
 fCond v15
 (bindO (fIdxC 6 x3 x0) fun c16 =>
 bindO (c16[0]?) fun v17 =>
 bindO (c16[1]?) fun v18 =>
 bindO (c16[2]?) fun v19 =>
 bindO (c16[3]?) fun v20 =>
 bindO (c16[4]?) fun v21 =>
 bindO (c16[5]?) fun v22 =>
 bindO (fBin .gtr v21 (.int .i64 0)) fun v23 =>
 fCond v23
 (bindO (fIdxC 1 x7 x0) fun c24 =>
 bindO (c24[0]?) fun v25 =>
 bindO (fCut 1 v25 (some (.int .i64 1)) none) fun v26 =>
 bindO (rIdx r8 v17) fun j27 =>
 bindO (rGet r8 j27 0) fun v28 =>
 bindO (fIdxC 1 v28 v18) fun c29 =>
 bindO (c29[0]?) fun v30 =>
 bindO (asRows v26) fun r31 =>
 gB (rowsSz 1 r31) <|
 gB (decide (r31.length * 8 ≤ room)) <|
 gB (decide ((r31.length + 1) * 8 ≤ room)) <|
 ref02_move.L4 x0 x1 x2 x3 x4 x5 x6 x7 r8 r9 r10 r11 r12 (r31 ++ [[v30]]))
 (ref02_move.L4 x0 x1 x2 x3 x4 x5 x6 x7 r8 r9 r10 r11 r12 []))
 (ref02_move.L5 (.int .i64 0) x1 x2 x3 x4 x5 x6 x7 r8 r9 r10 r11 [] r12)):=(jden_eq ..).trans (by kernel_rfl)
theorem ref02_move.L2_eq:ref02_move.L2 x0 x1 x2 x3 x4 x5 x6 x7 x8 x9 x10 x11 x12 r13 r14 r15 r16 r17 x18 x19 x20 x21 x22 x23 r24 = (
 bindO (fLen x8) fun v26 =>
 bindO (fBin .lss x5 v26) fun v27 =>
 fCond v27
 (bindO (fIdxC 6 x8 x5) fun c28 =>
 bindO (c28[0]?) fun v29 =>
 bindO (c28[1]?) fun v30 =>
 bindO (c28[2]?) fun v31 =>
 bindO (c28[3]?) fun v32 =>
 bindO (c28[4]?) fun v33 =>
 bindO (c28[5]?) fun v34 =>
 bindO (fBin .neq v31 x4) fun v35 =>
 fCond v35
 (bindO (fBin .add x5 (.int .i64 1)) fun v36 =>
 ref02_move.L2 x0 x1 x2 x3 x4 v36 x6 x7 x8 x9 x10 x11 x12 r13 r14 r15 r16 r17 x18 x19 x20 x21 x22 x23 r24)
 (bindO (fBin .eql v33 (.int .i64 0)) fun v37 =>
 fCond v37
 (bindO (rIdx r13 v29) fun j38 =>
 bindO (rGet r13 j38 0) fun v39 =>
 bindO (fIdxC 1 v39 v30) fun c40 =>
 bindO (c40[0]?) fun v41 =>
 bindO (rIdx r24 v32) fun j42 =>
 bindO (rSet r24 j42 0 [v41]) fun r43 =>
 bindO (fBin .add x5 (.int .i64 1)) fun v44 =>
 ref02_move.L2 x0 x1 x2 x3 x4 v44 x6 x7 x8 x9 x10 x11 x12 r13 r14 r15 r16 r17 x18 x19 x20 x21 x22 x23 r43)
 (bindO (fIdxC 1 x12 x5) fun c45 =>
 bindO (c45[0]?) fun v46 =>
 bindO (fIdxC 1 v46 (.int .i64 0)) fun c47 =>
 bindO (c47[0]?) fun v48 =>
 bindO (rIdx r24 v32) fun j49 =>
 bindO (rSet r24 j49 0 [v48]) fun r50 =>
 bindO (fBin .add x5 (.int .i64 1)) fun v51 =>
 ref02_move.L2 x0 x1 x2 x3 x4 v51 x6 x7 x8 x9 x10 x11 x12 r13 r14 r15 r16 r17 x18 x19 x20 x21 x22 x23 r50)))
 (bindO (fIdxC 1 x11 x4) fun c52 =>
 bindO (c52[0]?) fun v53 =>
 bindO (ref02_one (.agg [x18,x19,x20,x21,x22,x23]) v53 (.arr r24)) fun v54 =>
 gB (fIsAgg 2 v54) <|
 bindO (rIdx r13 x4) fun j55 =>
 bindO (rSet r13 j55 0 [(fCell v54 1)]) fun r56 =>
 bindO (rIdx r14 x4) fun j57 =>
 bindO (rSet r14 j57 0 [(fCell v54 0)]) fun r58 =>
 bindO (fBin .add x3 (.int .i64 1)) fun v59 =>
 ref02_move.L0 x0 x1 x2 v59 x6 x7 x8 x9 x10 x11 x12 r56 r58 r15 r16 r17)):=(jden_eq ..).trans (by kernel_rfl)
theorem ref02_move.L4_eq:ref02_move.L4 x0 x1 x2 x3 x4 x5 x6 x7 r8 r9 r10 r11 r12 r13 = (
 gB (decide ((r12.length + 1) * 24 ≤ room)) <|
 bindO (fBin .add x0 (.int .i64 1)) fun v15 =>
 ref02_move.L3 v15 x1 x2 x3 x4 x5 x6 x7 r8 r9 r10 r11 (r12 ++ [[.arr r13]])):=(jden_eq ..).trans (by kernel_rfl)
theorem ref02_move.L5_eq:ref02_move.L5 x0 x1 x2 x3 x4 x5 x6 x7 r8 r9 r10 r11 r12 r13 = (
 bindO (fLen x5) fun v15 =>
 bindO (fBin .lss x0 v15) fun v16 =>
 fCond v16
 (bindO (fIdxC 2 x5 x0) fun c17 =>
 bindO (c17[0]?) fun v18 =>
 bindO (rIdx r8 v18) fun j19 =>
 bindO (rGet r8 j19 0) fun v20 =>
 bindO (fIdxC 2 x5 x0) fun c21 =>
 bindO (c21[1]?) fun v22 =>
 bindO (fIdxC 1 v20 v22) fun c23 =>
 bindO (c23[0]?) fun v24 =>
 gB (decide ((r12.length + 1) * 8 ≤ room)) <|
 bindO (fBin .add x0 (.int .i64 1)) fun v25 =>
 ref02_move.L5 v25 x1 x2 x3 x4 x5 x6 x7 r8 r9 r10 r11 (r12 ++ [[v24]]) r13)
 (some (.tup [.agg [.arr r9,.arr r13],.arr r12]))):=(jden_eq ..).trans (by kernel_rfl)
noncomputable def ref02_flat.L0:R:=jden E 125 [] [4,1,0,1,1] (mkF 24 [(1,.ptr 0 0 0),(3,.ref 3),(4,.f x0)]) [.box [.f x1,.f x2],.dead,.dead,.own 1 r3]
theorem ref02_flat.eq:ref02_flat x0 = (
 gB (fIsAgg 2 x0) <|
 bindO (asRows (fCell x0 0)) fun r1 =>
 gB (rowsSz 1 r1) <|
 gB (decide ((0 + r1.length) * 8 ≤ room)) <|
 ref02_flat.L0 (.int .i64 0) (fCell x0 0) (fCell x0 1) ([] ++ r1)):=(den_eq ..).trans (by kernel_rfl)
theorem ref02_flat.L0_eq:ref02_flat.L0 x0 x1 x2 r3 = (
 bindO (fLen x2) fun v5 =>
 bindO (fBin .lss x0 v5) fun v6 =>
 fCond v6
 (bindO (fIdxC 1 x2 x0) fun c7 =>
 bindO (c7[0]?) fun v8 =>
 bindO (asRows v8) fun r9 =>
 gB (rowsSz 1 r9) <|
 gB (decide ((r3.length + r9.length) * 8 ≤ room)) <|
 bindO (fBin .add x0 (.int .i64 1)) fun v10 =>
 ref02_flat.L0 v10 x1 x2 (r3 ++ r9))
 (some (.arr r3))):=(jden_eq ..).trans (by kernel_rfl)
noncomputable def ref02_slot.L0:R:=jden E 126 [] [4,1,0,1,1] (mkF 52 [(0,.f x0),(1,.f x1),(2,.f x2),(7,.f x3),(8,.f x4)]) []
noncomputable def ref02_slot.L1:R:=jden E 126 [] [4,0,1,1,1,1] (mkF 52 [(0,.f x0),(1,.f x1),(2,.f x2),(9,.f x3)]) []
noncomputable def ref02_slot.L2:R:=jden E 126 [] [5,4,0,1,1,1,1] (mkF 52 [(0,.f x0),(1,.f x1),(2,.f x2),(9,.f x3)]) []
theorem ref02_slot.eq:ref02_slot x0 x1 x2 = (
 ref02_slot.L0 x0 x1 x2 (.int .i64 7) (.int .i64 0)):=(den_eq ..).trans (by kernel_rfl)
theorem ref02_slot.L0_eq:ref02_slot.L0 x0 x1 x2 x3 x4 = (
 bindO (fLen x2) fun v6 =>
 bindO (fBin .lss x4 v6) fun v7 =>
 fCond v7
 (bindO (fBin .mul x3 (.int .i64 31)) fun v8 =>
 bindO (fIdxC 1 x2 x4) fun c9 =>
 bindO (c9[0]?) fun v10 =>
 bindO (fBin .add v8 v10) fun v11 =>
 bindO (fBin .add v11 (.int .i64 1)) fun v12 =>
 bindO (fBin .rem v12 (.int .i64 1000003)) fun v13 =>
 bindO (fBin .add x4 (.int .i64 1)) fun v14 =>
 ref02_slot.L0 x0 x1 x2 v13 v14)
 (bindO (fLen x0) fun v15 =>
 bindO (fBin .rem x3 v15) fun v16 =>
 ref02_slot.L1 x0 x1 x2 v16)):=(jden_eq ..).trans (by kernel_rfl)
theorem ref02_slot.L1_eq:ref02_slot.L1 x0 x1 x2 x3 = (
 bindO (fIdxC 1 x0 x3) fun c5 =>
 bindO (c5[0]?) fun v6 =>
 bindO (fBin .geq v6 (.int .i64 0)) fun v7 =>
 fCond v7
 (bindO (fIdxC 1 x0 x3) fun c8 =>
 bindO (c8[0]?) fun v9 =>
 bindO (fIdxC 1 x1 v9) fun c10 =>
 bindO (c10[0]?) fun v11 =>
 bindO (ref02_sameInts v11 x2) fun v12 =>
 bindO (fUn .not v12) fun v13 =>
 fCond v13
 (ref02_slot.L2 x0 x1 x2 x3)
 (some x3))
 (some x3)):=(jden_eq ..).trans (by kernel_rfl)
theorem ref02_slot.L2_eq:ref02_slot.L2 x0 x1 x2 x3 = (
 bindO (fBin .add x3 (.int .i64 1)) fun v5 =>
 bindO (fLen x0) fun v6 =>
 bindO (fBin .rem v5 v6) fun v7 =>
 ref02_slot.L1 x0 x1 x2 v7):=(jden_eq ..).trans (by kernel_rfl)
noncomputable def ref02_Flat.L0:R:=jden E 46 [] [1,1,1,1,1] (mkF 266 [(2,.ptr 0 0 0),(4,.ptr 1 0 0),(7,.ptr 2 0 0),(8,.f x0),(9,.f x1)]) [.box [.f x2,.f x3],.box [.f x4,.ref 3,.f x5,.ref 4,.ref 5,.ref 6],.box [.f x6,.f x7,.f x8,.f x9,.f x10],.own 1 r11,.own 1 r12,.own 1 r13,.own 1 r14]
noncomputable def ref02_Flat.L1:R:=jden E 46 [] [4,1,0,1,1,1,1,1,1,1,1] (mkF 266 [(2,.ptr 0 0 0),(4,.ptr 1 0 0),(7,.ptr 2 0 0),(8,.f x0),(9,.f x1),(10,.f x2),(12,.ref 7),(13,.f x3)]) [.box [.f x4,.f x5],.box [.f x6,.ref 3,.f x7,.ref 4,.ref 5,.ref 6],.box [.f x8,.f x9,.f x10,.f x11,.f x12],.own 1 r13,.own 1 r14,.own 1 r15,.own 1 r16,.own 1 r17]
noncomputable def ref02_Flat.L2:R:=jden E 46 [] [4,1,0,1,1,1,1,1,1,1,1,1,1,1,1,1] (mkF 266 [(2,.ptr 0 0 0),(4,.ptr 1 0 0),(7,.ptr 2 0 0),(8,.f x0),(9,.f x1),(10,.f x2),(12,.ref 7),(14,.ref 13),(15,.ref 14),(16,.ptr 10 0 0),(17,.f x3)]) [.box [.f x4,.f x5],.box [.f x6,.ref 3,.f x7,.ref 4,.ref 5,.ref 6],.box [.f x8,.f x9,.f x10,.f x11,.f x12],.own 1 r13,.own 1 r14,.own 1 r15,.own 1 r16,.own 1 r17,.dead,.dead,.box [.f x18,.ref 11,.ref 12],.own 1 r19,.own 1 r20,.own 2 r21,.own 1 r22]
noncomputable def ref02_Flat.L3:R:=jden E 46 [] [4,1,4,0,1,5,4,1,0,1,1,1,1,1,1,1,1,1,1,1,1,1] (mkF 266 [(2,.ptr 0 0 0),(4,.ptr 1 0 0),(7,.ptr 2 0 0),(8,.f x0),(9,.f x1),(10,.f x2),(12,.ref 7),(14,.ref 15),(15,.ref 16),(16,.ptr 10 0 0),(17,.f x3),(18,.f x4)]) [.box [.f x5,.f x6],.box [.f x7,.ref 3,.f x8,.ref 4,.ref 5,.ref 6],.box [.f x9,.f x10,.f x11,.f x12,.f x13],.own 1 r14,.own 1 r15,.own 1 r16,.own 1 r17,.own 1 r18,.dead,.dead,.box [.f x19,.ref 17,.ref 18],.dead,.dead,.dead,.dead,.own 2 r20,.own 1 r21,.own 1 r22,.own 1 r23]
noncomputable def ref02_Flat.L5:R:=jden E 46 [] [4,1,0,1,1,1,1,1,1,1,1,1,1,1,1,1,1,1,1] (mkF 266 [(2,.ptr 0 0 0),(4,.ptr 1 0 0),(7,.ptr 2 0 0),(8,.f x0),(23,.f x1),(25,.ptr 15 0 0),(26,.f x2)]) [.box [.f x3,.f x4],.box [.f x5,.ref 3,.f x6,.ref 4,.ref 5,.ref 6],.box [.f x7,.f x8,.f x9,.f x10,.f x11],.own 1 r12,.own 1 r13,.own 1 r14,.own 1 r15,.own 1 r16,.dead,.dead,.box [.f x17,.ref 11,.ref 12],.fz r18,.fz r19,.own 2 r20,.own 1 r21,.box [.f x22,.ref 16,.f x23,.ref 17,.ref 18,.f x24],.own 1 r25,.own 2 r26,.own 2 r27]
noncomputable def ref02_Flat.L4:R:=jden E 46 [] [1,1,1,4,0,1,5,4,1,4,0,1,5,4,1,0,1,1,1,1,1,1,1,1,1,1,1,1,1] (mkF 266 [(2,.ptr 0 0 0),(4,.ptr 1 0 0),(7,.ptr 2 0 0),(8,.f x0),(9,.f x1),(10,.f x2),(12,.ref 7),(14,.ref 14),(15,.ref 15),(16,.ptr 10 0 0),(17,.f x3),(18,.f x4),(20,.f x5),(22,.f x6)]) [.box [.f x7,.f x8],.box [.f x9,.ref 3,.f x10,.ref 4,.ref 5,.ref 6],.box [.f x11,.f x12,.f x13,.f x14,.f x15],.own 1 r16,.own 1 r17,.own 1 r18,.own 1 r19,.own 1 r20,.dead,.dead,.box [.f x21,.ref 16,.ref 17],.dead,.dead,.dead,.own 2 r22,.own 1 r23,.own 1 r24,.own 1 r25]
noncomputable def ref02_Flat.L6:R:=jden E 46 [] [4,1,0,1,1,1,1,1,1,1,1,1,1,1,1,1,1,1,1,1] (mkF 266 [(2,.ptr 0 0 0),(4,.ptr 1 0 0),(7,.ptr 2 0 0),(23,.f x0),(25,.ptr 15 0 0),(27,.f x1)]) [.box [.f x2,.f x3],.box [.f x4,.ref 3,.f x5,.ref 4,.ref 5,.ref 6],.box [.f x6,.f x7,.f x8,.f x9,.f x10],.own 1 r11,.own 1 r12,.own 1 r13,.own 1 r14,.own 1 r15,.dead,.dead,.box [.f x16,.ref 11,.ref 12],.fz r17,.fz r18,.own 2 r19,.own 1 r20,.box [.f x21,.ref 16,.f x22,.ref 17,.ref 19,.f x23],.own 1 r24,.own 2 r25,.dead,.own 2 r26]
noncomputable def ref02_Flat.L7:R:=jden E 46 [] [4,1,0,1,1,1,1,1,1,1,1,1,1,1,1,1,1,1,1,1,1] (mkF 266 [(4,.ptr 1 0 0),(23,.f x0),(25,.ptr 15 0 0),(30,.f x1)]) [.box [.f x2,.f x3],.box [.f x4,.ref 3,.f x5,.ref 4,.ref 5,.ref 6],.box [.f x6,.f x7,.f x8,.f x9,.f x10],.own 1 r11,.own 1 r12,.own 1 r13,.own 1 r14,.own 1 r15,.dead,.dead,.box [.f x16,.ref 11,.ref 12],.fz r17,.fz r18,.own 2 r19,.own 1 r20,.box [.f x21,.ref 20,.f x22,.ref 17,.ref 19,.f x23],.dead,.own 2 r24,.dead,.own 2 r25,.own 1 r26]
theorem ref02_Flat.eq:ref02_Flat x0 x1 = (
 gB (fIsAgg 2 x0) <|
 bindO (ref02_CheckNet (.agg [(fCell x0 0),(fCell x0 1)]) x1) fun v1 =>
 bindO (fBin .neq v1 (.int .i64 0)) fun v2 =>
 fCond v2
 (some (.tup [.agg [.str [],.nilS,.int .i64 0,.nilS,.nilS,.nilS],v1]))
 (bindO (fIdxC 5 (fCell x0 1) x1) fun c3 =>
 bindO (c3[0]?) fun v4 =>
 bindO (c3[1]?) fun v5 =>
 bindO (c3[2]?) fun v6 =>
 bindO (c3[3]?) fun v7 =>
 bindO (c3[4]?) fun v8 =>
 bindO (ref02_netPorts (fCell x0 0) (.agg [v4,v5,v6,v7,v8])) fun v9 =>
 bindO (ref02_product v9) fun v10 =>
 bindO (fLen v7) fun v11 =>
 bindO (fBin .gtr v11 (.int .i64 8)) fun v12 =>
 fCond v12
 (some (.tup [.agg [.str [],.nilS,.int .i64 0,.nilS,.nilS,.nilS],.int .i64 26]))
 (bindO (fLen v8) fun v13 =>
 bindO (fBin .gtr v13 (.int .i64 8)) fun v14 =>
 fCond v14
 (some (.tup [.agg [.str [],.nilS,.int .i64 0,.nilS,.nilS,.nilS],.int .i64 26]))
 (bindO (fBin .mul v10 (.int .i64 4096)) fun v15 =>
 bindO (fBin .gtr v15 (.int .i64 1048576)) fun v16 =>
 fCond v16
 (some (.tup [.agg [.str [],.nilS,.int .i64 0,.nilS,.nilS,.nilS],.int .i64 26]))
 (ref02_Flat.L0 v9 v10 (fCell x0 0) (fCell x0 1) (.str []) (.int .i64 0) v4 v5 v6 v7 v8 [] [] [] []))))):=(den_eq ..).trans (by kernel_rfl)
theorem ref02_Flat.L0_eq:ref02_Flat.L0 x0 x1 x2 x3 x4 x5 x6 x7 x8 x9 x10 r11 r12 r13 r14 = (
 bindO (ref02_Order (.agg [x6,x7,x8,x9,x10])) fun v16 =>
 gB (fIsTup 2 v16) <|
 ref02_Flat.L1 x0 x1 (fTup v16 0) (.int .i64 0) x2 x3 x4 x5 x6 x7 x8 x9 x10 r11 r12 r13 r14 (List.replicate 16384 [(.int .i64 0:FV)])):=(jden_eq ..).trans (by kernel_rfl)
theorem ref02_Flat.L1_eq:ref02_Flat.L1 x0 x1 x2 x3 x4 x5 x6 x7 x8 x9 x10 x11 x12 r13 r14 r15 r16 r17 = (
 bindO (fBin .lss x3 (.int .i64 ((r17.length:Nat):Int))) fun v19 =>
 fCond v19
 (bindO (rIdx r17 x3) fun j20 =>
 bindO (rSet r17 j20 0 [.int .i64 (-1)]) fun r21 =>
 bindO (fBin .add x3 (.int .i64 1)) fun v22 =>
 ref02_Flat.L1 x0 x1 x2 v22 x4 x5 x6 x7 x8 x9 x10 x11 x12 r13 r14 r15 r16 r21)
 (bindO (ref02_first x4 (.agg [x8,x9,x10,x11,x12])) fun v23 =>
 gB (fIsAgg 2 v23) <|
 bindO (rIdx [[(fCell v23 0),(fCell v23 1)]] (.int .i64 0)) fun j24 =>
 bindO (rGet [[(fCell v23 0),(fCell v23 1)]] j24 0) fun v25 =>
 bindO (rGet [[(fCell v23 0),(fCell v23 1)]] j24 1) fun v26 =>
 bindO (ref02_flat (.agg [v25,v26])) fun v27 =>
 bindO (rIdx [[v27]] (.int .i64 0)) fun j28 =>
 bindO (rGet [[v27]] j28 0) fun v29 =>
 bindO (ref02_slot (.arr r17) (.arr [[v27]]) v29) fun v30 =>
 gB (fScal v30) <|
 bindO (rIdx r17 v30) fun j31 =>
 bindO (rSet r17 j31 0 [.int .i64 0]) fun r32 =>
 ref02_Flat.L2 x0 x1 x2 (.int .i64 0) x4 x5 x6 x7 x8 x9 x10 x11 x12 r13 r14 r15 r16 r32 x1 [] [] [[(fCell v23 0),(fCell v23 1)]] [[v27]])):=(jden_eq ..).trans (by kernel_rfl)
theorem ref02_Flat.L2_eq:ref02_Flat.L2 x0 x1 x2 x3 x4 x5 x6 x7 x8 x9 x10 x11 x12 r13 r14 r15 r16 r17 x18 r19 r20 r21 r22 = (
 bindO (fBin .lss x3 (.int .i64 ((r21.length:Nat):Int))) fun v24 =>
 fCond v24
 (ref02_Flat.L3 x0 x1 x2 x3 (.int .i64 0) x4 x5 x6 x7 x8 x9 x10 x11 x12 r13 r14 r15 r16 r17 x18 r21 r22 r19 r20)
 (bindO (ref02_least (.agg [x18,.arr r19,.arr r20]) (.int .i64 0)) fun v25 =>
 gB (fIsTup 2 v25) <|
 bindO (ref02_rowsOf (.agg [x18,.arr r19,.arr r20]) (fTup v25 0) (fTup v25 1)) fun v26 =>
 ref02_Flat.L5 x0 (fTup v25 0) (.int .i64 0) x4 x5 x6 x7 x8 x9 x10 x11 x12 r13 r14 r15 r16 r17 x18 r19 r20 r21 r22 x8 (.int .i64 0) v26 [] [] [])):=(jden_eq ..).trans (by kernel_rfl)
theorem ref02_Flat.L3_eq:ref02_Flat.L3 x0 x1 x2 x3 x4 x5 x6 x7 x8 x9 x10 x11 x12 x13 r14 r15 r16 r17 r18 x19 r20 r21 r22 r23 = (
 bindO (fBin .lss x4 x1) fun v25 =>
 fCond v25
 (bindO (rIdx r20 x3) fun j26 =>
 bindO (rGet r20 j26 0) fun v27 =>
 bindO (rGet r20 j26 1) fun v28 =>
 bindO (ref02_Parts x0 x4) fun v29 =>
 bindO (ref02_move x5 (.agg [x9,x10,x11,x12,x13]) x2 (.agg [v27,v28]) v29) fun v30 =>
 gB (fIsTup 2 v30) <|
 gB (fIsAgg 2 (fTup v30 0)) <|
 bindO (ref02_flat (.agg [(fCell (fTup v30 0) 0),(fCell (fTup v30 0) 1)])) fun v31 =>
 bindO (ref02_slot (.arr r18) (.arr r21) v31) fun v32 =>
 gB (fScal v32) <|
 bindO (rIdx r18 v32) fun j33 =>
 bindO (rGet r18 j33 0) fun v34 =>
 bindO (fBin .lss v34 (.int .i64 0)) fun v35 =>
 fCond v35
 (bindO (fBin .eql (.int .i64 ((r20.length:Nat):Int)) (.int .i64 4096)) fun v36 =>
 fCond v36
 (some (.tup [.agg [.str [],.nilS,.int .i64 0,.nilS,.nilS,.nilS],.int .i64 26]))
 (bindO (rIdx r18 v32) fun j37 =>
 bindO (rSet r18 j37 0 [.int .i64 ((r20.length:Nat):Int)]) fun r38 =>
 gB (decide ((r20.length + 1) * 48 ≤ room)) <|
 gB (decide ((r21.length + 1) * 24 ≤ room)) <|
 ref02_Flat.L4 x0 x1 x2 x3 x4 (fTup v30 1) v32 x5 x6 x7 x8 x9 x10 x11 x12 x13 r14 r15 r16 r17 r38 x19 (r20 ++ [[(fCell (fTup v30 0) 0),(fCell (fTup v30 0) 1)]]) (r21 ++ [[v31]]) r22 r23))
 (ref02_Flat.L4 x0 x1 x2 x3 x4 (fTup v30 1) v32 x5 x6 x7 x8 x9 x10 x11 x12 x13 r14 r15 r16 r17 r18 x19 r20 r21 r22 r23))
 (bindO (fBin .add x3 (.int .i64 1)) fun v39 =>
 ref02_Flat.L2 x0 x1 x2 v39 x5 x6 x7 x8 x9 x10 x11 x12 x13 r14 r15 r16 r17 r18 x19 r22 r23 r20 r21)):=(jden_eq ..).trans (by kernel_rfl)
theorem ref02_Flat.L5_eq:ref02_Flat.L5 x0 x1 x2 x3 x4 x5 x6 x7 x8 x9 x10 x11 r12 r13 r14 r15 r16 x17 r18 r19 r20 r21 x22 x23 x24 r25 r26 r27 = (
 bindO (fLen x0) fun v29 =>
 bindO (fBin .lss x2 v29) fun v30 =>
 fCond v30
 (bindO (ref02_digits x2) fun v31 =>
 bindO (fBin .add (.str [105]) v31) fun v32 =>
 bindO (fIdxC 2 x0 x2) fun c33 =>
 bindO (c33[1]?) fun v34 =>
 bindO (asRows v34) fun r35 =>
 gB (rowsSz 1 r35) <|
 gB (decide ((0 + r35.length) * 16 ≤ room)) <|
 gB (decide ((r26.length + 1) * 40 ≤ room)) <|
 bindO (fBin .add x2 (.int .i64 1)) fun v36 =>
 ref02_Flat.L5 x0 x1 v36 x3 x4 x5 x6 x7 x8 x9 x10 x11 r12 r13 r14 r15 r16 x17 r18 r19 r20 r21 x22 x23 x24 r25 (r26 ++ [[v32,.arr ([] ++ r35)]]) r27)
 (ref02_Flat.L6 x1 (.int .i64 0) x3 x4 x5 x6 x7 x8 x9 x10 x11 r12 r13 r14 r15 r16 x17 r18 r19 r20 r21 x22 x23 x24 r25 r26 r27)):=(jden_eq ..).trans (by kernel_rfl)
theorem ref02_Flat.L4_eq:ref02_Flat.L4 x0 x1 x2 x3 x4 x5 x6 x7 x8 x9 x10 x11 x12 x13 x14 x15 r16 r17 r18 r19 r20 x21 r22 r23 r24 r25 = (
 bindO (rIdx r20 x6) fun j27 =>
 bindO (rGet r20 j27 0) fun v28 =>
 gB (decide ((r24.length + 1) * 8 ≤ room)) <|
 gB (decide ((r25.length + 1) * 24 ≤ room)) <|
 bindO (fBin .add x4 (.int .i64 1)) fun v29 =>
 ref02_Flat.L3 x0 x1 x2 x3 v29 x7 x8 x9 x10 x11 x12 x13 x14 x15 r16 r17 r18 r19 r20 x21 r22 r23 (r24 ++ [[v28]]) (r25 ++ [[x5]])):=(jden_eq ..).trans (by kernel_rfl)
theorem ref02_Flat.L6_eq:ref02_Flat.L6 x0 x1 x2 x3 x4 x5 x6 x7 x8 x9 x10 r11 r12 r13 r14 r15 x16 r17 r18 r19 r20 x21 x22 x23 r24 r25 r26 = (
 bindO (fLen x10) fun v28 =>
 bindO (fBin .lss x1 v28) fun v29 =>
 fCond v29
 (bindO (fIdxC 2 x10 x1) fun c30 =>
 bindO (c30[0]?) fun v31 =>
 bindO (c30[1]?) fun v32 =>
 bindO (fIdxC 2 x7 v31) fun c33 =>
 bindO (c33[1]?) fun v34 =>
 bindO (fIdxC 6 x2 v34) fun c35 =>
 bindO (c35[4]?) fun v36 =>
 bindO (fIdxC 2 v36 v32) fun c37 =>
 bindO (c37[1]?) fun v38 =>
 bindO (ref02_digits x1) fun v39 =>
 bindO (fBin .add (.str [111]) v39) fun v40 =>
 bindO (asRows v38) fun r41 =>
 gB (rowsSz 1 r41) <|
 gB (decide ((0 + r41.length) * 16 ≤ room)) <|
 gB (decide ((r26.length + 1) * 40 ≤ room)) <|
 bindO (fBin .add x1 (.int .i64 1)) fun v42 =>
 ref02_Flat.L6 x0 v42 x2 x3 x4 x5 x6 x7 x8 x9 x10 r11 r12 r13 r14 r15 x16 r17 r18 r19 r20 x21 x22 x23 r24 r25 (r26 ++ [[v40,.arr ([] ++ r41)]]))
 (ref02_Flat.L7 x0 (.int .i64 0) x2 x3 x4 x5 x6 x7 x8 x9 x10 r11 r12 r13 r14 r15 x16 r17 r18 r19 r20 x21 x22 x23 r25 r26 r24)):=(jden_eq ..).trans (by kernel_rfl)
theorem ref02_Flat.L7_eq:ref02_Flat.L7 x0 x1 x2 x3 x4 x5 x6 x7 x8 x9 x10 r11 r12 r13 r14 r15 x16 r17 r18 r19 r20 x21 x22 x23 r24 r25 r26 = (
 bindO (fLen x0) fun v28 =>
 bindO (fBin .lss x1 v28) fun v29 =>
 fCond v29
 (bindO (ref02_digits x1) fun v30 =>
 bindO (fBin .add (.str [113]) v30) fun v31 =>
 gB (decide ((r26.length + 1) * 16 ≤ room)) <|
 bindO (fBin .add x1 (.int .i64 1)) fun v32 =>
 ref02_Flat.L7 x0 v32 x2 x3 x4 x5 x6 x7 x8 x9 x10 r11 r12 r13 r14 r15 x16 r17 r18 r19 r20 x21 x22 x23 r24 r25 (r26 ++ [[v31]]))
 (bindO (ref02_Check (.agg [x21,.arr r26,x22,.arr r24,.arr r25,x23])) fun v33 =>
 bindO (fBin .neq v33 (.int .i64 0)) fun v34 =>
 fCond v34
 (some (.tup [.agg [.str [],.nilS,.int .i64 0,.nilS,.nilS,.nilS],v33]))
 (some (.tup [.agg [x21,.arr r26,x22,.arr r24,.arr r25,x23],.int .i64 0])))):=(jden_eq ..).trans (by kernel_rfl)
noncomputable def mach_digits.L0:R:=jden E 74 [] [4,1,0,1,1] (mkF 37 [(0,.f x0),(1,.f x1),(5,.ref 0),(6,.f x2)]) [.own 1 r3]
theorem mach_digits.eq:mach_digits x0 x1 = (
 bindO (fLen x0) fun v1 =>
 bindO (asNat v1) fun j2 =>
 bindO (asNat v1) fun j3 =>
 gB (j2 ≤ j3 && j3 * 8 ≤ room && 1 ≥ 1) <|
 bindO (fLen x0) fun v4 =>
 bindO (fBin .sub v4 (.int .i64 1)) fun v5 =>
 mach_digits.L0 x0 x1 v5 (List.replicate j2 [(.int .i64 0:FV)])):=(den_eq ..).trans (by kernel_rfl)
theorem mach_digits.L0_eq:mach_digits.L0 x0 x1 x2 r3 = (
 bindO (fBin .geq x2 (.int .i64 0)) fun v5 =>
 fCond v5
 (bindO (fIdxC 2 x0 x2) fun c6 =>
 bindO (c6[1]?) fun v7 =>
 bindO (fLen v7) fun v8 =>
 bindO (fBin .rem x1 v8) fun v9 =>
 bindO (rIdx r3 x2) fun j10 =>
 bindO (rSet r3 j10 0 [v9]) fun r11 =>
 bindO (fIdxC 2 x0 x2) fun c12 =>
 bindO (c12[1]?) fun v13 =>
 bindO (fLen v13) fun v14 =>
 bindO (fBin .quo x1 v14) fun v15 =>
 bindO (fBin .sub x2 (.int .i64 1)) fun v16 =>
 mach_digits.L0 x0 v15 v16 r11)
 (some (.arr r3))):=(jden_eq ..).trans (by kernel_rfl)
noncomputable def mach_decimal.L0:R:=jden E 97 [] [4,1,1] (mkF 16 [(0,.f x0),(3,.f x1)]) []
theorem mach_decimal.eq:mach_decimal x0 = (
 mach_decimal.L0 x0 (.str [])):=(den_eq ..).trans (by kernel_rfl)
theorem mach_decimal.L0_eq:mach_decimal.L0 x0 x1 = (
 bindO (fBin .rem x0 (.int .i64 10)) fun v3 =>
 bindO (fBin .add (.int .i64 48) v3) fun v4 =>
 bindO (fConvInt .i32 v4) fun v5 =>
 bindO (fToStrI v5) fun v6 =>
 bindO (fBin .add v6 x1) fun v7 =>
 bindO (fBin .quo x0 (.int .i64 10)) fun v8 =>
 bindO (fBin .eql v8 (.int .i64 0)) fun v9 =>
 fCond v9
 (some v7)
 (mach_decimal.L0 v8 v7)):=(jden_eq ..).trans (by kernel_rfl)
theorem slices_Clone_string.eq:slices_Clone_string x0 = (
 onFV x0
 (some (.arr []))
 (bindO (asRows x0) fun r1 =>
 gB (rowsSz 1 r1) <|
 gB (decide ((0 + r1.length) * 16 ≤ room)) <|
 some (.arr ([] ++ r1)))):=(den_eq ..).trans (by kernel_rfl)
noncomputable def mach_netState_key.L0:R:=jden E 129 [] [4,1,0,1,1] (mkF 45 [(1,.ptr 0 0 0),(3,.ref 1),(11,.f x0),(12,.f x1),(13,.f x2)]) [.box [.f x3,.f x4],.own 1 r5]
noncomputable def mach_netState_key.L1:R:=jden E 129 [] [4,1,0,1,1,1] (mkF 45 [(3,.ref 2),(24,.f x0),(25,.f x1),(26,.f x2)]) [.box [.f x3,.f x4],.dead,.own 1 r5]
noncomputable def mach_netState_key.L2:R:=jden E 129 [] [4,1,1,4,0,1,1,5,4,1,0,1,1,1] (mkF 45 [(3,.ref 3),(24,.f x0),(25,.f x1),(26,.f x2),(30,.f x3),(31,.f x4),(32,.f x5)]) [.box [.f x6,.f x7],.dead,.dead,.own 1 r8]
theorem mach_netState_key.eq:mach_netState_key x0 = (
 gB (fIsAgg 2 x0) <|
 bindO (fLen (fCell x0 0)) fun v1 =>
 mach_netState_key.L0 (fCell x0 0) v1 (.int .i64 0) (fCell x0 0) (fCell x0 1) []):=(den_eq ..).trans (by kernel_rfl)
theorem mach_netState_key.L0_eq:mach_netState_key.L0 x0 x1 x2 x3 x4 r5 = (
 bindO (fBin .lss x2 x1) fun v7 =>
 fCond v7
 (bindO (fIdxC 1 x0 x2) fun c8 =>
 bindO (c8[0]?) fun v9 =>
 bindO (fConvInt .u8 v9) fun v10 =>
 gB (decide ((r5.length + 1) * 1 ≤ room)) <|
 bindO (fBin .add x2 (.int .i64 1)) fun v11 =>
 mach_netState_key.L0 x0 x1 v11 x3 x4 (r5 ++ [[v10]]))
 (bindO (fLen x4) fun v12 =>
 mach_netState_key.L1 x4 v12 (.int .i64 0) x3 x4 r5)):=(jden_eq ..).trans (by kernel_rfl)
theorem mach_netState_key.L1_eq:mach_netState_key.L1 x0 x1 x2 x3 x4 r5 = (
 bindO (fBin .lss x2 x1) fun v7 =>
 fCond v7
 (bindO (fIdxC 1 x0 x2) fun c8 =>
 bindO (c8[0]?) fun v9 =>
 bindO (fLen v9) fun v10 =>
 mach_netState_key.L2 x0 x1 x2 v9 v10 (.int .i64 0) x3 x4 r5)
 (bindO (bytes? r5) fun v11 =>
 some (.str v11))):=(jden_eq ..).trans (by kernel_rfl)
theorem mach_netState_key.L2_eq:mach_netState_key.L2 x0 x1 x2 x3 x4 x5 x6 x7 r8 = (
 bindO (fBin .lss x5 x4) fun v10 =>
 fCond v10
 (bindO (fIdxC 1 x3 x5) fun c11 =>
 bindO (c11[0]?) fun v12 =>
 bindO (fConvInt .u8 v12) fun v13 =>
 gB (decide ((r8.length + 1) * 1 ≤ room)) <|
 bindO (fBin .add x5 (.int .i64 1)) fun v14 =>
 mach_netState_key.L2 x0 x1 x2 x3 x4 v14 x6 x7 (r8 ++ [[v13]]))
 (bindO (fBin .add x2 (.int .i64 1)) fun v15 =>
 mach_netState_key.L1 x0 x1 v15 x6 x7 r8)):=(jden_eq ..).trans (by kernel_rfl)
noncomputable def mach_classes.L0:R:=jden E 104 [] [4,1,1,1,1] (mkF 117 [(1,.ptr 0 0 0),(3,.f x0),(4,.ref 2),(5,.f x1)]) [.box [.f x2,.f x3,.f x4,.f x5,.f x6,.f x7],.dead,.own 1 r8]
noncomputable def mach_classes.L1:R:=jden E 104 [] [4,1,0,1,1,4,5,4,1,1,1,1] (mkF 117 [(1,.ptr 0 0 0),(3,.f x0),(4,.ref 2),(5,.f x1),(6,.mp 3),(7,.ref 4),(28,.f x2),(29,.f x3)]) [.box [.f x4,.f x5,.f x6,.f x7,.f x8,.f x9],.dead,.own 1 r10,.map false es11,.own 1 r12]
noncomputable def mach_classes.L2:R:=jden E 104 [] [4,1,0,1,1,4,0,1,1,5,4,1,0,1,1,4,5,4,1,1,1,1] (mkF 117 [(1,.ptr 0 0 0),(3,.f x0),(4,.ref 2),(5,.f x1),(6,.mp 3),(7,.ref 4),(8,.f x2),(9,.ref 6),(28,.f x3),(29,.f x4),(53,.f x5),(54,.f x6),(55,.f x7)]) [.box [.f x8,.f x9,.f x10,.f x11,.f x12,.f x13],.dead,.own 1 r14,.map false es15,.own 1 r16,.dead,.own 1 r17]
noncomputable def mach_classes.L3:R:=jden E 104 [] [4,1,0,1,4,0,1,1,5,4,1,0,1,1,4,0,1,1,5,4,1,0,1,1,4,5,4,1,1,1,1] (mkF 117 [(1,.ptr 0 0 0),(3,.f x0),(4,.ref 2),(5,.f x1),(6,.mp 3),(7,.ref 4),(8,.f x2),(9,.ref 8),(11,.ptr 7 0 0),(28,.f x3),(29,.f x4),(53,.f x5),(54,.f x6),(55,.f x7),(60,.f x8),(61,.f x9),(62,.f x10)]) [.box [.f x11,.f x12,.f x13,.f x14,.f x15,.f x16],.dead,.own 1 r17,.map false es18,.own 1 r19,.dead,.dead,.box [.f x20,.f x21],.own 1 r22]
noncomputable def mach_classes.L4:R:=jden E 104 [] [1,1,1,1,4,0,1,1,5,4,1,0,1,1,4,5,4,1,1,1,1] (mkF 117 [(1,.ptr 0 0 0),(3,.f x0),(4,.ref 2),(5,.f x1),(6,.mp 3),(7,.ref 4),(8,.f x2),(14,.f x3),(28,.f x4),(29,.f x5)]) [.box [.f x6,.f x7,.f x8,.f x9,.f x10,.f x11],.dead,.own 1 r12,.map false es13,.own 1 r14,.dead,.own 1 r15]
theorem mach_classes.eq:mach_classes x0 = (
 gB (fIsAgg 6 x0) <|
 bindO (mach_product (fCell x0 3)) fun v1 =>
 bindO (fLen (fCell x0 1)) fun v2 =>
 bindO (asNat v2) fun j3 =>
 bindO (asNat v2) fun j4 =>
 gB (j3 ≤ j4 && j4 * 8 ≤ room && 1 ≥ 1) <|
 mach_classes.L0 v1 (.int .i64 0) (fCell x0 0) (fCell x0 1) (fCell x0 2) (fCell x0 3) (fCell x0 4) (fCell x0 5) (List.replicate j3 [(.int .i64 0:FV)])):=(den_eq ..).trans (by kernel_rfl)
theorem mach_classes.L0_eq:mach_classes.L0 x0 x1 x2 x3 x4 x5 x6 x7 r8 = (
 bindO (asNat (.int .i64 ((r8.length:Nat):Int))) fun j10 =>
 bindO (asNat (.int .i64 ((r8.length:Nat):Int))) fun j11 =>
 gB (j10 ≤ j11 && j11 * 8 ≤ room && 1 ≥ 1) <|
 mach_classes.L1 x0 x1 (.int .i64 ((r8.length:Nat):Int)) (.int .i64 0) x2 x3 x4 x5 x6 x7 r8 [] (List.replicate j10 [(.int .i64 0:FV)])):=(jden_eq ..).trans (by kernel_rfl)
theorem mach_classes.L1_eq:mach_classes.L1 x0 x1 x2 x3 x4 x5 x6 x7 x8 x9 r10 es11 r12 = (
 bindO (fBin .lss x3 x2) fun v14 =>
 fCond v14
 (bindO (rIdx r10 x3) fun j15 =>
 bindO (rGet r10 j15 0) fun v16 =>
 bindO (fConvInt .u8 v16) fun v17 =>
 bindO (rIdx r10 x3) fun j18 =>
 bindO (rGet r10 j18 0) fun v19 =>
 bindO (fBin .shr v19 (.int .u64 8)) fun v20 =>
 bindO (fConvInt .u8 v20) fun v21 =>
 bindO (fBin .mul x3 x0) fun v22 =>
 bindO (fBin .add x3 (.int .i64 1)) fun v23 =>
 bindO (fBin .mul v23 x0) fun v24 =>
 bindO (fCut 2 x9 (some v22) (some v24)) fun v25 =>
 bindO (fLen v25) fun v26 =>
 mach_classes.L2 x0 x1 x3 x2 x3 v25 v26 (.int .i64 0) x4 x5 x6 x7 x8 x9 r10 es11 r12 [[v17],[v21]])
 (bindO (fBin .eql (.int .i64 ((es11.length:Nat):Int)) x1) fun v27 =>
 fCond v27
 (some (.arr r12))
 (mach_classes.L0 x0 (.int .i64 ((es11.length:Nat):Int)) x4 x5 x6 x7 x8 x9 r12))):=(jden_eq ..).trans (by kernel_rfl)
theorem mach_classes.L2_eq:mach_classes.L2 x0 x1 x2 x3 x4 x5 x6 x7 x8 x9 x10 x11 x12 x13 r14 es15 r16 r17 = (
 bindO (fBin .lss x7 x6) fun v19 =>
 fCond v19
 (bindO (fIdxC 2 x5 x7) fun c20 =>
 bindO (c20[0]?) fun v21 =>
 bindO (c20[1]?) fun v22 =>
 bindO (fLen v22) fun v23 =>
 mach_classes.L3 x0 x1 x2 x3 x4 x5 x6 x7 v22 v23 (.int .i64 0) x8 x9 x10 x11 x12 x13 r14 es15 r16 v21 v22 r17)
 (bindO (bytes? r17) fun v24 =>
 bindO (mLook false [.str] es15 (.str v24) (.int .i64 0)) fun v25 =>
 bindO (fUn .not (.bool v25.2)) fun v26 =>
 fCond v26
 (bindO (bytes? r17) fun v27 =>
 gB (keyOk false [.str] (.str v27)) <|
 bindO (mPut false [.str] es15 (.str v27) (.int .i64 ((es15.length:Nat):Int))) fun es28 =>
 mach_classes.L4 x0 x1 x2 (.int .i64 ((es15.length:Nat):Int)) x3 x4 x8 x9 x10 x11 x12 x13 r14 es28 r16 r17)
 (mach_classes.L4 x0 x1 x2 v25.1 x3 x4 x8 x9 x10 x11 x12 x13 r14 es15 r16 r17))):=(jden_eq ..).trans (by kernel_rfl)
theorem mach_classes.L3_eq:mach_classes.L3 x0 x1 x2 x3 x4 x5 x6 x7 x8 x9 x10 x11 x12 x13 x14 x15 x16 r17 es18 r19 x20 x21 r22 = (
 bindO (fBin .lss x10 x9) fun v24 =>
 fCond v24
 (bindO (fIdxC 1 x8 x10) fun c25 =>
 bindO (c25[0]?) fun v26 =>
 bindO (fConvInt .u8 v26) fun v27 =>
 gB (decide ((r22.length + 1) * 1 ≤ room)) <|
 bindO (fBin .add x10 (.int .i64 1)) fun v28 =>
 mach_classes.L3 x0 x1 x2 x3 x4 x5 x6 x7 x8 x9 v28 x11 x12 x13 x14 x15 x16 r17 es18 r19 x20 x21 (r22 ++ [[v27]]))
 (bindO (rIdx r17 x20) fun j29 =>
 bindO (rGet r17 j29 0) fun v30 =>
 bindO (fConvInt .u8 v30) fun v31 =>
 bindO (rIdx r17 x20) fun j32 =>
 bindO (rGet r17 j32 0) fun v33 =>
 bindO (fBin .shr v33 (.int .u64 8)) fun v34 =>
 bindO (fConvInt .u8 v34) fun v35 =>
 gB (decide ((r22.length + 2) * 1 ≤ room)) <|
 bindO (fBin .add x7 (.int .i64 1)) fun v36 =>
 mach_classes.L2 x0 x1 x2 x3 x4 x5 x6 v36 x11 x12 x13 x14 x15 x16 r17 es18 r19 (r22 ++ [[v31],[v35]]))):=(jden_eq ..).trans (by kernel_rfl)
theorem mach_classes.L4_eq:mach_classes.L4 x0 x1 x2 x3 x4 x5 x6 x7 x8 x9 x10 x11 r12 es13 r14 r15 = (
 bindO (rIdx r14 x2) fun j17 =>
 bindO (rSet r14 j17 0 [x3]) fun r18 =>
 bindO (fBin .add x5 (.int .i64 1)) fun v19 =>
 mach_classes.L1 x0 x1 x4 v19 x6 x7 x8 x9 x10 x11 r12 es13 r18):=(jden_eq ..).trans (by kernel_rfl)
end Go.Proofs.Ytelcbakleaaneaa
