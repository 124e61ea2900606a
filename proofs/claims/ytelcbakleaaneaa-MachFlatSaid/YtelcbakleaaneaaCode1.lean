/- The code of the functions, as the abstract machine runs it. -/
import Derived.Test.YtelcbakleaaneaaEnv
import Derived.KernelRfl
set_option linter.unusedVariables false
namespace Go.Proofs.Ytelcbakleaaneaa
open Go Go.Proofs.Ytelcbakleaaneaa.VM
variable (x0 x1 x2 x3 x4 x5 x6 x7 x8 x9 x10:FV) (es11:List (FV × FV)) (x11 x12:FV) (r13:List (List FV)) (x13:FV) (es14:List (FV × FV)) (r14:List (List FV)) (x14:FV) (r15:List (List FV)) (x15:FV) (es16:List (FV × FV)) (r16:List (List FV)) (x16:FV) (r17:List (List FV)) (x17:FV) (r18:List (List FV)) (x18:FV) (r19:List (List FV)) (x19:FV) (r20:List (List FV)) (x20:FV) (r21:List (List FV)) (es22:List (FV × FV)) (r22:List (List FV)) (es23:List (FV × FV)) (r23:List (List FV)) (x23:FV) (es24:List (FV × FV)) (r24:List (List FV)) (x24:FV) (r25:List (List FV)) (x25:FV) (r26:List (List FV)) (x26:FV) (r27:List (List FV)) (x27:FV) (r28:List (List FV)) (x28:FV) (r29:List (List FV)) (x29:FV) (r30:List (List FV)) (x30 x31 x32 x33:FV) (r34:List (List FV)) (x34:FV) (r35:List (List FV)) (x35:FV)
noncomputable def mach_minimalOf.L0:R:=jden E 133 [(0,1,1)] [4,0,1,1,1,1,1,1] (mkF 89 [(1,.ptr 0 0 0),(2,.ptr 1 0 0),(3,.f x0),(4,.f x1),(5,.ptr 2 0 0),(6,.mp 3),(7,.ptr 5 0 0)]) [.box [.f x2,.f x3,.f x4,.f x5,.f x6,.f x7],.box [.f x8,.ref 6,.f x9,.ref 7,.ref 8,.ref 9],.box [.ref 12,.f x10],.map false es11,.dead,.box [.f x12,.ref 10,.f x13,.f x14,.f x15,.ref 11],.own 1 r16,.own 1 r17,.own 1 r18,.own 1 r19,.own 1 r20,.own 2 r21,.own 1 r22]
noncomputable def mach_minimalOf.L1:R:=jden E 133 [(0,1,1)] [4,1,1,1,4,1,5,4,0,1,1,1,1,1,1] (mkF 89 [(1,.ptr 0 0 0),(2,.ptr 1 0 0),(3,.f x0),(4,.f x1),(5,.ptr 2 0 0),(6,.mp 3),(7,.ptr 5 0 0),(48,.f x2),(49,.f x3),(50,.f x4)]) [.box [.f x5,.f x6,.f x7,.f x8,.f x9,.f x10],.box [.f x11,.ref 6,.f x12,.ref 7,.ref 8,.ref 9],.box [.ref 14,.f x13],.map false es14,.dead,.box [.f x15,.ref 13,.f x16,.f x17,.f x18,.ref 15],.own 1 r19,.own 1 r20,.own 1 r21,.own 1 r22,.dead,.dead,.dead,.own 1 r23,.own 1 r24,.own 2 r25]
noncomputable def mach_minimalOf.L2:R:=jden E 133 [(0,1,1)] [1,1,4,0,1,1,5,4,1,1,1,4,1,5,4,0,1,1,1,1,1,1] (mkF 89 [(1,.ptr 0 0 0),(2,.ptr 1 0 0),(3,.f x0),(4,.f x1),(5,.ptr 2 0 0),(6,.mp 3),(7,.ptr 5 0 0),(10,.f x2),(11,.f x3),(48,.f x4),(49,.f x5),(50,.f x6)]) [.box [.f x7,.f x8,.f x9,.f x10,.f x11,.f x12],.box [.f x13,.ref 6,.f x14,.ref 7,.ref 8,.ref 9],.box [.ref 14,.f x15],.map false es16,.dead,.box [.f x17,.ref 13,.f x18,.f x19,.f x20,.ref 15],.own 1 r21,.own 1 r22,.own 1 r23,.own 1 r24,.dead,.dead,.dead,.own 1 r25,.own 1 r26,.own 2 r27]
theorem mach_minimalOf.eq:mach_minimalOf x0 = (
 gB (fIsAgg 6 x0) <|
 bindO (mach_classes (.agg [(fCell x0 0),(fCell x0 1),(fCell x0 2),(fCell x0 3),(fCell x0 4),(fCell x0 5)])) fun v1 =>
 bindO (mach_product (fCell x0 3)) fun v2 =>
 bindO (fIdxC 1 v1 (.int .i64 0)) fun c3 =>
 bindO (c3[0]?) fun v4 =>
 gB (keyOk false [.int] v4) <|
 bindO (mPut false [.int] [] v4 (.int .i64 0)) fun es5 =>
 gB (decide (1 * 8 ≤ room)) <|
 mach_minimalOf.L0 v1 v2 (fCell x0 0) (fCell x0 1) (fCell x0 2) (fCell x0 3) (fCell x0 4) (fCell x0 5) (.str []) (.int .i64 0) (.int .i64 0) es5 (fCell x0 0) (.int .i64 0) (fCell x0 3) (fCell x0 4) [] [] [] [] [] [] [[.int .i64 0]]):=(den_eq ..).trans (by kernel_rfl)
theorem mach_minimalOf.L0_eq:mach_minimalOf.L0 x0 x1 x2 x3 x4 x5 x6 x7 x8 x9 x10 es11 x12 x13 x14 x15 r16 r17 r18 r19 r20 r21 r22 = (
 bindO (fBin .eql x10 (.int .i64 ((r22.length:Nat):Int))) fun v24 =>
 bindO (fUn .not v24) fun v25 =>
 fCond v25
 (bindO (rIdx r22 x10) fun j26 =>
 bindO (rGet r22 j26 0) fun v27 =>
 bindO (fBin .add x10 (.int .i64 1)) fun v28 =>
 gB (decide ((r20.length + 1) * 16 ≤ room)) <|
 bindO (fBin .mul v27 x1) fun v29 =>
 bindO (fBin .add v27 (.int .i64 1)) fun v30 =>
 bindO (fBin .mul v30 x1) fun v31 =>
 bindO (fCut 2 x7 (some v29) (some v31)) fun v32 =>
 bindO (fLen v32) fun v33 =>
 mach_minimalOf.L1 x0 x1 v32 v33 (.int .i64 0) x2 x3 x4 x5 x6 x7 x8 x9 v28 es11 x12 x13 x14 x15 r16 r17 r18 r19 (r20 ++ [[.str []]]) r22 r21)
 (some (.agg [x12,.arr r20,x13,x14,x15,.arr r21]))):=(jden_eq ..).trans (by kernel_rfl)
theorem mach_minimalOf.L1_eq:mach_minimalOf.L1 x0 x1 x2 x3 x4 x5 x6 x7 x8 x9 x10 x11 x12 x13 es14 x15 x16 x17 x18 r19 r20 r21 r22 r23 r24 r25 = (
 bindO (fBin .lss x4 x3) fun v27 =>
 fCond v27
 (bindO (fIdxC 2 x2 x4) fun c28 =>
 bindO (c28[0]?) fun v29 =>
 bindO (c28[1]?) fun v30 =>
 bindO (fIdxC 1 x0 v29) fun c31 =>
 bindO (c31[0]?) fun v32 =>
 bindO (mLook false [.int] es14 v32 (.int .i64 0)) fun v33 =>
 bindO (fUn .not (.bool v33.2)) fun v34 =>
 fCond v34
 (bindO (fIdxC 1 x0 v29) fun c35 =>
 bindO (c35[0]?) fun v36 =>
 gB (keyOk false [.int] v36) <|
 bindO (mPut false [.int] es14 v36 (.int .i64 ((es14.length:Nat):Int))) fun es37 =>
 gB (decide ((r24.length + 1) * 8 ≤ room)) <|
 mach_minimalOf.L2 x0 x1 (.eptr [v29,v30] 0) (.int .i64 ((es14.length:Nat):Int)) x2 x3 x4 x5 x6 x7 x8 x9 x10 x11 x12 x13 es37 x15 x16 x17 x18 r19 r20 r21 r22 r23 (r24 ++ [[v29]]) r25)
 (mach_minimalOf.L2 x0 x1 (.eptr [v29,v30] 0) v33.1 x2 x3 x4 x5 x6 x7 x8 x9 x10 x11 x12 x13 es14 x15 x16 x17 x18 r19 r20 r21 r22 r23 r24 r25))
 (mach_minimalOf.L0 x0 x1 x5 x6 x7 x8 x9 x10 x11 x12 x13 es14 x15 x16 x17 x18 r19 r20 r21 r22 r23 r25 r24)):=(jden_eq ..).trans (by kernel_rfl)
theorem mach_minimalOf.L2_eq:mach_minimalOf.L2 x0 x1 x2 x3 x4 x5 x6 x7 x8 x9 x10 x11 x12 x13 x14 x15 es16 x17 x18 x19 x20 r21 r22 r23 r24 r25 r26 r27 = (
 bindO (fAddrO x2 1) fun p29 =>
 bindO (fLd p29 0) fun v30 =>
 gB (decide ((r27.length + 1) * 32 ≤ room)) <|
 bindO (fBin .add x6 (.int .i64 1)) fun v31 =>
 mach_minimalOf.L1 x0 x1 x4 x5 v31 x7 x8 x9 x10 x11 x12 x13 x14 x15 es16 x17 x18 x19 x20 r21 r22 r23 r24 r25 r26 (r27 ++ [[x3,v30]])):=(jden_eq ..).trans (by kernel_rfl)
noncomputable def mach_Flat.L0:R:=jden E 47 [] [1,1,1,1,1] (mkF 190 [(4,.ptr 1 0 0),(9,.ptr 2 0 0),(10,.f x0)]) [.box [.f x1,.f x2],.box [.f x3,.ref 3,.f x4,.ref 4,.ref 5,.ref 6],.box [.f x5,.f x6,.f x7,.f x8,.f x9,.f x10,.f x11,.f x12],.own 1 r13,.own 1 r14,.own 1 r15,.own 1 r16]
noncomputable def mach_Flat.L1:R:=jden E 47 [] [4,1,0,1,1,1,1,1,1,1] (mkF 190 [(4,.ptr 1 0 0),(9,.ptr 2 0 0),(11,.ptr 7 0 0),(78,.f x0),(79,.f x1),(80,.f x2)]) [.box [.f x3,.f x4],.box [.f x5,.ref 3,.f x6,.ref 4,.ref 5,.ref 6],.box [.f x7,.f x8,.f x9,.f x10,.f x11,.f x12,.f x13,.f x14],.own 1 r15,.own 1 r16,.own 1 r17,.own 1 r18,.box [.f x19,.ref 8,.f x20,.ref 9,.ref 10,.ref 11],.own 1 r21,.own 2 r22,.own 2 r23,.own 2 r24]
noncomputable def mach_Flat.L2:R:=jden E 47 [] [4,1,0,1,1,1,1,1,1,1,1] (mkF 190 [(4,.ptr 1 0 0),(9,.ptr 2 0 0),(11,.ptr 7 0 0),(102,.f x0),(103,.f x1),(104,.f x2)]) [.box [.f x3,.f x4],.box [.f x5,.ref 3,.f x6,.ref 4,.ref 5,.ref 6],.box [.f x7,.f x8,.f x9,.f x10,.f x11,.f x12,.f x13,.f x14],.own 1 r15,.own 1 r16,.own 1 r17,.own 1 r18,.box [.f x19,.ref 8,.f x20,.ref 9,.ref 12,.ref 11],.own 1 r21,.own 2 r22,.dead,.own 2 r23,.own 2 r24]
noncomputable def mach_Flat.L3:R:=jden E 47 [] [4,0,1,1,1,1,1,1,1,1,1,1,1,1,1,1] (mkF 190 [(4,.ptr 1 0 0),(9,.ptr 2 0 0),(11,.ptr 7 0 0),(16,.ptr 14 0 0),(17,.ptr 15 0 0),(18,.func 128 [.ptr 14 0 0,.ptr 15 0 0]),(19,.f x0)]) [.box [.f x1,.f x2],.box [.f x3,.ref 3,.f x4,.ref 4,.ref 5,.ref 6],.box [.f x5,.f x6,.f x7,.f x8,.f x9,.f x10,.f x11,.f x12],.own 1 r13,.own 1 r14,.own 1 r15,.own 1 r16,.box [.f x17,.ref 8,.f x18,.ref 9,.ref 12,.ref 18],.own 1 r19,.fz r20,.dead,.dead,.own 2 r21,.map false es22,.box [.mp 13],.box [.ref 17,.f x23],.box [.f x24,.f x25],.own 2 r26,.own 2 r27]
noncomputable def mach_Flat.L4:R:=jden E 47 [] [4,1,0,1,4,1,5,4,0,1,1,1,1,1,1,1,1,1,1,1,1,1,1] (mkF 190 [(4,.ptr 1 0 0),(9,.ptr 2 0 0),(11,.ptr 7 0 0),(16,.ptr 14 0 0),(17,.ptr 15 0 0),(18,.func 128 [.ptr 14 0 0,.ptr 15 0 0]),(19,.f x0),(20,.ptr 21 0 0),(134,.f x1),(135,.f x2)]) [.box [.f x3,.f x4],.box [.f x5,.ref 3,.f x6,.ref 4,.ref 5,.ref 6],.box [.f x7,.f x8,.f x9,.f x10,.f x11,.f x12,.f x13,.f x14],.own 1 r15,.own 1 r16,.own 1 r17,.own 1 r18,.box [.f x19,.ref 8,.f x20,.ref 9,.ref 12,.ref 22],.own 1 r21,.fz r22,.dead,.dead,.own 2 r23,.map false es24,.box [.mp 13],.box [.ref 23,.f x25],.box [.f x26,.f x27],.dead,.dead,.box [.f x28,.f x29],.box [.f x30,.f x31],.box [.f x32,.f x33],.own 2 r34,.own 2 r35]
noncomputable def mach_Flat.L5:R:=jden E 47 [] [4,1,0,1,1,1,1,1,1,1,1,1,1,1,1,1,1,1,1,1] (mkF 190 [(4,.ptr 1 0 0),(24,.ptr 21 0 0),(171,.f x0),(172,.f x1)]) [.box [.f x2,.f x3],.box [.f x4,.ref 3,.f x5,.ref 4,.ref 5,.ref 6],.box [.f x6,.f x7,.f x8,.f x9,.f x10,.f x11,.f x12,.f x13],.own 1 r14,.own 1 r15,.own 1 r16,.own 1 r17,.box [.f x18,.ref 19,.f x19,.ref 9,.ref 12,.ref 18],.own 1 r20,.fz r21,.dead,.dead,.fz r22,.map false es23,.box [.mp 13],.box [.ref 17,.f x24],.box [.f x25,.f x26],.own 2 r27,.fz r28,.fz r29,.own 1 r30,.box [.f x31,.ref 20,.f x32,.f x33,.f x34,.f x35]]
theorem mach_Flat.eq:mach_Flat x0 x1 = (
 gB (fIsAgg 2 x0) <|
 bindO (mach_CheckNet (.agg [(fCell x0 0),(fCell x0 1)]) x1) fun v1 =>
 bindO (fBin .neq v1 (.int .i64 0)) fun v2 =>
 fCond v2
 (some (.tup [.agg [.str [],.nilS,.int .i64 0,.nilS,.nilS,.nilS],v1]))
 (bindO (fIdxC 5 (fCell x0 1) x1) fun c3 =>
 bindO (c3[0]?) fun v4 =>
 bindO (c3[1]?) fun v5 =>
 bindO (c3[2]?) fun v6 =>
 bindO (c3[3]?) fun v7 =>
 bindO (c3[4]?) fun v8 =>
 bindO (mach_order (.agg [v4,v5,v6,v7,v8])) fun v9 =>
 gB (fIsTup 2 v9) <|
 bindO (fIdxC 5 (fCell x0 1) x1) fun c10 =>
 bindO (c10[0]?) fun v11 =>
 bindO (c10[1]?) fun v12 =>
 bindO (c10[2]?) fun v13 =>
 bindO (c10[3]?) fun v14 =>
 bindO (c10[4]?) fun v15 =>
 bindO (mach_runner_ports (.agg [(fCell x0 0),(fCell x0 1),v11,v12,v13,v14,v15,(fTup v9 0)]) v14 (.func 121 [])) fun v16 =>
 bindO (fLen v14) fun v17 =>
 bindO (fBin .gtr v17 (.int .i64 8)) fun v18 =>
 fCond v18
 (some (.tup [.agg [.str [],.nilS,.int .i64 0,.nilS,.nilS,.nilS],.int .i64 26]))
 (bindO (fLen v15) fun v19 =>
 bindO (fBin .gtr v19 (.int .i64 8)) fun v20 =>
 fCond v20
 (some (.tup [.agg [.str [],.nilS,.int .i64 0,.nilS,.nilS,.nilS],.int .i64 26]))
 (bindO (mach_product v16) fun v21 =>
 bindO (fBin .gtr v21 (.int .i64 256)) fun v22 =>
 fCond v22
 (some (.tup [.agg [.str [],.nilS,.int .i64 0,.nilS,.nilS,.nilS],.int .i64 26]))
 (mach_Flat.L0 v16 (fCell x0 0) (fCell x0 1) (.str []) (.int .i64 0) (fCell x0 0) (fCell x0 1) v11 v12 v13 v14 v15 (fTup v9 0) [] [] [] []))))):=(den_eq ..).trans (by kernel_rfl)
theorem mach_Flat.L0_eq:mach_Flat.L0 x0 x1 x2 x3 x4 x5 x6 x7 x8 x9 x10 x11 x12 r13 r14 r15 r16 = (
 bindO (fLen x0) fun v18 =>
 mach_Flat.L1 x0 v18 (.int .i64 0) x1 x2 x3 x4 x5 x6 x7 x8 x9 x10 x11 x12 r13 r14 r15 r16 x7 (.int .i64 0) [] [] [] []):=(jden_eq ..).trans (by kernel_rfl)
theorem mach_Flat.L1_eq:mach_Flat.L1 x0 x1 x2 x3 x4 x5 x6 x7 x8 x9 x10 x11 x12 x13 x14 r15 r16 r17 r18 x19 x20 r21 r22 r23 r24 = (
 bindO (fBin .lss x2 x1) fun v26 =>
 fCond v26
 (bindO (fIdxC 2 x0 x2) fun c27 =>
 bindO (c27[0]?) fun v28 =>
 bindO (c27[1]?) fun v29 =>
 bindO (mach_decimal x2) fun v30 =>
 bindO (fBin .add (.str [105]) v30) fun v31 =>
 bindO (slices_Clone_string v29) fun v32 =>
 bindO (arrRows v32) fun r33 =>
 gB (decide ((r22.length + 1) * 40 ≤ room)) <|
 bindO (fBin .add x2 (.int .i64 1)) fun v34 =>
 mach_Flat.L1 x0 x1 v34 x3 x4 x5 x6 x7 x8 x9 x10 x11 x12 x13 x14 r15 r16 r17 r18 x19 x20 r21 (r22 ++ [[v31,.arr r33]]) r23 r24)
 (bindO (mach_runner_ports (.agg [x7,x8,x9,x10,x11,x12,x13,x14]) x13 (.func 127 [])) fun v35 =>
 bindO (fLen v35) fun v36 =>
 mach_Flat.L2 v35 v36 (.int .i64 0) x3 x4 x5 x6 x7 x8 x9 x10 x11 x12 x13 x14 r15 r16 r17 r18 x19 x20 r21 r22 r24 r23)):=(jden_eq ..).trans (by kernel_rfl)
theorem mach_Flat.L2_eq:mach_Flat.L2 x0 x1 x2 x3 x4 x5 x6 x7 x8 x9 x10 x11 x12 x13 x14 r15 r16 r17 r18 x19 x20 r21 r22 r23 r24 = (
 bindO (fBin .lss x2 x1) fun v26 =>
 fCond v26
 (bindO (fIdxC 2 x0 x2) fun c27 =>
 bindO (c27[0]?) fun v28 =>
 bindO (c27[1]?) fun v29 =>
 bindO (mach_decimal x2) fun v30 =>
 bindO (fBin .add (.str [111]) v30) fun v31 =>
 bindO (slices_Clone_string v29) fun v32 =>
 bindO (arrRows v32) fun r33 =>
 gB (decide ((r24.length + 1) * 40 ≤ room)) <|
 bindO (fBin .add x2 (.int .i64 1)) fun v34 =>
 mach_Flat.L2 x0 x1 v34 x3 x4 x5 x6 x7 x8 x9 x10 x11 x12 x13 x14 r15 r16 r17 r18 x19 x20 r21 r22 r23 (r24 ++ [[v31,.arr r33]]))
 (bindO (mach_runner_begin (.agg [x7,x8,x9,x10,x11,x12,x13,x14])) fun v35 =>
 gB (fIsAgg 2 v35) <|
 bindO (mach_netState_key (.agg [(fCell v35 0),(fCell v35 1)])) fun v36 =>
 bindO (mLook false [.str] [] v36 (.int .i64 0)) fun v37 =>
 bindO (fUn .not (.bool v37.2)) fun v38 =>
 fCond v38
 (bindO (mach_netState_key (.agg [(fCell v35 0),(fCell v35 1)])) fun v39 =>
 gB (keyOk false [.str] v39) <|
 bindO (mPut false [.str] [] v39 (.int .i64 ((([]:List (FV × FV)).length:Nat):Int))) fun es40 =>
 gB (decide (1 * 48 ≤ room)) <|
 bindO (mach_product (.arr r22)) fun v41 =>
 mach_Flat.L3 v41 x3 x4 x5 x6 x7 x8 x9 x10 x11 x12 x13 x14 r15 r16 r17 r18 x19 x20 r21 r22 r24 es40 (.int .i64 0) (fCell v35 0) (fCell v35 1) [[(fCell v35 0),(fCell v35 1)]] r23)
 (bindO (mach_product (.arr r22)) fun v42 =>
 mach_Flat.L3 v42 x3 x4 x5 x6 x7 x8 x9 x10 x11 x12 x13 x14 r15 r16 r17 r18 x19 x20 r21 r22 r24 [] (.int .i64 0) (fCell v35 0) (fCell v35 1) [] r23))):=(jden_eq ..).trans (by kernel_rfl)
theorem mach_Flat.L3_eq:mach_Flat.L3 x0 x1 x2 x3 x4 x5 x6 x7 x8 x9 x10 x11 x12 r13 r14 r15 r16 x17 x18 r19 r20 r21 es22 x23 x24 x25 r26 r27 = (
 bindO (fBin .eql x23 (.int .i64 ((r26.length:Nat):Int))) fun v29 =>
 bindO (fUn .not v29) fun v30 =>
 fCond v30
 (bindO (rIdx r26 x23) fun j31 =>
 bindO (rGet r26 j31 0) fun v32 =>
 bindO (rGet r26 j31 1) fun v33 =>
 bindO (fBin .add x23 (.int .i64 1)) fun v34 =>
 mach_Flat.L4 x0 x0 (.int .i64 0) x1 x2 x3 x4 x5 x6 x7 x8 x9 x10 x11 x12 r13 r14 r15 r16 x17 x18 r19 r20 r21 es22 v34 x24 x25 v32 v33 v32 v33 v32 v33 r27 r26)
 (bindO (asNat (.int .i64 ((es22.length:Nat):Int))) fun j35 =>
 bindO (asNat (.int .i64 ((es22.length:Nat):Int))) fun j36 =>
 gB (j35 ≤ j36 && j36 * 16 ≤ room && 1 ≥ 1) <|
 bindO (mach_minimalOf (.agg [x17,.arr (List.replicate j35 [(.str []:FV)]),x18,.arr r20,.arr r21,.arr r27])) fun v37 =>
 gB (fIsAgg 6 v37) <|
 bindO (arrRows (fCell v37 1)) fun r38 =>
 mach_Flat.L5 (.int .i64 ((r38.length:Nat):Int)) (.int .i64 0) x1 x2 x3 x4 x5 x6 x7 x8 x9 x10 x11 x12 r13 r14 r15 r16 x17 x18 r19 r20 r21 es22 x23 x24 x25 r26 r27 (List.replicate j35 [(.str []:FV)]) r38 (fCell v37 0) (fCell v37 2) (fCell v37 3) (fCell v37 4) (fCell v37 5))):=(jden_eq ..).trans (by kernel_rfl)
theorem mach_Flat.L4_eq:mach_Flat.L4 x0 x1 x2 x3 x4 x5 x6 x7 x8 x9 x10 x11 x12 x13 x14 r15 r16 r17 r18 x19 x20 r21 r22 r23 es24 x25 x26 x27 x28 x29 x30 x31 x32 x33 r34 r35 = (
 bindO (fBin .lss x2 x1) fun v37 =>
 fCond v37
 (bindO (mach_digits (.arr r22) x2) fun v38 =>
 bindO (mach_runner_step (.agg [x7,x8,x9,x10,x11,x12,x13,x14]) (.agg [x32,x33]) v38) fun v39 =>
 gB (fIsTup 2 v39) <|
 gB (fIsAgg 2 (fTup v39 1)) <|
 bindO (mach_netState_key (.agg [(fCell (fTup v39 1) 0),(fCell (fTup v39 1) 1)])) fun v40 =>
 bindO (mLook false [.str] es24 v40 (.int .i64 0)) fun v41 =>
 bindO (fUn .not (.bool v41.2)) fun v42 =>
 fCond v42
 (bindO (mach_netState_key (.agg [(fCell (fTup v39 1) 0),(fCell (fTup v39 1) 1)])) fun v43 =>
 gB (keyOk false [.str] v43) <|
 bindO (mPut false [.str] es24 v43 (.int .i64 ((es24.length:Nat):Int))) fun es44 =>
 gB (decide ((r35.length + 1) * 48 ≤ room)) <|
 gB (decide ((r34.length + 1) * 32 ≤ room)) <|
 bindO (fBin .add x2 (.int .i64 1)) fun v45 =>
 mach_Flat.L4 x0 x1 v45 x3 x4 x5 x6 x7 x8 x9 x10 x11 x12 x13 x14 r15 r16 r17 r18 x19 x20 r21 r22 r23 es44 x25 x26 x27 x28 x29 x30 x31 x32 x33 (r34 ++ [[.int .i64 ((es24.length:Nat):Int),(fTup v39 0)]]) (r35 ++ [[(fCell (fTup v39 1) 0),(fCell (fTup v39 1) 1)]]))
 (gB (decide ((r34.length + 1) * 32 ≤ room)) <|
 bindO (fBin .add x2 (.int .i64 1)) fun v46 =>
 mach_Flat.L4 x0 x1 v46 x3 x4 x5 x6 x7 x8 x9 x10 x11 x12 x13 x14 r15 r16 r17 r18 x19 x20 r21 r22 r23 es24 x25 x26 x27 x28 x29 x30 x31 x32 x33 (r34 ++ [[v41.1,(fTup v39 0)]]) r35))
 (bindO (fBin .gtr (.int .i64 ((es24.length:Nat):Int)) (.int .i64 4096)) fun v47 =>
 fCond v47
 (some (.tup [.agg [.str [],.nilS,.int .i64 0,.nilS,.nilS,.nilS],.int .i64 26]))
 (mach_Flat.L3 x0 x3 x4 x5 x6 x7 x8 x9 x10 x11 x12 x13 x14 r15 r16 r17 r18 x19 x20 r21 r22 r23 es24 x25 x26 x27 r35 r34))):=(jden_eq ..).trans (by kernel_rfl)
theorem mach_Flat.L5_eq:mach_Flat.L5 x0 x1 x2 x3 x4 x5 x6 x7 x8 x9 x10 x11 x12 x13 r14 r15 r16 r17 x18 x19 r20 r21 r22 es23 x24 x25 x26 r27 r28 r29 r30 x31 x32 x33 x34 x35 = (
 bindO (fBin .lss x1 x0) fun v37 =>
 fCond v37
 (bindO (mach_decimal x1) fun v38 =>
 bindO (fBin .add (.str [113]) v38) fun v39 =>
 bindO (rIdx r30 x1) fun j40 =>
 bindO (rSet r30 j40 0 [v39]) fun r41 =>
 bindO (fBin .add x1 (.int .i64 1)) fun v42 =>
 mach_Flat.L5 x0 v42 x2 x3 x4 x5 x6 x7 x8 x9 x10 x11 x12 x13 r14 r15 r16 r17 x18 x19 r20 r21 r22 es23 x24 x25 x26 r27 r28 r29 r41 x31 x32 x33 x34 x35)
 (bindO (mach_Check (.agg [x31,.arr r30,x32,x33,x34,x35])) fun v43 =>
 bindO (fBin .neq v43 (.int .i64 0)) fun v44 =>
 fCond v44
 (some (.tup [.agg [.str [],.nilS,.int .i64 0,.nilS,.nilS,.nilS],v43]))
 (some (.tup [.agg [x31,.arr r30,x32,x33,x34,x35],.int .i64 0])))):=(jden_eq ..).trans (by kernel_rfl)
noncomputable def law02_MachFlat.L0:R:=jden E 13 [] [1,1,1] (mkF 61 [(1,.f x0),(2,.f x1),(3,.ptr 0 0 0),(9,.ptr 2 0 0),(10,.f x2)]) [.box [.f x3,.f x4],.box [.f x5,.f x6,.f x7,.f x8,.f x9,.f x10],.box [.f x11,.f x12,.f x13,.f x14,.f x15,.f x16]]
theorem law02_MachFlat.eq:law02_MachFlat x0 x1 x2 = (
 gB (fIsAgg 2 x0) <|
 bindO (ref02_Flat (.agg [(fCell x0 0),(fCell x0 1)]) x1) fun v1 =>
 gB (fIsTup 2 v1) <|
 gB (fIsAgg 6 (fTup v1 0)) <|
 bindO (mach_Flat (.agg [(fCell x0 0),(fCell x0 1)]) x1) fun v2 =>
 gB (fIsTup 2 v2) <|
 gB (fIsAgg 6 (fTup v2 0)) <|
 bindO (fBin .neq (fTup v2 1) (fTup v1 1)) fun v3 =>
 fCond v3
 (some (.bool false))
 (bindO (ref02_SameMachine (.agg [(fCell (fTup v2 0) 0),(fCell (fTup v2 0) 1),(fCell (fTup v2 0) 2),(fCell (fTup v2 0) 3),(fCell (fTup v2 0) 4),(fCell (fTup v2 0) 5)]) (.agg [(fCell (fTup v1 0) 0),(fCell (fTup v1 0) 1),(fCell (fTup v1 0) 2),(fCell (fTup v1 0) 3),(fCell (fTup v1 0) 4),(fCell (fTup v1 0) 5)])) fun v4 =>
 bindO (fUn .not v4) fun v5 =>
 fCond v5
 (some (.bool false))
 (law02_MachFlat.L0 x1 x2 (fTup v2 1) (fCell x0 0) (fCell x0 1) (fCell (fTup v1 0) 0) (fCell (fTup v1 0) 1) (fCell (fTup v1 0) 2) (fCell (fTup v1 0) 3) (fCell (fTup v1 0) 4) (fCell (fTup v1 0) 5) (fCell (fTup v2 0) 0) (fCell (fTup v2 0) 1) (fCell (fTup v2 0) 2) (fCell (fTup v2 0) 3) (fCell (fTup v2 0) 4) (fCell (fTup v2 0) 5)))):=(den_eq ..).trans (by kernel_rfl)
theorem law02_MachFlat.L0_eq:law02_MachFlat.L0 x0 x1 x2 x3 x4 x5 x6 x7 x8 x9 x10 x11 x12 x13 x14 x15 x16 = (
 bindO (fBin .neq x2 (.int .i64 0)) fun v18 =>
 fCond v18
 (some (.bool true))
 (bindO (mach_RunNet (.agg [x3,x4]) x0 x1) fun v19 =>
 gB (fIsTup 2 v19) <|
 bindO (mach_Run (.agg [x11,x12,x13,x14,x15,x16]) x1) fun v20 =>
 gB (fIsTup 3 v20) <|
 bindO (fBin .eql (fTup v19 1) (fTup v20 2)) fun v21 =>
 fCond v21
 (bindO (ref02_SameLists (fTup v19 0) (fTup v20 0)) fun v22 =>
 some v22)
 (some (.bool false)))):=(jden_eq ..).trans (by kernel_rfl)
end Go.Proofs.Ytelcbakleaaneaa
