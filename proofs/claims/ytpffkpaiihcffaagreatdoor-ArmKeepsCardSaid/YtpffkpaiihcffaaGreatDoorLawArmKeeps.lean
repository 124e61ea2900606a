/- The law ArmKeeps: for every input that the row lets in it returns true, and its arguments read behind the call as before. Its conditions are the row's own; the call's answer comes from the abstract machine's code of the law and of what it calls. -/
import Derived.Test.YtpffkpaiihcffaaGreatDoorRows
import Derived.Test.YtpffkpaiihcffaaGreatDoorCards
import Derived.Test.YtpffkpaiihcffaaGreatDoorTie
import Derived.Test.YtpffkpaiihcffaaGreatDoorOvk
import Derived.Test.YtpffkpaiihcffaaGreatDoorLaidA
import Derived.Test.YtpffkpaiihcffaaGreatDoorStW
import Derived.WalkKit
import Derived.ProofKit
import Derived.OpenShut
import Derived.ShutString
import Derived.ChangeOld
import Derived.Below
import Derived.SizedLaws
import Derived.Handed
import Derived.JoinedOf
import Derived.SevenTiedAt
set_option linter.unusedVariables false
namespace Go.Proofs.YtpffkpaiihcffaaGreatDoor.armKeeps
open Go Go.Proofs.YtpffkpaiihcffaaGreatDoor Go.Proofs.YtpffkpaiihcffaaGreatDoor.VM
open Go.ChangeShapes Go.WideShapes Go.ChangeAt Go.RowKit
theorem own : ownKnob Tryz.prog.godebug = none:=by kernel_rfl
theorem laidOut : laidOutB Tryz.prog = true:=by kernel_rfl
theorem codes : tcsB Tryz.prog E [24,33,49] tcsArmKeeps:=⟨by kernel_rfl,by kernel_rfl,by kernel_rfl,of_decide_eq_true (by kernel_rfl),⟨by kernel_rfl,by kernel_rfl,by kernel_rfl,of_decide_eq_true (by kernel_rfl),⟨by kernel_rfl,by kernel_rfl,by kernel_rfl,of_decide_eq_true (by kernel_rfl),True.intro⟩⟩⟩
set_option maxRecDepth 100000 in
theorem lifted (os : Os) (started : os.Started) (H : Type) (enc : TypeId × Value → H) :
  ReturnsInHanded {} Tryz.checked os 7 .any (fun w args => (Rows.armKeepsSpec.pre enc Tryz.prog Tryz.f7 Rows.armKeepsRow.domain false w args ∧ laidMet Tryz.prog [("ramet/cells.grown", Rows.laid_ramet_cells_grown),("ramet/arm.fixed", Rows.laid_ramet_arm_fixed)] w) ∧ sizedMet enc Tryz.prog Tryz.f7 (OpenSpec.ofChange Rows.armKeepsSpec) false w args) (Rows.armKeepsSpec.post enc Tryz.prog Tryz.f7 false true false false):=by
 refine returnsInHanded_of_change_and (C:=Tryz.checked) (X:=fun w _ => laidMet Tryz.prog [("ramet/cells.grown", Rows.laid_ramet_cells_grown),("ramet/arm.fixed", Rows.laid_ramet_arm_fixed)] w) (fun _ _ _ hh h => h.of_heap hh) own started (by kernel_rfl) Tryz.func7
  (ChangeSpec.witness_at (enc:=enc) (C:=Tryz.checked) (os:=os) (X:=fun w _ => laidMet Tryz.prog [("ramet/cells.grown", Rows.laid_ramet_cells_grown),("ramet/arm.fixed", Rows.laid_ramet_arm_fixed)] w) false (laidWorld os) #[.slice none 0 0,.slice none 0 0,.agg #[.int .i64 0,.int .i64 0]] 12 rfl (by kernel_rfl) (by kernel_rfl) (by kernel_rfl) (by kernel_rfl) (by kernel_rfl) (laidWorld_met os _)) ?_
 intro W base args ds gs before hval0 hW hcnd hsz0 hL _
 have hsz : (DataW.weightsEach Tryz.prog (Tryz.f7.params.toList ++ Rows.armKeepsSpec.plain.varTypes Tryz.prog) (ds ++ gs)).all (· ≤ reachBytes) = true:=hsz0
 have hval : ∀ (j : Nat) t v,Tryz.f7.params.toList[j]? = some t → args.toList[j]? = some v → Value.okWide Tryz.prog W .any base t v:=fun j t v h1 h2 => hval0 j t v (by simpa using h1) (by simpa using h2)
 have hW':=hW
 obtain ⟨p,q,hA0,hV,rfl,hfz,hnd⟩:=hW
 have hA : DataW.TrodAll enc Tryz.prog W 0 (fun _ => true) true Tryz.f7.params.toList args.toList ds p:=hA0
 rw [Tryz.params7] at hA hval hsz
 obtain ⟨rfl,rfl⟩:=trodVars_none hV
 obtain ⟨x,hx,hw⟩:=open_args (E:=E) (globR_laid hL) _ tcsArmKeeps _ _ _ hA hval codes
 rw [show DataSpec.varTypes Tryz.prog (ChangeSpec.plain Rows.armKeepsSpec) = [] from rfl,List.append_nil,List.append_nil] at hsz
 have hwf:=hw hsz
 have hx' : ArgsR E W (Low W) Tryz.f7.params.toList (argsF tcsArmKeeps x) args.toList:=by rw [Tryz.params7];exact hx
 refine (law_calls envOk ovOk (g:=7) (fn:=Tryz.f7) (rt:=4) (lend:=false) (by kernel_rfl) (by kernel_rfl) (by kernel_rfl) (by kernel_rfl) (armKeeps_pure x hwf) hx').mono fun e W' ⟨he,bel⟩ => ?_
 subst he
 have hback:=trodAll_below laidOut bel _ _ _ _ _ hA codes
 obtain ⟨v0,vs0,d0,ds0,p0,q0,hv0,rfl,hp0,h0,r0⟩:=trodAll_cons hA
 obtain ⟨v1,vs1,d1,ds1,p1,q1,hv1,rfl,hp1,h1,r1⟩:=trodAll_cons r0
 obtain ⟨v2,vs2,d2,ds2,p2,q2,hv2,rfl,hp2,h2,r2⟩:=trodAll_cons r1
 obtain ⟨_,rfl,_⟩:=trodAll_nil r2
 refine ⟨_,rfl,_,_,_,[],p,[],hW',trodAll_mk1 (shut_bool Tryz.underlying4 _),?_,rfl,bel.frame _,fun h => by cases h⟩
 show DataW.TrodAll enc Tryz.prog W' 0 _ true Tryz.f7.params.toList args.toList _ p
 rw [Tryz.params7]
 exact hback
theorem over : Rows.armKeepsRow.holds Tryz.pinned (OpenSpec.ofChange Rows.armKeepsSpec) :=
 OpenClaim.holds_of_wide 7 Tryz.f7 rfl rfl rfl rfl rfl rfl rfl ⟨rfl,rfl,rfl,rfl,rfl⟩ rfl rfl rfl rfl rfl (by kernel_rfl) Tryz.func7 (by kernel_rfl)
  (of_decide_eq_true (by kernel_rfl)) (by unfold Func.isWrapper;first | (rw [if_pos (by decide +kernel)];kernel_rfl) | (rw [if_neg (by decide +kernel)];exact ⟨rfl,rfl⟩))
  (fun os started H enc _ => lifted os started H enc)
theorem card : Rows.ArmKeepsCardSaid :=
 Claim7.holds_tied_plain_at .later [] [.data,.data] true (true, "025c58500245fd7eaf29d61cbf87cb2cd566428b234af423b7eed7d898137334") false
  over (fun _ h => by cases h) (by kernel_rfl) (fun _ h => by cases h) armKeeps_row_tie rfl ⟨rfl,rfl⟩ (by kernel_rfl) rfl
  (fun f fn hf hfn => by
   obtain rfl : 7 = f:=Option.some.inj ((show Tryz.prog.funcNamed "ramet/rametlaw08.ArmKeeps" = some 7 by kernel_rfl).symm.trans hf)
   obtain rfl : Tryz.f7 = fn:=Option.some.inj (Tryz.func7.symm.trans hfn)
   refine ⟨by kernel_rfl,fun j t ht => ?_⟩
   rw [Tryz.params7] at ht
   match j,ht with
   | 0,ht => cases ht;exact (show Tryz.prog.wantsStandIn 24 = false by kernel_rfl)
   | 1,ht => cases ht;exact (show Tryz.prog.wantsStandIn 33 = false by kernel_rfl)
   | 2,ht => cases ht;exact (show Tryz.prog.wantsStandIn 49 = false by kernel_rfl)
   | j + 3,ht => simp at ht)
  (by kernel_rfl)
end Go.Proofs.YtpffkpaiihcffaaGreatDoor.armKeeps
namespace Go.Proofs.YtpffkpaiihcffaaGreatDoor
theorem armKeeps_holds : Rows.ArmKeepsCardSaid:=armKeeps.card
#print axioms armKeeps_holds
end Go.Proofs.YtpffkpaiihcffaaGreatDoor
