/- The law MachFlat: for every input that the row lets in it returns true, and its arguments read behind the call as before. Its conditions are the row's own; the call's answer comes from the abstract machine's code of the law and of what it calls. -/
import Derived.Test.YtelcbakleaaneaaRows
import Derived.Test.YtelcbakleaaneaaOk
import Derived.Test.YtelcbakleaaneaaTcsMachFlat
import Derived.Test.YtelcbakleaaneaaFlatFour
import Derived.WalkKit
import Derived.ProofKit
import Derived.OpenShut
import Derived.ShutString
import Derived.ChangeOld
import Derived.Below
import Derived.SizedLaws
set_option linter.unusedVariables false
namespace Go.Proofs.Ytelcbakleaaneaa.machFlat
open Go Go.Proofs.Ytelcbakleaaneaa Go.Proofs.Ytelcbakleaaneaa.VM
open Go.ChangeShapes Go.WideShapes Go.ChangeAt Go.RowKit
theorem own:ownKnob Try.prog.godebug = none:=by kernel_rfl
theorem laidOut:laidOutB Try.prog = true:=by kernel_rfl
theorem codes:tcsB Try.prog E [56,3,26] tcsMachFlat:=⟨by kernel_rfl,by kernel_rfl,by kernel_rfl,of_decide_eq_true (by kernel_rfl),⟨by kernel_rfl,by kernel_rfl,by kernel_rfl,of_decide_eq_true (by kernel_rfl),⟨by kernel_rfl,by kernel_rfl,by kernel_rfl,of_decide_eq_true (by kernel_rfl),True.intro⟩⟩⟩
set_option maxRecDepth 100000 in
theorem lifted (os:Os) (started:os.Started) (H:Type) (enc:TypeId × Value → H) :
  ReturnsInHanded {} Try.checked os 13 .any (Rows.machFlatSpec.pre6 enc Try.prog Try.f13 Rows.machFlatRow.domain false) (Rows.machFlatSpec.post enc Try.prog Try.f13 false true false false):=by
 refine returnsInHanded_of_change_sized (C:=Try.checked) own started (by kernel_rfl) Try.func13
  (ChangeSpec.witness6 (enc:=enc) (C:=Try.checked) false ⟨#[],#[.agg #[.slice none 0 0,.slice none 0 0],.int .i64 0,.slice none 0 0],[]⟩ 12 (by kernel_rfl) (by kernel_rfl) (by kernel_rfl) (by kernel_rfl)) ?_
 intro W base args ds gs before hval0 hW hcnd hsz0 _
 have hsz:(DataW.weightsEach Try.prog (Try.f13.params.toList ++ Rows.machFlatSpec.plain.varTypes Try.prog) (ds ++ gs)).all (· ≤ reachBytes) = true:=hsz0
 have hval:∀ (j:Nat) t v,Try.f13.params.toList[j]? = some t → args.toList[j]? = some v → Value.okWide Try.prog W .any base t v:=fun j t v h1 h2 => hval0 j t v (by simpa using h1) (by simpa using h2)
 have hW':=hW
 obtain ⟨p,q,hA0,hV,rfl,hfz,hnd⟩:=hW
 have hA:DataW.TrodAll enc Try.prog W 0 (fun _ => true) true Try.f13.params.toList args.toList ds p:=hA0
 rw [Try.params13] at hA hval hsz
 obtain ⟨rfl,rfl⟩:=trodVars_none hV
 obtain ⟨x,hx,hw⟩:=open_args (E:=E) _ tcsMachFlat _ _ _ hA hval codes
 rw [show DataSpec.varTypes Try.prog (ChangeSpec.plain Rows.machFlatSpec) = [] from rfl,List.append_nil,List.append_nil] at hsz
 have hwf:=hw hsz
 have hx':ArgsR E W (Low W) Try.f13.params.toList (argsF tcsMachFlat x) args.toList:=by rw [Try.params13];exact hx
 refine (law_calls envOk ovOk (g:=13) (fn:=Try.f13) (rt:=4) (lend:=false) (by kernel_rfl) (by kernel_rfl) (by kernel_rfl) (by kernel_rfl) (machFlat_pure x hwf) hx').mono fun e W' ⟨he,bel⟩ => ?_
 subst he
 have hback:=trodAll_below laidOut bel _ _ _ _ _ hA codes
 obtain ⟨v0,vs0,d0,ds0,p0,q0,hv0,rfl,hp0,h0,r0⟩:=trodAll_cons hA
 obtain ⟨v1,vs1,d1,ds1,p1,q1,hv1,rfl,hp1,h1,r1⟩:=trodAll_cons r0
 obtain ⟨v2,vs2,d2,ds2,p2,q2,hv2,rfl,hp2,h2,r2⟩:=trodAll_cons r1
 obtain ⟨_,rfl,_⟩:=trodAll_nil r2
 refine ⟨_,rfl,_,_,_,[],p,[],hW',trodAll_mk1 (shut_bool Try.underlying4 _),?_,rfl,bel.frame _,fun h => by cases h⟩
 show DataW.TrodAll enc Try.prog W' 0 _ true Try.f13.params.toList args.toList _ p
 rw [Try.params13]
 exact hback
theorem over:Rows.machFlatRow.holds Try.pinned (OpenSpec.ofChange Rows.machFlatSpec) :=
 OpenClaim.holds_of_wide 13 Try.f13 rfl rfl rfl rfl rfl rfl rfl ⟨rfl,rfl,rfl,rfl,rfl⟩ rfl rfl rfl rfl rfl (by kernel_rfl) Try.func13 (by kernel_rfl)
  (of_decide_eq_true (by kernel_rfl)) (by unfold Func.isWrapper;first | (rw [if_pos (by decide +kernel)];kernel_rfl) | (rw [if_neg (by decide +kernel)];exact ⟨rfl,rfl⟩))
  (fun os started H enc _ => lifted os started H enc)
theorem proved:Rows.MachFlatSaid:=over
end Go.Proofs.Ytelcbakleaaneaa.machFlat
namespace Go.Proofs.Ytelcbakleaaneaa
theorem machFlat_holds:Rows.MachFlatSaid:=machFlat.proved
#print axioms machFlat_holds
end Go.Proofs.Ytelcbakleaaneaa
