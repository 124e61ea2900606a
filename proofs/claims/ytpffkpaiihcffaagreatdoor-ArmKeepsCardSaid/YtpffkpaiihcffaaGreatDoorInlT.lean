/- Bodies in place: each comes to one thing, whatever follows, and turns what it says; code in place is code. -/
import Derived.Test.YtpffkpaiihcffaaGreatDoorDraw7
import Derived.Test.YtpffkpaiihcffaaGreatDoorCont
set_option linter.unusedVariables false
set_option linter.unusedSimpArgs false
set_option linter.unusedSectionVars false
namespace Go.Proofs.YtpffkpaiihcffaaGreatDoor.VM
open Go Go.RowKit
section
variable {E : Env} {call : Nat → List FV → Option FV} {inl : Inl} {cuts : List Nat} {ops : Array Oper} {o : Oper} {nid base g : Nat} {F F2 : Fr} {H H2 : Hp} {res : FV} {U : List Tok}
theorem guardK_true (g : Guard ops o F true) (run skip : Fr → R) : guardK ops o F run skip = run F:=by
 cases g with
 | none hg => simp only [guardK,hg]
 | at_ j want hg d hd b hv r hr =>
  have e : F.set d (.f (.bool b)) = F:=set_getF hv (by simp)
  unfold guardK
  rw [hg]
  unfold dstAt at hd
  simp only [hd,hv]
  cases b <;> cases want <;> first | exact absurd hr (by decide) | (simp only [condV,fCond];rw [e])
theorem guardK_false (g : Guard ops o F false) (run skip : Fr → R) : guardK ops o F run skip = skip F:=by
 cases g with
 | skipped j want hg d hd hv =>
  unfold guardK
  rw [hg]
  unfold dstAt at hd
  simp only [hd,hv]
 | at_ j want hg d hd b hv r hr =>
  have e : F.set d (.f (.bool b)) = F:=set_getF hv (by simp)
  unfold guardK
  rw [hg]
  unfold dstAt at hd
  simp only [hd,hv]
  cases b <;> cases want <;> first | exact absurd hr (by decide) | (simp only [condV,fCond];rw [e])
theorem opT_ok (hio : InlOk inl) {k : V → Hp → List Tok → R} (h : opT E call inl cuts ops o nid F H k = some res) :
  ∃ v H' U,k v H' U = some res ∧ UnchW U H H' ∧ (∀ k',opT E call inl cuts ops o nid F H k' = k' v H' U) ∧ ∀ k',opK E call inl cuts ops o nid F H k' = k' v H':=by
 unfold opT at h ⊢
 split at h
 ·rename_i q hq
  obtain ⟨v,H',U,h1,h2,h3⟩:=hio _ _ _ _ _ _ h
  exact ⟨v,H',U,h1,h2,h3,fun k' => by rw [inlOf_opK hq,h3]⟩
 ·split at h
  ·rename_i U hU
   have hU':=hU
   unfold tch at hU
   split at hU
   ·rename_i T hT
    cases hU
    obtain ⟨v,h1,h2⟩:=light hT h
    have h3:=(h2 H (Agree.refl _ _)).2
    exact ⟨v,H,[],h1,.refl _ _,fun k' => by rw [h3],h3⟩
   ·split at hU
    ·rename_i hq
     cases hU
     obtain ⟨v,b,h1,h2,h3,h4⟩:=quick_does hq h
     exact ⟨v,_,[],h3,(Unch.set_free h2 (fresh_free h1)).w,fun k' => by rw [h4 H h2],h4 H h2⟩
    ·obtain ⟨v,H',h1,h2⟩:=touch_once hU _ _ h
     exact ⟨v,H',U,h1,(does_unch hU h2).w,fun k' => h2 fun v H => k' v H U,h2⟩
  ·cases h
theorem unchW_frees (U : List Tok) (H : Hp) (n : Nat) : UnchW U H (H ++ frees n):=by
 intro id b hb
 exact .same (by rw [List.getElem?_append_left (List.getElem?_eq_some_iff.1 hb).1];exact hb)
theorem unchW_close (U : List Tok) (H : Hp) : UnchW U H (close base H):=by
 intro id b hb
 cases b with
 | dead => exact True.intro
 | free => exact True.intro
 | old r => exact True.intro
 | _ => exact .same (by rw [close_get,hb];cases Nat.ble base id <;> rfl)
theorem mem_l {a b : List Tok} : ∀ x ∈ a,x ∈ a ++ b:=fun x hx => List.mem_append.2 (.inl hx)
theorem mem_r {a b : List Tok} : ∀ x ∈ b,x ∈ a ++ b:=fun x hx => List.mem_append.2 (.inr hx)
theorem opsT_ok (hio : InlOk inl) {k : Fr → Hp → List Tok → R} : ∀ (l : List Nat) (F : Fr) (H : Hp) (U : List Tok),opsT E call inl cuts ops base l F H U k = some res →
  ∃ F' H' U',k F' H' (U ++ U') = some res ∧ UnchW U' H H' ∧ (∀ k',opsT E call inl cuts ops base l F H U k' = k' F' H' (U ++ U')) ∧ ∀ k',opsK E call inl cuts ops base l F H k' = k' F' H'
 | [],F,H,U,h => ⟨F,_,[],by simpa only [opsT,List.append_nil] using h,unchW_close _ _,fun k' => by simp only [opsT,List.append_nil],fun k' => by simp only [opsK]⟩
 | i :: l,F,H,U,h => by
  simp only [opsT,opsK] at h ⊢
  split at h
  ·cases h
  ·rename_i o ho
   rcases guardK_some h with ⟨hg,h⟩ | ⟨hg,h⟩
   ·obtain ⟨v,H1,U1,h1,h2,h3,h4⟩:=opT_ok hio h
    obtain ⟨F',H',U',k1,k2,k3,k4⟩:=opsT_ok hio l _ _ _ h1
    refine ⟨F',H',U1 ++ U',by rw [← List.append_assoc];exact k1,((unchW_frees _ _ _).trans (h2.mono mem_l)).trans (k2.mono mem_r),fun k' => ?_,fun k' => ?_⟩
    ·rw [guardK_true hg,h3,k3,List.append_assoc]
    ·rw [guardK_true hg,h4,k4]
   ·obtain ⟨F',H',U',k1,k2,k3,k4⟩:=opsT_ok hio l _ _ _ h
    exact ⟨F',H',U',k1,k2,fun k' => by rw [guardK_false hg,k3],fun k' => by rw [guardK_false hg,k4]⟩
theorem opsDT_ok (hio : InlOk inl) {k : Fr → Hp → List Tok → R} : ∀ (l : List (Nat × List Nat)) (rec : List (Nat × List Tok)) (hv : List Nat) (F : Fr) (H : Hp) (U : List Tok),opsDT E call inl cuts ops base l rec hv F H U k = some res →
  ∃ F' H' U',k F' H' (U ++ U') = some res ∧ UnchW U' H H' ∧ (∀ k',opsDT E call inl cuts ops base l rec hv F H U k' = k' F' H' (U ++ U')) ∧ ∀ k',opsDK E call inl cuts ops base l rec hv F H k' = k' F' H'
 | [],rec,hv,F,H,U,h => ⟨F,_,[],by simpa only [opsDT,List.append_nil] using h,unchW_close _ _,fun k' => by simp only [opsDT,List.append_nil],fun k' => by simp only [opsDK]⟩
 | (i,anc) :: l,rec,hv,F,H,U,h => by
  simp only [opsDT,opsDK] at h ⊢
  split at h
  ·cases h
  ·rename_i o ho
   rcases guardK_some h with ⟨hg,h⟩ | ⟨hg,h⟩
   ·split at h
    ·rename_i T hT
     obtain ⟨hb,h⟩:=gB_some h
     obtain ⟨v,h1,h2⟩:=light hT h
     have h3:=(h2 H (Agree.refl _ _)).2
     obtain ⟨F',H',U',k1,k2,k3,k4⟩:=opsDT_ok hio l _ _ _ _ _ h1
     exact ⟨F',H',U',k1,k2,fun k' => by rw [guardK_true hg,hT];simp only [hb,gB,h3,k3],fun k' => by rw [guardK_true hg,hT];simp only [hb,gB,h3,k4]⟩
    ·rename_i hT
     split at h
     ·rename_i q hq
      obtain ⟨hb,h⟩:=gB_some h
      obtain ⟨v,H1,U1,h1,h2,h3⟩:=hio _ _ _ _ _ _ h
      obtain ⟨hb2,h1⟩:=gB_some h1
      obtain ⟨F',H',U',k1,k2,k3,k4⟩:=opsDT_ok hio l _ _ _ _ _ h1
      refine ⟨F',H',U1 ++ U',by rw [← List.append_assoc];exact k1,(h2.mono mem_l).trans (k2.mono mem_r),fun k' => ?_,fun k' => ?_⟩
      ·rw [guardK_true hg,hT,hq];simp only [hb,gB,h3,hb2,k3,List.append_assoc]
      ·rw [guardK_true hg,hT,hq];simp only [hb,gB,h3,hb2,k4]
     ·rename_i hni
      split at h
      ·rename_i U1 hU
       obtain ⟨hb,h⟩:=gB_some h
       have e : opT E call inl cuts ops o (nidAt E cuts ops ops.toList i base) F H (fun v H U1 => opsDT E call inl cuts ops base l rec (i :: hv) (putV F o.dst v) H (U ++ U1) k) = some res:=by
        unfold opT
        rw [hni,hU]
        exact h
       obtain ⟨v,H1,U2,h1,h2,h3,h4⟩:=opT_ok hio e
       have e2 : U2 = U1:=by
        obtain ⟨kk,q1,q2⟩:=indic v H1 .undef
        have:=h3 fun v H U => if U = U1 then some .undef else none
        unfold opT at this
        rw [hni,hU] at this
        simp only at this
        rw [h4] at this
        simp only [if_true] at this
        split at this
        ·assumption
        ·cases this
       subst e2
       obtain ⟨F',H',U',k1,k2,k3,k4⟩:=opsDT_ok hio l _ _ _ _ _ h1
       refine ⟨F',H',U2 ++ U',by rw [← List.append_assoc];exact k1,(h2.mono mem_l).trans (k2.mono mem_r),fun k' => ?_,fun k' => ?_⟩
       ·rw [guardK_true hg,hT,hni,hU];simp only [hb,gB,h4,k3,List.append_assoc]
       ·rw [guardK_true hg,hT,hni];simp only [hb,gB,h4,k4]
      ·cases h
   ·obtain ⟨F',H',U',k1,k2,k3,k4⟩:=opsDT_ok hio l _ _ _ _ _ h
    exact ⟨F',H',U',k1,k2,fun k' => by rw [guardK_false hg,k3],fun k' => by rw [guardK_false hg,k4]⟩
inductive Out where
 | norm | ret | exit (id : Nat)
def KontT.at (K : KontT) : Out → Fr → Hp → List Tok → R
 | .norm => K.norm
 | .ret => K.ret
 | .exit id => fun F H U => match findExitT id K.exits with | some k => k F H U | none => none
def Kont.at (K : Kont) : Out → Fr → Hp → R
 | .norm => K.norm
 | .ret => K.ret
 | .exit id => fun F H => match findExit id K.exits with | some k => k F H | none => none
theorem joinT_some {a : Option Ann} {k : Fr → Hp → List Tok → R} (h : joinT a k F H U = some res) : a = none ∧ k F H U = some res:=by
 cases a with
 | none => exact ⟨rfl,h⟩
 | some a => cases h
theorem execT_ok (hio : InlOk inl) : ∀ (c : Code) (p : List Nat) (F : Fr) (H : Hp) (U : List Tok) (K : KontT),execT E call inl g c p F H U K = some res →
  ∃ q F' H' U',K.at q F' H' (U ++ U') = some res ∧ UnchW U' H H' ∧ (∀ K' : KontT,execT E call inl g c p F H U K' = K'.at q F' H' (U ++ U')) ∧ ∀ K' : Kont,execK E call inl g (fun _ _ _ => none) c p F H K' = K'.at q F' H'
 | .skip,p,F,H,U,K,h => ⟨.norm,F,H,[],by rw [List.append_nil];exact h,.refl _ _,fun K' => by rw [List.append_nil];rfl,fun K' => rfl⟩
 | .label _,p,F,H,U,K,h => ⟨.norm,F,H,[],by rw [List.append_nil];exact h,.refl _ _,fun K' => by rw [List.append_nil];rfl,fun K' => rfl⟩
 | .ret,p,F,H,U,K,h => ⟨.ret,F,H,[],by rw [List.append_nil];exact h,.refl _ _,fun K' => by rw [List.append_nil];rfl,fun K' => rfl⟩
 | .exit id,p,F,H,U,K,h => ⟨.exit id,F,H,[],by rw [List.append_nil];exact h,.refl _ _,fun K' => by rw [List.append_nil];rfl,fun K' => rfl⟩
 | .scope c,p,F,H,U,K,h => by
  simp only [execT,execK] at h ⊢
  exact execT_ok hio c _ F H U K h
 | .loop c,p,F,H,U,K,h => by simp only [execT] at h;cases h
 | .goto _,p,F,H,U,K,h => by simp only [execT] at h;cases h
 | .refuse _,p,F,H,U,K,h => by simp only [execT] at h;cases h
 | .rangeFunc _ _ _ _,p,F,H,U,K,h => by simp only [execT] at h;cases h
 | .region id ops draw,p,F,H,U,K,h => by
  simp only [execT,execK] at h ⊢
  cases draw with
  | false =>
   simp only at h ⊢
   obtain ⟨F',H',U',k1,k2,k3,k4⟩:=opsT_ok hio _ _ _ _ h
   obtain ⟨ha,k1⟩:=joinT_some k1
   exact ⟨.norm,F',H',U',k1,k2,fun K' => by rw [k3,ha];rfl,fun K' => by rw [k4,ha];rfl⟩
  | true =>
   simp only at h ⊢
   obtain ⟨hb,h⟩:=gB_some h
   obtain ⟨F',H',U',k1,k2,k3,k4⟩:=opsDT_ok hio _ _ _ _ _ _ h
   obtain ⟨ha,k1⟩:=joinT_some k1
   refine ⟨.norm,F',H',U',k1,(unchW_frees _ _ _).trans k2,fun K' => by rw [hb,gB,k3,ha];rfl,fun K' => by rw [hb,gB,k4,ha];rfl⟩
 | .seq a b,p,F,H,U,K,h => by
  simp only [execT,execK] at h ⊢
  obtain ⟨q,F1,H1,U1,h1,h2,h3,h4⟩:=execT_ok hio a _ F H U _ h
  cases q with
  | norm =>
   simp only [KontT.at] at h1
   obtain ⟨ha,h1⟩:=joinT_some h1
   obtain ⟨q,F2,H2,U2,k1,k2,k3,k4⟩:=execT_ok hio b _ F1 H1 _ K h1
   refine ⟨q,F2,H2,U1 ++ U2,by rw [← List.append_assoc];exact k1,(h2.mono mem_l).trans (k2.mono mem_r),fun K' => ?_,fun K' => ?_⟩
   ·rw [h3]
    show joinT (annE E g p) (fun F H U => execT E call inl g b (1 :: p) F H U K') F1 H1 (U ++ U1) = _
    rw [ha]
    show execT E call inl g b (1 :: p) F1 H1 (U ++ U1) K' = _
    rw [k3,List.append_assoc]
   ·rw [h4]
    show join (annE E g p) (fun _ _ => none) (fun F H => execK E call inl g (fun _ _ _ => none) b (1 :: p) F H K') F1 H1 = _
    rw [ha]
    exact k4 K'
  | ret => exact ⟨.ret,F1,H1,U1,h1,h2,fun K' => by rw [h3];rfl,fun K' => by rw [h4];rfl⟩
  | exit id => exact ⟨.exit id,F1,H1,U1,h1,h2,fun K' => by rw [h3];rfl,fun K' => by rw [h4];rfl⟩
 | .cond c a b,p,F,H,U,K,h => by
  simp only [execT,execK] at h ⊢
  unfold condV at h ⊢
  split at h
  ·rename_i x hx
   rcases fCond_some h with ⟨rfl,h⟩ | ⟨rfl,h⟩
   ·obtain ⟨q,F1,H1,U1,h1,h2,h3,h4⟩:=execT_ok hio a _ F H U K h
    exact ⟨q,F1,H1,U1,h1,h2,fun K' => by simp only [fCond,h3],fun K' => by simp only [fCond,h4]⟩
   ·obtain ⟨q,F1,H1,U1,h1,h2,h3,h4⟩:=execT_ok hio b _ F H U K h
    exact ⟨q,F1,H1,U1,h1,h2,fun K' => by simp only [fCond,h3],fun K' => by simp only [fCond,h4]⟩
  ·cases h
 | .block id c,p,F,H,U,K,h => by
  simp only [execT,execK] at h ⊢
  obtain ⟨q,F1,H1,U1,h1,h2,h3,h4⟩:=execT_ok hio c _ F H U _ h
  cases q with
  | norm =>
   simp only [KontT.at] at h1
   obtain ⟨ha,h1⟩:=joinT_some h1
   exact ⟨.norm,F1,H1,U1,h1,h2,fun K' => by rw [h3];simp only [KontT.at,ha,joinT],fun K' => by rw [h4];simp only [Kont.at,ha,join]⟩
  | ret => exact ⟨.ret,F1,H1,U1,h1,h2,fun K' => by rw [h3];rfl,fun K' => by rw [h4];rfl⟩
  | exit i =>
   simp only [KontT.at,findExitT] at h1
   by_cases he : id = i
   ·rw [if_pos he] at h1
    simp only at h1
    obtain ⟨ha,h1⟩:=joinT_some h1
    exact ⟨.norm,F1,H1,U1,h1,h2,fun K' => by rw [h3];simp only [KontT.at,findExitT,if_pos he,ha,joinT],fun K' => by rw [h4];simp only [Kont.at,findExit,if_pos he,ha,join]⟩
   ·rw [if_neg he] at h1
    exact ⟨.exit i,F1,H1,U1,h1,h2,fun K' => by rw [h3];simp only [KontT.at,findExitT,if_neg he],fun K' => by rw [h4];simp only [Kont.at,findExit,if_neg he]⟩
theorem inlK_ok : ∀ d,InlOk (inlK E call d)
 | 0 => fun g fn F H k res h => by simp [inlK] at h
 | d + 1 => fun g fn F H k res h => by
  simp only [inlK] at h ⊢
  split at h
  ·rename_i c hc
   obtain ⟨q,F1,H1,U1,h1,h2,h3,_⟩:=execT_ok (inlK_ok d) c _ F H _ _ h
   have key : ∀ (k0 : V → Hp → List Tok → R),(resV E F1 H1 fn.results.toList [] fun vs => k0 (packV vs) H1 ([] ++ U1)) = some res → ∃ v,k0 v H1 ([] ++ U1) = some res ∧ ∀ k' : V → Hp → List Tok → R,(resV E F1 H1 fn.results.toList [] fun vs => k' (packV vs) H1 ([] ++ U1)) = k' v H1 ([] ++ U1):=by
    intro k0 hk
    obtain ⟨v,_,e1,e2⟩:=resV_once E F1 H1 (f:=fun vs (k : V → Unit → R) => k (packV vs) ()) (fun vs => Once.pure _ _) fn.results.toList [] (fun v _ => k0 v H1 ([] ++ U1)) res hk
    exact ⟨v,e1,fun k' => e2 fun v _ => k' v H1 ([] ++ U1)⟩
   cases q with
   | norm =>
    obtain ⟨v,e1,e2⟩:=key k h1
    exact ⟨v,H1,[] ++ U1,e1,h2,fun k' => by rw [h3];exact e2 k'⟩
   | ret =>
    obtain ⟨v,e1,e2⟩:=key k h1
    exact ⟨v,H1,[] ++ U1,e1,h2,fun k' => by rw [h3];exact e2 k'⟩
   | exit id => simp [KontT.at,findExitT] at h1
  ·cases h
theorem inlK_execK {d : Nat} {fn : Func} {c : Code} (hc : fn.body = some c) {k : V → Hp → R} (h : (inlK E call (d + 1) g fn F H fun v H _ => k v H) = some res) :
  execK E call (inlK E call d) g (fun _ _ _ => none) c [] F H ⟨fun F H => resV E F H fn.results.toList [] fun vs => k (packV vs) H,[],fun F H => resV E F H fn.results.toList [] fun vs => k (packV vs) H⟩ = some res:=by
 simp only [inlK,hc] at h
 obtain ⟨q,F1,H1,U1,h1,h2,_,h4⟩:=execT_ok (inlK_ok d) c _ F H _ _ h
 rw [h4]
 cases q with
 | norm => exact h1
 | ret => exact h1
 | exit id => simp [KontT.at,findExitT] at h1
end
end Go.Proofs.YtpffkpaiihcffaaGreatDoor.VM
