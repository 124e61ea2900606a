/- The machine without a bound: what calls answer at the end; its equations. -/
import Derived.Test.YtpffkpaiihcffaaGreatDoorDraw2
set_option linter.unusedVariables false
set_option linter.unusedSimpArgs false
set_option linter.unusedSectionVars false
namespace Go.Proofs.YtpffkpaiihcffaaGreatDoor.VM
open Go Go.RowKit
structure Cv {α : Type} (f : Nat → Option α) (r : Option α) : Prop where
 to : ∀ y,r = some y → ∃ n0,∀ n,n0 ≤ n → f n = some y
 of : ∀ n y,f n = some y → r = some y
theorem Cv.const {α : Type} (r : Option α) : Cv (fun _ => r) r:=⟨fun y h => ⟨0,fun _ _ => h⟩,fun _ _ h => h⟩
theorem Cv.bind {α β : Type} {x : Nat → Option α} {x' : Option α} {k : Nat → α → Option β} {k' : α → Option β} (hx : Cv x x') (hk : ∀ c,Cv (fun n => k n c) (k' c)) : Cv (fun n => bindO (x n) (k n)) (bindO x' k'):=by
 constructor
 ·intro y h
  obtain ⟨c,h1,h2⟩:=bindO_some h
  obtain ⟨n1,h3⟩:=hx.to c h1
  obtain ⟨n2,h4⟩:=(hk c).to y h2
  exact ⟨max n1 n2,fun n hn => by simp only [h3 n (by omega),bindO];exact h4 n (by omega)⟩
 ·intro n y h
  obtain ⟨c,h1,h2⟩:=bindO_some h
  simp only [hx.of n c h1,bindO]
  exact (hk c).of n y h2
theorem Cv.gB {α : Type} {b : Bool} {k : Nat → Option α} {k' : Option α} (hk : b = true → Cv k k') : Cv (fun n => gB b (k n)) (Go.Proofs.YtpffkpaiihcffaaGreatDoor.VM.gB b k'):=by
 cases b with
 | true => exact hk rfl
 | false => exact Cv.const none
theorem Cv.cond {x : FV} {a b : Nat → R} {a' b' : R} (ha : Cv a a') (hb : Cv b b') : Cv (fun n => fCond x (a n) (b n)) (fCond x a' b'):=by
 cases x with
 | bool t => cases t with
  | true => exact ha
  | false => exact hb
 | _ => exact Cv.const none
theorem Cv.condV {x : V} {a b : Nat → R} {a' b' : R} (ha : Cv a a') (hb : Cv b b') : Cv (fun n => condV x (a n) (b n)) (Go.Proofs.YtpffkpaiihcffaaGreatDoor.VM.condV x a' b'):=by
 cases x with
 | f x => exact Cv.cond ha hb
 | _ => exact Cv.const none
def CvK {α β : Type} (k : Nat → α → β → R) (k' : α → β → R) : Prop:=∀ a b,Cv (fun n => k n a b) (k' a b)
theorem Once.cv {α β : Type} {f : (α → β → R) → R} (h : Once f) {k : Nat → α → β → R} {k' : α → β → R} (hk : CvK k k') : Cv (fun n => f (k n)) (f k'):=by
 constructor
 ·intro y hy
  obtain ⟨a,b,h1,h2⟩:=h _ _ hy
  obtain ⟨n0,h3⟩:=(hk a b).to y h1
  exact ⟨n0,fun n hn => by rw [h2];exact h3 n hn⟩
 ·intro n y hy
  obtain ⟨a,b,h1,h2⟩:=h _ _ hy
  rw [h2]
  exact (hk a b).of n y h1
section
variable {E : Env} {call : Nat → Nat → List FV → Option FV} {call' : Nat → List FV → Option FV} {inl : Nat → Inl} {inl' : Inl} {cuts : List Nat} {ops : Array Oper} {o : Oper} {nid : Nat} {F : Fr} {H : Hp}
def CvCall (call : Nat → Nat → List FV → Option FV) (call' : Nat → List FV → Option FV) : Prop:=∀ g xs,Cv (fun n => call n g xs) (call' g xs)
def CvK3 {α β γ : Type} (k : Nat → α → β → γ → R) (k' : α → β → γ → R) : Prop:=∀ a b c,Cv (fun n => k n a b c) (k' a b c)
def CvInl (inl : Nat → Inl) (inl' : Inl) : Prop :=
 ∀ g fn F H k k',CvK3 k k' → Cv (fun n => inl n g fn F H (k n)) (inl' g fn F H k')
theorem dyn_cv (hc : CvCall call call') (ag : Bool) (x : FV) (args : List FV) : Cv (fun n => dynK E (call n) ag x args) (dynK E call' ag x args):=by
 unfold dynK
 split
 ·split
  ·split
   ·exact Cv.gB fun _ => hc _ _
   ·exact Cv.const none
  ·exact Cv.const none
 ·exact Cv.const none
theorem callK_cv (hc : CvCall call call') (hi : CvInl inl inl') {g : Nat} {args : List V} {k : Nat → V → Hp → R} {k' : V → Hp → R} (hk : CvK k k') : Cv (fun n => callK E (call n) (inl n) nid g args H (k n)) (callK E call' inl' nid g args H k'):=by
 unfold callK
 split
 ·refine Cv.gB fun _ => ?_
  split
  ·split
   ·refine Cv.gB fun _ => Cv.bind (hc _ _) fun x => Cv.gB fun _ => ?_
    split
    ·exact hk _ _
    ·exact Cv.const none
   ·exact Cv.const none
  ·refine Cv.bind (hc _ _) fun x => ?_
   exact Once.cv (f:=fun k => resultsOf _ x fun xs => backK E _ 0 nid _ xs _ [] fun vs H => k (packV vs) H) (Once.resultsOf (f:=fun xs k => backK E _ 0 nid _ xs _ [] fun vs H => k (packV vs) H) fun _ => Once.backK (f:=fun vs H k => k (packV vs) H) (fun _ _ => Once.pure _ _) _ _ _ _ _ _) hk
 ·rename_i ls own fn hm hg
  unfold moveK
  refine Cv.gB fun _ => Cv.bind (hc _ _) fun x => ?_
  exact Once.cv (f:=fun k => resultsOf (fn.resultTypes.size + (backIds 0 ls).length) x fun xs => putBackK ls args (xs.drop fn.resultTypes.size) ((restV ls args).foldl marks (settle H)) fun H => backK E own 0 nid fn.resultTypes.toList (xs.take fn.resultTypes.size) H [] fun vs H => k (packV vs) H) (Once.resultsOf (f:=fun xs k => putBackK ls args (xs.drop fn.resultTypes.size) ((restV ls args).foldl marks (settle H)) fun H => backK E own 0 nid fn.resultTypes.toList (xs.take fn.resultTypes.size) H [] fun vs H => k (packV vs) H) fun xs => Once.putBackK (f:=fun H k => backK E own 0 nid fn.resultTypes.toList (xs.take fn.resultTypes.size) H [] fun vs H => k (packV vs) H) (fun _ => Once.backK (f:=fun vs H k => k (packV vs) H) (fun _ _ => Once.pure _ _) _ _ _ _ _ _) _ _ _) hk
 ·exact hi _ _ _ _ (fun n v H _ => k n v H) (fun v H _ => k' v H) fun a b _ => hk a b
 ·exact Cv.const none
theorem both_cv {a b : Nat → R} {a' b' : R} (ha : Cv a a') (hb : Cv b b') : Cv (fun n => bothR (a n) (b n)) (bothR a' b'):=by
 constructor
 ·intro y h
  cases a' with
  | none => cases h
  | some x =>
   cases b' with
   | none => cases h
   | some z =>
    obtain ⟨n1,h2⟩:=ha.to _ rfl
    obtain ⟨n2,h3⟩:=hb.to _ rfl
    exact ⟨max n1 n2,fun n hn => by rw [h2 n (by omega),h3 n (by omega)];exact h⟩
 ·intro n y h
  generalize hx : a n = xa at h
  generalize hz : b n = zb at h
  cases xa with
  | none => cases h
  | some x =>
   cases zb with
   | none => cases h
   | some z => rw [ha.of n _ hx,hb.of n _ hz];exact h
theorem onRows_cv {a b : Nat → R} {a' b' : R} (r : List (List FV)) (ha : Cv a a') (hb : Cv b b') : Cv (fun n => onRows r (a n) (b n)) (onRows r a' b'):=by
 cases r with
 | nil => exact both_cv ha hb
 | cons => exact hb
theorem nil_cv {v : V} {a b : Nat → R} {a' b' : R} (ha : Cv a a') (hb : Cv b b') : Cv (fun n => nilK v H (a n) (b n)) (nilK v H a' b'):=by
 cases v with
 | f x =>
  cases x with
  | nilS => exact both_cv ha hb
  | arr r => exact onRows_cv r ha hb
  | _ => exact Cv.const none
 | ref id =>
  simp only [nilK]
  cases rowsOf H id with
  | none => exact Cv.const none
  | some r => exact onRows_cv r ha hb
 | _ => exact Cv.const none
theorem opK_cv (hc : CvCall call call') (hi : CvInl inl inl') {k : Nat → V → Hp → R} {k' : V → Hp → R} (hk : CvK k k') : Cv (fun n => opK E (call n) (inl n) cuts ops o nid F H (k n)) (opK E call' inl' cuts ops o nid F H k'):=by
 have other : (∀ c fo,o.op = .call c → c.callee ≠ .value fo) → (∀ x b,o.op ≠ .next x b) → (∀ op xt x y yt,o.op = .binOp op xt x y yt → isNilO y = false) → (∀ n k,opK E (call n) (inl n) cuts ops o nid F H k = opK E call' inl' cuts ops o nid F H k) → Cv (fun n => opK E (call n) (inl n) cuts ops o nid F H (k n)) (opK E call' inl' cuts ops o nid F H k'):=by
  intro h1 h2 h4 h3
  simp only [h3]
  exact Once.cv (opK_once (fun c fo g caps h4 h5 => absurd h5 (h1 c fo h4)) h2 h4) hk
 cases ho : o.op with
 | call c =>
  cases hcal : c.callee with
  | value fo =>
   simp only [opK,ho,hcal]
   split
   ·exact callK_cv hc hi hk
   ·refine Cv.gB fun _ => Cv.bind (dyn_cv hc _ _ _) fun v => ?_
    exact Once.cv (f:=fun k => splitAs _ _ v fun v => k v _) (Once.splitAs (f:=fun v k => k v _) fun _ => Once.pure _ _) hk
   ·exact Cv.const none
  | builtin b => exact other (fun c' fo h => by rw [ho] at h;cases h;rw [hcal];simp) (fun x b h => by rw [ho] at h;cases h) (fun op xt x y yt h => by rw [ho] at h;cases h) (fun n k => by simp only [opK,ho,hcal])
  | invoke r i => exact other (fun c' fo h => by rw [ho] at h;cases h;rw [hcal];simp) (fun x b h => by rw [ho] at h;cases h) (fun op xt x y yt h => by rw [ho] at h;cases h) (fun n k => by simp only [opK,ho,hcal])
 | next x b =>
  cases b with
  | false => simp only [opK,ho];exact Cv.const none
  | true =>
   simp only [opK,ho]
   split
   ·split
    ·exact Cv.bind (Cv.const _) fun r => Cv.cond (hk _ _) (hk _ _)
    ·exact Cv.const none
   ·exact Cv.const none
 | binOp op xt x y yt =>
  cases hn : isNilO y with
  | false => exact other (fun c fo h => by rw [ho] at h;cases h) (fun x b h => by rw [ho] at h;cases h) (fun op xt x y' yt h => by rw [ho] at h;cases h;exact hn) (fun n k => by simp only [opK,ho])
  | true =>
   simp only [opK,ho,hn]
   split
   ·exact nil_cv (hk _ _) (hk _ _)
   ·exact nil_cv (hk _ _) (hk _ _)
   ·exact Cv.const none
 | makeFunc fn first captured =>
  refine other (fun c fo h => by rw [ho] at h;cases h) (fun x b h => by rw [ho] at h;cases h) (fun op xt x y yt h => by rw [ho] at h;cases h) (fun n k => ?_)
  cases fn <;> simp only [opK,ho]
 | makeMap t r =>
  refine other (fun c fo h => by rw [ho] at h;cases h) (fun x b h => by rw [ho] at h;cases h) (fun op xt x y yt h => by rw [ho] at h;cases h) (fun n k => ?_)
  cases r <;> simp only [opK,ho]
 | _ => exact other (fun c fo h => by rw [ho] at h;cases h) (fun x b h => by rw [ho] at h;cases h) (fun op xt x y yt h => by rw [ho] at h;cases h) (fun n k => by simp only [opK,ho])
theorem guard_cv {run skip : Nat → Fr → R} {run' skip' : Fr → R} (hr : ∀ F,Cv (fun n => run n F) (run' F)) (hs : ∀ F,Cv (fun n => skip n F) (skip' F)) : Cv (fun n => guardK ops o F (run n) (skip n)) (guardK ops o F run' skip'):=by
 unfold guardK
 split
 ·exact hr _
 ·split
  ·exact Cv.const none
  ·split
   ·exact hs _
   ·refine Cv.condV ?_ ?_
    ·split
     ·exact hr _
     ·exact hs _
    ·split
     ·exact hs _
     ·exact hr _
theorem opsK_cv (hc : CvCall call call') (hi : CvInl inl inl') {base : Nat} {k : Nat → Fr → Hp → R} {k' : Fr → Hp → R} (hk : CvK k k') : ∀ (l : List Nat) (F : Fr) (H : Hp),Cv (fun n => opsK E (call n) (inl n) cuts ops base l F H (k n)) (opsK E call' inl' cuts ops base l F H k')
 | [],F,H => hk _ _
 | i :: l,F,H => by
  simp only [opsK]
  cases ops[i]? with
  | none => exact Cv.const none
  | some o => exact guard_cv (fun F => opK_cv hc hi fun v H => opsK_cv hc hi hk l _ _) (fun F => opsK_cv hc hi hk l _ _)
theorem opsDK_cv (hc : CvCall call call') (hi : CvInl inl inl') {base : Nat} {k : Nat → Fr → Hp → R} {k' : Fr → Hp → R} (hk : CvK k k') : ∀ (l : List (Nat × List Nat)) (rec : List (Nat × List Tok)) (hv : List Nat) (F : Fr) (H : Hp),Cv (fun n => opsDK E (call n) (inl n) cuts ops base l rec hv F H (k n)) (opsDK E call' inl' cuts ops base l rec hv F H k')
 | [],rec,hv,F,H => hk _ _
 | (i,anc) :: l,rec,hv,F,H => by
  simp only [opsDK]
  cases ops[i]? with
  | none => exact Cv.const none
  | some o =>
   refine guard_cv (fun F => ?_) (fun F => opsDK_cv hc hi hk l _ _ _ _)
   split
   ·exact Cv.gB fun _ => opK_cv hc hi fun v H => opsDK_cv hc hi hk l _ _ _ _
   ·split
    ·rename_i q _
     exact Cv.gB fun _ => hi _ _ _ _ (fun n v H U => gB (free (some U) anc rec) (opsDK E (call n) (inl n) cuts ops base l ((i,[star]) :: rec) (i :: hv) (putV F o.dst v) H (k n))) (fun v H U => gB (free (some U) anc rec) (opsDK E call' inl' cuts ops base l ((i,[star]) :: rec) (i :: hv) (putV F o.dst v) H k')) fun v H U => Cv.gB fun _ => opsDK_cv hc hi hk l _ _ _ _
    ·exact Cv.gB fun _ => opK_cv hc hi fun v H => opsDK_cv hc hi hk l _ _ _ _
theorem opT_cv (hc : CvCall call call') (hi : CvInl inl inl') {k : Nat → V → Hp → List Tok → R} {k' : V → Hp → List Tok → R} (hk : CvK3 k k') : Cv (fun n => opT E (call n) (inl n) cuts ops o nid F H (k n)) (opT E call' inl' cuts ops o nid F H k'):=by
 unfold opT
 split
 ·exact hi _ _ _ _ _ _ hk
 ·split
  ·rename_i U _
   exact opK_cv hc hi (k:=fun n v H => k n v H U) (k':=fun v H => k' v H U) fun v H => hk v H U
  ·exact Cv.const none
theorem opsT_cv (hc : CvCall call call') (hi : CvInl inl inl') {base : Nat} {k : Nat → Fr → Hp → List Tok → R} {k' : Fr → Hp → List Tok → R} (hk : CvK3 k k') : ∀ (l : List Nat) (F : Fr) (H : Hp) (U : List Tok),Cv (fun n => opsT E (call n) (inl n) cuts ops base l F H U (k n)) (opsT E call' inl' cuts ops base l F H U k')
 | [],F,H,U => hk _ _ _
 | i :: l,F,H,U => by
  simp only [opsT]
  cases ops[i]? with
  | none => exact Cv.const none
  | some o => exact guard_cv (fun F => opT_cv hc hi fun v H U' => opsT_cv hc hi hk l _ _ _) (fun F => opsT_cv hc hi hk l _ _ _)
theorem opsDT_cv (hc : CvCall call call') (hi : CvInl inl inl') {base : Nat} {k : Nat → Fr → Hp → List Tok → R} {k' : Fr → Hp → List Tok → R} (hk : CvK3 k k') : ∀ (l : List (Nat × List Nat)) (rec : List (Nat × List Tok)) (hv : List Nat) (F : Fr) (H : Hp) (U : List Tok),Cv (fun n => opsDT E (call n) (inl n) cuts ops base l rec hv F H U (k n)) (opsDT E call' inl' cuts ops base l rec hv F H U k')
 | [],rec,hv,F,H,U => hk _ _ _
 | (i,anc) :: l,rec,hv,F,H,U => by
  simp only [opsDT]
  cases ops[i]? with
  | none => exact Cv.const none
  | some o =>
   refine guard_cv (fun F => ?_) (fun F => opsDT_cv hc hi hk l _ _ _ _ _)
   split
   ·exact Cv.gB fun _ => opK_cv hc hi fun v H => opsDT_cv hc hi hk l _ _ _ _ _
   ·split
    ·rename_i q _
     exact Cv.gB fun _ => hi _ _ _ _ (fun n v H U' => gB (free (some U') anc rec) (opsDT E (call n) (inl n) cuts ops base l ((i,[star]) :: rec) (i :: hv) (putV F o.dst v) H (U ++ U') (k n))) (fun v H U' => gB (free (some U') anc rec) (opsDT E call' inl' cuts ops base l ((i,[star]) :: rec) (i :: hv) (putV F o.dst v) H (U ++ U') k')) fun v H U' => Cv.gB fun _ => opsDT_cv hc hi hk l _ _ _ _ _
    ·split
     ·exact Cv.gB fun _ => opK_cv hc hi fun v H => opsDT_cv hc hi hk l _ _ _ _ _
     ·exact Cv.const none
theorem join_cv {a : Option Ann} {J k : Nat → Fr → Hp → R} {J' k' : Fr → Hp → R} (hJ : CvK J J') (hk : CvK k k') : CvK (fun n => join a (J n) (k n)) (join a J' k'):=by
 intro F H
 unfold join
 cases a with
 | none => exact hk _ _
 | some a =>
  simp only
  cases normal a F H with
  | none => exact Cv.const none
  | some p => exact hJ _ _
structure CvKont (K : Nat → Kont) (K' : Kont) : Prop where
 norm : CvK (fun n => (K n).norm) K'.norm
 ret : CvK (fun n => (K n).ret) K'.ret
 exits : ∀ id,(∃ k k',(∀ n,findExit id (K n).exits = some (k n)) ∧ findExit id K'.exits = some k' ∧ CvK k k') ∨ ((∀ n,findExit id (K n).exits = none) ∧ findExit id K'.exits = none)
theorem CvKont.withNorm {K : Nat → Kont} {K' : Kont} (h : CvKont K K') {k : Nat → Fr → Hp → R} {k' : Fr → Hp → R} (hk : CvK k k') : CvKont (fun n => { K n with norm:=k n }) { K' with norm:=k' }:=⟨hk,h.ret,h.exits⟩
theorem CvKont.block {K : Nat → Kont} {K' : Kont} (h : CvKont K K') {id : Nat} {k : Nat → Fr → Hp → R} {k' : Fr → Hp → R} (hk : CvK k k') :
  CvKont (fun n => { K n with exits:=(id,k n) :: (K n).exits,norm:=k n }) { K' with exits:=(id,k') :: K'.exits,norm:=k' }:=by
 refine ⟨hk,h.ret,fun i => ?_⟩
 simp only [findExit]
 split
 ·exact .inl ⟨k,k',fun _ => rfl,rfl,hk⟩
 ·exact h.exits i
variable {J : Nat → List Nat → Fr → Hp → R} {J' : List Nat → Fr → Hp → R} {g : Nat}
theorem execK_cv (hc : CvCall call call') (hi : CvInl inl inl') (hJ : ∀ p,CvK (fun n => J n p) (J' p)) : ∀ (c : Code) (p : List Nat) (F : Fr) (H : Hp) {K : Nat → Kont} {K' : Kont},CvKont K K' → Cv (fun n => execK E (call n) (inl n) g (J n) c p F H (K n)) (execK E call' inl' g J' c p F H K')
 | .skip,p,F,H,K,K',hK => hK.norm _ _
 | .label _,p,F,H,K,K',hK => hK.norm _ _
 | .region id ops draw,p,F,H,K,K',hK => by
  simp only [execK]
  cases draw with
  | false => exact opsK_cv hc hi (join_cv (hJ p) hK.norm) _ _ _
  | true => exact Cv.gB fun _ => opsDK_cv hc hi (join_cv (hJ p) hK.norm) _ _ _ _ _
 | .seq a b,p,F,H,K,K',hK => by
  simp only [execK]
  exact execK_cv hc hi hJ a _ F H (hK.withNorm (join_cv (hJ p) fun F H => execK_cv hc hi hJ b _ F H hK))
 | .cond c a b,p,F,H,K,K',hK => Cv.condV (execK_cv hc hi hJ a _ F H hK) (execK_cv hc hi hJ b _ F H hK)
 | .block id c,p,F,H,K,K',hK => by
  simp only [execK]
  exact execK_cv hc hi hJ c _ F H (hK.block (join_cv (hJ p) hK.norm))
 | .loop c,p,F,H,K,K',hK => by
  simp only [execK]
  exact join_cv (hJ p) (fun _ _ => Cv.const none) F H
 | .scope c,p,F,H,K,K',hK => execK_cv hc hi hJ c _ F H hK
 | .exit id,p,F,H,K,K',hK => by
  simp only [execK]
  rcases hK.exits id with ⟨k,k',h1,h2,h3⟩ | ⟨h1,h2⟩
  ·simp only [h1,h2];exact h3 _ _
  ·simp only [h1,h2];exact Cv.const none
 | .ret,p,F,H,K,K',hK => hK.ret _ _
 | .goto _,p,F,H,K,K',hK => by simp only [execK];exact Cv.const none
 | .refuse _,p,F,H,K,K',hK => by simp only [execK];exact Cv.const none
 | .rangeFunc _ _ _ _,p,F,H,K,K',hK => by simp only [execK];exact Cv.const none
theorem segK_cv (hc : CvCall call call') (hi : CvInl inl inl') (hJ : ∀ p,CvK (fun n => J n p) (J' p)) : ∀ (c : Code) (h path : List Nat) (F : Fr) (H : Hp) {K : Nat → Kont} {K' : Kont},CvKont K K' → Cv (fun n => segK E (call n) (inl n) g (J n) c h path F H (K n)) (segK E call' inl' g J' c h path F H K'):=by
 intro c
 induction c with
 | region id ops draw =>
  intro h path F H K K' hK
  cases path with
  | nil => exact hK.norm _ _
  | cons q p => exact Cv.const none
 | seq a b iha ihb =>
  intro h path F H K K' hK
  cases path with
  | nil => exact execK_cv hc hi hJ b _ F H hK
  | cons q p =>
   rcases q with _ | _ | q
   ·exact iha _ p F H (hK.withNorm (join_cv (hJ h) fun F H => execK_cv hc hi hJ b _ F H hK))
   ·exact ihb _ p F H hK
   ·exact Cv.const none
 | cond c a b iha ihb =>
  intro h path F H K K' hK
  cases path with
  | nil => exact Cv.const none
  | cons q p =>
   rcases q with _ | _ | _ | _ | q
   ·exact Cv.const none
   ·exact Cv.const none
   ·exact iha _ p F H hK
   ·exact ihb _ p F H hK
   ·exact Cv.const none
 | block id c ih =>
  intro h path F H K K' hK
  cases path with
  | nil => exact hK.norm _ _
  | cons q p =>
   rcases q with _ | _ | _ | _ | _ | q
   all_goals try exact Cv.const none
   exact ih _ p F H (hK.block (join_cv (hJ h) hK.norm))
 | loop c ih =>
  intro h path F H K K' hK
  cases path with
  | nil =>
   exact execK_cv hc hi hJ c _ F H (hK.withNorm (join_cv (hJ h) fun _ _ => Cv.const none))
  | cons q p =>
   rcases q with _ | _ | _ | _ | _ | _ | q
   all_goals try exact Cv.const none
   exact ih _ p F H (hK.withNorm (join_cv (hJ h) fun _ _ => Cv.const none))
 | scope c ih =>
  intro h path F H K K' hK
  cases path with
  | nil => exact Cv.const none
  | cons q p =>
   rcases q with _ | _ | _ | _ | _ | _ | _ | q
   all_goals try exact Cv.const none
   exact ih _ p F H hK
 | _ => intro h path F H K K' hK;cases path <;> exact Cv.const none
theorem resV_once {γ : Type} (E : Env) (F : Fr) (H : Hp) {f : List V → (V → γ → R) → R} (h : ∀ vs,Once (f vs)) : ∀ (rs : List ResultVar) (acc : List V),Once (fun k : V → γ → R => resV E F H rs acc fun vs => f vs k)
 | [],acc => h _
 | .tmp t :: rs,acc => resV_once E F H h rs _
 | .cell a t :: rs,acc => Once.loadK (f:=fun v k => resV E F H rs (v :: acc) fun vs => f vs k) fun v => resV_once E F H h rs _
theorem joinT_cv {a : Option Ann} {k : Nat → Fr → Hp → List Tok → R} {k' : Fr → Hp → List Tok → R} (hk : CvK3 k k') : CvK3 (fun n => joinT a (k n)) (joinT a k'):=by
 intro F H U
 unfold joinT
 cases a with
 | none => exact hk _ _ _
 | some a => exact Cv.const none
structure CvKontT (K : Nat → KontT) (K' : KontT) : Prop where
 norm : CvK3 (fun n => (K n).norm) K'.norm
 ret : CvK3 (fun n => (K n).ret) K'.ret
 exits : ∀ id,(∃ k k',(∀ n,findExitT id (K n).exits = some (k n)) ∧ findExitT id K'.exits = some k' ∧ CvK3 k k') ∨ ((∀ n,findExitT id (K n).exits = none) ∧ findExitT id K'.exits = none)
theorem execT_cv (hc : CvCall call call') (hi : CvInl inl inl') : ∀ (c : Code) (p : List Nat) (F : Fr) (H : Hp) (U : List Tok) {K : Nat → KontT} {K' : KontT},CvKontT K K' → Cv (fun n => execT E (call n) (inl n) g c p F H U (K n)) (execT E call' inl' g c p F H U K')
 | .skip,p,F,H,U,K,K',hK => hK.norm _ _ _
 | .label _,p,F,H,U,K,K',hK => hK.norm _ _ _
 | .region id ops draw,p,F,H,U,K,K',hK => by
  simp only [execT]
  cases draw with
  | false => exact opsT_cv hc hi (joinT_cv hK.norm) _ _ _ _
  | true => exact Cv.gB fun _ => opsDT_cv hc hi (joinT_cv hK.norm) _ _ _ _ _ _
 | .seq a b,p,F,H,U,K,K',hK => by
  simp only [execT]
  exact execT_cv hc hi a _ F H U ⟨joinT_cv fun F H U => execT_cv hc hi b _ F H U hK,hK.ret,hK.exits⟩
 | .cond c a b,p,F,H,U,K,K',hK => Cv.condV (execT_cv hc hi a _ F H U hK) (execT_cv hc hi b _ F H U hK)
 | .block id c,p,F,H,U,K,K',hK => by
  simp only [execT]
  refine execT_cv hc hi c _ F H U ⟨joinT_cv hK.norm,hK.ret,fun i => ?_⟩
  simp only [findExitT]
  split
  ·exact .inl ⟨_,_,fun _ => rfl,rfl,joinT_cv hK.norm⟩
  ·exact hK.exits i
 | .loop c,p,F,H,U,K,K',hK => by simp only [execT];exact Cv.const none
 | .scope c,p,F,H,U,K,K',hK => execT_cv hc hi c _ F H U hK
 | .exit id,p,F,H,U,K,K',hK => by
  simp only [execT]
  rcases hK.exits id with ⟨k,k',h1,h2,h3⟩ | ⟨h1,h2⟩
  ·simp only [h1,h2];exact h3 _ _ _
  ·simp only [h1,h2];exact Cv.const none
 | .ret,p,F,H,U,K,K',hK => hK.ret _ _ _
 | .goto _,p,F,H,U,K,K',hK => by simp only [execT];exact Cv.const none
 | .refuse _,p,F,H,U,K,K',hK => by simp only [execT];exact Cv.const none
 | .rangeFunc _ _ _ _,p,F,H,U,K,K',hK => by simp only [execT];exact Cv.const none
theorem inlK_cv (hc : CvCall call call') : ∀ d,CvInl (fun n => inlK E (call n) d) (inlK E call' d)
 | 0 => fun g fn F H k k' hk => Cv.const none
 | d + 1 => fun g fn F H k k' hk => by
  simp only [inlK]
  split
  ·have hr : CvK3 (fun n => fun F H U => resV E F H fn.results.toList [] fun vs => k n (packV vs) H U) (fun F H U => resV E F H fn.results.toList [] fun vs => k' (packV vs) H U):=fun F H U =>
    Once.cv (f:=fun k : V → Hp → R => resV E F H fn.results.toList [] fun vs => k (packV vs) H) (resV_once E F H (f:=fun vs k => k (packV vs) H) (fun _ => Once.pure _ _) _ _) (k:=fun n v H => k n v H U) (k':=fun v H => k' v H U) fun v H => hk v H U
   exact execT_cv hc (inlK_cv hc d) _ _ _ _ _ ⟨hr,hr,fun id => .inr ⟨fun _ => rfl,rfl⟩⟩
  ·exact Cv.const none
theorem bodyK_cv (hc : CvCall call call') (hJ : ∀ p,CvK (fun n => J n p) (J' p)) (own : List (Nat × Nat × Nat)) (args : List V) : Cv (fun n => bodyK E (call n) (J n) g own args) (bodyK E call' J' g own args):=by
 unfold bodyK
 split
 ·split
  ·refine Cv.gB fun _ => ?_
   split
   ·exact execK_cv hc (inlK_cv hc 3) hJ _ _ _ _ ⟨fun _ _ => Cv.const _,fun _ _ => Cv.const _,fun id => .inr ⟨fun _ => rfl,rfl⟩⟩
   ·exact Cv.const none
  ·exact Cv.const none
 ·exact Cv.const none
theorem pointK_cv (hc : CvCall call call') (hJ : ∀ p,CvK (fun n => J n p) (J' p)) (own : List (Nat × Nat × Nat)) (path : List Nat) : Cv (fun n => pointK E (call n) (J n) g own path F H) (pointK E call' J' g own path F H):=by
 unfold pointK
 split
 ·split
  ·exact segK_cv hc (inlK_cv hc 3) hJ _ _ _ _ _ ⟨fun _ _ => Cv.const _,fun _ _ => Cv.const _,fun id => .inr ⟨fun _ => rfl,rfl⟩⟩
  ·exact Cv.const none
 ·exact Cv.const none
theorem argsK_cv {f : Nat → List V → R} {f' : List V → R} (hf : ∀ vs,Cv (fun n => f n vs) (f' vs)) : ∀ (ts : List Nat) (xs : List FV) (acc : List V),Cv (fun n => argsK E ts xs acc (f n)) (argsK E ts xs acc f')
 | [],[],acc => hf _
 | [],_ :: _,acc => by simp only [argsK];exact Cv.const none
 | _ :: _,[],acc => by simp only [argsK];exact Cv.const none
 | t :: ts,x :: xs,acc => by
  simp only [argsK,splitAs]
  split
  ·exact Cv.gB fun _ => argsK_cv hf ts xs _
  ·exact argsK_cv hf ts xs _
def stepF (E : Env) (call : Nat → List FV → Option FV) (J : Nat → List (Nat × Nat × Nat) → List Nat → Fr → Hp → R) (g : Nat) (args : List FV) : Option FV:=match E.ov g with
 | some f => f args
 | none => match E.mode g,E.fn g with
  | .call own _,some fn => argsK E (pars E fn) args [] fun vs => bodyK E call (J g own) g own vs
  | .move _ own,some fn => argsK E (pars E fn) args [] fun vs => bodyK E call (J g own) g own vs
  | _,_ => none
theorem callF_step (E : Env) (n g : Nat) (args : List FV) : callF E (n + 1) g args = stepF E (callF E n) (fun g own => jump E (callF E n) g own n) g args:=rfl
theorem stepF_cv {J : Nat → Nat → List (Nat × Nat × Nat) → List Nat → Fr → Hp → R} {J' : Nat → List (Nat × Nat × Nat) → List Nat → Fr → Hp → R} (hc : CvCall call call') (hJ : ∀ g own p,CvK (fun n => J n g own p) (J' g own p)) (g : Nat) (args : List FV) : Cv (fun n => stepF E (call n) (J n) g args) (stepF E call' J' g args):=by
 unfold stepF
 split
 ·exact Cv.const _
 ·split
  ·exact argsK_cv (fun vs => bodyK_cv hc (fun p => hJ _ _ p) _ _) _ _ _
  ·exact argsK_cv (fun vs => bodyK_cv hc (fun p => hJ _ _ p) _ _) _ _ _
  ·exact Cv.const none
def two {α : Type} (a b : α) : Nat → α | 0 => a | _ + 1 => b
theorem two_cv {α : Type} {a b : Option α} (h : ∀ y,a = some y → b = some y) : Cv (fun n => two a b n) b:=⟨fun y hy => ⟨1,fun n hn => by obtain ⟨m,rfl⟩ : ∃ m,n = m + 1:=⟨n - 1,by omega⟩;exact hy⟩,fun n y hy => by cases n with | zero => exact h y hy | succ n => exact hy⟩
theorem two_map {α β : Type} (f : α → β) (a b : α) (n : Nat) : f (two a b n) = two (f a) (f b) n:=by cases n <;> rfl
theorem jump_mono {c c' : Nat → List FV → Option FV} (h : ∀ g xs y,c g xs = some y → c' g xs = some y) (own : List (Nat × Nat × Nat)) : ∀ (m m' : Nat),m ≤ m' → ∀ p F H y,jump E c g own m p F H = some y → jump E c' g own m' p F H = some y
 | 0,m',hm,p,F,H,y,hy => by simp [jump] at hy
 | m + 1,0,hm,p,F,H,y,hy => by omega
 | m + 1,m' + 1,hm,p,F,H,y,hy => by
  have hc : CvCall (two c c') c':=fun g xs => by
   have:=two_cv (h g xs)
   simpa only [← two_map (fun f : Nat → List FV → Option FV => f g xs)] using this
  have hJ : ∀ p,CvK (fun n => two (jump E c g own m) (jump E c' g own m') n p) (jump E c' g own m' p):=fun p F H => by
   have:=two_cv (jump_mono h own m m' (by omega) p F H)
   simpa only [← two_map (fun f : List Nat → Fr → Hp → R => f p F H)] using this
  exact (pointK_cv (E:=E) (g:=g) (F:=F) (H:=H) hc hJ own p.reverse).of 0 y hy
theorem callF_mono (E : Env) : ∀ (n : Nat) (g : Nat) (xs : List FV) (y : FV),callF E n g xs = some y → callF E (n + 1) g xs = some y
 | 0,g,xs,y,hy => by simp [callF] at hy
 | n + 1,g,xs,y,hy => by
  rw [callF_step] at hy ⊢
  have h:=callF_mono E n
  have hc : CvCall (two (callF E n) (callF E (n + 1))) (callF E (n + 1)):=fun g xs => by
   have:=two_cv (h g xs)
   simpa only [← two_map (fun f : Nat → List FV → Option FV => f g xs)] using this
  have hJ : ∀ g own p,CvK (fun k => two (fun g own => jump E (callF E n) g own n) (fun g own => jump E (callF E (n + 1)) g own (n + 1)) k g own p) (jump E (callF E (n + 1)) g own (n + 1) p):=fun g own p F H => by
   refine ⟨fun y hy => ⟨1,fun k hk => ?_⟩,fun k y hy => ?_⟩
   ·obtain ⟨j,rfl⟩ : ∃ j,k = j + 1:=⟨k - 1,by omega⟩
    exact hy
   ·cases k with
    | zero => exact jump_mono (E:=E) (g:=g) h own n (n + 1) (by omega) p F H y hy
    | succ k => exact hy
  exact (stepF_cv (E:=E) hc hJ g xs).of 0 y hy
noncomputable def lim {α : Type} (f : Nat → Option α) : Option α:=by
 classical
 exact if h : ∃ y n,f n = some y then some h.choose else none
theorem mono_le {α : Type} {f : Nat → Option α} (h : ∀ n y,f n = some y → f (n + 1) = some y) {n y} (hy : f n = some y) : ∀ m,n ≤ m → f m = some y
 | 0,hm => by
  obtain rfl : n = 0:=by omega
  exact hy
 | m + 1,hm => by
  rcases Nat.lt_or_ge m n with h1 | h1
  ·obtain rfl : n = m + 1:=by omega
   exact hy
  ·exact h m y (mono_le h hy m h1)
theorem lim_cv {α : Type} {f : Nat → Option α} (h : ∀ n y,f n = some y → f (n + 1) = some y) : Cv f (lim f):=by
 have key : ∀ n y,f n = some y → lim f = some y:=by
  intro n y hy
  unfold lim
  have hex : ∃ y n,f n = some y:=⟨y,n,hy⟩
  simp only [dif_pos hex]
  obtain ⟨m,hm⟩:=hex.choose_spec
  have h1:=mono_le h hm (max n m) (by omega)
  have h2:=mono_le h hy (max n m) (by omega)
  rw [h1] at h2
  exact h2
 refine ⟨fun y hy => ?_,key⟩
 by_cases hex : ∃ y n,f n = some y
 ·obtain ⟨z,n,hz⟩:=hex
  have:=key n z hz
  rw [hy] at this
  cases this
  exact ⟨n,fun m hm => mono_le h hz m hm⟩
 ·unfold lim at hy
  simp only [dif_neg hex] at hy
  cases hy
noncomputable def den (E : Env) (g : Nat) (xs : List FV) : Option FV:=lim fun n => callF E n g xs
noncomputable def jden (E : Env) (g : Nat) (own : List (Nat × Nat × Nat)) (p : List Nat) (F : Fr) (H : Hp) : R:=lim fun n => jump E (callF E n) g own n p F H
theorem den_cv (E : Env) : CvCall (fun n => callF E n) (den E):=fun g xs => lim_cv fun n y => callF_mono E n g xs y
theorem jden_cv (E : Env) (g : Nat) (own : List (Nat × Nat × Nat)) (p : List Nat) : CvK (fun n => jump E (callF E n) g own n p) (jden E g own p):=fun F H => lim_cv fun n y h => jump_mono (fun g xs y => callF_mono E n g xs y) own n (n + 1) (by omega) p F H y h
theorem Cv.unique {α : Type} {f : Nat → Option α} {r r' : Option α} (h : Cv f r) (h' : Cv f r') : r = r':=by
 cases hr : r with
 | some y =>
  obtain ⟨n,hn⟩:=h.to y hr
  exact (h'.of n y (hn n (Nat.le_refl _))).symm
 | none =>
  cases hr' : r' with
  | none => rfl
  | some y =>
   obtain ⟨n,hn⟩:=h'.to y hr'
   have:=h.of n y (hn n (Nat.le_refl _))
   rw [hr] at this
   cases this
theorem Cv.shift {α : Type} {f : Nat → Option α} {r : Option α} (h : Cv f r) : Cv (fun n => f (n + 1)) r :=
 ⟨fun y hy => let ⟨n0,h0⟩:=h.to y hy;⟨n0,fun n hn => h0 (n + 1) (by omega)⟩,fun n y hy => h.of (n + 1) y hy⟩
theorem den_eq (E : Env) (g : Nat) (xs : List FV) : den E g xs = stepF E (den E) (jden E) g xs :=
 ((den_cv E g xs).shift).unique (stepF_cv (den_cv E) (fun g own p => jden_cv E g own p) g xs)
theorem jden_eq (E : Env) (g : Nat) (own : List (Nat × Nat × Nat)) (p : List Nat) (F : Fr) (H : Hp) : jden E g own p F H = pointK E (den E) (jden E g own) g own p.reverse F H:=by
 have h1:=(jden_cv E g own p F H).shift
 refine h1.unique ⟨fun y hy => ?_,fun n y hy => ?_⟩
 ·obtain ⟨n0,h0⟩:=(pointK_cv (E:=E) (g:=g) (F:=F) (H:=H) (den_cv E) (fun p => jden_cv E g own p) own p.reverse).to y hy
  refine ⟨n0,fun n hn => ?_⟩
  exact jump_mono (fun g xs y => callF_mono E n g xs y) own (n + 1) (n + 1) (Nat.le_refl _) p F H y (h0 n hn)
 ·have h2 : pointK E (callF E (n + 1)) (jump E (callF E (n + 1)) g own n) g own p.reverse F H = some y:=hy
  have hJ : ∀ p,CvK (fun k => two (jump E (callF E (n + 1)) g own n) (jump E (callF E (n + 1)) g own (n + 1)) k p) (jump E (callF E (n + 1)) g own (n + 1) p):=fun p F H => by
   have:=two_cv (jump_mono (E:=E) (g:=g) (c:=callF E (n + 1)) (fun g xs y h => h) own n (n + 1) (by omega) p F H)
   simpa only [← two_map (fun f : List Nat → Fr → Hp → R => f p F H)] using this
  have h3:=(pointK_cv (E:=E) (g:=g) (F:=F) (H:=H) (call:=fun _ => callF E (n + 1)) (fun g xs => Cv.const _) hJ own p.reverse).of 0 y h2
  exact (pointK_cv (E:=E) (g:=g) (F:=F) (H:=H) (den_cv E) (fun p => jden_cv E g own p) own p.reverse).of (n + 1) y h3
theorem den_some {E : Env} {g : Nat} {xs : List FV} {y : FV} (h : den E g xs = some y) : ∃ n,callF E n g xs = some y:=let ⟨n,hn⟩:=(den_cv E g xs).to y h;⟨n,hn n (Nat.le_refl _)⟩
end
end Go.Proofs.YtpffkpaiihcffaaGreatDoor.VM
