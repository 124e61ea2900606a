/- Regions that draw: what an operation does, whatever follows. -/
import Derived.Test.YtpffkpaiihcffaaGreatDoorNorm
set_option linter.unusedVariables false
set_option linter.unusedSimpArgs false
set_option linter.unusedSectionVars false
namespace Go.Proofs.YtpffkpaiihcffaaGreatDoor.VM
open Go Go.RowKit
section
variable {E : Env} {call : Nat → List FV → Option FV} {inl : Inl} {cuts : List Nat} {ops : Array Oper} {o : Oper} {nid : Nat} {F : Fr} {H : Hp} {res : FV}
def Once {α β : Type} (f : (α → β → R) → R) : Prop:=∀ k res,f k = some res → ∃ a b,k a b = some res ∧ ∀ k',f k' = k' a b
theorem Once.bindO {γ α β : Type} {x : Option γ} {f : γ → (α → β → R) → R} (h : ∀ c,x = some c → Once (f c)) : Once (fun k => Go.Proofs.YtpffkpaiihcffaaGreatDoor.VM.bindO x fun c => f c k):=by
 intro k res hk
 obtain ⟨c,hx,hk⟩:=bindO_some hk
 obtain ⟨a,b,h1,h2⟩:=h c hx k res hk
 exact ⟨a,b,h1,fun k' => by simp [Go.Proofs.YtpffkpaiihcffaaGreatDoor.VM.bindO,hx,h2]⟩
theorem Once.gB {α β : Type} {b : Bool} {f : (α → β → R) → R} (h : b = true → Once f) : Once (fun k => Go.Proofs.YtpffkpaiihcffaaGreatDoor.VM.gB b (f k)):=by
 intro k res hk
 obtain ⟨hb,hk⟩:=gB_some hk
 obtain ⟨a,c,h1,h2⟩:=h hb k res hk
 exact ⟨a,c,h1,fun k' => by simp [Go.Proofs.YtpffkpaiihcffaaGreatDoor.VM.gB,hb,h2]⟩
theorem Once.pure {α β : Type} (a : α) (b : β) : Once (fun k : α → β → R => k a b):=fun k res h => ⟨a,b,h,fun _ => rfl⟩
theorem Once.none {α β : Type} : Once (fun _ : α → β → R => Option.none):=fun k res h => by cases h
theorem Once.newB {α β : Type} {b : Blk} {f : Hp → (α → β → R) → R} (h : ∀ H',Once (f H')) : Once (fun k => Go.Proofs.YtpffkpaiihcffaaGreatDoor.VM.newB H nid b fun H => f H k):=by
 intro k res hk
 obtain ⟨hf,hk⟩:=newB_some hk
 obtain ⟨a,c,h1,h2⟩:=h _ k res hk
 exact ⟨a,c,h1,fun k' => by simp [Go.Proofs.YtpffkpaiihcffaaGreatDoor.VM.newB,hf,h2]⟩
theorem Once.ldCell {p : V} {off : Nat} {α β : Type} {f : V → (α → β → R) → R} (h : ∀ v,Once (f v)) : Once (fun k => Go.Proofs.YtpffkpaiihcffaaGreatDoor.VM.ldCell H p off fun v => f v k):=by
 cases p with
 | f x => exact Once.bindO fun c _ => h _
 | ptr id i o =>
  unfold Go.Proofs.YtpffkpaiihcffaaGreatDoor.VM.ldCell
  simp only
  cases hb : H[id]? with
  | none => exact Once.none
  | some b =>
   cases b with
   | box cs => cases i with
    | zero => cases hc : cs[o + off]? with
     | none => simp only [hc];exact Once.none
     | some v => simp only [hc];exact h v
    | succ i => exact Once.none
   | fzb cs => cases i with
    | zero => cases hc : cs[o + off]? with
     | none => simp only [hc];exact Once.none
     | some v => simp only [hc];exact h _
    | succ i => exact Once.none
   | own s r => exact Once.bindO fun c _ => h _
   | old r => exact Once.bindO fun c _ => h _
   | fz r => exact Once.bindO fun c _ => h _
   | _ => exact Once.none
 | _ => exact Once.none
theorem Once.ldCells {p : V} {α β : Type} {f : List V → (α → β → R) → R} (h : ∀ vs,Once (f vs)) : ∀ (n off : Nat) (acc : List V),Once (fun k => Go.Proofs.YtpffkpaiihcffaaGreatDoor.VM.ldCells H p n off acc fun vs => f vs k)
 | 0,off,acc => h _
 | n + 1,off,acc => Once.ldCell (f:=fun v k => Go.Proofs.YtpffkpaiihcffaaGreatDoor.VM.ldCells H p n (off + 1) (v :: acc) fun vs => f vs k) fun v => Once.ldCells h n (off + 1) (v :: acc)
theorem Once.splitAs {agg : Bool} {n : Nat} {x : FV} {α β : Type} {f : V → (α → β → R) → R} (h : ∀ v,Once (f v)) : Once (fun k => Go.Proofs.YtpffkpaiihcffaaGreatDoor.VM.splitAs agg n x fun v => f v k):=by
 cases agg with
 | true => exact Once.gB fun _ => h _
 | false => exact h _
theorem Once.minmaxK {b : Bool} {α β : Type} {f : V → (α → β → R) → R} (h : ∀ v,Once (f v)) : ∀ (rest : List V) (x : FV),Once (fun k => Go.Proofs.YtpffkpaiihcffaaGreatDoor.VM.minmaxK b x rest fun v => f v k)
 | [],x => h _
 | v :: rest,x => by
  cases v with
  | f y => exact Once.bindO fun z _ => Once.minmaxK h rest z
  | _ => exact Once.none
theorem Once.loadK {t : Nat} {p : V} {α β : Type} {f : V → (α → β → R) → R} (h : ∀ v,Once (f v)) : Once (fun k => Go.Proofs.YtpffkpaiihcffaaGreatDoor.VM.loadK E H t p fun v => f v k):=by
 unfold Go.Proofs.YtpffkpaiihcffaaGreatDoor.VM.loadK
 refine Once.gB fun _ => ?_
 cases (E.ty t).isAgg with
 | true => exact Once.gB fun _ => Once.ldCells (f:=fun cs k => f (.agg cs) k) (fun vs => h _) _ _ _
 | false => exact Once.ldCell h
theorem Once.resultsOf {n : Nat} {x : FV} {α β : Type} {f : List FV → (α → β → R) → R} (h : ∀ v,Once (f v)) : Once (fun k => Go.Proofs.YtpffkpaiihcffaaGreatDoor.VM.resultsOf n x fun v => f v k):=by
 unfold Go.Proofs.YtpffkpaiihcffaaGreatDoor.VM.resultsOf
 split
 ·exact h _
 ·exact Once.gB fun _ => h _
theorem Once.backCells {js : List (Nat × Nat)} {x : FV} {α β : Type} {f : List V → Nat → Hp → (α → β → R) → R} (h : ∀ a b c,Once (f a b c)) : ∀ (n j nid : Nat) (H : Hp) (acc : List V),Once (fun k => Go.Proofs.YtpffkpaiihcffaaGreatDoor.VM.backCells js x j n nid H acc fun a b c => f a b c k)
 | 0,j,nid,H,acc => h _ _ _
 | n + 1,j,nid,H,acc => by
  simp only [Go.Proofs.YtpffkpaiihcffaaGreatDoor.VM.backCells]
  cases ownAt js j with
  | some s => exact Once.bindO fun r _ => Once.newB (f:=fun H k => Go.Proofs.YtpffkpaiihcffaaGreatDoor.VM.backCells js x (j + 1) n (nid + 1) H (.ref nid :: acc) fun a b c => f a b c k) fun H' => Once.backCells h n _ _ _ _
  | none => exact Once.backCells h n _ _ _ _
theorem Once.putBackK {args : List V} {α β : Type} {f : Hp → (α → β → R) → R} (h : ∀ a,Once (f a)) : ∀ (ls : List (Nat × Nat × Bool)) (zs : List FV) (H : Hp),Once (fun k => Go.Proofs.YtpffkpaiihcffaaGreatDoor.VM.putBackK ls args zs H fun a => f a k)
 | [],zs,H => h _
 | q :: ls,zs,H => by
  simp only [Go.Proofs.YtpffkpaiihcffaaGreatDoor.VM.putBackK]
  split
  ·cases q.2.2 with
   | false => exact Once.putBackK h ls zs _
   | true =>
    simp only
    split
    ·exact Once.bindO fun _ _ => Once.putBackK h ls _ _
    ·exact Once.none
  ·cases q.2.2 with
   | false => exact Once.putBackK h ls zs _
   | true => exact Once.putBackK h ls _ _
  ·exact Once.none
theorem Once.backK {own : List (Nat × Nat × Nat)} {α β : Type} {f : List V → Hp → (α → β → R) → R} (h : ∀ a b,Once (f a b)) : ∀ (ts : List Nat) (i nid : Nat) (xs : List FV) (H : Hp) (acc : List V),Once (fun k => Go.Proofs.YtpffkpaiihcffaaGreatDoor.VM.backK E own i nid ts xs H acc fun a b => f a b k)
 | [],i,nid,xs,H,acc => h _ _
 | t :: ts,i,nid,[],H,acc => Once.none
 | t :: ts,i,nid,x :: xs,H,acc => by
  simp only [Go.Proofs.YtpffkpaiihcffaaGreatDoor.VM.backK]
  cases ownJ own i with
  | nil => exact Once.splitAs (f:=fun v k => Go.Proofs.YtpffkpaiihcffaaGreatDoor.VM.backK E own (i + 1) nid ts xs H (v :: acc) fun a b => f a b k) fun v => Once.backK h ts _ _ _ _ _
  | cons j js =>
   cases (E.ty t).isAgg with
   | true => exact Once.gB fun _ => Once.backCells (f:=fun cs nid H k => Go.Proofs.YtpffkpaiihcffaaGreatDoor.VM.backK E own (i + 1) nid ts xs H (.agg cs :: acc) fun a b => f a b k) (fun _ _ _ => Once.backK h ts _ _ _ _ _) _ _ _ _ _
   | false => exact Once.bindO fun r _ => Once.newB (f:=fun H k => Go.Proofs.YtpffkpaiihcffaaGreatDoor.VM.backK E own (i + 1) (nid + 1) ts xs H (.ref nid :: acc) fun a b => f a b k) fun H' => Once.backK h ts _ _ _ _ _
end
end Go.Proofs.YtpffkpaiihcffaaGreatDoor.VM
