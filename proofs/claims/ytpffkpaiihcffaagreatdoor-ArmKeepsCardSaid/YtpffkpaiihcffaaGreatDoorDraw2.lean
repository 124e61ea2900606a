/- Regions that draw: every operation but a body in place goes on once. -/
import Derived.Test.YtpffkpaiihcffaaGreatDoorDraw
set_option linter.unusedVariables false
set_option linter.unusedSimpArgs false
set_option linter.unusedSectionVars false
namespace Go.Proofs.YtpffkpaiihcffaaGreatDoor.VM
open Go Go.RowKit
section
variable {E : Env} {call : Nat → List FV → Option FV} {inl : Inl} {cuts : List Nat} {ops : Array Oper} {o : Oper} {nid : Nat} {F : Fr} {H : Hp} {res : FV}
theorem Once.fill {b : Blk} (v : V) : Once (fun k : V → Hp → R => Go.Proofs.YtpffkpaiihcffaaGreatDoor.VM.newB H nid b fun H => k v H):=Once.newB (f:=fun (H : Hp) (k : V → Hp → R) => k v H) fun _ => Once.pure _ _
theorem Once.onNil {α β : Type} {x : FV} {f : (α → β → R) → R} (h : Once f) : Once (fun k => Go.Proofs.YtpffkpaiihcffaaGreatDoor.VM.onNil x (f k)):=by
 cases x with
 | nilS => exact h
 | _ => exact Once.none
theorem append_once {e : Nat} {b : Bool} {s x : V} : Once (fun k : V → Hp → R => appendK E nid H e b s x k):=by
 unfold appendK
 refine Once.gB fun _ => ?_
 have fin : ∀ ys,Once (fun k : V → Hp → R => gB (rowsSz (E.ty e).size ys) (match s with
   | .f y => onNil y (gB (ys.length * (E.ty e).bytes ≤ room) (newB H nid (.own (E.ty e).size ys) fun H => k (.ref nid) H))
   | .ref id => (match H[id]? with
    | some (.own sz r) => gB (Nat.beq sz (E.ty e).size) (gB ((r.length + ys.length) * (E.ty e).bytes ≤ room) (newB ((settle H).set id (.old r)) nid (.own sz (r ++ ys)) fun H => k (.ref nid) H))
    | _ => none)
   | _ => none)):=by
  intro ys
  refine Once.gB fun _ => ?_
  split
  ·exact Once.onNil (Once.gB fun _ => Once.fill _)
  ·split
   ·exact Once.gB fun _ => Once.gB fun _ => Once.fill _
   ·exact Once.none
  ·exact Once.none
 unfold srcRows
 cases b with
 | true =>
  simp only
  cases x with
  | f y => exact Once.bindO fun ys _ => fin ys
  | _ => exact Once.none
 | false =>
  simp only
  cases x with
  | f y => exact Once.bindO fun ys _ => fin ys
  | ref id =>
   simp only
   cases rowsOf H id with
   | none => exact Once.none
   | some r => exact fin r
  | _ => exact Once.none
theorem appendZ_once {e : Nat} {s x : V} : Once (fun k : V → Hp → R => appendZ E nid H e s x k):=by
 unfold appendZ
 split
 ·split
  ·exact Once.onNil (Once.bindO fun _ _ => Once.gB fun _ => Once.fill _)
  ·exact Once.none
 ·exact Once.none
theorem opK_once (hno : ∀ c fo g caps,o.op = .call c → c.callee = .value fo → evalV F fo = .func g caps → E.mode g ≠ .inl) (hnx : ∀ x b,o.op ≠ .next x b) (hnn : ∀ op xt x y yt,o.op = .binOp op xt x y yt → isNilO y = false) : Once (fun k => opK E call inl cuts ops o nid F H k):=by
 cases ho : o.op with
 | move x => simp only [opK,ho];exact Once.pure _ _
 | assign x => simp only [opK,ho];exact Once.pure _ _
 | pick c x y =>
  simp only [opK,ho]
  split
  ·exact Once.pure _ _
  ·split
   ·exact Once.bindO fun _ _ => Once.pure _ _
   ·exact Once.none
  ·exact Once.none
 | alloc t => simp only [opK,ho];exact Once.gB fun _ => Once.fill _
 | box t x =>
  simp only [opK,ho]
  split
  ·exact Once.gB fun _ => Once.fill _
  ·exact Once.none
 | build t parts =>
  simp only [opK,ho]
  split
  ·split
   ·exact Once.pure _ _
   ·exact Once.none
  ·split
   ·exact Once.pure _ _
   ·exact Once.none
  ·exact Once.none
 | buildSlice t len parts =>
  simp only [opK,ho]
  split
  ·split
   ·refine Once.gB fun _ => ?_
    split
    ·exact Once.pure _ _
    ·exact Once.fill _
   ·exact Once.none
  ·exact Once.none
 | load t p => simp only [opK,ho];exact Once.loadK (f:=fun v k => k v H) fun _ => Once.pure _ _
 | store t p x =>
  simp only [opK,ho,storeK]
  split
  ·refine Once.gB fun _ => ?_
   split
   ·split
    ·exact Once.gB fun _ => Once.pure _ _
    ·refine Once.gB fun _ => Once.bindO fun _ _ => ?_
     split
     ·exact Once.pure _ _
     ·exact Once.none
    ·exact Once.none
   ·exact Once.none
  ·exact Once.none
 | nilCheck x =>
  simp only [opK,ho]
  split
  ·exact Once.gB fun _ => Once.pure _ _
  ·exact Once.pure _ _
  ·exact Once.none
 | binOp op xt x y yt =>
  simp only [opK,ho,hnn op xt x y yt ho]
  split
  ·split
   ·exact Once.bindO fun _ _ => Once.pure _ _
   ·exact Once.bindO fun _ _ => Once.pure _ _
  ·exact Once.gB fun _ => Once.bindO fun _ _ => Once.pure _ _
  ·exact Once.none
 | unOp op xt x =>
  simp only [opK,ho]
  split
  ·exact Once.bindO fun _ _ => Once.pure _ _
  ·exact Once.none
 | convert sd d x =>
  simp only [opK,ho]
  split
  ·exact Once.gB fun _ => Once.bindO fun _ _ => Once.pure _ _
  ·split
   ·split
    ·exact Once.bindO fun _ _ => Once.pure _ _
    ·exact Once.none
   ·exact Once.bindO fun _ _ => Once.pure _ _
   ·exact Once.bindO fun _ _ => Once.pure _ _
   ·exact Once.none
  ·split
   ·split
    ·split
     ·exact Once.bindO fun _ _ => Once.pure _ _
     ·exact Once.none
    ·exact Once.none
   ·exact Once.none
  ·exact Once.none
 | makeFunc fn first captured =>
  cases fn with
  | func g =>
   simp only [opK,ho]
   split
   ·exact Once.pure _ _
   ·exact Once.none
  | _ => simp only [opK,ho];exact Once.none
 | makeMap t r =>
  cases r with
  | none =>
   simp only [opK,ho]
   split
   ·exact Once.fill _
   ·exact Once.none
  | some r => simp only [opK,ho];exact Once.none
 | makeSlice t l c =>
  simp only [opK,ho]
  split
  ·exact Once.bindO fun _ _ => Once.bindO fun _ _ => Once.gB fun _ => Once.fill _
  ·exact Once.none
 | slice t x lo hi mx =>
  simp only [opK,ho]
  split
  ·split
   ·split
    ·exact Once.bindO fun _ _ => Once.pure _ _
    ·exact Once.none
   ·split
    ·split
     ·split
      ·exact Once.gB fun _ => Once.bindO fun _ _ => Once.fill _
      ·exact Once.none
     ·exact Once.none
    ·exact Once.bindO fun _ _ => Once.pure _ _
   ·split
    ·exact Once.bindO fun _ _ => Once.bindO fun _ _ => Once.gB fun _ => Once.bindO fun _ _ => Once.pure _ _
    ·exact Once.none
   ·exact Once.none
  ·exact Once.none
 | fieldAddr t x i =>
  simp only [opK,ho]
  split
  ·split
   ·exact Once.bindO fun _ _ => Once.pure _ _
   ·exact Once.gB fun _ => Once.pure _ _
   ·exact Once.none
  ·exact Once.none
 | field t x i =>
  simp only [opK,ho]
  split
  ·split
   ·exact Once.gB fun _ => Once.pure _ _
   ·split
    ·exact Once.pure _ _
    ·exact Once.none
  ·exact Once.none
 | next x b => exact absurd ho (hnx x b)
 | extract x i =>
  simp only [opK,ho]
  split
  ·split
   ·exact Once.pure _ _
   ·exact Once.none
  ·exact Once.none
 | indexAddr t x i =>
  simp only [opK,ho,idxK]
  split
  ·split
   ·exact Once.bindO fun _ _ => Once.pure _ _
   ·split
    ·exact Once.gB fun _ => Once.bindO fun _ _ => Once.pure _ _
    ·exact Once.gB fun _ => Once.bindO fun _ _ => Once.pure _ _
    ·exact Once.gB fun _ => Once.bindO fun _ _ => Once.pure _ _
    ·exact Once.none
   ·exact Once.none
  ·refine Once.gB fun _ => Once.bindO fun _ _ => Once.gB fun _ => ?_
   split
   ·exact Once.bindO fun _ _ => Once.pure _ _
   ·exact Once.gB fun _ => Once.pure _ _
   ·exact Once.none
  ·exact Once.none
 | index t x i =>
  simp only [opK,ho]
  split
  ·exact Once.bindO fun _ _ => Once.pure _ _
  ·exact Once.gB fun _ => Once.bindO fun _ _ => Once.bindO fun _ _ => Once.gB fun _ => by
    split
    ·simp only [arrCellsK_eq];exact Once.bindO fun _ _ => Once.pure _ _
    ·exact Once.gB fun _ => Once.bindO fun _ _ => Once.pure _ _
  ·exact Once.none
 | lookup t m key ok =>
  simp only [opK,ho]
  split
  ·split
   ·exact Once.gB fun _ => Once.bindO fun r _ => Once.splitAs (f:=fun v k => k (match ok with | true => V.tup [v,.f (.bool r.2)] | false => v) H) fun _ => Once.pure _ _
   ·exact Once.none
  ·exact Once.none
 | mapUpdate t m key x =>
  simp only [opK,ho]
  split
  ·split
   ·refine Once.gB fun _ => Once.gB fun _ => Once.bindO fun _ _ => ?_
    split
    ·exact Once.pure _ _
    ·exact Once.none
   ·exact Once.none
  ·exact Once.none
 | insert t m key x =>
  simp only [opK,ho]
  split
  ·split
   ·refine Once.gB fun _ => Once.gB fun _ => Once.bindO fun _ _ => ?_
    split
    ·exact Once.pure _ _
    ·exact Once.none
   ·exact Once.none
  ·exact Once.none
 | range t x =>
  simp only [opK,ho]
  split
  ·exact Once.gB fun _ => Once.fill _
  ·exact Once.none
 | call c =>
  simp only [opK,ho]
  split
  ·unfold builtinK
   split
   ·split
    ·split
     ·exact Once.bindO fun _ _ => Once.pure _ _
     ·exact Once.bindO fun _ _ => Once.pure _ _
     ·split
      ·exact Once.pure _ _
      ·exact Once.none
     ·split
      ·exact Once.pure _ _
      ·exact Once.none
     ·exact Once.none
    ·exact Once.none
   ·split
    ·split
     ·exact Once.bindO fun _ _ => Once.pure _ _
     ·exact Once.none
    ·exact Once.none
   ·split
    ·split
     ·exact append_once
     ·exact append_once
     ·exact appendZ_once
     ·exact Once.none
    ·exact Once.none
   ·exact Once.minmaxK (f:=fun v k => k v H) (fun _ => Once.pure _ _) _ _
   ·exact Once.minmaxK (f:=fun v k => k v H) (fun _ => Once.pure _ _) _ _
   ·exact Once.none
  ·rename_i fo hc
   split
   ·rename_i g caps hfo
    unfold callK
    split
    ·refine Once.gB fun _ => ?_
     split
     ·split
      ·refine Once.gB fun _ => Once.bindO fun _ _ => Once.gB fun _ => ?_
       split
       ·exact Once.pure _ _
       ·exact Once.none
      ·exact Once.none
     ·exact Once.bindO fun _ _ => Once.resultsOf (f:=fun xs k => backK E _ 0 nid _ xs _ [] fun vs H => k (packV vs) H) fun _ => Once.backK (f:=fun vs H k => k (packV vs) H) (fun _ _ => Once.pure _ _) _ _ _ _ _ _
    ·rename_i ls own fn hm hg
     unfold moveK
     exact Once.gB fun _ => Once.bindO fun _ _ => Once.resultsOf (f:=fun xs k => putBackK ls _ (xs.drop fn.resultTypes.size) _ fun H => backK E own 0 nid fn.resultTypes.toList (xs.take fn.resultTypes.size) H [] fun vs H => k (packV vs) H) fun xs => Once.putBackK (f:=fun H k => backK E own 0 nid fn.resultTypes.toList (xs.take fn.resultTypes.size) H [] fun vs H => k (packV vs) H) (fun _ => Once.backK (f:=fun vs H k => k (packV vs) H) (fun _ _ => Once.pure _ _) _ _ _ _ _ _) _ _ _
    ·rename_i hm hg
     exact absurd hm (hno c fo g caps ho hc hfo)
    ·exact Once.none
   ·exact Once.gB fun _ => Once.bindO fun _ _ => Once.splitAs (f:=fun v k => k v _) fun _ => Once.pure _ _
   ·exact Once.none
  ·exact Once.none
 | _ => simp only [opK,ho];exact Once.none
end
end Go.Proofs.YtpffkpaiihcffaaGreatDoor.VM
