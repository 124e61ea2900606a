/- Tables of types and functions, checked against a program. -/
import Derived.Test.YtpffkpaiihcffaaGreatDoorRow
set_option linter.unusedVariables false
set_option linter.unusedSimpArgs false
namespace Go.Proofs.YtpffkpaiihcffaaGreatDoor.VM
open Go Go.RowKit
def eqCst : Value → Value → Bool
 | .pointer none,.pointer none => true
 | .map none,.map none => true
 | .nilFunc,.nilFunc => true
 | .nilIface,.nilIface => true
 | .chan none,.chan none => true
 | _,_ => false
theorem eqCst_eq {a b : Value} (h : eqCst a b = true) : a = b:=by
 unfold eqCst at h
 split at h <;> first | rfl | cases h
def eqZ : FV → FV → Bool
 | .bool a,.bool b => sameB a b
 | .int k a,.int l b => decide (k = l) && decide (a = b)
 | .str [],.str [] => true
 | .nilS,.nilS => true
 | .cst a,.cst b => eqCst a b
 | _,_ => false
theorem eqZ_eq {a b : FV} (h : eqZ a b = true) : a = b:=by
 unfold eqZ at h
 split at h
 ·rename_i a b;cases a <;> cases b <;> first | rfl | cases h
 ·simp only [Bool.and_eq_true,decide_eq_true_eq] at h;rw [h.1,h.2]
 ·rfl
 ·rfl
 ·rw [eqCst_eq h]
 ·cases h
def eqZs : List FV → List FV → Bool
 | [],[] => true
 | a :: as,b :: bs => eqZ a b && eqZs as bs
 | _,_ => false
theorem eqZs_eq : ∀ {a b : List FV},eqZs a b = true → a = b
 | [],[],_ => rfl
 | a :: as,b :: bs,h => by
  simp only [eqZs,Bool.and_eq_true] at h
  rw [eqZ_eq h.1,eqZs_eq h.2]
 | [],_ :: _,h => by cases h
 | _ :: _,[],h => by cases h
def kB (P : Program) (ty : Nat → TyI) (t : Nat) (k : TyK) : Bool:=match k,P.underlying t with
 | .other,_ => true
 | .bool,some .bool => true
 | .int k,some (.int l) => decide (k = l)
 | .str,some .string => true
 | .slice e,some (.slice e') => Nat.beq e e' && (ty e).known && Nat.ble 1 (ty e).size && Nat.ble 1 (ty e).bytes
 | .struct fs,some (.struct fields) => decide (fields.toList.map (fun f => (f.offset,(ty f.type).size,(ty f.type).isAgg)) = fs) && fields.toList.all (fun f => (ty f.type).known && Nat.ble 1 (ty f.type).size && decide (f.name ≠ "_")) && !P.stoodInHeld t
 | .array n e,some (.array n' e') => Nat.beq n n' && Nat.beq e e' && (ty e).known
 | .map k e,some (.map k' e') => Nat.beq k k' && Nat.beq e e' && (ty e).known
 | .ptr e,some (.pointer e') => Nat.beq e e'
 | .func,some (.func _ _ _) => true
 | _,_ => false
theorem kB_ok {P : Program} {ty : Nat → TyI} {t : Nat} {k : TyK} (h : kB P ty t k = true) : KFact P ty t k:=by
 unfold kB at h
 split at h
 ·trivial
 ·rename_i hu;exact hu
 ·rename_i hu;simp only [decide_eq_true_eq] at h;rw [h];exact hu
 ·rename_i hu;exact hu
 ·rename_i e e' hu
  simp only [Bool.and_eq_true] at h
  have he:=Nat.eq_of_beq_eq_true h.1.1.1
  exact ⟨by rw [he];exact hu,h.1.1.2,Nat.le_of_ble_eq_true h.1.2,Nat.le_of_ble_eq_true h.2⟩
 ·rename_i fs fields hu
  simp only [Bool.and_eq_true,decide_eq_true_eq,Bool.not_eq_true'] at h
  refine ⟨fields,hu,h.1.1,fun f hf => ?_,h.2⟩
  have:=List.all_eq_true.1 h.1.2 f hf
  simp only [Bool.and_eq_true,decide_eq_true_eq] at this
  exact ⟨this.1.1,Nat.le_of_ble_eq_true this.1.2,this.2⟩
 ·rename_i n e n' e' hu
  simp only [Bool.and_eq_true] at h
  rw [← Nat.eq_of_beq_eq_true h.1.1,← Nat.eq_of_beq_eq_true h.1.2] at hu
  exact ⟨hu,h.2⟩
 ·rename_i n e n' e' hu
  simp only [Bool.and_eq_true] at h
  rw [← Nat.eq_of_beq_eq_true h.1.1,← Nat.eq_of_beq_eq_true h.1.2] at hu
  exact ⟨hu,h.2⟩
 ·rename_i e e' hu
  rw [← Nat.eq_of_beq_eq_true h] at hu
  exact hu
 ·rename_i ps rs v hu
  exact ⟨ps,rs,v,hu⟩
 ·cases h
def infoB (P : Program) (ty : Nat → TyI) (t : Nat) : Bool:=!(ty t).known || (match P.info? t with
 | some i => Nat.beq i.size (ty t).size && Nat.beq i.bytes (ty t).bytes && (match i.zero with
  | some z => eqZs (z.cells.toList.map constF) (ty t).zero && Nat.beq z.cells.size (ty t).size && z.cells.all (·.oneCell') && (match z with | .agg _ => (ty t).isAgg | .tuple _ => false | _ => !(ty t).isAgg)
  | none => false)
 | none => false)
theorem infoB_ok {P : Program} {ty : Nat → TyI} {t : Nat} (h : infoB P ty t = true) (hk : (ty t).known = true) : ∃ i z,P.info? t = some i ∧ i.size = (ty t).size ∧ i.bytes = (ty t).bytes ∧ i.zero = some z ∧ z.cells.toList.map constF = (ty t).zero ∧ z.cells.size = (ty t).size ∧
  z.cells.all (·.oneCell') = true ∧ ((ty t).isAgg = false → z.cells = #[z]) ∧ ((ty t).isAgg = true → ∃ cs,z = .agg cs):=by
 unfold infoB at h
 rw [hk] at h
 simp only [Bool.not_true,Bool.false_or] at h
 split at h
 ·rename_i i hi
  simp only [Bool.and_eq_true] at h
  obtain ⟨⟨h1,h2⟩,h⟩:=h
  split at h
  ·rename_i z hz
   simp only [Bool.and_eq_true] at h
   obtain ⟨⟨⟨h3,h4⟩,h5⟩,h6⟩:=h
   refine ⟨i,z,hi,Nat.eq_of_beq_eq_true h1,Nat.eq_of_beq_eq_true h2,hz,eqZs_eq h3,Nat.eq_of_beq_eq_true h4,h5,fun hf => ?_,fun ht => ?_⟩
   ·rw [hf] at h6
    cases z <;> first | rfl | cases h6
   ·rw [ht] at h6
    cases z <;> first | exact ⟨_,rfl⟩ | cases h6
  ·cases h
 ·cases h
def scalB (P : Program) (t : Nat) : SK → Bool
 | .bool => (match P.underlying t with | some .bool => true | _ => false)
 | .int => (match P.underlying t with | some (.int _) => true | _ => false)
 | .str => (match P.underlying t with | some .string => true | _ => false)
theorem scalB_ok {P : Program} {t : Nat} {s : SK} (h : scalB P t s = true) : ScalarTy P t s:=by
 cases s <;> (simp only [scalB] at h;split at h <;> first | cases h;done | skip)
 ·rename_i hu;exact hu
 ·rename_i k hu;exact ⟨k,hu⟩
 ·rename_i hu;exact hu
def fldsB (P : Program) : List Field → List SK → Nat → Bool
 | [],[],_ => true
 | f :: fs,s :: ss,i => Nat.beq f.offset i && decide (f.name ≠ "_") && scalB P f.type s && fldsB P fs ss (i + 1)
 | _,_,_ => false
theorem fldsB_ok {P : Program} : ∀ {fs : List Field} {ss : List SK} {j : Nat},fldsB P fs ss j = true → fs.length = ss.length ∧ ∀ (i : Nat) f s,fs[i]? = some f → ss[i]? = some s → f.offset = j + i ∧ f.name ≠ "_" ∧ ScalarTy P f.type s
 | [],[],j,_ => ⟨rfl,by simp⟩
 | f :: fs,s :: ss,j,h => by
  simp only [fldsB,Bool.and_eq_true,decide_eq_true_eq] at h
  obtain ⟨h1,h2⟩:=fldsB_ok h.2
  refine ⟨by simp [h1],fun i g r hg hr => ?_⟩
  cases i with
  | zero =>
   simp only [List.getElem?_cons_zero,Option.some.injEq] at hg hr
   subst hg;subst hr
   exact ⟨Nat.eq_of_beq_eq_true h.1.1.1,h.1.1.2,scalB_ok h.1.2⟩
  | succ i =>
   obtain ⟨k1,k2⟩:=h2 i g r (by simpa using hg) (by simpa using hr)
   exact ⟨by omega,k2⟩
 | [],_ :: _,_,h => by cases h
 | _ :: _,[],_,h => by cases h
def skB (P : Program) (t : Nat) (agg : Bool) (sk : List SK) : Bool:=match sk with
 | [] => true
 | s :: ss => (match agg with
  | false => (match ss with | [] => scalB P t s | _ => false)
  | true => (match P.underlying t with
   | some (.struct fields) => !P.stoodInHeld t && !P.eqGuardType P.depth t && fldsB P fields.toList (s :: ss) 0
   | _ => false))
theorem skB_ok {P : Program} {t : Nat} {agg : Bool} {sk : List SK} (h : skB P t agg sk = true) (hne : sk ≠ []) : SkFact P t agg sk:=by
 unfold skB at h
 split at h
 ·exact absurd rfl hne
 ·rename_i s ss
  split at h
  ·split at h
   ·exact ⟨s,rfl,scalB_ok h⟩
   ·cases h
  ·split at h
   ·rename_i fields hu
    simp only [Bool.and_eq_true,Bool.not_eq_true'] at h
    obtain ⟨h1,h2⟩:=fldsB_ok h.2
    exact ⟨fields,hu,h.1.1,h.1.2,h1,fun i f s hf hs => by simpa using h2 i f s hf hs⟩
   ·cases h
def tyB (P : Program) (ty : Nat → TyI) (t : Nat) : Bool:=kB P ty t (ty t).k && infoB P ty t && skB P t (ty t).isAgg (ty t).sk
theorem tyB_ok {P : Program} {ty : Nat → TyI} {t : Nat} (h : tyB P ty t = true) : TyFact P ty t:=by
 simp only [tyB,Bool.and_eq_true] at h
 exact ⟨kB_ok h.1.1,infoB_ok h.1.2,skB_ok h.2⟩
def tysB (P : Program) (l : List (Nat × TyI)) : List (Nat × TyI) → Bool
 | [] => true
 | p :: m => tyB P (tyOf l) p.1 && tysB P l m
theorem tysB_ok {P : Program} {l : List (Nat × TyI)} : ∀ {m : List (Nat × TyI)},tysB P l m = true → ∀ p ∈ m,TyFact P (tyOf l) p.1
 | [],_,p,hp => by cases hp
 | q :: m,h,p,hp => by
  simp only [tysB,Bool.and_eq_true] at h
  rcases List.mem_cons.1 hp with rfl | hp
  ·exact tyB_ok h.1
  ·exact tysB_ok h.2 p hp
def AllFn (P : Program) : List (Nat × Func) → Prop
 | [] => True
 | p :: l => (P.funcs[p.1]? = some p.2 ∧ p.2.body.isNone = false ∧ (p.2.name == "runtime.NumGoroutine") = false) ∧ AllFn P l
theorem allFn_ok {P : Program} {g : Nat} {fn : Func} : ∀ {l : List (Nat × Func)},AllFn P l → fnOf l g = some fn → P.funcs[g]? = some fn ∧ fn.body.isNone = false ∧ (fn.name == "runtime.NumGoroutine") = false
 | [],_,h => by cases h
 | (u,f) :: l,ha,h => by
  simp only [fnOf] at h
  split at h
  ·rename_i hb
   cases h
   have:=Nat.eq_of_beq_eq_true hb
   subst this
   exact ha.1
  ·exact allFn_ok ha.2 h
end Go.Proofs.YtpffkpaiihcffaaGreatDoor.VM
