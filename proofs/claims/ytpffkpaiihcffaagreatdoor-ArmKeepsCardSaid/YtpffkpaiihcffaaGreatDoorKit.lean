/- Words for contracts: the machine's operations on values of plain types. -/
import Derived.Test.YtpffkpaiihcffaaGreatDoorRow
namespace Go.Proofs.YtpffkpaiihcffaaGreatDoor.VM
open Go
@[simp] theorem bindO_s {α β : Type} (a : α) (k : α → Option β) : bindO (some a) k = k a:=rfl
@[simp] theorem bindO_n {α β : Type} (k : α → Option β) : bindO none k = none:=rfl
@[simp] theorem gB_t {α : Type} (k : Option α) : gB true k = k:=rfl
@[simp] theorem gB_f {α : Type} (k : Option α) : gB false k = none:=rfl
@[simp] theorem fCond_b {α : Type} (b : Bool) (x y : Option α) : fCond (.bool b) x y = if b then x else y:=by cases b <;> rfl
@[simp] theorem fBin_add (k : IntKind) (a b : Int) : fBin .add (.int k a) (.int k b) = some (.int k (k.wrap (a + b))):=by simp [fBin,intBin]
@[simp] theorem fBin_sub (k : IntKind) (a b : Int) : fBin .sub (.int k a) (.int k b) = some (.int k (k.wrap (a - b))):=by simp [fBin,intBin]
@[simp] theorem fBin_mul (k : IntKind) (a b : Int) : fBin .mul (.int k a) (.int k b) = some (.int k (k.wrap (a * b))):=by simp [fBin,intBin]
theorem fBin_quo (k : IntKind) (a b : Int) : fBin .quo (.int k a) (.int k b) = if b = 0 then none else some (.int k (k.wrap (a.tdiv b))):=by simp [fBin,intBin]
@[simp] theorem fBin_lss (k : IntKind) (a b : Int) : fBin .lss (.int k a) (.int k b) = some (.bool (decide (a < b))):=by simp [fBin,intBin]
@[simp] theorem fBin_leq (k : IntKind) (a b : Int) : fBin .leq (.int k a) (.int k b) = some (.bool (decide (a ≤ b))):=by simp [fBin,intBin]
@[simp] theorem fBin_gtr (k : IntKind) (a b : Int) : fBin .gtr (.int k a) (.int k b) = some (.bool (decide (b < a))):=by simp [fBin,intBin]
@[simp] theorem fBin_geq (k : IntKind) (a b : Int) : fBin .geq (.int k a) (.int k b) = some (.bool (decide (b ≤ a))):=by simp [fBin,intBin]
@[simp] theorem fBin_eql (k : IntKind) (a b : Int) : fBin .eql (.int k a) (.int k b) = some (.bool (decide (a = b))):=by simp [fBin,intBin];rfl
@[simp] theorem fBin_neq (k : IntKind) (a b : Int) : fBin .neq (.int k a) (.int k b) = some (.bool (decide (a ≠ b))):=by simp [fBin,intBin];rfl
@[simp] theorem fBin_eqlS (a b : List UInt8) : fBin .eql (.str a) (.str b) = some (.bool (decide (a = b))):=by
 have : (a == b) = decide (a = b):=by rw [Bool.eq_iff_iff];simp
 simp [fBin,this]
@[simp] theorem fBin_neqS (a b : List UInt8) : fBin .neq (.str a) (.str b) = some (.bool (decide (a ≠ b))):=by
 have : (a == b) = decide (a = b):=by rw [Bool.eq_iff_iff];simp
 simp [fBin,this]
@[simp] theorem fBoolBin_eql (a b : Bool) : fBoolBin .eql (.bool a) (.bool b) = some (.bool (decide (a = b))):=by cases a <;> cases b <;> rfl
@[simp] theorem fBoolBin_neq (a b : Bool) : fBoolBin .neq (.bool a) (.bool b) = some (.bool (decide (a ≠ b))):=by cases a <;> cases b <;> rfl
@[simp] theorem fUn_not (b : Bool) : fUn .not (.bool b) = some (.bool (!b)):=rfl
@[simp] theorem fMin_int (k : IntKind) (a b : Int) : fMinMax false (.int k a) (.int k b) = some (.int k (min a b)):=by
 simp only [fMinMax,if_true];congr 1;congr 1;simp;omega
@[simp] theorem fMax_int (k : IntKind) (a b : Int) : fMinMax true (.int k a) (.int k b) = some (.int k (max a b)):=by
 simp only [fMinMax,if_true];congr 1;congr 1;simp;omega
@[simp] theorem fConvInt_int (k j : IntKind) (n : Int) : fConvInt k (.int j n) = some (.int k (k.wrap n)):=rfl
@[simp] theorem fLenT_str (s : List UInt8) : fLenT (.str s) = some (.int .i64 s.length):=rfl
theorem wrap64 {n : Int} (h1 : -9223372036854775808 ≤ n) (h2 : n ≤ 9223372036854775807) : IntKind.i64.wrap n = n:=by
 simp [IntKind.wrap,IntKind.bits,IntKind.signed]
 split <;> omega
@[simp] theorem asNat_nat (k : IntKind) (n : Nat) : asNat (.int k (n : Int)) = some n:=by simp [asNat]
@[simp] theorem fIsAgg_agg (n : Nat) (cs : List FV) : fIsAgg n (.agg cs) = (cs.length == n):=rfl
@[simp] theorem fCell_zero (x : FV) (cs : List FV) : fCell (.agg (x :: cs)) 0 = x:=rfl
@[simp] theorem fCell_succ (x : FV) (cs : List FV) (i : Nat) : fCell (.agg (x :: cs)) (i + 1) = fCell (.agg cs) i:=by simp [fCell]
@[simp] theorem fIsTup_tup (n : Nat) (cs : List FV) : fIsTup n (.tup cs) = (cs.length == n):=rfl
@[simp] theorem fTup_zero (x : FV) (cs : List FV) : fTup (.tup (x :: cs)) 0 = x:=rfl
@[simp] theorem fTup_succ (x : FV) (cs : List FV) (i : Nat) : fTup (.tup (x :: cs)) (i + 1) = fTup (.tup cs) i:=by simp [fTup]
def I (n : Int) : List FV:=[.int .i64 n]
@[simp] theorem I_len (n : Int) : (I n).length = 1:=rfl
@[simp] theorem I_zero (n : Int) : (I n)[0]? = some (.int .i64 n):=rfl
@[simp] theorem li_some {α : Type} (l : List α) : li (some l) = l:=rfl
@[simp] theorem li_none {α : Type} : li (none : Option (List α)) = []:=rfl
@[simp] theorem fLen_sl {α : Type} (e : α → List FV) (o : Option (List α)) : fLen (sl e o) = some (.int .i64 (li o).length):=by cases o <;> simp [sl,fLen,li]
@[simp] theorem fLen_arr (r : List (List FV)) : fLen (.arr r) = some (.int .i64 r.length):=rfl
@[simp] theorem fLen_nil : fLen .nilS = some (.int .i64 0):=rfl
@[simp] theorem asRows_sl {α : Type} (e : α → List FV) (o : Option (List α)) : asRows (sl e o) = some ((li o).map e):=by cases o <;> rfl
@[simp] theorem asRows_arr (r : List (List FV)) : asRows (.arr r) = some r:=rfl
@[simp] theorem asRows_nil : asRows .nilS = some []:=rfl
@[simp] theorem arrRows_arr (r : List (List FV)) : arrRows (.arr r) = some r:=rfl
@[simp] theorem rowsSz_nil (n : Nat) : rowsSz n [] = true:=rfl
theorem rowsSz_map {α : Type} {e : α → List FV} {n : Nat} (h : ∀ a,(e a).length = n) (l : List α) : rowsSz n (l.map e) = true:=by
 cases l with
 | nil => rfl
 | cons a l => simp [rowsSz,h]
@[simp] theorem rowsSz_I (l : List Int) : rowsSz 1 (l.map I) = true:=rowsSz_map I_len l
theorem idx_arr {r : List (List FV)} {n k : Nat} {c : List FV} (h : r[k]? = some c) (he : c.length = n) : fIdxC n (.arr r) (.int .i64 (k : Int)) = some c:=by simp [fIdxC,h,he]
theorem rIdx_at {r : List (List FV)} {k : Nat} (h : k < r.length) : rIdx r (.int .i64 (k : Int)) = some k:=by simp [rIdx,h]
theorem rGet_at {r : List (List FV)} {k : Nat} {c : List FV} (h : r[k]? = some c) (j : Nat) : rGet r k j = c[j]?:=by simp [rGet,h]
theorem fCut_take {r : List (List FV)} {n m : Nat} (h : rowsSz n r = true) (hm : m ≤ r.length) : fCut n (.arr r) none (some (.int .i64 (m : Int))) = some (.arr (r.take m)):=by simp [fCut,h,cut?,hm]
theorem fCut_drop {r : List (List FV)} {n m : Nat} (h : rowsSz n r = true) (hm : m ≤ r.length) : fCut n (.arr r) (some (.int .i64 (m : Int))) none = some (.arr (r.drop m)):=by simp [fCut,h,cut?,hm]
@[simp] theorem onFV_sl {α : Type} (e : α → List FV) (o : Option (List α)) : onFV (sl e o) (some (.arr [])) (some (.arr ((li o).map e))) = some (.arr ((li o).map e)):=by
 cases o with
 | none => rfl
 | some l => cases l with
  | nil => rfl
  | cons a l => rfl
@[simp] theorem li_map {α β : Type} (f : α → β) (o : Option (List α)) : li (o.map (List.map f)) = (li o).map f:=by cases o <;> rfl
theorem drop_nil {α : Type} {l : List α} {k : Nat} (h : l.drop k = []) : ¬ k < l.length:=by
 rw [List.drop_eq_nil_iff] at h;omega
theorem drop_cons {α : Type} {l s : List α} {a : α} {k : Nat} (h : l.drop k = a :: s) : k < l.length ∧ l[k]? = some a ∧ l.drop (k + 1) = s:=by
 have hk : k < l.length:=by
  rcases Nat.lt_or_ge k l.length with h1 | h1
  ·exact h1
  ·rw [List.drop_eq_nil_of_le h1] at h;cases h
 rw [List.drop_eq_getElem_cons hk] at h
 cases h
 exact ⟨hk,by rw [List.getElem?_eq_getElem hk],rfl⟩
end Go.Proofs.YtpffkpaiihcffaaGreatDoor.VM
