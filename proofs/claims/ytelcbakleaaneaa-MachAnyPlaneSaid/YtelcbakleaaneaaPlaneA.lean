/- Runs of planes: what is asked of a plane, in the document's words and in the program's. -/
import Derived.Test.YtelcbakleaaneaaCode0
import Derived.Test.YtelcbakleaaneaaKit
namespace Go.Proofs.Ytelcbakleaaneaa
open Go Go.Proofs.Ytelcbakleaaneaa.VM
set_option linter.unusedVariables false
set_option linter.unusedSimpArgs false

/-- The sum of numbers, up to 2^40; -1 if one is below 0. -/
def capSum : Int → List Int → Int
  | a, [] => a
  | a, n :: l => if n < 0 then -1 else capSum (min (a + min n 1099511627776) 1099511627776) l
theorem capSum_ge : ∀ (l : List Int) (a : Int), 0 ≤ a → -1 ≤ capSum a l
  | [], a, h => by simp only [capSum]; omega
  | n :: l, a, h => by
    simp only [capSum]
    split
    · omega
    · exact capSum_ge l _ (by omega)
theorem capSum_le : ∀ (l : List Int) (a : Int), 0 ≤ a → a ≤ 1099511627776 → capSum a l ≤ 1099511627776
  | [], a, h, h1 => h1
  | n :: l, a, h, h1 => by
    simp only [capSum]
    split
    · omega
    · exact capSum_le l _ (by omega) (by omega)
theorem capSum_nonneg : ∀ (l : List Int) (a : Int), 0 ≤ a → (∀ n ∈ l, 0 ≤ n) → 0 ≤ capSum a l
  | [], a, h, _ => h
  | n :: l, a, h, hl => by
    have := hl n (by simp)
    simp only [capSum]
    rw [if_neg (by omega)]
    exact capSum_nonneg l _ (by omega) fun m hm => hl m (by simp [hm])
theorem capSum_top : ∀ (l : List Int), (∀ n ∈ l, 0 ≤ n) → capSum 1099511627776 l = 1099511627776
  | [], _ => rfl
  | n :: l, hl => by
    have := hl n (by simp)
    simp only [capSum]
    rw [if_neg (by omega), show min (1099511627776 + min n 1099511627776) 1099511627776 = (1099511627776 : Int) by omega]
    exact capSum_top l fun m hm => hl m (by simp [hm])

theorem ref02_sum_L0 {o : Option (List Int)} {l : List Int} (ho : li o = l) (hl : l.length < 1000000000000000) : ∀ (s : List Int) (k : Nat) (a : Int), l.drop k = s → 0 ≤ a → a ≤ 1099511627776 →
    ref02_sum.L0 (sl I o) (.int .i64 a) (.int .i64 (k : Int)) = some (.int .i64 (capSum a s)) := by
  intro s
  induction s with
  | nil =>
    intro k a hd h0 h1
    have hk := drop_nil hd
    rw [ref02_sum.L0_eq]
    simp [ho, hk, capSum]
  | cons n s ih =>
    intro k a hd h0 h1
    obtain ⟨hk, hn, hs⟩ := drop_cons hd
    rw [ref02_sum.L0_eq]
    simp only [fLen_sl, ho, bindO_s, fBin_lss, fCond_b, decide_eq_true_eq, Int.ofNat_lt, hk, if_true, idx_sl (ho ▸ hn) (I_len n), I_zero]
    by_cases hneg : n < 0
    · simp [hneg, capSum]
    · simp only [hneg, if_false, fMin_int, bindO_s, fBin_add, capSum]
      rw [wrap64 (by omega) (by omega), wrap64 (by omega) (by omega)]
      exact ih (k + 1) _ hs (by omega) (by omega)
theorem ref02_sum_ok {o : Option (List Int)} (hl : (li o).length < 1000000000000000) : ref02_sum (sl I o) = some (.int .i64 (capSum 0 (li o))) := by
  rw [ref02_sum.eq]
  exact ref02_sum_L0 rfl hl _ 0 0 rfl (by omega) (by omega)

/-- The program's sum: up to 1000. -/
def mS : Int → List Int → Option Int
  | a, [] => some a
  | a, n :: l => if n < 0 then none else mS (min (a + min n 1000) 1000) l
def mSV : Option Int → FV
  | some v => .tup [.int .i64 v, .bool true]
  | none => .tup [.int .i64 0, .bool false]
theorem mach_sum_L0 {o : Option (List Int)} {l : List Int} (ho : li o = l) (hl : l.length < 1000000000000000) : ∀ (s : List Int) (k : Nat) (a : Int), l.drop k = s → 0 ≤ a → a ≤ 1000 →
    mach_sum.L0 (.int .i64 a) (sl I o) (.int .i64 (l.length : Int)) (.int .i64 (k : Int)) = some (mSV (mS a s)) := by
  intro s
  induction s with
  | nil =>
    intro k a hd h0 h1
    have hk := drop_nil hd
    rw [mach_sum.L0_eq]
    simp [hk, mS, mSV]
  | cons n s ih =>
    intro k a hd h0 h1
    obtain ⟨hk, hn, hs⟩ := drop_cons hd
    rw [mach_sum.L0_eq]
    simp only [bindO_s, fBin_lss, fCond_b, decide_eq_true_eq, Int.ofNat_lt, hk, if_true, idx_sl (ho ▸ hn) (I_len n), I_zero]
    by_cases hneg : n < 0
    · simp [hneg, mS, mSV]
    · simp only [hneg, if_false, fMin_int, bindO_s, fBin_add, mS]
      rw [wrap64 (by omega) (by omega), wrap64 (by omega) (by omega)]
      exact ih (k + 1) _ hs (by omega) (by omega)
theorem mach_sum_ok {o : Option (List Int)} (hl : (li o).length < 1000000000000000) : mach_sum (sl I o) = some (mSV (mS 0 (li o))) := by
  rw [mach_sum.eq]
  simp only [fLen_sl, bindO_s]
  exact mach_sum_L0 rfl hl _ 0 0 rfl (by omega) (by omega)
theorem mS_none : ∀ (l : List Int) (a : Int), mS a l = none → ∀ b, capSum b l = -1
  | [], a, h, b => by simp [mS] at h
  | n :: l, a, h, b => by
    simp only [mS] at h
    simp only [capSum]
    split at h
    · rename_i hn; rw [if_pos hn]
    · rename_i hn; rw [if_neg hn]; exact mS_none l _ h _
theorem mS_some : ∀ (l : List Int) (a v : Int), mS a l = some v → 0 ≤ a → a ≤ 1000 → (∀ n ∈ l, 0 ≤ n) ∧ v ≤ 1000 ∧ a ≤ v ∧ (v < 1000 → capSum a l = v)
  | [], a, v, h, h0, h1 => by simp only [mS, Option.some.injEq] at h; subst h; simp [capSum]; omega
  | n :: l, a, v, h, h0, h1 => by
    simp only [mS] at h
    split at h
    · cases h
    · rename_i hn
      obtain ⟨g1, g2, g3, g4⟩ := mS_some l _ v h (by omega) (by omega)
      refine ⟨fun m hm => ?_, g2, by omega, fun hv => ?_⟩
      · rcases List.mem_cons.1 hm with rfl | hm
        · omega
        · exact g1 m hm
      · simp only [capSum]
        rw [if_neg hn, ← g4 hv]
        congr 1
        omega

theorem wrap_over {n : Int} (h1 : 9223372036854775808 ≤ n) (h2 : n < 18446744073709551616) : IntKind.i64.wrap n = n - 18446744073709551616 := by
  simp [IntKind.wrap, IntKind.bits, IntKind.signed]
  split <;> omega
theorem exact_L0 {o : Option (List Int)} {l : List Int} (ho : li o = l) (hl : l.length < 1000000000000000) (hw : ∀ n ∈ l, 0 ≤ n ∧ n ≤ 9223372036854775807) : ∀ (s : List Int) (k : Nat) (a : Int), l.drop k = s → 0 ≤ a → a ≤ 1099511627776 →
    mach_checkPlane_2.L0 (.int .i64 a) (sl I o) (.int .i64 (l.length : Int)) (.int .i64 (k : Int)) = some (.int .i64 (capSum a s)) := by
  intro s
  induction s with
  | nil =>
    intro k a hd h0 h1
    have hk := drop_nil hd
    rw [mach_checkPlane_2.L0_eq]
    simp [hk, capSum]
  | cons n s ih =>
    intro k a hd h0 h1
    obtain ⟨hk, hn, hs⟩ := drop_cons hd
    obtain ⟨hn0, hn1⟩ := hw n (List.mem_of_getElem? hn)
    have hs0 : ∀ m ∈ s, 0 ≤ m := fun m hm => (hw m (List.mem_of_mem_drop (hs ▸ hm))).1
    rw [mach_checkPlane_2.L0_eq]
    simp only [bindO_s, fBin_lss, fCond_b, decide_eq_true_eq, Int.ofNat_lt, hk, if_true, idx_sl (ho ▸ hn) (I_len n), I_zero, fBin_add, fBin_gtr, capSum, if_neg (show ¬ n < 0 by omega)]
    by_cases h : a + n < 9223372036854775808
    · rw [wrap64 (by omega) (by omega), if_neg (by omega)]
      by_cases hb : 1099511627776 < a + n
      · rw [if_pos hb, show min (a + min n 1099511627776) 1099511627776 = (1099511627776 : Int) by omega, capSum_top s hs0]
      · rw [if_neg hb, wrap64 (by omega) (by omega), show min (a + min n 1099511627776) 1099511627776 = a + n by omega]
        exact ih (k + 1) _ hs (by omega) (by omega)
    · rw [wrap_over (by omega) (by omega), if_pos (by omega), show min (a + min n 1099511627776) 1099511627776 = (1099511627776 : Int) by omega, capSum_top s hs0]
theorem exact_ok {o : Option (List Int)} (hl : (li o).length < 1000000000000000) (hw : ∀ n ∈ li o, 0 ≤ n ∧ n ≤ 9223372036854775807) : mach_checkPlane_2 (sl I o) = some (.int .i64 (capSum 0 (li o))) := by
  rw [mach_checkPlane_2.eq]
  simp only [fLen_sl, bindO_s]
  exact exact_L0 rfl hl hw _ 0 0 rfl (by omega) (by omega)

/-! ### Bits -/
def bit (b : Int) : Bool := decide (b = 0) || decide (b = 1)
theorem bitsAlone_L0 {o : Option (List Int)} {l : List Int} (ho : li o = l) (hl : l.length < 1000000000000000) : ∀ (s : List Int) (k : Nat), l.drop k = s → ref02_bitsAlone.L0 (sl I o) (.int .i64 (k : Int)) = some (.bool (s.all bit)) := by
  intro s
  induction s with
  | nil =>
    intro k hd
    rw [ref02_bitsAlone.L0_eq]
    simp [ho, drop_nil hd]
  | cons n s ih =>
    intro k hd
    obtain ⟨hk, hn, hs⟩ := drop_cons hd
    rw [ref02_bitsAlone.L0_eq]
    simp only [fLen_sl, ho, bindO_s, fBin_lss, fCond_b, decide_eq_true_eq, Int.ofNat_lt, hk, if_true, idx_sl (ho ▸ hn) (I_len n), I_zero, fBin_neq, fBin_add, List.all_cons]
    have e : IntKind.i64.wrap ((k : Int) + 1) = ((k + 1 : Nat) : Int) := wrap64 (by omega) (by omega)
    rw [e, ih (k + 1) hs]
    by_cases h0 : n = 0
    · simp [h0, bit]
    · by_cases h1 : n = 1
      · simp [h1, bit]
      · simp [h0, h1, bit]
theorem bitsAlone_ok {o : Option (List Int)} (hl : (li o).length < 1000000000000000) (n : Int) : ref02_bitsAlone (sl I o) (.int .i64 n) = some (.bool (decide (((li o).length : Int) = n) && (li o).all bit)) := by
  rw [ref02_bitsAlone.eq]
  simp only [fLen_sl, bindO_s, fBin_neq, fCond_b, decide_eq_true_eq]
  have := bitsAlone_L0 rfl hl (li o) 0 rfl
  rw [show (FV.int IntKind.i64 0) = .int .i64 ((0 : Nat) : Int) from rfl, this]
  by_cases h : ((li o).length : Int) = n <;> simp [h]

theorem indexFunc_L0 {fv : FV} {p : Int → Bool} (hf : ∀ n, callDyn false fv [.int .i64 n] = some (.bool (p n))) {o : Option (List Int)} {l : List Int} (ho : li o = l) (hl : l.length < 1000000000000000) : ∀ (s : List Int) (k : Nat), l.drop k = s →
    ∃ r, slices_IndexFunc_int.L0 (sl I o) fv (.int .i64 (l.length : Int)) (.int .i64 (k : Int)) = some (.int .i64 r) ∧ decide (0 ≤ r) = s.any p := by
  intro s
  induction s with
  | nil =>
    intro k hd
    rw [slices_IndexFunc_int.L0_eq]
    exact ⟨-1, by simp [drop_nil hd], rfl⟩
  | cons n s ih =>
    intro k hd
    obtain ⟨hk, hn, hs⟩ := drop_cons hd
    rw [slices_IndexFunc_int.L0_eq]
    simp only [bindO_s, fBin_lss, fCond_b, decide_eq_true_eq, Int.ofNat_lt, hk, if_true, idx_sl (ho ▸ hn) (I_len n), I_zero, hf, fBin_add, List.any_cons]
    have e : IntKind.i64.wrap ((k : Int) + 1) = ((k + 1 : Nat) : Int) := wrap64 (by omega) (by omega)
    rw [e]
    cases hp : p n with
    | true => exact ⟨k, rfl, by simp⟩
    | false =>
      obtain ⟨r, h1, h2⟩ := ih (k + 1) hs
      exact ⟨r, by simpa using h1, by simpa using h2⟩
theorem containsFunc_ok {fv : FV} {p : Int → Bool} (hf : ∀ n, callDyn false fv [.int .i64 n] = some (.bool (p n))) {o : Option (List Int)} (hl : (li o).length < 1000000000000000) : slices_ContainsFunc_int (sl I o) fv = some (.bool ((li o).any p)) := by
  obtain ⟨r, h1, h2⟩ := indexFunc_L0 hf rfl hl (li o) 0 rfl
  rw [slices_ContainsFunc_int.eq, slices_IndexFunc_int.eq]
  simp only [fLen_sl, bindO_s, fBin_geq]
  rw [show (FV.int IntKind.i64 0) = .int .i64 ((0 : Nat) : Int) from rfl, h1]
  simp [h2]
theorem dyn135 (n : Int) : callDyn false (.func 135 []) [.int .i64 n] = some (.bool (!bit n)) := by
  have : callDyn false (.func 135 []) [.int .i64 n] = mach_checkPlane_1 (.int .i64 n) := by kernel_rfl
  rw [this, mach_checkPlane_1.eq]
  by_cases h0 : n = 0 <;> by_cases h1 : n = 1 <;> simp [h0, h1, bit]
theorem dyn137 (n : Int) : callDyn false (.func 137 []) [.int .i64 n] = some (.bool (!(decide (-1 ≤ n) && decide (n ≤ 1)))) := by
  have : callDyn false (.func 137 []) [.int .i64 n] = mach_checkPlane_3 (.int .i64 n) := by kernel_rfl
  rw [this, mach_checkPlane_3.eq]
  by_cases h0 : n < -1
  · simp [h0, show ¬ (-1 ≤ n) by omega]
  · by_cases h1 : n > 1
    · simp [h0, h1, show ¬ (n ≤ 1) by omega]
    · simp [h0, show ¬ (1 < n) by omega, show -1 ≤ n by omega, show n ≤ 1 by omega]
theorem dyn53 (n : Int) : callDyn false (.func 53 []) [.int .i64 n] = some (.bool (!bit n)) := by
  have : callDyn false (.func 53 []) [.int .i64 n] = mach_RunPlanes_1 (.int .i64 n) := by kernel_rfl
  rw [this, mach_RunPlanes_1.eq]
  by_cases h0 : n = 0 <;> by_cases h1 : n = 1 <;> simp [h0, h1, bit]

/-! ### Terms -/
/-- A term: what it asks, and what it sets. -/
abbrev Tm := Option (List Int) × Option (List Int)
def T (t : Tm) : List FV := [sl I t.1, sl I t.2]
@[simp] theorem T_len (t : Tm) : (T t).length = 2 := rfl
@[simp] theorem T_zero (t : Tm) : (T t)[0]? = some (sl I t.1) := rfl
@[simp] theorem T_one (t : Tm) : (T t)[1]? = some (sl I t.2) := rfl
def lit (b : Int) : Bool := decide (-1 ≤ b) && decide (b ≤ 1)
/-- Numbers that rise, from 0 on, below m. -/
def thenOk (m : Int) : Option Int → List Int → Bool
  | _, [] => true
  | p, k :: l => decide (0 ≤ k) && decide (k < m) && (match p with | none => true | some q => decide (q < k)) && thenOk m (some k) l
def termOk (ins outs st : Int) (t : Tm) : Bool := decide (((li t.1).length : Int) = ins + st) && (li t.1).all lit && thenOk (outs + st) none (li t.2)
/-- The one before. -/
def PrevIs (l : List Int) (k : Nat) (p : Option Int) : Prop := (k = 0 ∧ p = none) ∨ ∃ q, 0 < k ∧ l[k - 1]? = some q ∧ p = some q
theorem PrevIs.next {l : List Int} {k : Nat} {n : Int} (h : l[k]? = some n) : PrevIs l (k + 1) (some n) := .inr ⟨n, by omega, by simpa using h, rfl⟩

theorem ref_then {o : Option (List Int)} {l : List Int} (ho : li o = l) (hl : l.length < 1000000000000000) {outs st : Int} {i : Nat} (hi : i < 1000000000000000) (h1 : 0 ≤ outs ∧ outs ≤ 1099511627776) (h2 : 0 ≤ st ∧ st < 1000000000000000) (a c4 c5 c7 c8 c9 : FV) :
    ∀ (s : List Int) (k : Nat) (p : Option Int), l.drop k = s → PrevIs l k p →
    ref02_checkPlane.L3 a (.int .i64 outs) (.int .i64 (i : Int)) (.int .i64 (k : Int)) c4 c5 (.int .i64 st) c7 c8 c9 (sl I o) =
      if thenOk (outs + st) p s then ref02_checkPlane.L1 a (.int .i64 outs) (.int .i64 ((i + 1 : Nat) : Int)) c4 c5 (.int .i64 st) c7 c8 else some (.int .i64 27) := by
  intro s
  have ei : IntKind.i64.wrap ((i : Int) + 1) = ((i + 1 : Nat) : Int) := wrap64 (by omega) (by omega)
  induction s with
  | nil =>
    intro k p hd hp
    rw [ref02_checkPlane.L3_eq]
    simp [ho, drop_nil hd, thenOk, ei]
  | cons n s ih =>
    intro k p hd hp
    obtain ⟨hk, hn, hs⟩ := drop_cons hd
    have e : IntKind.i64.wrap ((k : Int) + 1) = ((k + 1 : Nat) : Int) := wrap64 (by omega) (by omega)
    have e2 : IntKind.i64.wrap (outs + st) = outs + st := wrap64 (by omega) (by omega)
    rw [ref02_checkPlane.L3_eq]
    simp only [fLen_sl, ho, bindO_s, fBin_lss, fCond_b, decide_eq_true_eq, Int.ofNat_lt, hk, if_true, idx_sl (ho ▸ hn) (I_len n), I_zero, fBin_add, fBin_geq, fBin_gtr, fBin_sub, e, e2, ih (k + 1) _ hs (PrevIs.next hn), thenOk]
    by_cases g1 : n < 0
    · simp [g1, show ¬ (0 ≤ n) by omega]
    · by_cases g2 : outs + st ≤ n
      · simp [g1, g2, show ¬ (n < outs + st) by omega]
      · rcases hp with ⟨rfl, rfl⟩ | ⟨q, hk0, hq, rfl⟩
        · simp [g1, g2, show 0 ≤ n by omega, show n < outs + st by omega]
        · have e3 : IntKind.i64.wrap ((k : Int) - 1) = ((k - 1 : Nat) : Int) := by rw [wrap64 (by omega) (by omega)]; omega
          simp only [e3, idx_sl (ho ▸ hq) (I_len q), bindO_s, I_zero, fBin_leq, fCond_b, decide_eq_true_eq]
          by_cases g3 : n ≤ q
          · simp [g1, g2, g3, hk0, show ¬ (q < n) by omega]
          · simp [g1, g2, g3, hk0, show 0 ≤ n by omega, show n < outs + st by omega, show q < n by omega]
theorem mach_then {o : Option (List Int)} {l : List Int} (ho : li o = l) (hl : l.length < 1000000000000000) {outs st : Int} {i : Nat} (hi : i < 1000000000000000) (h1 : 0 ≤ outs ∧ outs ≤ 1099511627776) (h2 : 0 ≤ st ∧ st < 1000000000000000) (a c2 c3 c8 c9 c11 c12 c13 : FV) :
    ∀ (s : List Int) (k : Nat) (p : Option Int), l.drop k = s → PrevIs l k p →
    mach_checkPlane.L5 a (.int .i64 outs) c2 c3 (.int .i64 (i : Int)) (sl I o) (.int .i64 (l.length : Int)) (.int .i64 (k : Int)) c8 c9 (.int .i64 st) c11 c12 c13 (sl I o) =
      if thenOk (outs + st) p s then mach_checkPlane.L3 a (.int .i64 outs) c2 c3 (.int .i64 ((i + 1 : Nat) : Int)) c8 c9 (.int .i64 st) c11 c12 else some (.tup [.int .i64 0, .int .i64 0, .int .i64 27]) := by
  intro s
  have ei : IntKind.i64.wrap ((i : Int) + 1) = ((i + 1 : Nat) : Int) := wrap64 (by omega) (by omega)
  induction s with
  | nil =>
    intro k p hd hp
    rw [mach_checkPlane.L5_eq]
    simp [drop_nil hd, thenOk, ei]
  | cons n s ih =>
    intro k p hd hp
    obtain ⟨hk, hn, hs⟩ := drop_cons hd
    have e : IntKind.i64.wrap ((k : Int) + 1) = ((k + 1 : Nat) : Int) := wrap64 (by omega) (by omega)
    have e2 : IntKind.i64.wrap (outs + st) = outs + st := wrap64 (by omega) (by omega)
    rw [mach_checkPlane.L5_eq]
    simp only [bindO_s, fBin_lss, fCond_b, decide_eq_true_eq, Int.ofNat_lt, hk, if_true, idx_sl (ho ▸ hn) (I_len n), I_zero, fBin_add, fBin_geq, fBin_gtr, fBin_sub, e, e2, ih (k + 1) _ hs (PrevIs.next hn), thenOk]
    by_cases g1 : n < 0
    · simp [g1, show ¬ (0 ≤ n) by omega]
    · by_cases g2 : outs + st ≤ n
      · simp [g1, g2, show ¬ (n < outs + st) by omega]
      · rcases hp with ⟨rfl, rfl⟩ | ⟨q, hk0, hq, rfl⟩
        · simp [g1, g2, show 0 ≤ n by omega, show n < outs + st by omega]
        · have e3 : IntKind.i64.wrap ((k : Int) - 1) = ((k - 1 : Nat) : Int) := by rw [wrap64 (by omega) (by omega)]; omega
          simp only [e3, idx_sl (ho ▸ hq) (I_len q), bindO_s, I_zero, fBin_leq, fCond_b, decide_eq_true_eq]
          by_cases g3 : n ≤ q
          · simp [g1, g2, g3, hk0, show ¬ (q < n) by omega]
          · simp [g1, g2, g3, hk0, show 0 ≤ n by omega, show n < outs + st by omega, show q < n by omega]
theorem ref_if {o : Option (List Int)} {l : List Int} (ho : li o = l) (hl : l.length < 1000000000000000) (a b c c4 c5 c6 c7 c8 c10 : FV) : ∀ (s : List Int) (k : Nat), l.drop k = s →
    ref02_checkPlane.L2 a b c (.int .i64 (k : Int)) c4 c5 c6 c7 c8 (sl I o) c10 = if s.all lit then ref02_checkPlane.L3 a b c (.int .i64 0) c4 c5 c6 c7 c8 (sl I o) c10 else some (.int .i64 27) := by
  intro s
  induction s with
  | nil =>
    intro k hd
    rw [ref02_checkPlane.L2_eq]
    simp [ho, drop_nil hd]
  | cons n s ih =>
    intro k hd
    obtain ⟨hk, hn, hs⟩ := drop_cons hd
    have e : IntKind.i64.wrap ((k : Int) + 1) = ((k + 1 : Nat) : Int) := wrap64 (by omega) (by omega)
    rw [ref02_checkPlane.L2_eq]
    simp only [fLen_sl, ho, bindO_s, fBin_lss, fCond_b, decide_eq_true_eq, Int.ofNat_lt, hk, if_true, idx_sl (ho ▸ hn) (I_len n), I_zero, fBin_add, fBin_gtr, e, ih (k + 1) hs, List.all_cons, lit]
    by_cases g1 : n < -1
    · simp [g1, show ¬ (-1 ≤ n) by omega]
    · by_cases g2 : 1 < n
      · simp [g1, g2, show ¬ (n ≤ 1) by omega]
      · simp [g1, g2, show -1 ≤ n by omega, show n ≤ 1 by omega]

/-- What is asked of the terms' lists: that they are no longer than any memory. -/
def Small (t : Tm) : Prop := (li t.1).length < 1000000000000000 ∧ (li t.2).length < 1000000000000000
theorem ref_terms {o : Option (List Tm)} {l : List Tm} (ho : li o = l) (hl : l.length < 10000000000000) (hs : ∀ t ∈ l, Small t) {ins outs st : Int} (h0 : 0 ≤ ins ∧ ins ≤ 1099511627776) (h1 : 0 ≤ outs ∧ outs ≤ 1099511627776) (h2 : 0 ≤ st ∧ st < 1000000000000000) (c3 c4 c6 : FV) :
    ∀ (s : List Tm) (k : Nat), l.drop k = s → ref02_checkPlane.L1 (.int .i64 ins) (.int .i64 outs) (.int .i64 (k : Int)) c3 c4 (.int .i64 st) c6 (sl T o) =
      if s.all (termOk ins outs st) then (if ins + outs + st > 128 ∨ l.length > 1024 then some (.int .i64 26) else some (.int .i64 0)) else some (.int .i64 27) := by
  intro s
  induction s with
  | nil =>
    intro k hd
    have e1 : IntKind.i64.wrap (ins + outs) = ins + outs := wrap64 (by omega) (by omega)
    have e2 : IntKind.i64.wrap (ins + outs + st) = ins + outs + st := wrap64 (by omega) (by omega)
    rw [ref02_checkPlane.L1_eq]
    simp only [fLen_sl, ho, bindO_s, fBin_lss, fCond_b, decide_eq_true_eq, Int.ofNat_lt, drop_nil hd, if_false, fBin_add, fBin_gtr, e1, e2, List.all_nil, if_true]
    by_cases g1 : 128 < ins + outs + st
    · simp [g1]
    · by_cases g2 : 1024 < l.length
      · simp [g1, g2, show (1024 : Int) < (l.length : Int) by omega]
      · simp [g1, g2, show ¬ ((1024 : Int) < (l.length : Int)) by omega]
  | cons t s ih =>
    intro k hd
    obtain ⟨hk, hn, hs'⟩ := drop_cons hd
    obtain ⟨s1, s2⟩ := hs t (List.mem_of_getElem? hn)
    have e2 : IntKind.i64.wrap (ins + st) = ins + st := wrap64 (by omega) (by omega)
    rw [ref02_checkPlane.L1_eq]
    simp only [fLen_sl, ho, bindO_s, fBin_lss, fCond_b, decide_eq_true_eq, Int.ofNat_lt, hk, if_true, idx_sl (ho ▸ hn) (T_len t), T_zero, T_one, fBin_add, fBin_neq, e2, List.all_cons]
    by_cases g1 : ((li t.1).length : Int) = ins + st
    · simp only [g1, ne_eq, not_true_eq_false, if_false]
      have := ref_if (o := t.1) rfl s1 (.int .i64 ins) (.int .i64 outs) (.int .i64 (k : Int)) c3 c4 (.int .i64 st) c6 (sl T o) (sl I t.2) _ 0 rfl
      rw [show (FV.int IntKind.i64 0) = .int .i64 ((0 : Nat) : Int) from rfl, this]
      have h3 := ref_then (o := t.2) rfl s2 (i := k) (by omega) h1 h2 (.int .i64 ins) c3 c4 c6 (sl T o) (sl I t.1) _ 0 none rfl (.inl ⟨rfl, rfl⟩)
      rw [show (FV.int IntKind.i64 0) = .int .i64 ((0 : Nat) : Int) from rfl, h3, ih (k + 1) hs']
      simp only [List.drop_zero, termOk, decide_eq_true g1, Bool.true_and]
      cases (li t.1).all lit <;> cases thenOk (outs + st) none (li t.2) <;> rfl
    · simp [g1, termOk]
theorem mach_terms {o : Option (List Tm)} {l : List Tm} (ho : li o = l) (hl : l.length < 10000000000000) (hs : ∀ t ∈ l, Small t) {ins outs st : Int} (h0 : 0 ≤ ins ∧ ins ≤ 1099511627776) (h1 : 0 ≤ outs ∧ outs ≤ 1099511627776) (h2 : 0 ≤ st ∧ st < 1000000000000000) (c5 c6 c8 c9 : FV) :
    ∀ (s : List Tm) (k : Nat), l.drop k = s → mach_checkPlane.L3 (.int .i64 ins) (.int .i64 outs) (sl T o) (.int .i64 (l.length : Int)) (.int .i64 (k : Int)) c5 c6 (.int .i64 st) c8 c9 =
      if s.all (termOk ins outs st) then some (.tup [.int .i64 ins, .int .i64 outs, .int .i64 0]) else some (.tup [.int .i64 0, .int .i64 0, .int .i64 27]) := by
  intro s
  induction s with
  | nil =>
    intro k hd
    rw [mach_checkPlane.L3_eq]
    simp [drop_nil hd]
  | cons t s ih =>
    intro k hd
    obtain ⟨hk, hn, hs'⟩ := drop_cons hd
    obtain ⟨s1, s2⟩ := hs t (List.mem_of_getElem? hn)
    have e2 : IntKind.i64.wrap (ins + st) = ins + st := wrap64 (by omega) (by omega)
    rw [mach_checkPlane.L3_eq]
    simp only [fLen_sl, bindO_s, fBin_lss, fCond_b, decide_eq_true_eq, Int.ofNat_lt, hk, if_true, idx_sl (ho ▸ hn) (T_len t), T_zero, T_one, fBin_add, fBin_neq, e2, List.all_cons, containsFunc_ok dyn137 s1]
    by_cases g1 : ((li t.1).length : Int) = ins + st
    · simp only [g1, ne_eq, not_true_eq_false, if_false]
      rw [mach_checkPlane.L4_eq]
      simp only [fLen_sl, bindO_s]
      have h3 := mach_then (o := t.2) rfl s2 (i := k) (by omega) h1 h2 (.int .i64 ins) (sl T o) (.int .i64 (l.length : Int)) c5 c6 c8 c9 (sl I t.1) _ 0 none rfl (.inl ⟨rfl, rfl⟩)
      rw [show (FV.int IntKind.i64 0) = .int .i64 ((0 : Nat) : Int) from rfl, h3, ih (k + 1) hs']
      have hany : (li t.1).any (fun n => !(decide (-1 ≤ n) && decide (n ≤ 1))) = !((li t.1).all lit) := by
        rw [← List.not_all_eq_any_not]; rfl
      simp only [List.drop_zero, termOk, decide_eq_true g1, Bool.true_and, hany]
      cases (li t.1).all lit <;> cases thenOk (outs + st) none (li t.2) <;> rfl
    · simp [g1, termOk]

/-- What is asked ahead of the terms. -/
def headOk (ins outs st : Int) (start : List Int) : Bool := decide (0 ≤ ins) && decide (0 ≤ outs) && decide (0 ≤ st) && decide ((start.length : Int) = st) && start.all bit

section
variable {ins outs start : Option (List Int)} {st : Int} {terms : Option (List Tm)}
structure PlaneWf (ins outs start : Option (List Int)) (st : Int) (terms : Option (List Tm)) : Prop where
  ins : (li ins).length < 1000000000000000 ∧ ∀ n ∈ li ins, n ≤ 9223372036854775807
  outs : (li outs).length < 1000000000000000 ∧ ∀ n ∈ li outs, n ≤ 9223372036854775807
  start : (li start).length < 100000000000000
  terms : (li terms).length < 10000000000000 ∧ ∀ t ∈ li terms, Small t
def plane (ins outs start : Option (List Int)) (st : Int) (terms : Option (List Tm)) : FV := .agg [sl I ins, sl I outs, .int .i64 st, sl I start, sl T terms]

theorem ref_check (w : PlaneWf ins outs start st terms) : ref02_checkPlane (plane ins outs start st terms) =
    some (.int .i64 (if headOk (capSum 0 (li ins)) (capSum 0 (li outs)) st (li start) && (li terms).all (termOk (capSum 0 (li ins)) (capSum 0 (li outs)) st) then
      (if capSum 0 (li ins) + capSum 0 (li outs) + st > 128 ∨ (li terms).length > 1024 then 26 else 0) else 27)) := by
  have i1 := capSum_ge (li ins) 0 (by omega)
  have i2 := capSum_le (li ins) 0 (by omega) (by omega)
  have o1 := capSum_ge (li outs) 0 (by omega)
  have o2 := capSum_le (li outs) 0 (by omega) (by omega)
  rw [ref02_checkPlane.eq]
  simp only [plane, fIsAgg_agg, List.length_cons, List.length_nil, fCell_zero, fCell_succ, ref02_sum_ok w.ins.1, ref02_sum_ok w.outs.1, bindO_s, fBin_lss, fCond_b, decide_eq_true_eq, bitsAlone_ok (show (li start).length < 1000000000000000 by have := w.start; omega), fUn_not]
  simp only [show (0 + 1 + 1 + 1 + 1 + 1 == 5) = true from rfl, gB_t, headOk]
  by_cases g1 : capSum 0 (li ins) < 0
  · simp [g1, show ¬ (0 ≤ capSum 0 (li ins)) by omega]
  by_cases g2 : capSum 0 (li outs) < 0
  · simp [g1, g2, show ¬ (0 ≤ capSum 0 (li outs)) by omega]
  by_cases g3 : st < 0
  · simp [g1, g2, g3, show ¬ (0 ≤ st) by omega]
  by_cases g4 : ((li start).length : Int) = st
  · by_cases g5 : (li start).all bit = true
    · simp only [g5]
      simp only [g1, g2, g3, if_false, g4, decide_true, Bool.true_and, Bool.not_true, Bool.false_eq_true]
      rw [ref02_checkPlane.L0_eq]
      have hst : st < 1000000000000000 := by have := w.start; omega
      have := ref_terms (o := terms) rfl w.terms.1 w.terms.2 ⟨by omega, i2⟩ ⟨by omega, o2⟩ ⟨by omega, hst⟩ (sl I ins) (sl I outs) (sl I start) _ 0 rfl
      rw [show (FV.int IntKind.i64 0) = .int .i64 ((0 : Nat) : Int) from rfl, this]
      simp only [List.drop_zero, show 0 ≤ capSum 0 (li ins) by omega, show 0 ≤ capSum 0 (li outs) by omega, show 0 ≤ st by omega, decide_true, Bool.true_and]
      split
      · split <;> rfl
      · rfl
    · simp only [Bool.not_eq_true] at g5
      simp [g1, g2, g3, g5]
  · simp [g1, g2, g3, g4]

theorem mach_check (w : PlaneWf ins outs start st terms) : mach_checkPlane (plane ins outs start st terms) =
    some (if headOk (capSum 0 (li ins)) (capSum 0 (li outs)) st (li start) && (li terms).all (termOk (capSum 0 (li ins)) (capSum 0 (li outs)) st) then
      .tup [.int .i64 (capSum 0 (li ins)), .int .i64 (capSum 0 (li outs)), .int .i64 0] else .tup [.int .i64 0, .int .i64 0, .int .i64 27]) := by
  have i2 := capSum_le (li ins) 0 (by omega) (by omega)
  have o2 := capSum_le (li outs) 0 (by omega) (by omega)
  rw [mach_checkPlane.eq]
  simp only [plane, fIsAgg_agg, List.length_cons, List.length_nil, fCell_zero, fCell_succ, mach_sum_ok w.ins.1, mach_sum_ok w.outs.1, bindO_s, fBin_lss, fCond_b, decide_eq_true_eq, fLen_sl, fBin_neq]
  simp only [show (0 + 1 + 1 + 1 + 1 + 1 == 5) = true from rfl, gB_t, headOk]
  cases hi : mS 0 (li ins) with
  | none =>
    have := mS_none _ _ hi 0
    cases ho : mS 0 (li outs) <;> simp [mSV, this]
  | some vi =>
    obtain ⟨a1, a2, a3, a4⟩ := mS_some _ _ _ hi (by omega) (by omega)
    have i1 := capSum_nonneg (li ins) 0 (by omega) a1
    cases ho : mS 0 (li outs) with
    | none =>
      have := mS_none _ _ ho 0
      simp [mSV, this]
    | some vo =>
      obtain ⟨b1, b2, b3, b4⟩ := mS_some _ _ _ ho (by omega) (by omega)
      have o1 := capSum_nonneg (li outs) 0 (by omega) b1
      simp only [mSV, fIsTup_tup, List.length_cons, List.length_nil, fTup_zero, fTup_succ, fUn_not, bindO_s, fCond_b, Bool.not_true, if_false, show (0 + 1 + 1 == 2) = true from rfl, gB_t, Bool.false_eq_true]
      by_cases g3 : st < 0
      · simp [g3, show ¬ (0 ≤ st) by omega]
      by_cases g4 : ((li start).length : Int) = st
      · simp only [g3, if_false, g4, ne_eq, not_true_eq_false]
        rw [mach_checkPlane.L0_eq]
        simp only [containsFunc_ok dyn135 (show (li start).length < 1000000000000000 by have := w.start; omega), bindO_s, fCond_b]
        have hany : (li start).any (fun n => !bit n) = !((li start).all bit) := by
          rw [← List.not_all_eq_any_not]
        rw [hany]
        by_cases g5 : (li start).all bit = true
        · simp only [g5]
          have hst : st < 1000000000000000 := by have := w.start; omega
          have hfin := mach_terms (o := terms) rfl w.terms.1 w.terms.2 ⟨i1, i2⟩ ⟨o1, o2⟩ ⟨by omega, hst⟩ (sl I ins) (sl I outs) (sl I start) (sl T terms) _ 0 rfl
          have h2 : mach_checkPlane.L2 (.int .i64 (capSum 0 (li ins))) (.int .i64 (capSum 0 (li outs))) (sl I ins) (sl I outs) (.int .i64 st) (sl I start) (sl T terms) = some (if (li terms).all (termOk (capSum 0 (li ins)) (capSum 0 (li outs)) st) then
              .tup [.int .i64 (capSum 0 (li ins)), .int .i64 (capSum 0 (li outs)), .int .i64 0] else .tup [.int .i64 0, .int .i64 0, .int .i64 27]) := by
            rw [mach_checkPlane.L2_eq]
            simp only [fLen_sl, bindO_s]
            rw [show (FV.int IntKind.i64 0) = .int .i64 ((0 : Nat) : Int) from rfl, hfin]
            simp only [List.drop_zero]
            split <;> rfl
          have h1 : mach_checkPlane.L1 (.int .i64 (capSum 0 (li ins))) (.int .i64 vo) (sl I ins) (sl I outs) (.int .i64 st) (sl I start) (sl T terms) = mach_checkPlane.L2 (.int .i64 (capSum 0 (li ins))) (.int .i64 (capSum 0 (li outs))) (sl I ins) (sl I outs) (.int .i64 st) (sl I start) (sl T terms) := by
            rw [mach_checkPlane.L1_eq]
            simp only [fBin_eql, bindO_s, fCond_b, decide_eq_true_eq]
            by_cases hv : vo = 1000
            · simp only [hv, if_true, exact_ok w.outs.1 fun n hn => ⟨b1 n hn, w.outs.2 n hn⟩, bindO_s]
            · rw [if_neg hv, b4 (by omega)]
          simp only [Bool.not_true, Bool.false_eq_true, if_false, fBin_eql, bindO_s, fCond_b, decide_eq_true_eq, i1, o1, show 0 ≤ st by omega, decide_true, Bool.true_and]
          by_cases hv : vi = 1000
          · simp only [hv, if_true, exact_ok w.ins.1 fun n hn => ⟨a1 n hn, w.ins.2 n hn⟩, bindO_s]
            rw [h1, h2]
          · rw [if_neg hv, ← a4 (by omega), h1, h2]
        · simp only [Bool.not_eq_true] at g5
          simp [g5]
      · simp [g3, g4]
end
end Go.Proofs.Ytelcbakleaaneaa
