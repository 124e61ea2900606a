/- Names: both programs' words for them. -/
import Derived.Test.YtelcbakleaaneaaCode0
import Derived.Test.YtelcbakleaaneaaKit
import Derived.Lib.DecodeN
namespace Go.Proofs.Ytelcbakleaaneaa
open Go Go.Proofs.Ytelcbakleaaneaa.VM
set_option linter.unusedVariables false
set_option linter.unusedSimpArgs false

abbrev Str := List UInt8
/-- A row of one text. -/
def S (s : Str) : List FV := [.str s]
@[simp] theorem S_len (s : Str) : (S s).length = 1 := rfl
@[simp] theorem S_zero (s : Str) : (S s)[0]? = some (.str s) := rfl

/-! ### Letters -/
def alnumN (n : Nat) : Bool := (decide (65 ≤ n) && decide (n ≤ 90)) || ((decide (97 ≤ n) && decide (n ≤ 122)) || (decide (48 ≤ n) && decide (n ≤ 57)))
def alnum (b : UInt8) : Bool := alnumN b.toNat
def isNm (s : Str) : Bool := s.all alnum && (decide (1 ≤ s.length) && decide (s.length ≤ 16))

theorem decode_low (s : ByteArray) (i : Nat) (h : (s.get! i).toNat < 128) : Utf8.decode s i = ((s.get! i).toNat, 1) := by
  rw [Lib.decode_at]; simp [Lib.decodeN, h]
theorem decode_high (s : ByteArray) (i : Nat) (h : ¬ (s.get! i).toNat < 128) : 128 ≤ (Utf8.decode s i).1 := by
  rw [Lib.decode_at]
  simp only [Lib.decodeN, h, if_false]
  repeat' split
  all_goals (first | omega | (simp only; omega))
theorem get_bang {s : Str} {i : Nat} {b : UInt8} (h : s[i]? = some b) : (ByteArray.mk s.toArray).get! i = b := by
  have hl : i < s.length := by
    rcases Nat.lt_or_ge i s.length with h1 | h1
    · exact h1
    · rw [List.getElem?_eq_none h1] at h; cases h
  rw [List.getElem?_eq_getElem hl] at h
  cases h
  simp [ByteArray.get!, hl]

theorem fNext_end {s : Str} {i : Nat} (h : ¬ i < s.length) : fNext (.str s) i = some (false, 0, i) := by simp [fNext, h]
theorem fNext_low {s : Str} {i : Nat} {b : UInt8} (h : s[i]? = some b) (hi : i < s.length) (hb : b.toNat < 128) : fNext (.str s) i = some (true, (b.toNat : Int), i + 1) := by
  simp only [fNext, hi, if_true]
  rw [decode_low _ _ (by rw [get_bang h]; exact hb), get_bang h]
theorem fNext_high {s : Str} {i : Nat} {b : UInt8} (h : s[i]? = some b) (hi : i < s.length) (hb : ¬ b.toNat < 128) : ∃ r p : Nat, 128 ≤ r ∧ fNext (.str s) i = some (true, (r : Int), p) := by
  simp only [fNext, hi, if_true]
  exact ⟨_, _, decode_high _ _ (by rw [get_bang h]; exact hb), rfl⟩

theorem mach_isName_L0 {s : Str} (hl : s.length < 1000000000000000) : ∀ (t : Str) (k : Nat), k ≤ s.length → s.drop k = t →
    mach_isName.L0 (.int .i64 (k : Int)) (.str s) k = some (.bool (t.all alnum && (decide (1 ≤ s.length) && decide (s.length ≤ 16)))) := by
  intro t
  induction t with
  | nil =>
    intro k hkl hd
    obtain rfl : k = s.length := by have := drop_nil hd; omega
    rw [mach_isName.L0_eq, fNext_end (drop_nil hd)]
    simp only [bindO_s, fCond_b, fBin_geq, fBin_leq, Bool.false_eq_true, if_false, List.all_nil, Bool.true_and]
    by_cases h1 : (1 : Int) ≤ (s.length : Int)
    · simp only [h1, decide_true, if_true, show 1 ≤ s.length by omega, Bool.true_and]
      rw [show decide ((s.length : Int) ≤ 16) = decide (s.length ≤ 16) by congr 1; exact propext (by omega)]
    · simp only [h1, decide_false, Bool.false_eq_true, if_false, show ¬ 1 ≤ s.length by omega, Bool.false_and]
  | cons b t ih =>
    intro k hkl hd
    obtain ⟨hk, hn, hs⟩ := drop_cons hd
    have e : IntKind.i64.wrap ((k : Int) + 1) = ((k + 1 : Nat) : Int) := wrap64 (by omega) (by omega)
    have ih' := ih (k + 1) (by omega) hs
    rw [mach_isName.L0_eq]
    by_cases hb : b.toNat < 128
    · rw [fNext_low hn hk hb]
      simp only [bindO_s, fCond_b, fBin_geq, fBin_leq, fUn_not, fBin_add, e, ih', decide_eq_true_eq, Bool.not_eq_true', decide_eq_false_iff_not, Bool.not_true, Bool.not_false, Bool.false_eq_true, if_true, if_false, List.all_cons]
      by_cases h1 : 65 ≤ (b.toNat : Int) <;> by_cases h2 : (b.toNat : Int) ≤ 90 <;> by_cases h3 : 97 ≤ (b.toNat : Int) <;> by_cases h4 : (b.toNat : Int) ≤ 122 <;> by_cases h5 : 48 ≤ (b.toNat : Int) <;> by_cases h6 : (b.toNat : Int) ≤ 57 <;>
        (have ha : alnum b = alnumN b.toNat := rfl
         simp only [h1, h2, h3, h4, h5, h6, if_true, if_false, not_true, not_false_eq_true]
         first
           | (exfalso; omega)
           | (rw [show alnum b = true by rw [ha]; simp [alnumN]; omega]; simp)
           | (rw [show alnum b = false by rw [ha]; simp [alnumN]; omega]; simp))
    · obtain ⟨r, p, hr, hp⟩ := fNext_high hn hk hb
      rw [hp]
      have ha : alnum b = false := by unfold alnum alnumN; simp; omega
      simp only [bindO_s, fCond_b, fBin_geq, fBin_leq, fUn_not, decide_eq_true_eq, show (65 ≤ (r : Int)) by omega, show ¬ ((r : Int) ≤ 90) by omega, show (97 ≤ (r : Int)) by omega, show ¬ ((r : Int) ≤ 122) by omega, show (48 ≤ (r : Int)) by omega, show ¬ ((r : Int) ≤ 57) by omega, decide_true, decide_false, Bool.not_false, Bool.false_eq_true, if_true, if_false, List.all_cons, Bool.false_and, ha]
theorem mach_isName_ok {s : Str} (hl : s.length < 1000000000000000) : mach_isName (.str s) = some (.bool (isNm s)) := by
  rw [mach_isName.eq]
  exact mach_isName_L0 hl s 0 (by omega) rfl

theorem ref_isName_L0 {s : Str} (hl : s.length < 1000000000000000) : ∀ (t : Str) (k : Nat), k ≤ s.length → s.drop k = t →
    ref02_IsName.L0 (.str s) (.int .i64 (k : Int)) = some (.bool (t.all alnum && (decide (1 ≤ s.length) && decide (s.length ≤ 16)))) := by
  intro t
  induction t with
  | nil =>
    intro k hkl hd
    rw [ref02_IsName.L0_eq]
    simp only [fLenT_str, bindO_s, fCond_b, fBin_lss, fBin_geq, fBin_leq, Int.ofNat_lt, drop_nil hd, decide_false, Bool.false_eq_true, if_false, List.all_nil, Bool.true_and]
    by_cases h1 : (1 : Int) ≤ (s.length : Int)
    · simp only [h1, decide_true, if_true, show 1 ≤ s.length by omega, Bool.true_and]
      rw [show decide ((s.length : Int) ≤ 16) = decide (s.length ≤ 16) by congr 1; exact propext (by omega)]
    · simp only [h1, decide_false, Bool.false_eq_true, if_false, show ¬ 1 ≤ s.length by omega, Bool.false_and]
  | cons b t ih =>
    intro k hkl hd
    obtain ⟨hk, hn, hs⟩ := drop_cons hd
    have e : IntKind.i64.wrap ((k : Int) + 1) = ((k + 1 : Nat) : Int) := wrap64 (by omega) (by omega)
    have ih' := ih (k + 1) (by omega) hs
    have hby : fByte (.str s) (.int .i64 (k : Int)) = some (.int .u8 (b.toNat : Int)) := by simp [fByte, hn]
    rw [ref02_IsName.L0_eq]
    simp only [fLenT_str, bindO_s, fBin_lss, fCond_b, decide_eq_true_eq, Int.ofNat_lt, hk, if_true, hby]
    simp only [bindO_s, fCond_b, fBin_geq, fBin_leq, fUn_not, fBin_add, e, ih', decide_eq_true_eq, Bool.not_eq_true', decide_eq_false_iff_not, Bool.not_true, Bool.not_false, Bool.false_eq_true, if_true, if_false, List.all_cons]
    by_cases h1 : 65 ≤ (b.toNat : Int) <;> by_cases h2 : (b.toNat : Int) ≤ 90 <;> by_cases h3 : 97 ≤ (b.toNat : Int) <;> by_cases h4 : (b.toNat : Int) ≤ 122 <;> by_cases h5 : 48 ≤ (b.toNat : Int) <;> by_cases h6 : (b.toNat : Int) ≤ 57 <;>
        (have ha : alnum b = alnumN b.toNat := rfl
         simp only [h1, h2, h3, h4, h5, h6, if_true, if_false, not_true, not_false_eq_true]
         first
           | (exfalso; omega)
           | (rw [show alnum b = true by rw [ha]; simp [alnumN]; omega]; simp)
           | (rw [show alnum b = false by rw [ha]; simp [alnumN]; omega]; simp))
theorem ref_isName_ok {s : Str} (hl : s.length < 1000000000000000) : ref02_IsName (.str s) = some (.bool (isNm s)) := by
  rw [ref02_IsName.eq]
  exact ref_isName_L0 hl s 0 (by omega) rfl

/-! ### The first of that name -/
theorem find_L {α : Type} {e : α → List FV} {nm : α → Str} {n : Nat} (he : ∀ a, (e a).length = n) (hz : ∀ a, (e a)[0]? = some (.str (nm a))) {s : Str} {f : FV → R} {l : List α} (hl : l.length < 1000000000000000)
    (heq : ∀ i, f i = bindO (fLen (.arr (l.map e))) fun v4 => bindO (fBin .lss i v4) fun v5 => fCond v5 (bindO (fIdxC n (.arr (l.map e)) i) fun c6 => bindO (c6[0]?) fun v7 => bindO (fBin .eql v7 (.str s)) fun v8 => fCond v8 (some i) (bindO (fBin .add i (.int .i64 1)) fun v9 => f v9)) (some (.int .i64 (-1)))) :
    ∀ (t : List α) (k : Nat), l.drop k = t → ∃ m : Int, f (.int .i64 (k : Int)) = some (.int .i64 m) ∧ (0 ≤ m ↔ s ∈ t.map nm) := by
  intro t
  induction t with
  | nil =>
    intro k hd
    refine ⟨-1, ?_, by simp⟩
    rw [heq]
    simp only [fLen_arr, List.length_map, bindO_s, fCond_b, fBin_lss, decide_eq_true_eq, Int.ofNat_lt, drop_nil hd, if_false]
  | cons a t ih =>
    intro k hd
    obtain ⟨hk, hn, hs⟩ := drop_cons hd
    have e1 : IntKind.i64.wrap ((k : Int) + 1) = ((k + 1 : Nat) : Int) := wrap64 (by omega) (by omega)
    obtain ⟨m, h1, h2⟩ := ih (k + 1) hs
    by_cases g : nm a = s
    · refine ⟨k, ?_, by simp [g]⟩
      rw [heq]
      simp only [fLen_arr, List.length_map, bindO_s, fCond_b, fBin_lss, decide_eq_true_eq, Int.ofNat_lt, hk, if_true, idx_arr (show (l.map e)[k]? = some (e a) by simp [hn]) (he a), hz, fBin_eqlS, g]
    · refine ⟨m, ?_, by rw [h2]; simp only [List.map_cons, List.mem_cons, show s ≠ nm a from fun h => g h.symm, false_or]⟩
      rw [heq]
      simp only [fLen_arr, List.length_map, bindO_s, fCond_b, fBin_lss, decide_eq_true_eq, Int.ofNat_lt, hk, if_true, idx_arr (show (l.map e)[k]? = some (e a) by simp [hn]) (he a), hz, fBin_eqlS, g, if_false, fBin_add, e1, h1]
theorem place_ok {l : List Str} (hl : l.length < 1000000000000000) (s : Str) : ∃ m : Int, ref02_place (.arr (l.map S)) (.str s) = some (.int .i64 m) ∧ (0 ≤ m ↔ s ∈ l) := by
  obtain ⟨m, h1, h2⟩ := find_L (e := S) (nm := id) S_len S_zero (s := s) (f := ref02_place.L0 (.arr (l.map S)) (.str s)) hl (fun i => ref02_place.L0_eq _ _ _) l 0 rfl
  exact ⟨m, by rw [ref02_place.eq]; exact h1, by simpa using h2⟩

/-! ### Sets kept in a map -/
section
variable {κ : Type} [DecidableEq κ] {key : κ → FV} {ag : Bool} {sk : List SK}
def setM (key : κ → FV) (m : List κ) : List (FV × FV) := m.map fun s => (key s, .bool true)
theorem mFind_set (hk : ∀ a b, keyEq ag sk (key a) (key b) = some (decide (a = b))) (s : κ) : ∀ m : List κ, mFind ag sk (setM key m) (key s) = some (if s ∈ m then some (.bool true) else none)
  | [] => by simp [setM, mFind]
  | a :: m => by
    have := mFind_set hk s m
    simp only [setM, List.map_cons, mFind, hk, bindO_s] at this ⊢
    by_cases g : s = a
    · simp [g]
    · simp [g, this]
theorem mLook_set (hk : ∀ a b, keyEq ag sk (key a) (key b) = some (decide (a = b))) (hok : ∀ a, keyOk ag sk (key a) = true) (s : κ) (m : List κ) : mLook ag sk (setM key m) (key s) (.bool false) = some (.bool (decide (s ∈ m)), decide (s ∈ m)) := by
  unfold mLook
  rw [hok, mFind_set hk]
  by_cases g : s ∈ m <;> simp [g]
theorem mPut_set (hk : ∀ a b, keyEq ag sk (key a) (key b) = some (decide (a = b))) (s : κ) : ∀ m : List κ, s ∉ m → mPut ag sk (setM key m) (key s) (.bool true) = some (setM key (m ++ [s]))
  | [], _ => rfl
  | a :: m, h => by
    have := mPut_set hk s m (fun g => h (by simp [g]))
    have g : s ≠ a := fun g => h (by simp [g])
    simp only [setM, List.map_cons, List.cons_append, mPut, hk, bindO_s, g, decide_false] at this ⊢
    rw [this]; rfl
end
theorem str_keyEq (a b : Str) : keyEq false [.str] (.str a) (.str b) = some (decide (a = b)) := by
  have : (a == b) = decide (a = b) := by rw [Bool.eq_iff_iff]; simp
  simp [keyEq, scalarEq, this]
theorem str_keyOk (a : Str) : keyOk false [.str] (.str a) = true := rfl

/-! ### Names, one after the other -/
/-- 21: not a name; 22: twice; 0. -/
def namesGo : List Str → List Str → Int
  | _, [] => 0
  | m, s :: l => if isNm s = false then 21 else if s ∈ m then 22 else namesGo (m ++ [s]) l
def Sms (l : List Str) : Prop := l.length < 1000000000000000 ∧ ∀ s ∈ l, s.length < 1000000000000000

theorem ref_names_L0 {o : Option (List Str)} {l : List Str} (ho : li o = l) (hl : Sms l) : ∀ (t : List Str) (k : Nat), l.drop k = t →
    ref02_checkNames.L0 (sl S o) (.int .i64 (k : Int)) = some (.int .i64 (namesGo (l.take k) t)) := by
  intro t
  induction t with
  | nil =>
    intro k hd
    rw [ref02_checkNames.L0_eq]
    simp only [fLen_sl, ho, bindO_s, fCond_b, fBin_lss, decide_eq_true_eq, Int.ofNat_lt, drop_nil hd, if_false, namesGo]
  | cons s t ih =>
    intro k hd
    obtain ⟨hk, hn, hs⟩ := drop_cons hd
    have e1 : IntKind.i64.wrap ((k : Int) + 1) = ((k + 1 : Nat) : Int) := wrap64 (by have := hl.1; omega) (by have := hl.1; omega)
    have hsm := hl.2 s (List.mem_of_getElem? hn)
    obtain ⟨m, h1, h2⟩ := place_ok (l := l.take k) (by have := hl.1; simp; omega) s
    have htk : l.take (k + 1) = l.take k ++ [s] := by rw [List.take_add_one, hn]; rfl
    have hcut : fCut 1 (sl S o) none (some (.int .i64 (k : Int))) = some (.arr ((l.take k).map S)) := by
      cases o with
      | none => rw [← ho] at hk; simp at hk
      | some r =>
        obtain rfl : r = l := ho
        rw [sl_some, fCut_take (rowsSz_map S_len _) (by simp; omega), List.map_take]
    rw [ref02_checkNames.L0_eq]
    simp only [fLen_sl, ho, bindO_s, fCond_b, fBin_lss, decide_eq_true_eq, Int.ofNat_lt, hk, if_true, idx_sl (ho ▸ hn) (S_len s), S_zero, ref_isName_ok hsm, fUn_not, hcut, h1, fBin_geq, h2, fBin_add, e1, ih (k + 1) hs, namesGo, Bool.not_eq_true', htk]
    by_cases g : isNm s = false
    · simp only [g, if_true]
    · simp only [g, if_false, reduceCtorEq]
      by_cases g2 : s ∈ l.take k
      · simp only [g2, if_true, if_false, reduceCtorEq]
      · simp only [g2, if_false, reduceCtorEq]
theorem ref_names_ok {o : Option (List Str)} (hl : Sms (li o)) : ref02_checkNames (sl S o) = some (.int .i64 (namesGo [] (li o))) := by
  rw [ref02_checkNames.eq]
  exact ref_names_L0 rfl hl _ 0 rfl

theorem mach_names_L0 {o : Option (List Str)} {l : List Str} (ho : li o = l) (hl : Sms l) : ∀ (t : List Str) (k : Nat) (m : List Str), l.drop k = t →
    mach_names.L0 (sl S o) (.int .i64 (l.length : Int)) (.int .i64 (k : Int)) (setM FV.str m) = some (.int .i64 (namesGo m t)) := by
  intro t
  induction t with
  | nil =>
    intro k m hd
    rw [mach_names.L0_eq]
    simp only [bindO_s, fCond_b, fBin_lss, decide_eq_true_eq, Int.ofNat_lt, drop_nil hd, if_false, namesGo]
  | cons s t ih =>
    intro k m hd
    obtain ⟨hk, hn, hs⟩ := drop_cons hd
    have e1 : IntKind.i64.wrap ((k : Int) + 1) = ((k + 1 : Nat) : Int) := wrap64 (by have := hl.1; omega) (by have := hl.1; omega)
    have hsm := hl.2 s (List.mem_of_getElem? hn)
    rw [mach_names.L0_eq]
    simp only [bindO_s, fCond_b, fBin_lss, decide_eq_true_eq, Int.ofNat_lt, hk, if_true, idx_sl (ho ▸ hn) (S_len s), S_zero, mach_isName_ok hsm, fUn_not, mLook_set str_keyEq str_keyOk, str_keyOk, gB_t, fBin_add, e1, namesGo, Bool.not_eq_true']
    by_cases g : isNm s = false
    · simp only [g, if_true]
    · simp only [g, if_false, reduceCtorEq]
      by_cases g2 : s ∈ m
      · simp only [g2, if_true, if_false, reduceCtorEq]
      · simp only [g2, if_false, reduceCtorEq, mPut_set str_keyEq s m g2, bindO_s, ih (k + 1) _ hs]
theorem mach_names_ok {o : Option (List Str)} (hl : Sms (li o)) : mach_names (sl S o) = some (.int .i64 (namesGo [] (li o))) := by
  rw [mach_names.eq]
  simp only [fLen_sl, bindO_s]
  exact mach_names_L0 rfl hl _ 0 [] rfl
end Go.Proofs.Ytelcbakleaaneaa
