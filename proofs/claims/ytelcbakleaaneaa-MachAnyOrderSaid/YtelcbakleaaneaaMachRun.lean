/- Names: both programs' words for them. Machines: ports, rows, the question Check. Machines: the question Check, in both programs. Machines run: both programs' runs and steps. Machines run: the law MachRuns. -/
import Derived.Test.YtelcbakleaaneaaCode0
import Derived.Test.YtelcbakleaaneaaKit
import Derived.Lib.DecodeN
section
namespace Go.Proofs.Ytelcbakleaaneaa
open Go Go.Proofs.Ytelcbakleaaneaa.VM
set_option linter.unusedVariables false
set_option linter.unusedSimpArgs false

abbrev Str := List UInt8
/-- A row of one text. -/
def S (s : Str) : List FV := [.str s]
@[simp] theorem S_len (s : Str) : (S s).length = 1 := rfl
@[simp] theorem S_zero (s : Str) : (S s)[0]? = some (.str s) := rfl

/-! ### Letters -/
def alnumN (n : Nat) : Bool := (decide (65 ≤ n) && decide (n ≤ 90)) || ((decide (97 ≤ n) && decide (n ≤ 122)) || (decide (48 ≤ n) && decide (n ≤ 57)))
def alnum (b : UInt8) : Bool := alnumN b.toNat
def isNm (s : Str) : Bool := s.all alnum && (decide (1 ≤ s.length) && decide (s.length ≤ 16))

theorem decode_low (s : ByteArray) (i : Nat) (h : (s.get! i).toNat < 128) : Utf8.decode s i = ((s.get! i).toNat, 1) := by
  rw [Lib.decode_at]; simp [Lib.decodeN, h]
theorem decode_high (s : ByteArray) (i : Nat) (h : ¬ (s.get! i).toNat < 128) : 128 ≤ (Utf8.decode s i).1 := by
  rw [Lib.decode_at]
  simp only [Lib.decodeN, h, if_false]
  repeat' split
  all_goals (first | omega | (simp only; omega))
theorem get_bang {s : Str} {i : Nat} {b : UInt8} (h : s[i]? = some b) : (ByteArray.mk s.toArray).get! i = b := by
  have hl : i < s.length := by
    rcases Nat.lt_or_ge i s.length with h1 | h1
    · exact h1
    · rw [List.getElem?_eq_none h1] at h; cases h
  rw [List.getElem?_eq_getElem hl] at h
  cases h
  simp [ByteArray.get!, hl]

theorem fNext_end {s : Str} {i : Nat} (h : ¬ i < s.length) : fNext (.str s) i = some (false, 0, i) := by simp [fNext, h]
theorem fNext_low {s : Str} {i : Nat} {b : UInt8} (h : s[i]? = some b) (hi : i < s.length) (hb : b.toNat < 128) : fNext (.str s) i = some (true, (b.toNat : Int), i + 1) := by
  simp only [fNext, hi, if_true]
  rw [decode_low _ _ (by rw [get_bang h]; exact hb), get_bang h]
theorem fNext_high {s : Str} {i : Nat} {b : UInt8} (h : s[i]? = some b) (hi : i < s.length) (hb : ¬ b.toNat < 128) : ∃ r p : Nat, 128 ≤ r ∧ fNext (.str s) i = some (true, (r : Int), p) := by
  simp only [fNext, hi, if_true]
  exact ⟨_, _, decode_high _ _ (by rw [get_bang h]; exact hb), rfl⟩

theorem mach_isName_L0 {s : Str} (hl : s.length < 1000000000000000) : ∀ (t : Str) (k : Nat), k ≤ s.length → s.drop k = t →
    mach_isName.L0 (.int .i64 (k : Int)) (.str s) k = some (.bool (t.all alnum && (decide (1 ≤ s.length) && decide (s.length ≤ 16)))) := by
  intro t
  induction t with
  | nil =>
    intro k hkl hd
    obtain rfl : k = s.length := by have := drop_nil hd; omega
    rw [mach_isName.L0_eq, fNext_end (drop_nil hd)]
    simp only [bindO_s, fCond_b, fBin_geq, fBin_leq, Bool.false_eq_true, if_false, List.all_nil, Bool.true_and]
    by_cases h1 : (1 : Int) ≤ (s.length : Int)
    · simp only [h1, decide_true, if_true, show 1 ≤ s.length by omega, Bool.true_and]
      rw [show decide ((s.length : Int) ≤ 16) = decide (s.length ≤ 16) by congr 1; exact propext (by omega)]
    · simp only [h1, decide_false, Bool.false_eq_true, if_false, show ¬ 1 ≤ s.length by omega, Bool.false_and]
  | cons b t ih =>
    intro k hkl hd
    obtain ⟨hk, hn, hs⟩ := drop_cons hd
    have e : IntKind.i64.wrap ((k : Int) + 1) = ((k + 1 : Nat) : Int) := wrap64 (by omega) (by omega)
    have ih' := ih (k + 1) (by omega) hs
    rw [mach_isName.L0_eq]
    by_cases hb : b.toNat < 128
    · rw [fNext_low hn hk hb]
      simp only [bindO_s, fCond_b, fBin_geq, fBin_leq, fUn_not, fBin_add, e, ih', decide_eq_true_eq, Bool.not_eq_true', decide_eq_false_iff_not, Bool.not_true, Bool.not_false, Bool.false_eq_true, if_true, if_false, List.all_cons]
      by_cases h1 : 65 ≤ (b.toNat : Int) <;> by_cases h2 : (b.toNat : Int) ≤ 90 <;> by_cases h3 : 97 ≤ (b.toNat : Int) <;> by_cases h4 : (b.toNat : Int) ≤ 122 <;> by_cases h5 : 48 ≤ (b.toNat : Int) <;> by_cases h6 : (b.toNat : Int) ≤ 57 <;>
        (have ha : alnum b = alnumN b.toNat := rfl
         simp only [h1, h2, h3, h4, h5, h6, if_true, if_false, not_true, not_false_eq_true]
         first
           | (exfalso; omega)
           | (rw [show alnum b = true by rw [ha]; simp [alnumN]; omega]; simp)
           | (rw [show alnum b = false by rw [ha]; simp [alnumN]; omega]; simp))
    · obtain ⟨r, p, hr, hp⟩ := fNext_high hn hk hb
      rw [hp]
      have ha : alnum b = false := by unfold alnum alnumN; simp; omega
      simp only [bindO_s, fCond_b, fBin_geq, fBin_leq, fUn_not, decide_eq_true_eq, show (65 ≤ (r : Int)) by omega, show ¬ ((r : Int) ≤ 90) by omega, show (97 ≤ (r : Int)) by omega, show ¬ ((r : Int) ≤ 122) by omega, show (48 ≤ (r : Int)) by omega, show ¬ ((r : Int) ≤ 57) by omega, decide_true, decide_false, Bool.not_false, Bool.false_eq_true, if_true, if_false, List.all_cons, Bool.false_and, ha]
theorem mach_isName_ok {s : Str} (hl : s.length < 1000000000000000) : mach_isName (.str s) = some (.bool (isNm s)) := by
  rw [mach_isName.eq]
  exact mach_isName_L0 hl s 0 (by omega) rfl

theorem ref_isName_L0 {s : Str} (hl : s.length < 1000000000000000) : ∀ (t : Str) (k : Nat), k ≤ s.length → s.drop k = t →
    ref02_IsName.L0 (.str s) (.int .i64 (k : Int)) = some (.bool (t.all alnum && (decide (1 ≤ s.length) && decide (s.length ≤ 16)))) := by
  intro t
  induction t with
  | nil =>
    intro k hkl hd
    rw [ref02_IsName.L0_eq]
    simp only [fLenT_str, bindO_s, fCond_b, fBin_lss, fBin_geq, fBin_leq, Int.ofNat_lt, drop_nil hd, decide_false, Bool.false_eq_true, if_false, List.all_nil, Bool.true_and]
    by_cases h1 : (1 : Int) ≤ (s.length : Int)
    · simp only [h1, decide_true, if_true, show 1 ≤ s.length by omega, Bool.true_and]
      rw [show decide ((s.length : Int) ≤ 16) = decide (s.length ≤ 16) by congr 1; exact propext (by omega)]
    · simp only [h1, decide_false, Bool.false_eq_true, if_false, show ¬ 1 ≤ s.length by omega, Bool.false_and]
  | cons b t ih =>
    intro k hkl hd
    obtain ⟨hk, hn, hs⟩ := drop_cons hd
    have e : IntKind.i64.wrap ((k : Int) + 1) = ((k + 1 : Nat) : Int) := wrap64 (by omega) (by omega)
    have ih' := ih (k + 1) (by omega) hs
    have hby : fByte (.str s) (.int .i64 (k : Int)) = some (.int .u8 (b.toNat : Int)) := by simp [fByte, hn]
    rw [ref02_IsName.L0_eq]
    simp only [fLenT_str, bindO_s, fBin_lss, fCond_b, decide_eq_true_eq, Int.ofNat_lt, hk, if_true, hby]
    simp only [bindO_s, fCond_b, fBin_geq, fBin_leq, fUn_not, fBin_add, e, ih', decide_eq_true_eq, Bool.not_eq_true', decide_eq_false_iff_not, Bool.not_true, Bool.not_false, Bool.false_eq_true, if_true, if_false, List.all_cons]
    by_cases h1 : 65 ≤ (b.toNat : Int) <;> by_cases h2 : (b.toNat : Int) ≤ 90 <;> by_cases h3 : 97 ≤ (b.toNat : Int) <;> by_cases h4 : (b.toNat : Int) ≤ 122 <;> by_cases h5 : 48 ≤ (b.toNat : Int) <;> by_cases h6 : (b.toNat : Int) ≤ 57 <;>
        (have ha : alnum b = alnumN b.toNat := rfl
         simp only [h1, h2, h3, h4, h5, h6, if_true, if_false, not_true, not_false_eq_true]
         first
           | (exfalso; omega)
           | (rw [show alnum b = true by rw [ha]; simp [alnumN]; omega]; simp)
           | (rw [show alnum b = false by rw [ha]; simp [alnumN]; omega]; simp))
theorem ref_isName_ok {s : Str} (hl : s.length < 1000000000000000) : ref02_IsName (.str s) = some (.bool (isNm s)) := by
  rw [ref02_IsName.eq]
  exact ref_isName_L0 hl s 0 (by omega) rfl

/-! ### The first of that name -/
theorem find_L {α : Type} {e : α → List FV} {nm : α → Str} {n : Nat} (he : ∀ a, (e a).length = n) (hz : ∀ a, (e a)[0]? = some (.str (nm a))) {s : Str} {f : FV → R} {l : List α} (hl : l.length < 1000000000000000)
    (heq : ∀ i, f i = bindO (fLen (.arr (l.map e))) fun v4 => bindO (fBin .lss i v4) fun v5 => fCond v5 (bindO (fIdxC n (.arr (l.map e)) i) fun c6 => bindO (c6[0]?) fun v7 => bindO (fBin .eql v7 (.str s)) fun v8 => fCond v8 (some i) (bindO (fBin .add i (.int .i64 1)) fun v9 => f v9)) (some (.int .i64 (-1)))) :
    ∀ (t : List α) (k : Nat), l.drop k = t → ∃ m : Int, f (.int .i64 (k : Int)) = some (.int .i64 m) ∧ (0 ≤ m ↔ s ∈ t.map nm) := by
  intro t
  induction t with
  | nil =>
    intro k hd
    refine ⟨-1, ?_, by simp⟩
    rw [heq]
    simp only [fLen_arr, List.length_map, bindO_s, fCond_b, fBin_lss, decide_eq_true_eq, Int.ofNat_lt, drop_nil hd, if_false]
  | cons a t ih =>
    intro k hd
    obtain ⟨hk, hn, hs⟩ := drop_cons hd
    have e1 : IntKind.i64.wrap ((k : Int) + 1) = ((k + 1 : Nat) : Int) := wrap64 (by omega) (by omega)
    obtain ⟨m, h1, h2⟩ := ih (k + 1) hs
    by_cases g : nm a = s
    · refine ⟨k, ?_, by simp [g]⟩
      rw [heq]
      simp only [fLen_arr, List.length_map, bindO_s, fCond_b, fBin_lss, decide_eq_true_eq, Int.ofNat_lt, hk, if_true, idx_arr (show (l.map e)[k]? = some (e a) by simp [hn]) (he a), hz, fBin_eqlS, g]
    · refine ⟨m, ?_, by rw [h2]; simp only [List.map_cons, List.mem_cons, show s ≠ nm a from fun h => g h.symm, false_or]⟩
      rw [heq]
      simp only [fLen_arr, List.length_map, bindO_s, fCond_b, fBin_lss, decide_eq_true_eq, Int.ofNat_lt, hk, if_true, idx_arr (show (l.map e)[k]? = some (e a) by simp [hn]) (he a), hz, fBin_eqlS, g, if_false, fBin_add, e1, h1]
theorem place_ok {l : List Str} (hl : l.length < 1000000000000000) (s : Str) : ∃ m : Int, ref02_place (.arr (l.map S)) (.str s) = some (.int .i64 m) ∧ (0 ≤ m ↔ s ∈ l) := by
  obtain ⟨m, h1, h2⟩ := find_L (e := S) (nm := id) S_len S_zero (s := s) (f := ref02_place.L0 (.arr (l.map S)) (.str s)) hl (fun i => ref02_place.L0_eq _ _ _) l 0 rfl
  exact ⟨m, by rw [ref02_place.eq]; exact h1, by simpa using h2⟩

/-! ### Sets kept in a map -/
section
variable {κ : Type} [DecidableEq κ] {key : κ → FV} {ag : Bool} {sk : List SK}
def setM (key : κ → FV) (m : List κ) : List (FV × FV) := m.map fun s => (key s, .bool true)
theorem mFind_set (hk : ∀ a b, keyEq ag sk (key a) (key b) = some (decide (a = b))) (s : κ) : ∀ m : List κ, mFind ag sk (setM key m) (key s) = some (if s ∈ m then some (.bool true) else none)
  | [] => by simp [setM, mFind]
  | a :: m => by
    have := mFind_set hk s m
    simp only [setM, List.map_cons, mFind, hk, bindO_s] at this ⊢
    by_cases g : s = a
    · simp [g]
    · simp [g, this]
theorem mLook_set (hk : ∀ a b, keyEq ag sk (key a) (key b) = some (decide (a = b))) (hok : ∀ a, keyOk ag sk (key a) = true) (s : κ) (m : List κ) : mLook ag sk (setM key m) (key s) (.bool false) = some (.bool (decide (s ∈ m)), decide (s ∈ m)) := by
  unfold mLook
  rw [hok, mFind_set hk]
  by_cases g : s ∈ m <;> simp [g]
theorem mPut_set (hk : ∀ a b, keyEq ag sk (key a) (key b) = some (decide (a = b))) (s : κ) : ∀ m : List κ, s ∉ m → mPut ag sk (setM key m) (key s) (.bool true) = some (setM key (m ++ [s]))
  | [], _ => rfl
  | a :: m, h => by
    have := mPut_set hk s m (fun g => h (by simp [g]))
    have g : s ≠ a := fun g => h (by simp [g])
    simp only [setM, List.map_cons, List.cons_append, mPut, hk, bindO_s, g, decide_false] at this ⊢
    rw [this]; rfl
end
theorem str_keyEq (a b : Str) : keyEq false [.str] (.str a) (.str b) = some (decide (a = b)) := by
  have : (a == b) = decide (a = b) := by rw [Bool.eq_iff_iff]; simp
  simp [keyEq, scalarEq, this]
theorem str_keyOk (a : Str) : keyOk false [.str] (.str a) = true := rfl

/-! ### Names, one after the other -/
/-- 21: not a name; 22: twice; 0. -/
def namesGo : List Str → List Str → Int
  | _, [] => 0
  | m, s :: l => if isNm s = false then 21 else if s ∈ m then 22 else namesGo (m ++ [s]) l
def Sms (l : List Str) : Prop := l.length < 1000000000000000 ∧ ∀ s ∈ l, s.length < 1000000000000000

theorem ref_names_L0 {o : Option (List Str)} {l : List Str} (ho : li o = l) (hl : Sms l) : ∀ (t : List Str) (k : Nat), l.drop k = t →
    ref02_checkNames.L0 (sl S o) (.int .i64 (k : Int)) = some (.int .i64 (namesGo (l.take k) t)) := by
  intro t
  induction t with
  | nil =>
    intro k hd
    rw [ref02_checkNames.L0_eq]
    simp only [fLen_sl, ho, bindO_s, fCond_b, fBin_lss, decide_eq_true_eq, Int.ofNat_lt, drop_nil hd, if_false, namesGo]
  | cons s t ih =>
    intro k hd
    obtain ⟨hk, hn, hs⟩ := drop_cons hd
    have e1 : IntKind.i64.wrap ((k : Int) + 1) = ((k + 1 : Nat) : Int) := wrap64 (by have := hl.1; omega) (by have := hl.1; omega)
    have hsm := hl.2 s (List.mem_of_getElem? hn)
    obtain ⟨m, h1, h2⟩ := place_ok (l := l.take k) (by have := hl.1; simp; omega) s
    have htk : l.take (k + 1) = l.take k ++ [s] := by rw [List.take_add_one, hn]; rfl
    have hcut : fCut 1 (sl S o) none (some (.int .i64 (k : Int))) = some (.arr ((l.take k).map S)) := by
      cases o with
      | none => rw [← ho] at hk; simp at hk
      | some r =>
        obtain rfl : r = l := ho
        rw [sl_some, fCut_take (rowsSz_map S_len _) (by simp; omega), List.map_take]
    rw [ref02_checkNames.L0_eq]
    simp only [fLen_sl, ho, bindO_s, fCond_b, fBin_lss, decide_eq_true_eq, Int.ofNat_lt, hk, if_true, idx_sl (ho ▸ hn) (S_len s), S_zero, ref_isName_ok hsm, fUn_not, hcut, h1, fBin_geq, h2, fBin_add, e1, ih (k + 1) hs, namesGo, Bool.not_eq_true', htk]
    by_cases g : isNm s = false
    · simp only [g, if_true]
    · simp only [g, if_false, reduceCtorEq]
      by_cases g2 : s ∈ l.take k
      · simp only [g2, if_true, if_false, reduceCtorEq]
      · simp only [g2, if_false, reduceCtorEq]
theorem ref_names_ok {o : Option (List Str)} (hl : Sms (li o)) : ref02_checkNames (sl S o) = some (.int .i64 (namesGo [] (li o))) := by
  rw [ref02_checkNames.eq]
  exact ref_names_L0 rfl hl _ 0 rfl

theorem mach_names_L0 {o : Option (List Str)} {l : List Str} (ho : li o = l) (hl : Sms l) : ∀ (t : List Str) (k : Nat) (m : List Str), l.drop k = t →
    mach_names.L0 (sl S o) (.int .i64 (l.length : Int)) (.int .i64 (k : Int)) (setM FV.str m) = some (.int .i64 (namesGo m t)) := by
  intro t
  induction t with
  | nil =>
    intro k m hd
    rw [mach_names.L0_eq]
    simp only [bindO_s, fCond_b, fBin_lss, decide_eq_true_eq, Int.ofNat_lt, drop_nil hd, if_false, namesGo]
  | cons s t ih =>
    intro k m hd
    obtain ⟨hk, hn, hs⟩ := drop_cons hd
    have e1 : IntKind.i64.wrap ((k : Int) + 1) = ((k + 1 : Nat) : Int) := wrap64 (by have := hl.1; omega) (by have := hl.1; omega)
    have hsm := hl.2 s (List.mem_of_getElem? hn)
    rw [mach_names.L0_eq]
    simp only [bindO_s, fCond_b, fBin_lss, decide_eq_true_eq, Int.ofNat_lt, hk, if_true, idx_sl (ho ▸ hn) (S_len s), S_zero, mach_isName_ok hsm, fUn_not, mLook_set str_keyEq str_keyOk, str_keyOk, gB_t, fBin_add, e1, namesGo, Bool.not_eq_true']
    by_cases g : isNm s = false
    · simp only [g, if_true]
    · simp only [g, if_false, reduceCtorEq]
      by_cases g2 : s ∈ m
      · simp only [g2, if_true, if_false, reduceCtorEq]
      · simp only [g2, if_false, reduceCtorEq, mPut_set str_keyEq s m g2, bindO_s, ih (k + 1) _ hs]
theorem mach_names_ok {o : Option (List Str)} (hl : Sms (li o)) : mach_names (sl S o) = some (.int .i64 (namesGo [] (li o))) := by
  rw [mach_names.eq]
  simp only [fLen_sl, bindO_s]
  exact mach_names_L0 rfl hl _ 0 [] rfl
end Go.Proofs.Ytelcbakleaaneaa
end
section
namespace Go.Proofs.Ytelcbakleaaneaa
open Go Go.Proofs.Ytelcbakleaaneaa.VM
set_option linter.unusedVariables false
set_option linter.unusedSimpArgs false

abbrev TPort := Str × Option (List Str) × Unit
def P (p : TPort) : List FV := [.str p.1, sl S p.2.1]
abbrev TRow := Int × Option (List Int) × Unit
def RW (r : TRow) : List FV := [.int .i64 r.1, sl I r.2.1]
abbrev TMach := Str × Option (List Str) × Int × Option (List TPort) × Option (List TPort) × Option (List TRow) × Unit
def MC (m : TMach) : List FV := [.str m.1, sl S m.2.1, .int .i64 m.2.2.1, sl P m.2.2.2.1, sl P m.2.2.2.2.1, sl RW m.2.2.2.2.2.1]
@[simp] theorem P_len (p : TPort) : (P p).length = 2 := rfl
@[simp] theorem P_zero (p : TPort) : (P p)[0]? = some (.str p.1) := rfl
@[simp] theorem P_one (p : TPort) : (P p)[1]? = some (sl S p.2.1) := rfl
@[simp] theorem RW_len (r : TRow) : (RW r).length = 2 := rfl
@[simp] theorem RW_zero (r : TRow) : (RW r)[0]? = some (.int .i64 r.1) := rfl
@[simp] theorem RW_one (r : TRow) : (RW r)[1]? = some (sl I r.2.1) := rfl
def SmP (p : TPort) : Prop := p.1.length < 1000000000000000 ∧ Sms (li p.2.1)

/-! ### Values that fit ports -/
def fitGo : List TPort → List Int → Bool
  | p :: ps, v :: vs => decide (0 ≤ v) && decide (v < ((li p.2.1).length : Int)) && fitGo ps vs
  | _, _ => true
def fitP (ps : List TPort) (vs : List Int) : Bool := decide (ps.length = vs.length) && fitGo ps vs

theorem right_L0 {o : Option (List TPort)} {v : Option (List Int)} (hl : (li o).length = (li v).length) (hs : (li o).length < 1000000000000000) : ∀ (ps : List TPort) (vs : List Int) (k : Nat), (li o).drop k = ps → (li v).drop k = vs →
    ref02_right.L0 (sl P o) (sl I v) (.int .i64 (k : Int)) = some (.bool (fitGo ps vs)) := by
  intro ps
  induction ps with
  | nil =>
    intro vs k hd hv
    rw [ref02_right.L0_eq]
    simp only [fLen_sl, bindO_s, fBin_lss, fCond_b, decide_eq_true_eq, Int.ofNat_lt, drop_nil hd, if_false]
    rfl
  | cons p ps ih =>
    intro vs k hd hv
    obtain ⟨hk, hn, hs'⟩ := drop_cons hd
    cases vs with
    | nil => have := drop_nil hv; omega
    | cons n vs =>
      obtain ⟨_, hn2, hv'⟩ := drop_cons hv
      have e : IntKind.i64.wrap ((k : Int) + 1) = ((k + 1 : Nat) : Int) := wrap64 (by omega) (by omega)
      rw [ref02_right.L0_eq]
      simp only [fLen_sl, bindO_s, fBin_lss, fCond_b, decide_eq_true_eq, Int.ofNat_lt, hk, if_true, idx_sl hn2 (I_len n), I_zero, idx_sl hn (P_len p), P_one, fBin_geq, fBin_add, e, ih vs (k + 1) hs' hv', fitGo]
      by_cases g1 : n < 0
      · simp only [g1, if_true, show ¬ (0 ≤ n) by omega, decide_false, Bool.false_and]
      · by_cases g2 : ((li p.2.1).length : Int) ≤ n
        · simp only [g1, g2, if_true, if_false, show ¬ (n < ((li p.2.1).length : Int)) by omega, decide_false, Bool.and_false, Bool.false_and]
        · simp only [g1, g2, if_false, show (0 ≤ n) by omega, show (n < ((li p.2.1).length : Int)) by omega, decide_true, Bool.true_and]
theorem right_ok {o : Option (List TPort)} {v : Option (List Int)} (h1 : (li o).length < 1000000000000000) : ref02_right (sl P o) (sl I v) = some (.bool (fitP (li o) (li v))) := by
  rw [ref02_right.eq]
  simp only [fLen_sl, bindO_s, fBin_neq, fCond_b, fitP, decide_eq_true_eq]
  by_cases g : (li o).length = (li v).length
  · rw [if_neg (by omega)]
    rw [show (FV.int IntKind.i64 0) = .int .i64 ((0 : Nat) : Int) from rfl, right_L0 g h1 _ _ 0 rfl rfl]
    simp [g]
  · rw [if_pos (by omega)]
    simp [g]
theorem fit_L0 {o : Option (List TPort)} {v : Option (List Int)} (hl : (li o).length = (li v).length) (hs : (li o).length < 1000000000000000) : ∀ (ps : List TPort) (vs : List Int) (k : Nat), (li o).drop k = ps → (li v).drop k = vs →
    mach_fit.L0 (sl P o) (sl I v) (.int .i64 ((li v).length : Int)) (.int .i64 (k : Int)) = some (.bool (fitGo ps vs)) := by
  intro ps
  induction ps with
  | nil =>
    intro vs k hd hv
    rw [mach_fit.L0_eq]
    simp only [fLen_sl, bindO_s, fBin_lss, fCond_b, decide_eq_true_eq, Int.ofNat_lt, hl ▸ drop_nil hd, if_false]
    rfl
  | cons p ps ih =>
    intro vs k hd hv
    obtain ⟨hk, hn, hs'⟩ := drop_cons hd
    cases vs with
    | nil => have := drop_nil hv; omega
    | cons n vs =>
      obtain ⟨hk2, hn2, hv'⟩ := drop_cons hv
      have e : IntKind.i64.wrap ((k : Int) + 1) = ((k + 1 : Nat) : Int) := wrap64 (by omega) (by omega)
      rw [mach_fit.L0_eq]
      simp only [fLen_sl, bindO_s, fBin_lss, fCond_b, decide_eq_true_eq, Int.ofNat_lt, hk2, if_true, idx_sl hn2 (I_len n), I_zero, idx_sl hn (P_len p), P_one, fBin_geq, fBin_add, e, ih vs (k + 1) hs' hv', fitGo]
      by_cases g1 : n < 0
      · simp only [g1, if_true, show ¬ (0 ≤ n) by omega, decide_false, Bool.false_and]
      · by_cases g2 : ((li p.2.1).length : Int) ≤ n
        · simp only [g1, g2, if_true, if_false, show ¬ (n < ((li p.2.1).length : Int)) by omega, decide_false, Bool.and_false, Bool.false_and]
        · simp only [g1, g2, if_false, show (0 ≤ n) by omega, show (n < ((li p.2.1).length : Int)) by omega, decide_true, Bool.true_and]
theorem fit_ok {o : Option (List TPort)} {v : Option (List Int)} (h1 : (li o).length < 1000000000000000) : mach_fit (sl P o) (sl I v) = some (.bool (fitP (li o) (li v))) := by
  rw [mach_fit.eq]
  simp only [fLen_sl, bindO_s, fBin_neq, fCond_b, fitP, decide_eq_true_eq]
  by_cases g : (li o).length = (li v).length
  · rw [if_neg (by omega)]
    rw [show (FV.int IntKind.i64 0) = .int .i64 ((0 : Nat) : Int) from rfl, fit_L0 g h1 _ _ 0 rfl rfl]
    simp [g]
  · rw [if_pos (by omega)]
    simp [g]

/-! ### How many ways -/
def prodL : List TPort → Nat
  | [] => 1
  | p :: ps => (li p.2.1).length * prodL ps
def Lens (ps : List TPort) : Prop := ∀ p ∈ ps, 1 ≤ (li p.2.1).length ∧ (li p.2.1).length ≤ 64
theorem prodL_pos : ∀ (ps : List TPort), Lens ps → 1 ≤ prodL ps
  | [], _ => Nat.le_refl _
  | p :: ps, h => Nat.mul_le_mul (h p (by simp)).1 (prodL_pos ps fun q hq => h q (by simp [hq]))

theorem ref_product_L0 {o : Option (List TPort)} (hs : (li o).length < 1000000000000000) : ∀ (t : List TPort) (k a : Nat), (li o).drop k = t → Lens t → a ≤ 2097152 →
    ref02_product.L0 (sl P o) (.int .i64 (a : Int)) (.int .i64 (k : Int)) = some (.int .i64 ((min (a * prodL t) 2097152 : Nat) : Int)) := by
  intro t
  induction t with
  | nil =>
    intro k a hd hL ha
    rw [ref02_product.L0_eq]
    simp only [fLen_sl, bindO_s, fBin_lss, fCond_b, decide_eq_true_eq, Int.ofNat_lt, drop_nil hd, if_false, prodL, Nat.mul_one, Nat.min_eq_left ha]
  | cons p t ih =>
    intro k a hd hL ha
    obtain ⟨hk, hn, hs'⟩ := drop_cons hd
    obtain ⟨l1, l2⟩ := hL p (by simp)
    have e : IntKind.i64.wrap ((k : Int) + 1) = ((k + 1 : Nat) : Int) := wrap64 (by omega) (by omega)
    have hb : a * (li p.2.1).length ≤ 2097152 * 64 := Nat.mul_le_mul ha l2
    have e2 : IntKind.i64.wrap ((a : Int) * ((li p.2.1).length : Int)) = ((a * (li p.2.1).length : Nat) : Int) := wrap64 (by omega) (by omega)
    have e3 : min (((a * (li p.2.1).length : Nat) : Int)) 2097152 = ((min (a * (li p.2.1).length) 2097152 : Nat) : Int) := by omega
    rw [ref02_product.L0_eq]
    simp only [fLen_sl, bindO_s, fBin_lss, fCond_b, decide_eq_true_eq, Int.ofNat_lt, hk, if_true, idx_sl hn (P_len p), P_one, fBin_mul, e2, fMin_int, e3, fBin_add, e]
    rw [ih (k + 1) _ hs' (fun q hq => hL q (by simp [hq])) (by omega)]
    have hp := prodL_pos t (fun q hq => hL q (by simp [hq]))
    simp only [prodL]
    congr 3
    rw [← Nat.mul_assoc]
    generalize a * (li p.2.1).length = c
    rcases Nat.le_total c 2097152 with g | g
    · rw [Nat.min_eq_left g]
    · rw [Nat.min_eq_right g]
      have h1 : 2097152 * 1 ≤ 2097152 * prodL t := Nat.mul_le_mul_left _ hp
      have h2 : 2097152 * prodL t ≤ c * prodL t := Nat.mul_le_mul_right _ g
      omega
theorem ref_product_ok {o : Option (List TPort)} (hs : (li o).length < 1000000000000000) (hL : Lens (li o)) : ref02_product (sl P o) = some (.int .i64 ((min (prodL (li o)) 2097152 : Nat) : Int)) := by
  rw [ref02_product.eq]
  have := ref_product_L0 hs _ 0 1 rfl hL (by omega)
  simpa using this
/-- The program's own bound. -/
def capP (n : Nat) : Nat := if 1099511627776 < n then 1099511627776 else n
theorem mach_product_L0 {o : Option (List TPort)} (hs : (li o).length < 1000000000000000) : ∀ (t : List TPort) (k a : Nat), (li o).drop k = t → Lens t → a ≤ 1099511627776 →
    mach_product.L0 (.int .i64 (a : Int)) (sl P o) (.int .i64 ((li o).length : Int)) (.int .i64 (k : Int)) = some (.int .i64 (capP (a * prodL t) : Int)) := by
  intro t
  induction t with
  | nil =>
    intro k a hd hL ha
    rw [mach_product.L0_eq]
    simp only [fLen_sl, bindO_s, fBin_lss, fCond_b, decide_eq_true_eq, Int.ofNat_lt, drop_nil hd, if_false, prodL, Nat.mul_one, capP, show ¬ (1099511627776 < a) by omega]
  | cons p t ih =>
    intro k a hd hL ha
    obtain ⟨hk, hn, hs'⟩ := drop_cons hd
    obtain ⟨l1, l2⟩ := hL p (by simp)
    have e : IntKind.i64.wrap ((k : Int) + 1) = ((k + 1 : Nat) : Int) := wrap64 (by omega) (by omega)
    have hb : a * (li p.2.1).length ≤ 1099511627776 * 64 := Nat.mul_le_mul ha l2
    have e2 : IntKind.i64.wrap ((a : Int) * ((li p.2.1).length : Int)) = ((a * (li p.2.1).length : Nat) : Int) := wrap64 (by omega) (by omega)
    have hp := prodL_pos t (fun q hq => hL q (by simp [hq]))
    have h2 : a * (li p.2.1).length * 1 ≤ a * (li p.2.1).length * prodL t := Nat.mul_le_mul_left _ hp
    rw [mach_product.L0_eq]
    simp only [fLen_sl, bindO_s, fBin_lss, fCond_b, decide_eq_true_eq, Int.ofNat_lt, hk, if_true, idx_sl hn (P_len p), P_zero, P_one, fBin_mul, e2, fBin_gtr, fBin_add, e, prodL, ← Nat.mul_assoc]
    by_cases g : (1099511627776 : Int) < ((a * (li p.2.1).length : Nat) : Int)
    · rw [if_pos g]
      simp only [capP]
      rw [if_pos (by omega)]
      rfl
    · rw [if_neg g]
      exact ih (k + 1) _ hs' (fun q hq => hL q (by simp [hq])) (by omega)
theorem mach_product_ok {o : Option (List TPort)} (hs : (li o).length < 1000000000000000) (hL : Lens (li o)) : mach_product (sl P o) = some (.int .i64 (capP (prodL (li o)) : Int)) := by
  rw [mach_product.eq]
  have := mach_product_L0 hs _ 0 1 rfl hL (by omega)
  simpa using this

/-! ### Ports -/
/-- 21, 22, 26 or what their values' names give; 0. -/
def portsGo : List Str → List TPort → Int
  | _, [] => 0
  | m, p :: l => if isNm p.1 = false then 21 else if p.1 ∈ m then 22 else if ((li p.2.1).length : Int) = 0 then 26 else if 64 < ((li p.2.1).length : Int) then 26 else
      if namesGo [] (li p.2.1) ≠ 0 then namesGo [] (li p.2.1) else portsGo (m ++ [p.1]) l
theorem portsGo_lens : ∀ (l : List TPort) (m : List Str), portsGo m l = 0 → Lens l
  | [], _, _ => fun p hp => by cases hp
  | p :: l, m, h => by
    simp only [portsGo] at h
    repeat' split at h
    all_goals first | (exfalso; omega) | skip
    rename_i h1 h2 h3 h4 h5
    intro q hq
    rcases List.mem_cons.1 hq with rfl | hq
    · exact ⟨by omega, by omega⟩
    · exact portsGo_lens l _ h q hq
def rowOk (n : Nat) (outs : List TPort) (r : TRow) : Bool := decide (0 ≤ r.1) && decide (r.1 < (n : Int)) && fitP outs (li r.2.1)

theorem portAt_ok {l : List TPort} (hl : l.length < 1000000000000000) (s : Str) : ∃ m : Int, ref02_portAt (.arr (l.map P)) (.str s) = some (.int .i64 m) ∧ (0 ≤ m ↔ s ∈ l.map Prod.fst) := by
  obtain ⟨m, h1, h2⟩ := find_L (e := P) (nm := Prod.fst) P_len P_zero (s := s) (f := ref02_portAt.L0 (.arr (l.map P)) (.str s)) hl (fun i => ref02_portAt.L0_eq _ _ _) l 0 rfl
  exact ⟨m, by rw [ref02_portAt.eq]; exact h1, h2⟩

theorem ref_ports {l : List TPort} (hl : l.length < 1000000000000000) (hsm : ∀ p ∈ l, SmP p) (x2 x3 x4 x5 x6 x7 : FV) (r8 : List (List FV)) : ∀ (t : List TPort) (k : Nat), l.drop k = t → k ≤ l.length →
    ref02_Check.L2 (.arr (l.map P)) (.int .i64 (k : Int)) x2 x3 x4 x5 x6 x7 r8 = if portsGo ((l.take k).map Prod.fst) t ≠ 0 then some (.int .i64 (portsGo ((l.take k).map Prod.fst) t)) else ref02_Check.L2 (.arr (l.map P)) (.int .i64 (l.length : Int)) x2 x3 x4 x5 x6 x7 r8 := by
  intro t
  induction t with
  | nil =>
    intro k hd hkl
    obtain rfl : k = l.length := by have := drop_nil hd; omega
    simp only [portsGo, ne_eq, not_true, if_false]
  | cons p t ih =>
    intro k hd hkl
    obtain ⟨hk, hn, hs⟩ := drop_cons hd
    have e1 : IntKind.i64.wrap ((k : Int) + 1) = ((k + 1 : Nat) : Int) := wrap64 (by omega) (by omega)
    obtain ⟨s1, s2⟩ := hsm p (List.mem_of_getElem? hn)
    obtain ⟨m, h1, h2⟩ := portAt_ok (l := l.take k) (by simp; omega) p.1
    have htk : (l.take (k + 1)).map Prod.fst = (l.take k).map Prod.fst ++ [p.1] := by rw [List.take_add_one, hn]; simp
    have hix : fIdxC 2 (.arr (l.map P)) (.int .i64 (k : Int)) = some (P p) := idx_arr (by simp [hn]) (P_len p)
    have hcut : fCut 2 (.arr (l.map P)) none (some (.int .i64 (k : Int))) = some (.arr ((l.take k).map P)) := by
      rw [fCut_take (rowsSz_map P_len _) (by simp; omega), List.map_take]
    have hL3 : ref02_Check.L3 (.arr (l.map P)) (.int .i64 (k : Int)) x2 x3 x4 x5 x6 x7 r8 = if namesGo [] (li p.2.1) ≠ 0 then some (.int .i64 (namesGo [] (li p.2.1))) else ref02_Check.L2 (.arr (l.map P)) (.int .i64 ((k + 1 : Nat) : Int)) x2 x3 x4 x5 x6 x7 r8 := by
      rw [ref02_Check.L3_eq]
      simp only [hix, bindO_s, P_one, ref_names_ok s2, fBin_neq, fCond_b, decide_eq_true_eq, fBin_add, e1]
    rw [ref02_Check.L2_eq]
    simp only [fLen_arr, List.length_map, bindO_s, fCond_b, fBin_lss, decide_eq_true_eq, Int.ofNat_lt, hk, if_true, hix, P_zero, P_one, ref_isName_ok s1, fUn_not, hcut, h1, fBin_geq, h2, fLen_sl, fBin_eql, fBin_gtr, hL3, portsGo, Bool.not_eq_true']
    have ih' := ih (k + 1) hs (by omega)
    rw [htk] at ih'
    rw [ih']
    by_cases g : isNm p.1 = false
    · simp [g]
    · simp only [g, if_true, if_false, reduceCtorEq, ne_eq, not_true, not_false_eq_true]
      by_cases g2 : p.1 ∈ (l.take k).map Prod.fst
      · simp only [g2, if_true, if_false, reduceCtorEq, ne_eq, not_true, not_false_eq_true]; rfl
      · simp only [g2, if_true, if_false, reduceCtorEq, ne_eq, not_true, not_false_eq_true]
        by_cases g3 : ((li p.2.1).length : Int) = 0
        · simp only [g3, if_true, if_false, reduceCtorEq, ne_eq, not_true, not_false_eq_true]; rfl
        · simp only [g3, if_true, if_false, reduceCtorEq, ne_eq, not_true, not_false_eq_true]
          by_cases g4 : 64 < ((li p.2.1).length : Int)
          · simp only [g4, if_true, if_false, reduceCtorEq, ne_eq, not_true, not_false_eq_true]; rfl
          · simp only [g4, if_true, if_false, reduceCtorEq, ne_eq, not_true, not_false_eq_true]
            by_cases g5 : namesGo [] (li p.2.1) ≠ 0
            · simp only [g5, if_true, if_false, reduceCtorEq, ne_eq, not_true, not_false_eq_true]
            · simp only [g5, if_true, if_false, reduceCtorEq, ne_eq, not_true, not_false_eq_true]
theorem mach_ports {l : List TPort} (hl : l.length < 1000000000000000) (hsm : ∀ p ∈ l, SmP p) (x3 x4 x5 x6 x7 x8 : FV) (r10 : List (List FV)) : ∀ (t : List TPort) (k : Nat) (m : List Str), l.drop k = t →
    mach_checkPorts.L1 (.arr (l.map P)) (.int .i64 (l.length : Int)) (.int .i64 (k : Int)) x3 x4 x5 x6 x7 x8 (setM FV.str m) r10 = some (.int .i64 (portsGo m t)) := by
  intro t
  induction t with
  | nil =>
    intro k m hd
    rw [mach_checkPorts.L1_eq]
    simp only [portsGo, bindO_s, fCond_b, fBin_lss, decide_eq_true_eq, Int.ofNat_lt, drop_nil hd, if_false]
  | cons p t ih =>
    intro k m hd
    obtain ⟨hk, hn, hs⟩ := drop_cons hd
    have e1 : IntKind.i64.wrap ((k : Int) + 1) = ((k + 1 : Nat) : Int) := wrap64 (by omega) (by omega)
    obtain ⟨s1, s2⟩ := hsm p (List.mem_of_getElem? hn)
    have hix : fIdxC 2 (.arr (l.map P)) (.int .i64 (k : Int)) = some (P p) := idx_arr (by simp [hn]) (P_len p)
    rw [mach_checkPorts.L1_eq]
    simp only [bindO_s, fCond_b, fBin_lss, decide_eq_true_eq, Int.ofNat_lt, hk, if_true, hix, P_zero, P_one, mach_isName_ok s1, fUn_not, mLook_set str_keyEq str_keyOk, fLen_sl, fBin_eql, fBin_gtr, mach_checkPorts.L3_eq, mach_checkPorts.L2_eq, str_keyOk, gB_t, mach_names_ok s2, fBin_neq, fBin_add, e1, portsGo, Bool.not_eq_true']
    by_cases g : isNm p.1 = false
    · simp only [g, if_true, if_false, reduceCtorEq, ne_eq, not_true, not_false_eq_true]
    · simp only [g, if_true, if_false, reduceCtorEq, ne_eq, not_true, not_false_eq_true]
      by_cases g2 : p.1 ∈ m
      · simp only [g2, if_true, if_false, reduceCtorEq, ne_eq, not_true, not_false_eq_true]
      · simp only [g2, if_false, reduceCtorEq, mPut_set str_keyEq p.1 m g2, bindO_s, ih (k + 1) _ hs]
        by_cases g3 : ((li p.2.1).length : Int) = 0
        · simp only [g3, if_true, if_false, reduceCtorEq, ne_eq, not_true, not_false_eq_true]
        · simp only [g3, if_true, if_false, reduceCtorEq, ne_eq, not_true, not_false_eq_true]
          by_cases g4 : 64 < ((li p.2.1).length : Int)
          · simp only [g4, if_true, if_false, reduceCtorEq, ne_eq, not_true, not_false_eq_true]
          · simp only [g4, if_true, if_false, reduceCtorEq, ne_eq, not_true, not_false_eq_true]
            by_cases g5 : namesGo [] (li p.2.1) ≠ 0
            · simp only [g5, if_true, if_false, reduceCtorEq, ne_eq, not_true, not_false_eq_true]
            · simp only [g5, if_true, if_false, reduceCtorEq, ne_eq, not_true, not_false_eq_true]
end Go.Proofs.Ytelcbakleaaneaa
end
section
namespace Go.Proofs.Ytelcbakleaaneaa
open Go Go.Proofs.Ytelcbakleaaneaa.VM
set_option linter.unusedVariables false
set_option linter.unusedSimpArgs false

def rowsOk (n : Nat) (outs : List TPort) (rs : List TRow) : Bool := rs.all (rowOk n outs)
/-- What both programs' Check say. -/
def checkG (nm : Str) (sts : List Str) (start : Int) (ins outs : List TPort) (rows : List TRow) : Int :=
  if isNm nm = false then 21
  else if (sts.length : Int) = 0 then 26
  else if 256 < (sts.length : Int) then 26
  else if namesGo [] sts ≠ 0 then namesGo [] sts
  else if 8 < (ins.length : Int) then 26
  else if 8 < (outs.length : Int) then 26
  else if portsGo [] (ins ++ outs) ≠ 0 then portsGo [] (ins ++ outs)
  else if start < 0 then 27
  else if (sts.length : Int) ≤ start then 27
  else if 4096 < sts.length * prodL ins then 26
  else if rows.length ≠ sts.length * prodL ins then 23
  else if rowsOk sts.length outs rows then 0 else 27
def checkP (m : TMach) : Int := checkG m.1 (li m.2.1) m.2.2.1 (li m.2.2.2.1) (li m.2.2.2.2.1) (li m.2.2.2.2.2.1)
structure SmM (m : TMach) : Prop where
  nm : m.1.length < 1000000000000000
  sts : Sms (li m.2.1)
  ins : (li m.2.2.2.1).length < 1000000000000000 ∧ ∀ p ∈ li m.2.2.2.1, SmP p
  outs : (li m.2.2.2.2.1).length < 1000000000000000 ∧ ∀ p ∈ li m.2.2.2.2.1, SmP p
  rows : (li m.2.2.2.2.2.1).length < 1000000000000000 ∧ ∀ r ∈ li m.2.2.2.2.2.1, (li r.2.1).length < 1000000000000000

theorem ref_rows {oo : Option (List TPort)} {os : Option (List Str)} {o : Option (List TRow)} (h1 : (li oo).length < 1000000000000000) (hl : (li o).length < 1000000000000000) (x1 x3 x4 : FV) (r7 : List (List FV)) : ∀ (t : List TRow) (k : Nat), (li o).drop k = t →
    ref02_Check.L5 (.int .i64 (k : Int)) x1 (sl S os) x3 x4 (sl P oo) (sl RW o) r7 = some (.int .i64 (if rowsOk (li os).length (li oo) t then 0 else 27)) := by
  intro t
  induction t with
  | nil =>
    intro k hd
    rw [ref02_Check.L5_eq]
    simp only [fLen_sl, bindO_s, fBin_lss, fCond_b, decide_eq_true_eq, Int.ofNat_lt, drop_nil hd, if_false]
    rfl
  | cons r t ih =>
    intro k hd
    obtain ⟨hk, hn, hs⟩ := drop_cons hd
    have e : IntKind.i64.wrap ((k : Int) + 1) = ((k + 1 : Nat) : Int) := wrap64 (by omega) (by omega)
    rw [ref02_Check.L5_eq]
    simp only [fLen_sl, bindO_s, fBin_lss, fCond_b, decide_eq_true_eq, Int.ofNat_lt, hk, if_true, idx_sl hn (RW_len r), RW_zero, RW_one, fBin_geq, right_ok h1, fUn_not, fBin_add, e, ih (k + 1) hs, Bool.not_eq_true', rowsOk, List.all_cons, rowOk]
    by_cases g1 : r.1 < 0
    · simp [g1, show ¬ (0 ≤ r.1) by omega]
    · by_cases g2 : ((li os).length : Int) ≤ r.1
      · simp [g1, g2, show ¬ (r.1 < ((li os).length : Int)) by omega]
      · by_cases g3 : fitP (li oo) (li r.2.1) = true
        · simp only [g1, g2, g3, if_false, reduceCtorEq, show (0 ≤ r.1) by omega, show (r.1 < ((li os).length : Int)) by omega, decide_true, Bool.true_and]; rfl
        · simp [g1, g2, g3]
theorem mach_rows {oo : Option (List TPort)} {os : Option (List Str)} {o : Option (List TRow)} (h1 : (li oo).length < 1000000000000000) (hl : (li o).length < 1000000000000000) (x3 x5 x6 x8 : FV) : ∀ (t : List TRow) (k : Nat), (li o).drop k = t →
    mach_Check.L2 (sl RW o) (.int .i64 ((li o).length : Int)) (.int .i64 (k : Int)) x3 (sl S os) x5 x6 (sl P oo) x8 = some (.int .i64 (if rowsOk (li os).length (li oo) t then 0 else 27)) := by
  intro t
  induction t with
  | nil =>
    intro k hd
    rw [mach_Check.L2_eq]
    simp only [fLen_sl, bindO_s, fBin_lss, fCond_b, decide_eq_true_eq, Int.ofNat_lt, drop_nil hd, if_false]
    rfl
  | cons r t ih =>
    intro k hd
    obtain ⟨hk, hn, hs⟩ := drop_cons hd
    have e : IntKind.i64.wrap ((k : Int) + 1) = ((k + 1 : Nat) : Int) := wrap64 (by omega) (by omega)
    rw [mach_Check.L2_eq]
    simp only [fLen_sl, bindO_s, fBin_lss, fCond_b, decide_eq_true_eq, Int.ofNat_lt, hk, if_true, idx_sl hn (RW_len r), RW_zero, RW_one, fBin_geq, fit_ok h1, fUn_not, fBin_add, e, ih (k + 1) hs, Bool.not_eq_true', rowsOk, List.all_cons, rowOk]
    by_cases g1 : r.1 < 0
    · simp [g1, show ¬ (0 ≤ r.1) by omega]
    · by_cases g2 : ((li os).length : Int) ≤ r.1
      · simp [g1, g2, show ¬ (r.1 < ((li os).length : Int)) by omega]
      · by_cases g3 : fitP (li oo) (li r.2.1) = true
        · simp only [g1, g2, g3, if_false, reduceCtorEq, show (0 ≤ r.1) by omega, show (r.1 < ((li os).length : Int)) by omega, decide_true, Bool.true_and]; rfl
        · simp [g1, g2, g3]

theorem concat_L1 {a b : Option (List TPort)} (ha : (li a).length ≤ 8) (hb : (li b).length ≤ 8) : slices_Concat_api_Port.L1 (.arr [[sl P a], [sl P b]]) (.int .i64 2) (.int .i64 0) [] = some (.arr ((li a ++ li b).map P)) := by
  have r1 : ([] : List (List FV)).length + ((li a).map P).length ≤ 16 := by simp; omega
  rw [slices_Concat_api_Port.L1_eq]
  simp only [bindO_s, fBin_lss, fCond_b, show decide ((0 : Int) < 2) = true from rfl, if_true, show fIdxC 1 (.arr [[sl P a], [sl P b]]) (.int .i64 0) = some [sl P a] from rfl, List.getElem?_cons_zero, asRows_sl, rowsSz_map P_len, gB_t, show (([] : List (List FV)).length + ((li a).map P).length) * 40 ≤ room by unfold room; omega, decide_true, fBin_add, show IntKind.i64.wrap (0 + 1) = 1 from rfl, List.nil_append]
  rw [slices_Concat_api_Port.L1_eq]
  simp only [bindO_s, fBin_lss, fCond_b, show decide ((1 : Int) < 2) = true from rfl, if_true, show fIdxC 1 (.arr [[sl P a], [sl P b]]) (.int .i64 1) = some [sl P b] from rfl, List.getElem?_cons_zero, asRows_sl, rowsSz_map P_len, gB_t, List.length_map, show ((li a).length + (li b).length) * 40 ≤ room by unfold room; omega, decide_true, fBin_add, show IntKind.i64.wrap (1 + 1) = 2 from rfl]
  rw [slices_Concat_api_Port.L1_eq]
  simp only [bindO_s, fBin_lss, fCond_b, Int.lt_irrefl, decide_false, Bool.false_eq_true, if_false, List.map_append]
theorem concat_ok {a b : Option (List TPort)} (ha : (li a).length ≤ 8) (hb : (li b).length ≤ 8) : slices_Concat_api_Port (.arr [[sl P a], [sl P b]]) = some (.arr ((li a ++ li b).map P)) := by
  have e1 : IntKind.i64.wrap (0 + ((li a).length : Int)) = ((li a).length : Int) := by rw [wrap64 (by omega) (by omega)]; omega
  have e2 : IntKind.i64.wrap (((li a).length : Int) + ((li b).length : Int)) = (((li a).length + (li b).length : Nat) : Int) := by rw [wrap64 (by omega) (by omega)]; omega
  rw [slices_Concat_api_Port.eq]
  simp only [fLen_arr, bindO_s, show ((([[sl P a], [sl P b]] : List (List FV)).length : Nat) : Int) = 2 from rfl]
  rw [slices_Concat_api_Port.L0_eq]
  simp only [bindO_s, fBin_lss, fCond_b, show decide ((0 : Int) < 2) = true from rfl, if_true, show fIdxC 1 (.arr [[sl P a], [sl P b]]) (.int .i64 0) = some [sl P a] from rfl, List.getElem?_cons_zero, fLen_sl, fBin_add, e1, show decide (((li a).length : Int) < 0) = false by simp, Bool.false_eq_true, if_false, show IntKind.i64.wrap (0 + 1) = 1 from rfl]
  rw [slices_Concat_api_Port.L0_eq]
  simp only [bindO_s, fBin_lss, fCond_b, show decide ((1 : Int) < 2) = true from rfl, if_true, show fIdxC 1 (.arr [[sl P a], [sl P b]]) (.int .i64 1) = some [sl P b] from rfl, List.getElem?_cons_zero, fLen_sl, fBin_add, e2, show decide ((((li a).length + (li b).length : Nat) : Int) < 0) = false by simp; omega, Bool.false_eq_true, if_false, show IntKind.i64.wrap (1 + 1) = 2 from rfl]
  rw [slices_Concat_api_Port.L0_eq]
  simp only [bindO_s, fBin_lss, fCond_b, Int.lt_irrefl, decide_false, show decide ((((li a).length + (li b).length : Nat) : Int) < 0) = false by simp; omega, Bool.false_eq_true, if_false, fCap, fLen_nil, fBin_sub, show IntKind.i64.wrap (0 - 0) = 0 from rfl, fBin_gtr, fLen_arr, show ((([[sl P a], [sl P b]] : List (List FV)).length : Nat) : Int) = 2 from rfl, concat_L1 ha hb]
  have e3 : IntKind.i64.wrap ((((li a).length + (li b).length : Nat) : Int) - 0) = (((li a).length + (li b).length : Nat) : Int) := by rw [wrap64 (by omega) (by omega)]; omega
  simp only [e3]
  split
  · simp only [fCut, cut?, asNat, bindO_s, onNil, show (0 : Int) ≤ 0 from by decide, if_true, Int.toNat_zero, Nat.le_refl, and_self, asNat_nat, Nat.zero_le, List.take_zero, List.drop_nil, concat_L1 ha hb]
    rw [if_pos (by omega)]
    simp only [bindO_s, Int.toNat_natCast, show ((li a).length + (li b).length) * 40 ≤ room by unfold room; omega, decide_true, gB_t]
  · rfl
theorem mach_checkPorts_ok {m : TMach} (h : SmM m) : mach_checkPorts (.agg (MC m)) = some (.int .i64 (if 8 < ((li m.2.2.2.1).length : Int) then 26 else if 8 < ((li m.2.2.2.2.1).length : Int) then 26 else portsGo [] (li m.2.2.2.1 ++ li m.2.2.2.2.1))) := by
  obtain ⟨nm, sts, start, ins, outs, rows, ⟨⟩⟩ := m
  obtain ⟨hn, hst, hi, ho, hr⟩ := h
  dsimp only at *
  have hal : (li ins ++ li outs).length < 1000000000000000 → True := fun _ => trivial
  rw [mach_checkPorts.eq]
  simp only [MC, fIsAgg_agg, List.length_cons, List.length_nil, fCell_zero, fCell_succ, fLen_sl, bindO_s, fBin_gtr, fCond_b, decide_eq_true_eq]
  rw [show (0 + 1 + 1 + 1 + 1 + 1 + 1 == 6) = true from rfl, gB_t]
  by_cases g1 : 8 < ((li ins).length : Int)
  · simp only [g1, if_true]
  · by_cases g2 : 8 < ((li outs).length : Int)
    · simp only [g1, g2, if_true, if_false]
    · simp only [g1, g2, if_false]
      rw [mach_checkPorts.L0_eq, concat_ok (by omega) (by omega)]
      simp only [bindO_s, fLen_arr, List.length_map]
      exact mach_ports (l := li ins ++ li outs) (by simp; omega) (fun p hp => (List.mem_append.1 hp).elim (hi.2 p) (ho.2 p)) _ _ _ _ _ _ _ _ 0 [] rfl
theorem capP_mul {n p : Nat} (hn : 1 ≤ n ∧ n ≤ 256) (hp : 1 ≤ p) : (4096 < n * capP p ↔ 4096 < n * p) ∧ (¬ 4096 < n * p → capP p = p) ∧ (4096 < n * min p 2097152 ↔ 4096 < n * p) ∧ (¬ 4096 < n * p → min p 2097152 = p) ∧ n * capP p ≤ 281474976710656 ∧ n * min p 2097152 ≤ 281474976710656 := by
  have h1 : 1 * p ≤ n * p := Nat.mul_le_mul_right _ hn.1
  have h2 : 1 * capP p ≤ n * capP p := Nat.mul_le_mul_right _ hn.1
  have h3 : 1 * min p 2097152 ≤ n * min p 2097152 := Nat.mul_le_mul_right _ hn.1
  have h4 : n * capP p ≤ 256 * 1099511627776 := Nat.mul_le_mul hn.2 (by unfold capP; split <;> omega)
  have h5 : n * min p 2097152 ≤ 256 * 2097152 := Nat.mul_le_mul hn.2 (by omega)
  have h6 : capP p = p ∨ (1099511627776 < p ∧ capP p = 1099511627776) := by unfold capP; split <;> omega
  have h7 : min p 2097152 = p ∨ (2097152 < p ∧ min p 2097152 = 2097152) := by omega
  refine ⟨?_, ?_, ?_, ?_, by omega, by omega⟩
  · rcases h6 with h6 | ⟨h6, h6'⟩
    · rw [h6]
    · rw [h6'] at h2 ⊢; omega
  · intro g; rcases h6 with h6 | ⟨h6, h6'⟩ <;> omega
  · rcases h7 with h7 | ⟨h7, h7'⟩
    · rw [h7]
    · rw [h7'] at h3 ⊢; omega
  · intro g; omega
theorem lens_ins {ins outs : List TPort} (h : portsGo [] (ins ++ outs) = 0) : Lens ins := fun p hp => portsGo_lens _ _ h p (by simp [hp])
theorem mach_check_ok {m : TMach} (h : SmM m) : mach_Check (.agg (MC m)) = some (.int .i64 (checkP m)) := by
  have hcp := mach_checkPorts_ok h
  obtain ⟨nm, sts, start, ins, outs, rows, ⟨⟩⟩ := m
  obtain ⟨hn, hst, hi, ho, hr⟩ := h
  dsimp only at *
  simp only [MC] at hcp
  rw [mach_Check.eq]
  simp only [MC, fIsAgg_agg, List.length_cons, List.length_nil, fCell_zero, fCell_succ, fLen_sl, bindO_s, mach_isName_ok hn, fUn_not, fBin_eql, fBin_gtr, fCond_b, decide_eq_true_eq, Bool.not_eq_true', checkP, checkG]
  rw [show (0 + 1 + 1 + 1 + 1 + 1 + 1 == 6) = true from rfl, gB_t]
  by_cases g1 : isNm nm = false
  · simp only [g1, if_true]
  simp only [g1, if_false, reduceCtorEq]
  by_cases g2 : ((li sts).length : Int) = 0
  · simp only [g2, if_true]
  simp only [g2, if_false]
  by_cases g3 : 256 < ((li sts).length : Int)
  · simp only [g3, if_true]
  simp only [g3, if_false]
  rw [mach_Check.L0_eq]
  simp only [mach_names_ok hst, bindO_s, fBin_neq, fCond_b, decide_eq_true_eq, hcp, fBin_lss, fLen_sl, fBin_geq]
  by_cases g4 : namesGo [] (li sts) ≠ 0
  · simp only [g4, if_true, ne_eq, not_false_eq_true]
  simp only [g4, if_false]
  by_cases g5 : 8 < ((li ins).length : Int)
  · simp only [g5, if_true]; rfl
  simp only [g5, if_false]
  by_cases g6 : 8 < ((li outs).length : Int)
  · simp only [g6, if_true]; rfl
  simp only [g6, if_false]
  by_cases g7 : portsGo [] (li ins ++ li outs) ≠ 0
  · simp only [g7, if_true, ne_eq, not_false_eq_true]
  simp only [g7, if_false]
  by_cases g8 : start < 0
  · simp only [g8, if_true]
  simp only [g8, if_false]
  by_cases g9 : ((li sts).length : Int) ≤ start
  · simp only [g9, if_true]
  simp only [g9, if_false]
  have hL := lens_ins (Decidable.not_not.1 g7)
  obtain ⟨c1, c2, _, _, c5, _⟩ := capP_mul (n := (li sts).length) (p := prodL (li ins)) ⟨by omega, by omega⟩ (prodL_pos _ hL)
  have e : IntKind.i64.wrap (((li sts).length : Int) * (capP (prodL (li ins)) : Int)) = (((li sts).length * capP (prodL (li ins)) : Nat) : Int) := by rw [wrap64 (by omega) (by omega)]; omega
  rw [mach_Check.L1_eq]
  simp only [fLen_sl, bindO_s, mach_product_ok hi.1 hL, fBin_mul, e, fBin_gtr, fCond_b, decide_eq_true_eq, fBin_neq]
  by_cases g10 : 4096 < (li sts).length * prodL (li ins)
  · rw [if_pos (by have := c1.2 g10; omega), if_pos g10]
  rw [if_neg (by have := fun g => g10 (c1.1 g); omega), if_neg g10, c2 g10]
  by_cases g11 : (li rows).length ≠ (li sts).length * prodL (li ins)
  · rw [if_pos (by omega), if_pos g11]
  rw [if_neg (by omega), if_neg g11]
  exact mach_rows ho.1 hr.1 _ _ _ _ _ 0 rfl
theorem ref_check_ok {m : TMach} (h : SmM m) : ref02_Check (.agg (MC m)) = some (.int .i64 (checkP m)) := by
  obtain ⟨nm, sts, start, ins, outs, rows, ⟨⟩⟩ := m
  obtain ⟨hn, hst, hi, ho, hr⟩ := h
  dsimp only at *
  rw [ref02_Check.eq]
  simp only [MC, fIsAgg_agg, List.length_cons, List.length_nil, fCell_zero, fCell_succ, fLen_sl, bindO_s, ref_isName_ok hn, fUn_not, fBin_eql, fBin_gtr, fCond_b, decide_eq_true_eq, Bool.not_eq_true', checkP, checkG]
  rw [show (0 + 1 + 1 + 1 + 1 + 1 + 1 == 6) = true from rfl, gB_t]
  by_cases g1 : isNm nm = false
  · simp only [g1, if_true]
  simp only [g1, if_false, reduceCtorEq]
  by_cases g2 : ((li sts).length : Int) = 0
  · simp only [g2, if_true]
  simp only [g2, if_false]
  by_cases g3 : 256 < ((li sts).length : Int)
  · simp only [g3, if_true]
  simp only [g3, if_false]
  rw [ref02_Check.L0_eq]
  simp only [ref_names_ok hst, bindO_s, fBin_neq, fCond_b, decide_eq_true_eq, fBin_gtr, fLen_sl]
  by_cases g4 : namesGo [] (li sts) ≠ 0
  · simp only [g4, if_true, ne_eq, not_false_eq_true]
  simp only [g4, if_false]
  by_cases g5 : 8 < ((li ins).length : Int)
  · simp only [g5, if_true]
  simp only [g5, if_false]
  by_cases g6 : 8 < ((li outs).length : Int)
  · simp only [g6, if_true]
  simp only [g6, if_false]
  rw [ref02_Check.L1_eq]
  simp only [asRows_sl, bindO_s, rowsSz_map P_len, gB_t, List.nil_append, List.length_map, show (0 + (li ins).length) * 40 ≤ room by unfold room; omega, show ((li ins).length + (li outs).length) * 40 ≤ room by unfold room; omega, decide_true]
  rw [← List.map_append, show (FV.int IntKind.i64 0) = .int .i64 ((0 : Nat) : Int) from rfl]
  rw [ref_ports (by simp; omega) (fun p hp => (List.mem_append.1 hp).elim (hi.2 p) (ho.2 p)) _ _ _ _ _ _ _ (li ins ++ li outs) 0 rfl (by omega)]
  simp only [List.take_zero, List.map_nil]
  by_cases g7 : portsGo [] (li ins ++ li outs) ≠ 0
  · simp only [g7, if_true, ne_eq, not_false_eq_true]
  simp only [g7, if_false]
  rw [ref02_Check.L2_eq]
  simp only [fLen_arr, List.length_map, bindO_s, fBin_lss, fCond_b, Int.lt_irrefl, decide_false, Bool.false_eq_true, if_false, decide_eq_true_eq, fLen_sl, fBin_geq]
  by_cases g8 : start < 0
  · simp only [g8, if_true]
  simp only [g8, if_false]
  by_cases g9 : ((li sts).length : Int) ≤ start
  · simp only [g9, if_true]
  simp only [g9, if_false]
  have hL := lens_ins (Decidable.not_not.1 g7)
  obtain ⟨_, _, c1, c2, _, c5⟩ := capP_mul (n := (li sts).length) (p := prodL (li ins)) ⟨by omega, by omega⟩ (prodL_pos _ hL)
  have e : IntKind.i64.wrap (((li sts).length : Int) * ((min (prodL (li ins)) 2097152 : Nat) : Int)) = (((li sts).length * min (prodL (li ins)) 2097152 : Nat) : Int) := by rw [← Int.natCast_mul, wrap64 (by omega) (by omega)]
  rw [ref02_Check.L4_eq]
  simp only [fLen_sl, bindO_s, ref_product_ok hi.1 hL, fBin_mul, e, fBin_gtr, fCond_b, decide_eq_true_eq, fBin_neq]
  by_cases g10 : 4096 < (li sts).length * prodL (li ins)
  · rw [if_pos (by have := c1.2 g10; omega), if_pos g10]
  rw [if_neg (by have := fun g => g10 (c1.1 g); omega), if_neg g10, c2 g10]
  by_cases g11 : (li rows).length ≠ (li sts).length * prodL (li ins)
  · rw [if_pos (by omega), if_pos g11]
  rw [if_neg (by omega), if_neg g11]
  exact ref_rows ho.1 hr.1 _ _ _ _ _ 0 rfl
end Go.Proofs.Ytelcbakleaaneaa
end
section
namespace Go.Proofs.Ytelcbakleaaneaa
open Go Go.Proofs.Ytelcbakleaaneaa.VM
set_option linter.unusedVariables false
set_option linter.unusedSimpArgs false

/-- A row of one list; of one list that may be nil. -/
def LL (l : List Int) : List FV := [.arr (l.map I)]
def SI (o : Option (List Int)) : List FV := [sl I o]
@[simp] theorem LL_len (o : List Int) : (LL o).length = 1 := rfl
@[simp] theorem LL_zero (o : List Int) : (LL o)[0]? = some (.arr (o.map I)) := rfl
@[simp] theorem SI_len (o : Option (List Int)) : (SI o).length = 1 := rfl
@[simp] theorem SI_zero (o : Option (List Int)) : (SI o)[0]? = some (sl I o) := rfl

/-! ### The same lists -/
theorem sameInts_L0 {l : List Int} (hl : l.length < 1000000000000000) : ∀ (s : List Int) (k : Nat), l.drop k = s → ref02_sameInts.L0 (.arr (l.map I)) (.arr (l.map I)) (.int .i64 (k : Int)) = some (.bool true) := by
  intro s
  induction s with
  | nil =>
    intro k hd
    rw [ref02_sameInts.L0_eq]
    simp [drop_nil hd]
  | cons n s ih =>
    intro k hd
    obtain ⟨hk, hn, hs⟩ := drop_cons hd
    have e : IntKind.i64.wrap ((k : Int) + 1) = ((k + 1 : Nat) : Int) := wrap64 (by omega) (by omega)
    rw [ref02_sameInts.L0_eq]
    have hi : fIdxC 1 (.arr (l.map I)) (.int .i64 (k : Int)) = some (I n) := idx_arr (by simp [hn]) rfl
    simp only [fLen_arr, List.length_map, bindO_s, fBin_lss, fCond_b, decide_eq_true_eq, Int.ofNat_lt, hk, if_true, hi, I_zero, fBin_neq, ne_eq, not_true_eq_false, if_false, fBin_add, e, ih (k + 1) hs]
theorem sameInts_ok {l : List Int} (hl : l.length < 1000000000000000) : ref02_sameInts (.arr (l.map I)) (.arr (l.map I)) = some (.bool true) := by
  rw [ref02_sameInts.eq]
  have := sameInts_L0 hl l 0 rfl
  simp only [fLen_arr, bindO_s, fBin_neq, ne_eq, not_true_eq_false, decide_false, fCond_b, Bool.false_eq_true, if_false]
  exact this
theorem sameInts_nil : ref02_sameInts .nilS .nilS = some (.bool true) := by
  rw [ref02_sameInts.eq]
  simp only [fLen_nil, bindO_s, fBin_neq, ne_eq, not_true_eq_false, decide_false, fCond_b, Bool.false_eq_true, if_false]
  rw [ref02_sameInts.L0_eq]
  simp
theorem SameInts_sl {o : Option (List Int)} (hl : (li o).length < 1000000000000000) : ref02_SameInts (sl I o) (sl I o) = some (.bool true) := by
  rw [ref02_SameInts.eq]
  cases o with
  | none => rw [show sl I none = .nilS from rfl, sameInts_nil]; rfl
  | some l => rw [sl_some, sameInts_ok (l := l) hl]; rfl
theorem sameLists_L0 {l : List (List Int)} (hl : l.length < 1000000000000000) (hx : ∀ x ∈ l, x.length < 1000000000000000) : ∀ (s : List (List Int)) (k : Nat), l.drop k = s → ref02_SameLists.L0 (.arr (l.map LL)) (.arr (l.map LL)) (.int .i64 (k : Int)) = some (.bool true) := by
  intro s
  induction s with
  | nil =>
    intro k hd
    rw [ref02_SameLists.L0_eq]
    simp [drop_nil hd]
  | cons x s ih =>
    intro k hd
    obtain ⟨hk, hn, hs⟩ := drop_cons hd
    have e : IntKind.i64.wrap ((k : Int) + 1) = ((k + 1 : Nat) : Int) := wrap64 (by omega) (by omega)
    rw [ref02_SameLists.L0_eq]
    have hi : fIdxC 1 (.arr (l.map LL)) (.int .i64 (k : Int)) = some (LL x) := idx_arr (by simp [hn]) rfl
    simp only [fLen_arr, List.length_map, bindO_s, fBin_lss, fCond_b, decide_eq_true_eq, Int.ofNat_lt, hk, if_true, hi, LL_zero, sameInts_ok (hx x (List.mem_of_getElem? hn)), fUn_not, Bool.not_true, Bool.false_eq_true, if_false, fBin_add, e, ih (k + 1) hs]
theorem sameLists_ok {l : List (List Int)} (hl : l.length < 1000000000000000) (hx : ∀ x ∈ l, x.length < 1000000000000000) : ref02_SameLists (.arr (l.map LL)) (.arr (l.map LL)) = some (.bool true) := by
  rw [ref02_SameLists.eq]
  have := sameLists_L0 hl hx l 0 rfl
  simp only [fLen_arr, bindO_s, fBin_neq, ne_eq, not_true_eq_false, decide_false, fCond_b, Bool.false_eq_true, if_false]
  exact this
theorem sameLists_nil : ref02_SameLists .nilS .nilS = some (.bool true) := by
  rw [ref02_SameLists.eq, ]
  simp only [fLen_nil, bindO_s, fBin_neq, ne_eq, not_true_eq_false, decide_false, fCond_b, Bool.false_eq_true, if_false]
  rw [ref02_SameLists.L0_eq]
  simp

/-! ### A machine that Check lets pass -/
structure OkM (sts : List Str) (start : Int) (ins outs : List TPort) (rows : List TRow) : Prop where
  n1 : 1 ≤ sts.length ∧ sts.length ≤ 256
  i8 : ins.length ≤ 8
  o8 : outs.length ≤ 8
  lens : Lens ins
  olens : Lens outs
  st : 0 ≤ start ∧ start < (sts.length : Int)
  small : sts.length * prodL ins ≤ 4096
  rlen : rows.length = sts.length * prodL ins
  rok : ∀ r ∈ rows, rowOk sts.length outs r = true
theorem okM {nm : Str} {sts : List Str} {start : Int} {ins outs : List TPort} {rows : List TRow} (h : checkG nm sts start ins outs rows = 0) : OkM sts start ins outs rows := by
  unfold checkG at h
  by_cases g1 : isNm nm = false
  · rw [if_pos g1] at h; omega
  rw [if_neg g1] at h
  by_cases g2 : (sts.length : Int) = 0
  · rw [if_pos g2] at h; omega
  rw [if_neg g2] at h
  by_cases g3 : 256 < (sts.length : Int)
  · rw [if_pos g3] at h; omega
  rw [if_neg g3] at h
  by_cases g4 : namesGo [] sts ≠ 0
  · rw [if_pos g4] at h; exact absurd h g4
  rw [if_neg g4] at h
  by_cases g5 : 8 < (ins.length : Int)
  · rw [if_pos g5] at h; omega
  rw [if_neg g5] at h
  by_cases g6 : 8 < (outs.length : Int)
  · rw [if_pos g6] at h; omega
  rw [if_neg g6] at h
  by_cases g7 : portsGo [] (ins ++ outs) ≠ 0
  · rw [if_pos g7] at h; exact absurd h g7
  rw [if_neg g7] at h
  by_cases g8 : start < 0
  · rw [if_pos g8] at h; omega
  rw [if_neg g8] at h
  by_cases g9 : (sts.length : Int) ≤ start
  · rw [if_pos g9] at h; omega
  rw [if_neg g9] at h
  by_cases g10 : 4096 < sts.length * prodL ins
  · rw [if_pos g10] at h; omega
  rw [if_neg g10] at h
  by_cases g11 : rows.length ≠ sts.length * prodL ins
  · rw [if_pos g11] at h; omega
  rw [if_neg g11] at h
  by_cases g12 : rowsOk sts.length outs rows = true
  · have hl := portsGo_lens _ _ (Decidable.not_not.1 g7)
    exact ⟨by omega, by omega, by omega, fun p hp => hl p (by simp [hp]), fun p hp => hl p (by simp [hp]), by omega, by omega, Decidable.not_not.1 g11, List.all_eq_true.1 g12⟩
  · rw [if_neg g12] at h; omega

/-! ### A letter's number -/
def numGo : List TPort → List Int → Nat → Nat
  | p :: ps, v :: vs, a => numGo ps vs (a * (li p.2.1).length + v.toNat)
  | _, _, a => a
theorem numGo_lt : ∀ (ps : List TPort) (vs : List Int) (a : Nat), ps.length = vs.length → fitGo ps vs = true → numGo ps vs a + 1 ≤ (a + 1) * prodL ps
  | [], [], a, _, _ => by simp [numGo, prodL]
  | p :: ps, v :: vs, a, hl, h => by
    simp only [fitGo, Bool.and_eq_true, decide_eq_true_eq] at h
    obtain ⟨⟨h1, h2⟩, h3⟩ := h
    have ih := numGo_lt ps vs (a * (li p.2.1).length + v.toNat) (by simpa using hl) h3
    have h4 : a * (li p.2.1).length + v.toNat + 1 ≤ (a + 1) * (li p.2.1).length := by rw [Nat.add_mul]; omega
    have h5 := Nat.mul_le_mul_right (prodL ps) h4
    simp only [numGo, prodL]
    rw [← Nat.mul_assoc]
    omega
  | [], _ :: _, _, hl, _ => by simp at hl
  | _ :: _, [], _, hl, _ => by simp at hl

theorem index_L0 {o : Option (List TPort)} {v : Option (List Int)} (hs : (li o).length < 1000000000000000) (hl : (li o).length = (li v).length) : ∀ (ps : List TPort) (vs : List Int) (k a : Nat), (li o).drop k = ps → (li v).drop k = vs → Lens ps → fitGo ps vs = true → (a + 1) * prodL ps ≤ 4096 →
    ref02_Index.L0 (sl P o) (sl I v) (.int .i64 (a : Int)) (.int .i64 (k : Int)) = some (.int .i64 (numGo ps vs a : Int)) := by
  intro ps
  induction ps with
  | nil =>
    intro vs k a hd hv hL hf ha
    rw [ref02_Index.L0_eq]
    simp only [fLen_sl, bindO_s, fBin_lss, fCond_b, decide_eq_true_eq, Int.ofNat_lt, drop_nil hd, if_false, numGo]
  | cons p ps ih =>
    intro vs k a hd hv hL hf ha
    obtain ⟨hk, hn, hs'⟩ := drop_cons hd
    cases vs with
    | nil => have := drop_nil hv; omega
    | cons n vs =>
      obtain ⟨_, hn2, hv'⟩ := drop_cons hv
      have e : IntKind.i64.wrap ((k : Int) + 1) = ((k + 1 : Nat) : Int) := wrap64 (by omega) (by omega)
      simp only [fitGo, Bool.and_eq_true, decide_eq_true_eq] at hf
      obtain ⟨⟨h1, h2⟩, h3⟩ := hf
      have hp := prodL_pos ps (fun q hq => hL q (by simp [hq]))
      simp only [prodL] at ha
      have h4 : a * (li p.2.1).length + n.toNat + 1 ≤ (a + 1) * (li p.2.1).length := by rw [Nat.add_mul]; omega
      have h5 := Nat.mul_le_mul_right (prodL ps) h4
      rw [← Nat.mul_assoc] at ha
      have h6 : (a + 1) * (li p.2.1).length * 1 ≤ (a + 1) * (li p.2.1).length * prodL ps := Nat.mul_le_mul_left _ hp
      have e2 : IntKind.i64.wrap ((a : Int) * ((li p.2.1).length : Int)) = ((a * (li p.2.1).length : Nat) : Int) := by rw [← Int.natCast_mul, wrap64 (by omega) (by omega)]
      have e3 : IntKind.i64.wrap (((a * (li p.2.1).length : Nat) : Int) + n) = ((a * (li p.2.1).length + n.toNat : Nat) : Int) := by rw [wrap64 (by omega) (by omega)]; omega
      rw [ref02_Index.L0_eq]
      simp only [fLen_sl, bindO_s, fBin_lss, fCond_b, decide_eq_true_eq, Int.ofNat_lt, hk, if_true, idx_sl hn2 (I_len n), I_zero, idx_sl hn (P_len p), P_one, fBin_mul, e2, fBin_add, e3, e, numGo]
      exact ih vs (k + 1) _ hs' hv' (fun q hq => hL q (by simp [hq])) h3 (by omega)
theorem index_ok {o : Option (List TPort)} {v : Option (List Int)} (hs : (li o).length < 1000000000000000) (hL : Lens (li o)) (hp : prodL (li o) ≤ 4096) (hf : fitP (li o) (li v) = true) : ref02_Index (sl P o) (sl I v) = some (.int .i64 (numGo (li o) (li v) 0 : Int)) := by
  simp only [fitP, Bool.and_eq_true, decide_eq_true_eq] at hf
  rw [ref02_Index.eq]
  exact index_L0 hs hf.1 _ _ 0 0 rfl rfl hL hf.2 (by omega)
theorem number_L0 {o : Option (List TPort)} {v : Option (List Int)} (hs : (li o).length < 1000000000000000) (hl : (li o).length = (li v).length) : ∀ (ps : List TPort) (vs : List Int) (k a : Nat), (li o).drop k = ps → (li v).drop k = vs → Lens ps → fitGo ps vs = true → (a + 1) * prodL ps ≤ 4096 →
    mach_number.L0 (sl P o) (.int .i64 (a : Int)) (sl I v) (.int .i64 ((li v).length : Int)) (.int .i64 (k : Int)) = some (.int .i64 (numGo ps vs a : Int)) := by
  intro ps
  induction ps with
  | nil =>
    intro vs k a hd hv hL hf ha
    rw [mach_number.L0_eq]
    simp only [fLen_sl, bindO_s, fBin_lss, fCond_b, decide_eq_true_eq, Int.ofNat_lt, hl ▸ drop_nil hd, if_false, numGo]
  | cons p ps ih =>
    intro vs k a hd hv hL hf ha
    obtain ⟨hk, hn, hs'⟩ := drop_cons hd
    cases vs with
    | nil => have := drop_nil hv; omega
    | cons n vs =>
      obtain ⟨hk2, hn2, hv'⟩ := drop_cons hv
      have e : IntKind.i64.wrap ((k : Int) + 1) = ((k + 1 : Nat) : Int) := wrap64 (by omega) (by omega)
      simp only [fitGo, Bool.and_eq_true, decide_eq_true_eq] at hf
      obtain ⟨⟨h1, h2⟩, h3⟩ := hf
      have hp := prodL_pos ps (fun q hq => hL q (by simp [hq]))
      simp only [prodL] at ha
      have h4 : a * (li p.2.1).length + n.toNat + 1 ≤ (a + 1) * (li p.2.1).length := by rw [Nat.add_mul]; omega
      have h5 := Nat.mul_le_mul_right (prodL ps) h4
      rw [← Nat.mul_assoc] at ha
      have h6 : (a + 1) * (li p.2.1).length * 1 ≤ (a + 1) * (li p.2.1).length * prodL ps := Nat.mul_le_mul_left _ hp
      have e2 : IntKind.i64.wrap ((a : Int) * ((li p.2.1).length : Int)) = ((a * (li p.2.1).length : Nat) : Int) := by rw [← Int.natCast_mul, wrap64 (by omega) (by omega)]
      have e3 : IntKind.i64.wrap (((a * (li p.2.1).length : Nat) : Int) + n) = ((a * (li p.2.1).length + n.toNat : Nat) : Int) := by rw [wrap64 (by omega) (by omega)]; omega
      rw [mach_number.L0_eq]
      simp only [fLen_sl, bindO_s, fBin_lss, fCond_b, decide_eq_true_eq, Int.ofNat_lt, hk2, if_true, idx_sl hn2 (I_len n), I_zero, idx_sl hn (P_len p), P_one, fBin_mul, e2, fBin_add, e3, e, numGo]
      exact ih vs (k + 1) _ hs' hv' (fun q hq => hL q (by simp [hq])) h3 (by omega)
theorem number_ok {o : Option (List TPort)} {v : Option (List Int)} (hs : (li o).length < 1000000000000000) (hL : Lens (li o)) (hp : prodL (li o) ≤ 4096) (hf : fitP (li o) (li v) = true) : mach_number (sl P o) (sl I v) = some (.int .i64 (numGo (li o) (li v) 0 : Int)) := by
  simp only [fitP, Bool.and_eq_true, decide_eq_true_eq] at hf
  rw [mach_number.eq]
  simp only [fLen_sl, bindO_s]
  exact number_L0 hs hf.1 _ _ 0 0 rfl rfl hL hf.2 (by omega)

/-! ### A step -/
def rowAt (ins : List TPort) (rows : List TRow) (st : Nat) (v : List Int) : TRow := rows.getD (st * prodL ins + numGo ins v 0) default
section
variable {nm : Str} {sts : Option (List Str)} {start : Int} {ins outs : Option (List TPort)} {rows : Option (List TRow)}
theorem rowAt_get (h : OkM (li sts) start (li ins) (li outs) (li rows)) {st : Nat} (hst : st < (li sts).length) {v : List Int} (hf : fitP (li ins) v = true) :
    (li rows)[st * prodL (li ins) + numGo (li ins) v 0]? = some (rowAt (li ins) (li rows) st v) ∧ st * prodL (li ins) + numGo (li ins) v 0 < 4096 ∧ st * prodL (li ins) ≤ 4096 ∧ prodL (li ins) ≤ 4096 := by
  simp only [fitP, Bool.and_eq_true, decide_eq_true_eq] at hf
  have h1 := numGo_lt _ _ 0 hf.1 hf.2
  have h2 : (st + 1) * prodL (li ins) ≤ (li sts).length * prodL (li ins) := Nat.mul_le_mul_right _ hst
  have h3 := h.small
  have h4 := h.rlen
  have h5 : 1 * prodL (li ins) ≤ (li sts).length * prodL (li ins) := Nat.mul_le_mul_right _ h.n1.1
  rw [Nat.add_mul] at h2
  have hlt : st * prodL (li ins) + numGo (li ins) v 0 < (li rows).length := by omega
  refine ⟨?_, by omega, by omega, by omega⟩
  simp [rowAt, hlt]
theorem rowAt_ok (h : OkM (li sts) start (li ins) (li outs) (li rows)) {st : Nat} (hst : st < (li sts).length) {v : List Int} (hf : fitP (li ins) v = true) :
    0 ≤ (rowAt (li ins) (li rows) st v).1 ∧ (rowAt (li ins) (li rows) st v).1 < ((li sts).length : Int) ∧ (li (rowAt (li ins) (li rows) st v).2.1).length ≤ 8 := by
  have := h.rok _ (List.mem_of_getElem? (rowAt_get h hst hf).1)
  simp only [rowOk, fitP, Bool.and_eq_true, decide_eq_true_eq] at this
  exact ⟨this.1.1, this.1.2, by have := h.o8; omega⟩
theorem one_ok (h : OkM (li sts) start (li ins) (li outs) (li rows)) {st : Nat} (hst : st < (li sts).length) {v : Option (List Int)} (hf : fitP (li ins) (li v) = true) :
    ref02_one (.agg [.str nm, sl S sts, .int .i64 start, sl P ins, sl P outs, sl RW rows]) (.int .i64 (st : Int)) (sl I v) = some (.agg [.int .i64 (rowAt (li ins) (li rows) st (li v)).1, sl I (rowAt (li ins) (li rows) st (li v)).2.1]) := by
  obtain ⟨g1, g2, g3, g4⟩ := rowAt_get h hst hf
  have hi := h.i8
  have e1 : IntKind.i64.wrap ((st : Int) * ((prodL (li ins) : Nat) : Int)) = ((st * prodL (li ins) : Nat) : Int) := by rw [← Int.natCast_mul, wrap64 (by omega) (by omega)]
  have e2 : IntKind.i64.wrap (((st * prodL (li ins) : Nat) : Int) + ((numGo (li ins) (li v) 0 : Nat) : Int)) = ((st * prodL (li ins) + numGo (li ins) (li v) 0 : Nat) : Int) := by rw [wrap64 (by omega) (by omega)]; omega
  rw [ref02_one.eq]
  simp only [fIsAgg_agg, List.length_cons, List.length_nil, fCell_zero, fCell_succ, ref_product_ok (show (li ins).length < 1000000000000000 by omega) h.lens, Nat.min_eq_left (show prodL (li ins) ≤ 2097152 by omega), bindO_s, fBin_mul, e1, index_ok (show (li ins).length < 1000000000000000 by omega) h.lens g4 hf, fBin_add, e2, idx_sl g1 (RW_len _), RW_zero, RW_one]
  rfl
theorem clone_int {o : Option (List Int)} (h : (li o).length ≤ 8) : slices_Clone_int (sl I o) = some (.arr ((li o).map I)) := by
  rw [slices_Clone_int.eq]
  simp only [asRows_sl, bindO_s, rowsSz_I, gB_t, List.length_map, show (0 + (li o).length) * 8 ≤ room by unfold room; omega, decide_true, List.nil_append, onFV_sl]

/-- What a step answers: the state, the letter, the complaint. -/
def stepR (c : Int) (n : Nat) (ins : List TPort) (rows : List TRow) (st : Int) (v : List Int) : Int × Option (List Int) × Int :=
  if c ≠ 0 then (0, none, c) else if st < 0 then (0, none, 27) else if (n : Int) ≤ st then (0, none, 27) else if fitP ins v = false then (0, none, 27)
  else ((rowAt ins rows st.toNat v).1, some (li (rowAt ins rows st.toNat v).2.1), 0)
def stepF (r : Int × Option (List Int) × Int) : FV := .tup [.int .i64 r.1, sl I r.2.1, .int .i64 r.2.2]

theorem ref_step_ok (w : SmM (nm, sts, start, ins, outs, rows, ())) (st : Int) {v : Option (List Int)} :
    ref02_Step (.agg [.str nm, sl S sts, .int .i64 start, sl P ins, sl P outs, sl RW rows]) (.int .i64 st) (sl I v) = some (stepF (stepR (checkG nm (li sts) start (li ins) (li outs) (li rows)) (li sts).length (li ins) (li rows) st (li v))) := by
  have hc := ref_check_ok w
  simp only [MC, checkP] at hc
  rw [ref02_Step.eq]
  simp only [fIsAgg_agg, List.length_cons, List.length_nil, fCell_zero, fCell_succ, hc, bindO_s, fBin_neq, fCond_b, decide_eq_true_eq, fBin_lss, fLen_sl, fBin_geq, right_ok w.ins.1, fUn_not, Bool.not_eq_true', stepR]
  rw [show (0 + 1 + 1 + 1 + 1 + 1 + 1 == 6) = true from rfl, gB_t]
  by_cases g1 : checkG nm (li sts) start (li ins) (li outs) (li rows) ≠ 0
  · simp only [g1, if_true, ne_eq, not_false_eq_true]; rfl
  simp only [g1, if_false]
  by_cases g2 : st < 0
  · simp only [g2, if_true]; rfl
  simp only [g2, if_false]
  by_cases g3 : ((li sts).length : Int) ≤ st
  · simp only [g3, if_true]; rfl
  simp only [g3, if_false]
  by_cases g4 : fitP (li ins) (li v) = false
  · simp only [g4, if_true]; rfl
  simp only [g4, if_false]
  have hok := okM (Decidable.not_not.1 g1)
  have hst : st.toNat < (li sts).length := by omega
  obtain ⟨_, _, r8⟩ := rowAt_ok hok hst (by simpa using g4)
  have h1 := one_ok (nm := nm) hok hst (v := v) (by simpa using g4)
  rw [show ((st.toNat : Nat) : Int) = st by omega] at h1
  rw [ref02_Step.L0_eq, h1]
  simp only [bindO_s, fIsAgg_agg, List.length_cons, List.length_nil, fCell_zero, fCell_succ, asRows_sl, rowsSz_I, gB_t, List.length_map, show (0 + (li (rowAt (li ins) (li rows) st.toNat (li v)).2.1).length) * 8 ≤ room by unfold room; omega, decide_true, List.nil_append]
  rfl
theorem mach_step_ok (w : SmM (nm, sts, start, ins, outs, rows, ())) (st : Int) {v : Option (List Int)} :
    mach_Step (.agg [.str nm, sl S sts, .int .i64 start, sl P ins, sl P outs, sl RW rows]) (.int .i64 st) (sl I v) = some (stepF (stepR (checkG nm (li sts) start (li ins) (li outs) (li rows)) (li sts).length (li ins) (li rows) st (li v))) := by
  have hc := mach_check_ok w
  simp only [MC, checkP] at hc
  rw [mach_Step.eq]
  simp only [fIsAgg_agg, List.length_cons, List.length_nil, fCell_zero, fCell_succ, hc, bindO_s, fBin_neq, fCond_b, decide_eq_true_eq, fBin_lss, fLen_sl, fBin_geq, fit_ok w.ins.1, fUn_not, Bool.not_eq_true', stepR]
  rw [show (0 + 1 + 1 + 1 + 1 + 1 + 1 == 6) = true from rfl, gB_t]
  by_cases g1 : checkG nm (li sts) start (li ins) (li outs) (li rows) ≠ 0
  · simp only [g1, if_true, ne_eq, not_false_eq_true]; rfl
  simp only [g1, if_false]
  by_cases g2 : st < 0
  · simp only [g2, if_true]; rfl
  simp only [g2, if_false]
  by_cases g3 : ((li sts).length : Int) ≤ st
  · simp only [g3, if_true]; rfl
  simp only [g3, if_false]
  by_cases g4 : fitP (li ins) (li v) = false
  · simp only [g4, if_true]; rfl
  simp only [g4, if_false]
  have hok := okM (Decidable.not_not.1 g1)
  have hst : st.toNat < (li sts).length := by omega
  have hf : fitP (li ins) (li v) = true := by simpa using g4
  obtain ⟨_, _, r8⟩ := rowAt_ok hok hst hf
  obtain ⟨k1, k2, k3, k4⟩ := rowAt_get hok hst hf
  have hi := hok.i8
  have est : st = ((st.toNat : Nat) : Int) := by omega
  have hcap : capP (prodL (li ins)) = prodL (li ins) := by unfold capP; rw [if_neg (by omega)]
  have e1 : IntKind.i64.wrap (((st.toNat : Nat) : Int) * ((prodL (li ins) : Nat) : Int)) = ((st.toNat * prodL (li ins) : Nat) : Int) := by rw [← Int.natCast_mul, wrap64 (by omega) (by omega)]
  have e2 : IntKind.i64.wrap (((st.toNat * prodL (li ins) : Nat) : Int) + ((numGo (li ins) (li v) 0 : Nat) : Int)) = ((st.toNat * prodL (li ins) + numGo (li ins) (li v) 0 : Nat) : Int) := by rw [wrap64 (by omega) (by omega)]; omega
  rw [mach_Step.L0_eq]
  rw [show (FV.int .i64 st) = .int .i64 ((st.toNat : Nat) : Int) by rw [← est]]
  simp only [mach_product_ok (show (li ins).length < 1000000000000000 by omega) hok.lens, hcap, bindO_s, fBin_mul, e1, number_ok (show (li ins).length < 1000000000000000 by omega) hok.lens k4 hf, fBin_add, e2, idx_sl k1 (RW_len _), RW_zero, RW_one, clone_int r8, arrRows_arr]
  rfl
end
end Go.Proofs.Ytelcbakleaaneaa
end
section
namespace Go.Proofs.Ytelcbakleaaneaa
open Go Go.Proofs.Ytelcbakleaaneaa.VM
set_option linter.unusedVariables false
set_option linter.unusedSimpArgs false

/-- The letters a machine says, and where it ends. -/
def runM (ins : List TPort) (rows : List TRow) : Nat → List (Option (List Int)) → List (List Int) × Nat
  | st, [] => ([], st)
  | st, x :: xs => (li (rowAt ins rows st (li x)).2.1 :: (runM ins rows (rowAt ins rows st (li x)).1.toNat xs).1, (runM ins rows (rowAt ins rows st (li x)).1.toNat xs).2)
def fitAll (ins : List TPort) (xs : List (Option (List Int))) : Bool := xs.all fun x => fitP ins (li x)
theorem runM_len (ins : List TPort) (rows : List TRow) : ∀ (xs : List (Option (List Int))) (st : Nat), (runM ins rows st xs).1.length = xs.length
  | [], _ => rfl
  | x :: xs, st => by simp [runM, runM_len ins rows xs]
/-- What a run answers. -/
def runR (c : Int) (ins : List TPort) (rows : List TRow) (start : Int) (xs : List (Option (List Int))) : Option (List (List Int)) × Int × Int :=
  if c ≠ 0 then (none, 0, c) else if 4096 < (xs.length : Int) then (none, 0, 26) else if fitAll ins xs then (some (runM ins rows start.toNat xs).1, (runM ins rows start.toNat xs).2, 0) else (none, 0, 27)
def runF (r : Option (List (List Int)) × Int × Int) : FV := .tup [sl LL r.1, .int .i64 r.2.1, .int .i64 r.2.2]

section
variable {nm : Str} {sts : Option (List Str)} {start : Int} {ins outs : Option (List TPort)} {rows : Option (List TRow)} {oi : Option (List (Option (List Int)))}
theorem runM_ok (h : OkM (li sts) start (li ins) (li outs) (li rows)) : ∀ (xs : List (Option (List Int))) (st : Nat), st < (li sts).length → fitAll (li ins) xs = true → ∀ x ∈ (runM (li ins) (li rows) st xs).1, x.length ≤ 8
  | [], _, _, _ => by simp [runM]
  | x :: xs, st, hst, hf => by
    simp only [fitAll, List.all_cons, Bool.and_eq_true] at hf
    obtain ⟨r1, r2, r3⟩ := rowAt_ok h hst hf.1
    intro y hy
    simp only [runM, List.mem_cons] at hy
    rcases hy with rfl | hy
    · exact r3
    · exact runM_ok h xs _ (by omega) hf.2 y hy
theorem ref_run_L0 (h : OkM (li sts) start (li ins) (li outs) (li rows)) (hx : (li oi).length ≤ 4096) : ∀ (t : List (Option (List Int))) (i st : Nat) (acc : List (List Int)), (li oi).drop i = t → st < (li sts).length → acc.length = i →
    ref02_Run.L0 (sl SI oi) (.int .i64 (st : Int)) (.int .i64 (i : Int)) (.str nm) (sl S sts) (.int .i64 start) (sl P ins) (sl P outs) (sl RW rows) (acc.map LL) =
      if fitAll (li ins) t then some (.tup [.arr ((acc ++ (runM (li ins) (li rows) st t).1).map LL), .int .i64 ((runM (li ins) (li rows) st t).2 : Int), .int .i64 0]) else some (.tup [.nilS, .int .i64 0, .int .i64 27]) := by
  intro t
  have hi := h.i8
  induction t with
  | nil =>
    intro i st acc hd hst hacc
    rw [ref02_Run.L0_eq]
    simp only [fLen_sl, bindO_s, fBin_lss, fCond_b, decide_eq_true_eq, Int.ofNat_lt, drop_nil hd, if_false, runM, List.append_nil, fitAll, List.all_nil, if_true]
  | cons x t ih =>
    intro i st acc hd hst hacc
    obtain ⟨hk, hn, hs⟩ := drop_cons hd
    have e : IntKind.i64.wrap ((i : Int) + 1) = ((i + 1 : Nat) : Int) := wrap64 (by omega) (by omega)
    rw [ref02_Run.L0_eq]
    simp only [fLen_sl, bindO_s, fBin_lss, fCond_b, decide_eq_true_eq, Int.ofNat_lt, hk, if_true, idx_sl hn (SI_len x), SI_zero, right_ok (show (li ins).length < 1000000000000000 by omega), fUn_not, Bool.not_eq_true', fitAll, List.all_cons]
    by_cases g : fitP (li ins) (li x) = true
    · obtain ⟨r1, r2, r3⟩ := rowAt_ok h hst g
      have est : (rowAt (li ins) (li rows) st (li x)).1 = (((rowAt (li ins) (li rows) st (li x)).1.toNat : Nat) : Int) := by omega
      have ih' := ih (i + 1) (rowAt (li ins) (li rows) st (li x)).1.toNat (acc ++ [li (rowAt (li ins) (li rows) st (li x)).2.1]) hs (by omega) (by simp [hacc])
      rw [← est] at ih'
      simp only [g, if_false, reduceCtorEq, one_ok h hst g, bindO_s, fIsAgg_agg, List.length_cons, List.length_nil, fCell_zero, fCell_succ, asRows_sl, rowsSz_I, gB_t, List.length_map, show (0 + (li (rowAt (li ins) (li rows) st (li x)).2.1).length) * 8 ≤ room by unfold room; omega, show (acc.length + 1) * 24 ≤ room by unfold room; omega, decide_true, List.nil_append, fBin_add, e, Bool.true_and, runM]
      rw [show (0 + 1 + 1 == 2) = true from rfl, gB_t]
      rw [show acc.map LL ++ [[FV.arr ((li (rowAt (li ins) (li rows) st (li x)).2.1).map I)]] = (acc ++ [li (rowAt (li ins) (li rows) st (li x)).2.1]).map LL by simp [LL]]
      rw [ih']
      simp only [fitAll, List.append_assoc, List.singleton_append]
    · simp [g]
theorem ref_run_ok (w : SmM (nm, sts, start, ins, outs, rows, ())) :
    ref02_Run (.agg [.str nm, sl S sts, .int .i64 start, sl P ins, sl P outs, sl RW rows]) (sl SI oi) = some (runF (runR (checkG nm (li sts) start (li ins) (li outs) (li rows)) (li ins) (li rows) start (li oi))) := by
  have hc := ref_check_ok w
  simp only [MC, checkP] at hc
  rw [ref02_Run.eq]
  simp only [fIsAgg_agg, List.length_cons, List.length_nil, fCell_zero, fCell_succ, hc, bindO_s, fBin_neq, fCond_b, decide_eq_true_eq, fLen_sl, fBin_gtr, runR]
  rw [show (0 + 1 + 1 + 1 + 1 + 1 + 1 == 6) = true from rfl, gB_t]
  by_cases g1 : checkG nm (li sts) start (li ins) (li outs) (li rows) ≠ 0
  · simp only [g1, if_true, ne_eq, not_false_eq_true]; rfl
  simp only [g1, if_false]
  by_cases g2 : 4096 < ((li oi).length : Int)
  · simp only [g2, if_true]; rfl
  simp only [g2, if_false]
  have hok := okM (Decidable.not_not.1 g1)
  obtain ⟨s1, s2⟩ := hok.st
  have := ref_run_L0 (nm := nm) hok (by omega) (li oi) 0 start.toNat [] rfl (by omega) rfl
  rw [show ((start.toNat : Nat) : Int) = start by omega] at this
  refine this.trans ?_
  by_cases g3 : fitAll (li ins) (li oi) = true
  · simp only [g3, if_true]; rfl
  · simp only [g3, if_false]; rfl

theorem mach_run_L1 (h : OkM (li sts) start (li ins) (li outs) (li rows)) (hx : (li oi).length ≤ 4096) : ∀ (t : List (Option (List Int))) (i st : Nat) (acc : List (List Int)), (li oi).drop i = t → st < (li sts).length → acc.length = i → fitAll (li ins) t = true →
    mach_Run.L1 (.int .i64 (st : Int)) (.int .i64 (prodL (li ins) : Int)) (sl SI oi) (.int .i64 ((li oi).length : Int)) (.int .i64 (i : Int)) (.str nm) (sl S sts) (.int .i64 start) (sl P ins) (sl P outs) (sl RW rows) (acc.map LL) =
      some (.tup [.arr ((acc ++ (runM (li ins) (li rows) st t).1).map LL), .int .i64 ((runM (li ins) (li rows) st t).2 : Int), .int .i64 0]) := by
  intro t
  have hi := h.i8
  induction t with
  | nil =>
    intro i st acc hd hst hacc hf
    rw [mach_Run.L1_eq]
    simp only [fLen_sl, bindO_s, fBin_lss, fCond_b, decide_eq_true_eq, Int.ofNat_lt, drop_nil hd, if_false, runM, List.append_nil]
  | cons x t ih =>
    intro i st acc hd hst hacc hf
    obtain ⟨hk, hn, hs⟩ := drop_cons hd
    have e : IntKind.i64.wrap ((i : Int) + 1) = ((i + 1 : Nat) : Int) := wrap64 (by omega) (by omega)
    simp only [fitAll, List.all_cons, Bool.and_eq_true] at hf
    obtain ⟨g, hf⟩ := hf
    obtain ⟨r1, r2, r3⟩ := rowAt_ok h hst g
    obtain ⟨k1, k2, k3, k4⟩ := rowAt_get h hst g
    have e1 : IntKind.i64.wrap ((st : Int) * ((prodL (li ins) : Nat) : Int)) = ((st * prodL (li ins) : Nat) : Int) := by rw [← Int.natCast_mul, wrap64 (by omega) (by omega)]
    have e2 : IntKind.i64.wrap (((st * prodL (li ins) : Nat) : Int) + ((numGo (li ins) (li x) 0 : Nat) : Int)) = ((st * prodL (li ins) + numGo (li ins) (li x) 0 : Nat) : Int) := by rw [wrap64 (by omega) (by omega)]; omega
    have est : (rowAt (li ins) (li rows) st (li x)).1 = (((rowAt (li ins) (li rows) st (li x)).1.toNat : Nat) : Int) := by omega
    have ih' := ih (i + 1) (rowAt (li ins) (li rows) st (li x)).1.toNat (acc ++ [li (rowAt (li ins) (li rows) st (li x)).2.1]) hs (by omega) (by simp [hacc]) hf
    rw [← est] at ih'
    rw [mach_Run.L1_eq]
    simp only [fLen_sl, bindO_s, fBin_lss, fCond_b, decide_eq_true_eq, Int.ofNat_lt, hk, if_true, idx_sl hn (SI_len x), SI_zero, fBin_mul, e1, number_ok (show (li ins).length < 1000000000000000 by omega) h.lens k4 g, fBin_add, e2, idx_sl k1 (RW_len _), RW_zero, RW_one, clone_int r3, arrRows_arr, gB_t, List.length_map, show (acc.length + 1) * 24 ≤ room by unfold room; omega, decide_true, e, runM]
    rw [show acc.map LL ++ [[FV.arr ((li (rowAt (li ins) (li rows) st (li x)).2.1).map I)]] = (acc ++ [li (rowAt (li ins) (li rows) st (li x)).2.1]).map LL by simp [LL]]
    rw [ih']
    simp only [List.append_assoc, List.singleton_append]
theorem mach_run_L0 (h : OkM (li sts) start (li ins) (li outs) (li rows)) (hx : (li oi).length ≤ 4096) : ∀ (t : List (Option (List Int))) (i : Nat), (li oi).drop i = t →
    mach_Run.L0 (sl SI oi) (sl SI oi) (.int .i64 ((li oi).length : Int)) (.int .i64 (i : Int)) (.str nm) (sl S sts) (.int .i64 start) (sl P ins) (sl P outs) (sl RW rows) =
      if fitAll (li ins) t then mach_Run.L1 (.int .i64 start) (.int .i64 (prodL (li ins) : Int)) (sl SI oi) (.int .i64 ((li oi).length : Int)) (.int .i64 0) (.str nm) (sl S sts) (.int .i64 start) (sl P ins) (sl P outs) (sl RW rows) [] else some (.tup [.nilS, .int .i64 0, .int .i64 27]) := by
  intro t
  have hi := h.i8
  have h3 := h.small
  have h5 : 1 * prodL (li ins) ≤ (li sts).length * prodL (li ins) := Nat.mul_le_mul_right _ h.n1.1
  have hcap : capP (prodL (li ins)) = prodL (li ins) := by unfold capP; rw [if_neg (by omega)]
  induction t with
  | nil =>
    intro i hd
    rw [mach_Run.L0_eq]
    simp only [fLen_sl, bindO_s, fBin_lss, fCond_b, decide_eq_true_eq, Int.ofNat_lt, drop_nil hd, if_false, fitAll, List.all_nil, if_true, mach_product_ok (show (li ins).length < 1000000000000000 by omega) h.lens, hcap]
  | cons x t ih =>
    intro i hd
    obtain ⟨hk, hn, hs⟩ := drop_cons hd
    have e : IntKind.i64.wrap ((i : Int) + 1) = ((i + 1 : Nat) : Int) := wrap64 (by omega) (by omega)
    rw [mach_Run.L0_eq]
    simp only [fLen_sl, bindO_s, fBin_lss, fCond_b, decide_eq_true_eq, Int.ofNat_lt, hk, if_true, idx_sl hn (SI_len x), SI_zero, fit_ok (show (li ins).length < 1000000000000000 by omega), fUn_not, Bool.not_eq_true', fBin_add, e, ih (i + 1) hs, fitAll, List.all_cons]
    by_cases g : fitP (li ins) (li x) = true
    · simp only [g, if_false, reduceCtorEq, Bool.true_and]; rfl
    · simp [g]
theorem mach_run_ok (w : SmM (nm, sts, start, ins, outs, rows, ())) :
    mach_Run (.agg [.str nm, sl S sts, .int .i64 start, sl P ins, sl P outs, sl RW rows]) (sl SI oi) = some (runF (runR (checkG nm (li sts) start (li ins) (li outs) (li rows)) (li ins) (li rows) start (li oi))) := by
  have hc := mach_check_ok w
  simp only [MC, checkP] at hc
  rw [mach_Run.eq]
  simp only [fIsAgg_agg, List.length_cons, List.length_nil, fCell_zero, fCell_succ, hc, bindO_s, fBin_neq, fCond_b, decide_eq_true_eq, fLen_sl, fBin_gtr, runR]
  rw [show (0 + 1 + 1 + 1 + 1 + 1 + 1 == 6) = true from rfl, gB_t]
  by_cases g1 : checkG nm (li sts) start (li ins) (li outs) (li rows) ≠ 0
  · simp only [g1, if_true, ne_eq, not_false_eq_true]; rfl
  simp only [g1, if_false]
  by_cases g2 : 4096 < ((li oi).length : Int)
  · simp only [g2, if_true]; rfl
  simp only [g2, if_false]
  have hok := okM (Decidable.not_not.1 g1)
  obtain ⟨s1, s2⟩ := hok.st
  have h0 := mach_run_L0 (nm := nm) hok (show (li oi).length ≤ 4096 by omega) (li oi) 0 rfl
  refine h0.trans ?_
  by_cases g3 : fitAll (li ins) (li oi) = true
  · have h1 := mach_run_L1 (nm := nm) hok (by omega) (li oi) 0 start.toNat [] rfl (by omega) rfl g3
    rw [show ((start.toNat : Nat) : Int) = start by omega] at h1
    simp only [g3, if_true]
    refine h1.trans ?_
    rfl
  · simp only [g3, if_false]; rfl

/-! ### The law -/
theorem stepR_small {c : Int} (hc : c = 0 → OkM (li sts) start (li ins) (li outs) (li rows)) (st : Int) (v : List Int) : (li (stepR c (li sts).length (li ins) (li rows) st v).2.1).length ≤ 8 := by
  unfold stepR
  by_cases g1 : c ≠ 0
  · rw [if_pos g1]; simp
  rw [if_neg g1]
  by_cases g2 : st < 0
  · rw [if_pos g2]; simp
  rw [if_neg g2]
  by_cases g3 : ((li sts).length : Int) ≤ st
  · rw [if_pos g3]; simp
  rw [if_neg g3]
  by_cases g4 : fitP (li ins) v = false
  · rw [if_pos g4]; simp
  rw [if_neg g4]
  exact (rowAt_ok (hc (Decidable.not_not.1 g1)) (st := st.toNat) (by omega) (by simpa using g4)).2.2
theorem law_L2 (w : SmM (nm, sts, start, ins, outs, rows, ())) (x1 x2 : FV) (st : Int) {i : Nat} {x : Option (List Int)} (hi : (li oi)[i]? = some x) {r : Int × Option (List Int) × Int} (hr : r = stepR (checkG nm (li sts) start (li ins) (li outs) (li rows)) (li sts).length (li ins) (li rows) st (li x)) :
    law02_MachRuns.L2 (sl SI oi) x1 x2 (.int .i64 st) (.int .i64 (i : Int)) (.str nm) (sl S sts) (.int .i64 start) (sl P ins) (sl P outs) (sl RW rows) =
      law02_MachRuns.L3 (sl SI oi) x1 x2 (.int .i64 (i : Int)) (.int .i64 r.1) (sl I r.2.1) (.int .i64 r.2.2) (.str nm) (sl S sts) (.int .i64 start) (sl P ins) (sl P outs) (sl RW rows) := by
  have h8 := stepR_small (sts := sts) (start := start) (ins := ins) (outs := outs) (rows := rows) (c := checkG nm (li sts) start (li ins) (li outs) (li rows)) (fun h => okM h) st (li x)
  rw [← hr] at h8
  rw [law02_MachRuns.L2_eq]
  simp only [idx_sl hi (SI_len x), SI_zero, bindO_s, ref_step_ok w, mach_step_ok w, ← hr, stepF, fIsTup_tup, List.length_cons, List.length_nil, fTup_zero, fTup_succ, fBin_neq, ne_eq, not_true_eq_false, decide_false, fCond_b, Bool.false_eq_true, if_false, SameInts_sl (show (li r.2.1).length < 1000000000000000 by omega), fUn_not, Bool.not_true]
  rfl
theorem law_L1_bad (w : SmM (nm, sts, start, ins, outs, rows, ())) (hx : (li oi).length < 1000000000000000) (x1 : FV) {c : Int} (hc : c ≠ 0) : ∀ (t : List (Option (List Int))) (i : Nat) (st : Int), (li oi).drop i = t →
    law02_MachRuns.L1 (sl SI oi) x1 (.int .i64 c) (.int .i64 st) (.int .i64 (i : Int)) (.str nm) (sl S sts) (.int .i64 start) (sl P ins) (sl P outs) (sl RW rows) = some (.bool true) := by
  intro t
  induction t with
  | nil =>
    intro i st hd
    rw [law02_MachRuns.L1_eq]
    simp only [fLen_sl, bindO_s, fBin_lss, fCond_b, decide_eq_true_eq, Int.ofNat_lt, drop_nil hd, if_false]
  | cons x t ih =>
    intro i st hd
    obtain ⟨hk, hn, hs⟩ := drop_cons hd
    have e : IntKind.i64.wrap ((i : Int) + 1) = ((i + 1 : Nat) : Int) := wrap64 (by omega) (by omega)
    rw [law02_MachRuns.L1_eq]
    simp only [fLen_sl, bindO_s, fBin_lss, fCond_b, decide_eq_true_eq, Int.ofNat_lt, hk, if_true]
    split
    · rw [law_L2 w x1 _ st hn rfl, law02_MachRuns.L3_eq]
      simp only [fBin_eql, hc, decide_false, bindO_s, fCond_b, Bool.false_eq_true, if_false, fBin_add, e]
      exact ih (i + 1) _ hs
    · rfl
theorem law_L1_good (w : SmM (nm, sts, start, ins, outs, rows, ())) (hc : checkG nm (li sts) start (li ins) (li outs) (li rows) = 0) (hx : (li oi).length ≤ 4096) (L : List (List Int)) : ∀ (t : List (Option (List Int))) (i st : Nat) (acc : List (List Int)), (li oi).drop i = t → st < (li sts).length → acc.length = i → fitAll (li ins) t = true → L = acc ++ (runM (li ins) (li rows) st t).1 →
    law02_MachRuns.L1 (sl SI oi) (.arr (L.map LL)) (.int .i64 0) (.int .i64 (st : Int)) (.int .i64 (i : Int)) (.str nm) (sl S sts) (.int .i64 start) (sl P ins) (sl P outs) (sl RW rows) = some (.bool true) := by
  intro t
  have h := okM hc
  induction t with
  | nil =>
    intro i st acc hd hst hacc hf hL
    rw [law02_MachRuns.L1_eq]
    simp only [fLen_sl, bindO_s, fBin_lss, fCond_b, decide_eq_true_eq, Int.ofNat_lt, drop_nil hd, if_false]
  | cons x t ih =>
    intro i st acc hd hst hacc hf hL
    obtain ⟨hk, hn, hs⟩ := drop_cons hd
    have e : IntKind.i64.wrap ((i : Int) + 1) = ((i + 1 : Nat) : Int) := wrap64 (by omega) (by omega)
    simp only [fitAll, List.all_cons, Bool.and_eq_true] at hf
    obtain ⟨g, hf⟩ := hf
    obtain ⟨r1, r2, r3⟩ := rowAt_ok h hst g
    have est : (rowAt (li ins) (li rows) st (li x)).1 = (((rowAt (li ins) (li rows) st (li x)).1.toNat : Nat) : Int) := by omega
    have hstep : stepR (checkG nm (li sts) start (li ins) (li outs) (li rows)) (li sts).length (li ins) (li rows) (st : Int) (li x) = ((rowAt (li ins) (li rows) st (li x)).1, some (li (rowAt (li ins) (li rows) st (li x)).2.1), 0) := by
      unfold stepR
      rw [hc, if_neg (by simp), if_neg (by omega), if_neg (by omega), if_neg (by simp [g]), Int.toNat_natCast]
    have hgL : L[i]? = some (li (rowAt (li ins) (li rows) st (li x)).2.1) := by
      rw [hL, List.getElem?_append_right (by omega), hacc]
      simp [runM]
    have hixL : fIdxC 1 (.arr (L.map LL)) (.int .i64 (i : Int)) = some (LL (li (rowAt (li ins) (li rows) st (li x)).2.1)) := idx_arr (by simp [hgL]) rfl
    have ih' := ih (i + 1) (rowAt (li ins) (li rows) st (li x)).1.toNat (acc ++ [li (rowAt (li ins) (li rows) st (li x)).2.1]) hs (by omega) (by simp [hacc]) hf (by rw [hL]; simp [runM])
    rw [← est] at ih'
    rw [law02_MachRuns.L1_eq]
    simp only [fLen_sl, bindO_s, fBin_lss, fCond_b, decide_eq_true_eq, Int.ofNat_lt, hk, if_true]
    split
    · rw [law_L2 w _ _ (st : Int) hn hstep.symm, law02_MachRuns.L3_eq]
      have hsame := SameInts_sl (o := some (li (rowAt (li ins) (li rows) st (li x)).2.1)) (show (li (rowAt (li ins) (li rows) st (li x)).2.1).length < 1000000000000000 by omega)
      simp only [fBin_eql, fBin_neq, ne_eq, not_true_eq_false, decide_true, decide_false, bindO_s, fCond_b, Bool.false_eq_true, if_true, if_false, hixL, LL_zero, fBin_add, e, ih']
      rw [show sl I (some (li (rowAt (li ins) (li rows) st (li x)).2.1)) = .arr ((li (rowAt (li ins) (li rows) st (li x)).2.1).map I) from rfl] at hsame ⊢
      rw [hsame]
      rfl
    · rfl
theorem law_ok (w : SmM (nm, sts, start, ins, outs, rows, ())) (hx : (li oi).length < 1000000000000000) : law02_MachRuns (.agg [.str nm, sl S sts, .int .i64 start, sl P ins, sl P outs, sl RW rows]) (sl SI oi) = some (.bool true) := by
  rw [law02_MachRuns.eq]
  simp only [fIsAgg_agg, List.length_cons, List.length_nil, fCell_zero, fCell_succ, ref_run_ok w, mach_run_ok w, bindO_s]
  rw [show (0 + 1 + 1 + 1 + 1 + 1 + 1 == 6) = true from rfl, gB_t]
  unfold runR
  by_cases g1 : checkG nm (li sts) start (li ins) (li outs) (li rows) ≠ 0
  · simp only [g1, if_true, ne_eq, not_false_eq_true, runF, fIsTup_tup, List.length_cons, List.length_nil, fTup_zero, fTup_succ, fBin_neq, bindO_s, not_true_eq_false, decide_false, fCond_b, Bool.false_eq_true, if_false, show sl LL none = .nilS from rfl, sameLists_nil, fUn_not, Bool.not_true]
    rw [law02_MachRuns.L0_eq]
    exact law_L1_bad w hx _ g1 _ 0 start rfl
  simp only [g1, if_false]
  by_cases g2 : 4096 < ((li oi).length : Int)
  · simp only [g2, if_true, runF, fIsTup_tup, List.length_cons, List.length_nil, fTup_zero, fTup_succ, fBin_neq, bindO_s, ne_eq, not_true_eq_false, decide_false, fCond_b, Bool.false_eq_true, if_false, show sl LL none = .nilS from rfl, sameLists_nil, fUn_not, Bool.not_true]
    rw [law02_MachRuns.L0_eq]
    exact law_L1_bad w hx _ (by omega) _ 0 start rfl
  simp only [g2, if_false]
  have h := okM (Decidable.not_not.1 g1)
  obtain ⟨s1, s2⟩ := h.st
  by_cases g3 : fitAll (li ins) (li oi) = true
  · have hl := runM_len (li ins) (li rows) (li oi) start.toNat
    have h8 := runM_ok h (li oi) start.toNat (by omega) g3
    have hsame := sameLists_ok (l := (runM (li ins) (li rows) start.toNat (li oi)).1) (by omega) (fun x hx => by have := h8 x hx; omega)
    simp only [g3, if_true, runF, fIsTup_tup, List.length_cons, List.length_nil, fTup_zero, fTup_succ, fBin_neq, bindO_s, ne_eq, not_true_eq_false, decide_false, fCond_b, Bool.false_eq_true, if_false, sl_some, hsame, fUn_not, Bool.not_true]
    rw [law02_MachRuns.L0_eq]
    have := law_L1_good w (Decidable.not_not.1 g1) (by omega) _ (li oi) 0 start.toNat [] rfl (by omega) rfl g3 rfl
    rw [show ((start.toNat : Nat) : Int) = start by omega] at this
    exact this
  · simp only [g3, if_false, runF, fIsTup_tup, List.length_cons, List.length_nil, fTup_zero, fTup_succ, fBin_neq, bindO_s, ne_eq, not_true_eq_false, decide_false, fCond_b, Bool.false_eq_true, show sl LL none = .nilS from rfl, sameLists_nil, fUn_not, Bool.not_true]
    rw [law02_MachRuns.L0_eq]
    exact law_L1_bad w hx _ (by omega) _ 0 start rfl
end
end Go.Proofs.Ytelcbakleaaneaa
end
