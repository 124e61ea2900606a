/- Machines: ports, rows, the question Check. -/
import Derived.Test.YtelcbakleaaneaaMachA
namespace Go.Proofs.Ytelcbakleaaneaa
open Go Go.Proofs.Ytelcbakleaaneaa.VM
set_option linter.unusedVariables false
set_option linter.unusedSimpArgs false

abbrev TPort := Str × Option (List Str) × Unit
def P (p : TPort) : List FV := [.str p.1, sl S p.2.1]
abbrev TRow := Int × Option (List Int) × Unit
def RW (r : TRow) : List FV := [.int .i64 r.1, sl I r.2.1]
abbrev TMach := Str × Option (List Str) × Int × Option (List TPort) × Option (List TPort) × Option (List TRow) × Unit
def MC (m : TMach) : List FV := [.str m.1, sl S m.2.1, .int .i64 m.2.2.1, sl P m.2.2.2.1, sl P m.2.2.2.2.1, sl RW m.2.2.2.2.2.1]
@[simp] theorem P_len (p : TPort) : (P p).length = 2 := rfl
@[simp] theorem P_zero (p : TPort) : (P p)[0]? = some (.str p.1) := rfl
@[simp] theorem P_one (p : TPort) : (P p)[1]? = some (sl S p.2.1) := rfl
@[simp] theorem RW_len (r : TRow) : (RW r).length = 2 := rfl
@[simp] theorem RW_zero (r : TRow) : (RW r)[0]? = some (.int .i64 r.1) := rfl
@[simp] theorem RW_one (r : TRow) : (RW r)[1]? = some (sl I r.2.1) := rfl
def SmP (p : TPort) : Prop := p.1.length < 1000000000000000 ∧ Sms (li p.2.1)

/-! ### Values that fit ports -/
def fitGo : List TPort → List Int → Bool
  | p :: ps, v :: vs => decide (0 ≤ v) && decide (v < ((li p.2.1).length : Int)) && fitGo ps vs
  | _, _ => true
def fitP (ps : List TPort) (vs : List Int) : Bool := decide (ps.length = vs.length) && fitGo ps vs

theorem right_L0 {o : Option (List TPort)} {v : Option (List Int)} (hl : (li o).length = (li v).length) (hs : (li o).length < 1000000000000000) : ∀ (ps : List TPort) (vs : List Int) (k : Nat), (li o).drop k = ps → (li v).drop k = vs →
    ref02_right.L0 (sl P o) (sl I v) (.int .i64 (k : Int)) = some (.bool (fitGo ps vs)) := by
  intro ps
  induction ps with
  | nil =>
    intro vs k hd hv
    rw [ref02_right.L0_eq]
    simp only [fLen_sl, bindO_s, fBin_lss, fCond_b, decide_eq_true_eq, Int.ofNat_lt, drop_nil hd, if_false]
    rfl
  | cons p ps ih =>
    intro vs k hd hv
    obtain ⟨hk, hn, hs'⟩ := drop_cons hd
    cases vs with
    | nil => have := drop_nil hv; omega
    | cons n vs =>
      obtain ⟨_, hn2, hv'⟩ := drop_cons hv
      have e : IntKind.i64.wrap ((k : Int) + 1) = ((k + 1 : Nat) : Int) := wrap64 (by omega) (by omega)
      rw [ref02_right.L0_eq]
      simp only [fLen_sl, bindO_s, fBin_lss, fCond_b, decide_eq_true_eq, Int.ofNat_lt, hk, if_true, idx_sl hn2 (I_len n), I_zero, idx_sl hn (P_len p), P_one, fBin_geq, fBin_add, e, ih vs (k + 1) hs' hv', fitGo]
      by_cases g1 : n < 0
      · simp only [g1, if_true, show ¬ (0 ≤ n) by omega, decide_false, Bool.false_and]
      · by_cases g2 : ((li p.2.1).length : Int) ≤ n
        · simp only [g1, g2, if_true, if_false, show ¬ (n < ((li p.2.1).length : Int)) by omega, decide_false, Bool.and_false, Bool.false_and]
        · simp only [g1, g2, if_false, show (0 ≤ n) by omega, show (n < ((li p.2.1).length : Int)) by omega, decide_true, Bool.true_and]
theorem right_ok {o : Option (List TPort)} {v : Option (List Int)} (h1 : (li o).length < 1000000000000000) : ref02_right (sl P o) (sl I v) = some (.bool (fitP (li o) (li v))) := by
  rw [ref02_right.eq]
  simp only [fLen_sl, bindO_s, fBin_neq, fCond_b, fitP, decide_eq_true_eq]
  by_cases g : (li o).length = (li v).length
  · rw [if_neg (by omega)]
    rw [show (FV.int IntKind.i64 0) = .int .i64 ((0 : Nat) : Int) from rfl, right_L0 g h1 _ _ 0 rfl rfl]
    simp [g]
  · rw [if_pos (by omega)]
    simp [g]
theorem fit_L0 {o : Option (List TPort)} {v : Option (List Int)} (hl : (li o).length = (li v).length) (hs : (li o).length < 1000000000000000) : ∀ (ps : List TPort) (vs : List Int) (k : Nat), (li o).drop k = ps → (li v).drop k = vs →
    mach_fit.L0 (sl P o) (sl I v) (.int .i64 ((li v).length : Int)) (.int .i64 (k : Int)) = some (.bool (fitGo ps vs)) := by
  intro ps
  induction ps with
  | nil =>
    intro vs k hd hv
    rw [mach_fit.L0_eq]
    simp only [fLen_sl, bindO_s, fBin_lss, fCond_b, decide_eq_true_eq, Int.ofNat_lt, hl ▸ drop_nil hd, if_false]
    rfl
  | cons p ps ih =>
    intro vs k hd hv
    obtain ⟨hk, hn, hs'⟩ := drop_cons hd
    cases vs with
    | nil => have := drop_nil hv; omega
    | cons n vs =>
      obtain ⟨hk2, hn2, hv'⟩ := drop_cons hv
      have e : IntKind.i64.wrap ((k : Int) + 1) = ((k + 1 : Nat) : Int) := wrap64 (by omega) (by omega)
      rw [mach_fit.L0_eq]
      simp only [fLen_sl, bindO_s, fBin_lss, fCond_b, decide_eq_true_eq, Int.ofNat_lt, hk2, if_true, idx_sl hn2 (I_len n), I_zero, idx_sl hn (P_len p), P_one, fBin_geq, fBin_add, e, ih vs (k + 1) hs' hv', fitGo]
      by_cases g1 : n < 0
      · simp only [g1, if_true, show ¬ (0 ≤ n) by omega, decide_false, Bool.false_and]
      · by_cases g2 : ((li p.2.1).length : Int) ≤ n
        · simp only [g1, g2, if_true, if_false, show ¬ (n < ((li p.2.1).length : Int)) by omega, decide_false, Bool.and_false, Bool.false_and]
        · simp only [g1, g2, if_false, show (0 ≤ n) by omega, show (n < ((li p.2.1).length : Int)) by omega, decide_true, Bool.true_and]
theorem fit_ok {o : Option (List TPort)} {v : Option (List Int)} (h1 : (li o).length < 1000000000000000) : mach_fit (sl P o) (sl I v) = some (.bool (fitP (li o) (li v))) := by
  rw [mach_fit.eq]
  simp only [fLen_sl, bindO_s, fBin_neq, fCond_b, fitP, decide_eq_true_eq]
  by_cases g : (li o).length = (li v).length
  · rw [if_neg (by omega)]
    rw [show (FV.int IntKind.i64 0) = .int .i64 ((0 : Nat) : Int) from rfl, fit_L0 g h1 _ _ 0 rfl rfl]
    simp [g]
  · rw [if_pos (by omega)]
    simp [g]

/-! ### How many ways -/
def prodL : List TPort → Nat
  | [] => 1
  | p :: ps => (li p.2.1).length * prodL ps
def Lens (ps : List TPort) : Prop := ∀ p ∈ ps, 1 ≤ (li p.2.1).length ∧ (li p.2.1).length ≤ 64
theorem prodL_pos : ∀ (ps : List TPort), Lens ps → 1 ≤ prodL ps
  | [], _ => Nat.le_refl _
  | p :: ps, h => Nat.mul_le_mul (h p (by simp)).1 (prodL_pos ps fun q hq => h q (by simp [hq]))

theorem ref_product_L0 {o : Option (List TPort)} (hs : (li o).length < 1000000000000000) : ∀ (t : List TPort) (k a : Nat), (li o).drop k = t → Lens t → a ≤ 2097152 →
    ref02_product.L0 (sl P o) (.int .i64 (a : Int)) (.int .i64 (k : Int)) = some (.int .i64 ((min (a * prodL t) 2097152 : Nat) : Int)) := by
  intro t
  induction t with
  | nil =>
    intro k a hd hL ha
    rw [ref02_product.L0_eq]
    simp only [fLen_sl, bindO_s, fBin_lss, fCond_b, decide_eq_true_eq, Int.ofNat_lt, drop_nil hd, if_false, prodL, Nat.mul_one, Nat.min_eq_left ha]
  | cons p t ih =>
    intro k a hd hL ha
    obtain ⟨hk, hn, hs'⟩ := drop_cons hd
    obtain ⟨l1, l2⟩ := hL p (by simp)
    have e : IntKind.i64.wrap ((k : Int) + 1) = ((k + 1 : Nat) : Int) := wrap64 (by omega) (by omega)
    have hb : a * (li p.2.1).length ≤ 2097152 * 64 := Nat.mul_le_mul ha l2
    have e2 : IntKind.i64.wrap ((a : Int) * ((li p.2.1).length : Int)) = ((a * (li p.2.1).length : Nat) : Int) := wrap64 (by omega) (by omega)
    have e3 : min (((a * (li p.2.1).length : Nat) : Int)) 2097152 = ((min (a * (li p.2.1).length) 2097152 : Nat) : Int) := by omega
    rw [ref02_product.L0_eq]
    simp only [fLen_sl, bindO_s, fBin_lss, fCond_b, decide_eq_true_eq, Int.ofNat_lt, hk, if_true, idx_sl hn (P_len p), P_one, fBin_mul, e2, fMin_int, e3, fBin_add, e]
    rw [ih (k + 1) _ hs' (fun q hq => hL q (by simp [hq])) (by omega)]
    have hp := prodL_pos t (fun q hq => hL q (by simp [hq]))
    simp only [prodL]
    congr 3
    rw [← Nat.mul_assoc]
    generalize a * (li p.2.1).length = c
    rcases Nat.le_total c 2097152 with g | g
    · rw [Nat.min_eq_left g]
    · rw [Nat.min_eq_right g]
      have h1 : 2097152 * 1 ≤ 2097152 * prodL t := Nat.mul_le_mul_left _ hp
      have h2 : 2097152 * prodL t ≤ c * prodL t := Nat.mul_le_mul_right _ g
      omega
theorem ref_product_ok {o : Option (List TPort)} (hs : (li o).length < 1000000000000000) (hL : Lens (li o)) : ref02_product (sl P o) = some (.int .i64 ((min (prodL (li o)) 2097152 : Nat) : Int)) := by
  rw [ref02_product.eq]
  have := ref_product_L0 hs _ 0 1 rfl hL (by omega)
  simpa using this
/-- The program's own bound. -/
def capP (n : Nat) : Nat := if 1099511627776 < n then 1099511627776 else n
theorem mach_product_L0 {o : Option (List TPort)} (hs : (li o).length < 1000000000000000) : ∀ (t : List TPort) (k a : Nat), (li o).drop k = t → Lens t → a ≤ 1099511627776 →
    mach_product.L0 (.int .i64 (a : Int)) (sl P o) (.int .i64 ((li o).length : Int)) (.int .i64 (k : Int)) = some (.int .i64 (capP (a * prodL t) : Int)) := by
  intro t
  induction t with
  | nil =>
    intro k a hd hL ha
    rw [mach_product.L0_eq]
    simp only [fLen_sl, bindO_s, fBin_lss, fCond_b, decide_eq_true_eq, Int.ofNat_lt, drop_nil hd, if_false, prodL, Nat.mul_one, capP, show ¬ (1099511627776 < a) by omega]
  | cons p t ih =>
    intro k a hd hL ha
    obtain ⟨hk, hn, hs'⟩ := drop_cons hd
    obtain ⟨l1, l2⟩ := hL p (by simp)
    have e : IntKind.i64.wrap ((k : Int) + 1) = ((k + 1 : Nat) : Int) := wrap64 (by omega) (by omega)
    have hb : a * (li p.2.1).length ≤ 1099511627776 * 64 := Nat.mul_le_mul ha l2
    have e2 : IntKind.i64.wrap ((a : Int) * ((li p.2.1).length : Int)) = ((a * (li p.2.1).length : Nat) : Int) := wrap64 (by omega) (by omega)
    have hp := prodL_pos t (fun q hq => hL q (by simp [hq]))
    have h2 : a * (li p.2.1).length * 1 ≤ a * (li p.2.1).length * prodL t := Nat.mul_le_mul_left _ hp
    rw [mach_product.L0_eq]
    simp only [fLen_sl, bindO_s, fBin_lss, fCond_b, decide_eq_true_eq, Int.ofNat_lt, hk, if_true, idx_sl hn (P_len p), P_zero, P_one, fBin_mul, e2, fBin_gtr, fBin_add, e, prodL, ← Nat.mul_assoc]
    by_cases g : (1099511627776 : Int) < ((a * (li p.2.1).length : Nat) : Int)
    · rw [if_pos g]
      simp only [capP]
      rw [if_pos (by omega)]
      rfl
    · rw [if_neg g]
      exact ih (k + 1) _ hs' (fun q hq => hL q (by simp [hq])) (by omega)
theorem mach_product_ok {o : Option (List TPort)} (hs : (li o).length < 1000000000000000) (hL : Lens (li o)) : mach_product (sl P o) = some (.int .i64 (capP (prodL (li o)) : Int)) := by
  rw [mach_product.eq]
  have := mach_product_L0 hs _ 0 1 rfl hL (by omega)
  simpa using this

/-! ### Ports -/
/-- 21, 22, 26 or what their values' names give; 0. -/
def portsGo : List Str → List TPort → Int
  | _, [] => 0
  | m, p :: l => if isNm p.1 = false then 21 else if p.1 ∈ m then 22 else if ((li p.2.1).length : Int) = 0 then 26 else if 64 < ((li p.2.1).length : Int) then 26 else
      if namesGo [] (li p.2.1) ≠ 0 then namesGo [] (li p.2.1) else portsGo (m ++ [p.1]) l
theorem portsGo_lens : ∀ (l : List TPort) (m : List Str), portsGo m l = 0 → Lens l
  | [], _, _ => fun p hp => by cases hp
  | p :: l, m, h => by
    simp only [portsGo] at h
    repeat' split at h
    all_goals first | (exfalso; omega) | skip
    rename_i h1 h2 h3 h4 h5
    intro q hq
    rcases List.mem_cons.1 hq with rfl | hq
    · exact ⟨by omega, by omega⟩
    · exact portsGo_lens l _ h q hq
def rowOk (n : Nat) (outs : List TPort) (r : TRow) : Bool := decide (0 ≤ r.1) && decide (r.1 < (n : Int)) && fitP outs (li r.2.1)

theorem portAt_ok {l : List TPort} (hl : l.length < 1000000000000000) (s : Str) : ∃ m : Int, ref02_portAt (.arr (l.map P)) (.str s) = some (.int .i64 m) ∧ (0 ≤ m ↔ s ∈ l.map Prod.fst) := by
  obtain ⟨m, h1, h2⟩ := find_L (e := P) (nm := Prod.fst) P_len P_zero (s := s) (f := ref02_portAt.L0 (.arr (l.map P)) (.str s)) hl (fun i => ref02_portAt.L0_eq _ _ _) l 0 rfl
  exact ⟨m, by rw [ref02_portAt.eq]; exact h1, h2⟩

theorem ref_ports {l : List TPort} (hl : l.length < 1000000000000000) (hsm : ∀ p ∈ l, SmP p) (x2 x3 x4 x5 x6 x7 : FV) (r8 : List (List FV)) : ∀ (t : List TPort) (k : Nat), l.drop k = t → k ≤ l.length →
    ref02_Check.L2 (.arr (l.map P)) (.int .i64 (k : Int)) x2 x3 x4 x5 x6 x7 r8 = if portsGo ((l.take k).map Prod.fst) t ≠ 0 then some (.int .i64 (portsGo ((l.take k).map Prod.fst) t)) else ref02_Check.L2 (.arr (l.map P)) (.int .i64 (l.length : Int)) x2 x3 x4 x5 x6 x7 r8 := by
  intro t
  induction t with
  | nil =>
    intro k hd hkl
    obtain rfl : k = l.length := by have := drop_nil hd; omega
    simp only [portsGo, ne_eq, not_true, if_false]
  | cons p t ih =>
    intro k hd hkl
    obtain ⟨hk, hn, hs⟩ := drop_cons hd
    have e1 : IntKind.i64.wrap ((k : Int) + 1) = ((k + 1 : Nat) : Int) := wrap64 (by omega) (by omega)
    obtain ⟨s1, s2⟩ := hsm p (List.mem_of_getElem? hn)
    obtain ⟨m, h1, h2⟩ := portAt_ok (l := l.take k) (by simp; omega) p.1
    have htk : (l.take (k + 1)).map Prod.fst = (l.take k).map Prod.fst ++ [p.1] := by rw [List.take_add_one, hn]; simp
    have hix : fIdxC 2 (.arr (l.map P)) (.int .i64 (k : Int)) = some (P p) := idx_arr (by simp [hn]) (P_len p)
    have hcut : fCut 2 (.arr (l.map P)) none (some (.int .i64 (k : Int))) = some (.arr ((l.take k).map P)) := by
      rw [fCut_take (rowsSz_map P_len _) (by simp; omega), List.map_take]
    have hL3 : ref02_Check.L3 (.arr (l.map P)) (.int .i64 (k : Int)) x2 x3 x4 x5 x6 x7 r8 = if namesGo [] (li p.2.1) ≠ 0 then some (.int .i64 (namesGo [] (li p.2.1))) else ref02_Check.L2 (.arr (l.map P)) (.int .i64 ((k + 1 : Nat) : Int)) x2 x3 x4 x5 x6 x7 r8 := by
      rw [ref02_Check.L3_eq]
      simp only [hix, bindO_s, P_one, ref_names_ok s2, fBin_neq, fCond_b, decide_eq_true_eq, fBin_add, e1]
    rw [ref02_Check.L2_eq]
    simp only [fLen_arr, List.length_map, bindO_s, fCond_b, fBin_lss, decide_eq_true_eq, Int.ofNat_lt, hk, if_true, hix, P_zero, P_one, ref_isName_ok s1, fUn_not, hcut, h1, fBin_geq, h2, fLen_sl, fBin_eql, fBin_gtr, hL3, portsGo, Bool.not_eq_true']
    have ih' := ih (k + 1) hs (by omega)
    rw [htk] at ih'
    rw [ih']
    by_cases g : isNm p.1 = false
    · simp [g]
    · simp only [g, if_true, if_false, reduceCtorEq, ne_eq, not_true, not_false_eq_true]
      by_cases g2 : p.1 ∈ (l.take k).map Prod.fst
      · simp only [g2, if_true, if_false, reduceCtorEq, ne_eq, not_true, not_false_eq_true]; rfl
      · simp only [g2, if_true, if_false, reduceCtorEq, ne_eq, not_true, not_false_eq_true]
        by_cases g3 : ((li p.2.1).length : Int) = 0
        · simp only [g3, if_true, if_false, reduceCtorEq, ne_eq, not_true, not_false_eq_true]; rfl
        · simp only [g3, if_true, if_false, reduceCtorEq, ne_eq, not_true, not_false_eq_true]
          by_cases g4 : 64 < ((li p.2.1).length : Int)
          · simp only [g4, if_true, if_false, reduceCtorEq, ne_eq, not_true, not_false_eq_true]; rfl
          · simp only [g4, if_true, if_false, reduceCtorEq, ne_eq, not_true, not_false_eq_true]
            by_cases g5 : namesGo [] (li p.2.1) ≠ 0
            · simp only [g5, if_true, if_false, reduceCtorEq, ne_eq, not_true, not_false_eq_true]
            · simp only [g5, if_true, if_false, reduceCtorEq, ne_eq, not_true, not_false_eq_true]
theorem mach_ports {l : List TPort} (hl : l.length < 1000000000000000) (hsm : ∀ p ∈ l, SmP p) (x3 x4 x5 x6 x7 x8 : FV) (r10 : List (List FV)) : ∀ (t : List TPort) (k : Nat) (m : List Str), l.drop k = t →
    mach_checkPorts.L1 (.arr (l.map P)) (.int .i64 (l.length : Int)) (.int .i64 (k : Int)) x3 x4 x5 x6 x7 x8 (setM FV.str m) r10 = some (.int .i64 (portsGo m t)) := by
  intro t
  induction t with
  | nil =>
    intro k m hd
    rw [mach_checkPorts.L1_eq]
    simp only [portsGo, bindO_s, fCond_b, fBin_lss, decide_eq_true_eq, Int.ofNat_lt, drop_nil hd, if_false]
  | cons p t ih =>
    intro k m hd
    obtain ⟨hk, hn, hs⟩ := drop_cons hd
    have e1 : IntKind.i64.wrap ((k : Int) + 1) = ((k + 1 : Nat) : Int) := wrap64 (by omega) (by omega)
    obtain ⟨s1, s2⟩ := hsm p (List.mem_of_getElem? hn)
    have hix : fIdxC 2 (.arr (l.map P)) (.int .i64 (k : Int)) = some (P p) := idx_arr (by simp [hn]) (P_len p)
    rw [mach_checkPorts.L1_eq]
    simp only [bindO_s, fCond_b, fBin_lss, decide_eq_true_eq, Int.ofNat_lt, hk, if_true, hix, P_zero, P_one, mach_isName_ok s1, fUn_not, mLook_set str_keyEq str_keyOk, fLen_sl, fBin_eql, fBin_gtr, mach_checkPorts.L3_eq, mach_checkPorts.L2_eq, str_keyOk, gB_t, mach_names_ok s2, fBin_neq, fBin_add, e1, portsGo, Bool.not_eq_true']
    by_cases g : isNm p.1 = false
    · simp only [g, if_true, if_false, reduceCtorEq, ne_eq, not_true, not_false_eq_true]
    · simp only [g, if_true, if_false, reduceCtorEq, ne_eq, not_true, not_false_eq_true]
      by_cases g2 : p.1 ∈ m
      · simp only [g2, if_true, if_false, reduceCtorEq, ne_eq, not_true, not_false_eq_true]
      · simp only [g2, if_false, reduceCtorEq, mPut_set str_keyEq p.1 m g2, bindO_s, ih (k + 1) _ hs]
        by_cases g3 : ((li p.2.1).length : Int) = 0
        · simp only [g3, if_true, if_false, reduceCtorEq, ne_eq, not_true, not_false_eq_true]
        · simp only [g3, if_true, if_false, reduceCtorEq, ne_eq, not_true, not_false_eq_true]
          by_cases g4 : 64 < ((li p.2.1).length : Int)
          · simp only [g4, if_true, if_false, reduceCtorEq, ne_eq, not_true, not_false_eq_true]
          · simp only [g4, if_true, if_false, reduceCtorEq, ne_eq, not_true, not_false_eq_true]
            by_cases g5 : namesGo [] (li p.2.1) ≠ 0
            · simp only [g5, if_true, if_false, reduceCtorEq, ne_eq, not_true, not_false_eq_true]
            · simp only [g5, if_true, if_false, reduceCtorEq, ne_eq, not_true, not_false_eq_true]
end Go.Proofs.Ytelcbakleaaneaa
