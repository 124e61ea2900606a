/- Machines: the question Check, in both programs. -/
import Derived.Test.YtelcbakleaaneaaMachB
namespace Go.Proofs.Ytelcbakleaaneaa
open Go Go.Proofs.Ytelcbakleaaneaa.VM
set_option linter.unusedVariables false
set_option linter.unusedSimpArgs false

def rowsOk (n : Nat) (outs : List TPort) (rs : List TRow) : Bool := rs.all (rowOk n outs)
/-- What both programs' Check say. -/
def checkG (nm : Str) (sts : List Str) (start : Int) (ins outs : List TPort) (rows : List TRow) : Int :=
  if isNm nm = false then 21
  else if (sts.length : Int) = 0 then 26
  else if 256 < (sts.length : Int) then 26
  else if namesGo [] sts ≠ 0 then namesGo [] sts
  else if 8 < (ins.length : Int) then 26
  else if 8 < (outs.length : Int) then 26
  else if portsGo [] (ins ++ outs) ≠ 0 then portsGo [] (ins ++ outs)
  else if start < 0 then 27
  else if (sts.length : Int) ≤ start then 27
  else if 4096 < sts.length * prodL ins then 26
  else if rows.length ≠ sts.length * prodL ins then 23
  else if rowsOk sts.length outs rows then 0 else 27
def checkP (m : TMach) : Int := checkG m.1 (li m.2.1) m.2.2.1 (li m.2.2.2.1) (li m.2.2.2.2.1) (li m.2.2.2.2.2.1)
structure SmM (m : TMach) : Prop where
  nm : m.1.length < 1000000000000000
  sts : Sms (li m.2.1)
  ins : (li m.2.2.2.1).length < 1000000000000000 ∧ ∀ p ∈ li m.2.2.2.1, SmP p
  outs : (li m.2.2.2.2.1).length < 1000000000000000 ∧ ∀ p ∈ li m.2.2.2.2.1, SmP p
  rows : (li m.2.2.2.2.2.1).length < 1000000000000000 ∧ ∀ r ∈ li m.2.2.2.2.2.1, (li r.2.1).length < 1000000000000000

theorem ref_rows {oo : Option (List TPort)} {os : Option (List Str)} {o : Option (List TRow)} (h1 : (li oo).length < 1000000000000000) (hl : (li o).length < 1000000000000000) (x1 x3 x4 : FV) (r7 : List (List FV)) : ∀ (t : List TRow) (k : Nat), (li o).drop k = t →
    ref02_Check.L5 (.int .i64 (k : Int)) x1 (sl S os) x3 x4 (sl P oo) (sl RW o) r7 = some (.int .i64 (if rowsOk (li os).length (li oo) t then 0 else 27)) := by
  intro t
  induction t with
  | nil =>
    intro k hd
    rw [ref02_Check.L5_eq]
    simp only [fLen_sl, bindO_s, fBin_lss, fCond_b, decide_eq_true_eq, Int.ofNat_lt, drop_nil hd, if_false]
    rfl
  | cons r t ih =>
    intro k hd
    obtain ⟨hk, hn, hs⟩ := drop_cons hd
    have e : IntKind.i64.wrap ((k : Int) + 1) = ((k + 1 : Nat) : Int) := wrap64 (by omega) (by omega)
    rw [ref02_Check.L5_eq]
    simp only [fLen_sl, bindO_s, fBin_lss, fCond_b, decide_eq_true_eq, Int.ofNat_lt, hk, if_true, idx_sl hn (RW_len r), RW_zero, RW_one, fBin_geq, right_ok h1, fUn_not, fBin_add, e, ih (k + 1) hs, Bool.not_eq_true', rowsOk, List.all_cons, rowOk]
    by_cases g1 : r.1 < 0
    · simp [g1, show ¬ (0 ≤ r.1) by omega]
    · by_cases g2 : ((li os).length : Int) ≤ r.1
      · simp [g1, g2, show ¬ (r.1 < ((li os).length : Int)) by omega]
      · by_cases g3 : fitP (li oo) (li r.2.1) = true
        · simp only [g1, g2, g3, if_false, reduceCtorEq, show (0 ≤ r.1) by omega, show (r.1 < ((li os).length : Int)) by omega, decide_true, Bool.true_and]; rfl
        · simp [g1, g2, g3]
theorem mach_rows {oo : Option (List TPort)} {os : Option (List Str)} {o : Option (List TRow)} (h1 : (li oo).length < 1000000000000000) (hl : (li o).length < 1000000000000000) (x3 x5 x6 x8 : FV) : ∀ (t : List TRow) (k : Nat), (li o).drop k = t →
    mach_Check.L2 (sl RW o) (.int .i64 ((li o).length : Int)) (.int .i64 (k : Int)) x3 (sl S os) x5 x6 (sl P oo) x8 = some (.int .i64 (if rowsOk (li os).length (li oo) t then 0 else 27)) := by
  intro t
  induction t with
  | nil =>
    intro k hd
    rw [mach_Check.L2_eq]
    simp only [fLen_sl, bindO_s, fBin_lss, fCond_b, decide_eq_true_eq, Int.ofNat_lt, drop_nil hd, if_false]
    rfl
  | cons r t ih =>
    intro k hd
    obtain ⟨hk, hn, hs⟩ := drop_cons hd
    have e : IntKind.i64.wrap ((k : Int) + 1) = ((k + 1 : Nat) : Int) := wrap64 (by omega) (by omega)
    rw [mach_Check.L2_eq]
    simp only [fLen_sl, bindO_s, fBin_lss, fCond_b, decide_eq_true_eq, Int.ofNat_lt, hk, if_true, idx_sl hn (RW_len r), RW_zero, RW_one, fBin_geq, fit_ok h1, fUn_not, fBin_add, e, ih (k + 1) hs, Bool.not_eq_true', rowsOk, List.all_cons, rowOk]
    by_cases g1 : r.1 < 0
    · simp [g1, show ¬ (0 ≤ r.1) by omega]
    · by_cases g2 : ((li os).length : Int) ≤ r.1
      · simp [g1, g2, show ¬ (r.1 < ((li os).length : Int)) by omega]
      · by_cases g3 : fitP (li oo) (li r.2.1) = true
        · simp only [g1, g2, g3, if_false, reduceCtorEq, show (0 ≤ r.1) by omega, show (r.1 < ((li os).length : Int)) by omega, decide_true, Bool.true_and]; rfl
        · simp [g1, g2, g3]

theorem concat_L1 {a b : Option (List TPort)} (ha : (li a).length ≤ 8) (hb : (li b).length ≤ 8) : slices_Concat_api_Port.L1 (.arr [[sl P a], [sl P b]]) (.int .i64 2) (.int .i64 0) [] = some (.arr ((li a ++ li b).map P)) := by
  have r1 : ([] : List (List FV)).length + ((li a).map P).length ≤ 16 := by simp; omega
  rw [slices_Concat_api_Port.L1_eq]
  simp only [bindO_s, fBin_lss, fCond_b, show decide ((0 : Int) < 2) = true from rfl, if_true, show fIdxC 1 (.arr [[sl P a], [sl P b]]) (.int .i64 0) = some [sl P a] from rfl, List.getElem?_cons_zero, asRows_sl, rowsSz_map P_len, gB_t, show (([] : List (List FV)).length + ((li a).map P).length) * 40 ≤ room by unfold room; omega, decide_true, fBin_add, show IntKind.i64.wrap (0 + 1) = 1 from rfl, List.nil_append]
  rw [slices_Concat_api_Port.L1_eq]
  simp only [bindO_s, fBin_lss, fCond_b, show decide ((1 : Int) < 2) = true from rfl, if_true, show fIdxC 1 (.arr [[sl P a], [sl P b]]) (.int .i64 1) = some [sl P b] from rfl, List.getElem?_cons_zero, asRows_sl, rowsSz_map P_len, gB_t, List.length_map, show ((li a).length + (li b).length) * 40 ≤ room by unfold room; omega, decide_true, fBin_add, show IntKind.i64.wrap (1 + 1) = 2 from rfl]
  rw [slices_Concat_api_Port.L1_eq]
  simp only [bindO_s, fBin_lss, fCond_b, Int.lt_irrefl, decide_false, Bool.false_eq_true, if_false, List.map_append]
theorem concat_ok {a b : Option (List TPort)} (ha : (li a).length ≤ 8) (hb : (li b).length ≤ 8) : slices_Concat_api_Port (.arr [[sl P a], [sl P b]]) = some (.arr ((li a ++ li b).map P)) := by
  have e1 : IntKind.i64.wrap (0 + ((li a).length : Int)) = ((li a).length : Int) := by rw [wrap64 (by omega) (by omega)]; omega
  have e2 : IntKind.i64.wrap (((li a).length : Int) + ((li b).length : Int)) = (((li a).length + (li b).length : Nat) : Int) := by rw [wrap64 (by omega) (by omega)]; omega
  rw [slices_Concat_api_Port.eq]
  simp only [fLen_arr, bindO_s, show ((([[sl P a], [sl P b]] : List (List FV)).length : Nat) : Int) = 2 from rfl]
  rw [slices_Concat_api_Port.L0_eq]
  simp only [bindO_s, fBin_lss, fCond_b, show decide ((0 : Int) < 2) = true from rfl, if_true, show fIdxC 1 (.arr [[sl P a], [sl P b]]) (.int .i64 0) = some [sl P a] from rfl, List.getElem?_cons_zero, fLen_sl, fBin_add, e1, show decide (((li a).length : Int) < 0) = false by simp, Bool.false_eq_true, if_false, show IntKind.i64.wrap (0 + 1) = 1 from rfl]
  rw [slices_Concat_api_Port.L0_eq]
  simp only [bindO_s, fBin_lss, fCond_b, show decide ((1 : Int) < 2) = true from rfl, if_true, show fIdxC 1 (.arr [[sl P a], [sl P b]]) (.int .i64 1) = some [sl P b] from rfl, List.getElem?_cons_zero, fLen_sl, fBin_add, e2, show decide ((((li a).length + (li b).length : Nat) : Int) < 0) = false by simp; omega, Bool.false_eq_true, if_false, show IntKind.i64.wrap (1 + 1) = 2 from rfl]
  rw [slices_Concat_api_Port.L0_eq]
  simp only [bindO_s, fBin_lss, fCond_b, Int.lt_irrefl, decide_false, show decide ((((li a).length + (li b).length : Nat) : Int) < 0) = false by simp; omega, Bool.false_eq_true, if_false, fCap, fLen_nil, fBin_sub, show IntKind.i64.wrap (0 - 0) = 0 from rfl, fBin_gtr, fLen_arr, show ((([[sl P a], [sl P b]] : List (List FV)).length : Nat) : Int) = 2 from rfl, concat_L1 ha hb]
  have e3 : IntKind.i64.wrap ((((li a).length + (li b).length : Nat) : Int) - 0) = (((li a).length + (li b).length : Nat) : Int) := by rw [wrap64 (by omega) (by omega)]; omega
  simp only [e3]
  split
  · simp only [fCut, cut?, asNat, bindO_s, onNil, show (0 : Int) ≤ 0 from by decide, if_true, Int.toNat_zero, Nat.le_refl, and_self, asNat_nat, Nat.zero_le, List.take_zero, List.drop_nil, concat_L1 ha hb]
    rw [if_pos (by omega)]
    simp only [bindO_s, Int.toNat_natCast, show ((li a).length + (li b).length) * 40 ≤ room by unfold room; omega, decide_true, gB_t]
  · rfl
theorem mach_checkPorts_ok {m : TMach} (h : SmM m) : mach_checkPorts (.agg (MC m)) = some (.int .i64 (if 8 < ((li m.2.2.2.1).length : Int) then 26 else if 8 < ((li m.2.2.2.2.1).length : Int) then 26 else portsGo [] (li m.2.2.2.1 ++ li m.2.2.2.2.1))) := by
  obtain ⟨nm, sts, start, ins, outs, rows, ⟨⟩⟩ := m
  obtain ⟨hn, hst, hi, ho, hr⟩ := h
  dsimp only at *
  have hal : (li ins ++ li outs).length < 1000000000000000 → True := fun _ => trivial
  rw [mach_checkPorts.eq]
  simp only [MC, fIsAgg_agg, List.length_cons, List.length_nil, fCell_zero, fCell_succ, fLen_sl, bindO_s, fBin_gtr, fCond_b, decide_eq_true_eq]
  rw [show (0 + 1 + 1 + 1 + 1 + 1 + 1 == 6) = true from rfl, gB_t]
  by_cases g1 : 8 < ((li ins).length : Int)
  · simp only [g1, if_true]
  · by_cases g2 : 8 < ((li outs).length : Int)
    · simp only [g1, g2, if_true, if_false]
    · simp only [g1, g2, if_false]
      rw [mach_checkPorts.L0_eq, concat_ok (by omega) (by omega)]
      simp only [bindO_s, fLen_arr, List.length_map]
      exact mach_ports (l := li ins ++ li outs) (by simp; omega) (fun p hp => (List.mem_append.1 hp).elim (hi.2 p) (ho.2 p)) _ _ _ _ _ _ _ _ 0 [] rfl
theorem capP_mul {n p : Nat} (hn : 1 ≤ n ∧ n ≤ 256) (hp : 1 ≤ p) : (4096 < n * capP p ↔ 4096 < n * p) ∧ (¬ 4096 < n * p → capP p = p) ∧ (4096 < n * min p 2097152 ↔ 4096 < n * p) ∧ (¬ 4096 < n * p → min p 2097152 = p) ∧ n * capP p ≤ 281474976710656 ∧ n * min p 2097152 ≤ 281474976710656 := by
  have h1 : 1 * p ≤ n * p := Nat.mul_le_mul_right _ hn.1
  have h2 : 1 * capP p ≤ n * capP p := Nat.mul_le_mul_right _ hn.1
  have h3 : 1 * min p 2097152 ≤ n * min p 2097152 := Nat.mul_le_mul_right _ hn.1
  have h4 : n * capP p ≤ 256 * 1099511627776 := Nat.mul_le_mul hn.2 (by unfold capP; split <;> omega)
  have h5 : n * min p 2097152 ≤ 256 * 2097152 := Nat.mul_le_mul hn.2 (by omega)
  have h6 : capP p = p ∨ (1099511627776 < p ∧ capP p = 1099511627776) := by unfold capP; split <;> omega
  have h7 : min p 2097152 = p ∨ (2097152 < p ∧ min p 2097152 = 2097152) := by omega
  refine ⟨?_, ?_, ?_, ?_, by omega, by omega⟩
  · rcases h6 with h6 | ⟨h6, h6'⟩
    · rw [h6]
    · rw [h6'] at h2 ⊢; omega
  · intro g; rcases h6 with h6 | ⟨h6, h6'⟩ <;> omega
  · rcases h7 with h7 | ⟨h7, h7'⟩
    · rw [h7]
    · rw [h7'] at h3 ⊢; omega
  · intro g; omega
theorem lens_ins {ins outs : List TPort} (h : portsGo [] (ins ++ outs) = 0) : Lens ins := fun p hp => portsGo_lens _ _ h p (by simp [hp])
theorem mach_check_ok {m : TMach} (h : SmM m) : mach_Check (.agg (MC m)) = some (.int .i64 (checkP m)) := by
  have hcp := mach_checkPorts_ok h
  obtain ⟨nm, sts, start, ins, outs, rows, ⟨⟩⟩ := m
  obtain ⟨hn, hst, hi, ho, hr⟩ := h
  dsimp only at *
  simp only [MC] at hcp
  rw [mach_Check.eq]
  simp only [MC, fIsAgg_agg, List.length_cons, List.length_nil, fCell_zero, fCell_succ, fLen_sl, bindO_s, mach_isName_ok hn, fUn_not, fBin_eql, fBin_gtr, fCond_b, decide_eq_true_eq, Bool.not_eq_true', checkP, checkG]
  rw [show (0 + 1 + 1 + 1 + 1 + 1 + 1 == 6) = true from rfl, gB_t]
  by_cases g1 : isNm nm = false
  · simp only [g1, if_true]
  simp only [g1, if_false, reduceCtorEq]
  by_cases g2 : ((li sts).length : Int) = 0
  · simp only [g2, if_true]
  simp only [g2, if_false]
  by_cases g3 : 256 < ((li sts).length : Int)
  · simp only [g3, if_true]
  simp only [g3, if_false]
  rw [mach_Check.L0_eq]
  simp only [mach_names_ok hst, bindO_s, fBin_neq, fCond_b, decide_eq_true_eq, hcp, fBin_lss, fLen_sl, fBin_geq]
  by_cases g4 : namesGo [] (li sts) ≠ 0
  · simp only [g4, if_true, ne_eq, not_false_eq_true]
  simp only [g4, if_false]
  by_cases g5 : 8 < ((li ins).length : Int)
  · simp only [g5, if_true]; rfl
  simp only [g5, if_false]
  by_cases g6 : 8 < ((li outs).length : Int)
  · simp only [g6, if_true]; rfl
  simp only [g6, if_false]
  by_cases g7 : portsGo [] (li ins ++ li outs) ≠ 0
  · simp only [g7, if_true, ne_eq, not_false_eq_true]
  simp only [g7, if_false]
  by_cases g8 : start < 0
  · simp only [g8, if_true]
  simp only [g8, if_false]
  by_cases g9 : ((li sts).length : Int) ≤ start
  · simp only [g9, if_true]
  simp only [g9, if_false]
  have hL := lens_ins (Decidable.not_not.1 g7)
  obtain ⟨c1, c2, _, _, c5, _⟩ := capP_mul (n := (li sts).length) (p := prodL (li ins)) ⟨by omega, by omega⟩ (prodL_pos _ hL)
  have e : IntKind.i64.wrap (((li sts).length : Int) * (capP (prodL (li ins)) : Int)) = (((li sts).length * capP (prodL (li ins)) : Nat) : Int) := by rw [wrap64 (by omega) (by omega)]; omega
  rw [mach_Check.L1_eq]
  simp only [fLen_sl, bindO_s, mach_product_ok hi.1 hL, fBin_mul, e, fBin_gtr, fCond_b, decide_eq_true_eq, fBin_neq]
  by_cases g10 : 4096 < (li sts).length * prodL (li ins)
  · rw [if_pos (by have := c1.2 g10; omega), if_pos g10]
  rw [if_neg (by have := fun g => g10 (c1.1 g); omega), if_neg g10, c2 g10]
  by_cases g11 : (li rows).length ≠ (li sts).length * prodL (li ins)
  · rw [if_pos (by omega), if_pos g11]
  rw [if_neg (by omega), if_neg g11]
  exact mach_rows ho.1 hr.1 _ _ _ _ _ 0 rfl
theorem ref_check_ok {m : TMach} (h : SmM m) : ref02_Check (.agg (MC m)) = some (.int .i64 (checkP m)) := by
  obtain ⟨nm, sts, start, ins, outs, rows, ⟨⟩⟩ := m
  obtain ⟨hn, hst, hi, ho, hr⟩ := h
  dsimp only at *
  rw [ref02_Check.eq]
  simp only [MC, fIsAgg_agg, List.length_cons, List.length_nil, fCell_zero, fCell_succ, fLen_sl, bindO_s, ref_isName_ok hn, fUn_not, fBin_eql, fBin_gtr, fCond_b, decide_eq_true_eq, Bool.not_eq_true', checkP, checkG]
  rw [show (0 + 1 + 1 + 1 + 1 + 1 + 1 == 6) = true from rfl, gB_t]
  by_cases g1 : isNm nm = false
  · simp only [g1, if_true]
  simp only [g1, if_false, reduceCtorEq]
  by_cases g2 : ((li sts).length : Int) = 0
  · simp only [g2, if_true]
  simp only [g2, if_false]
  by_cases g3 : 256 < ((li sts).length : Int)
  · simp only [g3, if_true]
  simp only [g3, if_false]
  rw [ref02_Check.L0_eq]
  simp only [ref_names_ok hst, bindO_s, fBin_neq, fCond_b, decide_eq_true_eq, fBin_gtr, fLen_sl]
  by_cases g4 : namesGo [] (li sts) ≠ 0
  · simp only [g4, if_true, ne_eq, not_false_eq_true]
  simp only [g4, if_false]
  by_cases g5 : 8 < ((li ins).length : Int)
  · simp only [g5, if_true]
  simp only [g5, if_false]
  by_cases g6 : 8 < ((li outs).length : Int)
  · simp only [g6, if_true]
  simp only [g6, if_false]
  rw [ref02_Check.L1_eq]
  simp only [asRows_sl, bindO_s, rowsSz_map P_len, gB_t, List.nil_append, List.length_map, show (0 + (li ins).length) * 40 ≤ room by unfold room; omega, show ((li ins).length + (li outs).length) * 40 ≤ room by unfold room; omega, decide_true]
  rw [← List.map_append, show (FV.int IntKind.i64 0) = .int .i64 ((0 : Nat) : Int) from rfl]
  rw [ref_ports (by simp; omega) (fun p hp => (List.mem_append.1 hp).elim (hi.2 p) (ho.2 p)) _ _ _ _ _ _ _ (li ins ++ li outs) 0 rfl (by omega)]
  simp only [List.take_zero, List.map_nil]
  by_cases g7 : portsGo [] (li ins ++ li outs) ≠ 0
  · simp only [g7, if_true, ne_eq, not_false_eq_true]
  simp only [g7, if_false]
  rw [ref02_Check.L2_eq]
  simp only [fLen_arr, List.length_map, bindO_s, fBin_lss, fCond_b, Int.lt_irrefl, decide_false, Bool.false_eq_true, if_false, decide_eq_true_eq, fLen_sl, fBin_geq]
  by_cases g8 : start < 0
  · simp only [g8, if_true]
  simp only [g8, if_false]
  by_cases g9 : ((li sts).length : Int) ≤ start
  · simp only [g9, if_true]
  simp only [g9, if_false]
  have hL := lens_ins (Decidable.not_not.1 g7)
  obtain ⟨_, _, c1, c2, _, c5⟩ := capP_mul (n := (li sts).length) (p := prodL (li ins)) ⟨by omega, by omega⟩ (prodL_pos _ hL)
  have e : IntKind.i64.wrap (((li sts).length : Int) * ((min (prodL (li ins)) 2097152 : Nat) : Int)) = (((li sts).length * min (prodL (li ins)) 2097152 : Nat) : Int) := by rw [← Int.natCast_mul, wrap64 (by omega) (by omega)]
  rw [ref02_Check.L4_eq]
  simp only [fLen_sl, bindO_s, ref_product_ok hi.1 hL, fBin_mul, e, fBin_gtr, fCond_b, decide_eq_true_eq, fBin_neq]
  by_cases g10 : 4096 < (li sts).length * prodL (li ins)
  · rw [if_pos (by have := c1.2 g10; omega), if_pos g10]
  rw [if_neg (by have := fun g => g10 (c1.1 g); omega), if_neg g10, c2 g10]
  by_cases g11 : (li rows).length ≠ (li sts).length * prodL (li ins)
  · rw [if_pos (by omega), if_pos g11]
  rw [if_neg (by omega), if_neg g11]
  exact ref_rows ho.1 hr.1 _ _ _ _ _ 0 rfl
end Go.Proofs.Ytelcbakleaaneaa
