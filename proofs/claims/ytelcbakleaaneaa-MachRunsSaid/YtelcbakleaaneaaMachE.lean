/- Machines run: the law MachRuns. -/
import Derived.Test.YtelcbakleaaneaaMachD
namespace Go.Proofs.Ytelcbakleaaneaa
open Go Go.Proofs.Ytelcbakleaaneaa.VM
set_option linter.unusedVariables false
set_option linter.unusedSimpArgs false

/-- The letters a machine says, and where it ends. -/
def runM (ins : List TPort) (rows : List TRow) : Nat → List (Option (List Int)) → List (List Int) × Nat
  | st, [] => ([], st)
  | st, x :: xs => (li (rowAt ins rows st (li x)).2.1 :: (runM ins rows (rowAt ins rows st (li x)).1.toNat xs).1, (runM ins rows (rowAt ins rows st (li x)).1.toNat xs).2)
def fitAll (ins : List TPort) (xs : List (Option (List Int))) : Bool := xs.all fun x => fitP ins (li x)
theorem runM_len (ins : List TPort) (rows : List TRow) : ∀ (xs : List (Option (List Int))) (st : Nat), (runM ins rows st xs).1.length = xs.length
  | [], _ => rfl
  | x :: xs, st => by simp [runM, runM_len ins rows xs]
/-- What a run answers. -/
def runR (c : Int) (ins : List TPort) (rows : List TRow) (start : Int) (xs : List (Option (List Int))) : Option (List (List Int)) × Int × Int :=
  if c ≠ 0 then (none, 0, c) else if 4096 < (xs.length : Int) then (none, 0, 26) else if fitAll ins xs then (some (runM ins rows start.toNat xs).1, (runM ins rows start.toNat xs).2, 0) else (none, 0, 27)
def runF (r : Option (List (List Int)) × Int × Int) : FV := .tup [sl LL r.1, .int .i64 r.2.1, .int .i64 r.2.2]

section
variable {nm : Str} {sts : Option (List Str)} {start : Int} {ins outs : Option (List TPort)} {rows : Option (List TRow)} {oi : Option (List (Option (List Int)))}
theorem runM_ok (h : OkM (li sts) start (li ins) (li outs) (li rows)) : ∀ (xs : List (Option (List Int))) (st : Nat), st < (li sts).length → fitAll (li ins) xs = true → ∀ x ∈ (runM (li ins) (li rows) st xs).1, x.length ≤ 8
  | [], _, _, _ => by simp [runM]
  | x :: xs, st, hst, hf => by
    simp only [fitAll, List.all_cons, Bool.and_eq_true] at hf
    obtain ⟨r1, r2, r3⟩ := rowAt_ok h hst hf.1
    intro y hy
    simp only [runM, List.mem_cons] at hy
    rcases hy with rfl | hy
    · exact r3
    · exact runM_ok h xs _ (by omega) hf.2 y hy
theorem ref_run_L0 (h : OkM (li sts) start (li ins) (li outs) (li rows)) (hx : (li oi).length ≤ 4096) : ∀ (t : List (Option (List Int))) (i st : Nat) (acc : List (List Int)), (li oi).drop i = t → st < (li sts).length → acc.length = i →
    ref02_Run.L0 (sl SI oi) (.int .i64 (st : Int)) (.int .i64 (i : Int)) (.str nm) (sl S sts) (.int .i64 start) (sl P ins) (sl P outs) (sl RW rows) (acc.map LL) =
      if fitAll (li ins) t then some (.tup [.arr ((acc ++ (runM (li ins) (li rows) st t).1).map LL), .int .i64 ((runM (li ins) (li rows) st t).2 : Int), .int .i64 0]) else some (.tup [.nilS, .int .i64 0, .int .i64 27]) := by
  intro t
  have hi := h.i8
  induction t with
  | nil =>
    intro i st acc hd hst hacc
    rw [ref02_Run.L0_eq]
    simp only [fLen_sl, bindO_s, fBin_lss, fCond_b, decide_eq_true_eq, Int.ofNat_lt, drop_nil hd, if_false, runM, List.append_nil, fitAll, List.all_nil, if_true]
  | cons x t ih =>
    intro i st acc hd hst hacc
    obtain ⟨hk, hn, hs⟩ := drop_cons hd
    have e : IntKind.i64.wrap ((i : Int) + 1) = ((i + 1 : Nat) : Int) := wrap64 (by omega) (by omega)
    rw [ref02_Run.L0_eq]
    simp only [fLen_sl, bindO_s, fBin_lss, fCond_b, decide_eq_true_eq, Int.ofNat_lt, hk, if_true, idx_sl hn (SI_len x), SI_zero, right_ok (show (li ins).length < 1000000000000000 by omega), fUn_not, Bool.not_eq_true', fitAll, List.all_cons]
    by_cases g : fitP (li ins) (li x) = true
    · obtain ⟨r1, r2, r3⟩ := rowAt_ok h hst g
      have est : (rowAt (li ins) (li rows) st (li x)).1 = (((rowAt (li ins) (li rows) st (li x)).1.toNat : Nat) : Int) := by omega
      have ih' := ih (i + 1) (rowAt (li ins) (li rows) st (li x)).1.toNat (acc ++ [li (rowAt (li ins) (li rows) st (li x)).2.1]) hs (by omega) (by simp [hacc])
      rw [← est] at ih'
      simp only [g, if_false, reduceCtorEq, one_ok h hst g, bindO_s, fIsAgg_agg, List.length_cons, List.length_nil, fCell_zero, fCell_succ, asRows_sl, rowsSz_I, gB_t, List.length_map, show (0 + (li (rowAt (li ins) (li rows) st (li x)).2.1).length) * 8 ≤ room by unfold room; omega, show (acc.length + 1) * 24 ≤ room by unfold room; omega, decide_true, List.nil_append, fBin_add, e, Bool.true_and, runM]
      rw [show (0 + 1 + 1 == 2) = true from rfl, gB_t]
      rw [show acc.map LL ++ [[FV.arr ((li (rowAt (li ins) (li rows) st (li x)).2.1).map I)]] = (acc ++ [li (rowAt (li ins) (li rows) st (li x)).2.1]).map LL by simp [LL]]
      rw [ih']
      simp only [fitAll, List.append_assoc, List.singleton_append]
    · simp [g]
theorem ref_run_ok (w : SmM (nm, sts, start, ins, outs, rows, ())) :
    ref02_Run (.agg [.str nm, sl S sts, .int .i64 start, sl P ins, sl P outs, sl RW rows]) (sl SI oi) = some (runF (runR (checkG nm (li sts) start (li ins) (li outs) (li rows)) (li ins) (li rows) start (li oi))) := by
  have hc := ref_check_ok w
  simp only [MC, checkP] at hc
  rw [ref02_Run.eq]
  simp only [fIsAgg_agg, List.length_cons, List.length_nil, fCell_zero, fCell_succ, hc, bindO_s, fBin_neq, fCond_b, decide_eq_true_eq, fLen_sl, fBin_gtr, runR]
  rw [show (0 + 1 + 1 + 1 + 1 + 1 + 1 == 6) = true from rfl, gB_t]
  by_cases g1 : checkG nm (li sts) start (li ins) (li outs) (li rows) ≠ 0
  · simp only [g1, if_true, ne_eq, not_false_eq_true]; rfl
  simp only [g1, if_false]
  by_cases g2 : 4096 < ((li oi).length : Int)
  · simp only [g2, if_true]; rfl
  simp only [g2, if_false]
  have hok := okM (Decidable.not_not.1 g1)
  obtain ⟨s1, s2⟩ := hok.st
  have := ref_run_L0 (nm := nm) hok (by omega) (li oi) 0 start.toNat [] rfl (by omega) rfl
  rw [show ((start.toNat : Nat) : Int) = start by omega] at this
  refine this.trans ?_
  by_cases g3 : fitAll (li ins) (li oi) = true
  · simp only [g3, if_true]; rfl
  · simp only [g3, if_false]; rfl

theorem mach_run_L1 (h : OkM (li sts) start (li ins) (li outs) (li rows)) (hx : (li oi).length ≤ 4096) : ∀ (t : List (Option (List Int))) (i st : Nat) (acc : List (List Int)), (li oi).drop i = t → st < (li sts).length → acc.length = i → fitAll (li ins) t = true →
    mach_Run.L1 (.int .i64 (st : Int)) (.int .i64 (prodL (li ins) : Int)) (sl SI oi) (.int .i64 ((li oi).length : Int)) (.int .i64 (i : Int)) (.str nm) (sl S sts) (.int .i64 start) (sl P ins) (sl P outs) (sl RW rows) (acc.map LL) =
      some (.tup [.arr ((acc ++ (runM (li ins) (li rows) st t).1).map LL), .int .i64 ((runM (li ins) (li rows) st t).2 : Int), .int .i64 0]) := by
  intro t
  have hi := h.i8
  induction t with
  | nil =>
    intro i st acc hd hst hacc hf
    rw [mach_Run.L1_eq]
    simp only [fLen_sl, bindO_s, fBin_lss, fCond_b, decide_eq_true_eq, Int.ofNat_lt, drop_nil hd, if_false, runM, List.append_nil]
  | cons x t ih =>
    intro i st acc hd hst hacc hf
    obtain ⟨hk, hn, hs⟩ := drop_cons hd
    have e : IntKind.i64.wrap ((i : Int) + 1) = ((i + 1 : Nat) : Int) := wrap64 (by omega) (by omega)
    simp only [fitAll, List.all_cons, Bool.and_eq_true] at hf
    obtain ⟨g, hf⟩ := hf
    obtain ⟨r1, r2, r3⟩ := rowAt_ok h hst g
    obtain ⟨k1, k2, k3, k4⟩ := rowAt_get h hst g
    have e1 : IntKind.i64.wrap ((st : Int) * ((prodL (li ins) : Nat) : Int)) = ((st * prodL (li ins) : Nat) : Int) := by rw [← Int.natCast_mul, wrap64 (by omega) (by omega)]
    have e2 : IntKind.i64.wrap (((st * prodL (li ins) : Nat) : Int) + ((numGo (li ins) (li x) 0 : Nat) : Int)) = ((st * prodL (li ins) + numGo (li ins) (li x) 0 : Nat) : Int) := by rw [wrap64 (by omega) (by omega)]; omega
    have est : (rowAt (li ins) (li rows) st (li x)).1 = (((rowAt (li ins) (li rows) st (li x)).1.toNat : Nat) : Int) := by omega
    have ih' := ih (i + 1) (rowAt (li ins) (li rows) st (li x)).1.toNat (acc ++ [li (rowAt (li ins) (li rows) st (li x)).2.1]) hs (by omega) (by simp [hacc]) hf
    rw [← est] at ih'
    rw [mach_Run.L1_eq]
    simp only [fLen_sl, bindO_s, fBin_lss, fCond_b, decide_eq_true_eq, Int.ofNat_lt, hk, if_true, idx_sl hn (SI_len x), SI_zero, fBin_mul, e1, number_ok (show (li ins).length < 1000000000000000 by omega) h.lens k4 g, fBin_add, e2, idx_sl k1 (RW_len _), RW_zero, RW_one, clone_int r3, arrRows_arr, gB_t, List.length_map, show (acc.length + 1) * 24 ≤ room by unfold room; omega, decide_true, e, runM]
    rw [show acc.map LL ++ [[FV.arr ((li (rowAt (li ins) (li rows) st (li x)).2.1).map I)]] = (acc ++ [li (rowAt (li ins) (li rows) st (li x)).2.1]).map LL by simp [LL]]
    rw [ih']
    simp only [List.append_assoc, List.singleton_append]
theorem mach_run_L0 (h : OkM (li sts) start (li ins) (li outs) (li rows)) (hx : (li oi).length ≤ 4096) : ∀ (t : List (Option (List Int))) (i : Nat), (li oi).drop i = t →
    mach_Run.L0 (sl SI oi) (sl SI oi) (.int .i64 ((li oi).length : Int)) (.int .i64 (i : Int)) (.str nm) (sl S sts) (.int .i64 start) (sl P ins) (sl P outs) (sl RW rows) =
      if fitAll (li ins) t then mach_Run.L1 (.int .i64 start) (.int .i64 (prodL (li ins) : Int)) (sl SI oi) (.int .i64 ((li oi).length : Int)) (.int .i64 0) (.str nm) (sl S sts) (.int .i64 start) (sl P ins) (sl P outs) (sl RW rows) [] else some (.tup [.nilS, .int .i64 0, .int .i64 27]) := by
  intro t
  have hi := h.i8
  have h3 := h.small
  have h5 : 1 * prodL (li ins) ≤ (li sts).length * prodL (li ins) := Nat.mul_le_mul_right _ h.n1.1
  have hcap : capP (prodL (li ins)) = prodL (li ins) := by unfold capP; rw [if_neg (by omega)]
  induction t with
  | nil =>
    intro i hd
    rw [mach_Run.L0_eq]
    simp only [fLen_sl, bindO_s, fBin_lss, fCond_b, decide_eq_true_eq, Int.ofNat_lt, drop_nil hd, if_false, fitAll, List.all_nil, if_true, mach_product_ok (show (li ins).length < 1000000000000000 by omega) h.lens, hcap]
  | cons x t ih =>
    intro i hd
    obtain ⟨hk, hn, hs⟩ := drop_cons hd
    have e : IntKind.i64.wrap ((i : Int) + 1) = ((i + 1 : Nat) : Int) := wrap64 (by omega) (by omega)
    rw [mach_Run.L0_eq]
    simp only [fLen_sl, bindO_s, fBin_lss, fCond_b, decide_eq_true_eq, Int.ofNat_lt, hk, if_true, idx_sl hn (SI_len x), SI_zero, fit_ok (show (li ins).length < 1000000000000000 by omega), fUn_not, Bool.not_eq_true', fBin_add, e, ih (i + 1) hs, fitAll, List.all_cons]
    by_cases g : fitP (li ins) (li x) = true
    · simp only [g, if_false, reduceCtorEq, Bool.true_and]; rfl
    · simp [g]
theorem mach_run_ok (w : SmM (nm, sts, start, ins, outs, rows, ())) :
    mach_Run (.agg [.str nm, sl S sts, .int .i64 start, sl P ins, sl P outs, sl RW rows]) (sl SI oi) = some (runF (runR (checkG nm (li sts) start (li ins) (li outs) (li rows)) (li ins) (li rows) start (li oi))) := by
  have hc := mach_check_ok w
  simp only [MC, checkP] at hc
  rw [mach_Run.eq]
  simp only [fIsAgg_agg, List.length_cons, List.length_nil, fCell_zero, fCell_succ, hc, bindO_s, fBin_neq, fCond_b, decide_eq_true_eq, fLen_sl, fBin_gtr, runR]
  rw [show (0 + 1 + 1 + 1 + 1 + 1 + 1 == 6) = true from rfl, gB_t]
  by_cases g1 : checkG nm (li sts) start (li ins) (li outs) (li rows) ≠ 0
  · simp only [g1, if_true, ne_eq, not_false_eq_true]; rfl
  simp only [g1, if_false]
  by_cases g2 : 4096 < ((li oi).length : Int)
  · simp only [g2, if_true]; rfl
  simp only [g2, if_false]
  have hok := okM (Decidable.not_not.1 g1)
  obtain ⟨s1, s2⟩ := hok.st
  have h0 := mach_run_L0 (nm := nm) hok (show (li oi).length ≤ 4096 by omega) (li oi) 0 rfl
  refine h0.trans ?_
  by_cases g3 : fitAll (li ins) (li oi) = true
  · have h1 := mach_run_L1 (nm := nm) hok (by omega) (li oi) 0 start.toNat [] rfl (by omega) rfl g3
    rw [show ((start.toNat : Nat) : Int) = start by omega] at h1
    simp only [g3, if_true]
    refine h1.trans ?_
    rfl
  · simp only [g3, if_false]; rfl

/-! ### The law -/
theorem stepR_small {c : Int} (hc : c = 0 → OkM (li sts) start (li ins) (li outs) (li rows)) (st : Int) (v : List Int) : (li (stepR c (li sts).length (li ins) (li rows) st v).2.1).length ≤ 8 := by
  unfold stepR
  by_cases g1 : c ≠ 0
  · rw [if_pos g1]; simp
  rw [if_neg g1]
  by_cases g2 : st < 0
  · rw [if_pos g2]; simp
  rw [if_neg g2]
  by_cases g3 : ((li sts).length : Int) ≤ st
  · rw [if_pos g3]; simp
  rw [if_neg g3]
  by_cases g4 : fitP (li ins) v = false
  · rw [if_pos g4]; simp
  rw [if_neg g4]
  exact (rowAt_ok (hc (Decidable.not_not.1 g1)) (st := st.toNat) (by omega) (by simpa using g4)).2.2
theorem law_L2 (w : SmM (nm, sts, start, ins, outs, rows, ())) (x1 x2 : FV) (st : Int) {i : Nat} {x : Option (List Int)} (hi : (li oi)[i]? = some x) {r : Int × Option (List Int) × Int} (hr : r = stepR (checkG nm (li sts) start (li ins) (li outs) (li rows)) (li sts).length (li ins) (li rows) st (li x)) :
    law02_MachRuns.L2 (sl SI oi) x1 x2 (.int .i64 st) (.int .i64 (i : Int)) (.str nm) (sl S sts) (.int .i64 start) (sl P ins) (sl P outs) (sl RW rows) =
      law02_MachRuns.L3 (sl SI oi) x1 x2 (.int .i64 (i : Int)) (.int .i64 r.1) (sl I r.2.1) (.int .i64 r.2.2) (.str nm) (sl S sts) (.int .i64 start) (sl P ins) (sl P outs) (sl RW rows) := by
  have h8 := stepR_small (sts := sts) (start := start) (ins := ins) (outs := outs) (rows := rows) (c := checkG nm (li sts) start (li ins) (li outs) (li rows)) (fun h => okM h) st (li x)
  rw [← hr] at h8
  rw [law02_MachRuns.L2_eq]
  simp only [idx_sl hi (SI_len x), SI_zero, bindO_s, ref_step_ok w, mach_step_ok w, ← hr, stepF, fIsTup_tup, List.length_cons, List.length_nil, fTup_zero, fTup_succ, fBin_neq, ne_eq, not_true_eq_false, decide_false, fCond_b, Bool.false_eq_true, if_false, SameInts_sl (show (li r.2.1).length < 1000000000000000 by omega), fUn_not, Bool.not_true]
  rfl
theorem law_L1_bad (w : SmM (nm, sts, start, ins, outs, rows, ())) (hx : (li oi).length < 1000000000000000) (x1 : FV) {c : Int} (hc : c ≠ 0) : ∀ (t : List (Option (List Int))) (i : Nat) (st : Int), (li oi).drop i = t →
    law02_MachRuns.L1 (sl SI oi) x1 (.int .i64 c) (.int .i64 st) (.int .i64 (i : Int)) (.str nm) (sl S sts) (.int .i64 start) (sl P ins) (sl P outs) (sl RW rows) = some (.bool true) := by
  intro t
  induction t with
  | nil =>
    intro i st hd
    rw [law02_MachRuns.L1_eq]
    simp only [fLen_sl, bindO_s, fBin_lss, fCond_b, decide_eq_true_eq, Int.ofNat_lt, drop_nil hd, if_false]
  | cons x t ih =>
    intro i st hd
    obtain ⟨hk, hn, hs⟩ := drop_cons hd
    have e : IntKind.i64.wrap ((i : Int) + 1) = ((i + 1 : Nat) : Int) := wrap64 (by omega) (by omega)
    rw [law02_MachRuns.L1_eq]
    simp only [fLen_sl, bindO_s, fBin_lss, fCond_b, decide_eq_true_eq, Int.ofNat_lt, hk, if_true]
    split
    · rw [law_L2 w x1 _ st hn rfl, law02_MachRuns.L3_eq]
      simp only [fBin_eql, hc, decide_false, bindO_s, fCond_b, Bool.false_eq_true, if_false, fBin_add, e]
      exact ih (i + 1) _ hs
    · rfl
theorem law_L1_good (w : SmM (nm, sts, start, ins, outs, rows, ())) (hc : checkG nm (li sts) start (li ins) (li outs) (li rows) = 0) (hx : (li oi).length ≤ 4096) (L : List (List Int)) : ∀ (t : List (Option (List Int))) (i st : Nat) (acc : List (List Int)), (li oi).drop i = t → st < (li sts).length → acc.length = i → fitAll (li ins) t = true → L = acc ++ (runM (li ins) (li rows) st t).1 →
    law02_MachRuns.L1 (sl SI oi) (.arr (L.map LL)) (.int .i64 0) (.int .i64 (st : Int)) (.int .i64 (i : Int)) (.str nm) (sl S sts) (.int .i64 start) (sl P ins) (sl P outs) (sl RW rows) = some (.bool true) := by
  intro t
  have h := okM hc
  induction t with
  | nil =>
    intro i st acc hd hst hacc hf hL
    rw [law02_MachRuns.L1_eq]
    simp only [fLen_sl, bindO_s, fBin_lss, fCond_b, decide_eq_true_eq, Int.ofNat_lt, drop_nil hd, if_false]
  | cons x t ih =>
    intro i st acc hd hst hacc hf hL
    obtain ⟨hk, hn, hs⟩ := drop_cons hd
    have e : IntKind.i64.wrap ((i : Int) + 1) = ((i + 1 : Nat) : Int) := wrap64 (by omega) (by omega)
    simp only [fitAll, List.all_cons, Bool.and_eq_true] at hf
    obtain ⟨g, hf⟩ := hf
    obtain ⟨r1, r2, r3⟩ := rowAt_ok h hst g
    have est : (rowAt (li ins) (li rows) st (li x)).1 = (((rowAt (li ins) (li rows) st (li x)).1.toNat : Nat) : Int) := by omega
    have hstep : stepR (checkG nm (li sts) start (li ins) (li outs) (li rows)) (li sts).length (li ins) (li rows) (st : Int) (li x) = ((rowAt (li ins) (li rows) st (li x)).1, some (li (rowAt (li ins) (li rows) st (li x)).2.1), 0) := by
      unfold stepR
      rw [hc, if_neg (by simp), if_neg (by omega), if_neg (by omega), if_neg (by simp [g]), Int.toNat_natCast]
    have hgL : L[i]? = some (li (rowAt (li ins) (li rows) st (li x)).2.1) := by
      rw [hL, List.getElem?_append_right (by omega), hacc]
      simp [runM]
    have hixL : fIdxC 1 (.arr (L.map LL)) (.int .i64 (i : Int)) = some (LL (li (rowAt (li ins) (li rows) st (li x)).2.1)) := idx_arr (by simp [hgL]) rfl
    have ih' := ih (i + 1) (rowAt (li ins) (li rows) st (li x)).1.toNat (acc ++ [li (rowAt (li ins) (li rows) st (li x)).2.1]) hs (by omega) (by simp [hacc]) hf (by rw [hL]; simp [runM])
    rw [← est] at ih'
    rw [law02_MachRuns.L1_eq]
    simp only [fLen_sl, bindO_s, fBin_lss, fCond_b, decide_eq_true_eq, Int.ofNat_lt, hk, if_true]
    split
    · rw [law_L2 w _ _ (st : Int) hn hstep.symm, law02_MachRuns.L3_eq]
      have hsame := SameInts_sl (o := some (li (rowAt (li ins) (li rows) st (li x)).2.1)) (show (li (rowAt (li ins) (li rows) st (li x)).2.1).length < 1000000000000000 by omega)
      simp only [fBin_eql, fBin_neq, ne_eq, not_true_eq_false, decide_true, decide_false, bindO_s, fCond_b, Bool.false_eq_true, if_true, if_false, hixL, LL_zero, fBin_add, e, ih']
      rw [show sl I (some (li (rowAt (li ins) (li rows) st (li x)).2.1)) = .arr ((li (rowAt (li ins) (li rows) st (li x)).2.1).map I) from rfl] at hsame ⊢
      rw [hsame]
      rfl
    · rfl
theorem law_ok (w : SmM (nm, sts, start, ins, outs, rows, ())) (hx : (li oi).length < 1000000000000000) : law02_MachRuns (.agg [.str nm, sl S sts, .int .i64 start, sl P ins, sl P outs, sl RW rows]) (sl SI oi) = some (.bool true) := by
  rw [law02_MachRuns.eq]
  simp only [fIsAgg_agg, List.length_cons, List.length_nil, fCell_zero, fCell_succ, ref_run_ok w, mach_run_ok w, bindO_s]
  rw [show (0 + 1 + 1 + 1 + 1 + 1 + 1 == 6) = true from rfl, gB_t]
  unfold runR
  by_cases g1 : checkG nm (li sts) start (li ins) (li outs) (li rows) ≠ 0
  · simp only [g1, if_true, ne_eq, not_false_eq_true, runF, fIsTup_tup, List.length_cons, List.length_nil, fTup_zero, fTup_succ, fBin_neq, bindO_s, not_true_eq_false, decide_false, fCond_b, Bool.false_eq_true, if_false, show sl LL none = .nilS from rfl, sameLists_nil, fUn_not, Bool.not_true]
    rw [law02_MachRuns.L0_eq]
    exact law_L1_bad w hx _ g1 _ 0 start rfl
  simp only [g1, if_false]
  by_cases g2 : 4096 < ((li oi).length : Int)
  · simp only [g2, if_true, runF, fIsTup_tup, List.length_cons, List.length_nil, fTup_zero, fTup_succ, fBin_neq, bindO_s, ne_eq, not_true_eq_false, decide_false, fCond_b, Bool.false_eq_true, if_false, show sl LL none = .nilS from rfl, sameLists_nil, fUn_not, Bool.not_true]
    rw [law02_MachRuns.L0_eq]
    exact law_L1_bad w hx _ (by omega) _ 0 start rfl
  simp only [g2, if_false]
  have h := okM (Decidable.not_not.1 g1)
  obtain ⟨s1, s2⟩ := h.st
  by_cases g3 : fitAll (li ins) (li oi) = true
  · have hl := runM_len (li ins) (li rows) (li oi) start.toNat
    have h8 := runM_ok h (li oi) start.toNat (by omega) g3
    have hsame := sameLists_ok (l := (runM (li ins) (li rows) start.toNat (li oi)).1) (by omega) (fun x hx => by have := h8 x hx; omega)
    simp only [g3, if_true, runF, fIsTup_tup, List.length_cons, List.length_nil, fTup_zero, fTup_succ, fBin_neq, bindO_s, ne_eq, not_true_eq_false, decide_false, fCond_b, Bool.false_eq_true, if_false, sl_some, hsame, fUn_not, Bool.not_true]
    rw [law02_MachRuns.L0_eq]
    have := law_L1_good w (Decidable.not_not.1 g1) (by omega) _ (li oi) 0 start.toNat [] rfl (by omega) rfl g3 rfl
    rw [show ((start.toNat : Nat) : Int) = start by omega] at this
    exact this
  · simp only [g3, if_false, runF, fIsTup_tup, List.length_cons, List.length_nil, fTup_zero, fTup_succ, fBin_neq, bindO_s, ne_eq, not_true_eq_false, decide_false, fCond_b, Bool.false_eq_true, show sl LL none = .nilS from rfl, sameLists_nil, fUn_not, Bool.not_true]
    rw [law02_MachRuns.L0_eq]
    exact law_L1_bad w hx _ (by omega) _ 0 start rfl
end
end Go.Proofs.Ytelcbakleaaneaa
