/- Machines run: both programs' runs and steps. -/
import Derived.Test.YtelcbakleaaneaaMachC
namespace Go.Proofs.Ytelcbakleaaneaa
open Go Go.Proofs.Ytelcbakleaaneaa.VM
set_option linter.unusedVariables false
set_option linter.unusedSimpArgs false

/-- A row of one list; of one list that may be nil. -/
def LL (l : List Int) : List FV := [.arr (l.map I)]
def SI (o : Option (List Int)) : List FV := [sl I o]
@[simp] theorem LL_len (o : List Int) : (LL o).length = 1 := rfl
@[simp] theorem LL_zero (o : List Int) : (LL o)[0]? = some (.arr (o.map I)) := rfl
@[simp] theorem SI_len (o : Option (List Int)) : (SI o).length = 1 := rfl
@[simp] theorem SI_zero (o : Option (List Int)) : (SI o)[0]? = some (sl I o) := rfl

/-! ### The same lists -/
theorem sameInts_L0 {l : List Int} (hl : l.length < 1000000000000000) : ∀ (s : List Int) (k : Nat), l.drop k = s → ref02_sameInts.L0 (.arr (l.map I)) (.arr (l.map I)) (.int .i64 (k : Int)) = some (.bool true) := by
  intro s
  induction s with
  | nil =>
    intro k hd
    rw [ref02_sameInts.L0_eq]
    simp [drop_nil hd]
  | cons n s ih =>
    intro k hd
    obtain ⟨hk, hn, hs⟩ := drop_cons hd
    have e : IntKind.i64.wrap ((k : Int) + 1) = ((k + 1 : Nat) : Int) := wrap64 (by omega) (by omega)
    rw [ref02_sameInts.L0_eq]
    have hi : fIdxC 1 (.arr (l.map I)) (.int .i64 (k : Int)) = some (I n) := idx_arr (by simp [hn]) rfl
    simp only [fLen_arr, List.length_map, bindO_s, fBin_lss, fCond_b, decide_eq_true_eq, Int.ofNat_lt, hk, if_true, hi, I_zero, fBin_neq, ne_eq, not_true_eq_false, if_false, fBin_add, e, ih (k + 1) hs]
theorem sameInts_ok {l : List Int} (hl : l.length < 1000000000000000) : ref02_sameInts (.arr (l.map I)) (.arr (l.map I)) = some (.bool true) := by
  rw [ref02_sameInts.eq]
  have := sameInts_L0 hl l 0 rfl
  simp only [fLen_arr, bindO_s, fBin_neq, ne_eq, not_true_eq_false, decide_false, fCond_b, Bool.false_eq_true, if_false]
  exact this
theorem sameInts_nil : ref02_sameInts .nilS .nilS = some (.bool true) := by
  rw [ref02_sameInts.eq]
  simp only [fLen_nil, bindO_s, fBin_neq, ne_eq, not_true_eq_false, decide_false, fCond_b, Bool.false_eq_true, if_false]
  rw [ref02_sameInts.L0_eq]
  simp
theorem SameInts_sl {o : Option (List Int)} (hl : (li o).length < 1000000000000000) : ref02_SameInts (sl I o) (sl I o) = some (.bool true) := by
  rw [ref02_SameInts.eq]
  cases o with
  | none => rw [show sl I none = .nilS from rfl, sameInts_nil]; rfl
  | some l => rw [sl_some, sameInts_ok (l := l) hl]; rfl
theorem sameLists_L0 {l : List (List Int)} (hl : l.length < 1000000000000000) (hx : ∀ x ∈ l, x.length < 1000000000000000) : ∀ (s : List (List Int)) (k : Nat), l.drop k = s → ref02_SameLists.L0 (.arr (l.map LL)) (.arr (l.map LL)) (.int .i64 (k : Int)) = some (.bool true) := by
  intro s
  induction s with
  | nil =>
    intro k hd
    rw [ref02_SameLists.L0_eq]
    simp [drop_nil hd]
  | cons x s ih =>
    intro k hd
    obtain ⟨hk, hn, hs⟩ := drop_cons hd
    have e : IntKind.i64.wrap ((k : Int) + 1) = ((k + 1 : Nat) : Int) := wrap64 (by omega) (by omega)
    rw [ref02_SameLists.L0_eq]
    have hi : fIdxC 1 (.arr (l.map LL)) (.int .i64 (k : Int)) = some (LL x) := idx_arr (by simp [hn]) rfl
    simp only [fLen_arr, List.length_map, bindO_s, fBin_lss, fCond_b, decide_eq_true_eq, Int.ofNat_lt, hk, if_true, hi, LL_zero, sameInts_ok (hx x (List.mem_of_getElem? hn)), fUn_not, Bool.not_true, Bool.false_eq_true, if_false, fBin_add, e, ih (k + 1) hs]
theorem sameLists_ok {l : List (List Int)} (hl : l.length < 1000000000000000) (hx : ∀ x ∈ l, x.length < 1000000000000000) : ref02_SameLists (.arr (l.map LL)) (.arr (l.map LL)) = some (.bool true) := by
  rw [ref02_SameLists.eq]
  have := sameLists_L0 hl hx l 0 rfl
  simp only [fLen_arr, bindO_s, fBin_neq, ne_eq, not_true_eq_false, decide_false, fCond_b, Bool.false_eq_true, if_false]
  exact this
theorem sameLists_nil : ref02_SameLists .nilS .nilS = some (.bool true) := by
  rw [ref02_SameLists.eq, ]
  simp only [fLen_nil, bindO_s, fBin_neq, ne_eq, not_true_eq_false, decide_false, fCond_b, Bool.false_eq_true, if_false]
  rw [ref02_SameLists.L0_eq]
  simp

/-! ### A machine that Check lets pass -/
structure OkM (sts : List Str) (start : Int) (ins outs : List TPort) (rows : List TRow) : Prop where
  n1 : 1 ≤ sts.length ∧ sts.length ≤ 256
  i8 : ins.length ≤ 8
  o8 : outs.length ≤ 8
  lens : Lens ins
  olens : Lens outs
  st : 0 ≤ start ∧ start < (sts.length : Int)
  small : sts.length * prodL ins ≤ 4096
  rlen : rows.length = sts.length * prodL ins
  rok : ∀ r ∈ rows, rowOk sts.length outs r = true
theorem okM {nm : Str} {sts : List Str} {start : Int} {ins outs : List TPort} {rows : List TRow} (h : checkG nm sts start ins outs rows = 0) : OkM sts start ins outs rows := by
  unfold checkG at h
  by_cases g1 : isNm nm = false
  · rw [if_pos g1] at h; omega
  rw [if_neg g1] at h
  by_cases g2 : (sts.length : Int) = 0
  · rw [if_pos g2] at h; omega
  rw [if_neg g2] at h
  by_cases g3 : 256 < (sts.length : Int)
  · rw [if_pos g3] at h; omega
  rw [if_neg g3] at h
  by_cases g4 : namesGo [] sts ≠ 0
  · rw [if_pos g4] at h; exact absurd h g4
  rw [if_neg g4] at h
  by_cases g5 : 8 < (ins.length : Int)
  · rw [if_pos g5] at h; omega
  rw [if_neg g5] at h
  by_cases g6 : 8 < (outs.length : Int)
  · rw [if_pos g6] at h; omega
  rw [if_neg g6] at h
  by_cases g7 : portsGo [] (ins ++ outs) ≠ 0
  · rw [if_pos g7] at h; exact absurd h g7
  rw [if_neg g7] at h
  by_cases g8 : start < 0
  · rw [if_pos g8] at h; omega
  rw [if_neg g8] at h
  by_cases g9 : (sts.length : Int) ≤ start
  · rw [if_pos g9] at h; omega
  rw [if_neg g9] at h
  by_cases g10 : 4096 < sts.length * prodL ins
  · rw [if_pos g10] at h; omega
  rw [if_neg g10] at h
  by_cases g11 : rows.length ≠ sts.length * prodL ins
  · rw [if_pos g11] at h; omega
  rw [if_neg g11] at h
  by_cases g12 : rowsOk sts.length outs rows = true
  · have hl := portsGo_lens _ _ (Decidable.not_not.1 g7)
    exact ⟨by omega, by omega, by omega, fun p hp => hl p (by simp [hp]), fun p hp => hl p (by simp [hp]), by omega, by omega, Decidable.not_not.1 g11, List.all_eq_true.1 g12⟩
  · rw [if_neg g12] at h; omega

/-! ### A letter's number -/
def numGo : List TPort → List Int → Nat → Nat
  | p :: ps, v :: vs, a => numGo ps vs (a * (li p.2.1).length + v.toNat)
  | _, _, a => a
theorem numGo_lt : ∀ (ps : List TPort) (vs : List Int) (a : Nat), ps.length = vs.length → fitGo ps vs = true → numGo ps vs a + 1 ≤ (a + 1) * prodL ps
  | [], [], a, _, _ => by simp [numGo, prodL]
  | p :: ps, v :: vs, a, hl, h => by
    simp only [fitGo, Bool.and_eq_true, decide_eq_true_eq] at h
    obtain ⟨⟨h1, h2⟩, h3⟩ := h
    have ih := numGo_lt ps vs (a * (li p.2.1).length + v.toNat) (by simpa using hl) h3
    have h4 : a * (li p.2.1).length + v.toNat + 1 ≤ (a + 1) * (li p.2.1).length := by rw [Nat.add_mul]; omega
    have h5 := Nat.mul_le_mul_right (prodL ps) h4
    simp only [numGo, prodL]
    rw [← Nat.mul_assoc]
    omega
  | [], _ :: _, _, hl, _ => by simp at hl
  | _ :: _, [], _, hl, _ => by simp at hl

theorem index_L0 {o : Option (List TPort)} {v : Option (List Int)} (hs : (li o).length < 1000000000000000) (hl : (li o).length = (li v).length) : ∀ (ps : List TPort) (vs : List Int) (k a : Nat), (li o).drop k = ps → (li v).drop k = vs → Lens ps → fitGo ps vs = true → (a + 1) * prodL ps ≤ 4096 →
    ref02_Index.L0 (sl P o) (sl I v) (.int .i64 (a : Int)) (.int .i64 (k : Int)) = some (.int .i64 (numGo ps vs a : Int)) := by
  intro ps
  induction ps with
  | nil =>
    intro vs k a hd hv hL hf ha
    rw [ref02_Index.L0_eq]
    simp only [fLen_sl, bindO_s, fBin_lss, fCond_b, decide_eq_true_eq, Int.ofNat_lt, drop_nil hd, if_false, numGo]
  | cons p ps ih =>
    intro vs k a hd hv hL hf ha
    obtain ⟨hk, hn, hs'⟩ := drop_cons hd
    cases vs with
    | nil => have := drop_nil hv; omega
    | cons n vs =>
      obtain ⟨_, hn2, hv'⟩ := drop_cons hv
      have e : IntKind.i64.wrap ((k : Int) + 1) = ((k + 1 : Nat) : Int) := wrap64 (by omega) (by omega)
      simp only [fitGo, Bool.and_eq_true, decide_eq_true_eq] at hf
      obtain ⟨⟨h1, h2⟩, h3⟩ := hf
      have hp := prodL_pos ps (fun q hq => hL q (by simp [hq]))
      simp only [prodL] at ha
      have h4 : a * (li p.2.1).length + n.toNat + 1 ≤ (a + 1) * (li p.2.1).length := by rw [Nat.add_mul]; omega
      have h5 := Nat.mul_le_mul_right (prodL ps) h4
      rw [← Nat.mul_assoc] at ha
      have h6 : (a + 1) * (li p.2.1).length * 1 ≤ (a + 1) * (li p.2.1).length * prodL ps := Nat.mul_le_mul_left _ hp
      have e2 : IntKind.i64.wrap ((a : Int) * ((li p.2.1).length : Int)) = ((a * (li p.2.1).length : Nat) : Int) := by rw [← Int.natCast_mul, wrap64 (by omega) (by omega)]
      have e3 : IntKind.i64.wrap (((a * (li p.2.1).length : Nat) : Int) + n) = ((a * (li p.2.1).length + n.toNat : Nat) : Int) := by rw [wrap64 (by omega) (by omega)]; omega
      rw [ref02_Index.L0_eq]
      simp only [fLen_sl, bindO_s, fBin_lss, fCond_b, decide_eq_true_eq, Int.ofNat_lt, hk, if_true, idx_sl hn2 (I_len n), I_zero, idx_sl hn (P_len p), P_one, fBin_mul, e2, fBin_add, e3, e, numGo]
      exact ih vs (k + 1) _ hs' hv' (fun q hq => hL q (by simp [hq])) h3 (by omega)
theorem index_ok {o : Option (List TPort)} {v : Option (List Int)} (hs : (li o).length < 1000000000000000) (hL : Lens (li o)) (hp : prodL (li o) ≤ 4096) (hf : fitP (li o) (li v) = true) : ref02_Index (sl P o) (sl I v) = some (.int .i64 (numGo (li o) (li v) 0 : Int)) := by
  simp only [fitP, Bool.and_eq_true, decide_eq_true_eq] at hf
  rw [ref02_Index.eq]
  exact index_L0 hs hf.1 _ _ 0 0 rfl rfl hL hf.2 (by omega)
theorem number_L0 {o : Option (List TPort)} {v : Option (List Int)} (hs : (li o).length < 1000000000000000) (hl : (li o).length = (li v).length) : ∀ (ps : List TPort) (vs : List Int) (k a : Nat), (li o).drop k = ps → (li v).drop k = vs → Lens ps → fitGo ps vs = true → (a + 1) * prodL ps ≤ 4096 →
    mach_number.L0 (sl P o) (.int .i64 (a : Int)) (sl I v) (.int .i64 ((li v).length : Int)) (.int .i64 (k : Int)) = some (.int .i64 (numGo ps vs a : Int)) := by
  intro ps
  induction ps with
  | nil =>
    intro vs k a hd hv hL hf ha
    rw [mach_number.L0_eq]
    simp only [fLen_sl, bindO_s, fBin_lss, fCond_b, decide_eq_true_eq, Int.ofNat_lt, hl ▸ drop_nil hd, if_false, numGo]
  | cons p ps ih =>
    intro vs k a hd hv hL hf ha
    obtain ⟨hk, hn, hs'⟩ := drop_cons hd
    cases vs with
    | nil => have := drop_nil hv; omega
    | cons n vs =>
      obtain ⟨hk2, hn2, hv'⟩ := drop_cons hv
      have e : IntKind.i64.wrap ((k : Int) + 1) = ((k + 1 : Nat) : Int) := wrap64 (by omega) (by omega)
      simp only [fitGo, Bool.and_eq_true, decide_eq_true_eq] at hf
      obtain ⟨⟨h1, h2⟩, h3⟩ := hf
      have hp := prodL_pos ps (fun q hq => hL q (by simp [hq]))
      simp only [prodL] at ha
      have h4 : a * (li p.2.1).length + n.toNat + 1 ≤ (a + 1) * (li p.2.1).length := by rw [Nat.add_mul]; omega
      have h5 := Nat.mul_le_mul_right (prodL ps) h4
      rw [← Nat.mul_assoc] at ha
      have h6 : (a + 1) * (li p.2.1).length * 1 ≤ (a + 1) * (li p.2.1).length * prodL ps := Nat.mul_le_mul_left _ hp
      have e2 : IntKind.i64.wrap ((a : Int) * ((li p.2.1).length : Int)) = ((a * (li p.2.1).length : Nat) : Int) := by rw [← Int.natCast_mul, wrap64 (by omega) (by omega)]
      have e3 : IntKind.i64.wrap (((a * (li p.2.1).length : Nat) : Int) + n) = ((a * (li p.2.1).length + n.toNat : Nat) : Int) := by rw [wrap64 (by omega) (by omega)]; omega
      rw [mach_number.L0_eq]
      simp only [fLen_sl, bindO_s, fBin_lss, fCond_b, decide_eq_true_eq, Int.ofNat_lt, hk2, if_true, idx_sl hn2 (I_len n), I_zero, idx_sl hn (P_len p), P_one, fBin_mul, e2, fBin_add, e3, e, numGo]
      exact ih vs (k + 1) _ hs' hv' (fun q hq => hL q (by simp [hq])) h3 (by omega)
theorem number_ok {o : Option (List TPort)} {v : Option (List Int)} (hs : (li o).length < 1000000000000000) (hL : Lens (li o)) (hp : prodL (li o) ≤ 4096) (hf : fitP (li o) (li v) = true) : mach_number (sl P o) (sl I v) = some (.int .i64 (numGo (li o) (li v) 0 : Int)) := by
  simp only [fitP, Bool.and_eq_true, decide_eq_true_eq] at hf
  rw [mach_number.eq]
  simp only [fLen_sl, bindO_s]
  exact number_L0 hs hf.1 _ _ 0 0 rfl rfl hL hf.2 (by omega)

/-! ### A step -/
def rowAt (ins : List TPort) (rows : List TRow) (st : Nat) (v : List Int) : TRow := rows.getD (st * prodL ins + numGo ins v 0) default
section
variable {nm : Str} {sts : Option (List Str)} {start : Int} {ins outs : Option (List TPort)} {rows : Option (List TRow)}
theorem rowAt_get (h : OkM (li sts) start (li ins) (li outs) (li rows)) {st : Nat} (hst : st < (li sts).length) {v : List Int} (hf : fitP (li ins) v = true) :
    (li rows)[st * prodL (li ins) + numGo (li ins) v 0]? = some (rowAt (li ins) (li rows) st v) ∧ st * prodL (li ins) + numGo (li ins) v 0 < 4096 ∧ st * prodL (li ins) ≤ 4096 ∧ prodL (li ins) ≤ 4096 := by
  simp only [fitP, Bool.and_eq_true, decide_eq_true_eq] at hf
  have h1 := numGo_lt _ _ 0 hf.1 hf.2
  have h2 : (st + 1) * prodL (li ins) ≤ (li sts).length * prodL (li ins) := Nat.mul_le_mul_right _ hst
  have h3 := h.small
  have h4 := h.rlen
  have h5 : 1 * prodL (li ins) ≤ (li sts).length * prodL (li ins) := Nat.mul_le_mul_right _ h.n1.1
  rw [Nat.add_mul] at h2
  have hlt : st * prodL (li ins) + numGo (li ins) v 0 < (li rows).length := by omega
  refine ⟨?_, by omega, by omega, by omega⟩
  simp [rowAt, hlt]
theorem rowAt_ok (h : OkM (li sts) start (li ins) (li outs) (li rows)) {st : Nat} (hst : st < (li sts).length) {v : List Int} (hf : fitP (li ins) v = true) :
    0 ≤ (rowAt (li ins) (li rows) st v).1 ∧ (rowAt (li ins) (li rows) st v).1 < ((li sts).length : Int) ∧ (li (rowAt (li ins) (li rows) st v).2.1).length ≤ 8 := by
  have := h.rok _ (List.mem_of_getElem? (rowAt_get h hst hf).1)
  simp only [rowOk, fitP, Bool.and_eq_true, decide_eq_true_eq] at this
  exact ⟨this.1.1, this.1.2, by have := h.o8; omega⟩
theorem one_ok (h : OkM (li sts) start (li ins) (li outs) (li rows)) {st : Nat} (hst : st < (li sts).length) {v : Option (List Int)} (hf : fitP (li ins) (li v) = true) :
    ref02_one (.agg [.str nm, sl S sts, .int .i64 start, sl P ins, sl P outs, sl RW rows]) (.int .i64 (st : Int)) (sl I v) = some (.agg [.int .i64 (rowAt (li ins) (li rows) st (li v)).1, sl I (rowAt (li ins) (li rows) st (li v)).2.1]) := by
  obtain ⟨g1, g2, g3, g4⟩ := rowAt_get h hst hf
  have hi := h.i8
  have e1 : IntKind.i64.wrap ((st : Int) * ((prodL (li ins) : Nat) : Int)) = ((st * prodL (li ins) : Nat) : Int) := by rw [← Int.natCast_mul, wrap64 (by omega) (by omega)]
  have e2 : IntKind.i64.wrap (((st * prodL (li ins) : Nat) : Int) + ((numGo (li ins) (li v) 0 : Nat) : Int)) = ((st * prodL (li ins) + numGo (li ins) (li v) 0 : Nat) : Int) := by rw [wrap64 (by omega) (by omega)]; omega
  rw [ref02_one.eq]
  simp only [fIsAgg_agg, List.length_cons, List.length_nil, fCell_zero, fCell_succ, ref_product_ok (show (li ins).length < 1000000000000000 by omega) h.lens, Nat.min_eq_left (show prodL (li ins) ≤ 2097152 by omega), bindO_s, fBin_mul, e1, index_ok (show (li ins).length < 1000000000000000 by omega) h.lens g4 hf, fBin_add, e2, idx_sl g1 (RW_len _), RW_zero, RW_one]
  rfl
theorem clone_int {o : Option (List Int)} (h : (li o).length ≤ 8) : slices_Clone_int (sl I o) = some (.arr ((li o).map I)) := by
  rw [slices_Clone_int.eq]
  simp only [asRows_sl, bindO_s, rowsSz_I, gB_t, List.length_map, show (0 + (li o).length) * 8 ≤ room by unfold room; omega, decide_true, List.nil_append, onFV_sl]

/-- What a step answers: the state, the letter, the complaint. -/
def stepR (c : Int) (n : Nat) (ins : List TPort) (rows : List TRow) (st : Int) (v : List Int) : Int × Option (List Int) × Int :=
  if c ≠ 0 then (0, none, c) else if st < 0 then (0, none, 27) else if (n : Int) ≤ st then (0, none, 27) else if fitP ins v = false then (0, none, 27)
  else ((rowAt ins rows st.toNat v).1, some (li (rowAt ins rows st.toNat v).2.1), 0)
def stepF (r : Int × Option (List Int) × Int) : FV := .tup [.int .i64 r.1, sl I r.2.1, .int .i64 r.2.2]

theorem ref_step_ok (w : SmM (nm, sts, start, ins, outs, rows, ())) (st : Int) {v : Option (List Int)} :
    ref02_Step (.agg [.str nm, sl S sts, .int .i64 start, sl P ins, sl P outs, sl RW rows]) (.int .i64 st) (sl I v) = some (stepF (stepR (checkG nm (li sts) start (li ins) (li outs) (li rows)) (li sts).length (li ins) (li rows) st (li v))) := by
  have hc := ref_check_ok w
  simp only [MC, checkP] at hc
  rw [ref02_Step.eq]
  simp only [fIsAgg_agg, List.length_cons, List.length_nil, fCell_zero, fCell_succ, hc, bindO_s, fBin_neq, fCond_b, decide_eq_true_eq, fBin_lss, fLen_sl, fBin_geq, right_ok w.ins.1, fUn_not, Bool.not_eq_true', stepR]
  rw [show (0 + 1 + 1 + 1 + 1 + 1 + 1 == 6) = true from rfl, gB_t]
  by_cases g1 : checkG nm (li sts) start (li ins) (li outs) (li rows) ≠ 0
  · simp only [g1, if_true, ne_eq, not_false_eq_true]; rfl
  simp only [g1, if_false]
  by_cases g2 : st < 0
  · simp only [g2, if_true]; rfl
  simp only [g2, if_false]
  by_cases g3 : ((li sts).length : Int) ≤ st
  · simp only [g3, if_true]; rfl
  simp only [g3, if_false]
  by_cases g4 : fitP (li ins) (li v) = false
  · simp only [g4, if_true]; rfl
  simp only [g4, if_false]
  have hok := okM (Decidable.not_not.1 g1)
  have hst : st.toNat < (li sts).length := by omega
  obtain ⟨_, _, r8⟩ := rowAt_ok hok hst (by simpa using g4)
  have h1 := one_ok (nm := nm) hok hst (v := v) (by simpa using g4)
  rw [show ((st.toNat : Nat) : Int) = st by omega] at h1
  rw [ref02_Step.L0_eq, h1]
  simp only [bindO_s, fIsAgg_agg, List.length_cons, List.length_nil, fCell_zero, fCell_succ, asRows_sl, rowsSz_I, gB_t, List.length_map, show (0 + (li (rowAt (li ins) (li rows) st.toNat (li v)).2.1).length) * 8 ≤ room by unfold room; omega, decide_true, List.nil_append]
  rfl
theorem mach_step_ok (w : SmM (nm, sts, start, ins, outs, rows, ())) (st : Int) {v : Option (List Int)} :
    mach_Step (.agg [.str nm, sl S sts, .int .i64 start, sl P ins, sl P outs, sl RW rows]) (.int .i64 st) (sl I v) = some (stepF (stepR (checkG nm (li sts) start (li ins) (li outs) (li rows)) (li sts).length (li ins) (li rows) st (li v))) := by
  have hc := mach_check_ok w
  simp only [MC, checkP] at hc
  rw [mach_Step.eq]
  simp only [fIsAgg_agg, List.length_cons, List.length_nil, fCell_zero, fCell_succ, hc, bindO_s, fBin_neq, fCond_b, decide_eq_true_eq, fBin_lss, fLen_sl, fBin_geq, fit_ok w.ins.1, fUn_not, Bool.not_eq_true', stepR]
  rw [show (0 + 1 + 1 + 1 + 1 + 1 + 1 == 6) = true from rfl, gB_t]
  by_cases g1 : checkG nm (li sts) start (li ins) (li outs) (li rows) ≠ 0
  · simp only [g1, if_true, ne_eq, not_false_eq_true]; rfl
  simp only [g1, if_false]
  by_cases g2 : st < 0
  · simp only [g2, if_true]; rfl
  simp only [g2, if_false]
  by_cases g3 : ((li sts).length : Int) ≤ st
  · simp only [g3, if_true]; rfl
  simp only [g3, if_false]
  by_cases g4 : fitP (li ins) (li v) = false
  · simp only [g4, if_true]; rfl
  simp only [g4, if_false]
  have hok := okM (Decidable.not_not.1 g1)
  have hst : st.toNat < (li sts).length := by omega
  have hf : fitP (li ins) (li v) = true := by simpa using g4
  obtain ⟨_, _, r8⟩ := rowAt_ok hok hst hf
  obtain ⟨k1, k2, k3, k4⟩ := rowAt_get hok hst hf
  have hi := hok.i8
  have est : st = ((st.toNat : Nat) : Int) := by omega
  have hcap : capP (prodL (li ins)) = prodL (li ins) := by unfold capP; rw [if_neg (by omega)]
  have e1 : IntKind.i64.wrap (((st.toNat : Nat) : Int) * ((prodL (li ins) : Nat) : Int)) = ((st.toNat * prodL (li ins) : Nat) : Int) := by rw [← Int.natCast_mul, wrap64 (by omega) (by omega)]
  have e2 : IntKind.i64.wrap (((st.toNat * prodL (li ins) : Nat) : Int) + ((numGo (li ins) (li v) 0 : Nat) : Int)) = ((st.toNat * prodL (li ins) + numGo (li ins) (li v) 0 : Nat) : Int) := by rw [wrap64 (by omega) (by omega)]; omega
  rw [mach_Step.L0_eq]
  rw [show (FV.int .i64 st) = .int .i64 ((st.toNat : Nat) : Int) by rw [← est]]
  simp only [mach_product_ok (show (li ins).length < 1000000000000000 by omega) hok.lens, hcap, bindO_s, fBin_mul, e1, number_ok (show (li ins).length < 1000000000000000 by omega) hok.lens k4 hf, fBin_add, e2, idx_sl k1 (RW_len _), RW_zero, RW_one, clone_int r8, arrRows_arr]
  rfl
end
end Go.Proofs.Ytelcbakleaaneaa
