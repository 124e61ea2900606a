/- Machines on bands: which machines are. Machines on bands: runs. Machines on bands: both programs' answers; the law MachBands. -/
import Derived.Test.YtelcbakleaaneaaMachRun
import Derived.KernelRfl
section
namespace Go.Proofs.Ytelcbakleaaneaa
open Go Go.Proofs.Ytelcbakleaaneaa.VM
set_option linter.unusedVariables false
set_option linter.unusedSimpArgs false
set_option linter.unusedSectionVars false
section
variable {a b : Option (List Str)}
theorem equal_L0 (hl : (li a).length = (li b).length) (hs : (li a).length < 1000000000000000) : ∀ (s t : List Str) (k : Nat), (li a).drop k = s → (li b).drop k = t →
    ref02_equal.L0 (sl S a) (sl S b) (.int .i64 (k : Int)) = some (.bool (decide (s = t))) := by
  intro s
  induction s with
  | nil =>
    intro t k h1 h2
    have hk := drop_nil h1
    have ht : t = [] := by rw [← h2]; exact List.drop_eq_nil_of_le (by omega)
    rw [ref02_equal.L0_eq, ht]
    simp only [fLen_sl, bindO_s, fBin_lss, fCond_b, decide_eq_true_eq, Int.ofNat_lt, hk, if_false, decide_true]
  | cons x s ih =>
    intro t k h1 h2
    obtain ⟨hk, hn, hs'⟩ := drop_cons h1
    have e : IntKind.i64.wrap ((k : Int) + 1) = ((k + 1 : Nat) : Int) := wrap64 (by omega) (by omega)
    cases t with
    | nil => exact absurd (drop_nil h2) (by omega)
    | cons y t =>
      obtain ⟨_, hn2, hs2⟩ := drop_cons h2
      rw [ref02_equal.L0_eq]
      simp only [fLen_sl, bindO_s, fBin_lss, fCond_b, decide_eq_true_eq, Int.ofNat_lt, hk, if_true, idx_sl hn (S_len x), idx_sl hn2 (S_len y), S_zero, fBin_neqS, fBin_add, e, ih t (k + 1) hs' hs2, ne_eq]
      by_cases g : x = y
      · simp [g]
      · simp [g]
theorem equal_ok (h1 : (li a).length < 1000000000000000) : ref02_equal (sl S a) (sl S b) = some (.bool (decide (li a = li b))) := by
  rw [ref02_equal.eq]
  simp only [fLen_sl, bindO_s, fBin_neq, fCond_b, decide_eq_true_eq, ne_eq, Int.ofNat_inj]
  by_cases g : (li a).length = (li b).length
  · rw [if_neg (fun q => q g)]
    exact equal_L0 g h1 _ _ 0 rfl rfl
  · rw [if_pos g, show decide (li a = li b) = false by simp; intro e; exact g (by rw [e])]
theorem sEqual_L0 (hl : (li a).length = (li b).length) (hs : (li a).length < 1000000000000000) : ∀ (s t : List Str) (k : Nat), (li a).drop k = s → (li b).drop k = t →
    slices_Equal_string.L0 (sl S a) (sl S b) (.int .i64 ((li a).length : Int)) (.int .i64 (k : Int)) = some (.bool (decide (s = t))) := by
  intro s
  induction s with
  | nil =>
    intro t k h1 h2
    have hk := drop_nil h1
    have ht : t = [] := by rw [← h2]; exact List.drop_eq_nil_of_le (by omega)
    rw [slices_Equal_string.L0_eq, ht]
    simp only [fLen_sl, bindO_s, fBin_lss, fCond_b, decide_eq_true_eq, Int.ofNat_lt, hk, if_false, decide_true]
  | cons x s ih =>
    intro t k h1 h2
    obtain ⟨hk, hn, hs'⟩ := drop_cons h1
    have e : IntKind.i64.wrap ((k : Int) + 1) = ((k + 1 : Nat) : Int) := wrap64 (by omega) (by omega)
    cases t with
    | nil => exact absurd (drop_nil h2) (by omega)
    | cons y t =>
      obtain ⟨_, hn2, hs2⟩ := drop_cons h2
      rw [slices_Equal_string.L0_eq]
      simp only [fLen_sl, bindO_s, fBin_lss, fCond_b, decide_eq_true_eq, Int.ofNat_lt, hk, if_true, idx_sl hn (S_len x), idx_sl hn2 (S_len y), S_zero, fBin_neqS, fBin_add, e, ih t (k + 1) hs' hs2, ne_eq]
      by_cases g : x = y
      · simp [g]
      · simp [g]
theorem sEqual_ok (h1 : (li a).length < 1000000000000000) : slices_Equal_string (sl S a) (sl S b) = some (.bool (decide (li a = li b))) := by
  rw [slices_Equal_string.eq]
  simp only [fLen_sl, bindO_s, fBin_neq, fCond_b, decide_eq_true_eq, ne_eq, Int.ofNat_inj]
  by_cases g : (li a).length = (li b).length
  · rw [if_neg (fun q => q g)]
    exact sEqual_L0 g h1 _ _ 0 rfl rfl
  · rw [if_pos g, show decide (li a = li b) = false by simp; intro e; exact g (by rw [e])]
end
def dirs : List Str := [[108, 101, 102, 116], [115, 116, 97, 121], [114, 105, 103, 104, 116]]
def noyes : List Str := [[110, 111], [121, 101, 115]]
/-- The ports of a machine that works on a band. -/
def isBandB : List TPort → List TPort → Bool
  | [p], [a, b, c] => decide (p.1 = [114, 101, 97, 100]) && (decide (a.1 = [119, 114, 105, 116, 101]) && (decide (b.1 = [109, 111, 118, 101]) && (decide (c.1 = [104, 97, 108, 116]) && (decide (li p.2.1 = li a.2.1) && (decide (li b.2.1 = dirs) && decide (li c.2.1 = noyes))))))
  | _, _ => false
theorem one_of {α : Type} {l : List α} (h : l.length = 1) : ∃ p, l = [p] := by
  match l, h with
  | [p], _ => exact ⟨p, rfl⟩
theorem three_of {α : Type} {l : List α} (h : l.length = 3) : ∃ a b c, l = [a, b, c] := by
  match l, h with
  | [a, b, c], _ => exact ⟨a, b, c, rfl⟩
theorem band_len {ins outs : List TPort} (h : ¬ (ins.length = 1 ∧ outs.length = 3)) : isBandB ins outs = false := by
  unfold isBandB
  split
  · exact absurd ⟨rfl, rfl⟩ h
  · rfl
section
variable {ins outs : Option (List TPort)}
theorem isBand_ok (hi : ∀ p ∈ li ins, SmP p) (ho : ∀ p ∈ li outs, SmP p) (x0 x1 x2 x5 : FV) : ref02_IsBand (.agg [x0, x1, x2, sl P ins, sl P outs, x5]) = some (.bool (isBandB (li ins) (li outs))) := by
  rw [ref02_IsBand.eq]
  simp only [fIsAgg_agg, List.length_cons, List.length_nil, fCell_zero, fCell_succ, fLen_sl, bindO_s, fBin_neq, fCond_b, decide_eq_true_eq, ne_eq]
  rw [show (0 + 1 + 1 + 1 + 1 + 1 + 1 == 6) = true from rfl, gB_t]
  by_cases g1 : (li ins).length = 1
  · rw [if_neg (by omega)]
    by_cases g2 : (li outs).length = 3
    · rw [if_neg (by omega)]
      obtain ⟨p, hp⟩ := one_of g1
      obtain ⟨a, b, c, hc⟩ := three_of g2
      have i0 : fIdxC 2 (sl P ins) (.int .i64 0) = some (P p) := idx_sl (k := 0) (by rw [hp]; rfl) rfl
      have o0 : fIdxC 2 (sl P outs) (.int .i64 0) = some (P a) := idx_sl (k := 0) (by rw [hc]; rfl) rfl
      have o1 : fIdxC 2 (sl P outs) (.int .i64 1) = some (P b) := idx_sl (k := 1) (by rw [hc]; rfl) rfl
      have o2 : fIdxC 2 (sl P outs) (.int .i64 2) = some (P c) := idx_sl (k := 2) (by rw [hc]; rfl) rfl
      have sp := (hi p (by rw [hp]; simp)).2.1
      have sb := (ho b (by rw [hc]; simp)).2.1
      have sc := (ho c (by rw [hc]; simp)).2.1
      have e1 := equal_ok (a := p.2.1) (b := a.2.1) sp
      have e2 := equal_ok (a := b.2.1) (b := some dirs) sb
      have e3 := equal_ok (a := c.2.1) (b := some noyes) sc
      rw [ref02_IsBand.L0_eq]
      rw [show FV.arr [[FV.str [108, 101, 102, 116]], [FV.str [115, 116, 97, 121]], [FV.str [114, 105, 103, 104, 116]]] = sl S (some dirs) from rfl, show FV.arr [[FV.str [110, 111]], [FV.str [121, 101, 115]]] = sl S (some noyes) from rfl]
      simp only [i0, o0, o1, o2, P_zero, P_one, bindO_s, fBin_neqS, fCond_b, decide_eq_true_eq, ne_eq, e1, e2, e3, li_some, hp, hc, isBandB]
      by_cases q1 : p.1 = [114, 101, 97, 100]
      · by_cases q2 : a.1 = [119, 114, 105, 116, 101]
        · by_cases q3 : b.1 = [109, 111, 118, 101]
          · by_cases q4 : c.1 = [104, 97, 108, 116]
            · by_cases q5 : li p.2.1 = li a.2.1
              · by_cases q6 : li b.2.1 = dirs
                · by_cases q7 : li c.2.1 = noyes
                  · simp [q1, q2, q3, q4, q5, q6, q7]
                  · simp [q1, q2, q3, q4, q5, q6, q7]
                · simp [q1, q2, q3, q4, q5, q6]
              · simp [q1, q2, q3, q4, q5]
            · simp [q1, q2, q3, q4]
          · simp [q1, q2, q3]
        · simp [q1, q2]
      · simp [q1]
    · rw [if_pos (by omega), band_len (fun h => g2 h.2)]
  · rw [if_pos (by omega), band_len (fun h => g1 h.1)]
theorem isBander_ok (hi : ∀ p ∈ li ins, SmP p) (ho : ∀ p ∈ li outs, SmP p) (x0 x1 x2 x5 : FV) : mach_isBander (.agg [x0, x1, x2, sl P ins, sl P outs, x5]) = some (.bool (isBandB (li ins) (li outs))) := by
  rw [mach_isBander.eq]
  simp only [fIsAgg_agg, List.length_cons, List.length_nil, fCell_zero, fCell_succ, fLen_sl, bindO_s, fBin_neq, fCond_b, decide_eq_true_eq, ne_eq]
  rw [show (0 + 1 + 1 + 1 + 1 + 1 + 1 == 6) = true from rfl, gB_t]
  by_cases g1 : (li ins).length = 1
  · rw [if_neg (by omega)]
    by_cases g2 : (li outs).length = 3
    · rw [if_neg (by omega)]
      obtain ⟨p, hp⟩ := one_of g1
      obtain ⟨a, b, c, hc⟩ := three_of g2
      have i0 : fIdxC 2 (sl P ins) (.int .i64 0) = some (P p) := idx_sl (k := 0) (by rw [hp]; rfl) rfl
      have o0 : fIdxC 2 (sl P outs) (.int .i64 0) = some (P a) := idx_sl (k := 0) (by rw [hc]; rfl) rfl
      have o1 : fIdxC 2 (sl P outs) (.int .i64 1) = some (P b) := idx_sl (k := 1) (by rw [hc]; rfl) rfl
      have o2 : fIdxC 2 (sl P outs) (.int .i64 2) = some (P c) := idx_sl (k := 2) (by rw [hc]; rfl) rfl
      have sa := (ho a (by rw [hc]; simp)).2.1
      have sb := (ho b (by rw [hc]; simp)).2.1
      have sc := (ho c (by rw [hc]; simp)).2.1
      have e1 := sEqual_ok (a := a.2.1) (b := p.2.1) sa
      have e2 := sEqual_ok (a := b.2.1) (b := some dirs) sb
      have e3 := sEqual_ok (a := c.2.1) (b := some noyes) sc
      simp only [i0, P_zero, bindO_s, fBin_neqS, fCond_b, decide_eq_true_eq, ne_eq]
      by_cases q1' : ¬ p.1 = [114, 101, 97, 100]
      · simp [q1', hp, hc, isBandB]
      have q1 := Decidable.not_not.1 q1'
      rw [if_neg (fun h => h q1), mach_isBander.L0_eq]
      simp only [i0, P_one, bindO_s]
      generalize hR : [[FV.str [119, 114, 105, 116, 101], sl S p.2.1], [.str [109, 111, 118, 101], .arr [[.str [108, 101, 102, 116]], [.str [115, 116, 97, 121]], [.str [114, 105, 103, 104, 116]]]], [.str [104, 97, 108, 116], .arr [[.str [110, 111]], [.str [121, 101, 115]]]]] = R
      have r0 : rIdx R (.int .i64 0) = some 0 := by rw [← hR]; rfl
      have r1 : rIdx R (.int .i64 1) = some 1 := by rw [← hR]; rfl
      have r2 : rIdx R (.int .i64 2) = some 2 := by rw [← hR]; rfl
      have s00 : rGet R 0 0 = some (.str [119, 114, 105, 116, 101]) := by rw [← hR]; rfl
      have s01 : rGet R 0 1 = some (sl S p.2.1) := by rw [← hR]; rfl
      have s10 : rGet R 1 0 = some (.str [109, 111, 118, 101]) := by rw [← hR]; rfl
      have s11 : rGet R 1 1 = some (sl S (some dirs)) := by rw [← hR]; rfl
      have s20 : rGet R 2 0 = some (.str [104, 97, 108, 116]) := by rw [← hR]; rfl
      have s21 : rGet R 2 1 = some (sl S (some noyes)) := by rw [← hR]; rfl
      have w1 : IntKind.i64.wrap (0 + 1) = 1 := by decide
      have w2 : IntKind.i64.wrap (1 + 1) = 2 := by decide
      have w3 : IntKind.i64.wrap (2 + 1) = 3 := by decide
      rw [mach_isBander.L1_eq]
      simp only [fBin_lss, bindO_s, fCond_b, r0, s00, s01, o0, P_zero, P_one, fBin_neqS, decide_eq_true_eq, ne_eq, e1, fUn_not, fBin_add, w1, show ((0 : Int) < ((3 : Nat) : Int)) from by decide, decide_true, if_true, Bool.not_eq_true', decide_eq_false_iff_not]
      rw [mach_isBander.L1_eq]
      simp only [fBin_lss, bindO_s, fCond_b, r1, s10, s11, o1, P_zero, P_one, fBin_neqS, decide_eq_true_eq, ne_eq, e2, fUn_not, fBin_add, w2, show ((1 : Int) < ((3 : Nat) : Int)) from by decide, decide_true, if_true, Bool.not_eq_true', decide_eq_false_iff_not]
      rw [mach_isBander.L1_eq]
      simp only [fBin_lss, bindO_s, fCond_b, r2, s20, s21, o2, P_zero, P_one, fBin_neqS, decide_eq_true_eq, ne_eq, e3, fUn_not, fBin_add, w3, show ((2 : Int) < ((3 : Nat) : Int)) from by decide, decide_true, if_true, Bool.not_eq_true', decide_eq_false_iff_not]
      rw [mach_isBander.L1_eq]
      simp only [fBin_lss, bindO_s, fCond_b, show ¬ ((3 : Int) < ((3 : Nat) : Int)) from by decide, decide_false, Bool.false_eq_true, if_false, hp, hc, isBandB, li_some]
      by_cases q2 : a.1 = [119, 114, 105, 116, 101]
      · by_cases q5 : li a.2.1 = li p.2.1
        · by_cases q3 : b.1 = [109, 111, 118, 101]
          · by_cases q6 : li b.2.1 = dirs
            · by_cases q4 : c.1 = [104, 97, 108, 116]
              · by_cases q7 : li c.2.1 = noyes
                · simp [q1, q2, q3, q4, q5, q6, q7]
                · simp [q1, q2, q3, q4, q5, q6, q7]
              · simp [q1, q2, q3, q4, q5, q6]
            · simp [q1, q2, q3, q5, q6]
          · simp [q1, q2, q3, q5]
        · simp [q1, q2, q5, show ¬ li p.2.1 = li a.2.1 from fun h => q5 h.symm]
      · simp [q1, q2]
    · rw [if_pos (by omega), band_len (fun h => g2 h.2)]
  · rw [if_pos (by omega), band_len (fun h => g1 h.1)]
end
end Go.Proofs.Ytelcbakleaaneaa
end
section
namespace Go.Proofs.Ytelcbakleaaneaa
open Go Go.Proofs.Ytelcbakleaaneaa.VM
set_option linter.unusedVariables false
set_option linter.unusedSimpArgs false
set_option linter.unusedSectionVars false
structure Bd where
  sq : List Int
  ps : Int
  st : Int
  h : Bool
  k : Int
def BF (b : Bd) : List FV := [.arr (b.sq.map I), .int .i64 b.ps, .int .i64 b.st, .bool b.h, .int .i64 b.k]
def bStep (ins : List TPort) (rows : List TRow) (b : Bd) : Bd :=
  ⟨b.sq.set b.ps.toNat ((li (rowAt ins rows b.st.toNat [b.sq.getD b.ps.toNat 0]).2.1).getD 0 0), min (max (b.ps + (li (rowAt ins rows b.st.toNat [b.sq.getD b.ps.toNat 0]).2.1).getD 1 0 - 1) 0) ((b.sq.length : Int) - 1),
    (rowAt ins rows b.st.toNat [b.sq.getD b.ps.toNat 0]).1, decide ((li (rowAt ins rows b.st.toNat [b.sq.getD b.ps.toNat 0]).2.1).getD 2 0 = 1), b.k + 1⟩
def bRun (ins : List TPort) (rows : List TRow) : Nat → Bd → Bd
  | 0, b => b
  | n + 1, b => if b.h then b else bRun ins rows n (bStep ins rows b)
theorem bRun_halt (ins : List TPort) (rows : List TRow) {b : Bd} (h : b.h = true) : ∀ n, bRun ins rows n b = b
  | 0 => rfl
  | n + 1 => by simp [bRun, h]
theorem bRun_add (ins : List TPort) (rows : List TRow) : ∀ (m n : Nat) (b : Bd), bRun ins rows (m + n) b = bRun ins rows n (bRun ins rows m b)
  | 0, n, b => by simp [bRun]
  | m + 1, n, b => by
    rw [show m + 1 + n = (m + n) + 1 by omega]
    by_cases g : b.h = true
    · rw [bRun_halt ins rows g, bRun_halt ins rows g, bRun_halt ins rows g]
    · simp only [bRun, g, if_false, bRun_add ins rows m n]
      simp
def vals (ins : List TPort) : Nat := match ins with | p :: _ => (li p.2.1).length | [] => 0
structure BOk (ins : List TPort) (n S : Nat) (b : Bd) : Prop where
  len : b.sq.length = n
  sq : ∀ v ∈ b.sq, 0 ≤ v ∧ v < (vals ins : Int)
  ps : 0 ≤ b.ps ∧ b.ps < (n : Int)
  st : 0 ≤ b.st ∧ b.st < (S : Int)
section
variable {nm : Str} {sts : Option (List Str)} {start : Int} {ins outs : Option (List TPort)} {rows : Option (List TRow)}
theorem band_row (h : OkM (li sts) start (li ins) (li outs) (li rows)) (hb : isBandB (li ins) (li outs) = true) {st : Nat} (hst : st < (li sts).length) {v : Int} (hv : 0 ≤ v ∧ v < (vals (li ins) : Int)) :
    fitP (li ins) [v] = true ∧ (∃ w m e, li (rowAt (li ins) (li rows) st [v]).2.1 = [w, m, e] ∧ (0 ≤ w ∧ w < (vals (li ins) : Int)) ∧ (0 ≤ m ∧ m < 3)) ∧ 0 ≤ (rowAt (li ins) (li rows) st [v]).1 ∧ (rowAt (li ins) (li rows) st [v]).1 < ((li sts).length : Int) ∧ prodL (li ins) = vals (li ins) ∧ numGo (li ins) [v] 0 = v.toNat := by
  unfold isBandB at hb
  split at hb
  · rename_i p a b c hp hc
    simp only [Bool.and_eq_true, decide_eq_true_eq] at hb
    obtain ⟨_, _, _, _, h5, h6, h7⟩ := hb
    have hvals : vals (li ins) = (li p.2.1).length := by rw [hp]; rfl
    have hf : fitP (li ins) [v] = true := by
      rw [hvals] at hv
      rw [hp]
      simp [fitP, fitGo, hv]
    have hg := (rowAt_get h hst hf).1
    have hr := h.rok _ (List.mem_of_getElem? hg)
    simp only [rowOk, fitP, Bool.and_eq_true, decide_eq_true_eq] at hr
    refine ⟨hf, ?_, hr.1.1, hr.1.2, ?_, ?_⟩
    · rw [hc] at hr
      obtain ⟨w, m, e, ho⟩ := three_of hr.2.1.symm
      refine ⟨w, m, e, ho, ?_, ?_⟩
      · have := hr.2.2
        rw [ho] at this
        simp only [fitGo, Bool.and_eq_true, decide_eq_true_eq] at this
        rw [hvals, h5]
        exact this.1
      · have := hr.2.2
        rw [ho] at this
        simp only [fitGo, Bool.and_eq_true, decide_eq_true_eq] at this
        have h3 : (li b.2.1).length = 3 := by rw [h6]; rfl
        omega
    · rw [hp]; simp [prodL, vals]
    · rw [hp]; simp [numGo]
  · cases hb
theorem sq_get {b : Bd} {n S : Nat} (hb : BOk (li ins) n S b) : b.sq[b.ps.toNat]? = some (b.sq.getD b.ps.toNat 0) ∧ (0 ≤ b.sq.getD b.ps.toNat 0 ∧ b.sq.getD b.ps.toNat 0 < (vals (li ins) : Int)) := by
  have h1 := hb.ps
  have h2 := hb.len
  have hl : b.ps.toNat < b.sq.length := by omega
  have e : b.sq.getD b.ps.toNat 0 = b.sq[b.ps.toNat] := by rw [List.getD_eq_getElem?_getD, List.getElem?_eq_getElem hl, Option.getD_some]
  rw [e]
  exact ⟨List.getElem?_eq_getElem hl, hb.sq _ (List.getElem_mem hl)⟩
theorem bStep_ok (h : OkM (li sts) start (li ins) (li outs) (li rows)) (hb : isBandB (li ins) (li outs) = true) {n : Nat} {b : Bd} (ok : BOk (li ins) n (li sts).length b) : BOk (li ins) n (li sts).length (bStep (li ins) (li rows) b) := by
  obtain ⟨g1, g2⟩ := sq_get ok
  obtain ⟨f1, ⟨w, m, e, ho, hw, hm⟩, f3, f4, _, _⟩ := band_row h hb (st := b.st.toNat) (by have := ok.st; omega) g2
  have hps := ok.ps
  have hlen := ok.len
  refine ⟨by simp [bStep, ok.len], fun v hv => ?_, ?_, f3, f4⟩
  · simp only [bStep, ho] at hv
    rcases List.mem_or_eq_of_mem_set hv with h1 | h1
    · exact ok.sq v h1
    · rw [h1]; exact hw
  · simp only [bStep, ho]
    simp only [List.getD_eq_getElem?_getD, List.getElem?_cons_succ, List.getElem?_cons_zero, Option.getD_some]
    omega
theorem bRun_ok (h : OkM (li sts) start (li ins) (li outs) (li rows)) (hb : isBandB (li ins) (li outs) = true) {n : Nat} : ∀ (d : Nat) (b : Bd), BOk (li ins) n (li sts).length b → BOk (li ins) n (li sts).length (bRun (li ins) (li rows) d b)
  | 0, b, ok => ok
  | d + 1, b, ok => by
    simp only [bRun]
    split
    · exact ok
    · exact bRun_ok h hb d _ (bStep_ok h hb ok)
theorem bRun_k (ins : List TPort) (rows : List TRow) : ∀ (d : Nat) (b : Bd), b.k ≤ (bRun ins rows d b).k ∧ (bRun ins rows d b).k ≤ b.k + d
  | 0, b => ⟨Int.le_refl _, by simp [bRun]⟩
  | d + 1, b => by
    simp only [bRun]
    split
    · exact ⟨Int.le_refl _, by omega⟩
    · have := bRun_k ins rows d (bStep ins rows b)
      have e : (bStep ins rows b).k = b.k + 1 := rfl
      omega
theorem sqI {l : List Int} {j : Nat} {v : Int} (h : l[j]? = some v) : rIdx (l.map I) (.int .i64 (j : Int)) = some j ∧ rGet (l.map I) j 0 = some (.int .i64 v) ∧ ∀ w, rSet (l.map I) j 0 [.int .i64 w] = some ((l.set j w).map I) := by
  have hl : j < l.length := by
    rcases Nat.lt_or_ge j l.length with g | g
    · exact g
    · rw [List.getElem?_eq_none g] at h; cases h
  have hm : (l.map I)[j]? = some [.int .i64 v] := by rw [List.getElem?_map, h]; rfl
  refine ⟨rIdx_at (by simpa using hl), by rw [rGet_at hm]; rfl, fun w => ?_⟩
  rw [rSet_one hm, List.map_set]
  rfl
theorem ref_band_L4 (h : OkM (li sts) start (li ins) (li outs) (li rows)) (hb : isBandB (li ins) (li outs) = true) {n : Nat} (hn : n ≤ 4096) {T : Nat} (hT : T ≤ 1048576) (z1 z2 z3 z4 : FV) (r17 : List (List FV)) : ∀ (d t : Nat) (b : Bd), T - t = d → t ≤ T → BOk (li ins) n (li sts).length b → 0 ≤ b.k → b.k + d ≤ 4611686018427387904 →
    ref02_RunBand.L4 (.int .i64 (T : Int)) (.int .i64 (n : Int)) (.int .i64 (t : Int)) (.str nm) (sl S sts) (.int .i64 start) (sl P ins) (sl P outs) (sl RW rows) (.int .i64 b.ps) (.int .i64 b.st) (.bool b.h) (.int .i64 b.k) z1 z2 z3 z4 r17 (b.sq.map I) =
      some (.tup [.agg (BF (bRun (li ins) (li rows) d b)), .int .i64 0]) := by
  intro d
  induction d with
  | zero =>
    intro t b hd ht ok hk1 hk2
    rw [ref02_RunBand.L4_eq]
    simp only [fBin_lss, bindO_s, fCond_b, decide_eq_true_eq, Int.ofNat_lt, show ¬ t < T by omega, if_false]
    rfl
  | succ d ih =>
    intro t b hd ht ok hk1 hk2
    rw [ref02_RunBand.L4_eq]
    simp only [fBin_lss, bindO_s, fCond_b, decide_eq_true_eq, Int.ofNat_lt, show t < T by omega, if_true, fUn_not, Bool.not_eq_true', bRun]
    by_cases g : b.h = true
    · simp only [g, if_true, Bool.true_eq_false, if_false, BF]
    have g' : b.h = false := by simpa using g
    obtain ⟨q1, q2⟩ := sq_get ok
    obtain ⟨f1, ⟨w, m, e, ho, hw, hm⟩, f3, f4, f5, f6⟩ := band_row h hb (st := b.st.toNat) (by have := ok.st; omega) q2
    have hps := ok.ps
    have hst := ok.st
    have hlen := ok.len
    have ok' := bStep_ok h hb ok
    have hbs : bStep (li ins) (li rows) b = ⟨b.sq.set b.ps.toNat w, min (max (b.ps + m - 1) 0) ((n : Int) - 1), (rowAt (li ins) (li rows) b.st.toNat [b.sq.getD b.ps.toNat 0]).1, decide (e = 1), b.k + 1⟩ := by
      unfold bStep
      rw [ho, hlen]
      rfl
    have ih' := ih (t + 1) (bStep (li ins) (li rows) b) (by omega) (by omega) ok' (show 0 ≤ b.k + 1 by omega) (show b.k + 1 + (d : Int) ≤ _ by omega)
    have hone := one_ok (nm := nm) h (st := b.st.toNat) (by omega) (v := some [b.sq.getD b.ps.toNat 0]) f1
    rw [show ((b.st.toNat : Nat) : Int) = b.st by omega] at hone
    obtain ⟨s1, s2, s3⟩ := sqI q1
    rw [show ((b.ps.toNat : Nat) : Int) = b.ps by omega] at s1
    simp only [g', if_true, if_false, Bool.false_eq_true]
    rw [ref02_RunBand.L5_eq]
    simp only [s1, s2, bindO_s]
    rw [show FV.arr [[FV.int .i64 (b.sq.getD b.ps.toNat 0)]] = sl I (some [b.sq.getD b.ps.toNat 0]) from rfl]
    have i0 : fIdxC 1 (sl I (rowAt (li ins) (li rows) b.st.toNat [b.sq.getD b.ps.toNat 0]).2.1) (.int .i64 0) = some (I w) := idx_sl (k := 0) (by rw [ho]; rfl) rfl
    have i1 : fIdxC 1 (sl I (rowAt (li ins) (li rows) b.st.toNat [b.sq.getD b.ps.toNat 0]).2.1) (.int .i64 1) = some (I m) := idx_sl (k := 1) (by rw [ho]; rfl) rfl
    have i2 : fIdxC 1 (sl I (rowAt (li ins) (li rows) b.st.toNat [b.sq.getD b.ps.toNat 0]).2.1) (.int .i64 2) = some (I e) := idx_sl (k := 2) (by rw [ho]; rfl) rfl
    have w1 : IntKind.i64.wrap (b.ps + m) = b.ps + m := wrap64 (by omega) (by omega)
    have w2 : IntKind.i64.wrap (b.ps + m - 1) = b.ps + m - 1 := wrap64 (by omega) (by omega)
    have w3 : IntKind.i64.wrap ((n : Int) - 1) = (n : Int) - 1 := wrap64 (by omega) (by omega)
    have w4 : IntKind.i64.wrap (b.k + 1) = b.k + 1 := wrap64 (by omega) (by omega)
    have w5 : IntKind.i64.wrap ((t : Int) + 1) = ((t + 1 : Nat) : Int) := wrap64 (by omega) (by omega)
    simp only [hone, li_some, RW, fIsAgg_agg, List.length_cons, List.length_nil, fCell_zero, fCell_succ, bindO_s, i0, i1, i2, I_zero, s3, fBin_add, fBin_sub, w1, w2, w3, w4, w5, fMax_int, fMin_int, fBin_eql]
    rw [show (0 + 1 + 1 == 2) = true from rfl, gB_t, ← ih', hbs]
theorem mach_band_L2 (h : OkM (li sts) start (li ins) (li outs) (li rows)) (hb : isBandB (li ins) (li outs) = true) {n : Nat} (hn : n ≤ 4096) {T : Nat} (hT : T ≤ 1048576) (z1 z2 z3 z4 : FV) (r17 : List (List FV)) : ∀ (d t : Nat) (b : Bd), T - t = d → t ≤ T → BOk (li ins) n (li sts).length b → 0 ≤ b.k → b.k + d ≤ 4611686018427387904 →
    mach_RunBand.L2 (.int .i64 (T : Int)) (.int .i64 (t : Int)) (.str nm) (sl S sts) (.int .i64 start) (sl P ins) (sl P outs) (sl RW rows) (.int .i64 b.ps) (.int .i64 b.st) (.bool b.h) (.int .i64 b.k) z1 z2 z3 z4 [.int .i64 (vals (li ins) : Int)] r17 (b.sq.map I) =
      some (.tup [.agg (BF (bRun (li ins) (li rows) d b)), .int .i64 0]) := by
  intro d
  induction d with
  | zero =>
    intro t b hd ht ok hk1 hk2
    rw [mach_RunBand.L2_eq]
    simp only [fBin_lss, bindO_s, fCond_b, decide_eq_true_eq, Int.ofNat_lt, show ¬ t < T by omega, if_false]
    rfl
  | succ d ih =>
    intro t b hd ht ok hk1 hk2
    rw [mach_RunBand.L2_eq]
    simp only [fBin_lss, bindO_s, fCond_b, decide_eq_true_eq, Int.ofNat_lt, show t < T by omega, if_true, bRun]
    by_cases g : b.h = true
    · simp only [g, if_true, BF]
    have g' : b.h = false := by simpa using g
    obtain ⟨q1, q2⟩ := sq_get ok
    have hst := ok.st
    obtain ⟨f1, ⟨w, m, e, ho, hw, hm⟩, f3, f4, f5, f6⟩ := band_row h hb (st := b.st.toNat) (by omega) q2
    have hps := ok.ps
    have hlen := ok.len
    have ok' := bStep_ok h hb ok
    have hbs : bStep (li ins) (li rows) b = ⟨b.sq.set b.ps.toNat w, min (max (b.ps + m - 1) 0) ((n : Int) - 1), (rowAt (li ins) (li rows) b.st.toNat [b.sq.getD b.ps.toNat 0]).1, decide (e = 1), b.k + 1⟩ := by
      unfold bStep
      rw [ho, hlen]
      rfl
    have ih' := ih (t + 1) (bStep (li ins) (li rows) b) (by omega) (by omega) ok' (show 0 ≤ b.k + 1 by omega) (show b.k + 1 + (d : Int) ≤ _ by omega)
    obtain ⟨j1, j2, j3, j4⟩ := rowAt_get h (st := b.st.toNat) (by omega) f1
    rw [f5, f6] at j1 j2
    rw [f5] at j3 j4
    obtain ⟨s1, s2, s3⟩ := sqI q1
    rw [show ((b.ps.toNat : Nat) : Int) = b.ps by omega] at s1
    have i0 : fIdxC 1 (sl I (rowAt (li ins) (li rows) b.st.toNat [b.sq.getD b.ps.toNat 0]).2.1) (.int .i64 0) = some (I w) := idx_sl (k := 0) (by rw [ho]; rfl) rfl
    have i1 : fIdxC 1 (sl I (rowAt (li ins) (li rows) b.st.toNat [b.sq.getD b.ps.toNat 0]).2.1) (.int .i64 1) = some (I m) := idx_sl (k := 1) (by rw [ho]; rfl) rfl
    have i2 : fIdxC 1 (sl I (rowAt (li ins) (li rows) b.st.toNat [b.sq.getD b.ps.toNat 0]).2.1) (.int .i64 2) = some (I e) := idx_sl (k := 2) (by rw [ho]; rfl) rfl
    have e1 : IntKind.i64.wrap (b.st * (vals (li ins) : Int)) = ((b.st.toNat * vals (li ins) : Nat) : Int) := by
      have : b.st = ((b.st.toNat : Nat) : Int) := by omega
      rw [this, ← Int.natCast_mul, wrap64 (by omega) (by omega)]
      rfl
    have e2 : IntKind.i64.wrap (((b.st.toNat * vals (li ins) : Nat) : Int) + b.sq.getD b.ps.toNat 0) = ((b.st.toNat * vals (li ins) + (b.sq.getD b.ps.toNat 0).toNat : Nat) : Int) := by rw [wrap64 (by omega) (by omega)]; omega
    have w1 : IntKind.i64.wrap (b.ps + m) = b.ps + m := wrap64 (by omega) (by omega)
    have w2 : IntKind.i64.wrap (b.ps + m - 1) = b.ps + m - 1 := wrap64 (by omega) (by omega)
    have w3 : IntKind.i64.wrap ((n : Int) - 1) = (n : Int) - 1 := wrap64 (by omega) (by omega)
    have w4 : IntKind.i64.wrap (b.k + 1) = b.k + 1 := wrap64 (by omega) (by omega)
    have w5 : IntKind.i64.wrap ((t : Int) + 1) = ((t + 1 : Nat) : Int) := wrap64 (by omega) (by omega)
    simp only [g', if_false, Bool.false_eq_true, List.getElem?_cons_zero, bindO_s, fBin_mul, e1, s1, s2, fBin_add, e2, idx_sl j1 (RW_len _), RW_zero, RW_one, i0, i1, i2, I_zero, s3, fBin_sub, w1, w2, List.length_map, List.length_set, hlen, w3, w4, w5, fMax_int, fMin_int, fBin_eql]
    rw [← ih', hbs]
end
end Go.Proofs.Ytelcbakleaaneaa
end
section
namespace Go.Proofs.Ytelcbakleaaneaa
open Go Go.Proofs.Ytelcbakleaaneaa.VM
set_option linter.unusedVariables false
set_option linter.unusedSimpArgs false
set_option linter.unusedSectionVars false
def sqOk (n : Nat) (v : Int) : Bool := decide (0 ≤ v) && decide (v < (n : Int))
/-- What is wrong with a band and a run. -/
def bandE (c : Int) (ins outs : List TPort) (n : Nat) (sq : List Int) (ps st k T : Int) : Int :=
  if c ≠ 0 then c else if isBandB ins outs = false then 21 else if (sq.length : Int) = 0 then 26 else if 4096 < (sq.length : Int) then 26 else if sq.all (sqOk (vals ins)) = false then 27 else if ps < 0 then 27 else
  if (sq.length : Int) ≤ ps then 27 else if st < 0 then 27 else if (n : Int) ≤ st then 27 else if k < 0 then 27 else if 1099511627776 < k then 27 else if T < 0 then 26 else if 1048576 < T then 26 else 0
def noBand : FV := .agg [.nilS, .int .i64 0, .int .i64 0, .bool false, .int .i64 0]
def bandF (c : Int) (ins outs : List TPort) (rows : List TRow) (n : Nat) (sq : List Int) (ps st : Int) (h : Bool) (k T : Int) : FV :=
  if bandE c ins outs n sq ps st k T = 0 then .tup [.agg (BF (bRun ins rows T.toNat ⟨sq, ps, st, h, k⟩)), .int .i64 0] else .tup [noBand, .int .i64 (bandE c ins outs n sq ps st k T)]
structure BandOk (c : Int) (ins outs : List TPort) (n : Nat) (sq : List Int) (ps st k T : Int) : Prop where
  cz : c = 0
  bb : isBandB ins outs = true
  len : 1 ≤ sq.length ∧ sq.length ≤ 4096
  sqv : ∀ v ∈ sq, 0 ≤ v ∧ v < (vals ins : Int)
  psv : 0 ≤ ps ∧ ps < (sq.length : Int)
  stv : 0 ≤ st ∧ st < (n : Int)
  kv : 0 ≤ k ∧ k ≤ 1099511627776
  Tv : 0 ≤ T ∧ T ≤ 1048576
theorem bandOk {c : Int} {ins outs : List TPort} {n : Nat} {sq : List Int} {ps st k T : Int} (h : bandE c ins outs n sq ps st k T = 0) : BandOk c ins outs n sq ps st k T := by
  unfold bandE at h
  by_cases g1 : c ≠ 0
  · rw [if_pos g1] at h; exact absurd h g1
  rw [if_neg g1] at h
  by_cases g2 : isBandB ins outs = false
  · rw [if_pos g2] at h; omega
  rw [if_neg g2] at h
  by_cases g3 : (sq.length : Int) = 0
  · rw [if_pos g3] at h; omega
  rw [if_neg g3] at h
  by_cases g4 : 4096 < (sq.length : Int)
  · rw [if_pos g4] at h; omega
  rw [if_neg g4] at h
  by_cases g5 : sq.all (sqOk (vals ins)) = false
  · rw [if_pos g5] at h; omega
  rw [if_neg g5] at h
  by_cases g6 : ps < 0
  · rw [if_pos g6] at h; omega
  rw [if_neg g6] at h
  by_cases g7 : (sq.length : Int) ≤ ps
  · rw [if_pos g7] at h; omega
  rw [if_neg g7] at h
  by_cases g8 : st < 0
  · rw [if_pos g8] at h; omega
  rw [if_neg g8] at h
  by_cases g9 : (n : Int) ≤ st
  · rw [if_pos g9] at h; omega
  rw [if_neg g9] at h
  by_cases g10 : k < 0
  · rw [if_pos g10] at h; omega
  rw [if_neg g10] at h
  by_cases g11 : 1099511627776 < k
  · rw [if_pos g11] at h; omega
  rw [if_neg g11] at h
  by_cases g12 : T < 0
  · rw [if_pos g12] at h; omega
  rw [if_neg g12] at h
  by_cases g13 : 1048576 < T
  · rw [if_pos g13] at h; omega
  refine ⟨Decidable.not_not.1 g1, by simpa using g2, ⟨by omega, by omega⟩, fun v hv => ?_, ⟨by omega, by omega⟩, ⟨by omega, by omega⟩, ⟨by omega, by omega⟩, ⟨by omega, by omega⟩⟩
  have := List.all_eq_true.1 (show sq.all (sqOk (vals ins)) = true by simpa using g5) v hv
  simpa [sqOk] using this
theorem bandE_of {c : Int} {ins outs : List TPort} {n : Nat} {sq : List Int} {ps st k T : Int} (h : BandOk c ins outs n sq ps st k T) : bandE c ins outs n sq ps st k T = 0 := by
  obtain ⟨h1, h2, h3, h4, h5, h6, h7, h8⟩ := h
  unfold bandE
  rw [if_neg (fun g => g h1), if_neg (by simp [h2]), if_neg (by omega), if_neg (by omega), if_neg (by simp only [Bool.not_eq_false, List.all_eq_true]; intro v hv; simpa [sqOk] using h4 v hv), if_neg (by omega), if_neg (by omega), if_neg (by omega), if_neg (by omega), if_neg (by omega), if_neg (by omega), if_neg (by omega), if_neg (by omega)]
section
variable {nm : Str} {sts : Option (List Str)} {start : Int} {ins outs : Option (List TPort)} {rows : Option (List TRow)} {osq : Option (List Int)}
theorem ref_band_L1 {p : TPort} (hp : li ins = [p]) (hl : (li osq).length < 1000000000000000) (T ps st k : Int) (x3 x4 x6 x7 x12 : FV) (z1 z2 z3 z4 : FV) (r18 : List (List FV)) : ∀ (t : List Int) (i : Nat), (li osq).drop i = t →
    ref02_RunBand.L1 (.int .i64 T) (.int .i64 ((li osq).length : Int)) (.int .i64 (i : Int)) x3 (sl S sts) x4 (sl P ins) x6 x7 (sl I osq) (.int .i64 ps) (.int .i64 st) x12 (.int .i64 k) z1 z2 z3 z4 r18 =
      if t.all (sqOk (vals (li ins))) = false then some (.tup [noBand, .int .i64 27]) else if ps < 0 then some (.tup [noBand, .int .i64 27]) else if ((li osq).length : Int) ≤ ps then some (.tup [noBand, .int .i64 27]) else if st < 0 then some (.tup [noBand, .int .i64 27]) else if ((li sts).length : Int) ≤ st then some (.tup [noBand, .int .i64 27]) else
        if k < 0 then some (.tup [noBand, .int .i64 27]) else if 1099511627776 < k then some (.tup [noBand, .int .i64 27]) else ref02_RunBand.L2 (.int .i64 T) (.int .i64 ((li osq).length : Int)) x3 (sl S sts) x4 (sl P ins) x6 x7 (sl I osq) (.int .i64 ps) (.int .i64 st) x12 (.int .i64 k) z1 z2 z3 z4 r18 := by
  intro t
  have i0 : fIdxC 2 (sl P ins) (.int .i64 0) = some (P p) := idx_sl (k := 0) (by rw [hp]; rfl) rfl
  have hv : vals (li ins) = (li p.2.1).length := by rw [hp]; rfl
  induction t with
  | nil =>
    intro i hd
    have hk := drop_nil hd
    rw [ref02_RunBand.L1_eq]
    simp only [fLen_sl, bindO_s, fCond_b, fBin_lss, fBin_geq, fBin_gtr, decide_eq_true_eq, Int.ofNat_lt, hk, if_false, List.all_nil, Bool.true_eq_false]
    rfl
  | cons x t ih =>
    intro i hd
    obtain ⟨hk, hn, hs⟩ := drop_cons hd
    have e : IntKind.i64.wrap ((i : Int) + 1) = ((i + 1 : Nat) : Int) := wrap64 (by omega) (by omega)
    rw [ref02_RunBand.L1_eq]
    simp only [fLen_sl, bindO_s, fCond_b, fBin_lss, fBin_geq, decide_eq_true_eq, Int.ofNat_lt, hk, if_true, idx_sl hn (I_len x), I_zero, i0, P_one, fBin_add, e, ih (i + 1) hs, List.all_cons, sqOk, hv]
    by_cases g1 : x < 0
    · simp [g1, show ¬ 0 ≤ x by omega, noBand]
    · by_cases g2 : ((li p.2.1).length : Int) ≤ x
      · simp [g1, g2, show ¬ x < ((li p.2.1).length : Int) by omega, noBand]
      · simp only [g1, g2, if_false, show 0 ≤ x by omega, show x < ((li p.2.1).length : Int) by omega, decide_true, Bool.true_and]
theorem dyn_band (v : Int) (c : FV) : callDyn false (.func 63 [.eptr [c] 0]) [.int .i64 v] = mach_RunBand_1 (.int .i64 v) (.eptr [c] 0) := by kernel_rfl
theorem band1_ok (v : Int) (n : Nat) : mach_RunBand_1 (.int .i64 v) (.eptr [.int .i64 (n : Int)] 0) = some (.bool (!sqOk n v)) := by
  rw [mach_RunBand_1.eq]
  simp only [fBin_lss, fBin_geq, bindO_s, fCond_b, decide_eq_true_eq, fLd, List.getElem?_cons_zero, sqOk]
  by_cases g1 : v < 0
  · simp [g1, show ¬ 0 ≤ v by omega]
  · by_cases g2 : (n : Int) ≤ v
    · simp [g1, g2, show ¬ v < (n : Int) by omega]
    · simp [g1, g2, show 0 ≤ v by omega, show v < (n : Int) by omega]
theorem index_L0' (hl : (li osq).length < 1000000000000000) (n : Nat) : ∀ (t : List Int) (i : Nat), (li osq).drop i = t →
    ∃ m : Int, slices_IndexFunc_int.L0 (sl I osq) (.func 63 [.eptr [.int .i64 (n : Int)] 0]) (.int .i64 ((li osq).length : Int)) (.int .i64 (i : Int)) = some (.int .i64 m) ∧ (0 ≤ m ↔ t.all (sqOk n) = false) := by
  intro t
  induction t with
  | nil =>
    intro i hd
    have hk := drop_nil hd
    refine ⟨-1, ?_, by simp⟩
    rw [slices_IndexFunc_int.L0_eq]
    simp only [bindO_s, fCond_b, fBin_lss, decide_eq_true_eq, Int.ofNat_lt, hk, if_false]
  | cons x t ih =>
    intro i hd
    obtain ⟨hk, hn, hs⟩ := drop_cons hd
    have e : IntKind.i64.wrap ((i : Int) + 1) = ((i + 1 : Nat) : Int) := wrap64 (by omega) (by omega)
    obtain ⟨m, h1, h2⟩ := ih (i + 1) hs
    rw [slices_IndexFunc_int.L0_eq]
    by_cases g : sqOk n x = true
    · refine ⟨m, ?_, by simp [g, h2]⟩
      simp only [bindO_s, fCond_b, fBin_lss, decide_eq_true_eq, Int.ofNat_lt, hk, if_true, idx_sl hn (I_len x), I_zero, dyn_band, band1_ok, g, Bool.not_true, Bool.false_eq_true, if_false, fBin_add, e, h1]
    · refine ⟨(i : Int), ?_, by simp [g]⟩
      have g' : sqOk n x = false := by simpa using g
      simp only [bindO_s, fCond_b, fBin_lss, decide_eq_true_eq, Int.ofNat_lt, hk, if_true, idx_sl hn (I_len x), I_zero, dyn_band, band1_ok, g', Bool.not_false]
theorem contains_ok (hl : (li osq).length < 1000000000000000) (n : Nat) : slices_ContainsFunc_int (sl I osq) (.func 63 [.eptr [.int .i64 (n : Int)] 0]) = some (.bool (!((li osq).all (sqOk n)))) := by
  obtain ⟨m, h1, h2⟩ := index_L0' hl n (li osq) 0 rfl
  rw [slices_ContainsFunc_int.eq, slices_IndexFunc_int.eq]
  simp only [fLen_sl, bindO_s]
  rw [show (FV.int .i64 0) = .int .i64 ((0 : Nat) : Int) from rfl, h1]
  simp only [bindO_s, fBin_geq]
  congr 2
  by_cases g : (li osq).all (sqOk n) = true
  · have : ¬ 0 ≤ m := fun q => by rw [h2.1 q] at g; cases g
    simp [g, this]
  · have g' : (li osq).all (sqOk n) = false := by simpa using g
    simp [g', h2.2 g']
theorem ref_band_ok (w : SmM (nm, sts, start, ins, outs, rows, ())) (hl : (li osq).length < 1000000000000000) (ps st : Int) (hh : Bool) (k T : Int) :
    ref02_RunBand (.agg [.str nm, sl S sts, .int .i64 start, sl P ins, sl P outs, sl RW rows]) (.agg [sl I osq, .int .i64 ps, .int .i64 st, .bool hh, .int .i64 k]) (.int .i64 T) =
      some (bandF (checkG nm (li sts) start (li ins) (li outs) (li rows)) (li ins) (li outs) (li rows) (li sts).length (li osq) ps st hh k T) := by
  have hc := ref_check_ok w
  simp only [MC, checkP] at hc
  rw [ref02_RunBand.eq]
  simp only [fIsAgg_agg, List.length_cons, List.length_nil, fCell_zero, fCell_succ, hc, bindO_s, fBin_neq, fBin_eql, fBin_gtr, fCond_b, decide_eq_true_eq, fLen_sl, isBand_ok w.ins.2 w.outs.2, fUn_not, Bool.not_eq_true']
  rw [show (0 + 1 + 1 + 1 + 1 + 1 + 1 == 6) = true from rfl, gB_t, show (0 + 1 + 1 + 1 + 1 + 1 == 5) = true from rfl, gB_t]
  have hne : ∀ {e : Int}, e ≠ 0 → bandE (checkG nm (li sts) start (li ins) (li outs) (li rows)) (li ins) (li outs) (li sts).length (li osq) ps st k T = e → some (FV.tup [noBand, .int .i64 e]) = some (bandF (checkG nm (li sts) start (li ins) (li outs) (li rows)) (li ins) (li outs) (li rows) (li sts).length (li osq) ps st hh k T) := fun {e} h1 h2 => by
    unfold bandF
    rw [h2, if_neg h1]
  by_cases g1 : checkG nm (li sts) start (li ins) (li outs) (li rows) ≠ 0
  · rw [if_pos g1]
    exact hne g1 (by unfold bandE; rw [if_pos g1])
  rw [if_neg g1]
  by_cases g2 : isBandB (li ins) (li outs) = false
  · rw [if_pos g2]
    exact hne (by decide) (by unfold bandE; rw [if_neg g1, if_pos g2])
  rw [if_neg g2]
  by_cases g3 : ((li osq).length : Int) = 0
  · rw [if_pos g3]
    exact hne (by decide) (by unfold bandE; rw [if_neg g1, if_neg g2, if_pos g3])
  rw [if_neg g3]
  by_cases g4 : 4096 < ((li osq).length : Int)
  · rw [if_pos g4]
    exact hne (by decide) (by unfold bandE; rw [if_neg g1, if_neg g2, if_neg g3, if_pos g4])
  rw [if_neg g4, ref02_RunBand.L0_eq]
  have h := okM (Decidable.not_not.1 g1)
  have hb : isBandB (li ins) (li outs) = true := by simpa using g2
  obtain ⟨p, hp⟩ : ∃ p, li ins = [p] := by
    unfold isBandB at hb
    split at hb
    · rename_i p _ _ _ hp _
      exact ⟨p, hp⟩
    · cases hb
  refine Eq.trans (ref_band_L1 hp hl T ps st k (.str nm) (.int .i64 start) (sl P outs) (sl RW rows) (.bool hh) (.int .i64 0) (.int .i64 0) (.bool false) (.int .i64 0) [] (li osq) 0 rfl) ?_
  by_cases g5 : (li osq).all (sqOk (vals (li ins))) = false
  · rw [if_pos g5]
    exact hne (by decide) (by unfold bandE; rw [if_neg g1, if_neg g2, if_neg g3, if_neg g4, if_pos g5])
  rw [if_neg g5]
  by_cases g6 : ps < 0
  · rw [if_pos g6]
    exact hne (by decide) (by unfold bandE; rw [if_neg g1, if_neg g2, if_neg g3, if_neg g4, if_neg g5, if_pos g6])
  rw [if_neg g6]
  by_cases g7 : ((li osq).length : Int) ≤ ps
  · rw [if_pos g7]
    exact hne (by decide) (by unfold bandE; rw [if_neg g1, if_neg g2, if_neg g3, if_neg g4, if_neg g5, if_neg g6, if_pos g7])
  rw [if_neg g7]
  by_cases g8 : st < 0
  · rw [if_pos g8]
    exact hne (by decide) (by unfold bandE; rw [if_neg g1, if_neg g2, if_neg g3, if_neg g4, if_neg g5, if_neg g6, if_neg g7, if_pos g8])
  rw [if_neg g8]
  by_cases g9 : ((li sts).length : Int) ≤ st
  · rw [if_pos g9]
    exact hne (by decide) (by unfold bandE; rw [if_neg g1, if_neg g2, if_neg g3, if_neg g4, if_neg g5, if_neg g6, if_neg g7, if_neg g8, if_pos g9])
  rw [if_neg g9]
  by_cases g10 : k < 0
  · rw [if_pos g10]
    exact hne (by decide) (by unfold bandE; rw [if_neg g1, if_neg g2, if_neg g3, if_neg g4, if_neg g5, if_neg g6, if_neg g7, if_neg g8, if_neg g9, if_pos g10])
  rw [if_neg g10]
  by_cases g11 : 1099511627776 < k
  · rw [if_pos g11]
    exact hne (by decide) (by unfold bandE; rw [if_neg g1, if_neg g2, if_neg g3, if_neg g4, if_neg g5, if_neg g6, if_neg g7, if_neg g8, if_neg g9, if_neg g10, if_pos g11])
  rw [if_neg g11, ref02_RunBand.L2_eq]
  simp only [fBin_lss, fBin_gtr, bindO_s, fCond_b, decide_eq_true_eq]
  by_cases g12 : T < 0
  · rw [if_pos g12]
    exact hne (by decide) (by unfold bandE; rw [if_neg g1, if_neg g2, if_neg g3, if_neg g4, if_neg g5, if_neg g6, if_neg g7, if_neg g8, if_neg g9, if_neg g10, if_neg g11, if_pos g12])
  rw [if_neg g12]
  by_cases g13 : 1048576 < T
  · rw [if_pos g13]
    exact hne (by decide) (by unfold bandE; rw [if_neg g1, if_neg g2, if_neg g3, if_neg g4, if_neg g5, if_neg g6, if_neg g7, if_neg g8, if_neg g9, if_neg g10, if_neg g11, if_neg g12, if_pos g13])
  rw [if_neg g13, ref02_RunBand.L3_eq]
  have h0 : bandE (checkG nm (li sts) start (li ins) (li outs) (li rows)) (li ins) (li outs) (li sts).length (li osq) ps st k T = 0 := by unfold bandE; rw [if_neg g1, if_neg g2, if_neg g3, if_neg g4, if_neg g5, if_neg g6, if_neg g7, if_neg g8, if_neg g9, if_neg g10, if_neg g11, if_neg g12, if_neg g13]
  have bo := bandOk h0
  have hL := ref_band_L4 (nm := nm) h hb (n := (li osq).length) bo.len.2 (T := T.toNat) (by omega) (.int .i64 0) (.int .i64 0) (.bool false) (.int .i64 0) [] T.toNat 0 ⟨li osq, ps, st, hh, k⟩ (by omega) (by omega) ⟨rfl, bo.sqv, bo.psv, bo.stv⟩ bo.kv.1 (show k + _ ≤ _ by have := bo.kv; omega)
  rw [show ((T.toNat : Nat) : Int) = T by omega] at hL
  simp only [asRows_sl, bindO_s, rowsSz_I, List.length_map, show (0 + (li osq).length) * 8 ≤ room by unfold room; omega, decide_true, gB_t, List.nil_append]
  refine Eq.trans hL ?_
  unfold bandF
  rw [if_pos h0]
theorem mach_band_ok (w : SmM (nm, sts, start, ins, outs, rows, ())) (hl : (li osq).length < 1000000000000000) (ps st : Int) (hh : Bool) (k T : Int) :
    mach_RunBand (.agg [.str nm, sl S sts, .int .i64 start, sl P ins, sl P outs, sl RW rows]) (.agg [sl I osq, .int .i64 ps, .int .i64 st, .bool hh, .int .i64 k]) (.int .i64 T) =
      some (bandF (checkG nm (li sts) start (li ins) (li outs) (li rows)) (li ins) (li outs) (li rows) (li sts).length (li osq) ps st hh k T) := by
  have hc := mach_check_ok w
  simp only [MC, checkP] at hc
  rw [mach_RunBand.eq]
  simp only [fIsAgg_agg, List.length_cons, List.length_nil, fCell_zero, fCell_succ, hc, bindO_s, fBin_neq, fBin_eql, fBin_gtr, fBin_lss, fBin_geq, fCond_b, decide_eq_true_eq, fLen_sl, isBander_ok w.ins.2 w.outs.2, fUn_not, Bool.not_eq_true']
  rw [show (0 + 1 + 1 + 1 + 1 + 1 + 1 == 6) = true from rfl, gB_t, show (0 + 1 + 1 + 1 + 1 + 1 == 5) = true from rfl, gB_t]
  have hne : ∀ {e : Int}, e ≠ 0 → bandE (checkG nm (li sts) start (li ins) (li outs) (li rows)) (li ins) (li outs) (li sts).length (li osq) ps st k T = e → some (FV.tup [noBand, .int .i64 e]) = some (bandF (checkG nm (li sts) start (li ins) (li outs) (li rows)) (li ins) (li outs) (li rows) (li sts).length (li osq) ps st hh k T) := fun {e} h1 h2 => by
    unfold bandF
    rw [h2, if_neg h1]
  by_cases g1 : checkG nm (li sts) start (li ins) (li outs) (li rows) ≠ 0
  · rw [if_pos g1]
    exact hne g1 (by unfold bandE; rw [if_pos g1])
  rw [if_neg g1]
  by_cases g2 : isBandB (li ins) (li outs) = false
  · rw [if_pos g2]
    exact hne (by decide) (by unfold bandE; rw [if_neg g1, if_pos g2])
  rw [if_neg g2]
  have h := okM (Decidable.not_not.1 g1)
  have hb : isBandB (li ins) (li outs) = true := by simpa using g2
  obtain ⟨p, hp⟩ : ∃ p, li ins = [p] := by
    unfold isBandB at hb
    split at hb
    · rename_i p _ _ _ hp _
      exact ⟨p, hp⟩
    · cases hb
  have i0 : fIdxC 2 (sl P ins) (.int .i64 0) = some (P p) := idx_sl (k := 0) (by rw [hp]; rfl) rfl
  have hv : vals (li ins) = (li p.2.1).length := by rw [hp]; rfl
  simp only [i0, P_one, fLen_sl, bindO_s, fBin_eql, fBin_gtr, fBin_lss, fBin_geq, fCond_b, decide_eq_true_eq, contains_ok hl, ← hv, Bool.not_eq_true']
  by_cases g3 : ((li osq).length : Int) = 0
  · rw [if_pos g3]
    exact hne (by decide) (by unfold bandE; rw [if_neg g1, if_neg g2, if_pos g3])
  rw [if_neg g3]
  by_cases g4 : 4096 < ((li osq).length : Int)
  · rw [if_pos g4]
    exact hne (by decide) (by unfold bandE; rw [if_neg g1, if_neg g2, if_neg g3, if_pos g4])
  rw [if_neg g4]
  by_cases g5 : (li osq).all (sqOk (vals (li ins))) = false
  · rw [if_pos g5]
    exact hne (by decide) (by unfold bandE; rw [if_neg g1, if_neg g2, if_neg g3, if_neg g4, if_pos g5])
  rw [if_neg g5]
  by_cases g6 : ps < 0
  · rw [if_pos g6]
    exact hne (by decide) (by unfold bandE; rw [if_neg g1, if_neg g2, if_neg g3, if_neg g4, if_neg g5, if_pos g6])
  rw [if_neg g6]
  by_cases g7 : ((li osq).length : Int) ≤ ps
  · rw [if_pos g7]
    exact hne (by decide) (by unfold bandE; rw [if_neg g1, if_neg g2, if_neg g3, if_neg g4, if_neg g5, if_neg g6, if_pos g7])
  rw [if_neg g7]
  by_cases g8 : st < 0
  · rw [if_pos g8]
    exact hne (by decide) (by unfold bandE; rw [if_neg g1, if_neg g2, if_neg g3, if_neg g4, if_neg g5, if_neg g6, if_neg g7, if_pos g8])
  rw [if_neg g8]
  by_cases g9 : ((li sts).length : Int) ≤ st
  · rw [if_pos g9]
    exact hne (by decide) (by unfold bandE; rw [if_neg g1, if_neg g2, if_neg g3, if_neg g4, if_neg g5, if_neg g6, if_neg g7, if_neg g8, if_pos g9])
  rw [if_neg g9]
  by_cases g10 : k < 0
  · rw [if_pos g10]
    exact hne (by decide) (by unfold bandE; rw [if_neg g1, if_neg g2, if_neg g3, if_neg g4, if_neg g5, if_neg g6, if_neg g7, if_neg g8, if_neg g9, if_pos g10])
  rw [if_neg g10]
  by_cases g11 : 1099511627776 < k
  · rw [if_pos g11]
    exact hne (by decide) (by unfold bandE; rw [if_neg g1, if_neg g2, if_neg g3, if_neg g4, if_neg g5, if_neg g6, if_neg g7, if_neg g8, if_neg g9, if_neg g10, if_pos g11])
  rw [if_neg g11]
  by_cases g12 : T < 0
  · rw [if_pos g12]
    exact hne (by decide) (by unfold bandE; rw [if_neg g1, if_neg g2, if_neg g3, if_neg g4, if_neg g5, if_neg g6, if_neg g7, if_neg g8, if_neg g9, if_neg g10, if_neg g11, if_pos g12])
  rw [if_neg g12]
  by_cases g13 : 1048576 < T
  · rw [if_pos g13]
    exact hne (by decide) (by unfold bandE; rw [if_neg g1, if_neg g2, if_neg g3, if_neg g4, if_neg g5, if_neg g6, if_neg g7, if_neg g8, if_neg g9, if_neg g10, if_neg g11, if_neg g12, if_pos g13])
  rw [if_neg g13, mach_RunBand.L1_eq, mach_RunBand.L0_eq]
  have h0 : bandE (checkG nm (li sts) start (li ins) (li outs) (li rows)) (li ins) (li outs) (li sts).length (li osq) ps st k T = 0 := by unfold bandE; rw [if_neg g1, if_neg g2, if_neg g3, if_neg g4, if_neg g5, if_neg g6, if_neg g7, if_neg g8, if_neg g9, if_neg g10, if_neg g11, if_neg g12, if_neg g13]
  have bo := bandOk h0
  have hL := mach_band_L2 (nm := nm) h hb (n := (li osq).length) bo.len.2 (T := T.toNat) (by omega) (.int .i64 0) (.int .i64 0) (.bool false) (.int .i64 0) [] T.toNat 0 ⟨li osq, ps, st, hh, k⟩ (by omega) (by omega) ⟨rfl, bo.sqv, bo.psv, bo.stv⟩ bo.kv.1 (show k + _ ≤ _ by have := bo.kv; omega)
  rw [show ((T.toNat : Nat) : Int) = T by omega] at hL
  have hcl : slices_Clone_int (sl I osq) = some (.arr ((li osq).map I)) := by
    rw [slices_Clone_int.eq]
    simp only [asRows_sl, bindO_s, rowsSz_I, gB_t, List.length_map, show (0 + (li osq).length) * 8 ≤ room by unfold room; omega, decide_true, List.nil_append, onFV_sl]
  simp only [hcl, bindO_s, arrRows_arr]
  refine Eq.trans hL ?_
  unfold bandF
  rw [if_pos h0]
/-! ### The law -/
theorem sameBand_ok (b : Bd) (h : b.sq.length < 1000000000000000) : ref02_SameBand (.agg (BF b)) (.agg (BF b)) = some (.bool true) := by
  rw [ref02_SameBand.eq]
  simp only [BF, fIsAgg_agg, List.length_cons, List.length_nil, fCell_zero, fCell_succ, sameInts_ok h, bindO_s, fCond_b, if_true, fBin_eql, decide_true, fBoolBin_eql]
  rw [show (0 + 1 + 1 + 1 + 1 + 1 == 5) = true from rfl, gB_t, gB_t]
theorem sameBand_no : ref02_SameBand noBand noBand = some (.bool true) := by
  rw [ref02_SameBand.eq, noBand]
  simp only [fIsAgg_agg, List.length_cons, List.length_nil, fCell_zero, fCell_succ, sameInts_nil, bindO_s, fCond_b, if_true, fBin_eql, decide_true, fBoolBin_eql]
  rw [show (0 + 1 + 1 + 1 + 1 + 1 == 5) = true from rfl, gB_t, gB_t]
theorem bands_law (w : SmM (nm, sts, start, ins, outs, rows, ())) (hl : (li osq).length < 1000000000000000) (ps st : Int) (hh : Bool) (k T first : Int) :
    law02_MachBands (.agg [.str nm, sl S sts, .int .i64 start, sl P ins, sl P outs, sl RW rows]) (.agg [sl I osq, .int .i64 ps, .int .i64 st, .bool hh, .int .i64 k]) (.agg [.int .i64 T, .int .i64 first]) = some (.bool true) := by
  have h1 := ref_band_ok w hl ps st hh k T
  have h2 := mach_band_ok w hl ps st hh k T
  rw [law02_MachBands.eq]
  simp only [fIsAgg_agg, List.length_cons, List.length_nil, fCell_zero, fCell_succ, h1, h2, bindO_s]
  rw [show (0 + 1 + 1 + 1 + 1 + 1 + 1 == 6) = true from rfl, gB_t, show (0 + 1 + 1 + 1 + 1 + 1 == 5) = true from rfl, gB_t, show (0 + 1 + 1 == 2) = true from rfl, gB_t]
  by_cases g0 : bandE (checkG nm (li sts) start (li ins) (li outs) (li rows)) (li ins) (li outs) (li sts).length (li osq) ps st k T = 0
  · have bo := bandOk g0
    have h := okM bo.cz
    have hb := bo.bb
    have ok0 : BOk (li ins) (li osq).length (li sts).length ⟨li osq, ps, st, hh, k⟩ := ⟨rfl, bo.sqv, bo.psv, bo.stv⟩
    have okT := bRun_ok h hb T.toNat _ ok0
    have hlT := okT.len
    have hsame := sameBand_ok (bRun (li ins) (li rows) T.toNat ⟨li osq, ps, st, hh, k⟩) (by rw [hlT]; exact hl)
    unfold bandF
    rw [if_pos g0]
    simp only [BF] at hsame
    simp only [BF, fIsTup_tup, fIsAgg_agg, List.length_cons, List.length_nil, fTup_zero, fTup_succ, fCell_zero, fCell_succ, fBin_neq, bindO_s, ne_eq, not_true_eq_false, decide_false, fCond_b, Bool.false_eq_true, if_false, hsame, fUn_not, Bool.not_true]
    rw [show (0 + 1 + 1 == 2) = true from rfl, gB_t, show (0 + 1 + 1 + 1 + 1 + 1 == 5) = true from rfl, gB_t, gB_t, gB_t, law02_MachBands.L0_eq]
    simp only [fBin_neq, fBin_lss, fBin_gtr, bindO_s, ne_eq, not_true_eq_false, decide_false, fCond_b, Bool.false_eq_true, if_false, decide_eq_true_eq]
    by_cases q1 : first < 0
    · rw [if_pos q1]
    rw [if_neg q1]
    by_cases q2 : T < first
    · rw [if_pos q2]
    rw [if_neg q2, law02_MachBands.L1_eq]
    have bo1 : BandOk (checkG nm (li sts) start (li ins) (li outs) (li rows)) (li ins) (li outs) (li sts).length (li osq) ps st k first := ⟨bo.cz, bo.bb, bo.len, bo.sqv, bo.psv, bo.stv, bo.kv, by have := bo.Tv; omega⟩
    have e1 := bandE_of bo1
    have h3 := mach_band_ok w hl ps st hh k first
    unfold bandF at h3
    rw [if_pos e1] at h3
    have okF := bRun_ok h hb first.toNat _ ok0
    simp only [BF] at h3
    simp only [h3, fIsTup_tup, fIsAgg_agg, List.length_cons, List.length_nil, fTup_zero, fTup_succ, fCell_zero, fCell_succ, fBin_neq, fBin_gtr, fBin_sub, bindO_s, ne_eq, not_true_eq_false, decide_false, fCond_b, Bool.false_eq_true, if_false, decide_eq_true_eq]
    rw [show (0 + 1 + 1 == 2) = true from rfl, gB_t, show (0 + 1 + 1 + 1 + 1 + 1 == 5) = true from rfl, gB_t]
    have hsum := bRun_add (li ins) (li rows) first.toNat (T - first).toNat ⟨li osq, ps, st, hh, k⟩
    have hTf : first.toNat + (T - first).toNat = T.toNat := by have := bo.Tv; omega
    rw [hTf] at hsum
    have hk := bRun_k (li ins) (li rows) first.toNat ⟨li osq, ps, st, hh, k⟩
    simp only at hk
    have hbk := bo.kv
    have hbT := bo.Tv
    generalize hB : bRun (li ins) (li rows) first.toNat ⟨li osq, ps, st, hh, k⟩ = B at *
    by_cases q3 : 1099511627776 < B.k
    · rw [if_pos q3]
    rw [if_neg q3]
    have w1 : IntKind.i64.wrap (T - first) = T - first := wrap64 (by omega) (by omega)
    have hlB := okF.len
    have bo2 : BandOk (checkG nm (li sts) start (li ins) (li outs) (li rows)) (li ins) (li outs) (li sts).length B.sq B.ps B.st B.k (T - first) := ⟨bo.cz, bo.bb, by rw [hlB]; exact bo.len, okF.sq, by rw [hlB]; exact okF.ps, okF.st, by omega, by omega⟩
    have e2 := bandE_of bo2
    have h4 := mach_band_ok (osq := some B.sq) w (by rw [li_some, hlB]; exact hl) B.ps B.st B.h B.k (T - first)
    rw [li_some] at h4
    unfold bandF at h4
    rw [if_pos e2, sl_some, ← hsum] at h4
    simp only [BF] at h4
    simp only [w1, h4, fIsTup_tup, fIsAgg_agg, List.length_cons, List.length_nil, fTup_zero, fTup_succ, fCell_zero, fCell_succ, fBin_eql, bindO_s, decide_true, fCond_b, if_true, hsame]
    rw [show (0 + 1 + 1 == 2) = true from rfl, gB_t, show (0 + 1 + 1 + 1 + 1 + 1 == 5) = true from rfl, gB_t]
  · have hno := sameBand_no
    unfold bandF
    rw [if_neg g0]
    simp only [noBand] at hno
    simp only [noBand, fIsTup_tup, fIsAgg_agg, List.length_cons, List.length_nil, fTup_zero, fTup_succ, fCell_zero, fCell_succ, fBin_neq, bindO_s, ne_eq, not_true_eq_false, decide_false, fCond_b, Bool.false_eq_true, if_false, hno, fUn_not, Bool.not_true]
    rw [show (0 + 1 + 1 == 2) = true from rfl, gB_t, show (0 + 1 + 1 + 1 + 1 + 1 == 5) = true from rfl, gB_t, gB_t, gB_t, law02_MachBands.L0_eq]
    simp only [fBin_neq, bindO_s, fCond_b, decide_eq_true_eq, ne_eq]
    rw [if_pos g0]
end
end Go.Proofs.Ytelcbakleaaneaa
end
