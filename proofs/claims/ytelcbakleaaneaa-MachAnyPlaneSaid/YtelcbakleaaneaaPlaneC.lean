/- Runs of planes: the document's steps; the law MachAnyPlane. -/
import Derived.Test.YtelcbakleaaneaaPlaneB
namespace Go.Proofs.Ytelcbakleaaneaa
open Go Go.Proofs.Ytelcbakleaaneaa.VM
set_option linter.unusedVariables false
set_option linter.unusedSimpArgs false

theorem ref_set {o : Option (List Tm)} {t : Tm} {j : Nat} (hj : j < 10000000000000) (ht : (li o)[j]? = some t) (hl : (li t.2).length < 1000000000000000) (c0 c1 c2 c6 c7 c8 c9 : FV) (r11 r12 r13 : List (List FV)) :
    ∀ (s : List Int) (k : Nat) (R : List Int), (li t.2).drop k = s → (∀ n ∈ s, 0 ≤ n ∧ n < (R.length : Int)) →
    ref02_RunPlanes.L3 c0 c1 c2 (.int .i64 (j : Int)) (.bool true) (.int .i64 (k : Int)) c6 c7 c8 c9 (sl T o) r11 r12 r13 (R.map I) =
      ref02_RunPlanes.L1 c0 c1 c2 (.int .i64 ((j + 1 : Nat) : Int)) c6 c7 c8 c9 (sl T o) r11 r12 r13 ((setAll R s).map I) := by
  intro s
  have ej : IntKind.i64.wrap ((j : Int) + 1) = ((j + 1 : Nat) : Int) := wrap64 (by omega) (by omega)
  induction s with
  | nil =>
    intro k R hd hm
    rw [ref02_RunPlanes.L3_eq]
    simp [idx_sl ht (T_len t), drop_nil hd, setAll, ej]
  | cons n s ih =>
    intro k R hd hm
    obtain ⟨hk, hn, hs⟩ := drop_cons hd
    have e : IntKind.i64.wrap ((k : Int) + 1) = ((k + 1 : Nat) : Int) := wrap64 (by omega) (by omega)
    obtain ⟨n0, n1⟩ := hm n (by simp)
    have hlt : n.toNat < R.length := by omega
    rw [ref02_RunPlanes.L3_eq]
    simp only [idx_sl ht (T_len t), T_one, fLen_sl, bindO_s, fBin_lss, fCond_b, decide_eq_true_eq, Int.ofNat_lt, hk, if_true]
    rw [ref02_RunPlanes.L4_eq]
    simp only [idx_sl ht (T_len t), T_one, bindO_s, idx_sl hn (I_len n), I_zero, fBin_add, e]
    rw [nat_of n0, rIdx_at (by simpa using hlt)]
    simp only [bindO_s]
    rw [rSet_one (get_I hlt)]
    simp only [bindO_s]
    rw [map_set_I, ih (k + 1) _ hs (fun m hm' => by simpa using hm m (by simp [hm']))]
    rfl
theorem ref_noset {o : Option (List Tm)} {t : Tm} {j : Nat} (hj : j < 10000000000000) (ht : (li o)[j]? = some t) (c0 c1 c2 c6 c7 c8 c9 : FV) (r11 r12 r13 r14 : List (List FV)) (k : Nat) :
    ref02_RunPlanes.L3 c0 c1 c2 (.int .i64 (j : Int)) (.bool false) (.int .i64 (k : Int)) c6 c7 c8 c9 (sl T o) r11 r12 r13 r14 = ref02_RunPlanes.L1 c0 c1 c2 (.int .i64 ((j + 1 : Nat) : Int)) c6 c7 c8 c9 (sl T o) r11 r12 r13 r14 := by
  have ej : IntKind.i64.wrap ((j : Int) + 1) = ((j + 1 : Nat) : Int) := wrap64 (by omega) (by omega)
  rw [ref02_RunPlanes.L3_eq]
  simp [idx_sl ht (T_len t), ej]

theorem ref_fire {o : Option (List Tm)} {t : Tm} {j : Nat} (ht : (li o)[j]? = some t) (hl : (li t.1).length < 1000000000000000) {G : List Int} (hG : (li t.1).length = G.length) (c0 c1 c2 c6 c7 c8 c9 : FV) (r11 r12 r14 : List (List FV)) :
    ∀ (s : List Int) (k : Nat) (h : Bool), (li t.1).drop k = s →
    ref02_RunPlanes.L2 c0 c1 c2 (.int .i64 (j : Int)) (.bool h) (.int .i64 (k : Int)) c6 c7 c8 c9 (sl T o) r11 r12 (G.map I) r14 =
      ref02_RunPlanes.L3 c0 c1 c2 (.int .i64 (j : Int)) (.bool (h && fires s (G.drop k))) (.int .i64 0) c6 c7 c8 c9 (sl T o) r11 r12 (G.map I) r14 := by
  intro s
  induction s with
  | nil =>
    intro k h hd
    have := drop_nil hd
    rw [ref02_RunPlanes.L2_eq]
    simp [fires, show ¬ (k < G.length) by omega]
  | cons n s ih =>
    intro k h hd
    obtain ⟨hk, hn, hs⟩ := drop_cons hd
    have e : IntKind.i64.wrap ((k : Int) + 1) = ((k + 1 : Nat) : Int) := wrap64 (by omega) (by omega)
    have hkG : k < G.length := by omega
    have hdG : G.drop k = G[k] :: G.drop (k + 1) := List.drop_eq_getElem_cons hkG
    have ih' := fun h => ih (k + 1) h hs
    rw [ref02_RunPlanes.L2_eq]
    simp only [List.length_map, bindO_s, fBin_lss, fCond_b, decide_eq_true_eq, Int.ofNat_lt, hkG, if_true, idx_sl ht (T_len t), T_zero, idx_sl hn (I_len n), I_zero, fBin_add, fBin_eql, e, ih', hdG, fires]
    rw [rIdx_at (by simpa using hkG)]
    simp only [bindO_s]
    rw [rGet_at (get_I hkG)]
    simp only [List.getElem?_cons_zero, bindO_s, fBin_eql]
    cases h with
    | false => simp
    | true =>
      by_cases g1 : n = -1
      · simp only [g1, decide_true, if_true, Bool.true_or, Bool.true_and]
      · simp only [g1, decide_false, Bool.false_eq_true, if_false, if_true, Bool.false_or, Bool.true_and]
        exact ih' _

theorem ref_steps {o : Option (List Tm)} {l : List Tm} (ho : li o = l) (hl : l.length < 10000000000000) (hsm : ∀ t ∈ l, Small t) {G : List Int} {tot : Nat} (hok : ∀ t ∈ l, (li t.1).length = G.length ∧ ∀ n ∈ li t.2, 0 ≤ n ∧ n < (tot : Int))
    (c0 c1 c2 c4 c5 c6 c7 : FV) (r9 r10 : List (List FV)) : ∀ (s : List Tm) (j : Nat) (R : List Int), l.drop j = s → R.length = tot →
    ref02_RunPlanes.L1 c0 c1 c2 (.int .i64 (j : Int)) c4 c5 c6 c7 (sl T o) r9 r10 (G.map I) (R.map I) = ref02_RunPlanes.L1 c0 c1 c2 (.int .i64 (l.length : Int)) c4 c5 c6 c7 (sl T o) r9 r10 (G.map I) ((s.foldl (stepT G) R).map I) := by
  intro s
  induction s with
  | nil =>
    intro j R hd hR
    have := drop_nil hd
    rw [ref02_RunPlanes.L1_eq, ref02_RunPlanes.L1_eq]
    simp [ho, drop_nil hd]
  | cons t s ih =>
    intro j R hd hR
    obtain ⟨hj, hn, hs⟩ := drop_cons hd
    obtain ⟨s1, s2⟩ := hsm t (List.mem_of_getElem? hn)
    obtain ⟨k1, k3⟩ := hok t (List.mem_of_getElem? hn)
    have hn' : (li o)[j]? = some t := by rw [ho]; exact hn
    have hstep : ref02_RunPlanes.L1 c0 c1 c2 (.int .i64 (j : Int)) c4 c5 c6 c7 (sl T o) r9 r10 (G.map I) (R.map I) = ref02_RunPlanes.L1 c0 c1 c2 (.int .i64 ((j + 1 : Nat) : Int)) c4 c5 c6 c7 (sl T o) r9 r10 (G.map I) ((stepT G R t).map I) := by
      rw [ref02_RunPlanes.L1_eq]
      simp only [fLen_sl, ho, bindO_s, fBin_lss, fCond_b, decide_eq_true_eq, Int.ofNat_lt, hj, if_true]
      have := ref_fire hn' s1 k1 c0 c1 c2 c4 c5 c6 c7 r9 r10 (R.map I) _ 0 true rfl
      rw [show (FV.int IntKind.i64 0) = .int .i64 ((0 : Nat) : Int) from rfl, this]
      simp only [List.drop_zero, Bool.true_and, stepT]
      cases fires (li t.1) G with
      | true => exact ref_set (by omega) hn' s2 c0 c1 c2 c4 c5 c6 c7 r9 r10 (G.map I) _ 0 R rfl (by rw [hR]; exact k3)
      | false => exact ref_noset (by omega) hn' c0 c1 c2 c4 c5 c6 c7 r9 r10 (G.map I) (R.map I) 0
    rw [hstep, ih (j + 1) _ hs (by rw [stepT_len, hR])]
    rfl

theorem ref_run {o : Option (List Tm)} {l : List Tm} (ho : li o = l) (hl : l.length < 10000000000000) (hsm : ∀ t ∈ l, Small t) {pins : Option (List Int)} {ni no ns : Nat} (hpi : (li pins).length < 1000000000000000 ∧ capSum 0 (li pins) = (ni : Int)) (hni : ni + no + ns ≤ 128) (hok : ∀ t ∈ l, termOk ni no ns t = true)
    {oi : Option (List (Option (List Int)))} {xs : List (Option (List Int))} (hoi : li oi = xs) (hx : xs.length ≤ 4096) (hlen : ∀ x ∈ xs, (li x).length < 100000000000000) (c4 c6 : FV) : ∀ (s : List (Option (List Int))) (i : Nat) (st : List Int) (acc : List (List Int)), xs.drop i = s → st.length = ns → acc.length = i →
    ref02_RunPlanes.L0 (sl SI oi) (.int .i64 (no : Int)) (.int .i64 (i : Int)) (sl I pins) c4 (.int .i64 (ns : Int)) c6 (sl T o) (acc.map LL) (st.map I) =
      if s.all (inOk ni) then some (.tup [.arr ((acc ++ planeRun no (no + ns) l st s).map LL), .int .i64 0]) else some (.tup [.nilS, .int .i64 27]) := by
  intro s
  induction s with
  | nil =>
    intro i st acc hd hst hacc
    rw [ref02_RunPlanes.L0_eq]
    simp [hoi, drop_nil hd, planeRun]
  | cons x s ih =>
    intro i st acc hd hst hacc
    obtain ⟨hi, hn, hs⟩ := drop_cons hd
    have hxl := hlen x (List.mem_of_getElem? hn)
    have e : IntKind.i64.wrap ((i : Int) + 1) = ((i + 1 : Nat) : Int) := wrap64 (by omega) (by omega)
    have e2 : IntKind.i64.wrap ((no : Int) + (ns : Int)) = ((no + ns : Nat) : Int) := wrap64 (by omega) (by omega)
    rw [ref02_RunPlanes.L0_eq]
    simp only [fLen_sl, hoi, bindO_s, fBin_lss, fCond_b, decide_eq_true_eq, Int.ofNat_lt, hi, if_true, idx_sl (hoi ▸ hn) (SI_len x), SI_zero, ref02_sum_ok hpi.1, hpi.2, bitsAlone_ok (show (li x).length < 1000000000000000 by omega), fUn_not, List.all_cons]
    rw [show (decide (((li x).length : Int) = (ni : Int)) && (li x).all bit) = inOk ni x from rfl]
    by_cases hio : inOk ni x = true
    · simp only [hio]
      simp only [inOk, Bool.and_eq_true, decide_eq_true_eq] at hio
      have hxn : (li x).length = ni := by omega
      have hroom : (0 + (li x).length) * 8 ≤ room := by unfold room; omega
      have hroom1 : ((li x).length + st.length) * 8 ≤ room := by unfold room; omega
      have hroom2 : (no + ns) * 8 ≤ room := by unfold room; omega
      have hroom3 : (acc.length + 1) * 24 ≤ room := by unfold room; omega
      simp only [Bool.not_true, Bool.false_eq_true, if_false, asRows_sl, bindO_s, rowsSz_I, gB_t, List.length_map, hroom, hroom1, decide_true, List.nil_append, fBin_add, e2, asNat_nat, Nat.le_refl, hroom2, Bool.and_self, Bool.true_and]
      rw [← List.map_append, show List.replicate (no + ns) [(FV.int IntKind.i64 0)] = (List.replicate (no + ns) (0 : Int)).map I by rw [List.map_replicate]; rfl]
      have hgl : (li x ++ st).length = ni + ns := by simp [hxn, hst]
      have hterms := ref_steps ho hl hsm (G := li x ++ st) (tot := no + ns) (fun t ht => by
        have := hok t ht
        simp only [termOk, Bool.and_eq_true, decide_eq_true_eq] at this
        refine ⟨by omega, fun n hn => ?_⟩
        have := thenOk_mem this.2 n hn
        omega) (sl SI oi) (.int .i64 (no : Int)) (.int .i64 (i : Int)) (sl I pins) c4 (.int .i64 (ns : Int)) c6 (acc.map LL) (st.map I) _ 0 (List.replicate (no + ns) 0) rfl (by simp)
      rw [show (FV.int IntKind.i64 0) = .int .i64 ((0 : Nat) : Int) from rfl, hterms]
      simp only [List.drop_zero]
      generalize hS : l.foldl (stepT (li x ++ st)) (List.replicate (no + ns) 0) = S
      have hSl : S.length = no + ns := by rw [← hS, steps_len]; simp
      rw [ref02_RunPlanes.L1_eq]
      have hr1 : (0 + (S.take no).length) * 8 ≤ room := by unfold room; simp; omega
      have hr2 : (0 + (S.drop no).length) * 8 ≤ room := by unfold room; simp; omega
      simp only [fLen_sl, ho, bindO_s, fBin_lss, fCond_b, Int.lt_irrefl, decide_false, Bool.false_eq_true, if_false]
      rw [fCut_take (rowsSz_I S) (by simp [hSl]), fCut_drop (rowsSz_I S) (by simp [hSl]), ← List.map_take, ← List.map_drop]
      simp only [bindO_s, asRows_arr, rowsSz_I, gB_t, List.length_map, hr1, hr2, hroom3, decide_true, fBin_add, e, List.nil_append]
      rw [show acc.map LL ++ [[FV.arr ((S.take no).map I)]] = (acc ++ [S.take no]).map LL by simp [LL]]
      rw [ih (i + 1) (S.drop no) (acc ++ [S.take no]) hs (by simp [hSl]) (by simp [hacc])]
      simp only [planeRun, hS, List.append_assoc, List.singleton_append]
      rfl
    · simp only [Bool.not_eq_true] at hio
      simp [hio]

/-! ### The same lists -/
theorem sameInts_L0 {l : List Int} (hl : l.length < 1000000000000000) : ∀ (s : List Int) (k : Nat), l.drop k = s → ref02_sameInts.L0 (.arr (l.map I)) (.arr (l.map I)) (.int .i64 (k : Int)) = some (.bool true) := by
  intro s
  induction s with
  | nil =>
    intro k hd
    rw [ref02_sameInts.L0_eq]
    simp [drop_nil hd]
  | cons n s ih =>
    intro k hd
    obtain ⟨hk, hn, hs⟩ := drop_cons hd
    have e : IntKind.i64.wrap ((k : Int) + 1) = ((k + 1 : Nat) : Int) := wrap64 (by omega) (by omega)
    rw [ref02_sameInts.L0_eq]
    have hi : fIdxC 1 (.arr (l.map I)) (.int .i64 (k : Int)) = some (I n) := idx_arr (by simp [hn]) rfl
    simp only [fLen_arr, List.length_map, bindO_s, fBin_lss, fCond_b, decide_eq_true_eq, Int.ofNat_lt, hk, if_true, hi, I_zero, fBin_neq, ne_eq, not_true_eq_false, if_false, fBin_add, e, ih (k + 1) hs]
theorem sameInts_ok {l : List Int} (hl : l.length < 1000000000000000) : ref02_sameInts (.arr (l.map I)) (.arr (l.map I)) = some (.bool true) := by
  rw [ref02_sameInts.eq]
  have := sameInts_L0 hl l 0 rfl
  simp only [fLen_arr, bindO_s, fBin_neq, ne_eq, not_true_eq_false, decide_false, fCond_b, Bool.false_eq_true, if_false]
  exact this
theorem sameLists_L0 {l : List (List Int)} (hl : l.length < 1000000000000000) (hx : ∀ x ∈ l, x.length < 1000000000000000) : ∀ (s : List (List Int)) (k : Nat), l.drop k = s → ref02_SameLists.L0 (.arr (l.map LL)) (.arr (l.map LL)) (.int .i64 (k : Int)) = some (.bool true) := by
  intro s
  induction s with
  | nil =>
    intro k hd
    rw [ref02_SameLists.L0_eq]
    simp [drop_nil hd]
  | cons x s ih =>
    intro k hd
    obtain ⟨hk, hn, hs⟩ := drop_cons hd
    have e : IntKind.i64.wrap ((k : Int) + 1) = ((k + 1 : Nat) : Int) := wrap64 (by omega) (by omega)
    rw [ref02_SameLists.L0_eq]
    have hi : fIdxC 1 (.arr (l.map LL)) (.int .i64 (k : Int)) = some (LL x) := idx_arr (by simp [hn]) rfl
    simp only [fLen_arr, List.length_map, bindO_s, fBin_lss, fCond_b, decide_eq_true_eq, Int.ofNat_lt, hk, if_true, hi, LL_zero, sameInts_ok (hx x (List.mem_of_getElem? hn)), fUn_not, Bool.not_true, Bool.false_eq_true, if_false, fBin_add, e, ih (k + 1) hs]
theorem sameLists_ok {l : List (List Int)} (hl : l.length < 1000000000000000) (hx : ∀ x ∈ l, x.length < 1000000000000000) : ref02_SameLists (.arr (l.map LL)) (.arr (l.map LL)) = some (.bool true) := by
  rw [ref02_SameLists.eq]
  have := sameLists_L0 hl hx l 0 rfl
  simp only [fLen_arr, bindO_s, fBin_neq, ne_eq, not_true_eq_false, decide_false, fCond_b, Bool.false_eq_true, if_false]
  exact this
theorem sameLists_nil : ref02_SameLists .nilS .nilS = some (.bool true) := by
  rw [ref02_SameLists.eq, ]
  simp only [fLen_nil, bindO_s, fBin_neq, ne_eq, not_true_eq_false, decide_false, fCond_b, Bool.false_eq_true, if_false]
  rw [ref02_SameLists.L0_eq]
  simp
theorem planeRun_len {no tot : Nat} {ts : List Tm} : ∀ (xs : List (Option (List Int))) (st : List Int), (planeRun no tot ts st xs).length = xs.length ∧ ∀ x ∈ planeRun no tot ts st xs, x.length ≤ no
  | [], st => ⟨rfl, by simp [planeRun]⟩
  | y :: xs, st => by
    obtain ⟨h1, h2⟩ := planeRun_len (no := no) (tot := tot) (ts := ts) xs ((ts.foldl (stepT (li y ++ st)) (List.replicate tot 0)).drop no)
    refine ⟨by simp [planeRun, h1], fun x hx => ?_⟩
    simp only [planeRun, List.mem_cons] at hx
    rcases hx with rfl | hx
    · simp; omega
    · exact h2 x hx

/-! ### The law -/
section
variable {ins outs start : Option (List Int)} {st : Int} {terms : Option (List Tm)} {xs : Option (List (Option (List Int)))}
theorem anyPlane (w : PlaneWf ins outs start st terms) (hx : (li xs).length < 10000000000000 ∧ ∀ x ∈ li xs, (li x).length < 100000000000000) : law02_MachAnyPlane (plane ins outs start st terms) (sl SI xs) = some (.bool true) := by
  have fin : ∀ y, (∀ e, y = .tup [.nilS, .int .i64 e] ∨ True) → (∃ e, y = .tup [.nilS, .int .i64 e]) ∨ (∃ l : List (List Int), y = .tup [.arr (l.map LL), .int .i64 0] ∧ l.length < 1000000000000000 ∧ ∀ x ∈ l, x.length < 1000000000000000) →
      ref02_RunPlanes (plane ins outs start st terms) (sl SI xs) = some y → mach_RunPlanes (plane ins outs start st terms) (sl SI xs) = some y → law02_MachAnyPlane (plane ins outs start st terms) (sl SI xs) = some (.bool true) := by
    intro y _ hy h1 h2
    rw [law02_MachAnyPlane.eq]
    have hp : FV.agg [fCell (plane ins outs start st terms) 0, fCell (plane ins outs start st terms) 1, fCell (plane ins outs start st terms) 2, fCell (plane ins outs start st terms) 3, fCell (plane ins outs start st terms) 4] = plane ins outs start st terms := rfl
    rw [hp, h1, h2]
    have hg : fIsAgg 5 (plane ins outs start st terms) = true := rfl
    rcases hy with ⟨e, rfl⟩ | ⟨l, rfl, hl1, hl2⟩
    · simp [hg, sameLists_nil]
    · simp [hg, sameLists_ok hl1 hl2]
  have hfin := fin
  clear fin
  have hc1 := ref_check w
  have hc2 := mach_check w
  have i2 := capSum_le (li ins) 0 (by omega) (by omega)
  have o2 := capSum_le (li outs) 0 (by omega) (by omega)
  have hp : FV.agg [fCell (plane ins outs start st terms) 0, fCell (plane ins outs start st terms) 1, fCell (plane ins outs start st terms) 2, fCell (plane ins outs start st terms) 3, fCell (plane ins outs start st terms) 4] = plane ins outs start st terms := rfl
  have hg : fIsAgg 5 (plane ins outs start st terms) = true := rfl
  have r := ref02_RunPlanes.eq (plane ins outs start st terms) (sl SI xs)
  have m := mach_RunPlanes.eq (plane ins outs start st terms) (sl SI xs)
  rw [hp, hg, hc1] at r
  rw [hp, hg, hc2] at m
  by_cases hok : (headOk (capSum 0 (li ins)) (capSum 0 (li outs)) st (li start) && (li terms).all (termOk (capSum 0 (li ins)) (capSum 0 (li outs)) st)) = true
  · rw [if_pos hok] at r m
    simp only [Bool.and_eq_true, headOk, decide_eq_true_eq] at hok
    obtain ⟨⟨⟨⟨⟨g1, g2⟩, g3⟩, g4⟩, g5⟩, g6⟩ := hok
    have hst : st < 1000000000000000 := by have := w.start; omega
    have e1 : IntKind.i64.wrap (capSum 0 (li ins) + capSum 0 (li outs)) = capSum 0 (li ins) + capSum 0 (li outs) := wrap64 (by omega) (by omega)
    have e2 : IntKind.i64.wrap (capSum 0 (li ins) + capSum 0 (li outs) + st) = capSum 0 (li ins) + capSum 0 (li outs) + st := wrap64 (by omega) (by omega)
    simp only [gB_t, bindO_s, fIsTup_tup, List.length_cons, List.length_nil, show (0 + 1 + 1 + 1 == 3) = true from rfl, fTup_zero, fTup_succ, fBin_neq, ne_eq, not_true_eq_false, decide_false, fCond_b, Bool.false_eq_true, if_false, fBin_add, e1, show fCell (plane ins outs start st terms) 2 = .int .i64 st from rfl, e2, fBin_gtr, decide_eq_true_eq, show fCell (plane ins outs start st terms) 4 = sl T terms from rfl, fLen_sl] at m
    simp only [gB_t, bindO_s, fBin_neq, fCond_b, decide_eq_true_eq] at r
    by_cases hbig : capSum 0 (li ins) + capSum 0 (li outs) + st > 128 ∨ (li terms).length > 1024
    · rw [if_pos hbig] at r
      have m' : mach_RunPlanes (plane ins outs start st terms) (sl SI xs) = some (.tup [.nilS, .int .i64 26]) := by
        rw [m]
        rcases hbig with h | h
        · rw [if_pos h]
        · split
          · rfl
          · rw [if_pos (by omega)]
      exact hfin _ (fun _ => .inr trivial) (.inl ⟨26, rfl⟩) (by rw [r]; rfl) m'
    · rw [if_neg hbig] at r
      simp only [not_or] at hbig
      rw [if_neg (by omega), if_neg (by omega)] at m
      rw [if_neg (by simp)] at r
      simp only [fLen_sl, bindO_s, fBin_gtr, fCond_b, decide_eq_true_eq] at r
      by_cases hlong : (4096 : Int) < ((li xs).length : Int)
      · rw [if_pos hlong] at r m
        exact hfin _ (fun _ => .inr trivial) (.inl ⟨26, rfl⟩) r m
      · rw [if_neg hlong] at r m
        obtain ⟨ni, hni⟩ : ∃ n : Nat, capSum 0 (li ins) = (n : Int) := ⟨(capSum 0 (li ins)).toNat, by omega⟩
        obtain ⟨no, hno⟩ : ∃ n : Nat, capSum 0 (li outs) = (n : Int) := ⟨(capSum 0 (li outs)).toNat, by omega⟩
        obtain ⟨ns, rfl⟩ : ∃ n : Nat, st = (n : Int) := ⟨st.toNat, by omega⟩
        have hsl : (li start).length = ns := by omega
        have hroom : (0 + (li start).length) * 8 ≤ room := by unfold room; omega
        rw [hni, hno] at g6
        simp only [show fCell (plane ins outs start (ns : Int) terms) 0 = sl I ins from rfl, show fCell (plane ins outs start (ns : Int) terms) 1 = sl I outs from rfl, show fCell (plane ins outs start (ns : Int) terms) 2 = .int .i64 (ns : Int) from rfl, show fCell (plane ins outs start (ns : Int) terms) 3 = sl I start from rfl, show fCell (plane ins outs start (ns : Int) terms) 4 = sl T terms from rfl, asRows_sl, bindO_s, rowsSz_I, gB_t, List.length_map, hroom, decide_true, ref02_sum_ok w.outs.1, List.nil_append, hno] at r
        have r2 := ref_run (o := terms) rfl w.terms.1 w.terms.2 ⟨w.ins.1, hni⟩ (by omega) (fun t ht => List.all_eq_true.1 g6 t ht) (oi := xs) rfl (by omega) hx.2 (sl I outs) (sl I start) (li xs) 0 (li start) [] rfl hsl rfl
        rw [show (FV.int IntKind.i64 0) = .int .i64 ((0 : Nat) : Int) from rfl] at r
        simp only [List.map_nil] at r2
        rw [r2] at r
        rw [mach_RunPlanes.L0_eq] at m
        simp only [fLen_sl, bindO_s, hni, hno, show fCell (plane ins outs start (ns : Int) terms) 0 = sl I ins from rfl, show fCell (plane ins outs start (ns : Int) terms) 1 = sl I outs from rfl, show fCell (plane ins outs start (ns : Int) terms) 2 = .int .i64 (ns : Int) from rfl, show fCell (plane ins outs start (ns : Int) terms) 3 = sl I start from rfl, show fCell (plane ins outs start (ns : Int) terms) 4 = sl T terms from rfl] at m
        have m2 := mach_ins (oi := xs) rfl (by omega) hx.2 (ni := ni) (sl SI xs) (.int .i64 (no : Int)) (sl I ins) (sl I outs) (.int .i64 (ns : Int)) (sl I start) (sl T terms) (li xs) 0 rfl
        rw [show (FV.int IntKind.i64 0) = .int .i64 ((0 : Nat) : Int) from rfl, m2] at m
        by_cases hin : (li xs).all (inOk ni) = true
        · rw [if_pos hin] at r m
          rw [mach_RunPlanes.L1_eq] at m
          simp only [bindO_s, fBin_lss, fCond_b, Int.lt_irrefl, decide_false, Bool.false_eq_true, if_false, clone_ok (show (li start).length < 10000000000000 by omega), arrRows_arr, fLen_sl] at m
          have m3 := mach_run (o := terms) rfl w.terms.1 w.terms.2 (ni := ni) (no := no) (ns := ns) (by omega) (fun t ht => List.all_eq_true.1 g6 t ht) (oi := xs) rfl (by omega) (fun x hx => List.all_eq_true.1 hin x hx) (sl I ins) (sl I outs) (sl I start) (li xs) 0 (li start) [] rfl hsl rfl ((li start).map I)
          rw [show (FV.int IntKind.i64 0) = .int .i64 ((0 : Nat) : Int) from rfl] at m
          simp only [List.map_nil] at m3
          rw [m3] at m
          obtain ⟨q1, q2⟩ := planeRun_len (no := no) (tot := no + ns) (ts := li terms) (li xs) (li start)
          refine hfin _ (fun _ => .inr trivial) (.inr ⟨_, rfl, ?_, fun x hx' => ?_⟩) r m
          · simp only [List.nil_append, q1]; omega
          · have := q2 x (by simpa using hx'); omega
        · rw [if_neg hin] at r m
          exact hfin _ (fun _ => .inr trivial) (.inl ⟨27, rfl⟩) r m
  · rw [if_neg hok] at r m
    refine hfin _ (fun _ => .inr trivial) (.inl ⟨27, rfl⟩) ?_ ?_
    · rw [r]; simp
    · rw [m]; simp
end
end Go.Proofs.Ytelcbakleaaneaa
