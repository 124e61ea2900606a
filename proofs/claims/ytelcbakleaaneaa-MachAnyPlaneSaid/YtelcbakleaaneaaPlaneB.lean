/- Runs of planes: the steps, in the document's words and in the program's. -/
import Derived.Test.YtelcbakleaaneaaPlaneA
namespace Go.Proofs.Ytelcbakleaaneaa
open Go Go.Proofs.Ytelcbakleaaneaa.VM
set_option linter.unusedVariables false
set_option linter.unusedSimpArgs false

/-- Do literals fit what is given? -/
def fires : List Int → List Int → Bool
  | b :: bs, g :: gs => (decide (b = -1) || decide (b = g)) && fires bs gs
  | _, _ => true
def setAll (r l : List Int) : List Int := l.foldl (fun r k => r.set k.toNat 1) r
theorem setAll_len : ∀ (l r : List Int), (setAll r l).length = r.length
  | [], r => rfl
  | n :: l, r => by simp only [setAll, List.foldl_cons]; rw [show l.foldl (fun r k => r.set k.toNat 1) (r.set n.toNat 1) = setAll (r.set n.toNat 1) l from rfl, setAll_len l]; simp
def stepT (given r : List Int) (t : Tm) : List Int := if fires (li t.1) given then setAll r (li t.2) else r
theorem stepT_len (g r : List Int) (t : Tm) : (stepT g r t).length = r.length := by unfold stepT; split <;> simp [setAll_len]
theorem steps_len (g : List Int) : ∀ (ts : List Tm) (r : List Int), (ts.foldl (stepT g) r).length = r.length
  | [], r => rfl
  | t :: ts, r => by rw [List.foldl_cons, steps_len g ts, stepT_len]
/-- What a run says. -/
def planeRun (no tot : Nat) (ts : List Tm) : List Int → List (Option (List Int)) → List (List Int)
  | _, [] => []
  | st, x :: xs => ((ts.foldl (stepT (li x ++ st)) (List.replicate tot 0)).take no) :: planeRun no tot ts ((ts.foldl (stepT (li x ++ st)) (List.replicate tot 0)).drop no) xs
/-- A row of one list. -/
def LL (l : List Int) : List FV := [.arr (l.map I)]
def SI (o : Option (List Int)) : List FV := [sl I o]
@[simp] theorem SI_len (o : Option (List Int)) : (SI o).length = 1 := rfl
@[simp] theorem SI_zero (o : Option (List Int)) : (SI o)[0]? = some (sl I o) := rfl
@[simp] theorem LL_len (o : List Int) : (LL o).length = 1 := rfl
@[simp] theorem LL_zero (o : List Int) : (LL o)[0]? = some (.arr (o.map I)) := rfl

theorem thenOk_mem {m : Int} : ∀ {l : List Int} {p : Option Int}, thenOk m p l = true → ∀ n ∈ l, 0 ≤ n ∧ n < m
  | [], p, h, n, hn => by cases hn
  | k :: l, p, h, n, hn => by
    simp only [thenOk, Bool.and_eq_true, decide_eq_true_eq] at h
    rcases List.mem_cons.1 hn with rfl | hn
    · exact ⟨h.1.1.1, h.1.1.2⟩
    · exact thenOk_mem h.2 n hn
theorem map_set_I (r : List Int) (k : Nat) (n : Int) : (r.map I).set k [.int .i64 n] = (r.set k n).map I := by rw [List.map_set]; rfl
theorem get_I {r : List Int} {k : Nat} (h : k < r.length) : (r.map I)[k]? = some [.int .i64 r[k]] := by simp [h, I]
theorem nat_of {n : Int} (h : 0 ≤ n) : n = ((n.toNat : Nat) : Int) := by omega

/-! ### The program -/
section
variable {ins terms : FV}
theorem mach_set {o : Option (List Int)} {l : List Int} (ho : li o = l) (hl : l.length < 1000000000000000) {j : Nat} (hj : j < 1000000000000000) (c0 c1 c2 c3 c4 c5 c10 c11 c12 c13 c14 c19 c20 : FV) (r15 r16 r17 : List (List FV)) :
    ∀ (s : List Int) (k : Nat) (R : List Int), l.drop k = s → (∀ n ∈ s, 0 ≤ n ∧ n < (R.length : Int)) →
    mach_RunPlanes.L6 c0 c1 c2 c3 c4 c5 (.int .i64 (j : Int)) (sl I o) (.int .i64 (l.length : Int)) (.int .i64 (k : Int)) c10 c11 c12 c13 c14 r15 r16 r17 (R.map I) c19 c20 =
      mach_RunPlanes.L4 c0 c1 c2 c3 c4 c5 (.int .i64 ((j + 1 : Nat) : Int)) c10 c11 c12 c13 c14 r15 r16 r17 ((setAll R s).map I) := by
  intro s
  have ej : IntKind.i64.wrap ((j : Int) + 1) = ((j + 1 : Nat) : Int) := wrap64 (by omega) (by omega)
  induction s with
  | nil =>
    intro k R hd hm
    rw [mach_RunPlanes.L6_eq]
    simp [drop_nil hd, setAll, ej]
  | cons n s ih =>
    intro k R hd hm
    obtain ⟨hk, hn, hs⟩ := drop_cons hd
    have e : IntKind.i64.wrap ((k : Int) + 1) = ((k + 1 : Nat) : Int) := wrap64 (by omega) (by omega)
    obtain ⟨n0, n1⟩ := hm n (by simp)
    have hlt : n.toNat < R.length := by omega
    rw [mach_RunPlanes.L6_eq]
    simp only [bindO_s, fBin_lss, fCond_b, decide_eq_true_eq, Int.ofNat_lt, hk, if_true, idx_sl (ho ▸ hn) (I_len n), I_zero, fBin_add, e]
    rw [nat_of n0, rIdx_at (by simpa using hlt)]
    simp only [bindO_s]
    rw [rSet_one (get_I hlt)]
    simp only [bindO_s]
    rw [map_set_I, ih (k + 1) _ hs (fun m hm' => by simpa using hm m (by simp [hm']))]
    rfl

theorem mach_fire {o : Option (List Int)} {l : List Int} (ho : li o = l) (hl : l.length < 1000000000000000) {j : Nat} (hj : j < 1000000000000000) {G : List Int} (hG : l.length = G.length) (hlit : ∀ n ∈ l, -1 ≤ n)
    (c0 c1 c2 c3 c4 c5 c10 c11 c12 c13 c14 c19 : FV) {o2 : Option (List Int)} (hl2 : (li o2).length < 1000000000000000) (r15 r16 : List (List FV)) (R : List Int) (hm : ∀ n ∈ li o2, 0 ≤ n ∧ n < (R.length : Int)) :
    ∀ (s : List Int) (k : Nat), l.drop k = s →
    mach_RunPlanes.L5 c0 c1 c2 c3 c4 c5 (.int .i64 (j : Int)) (sl I o) (.int .i64 (l.length : Int)) (.int .i64 (k : Int)) c10 c11 c12 c13 c14 r15 r16 (G.map I) (R.map I) c19 (sl I o2) =
      mach_RunPlanes.L4 c0 c1 c2 c3 c4 c5 (.int .i64 ((j + 1 : Nat) : Int)) c10 c11 c12 c13 c14 r15 r16 (G.map I) ((if fires s (G.drop k) then setAll R (li o2) else R).map I) := by
  intro s
  have ej : IntKind.i64.wrap ((j : Int) + 1) = ((j + 1 : Nat) : Int) := wrap64 (by omega) (by omega)
  induction s with
  | nil =>
    intro k hd
    rw [mach_RunPlanes.L5_eq]
    simp only [bindO_s, fBin_lss, fCond_b, decide_eq_true_eq, Int.ofNat_lt, drop_nil hd, if_false, fLen_sl, fires, if_true]
    exact mach_set rfl hl2 hj c0 c1 c2 c3 c4 c5 c10 c11 c12 c13 c14 c19 (sl I o2) r15 r16 (G.map I) _ 0 R rfl hm
  | cons n s ih =>
    intro k hd
    obtain ⟨hk, hn, hs⟩ := drop_cons hd
    have e : IntKind.i64.wrap ((k : Int) + 1) = ((k + 1 : Nat) : Int) := wrap64 (by omega) (by omega)
    have hkG : k < G.length := by omega
    have hdG : G.drop k = G[k] :: G.drop (k + 1) := List.drop_eq_getElem_cons hkG
    have hn1 := hlit n (List.mem_of_getElem? hn)
    rw [mach_RunPlanes.L5_eq]
    simp only [bindO_s, fBin_lss, fCond_b, decide_eq_true_eq, Int.ofNat_lt, hk, if_true, idx_sl (ho ▸ hn) (I_len n), I_zero, fBin_add, fBin_geq, e, ej, ih (k + 1) hs, hdG, fires]
    rw [rIdx_at (by simpa using hkG)]
    simp only [bindO_s]
    rw [rGet_at (get_I hkG)]
    simp only [List.getElem?_cons_zero, bindO_s, fBin_neq, fCond_b, decide_eq_true_eq]
    by_cases g1 : n = -1
    · simp [g1]
    · by_cases g2 : n = G[k]
      · simp [g1, g2]
      · simp [g1, g2, show 0 ≤ n by omega]

theorem mach_steps {o : Option (List Tm)} {l : List Tm} (ho : li o = l) (hl : l.length < 10000000000000) (hsm : ∀ t ∈ l, Small t) {G : List Int} {tot : Nat} (hok : ∀ t ∈ l, (li t.1).length = G.length ∧ (∀ n ∈ li t.1, -1 ≤ n) ∧ ∀ n ∈ li t.2, 0 ≤ n ∧ n < (tot : Int))
    (c0 c1 c2 c3 c7 c8 c9 c10 c11 : FV) (r12 r13 : List (List FV)) : ∀ (s : List Tm) (j : Nat) (R : List Int), l.drop j = s → R.length = tot →
    mach_RunPlanes.L4 c0 c1 c2 c3 (sl T o) (.int .i64 (l.length : Int)) (.int .i64 (j : Int)) c7 c8 c9 c10 c11 r12 r13 (G.map I) (R.map I) =
      mach_RunPlanes.L3 c0 (.arr ((s.foldl (stepT G) R).map I)) c1 c2 c3 c7 c8 c9 c10 c11 r12 r13 (G.map I) ((s.foldl (stepT G) R).map I) := by
  intro s
  induction s with
  | nil =>
    intro j R hd hR
    rw [mach_RunPlanes.L4_eq]
    simp [drop_nil hd]
  | cons t s ih =>
    intro j R hd hR
    obtain ⟨hj, hn, hs⟩ := drop_cons hd
    obtain ⟨s1, s2⟩ := hsm t (List.mem_of_getElem? hn)
    obtain ⟨k1, k2, k3⟩ := hok t (List.mem_of_getElem? hn)
    rw [mach_RunPlanes.L4_eq]
    simp only [bindO_s, fBin_lss, fCond_b, decide_eq_true_eq, Int.ofNat_lt, hj, if_true, idx_sl (ho ▸ hn) (T_len t), T_zero, T_one, fLen_sl]
    have := mach_fire (o := t.1) rfl s1 (j := j) (by omega) k1 k2 c0 c1 c2 c3 (sl T o) (.int .i64 (l.length : Int)) c7 c8 c9 c10 c11 (sl I t.1) s2 r12 r13 R (by rw [hR]; exact k3) _ 0 rfl
    rw [show (FV.int IntKind.i64 0) = .int .i64 ((0 : Nat) : Int) from rfl, this]
    simp only [List.drop_zero]
    rw [show (if fires (li t.1) G = true then setAll R (li t.2) else R) = stepT G R t from rfl]
    rw [ih (j + 1) _ hs (by rw [stepT_len, hR])]
    rfl

theorem clone_ok {o : Option (List Int)} (hl : (li o).length < 10000000000000) : slices_Clone_int (sl I o) = some (.arr ((li o).map I)) := by
  rw [slices_Clone_int.eq]
  have h : ((li o).length * 8 ≤ room) := by unfold room; omega
  simp only [asRows_sl, bindO_s, rowsSz_I, gB_t, List.length_map, Nat.zero_add, h, decide_true, List.nil_append, onFV_sl]

/-- What is asked of inputs. -/
def inOk (ni : Int) (x : Option (List Int)) : Bool := decide (((li x).length : Int) = ni) && (li x).all bit

theorem mach_run {o : Option (List Tm)} {l : List Tm} (ho : li o = l) (hl : l.length < 10000000000000) (hsm : ∀ t ∈ l, Small t) {ni no ns : Nat} (hni : ni + no + ns ≤ 128) (hok : ∀ t ∈ l, termOk ni no ns t = true)
    {oi : Option (List (Option (List Int)))} {xs : List (Option (List Int))} (hoi : li oi = xs) (hx : xs.length ≤ 4096) (hin : ∀ x ∈ xs, inOk ni x = true) (c5 c6 c8 : FV) : ∀ (s : List (Option (List Int))) (i : Nat) (st : List Int) (acc : List (List Int)), xs.drop i = s → st.length = ns → acc.length = i → ∀ r10 : List (List FV),
    mach_RunPlanes.L2 (.int .i64 (no : Int)) (.arr (st.map I)) (sl SI oi) (.int .i64 (xs.length : Int)) (.int .i64 (i : Int)) c5 c6 (.int .i64 (ns : Int)) c8 (sl T o) r10 (acc.map LL) =
      some (.tup [.arr ((acc ++ planeRun no (no + ns) l st s).map LL), .int .i64 0]) := by
  intro s
  induction s with
  | nil =>
    intro i st acc hd hst hacc r10
    rw [mach_RunPlanes.L2_eq]
    simp [drop_nil hd, planeRun]
  | cons x s ih =>
    intro i st acc hd hst hacc r10
    obtain ⟨hi, hn, hs⟩ := drop_cons hd
    have hxi := hin x (List.mem_of_getElem? hn)
    simp only [inOk, Bool.and_eq_true, decide_eq_true_eq] at hxi
    have hxl : (li x).length = ni := by omega
    have e : IntKind.i64.wrap ((i : Int) + 1) = ((i + 1 : Nat) : Int) := wrap64 (by omega) (by omega)
    have e2 : IntKind.i64.wrap ((no : Int) + (ns : Int)) = ((no + ns : Nat) : Int) := wrap64 (by omega) (by omega)
    have hroom : ((li x).length + st.length) * 8 ≤ room := by unfold room; omega
    have hroom2 : (no + ns) * 8 ≤ room := by unfold room; omega
    have hroom3 : (acc.length + 1) * 24 ≤ room := by unfold room; omega
    rw [mach_RunPlanes.L2_eq]
    simp only [bindO_s, fBin_lss, fCond_b, decide_eq_true_eq, Int.ofNat_lt, hi, if_true, idx_sl (hoi ▸ hn) (SI_len x), SI_zero, fBin_add, e2, clone_ok (show (li x).length < 10000000000000 by omega), arrRows_arr, asRows_arr, rowsSz_I, gB_t, List.length_map, hroom, decide_true, asNat_nat, Nat.le_refl, hroom2, Bool.and_self, fLen_sl, ho, Nat.le_refl]
    rw [← List.map_append, show List.replicate (no + ns) [(FV.int IntKind.i64 0)] = (List.replicate (no + ns) (0 : Int)).map I by rw [List.map_replicate]; rfl]
    have hgl : (li x ++ st).length = ni + ns := by simp [hxl, hst]
    have hterms := mach_steps ho hl hsm (G := li x ++ st) (tot := no + ns) (fun t ht => by
      have := hok t ht
      simp only [termOk, Bool.and_eq_true, decide_eq_true_eq] at this
      refine ⟨by omega, fun n hn => ?_, fun n hn => ?_⟩
      · have := List.all_eq_true.1 this.1.2 n hn
        simp only [lit, Bool.and_eq_true, decide_eq_true_eq] at this
        exact this.1
      · have := thenOk_mem this.2 n hn
        omega) (.int .i64 (no : Int)) (sl SI oi) (.int .i64 (xs.length : Int)) (.int .i64 (i : Int)) c5 c6 (.int .i64 (ns : Int)) c8 (sl T o) r10 (acc.map LL) _ 0 (List.replicate (no + ns) 0) rfl (by simp)
    rw [show (FV.int IntKind.i64 0) = .int .i64 ((0 : Nat) : Int) from rfl, hterms]
    simp only [List.drop_zero]
    generalize hS : l.foldl (stepT (li x ++ st)) (List.replicate (no + ns) 0) = S
    have hSl : S.length = no + ns := by rw [← hS, steps_len]; simp
    rw [mach_RunPlanes.L3_eq]
    simp only [asNat_nat, bindO_s, show Nat.beq no no = true from by simp, gB_t]
    rw [fCut_take (rowsSz_I S) (by simp [hSl]), fCut_drop (rowsSz_I S) (by simp [hSl])]
    simp only [bindO_s, List.length_map, hroom3, decide_true, gB_t, fBin_add, e]
    rw [← List.map_take, ← List.map_drop, show acc.map LL ++ [[FV.arr ((S.take no).map I)]] = (acc ++ [S.take no]).map LL by simp [LL]]
    rw [ih (i + 1) (S.drop no) (acc ++ [S.take no]) hs (by simp [hSl]) (by simp [hacc]) r10]
    simp only [planeRun, hS, List.append_assoc, List.singleton_append]
    rfl

theorem mach_ins {oi : Option (List (Option (List Int)))} {xs : List (Option (List Int))} (hoi : li oi = xs) (hx : xs.length ≤ 4096) (hlen : ∀ x ∈ xs, (li x).length < 100000000000000) {ni : Nat} (c0 c2 c6 c7 c8 c9 c10 : FV) : ∀ (s : List (Option (List Int))) (i : Nat), xs.drop i = s →
    mach_RunPlanes.L1 c0 (.int .i64 (ni : Int)) c2 (sl SI oi) (.int .i64 (xs.length : Int)) (.int .i64 (i : Int)) c6 c7 c8 c9 c10 =
      if s.all (inOk ni) then mach_RunPlanes.L1 c0 (.int .i64 (ni : Int)) c2 (sl SI oi) (.int .i64 (xs.length : Int)) (.int .i64 (xs.length : Int)) c6 c7 c8 c9 c10 else some (.tup [.nilS, .int .i64 27]) := by
  intro s
  induction s with
  | nil =>
    intro i hd
    rw [mach_RunPlanes.L1_eq, mach_RunPlanes.L1_eq]
    simp [drop_nil hd]
  | cons x s ih =>
    intro i hd
    obtain ⟨hi, hn, hs⟩ := drop_cons hd
    have e : IntKind.i64.wrap ((i : Int) + 1) = ((i + 1 : Nat) : Int) := wrap64 (by omega) (by omega)
    have hany : (li x).any (fun n => !bit n) = !((li x).all bit) := by rw [← List.not_all_eq_any_not]
    have hxl := hlen x (List.mem_of_getElem? hn)
    rw [mach_RunPlanes.L1_eq]
    simp only [bindO_s, fBin_lss, fCond_b, decide_eq_true_eq, Int.ofNat_lt, hi, if_true, idx_sl (hoi ▸ hn) (SI_len x), SI_zero, fBin_add, e, fLen_sl, fBin_neq, containsFunc_ok dyn53 (show (li x).length < 1000000000000000 by omega), hany, ih (i + 1) hs, List.all_cons]
    by_cases g : ((li x).length : Int) = (ni : Int)
    · simp only [inOk, decide_eq_true g, Bool.true_and, g, ne_eq, not_true_eq_false, if_false]
      cases (li x).all bit <;> rfl
    · simp [g, inOk]
end
end Go.Proofs.Ytelcbakleaaneaa
