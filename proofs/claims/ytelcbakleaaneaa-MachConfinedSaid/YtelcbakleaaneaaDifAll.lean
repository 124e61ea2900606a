/- Two machines apart: letters by their numbers; rows turned round; sizes. Two machines apart: the search. Two machines apart: both programs' searches side by side. Two machines apart: the whole; the law MachDiffer. -/
import Derived.Test.YtelcbakleaaneaaMachRun
import Derived.KernelRfl
section
namespace Go.Proofs.Ytelcbakleaaneaa
open Go Go.Proofs.Ytelcbakleaaneaa.VM
set_option linter.unusedVariables false
set_option linter.unusedSimpArgs false
set_option linter.unusedSectionVars false

/-! ### Letters by their numbers -/
def digs : List TPort → Nat → List Int × Nat
  | [], n => ([], n)
  | p :: ps, n => ((((digs ps n).2 % (li p.2.1).length : Nat) : Int) :: (digs ps n).1, (digs ps n).2 / (li p.2.1).length)
theorem digs_len : ∀ (ps : List TPort) (n : Nat), (digs ps n).1.length = ps.length
  | [], n => rfl
  | p :: ps, n => by simp [digs, digs_len ps n]
theorem digs_le : ∀ (ps : List TPort) (n : Nat), (digs ps n).2 ≤ n
  | [], n => Nat.le_refl _
  | p :: ps, n => Nat.le_trans (Nat.div_le_self _ _) (digs_le ps n)
theorem digs_rest : ∀ (ps : List TPort) (n : Nat), Lens ps → (digs ps n).2 = n / prodL ps
  | [], n, _ => by simp [digs, prodL]
  | p :: ps, n, h => by
    have ih := digs_rest ps n (fun q hq => h q (by simp [hq]))
    simp only [digs, prodL, ih]
    rw [Nat.div_div_eq_div_mul, Nat.mul_comm]
theorem digs_num : ∀ (ps : List TPort) (n a : Nat), Lens ps → numGo ps (digs ps n).1 a = a * prodL ps + n % prodL ps
  | [], n, a, _ => by simp [numGo, prodL, Nat.mod_one]
  | p :: ps, n, a, h => by
    have hl := h p (by simp)
    have hps : Lens ps := fun q hq => h q (by simp [hq])
    have ih := digs_num ps n (a * (li p.2.1).length + (digs ps n).2 % (li p.2.1).length) hps
    rw [digs_rest ps n hps] at ih
    simp only [digs, numGo, prodL, Int.toNat_natCast, digs_rest ps n hps, ih]
    have e : n % (prodL ps * (li p.2.1).length) = n % prodL ps + prodL ps * (n / prodL ps % (li p.2.1).length) := Nat.mod_mul
    rw [Nat.mul_comm (li p.2.1).length (prodL ps), e, Nat.add_mul, Nat.mul_assoc a, Nat.mul_comm (li p.2.1).length (prodL ps), Nat.mul_comm (n / prodL ps % (li p.2.1).length) (prodL ps)]
    omega
theorem digs_fitGo : ∀ (ps : List TPort) (n : Nat), Lens ps → fitGo ps (digs ps n).1 = true
  | [], n, _ => rfl
  | p :: ps, n, h => by
    have hl := h p (by simp)
    have ih := digs_fitGo ps n (fun q hq => h q (by simp [hq]))
    have hm : (digs ps n).2 % (li p.2.1).length < (li p.2.1).length := Nat.mod_lt _ (by omega)
    simp only [digs, fitGo, ih, Bool.and_true, Bool.and_eq_true, decide_eq_true_eq]
    omega
theorem digs_fit (ps : List TPort) (n : Nat) (h : Lens ps) : fitP ps (digs ps n).1 = true := by
  simp only [fitP, digs_len, digs_fitGo ps n h, decide_true, Bool.and_self]
theorem digs_row (ps : List TPort) (n : Nat) (h : Lens ps) (hn : n < prodL ps) : numGo ps (digs ps n).1 0 = n := by
  rw [digs_num ps n 0 h, Nat.mod_eq_of_lt hn]
  omega
section
variable {o : Option (List TPort)}
theorem set_mid {α : Type} {l : List α} {j : Nat} {x y : α} : (List.replicate (j + 1) x ++ l).set j y = List.replicate j x ++ y :: l := by
  rw [List.replicate_succ', List.append_assoc, List.set_append_right _ _ (by simp)]
  simp
theorem dig_step {j : Nat} {l : List Int} {v : Int} : rIdx (List.replicate (j + 1) [(FV.int .i64 0 : FV)] ++ l.map I) (.int .i64 (j : Int)) = some j ∧ rSet (List.replicate (j + 1) [(FV.int .i64 0 : FV)] ++ l.map I) j 0 [.int .i64 v] = some (List.replicate j [(FV.int .i64 0 : FV)] ++ (v :: l).map I) := by
  constructor
  · exact rIdx_at (by simp; omega)
  · rw [rSet_one (x := .int .i64 0) (by rw [List.getElem?_append_left (by simp)]; simp), set_mid]
    rfl
theorem parts_L0 (hs : (li o).length < 1000000000000000) (hL : Lens (li o)) {n : Nat} (hn : n < 1000000000000000) : ∀ j, j ≤ (li o).length →
    ref02_Parts.L0 (sl P o) (.int .i64 ((digs ((li o).drop j) n).2 : Int)) (.int .i64 ((j : Int) - 1)) (List.replicate j [(FV.int .i64 0 : FV)] ++ (digs ((li o).drop j) n).1.map I) = some (.arr ((digs (li o) n).1.map I)) := by
  intro j
  induction j with
  | zero =>
    intro _
    rw [ref02_Parts.L0_eq]
    simp only [fBin_geq, bindO_s, fCond_b, decide_eq_true_eq]
    rw [if_neg (by omega)]
    rfl
  | succ j ih =>
    intro hj
    have hp : (li o)[j]? = some (li o)[j] := List.getElem?_eq_getElem (by omega)
    have hd : (li o).drop j = (li o)[j] :: (li o).drop (j + 1) := List.drop_eq_getElem_cons (by omega)
    have ih' := ih (by omega)
    have hl := hL _ (List.mem_of_getElem? hp)
    rw [hd] at ih'
    simp only [digs] at ih'
    have hle := digs_le ((li o).drop (j + 1)) n
    generalize (digs ((li o).drop (j + 1)) n).2 = m at *
    generalize (digs ((li o).drop (j + 1)) n).1 = l at *
    have e1 : (((j + 1 : Nat) : Int) - 1) = (j : Int) := by omega
    have w1 : IntKind.i64.wrap ((j : Int) - 1) = (j : Int) - 1 := wrap64 (by omega) (by omega)
    have w2 : IntKind.i64.wrap (((m : Int)).tdiv ((li (li o)[j].2.1).length : Int)) = ((m / (li (li o)[j].2.1).length : Nat) : Int) := by
      rw [← Int.ofNat_tdiv]
      have hq := Nat.div_le_self m (li (li o)[j].2.1).length
      generalize m / (li (li o)[j].2.1).length = q at *
      exact wrap64 (by omega) (by omega)
    have w3 : ((m : Int)).tmod ((li (li o)[j].2.1).length : Int) = ((m % (li (li o)[j].2.1).length : Nat) : Int) := by rw [Int.ofNat_tmod]
    obtain ⟨d1, d2⟩ := dig_step (j := j) (l := l) (v := ((m % (li (li o)[j].2.1).length : Nat) : Int))
    rw [ref02_Parts.L0_eq, e1]
    simp only [fBin_geq, bindO_s, fCond_b, decide_eq_true_eq, show (0 : Int) ≤ (j : Int) by omega, if_true, idx_sl hp (P_len _), P_one, fLen_sl, fBin_rem, fBin_quo, show ¬ ((li (li o)[j].2.1).length : Int) = 0 by omega, if_false, w2, w3, d1, d2, fBin_sub, w1]
    exact ih'
theorem parts_ok (hs : (li o).length < 1000000000000) (hL : Lens (li o)) {n : Nat} (hn : n < 1000000000000000) : ref02_Parts (sl P o) (.int .i64 (n : Int)) = some (.arr ((digs (li o) n).1.map I)) := by
  have h0 := parts_L0 (o := o) (by omega) hL hn (li o).length (Nat.le_refl _)
  rw [List.drop_eq_nil_of_le (Nat.le_refl _)] at h0
  have w1 : IntKind.i64.wrap (((li o).length : Int) - 1) = ((li o).length : Int) - 1 := wrap64 (by omega) (by omega)
  rw [ref02_Parts.eq]
  simp only [fLen_sl, bindO_s, asNat_nat, Nat.le_refl, show (li o).length * 8 ≤ room by unfold room; omega, decide_true, Bool.and_self, ge_iff_le, gB_t, fBin_sub, w1]
  simpa [digs] using h0
theorem digits_L0 (hs : (li o).length < 1000000000000000) (hL : Lens (li o)) {n : Nat} (hn : n < 1000000000000000) : ∀ j, j ≤ (li o).length →
    mach_digits.L0 (sl P o) (.int .i64 ((digs ((li o).drop j) n).2 : Int)) (.int .i64 ((j : Int) - 1)) (List.replicate j [(FV.int .i64 0 : FV)] ++ (digs ((li o).drop j) n).1.map I) = some (.arr ((digs (li o) n).1.map I)) := by
  intro j
  induction j with
  | zero =>
    intro _
    rw [mach_digits.L0_eq]
    simp only [fBin_geq, bindO_s, fCond_b, decide_eq_true_eq]
    rw [if_neg (by omega)]
    rfl
  | succ j ih =>
    intro hj
    have hp : (li o)[j]? = some (li o)[j] := List.getElem?_eq_getElem (by omega)
    have hd : (li o).drop j = (li o)[j] :: (li o).drop (j + 1) := List.drop_eq_getElem_cons (by omega)
    have ih' := ih (by omega)
    have hl := hL _ (List.mem_of_getElem? hp)
    rw [hd] at ih'
    simp only [digs] at ih'
    have hle := digs_le ((li o).drop (j + 1)) n
    generalize (digs ((li o).drop (j + 1)) n).2 = m at *
    generalize (digs ((li o).drop (j + 1)) n).1 = l at *
    have e1 : (((j + 1 : Nat) : Int) - 1) = (j : Int) := by omega
    have w1 : IntKind.i64.wrap ((j : Int) - 1) = (j : Int) - 1 := wrap64 (by omega) (by omega)
    have w2 : IntKind.i64.wrap (((m : Int)).tdiv ((li (li o)[j].2.1).length : Int)) = ((m / (li (li o)[j].2.1).length : Nat) : Int) := by
      rw [← Int.ofNat_tdiv]
      have hq := Nat.div_le_self m (li (li o)[j].2.1).length
      generalize m / (li (li o)[j].2.1).length = q at *
      exact wrap64 (by omega) (by omega)
    have w3 : ((m : Int)).tmod ((li (li o)[j].2.1).length : Int) = ((m % (li (li o)[j].2.1).length : Nat) : Int) := by rw [Int.ofNat_tmod]
    obtain ⟨d1, d2⟩ := dig_step (j := j) (l := l) (v := ((m % (li (li o)[j].2.1).length : Nat) : Int))
    rw [mach_digits.L0_eq, e1]
    simp only [fBin_geq, bindO_s, fCond_b, decide_eq_true_eq, show (0 : Int) ≤ (j : Int) by omega, if_true, idx_sl hp (P_len _), P_one, fLen_sl, fBin_rem, fBin_quo, show ¬ ((li (li o)[j].2.1).length : Int) = 0 by omega, if_false, w2, w3, d1, d2, fBin_sub, w1]
    exact ih'
theorem digits_ok (hs : (li o).length < 1000000000000) (hL : Lens (li o)) {n : Nat} (hn : n < 1000000000000000) : mach_digits (sl P o) (.int .i64 (n : Int)) = some (.arr ((digs (li o) n).1.map I)) := by
  have h0 := digits_L0 (o := o) (by omega) hL hn (li o).length (Nat.le_refl _)
  rw [List.drop_eq_nil_of_le (Nat.le_refl _)] at h0
  have w1 : IntKind.i64.wrap (((li o).length : Int) - 1) = ((li o).length : Int) - 1 := wrap64 (by omega) (by omega)
  rw [mach_digits.eq]
  simp only [fLen_sl, bindO_s, asNat_nat, Nat.le_refl, show (li o).length * 8 ≤ room by unfold room; omega, decide_true, Bool.and_self, ge_iff_le, gB_t, fBin_sub, w1]
  simpa [digs] using h0
end

/-! ### Rows turned round -/
def rvec (n : Nat) (g : Nat → FV) : List (List FV) := (List.range n).map fun t => [g t]
theorem rvec_get {n : Nat} {g : Nat → FV} {i : Nat} (h : i < n) : (rvec n g)[i]? = some [g i] := by simp [rvec, h]
theorem rvec_set {n : Nat} {g g' : Nat → FV} {i : Nat} (hi : i < n) {x : FV} (h0 : g' i = x) (h1 : ∀ j, j ≠ i → j < n → g' j = g j) : rSet (rvec n g) i 0 [x] = some (rvec n g') := by
  rw [rSet_one (rvec_get hi)]
  congr 1
  apply List.ext_getElem
  · simp [rvec]
  · intro j hj1 hj2
    have hj : j < n := by simpa [rvec] using hj2
    simp only [rvec, List.getElem_set, List.getElem_map, List.getElem_range]
    by_cases e : i = j
    · subst e; rw [if_pos rfl, h0]
    · rw [if_neg e, h1 j (fun e' => e e'.symm) hj]
def mix (n i : Nat) (g : Nat → FV) (t : Nat) : FV := if t < i ∨ n - i ≤ t then g (n - 1 - t) else g t
theorem reverse_L0 {n : Nat} (hn : n < 1000000000000000) (g : Nat → FV) : ∀ (d i : Nat), n - i = d → i ≤ n →
    slices_Reverse_int.L0 (.int .i64 (i : Int)) (.int .i64 ((n : Int) - 1 - i)) (rvec n (mix n i g)) = some (.arr (rvec n fun t => g (n - 1 - t))) := by
  intro d
  induction d with
  | zero =>
    intro i hd hi
    rw [slices_Reverse_int.L0_eq]
    simp only [fBin_lss, bindO_s, fCond_b, decide_eq_true_eq]
    rw [if_neg (by omega)]
    congr 2
    unfold rvec
    refine List.map_congr_left fun t ht => ?_
    have := List.mem_range.1 ht
    unfold mix
    rw [if_pos (by omega)]
  | succ d ih =>
    intro i hd hi
    rw [slices_Reverse_int.L0_eq]
    simp only [fBin_lss, bindO_s, fCond_b, decide_eq_true_eq]
    by_cases g0 : (i : Int) < (n : Int) - 1 - i
    · rw [if_pos g0]
      have ej : ((n : Int) - 1 - i) = ((n - 1 - i : Nat) : Int) := by omega
      have hlen : ∀ f, (rvec n f).length = n := fun f => by simp [rvec]
      have w1 : IntKind.i64.wrap ((i : Int) + 1) = ((i + 1 : Nat) : Int) := wrap64 (by omega) (by omega)
      have w2 : IntKind.i64.wrap ((n : Int) - 1 - i - 1) = (n : Int) - 1 - ((i + 1 : Nat) : Int) := by rw [wrap64 (by omega) (by omega)]; omega
      have m1 : mix n i g (n - 1 - i) = g (n - 1 - i) := by unfold mix; rw [if_neg (by omega)]
      have m2 : mix n i g i = g i := by unfold mix; rw [if_neg (by omega)]
      have s1 := rvec_set (n := n) (g := mix n i g) (g' := fun t => if t = i then g (n - 1 - i) else mix n i g t) (i := i) (x := g (n - 1 - i)) (by omega) (by simp) (fun j hj _ => by simp [hj])
      have s2 := rvec_set (n := n) (g := fun t => if t = i then g (n - 1 - i) else mix n i g t) (g' := mix n (i + 1) g) (i := n - 1 - i) (x := g i) (by omega) (by
        unfold mix
        rw [if_pos (by omega)]
        congr 1
        omega) (fun j hj hjn => by
        unfold mix
        by_cases e : j = i
        · subst e; rw [if_pos (by omega), if_pos rfl]
        · rw [if_neg e]
          by_cases e2 : j < i ∨ n - i ≤ j
          · rw [if_pos (by omega), if_pos e2]
          · rw [if_neg (by omega), if_neg e2])
      have i1 : ∀ f, rIdx (rvec n f) (.int .i64 (i : Int)) = some i := fun f => rIdx_at (by rw [hlen]; omega)
      have i2 : ∀ f, rIdx (rvec n f) (.int .i64 ((n : Int) - 1 - i)) = some (n - 1 - i) := fun f => by rw [ej]; exact rIdx_at (by rw [hlen]; omega)
      have q1 : rGet (rvec n (mix n i g)) (n - 1 - i) 0 = some (g (n - 1 - i)) := by rw [rGet_at (rvec_get (by omega)), m1]; rfl
      have q2 : rGet (rvec n (mix n i g)) i 0 = some (g i) := by rw [rGet_at (rvec_get (by omega)), m2]; rfl
      simp only [i1, i2, q1, q2, bindO_s, s1, s2, fBin_add, fBin_sub, w1, w2]
      exact ih (i + 1) (by omega) (by omega)
    · rw [if_neg g0]
      congr 2
      unfold rvec
      refine List.map_congr_left fun t ht => ?_
      have := List.mem_range.1 ht
      unfold mix
      by_cases e : t < i ∨ n - i ≤ t
      · rw [if_pos e]
      · rw [if_neg e]
        congr 2
        omega
theorem reverse_ok {l : List (List Int)} (hl : l.length < 1000000000000000) : slices_Reverse_int (.arr (l.map LL)) = some (.arr (l.reverse.map LL)) := by
  have e : ∀ m : List (List Int), m.map LL = rvec m.length (fun t => .arr ((m.getD t []).map I)) := by
    intro m
    apply List.ext_getElem
    · simp [rvec]
    · intro j h1 h2
      have hj : j < m.length := by simpa using h1
      simp [rvec, LL, List.getD_eq_getElem?_getD, hj]
  have h0 := reverse_L0 (n := l.length) hl (fun t => .arr ((l.getD t []).map I)) _ 0 rfl (Nat.zero_le _)
  have w1 : IntKind.i64.wrap ((l.length : Int) - 1) = (l.length : Int) - 1 := wrap64 (by omega) (by omega)
  rw [slices_Reverse_int.eq]
  simp only [List.length_map, fBin_sub, w1, bindO_s]
  rw [e l, e l.reverse]
  have m0 : mix l.length 0 (fun t => FV.arr ((l.getD t []).map I)) = fun t => if l.length ≤ t then FV.arr ((l.getD (l.length - 1 - t) []).map I) else .arr ((l.getD t []).map I) := by
    funext t; simp [mix]
  have hr : rvec l.length (mix l.length 0 fun t => FV.arr ((l.getD t []).map I)) = rvec l.length fun t => FV.arr ((l.getD t []).map I) := by
    unfold rvec
    refine List.map_congr_left fun t ht => ?_
    have := List.mem_range.1 ht
    rw [m0]
    simp only
    rw [if_neg (by omega)]
  rw [hr] at h0
  simp only [Int.natCast_zero, Int.sub_zero] at h0
  refine Eq.trans h0 ?_
  congr 2
  rw [List.length_reverse]
  unfold rvec
  refine List.map_congr_left fun t ht => ?_
  have := List.mem_range.1 ht
  simp only [List.getD_eq_getElem?_getD, List.getElem?_reverse this]

/-! ### Lists that are the same -/
theorem sameInts_gen {x y : FV} {l m : List Int} (hx : fLen x = some (.int .i64 (l.length : Int))) (hy : fLen y = some (.int .i64 (m.length : Int))) (ix : ∀ (k : Nat) v, l[k]? = some v → fIdxC 1 x (.int .i64 (k : Int)) = some (I v)) (iy : ∀ (k : Nat) v, m[k]? = some v → fIdxC 1 y (.int .i64 (k : Int)) = some (I v)) (hl : l.length < 1000000000000000) :
    ref02_sameInts x y = some (.bool (decide (l = m))) ∧ slices_Equal_int x y = some (.bool (decide (l = m))) := by
  have key : l.length = m.length → ∀ (s t : List Int) (k : Nat), l.drop k = s → m.drop k = t → ref02_sameInts.L0 x y (.int .i64 (k : Int)) = some (.bool (decide (s = t))) ∧ slices_Equal_int.L0 x y (.int .i64 (l.length : Int)) (.int .i64 (k : Int)) = some (.bool (decide (s = t))) := by
    intro hlm s
    induction s with
    | nil =>
      intro t k h1 h2
      have hk := drop_nil h1
      have ht : t = [] := by rw [← h2]; exact List.drop_eq_nil_of_le (by omega)
      rw [ref02_sameInts.L0_eq, slices_Equal_int.L0_eq, ht]
      simp only [hx, bindO_s, fBin_lss, fCond_b, decide_eq_true_eq, Int.ofNat_lt, hk, if_false, decide_true, and_self]
    | cons v s ih =>
      intro t k h1 h2
      obtain ⟨hk, hn, hs⟩ := drop_cons h1
      have e : IntKind.i64.wrap ((k : Int) + 1) = ((k + 1 : Nat) : Int) := wrap64 (by omega) (by omega)
      cases t with
      | nil => exact absurd (drop_nil h2) (by omega)
      | cons u t =>
        obtain ⟨_, hn2, hs2⟩ := drop_cons h2
        obtain ⟨i1, i2⟩ := ih t (k + 1) hs hs2
        rw [ref02_sameInts.L0_eq, slices_Equal_int.L0_eq]
        simp only [hx, bindO_s, fBin_lss, fCond_b, decide_eq_true_eq, Int.ofNat_lt, hk, if_true, ix k v hn, iy k u hn2, I_zero, fBin_neq, fBin_add, e, i1, i2, ne_eq]
        by_cases g : v = u
        · simp [g]
        · simp [g]
  rw [ref02_sameInts.eq, slices_Equal_int.eq]
  simp only [hx, hy, bindO_s, fBin_neq, fCond_b, decide_eq_true_eq, ne_eq, Int.ofNat_inj]
  by_cases g : l.length = m.length
  · obtain ⟨k1, k2⟩ := key g l m 0 rfl rfl
    rw [if_neg (fun q => q g), if_neg (fun q => q g)]
    exact ⟨k1, k2⟩
  · have : decide (l = m) = false := by simp; intro e; exact g (by rw [e])
    rw [if_pos g, if_pos g, this]
    exact ⟨rfl, rfl⟩
theorem sameInts_sl {a b : Option (List Int)} (h : (li a).length < 1000000000000000) : ref02_sameInts (sl I a) (sl I b) = some (.bool (decide (li a = li b))) ∧ slices_Equal_int (sl I a) (sl I b) = some (.bool (decide (li a = li b))) :=
  sameInts_gen (fLen_sl _ _) (fLen_sl _ _) (fun k v hv => idx_sl hv (I_len v)) (fun k v hv => idx_sl hv (I_len v)) h

/-! ### Sizes -/
def lenP (p : TPort) : Nat := (li p.2.1).length
def sizesB (a b : List TPort) : Bool := decide (a.map lenP = b.map lenP)
theorem dyn_len (a b c d : FV) : callDyn false (.func 69 []) [.agg [a, b], .agg [c, d]] = mach_Differ_1_1 (.agg [a, b]) (.agg [c, d]) := by kernel_rfl
section
variable {a b : Option (List TPort)}
theorem sizes_ok (hs : (li a).length < 1000000000000000) : ref02_sameSizes (sl P a) (sl P b) = some (.bool (sizesB (li a) (li b))) ∧ mach_Differ_1 (sl P a) (sl P b) = some (.bool (sizesB (li a) (li b))) := by
  have key : (li a).length = (li b).length → ∀ (s t : List TPort) (k : Nat), (li a).drop k = s → (li b).drop k = t → ref02_sameSizes.L0 (sl P a) (sl P b) (.int .i64 (k : Int)) = some (.bool (sizesB s t)) ∧ slices_EqualFunc_api_Port.L0 (sl P b) (.func 69 []) (sl P a) (.int .i64 ((li a).length : Int)) (.int .i64 (k : Int)) = some (.bool (sizesB s t)) := by
    intro hlm s
    induction s with
    | nil =>
      intro t k h1 h2
      have hk := drop_nil h1
      have ht : t = [] := by rw [← h2]; exact List.drop_eq_nil_of_le (by omega)
      rw [ref02_sameSizes.L0_eq, slices_EqualFunc_api_Port.L0_eq, ht]
      simp only [fLen_sl, bindO_s, fBin_lss, fCond_b, decide_eq_true_eq, Int.ofNat_lt, hk, if_false, sizesB, decide_true, and_self]
    | cons v s ih =>
      intro t k h1 h2
      obtain ⟨hk, hn, hs'⟩ := drop_cons h1
      have e : IntKind.i64.wrap ((k : Int) + 1) = ((k + 1 : Nat) : Int) := wrap64 (by omega) (by omega)
      cases t with
      | nil => exact absurd (drop_nil h2) (by omega)
      | cons u t =>
        obtain ⟨_, hn2, hs2⟩ := drop_cons h2
        obtain ⟨i1, i2⟩ := ih t (k + 1) hs' hs2
        have h11 : mach_Differ_1_1 (.agg [.str v.1, sl S v.2.1]) (.agg [.str u.1, sl S u.2.1]) = some (.bool (decide (((li v.2.1).length : Int) = ((li u.2.1).length : Int)))) := by
          rw [mach_Differ_1_1.eq]
          simp only [fIsAgg_agg, List.length_cons, List.length_nil, fCell_zero, fCell_succ, fLen_sl, bindO_s, fBin_eql]
          rfl
        rw [ref02_sameSizes.L0_eq, slices_EqualFunc_api_Port.L0_eq]
        simp only [fLen_sl, bindO_s, fBin_lss, fCond_b, decide_eq_true_eq, Int.ofNat_lt, hk, if_true, idx_sl hn (P_len v), idx_sl hn2 (P_len u), P_zero, P_one, dyn_len, h11, fUn_not, fBin_neq, fBin_add, e, i1, i2, ne_eq, Int.ofNat_inj, Bool.not_eq_true', decide_eq_false_iff_not]
        by_cases g : (li v.2.1).length = (li u.2.1).length
        · simp [g, sizesB, lenP]
        · simp [g, sizesB, lenP]
  rw [ref02_sameSizes.eq, mach_Differ_1.eq, slices_EqualFunc_api_Port.eq]
  simp only [fLen_sl, bindO_s, fBin_neq, fCond_b, decide_eq_true_eq, ne_eq, Int.ofNat_inj]
  by_cases g : (li a).length = (li b).length
  · obtain ⟨k1, k2⟩ := key g (li a) (li b) 0 rfl rfl
    rw [if_neg (fun q => q g), if_neg (fun q => q g)]
    refine ⟨k1, ?_⟩
    rw [show (FV.int .i64 0) = .int .i64 ((0 : Nat) : Int) from rfl, k2]
    rfl
  · have : sizesB (li a) (li b) = false := by
      simp only [sizesB, decide_eq_false_iff_not]
      intro e
      have := congrArg List.length e
      simp at this
      exact g this
    rw [if_pos g, if_pos g, this]
    exact ⟨rfl, rfl⟩
theorem sizes_prod : ∀ {a b : List TPort}, sizesB a b = true → prodL a = prodL b
  | [], [], _ => rfl
  | [], _ :: _, h => by simp [sizesB] at h
  | _ :: _, [], h => by simp [sizesB] at h
  | p :: a, q :: b, h => by
    simp only [sizesB, List.map_cons, List.cons.injEq, decide_eq_true_eq] at h
    have ih := sizes_prod (a := a) (b := b) (by simp [sizesB, h.2])
    simp only [prodL, ih]
    rw [show (li p.2.1).length = (li q.2.1).length from h.1]
theorem sizes_digs : ∀ {a b : List TPort} (n : Nat), sizesB a b = true → digs a n = digs b n
  | [], [], _, _ => rfl
  | [], _ :: _, n, h => by simp [sizesB] at h
  | _ :: _, [], n, h => by simp [sizesB] at h
  | p :: a, q :: b, n, h => by
    simp only [sizesB, List.map_cons, List.cons.injEq, decide_eq_true_eq] at h
    have ih := sizes_digs (a := a) (b := b) n (by simp [sizesB, h.2])
    simp only [digs, ih]
    rw [show (li p.2.1).length = (li q.2.1).length from h.1]
end
end Go.Proofs.Ytelcbakleaaneaa
end
section
namespace Go.Proofs.Ytelcbakleaaneaa
open Go Go.Proofs.Ytelcbakleaaneaa.VM
set_option linter.unusedVariables false
set_option linter.unusedSimpArgs false
set_option linter.unusedSectionVars false

/-- A pair of states that was come to: from which entry, from which pair, by which letter. -/
structure En where
  a : Nat
  b : Nat
  fr : Int
  pa : Nat
  pb : Nat
  inp : Nat
def prK (a b : Nat) : FV := .agg [.int .i64 (a : Int), .int .i64 (b : Int)]
theorem pr_keyEq (a b c d : Nat) : keyEq true [.int, .int] (prK a b) (prK c d) = some (decide ((a, b) = (c, d))) := by
  have h1 : ((a : Int) == (c : Int)) = decide (a = c) := by rw [Bool.eq_iff_iff]; simp; omega
  have h2 : ((b : Int) == (d : Int)) = decide (b = d) := by rw [Bool.eq_iff_iff]; simp; omega
  simp only [prK, keyEq, cellsEq, scalarEq, if_true, bindO_s, h1, h2, Bool.and_true, Prod.mk.injEq]
  by_cases g1 : a = c <;> by_cases g2 : b = d <;> simp [g1, g2]
theorem pr_keyOk (a b : Nat) : keyOk true [.int, .int] (prK a b) = true := rfl
def enV (e : En) : FV := .agg [.int .i64 (e.pa : Int), .int .i64 (e.pb : Int), .int .i64 (if e.fr < 0 then -1 else (e.inp : Int))]
def mapD (L : List En) : List (FV × FV) := L.map fun e => (prK e.a e.b, enV e)
def keyD (e : En) : Nat × Nat := (e.a, e.b)
theorem mFind_D (a b : Nat) : ∀ L : List En, mFind true [.int, .int] (mapD L) (prK a b) = some ((L.find? fun e => decide ((a, b) = keyD e)).map enV)
  | [] => rfl
  | e :: L => by
    have ih := mFind_D a b L
    simp only [mapD, List.map_cons, mFind, pr_keyEq, bindO_s, List.find?_cons, keyD] at ih ⊢
    by_cases g : (a, b) = (e.a, e.b)
    · simp [g]
    · simp only [g, decide_false]
      exact ih
theorem find_D {L : List En} (hn : (L.map keyD).Nodup) {j : Nat} {e : En} (h : L[j]? = some e) : L.find? (fun x => decide (keyD e = keyD x)) = some e := by
  induction L generalizing j with
  | nil => simp at h
  | cons x L ih =>
    rw [List.map_cons, List.nodup_cons] at hn
    rw [List.find?_cons]
    cases j with
    | zero => simp at h; subst h; simp
    | succ j =>
      simp only [List.getElem?_cons_succ] at h
      have hne : keyD e ≠ keyD x := fun g => hn.1 (g ▸ List.mem_map_of_mem (List.mem_of_getElem? h))
      simp only [hne, decide_false]
      exact ih hn.2 h
theorem mLook_hit {L : List En} (hn : (L.map keyD).Nodup) {j : Nat} {e : En} (h : L[j]? = some e) (z : FV) : mLook true [.int, .int] (mapD L) (prK e.a e.b) z = some (enV e, true) := by
  unfold mLook
  rw [pr_keyOk, mFind_D, show L.find? (fun x => decide ((e.a, e.b) = keyD x)) = some e from find_D hn h]
  rfl
theorem mLook_miss {L : List En} {a b : Nat} (h : (a, b) ∉ L.map keyD) (z : FV) : mLook true [.int, .int] (mapD L) (prK a b) z = some (z, false) := by
  unfold mLook
  have : L.find? (fun e => decide ((a, b) = keyD e)) = none := by
    rw [List.find?_eq_none]
    intro e he
    simp only [decide_eq_true_eq]
    exact fun g => h (g ▸ List.mem_map_of_mem he)
  rw [pr_keyOk, mFind_D, this]
  rfl
theorem mPut_D {x : En} : ∀ {L : List En}, keyD x ∉ L.map keyD → mPut true [.int, .int] (mapD L) (prK x.a x.b) (enV x) = some (mapD (L ++ [x]))
  | [], _ => rfl
  | e :: L, h => by
    have ih := mPut_D (x := x) (L := L) (fun g => h (by simp [g]))
    have g : (x.a, x.b) ≠ (e.a, e.b) := fun g => h (by simp [keyD, g])
    simp only [mapD, List.map_cons, List.cons_append, mPut, pr_keyEq, bindO_s, g, decide_false] at ih ⊢
    rw [ih]; rfl
theorem pigD : ∀ (n : Nat) (l : List Nat), l.Nodup → (∀ x ∈ l, x < n) → l.length ≤ n
  | 0, l, _, h => by
    cases l with
    | nil => simp
    | cons x l => exact absurd (h x (by simp)) (by omega)
  | n + 1, l, hn, h => by
    by_cases g : n ∈ l
    · have h1 := pigD n (l.erase n) (hn.erase n) (fun x hx => by
        have := (hn.mem_erase_iff).1 hx
        have := h x this.2
        omega)
      rw [List.length_erase_of_mem g] at h1
      omega
    · have := pigD n l hn (fun x hx => by
        have h2 := h x hx
        have h3 : x ≠ n := fun e => g (e ▸ hx)
        omega)
      omega
/-- A run by the numbers of its letters. -/
def runN (rows : List TRow) (p : Nat) : Nat → List Nat → List (List Int) × Nat
  | st, [] => ([], st)
  | st, k :: ks => (li (rows.getD (st * p + k) default).2.1 :: (runN rows p (rows.getD (st * p + k) default).1.toNat ks).1, (runN rows p (rows.getD (st * p + k) default).1.toNat ks).2)
theorem runN_snoc (rows : List TRow) (p : Nat) : ∀ (ks : List Nat) (st k : Nat), runN rows p st (ks ++ [k]) = ((runN rows p st ks).1 ++ [li (rows.getD ((runN rows p st ks).2 * p + k) default).2.1], (rows.getD ((runN rows p st ks).2 * p + k) default).1.toNat)
  | [], st, k => rfl
  | x :: ks, st, k => by simp [runN, runN_snoc rows p ks]
inductive Path (L : List En) : Nat → List Nat → Prop
  | root (e : En) : L[0]? = some e → Path L 0 []
  | step (j p : Nat) (e f : En) (l : List Nat) : L[j]? = some e → e.fr = (p : Int) → p < j → L[p]? = some f → e.pa = f.a → e.pb = f.b → Path L p l → Path L j (l ++ [e.inp])
theorem Path.len {L : List En} {j : Nat} {l : List Nat} (h : Path L j l) : l.length ≤ j := by
  induction h with
  | root e h => simp
  | step j p e f l h1 h2 h3 h4 h5 h6 h7 ih => simp; omega

section
variable {nA nB : Str} {sA sB : Option (List Str)} {a0 b0 : Int} {iA oA iB oB : Option (List TPort)} {wA wB : Option (List TRow)}
/-- The row of a state and a letter. -/
def rowN (rows : List TRow) (p st k : Nat) : TRow := rows.getD (st * p + k) default
structure BInv (rA rB : List TRow) (p SA SB : Nat) (a0 b0 : Int) (L : List En) : Prop where
  root : L[0]? = some ⟨a0.toNat, b0.toNat, -1, a0.toNat, b0.toNat, 0⟩
  nd : (L.map keyD).Nodup
  rng : ∀ e ∈ L, e.a < SA ∧ e.b < SB
  par : ∀ (j : Nat) (e : En), L[j]? = some e → j = 0 ∨ ∃ (q : Nat) (f : En), e.fr = (q : Int) ∧ q < j ∧ L[q]? = some f ∧ e.pa = f.a ∧ e.pb = f.b ∧ e.inp < p ∧ (rowN rA p f.a e.inp).1.toNat = e.a ∧ (rowN rB p f.b e.inp).1.toNat = e.b ∧ li (rowN rA p f.a e.inp).2.1 = li (rowN rB p f.b e.inp).2.1
theorem BInv.path {rA rB : List TRow} {p SA SB : Nat} {a0 b0 : Int} {L : List En} (h : BInv rA rB p SA SB a0 b0 L) : ∀ (n j : Nat) (e : En), j ≤ n → L[j]? = some e → ∃ l, Path L j l ∧ (∀ k ∈ l, k < p) ∧ ∃ outs, runN rA p a0.toNat l = (outs, e.a) ∧ runN rB p b0.toNat l = (outs, e.b)
  | n, j, e, hj, he => by
    rcases h.par j e he with rfl | ⟨q, f, h1, h2, h3, h4, h5, h6, h7, h8, h9⟩
    · have := h.root
      rw [he] at this; cases this
      exact ⟨[], .root _ he, by simp, [], rfl, rfl⟩
    · cases n with
      | zero => omega
      | succ n =>
        obtain ⟨l, g1, g2, outs, g3, g4⟩ := BInv.path h n q f (by omega) h3
        refine ⟨l ++ [e.inp], .step j q e f l he h1 h2 h3 h4 h5 g1, fun k hk => ?_, outs ++ [li (rowN rA p f.a e.inp).2.1], ?_, ?_⟩
        · rcases List.mem_append.1 hk with hk | hk
          · exact g2 k hk
          · simp at hk; omega
        · rw [runN_snoc, g3]
          simp only
          unfold rowN at h7 ⊢
          rw [h7]
        · rw [runN_snoc, g4, h9]
          simp only
          unfold rowN at h8 ⊢
          rw [h8]
def numE (SB : Nat) (e : En) : Nat := e.a * SB + e.b
theorem num_inj {SB a b c d : Nat} (h1 : b < SB) (h2 : d < SB) (h : a * SB + b = c * SB + d) : a = c ∧ b = d := by
  have e1 : (a * SB + b) / SB = a := by rw [Nat.add_comm, Nat.add_mul_div_right _ _ (by omega), Nat.div_eq_of_lt h1]; omega
  have e2 : (c * SB + d) / SB = c := by rw [Nat.add_comm, Nat.add_mul_div_right _ _ (by omega), Nat.div_eq_of_lt h2]; omega
  rw [h, e2] at e1
  subst e1
  exact ⟨rfl, by omega⟩
theorem num_lt {SA SB a b : Nat} (h1 : a < SA) (h2 : b < SB) : a * SB + b < SA * SB := by
  have : (a + 1) * SB ≤ SA * SB := Nat.mul_le_mul_right _ h1
  rw [Nat.add_mul] at this
  omega
theorem BInv.len {rA rB : List TRow} {p SA SB : Nat} {a0 b0 : Int} {L : List En} (h : BInv rA rB p SA SB a0 b0 L) : L.length ≤ SA * SB := by
  have hn : (L.map (numE SB)).Nodup := by
    have key : ∀ M : List En, (∀ e ∈ M, e.b < SB) → (M.map keyD).Nodup → (M.map (numE SB)).Nodup := by
      intro M
      induction M with
      | nil => intro _ _; simp
      | cons e M ih =>
        intro hb hnd
        rw [List.map_cons, List.nodup_cons] at hnd ⊢
        refine ⟨fun g => hnd.1 ?_, ih (fun x hx => hb x (by simp [hx])) hnd.2⟩
        obtain ⟨f, hf, hfe⟩ := List.mem_map.1 g
        obtain ⟨q1, q2⟩ := num_inj (hb f (by simp [hf])) (hb e (by simp)) hfe
        exact List.mem_map.2 ⟨f, hf, by simp [keyD, q1, q2]⟩
    exact key L (fun e he => (h.rng e he).2) h.nd
  have := pigD (SA * SB) (L.map (numE SB)) hn (fun x hx => by
    obtain ⟨e, he, rfl⟩ := List.mem_map.1 hx
    exact num_lt (h.rng e he).1 (h.rng e he).2)
  simpa using this
theorem mem_num {rA rB : List TRow} {p SA SB : Nat} {a0 b0 : Int} {L : List En} (h : BInv rA rB p SA SB a0 b0 L) {a b : Nat} (hb : b < SB) : a * SB + b ∈ L.map (numE SB) ↔ (a, b) ∈ L.map keyD := by
  simp only [List.mem_map]
  constructor
  · rintro ⟨e, he, g⟩
    obtain ⟨q1, q2⟩ := num_inj (h.rng e he).2 hb g
    exact ⟨e, he, by simp [keyD, q1, q2]⟩
  · rintro ⟨e, he, g⟩
    simp only [keyD, Prod.mk.injEq] at g
    exact ⟨e, he, by simp [numE, g.1, g.2]⟩
theorem BInv.put {rA rB : List TRow} {p SA SB : Nat} {a0 b0 : Int} {L : List En} (h : BInv rA rB p SA SB a0 b0 L) {i k : Nat} {e : En} (he : L[i]? = some e) (hk : k < p) (hA : (rowN rA p e.a k).1.toNat < SA) (hB : (rowN rB p e.b k).1.toNat < SB) (ho : li (rowN rA p e.a k).2.1 = li (rowN rB p e.b k).2.1)
    (hnew : ((rowN rA p e.a k).1.toNat, (rowN rB p e.b k).1.toNat) ∉ L.map keyD) : BInv rA rB p SA SB a0 b0 (L ++ [⟨(rowN rA p e.a k).1.toNat, (rowN rB p e.b k).1.toNat, (i : Int), e.a, e.b, k⟩]) := by
  have hi : i < L.length := (List.getElem?_eq_some_iff.1 he).1
  have h0 : 0 < L.length := by omega
  have old : ∀ {j : Nat} {x : En}, L[j]? = some x → (L ++ [(⟨(rowN rA p e.a k).1.toNat, (rowN rB p e.b k).1.toNat, (i : Int), e.a, e.b, k⟩ : En)])[j]? = some x := fun {j x} hx => by
    rw [List.getElem?_append_left (List.getElem?_eq_some_iff.1 hx).1]; exact hx
  refine ⟨old h.root, ?_, fun x hx => ?_, fun j x hx => ?_⟩
  · rw [List.map_append, List.nodup_append]
    exact ⟨h.nd, by simp, fun y hy z hz => by simp at hz; subst hz; exact fun g => hnew (by simpa [keyD, g] using hy)⟩
  · rcases List.mem_append.1 hx with hx | hx
    · exact h.rng x hx
    · simp at hx; subst hx; exact ⟨hA, hB⟩
  · by_cases hj : j < L.length
    · rw [List.getElem?_append_left hj] at hx
      rcases h.par j x hx with h1 | ⟨q, f, h1, h2, h3, h4⟩
      · exact .inl h1
      · exact .inr ⟨q, f, h1, h2, old h3, h4⟩
    · have hj2 : j = L.length := by
        have := (List.getElem?_eq_some_iff.1 hx).1
        simp at this; omega
      subst hj2
      simp at hx
      subst hx
      exact .inr ⟨i, e, rfl, hi, old he, rfl, rfl, hk, rfl, rfl, ho⟩

/-! ### Both programs' ways back -/
def D (ins : List TPort) (k : Nat) : List Int := (digs ins k).1
theorem ref_way (hs : (li iA).length < 1000000000000) (hL : Lens (li iA)) {L : List En} (hlen : L.length ≤ 65536) {p : Nat} (hp : p ≤ 4096) {j : Nat} {l : List Nat} (h : Path L j l) (hroot : ∀ e, L[0]? = some e → e.fr = -1) (hk : ∀ k ∈ l, k < p) : ∀ acc : List (List Int), acc.length + j ≤ 100000 →
    ref02_way.L0 (sl P iA) (.arr (L.map fun e => I e.fr)) (.arr (L.map fun e => I (e.inp : Int))) (.int .i64 (j : Int)) (acc.map LL) = some (.arr ((l.map (D (li iA)) ++ acc).map LL)) := by
  induction h with
  | root e he =>
    intro acc ha
    have hix : fIdxC 1 (.arr (L.map fun e => I e.fr)) (.int .i64 ((0 : Nat) : Int)) = some (I e.fr) := idx_arr (by rw [List.getElem?_map, he]; rfl) rfl
    rw [ref02_way.L0_eq]
    simp only [hix, I_zero, bindO_s, fBin_geq, hroot e he, fCond_b, decide_eq_true_eq]
    rw [if_neg (by decide)]
    simp
  | step j q e f l h1 h2 h3 h4 h5 h6 h7 ih =>
    intro acc ha
    have hix : fIdxC 1 (.arr (L.map fun e => I e.fr)) (.int .i64 (j : Int)) = some (I e.fr) := idx_arr (by rw [List.getElem?_map, h1]; rfl) rfl
    have hiy : fIdxC 1 (.arr (L.map fun e => I (e.inp : Int))) (.int .i64 (j : Int)) = some (I (e.inp : Int)) := idx_arr (by rw [List.getElem?_map, h1]; rfl) rfl
    have hin : e.inp < p := hk _ (by simp)
    have ih' := ih (fun k hk' => hk k (by simp [hk'])) (D (li iA) e.inp :: acc) (by simp; omega)
    have hsz : rowsSz 1 (acc.map LL) = true := rowsSz_map LL_len acc
    rw [ref02_way.L0_eq]
    simp only [hix, hiy, I_zero, bindO_s, fBin_geq, h2, fCond_b, decide_eq_true_eq, show (0 : Int) ≤ (q : Int) by omega, if_true, parts_ok hs hL (n := e.inp) (by omega), hsz, gB_t, List.length_map, show (1 + acc.length) * 24 ≤ room by unfold room; omega, decide_true]
    refine Eq.trans ih' ?_
    simp
theorem mach_way (hs : (li iA).length < 1000000000000) (hL : Lens (li iA)) {L : List En} (hnd : (L.map keyD).Nodup) {p : Nat} (hp : p ≤ 4096) {j : Nat} {l : List Nat} (h : Path L j l) (hroot : ∀ e, L[0]? = some e → e.fr = -1) (hk : ∀ k ∈ l, k < p) (x0 x1 x2 x4 x5 x6 x7 x8 x9 x10 x11 x12 x13 x15 x16 x17 x18 x19 x20 x21 x25 x26 x27 x28 : FV) (r24 : List (List FV)) : ∀ (e : En) (acc : List (List Int)), L[j]? = some e → acc.length + j ≤ 100000 →
    mach_Differ.L3 x0 x1 x2 (sl P iA) x4 x5 x6 x7 x8 x9 x10 x11 x12 x13 (mapD L) x15 x16 x17 x18 x19 x20 x21 (.int .i64 (e.a : Int)) (.int .i64 (e.b : Int)) r24 x25 x26 x27 x28 (acc.map LL) = some (.tup [.arr ((l.map (D (li iA)) ++ acc.reverse).map LL), .bool true, .int .i64 0]) := by
  induction h with
  | root e he =>
    intro e' acc he' ha
    rw [he] at he'; cases he'
    have hlk := mLook_hit hnd he (.agg [.int .i64 0, .int .i64 0, .int .i64 0])
    rw [mach_Differ.L3_eq]
    rw [show FV.agg [.int .i64 (e.a : Int), .int .i64 (e.b : Int)] = prK e.a e.b from rfl]
    simp only [hlk, bindO_s, enV, fIsAgg_agg, List.length_cons, List.length_nil, fCell_zero, fCell_succ, hroot e he, show ((-1 : Int) < 0) from by decide, if_true, fBin_geq, fCond_b, decide_eq_true_eq]
    rw [show (0 + 1 + 1 + 1 == 3) = true from rfl, gB_t, if_neg (by decide), reverse_ok (by omega)]
    simp only [bindO_s, arrRows_arr, List.map_nil, List.nil_append]
  | step j q e f l h1 h2 h3 h4 h5 h6 h7 ih =>
    intro e' acc he' ha
    rw [h1] at he'; cases he'
    have hlk := mLook_hit hnd h1 (.agg [.int .i64 0, .int .i64 0, .int .i64 0])
    have hin : e.inp < p := hk _ (by simp)
    have ih' := ih (fun k hk' => hk k (by simp [hk'])) f (acc ++ [D (li iA) e.inp]) h4 (by simp; omega)
    rw [mach_Differ.L3_eq]
    rw [show FV.agg [.int .i64 (e.a : Int), .int .i64 (e.b : Int)] = prK e.a e.b from rfl]
    simp only [hlk, bindO_s, enV, fIsAgg_agg, List.length_cons, List.length_nil, fCell_zero, fCell_succ, h2, show ¬ ((q : Int) < 0) by omega, if_false, fBin_geq, fCond_b, decide_eq_true_eq, show (0 : Int) ≤ (e.inp : Int) by omega, if_true, digits_ok hs hL (n := e.inp) (by omega), List.length_map, show (acc.length + 1) * 24 ≤ room by unfold room; omega, decide_true]
    rw [show (0 + 1 + 1 + 1 == 3) = true from rfl, gB_t, gB_t, gB_t, gB_t, h5, h6]
    rw [show acc.map LL ++ [[FV.arr ((digs (li iA) e.inp).1.map I)]] = (acc ++ [D (li iA) e.inp]).map LL by simp [LL, D]]
    refine Eq.trans ih' ?_
    simp
end
end Go.Proofs.Ytelcbakleaaneaa
end
section
namespace Go.Proofs.Ytelcbakleaaneaa
open Go Go.Proofs.Ytelcbakleaaneaa.VM
set_option linter.unusedVariables false
set_option linter.unusedSimpArgs false
set_option linter.unusedSectionVars false
def seenV (n SB : Nat) (L : List En) : List (List FV) := rvec n fun t => .bool (decide (t ∈ L.map (numE SB)))
def pairsV (SB : Nat) (L : List En) : List (List FV) := L.map fun e => I (numE SB e : Int)
def fromV (L : List En) : List (List FV) := L.map fun e => I e.fr
def byV (L : List En) : List (List FV) := L.map fun e => I (e.inp : Int)
def queV (L : List En) : List (List FV) := L.map fun e => [.int .i64 (e.a : Int), .int .i64 (e.b : Int)]
def nextV (rows : List TRow) : FV := .arr (rows.map fun r => I r.1)
def saysV (rows : List TRow) : FV := .arr (rows.map fun r => [sl I r.2.1])
/-- What is answered. -/
def wayF (ins : List TPort) : Option (List Nat) → FV
  | none => .tup [.nilS, .bool false, .int .i64 0]
  | some l => .tup [.arr ((l.map (D ins)).map LL), .bool true, .int .i64 0]
/-- Letters that tell two machines apart at the last of them, and not before. -/
structure Tells (rA rB : List TRow) (p SA SB : Nat) (a0 b0 : Int) (l : List Nat) : Prop where
  short : l.length ≤ 65536
  small : ∀ k ∈ l, k < p
  tell : ∃ pre k outs a b, l = pre ++ [k] ∧ a < SA ∧ b < SB ∧ runN rA p a0.toNat pre = (outs, a) ∧ runN rB p b0.toNat pre = (outs, b) ∧ li (rowN rA p a k).2.1 ≠ li (rowN rB p b k).2.1
/-- All letters of the entries before, and the first letters of this one, are done. -/
def Done (rA rB : List TRow) (p : Nat) (L : List En) (i k : Nat) : Prop := ∀ (j : Nat) (e : En), L[j]? = some e → ∀ q, q < p → (j < i ∨ (j = i ∧ q < k)) → li (rowN rA p e.a q).2.1 = li (rowN rB p e.b q).2.1 ∧ ((rowN rA p e.a q).1.toNat, (rowN rB p e.b q).1.toNat) ∈ L.map keyD
/-- No letters tell two states apart. -/
def Bis (rA rB : List TRow) (p a b : Nat) : Prop := ∃ Z : Nat → Nat → Prop, Z a b ∧ ∀ x y, Z x y → ∀ k, k < p → li (rowN rA p x k).2.1 = li (rowN rB p y k).2.1 ∧ Z (rowN rA p x k).1.toNat (rowN rB p y k).1.toNat
theorem Done.bis {rA rB : List TRow} {p SA SB : Nat} {a0 b0 : Int} {L : List En} (h : Done rA rB p L L.length 0) (hI : BInv rA rB p SA SB a0 b0 L) : Bis rA rB p a0.toNat b0.toNat := by
  refine ⟨fun x y => (x, y) ∈ L.map keyD, ?_, fun x y hxy k hk => ?_⟩
  · have := List.mem_of_getElem? hI.root
    exact List.mem_map.2 ⟨_, this, rfl⟩
  · obtain ⟨e, he, hk2⟩ := List.mem_map.1 hxy
    obtain ⟨j, hj⟩ := List.getElem?_of_mem he
    simp only [keyD, Prod.mk.injEq] at hk2
    have := h j e hj k hk (.inl (List.getElem?_eq_some_iff.1 hj).1)
    rw [hk2.1, hk2.2] at this
    exact this
section
variable {nm : Str} {sts : Option (List Str)} {start : Int} {ins outs : Option (List TPort)} {rows : Option (List TRow)}
theorem rowN_get (h : OkM (li sts) start (li ins) (li outs) (li rows)) {p : Nat} (hp : p = prodL (li ins)) {a k : Nat} (ha : a < (li sts).length) (hk : k < p) : (li rows)[a * p + k]? = some (rowN (li rows) p a k) ∧ a * p + k < 4096 ∧ a * p ≤ 4096 ∧ 0 ≤ (rowN (li rows) p a k).1 ∧ (rowN (li rows) p a k).1 < ((li sts).length : Int) ∧ (li (rowN (li rows) p a k).2.1).length ≤ 8 := by
  subst hp
  have h1 := h.rlen
  have h2 := h.small
  have h3 := num_lt ha hk
  have hlt : a * prodL (li ins) + k < (li rows).length := by omega
  have hg : (li rows)[a * prodL (li ins) + k]? = some (rowN (li rows) (prodL (li ins)) a k) := by simp [rowN, hlt]
  have := h.rok _ (List.mem_of_getElem? hg)
  simp only [rowOk, fitP, Bool.and_eq_true, decide_eq_true_eq] at this
  have ho := h.o8
  exact ⟨hg, by omega, by omega, this.1.1, this.1.2, by omega⟩
end
section
variable {nA nB : Str} {sA sB : Option (List Str)} {a0 b0 : Int} {iA oA iB oB : Option (List TPort)} {wA wB : Option (List TRow)}
variable (hA : OkM (li sA) a0 (li iA) (li oA) (li wA)) (hB : OkM (li sB) b0 (li iB) (li oB) (li wB)) (hsz : sizesB (li iA) (li iB) = true)
include hA hB hsz
theorem search_inner {i : Nat} (hi8 : i < 65536) {e : En} : ∀ (d k : Nat) (L : List En), prodL (li iA) - k = d → k ≤ prodL (li iA) → BInv (li wA) (li wB) (prodL (li iA)) (li sA).length (li sB).length a0 b0 L → L[i]? = some e → Done (li wA) (li wB) (prodL (li iA)) L i k →
    (∃ L', BInv (li wA) (li wB) (prodL (li iA)) (li sA).length (li sB).length a0 b0 L' ∧ L.length ≤ L'.length ∧ Done (li wA) (li wB) (prodL (li iA)) L' (i + 1) 0 ∧
      ref02_Differ.L2 (.int .i64 ((li sB).length : Int)) (.int .i64 (i : Int)) (.int .i64 (k : Int)) (.str nA) (sl S sA) (.int .i64 a0) (sl P iA) (sl P oA) (sl RW wA) (.str nB) (sl S sB) (.int .i64 b0) (sl P iB) (sl P oB) (sl RW wB) (.int .i64 (prodL (li iA) : Int)) (nextV (li wA)) (saysV (li wA)) (.int .i64 (prodL (li iA) : Int)) (nextV (li wB)) (saysV (li wB)) (seenV ((li sA).length * (li sB).length) (li sB).length L) (pairsV (li sB).length L) (fromV L) (byV L) =
        ref02_Differ.L1 (.int .i64 ((li sB).length : Int)) (.int .i64 ((i + 1 : Nat) : Int)) (.str nA) (sl S sA) (.int .i64 a0) (sl P iA) (sl P oA) (sl RW wA) (.str nB) (sl S sB) (.int .i64 b0) (sl P iB) (sl P oB) (sl RW wB) (.int .i64 (prodL (li iA) : Int)) (nextV (li wA)) (saysV (li wA)) (.int .i64 (prodL (li iA) : Int)) (nextV (li wB)) (saysV (li wB)) (seenV ((li sA).length * (li sB).length) (li sB).length L') (pairsV (li sB).length L') (fromV L') (byV L') ∧
      mach_Differ.L2 (.int .i64 (prodL (li iA) : Int)) (.int .i64 (prodL (li iA) : Int)) (.int .i64 (k : Int)) (.str nA) (sl S sA) (.int .i64 a0) (sl P iA) (sl P oA) (sl RW wA) (.str nB) (sl S sB) (.int .i64 b0) (sl P iB) (sl P oB) (sl RW wB) (.int .i64 a0) (.int .i64 b0) (mapD L) (.int .i64 ((i + 1 : Nat) : Int)) (.int .i64 a0) (.int .i64 b0) (.int .i64 (e.a : Int)) (.int .i64 (e.b : Int)) (.int .i64 (e.a : Int)) (.int .i64 (e.b : Int)) (.int .i64 (e.a : Int)) (.int .i64 (e.b : Int)) (queV L) =
        mach_Differ.L1 (.int .i64 (prodL (li iA) : Int)) (.str nA) (sl S sA) (.int .i64 a0) (sl P iA) (sl P oA) (sl RW wA) (.str nB) (sl S sB) (.int .i64 b0) (sl P iB) (sl P oB) (sl RW wB) (.int .i64 a0) (.int .i64 b0) (mapD L') (.int .i64 ((i + 1 : Nat) : Int)) (.int .i64 a0) (.int .i64 b0) (queV L')) ∨
    (∃ l, Tells (li wA) (li wB) (prodL (li iA)) (li sA).length (li sB).length a0 b0 l ∧
      ref02_Differ.L2 (.int .i64 ((li sB).length : Int)) (.int .i64 (i : Int)) (.int .i64 (k : Int)) (.str nA) (sl S sA) (.int .i64 a0) (sl P iA) (sl P oA) (sl RW wA) (.str nB) (sl S sB) (.int .i64 b0) (sl P iB) (sl P oB) (sl RW wB) (.int .i64 (prodL (li iA) : Int)) (nextV (li wA)) (saysV (li wA)) (.int .i64 (prodL (li iA) : Int)) (nextV (li wB)) (saysV (li wB)) (seenV ((li sA).length * (li sB).length) (li sB).length L) (pairsV (li sB).length L) (fromV L) (byV L) = some (wayF (li iA) (some l)) ∧
      mach_Differ.L2 (.int .i64 (prodL (li iA) : Int)) (.int .i64 (prodL (li iA) : Int)) (.int .i64 (k : Int)) (.str nA) (sl S sA) (.int .i64 a0) (sl P iA) (sl P oA) (sl RW wA) (.str nB) (sl S sB) (.int .i64 b0) (sl P iB) (sl P oB) (sl RW wB) (.int .i64 a0) (.int .i64 b0) (mapD L) (.int .i64 ((i + 1 : Nat) : Int)) (.int .i64 a0) (.int .i64 b0) (.int .i64 (e.a : Int)) (.int .i64 (e.b : Int)) (.int .i64 (e.a : Int)) (.int .i64 (e.b : Int)) (.int .i64 (e.a : Int)) (.int .i64 (e.b : Int)) (queV L) = some (wayF (li iA) (some l))) := by
  have hPB : prodL (li iA) = prodL (li iB) := sizes_prod hsz
  have hPA4 : prodL (li iA) ≤ 4096 := by
    have h1 := hA.small
    have h2 : 1 * prodL (li iA) ≤ (li sA).length * prodL (li iA) := Nat.mul_le_mul_right _ hA.n1.1
    omega
  have hi8A := hA.i8
  have hn1A := hA.n1
  have hn1B := hB.n1
  intro d
  induction d with
  | zero =>
    intro k L hd hk hI he hD
    left
    refine ⟨L, hI, Nat.le_refl _, fun j x hx q hq hj => hD j x hx q hq (by omega), ?_, ?_⟩
    · have w1 : IntKind.i64.wrap ((i : Int) + 1) = ((i + 1 : Nat) : Int) := wrap64 (by omega) (by omega)
      rw [ref02_Differ.L2_eq]
      simp only [fBin_lss, bindO_s, fCond_b, decide_eq_true_eq, Int.ofNat_lt, show ¬ k < prodL (li iA) by omega, if_false, fBin_add, w1]
    · rw [mach_Differ.L2_eq]
      simp only [fBin_lss, bindO_s, fCond_b, decide_eq_true_eq, Int.ofNat_lt, show ¬ k < prodL (li iA) by omega, if_false]
  | succ d ih =>
    intro k L hd hk hI he hD
    have hk' : k < prodL (li iA) := by omega
    have hr := hI.rng e (List.mem_of_getElem? he)
    obtain ⟨gA, lA, lA', rA1, rA2, rA3⟩ := rowN_get hA rfl hr.1 hk'
    obtain ⟨gB, lB, lB', rB1, rB2, rB3⟩ := rowN_get hB hPB hr.2 hk'
    have hlen := hI.len
    have hSS : (li sA).length * (li sB).length ≤ 256 * 256 := Nat.mul_le_mul hn1A.2 hn1B.2
    have eA : (rowN (li wA) (prodL (li iA)) e.a k).1 = (((rowN (li wA) (prodL (li iA)) e.a k).1.toNat : Nat) : Int) := by omega
    have eB : (rowN (li wB) (prodL (li iA)) e.b k).1 = (((rowN (li wB) (prodL (li iA)) e.b k).1.toNat : Nat) : Int) := by omega
    have hnum : numE (li sB).length e = e.a * (li sB).length + e.b := rfl
    have hnlt := num_lt (SA := (li sA).length) (SB := (li sB).length) hr.1 hr.2
    -- numbers
    have q1 : IntKind.i64.wrap (((numE (li sB).length e : Nat) : Int).tdiv ((li sB).length : Int)) = (e.a : Int) := by
      rw [← Int.ofNat_tdiv, hnum, show (e.a * (li sB).length + e.b) / (li sB).length = e.a by rw [Nat.add_comm, Nat.add_mul_div_right _ _ (by omega), Nat.div_eq_of_lt hr.2]; omega]
      exact wrap64 (by omega) (by omega)
    have q2 : ((numE (li sB).length e : Nat) : Int).tmod ((li sB).length : Int) = (e.b : Int) := by
      rw [← Int.ofNat_tmod, hnum, show (e.a * (li sB).length + e.b) % (li sB).length = e.b by rw [Nat.add_comm, Nat.add_mul_mod_self_right, Nat.mod_eq_of_lt hr.2]]
    have m1 : IntKind.i64.wrap ((e.a : Int) * (prodL (li iA) : Int)) = ((e.a * prodL (li iA) : Nat) : Int) := by rw [← Int.natCast_mul]; exact wrap64 (by omega) (by omega)
    have m2 : IntKind.i64.wrap (((e.a * prodL (li iA) : Nat) : Int) + (k : Int)) = ((e.a * prodL (li iA) + k : Nat) : Int) := by rw [wrap64 (by omega) (by omega)]; omega
    have m3 : IntKind.i64.wrap ((e.b : Int) * (prodL (li iA) : Int)) = ((e.b * prodL (li iA) : Nat) : Int) := by rw [← Int.natCast_mul]; exact wrap64 (by omega) (by omega)
    have m4 : IntKind.i64.wrap (((e.b * prodL (li iA) : Nat) : Int) + (k : Int)) = ((e.b * prodL (li iA) + k : Nat) : Int) := by rw [wrap64 (by omega) (by omega)]; omega
    have w1 : IntKind.i64.wrap ((k : Int) + 1) = ((k + 1 : Nat) : Int) := wrap64 (by omega) (by omega)
    have hiL : i < L.length := (List.getElem?_eq_some_iff.1 he).1
    have p1 : rIdx (pairsV (li sB).length L) (.int .i64 (i : Int)) = some i := rIdx_at (by simpa [pairsV] using hiL)
    have p2 : rGet (pairsV (li sB).length L) i 0 = some (.int .i64 (numE (li sB).length e : Int)) := by
      rw [rGet_at (c := I (numE (li sB).length e : Int)) (by simp [pairsV, he])]; rfl
    have s1 : fIdxC 1 (saysV (li wA)) (.int .i64 ((e.a * prodL (li iA) + k : Nat) : Int)) = some [sl I (rowN (li wA) (prodL (li iA)) e.a k).2.1] := idx_arr (by rw [List.getElem?_map, gA]; rfl) rfl
    have s2 : fIdxC 1 (saysV (li wB)) (.int .i64 ((e.b * prodL (li iA) + k : Nat) : Int)) = some [sl I (rowN (li wB) (prodL (li iA)) e.b k).2.1] := idx_arr (by rw [List.getElem?_map, gB]; rfl) rfl
    have s3 : fIdxC 1 (nextV (li wA)) (.int .i64 ((e.a * prodL (li iA) + k : Nat) : Int)) = some (I (rowN (li wA) (prodL (li iA)) e.a k).1) := idx_arr (by rw [List.getElem?_map, gA]; rfl) rfl
    have s4 : fIdxC 1 (nextV (li wB)) (.int .i64 ((e.b * prodL (li iA) + k : Nat) : Int)) = some (I (rowN (li wB) (prodL (li iA)) e.b k).1) := idx_arr (by rw [List.getElem?_map, gB]; rfl) rfl
    obtain ⟨z1, z2⟩ := sameInts_sl (a := (rowN (li wA) (prodL (li iA)) e.a k).2.1) (b := (rowN (li wB) (prodL (li iA)) e.b k).2.1) (by omega)
    have zero1 : ∀ x : FV, ([x] : List FV)[0]? = some x := fun _ => rfl
    by_cases go : li (rowN (li wA) (prodL (li iA)) e.a k).2.1 = li (rowN (li wB) (prodL (li iA)) e.b k).2.1
    · -- the same: go on
      have nlt := num_lt (SA := (li sA).length) (SB := (li sB).length) (a := (rowN (li wA) (prodL (li iA)) e.a k).1.toNat) (b := (rowN (li wB) (prodL (li iA)) e.b k).1.toNat) (by omega) (by omega)
      have n1 : IntKind.i64.wrap (((rowN (li wA) (prodL (li iA)) e.a k).1.toNat : Int) * ((li sB).length : Int)) = (((rowN (li wA) (prodL (li iA)) e.a k).1.toNat * (li sB).length : Nat) : Int) := by rw [← Int.natCast_mul]; exact wrap64 (by omega) (by omega)
      have n2 : IntKind.i64.wrap ((((rowN (li wA) (prodL (li iA)) e.a k).1.toNat * (li sB).length : Nat) : Int) + ((rowN (li wB) (prodL (li iA)) e.b k).1.toNat : Int)) = (((rowN (li wA) (prodL (li iA)) e.a k).1.toNat * (li sB).length + (rowN (li wB) (prodL (li iA)) e.b k).1.toNat : Nat) : Int) := by rw [wrap64 (by omega) (by omega)]; omega
      have v1 : ∀ f, rIdx (rvec ((li sA).length * (li sB).length) f) (.int .i64 (((rowN (li wA) (prodL (li iA)) e.a k).1.toNat * (li sB).length + (rowN (li wB) (prodL (li iA)) e.b k).1.toNat : Nat) : Int)) = some ((rowN (li wA) (prodL (li iA)) e.a k).1.toNat * (li sB).length + (rowN (li wB) (prodL (li iA)) e.b k).1.toNat) := fun f => rIdx_at (by simp only [rvec, List.length_map, List.length_range]; exact nlt)
      have v2 : rGet (seenV ((li sA).length * (li sB).length) (li sB).length L) ((rowN (li wA) (prodL (li iA)) e.a k).1.toNat * (li sB).length + (rowN (li wB) (prodL (li iA)) e.b k).1.toNat) 0 = some (.bool (decide ((rowN (li wA) (prodL (li iA)) e.a k).1.toNat * (li sB).length + (rowN (li wB) (prodL (li iA)) e.b k).1.toNat ∈ L.map (numE (li sB).length)))) := by
        unfold seenV
        rw [rGet_at (rvec_get nlt)]; rfl
      have hmem := mem_num hI (a := (rowN (li wA) (prodL (li iA)) e.a k).1.toNat) (b := (rowN (li wB) (prodL (li iA)) e.b k).1.toNat) (by omega)
      by_cases gm : ((rowN (li wA) (prodL (li iA)) e.a k).1.toNat, (rowN (li wB) (prodL (li iA)) e.b k).1.toNat) ∈ L.map keyD
      · -- known already
        have gm2 := hmem.2 gm
        obtain ⟨x, hx, hxe⟩ := List.mem_map.1 gm
        obtain ⟨j, hj⟩ := List.getElem?_of_mem hx
        simp only [keyD, Prod.mk.injEq] at hxe
        have hlk := mLook_hit hI.nd hj (.agg [.int .i64 0, .int .i64 0, .int .i64 0])
        rw [hxe.1, hxe.2] at hlk
        have key : ∀ {X Y X' Y' : R}, X = X' → Y = Y' → (∃ L', BInv (li wA) (li wB) (prodL (li iA)) (li sA).length (li sB).length a0 b0 L' ∧ L.length ≤ L'.length ∧ Done (li wA) (li wB) (prodL (li iA)) L' (i + 1) 0 ∧ X' = ref02_Differ.L1 (.int .i64 ((li sB).length : Int)) (.int .i64 ((i + 1 : Nat) : Int)) (.str nA) (sl S sA) (.int .i64 a0) (sl P iA) (sl P oA) (sl RW wA) (.str nB) (sl S sB) (.int .i64 b0) (sl P iB) (sl P oB) (sl RW wB) (.int .i64 (prodL (li iA) : Int)) (nextV (li wA)) (saysV (li wA)) (.int .i64 (prodL (li iA) : Int)) (nextV (li wB)) (saysV (li wB)) (seenV ((li sA).length * (li sB).length) (li sB).length L') (pairsV (li sB).length L') (fromV L') (byV L') ∧ Y' = mach_Differ.L1 (.int .i64 (prodL (li iA) : Int)) (.str nA) (sl S sA) (.int .i64 a0) (sl P iA) (sl P oA) (sl RW wA) (.str nB) (sl S sB) (.int .i64 b0) (sl P iB) (sl P oB) (sl RW wB) (.int .i64 a0) (.int .i64 b0) (mapD L') (.int .i64 ((i + 1 : Nat) : Int)) (.int .i64 a0) (.int .i64 b0) (queV L')) ∨ (∃ l, Tells (li wA) (li wB) (prodL (li iA)) (li sA).length (li sB).length a0 b0 l ∧ X' = some (wayF (li iA) (some l)) ∧ Y' = some (wayF (li iA) (some l))) →
            (∃ L', BInv (li wA) (li wB) (prodL (li iA)) (li sA).length (li sB).length a0 b0 L' ∧ L.length ≤ L'.length ∧ Done (li wA) (li wB) (prodL (li iA)) L' (i + 1) 0 ∧ X = ref02_Differ.L1 (.int .i64 ((li sB).length : Int)) (.int .i64 ((i + 1 : Nat) : Int)) (.str nA) (sl S sA) (.int .i64 a0) (sl P iA) (sl P oA) (sl RW wA) (.str nB) (sl S sB) (.int .i64 b0) (sl P iB) (sl P oB) (sl RW wB) (.int .i64 (prodL (li iA) : Int)) (nextV (li wA)) (saysV (li wA)) (.int .i64 (prodL (li iA) : Int)) (nextV (li wB)) (saysV (li wB)) (seenV ((li sA).length * (li sB).length) (li sB).length L') (pairsV (li sB).length L') (fromV L') (byV L') ∧ Y = mach_Differ.L1 (.int .i64 (prodL (li iA) : Int)) (.str nA) (sl S sA) (.int .i64 a0) (sl P iA) (sl P oA) (sl RW wA) (.str nB) (sl S sB) (.int .i64 b0) (sl P iB) (sl P oB) (sl RW wB) (.int .i64 a0) (.int .i64 b0) (mapD L') (.int .i64 ((i + 1 : Nat) : Int)) (.int .i64 a0) (.int .i64 b0) (queV L')) ∨ (∃ l, Tells (li wA) (li wB) (prodL (li iA)) (li sA).length (li sB).length a0 b0 l ∧ X = some (wayF (li iA) (some l)) ∧ Y = some (wayF (li iA) (some l))) := by
          rintro X Y X' Y' rfl rfl h; exact h
        refine key ?_ ?_ (ih (k + 1) L (by omega) (by omega) hI he (fun j x hx q hq hj => by
          by_cases g : j = i ∧ q = k
          · obtain ⟨rfl, rfl⟩ := g
            rw [he] at hx; cases hx
            exact ⟨go, gm⟩
          · exact hD j x hx q hq (by omega)))
        · rw [ref02_Differ.L2_eq]
          simp only [fBin_lss, bindO_s, fCond_b, decide_eq_true_eq, Int.ofNat_lt, hk', if_true, p1, p2, fBin_quo, show ¬ ((li sB).length : Int) = 0 by omega, if_false, q1, fBin_rem, q2, fBin_mul, fBin_add, m1, m2, m3, m4, s1, s2, s3, s4, zero1, I_zero, z1, go, decide_true, fUn_not, Bool.not_true, Bool.false_eq_true]
          rw [eA, eB]
          simp only [n1, n2, bindO_s, show ∀ f, seenV f = seenV f from fun _ => rfl]
          rw [show rIdx (seenV ((li sA).length * (li sB).length) (li sB).length L) _ = _ from v1 _]
          simp only [bindO_s, v2, gm2, decide_true, fUn_not, Bool.not_true, fCond_b, Bool.false_eq_true, if_false, fBin_add, w1]
        · rw [mach_Differ.L2_eq]
          simp only [fBin_lss, bindO_s, fCond_b, decide_eq_true_eq, Int.ofNat_lt, hk', if_true, fBin_mul, fBin_add, m1, m2, m3, m4, idx_sl gA (RW_len _), idx_sl gB (RW_len _), RW_zero, RW_one, z2, go, decide_true, fUn_not, Bool.not_true, Bool.false_eq_true, if_false]
          rw [eA, eB, show FV.agg [.int .i64 ((rowN (li wA) (prodL (li iA)) e.a k).1.toNat : Int), .int .i64 ((rowN (li wB) (prodL (li iA)) e.b k).1.toNat : Int)] = prK (rowN (li wA) (prodL (li iA)) e.a k).1.toNat (rowN (li wB) (prodL (li iA)) e.b k).1.toNat from rfl, hlk]
          simp only [bindO_s, enV, fIsAgg_agg, List.length_cons, List.length_nil, fUn_not, Bool.not_true, fCond_b, Bool.false_eq_true, if_false, fBin_add, w1]
          rw [show (0 + 1 + 1 + 1 == 3) = true from rfl, gB_t]
      · -- new
        have gm2 : ¬ ((rowN (li wA) (prodL (li iA)) e.a k).1.toNat * (li sB).length + (rowN (li wB) (prodL (li iA)) e.b k).1.toNat ∈ L.map (numE (li sB).length)) := fun h => gm (hmem.1 h)
        have hI2 := hI.put he hk' (by omega) (by omega) go gm
        have hlk := mLook_miss gm (.agg [.int .i64 0, .int .i64 0, .int .i64 0])
        have hput := mPut_D (x := ⟨(rowN (li wA) (prodL (li iA)) e.a k).1.toNat, (rowN (li wB) (prodL (li iA)) e.b k).1.toNat, (i : Int), e.a, e.b, k⟩) gm
        have henv : enV ⟨(rowN (li wA) (prodL (li iA)) e.a k).1.toNat, (rowN (li wB) (prodL (li iA)) e.b k).1.toNat, (i : Int), e.a, e.b, k⟩ = .agg [.int .i64 (e.a : Int), .int .i64 (e.b : Int), .int .i64 (k : Int)] := by
          unfold enV
          simp only
          rw [if_neg (by omega)]
        rw [henv] at hput
        have v3 : rSet (seenV ((li sA).length * (li sB).length) (li sB).length L) ((rowN (li wA) (prodL (li iA)) e.a k).1.toNat * (li sB).length + (rowN (li wB) (prodL (li iA)) e.b k).1.toNat) 0 [.bool true] = some (seenV ((li sA).length * (li sB).length) (li sB).length (L ++ [⟨(rowN (li wA) (prodL (li iA)) e.a k).1.toNat, (rowN (li wB) (prodL (li iA)) e.b k).1.toNat, (i : Int), e.a, e.b, k⟩])) := by
          unfold seenV
          refine rvec_set nlt ?_ fun j hj hjn => ?_
          · congr 1
            simp only [List.map_append, List.map_cons, List.map_nil, numE, List.mem_append, List.mem_singleton, or_true, decide_true]
          · congr 1
            simp only [List.map_append, List.map_cons, List.map_nil, List.mem_append, List.mem_singleton]
            congr 1
            refine propext ⟨fun h => h.elim id fun h => ?_, .inl⟩
            exact absurd h (by simpa [numE] using hj)
        have ih2 := ih (k + 1) _ (by omega) (by omega) hI2 (by rw [List.getElem?_append_left hiL]; exact he) (fun j x hx q hq hj => by
          have hjL : j < L.length := by omega
          rw [List.getElem?_append_left hjL] at hx
          rw [List.map_append, List.mem_append]
          by_cases g : j = i ∧ q = k
          · obtain ⟨rfl, rfl⟩ := g
            rw [he] at hx; cases hx
            exact ⟨go, .inr (by simp [keyD])⟩
          · have := hD j x hx q hq (by omega)
            exact ⟨this.1, .inl this.2⟩)
        generalize (rowN (li wA) (prodL (li iA)) e.a k).1.toNat = na at *
        generalize (rowN (li wB) (prodL (li iA)) e.b k).1.toNat = nb at *
        have hl2 : L.length ≤ (L ++ [(⟨na, nb, (i : Int), e.a, e.b, k⟩ : En)]).length := by simp
        have eR : ref02_Differ.L2 (.int .i64 ((li sB).length : Int)) (.int .i64 (i : Int)) (.int .i64 (k : Int)) (.str nA) (sl S sA) (.int .i64 a0) (sl P iA) (sl P oA) (sl RW wA) (.str nB) (sl S sB) (.int .i64 b0) (sl P iB) (sl P oB) (sl RW wB) (.int .i64 (prodL (li iA) : Int)) (nextV (li wA)) (saysV (li wA)) (.int .i64 (prodL (li iA) : Int)) (nextV (li wB)) (saysV (li wB)) (seenV ((li sA).length * (li sB).length) (li sB).length L) (pairsV (li sB).length L) (fromV L) (byV L) =
            ref02_Differ.L2 (.int .i64 ((li sB).length : Int)) (.int .i64 (i : Int)) (.int .i64 ((k + 1 : Nat) : Int)) (.str nA) (sl S sA) (.int .i64 a0) (sl P iA) (sl P oA) (sl RW wA) (.str nB) (sl S sB) (.int .i64 b0) (sl P iB) (sl P oB) (sl RW wB) (.int .i64 (prodL (li iA) : Int)) (nextV (li wA)) (saysV (li wA)) (.int .i64 (prodL (li iA) : Int)) (nextV (li wB)) (saysV (li wB)) (seenV ((li sA).length * (li sB).length) (li sB).length (L ++ [⟨na, nb, (i : Int), e.a, e.b, k⟩])) (pairsV (li sB).length (L ++ [⟨na, nb, (i : Int), e.a, e.b, k⟩])) (fromV (L ++ [⟨na, nb, (i : Int), e.a, e.b, k⟩])) (byV (L ++ [⟨na, nb, (i : Int), e.a, e.b, k⟩])) := by
          rw [ref02_Differ.L2_eq]
          simp only [fBin_lss, bindO_s, fCond_b, decide_eq_true_eq, Int.ofNat_lt, hk', if_true, p1, p2, fBin_quo, show ¬ ((li sB).length : Int) = 0 by omega, if_false, q1, fBin_rem, q2, fBin_mul, fBin_add, m1, m2, m3, m4, s1, s2, s3, s4, zero1, I_zero, z1, go, decide_true, fUn_not, Bool.not_true, Bool.false_eq_true]
          rw [eA, eB]
          simp only [n1, n2, bindO_s]
          rw [show rIdx (seenV ((li sA).length * (li sB).length) (li sB).length L) _ = _ from v1 _]
          have l1 : (pairsV (li sB).length L).length = L.length := by simp [pairsV]
          have l2 : (fromV L).length = L.length := by simp [fromV]
          have l3 : (byV L).length = L.length := by simp [byV]
          simp only [bindO_s, v2, gm2, decide_false, fUn_not, Bool.not_false, fCond_b, if_true]
          simp only [bindO_s, v3, l1, l2, l3, show (L.length + 1) * 8 ≤ room by unfold room; omega, decide_true, gB_t, fBin_add, w1]
          simp only [pairsV, fromV, byV, List.map_append, List.map_cons, List.map_nil, numE, I]
        have eM : mach_Differ.L2 (.int .i64 (prodL (li iA) : Int)) (.int .i64 (prodL (li iA) : Int)) (.int .i64 (k : Int)) (.str nA) (sl S sA) (.int .i64 a0) (sl P iA) (sl P oA) (sl RW wA) (.str nB) (sl S sB) (.int .i64 b0) (sl P iB) (sl P oB) (sl RW wB) (.int .i64 a0) (.int .i64 b0) (mapD L) (.int .i64 ((i + 1 : Nat) : Int)) (.int .i64 a0) (.int .i64 b0) (.int .i64 (e.a : Int)) (.int .i64 (e.b : Int)) (.int .i64 (e.a : Int)) (.int .i64 (e.b : Int)) (.int .i64 (e.a : Int)) (.int .i64 (e.b : Int)) (queV L) =
            mach_Differ.L2 (.int .i64 (prodL (li iA) : Int)) (.int .i64 (prodL (li iA) : Int)) (.int .i64 ((k + 1 : Nat) : Int)) (.str nA) (sl S sA) (.int .i64 a0) (sl P iA) (sl P oA) (sl RW wA) (.str nB) (sl S sB) (.int .i64 b0) (sl P iB) (sl P oB) (sl RW wB) (.int .i64 a0) (.int .i64 b0) (mapD (L ++ [⟨na, nb, (i : Int), e.a, e.b, k⟩])) (.int .i64 ((i + 1 : Nat) : Int)) (.int .i64 a0) (.int .i64 b0) (.int .i64 (e.a : Int)) (.int .i64 (e.b : Int)) (.int .i64 (e.a : Int)) (.int .i64 (e.b : Int)) (.int .i64 (e.a : Int)) (.int .i64 (e.b : Int)) (queV (L ++ [⟨na, nb, (i : Int), e.a, e.b, k⟩])) := by
          rw [mach_Differ.L2_eq]
          have l1 : (queV L).length = L.length := by simp [queV]
          simp only [fBin_lss, bindO_s, fCond_b, decide_eq_true_eq, Int.ofNat_lt, hk', if_true, fBin_mul, fBin_add, m1, m2, m3, m4, idx_sl gA (RW_len _), idx_sl gB (RW_len _), RW_zero, RW_one, z2, go, decide_true, fUn_not, Bool.not_true, Bool.false_eq_true, if_false]
          rw [eA, eB, show FV.agg [.int .i64 (na : Int), .int .i64 (nb : Int)] = prK na nb from rfl, hlk]
          simp only [bindO_s, fIsAgg_agg, List.length_cons, List.length_nil, fUn_not, Bool.not_false, fCond_b, if_true, pr_keyOk, gB_t, hput, l1, show (L.length + 1) * 16 ≤ room by unfold room; omega, decide_true, fBin_add, w1]
          rw [show (0 + 1 + 1 + 1 == 3) = true from rfl, gB_t]
          simp only [queV, List.map_append, List.map_cons, List.map_nil]
        rcases ih2 with ⟨L', c1, c2, cD, c3, c4⟩ | ⟨l, c1, c2, c3⟩
        · exact .inl ⟨L', c1, by omega, cD, eR.trans c3, eM.trans c4⟩
        · exact .inr ⟨l, c1, eR.trans c2, eM.trans c3⟩
    · -- they tell
      right
      obtain ⟨l, y1, y2, outs, y3, y4⟩ := hI.path i i e (Nat.le_refl _) he
      have hroot : ∀ x, L[0]? = some x → x.fr = -1 := fun x hx => by
        have := hI.root
        rw [hx] at this; cases this; rfl
      refine ⟨l ++ [k], ⟨by have := y1.len; simp; omega, fun x hx => ?_, l, k, outs, e.a, e.b, rfl, hr.1, hr.2, y3, y4, go⟩, ?_, ?_⟩
      · rcases List.mem_append.1 hx with hx | hx
        · exact y2 x hx
        · simp at hx; omega
      · have hway := ref_way (iA := iA) (by omega) hA.lens (L := L) (by omega) hPA4 y1 hroot y2 [D (li iA) k] (by simp; omega)
        rw [ref02_Differ.L2_eq]
        simp only [fBin_lss, bindO_s, fCond_b, decide_eq_true_eq, Int.ofNat_lt, hk', if_true, p1, p2, fBin_quo, show ¬ ((li sB).length : Int) = 0 by omega, if_false, q1, fBin_rem, q2, fBin_mul, fBin_add, m1, m2, m3, m4, s1, s2, zero1, z1, go, decide_false, fUn_not, Bool.not_false]
        rw [ref02_way.eq]
        simp only [parts_ok (o := iA) (by omega) hA.lens (n := k) (by omega), bindO_s]
        rw [show [[FV.arr ((digs (li iA) k).1.map I)]] = [D (li iA) k].map LL from rfl, show FV.arr (fromV L) = .arr (L.map fun e => I e.fr) from rfl, show FV.arr (byV L) = .arr (L.map fun e => I (e.inp : Int)) from rfl, hway]
        simp only [bindO_s, wayF, List.map_append, List.map_cons, List.map_nil]
      · have hway := mach_way (iA := iA) (by omega) hA.lens hI.nd hPA4 y1 hroot y2 (.str nA) (sl S sA) (.int .i64 a0) (sl P oA) (sl RW wA) (.str nB) (sl S sB) (.int .i64 b0) (sl P iB) (sl P oB) (sl RW wB) (.int .i64 a0) (.int .i64 b0) (.int .i64 ((i + 1 : Nat) : Int)) (.int .i64 a0) (.int .i64 b0) (.int .i64 (e.a : Int)) (.int .i64 (e.b : Int)) (.int .i64 (e.a : Int)) (.int .i64 (e.b : Int)) (.int .i64 (rowN (li wA) (prodL (li iA)) e.a k).1) (sl I (rowN (li wA) (prodL (li iA)) e.a k).2.1) (.int .i64 (rowN (li wB) (prodL (li iA)) e.b k).1) (sl I (rowN (li wB) (prodL (li iA)) e.b k).2.1) (queV L) e [D (li iA) k] he (by simp; omega)
        rw [mach_Differ.L2_eq]
        simp only [fBin_lss, bindO_s, fCond_b, decide_eq_true_eq, Int.ofNat_lt, hk', if_true, fBin_mul, fBin_add, m1, m2, m3, m4, idx_sl gA (RW_len _), idx_sl gB (RW_len _), RW_zero, RW_one, z2, go, decide_false, fUn_not, Bool.not_false, digits_ok (o := iA) (by omega) hA.lens (n := k) (by omega)]
        rw [show [[FV.arr ((digs (li iA) k).1.map I)]] = [D (li iA) k].map LL from rfl, hway]
        simp only [wayF, List.map_append, List.map_cons, List.map_nil, List.reverse_cons, List.reverse_nil, List.nil_append]
end
end Go.Proofs.Ytelcbakleaaneaa
end
section
namespace Go.Proofs.Ytelcbakleaaneaa
open Go Go.Proofs.Ytelcbakleaaneaa.VM
set_option linter.unusedVariables false
set_option linter.unusedSimpArgs false
set_option linter.unusedSectionVars false
section
variable {nA nB : Str} {sA sB : Option (List Str)} {a0 b0 : Int} {iA oA iB oB : Option (List TPort)} {wA wB : Option (List TRow)}
section
variable (hA : OkM (li sA) a0 (li iA) (li oA) (li wA)) (hB : OkM (li sB) b0 (li iB) (li oB) (li wB)) (hsz : sizesB (li iA) (li iB) = true)
include hA hB hsz
theorem search_outer : ∀ (d i : Nat) (L : List En), (li sA).length * (li sB).length - i = d → BInv (li wA) (li wB) (prodL (li iA)) (li sA).length (li sB).length a0 b0 L → i ≤ L.length → Done (li wA) (li wB) (prodL (li iA)) L i 0 →
    ∃ ro, ref02_Differ.L1 (.int .i64 ((li sB).length : Int)) (.int .i64 (i : Int)) (.str nA) (sl S sA) (.int .i64 a0) (sl P iA) (sl P oA) (sl RW wA) (.str nB) (sl S sB) (.int .i64 b0) (sl P iB) (sl P oB) (sl RW wB) (.int .i64 (prodL (li iA) : Int)) (nextV (li wA)) (saysV (li wA)) (.int .i64 (prodL (li iA) : Int)) (nextV (li wB)) (saysV (li wB)) (seenV ((li sA).length * (li sB).length) (li sB).length L) (pairsV (li sB).length L) (fromV L) (byV L) = some (wayF (li iA) ro) ∧
      mach_Differ.L1 (.int .i64 (prodL (li iA) : Int)) (.str nA) (sl S sA) (.int .i64 a0) (sl P iA) (sl P oA) (sl RW wA) (.str nB) (sl S sB) (.int .i64 b0) (sl P iB) (sl P oB) (sl RW wB) (.int .i64 a0) (.int .i64 b0) (mapD L) (.int .i64 (i : Int)) (.int .i64 a0) (.int .i64 b0) (queV L) = some (wayF (li iA) ro) ∧
      (∀ l, ro = some l → Tells (li wA) (li wB) (prodL (li iA)) (li sA).length (li sB).length a0 b0 l) ∧ (ro = none → Bis (li wA) (li wB) (prodL (li iA)) a0.toNat b0.toNat) := by
  have hn1A := hA.n1
  have hn1B := hB.n1
  have hSS : (li sA).length * (li sB).length ≤ 256 * 256 := Nat.mul_le_mul hn1A.2 hn1B.2
  intro d
  have fin : ∀ (i : Nat) (L : List En), BInv (li wA) (li wB) (prodL (li iA)) (li sA).length (li sB).length a0 b0 L → Done (li wA) (li wB) (prodL (li iA)) L i 0 → i = L.length → ∃ ro, ref02_Differ.L1 (.int .i64 ((li sB).length : Int)) (.int .i64 (i : Int)) (.str nA) (sl S sA) (.int .i64 a0) (sl P iA) (sl P oA) (sl RW wA) (.str nB) (sl S sB) (.int .i64 b0) (sl P iB) (sl P oB) (sl RW wB) (.int .i64 (prodL (li iA) : Int)) (nextV (li wA)) (saysV (li wA)) (.int .i64 (prodL (li iA) : Int)) (nextV (li wB)) (saysV (li wB)) (seenV ((li sA).length * (li sB).length) (li sB).length L) (pairsV (li sB).length L) (fromV L) (byV L) = some (wayF (li iA) ro) ∧
      mach_Differ.L1 (.int .i64 (prodL (li iA) : Int)) (.str nA) (sl S sA) (.int .i64 a0) (sl P iA) (sl P oA) (sl RW wA) (.str nB) (sl S sB) (.int .i64 b0) (sl P iB) (sl P oB) (sl RW wB) (.int .i64 a0) (.int .i64 b0) (mapD L) (.int .i64 (i : Int)) (.int .i64 a0) (.int .i64 b0) (queV L) = some (wayF (li iA) ro) ∧
      (∀ l, ro = some l → Tells (li wA) (li wB) (prodL (li iA)) (li sA).length (li sB).length a0 b0 l) ∧ (ro = none → Bis (li wA) (li wB) (prodL (li iA)) a0.toNat b0.toNat) := by
    intro i L hI hD hi
    have l1 : (pairsV (li sB).length L).length = L.length := by simp [pairsV]
    have l2 : (queV L).length = L.length := by simp [queV]
    refine ⟨none, ?_, ?_, (fun l h => by cases h), fun _ => Done.bis (hi ▸ hD) hI⟩
    · rw [ref02_Differ.L1_eq]
      simp only [l1, fBin_lss, bindO_s, fCond_b, decide_eq_true_eq, Int.ofNat_lt]
      rw [if_neg (by omega)]
      rfl
    · rw [mach_Differ.L1_eq]
      simp only [l2, hi, fBin_eql, bindO_s, fUn_not, decide_true, Bool.not_true, fCond_b, Bool.false_eq_true, if_false]
      rfl
  induction d with
  | zero =>
    intro i L hd hI hi hD
    have := hI.len
    exact fin i L hI hD (by omega)
  | succ d ih =>
    intro i L hd hI hi hD
    by_cases g : i = L.length
    · exact fin i L hI hD g
    have hiL : i < L.length := by omega
    have hlen := hI.len
    have he : L[i]? = some L[i] := List.getElem?_eq_getElem hiL
    have l1 : (pairsV (li sB).length L).length = L.length := by simp [pairsV]
    have l2 : (queV L).length = L.length := by simp [queV]
    have q1 : rIdx (queV L) (.int .i64 (i : Int)) = some i := rIdx_at (by rw [l2]; exact hiL)
    have q2 : (queV L)[i]? = some [.int .i64 (L[i].a : Int), .int .i64 (L[i].b : Int)] := by simp [queV, he]
    have q3 : rGet (queV L) i 0 = some (.int .i64 (L[i].a : Int)) := by rw [rGet_at q2]; rfl
    have q4 : rGet (queV L) i 1 = some (.int .i64 (L[i].b : Int)) := by rw [rGet_at q2]; rfl
    have w1 : IntKind.i64.wrap ((i : Int) + 1) = ((i + 1 : Nat) : Int) := wrap64 (by omega) (by omega)
    have e1 : ref02_Differ.L1 (.int .i64 ((li sB).length : Int)) (.int .i64 (i : Int)) (.str nA) (sl S sA) (.int .i64 a0) (sl P iA) (sl P oA) (sl RW wA) (.str nB) (sl S sB) (.int .i64 b0) (sl P iB) (sl P oB) (sl RW wB) (.int .i64 (prodL (li iA) : Int)) (nextV (li wA)) (saysV (li wA)) (.int .i64 (prodL (li iA) : Int)) (nextV (li wB)) (saysV (li wB)) (seenV ((li sA).length * (li sB).length) (li sB).length L) (pairsV (li sB).length L) (fromV L) (byV L) =
        ref02_Differ.L2 (.int .i64 ((li sB).length : Int)) (.int .i64 (i : Int)) (.int .i64 ((0 : Nat) : Int)) (.str nA) (sl S sA) (.int .i64 a0) (sl P iA) (sl P oA) (sl RW wA) (.str nB) (sl S sB) (.int .i64 b0) (sl P iB) (sl P oB) (sl RW wB) (.int .i64 (prodL (li iA) : Int)) (nextV (li wA)) (saysV (li wA)) (.int .i64 (prodL (li iA) : Int)) (nextV (li wB)) (saysV (li wB)) (seenV ((li sA).length * (li sB).length) (li sB).length L) (pairsV (li sB).length L) (fromV L) (byV L) := by
      rw [ref02_Differ.L1_eq]
      simp only [l1, fBin_lss, bindO_s, fCond_b, decide_eq_true_eq, Int.ofNat_lt, hiL, if_true]
      rfl
    have e2 : mach_Differ.L1 (.int .i64 (prodL (li iA) : Int)) (.str nA) (sl S sA) (.int .i64 a0) (sl P iA) (sl P oA) (sl RW wA) (.str nB) (sl S sB) (.int .i64 b0) (sl P iB) (sl P oB) (sl RW wB) (.int .i64 a0) (.int .i64 b0) (mapD L) (.int .i64 (i : Int)) (.int .i64 a0) (.int .i64 b0) (queV L) =
        mach_Differ.L2 (.int .i64 (prodL (li iA) : Int)) (.int .i64 (prodL (li iA) : Int)) (.int .i64 ((0 : Nat) : Int)) (.str nA) (sl S sA) (.int .i64 a0) (sl P iA) (sl P oA) (sl RW wA) (.str nB) (sl S sB) (.int .i64 b0) (sl P iB) (sl P oB) (sl RW wB) (.int .i64 a0) (.int .i64 b0) (mapD L) (.int .i64 ((i + 1 : Nat) : Int)) (.int .i64 a0) (.int .i64 b0) (.int .i64 (L[i].a : Int)) (.int .i64 (L[i].b : Int)) (.int .i64 (L[i].a : Int)) (.int .i64 (L[i].b : Int)) (.int .i64 (L[i].a : Int)) (.int .i64 (L[i].b : Int)) (queV L) := by
      rw [mach_Differ.L1_eq]
      simp only [l2, fBin_eql, Int.ofNat_inj, bindO_s, fUn_not, g, decide_false, Bool.not_false, fCond_b, if_true, q1, q3, q4, fBin_add, w1]
      rfl
    rcases search_inner (nA := nA) (nB := nB) hA hB hsz (i := i) (by omega) _ 0 L rfl (Nat.zero_le _) hI he hD with ⟨L', c1, c2, cD, c3, c4⟩ | ⟨l, c1, c2, c3⟩
    · obtain ⟨ro, r1, r2, r3⟩ := ih (i + 1) L' (by omega) c1 (by omega) cD
      exact ⟨ro, e1.trans (c3.trans r1), e2.trans (c4.trans r2), r3⟩
    · exact ⟨some l, e1.trans c2, e2.trans c3, (fun l' h => by cases h; exact c1), (fun h => by cases h)⟩
end
theorem bare_L0 (h : OkM (li sA) a0 (li iA) (li oA) (li wA)) (x1 x2 x3 x4 x5 x7 x8 : FV) (r9 r10 : List (List FV)) : ∀ (t : List TRow) (k : Nat), (li wA).drop k = t →
    ref02_bareOf.L0 (.int .i64 (k : Int)) x1 x2 x3 x4 x5 (sl RW wA) x7 x8 r9 r10 (((li wA).take k).map fun r => I r.1) (((li wA).take k).map fun r => [sl I r.2.1]) = some (.agg [x8, nextV (li wA), saysV (li wA)]) := by
  have hlen : (li wA).length ≤ 4096 := by rw [h.rlen]; exact h.small
  intro t
  induction t with
  | nil =>
    intro k hd
    have hk := drop_nil hd
    rw [ref02_bareOf.L0_eq, List.take_of_length_le (by omega)]
    simp only [fLen_sl, bindO_s, fCond_b, fBin_lss, decide_eq_true_eq, Int.ofNat_lt, hk, if_false]
    rfl
  | cons r t ih =>
    intro k hd
    obtain ⟨hk, hn, hs⟩ := drop_cons hd
    have e1 : IntKind.i64.wrap ((k : Int) + 1) = ((k + 1 : Nat) : Int) := wrap64 (by omega) (by omega)
    have ih' := ih (k + 1) hs
    rw [List.take_add_one, hn] at ih'
    rw [ref02_bareOf.L0_eq]
    have l1 : (((li wA).take k).length + 1) * 8 ≤ room := by unfold room; simp; omega
    have l2 : (((li wA).take k).length + 1) * 24 ≤ room := by unfold room; simp; omega
    simp only [fLen_sl, bindO_s, fCond_b, fBin_lss, decide_eq_true_eq, Int.ofNat_lt, hk, if_true, idx_sl hn (RW_len r), RW_zero, RW_one, List.length_map, l1, l2, decide_true, gB_t, fBin_add, e1]
    refine Eq.trans ?_ ih'
    simp [I]
theorem bare_ok (h : OkM (li sA) a0 (li iA) (li oA) (li wA)) (x0 x1 x2 x4 : FV) : ref02_bareOf (.agg [x0, x1, x2, sl P iA, x4, sl RW wA]) = some (.agg [.int .i64 (prodL (li iA) : Int), nextV (li wA), saysV (li wA)]) := by
  have h1 := h.small
  have h2 : 1 * prodL (li iA) ≤ (li sA).length * prodL (li iA) := Nat.mul_le_mul_right _ h.n1.1
  have hi := h.i8
  rw [ref02_bareOf.eq]
  simp only [fIsAgg_agg, List.length_cons, List.length_nil, fCell_zero, fCell_succ, ref_product_ok (show (li iA).length < 1000000000000000 by omega) h.lens, Nat.min_eq_left (show prodL (li iA) ≤ 2097152 by omega), bindO_s]
  rw [show (0 + 1 + 1 + 1 + 1 + 1 + 1 == 6) = true from rfl, gB_t]
  exact bare_L0 h x0 x1 x2 (sl P iA) x4 (.int .i64 0) (.int .i64 (prodL (li iA) : Int)) [] [] _ 0 rfl
/-- Both programs' answers. -/
theorem differ_ok (vA : SmM (nA, sA, a0, iA, oA, wA, ())) (vB : SmM (nB, sB, b0, iB, oB, wB, ())) : ∃ y,
    ref02_Differ (.agg [.str nA, sl S sA, .int .i64 a0, sl P iA, sl P oA, sl RW wA]) (.agg [.str nB, sl S sB, .int .i64 b0, sl P iB, sl P oB, sl RW wB]) = some y ∧
    mach_Differ (.agg [.str nA, sl S sA, .int .i64 a0, sl P iA, sl P oA, sl RW wA]) (.agg [.str nB, sl S sB, .int .i64 b0, sl P iB, sl P oB, sl RW wB]) = some y ∧
    ((∃ c, y = .tup [.nilS, .bool false, .int .i64 c]) ∨ ∃ l, y = wayF (li iA) (some l) ∧ checkG nA (li sA) a0 (li iA) (li oA) (li wA) = 0 ∧ checkG nB (li sB) b0 (li iB) (li oB) (li wB) = 0 ∧ sizesB (li iA) (li iB) = true ∧ Tells (li wA) (li wB) (prodL (li iA)) (li sA).length (li sB).length a0 b0 l) ∧
    (checkG nA (li sA) a0 (li iA) (li oA) (li wA) = 0 → checkG nB (li sB) b0 (li iB) (li oB) (li wB) = 0 → sizesB (li iA) (li iB) = true → sizesB (li oA) (li oB) = true → ∃ ro, y = wayF (li iA) ro ∧ (∀ l, ro = some l → Tells (li wA) (li wB) (prodL (li iA)) (li sA).length (li sB).length a0 b0 l) ∧ (ro = none → Bis (li wA) (li wB) (prodL (li iA)) a0.toNat b0.toNat)) := by
  have cA := ref_check_ok vA
  have cB := ref_check_ok vB
  have dA := mach_check_ok vA
  have dB := mach_check_ok vB
  simp only [MC, checkP] at cA cB dA dB
  obtain ⟨z1, z2⟩ := sizes_ok (a := iA) (b := iB) vA.ins.1
  obtain ⟨z3, z4⟩ := sizes_ok (a := oA) (b := oB) vA.outs.1
  rw [ref02_Differ.eq, mach_Differ.eq]
  simp only [fIsAgg_agg, List.length_cons, List.length_nil, fCell_zero, fCell_succ, cA, cB, dA, dB, bindO_s, fBin_neq, fCond_b, decide_eq_true_eq, z1, z2, z3, z4, fUn_not, Bool.not_eq_true']
  rw [show (0 + 1 + 1 + 1 + 1 + 1 + 1 == 6) = true from rfl]
  simp only [gB_t]
  by_cases g1 : checkG nA (li sA) a0 (li iA) (li oA) (li wA) ≠ 0
  · exact ⟨_, by rw [if_pos g1], by rw [if_pos g1], .inl ⟨_, rfl⟩, fun h => absurd h g1⟩
  rw [if_neg g1, if_neg g1]
  by_cases g2 : checkG nB (li sB) b0 (li iB) (li oB) (li wB) ≠ 0
  · exact ⟨_, by rw [if_pos g2], by rw [if_pos g2], .inl ⟨_, rfl⟩, fun _ h => absurd h g2⟩
  rw [if_neg g2, if_neg g2]
  by_cases g3 : sizesB (li iA) (li iB) = false
  · exact ⟨_, by rw [if_pos g3], by rw [if_pos g3], .inl ⟨_, rfl⟩, fun _ _ h => by rw [g3] at h; cases h⟩
  rw [if_neg g3, if_neg g3]
  by_cases g4 : sizesB (li oA) (li oB) = false
  · exact ⟨_, by rw [if_pos g4], by rw [if_pos g4], .inl ⟨_, rfl⟩, fun _ _ _ h => by rw [g4] at h; cases h⟩
  rw [if_neg g4, if_neg g4]
  have hA := okM (Decidable.not_not.1 g1)
  have hB := okM (Decidable.not_not.1 g2)
  have hsz : sizesB (li iA) (li iB) = true := by simpa using g3
  have hn1A := hA.n1
  have hn1B := hB.n1
  have stA := hA.st
  have stB := hB.st
  have hPB : prodL (li iA) = prodL (li iB) := sizes_prod hsz
  have hPA4 : prodL (li iA) ≤ 4096 := by
    have h1 := hA.small
    have h2 : 1 * prodL (li iA) ≤ (li sA).length * prodL (li iA) := Nat.mul_le_mul_right _ hA.n1.1
    omega
  have hi8A := hA.i8
  have hSS : (li sA).length * (li sB).length ≤ 256 * 256 := Nat.mul_le_mul hn1A.2 hn1B.2
  have nlt := num_lt (SA := (li sA).length) (SB := (li sB).length) (a := a0.toNat) (b := b0.toNat) (by omega) (by omega)
  have hI0 : BInv (li wA) (li wB) (prodL (li iA)) (li sA).length (li sB).length a0 b0 [⟨a0.toNat, b0.toNat, -1, a0.toNat, b0.toNat, 0⟩] := by
    refine ⟨rfl, by simp, fun e he => ?_, fun j e he => ?_⟩
    · simp only [List.mem_singleton] at he
      subst he
      simp only
      omega
    · have := (List.getElem?_eq_some_iff.1 he).1
      simp at this
      exact .inl this
  obtain ⟨ro, r1, r2, r3⟩ := search_outer (nA := nA) (nB := nB) hA hB hsz _ 0 _ rfl hI0 (Nat.zero_le _) (fun j e _ q _ hj => by omega)
  refine ⟨wayF (li iA) ro, ?_, ?_, ?_, fun _ _ _ _ => ⟨ro, rfl, r3⟩⟩
  · have m1 : IntKind.i64.wrap (((li sA).length : Int) * ((li sB).length : Int)) = (((li sA).length * (li sB).length : Nat) : Int) := by rw [← Int.natCast_mul]; exact wrap64 (by omega) (by omega)
    have m2 : IntKind.i64.wrap (a0 * ((li sB).length : Int)) = ((a0.toNat * (li sB).length : Nat) : Int) := by
      have e : a0 * ((li sB).length : Int) = ((a0.toNat * (li sB).length : Nat) : Int) := by
        rw [Int.natCast_mul, Int.toNat_of_nonneg stA.1]
      rw [e]
      exact wrap64 (by omega) (by omega)
    have m3 : IntKind.i64.wrap (((a0.toNat * (li sB).length : Nat) : Int) + b0) = ((a0.toNat * (li sB).length + b0.toNat : Nat) : Int) := by rw [wrap64 (by omega) (by omega)]; omega
    have hrep : List.replicate ((li sA).length * (li sB).length) [(FV.bool false)] = rvec ((li sA).length * (li sB).length) fun _ => .bool false := by
      apply List.ext_getElem
      · simp [rvec]
      · intro j h1 h2; simp [rvec]
    have v1 : rIdx (rvec ((li sA).length * (li sB).length) fun _ => FV.bool false) (.int .i64 ((a0.toNat * (li sB).length + b0.toNat : Nat) : Int)) = some (a0.toNat * (li sB).length + b0.toNat) := rIdx_at (by simp only [rvec, List.length_map, List.length_range]; exact nlt)
    have v2 : rSet (rvec ((li sA).length * (li sB).length) fun _ => FV.bool false) (a0.toNat * (li sB).length + b0.toNat) 0 [.bool true] = some (seenV ((li sA).length * (li sB).length) (li sB).length [⟨a0.toNat, b0.toNat, -1, a0.toNat, b0.toNat, 0⟩]) := by
      unfold seenV
      refine rvec_set nlt ?_ fun j hj _ => ?_
      · simp [numE]
      · simp [numE, hj]
    have u1 : rIdx [[FV.int .i64 ((a0.toNat * (li sB).length + b0.toNat : Nat) : Int)]] (.int .i64 0) = some 0 := rfl
    have u2 : rGet [[FV.int .i64 ((a0.toNat * (li sB).length + b0.toNat : Nat) : Int)]] 0 0 = some (.int .i64 ((a0.toNat * (li sB).length + b0.toNat : Nat) : Int)) := rfl
    have hbB := bare_ok hB (.str nB) (sl S sB) (.int .i64 b0) (sl P oB)
    rw [← hPB] at hbB
    rw [ref02_Differ.L0_eq]
    simp only [bare_ok hA (.str nA) (sl S sA) (.int .i64 a0) (sl P oA), hbB, bindO_s, fIsAgg_agg, List.length_cons, List.length_nil, fCell_zero, fCell_succ, fLen_sl, fBin_mul, m1, m2, fBin_add, m3, asNat_nat, Nat.le_refl, show (li sA).length * (li sB).length * 1 ≤ room by unfold room; omega, decide_true, Bool.and_self, ge_iff_le, gB_t, u1, u2, hrep, v1, v2]
    rw [show (0 + 1 + 1 + 1 == 3) = true from rfl, gB_t, gB_t]
    exact r1
  · have ha : a0 = ((a0.toNat : Nat) : Int) := by omega
    have hb : b0 = ((b0.toNat : Nat) : Int) := by omega
    have hcap : capP (prodL (li iA)) = prodL (li iA) := by unfold capP; rw [if_neg (by omega)]
    have hput : mPut true [.int, .int] [] (FV.agg [.int .i64 a0, .int .i64 b0]) (.agg [.int .i64 a0, .int .i64 b0, .int .i64 (-1)]) = some (mapD [⟨a0.toNat, b0.toNat, -1, a0.toNat, b0.toNat, 0⟩]) := by
      rw [show FV.agg [.int .i64 a0, .int .i64 b0] = prK a0.toNat b0.toNat by unfold prK; rw [← ha, ← hb]]
      simp only [mPut, mapD, List.map_cons, List.map_nil, enV, ← ha, ← hb]
      rfl
    have hkey : keyOk true [.int, .int] (FV.agg [.int .i64 a0, .int .i64 b0]) = true := rfl
    have hq : [[FV.int .i64 a0, .int .i64 b0]] = queV [⟨a0.toNat, b0.toNat, -1, a0.toNat, b0.toNat, 0⟩] := by
      simp only [queV, List.map_cons, List.map_nil, ← ha, ← hb]
    rw [mach_Differ.L0_eq]
    simp only [mach_product_ok (show (li iA).length < 1000000000000000 by omega) hA.lens, hcap, bindO_s, hkey, gB_t, hput, show 1 * 16 ≤ room by unfold room; omega, decide_true]
    rw [hq]
    exact r2
  · cases ro with
    | none => exact .inl ⟨0, rfl⟩
    | some l => exact .inr ⟨l, rfl, Decidable.not_not.1 g1, Decidable.not_not.1 g2, hsz, r3.1 l rfl⟩
/-! ### The law -/
theorem runM_runN {p : Nat} (hL : Lens (li iA)) (hp : p = prodL (li iA)) : ∀ (l : List Nat) (st : Nat), (∀ k ∈ l, k < p) → runM (li iA) (li wA) st (l.map fun k => some (D (li iA) k)) = runN (li wA) p st l
  | [], st, _ => rfl
  | k :: l, st, h => by
    have e : rowAt (li iA) (li wA) st (D (li iA) k) = (li wA).getD (st * p + k) default := by
      unfold rowAt D
      rw [digs_row _ _ hL (by rw [← hp]; exact h k (by simp)), hp]
    simp only [List.map_cons, runM, runN, li_some, e, runM_runN hL hp l _ (fun x hx => h x (by simp [hx]))]
theorem tell_run (vA : SmM (nA, sA, a0, iA, oA, wA, ())) (c : checkG nA (li sA) a0 (li iA) (li oA) (li wA) = 0) {ins : List TPort} (hsz : sizesB ins (li iA) = true) {l : List Nat} (hl : l.length ≤ 4096) (hk : ∀ k ∈ l, k < prodL (li iA)) :
    mach_Run (.agg [.str nA, sl S sA, .int .i64 a0, sl P iA, sl P oA, sl RW wA]) (.arr ((l.map (D ins)).map LL)) = some (.tup [.arr ((runN (li wA) (prodL (li iA)) a0.toNat l).1.map LL), .int .i64 ((runN (li wA) (prodL (li iA)) a0.toNat l).2 : Int), .int .i64 0]) := by
  have hA := okM c
  have hD : D ins = D (li iA) := by
    funext k
    unfold D
    rw [sizes_digs k hsz]
  have h := mach_run_ok (oi := some (l.map fun k => some (D (li iA) k))) vA
  have harg : sl SI (some (l.map fun k => some (D (li iA) k))) = .arr ((l.map (D ins)).map LL) := by
    rw [hD]
    simp only [sl, List.map_map]
    rfl
  rw [harg] at h
  rw [h, li_some]
  unfold runR
  have hfit : fitAll (li iA) (l.map fun k => some (D (li iA) k)) = true := by
    simp only [fitAll, List.all_map, List.all_eq_true]
    intro k hk
    exact digs_fit _ _ hA.lens
  rw [if_neg (by simp [c]), if_neg (by simp; omega), if_pos hfit, runM_runN hA.lens rfl l _ hk]
  rfl
theorem differ_law (vA : SmM (nA, sA, a0, iA, oA, wA, ())) (vB : SmM (nB, sB, b0, iB, oB, wB, ())) :
    law02_MachDiffer (.agg [.str nA, sl S sA, .int .i64 a0, sl P iA, sl P oA, sl RW wA]) (.agg [.str nB, sl S sB, .int .i64 b0, sl P iB, sl P oB, sl RW wB]) = some (.bool true) := by
  obtain ⟨y, h1, h2, h3, _⟩ := differ_ok vA vB
  rw [law02_MachDiffer.eq]
  simp only [fIsAgg_agg, List.length_cons, List.length_nil, fCell_zero, fCell_succ, h1, h2, bindO_s]
  rw [show (0 + 1 + 1 + 1 + 1 + 1 + 1 == 6) = true from rfl, gB_t, gB_t]
  rcases h3 with ⟨c, rfl⟩ | ⟨l, rfl, cA, cB, hsz, ht⟩
  · simp only [fIsTup_tup, List.length_cons, List.length_nil, fTup_zero, fTup_succ, fBin_neq, bindO_s, ne_eq, not_true_eq_false, decide_false, fCond_b, Bool.false_eq_true, if_false, fBoolBin_neq, sameLists_nil, fUn_not, Bool.not_true]
    rw [show (0 + 1 + 1 + 1 == 3) = true from rfl, gB_t, gB_t, law02_MachDiffer.L0_eq]
    rfl
  · obtain ⟨hshort, hk, pre, k, outs, a, b, rfl, ha, hb, ra, rb, hne⟩ := ht
    have hA := okM cA
    have hB := okM cB
    have hPB : prodL (li iA) = prodL (li iB) := sizes_prod hsz
    have hi8 := hA.i8
    have hsz' : sizesB (li iB) (li iB) = true := by simp [sizesB]
    have hszA : sizesB (li iA) (li iA) = true := by simp [sizesB]
    have hbig : (pre ++ [k]).length < 1000000000000000 := by omega
    have hsl := sameLists_ok (l := (pre ++ [k]).map (D (li iA))) (by simpa using hbig) (fun x hx => by
      obtain ⟨q, _, rfl⟩ := List.mem_map.1 hx
      have := digs_len (li iA) q
      simp only [D]
      omega)
    simp only [wayF, fIsTup_tup, List.length_cons, List.length_nil, fTup_zero, fTup_succ, fBin_neq, bindO_s, ne_eq, not_true_eq_false, decide_false, fCond_b, Bool.false_eq_true, if_false, fBoolBin_neq, hsl, fUn_not, Bool.not_true]
    rw [show (0 + 1 + 1 + 1 == 3) = true from rfl, gB_t, gB_t, law02_MachDiffer.L0_eq]
    have hlen : ((pre ++ [k]).map (D (li iA))).length = pre.length + 1 := by simp
    simp only [fUn_not, Bool.not_true, bindO_s, fCond_b, Bool.false_eq_true, if_false, fLen_arr, List.length_map, List.length_append, List.length_cons, List.length_nil, fBin_gtr, decide_eq_true_eq]
    by_cases g : (4096 : Int) < ((pre.length + (0 + 1) : Nat) : Int)
    · rw [if_pos g]
    rw [if_neg g]
    have r1 := tell_run vA cA hszA (l := pre ++ [k]) (by simp; omega) hk
    have r2 := tell_run vB cB hsz (l := pre ++ [k]) (by simp; omega) (fun x hx => by rw [← hPB]; exact hk x hx)
    rw [← hPB] at r2
    rw [runN_snoc, ra] at r1
    rw [runN_snoc, rb] at r2
    simp only at r1 r2
    have hlo : outs.length = pre.length := by
      have key : ∀ (l : List Nat) (st : Nat), (runN (li wA) (prodL (li iA)) st l).1.length = l.length := by
        intro l
        induction l with
        | nil => intro st; rfl
        | cons x l ih => intro st; simp [runN, ih]
      have := key pre a0.toNat
      rw [ra] at this
      exact this
    have hkk := hk k (by simp)
    obtain ⟨_, _, _, _, _, oA8⟩ := rowN_get hA rfl ha hkk
    obtain ⟨_, _, _, _, _, oB8⟩ := rowN_get hB hPB hb hkk
    have hsmall : ∀ x ∈ outs, x.length < 1000000000000000 := by
      have key : ∀ (l : List Nat) (st : Nat), (∀ k ∈ l, k < prodL (li iA)) → st < (li sA).length → ∀ x ∈ (runN (li wA) (prodL (li iA)) st l).1, x.length ≤ 8 := by
        intro l
        induction l with
        | nil => intro st _ _ x hx; cases hx
        | cons q l ih =>
          intro st hq hst x hx
          obtain ⟨_, _, _, n1, n2, n3⟩ := rowN_get hA rfl hst (hq q (by simp))
          unfold rowN at n1 n2 n3
          simp only [runN, List.mem_cons] at hx
          rcases hx with rfl | hx
          · exact n3
          · exact ih _ (fun y hy => hq y (by simp [hy])) (by omega) x hx
      have := key pre a0.toNat (fun x hx => hk x (by simp [hx])) (by have := hA.st; omega)
      rw [ra] at this
      exact fun x hx => by have := this x hx; omega
    have w1 : IntKind.i64.wrap (((pre.length + (0 + 1) : Nat) : Int) - 1) = ((pre.length : Nat) : Int) := by rw [wrap64 (by omega) (by omega)]; omega
    have hszz : ∀ m : List (List Int), rowsSz 1 (m.map LL) = true := fun m => rowsSz_map LL_len m
    have cut : ∀ z : List Int, fCut 1 (.arr ((outs ++ [z]).map LL)) none (some (.int .i64 ((pre.length : Nat) : Int))) = some (.arr (outs.map LL)) := fun z => by
      rw [fCut_take (hszz _) (by simp; omega), ← List.map_take, ← hlo, List.take_left]
    have ix : ∀ z : List Int, fIdxC 1 (.arr ((outs ++ [z]).map LL)) (.int .i64 ((pre.length : Nat) : Int)) = some (LL z) := fun z => idx_arr (by rw [List.getElem?_map, ← hlo, List.getElem?_append_right (Nat.le_refl _)]; simp) rfl
    have hs2 := sameLists_ok (l := outs) (by omega) hsmall
    have hsi := (sameInts_sl (a := some (li (rowN (li wA) (prodL (li iA)) a k).2.1)) (b := some (li (rowN (li wB) (prodL (li iA)) b k).2.1)) (by rw [li_some]; omega)).1
    simp only [sl_some, li_some] at hsi
    unfold rowN at hsi hne
    simp only [r1, r2, bindO_s, fIsTup_tup, List.length_cons, List.length_nil, fTup_zero, fTup_succ, fBin_eql, decide_true, fCond_b, if_true, fLen_arr, List.length_map, List.length_append, hlo, fBin_sub, w1, cut, hs2, ix, LL_zero, ref02_SameInts.eq, hsi, hne, decide_false, fUn_not, Bool.not_false]
    rw [show (0 + 1 + 1 + 1 == 3) = true from rfl, gB_t, gB_t]
end
end Go.Proofs.Ytelcbakleaaneaa
end
