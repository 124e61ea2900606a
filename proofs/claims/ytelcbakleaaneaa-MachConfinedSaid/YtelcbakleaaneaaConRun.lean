/- A machine and its band in one: numbers in decimal, bands that are the same, the course of bands. A machine and its band in one: the second program. A machine and its band in one: the first program; both programs' answers. A machine and its band in one: both programs' answers are one. A machine and its band in one: the law MachConfined. A machine and its band in one: the law. -/
import Derived.Test.YtelcbakleaaneaaBandRun
import Derived.Test.YtelcbakleaaneaaMinRun
import Derived.KernelRfl
import Derived.Test.YtelcbakleaaneaaCode1
section
namespace Go.Proofs.Ytelcbakleaaneaa
open Go Go.Proofs.Ytelcbakleaaneaa.VM
set_option linter.unusedVariables false
set_option linter.unusedSimpArgs false
set_option linter.unusedSectionVars false
/-! ### Decimal -/
def decF : Nat → Nat → Str
  | 0, _ => []
  | f + 1, n => if n < 10 then [UInt8.ofNat (48 + n)] else decF f (n / 10) ++ [UInt8.ofNat (48 + n % 10)]
theorem decF_len : ∀ f n, (decF f n).length ≤ f
  | 0, _ => by simp [decF]
  | f + 1, n => by
    unfold decF
    split
    · simp
    · have := decF_len f (n / 10)
      simp; omega
theorem enc_digit : ∀ r : Nat, r < 10 → (Utf8.encode (48 + (r : Int))).data.toList = [UInt8.ofNat (48 + r)]
  | 0, _ => rfl
  | 1, _ => rfl
  | 2, _ => rfl
  | 3, _ => rfl
  | 4, _ => rfl
  | 5, _ => rfl
  | 6, _ => rfl
  | 7, _ => rfl
  | 8, _ => rfl
  | 9, _ => rfl
  | n + 10, h => by omega
theorem bytes_digit {r : Nat} (h : r < 10) : bytes? [[FV.int .u8 (IntKind.u8.wrap (IntKind.i64.wrap (48 + (r : Int))))]] = some [UInt8.ofNat (48 + r)] := by
  rw [wrap64 (by omega) (by omega), wrap8 (by omega) (by omega)]
  simp only [bytes?, byte?, bindO_s]
  rw [show (48 + (r : Int)).toNat = 48 + r by omega]
theorem fBin_addS {a b : Str} (h : a.length + b.length ≤ 9223372036854775807) : fBin .add (.str a) (.str b) = some (.str (a ++ b)) := by simp [fBin, h]
theorem quo10 {n : Nat} (h : n < 1000000000000) : fBin .quo (.int .i64 (n : Int)) (.int .i64 10) = some (.int .i64 ((n / 10 : Nat) : Int)) := by
  have e : IntKind.i64.wrap ((n : Int).tdiv 10) = ((n / 10 : Nat) : Int) := by
    rw [show ((n : Int).tdiv 10) = ((n / 10 : Nat) : Int) by rw [show (10 : Int) = ((10 : Nat) : Int) from rfl, ← Int.ofNat_tdiv]]
    exact wrap64 (by omega) (by omega)
  simp only [fBin_quo, show ¬ (10 : Int) = 0 by decide, if_false, e]
theorem rem10 {n : Nat} : fBin .rem (.int .i64 (n : Int)) (.int .i64 10) = some (.int .i64 ((n % 10 : Nat) : Int)) := by
  simp only [fBin_rem, show ¬ (10 : Int) = 0 by decide, if_false]
  rw [show ((n : Int).tmod 10) = ((n % 10 : Nat) : Int) by rw [show (10 : Int) = ((10 : Nat) : Int) from rfl, ← Int.ofNat_tmod]]
theorem digits_text : ∀ (f n : Nat), n < 10 ^ (f + 1) → f ≤ 9 → ref02_digits (.int .i64 (n : Int)) = some (.str (decF (f + 1) n))
  | f, n, h, hf => by
    have hp : 10 ^ (f + 1) ≤ 10 ^ 10 := Nat.pow_le_pow_right (by decide) (by omega)
    have hn : n < 10000000000 := Nat.lt_of_lt_of_le h hp
    rw [ref02_digits.eq]
    unfold decF
    by_cases g : n < 10
    · simp only [fBin_lss, bindO_s, fCond_b, decide_eq_true_eq, show ((n : Int) < 10) by omega, if_true, fBin_add, fConvInt_int, bytes_digit g, g]
    · cases f with
      | zero => simp at h; omega
      | succ f =>
        have ih := digits_text f (n / 10) (by rw [Nat.pow_succ] at h; omega) (by omega)
        have hl := decF_len (f + 1) (n / 10)
        simp only [fBin_lss, bindO_s, fCond_b, decide_eq_true_eq, show ¬ ((n : Int) < 10) by omega, if_false, quo10 (n := n) (by omega), ih, rem10, fBin_add, fConvInt_int, bytes_digit (r := n % 10) (by omega), g]
        rw [fBin_addS (by simp; omega)]
        rfl
theorem wrap32 {n : Int} (h1 : 0 ≤ n) (h2 : n < 1000) : IntKind.i32.wrap n = n := by
  simp [IntKind.wrap, IntKind.bits, IntKind.signed]
  split <;> omega
theorem decimal_L0 : ∀ (f n : Nat) (s : Str), n < 10 ^ (f + 1) → f ≤ 9 → s.length + f ≤ 1000 → mach_decimal.L0 (.int .i64 (n : Int)) (.str s) = some (.str (decF (f + 1) n ++ s))
  | f, n, s, h, hf, hs => by
    have hp : 10 ^ (f + 1) ≤ 10 ^ 10 := Nat.pow_le_pow_right (by decide) (by omega)
    have hn : n < 10000000000 := Nat.lt_of_lt_of_le h hp
    have hr : n % 10 < 10 := Nat.mod_lt _ (by decide)
    have hc : fToStrI (.int .i32 (IntKind.i32.wrap (IntKind.i64.wrap (48 + ((n % 10 : Nat) : Int))))) = some (.str [UInt8.ofNat (48 + n % 10)]) := by
      rw [wrap64 (by omega) (by omega), wrap32 (by omega) (by omega)]
      simp only [fToStrI, enc_digit _ hr]
    rw [mach_decimal.L0_eq]
    unfold decF
    simp only [rem10, bindO_s, fBin_add, fConvInt_int, hc]
    rw [fBin_addS (by simp; omega)]
    simp only [bindO_s, quo10 (n := n) (by omega), fBin_eql, fCond_b, decide_eq_true_eq]
    by_cases g : n < 10
    · rw [if_pos (by omega), if_pos g, Nat.mod_eq_of_lt g]
    · rw [if_neg (by omega), if_neg g]
      cases f with
      | zero => simp at h; omega
      | succ f =>
        have ih := decimal_L0 f (n / 10) ([UInt8.ofNat (48 + n % 10)] ++ s) (by rw [Nat.pow_succ] at h; omega) (by omega) (by simp; omega)
        rw [ih, List.append_assoc]
def dec (n : Nat) : Str := decF 4 n
theorem dec_ref {n : Nat} (h : n < 10000) : ref02_digits (.int .i64 (n : Int)) = some (.str (dec n)) := digits_text 3 n h (by decide)
theorem dec_mach {n : Nat} (h : n < 10000) : mach_decimal (.int .i64 (n : Int)) = some (.str (dec n)) := by
  rw [mach_decimal.eq]
  have := decimal_L0 3 n [] h (by decide) (by decide)
  simpa [dec] using this
theorem dec_len (n : Nat) : (dec n).length ≤ 4 := decF_len 4 n
/-! ### Bands without their steps -/
instance : DecidableEq Bd := fun a b => decidable_of_iff (a.sq = b.sq ∧ a.ps = b.ps ∧ a.st = b.st ∧ a.h = b.h ∧ a.k = b.k) (by
  constructor
  · rintro ⟨h1, h2, h3, h4, h5⟩
    cases a; cases b
    simp only at h1 h2 h3 h4 h5
    subst h1 h2 h3 h4 h5; rfl
  · rintro rfl; exact ⟨rfl, rfl, rfl, rfl, rfl⟩)
def nz (b : Bd) : Bd := ⟨b.sq, b.ps, b.st, b.h, 0⟩
theorem boolEq (a b : Bool) : fBoolBin .eql (.bool a) (.bool b) = some (.bool (decide (a = b))) := by cases a <;> cases b <;> rfl
theorem sameBands_ok {a b : Bd} (ha : a.k = 0) (hb : b.k = 0) (hl : a.sq.length < 1000000000000000) : ref02_sameBands (.agg (BF a)) (.agg (BF b)) = some (.bool (decide (a = b))) := by
  have z : ref02_sameInts (.arr (a.sq.map I)) (.arr (b.sq.map I)) = some (.bool (decide (a.sq = b.sq))) := (sameInts_sl (a := some a.sq) (b := some b.sq) hl).1
  have hiff : a = b ↔ a.sq = b.sq ∧ a.ps = b.ps ∧ a.st = b.st ∧ a.h = b.h := by
    constructor
    · rintro rfl; exact ⟨rfl, rfl, rfl, rfl⟩
    · rintro ⟨h1, h2, h3, h4⟩
      cases a; cases b
      simp only at ha hb h1 h2 h3 h4
      subst h1 h2 h3 h4 ha hb; rfl
  rw [ref02_sameBands.eq]
  simp only [BF, fIsAgg_agg, List.length_cons, List.length_nil, fCell_zero, fCell_succ, z, bindO_s, fCond_b, decide_eq_true_eq, fBin_eql, boolEq]
  rw [show (0 + 1 + 1 + 1 + 1 + 1 == 5) = true from rfl, gB_t, gB_t]
  by_cases g1 : a.sq = b.sq
  · rw [if_pos g1]
    by_cases g2 : a.ps = b.ps
    · rw [if_pos g2]
      by_cases g3 : a.st = b.st
      · rw [if_pos g3]
        simp [hiff, g1, g2, g3]
      · rw [if_neg g3]; simp [hiff, g3]
    · rw [if_neg g2]; simp [hiff, g2]
  · rw [if_neg g1]; simp [hiff, g1]
/-- The course of bands: till one comes that was there, or too many are. -/
def cnf (nx : Bd → Bd) : Nat → List Bd → Bd → Option (List Bd × Bd)
  | 0, L, b => if b ∈ L then some (L, b) else none
  | d + 1, L, b => if b ∈ L then some (L, b) else cnf nx d (L ++ [b]) (nx b)
def rwsF : Nat → List Bd → List TRow
  | _, [] => []
  | i, b :: l => ((i : Int), some b.sq, ()) :: rwsF (i + 1) l
theorem rwsF_snoc : ∀ (l : List Bd) (i : Nat) (b : Bd), rwsF i (l ++ [b]) = rwsF i l ++ [(((i + l.length : Nat) : Int), some b.sq, ())]
  | [], i, b => rfl
  | x :: l, i, b => by
    simp only [List.cons_append, rwsF, rwsF_snoc l (i + 1) b, List.length_cons]
    rw [show i + 1 + l.length = i + (l.length + 1) by omega]
theorem rwsF_len : ∀ (l : List Bd) (i : Nat), (rwsF i l).length = l.length
  | [], _ => rfl
  | x :: l, i => by simp [rwsF, rwsF_len l (i + 1)]
def qN (t : Nat) : Str := 113 :: dec t
def sN (t : Nat) : Str := 115 :: dec t
theorem pos_first {κ : Type} [DecidableEq κ] {b : κ} : ∀ {L : List κ} {k : Nat}, L[k]? = some b → b ∉ L.take k → pos b L = k
  | [], k, h, _ => by simp at h
  | x :: L, 0, h, _ => by simp at h; simp [pos, h]
  | x :: L, k + 1, h, hn => by
    simp only [List.take_succ_cons, List.mem_cons, not_or] at hn
    have := pos_first (L := L) (k := k) (by simpa using h) hn.2
    simp [pos, hn.1, this]
end Go.Proofs.Ytelcbakleaaneaa
end
section
namespace Go.Proofs.Ytelcbakleaaneaa
open Go Go.Proofs.Ytelcbakleaaneaa.VM
set_option linter.unusedVariables false
set_option linter.unusedSimpArgs false
set_option linter.unusedSectionVars false
def bNx (ins : List TPort) (rows : List TRow) (b : Bd) : Bd := nz (bRun ins rows 1 b)
structure BIn (ins : List TPort) (n S : Nat) (b : Bd) : Prop where
  ok : BOk ins n S b
  k0 : b.k = 0
def namesV (m : Nat) : List (List FV) := (List.range' 0 m).map fun t => S (qN t)
theorem namesV_snoc (m : Nat) : namesV m ++ [[FV.str (qN m)]] = namesV (m + 1) := by
  simp [namesV, List.range'_concat, S]
theorem namesV_len (m : Nat) : (namesV m).length = m := by simp [namesV]
def rowsV (L : List Bd) : List (List FV) := (rwsF 1 L.tail).map RW
theorem rowsV_snoc {L : List Bd} (h : L ≠ []) (b : Bd) : rowsV L ++ [[FV.int .i64 (L.length : Int), .arr (b.sq.map I)]] = rowsV (L ++ [b]) := by
  cases L with
  | nil => exact absurd rfl h
  | cons x L =>
    simp only [rowsV, List.cons_append, List.tail_cons, rwsF_snoc, List.map_append, List.map_cons, List.map_nil, RW, sl, List.length_cons]
    rw [show 1 + L.length = L.length + 1 by omega]
theorem rowsV_len (L : List Bd) : (rowsV L).length ≤ L.length := by simp [rowsV, rwsF_len]
/-- What is answered. -/
def conF (nm : Str) (po : List (List FV)) : Option (List Bd × Bd) → FV
  | none => .tup [.agg [.str [], .nilS, .int .i64 0, .nilS, .nilS, .nilS], .int .i64 26]
  | some (L, b) => .tup [.agg [.str nm, .arr (namesV L.length), .int .i64 0, .arr [], .arr po, .arr (rowsV L ++ [[.int .i64 (pos b L : Int), .arr (b.sq.map I)]])], .int .i64 0]
section
variable {nm : Str} {sts : Option (List Str)} {start : Int} {ins outs : Option (List TPort)} {rows : Option (List TRow)}
variable (v : SmM (nm, sts, start, ins, outs, rows, ())) (c0 : checkG nm (li sts) start (li ins) (li outs) (li rows) = 0) (hb : isBandB (li ins) (li outs) = true) {n : Nat} (hn : 1 ≤ n ∧ n ≤ 8)
include v c0 hb hn
theorem band_one {b : Bd} (ok : BOk (li ins) n (li sts).length b) (hk : 0 ≤ b.k ∧ b.k ≤ 1099511627776) {T : Int} (hT : 0 ≤ T ∧ T ≤ 1048576) :
    ref02_RunBand (.agg [.str nm, sl S sts, .int .i64 start, sl P ins, sl P outs, sl RW rows]) (.agg (BF b)) (.int .i64 T) = some (.tup [.agg (BF (bRun (li ins) (li rows) T.toNat b)), .int .i64 0]) ∧
    mach_RunBand (.agg [.str nm, sl S sts, .int .i64 start, sl P ins, sl P outs, sl RW rows]) (.agg (BF b)) (.int .i64 T) = some (.tup [.agg (BF (bRun (li ins) (li rows) T.toNat b)), .int .i64 0]) := by
  have hlen := ok.len
  have e : bandE (checkG nm (li sts) start (li ins) (li outs) (li rows)) (li ins) (li outs) (li sts).length (li (some b.sq)) b.ps b.st b.k T = 0 :=
    bandE_of (sq := b.sq) ⟨c0, hb, by omega, ok.sq, by have := ok.ps; omega, ok.st, hk, hT⟩
  have r1 := ref_band_ok (osq := some b.sq) v (by simp only [li_some]; omega) b.ps b.st b.h b.k T
  have r2 := mach_band_ok (osq := some b.sq) v (by simp only [li_some]; omega) b.ps b.st b.h b.k T
  unfold bandF at r1 r2
  rw [if_pos e] at r1 r2
  exact ⟨r1, r2⟩
theorem bNx_ok {b : Bd} (h : BIn (li ins) n (li sts).length b) : BIn (li ins) n (li sts).length (bNx (li ins) (li rows) b) := by
  have := bRun_ok (okM c0) hb 1 b h.ok
  exact ⟨⟨this.len, this.sq, this.ps, this.st⟩, rfl⟩
omit v c0 hb hn in
theorem seen_get {L : List Bd} {k : Nat} {b : Bd} (h : L[k]? = some b) : rIdx (L.map BF) (.int .i64 (k : Int)) = some k ∧ rGet (L.map BF) k 0 = some (.arr (b.sq.map I)) ∧ rGet (L.map BF) k 1 = some (.int .i64 b.ps) ∧ rGet (L.map BF) k 2 = some (.int .i64 b.st) ∧ rGet (L.map BF) k 3 = some (.bool b.h) ∧ rGet (L.map BF) k 4 = some (.int .i64 b.k) := by
  have hk := (List.getElem?_eq_some_iff.1 h).1
  have hg : (L.map BF)[k]? = some (BF b) := by simp [h]
  exact ⟨rIdx_at (by simpa using hk), by rw [rGet_at hg]; rfl, by rw [rGet_at hg]; rfl, by rw [rGet_at hg]; rfl, by rw [rGet_at hg]; rfl, by rw [rGet_at hg]; rfl⟩
omit v c0 hb in
theorem con_L2 {L : List Bd} {b : Bd} (hL : ∀ x ∈ L, BIn (li ins) n (li sts).length x) (hbk : b.k = 0) (hLn : L.length ≤ 256) (x0 x3 x4 x5 x6 x7 x8 x9 x10 x11 x12 x13 x14 x15 x16 x17 x18 x19 x20 x21 x22 : FV) (r23 r24 r25 r26 r27 r28 r30 r31 : List (List FV)) : ∀ (d k : Nat), L.length - k = d → k ≤ L.length → b ∉ L.take k →
    ref02_Confined.L2 x0 (.int .i64 (-1)) (.int .i64 (k : Int)) x3 x4 x5 x6 x7 x8 x9 x10 x11 x12 x13 x14 x15 x16 x17 x18 x19 x20 x21 x22 r23 r24 r25 r26 r27 r28 (L.map BF) r30 r31 (.arr (b.sq.map I)) (.int .i64 b.ps) (.int .i64 b.st) (.bool b.h) (.int .i64 b.k) =
      if b ∈ L then ref02_Confined.L4 x0 (.eptr (BF b) 0) (.int .i64 (pos b L : Int)) x3 x4 x5 x6 x7 x8 x9 x10 x11 x12 x13 x14 x15 x16 x17 x18 x19 x20 x21 x22 r23 r24 r25 r26 r27 r28 (L.map BF) r30 r31
      else ref02_Confined.L4 x0 (.eptr (BF b) 0) (.int .i64 (L.length : Int)) x3 x4 x5 x6 x7 x8 x9 x10 x11 x12 x13 x14 x15 x16 x17 x18 x19 x20 x21 x22 r23 r24 r25 r26 r27 r28 ((L ++ [b]).map BF) r30 r31 := by
  intro d
  have neg : ((-1 : Int) < 0) := by decide
  induction d with
  | zero =>
    intro k hd hk hno
    rw [List.take_of_length_le (by omega)] at hno
    rw [if_neg hno, ref02_Confined.L2_eq]
    simp only [List.length_map, fBin_lss, bindO_s, fCond_b, decide_eq_true_eq, Int.ofNat_lt, show ¬ k < L.length by omega, if_false, neg, if_true, show (L.length + 1) * 56 ≤ room by unfold room; omega, decide_true, gB_t, List.map_append, List.map_cons, List.map_nil]
    rfl
  | succ d ih =>
    intro k hd hk hno
    have hk' : k < L.length := by omega
    have hx : L[k]? = some L[k] := List.getElem?_eq_getElem hk'
    have hxL := hL _ (List.mem_of_getElem? hx)
    have hlen := hxL.ok.len
    obtain ⟨q0, q1, q2, q3, q4, q5⟩ := seen_get hx
    have sb := sameBands_ok (a := L[k]) (b := b) hxL.k0 hbk (by omega)
    have w : IntKind.i64.wrap ((k : Int) + 1) = ((k + 1 : Nat) : Int) := wrap64 (by omega) (by omega)
    rw [ref02_Confined.L2_eq]
    simp only [List.length_map, fBin_lss, bindO_s, fCond_b, decide_eq_true_eq, Int.ofNat_lt, hk', if_true, neg]
    rw [ref02_Confined.L3_eq]
    simp only [q0, q1, q2, q3, q4, q5, bindO_s]
    rw [show ref02_sameBands (.agg [.arr (L[k].sq.map I), .int .i64 L[k].ps, .int .i64 L[k].st, .bool L[k].h, .int .i64 L[k].k]) (.agg [.arr (b.sq.map I), .int .i64 b.ps, .int .i64 b.st, .bool b.h, .int .i64 b.k]) = _ from sb]
    simp only [bindO_s, fCond_b, decide_eq_true_eq, fBin_add, w]
    by_cases g : L[k] = b
    · have hm : b ∈ L := g ▸ List.mem_of_getElem? hx
      have hp := pos_first (b := b) (by rw [hx, g]) hno
      have nneg : ¬ ((k : Int) < 0) := by omega
      rw [if_pos g, if_pos hm, hp, ref02_Confined.L2_eq]
      simp only [List.length_map, fBin_lss, bindO_s, fCond_b, decide_eq_true_eq, nneg, if_false, ite_self]
      rfl
    · rw [if_neg g]
      refine ih (k + 1) (by omega) (by omega) (fun hx2 => ?_)
      rw [List.take_add_one, hx] at hx2
      rcases List.mem_append.1 hx2 with hx2 | hx2
      · exact hno hx2
      · simp at hx2; exact g hx2.symm
omit v c0 hb hn in
theorem con_L4 {b : Bd} {i a : Nat} (hi : i < 1000) (hbl : b.sq.length ≤ 8) (x3 x4 x5 x6 x7 x8 x9 x10 x11 x12 x13 x14 x15 x16 x17 x18 x19 x20 x21 x22 : FV) (r23 r24 r25 r26 r27 r28 r29 r31 : List (List FV)) (hr : r31.length ≤ 1000) :
    ref02_Confined.L4 (.int .i64 (i : Int)) (.eptr (BF b) 0) (.int .i64 (a : Int)) x3 x4 x5 x6 x7 x8 x9 x10 x11 x12 x13 x14 x15 x16 x17 x18 x19 x20 x21 x22 r23 r24 r25 r26 r27 r28 r29 (namesV i) r31 =
      ref02_Confined.L1 (.int .i64 ((i + 1 : Nat) : Int)) x3 x4 x5 x6 x7 x8 x9 x10 x11 x12 x13 x14 x15 x16 x17 x18 x19 x20 x21 x22 r23 r24 r25 r26 r27 r28 r29 (namesV (i + 1)) (r31 ++ [[.int .i64 (a : Int), .arr (b.sq.map I)]]) := by
  have w : IntKind.i64.wrap ((i : Int) + 1) = ((i + 1 : Nat) : Int) := wrap64 (by omega) (by omega)
  have hd := dec_len i
  rw [ref02_Confined.L4_eq]
  simp only [dec_ref (n := i) (by omega), bindO_s]
  rw [fBin_addS (by simp; omega), show fAddrO (.eptr (BF b) 0) 0 = some (.eptr (BF b) 0) from rfl]
  simp only [bindO_s]
  rw [show fLd (.eptr (BF b) 0) 0 = some (.arr (b.sq.map I)) from rfl]
  simp only [bindO_s, namesV_len, show (i + 1) * 16 ≤ room by unfold room; omega, decide_true, gB_t]
  rw [show asRows (.arr (b.sq.map I)) = some (b.sq.map I) from rfl]
  simp only [bindO_s, rowsSz_I, gB_t, List.length_map, show (0 + b.sq.length) * 8 ≤ room by unfold room; omega, show (r31.length + 1) * 32 ≤ room by unfold room; omega, decide_true, fBin_add, w, List.nil_append]
  rw [show [113] ++ dec i = qN i from rfl, namesV_snoc]
theorem con_L1 (x7 x8 x9 x10 x11 x12 x13 x14 x15 x16 x17 x18 : FV) (r21 r22 r23 r24 r26 : List (List FV)) : ∀ (d i : Nat) (L : List Bd) (b : Bd), 256 - L.length = d → L.length ≤ 256 → i + 1 = L.length → L[i]? = some b → (∀ x ∈ L, BIn (li ins) n (li sts).length x) →
    ref02_Confined.L1 (.int .i64 (i : Int)) (.str nm) (sl S sts) (.int .i64 start) (sl P ins) (sl P outs) (sl RW rows) x7 x8 x9 x10 x11 x12 x13 x14 x15 x16 x17 x18 (.str nm) (.int .i64 0) r21 r22 r23 r24 [] r26 (L.map BF) (namesV i) (rowsV L) =
      some (conF nm r26 (cnf (bNx (li ins) (li rows)) d L (bNx (li ins) (li rows) b))) := by
  intro d
  -- one round
  have round : ∀ (i : Nat) (L : List Bd) (b : Bd), L.length ≤ 256 → i + 1 = L.length → L[i]? = some b → (∀ x ∈ L, BIn (li ins) n (li sts).length x) →
      ref02_Confined.L1 (.int .i64 (i : Int)) (.str nm) (sl S sts) (.int .i64 start) (sl P ins) (sl P outs) (sl RW rows) x7 x8 x9 x10 x11 x12 x13 x14 x15 x16 x17 x18 (.str nm) (.int .i64 0) r21 r22 r23 r24 [] r26 (L.map BF) (namesV i) (rowsV L) =
        if bNx (li ins) (li rows) b ∈ L then some (conF nm r26 (some (L, bNx (li ins) (li rows) b)))
        else ref02_Confined.L1 (.int .i64 ((i + 1 : Nat) : Int)) (.str nm) (sl S sts) (.int .i64 start) (sl P ins) (sl P outs) (sl RW rows) x7 x8 x9 x10 x11 x12 x13 x14 x15 x16 x17 x18 (.str nm) (.int .i64 0) r21 r22 r23 r24 [] r26 ((L ++ [bNx (li ins) (li rows) b]).map BF) (namesV (i + 1)) (rowsV (L ++ [bNx (li ins) (li rows) b])) := by
    intro i L b hle hi hs hL
    have hbL := hL b (List.mem_of_getElem? hs)
    have hnb := bNx_ok v c0 hb hn hbL
    obtain ⟨q0, q1, q2, q3, q4, q5⟩ := seen_get hs
    have hr := (band_one v c0 hb hn hbL.ok (by rw [hbL.k0]; omega) (T := 1) (by omega)).1
    have hne : L ≠ [] := fun e => by rw [e] at hi; simp at hi
    have hrl := rowsV_len L
    have hlen := hnb.ok.len
    rw [ref02_Confined.L1_eq]
    simp only [List.length_map, fBin_lss, fBin_gtr, bindO_s, fCond_b, decide_eq_true_eq, Int.ofNat_lt, show i < L.length by omega, if_true, show ¬ ((256 : Int) < (L.length : Int)) by omega, if_false, q0, q1, q2, q3, q4, q5]
    rw [show ref02_RunBand (.agg [.str nm, sl S sts, .int .i64 start, sl P ins, sl P outs, sl RW rows]) (.agg [.arr (b.sq.map I), .int .i64 b.ps, .int .i64 b.st, .bool b.h, .int .i64 b.k]) (.int .i64 1) = _ from hr]
    simp only [bindO_s, fIsTup_tup, List.length_cons, List.length_nil, fTup_zero]
    rw [show (0 + 1 + 1 == 2) = true from rfl, gB_t, show fIsAgg 5 (.agg (BF (bRun (li ins) (li rows) (1 : Int).toNat b))) = true from rfl, gB_t]
    have h2 := con_L2 hn hL hnb.k0 hle (.int .i64 (i : Int)) (.str nm) (sl S sts) (.int .i64 start) (sl P ins) (sl P outs) (sl RW rows) x7 x8 x9 x10 x11 x12 x13 x14 x15 x16 x17 x18 (.str nm) (.int .i64 0) r21 r22 r23 r24 [] r26 (namesV i) (rowsV L) _ 0 rfl (Nat.zero_le _) (by simp)
    refine Eq.trans h2 ?_
    by_cases g : bNx (li ins) (li rows) b ∈ L
    · rw [if_pos g, if_pos g, con_L4 (by omega) (by omega) _ _ _ _ _ _ _ _ _ _ _ _ _ _ _ _ _ _ _ _ _ _ _ _ _ _ _ _ (by omega), ref02_Confined.L1_eq]
      simp only [List.length_map, fBin_lss, bindO_s, fCond_b, decide_eq_true_eq, Int.ofNat_lt, hi, Nat.lt_irrefl, if_false, conF]
    · rw [if_neg g, if_neg g, con_L4 (by omega) (by omega) _ _ _ _ _ _ _ _ _ _ _ _ _ _ _ _ _ _ _ _ _ _ _ _ _ _ _ _ (by omega), rowsV_snoc hne]
  induction d with
  | zero =>
    intro i L b hd hle hi hs hL
    rw [round i L b hle hi hs hL]
    unfold cnf
    by_cases g : bNx (li ins) (li rows) b ∈ L
    · rw [if_pos g, if_pos g]
    · rw [if_neg g, if_neg g, ref02_Confined.L1_eq]
      simp only [List.length_map, List.length_append, List.length_cons, List.length_nil, fBin_lss, fBin_gtr, bindO_s, fCond_b, decide_eq_true_eq, Int.ofNat_lt, show i + 1 < L.length + (0 + 1) by omega, if_true, show ((256 : Int) < ((L.length + (0 + 1) : Nat) : Int)) by omega, conF]
  | succ d ih =>
    intro i L b hd hle hi hs hL
    rw [round i L b hle hi hs hL]
    unfold cnf
    by_cases g : bNx (li ins) (li rows) b ∈ L
    · rw [if_pos g, if_pos g]
    · rw [if_neg g, if_neg g]
      have hbL := hL b (List.mem_of_getElem? hs)
      have hnb := bNx_ok v c0 hb hn hbL
      exact ih (i + 1) _ _ (by simp; omega) (by simp; omega) (by simp; omega) (by rw [hi]; simp) (fun x hx => by
        rcases List.mem_append.1 hx with hx | hx
        · exact hL x hx
        · simp at hx; subst hx; exact hnb)
end
end Go.Proofs.Ytelcbakleaaneaa
end
section
namespace Go.Proofs.Ytelcbakleaaneaa
open Go Go.Proofs.Ytelcbakleaaneaa.VM
set_option linter.unusedVariables false
set_option linter.unusedSimpArgs false
set_option linter.unusedSectionVars false
theorem mem_map_on {α β : Type} {f : α → β} {L : List α} {b : α} (h : ∀ x ∈ L, f x = f b → x = b) : f b ∈ L.map f ↔ b ∈ L := by
  constructor
  · intro hm
    obtain ⟨x, hx, e⟩ := List.mem_map.1 hm
    exact h x hx e ▸ hx
  · exact fun hm => List.mem_map_of_mem hm
theorem pos_map_on {α β : Type} [DecidableEq α] [DecidableEq β] {f : α → β} {b : α} : ∀ {L : List α}, (∀ x ∈ L, f x = f b → x = b) → pos (f b) (L.map f) = pos b L
  | [], _ => rfl
  | y :: L, h => by
    have ih := pos_map_on (L := L) (b := b) (f := f) (fun x hx => h x (by simp [hx]))
    simp only [List.map_cons, pos]
    by_cases g : b = y
    · simp [g]
    · have g2 : f b ≠ f y := fun e => g (h y (by simp) e.symm).symm
      simp [g, g2, ih]
def hI (h : Bool) : Int := if h then 1 else 0
def kB (b : Bd) : List Int := [b.ps, b.st, hI b.h] ++ b.sq
def keyB (b : Bd) : Str := kT (kB b)
def portsV (n : Nat) (q : List Str) : List (List FV) := (List.range' 0 n).map fun i => P (sN i, some q, ())
theorem portsV_snoc (m : Nat) (q : List Str) : portsV m q ++ [[FV.str (sN m), .arr (q.map S)]] = portsV (m + 1) q := by
  simp [portsV, List.range'_concat, P, sl]
theorem portsV_len (m : Nat) (q : List Str) : (portsV m q).length = m := by simp [portsV]
section
variable {nm : Str} {sts : Option (List Str)} {start : Int} {ins outs : Option (List TPort)} {rows : Option (List TRow)}
variable (v : SmM (nm, sts, start, ins, outs, rows, ())) (c0 : checkG nm (li sts) start (li ins) (li outs) (li rows) = 0) (hb : isBandB (li ins) (li outs) = true) {n : Nat} (hn : 1 ≤ n ∧ n ≤ 8)
include v c0 hb hn
theorem vals_le : vals (li ins) ≤ 64 := by
  have h := okM c0
  have hl := h.lens
  unfold vals
  cases hi : li ins with
  | nil => simp
  | cons p l =>
    have := hl p (by rw [hi]; simp)
    simp only; omega
theorem kB_small {b : Bd} (h : BIn (li ins) n (li sts).length b) : ∀ x ∈ kB b, 0 ≤ x ∧ x < 256 := by
  have hv := vals_le v c0 hb hn
  have hs := (okM c0).n1
  have h1 := h.ok.ps
  have h2 := h.ok.st
  intro x hx
  simp only [kB, List.cons_append, List.nil_append, List.mem_cons] at hx
  rcases hx with rfl | rfl | rfl | hx
  · omega
  · omega
  · unfold hI; split <;> omega
  · have := h.ok.sq x hx; omega
theorem keyB_inj {a b : Bd} (ha : BIn (li ins) n (li sts).length a) (hbd : BIn (li ins) n (li sts).length b) (e : keyB a = keyB b) : a = b := by
  have e := kT_inj (kB_small v c0 hb hn ha) (kB_small v c0 hb hn hbd) e
  simp only [kB, List.cons_append, List.nil_append, List.cons.injEq] at e
  obtain ⟨e1, e2, e3, e4⟩ := e
  have e3' : a.h = b.h := by
    unfold hI at e3
    cases h1 : a.h <;> cases h2 : b.h <;> simp [h1, h2] at e3 ⊢
  clear e3
  have k1 := ha.k0
  have k2 := hbd.k0
  cases a; cases b
  simp only at e1 e2 e3' e4 k1 k2
  subst e1 e2 e3' e4 k1 k2; rfl
omit v c0 hb hn in
theorem mcon_L3 {b : Bd} (hl : b.sq.length ≤ 8) (x3 x4 x5 x6 x7 x8 x9 x10 x11 x12 x13 x14 x15 x16 x17 x18 x19 x20 x21 x22 : FV) (r23 r24 r25 r26 r27 r28 : List (List FV)) (es : List (FV × FV)) (r30 r31 : List (List FV)) : ∀ (t : List Int) (m : Nat) (acc : List Int), b.sq.drop m = t → acc.length = 3 + m →
    mach_Confined.L3 (.arr (b.sq.map I)) (.int .i64 (b.sq.length : Int)) (.int .i64 (m : Int)) x3 x4 x5 x6 x7 x8 x9 x10 x11 x12 x13 x14 x15 x16 x17 x18 x19 x20 x21 x22 r23 r24 r25 r26 r27 r28 es r30 r31 (BV acc) =
      mach_Confined.L3 (.arr (b.sq.map I)) (.int .i64 (b.sq.length : Int)) (.int .i64 (b.sq.length : Int)) x3 x4 x5 x6 x7 x8 x9 x10 x11 x12 x13 x14 x15 x16 x17 x18 x19 x20 x21 x22 r23 r24 r25 r26 r27 r28 es r30 r31 (BV (acc ++ t)) := by
  intro t
  induction t with
  | nil =>
    intro m acc hd ha
    have := drop_nil hd
    by_cases g : m = b.sq.length
    · rw [g, List.append_nil]
    · rw [List.append_nil, mach_Confined.L3_eq, mach_Confined.L3_eq]
      simp only [fBin_lss, bindO_s, fCond_b, decide_eq_true_eq, Int.ofNat_lt, this, Nat.lt_irrefl, if_false]
  | cons x t ih =>
    intro m acc hd ha
    obtain ⟨hm, hx, hs⟩ := drop_cons hd
    have w : IntKind.i64.wrap ((m : Int) + 1) = ((m + 1 : Nat) : Int) := wrap64 (by omega) (by omega)
    have ih' := ih (m + 1) (acc ++ [x]) hs (by simp [ha]; omega)
    have hix : fIdxC 1 (.arr (b.sq.map I)) (.int .i64 (m : Int)) = some (I x) := idx_arr (by rw [List.getElem?_map, hx]; rfl) rfl
    rw [mach_Confined.L3_eq]
    simp only [fBin_lss, bindO_s, fCond_b, decide_eq_true_eq, Int.ofNat_lt, hm, if_true, hix, I_zero, fConvInt_int, BV_len, ha, show (3 + m + 1) * 1 ≤ room by unfold room; omega, decide_true, gB_t, fBin_add, w]
    rw [show BV acc ++ [[FV.int .u8 (IntKind.u8.wrap x)]] = BV (acc ++ [x]) by simp [BV]]
    rw [ih']
    simp
theorem mcon_L4 {L : List Bd} {b : Bd} (hLn : L.length ≤ 256) (hL : ∀ x ∈ L, BIn (li ins) n (li sts).length x) (hbn : BIn (li ins) n (li sts).length b) (hmem : b ∉ L) (x6 x7 x8 x9 x10 x11 x12 kv : FV) (r20 r21 r22 r23 po rws : List (List FV)) :
    mach_Confined.L4 (.bool false) (.str nm) (sl S sts) (.int .i64 start) (sl P ins) (sl P outs) (sl RW rows) x6 x7 x8 x9 x10 x11 x12 (.arr (b.sq.map I)) (.int .i64 b.ps) (.int .i64 b.st) (.bool b.h) kv (.str nm) (.int .i64 0) r20 r21 r22 r23 [] po (idxM sK 0 (L.map keyB)) (namesV L.length) (BV (kB b)) rws =
      if L.length = 256 then some (conF nm po none) else mach_Confined.L1 (.str nm) (sl S sts) (.int .i64 start) (sl P ins) (sl P outs) (sl RW rows) x6 x7 x8 x9 x10 x11 x12 (.arr ((bNx (li ins) (li rows) b).sq.map I)) (.int .i64 (bNx (li ins) (li rows) b).ps) (.int .i64 (bNx (li ins) (li rows) b).st) (.bool (bNx (li ins) (li rows) b).h) (.int .i64 (bRun (li ins) (li rows) 1 b).k) (.str nm) (.int .i64 0) r20 r21 r22 r23 [] po (idxM sK 0 ((L ++ [b]).map keyB)) (namesV (L.length + 1)) rws := by
  have hr := (band_one v c0 hb hn hbn.ok (by rw [hbn.k0]; omega) (T := 1) (by omega)).2
  have eB : BF b = [.arr (b.sq.map I), .int .i64 b.ps, .int .i64 b.st, .bool b.h, .int .i64 0] := by unfold BF; rw [hbn.k0]
  rw [eB] at hr
  have hd := dec_len L.length
  have hnk : keyB b ∉ L.map keyB := fun g => hmem ((mem_map_on (fun x hx e => keyB_inj v c0 hb hn (hL x hx) hbn e)).1 g)
  have hput := mPut_idx (key := sK) (ag := false) (sk := [.str]) str_keyEq (keyB b) (L.map keyB) 0 hnk
  rw [Nat.zero_add, List.length_map] at hput
  rw [mach_Confined.L4_eq]
  simp only [fCond_b, Bool.false_eq_true, if_false, namesV_len, fBin_eql, bindO_s, decide_eq_true_eq, bytes_BV]
  by_cases g : L.length = 256
  · rw [if_pos (by omega), if_pos g]; rfl
  · rw [if_neg (by omega), if_neg g]
    rw [show keyOk false [.str] (FV.str (kT (kB b))) = true from rfl, gB_t]
    rw [show mPut false [.str] (idxM sK 0 (L.map keyB)) (.str (kT (kB b))) (.int .i64 (L.length : Int)) = _ from hput]
    simp only [bindO_s, dec_mach (n := L.length) (by omega)]
    rw [fBin_addS (by simp; omega)]
    simp only [bindO_s, show (L.length + 1) * 16 ≤ room by unfold room; omega, decide_true, gB_t]
    rw [hr]
    simp only [bindO_s, fIsTup_tup, List.length_cons, List.length_nil, fTup_zero]
    rw [show (0 + 1 + 1 == 2) = true from rfl, gB_t, show fIsAgg 5 (.agg (BF (bRun (li ins) (li rows) (1 : Int).toNat b))) = true from rfl, gB_t]
    rw [show [113] ++ dec L.length = qN L.length from rfl, namesV_snoc, List.map_append, List.map_cons, List.map_nil]
    rfl
theorem mcon_L1 (x6 x7 x8 x9 x10 x11 x12 : FV) (r20 r21 r22 r23 po : List (List FV)) : ∀ (d : Nat) (L : List Bd) (b : Bd) (kv : FV), 256 - L.length = d → L.length ≤ 256 → (∀ x ∈ L, BIn (li ins) n (li sts).length x) → BIn (li ins) n (li sts).length b →
    mach_Confined.L1 (.str nm) (sl S sts) (.int .i64 start) (sl P ins) (sl P outs) (sl RW rows) x6 x7 x8 x9 x10 x11 x12 (.arr (b.sq.map I)) (.int .i64 b.ps) (.int .i64 b.st) (.bool b.h) kv (.str nm) (.int .i64 0) r20 r21 r22 r23 [] po (idxM sK 0 (L.map keyB)) (namesV L.length) (rowsV L) =
      some (conF nm po (cnf (bNx (li ins) (li rows)) d L b)) := by
  intro d
  have round : ∀ (L : List Bd) (b : Bd) (kv : FV), L.length ≤ 256 → (∀ x ∈ L, BIn (li ins) n (li sts).length x) → BIn (li ins) n (li sts).length b →
      mach_Confined.L1 (.str nm) (sl S sts) (.int .i64 start) (sl P ins) (sl P outs) (sl RW rows) x6 x7 x8 x9 x10 x11 x12 (.arr (b.sq.map I)) (.int .i64 b.ps) (.int .i64 b.st) (.bool b.h) kv (.str nm) (.int .i64 0) r20 r21 r22 r23 [] po (idxM sK 0 (L.map keyB)) (namesV L.length) (rowsV L) =
        if b ∈ L then some (conF nm po (some (L, b))) else if L.length = 256 then some (conF nm po none) else
          mach_Confined.L1 (.str nm) (sl S sts) (.int .i64 start) (sl P ins) (sl P outs) (sl RW rows) x6 x7 x8 x9 x10 x11 x12 (.arr ((bNx (li ins) (li rows) b).sq.map I)) (.int .i64 (bNx (li ins) (li rows) b).ps) (.int .i64 (bNx (li ins) (li rows) b).st) (.bool (bNx (li ins) (li rows) b).h) (.int .i64 (bRun (li ins) (li rows) 1 b).k) (.str nm) (.int .i64 0) r20 r21 r22 r23 [] po (idxM sK 0 ((L ++ [b]).map keyB)) (namesV (L.length + 1)) (rowsV (L ++ [b])) := by
    intro L b kv hle hL hbn
    have hlen := hbn.ok.len
    have hrl := rowsV_len L
    have e1 : mach_Confined.L1 (.str nm) (sl S sts) (.int .i64 start) (sl P ins) (sl P outs) (sl RW rows) x6 x7 x8 x9 x10 x11 x12 (.arr (b.sq.map I)) (.int .i64 b.ps) (.int .i64 b.st) (.bool b.h) kv (.str nm) (.int .i64 0) r20 r21 r22 r23 [] po (idxM sK 0 (L.map keyB)) (namesV L.length) (rowsV L) =
        mach_Confined.L2 (.int .i64 (hI b.h)) (.str nm) (sl S sts) (.int .i64 start) (sl P ins) (sl P outs) (sl RW rows) x6 x7 x8 x9 x10 x11 x12 (.arr (b.sq.map I)) (.int .i64 b.ps) (.int .i64 b.st) (.bool b.h) kv (.str nm) (.int .i64 0) r20 r21 r22 r23 [] po (idxM sK 0 (L.map keyB)) (namesV L.length) (rowsV L) := by
      rw [mach_Confined.L1_eq, fCond_b]
      cases b.h <;> rfl
    have h3 := mcon_L3 (b := b) (by omega) (.str nm) (sl S sts) (.int .i64 start) (sl P ins) (sl P outs) (sl RW rows) x6 x7 x8 x9 x10 x11 x12 (.arr (b.sq.map I)) (.int .i64 b.ps) (.int .i64 b.st) (.bool b.h) kv (.str nm) (.int .i64 0) r20 r21 r22 r23 [] po (idxM sK 0 (L.map keyB)) (namesV L.length) (rowsV L) b.sq 0 [b.ps, b.st, hI b.h] rfl rfl
    have hlook := mLook_idx (key := sK) (ag := false) (sk := [.str]) str_keyEq str_keyOk (keyB b) (L.map keyB)
    have hm := mem_map_on (f := keyB) (L := L) (b := b) (fun x hx e => keyB_inj v c0 hb hn (hL x hx) hbn e)
    have hp := pos_map_on (f := keyB) (L := L) (b := b) (fun x hx e => keyB_inj v c0 hb hn (hL x hx) hbn e)
    have hcl := clone_int (o := some b.sq) (by simp only [li_some]; omega)
    rw [e1, mach_Confined.L2_eq]
    simp only [fConvInt_int, bindO_s, fLen_arr, List.length_map]
    refine Eq.trans h3 ?_
    rw [mach_Confined.L3_eq]
    simp only [fBin_lss, bindO_s, fCond_b, decide_eq_true_eq, Int.ofNat_lt, Nat.lt_irrefl, if_false, bytes_BV]
    rw [show mLook false [.str] (idxM sK 0 (L.map keyB)) (.str (kT ([b.ps, b.st, hI b.h] ++ b.sq))) (.int .i64 0) = _ from hlook]
    simp only [bindO_s, namesV_len, fBin_gtr, fCond_b, decide_eq_true_eq, fUn_not]
    have l5 : ∀ (a : Nat) (t : Bool), mach_Confined.L5 (.int .i64 (a : Int)) (.bool t) (.str nm) (sl S sts) (.int .i64 start) (sl P ins) (sl P outs) (sl RW rows) x6 x7 x8 x9 x10 x11 x12 (.arr (b.sq.map I)) (.int .i64 b.ps) (.int .i64 b.st) (.bool b.h) kv (.str nm) (.int .i64 0) r20 r21 r22 r23 [] po (idxM sK 0 (L.map keyB)) (namesV L.length) (rowsV L) (BV (kB b)) =
        mach_Confined.L4 (.bool t) (.str nm) (sl S sts) (.int .i64 start) (sl P ins) (sl P outs) (sl RW rows) x6 x7 x8 x9 x10 x11 x12 (.arr (b.sq.map I)) (.int .i64 b.ps) (.int .i64 b.st) (.bool b.h) kv (.str nm) (.int .i64 0) r20 r21 r22 r23 [] po (idxM sK 0 (L.map keyB)) (namesV L.length) (BV (kB b)) (rowsV L ++ [[.int .i64 (a : Int), .arr (b.sq.map I)]]) := fun a t => by
      rw [mach_Confined.L5_eq, show slices_Clone_int (.arr (b.sq.map I)) = _ from hcl]
      simp only [bindO_s, arrRows_arr, show ((rowsV L).length + 1) * 32 ≤ room by unfold room; omega, decide_true, gB_t]
      rfl
    by_cases g : b ∈ L
    · have gk := hm.2 g
      have hpos := List.length_pos_of_mem g
      rw [if_pos g, if_pos (by omega)]
      simp only [gk, decide_true, Bool.not_true, Bool.false_eq_true, if_false, if_true, hp]
      refine Eq.trans (l5 _ _) ?_
      rw [mach_Confined.L4_eq]
      simp only [fCond_b, if_true, conF]
    · have gk : keyB b ∉ L.map keyB := fun k => g (hm.1 k)
      rw [if_neg g]
      simp only [gk, decide_false, Bool.not_false, if_true, if_false]
      by_cases hne : L = []
      · have e0 : ¬ ((0 : Int) < (L.length : Int)) := by rw [hne]; simp
        have e9 : rowsV L = rowsV (L ++ [b]) := by rw [hne]; rfl
        rw [if_neg e0, e9]
        exact mcon_L4 v c0 hb hn hle hL hbn g _ _ _ _ _ _ _ _ _ _ _ _ _ _
      · have hpos : 0 < L.length := List.length_pos_iff.2 hne
        rw [if_pos (by omega)]
        refine Eq.trans (l5 _ _) ?_
        rw [rowsV_snoc hne]
        exact mcon_L4 v c0 hb hn hle hL hbn g _ _ _ _ _ _ _ _ _ _ _ _ _ _
  induction d with
  | zero =>
    intro L b kv hd hle hL hbn
    rw [round L b kv hle hL hbn]
    unfold cnf
    by_cases g : b ∈ L
    · rw [if_pos g, if_pos g]
    · rw [if_neg g, if_neg g, if_pos (by omega)]
  | succ d ih =>
    intro L b kv hd hle hL hbn
    rw [round L b kv hle hL hbn]
    unfold cnf
    by_cases g : b ∈ L
    · rw [if_pos g, if_pos g]
    · rw [if_neg g, if_neg g, if_neg (by omega)]
      have ih' := ih (L ++ [b]) (bNx (li ins) (li rows) b) (.int .i64 (bRun (li ins) (li rows) 1 b).k) (by simp; omega) (by simp; omega) (fun x hx => by
        rcases List.mem_append.1 hx with hx | hx
        · exact hL x hx
        · simp at hx; subst hx; exact hbn) (bNx_ok v c0 hb hn hbn)
      rw [List.length_append, List.length_cons, List.length_nil] at ih'
      exact ih'
end
end Go.Proofs.Ytelcbakleaaneaa
end
section
namespace Go.Proofs.Ytelcbakleaaneaa
open Go Go.Proofs.Ytelcbakleaaneaa.VM
set_option linter.unusedVariables false
set_option linter.unusedSimpArgs false
set_option linter.unusedSectionVars false
def zeroC (c : Int) : FV := .tup [.agg [.str [], .nilS, .int .i64 0, .nilS, .nilS, .nilS], .int .i64 c]
section
variable {nm : Str} {sts : Option (List Str)} {start : Int} {ins outs : Option (List TPort)} {rows : Option (List TRow)} {osq : Option (List Int)}
theorem ref_con_L0 {p : TPort} (hp : (li ins)[0]? = some p) (hq : (li p.2.1).length ≤ 64) {sq : List Int} (hn : sq.length ≤ 8) (x1 x2 x3 x5 x6 x7 x8 x9 x10 x11 x12 x13 x15 x16 x17 x18 x19 x20 : FV) (r21 r22 r23 r24 r25 r26 r28 : List (List FV)) : ∀ (d i : Nat), sq.length - i = d → i ≤ sq.length →
    ref02_Confined.L0 (.int .i64 (i : Int)) x1 x2 x3 (sl P ins) x5 x6 x7 x8 x9 x10 x11 x12 x13 (.arr (sq.map I)) x15 x16 x17 x18 x19 x20 r21 r22 r23 r24 r25 r26 (portsV i (li p.2.1)) r28 =
      ref02_Confined.L1 (.int .i64 0) x1 x2 x3 (sl P ins) x5 x6 x7 x8 x9 x10 x11 x12 x13 (.arr (sq.map I)) x15 x16 x17 (.int .i64 0) x19 x20 r21 r22 r23 r24 r26 (portsV sq.length (li p.2.1)) [[.arr (sq.map I), x15, x16, x17, .int .i64 0]] r25 r28 := by
  intro d
  induction d with
  | zero =>
    intro i hd hi
    have : i = sq.length := by omega
    subst this
    rw [ref02_Confined.L0_eq]
    simp only [fLen_arr, List.length_map, fBin_lss, bindO_s, fCond_b, decide_eq_true_eq, Int.ofNat_lt, Nat.lt_irrefl, if_false]
  | succ d ih =>
    intro i hd hi
    have hi' : i < sq.length := by omega
    have w : IntKind.i64.wrap ((i : Int) + 1) = ((i + 1 : Nat) : Int) := wrap64 (by omega) (by omega)
    have hdl := dec_len i
    have hix : fIdxC 2 (sl P ins) (.int .i64 0) = some (P p) := idx_sl (k := 0) hp (P_len _)
    rw [ref02_Confined.L0_eq]
    simp only [fLen_arr, List.length_map, fBin_lss, bindO_s, fCond_b, decide_eq_true_eq, Int.ofNat_lt, hi', if_true, dec_ref (n := i) (by omega)]
    rw [fBin_addS (by simp; omega)]
    simp only [bindO_s, hix, P_one, asRows_sl, rowsSz_map (fun s => S_len s), gB_t, List.length_map, portsV_len, show (0 + (li p.2.1).length) * 16 ≤ room by unfold room; omega, show (i + 1) * 40 ≤ room by unfold room; omega, decide_true, fBin_add, w, List.nil_append]
    rw [show [115] ++ dec i = sN i from rfl, portsV_snoc]
    exact ih (i + 1) (by omega) (by omega)
theorem mach_con_L0 {p : TPort} (hp : (li ins)[0]? = some p) (hq : (li p.2.1).length ≤ 64) {n : Nat} (hn : n ≤ 8) (x2 x3 x4 x6 x7 x8 x9 x10 x11 x12 x13 x14 x15 x16 x17 x18 x19 x20 x21 : FV) (r22 r23 r24 r25 r26 r27 r29 : List (List FV)) : ∀ (d i : Nat), n - i = d → i ≤ n →
    mach_Confined.L0 (.int .i64 (n : Int)) (.int .i64 (i : Int)) x2 x3 x4 (sl P ins) x6 x7 x8 x9 x10 x11 x12 x13 x14 x15 x16 x17 x18 x19 x20 x21 r22 r23 r24 r25 r26 r27 (portsV i (li p.2.1)) r29 =
      mach_Confined.L1 x2 x3 x4 (sl P ins) x6 x7 x8 x9 x10 x11 x12 x13 x14 x15 x16 x17 x18 x19 x20 x21 r22 r23 r24 r25 r27 (portsV n (li p.2.1)) [] r26 r29 := by
  intro d
  induction d with
  | zero =>
    intro i hd hi
    have : i = n := by omega
    subst this
    rw [mach_Confined.L0_eq]
    simp only [fBin_lss, bindO_s, fCond_b, decide_eq_true_eq, Int.ofNat_lt, Nat.lt_irrefl, if_false]
  | succ d ih =>
    intro i hd hi
    have hi' : i < n := by omega
    have w : IntKind.i64.wrap ((i : Int) + 1) = ((i + 1 : Nat) : Int) := wrap64 (by omega) (by omega)
    have hdl := dec_len i
    have hix : fIdxC 2 (sl P ins) (.int .i64 0) = some (P p) := idx_sl (k := 0) hp (P_len _)
    have hc : slices_Clone_string (sl S p.2.1) = some (.arr ((li p.2.1).map S)) := by
      rw [slices_Clone_string.eq]
      simp only [asRows_sl, bindO_s, rowsSz_map (fun s => S_len s), gB_t, List.length_map, show (0 + (li p.2.1).length) * 16 ≤ room by unfold room; omega, decide_true, List.nil_append, onFV_sl]
    rw [mach_Confined.L0_eq]
    simp only [fBin_lss, bindO_s, fCond_b, decide_eq_true_eq, Int.ofNat_lt, hi', if_true, hix, P_one, dec_mach (n := i) (by omega)]
    rw [fBin_addS (by simp; omega)]
    simp only [bindO_s, hc, arrRows_arr, portsV_len, show (i + 1) * 40 ≤ room by unfold room; omega, decide_true, gB_t, fBin_add, w]
    rw [show [115] ++ dec i = sN i from rfl, portsV_snoc]
    exact ih (i + 1) (by omega) (by omega)
/-- Both programs' answers. -/
theorem con_ok (v : SmM (nm, sts, start, ins, outs, rows, ())) (hl : (li osq).length < 1000000000000000) (ps st : Int) (hh : Bool) (k : Int) : ∃ y,
    ref02_Confined (.agg [.str nm, sl S sts, .int .i64 start, sl P ins, sl P outs, sl RW rows]) (.agg [sl I osq, .int .i64 ps, .int .i64 st, .bool hh, .int .i64 k]) = some y ∧
    mach_Confined (.agg [.str nm, sl S sts, .int .i64 start, sl P ins, sl P outs, sl RW rows]) (.agg [sl I osq, .int .i64 ps, .int .i64 st, .bool hh, .int .i64 k]) = some y ∧
    ((∃ c, c ≠ 0 ∧ y = zeroC c) ∨ (checkG nm (li sts) start (li ins) (li outs) (li rows) = 0 ∧ bandE (checkG nm (li sts) start (li ins) (li outs) (li rows)) (li ins) (li outs) (li sts).length (li osq) ps st k 0 = 0 ∧ (li osq).length ≤ 8 ∧
      ∃ p, (li ins)[0]? = some p ∧ y = conF nm (portsV (li osq).length (li p.2.1)) (cnf (bNx (li ins) (li rows)) 256 [] ⟨li osq, ps, st, hh, 0⟩))) := by
  have r1 := ref_band_ok (osq := osq) v hl ps st hh k 0
  have r2 := mach_band_ok (osq := osq) v hl ps st hh k 0
  unfold bandF at r1 r2
  rw [ref02_Confined.eq, mach_Confined.eq]
  simp only [fIsAgg_agg, List.length_cons, List.length_nil, fCell_zero, fCell_succ, r1, r2, bindO_s]
  rw [show (0 + 1 + 1 + 1 + 1 + 1 + 1 == 6) = true from rfl, show (0 + 1 + 1 + 1 + 1 + 1 == 5) = true from rfl]
  simp only [gB_t]
  by_cases g : bandE (checkG nm (li sts) start (li ins) (li outs) (li rows)) (li ins) (li outs) (li sts).length (li osq) ps st k 0 = 0
  · have bo := bandOk g
    have c0 := bo.cz
    have h := okM c0
    have hb := bo.bb
    rw [if_pos g]
    simp only [fIsTup_tup, List.length_cons, List.length_nil, fTup_zero, fTup_succ, fBin_neq, ne_eq, not_true_eq_false, decide_false, bindO_s, fCond_b, Bool.false_eq_true, if_false, BF, bRun, show (0 : Int).toNat = 0 from rfl, fIsAgg_agg, fCell_zero, fCell_succ, fLen_arr, List.length_map, fLen_sl, fBin_gtr, decide_eq_true_eq]
    rw [show (0 + 1 + 1 == 2) = true from rfl, show (0 + 1 + 1 + 1 + 1 + 1 == 5) = true from rfl]
    simp only [gB_t]
    by_cases g8 : (8 : Int) < ((li osq).length : Int)
    · exact ⟨zeroC 26, by rw [if_pos g8]; rfl, by rw [if_pos g8]; rfl, .inl ⟨26, by decide, rfl⟩⟩
    · rw [if_neg g8, if_neg g8]
      have hlen := bo.len
      obtain ⟨p, hp⟩ : ∃ p, (li ins)[0]? = some p := by
        have : 0 < (li ins).length := by
          cases hi : (li ins) with
          | nil => rw [hi] at hb; simp [isBandB] at hb
          | cons p l => simp
        exact ⟨_, List.getElem?_eq_getElem this⟩
      have hq := h.lens p (List.mem_of_getElem? hp)
      have hin : BIn (li ins) (li osq).length (li sts).length ⟨li osq, ps, st, hh, 0⟩ := ⟨⟨rfl, bo.sqv, bo.psv, bo.stv⟩, rfl⟩
      have hn : 1 ≤ (li osq).length ∧ (li osq).length ≤ 8 := ⟨hlen.1, by omega⟩
      refine ⟨conF nm (portsV (li osq).length (li p.2.1)) (cnf (bNx (li ins) (li rows)) 256 [] ⟨li osq, ps, st, hh, 0⟩), ?_, ?_, .inr ⟨c0, g, hn.2, p, hp, rfl⟩⟩
      · have e0 := ref_con_L0 hp hq.2 hn.2 (.str nm) (sl S sts) (.int .i64 start) (sl P outs) (sl RW rows) (sl I osq) (.int .i64 ps) (.int .i64 st) (.bool hh) (.int .i64 k) (.str []) (.int .i64 0) (.int .i64 ps) (.int .i64 st) (.bool hh) (.int .i64 k) (.str nm) (.int .i64 0) [] [] [] [] [] [] [] _ 0 rfl (Nat.zero_le _)
        have e1 := con_L1 v c0 hb hn (sl I osq) (.int .i64 ps) (.int .i64 st) (.bool hh) (.int .i64 k) (.str []) (.int .i64 0) (.arr ((li osq).map I)) (.int .i64 ps) (.int .i64 st) (.bool hh) (.int .i64 0) [] [] [] [] (portsV (li osq).length (li p.2.1)) 255 0 [⟨li osq, ps, st, hh, 0⟩] ⟨li osq, ps, st, hh, 0⟩ rfl (by simp) rfl rfl (fun x hx => by simp at hx; subst hx; exact hin)
        refine Eq.trans e0 (Eq.trans e1 ?_)
        rw [show cnf (bNx (li ins) (li rows)) 256 [] ⟨li osq, ps, st, hh, 0⟩ = cnf (bNx (li ins) (li rows)) 255 [⟨li osq, ps, st, hh, 0⟩] (bNx (li ins) (li rows) ⟨li osq, ps, st, hh, 0⟩) by rw [cnf, if_neg (by simp)]; rfl]
      · have e0 := mach_con_L0 hp hq.2 hn.2 (.str nm) (sl S sts) (.int .i64 start) (sl P outs) (sl RW rows) (sl I osq) (.int .i64 ps) (.int .i64 st) (.bool hh) (.int .i64 k) (.str []) (.int .i64 0) (.arr ((li osq).map I)) (.int .i64 ps) (.int .i64 st) (.bool hh) (.int .i64 k) (.str nm) (.int .i64 0) [] [] [] [] [] [] [] _ 0 rfl (Nat.zero_le _)
        have e1 := mcon_L1 v c0 hb hn (sl I osq) (.int .i64 ps) (.int .i64 st) (.bool hh) (.int .i64 k) (.str []) (.int .i64 0) [] [] [] [] (portsV (li osq).length (li p.2.1)) 256 [] ⟨li osq, ps, st, hh, 0⟩ (.int .i64 k) rfl (by simp) (by simp) hin
        exact Eq.trans e0 e1
  · rw [if_neg g]
    refine ⟨zeroC (bandE (checkG nm (li sts) start (li ins) (li outs) (li rows)) (li ins) (li outs) (li sts).length (li osq) ps st k 0), ?_, ?_, .inl ⟨_, g, rfl⟩⟩
    all_goals
      simp only [noBand, fIsTup_tup, List.length_cons, List.length_nil, fTup_zero, fTup_succ, fBin_neq, ne_eq, g, not_false_eq_true, decide_true, bindO_s, fCond_b, if_true, fIsAgg_agg]
      rw [show (0 + 1 + 1 == 2) = true from rfl, show (0 + 1 + 1 + 1 + 1 + 1 == 5) = true from rfl, gB_t, gB_t]
      rfl
end
end Go.Proofs.Ytelcbakleaaneaa
end
section
namespace Go.Proofs.Ytelcbakleaaneaa
open Go Go.Proofs.Ytelcbakleaaneaa.VM
set_option linter.unusedVariables false
set_option linter.unusedSimpArgs false
set_option linter.unusedSectionVars false
/-! ### The course -/
def itr (nx : Bd → Bd) (b : Bd) : Nat → Bd
  | 0 => b
  | t + 1 => nx (itr nx b t)
theorem cnf_spec {nx : Bd → Bd} {b0 : Bd} : ∀ (d : Nat) (L : List Bd) (b : Bd) (L' : List Bd) (b' : Bd), (∀ t x, L[t]? = some x → x = itr nx b0 t) → b = itr nx b0 L.length → cnf nx d L b = some (L', b') →
    (∀ t x, L'[t]? = some x → x = itr nx b0 t) ∧ b' = itr nx b0 L'.length ∧ b' ∈ L' ∧ L'.length ≤ L.length + d
  | 0, L, b, L', b', hL, hb, h => by
    unfold cnf at h
    by_cases g : b ∈ L
    · rw [if_pos g] at h; cases h; exact ⟨hL, hb, g, Nat.le_refl _⟩
    · rw [if_neg g] at h; cases h
  | d + 1, L, b, L', b', hL, hb, h => by
    unfold cnf at h
    by_cases g : b ∈ L
    · rw [if_pos g] at h; cases h; exact ⟨hL, hb, g, by omega⟩
    · rw [if_neg g] at h
      have := cnf_spec d (L ++ [b]) (nx b) L' b' (fun t x hx => by
        by_cases gt : t < L.length
        · rw [List.getElem?_append_left gt] at hx; exact hL t x hx
        · have h1 := (List.getElem?_eq_some_iff.1 hx).1
          have e : t = L.length := by simp at h1; omega
          subst e
          simp at hx
          exact hx.symm.trans hb) (by rw [List.length_append, hb]; rfl) h
      refine ⟨this.1, this.2.1, this.2.2.1, by have := this.2.2.2; simp at this; omega⟩
theorem nz_run1 (ins : List TPort) (rows : List TRow) (x : Bd) : nz (bRun ins rows 1 (nz x)) = nz (bRun ins rows 1 x) := by
  by_cases g : x.h = true
  · rw [bRun_halt ins rows (b := nz x) g, bRun_halt ins rows (b := x) g]; rfl
  · simp [bRun, nz, bStep, g]
theorem itr_run (ins : List TPort) (rows : List TRow) (b : Bd) : ∀ t, itr (bNx ins rows) (nz b) t = nz (bRun ins rows t b)
  | 0 => rfl
  | t + 1 => by
    rw [itr, itr_run ins rows b t, bNx, nz_run1, ← bRun_add]
/-! ### The machine that is answered -/
def csts (m : Nat) : List Str := (List.range' 0 m).map qN
def couts (i n : Nat) (q : List Str) : List TPort := (List.range' i n).map fun i => (sN i, some q, ())
def crows (L : List Bd) (b : Bd) : List TRow := rwsF 1 L.tail ++ [((pos b L : Int), some b.sq, ())]
theorem conF_some (nm : Str) (n : Nat) (q : List Str) (L : List Bd) (b : Bd) : conF nm (portsV n q) (some (L, b)) = .tup [.agg [.str nm, sl S (some (csts L.length)), .int .i64 0, sl P (some []), sl P (some (couts 0 n q)), sl RW (some (crows L b))], .int .i64 0] := by
  simp [conF, namesV, portsV, rowsV, csts, couts, crows, sl, RW, List.map_map, Function.comp_def]
theorem rwsF_get : ∀ (l : List Bd) (i t : Nat), (rwsF i l)[t]? = l[t]?.map fun b => (((i + t : Nat) : Int), some b.sq, ())
  | [], i, t => by simp [rwsF]
  | x :: l, i, 0 => by simp [rwsF]
  | x :: l, i, t + 1 => by
    simp only [rwsF, List.getElem?_cons_succ, rwsF_get l (i + 1) t]
    rw [show i + 1 + t = i + (t + 1) by omega]
def nxt (L : List Bd) (b : Bd) (s : Nat) : Nat := if s + 1 < L.length then s + 1 else pos b L
section
variable {nx : Bd → Bd} {b0 b : Bd} {L : List Bd} (hL : ∀ t x, L[t]? = some x → x = itr nx b0 t) (hb : b = itr nx b0 L.length) (hm : b ∈ L)
include hL hb hm
theorem crow_at {s : Nat} (hs : s < L.length) : (crows L b)[s]? = some (((nxt L b s : Nat) : Int), some (itr nx b0 (s + 1)).sq, ()) := by
  unfold crows nxt
  have hlen : (rwsF 1 L.tail).length = L.length - 1 := by simp [rwsF_len]
  by_cases g : s + 1 < L.length
  · have hx : L[s + 1]? = some L[s + 1] := List.getElem?_eq_getElem g
    rw [List.getElem?_append_left (by omega), rwsF_get, List.getElem?_tail, hx, if_pos g, Option.map_some, hL _ _ hx, Nat.add_comm 1 s]
  · have e : s = (rwsF 1 L.tail).length := by omega
    have e2 : s + 1 = L.length := by omega
    rw [if_neg g, List.getElem?_append_right (by omega), e2, ← hb]
    simp [← e]
theorem nxt_at {s : Nat} (hs : s < L.length) : nxt L b s < L.length ∧ L[nxt L b s]? = some (itr nx b0 (s + 1)) := by
  unfold nxt
  by_cases g : s + 1 < L.length
  · have hx : L[s + 1]? = some L[s + 1] := List.getElem?_eq_getElem g
    rw [if_pos g, hx, hL _ _ hx]
    exact ⟨g, rfl⟩
  · have e2 : s + 1 = L.length := by omega
    rw [if_neg g, pos_get hm, e2, ← hb]
    exact ⟨pos_lt hm, rfl⟩
theorem con_runM : ∀ (N st t : Nat), L[st]? = some (itr nx b0 t) → (runM [] (crows L b) st (List.replicate N none)).1 = (List.range' t N).map fun u => (itr nx b0 (u + 1)).sq
  | 0, _, _, _ => rfl
  | N + 1, st, t, h => by
    have hst := (List.getElem?_eq_some_iff.1 h).1
    have e : itr nx b0 st = itr nx b0 t := (hL _ _ h).symm
    have hr : rowAt [] (crows L b) st (li (none : Option (List Int))) = (((nxt L b st : Nat) : Int), some (itr nx b0 (st + 1)).sq, ()) := by
      have hi : st * prodL [] + numGo [] (li (none : Option (List Int))) 0 = st := by simp [prodL, numGo]
      unfold rowAt
      rw [hi, List.getD_eq_getElem?_getD, crow_at hL hb hm hst]; rfl
    obtain ⟨_, h2⟩ := nxt_at hL hb hm hst
    have e3 : itr nx b0 (st + 1) = itr nx b0 (t + 1) := by simp only [itr, e]
    have ih := con_runM N (nxt L b st) (t + 1) (by rw [h2, e3])
    simp only [List.replicate_succ, runM, hr, List.range'_succ, List.map_cons, li_some, Int.toNat_natCast, ih, e3]
end
/-! ### It passes -/
theorem qN_all : (List.range 256).all (fun t => isNm (qN t)) = true := by kernel_rfl
theorem sN_all : (List.range 8).all (fun t => isNm (sN t)) = true := by kernel_rfl
def undec (s : Str) : Nat := s.foldl (fun a b => a * 10 + (b.toNat - 48)) 0
theorem undec_all : (List.range 256).all (fun t => Nat.beq (undec (dec t)) t) = true := by kernel_rfl
theorem qN_ok {t : Nat} (h : t < 256) : isNm (qN t) = true := List.all_eq_true.1 qN_all t (List.mem_range.2 h)
theorem sN_ok {t : Nat} (h : t < 8) : isNm (sN t) = true := List.all_eq_true.1 sN_all t (List.mem_range.2 h)
theorem dec_inj {a b : Nat} (ha : a < 256) (hb : b < 256) (h : dec a = dec b) : a = b := by
  have h1 := Nat.eq_of_beq_eq_true (List.all_eq_true.1 undec_all a (List.mem_range.2 ha))
  have h2 := Nat.eq_of_beq_eq_true (List.all_eq_true.1 undec_all b (List.mem_range.2 hb))
  rw [← h1, ← h2, h]
theorem portsGo_of : ∀ (l : List TPort) (m : List Str), (∀ p ∈ l, isNm p.1 = true ∧ p.1 ∉ m ∧ 1 ≤ (li p.2.1).length ∧ (li p.2.1).length ≤ 64 ∧ namesGo [] (li p.2.1) = 0) → (l.map Prod.fst).Nodup → portsGo m l = 0
  | [], m, _, _ => rfl
  | p :: l, m, h, hn => by
    obtain ⟨h1, h2, h3, h4, h5⟩ := h p (by simp)
    rw [List.map_cons, List.nodup_cons] at hn
    unfold portsGo
    rw [if_neg (by simp [h1]), if_neg h2, if_neg (by omega), if_neg (by omega), if_neg (by simp [h5])]
    refine portsGo_of l _ (fun q hq => ?_) hn.2
    obtain ⟨k1, k2, k3, k4, k5⟩ := h q (by simp [hq])
    refine ⟨k1, fun g => ?_, k3, k4, k5⟩
    rcases List.mem_append.1 g with g | g
    · exact k2 g
    · simp at g; exact hn.1 (g ▸ List.mem_map_of_mem hq)
theorem fitGo_couts {q : List Str} : ∀ (n i : Nat) (vs : List Int), (∀ v ∈ vs, 0 ≤ v ∧ v < (q.length : Int)) → fitGo (couts i n q) vs = true
  | 0, i, vs, _ => by simp [couts, fitGo]
  | n + 1, i, [], _ => by simp [couts, List.range'_succ, fitGo]
  | n + 1, i, v :: vs, h => by
    have ih := fitGo_couts n (i + 1) vs (fun x hx => h x (by simp [hx]))
    have hv := h v (by simp)
    simp only [couts, List.range'_succ, List.map_cons, fitGo, Bool.and_eq_true, decide_eq_true_eq] at ih ⊢
    exact ⟨⟨hv.1, hv.2⟩, ih⟩
theorem check_parts {nm : Str} {sts : List Str} {start : Int} {ins outs : List TPort} {rows : List TRow} (c0 : checkG nm sts start ins outs rows = 0) : ¬ isNm nm = false ∧ portsGo [] (ins ++ outs) = 0 := by
  unfold checkG at c0
  by_cases g1 : isNm nm = false
  · rw [if_pos g1] at c0; omega
  rw [if_neg g1] at c0
  by_cases g2 : (sts.length : Int) = 0
  · rw [if_pos g2] at c0; omega
  rw [if_neg g2] at c0
  by_cases g3 : 256 < (sts.length : Int)
  · rw [if_pos g3] at c0; omega
  rw [if_neg g3] at c0
  by_cases g4 : namesGo [] sts ≠ 0
  · rw [if_pos g4] at c0; exact absurd c0 g4
  rw [if_neg g4] at c0
  by_cases g5 : 8 < (ins.length : Int)
  · rw [if_pos g5] at c0; omega
  rw [if_neg g5] at c0
  by_cases g6 : 8 < (outs.length : Int)
  · rw [if_pos g6] at c0; omega
  rw [if_neg g6] at c0
  by_cases g7 : portsGo [] (ins ++ outs) ≠ 0
  · rw [if_pos g7] at c0; exact absurd c0 g7
  exact ⟨g1, Decidable.not_not.1 g7⟩
theorem ports_names {ins : List TPort} {p : TPort} (hp : ins[0]? = some p) {outs : List TPort} (h : portsGo [] (ins ++ outs) = 0) : namesGo [] (li p.2.1) = 0 := by
  cases ins with
  | nil => simp at hp
  | cons x ins =>
    simp at hp
    subst hp
    simp only [List.cons_append, portsGo] at h
    repeat' split at h
    all_goals first | omega | (rename_i g _; exact Decidable.not_not.1 g) | skip
    all_goals first | exact absurd h (by assumption) | (apply Decidable.not_not.1; assumption)
theorem con_check {nm : Str} {nx : Bd → Bd} {b0 b : Bd} {L : List Bd} (hL : ∀ t x, L[t]? = some x → x = itr nx b0 t) (hb : b = itr nx b0 L.length) (hm : b ∈ L) (hle : L.length ≤ 256) {n : Nat} (hn : n ≤ 8) {q : List Str} (hq : 1 ≤ q.length ∧ q.length ≤ 64) (hqn : namesGo [] q = 0) (hnm : ¬ isNm nm = false)
    (hsq : ∀ t, (itr nx b0 t).sq.length = n ∧ ∀ v ∈ (itr nx b0 t).sq, 0 ≤ v ∧ v < (q.length : Int)) : checkG nm (csts L.length) 0 [] (couts 0 n q) (crows L b) = 0 := by
  have hpos := List.length_pos_of_mem hm
  have hcl : (csts L.length).length = L.length := by simp [csts]
  have hol : (couts 0 n q).length = n := by simp [couts]
  have hrl : (crows L b).length = L.length := by simp [crows, rwsF_len]; omega
  have names : namesGo [] (csts L.length) = 0 := by
    refine (names_iff _ _).2 ⟨fun s hs => ⟨?_, by simp⟩, nodup_on (List.nodup_range') fun a ha c hc e => ?_⟩
    · obtain ⟨t, ht, rfl⟩ := List.mem_map.1 hs
      have := List.mem_range'.1 ht
      exact qN_ok (by omega)
    · have h1 := List.mem_range'.1 ha
      have h2 := List.mem_range'.1 hc
      simp only [qN, List.cons.injEq, true_and] at e
      exact dec_inj (by omega) (by omega) e
  have ports : portsGo [] ([] ++ couts 0 n q) = 0 := by
    rw [List.nil_append]
    refine portsGo_of _ _ (fun p hp => ?_) ?_
    · obtain ⟨t, ht, rfl⟩ := List.mem_map.1 hp
      have := List.mem_range'.1 ht
      exact ⟨sN_ok (by omega), by simp, hq.1, hq.2, hqn⟩
    · unfold couts
      rw [List.map_map]
      refine nodup_on (List.nodup_range') fun a ha c hc e => ?_
      have h1 := List.mem_range'.1 ha
      have h2 := List.mem_range'.1 hc
      simp only [Function.comp, sN, List.cons.injEq, true_and] at e
      exact dec_inj (by omega) (by omega) e
  have rws : rowsOk L.length (couts 0 n q) (crows L b) = true := by
    refine List.all_eq_true.2 fun r hr => ?_
    obtain ⟨s, hs⟩ := List.getElem?_of_mem hr
    have hsl := (List.getElem?_eq_some_iff.1 hs).1
    rw [hrl] at hsl
    rw [crow_at hL hb hm hsl] at hs
    obtain ⟨h1, _⟩ := nxt_at hL hb hm hsl
    obtain ⟨h2, h3⟩ := hsq (s + 1)
    rw [← Option.some.inj hs]
    show (decide (0 ≤ ((nxt L b s : Nat) : Int)) && decide (((nxt L b s : Nat) : Int) < ((L.length : Nat) : Int)) && fitP (couts 0 n q) (itr nx b0 (s + 1)).sq) = true
    simp only [fitP, hol, h2, fitGo_couts n 0 _ h3, decide_true, Bool.and_self, Bool.and_true, Bool.and_eq_true, decide_eq_true_eq]
    omega
  unfold checkG
  rw [if_neg hnm, hcl, if_neg (by omega), if_neg (by omega), if_neg (by simp [names]), hol, if_neg (by simp), if_neg (by omega), if_neg (by simp only [ne_eq, Decidable.not_not]; exact ports), if_neg (by omega), if_neg (by omega), if_neg (by simp [prodL]; omega), hrl, if_neg (by simp [prodL]), if_pos rws]
end Go.Proofs.Ytelcbakleaaneaa
end
section
namespace Go.Proofs.Ytelcbakleaaneaa
open Go Go.Proofs.Ytelcbakleaaneaa.VM
set_option linter.unusedVariables false
set_option linter.unusedSimpArgs false
set_option linter.unusedSectionVars false
section
variable {nm : Str} {sts : Option (List Str)} {start : Int} {ins outs : Option (List TPort)} {rows : Option (List TRow)} {osq : Option (List Int)}
theorem law_con_L2 {N : Nat} (hN : N ≤ 40) (x2 x3 x4 x5 x6 x7 x8 x9 x10 x11 x12 x13 x14 x15 x16 x17 x18 x19 x20 x21 x22 x23 x24 : FV) {xs : List FV} (hx : mach_Run (.agg [x19, x20, x21, x22, x23, x24]) (.arr (List.replicate N [.nilS])) = some (.tup [.arr (xs.map fun x => [x]), x2, .int .i64 0])) (hxs : xs.length = N) (y2 : FV) :
    ∀ (d i : Nat), N - i = d → i ≤ N → law02_MachConfined.L2 (.int .i64 (N : Int)) (.int .i64 (i : Int)) y2 x3 x4 x5 x6 x7 x8 x9 x10 x11 x12 x13 x14 x15 x16 x17 x18 x19 x20 x21 x22 x23 x24 (List.replicate i [.nilS]) =
      law02_MachConfined.L4 (.int .i64 (N : Int)) (.arr (xs.map fun x => [x])) (.int .i64 0) y2 x3 x4 x5 x6 x7 x8 x9 x10 x11 x12 x13 x14 x15 x16 x17 x18 x19 x20 x21 x22 x23 x24 (List.replicate N [.nilS]) := by
  intro d
  induction d with
  | zero =>
    intro i hd hi
    have : i = N := by omega
    subst this
    rw [law02_MachConfined.L2_eq]
    simp only [fBin_lss, bindO_s, fCond_b, decide_eq_true_eq, Int.ofNat_lt, Nat.lt_irrefl, if_false, hx, fIsTup_tup, List.length_cons, List.length_nil, fTup_zero, fTup_succ, fBin_neq, ne_eq, not_true_eq_false, decide_false, Bool.false_eq_true, fLen_arr, List.length_map, hxs]
    rw [show (0 + 1 + 1 + 1 == 3) = true from rfl, gB_t, law02_MachConfined.L3_eq]
  | succ d ih =>
    intro i hd hi
    have hi' : i < N := by omega
    have w : IntKind.i64.wrap ((i : Int) + 1) = ((i + 1 : Nat) : Int) := wrap64 (by omega) (by omega)
    have ih' := ih (i + 1) (by omega) (by omega)
    rw [List.replicate_succ'] at ih'
    rw [law02_MachConfined.L2_eq]
    simp only [fBin_lss, bindO_s, fCond_b, decide_eq_true_eq, Int.ofNat_lt, hi', if_true, List.length_replicate, show (i + 1) * 24 ≤ room by unfold room; omega, decide_true, gB_t, fBin_add, w]
    exact ih'
theorem law_con_L4 (v : SmM (nm, sts, start, ins, outs, rows, ())) (hl : (li osq).length < 1000000000000000) {ps st : Int} {hh : Bool} {k : Int} (g : bandE (checkG nm (li sts) start (li ins) (li outs) (li rows)) (li ins) (li outs) (li sts).length (li osq) ps st k 0 = 0) {N : Nat} (hN : N ≤ 40) (x14 x15 x16 x17 x18 x19 x20 x21 x22 x23 x24 x25 : FV) (r26 : List (List FV)) :
    ∀ (d i : Nat), N - i = d → i ≤ N →
      law02_MachConfined.L4 (.int .i64 (N : Int)) (.arr (((List.range' 0 N).map fun u => (itr (bNx (li ins) (li rows)) ⟨li osq, ps, st, hh, 0⟩ (u + 1)).sq).map LL)) (.int .i64 (i : Int)) (.str nm) (sl S sts) (.int .i64 start) (sl P ins) (sl P outs) (sl RW rows) (sl I osq) (.int .i64 ps) (.int .i64 st) (.bool hh) (.int .i64 k) x14 x15 x16 x17 x18 x19 x20 x21 x22 x23 x24 x25 r26 = some (.bool true) := by
  intro d
  have bo := bandOk g
  have hok : BOk (li ins) (li osq).length (li sts).length ⟨li osq, ps, st, hh, k⟩ := ⟨rfl, bo.sqv, bo.psv, bo.stv⟩
  induction d with
  | zero =>
    intro i hd hi
    rw [law02_MachConfined.L4_eq]
    simp only [fBin_lss, bindO_s, fCond_b, decide_eq_true_eq, Int.ofNat_lt, show ¬ i < N by omega, if_false]
  | succ d ih =>
    intro i hd hi
    have hi' : i < N := by omega
    have w : IntKind.i64.wrap ((i : Int) + 1) = ((i + 1 : Nat) : Int) := wrap64 (by omega) (by omega)
    have e : bandE (checkG nm (li sts) start (li ins) (li outs) (li rows)) (li ins) (li outs) (li sts).length (li osq) ps st k ((i + 1 : Nat) : Int) = 0 := bandE_of ⟨bo.cz, bo.bb, bo.len, bo.sqv, bo.psv, bo.stv, bo.kv, by omega⟩
    have r2 := mach_band_ok (osq := osq) v hl ps st hh k ((i + 1 : Nat) : Int)
    unfold bandF at r2
    rw [if_pos e, Int.toNat_natCast] at r2
    have hsq : (itr (bNx (li ins) (li rows)) ⟨li osq, ps, st, hh, 0⟩ (i + 1)).sq = (bRun (li ins) (li rows) (i + 1) ⟨li osq, ps, st, hh, k⟩).sq := by
      have := itr_run (li ins) (li rows) ⟨li osq, ps, st, hh, k⟩ (i + 1)
      rw [show (⟨li osq, ps, st, hh, 0⟩ : Bd) = nz ⟨li osq, ps, st, hh, k⟩ from rfl, this]; rfl
    have hlen := (bRun_ok (okM bo.cz) bo.bb (i + 1) _ hok).len
    have hix : fIdxC 1 (.arr (((List.range' 0 N).map fun u => (itr (bNx (li ins) (li rows)) ⟨li osq, ps, st, hh, 0⟩ (u + 1)).sq).map LL)) (.int .i64 (i : Int)) = some (LL (bRun (li ins) (li rows) (i + 1) ⟨li osq, ps, st, hh, k⟩).sq) := by
      refine idx_arr ?_ rfl
      rw [List.getElem?_map, List.getElem?_map, List.getElem?_range' hi', Option.map_some, Option.map_some, Nat.zero_add, Nat.one_mul, hsq]
    have hsame := SameInts_sl (o := some (bRun (li ins) (li rows) (i + 1) ⟨li osq, ps, st, hh, k⟩).sq) (by simp only [li_some]; omega)
    rw [law02_MachConfined.L4_eq]
    simp only [fBin_lss, bindO_s, fCond_b, decide_eq_true_eq, Int.ofNat_lt, hi', if_true, fBin_add, w, r2, fIsTup_tup, List.length_cons, List.length_nil, fTup_zero, fTup_succ, fBin_neq, ne_eq, not_true_eq_false, decide_false, Bool.false_eq_true, if_false, hix, LL_zero]
    rw [show (0 + 1 + 1 == 2) = true from rfl, gB_t, show fIsAgg 5 (.agg (BF (bRun (li ins) (li rows) (i + 1) ⟨li osq, ps, st, hh, k⟩))) = true from rfl, gB_t]
    rw [show ref02_SameInts (fCell (.agg (BF (bRun (li ins) (li rows) (i + 1) ⟨li osq, ps, st, hh, k⟩))) 0) (.arr ((bRun (li ins) (li rows) (i + 1) ⟨li osq, ps, st, hh, k⟩).sq.map I)) = some (.bool true) from hsame]
    simp only [bindO_s, fUn_not, Bool.not_true, fCond_b, Bool.false_eq_true, if_false]
    exact ih (i + 1) (by omega) (by omega)
theorem con_law (v : SmM (nm, sts, start, ins, outs, rows, ())) (hl : (li osq).length < 1000000000000000) (ps st : Int) (hh : Bool) (k n : Int) :
    law02_MachConfined (.agg [.str nm, sl S sts, .int .i64 start, sl P ins, sl P outs, sl RW rows]) (.agg [sl I osq, .int .i64 ps, .int .i64 st, .bool hh, .int .i64 k]) (.int .i64 n) = some (.bool true) := by
  obtain ⟨y, h1, h2, h3⟩ := con_ok v hl ps st hh k
  have zself := sameMachine_self (nm := []) (sts := none) (start := 0) (ins := none) (outs := none) (rows := none) ⟨by simp, ⟨by simp [li], by simp [li]⟩, ⟨by simp [li], by simp [li]⟩, ⟨by simp [li], by simp [li]⟩, ⟨by simp [li], by simp [li]⟩⟩
  have bad : ∀ c : Int, c ≠ 0 → y = zeroC c → law02_MachConfined (.agg [.str nm, sl S sts, .int .i64 start, sl P ins, sl P outs, sl RW rows]) (.agg [sl I osq, .int .i64 ps, .int .i64 st, .bool hh, .int .i64 k]) (.int .i64 n) = some (.bool true) := by
    rintro c hc rfl
    rw [law02_MachConfined.eq]
    simp only [fIsAgg_agg, List.length_cons, List.length_nil, fCell_zero, fCell_succ, h1, h2, bindO_s, zeroC, fIsTup_tup, fTup_zero, fTup_succ, fBin_neq, ne_eq, not_true_eq_false, decide_false, fCond_b, Bool.false_eq_true, if_false]
    rw [show (0 + 1 + 1 + 1 + 1 + 1 + 1 == 6) = true from rfl, show (0 + 1 + 1 + 1 + 1 + 1 == 5) = true from rfl, show (0 + 1 + 1 == 2) = true from rfl]
    simp only [gB_t]
    rw [show ref02_SameMachine (.agg [.str [], .nilS, .int .i64 0, .nilS, .nilS, .nilS]) (.agg [.str [], .nilS, .int .i64 0, .nilS, .nilS, .nilS]) = some (.bool true) from zself]
    simp only [bindO_s, fUn_not, Bool.not_true, fCond_b, Bool.false_eq_true, if_false]
    rw [law02_MachConfined.L0_eq]
    simp only [fBin_neq, ne_eq, hc, not_false_eq_true, decide_true, bindO_s, fCond_b, if_true]
  rcases h3 with ⟨c, hc, hy⟩ | ⟨c0, g, h8, p, hp, hy⟩
  · exact bad c hc hy
  · cases hcn : cnf (bNx (li ins) (li rows)) 256 [] ⟨li osq, ps, st, hh, 0⟩ with
    | none => exact bad 26 (by decide) (by rw [hy, hcn]; rfl)
    | some r =>
      obtain ⟨L, b⟩ := r
      rw [hcn, conF_some] at hy
      subst hy
      obtain ⟨s1, s2, s3, s4⟩ := cnf_spec (b0 := ⟨li osq, ps, st, hh, 0⟩) 256 [] ⟨li osq, ps, st, hh, 0⟩ L b (by simp) rfl hcn
      have bo := bandOk g
      have h := okM c0
      have hlen := bo.len
      have hn : 1 ≤ (li osq).length ∧ (li osq).length ≤ 8 := ⟨hlen.1, h8⟩
      have hpos := List.length_pos_of_mem s3
      simp only [List.length_nil, Nat.zero_add] at s4
      obtain ⟨p1, p2⟩ := check_parts c0
      have hq := h.lens p (List.mem_of_getElem? hp)
      have hval : vals (li ins) = (li p.2.1).length := by
        unfold vals
        cases hi : li ins with
        | nil => rw [hi] at hp; simp at hp
        | cons x l => rw [hi] at hp; simp at hp; subst hp; rfl
      have hin : ∀ t, BIn (li ins) (li osq).length (li sts).length (itr (bNx (li ins) (li rows)) ⟨li osq, ps, st, hh, 0⟩ t) := by
        intro t
        induction t with
        | zero => exact ⟨⟨rfl, bo.sqv, bo.psv, bo.stv⟩, rfl⟩
        | succ t ih => exact bNx_ok v c0 bo.bb hn ih
      have hsq : ∀ t, (itr (bNx (li ins) (li rows)) ⟨li osq, ps, st, hh, 0⟩ t).sq.length = (li osq).length ∧ ∀ x ∈ (itr (bNx (li ins) (li rows)) ⟨li osq, ps, st, hh, 0⟩ t).sq, 0 ≤ x ∧ x < ((li p.2.1).length : Int) := fun t => ⟨(hin t).ok.len, fun x hx => by have := (hin t).ok.sq x hx; rw [hval] at this; exact this⟩
      have chk := con_check s1 s2 s3 s4 h8 (q := li p.2.1) hq (ports_names hp p2) p1 hsq
      have hrl : (crows L b).length = L.length := by simp [crows, rwsF_len]; omega
      have vC : SmM (nm, some (csts L.length), 0, some [], some (couts 0 (li osq).length (li p.2.1)), some (crows L b), ()) := by
        refine ⟨v.nm, ⟨?_, fun s hs => ?_⟩, ⟨by simp [li], fun q hq => by simp [li] at hq⟩, ⟨?_, fun q hq => ?_⟩, ⟨?_, fun r hr => ?_⟩⟩
        · simp only [li_some, csts, List.length_map, List.length_range']; omega
        · obtain ⟨t, ht, rfl⟩ := List.mem_map.1 hs
          have := dec_len t
          simp only [qN, List.length_cons]; omega
        · simp only [li_some, couts, List.length_map, List.length_range']; omega
        · obtain ⟨t, ht, rfl⟩ := List.mem_map.1 hq
          have := dec_len t
          refine ⟨by simp only [sN, List.length_cons]; omega, ?_⟩
          exact (v.ins.2 p (List.mem_of_getElem? hp)).2
        · simp only [li_some, hrl]; omega
        · obtain ⟨s, hs⟩ := List.getElem?_of_mem hr
          have hsl := (List.getElem?_eq_some_iff.1 hs).1
          simp only [li_some, hrl] at hsl
          have hs' : (crows L b)[s]? = some r := hs
          rw [crow_at s1 s2 s3 hsl] at hs'
          rw [← Option.some.inj hs']
          have := (hsq (s + 1)).1
          simp only [li_some]; omega
      have self := sameMachine_self vC
      rw [law02_MachConfined.eq]
      simp only [fIsAgg_agg, List.length_cons, List.length_nil, fCell_zero, fCell_succ, h1, h2, bindO_s, fIsTup_tup, fTup_zero, fTup_succ, fBin_neq, ne_eq, not_true_eq_false, decide_false, fCond_b, Bool.false_eq_true, if_false]
      rw [show (0 + 1 + 1 + 1 + 1 + 1 + 1 == 6) = true from rfl, show (0 + 1 + 1 + 1 + 1 + 1 == 5) = true from rfl, show (0 + 1 + 1 == 2) = true from rfl]
      simp only [gB_t, self, bindO_s, fUn_not, Bool.not_true, fCond_b, Bool.false_eq_true, if_false]
      rw [law02_MachConfined.L0_eq]
      simp only [fBin_neq, ne_eq, not_true_eq_false, decide_false, bindO_s, fCond_b, Bool.false_eq_true, if_false, fBin_lss, fBin_gtr, decide_eq_true_eq]
      by_cases g1 : n < 0
      · rw [if_pos g1]
      rw [if_neg g1]
      by_cases g2 : 40 < n
      · rw [if_pos g2]
      rw [if_neg g2]
      have hnN : n = ((n.toNat : Nat) : Int) := by omega
      have hN : n.toNat ≤ 40 := by omega
      generalize n.toNat = N at hnN hN
      subst hnN
      have hL0 : L[0]? = some (itr (bNx (li ins) (li rows)) ⟨li osq, ps, st, hh, 0⟩ 0) := by
        have hx : L[0]? = some L[0] := List.getElem?_eq_getElem hpos
        rw [hx, ← s1 0 _ hx]
      have run := mach_run_ok (oi := some (List.replicate N none)) vC
      have rM := con_runM s1 s2 s3 N 0 0 hL0
      have hfit : fitAll [] (List.replicate N (none : Option (List Int))) = true := by
        refine List.all_eq_true.2 fun x hx => ?_
        rw [(List.mem_replicate.1 hx).2]; rfl
      simp only [li_some] at run
      rw [chk] at run
      unfold runR at run
      simp only [ne_eq, not_true_eq_false, if_false, List.length_replicate, show ¬ ((4096 : Int) < (N : Int)) by omega, hfit, if_true, show (0 : Int).toNat = 0 from rfl] at run
      rw [rM] at run
      have harg : sl SI (some (List.replicate N (none : Option (List Int)))) = .arr (List.replicate N [.nilS]) := by
        simp only [sl, List.map_replicate]; rfl
      rw [harg] at run
      unfold runF at run
      rw [law02_MachConfined.L1_eq]
      have l2 := law_con_L2 hN _ (sl S sts) (.int .i64 start) (sl P ins) (sl P outs) (sl RW rows) (sl I osq) (.int .i64 ps) (.int .i64 st) (.bool hh) (.int .i64 k) (.str nm) (sl S (some (csts L.length))) (.int .i64 0) (sl P (some [])) (sl P (some (couts 0 (li osq).length (li p.2.1)))) (sl RW (some (crows L b))) (.str nm) (sl S (some (csts L.length))) (.int .i64 0) (sl P (some [])) (sl P (some (couts 0 (li osq).length (li p.2.1)))) (sl RW (some (crows L b))) (xs := ((List.range' 0 N).map fun u => FV.arr ((itr (bNx (li ins) (li rows)) ⟨li osq, ps, st, hh, 0⟩ (u + 1)).sq.map I))) (by
        rw [run]
        simp only [sl, List.map_map]
        rfl) (by simp) (.str nm) _ 0 rfl (Nat.zero_le _)
      refine Eq.trans l2 ?_
      have l4 := law_con_L4 v hl (hh := hh) g hN (.str nm) (sl S (some (csts L.length))) (.int .i64 0) (sl P (some [])) (sl P (some (couts 0 (li osq).length (li p.2.1)))) (sl RW (some (crows L b))) (.str nm) (sl S (some (csts L.length))) (.int .i64 0) (sl P (some [])) (sl P (some (couts 0 (li osq).length (li p.2.1)))) (sl RW (some (crows L b))) (List.replicate N [.nilS]) _ 0 rfl (Nat.zero_le _)
      rw [List.map_map] at l4 ⊢
      exact l4
end
end Go.Proofs.Ytelcbakleaaneaa
end
