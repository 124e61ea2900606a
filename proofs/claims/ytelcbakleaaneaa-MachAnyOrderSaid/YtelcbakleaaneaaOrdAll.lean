/- The order of parts and links: what CheckNet asks, whatever the order; a net in another order passes. The order of parts and links: a net in another order says the same. The order of parts and links: lists in another order, and numbers turned, as the law's own functions say them. The order of parts and links: the law's own loops. The order of parts and links: the law's loops over links and pins. The order of parts and links: books and lists copied. The order of parts and links: books copied. The order of parts and links: a copied net says the same. The order of parts and links: a copied book passes where the book does; its runs are the same. The order of parts and links: CheckNet and RunNet of a copied book, and of a book of the one net in another order. The order of parts and links: the law MachAnyOrder. -/
import Derived.Test.YtelcbakleaaneaaNetRun
section
namespace Go.Proofs.Ytelcbakleaaneaa
open Go Go.Proofs.Ytelcbakleaaneaa.VM
set_option linter.unusedVariables false
set_option linter.unusedSimpArgs false
set_option linter.unusedSectionVars false
section
variable {ms : List TMach} {ps : List TPart}
theorem linkC_of {s : List TPin} {l : TLink} (h : OkL ms ps l) (hs : l.2.1 ∉ s) : linkC ms ps s l = 0 := by
  have h3 := h.del
  have h6 := h.fit
  unfold linkC
  rw [if_neg (by simp [h.out]), if_neg (by simp [h.inn]), if_neg (by omega), if_neg (by omega), if_neg (by simp [h.len]), if_neg (by simp [h.init]), if_neg (by omega), if_neg hs]
theorem linksGo_of : ∀ (ls : List TLink) (s : List TPin), (∀ l ∈ ls, OkL ms ps l ∧ l.2.1 ∉ s) → (fed ls).Nodup → linksGo ms ps s ls = 0
  | [], _, _, _ => rfl
  | l :: ls, s, h, hn => by
    obtain ⟨h1, h2⟩ := h l (by simp)
    simp only [fed, List.map_cons, List.nodup_cons] at hn
    unfold linksGo
    rw [linkC_of h1 h2, if_neg (by simp)]
    refine linksGo_of ls _ (fun x hx => ⟨(h x (by simp [hx])).1, fun g => ?_⟩) hn.2
    rcases List.mem_append.1 g with g | g
    · exact (h x (by simp [hx])).2 g
    · simp only [List.mem_singleton] at g
      exact hn.1 (List.mem_map.2 ⟨x, hx, g⟩)
theorem insGo_of : ∀ (l s : List TPin), (∀ p ∈ l, isInB ms ps p = true ∧ p ∉ s) → l.Nodup → insGo ms ps s l = 0
  | [], _, _, _ => rfl
  | p :: l, s, h, hn => by
    obtain ⟨h1, h2⟩ := h p (by simp)
    rw [List.nodup_cons] at hn
    unfold insGo
    rw [if_neg (by simp [h1]), if_neg h2]
    refine insGo_of l _ (fun x hx => ⟨(h x (by simp [hx])).1, fun g => ?_⟩) hn.2
    rcases List.mem_append.1 g with g | g
    · exact (h x (by simp [hx])).2 g
    · simp only [List.mem_singleton] at g
      exact hn.1 (g ▸ hx)
theorem outsGo_of : ∀ (l s : List TPin), (∀ p ∈ l, isOutB ms ps p = true ∧ p ∉ s) → l.Nodup → outsGo ms ps s l = 0
  | [], _, _, _ => rfl
  | p :: l, s, h, hn => by
    obtain ⟨h1, h2⟩ := h p (by simp)
    rw [List.nodup_cons] at hn
    unfold outsGo
    rw [if_neg (by simp [h1]), if_neg h2]
    refine outsGo_of l _ (fun x hx => ⟨(h x (by simp [hx])).1, fun g => ?_⟩) hn.2
    rcases List.mem_append.1 g with g | g
    · exact (h x (by simp [hx])).2 g
    · simp only [List.mem_singleton] at g
      exact hn.1 (g ▸ hx)
theorem outsGo_nd : ∀ (l s : List TPin), outsGo ms ps s l = 0 → s.Nodup → (s ++ l).Nodup
  | [], s, _, hs => by simpa using hs
  | p :: l, s, h, hs => by
    simp only [outsGo] at h
    by_cases g1 : isOutB ms ps p = false
    · rw [if_pos g1] at h; omega
    rw [if_neg g1] at h
    by_cases g2 : p ∈ s
    · rw [if_pos g2] at h; omega
    rw [if_neg g2] at h
    simpa using outsGo_nd l _ h (nodup_snoc hs g2)
theorem partsGo_of {n : Nat} : ∀ (l : List TPart) (s : List Str), (∀ p ∈ l, isNm p.1 = true ∧ p.1 ∉ s ∧ 0 ≤ p.2.1 ∧ p.2.1 < (n : Int)) → (l.map Prod.fst).Nodup → partsGo n s l = 0
  | [], _, _, _ => rfl
  | p :: l, s, h, hn => by
    obtain ⟨h1, h2, h3, h4⟩ := h p (by simp)
    rw [List.map_cons, List.nodup_cons] at hn
    unfold partsGo
    rw [if_neg (by simp [h1]), if_neg h2, if_neg (by omega), if_neg (by omega)]
    refine partsGo_of l _ (fun x hx => ?_) hn.2
    obtain ⟨k1, k2, k3, k4⟩ := h x (by simp [hx])
    refine ⟨k1, fun g => ?_, k3, k4⟩
    rcases List.mem_append.1 g with g | g
    · exact k2 g
    · simp only [List.mem_singleton] at g
      exact hn.1 (g ▸ List.mem_map_of_mem hx)
theorem partsGo_nm {n : Nat} : ∀ (l : List TPart) (s : List Str), partsGo n s l = 0 → s.Nodup → (∀ p ∈ l, isNm p.1 = true) ∧ (s ++ l.map Prod.fst).Nodup
  | [], s, _, hs => ⟨fun p hp => (by cases hp), by simpa using hs⟩
  | p :: l, s, h, hs => by
    simp only [partsGo] at h
    by_cases g1 : isNm p.1 = false
    · rw [if_pos g1] at h; omega
    rw [if_neg g1] at h
    by_cases g2 : p.1 ∈ s
    · rw [if_pos g2] at h; omega
    rw [if_neg g2] at h
    by_cases g3 : p.2.1 < 0
    · rw [if_pos g3] at h; omega
    rw [if_neg g3] at h
    by_cases g4 : (n : Int) ≤ p.2.1
    · rw [if_pos g4] at h; omega
    rw [if_neg g4] at h
    obtain ⟨j1, j2⟩ := partsGo_nm l _ h (nodup_snoc hs g2)
    refine ⟨fun x hx => ?_, by simpa using j2⟩
    rcases List.mem_cons.1 hx with rfl | hx
    · simpa using g1
    · exact j1 x hx
theorem allTo_of {f : Nat → Bool} {n k : Nat} (h : ∀ i, k ≤ i → i < n → f i = true) : allTo f n k = true := by
  unfold allTo
  rw [List.all_eq_true]
  intro i hi
  rw [List.mem_range'_1] at hi
  exact h i hi.1 (by omega)
end
/-- What a net is asked that passes. -/
structure NetP (ms : List TMach) (nm : Str) (ps : List TPart) (ls : List TLink) (is os : List TPin) : Prop where
  nm : isNm nm = true
  pnm : ∀ p ∈ ps, isNm p.1 = true
  pnd : (ps.map Prod.fst).Nodup
  ok : OkN ms ps ls is os
  ond : os.Nodup
theorem netP {ms : List TMach} {nm : Str} {ps : List TPart} {ls : List TLink} {is os : List TPin} (h : netC ms nm ps ls is os = 0) : NetP ms nm ps ls is os := by
  have hok := okN h
  unfold netC at h
  by_cases g1 : isNm nm = false
  · rw [if_pos g1] at h; omega
  rw [if_neg g1] at h
  by_cases g2 : (ps.length : Int) = 0
  · rw [if_pos g2] at h; omega
  rw [if_neg g2] at h
  by_cases g3 : 32 < (ps.length : Int)
  · rw [if_pos g3] at h; omega
  rw [if_neg g3] at h
  by_cases g4 : partsGo ms.length [] ps ≠ 0
  · rw [if_pos g4] at h; exact absurd h g4
  rw [if_neg g4] at h
  by_cases g5 : linksC ms ps ls is os ≠ 0
  · rw [if_pos g5] at h; exact absurd h g5
  obtain ⟨p1, p2⟩ := partsGo_nm ps [] (Decidable.not_not.1 g4) (by simp)
  have g5 := Decidable.not_not.1 g5
  unfold linksC at g5
  by_cases k1 : 64 < ls.length
  · rw [if_pos k1] at g5; omega
  rw [if_neg k1] at g5
  by_cases k2 : linksGo ms ps [] ls ≠ 0
  · rw [if_pos k2] at g5; exact absurd g5 k2
  rw [if_neg k2] at g5
  by_cases k3 : insGo ms ps (fed ls) is ≠ 0
  · rw [if_pos k3] at g5; exact absurd g5 k3
  rw [if_neg k3] at g5
  by_cases k4 : outsGo ms ps [] os ≠ 0
  · rw [if_pos k4] at g5; exact absurd g5 k4
  exact ⟨by simpa using g1, p1, by simpa using p2, hok, by simpa using outsGo_nd os [] (Decidable.not_not.1 k4) (by simp)⟩
theorem netC_of {ms : List TMach} {nm : Str} {ps : List TPart} {ls : List TLink} {is os : List TPin} (h : NetP ms nm ps ls is os) : netC ms nm ps ls is os = 0 := by
  have hk := h.ok
  have n32 := hk.n32
  have hnd := List.nodup_append.1 hk.nd
  have hp : partsGo ms.length [] ps = 0 := partsGo_of ps [] (fun p hp => ⟨h.pnm p hp, by simp, hk.pin p hp⟩) h.pnd
  have hl : linksGo ms ps [] ls = 0 := linksGo_of ls [] (fun l hl => ⟨hk.lok l hl, by simp⟩) hnd.1
  have hi : insGo ms ps (fed ls) is = 0 := insGo_of is _ (fun p hp => ⟨hk.iok p hp, fun g => hnd.2.2 p g p hp rfl⟩) hnd.2.1
  have ho : outsGo ms ps [] os = 0 := outsGo_of os [] (fun p hp => ⟨hk.ook p hp, by simp⟩) h.ond
  have hw : wholeB ms ps (fed ls ++ is) = true := allTo_of fun a _ ha => allTo_of fun b _ hb => by simpa using hk.whole a b ha hb
  have hc : linksC ms ps ls is os = 0 := by
    have l64 := hk.l64
    unfold linksC
    rw [if_neg (by omega), if_neg (by simp [hl]), if_neg (by simp [hi]), if_neg (by simp [ho]), if_pos hw]
  have hr : ordC ls = 0 := by
    unfold ordC
    exact if_pos hk.rank
  unfold netC
  rw [if_neg (by simp [h.nm]), if_neg (by omega), if_neg (by omega), if_neg (by simp [hp]), if_neg (by simp [hc]), hr]
/-! ### Another order -/
def mvP (τ : Nat → Nat) (p : TPin) : TPin := ((τ p.1.toNat : Int), p.2.1, ())
def mvL (τ : Nat → Nat) (l : TLink) : TLink := (mvP τ l.1, mvP τ l.2.1, l.2.2.1, l.2.2.2.1, ())
/-- Numbers turned into others, and back. -/
structure Ren (n : Nat) (τ σ : Nat → Nat) : Prop where
  t : ∀ i, i < n → τ i < n
  s : ∀ i, i < n → σ i < n
  st : ∀ i, i < n → σ (τ i) = i
  ts : ∀ i, i < n → τ (σ i) = i
/-- A net in another order. -/
structure Other (ps ps' : List TPart) (ls ls' : List TLink) (τ σ : Nat → Nat) : Prop where
  ren : Ren ps.length τ σ
  pp : ps'.Perm ps
  pget : ∀ i, i < ps.length → ps'[τ i]? = ps[i]?
  lp : ls'.Perm (ls.map (mvL τ))
section
variable {ms : List TMach} {nm : Str} {ps ps' : List TPart} {ls ls' : List TLink} {is os : List TPin} {τ σ : Nat → Nat} (h : Other ps ps' ls ls' τ σ)
include h
theorem Other.len : ps'.length = ps.length := h.pp.length_eq
theorem Other.getD {i : Nat} (hi : i < ps.length) (d : TPart) : ps'.getD (τ i) d = ps.getD i d := by
  rw [List.getD_eq_getElem?_getD, h.pget i hi, ← List.getD_eq_getElem?_getD]
theorem Other.insAt {i : Nat} (hi : i < ps.length) : insAt ms ps' ((τ i : Nat) : Int) = insAt ms ps (i : Int) := by
  unfold Go.Proofs.Ytelcbakleaaneaa.insAt
  rw [Int.toNat_natCast, Int.toNat_natCast, h.getD hi]
theorem Other.outsAt {i : Nat} (hi : i < ps.length) : outsAt ms ps' ((τ i : Nat) : Int) = outsAt ms ps (i : Int) := by
  unfold Go.Proofs.Ytelcbakleaaneaa.outsAt
  rw [Int.toNat_natCast, Int.toNat_natCast, h.getD hi]
theorem Other.mAt {i : Nat} (hi : i < ps.length) : mAt ms ps' (τ i) = mAt ms ps i := by
  unfold Go.Proofs.Ytelcbakleaaneaa.mAt
  rw [h.getD hi]
theorem Other.inB {p : TPin} (hp : isInB ms ps p = true) : isInB ms ps' (mvP τ p) = true ∧ inAt ms ps' (mvP τ p) = inAt ms ps p := by
  obtain ⟨h1, h2, h3, h4⟩ := isInB_iff.1 hp
  have hi : p.1.toNat < ps.length := by omega
  have e : Go.Proofs.Ytelcbakleaaneaa.insAt ms ps' (mvP τ p).1 = Go.Proofs.Ytelcbakleaaneaa.insAt ms ps p.1 := by
    rw [show p.1 = ((p.1.toNat : Nat) : Int) by omega]
    simp only [mvP, Int.toNat_natCast]
    exact h.insAt hi
  refine ⟨isInB_iff.2 ⟨by simp [mvP], ?_, h3, by rw [e]; exact h4⟩, ?_⟩
  · have := h.ren.t _ hi
    rw [h.len]
    simp only [mvP]; omega
  · unfold inAt
    rw [e]; rfl
theorem Other.outB {p : TPin} (hp : isOutB ms ps p = true) : isOutB ms ps' (mvP τ p) = true ∧ outAt ms ps' (mvP τ p) = outAt ms ps p := by
  obtain ⟨h1, h2, h3, h4⟩ := isOutB_iff.1 hp
  have hi : p.1.toNat < ps.length := by omega
  have e : Go.Proofs.Ytelcbakleaaneaa.outsAt ms ps' (mvP τ p).1 = Go.Proofs.Ytelcbakleaaneaa.outsAt ms ps p.1 := by
    rw [show p.1 = ((p.1.toNat : Nat) : Int) by omega]
    simp only [mvP, Int.toNat_natCast]
    exact h.outsAt hi
  refine ⟨isOutB_iff.2 ⟨by simp [mvP], ?_, h3, by rw [e]; exact h4⟩, ?_⟩
  · have := h.ren.t _ hi
    rw [h.len]
    simp only [mvP]; omega
  · unfold outAt
    rw [e]; rfl
theorem Other.inj {p q : TPin} (hp : 0 ≤ p.1 ∧ p.1 < (ps.length : Int)) (hq : 0 ≤ q.1 ∧ q.1 < (ps.length : Int)) (e : mvP τ p = mvP τ q) : p = q := by
  obtain ⟨a, b, ⟨⟩⟩ := p
  obtain ⟨c, d, ⟨⟩⟩ := q
  simp only [mvP, Prod.mk.injEq, and_true] at e hp hq
  have e1 : τ a.toNat = τ c.toNat := by omega
  have e2 : a.toNat = c.toNat := by rw [← h.ren.st a.toNat (by omega), e1, h.ren.st c.toNat (by omega)]
  have e3 : a = c := by omega
  rw [e3, e.2]
theorem Other.fed : (fed ls').Perm ((fed ls).map (mvP τ)) := by
  unfold Go.Proofs.Ytelcbakleaaneaa.fed
  refine (h.lp.map _).trans ?_
  rw [List.map_map, List.map_map]
  exact List.Perm.refl _
/-- A net in another order passes, too. -/
theorem Other.okN (ok : OkN ms ps ls is os) : OkN ms ps' ls' (is.map (mvP τ)) (os.map (mvP τ)) := by
  have hlen := h.len
  have hrange : ∀ p ∈ Go.Proofs.Ytelcbakleaaneaa.fed ls ++ is, 0 ≤ p.1 ∧ p.1 < (ps.length : Int) := fun p hp => by
    have hb : isInB ms ps p = true := by
      rcases List.mem_append.1 hp with hp | hp
      · obtain ⟨l, hl, rfl⟩ := List.mem_map.1 hp
        exact (ok.lok l hl).inn
      · exact ok.iok p hp
    obtain ⟨h1, h2, _⟩ := isInB_iff.1 hb
    exact ⟨h1, h2⟩
  refine ⟨by rw [hlen]; exact ok.n32, fun p hp => ok.pin p (h.pp.subset hp), by rw [h.lp.length_eq, List.length_map]; exact ok.l64, fun l hl => ?_, fun p hp => ?_, ?_, fun p hp => ?_, fun a b ha hb => ?_, ?_⟩
  · obtain ⟨l0, hl0, rfl⟩ := List.mem_map.1 (h.lp.subset hl)
    have k := ok.lok l0 hl0
    obtain ⟨o1, o2⟩ := h.outB k.out
    obtain ⟨i1, i2⟩ := h.inB k.inn
    exact ⟨o1, i1, k.del, k.len, by simp only [mvL]; rw [o2]; exact k.init, by simp only [mvL]; rw [o2, i2]; exact k.fit⟩
  · obtain ⟨p0, hp0, rfl⟩ := List.mem_map.1 hp
    exact (h.inB (ok.iok p0 hp0)).1
  · have hperm : (Go.Proofs.Ytelcbakleaaneaa.fed ls' ++ is.map (mvP τ)).Perm ((Go.Proofs.Ytelcbakleaaneaa.fed ls ++ is).map (mvP τ)) := by
      rw [List.map_append]
      exact h.fed.append_right _
    refine hperm.nodup_iff.2 (nodup_map_on ok.nd fun a ha b hb e => h.inj (hrange a ha) (hrange b hb) e)
  · obtain ⟨p0, hp0, rfl⟩ := List.mem_map.1 hp
    exact (h.outB (ok.ook p0 hp0)).1
  · rw [hlen] at ha
    have hs := h.ren.s a ha
    have e : a = τ (σ a) := (h.ren.ts a ha).symm
    rw [e, h.insAt hs] at hb
    have hm := ok.whole (σ a) b hs hb
    have : ((a : Int), (b : Int), ()) = mvP τ (((σ a : Nat) : Int), (b : Int), ()) := by
      simp only [mvP, Int.toNat_natCast, ← e]
    rw [this]
    rcases List.mem_append.1 hm with hm | hm
    · exact List.mem_append.2 (.inl (h.fed.symm.subset (List.mem_map_of_mem hm)))
    · exact List.mem_append.2 (.inr (List.mem_map_of_mem hm))
  · obtain ⟨r, hr⟩ := ok.rank
    refine ⟨fun u => r (σ u), fun u v e => ?_⟩
    obtain ⟨l, hl, h1, h2, h3⟩ := e
    obtain ⟨l0, hl0, rfl⟩ := List.mem_map.1 (h.lp.subset hl)
    have k := ok.lok l0 hl0
    obtain ⟨a1, a2, _⟩ := isOutB_iff.1 k.out
    obtain ⟨b1, b2, _⟩ := isInB_iff.1 k.inn
    simp only [mvL, mvP] at h1 h2 h3
    have e1 : σ u = l0.1.1.toNat := by
      rw [show u = τ l0.1.1.toNat by omega]; exact h.ren.st _ (by omega)
    have e2 : σ v = l0.2.1.1.toNat := by
      rw [show v = τ l0.2.1.1.toNat by omega]; exact h.ren.st _ (by omega)
    show r (σ u) < r (σ v)
    rw [e1, e2]
    exact hr _ _ ⟨l0, hl0, h1, by omega, by omega⟩
theorem Other.netP (hP : NetP ms nm ps ls is os) : NetP ms nm ps' ls' (is.map (mvP τ)) (os.map (mvP τ)) := by
  refine ⟨hP.nm, fun p hp => hP.pnm p (h.pp.subset hp), (h.pp.map _).nodup_iff.2 hP.pnd, h.okN hP.ok, nodup_map_on hP.ond fun a ha b hb e => ?_⟩
  obtain ⟨a1, a2, _⟩ := isOutB_iff.1 (hP.ok.ook a ha)
  obtain ⟨b1, b2, _⟩ := isOutB_iff.1 (hP.ok.ook b hb)
  exact h.inj ⟨a1, a2⟩ ⟨b1, b2⟩ e
end
end Go.Proofs.Ytelcbakleaaneaa
end
section
namespace Go.Proofs.Ytelcbakleaaneaa
open Go Go.Proofs.Ytelcbakleaaneaa.VM
set_option linter.unusedVariables false
set_option linter.unusedSimpArgs false
set_option linter.unusedSectionVars false
theorem look_perm {A A' : List (TPin × Int)} {f : TPin → TPin} (hp : A'.Perm (A.map fun e => (f e.1, e.2))) (hn : (A.map Prod.fst).Nodup) (hn' : (A'.map Prod.fst).Nodup) {p : TPin} (hm : p ∈ A.map Prod.fst) : look A' (f p) = look A p := by
  obtain ⟨e, he, rfl⟩ := List.mem_map.1 hm
  have h1 : look A e.1 = e.2 := look_mem hn he
  have h2 : look A' (f e.1) = e.2 := look_mem hn' (hp.symm.subset (List.mem_map.2 ⟨e, he, rfl⟩))
  rw [h1, h2]
/-- The states of a net and of the same net in another order. -/
structure SameSt (ps : List TPart) (ls ls' : List TLink) (τ : Nat → Nat) (Q Q' : List (List Int)) (sts sts' : List Int) : Prop where
  zp : (ls'.zip Q').Perm ((ls.zip Q).map fun e => (mvL τ e.1, e.2))
  ql : Q.length = ls.length
  ql' : Q'.length = ls'.length
  ss : ∀ i, i < ps.length → sts'.getD (τ i) 0 = sts.getD i 0
section
variable {ms : List TMach} {ps ps' : List TPart} {ls ls' : List TLink} {is os : List TPin} {τ σ : Nat → Nat} (h : Other ps ps' ls ls' τ σ) (ok : OkN ms ps ls is os)
include h ok
theorem link_val {W V : Nat → TRow} (hV : ∀ i, i < ps.length → V (τ i) = W i) {l : TLink} (hl : l ∈ ls) (q : List Int) : linkVal V q (mvL τ l) = linkVal W q l := by
  obtain ⟨h1, h2, _⟩ := isOutB_iff.1 (ok.lok l hl).out
  unfold linkVal
  simp only [mvL, mvP, Int.toNat_natCast]
  rw [hV l.1.1.toNat (by omega)]
  rfl
theorem src_perm {W V : Nat → TRow} (hV : ∀ i, i < ps.length → V (τ i) = W i) {Q Q' : List (List Int)} {sts sts' : List Int} (hs : SameSt ps ls ls' τ Q Q' sts sts') : (srcLs V ls' Q').Perm ((srcLs W ls Q).map fun e => (mvP τ e.1, e.2)) := by
  unfold srcLs
  refine (hs.zp.map _).trans ?_
  rw [List.map_map, List.map_map]
  refine List.Perm.of_eq (List.map_congr_left fun e he => ?_)
  have hl : e.1 ∈ ls := (List.of_mem_zip he).1
  simp only [Function.comp]
  rw [link_val h ok hV hl]
  rfl
theorem row_other {W V : Nat → TRow} (hV : ∀ i, i < ps.length → V (τ i) = W i) {x : List Int} (hx : is.length = x.length) {Q Q' : List (List Int)} {sts sts' : List Int} (hs : SameSt ps ls ls' τ Q Q' sts sts') {i : Nat} (hi : i < ps.length) :
    rowOf ms ps' (is.map (mvP τ)) x ls' Q' sts' V (τ i) = rowOf ms ps is x ls Q sts W i := by
  have hperm : ((is.map (mvP τ)).zip x ++ srcLs V ls' Q').Perm ((is.zip x ++ srcLs W ls Q).map fun e => (mvP τ e.1, e.2)) := by
    rw [List.map_append]
    have e : (is.map (mvP τ)).zip x = (is.zip x).map fun e => (mvP τ e.1, e.2) := by
      rw [List.zip_map_left]; rfl
    rw [e]
    exact (src_perm h ok hV hs).append_left _
  have hk1 : (srcLs W ls Q).map Prod.fst = fed ls := by
    unfold srcLs fed
    rw [List.map_map]
    have : (fun e : TLink × List Int => e.1.2.1) = (fun l : TLink => l.2.1) ∘ Prod.fst := rfl
    rw [show (Prod.fst ∘ fun e : TLink × List Int => (e.1.2.1, linkVal W e.2 e.1)) = (fun l : TLink => l.2.1) ∘ Prod.fst from rfl, ← List.map_map, List.map_fst_zip (by rw [hs.ql]; exact Nat.le_refl _)]
  have hkeys : ((is.zip x ++ srcLs W ls Q).map Prod.fst) = is ++ fed ls := by
    rw [List.map_append, hk1, List.map_fst_zip (by omega)]
  have hn : ((is.zip x ++ srcLs W ls Q).map Prod.fst).Nodup := by
    rw [hkeys]
    exact (List.perm_append_comm.nodup_iff).1 ok.nd
  have hn' : (((is.map (mvP τ)).zip x ++ srcLs V ls' Q').map Prod.fst).Nodup := by
    refine (hperm.map Prod.fst).nodup_iff.2 ?_
    rw [List.map_map, show (Prod.fst ∘ fun e : TPin × Int => (mvP τ e.1, e.2)) = mvP τ ∘ Prod.fst from rfl, ← List.map_map, hkeys]
    refine nodup_map_on ((List.perm_append_comm.nodup_iff).1 ok.nd) fun a ha b hb e => ?_
    have rng : ∀ p ∈ is ++ fed ls, 0 ≤ p.1 ∧ p.1 < (ps.length : Int) := fun p hp => by
      have hb : isInB ms ps p = true := by
        rcases List.mem_append.1 hp with hp | hp
        · exact ok.iok p hp
        · obtain ⟨l, hl, rfl⟩ := List.mem_map.1 hp
          exact (ok.lok l hl).inn
      obtain ⟨h1, h2, _⟩ := isInB_iff.1 hb
      exact ⟨h1, h2⟩
    exact h.inj (rng a ha) (rng b hb) e
  unfold rowOf
  rw [h.insAt hi, h.mAt hi, hs.ss i hi]
  congr 1
  unfold vecOf
  rw [h.insAt hi]
  refine List.map_congr_left fun k hk => ?_
  have hk := List.mem_range.1 hk
  have hm : ((i : Int), (k : Int), ()) ∈ (is.zip x ++ srcLs W ls Q).map Prod.fst := by
    rw [hkeys]
    rcases List.mem_append.1 (ok.whole i k hi hk) with g | g
    · exact List.mem_append.2 (.inr g)
    · exact List.mem_append.2 (.inl g)
  exact look_perm hperm hn hn' hm
theorem sol_other {x : List Int} (hx : is.length = x.length) {Q Q' : List (List Int)} {sts sts' : List Int} (hs : SameSt ps ls ls' τ Q Q' sts sts') {o o' : List Nat} (ho : Ord (EE ls) ps.length o) (ho' : Ord (EE ls') ps'.length o') {i : Nat} (hi : i < ps.length) :
    solW ms ps' (is.map (mvP τ)) x ls' Q' sts' o' (τ i) = solW ms ps is x ls Q sts o i := by
  have ok' := h.okN ok
  have hlen := h.len
  have hW := solW_eq ok (x := x) (Q := Q) (sts := sts) ho
  have hVW : ∀ j, j < ps.length → (fun j => solW ms ps is x ls Q sts o (σ j)) (τ j) = solW ms ps is x ls Q sts o j := fun j hj => by
    simp only [h.ren.st j hj]
  have := wGo_agree (rowOf_dep (ms := ms) (is := is.map (mvP τ)) (x := x) (Q := Q') (sts := sts') (edges ok')) (W := fun j => solW ms ps is x ls Q sts o (σ j)) o' [] w0 (by simpa using ho'.nd) (by simpa using ho'.topo) (fun p hp => by
    have hpn := ho'.lt p hp
    rw [hlen] at hpn
    have hsn := h.ren.s p hpn
    have e := row_other h ok (W := solW ms ps is x ls Q sts o) (V := fun j => solW ms ps is x ls Q sts o (σ j)) hVW hx hs hsn
    rw [h.ren.ts p hpn] at e
    rw [e]
    exact hW (σ p) hsn) (fun j hj => by cases hj) (τ i) (by
    have := pig_all ho'.nd ho'.lt ho'.len (τ i) (by rw [hlen]; exact h.ren.t i hi)
    simpa using this)
  unfold solW at this ⊢
  rw [this]
  exact hVW i hi
omit h ok in
theorem zip_nextQ (W : Nat → TRow) {ls : List TLink} {Q : List (List Int)} (hq : Q.length = ls.length) : ls.zip (nextQ W ls Q) = (ls.zip Q).map fun e => (e.1, if 0 < e.1.2.2.1 then e.2.drop 1 ++ [(li (W e.1.1.1.toNat).2.1).getD e.1.1.2.1.toNat 0] else []) := by
  unfold nextQ
  induction ls generalizing Q with
  | nil => simp
  | cons l ls ih =>
    cases Q with
    | nil => simp at hq
    | cons q Q =>
      simp only [List.length_cons, Nat.add_right_cancel_iff] at hq
      simp only [List.zip_cons_cons, List.map_cons, ih hq]
omit h ok in
theorem nextQ_len (W : Nat → TRow) {ls : List TLink} {Q : List (List Int)} (hq : Q.length = ls.length) : (nextQ W ls Q).length = ls.length := by
  simp [nextQ, hq]
omit h ok in
theorem nextS_get {n : Nat} {W : Nat → TRow} {i : Nat} (hi : i < n) : (nextS n W).getD i 0 = (W i).1 := by
  simp [nextS, hi]
theorem same_next {W V : Nat → TRow} (hV : ∀ i, i < ps.length → V (τ i) = W i) {Q Q' : List (List Int)} {sts sts' : List Int} (hs : SameSt ps ls ls' τ Q Q' sts sts') : SameSt ps ls ls' τ (nextQ W ls Q) (nextQ V ls' Q') (nextS ps.length W) (nextS ps'.length V) := by
  refine ⟨?_, nextQ_len W hs.ql, nextQ_len V hs.ql', fun i hi => ?_⟩
  · rw [zip_nextQ V hs.ql', zip_nextQ W hs.ql]
    refine (hs.zp.map _).trans ?_
    rw [List.map_map, List.map_map]
    refine List.Perm.of_eq (List.map_congr_left fun e he => ?_)
    have hl : e.1 ∈ ls := (List.of_mem_zip he).1
    obtain ⟨h1, h2, _⟩ := isOutB_iff.1 (ok.lok _ hl).out
    simp only [Function.comp, mvL, mvP, Int.toNat_natCast]
    rw [hV e.1.1.1.toNat (by omega)]
    rfl
  · rw [nextS_get (by rw [h.len]; exact h.ren.t i hi), nextS_get hi, hV i hi]
theorem shown_other {W V : Nat → TRow} (hV : ∀ i, i < ps.length → V (τ i) = W i) : shown V (os.map (mvP τ)) = shown W os := by
  unfold shown
  rw [List.map_map]
  refine List.map_congr_left fun p hp => ?_
  obtain ⟨h1, h2, _⟩ := isOutB_iff.1 (ok.ook p hp)
  simp only [Function.comp, mvP, Int.toNat_natCast]
  rw [hV p.1.toNat (by omega)]
theorem netGo_other {o o' : List Nat} (ho : Ord (EE ls) ps.length o) (ho' : Ord (EE ls') ps'.length o') : ∀ (xs : List (Option (List Int))) (sts sts' : List Int) (Q Q' : List (List Int)), fitAll (is.map (inAt ms ps)) xs = true → SameSt ps ls ls' τ Q Q' sts sts' →
    netGo ms ps' ls' (is.map (mvP τ)) (os.map (mvP τ)) o' sts' Q' xs = netGo ms ps ls is os o sts Q xs
  | [], _, _, _, _, _, _ => rfl
  | x :: xs, sts, sts', Q, Q', hf, hs => by
    simp only [fitAll, List.all_cons, Bool.and_eq_true] at hf
    have hx : is.length = (li x).length := by
      have := hf.1
      simp only [fitP, Bool.and_eq_true, decide_eq_true_eq, List.length_map] at this
      exact this.1
    have hV := fun i hi => sol_other h ok hx hs ho ho' (i := i) hi
    simp only [netGo]
    rw [shown_other h ok hV, netGo_other ho ho' xs _ _ _ _ hf.2 (same_next h ok hV hs)]
theorem same_first : SameSt ps ls ls' τ (q0 ls) (q0 ls') (sts0 ms ps) (sts0 ms ps') := by
  refine ⟨?_, by simp [q0], by simp [q0], fun i hi => ?_⟩
  · have e : ∀ l : List TLink, l.zip (q0 l) = l.map fun a => (a, li a.2.2.2.1) := fun l => by
      unfold q0
      induction l with
      | nil => rfl
      | cons a l ih => simp [ih]
    rw [e, e, List.map_map]
    refine (h.lp.map _).trans ?_
    rw [List.map_map]
    exact List.Perm.refl _
  · have hi' : τ i < ps'.length := by rw [h.len]; exact h.ren.t i hi
    have e1 : (sts0 ms ps').getD (τ i) 0 = (mAt ms ps' (τ i)).2.2.1 := by simp [sts0, hi']
    have e2 : (sts0 ms ps).getD i 0 = (mAt ms ps i).2.2.1 := by simp [sts0, hi]
    rw [e1, e2, h.mAt hi]
theorem ins_other : (is.map (mvP τ)).map (inAt ms ps') = is.map (inAt ms ps) := by
  rw [List.map_map]
  refine List.map_congr_left fun p hp => ?_
  exact (h.inB (ok.iok p hp)).2
theorem netR_other {o o' : List Nat} (ho : Ord (EE ls) ps.length o) (ho' : Ord (EE ls') ps'.length o') (xs : List (Option (List Int))) : netR ms ps' ls' (is.map (mvP τ)) (os.map (mvP τ)) o' xs = netR ms ps ls is os o xs := by
  unfold netR
  rw [ins_other h ok]
  by_cases g : fitAll (is.map (inAt ms ps)) xs = true
  · rw [if_pos g, if_pos g, netGo_other h ok ho ho' xs _ _ _ _ g (same_first h ok)]
  · rw [if_neg g, if_neg g]
end
end Go.Proofs.Ytelcbakleaaneaa
end
section
namespace Go.Proofs.Ytelcbakleaaneaa
open Go Go.Proofs.Ytelcbakleaaneaa.VM
set_option linter.unusedVariables false
set_option linter.unusedSimpArgs false
set_option linter.unusedSectionVars false
def nvL (l : List Nat) : List (List FV) := l.map fun (s : Nat) => I (s : Int)
theorem nvL_len (l : List Nat) : (nvL l).length = l.length := by simp [nvL]
theorem nvL_at {l : List Nat} {i s : Nat} (h : l[i]? = some s) : fIdxC 1 (.arr (nvL l)) (.int .i64 (i : Int)) = some (I (s : Int)) := idx_arr (by simp [nvL, h]) rfl
theorem rem_small {x : Int} {m : Nat} (hm : 1 ≤ m ∧ m ≤ 1000) : ∃ k : Nat, k < m ∧ IntKind.i64.wrap (x.tmod (m : Int) + (m : Int)) = x.tmod (m : Int) + (m : Int) ∧ (x.tmod (m : Int) + (m : Int)).tmod (m : Int) = (k : Int) := by
  have h1 : x.tmod (m : Int) < (m : Int) := Int.tmod_lt_of_pos _ (by omega)
  have h2 : -(m : Int) < x.tmod (m : Int) := by
    have := Int.lt_tmod_of_pos x (b := (m : Int)) (by omega)
    omega
  refine ⟨((x.tmod (m : Int) + (m : Int)).toNat) % m, Nat.mod_lt _ (by omega), wrap64 (by omega) (by omega), ?_⟩
  have e : x.tmod (m : Int) + (m : Int) = (((x.tmod (m : Int) + (m : Int)).toNat : Nat) : Int) := by omega
  rw [e, ← Int.ofNat_tmod]
  simp
section
variable {n : Nat} (hn : n ≤ 1000) {o : Option (List Int)}
include hn
theorem turned_L2 {i : Nat} (hi : i < n) {left out : List Nat} (hlen : left.length + i = n) (hout : out.length = i) {k : Nat} (hk : k < left.length) :
    law02_turned.L2 (.int .i64 (n : Int)) (sl I o) (.arr (nvL left)) (.int .i64 (i : Int)) (.int .i64 (k : Int)) (nvL left) (nvL out) =
      law02_turned.L1 (.int .i64 (n : Int)) (sl I o) (.int .i64 ((i + 1 : Nat) : Int)) (nvL (left.take k ++ left.drop (k + 1))) (nvL (out ++ [left[k]])) := by
  have hx : left[k]? = some left[k] := List.getElem?_eq_getElem hk
  have w1 : IntKind.i64.wrap ((k : Int) + 1) = ((k + 1 : Nat) : Int) := wrap64 (by omega) (by omega)
  have w2 : IntKind.i64.wrap ((i : Int) + 1) = ((i + 1 : Nat) : Int) := wrap64 (by omega) (by omega)
  have hsz : ∀ l : List Nat, rowsSz 1 (nvL l) = true := fun l => rowsSz_map (fun (s : Nat) => I_len (s : Int)) l
  have c1 : fCut 1 (.arr (nvL left)) none (some (.int .i64 (k : Int))) = some (.arr (nvL (left.take k))) := by
    rw [fCut_take (hsz _) (by rw [nvL_len]; omega)]
    simp [nvL]
  have c2 : fCut 1 (.arr (nvL left)) (some (.int .i64 ((k + 1 : Nat) : Int))) none = some (.arr (nvL (left.drop (k + 1)))) := by
    rw [fCut_drop (hsz _) (by rw [nvL_len]; omega)]
    simp [nvL]
  have ar : ∀ l : List Nat, asRows (.arr (nvL l)) = some (nvL l) := fun _ => rfl
  rw [law02_turned.L2_eq]
  simp only [nvL_at hx, I_zero, bindO_s, nvL_len, hout, show (i + 1) * 8 ≤ room by unfold room; omega, decide_true, gB_t, c1, fBin_add, w1, c2, ar, hsz, List.length_take, List.length_drop, List.nil_append, show (0 + min k left.length) * 8 ≤ room by unfold room; omega, show (min k left.length + (left.length - (k + 1))) * 8 ≤ room by unfold room; omega, w2]
  rw [show nvL (left.take k) ++ nvL (left.drop (k + 1)) = nvL (left.take k ++ left.drop (k + 1)) by simp [nvL], show nvL out ++ [[FV.int .i64 (left[k] : Int)]] = nvL (out ++ [left[k]]) by simp [nvL, I]]
theorem turned_L1 : ∀ (d i : Nat) (left out : List Nat), n - i = d → i ≤ n → left.length + i = n → out.length = i → (out ++ left).Perm (List.range n) →
    ∃ r : List Nat, r.Perm (List.range n) ∧ law02_turned.L1 (.int .i64 (n : Int)) (sl I o) (.int .i64 (i : Int)) (nvL left) (nvL out) = some (.arr (nvL r)) := by
  intro d
  induction d with
  | zero =>
    intro i left out hd hi hl ho hp
    have h0 : left = [] := List.eq_nil_of_length_eq_zero (by omega)
    subst h0
    refine ⟨out, by simpa using hp, ?_⟩
    rw [law02_turned.L1_eq]
    simp only [fBin_lss, bindO_s, fCond_b, decide_eq_true_eq, Int.ofNat_lt, show ¬ i < n by omega, if_false]
  | succ d ih =>
    intro i left out hd hi hl ho hp
    have hi' : i < n := by omega
    have go : ∀ k : Nat, k < left.length → ∃ r : List Nat, r.Perm (List.range n) ∧ law02_turned.L2 (.int .i64 (n : Int)) (sl I o) (.arr (nvL left)) (.int .i64 (i : Int)) (.int .i64 (k : Int)) (nvL left) (nvL out) = some (.arr (nvL r)) := fun k hk => by
      rw [turned_L2 hn hi' hl ho hk]
      refine ih (i + 1) _ _ (by omega) (by omega) (by simp; omega) (by simp [ho]) ?_
      refine List.Perm.trans ?_ hp
      rw [List.append_assoc]
      refine List.Perm.append_left _ ?_
      have e : left = left.take k ++ left[k] :: left.drop (k + 1) := by
        rw [List.getElem_cons_drop, List.take_append_drop]
      have h2 : (left.take k ++ left[k] :: left.drop (k + 1)).Perm (left[k] :: (left.take k ++ left.drop (k + 1))) := List.perm_middle
      rw [← e] at h2
      exact h2.symm
    rw [law02_turned.L1_eq]
    simp only [fBin_lss, bindO_s, fCond_b, decide_eq_true_eq, Int.ofNat_lt, hi', if_true, fLen_sl]
    by_cases g : i < (li o).length
    · have hx : (li o)[i]? = some (li o)[i] := List.getElem?_eq_getElem g
      obtain ⟨k, hk, e1, e2⟩ := rem_small (x := (li o)[i]) (m := left.length) (by omega)
      obtain ⟨r, r1, r2⟩ := go k hk
      refine ⟨r, r1, ?_⟩
      simp only [g, if_true, idx_sl hx (I_len _), I_zero, bindO_s, nvL_len, fBin_rem, show ¬ ((left.length : Int)) = 0 by omega, if_false, fBin_add, e1, e2]
      exact r2
    · obtain ⟨r, r1, r2⟩ := go 0 (by omega)
      refine ⟨r, r1, ?_⟩
      simp only [g, if_false]
      exact r2
theorem turned_ok : ∃ r : List Nat, r.Perm (List.range n) ∧ law02_turned (.int .i64 (n : Int)) (sl I o) = some (.arr (nvL r)) := by
  have key : ∀ (d i : Nat), n - i = d → i ≤ n → law02_turned.L0 (.int .i64 (n : Int)) (sl I o) (.int .i64 (i : Int)) (nvL (List.range' 0 i)) [] = law02_turned.L1 (.int .i64 (n : Int)) (sl I o) (.int .i64 0) (nvL (List.range' 0 n)) [] := by
    intro d
    induction d with
    | zero =>
      intro i hd hi
      have : i = n := by omega
      subst this
      rw [law02_turned.L0_eq]
      simp only [fBin_lss, bindO_s, fCond_b, decide_eq_true_eq, Int.ofNat_lt, Nat.lt_irrefl, if_false]
    | succ d ih =>
      intro i hd hi
      have w : IntKind.i64.wrap ((i : Int) + 1) = ((i + 1 : Nat) : Int) := wrap64 (by omega) (by omega)
      rw [law02_turned.L0_eq]
      simp only [fBin_lss, bindO_s, fCond_b, decide_eq_true_eq, Int.ofNat_lt, show i < n by omega, if_true, nvL_len, List.length_range', show (i + 1) * 8 ≤ room by unfold room; omega, decide_true, gB_t, fBin_add, w]
      rw [show nvL (List.range' 0 i) ++ [[FV.int .i64 (i : Int)]] = nvL (List.range' 0 (i + 1)) by simp [nvL, I, List.range'_concat]]
      exact ih (i + 1) (by omega) (by omega)
  obtain ⟨r, r1, r2⟩ := turned_L1 hn (o := o) n 0 (List.range' 0 n) [] (by omega) (by omega) (by simp) rfl (by rw [List.nil_append, List.range_eq_range'])
  refine ⟨r, r1, ?_⟩
  rw [law02_turned.eq]
  exact (key n 0 rfl (by omega)).trans r2
end
/-! ### Numbers turned, and back -/
theorem ren_of {n : Nat} {at' : List Nat} (h : at'.Perm (List.range n)) : Ren n (fun t => at'.idxOf t) (fun i => at'.getD i 0) := by
  have hnd : at'.Nodup := h.nodup_iff.2 List.nodup_range
  have hlen : at'.length = n := by rw [h.length_eq]; simp
  have hm : ∀ i, i ∈ at' ↔ i < n := fun i => by rw [h.mem_iff, List.mem_range]
  refine ⟨fun i hi => ?_, fun i hi => ?_, fun i hi => ?_, fun i hi => ?_⟩
  · have := List.idxOf_lt_length_of_mem ((hm i).2 hi)
    omega
  · have hx : at'[i]? = some at'[i] := List.getElem?_eq_getElem (by omega)
    rw [List.getD_eq_getElem?_getD, hx]
    exact (hm _).1 (List.mem_of_getElem? hx)
  · have hl := List.idxOf_lt_length_of_mem ((hm i).2 hi)
    rw [List.getD_eq_getElem?_getD, List.getElem?_eq_getElem hl]
    exact List.getElem_idxOf hl
  · have hx : i < at'.length := by omega
    rw [List.getD_eq_getElem?_getD, List.getElem?_eq_getElem hx]
    exact hnd.idxOf_getElem i hx
theorem other_of {ps : List TPart} {ls : List TLink} {at' by' : List Nat} (ha : at'.Perm (List.range ps.length)) (hb : by'.Perm (List.range ls.length)) (dp : TPart) (dl : TLink) :
    Other ps (at'.map fun i => ps.getD i dp) ls (by'.map fun i => mvL (fun t => at'.idxOf t) (ls.getD i dl)) (fun t => at'.idxOf t) (fun i => at'.getD i 0) := by
  have all : ∀ {α : Type} (l : List α) (d : α), (List.range l.length).map (fun i => l.getD i d) = l := fun l d => by
    apply List.ext_getElem
    · simp
    · intro i h1 h2; simp [h2]
  refine ⟨ren_of ha, ?_, fun i hi => ?_, ?_⟩
  · have := ha.map fun i => ps.getD i dp
    rw [all] at this
    exact this
  · have hm : i ∈ at' := by rw [ha.mem_iff, List.mem_range]; exact hi
    have hl := List.idxOf_lt_length_of_mem hm
    rw [List.getElem?_map, List.getElem?_eq_getElem hl, List.getElem_idxOf hl]
    simp [hi]
  · have := hb.map fun i => mvL (fun t => at'.idxOf t) (ls.getD i dl)
    refine this.trans ?_
    rw [show (fun i => mvL (fun t => at'.idxOf t) (ls.getD i dl)) = mvL (fun t => at'.idxOf t) ∘ fun i => ls.getD i dl from rfl, ← List.map_map, all]
end Go.Proofs.Ytelcbakleaaneaa
end
section
namespace Go.Proofs.Ytelcbakleaaneaa
open Go Go.Proofs.Ytelcbakleaaneaa.VM
set_option linter.unusedVariables false
set_option linter.unusedSimpArgs false
set_option linter.unusedSectionVars false
def toV (n : Nat) (at' : List Nat) : List (List FV) := vec n fun t => I (at'.idxOf t : Int)
theorem vec_congr {n : Nat} {g g' : Nat → List FV} (h : ∀ t, t < n → g t = g' t) : vec n g = vec n g' := by
  unfold vec
  exact List.map_congr_left fun t ht => h t (List.mem_range.1 ht)
theorem moved_ok {n : Nat} {at' : List Nat} {p : TPin} (h : 0 ≤ p.1 ∧ p.1 < (n : Int)) : law02_moved (.agg [.int .i64 p.1, .int .i64 p.2.1]) (.arr (toV n at')) = some (.agg (PN (mvP (fun t => at'.idxOf t) p))) := by
  have hx : fIdxC 1 (.arr (toV n at')) (.int .i64 p.1) = some (I (at'.idxOf p.1.toNat : Int)) := by
    rw [show p.1 = ((p.1.toNat : Nat) : Int) by omega]
    exact idx_arr (by rw [Int.toNat_natCast]; exact vec_get (by omega)) rfl
  rw [law02_moved.eq]
  simp only [fIsAgg_agg, List.length_cons, List.length_nil, fCell_zero, fCell_succ, hx, bindO_s, I_zero]
  rw [show (0 + 1 + 1 == 2) = true from rfl, gB_t]
  rfl
section
variable {oms : Option (List TMach)} {ops : Option (List TPart)} {ol : Option (List TLink)} {oi oo : Option (List TPin)} (h : OkN (li oms) (li ops) (li ol) (li oi) (li oo)) {at' by' : List Nat} (ha : at'.Perm (List.range (li ops).length)) (hb : by'.Perm (List.range (li ol).length))
include h ha
theorem any_L0 (x0 x3 x4 x5 x6 x7 x8 x10 x11 x12 x13 : FV) (r16 r17 r18 : List (List FV)) : ∀ (d i : Nat) (acc : List TPart), (li ops).length - i = d → i ≤ (li ops).length → acc = (at'.take i).map (fun j => (li ops).getD j ([], 0, ())) →
    law02_MachAnyOrder.L0 x0 (.arr (nvL at')) (.int .i64 (i : Int)) x3 x4 x5 x6 x7 x8 (sl PT ops) x10 x11 x12 x13 (vec (li ops).length fun t => I ((if t ∈ at'.take i then at'.idxOf t else 0 : Nat) : Int)) (acc.map PT) r16 r17 r18 =
      law02_MachAnyOrder.L0 x0 (.arr (nvL at')) (.int .i64 ((li ops).length : Int)) x3 x4 x5 x6 x7 x8 (sl PT ops) x10 x11 x12 x13 (toV (li ops).length at') ((at'.map fun j => (li ops).getD j ([], 0, ())).map PT) r16 r17 r18 := by
  have n32 := h.n32
  have hlen : at'.length = (li ops).length := by rw [ha.length_eq]; simp
  have hnd : at'.Nodup := ha.nodup_iff.2 List.nodup_range
  have hm : ∀ i, i ∈ at' ↔ i < (li ops).length := fun i => by rw [ha.mem_iff, List.mem_range]
  intro d
  induction d with
  | zero =>
    intro i acc hd hi hacc
    have : i = (li ops).length := by omega
    subst this
    rw [List.take_of_length_le (by omega)] at hacc ⊢
    rw [hacc]
    unfold toV
    rw [vec_congr fun t ht => by rw [if_pos ((hm t).2 ht)]]
  | succ d ih =>
    intro i acc hd hi hacc
    have hi' : i < at'.length := by omega
    have hs : at'[i]? = some at'[i] := List.getElem?_eq_getElem hi'
    have hsn : at'[i] < (li ops).length := (hm _).1 (List.mem_of_getElem? hs)
    have hg : (li ops)[at'[i]]? = some ((li ops).getD at'[i] ([], 0, ())) := by simp [hsn]
    have w : IntKind.i64.wrap ((i : Int) + 1) = ((i + 1 : Nat) : Int) := wrap64 (by omega) (by omega)
    have ht : at'.take (i + 1) = at'.take i ++ [at'[i]] := by rw [List.take_add_one, hs]; rfl
    have hix : at'.idxOf at'[i] = i := hnd.idxOf_getElem i hi'
    have r1 : rIdx (vec (li ops).length fun t => I ((if t ∈ at'.take i then at'.idxOf t else 0 : Nat) : Int)) (.int .i64 (at'[i] : Int)) = some at'[i] := rIdx_at (by rw [vec_len]; exact hsn)
    have r2 : rSet (vec (li ops).length fun t => I ((if t ∈ at'.take i then at'.idxOf t else 0 : Nat) : Int)) at'[i] 0 [.int .i64 (i : Int)] = some (vec (li ops).length fun t => I ((if t ∈ at'.take (i + 1) then at'.idxOf t else 0 : Nat) : Int)) := by
      rw [rSet_one (vec_get hsn)]
      have := vec_set (n := (li ops).length) (g := fun t => I ((if t ∈ at'.take i then at'.idxOf t else 0 : Nat) : Int)) (g' := fun t => I ((if t ∈ at'.take (i + 1) then at'.idxOf t else 0 : Nat) : Int)) (i := at'[i]) (fun j hj => by
        simp only [ht, List.mem_append, List.mem_singleton, hj, or_false])
      rw [← this]
      simp only [ht, List.mem_append, List.mem_singleton, or_true, if_true, hix]
      rfl
    have hacl : acc.length = i := by rw [hacc]; simp; omega
    have ih' := ih (i + 1) (acc ++ [(li ops).getD at'[i] ([], 0, ())]) (by omega) (by omega) (by rw [hacc, ht, List.map_append]; rfl)
    rw [law02_MachAnyOrder.L0_eq]
    simp only [fLen_arr, nvL_len, hlen, fBin_lss, bindO_s, fCond_b, decide_eq_true_eq, Int.ofNat_lt, show i < (li ops).length by omega, if_true, nvL_at hs, I_zero, idx_sl hg (PT_len _), PT_zero, PT_one, List.length_map, hacl, show (i + 1) * 24 ≤ room by unfold room; omega, decide_true, gB_t, r1, r2, fBin_add, w]
    rw [show acc.map PT ++ [[FV.str ((li ops).getD at'[i] ([], 0, ())).1, .int .i64 ((li ops).getD at'[i] ([], 0, ())).2.1]] = (acc ++ [(li ops).getD at'[i] ([], 0, ())]).map PT by simp [PT]]
    exact ih'
end
end Go.Proofs.Ytelcbakleaaneaa
end
section
namespace Go.Proofs.Ytelcbakleaaneaa
open Go Go.Proofs.Ytelcbakleaaneaa.VM
set_option linter.unusedVariables false
set_option linter.unusedSimpArgs false
set_option linter.unusedSectionVars false
def dL : TLink := ((0, 0, ()), (0, 0, ()), 0, none, ())
section
variable {oms : Option (List TMach)} {ops : Option (List TPart)} {ol : Option (List TLink)} {oi oo : Option (List TPin)} (h : OkN (li oms) (li ops) (li ol) (li oi) (li oo)) {at' by' : List Nat} (hb : by'.Perm (List.range (li ol).length))
include h
theorem any_L1 (hb : by'.Perm (List.range (li ol).length)) (x0 x4 x5 x6 x7 x8 x9 x10 x12 x13 x14 : FV) (r15 r16 r17 r18 : List (List FV)) : ∀ (d i : Nat) (acc : List TLink), (li ol).length - i = d → i ≤ (li ol).length → acc = (by'.take i).map (fun j => mvL (fun t => at'.idxOf t) ((li ol).getD j dL)) →
    law02_MachAnyOrder.L1 x0 (.arr (toV (li ops).length at')) (.arr (nvL by')) (.int .i64 (i : Int)) x4 x5 x6 x7 x8 x9 x10 (sl LK ol) x12 x13 x14 r15 r16 r17 r18 (acc.map LK) =
      law02_MachAnyOrder.L2 x0 (.arr (toV (li ops).length at')) (.int .i64 0) x4 x5 x6 x7 x8 x9 x10 (sl LK ol) x12 x13 x14 r15 r16 r18 ((by'.map (fun j => mvL (fun t => at'.idxOf t) ((li ol).getD j dL))).map LK) r17 := by
  have l64 := h.l64
  have hlen : by'.length = (li ol).length := by rw [hb.length_eq]; simp
  have hm : ∀ i, i ∈ by' ↔ i < (li ol).length := fun i => by rw [hb.mem_iff, List.mem_range]
  intro d
  induction d with
  | zero =>
    intro i acc hd hi hacc
    have : i = (li ol).length := by omega
    subst this
    rw [List.take_of_length_le (by omega)] at hacc
    rw [law02_MachAnyOrder.L1_eq, hacc]
    simp only [fLen_arr, nvL_len, hlen, fBin_lss, bindO_s, fCond_b, decide_eq_true_eq, Int.ofNat_lt, Nat.lt_irrefl, if_false]
  | succ d ih =>
    intro i acc hd hi hacc
    have hi' : i < by'.length := by omega
    have hs : by'[i]? = some by'[i] := List.getElem?_eq_getElem hi'
    have hsn : by'[i] < (li ol).length := (hm _).1 (List.mem_of_getElem? hs)
    have hg : (li ol)[by'[i]]? = some ((li ol).getD by'[i] dL) := by simp [hsn]
    have k := h.lok _ (List.mem_of_getElem? hg)
    obtain ⟨o1, o2, _⟩ := isOutB_iff.1 k.out
    obtain ⟨i1, i2, _⟩ := isInB_iff.1 k.inn
    have m1 := moved_ok (n := (li ops).length) (at' := at') (p := ((li ol).getD by'[i] dL).1) ⟨o1, o2⟩
    have m2 := moved_ok (n := (li ops).length) (at' := at') (p := ((li ol).getD by'[i] dL).2.1) ⟨i1, i2⟩
    have w : IntKind.i64.wrap ((i : Int) + 1) = ((i + 1 : Nat) : Int) := wrap64 (by omega) (by omega)
    have ht : by'.take (i + 1) = by'.take i ++ [by'[i]] := by rw [List.take_add_one, hs]; rfl
    have hacl : acc.length = i := by rw [hacc]; simp; omega
    have ih' := ih (i + 1) (acc ++ [mvL (fun t => at'.idxOf t) ((li ol).getD by'[i] dL)]) (by omega) (by omega) (by rw [hacc, ht, List.map_append]; rfl)
    generalize (li ol).getD by'[i] dL = l at *
    have c0 : (LK l)[0]? = some (.int .i64 l.1.1) := rfl
    have c1 : (LK l)[1]? = some (.int .i64 l.1.2.1) := rfl
    have c2 : (LK l)[2]? = some (.int .i64 l.2.1.1) := rfl
    have c3 : (LK l)[3]? = some (.int .i64 l.2.1.2.1) := rfl
    have c4 : (LK l)[4]? = some (.int .i64 l.2.2.1) := rfl
    have c5 : (LK l)[5]? = some (sl I l.2.2.2.1) := rfl
    have hix : fIdxC 6 (sl LK ol) (.int .i64 (by'[i] : Int)) = some (LK l) := idx_sl hg rfl
    rw [law02_MachAnyOrder.L1_eq]
    simp only [fLen_arr, nvL_len, hlen, fBin_lss, bindO_s, fCond_b, decide_eq_true_eq, Int.ofNat_lt, show i < (li ol).length by omega, if_true, nvL_at hs, I_zero, hix, c0, c1, c2, c3, c4, c5, m1, m2, List.length_map, hacl, show (i + 1) * 64 ≤ room by unfold room; omega, decide_true, gB_t, fBin_add, w]
    rw [show fIsAgg 2 (.agg (PN (mvP (fun t => at'.idxOf t) l.1))) = true from rfl, gB_t, show fIsAgg 2 (.agg (PN (mvP (fun t => at'.idxOf t) l.2.1))) = true from rfl, gB_t]
    have e : acc.map LK ++ [[fCell (.agg (PN (mvP (fun t => at'.idxOf t) l.1))) 0, fCell (.agg (PN (mvP (fun t => at'.idxOf t) l.1))) 1, fCell (.agg (PN (mvP (fun t => at'.idxOf t) l.2.1))) 0, fCell (.agg (PN (mvP (fun t => at'.idxOf t) l.2.1))) 1, .int .i64 l.2.2.1, sl I l.2.2.2.1]] = (acc ++ [mvL (fun t => at'.idxOf t) l]).map LK := by
      rw [List.map_append]; rfl
    rw [e]
    exact ih'
theorem any_L2 (hli : (li oi).length ≤ 8796093022208) (x0 x3 x4 x5 x6 x7 x8 x9 x10 x12 x13 : FV) (r14 r15 r16 r17 : List (List FV)) : ∀ (t : List TPin) (i : Nat) (acc : List TPin), (li oi).drop i = t → acc.length = i →
    law02_MachAnyOrder.L2 x0 (.arr (toV (li ops).length at')) (.int .i64 (i : Int)) x3 x4 x5 x6 x7 x8 x9 x10 (sl PN oi) x12 x13 r14 r15 r16 r17 (acc.map PN) =
      law02_MachAnyOrder.L3 x0 (.arr (toV (li ops).length at')) (.int .i64 0) x3 x4 x5 x6 x7 x8 x9 x10 (sl PN oi) x12 x13 r14 r15 r17 ((acc ++ t.map (mvP fun t => at'.idxOf t)).map PN) r16 := by
  intro t
  induction t with
  | nil =>
    intro i acc hd ha
    rw [law02_MachAnyOrder.L2_eq]
    simp only [fLen_sl, fBin_lss, bindO_s, fCond_b, decide_eq_true_eq, Int.ofNat_lt, drop_nil hd, if_false, List.map_nil, List.append_nil]
  | cons p t ih =>
    intro i acc hd ha
    obtain ⟨hk, hn, hs⟩ := drop_cons hd
    obtain ⟨i1, i2, _⟩ := isInB_iff.1 (h.iok p (List.mem_of_getElem? hn))
    have m1 := moved_ok (n := (li ops).length) (at' := at') (p := p) ⟨i1, i2⟩
    have w : IntKind.i64.wrap ((i : Int) + 1) = ((i + 1 : Nat) : Int) := wrap64 (by omega) (by omega)
    have c0 : (PN p)[0]? = some (.int .i64 p.1) := rfl
    have c1 : (PN p)[1]? = some (.int .i64 p.2.1) := rfl
    have ih' := ih (i + 1) (acc ++ [mvP (fun t => at'.idxOf t) p]) hs (by simp [ha])
    rw [law02_MachAnyOrder.L2_eq]
    simp only [fLen_sl, fBin_lss, bindO_s, fCond_b, decide_eq_true_eq, Int.ofNat_lt, hk, if_true, idx_sl hn (PN_len _), c0, c1, m1, List.length_map, ha, show (i + 1) * 16 ≤ room by unfold room; omega, decide_true, gB_t, fBin_add, w]
    rw [show fIsAgg 2 (.agg (PN (mvP (fun t => at'.idxOf t) p))) = true from rfl, gB_t]
    rw [show acc.map PN ++ [[fCell (.agg (PN (mvP (fun t => at'.idxOf t) p))) 0, fCell (.agg (PN (mvP (fun t => at'.idxOf t) p))) 1]] = (acc ++ [mvP (fun t => at'.idxOf t) p]).map PN by rw [List.map_append]; rfl]
    rw [ih']
    simp
theorem any_L3 (hlo : (li oo).length ≤ 8796093022208) (x0 x3 x4 x5 x6 x7 x8 x9 x10 x11 x13 : FV) (r14 r15 r16 r17 : List (List FV)) : ∀ (t : List TPin) (i : Nat) (acc : List TPin), (li oo).drop i = t → acc.length = i →
    law02_MachAnyOrder.L3 x0 (.arr (toV (li ops).length at')) (.int .i64 (i : Int)) x3 x4 x5 x6 x7 x8 x9 x10 x11 (sl PN oo) x13 r14 r15 r16 r17 (acc.map PN) =
      law02_MachAnyOrder.L3 x0 (.arr (toV (li ops).length at')) (.int .i64 ((li oo).length : Int)) x3 x4 x5 x6 x7 x8 x9 x10 x11 (sl PN oo) x13 r14 r15 r16 r17 ((acc ++ t.map (mvP fun t => at'.idxOf t)).map PN) := by
  intro t
  induction t with
  | nil =>
    intro i acc hd ha
    rw [law02_MachAnyOrder.L3_eq, law02_MachAnyOrder.L3_eq]
    simp only [fLen_sl, fBin_lss, bindO_s, fCond_b, decide_eq_true_eq, Int.ofNat_lt, drop_nil hd, Nat.lt_irrefl, if_false, List.map_nil, List.append_nil]
  | cons p t ih =>
    intro i acc hd ha
    obtain ⟨hk, hn, hs⟩ := drop_cons hd
    obtain ⟨i1, i2, _⟩ := isOutB_iff.1 (h.ook p (List.mem_of_getElem? hn))
    have m1 := moved_ok (n := (li ops).length) (at' := at') (p := p) ⟨i1, i2⟩
    have w : IntKind.i64.wrap ((i : Int) + 1) = ((i + 1 : Nat) : Int) := wrap64 (by omega) (by omega)
    have c0 : (PN p)[0]? = some (.int .i64 p.1) := rfl
    have c1 : (PN p)[1]? = some (.int .i64 p.2.1) := rfl
    have ih' := ih (i + 1) (acc ++ [mvP (fun t => at'.idxOf t) p]) hs (by simp [ha])
    rw [law02_MachAnyOrder.L3_eq]
    simp only [fLen_sl, fBin_lss, bindO_s, fCond_b, decide_eq_true_eq, Int.ofNat_lt, hk, if_true, idx_sl hn (PN_len _), c0, c1, m1, List.length_map, ha, show (i + 1) * 16 ≤ room by unfold room; omega, decide_true, gB_t, fBin_add, w]
    rw [show fIsAgg 2 (.agg (PN (mvP (fun t => at'.idxOf t) p))) = true from rfl, gB_t]
    rw [show acc.map PN ++ [[fCell (.agg (PN (mvP (fun t => at'.idxOf t) p))) 0, fCell (.agg (PN (mvP (fun t => at'.idxOf t) p))) 1]] = (acc ++ [mvP (fun t => at'.idxOf t) p]).map PN by rw [List.map_append]; rfl]
    refine Eq.trans ih' ?_
    simp
end
end Go.Proofs.Ytelcbakleaaneaa
end
section
namespace Go.Proofs.Ytelcbakleaaneaa
open Go Go.Proofs.Ytelcbakleaaneaa.VM
set_option linter.unusedVariables false
set_option linter.unusedSimpArgs false
set_option linter.unusedSectionVars false
def cpO {α : Type} (o : Option (List α)) : Option (List α) := some (li o)
def cpPo (l : List TPort) : List TPort := l.map fun q => (q.1, some (li q.2.1), ())
def cpR (l : List TRow) : List TRow := l.map fun r => (r.1, some (li r.2.1), ())
def cpM (m : TMach) : TMach := (m.1, some (li m.2.1), m.2.2.1, some (cpPo (li m.2.2.2.1)), some (cpPo (li m.2.2.2.2.1)), some (cpR (li m.2.2.2.2.2.1)), ())
def cpL (l : TLink) : TLink := (l.1, l.2.1, l.2.2.1, some (li l.2.2.2.1), ())
def cpN (n : TNet) : TNet := (n.1, some (li n.2.1), some ((li n.2.2.1).map cpL), some (li n.2.2.2.1), some (li n.2.2.2.2.1), ())
theorem cpLists_ok {ox : Option (List (Option (List Int)))} (hl : (li ox).length ≤ 5864062014805) (hx : ∀ x ∈ li ox, (li x).length ≤ 17592186044416) : ref02_CopyLists (sl SI ox) = some (sl SI (some ((li ox).map cpO))) := by
  have key : ∀ (t : List (Option (List Int))) (i : Nat) (acc : List (Option (List Int))), (li ox).drop i = t → acc.length = i → ref02_CopyLists.L0 (sl SI ox) (.int .i64 (i : Int)) (acc.map SI) = some (.arr ((acc ++ t.map cpO).map SI)) := by
    intro t
    induction t with
    | nil =>
      intro i acc hd ha
      rw [ref02_CopyLists.L0_eq]
      simp only [fLen_sl, fBin_lss, bindO_s, fCond_b, decide_eq_true_eq, Int.ofNat_lt, drop_nil hd, if_false, List.map_nil, List.append_nil]
    | cons x t ih =>
      intro i acc hd ha
      obtain ⟨hk, hn, hs⟩ := drop_cons hd
      have hxl := hx x (List.mem_of_getElem? hn)
      have w : IntKind.i64.wrap ((i : Int) + 1) = ((i + 1 : Nat) : Int) := wrap64 (by omega) (by omega)
      have ih' := ih (i + 1) (acc ++ [cpO x]) hs (by simp [ha])
      rw [ref02_CopyLists.L0_eq]
      simp only [fLen_sl, fBin_lss, bindO_s, fCond_b, decide_eq_true_eq, Int.ofNat_lt, hk, if_true, idx_sl hn (SI_len x), SI_zero, asRows_sl, rowsSz_I, gB_t, List.length_map, ha, show (0 + (li x).length) * 8 ≤ room by unfold room; omega, show (i + 1) * 24 ≤ room by unfold room; omega, decide_true, List.nil_append, fBin_add, w]
      rw [show acc.map SI ++ [[FV.arr ((li x).map I)]] = (acc ++ [cpO x]).map SI by simp [SI, cpO, sl]]
      rw [ih']
      simp
  rw [ref02_CopyLists.eq]
  exact key (li ox) 0 [] rfl rfl
theorem cpPorts_ok {ins : Option (List TPort)} (hs : (li ins).length ≤ 3518437208883) (hv : ∀ q ∈ li ins, (li q.2.1).length ≤ 8796093022208) : ref02_copyPorts (sl P ins) = some (sl P (some (cpPo (li ins)))) := by
  have key : ∀ (t : List TPort) (k : Nat) (acc : List TPort), (li ins).drop k = t → acc.length = k → ref02_copyPorts.L0 (sl P ins) (.int .i64 (k : Int)) (acc.map P) = some (.arr ((acc ++ cpPo t).map P)) := by
    intro t
    induction t with
    | nil =>
      intro k acc hd ha
      rw [ref02_copyPorts.L0_eq]
      simp only [fLen_sl, bindO_s, fBin_lss, fCond_b, decide_eq_true_eq, Int.ofNat_lt, drop_nil hd, if_false, cpPo, List.map_nil, List.append_nil]
    | cons q t ih =>
      intro k acc hd ha
      obtain ⟨hk, hn, hs'⟩ := drop_cons hd
      have w : IntKind.i64.wrap ((k : Int) + 1) = ((k + 1 : Nat) : Int) := wrap64 (by omega) (by omega)
      have hq := hv q (List.mem_of_getElem? hn)
      have ih' := ih (k + 1) (acc ++ [(q.1, some (li q.2.1), ())]) hs' (by simp [ha])
      rw [ref02_copyPorts.L0_eq]
      simp only [fLen_sl, bindO_s, fBin_lss, fCond_b, decide_eq_true_eq, Int.ofNat_lt, hk, if_true, idx_sl hn (P_len _), P_zero, P_one, asRows_sl, List.length_map, show (0 + (li q.2.1).length) * 16 ≤ room by unfold room; omega, ha, show (k + 1) * 40 ≤ room by unfold room; omega, decide_true, gB_t, fBin_add, w, List.nil_append, rowsSz_map (fun s => S_len s)]
      rw [show acc.map P ++ [[FV.str q.1, .arr ((li q.2.1).map S)]] = (acc ++ [((q.1, some (li q.2.1), ()) : TPort)]).map P by simp [P, sl]]
      rw [ih']
      simp [cpPo]
  rw [ref02_copyPorts.eq]
  exact key (li ins) 0 [] rfl rfl
/-- A machine that can be copied. -/
structure CpM (m : TMach) : Prop where
  sts : (li m.2.1).length ≤ 8796093022208
  ins : (li m.2.2.2.1).length ≤ 3518437208883 ∧ ∀ q ∈ li m.2.2.2.1, (li q.2.1).length ≤ 8796093022208
  outs : (li m.2.2.2.2.1).length ≤ 3518437208883 ∧ ∀ q ∈ li m.2.2.2.2.1, (li q.2.1).length ≤ 8796093022208
  rows : (li m.2.2.2.2.2.1).length ≤ 4398046511104 ∧ ∀ r ∈ li m.2.2.2.2.2.1, (li r.2.1).length ≤ 17592186044416
theorem cpMach_ok {m : TMach} (h : CpM m) : ref02_CopyMachine (.agg (MC m)) = some (.agg (MC (cpM m))) := by
  obtain ⟨nm, sts, start, ins, outs, rows, ⟨⟩⟩ := m
  obtain ⟨h1, h2, h3, h4⟩ := h
  simp only at h1 h2 h3 h4
  have key : ∀ (x1 x2 x3 x4 x5 x7 x8 x12 x13 : FV) (r9 r14 r15 r16 r17 : List (List FV)) (t : List TRow) (k : Nat) (acc : List TRow), (li rows).drop k = t → acc.length = k → ref02_CopyMachine.L0 (.int .i64 (k : Int)) x1 x2 x3 x4 x5 (sl RW rows) x7 x8 r9 x1 x3 x12 x13 r14 r15 r16 r17 (acc.map RW) = some (.agg [x1, .arr r9, x3, x12, x13, .arr ((acc ++ cpR t).map RW)]) := by
    intro x1 x2 x3 x4 x5 x7 x8 x12 x13 r9 r14 r15 r16 r17 t
    induction t with
    | nil =>
      intro k acc hd ha
      rw [ref02_CopyMachine.L0_eq]
      simp only [fLen_sl, bindO_s, fBin_lss, fCond_b, decide_eq_true_eq, Int.ofNat_lt, drop_nil hd, if_false, cpR, List.map_nil, List.append_nil]
    | cons r t ih =>
      intro k acc hd ha
      obtain ⟨hk, hn, hs'⟩ := drop_cons hd
      have w : IntKind.i64.wrap ((k : Int) + 1) = ((k + 1 : Nat) : Int) := wrap64 (by omega) (by omega)
      have hq := h4.2 r (List.mem_of_getElem? hn)
      have ih' := ih (k + 1) (acc ++ [(r.1, some (li r.2.1), ())]) hs' (by simp [ha])
      rw [ref02_CopyMachine.L0_eq]
      simp only [fLen_sl, bindO_s, fBin_lss, fCond_b, decide_eq_true_eq, Int.ofNat_lt, hk, if_true, idx_sl hn (RW_len _), RW_zero, RW_one, asRows_sl, rowsSz_I, gB_t, List.length_map, show (0 + (li r.2.1).length) * 8 ≤ room by unfold room; omega, ha, show (k + 1) * 32 ≤ room by unfold room; omega, decide_true, fBin_add, w, List.nil_append]
      rw [show acc.map RW ++ [[FV.int .i64 r.1, .arr ((li r.2.1).map I)]] = (acc ++ [((r.1, some (li r.2.1), ()) : TRow)]).map RW by simp [RW, sl]]
      rw [ih']
      simp [cpR]
  rw [ref02_CopyMachine.eq]
  simp only [MC, fIsAgg_agg, List.length_cons, List.length_nil, fCell_zero, fCell_succ, asRows_sl, bindO_s, rowsSz_map (fun s => S_len s), gB_t, List.length_map, show (0 + (li sts).length) * 16 ≤ room by unfold room; omega, decide_true, cpPorts_ok h2.1 h2.2, cpPorts_ok h3.1 h3.2, List.nil_append]
  rw [show (0 + 1 + 1 + 1 + 1 + 1 + 1 == 6) = true from rfl, gB_t]
  have := key (.str nm) (sl S sts) (.int .i64 start) (sl P ins) (sl P outs) (.str []) (.int .i64 0) (sl P (some (cpPo (li ins)))) (sl P (some (cpPo (li outs)))) ((li sts).map S) [] [] [] [] (li rows) 0 [] rfl rfl
  refine Eq.trans this ?_
  rfl
end Go.Proofs.Ytelcbakleaaneaa
end
section
namespace Go.Proofs.Ytelcbakleaaneaa
open Go Go.Proofs.Ytelcbakleaaneaa.VM
set_option linter.unusedVariables false
set_option linter.unusedSimpArgs false
set_option linter.unusedSectionVars false
/-- A net that can be copied. -/
structure CpNe (n : TNet) : Prop where
  parts : (li n.2.1).length ≤ 5864062014805
  links : (li n.2.2.1).length ≤ 2199023255552 ∧ ∀ l ∈ li n.2.2.1, (li l.2.2.2.1).length ≤ 17592186044416
  ins : (li n.2.2.2.1).length ≤ 8796093022208
  outs : (li n.2.2.2.2.1).length ≤ 8796093022208
section
variable {oms : Option (List TMach)} {ons : Option (List TNet)} (hms : (li oms).length ≤ 1172812402961 ∧ ∀ m ∈ li oms, CpM m) (hns : (li ons).length ≤ 1256584717458 ∧ ∀ n ∈ li ons, CpNe n)
include hms hns
theorem cpBook_L2 {ol : Option (List TLink)} (hl : (li ol).length ≤ 2199023255552 ∧ ∀ l ∈ li ol, (li l.2.2.2.1).length ≤ 17592186044416) {i : Nat} (hi : i < 1256584717458) (x8 x9 x11 x12 x16 x3 x2 : FV) (r4 r5 r6 r7 r13 r14 r15 : List (List FV)) (hr7 : r7.length = i) : ∀ (t : List TLink) (k : Nat) (acc : List TLink), (li ol).drop k = t → acc.length = k →
    ref02_CopyBook.L2 (.int .i64 (i : Int)) (.int .i64 (k : Int)) x2 x3 r4 r5 r6 r7 x8 x9 (sl LK ol) x11 x12 r13 r14 r15 x16 (acc.map LK) =
      ref02_CopyBook.L1 (.int .i64 ((i + 1 : Nat) : Int)) x2 x3 r4 r5 r6 (r7 ++ [[x16, .arr r13, .arr ((acc ++ t.map cpL).map LK), .arr r14, .arr r15]]) := by
  intro t
  induction t with
  | nil =>
    intro k acc hd ha
    have w : IntKind.i64.wrap ((i : Int) + 1) = ((i + 1 : Nat) : Int) := wrap64 (by omega) (by omega)
    rw [ref02_CopyBook.L2_eq]
    simp only [fLen_sl, bindO_s, fBin_lss, fCond_b, decide_eq_true_eq, Int.ofNat_lt, drop_nil hd, if_false, hr7, show (i + 1) * 112 ≤ room by unfold room; omega, decide_true, gB_t, fBin_add, w, List.map_nil, List.append_nil]
  | cons l t ih =>
    intro k acc hd ha
    obtain ⟨hk, hn, hs⟩ := drop_cons hd
    have hq := hl.2 l (List.mem_of_getElem? hn)
    have w : IntKind.i64.wrap ((k : Int) + 1) = ((k + 1 : Nat) : Int) := wrap64 (by omega) (by omega)
    have ih' := ih (k + 1) (acc ++ [cpL l]) hs (by simp [ha])
    rw [ref02_CopyBook.L2_eq]
    simp only [fLen_sl, bindO_s, fBin_lss, fCond_b, decide_eq_true_eq, Int.ofNat_lt, hk, if_true, idx_sl hn (LK_len _), LK_zero, LK_one, LK_two, LK_three, LK_four, LK_five, asRows_sl, rowsSz_I, gB_t, List.length_map, show (0 + (li l.2.2.2.1).length) * 8 ≤ room by unfold room; omega, ha, show (k + 1) * 64 ≤ room by unfold room; omega, decide_true, fBin_add, w, List.nil_append]
    rw [show acc.map LK ++ [[FV.int .i64 l.1.1, .int .i64 l.1.2.1, .int .i64 l.2.1.1, .int .i64 l.2.1.2.1, .int .i64 l.2.2.1, .arr ((li l.2.2.2.1).map I)]] = (acc ++ [cpL l]).map LK by simp [LK, cpL, sl]]
    rw [ih']
    simp
theorem cpBook_L1 (r3 r4 r5 : List (List FV)) : ∀ (t : List TNet) (i : Nat) (acc : List TNet), (li ons).drop i = t → acc.length = i →
    ref02_CopyBook.L1 (.int .i64 (i : Int)) (sl MC oms) (sl NT ons) r3 r4 r5 (acc.map NT) = some (.agg [.arr r5, .arr ((acc ++ t.map cpN).map NT)]) := by
  intro t
  induction t with
  | nil =>
    intro i acc hd ha
    rw [ref02_CopyBook.L1_eq]
    simp only [fLen_sl, bindO_s, fBin_lss, fCond_b, decide_eq_true_eq, Int.ofNat_lt, drop_nil hd, if_false, List.map_nil, List.append_nil]
  | cons n t ih =>
    intro i acc hd ha
    obtain ⟨hk, hn, hs⟩ := drop_cons hd
    obtain ⟨q1, q2, q3, q4⟩ := hns.2 n (List.mem_of_getElem? hn)
    have ih' := ih (i + 1) (acc ++ [cpN n]) hs (by simp [ha])
    obtain ⟨nm, ps, ls, is, os, ⟨⟩⟩ := n
    simp only at q1 q2 q3 q4
    have c0 : (NT (nm, ps, ls, is, os, ()))[0]? = some (.str nm) := rfl
    have c1 : (NT (nm, ps, ls, is, os, ()))[1]? = some (sl PT ps) := rfl
    have c2 : (NT (nm, ps, ls, is, os, ()))[2]? = some (sl LK ls) := rfl
    have c3 : (NT (nm, ps, ls, is, os, ()))[3]? = some (sl PN is) := rfl
    have c4 : (NT (nm, ps, ls, is, os, ()))[4]? = some (sl PN os) := rfl
    have hix : fIdxC 5 (sl NT ons) (.int .i64 (i : Int)) = some (NT (nm, ps, ls, is, os, ())) := idx_sl hn rfl
    have l2 := cpBook_L2 hms hns (ol := ls) q2 (i := i) (by omega) (.str nm) (sl PT ps) (sl PN is) (sl PN os) (.str nm) (sl NT ons) (sl MC oms) r3 r4 r5 (acc.map NT) ((li ps).map PT) ((li is).map PN) ((li os).map PN) (by simp [ha]) (li ls) 0 [] rfl rfl
    rw [ref02_CopyBook.L1_eq]
    simp only [fLen_sl, bindO_s, fBin_lss, fCond_b, decide_eq_true_eq, Int.ofNat_lt, hk, if_true, hix, c0, c1, c2, c3, c4, asRows_sl, rowsSz_map (fun p => PT_len p), rowsSz_map (fun p => PN_len p), gB_t, List.length_map, show (0 + (li ps).length) * 24 ≤ room by unfold room; omega, show (0 + (li is).length) * 16 ≤ room by unfold room; omega, show (0 + (li os).length) * 16 ≤ room by unfold room; omega, decide_true, List.nil_append]
    refine Eq.trans l2 ?_
    rw [show acc.map NT ++ [[FV.str nm, .arr ((li ps).map PT), .arr (((([] : List TLink)) ++ (li ls).map cpL).map LK), .arr ((li is).map PN), .arr ((li os).map PN)]] = (acc ++ [cpN (nm, ps, ls, is, os, ())]).map NT by simp [NT, cpN, sl]]
    rw [ih']
    simp
theorem cpBook_L0 (r3 r4 : List (List FV)) : ∀ (t : List TMach) (i : Nat) (acc : List TMach), (li oms).drop i = t → acc.length = i →
    ref02_CopyBook.L0 (.int .i64 (i : Int)) (sl MC oms) (sl NT ons) r3 r4 (acc.map MC) [] = some (.agg [.arr ((acc ++ t.map cpM).map MC), .arr (((li ons).map cpN).map NT)]) := by
  intro t
  induction t with
  | nil =>
    intro i acc hd ha
    rw [ref02_CopyBook.L0_eq]
    simp only [fLen_sl, bindO_s, fBin_lss, fCond_b, decide_eq_true_eq, Int.ofNat_lt, drop_nil hd, if_false, List.map_nil, List.append_nil]
    exact cpBook_L1 hms hns r3 r4 (acc.map MC) (li ons) 0 [] rfl rfl
  | cons m t ih =>
    intro i acc hd ha
    obtain ⟨hk, hn, hs⟩ := drop_cons hd
    have hc := cpMach_ok (hms.2 m (List.mem_of_getElem? hn))
    have w : IntKind.i64.wrap ((i : Int) + 1) = ((i + 1 : Nat) : Int) := wrap64 (by omega) (by omega)
    have ih' := ih (i + 1) (acc ++ [cpM m]) hs (by simp [ha])
    obtain ⟨nm, sts, start, ins, outs, rows, ⟨⟩⟩ := m
    have c0 : (MC (nm, sts, start, ins, outs, rows, ()))[0]? = some (.str nm) := rfl
    have c1 : (MC (nm, sts, start, ins, outs, rows, ()))[1]? = some (sl S sts) := rfl
    have c2 : (MC (nm, sts, start, ins, outs, rows, ()))[2]? = some (.int .i64 start) := rfl
    have c3 : (MC (nm, sts, start, ins, outs, rows, ()))[3]? = some (sl P ins) := rfl
    have c4 : (MC (nm, sts, start, ins, outs, rows, ()))[4]? = some (sl P outs) := rfl
    have c5 : (MC (nm, sts, start, ins, outs, rows, ()))[5]? = some (sl RW rows) := rfl
    have hix : fIdxC 6 (sl MC oms) (.int .i64 (i : Int)) = some (MC (nm, sts, start, ins, outs, rows, ())) := idx_sl hn rfl
    rw [ref02_CopyBook.L0_eq]
    simp only [fLen_sl, bindO_s, fBin_lss, fCond_b, decide_eq_true_eq, Int.ofNat_lt, hk, if_true, hix, c0, c1, c2, c3, c4, c5]
    rw [show ref02_CopyMachine (.agg [.str nm, sl S sts, .int .i64 start, sl P ins, sl P outs, sl RW rows]) = _ from hc]
    simp only [bindO_s, List.length_map, ha, show (i + 1) * 120 ≤ room by unfold room; omega, decide_true, gB_t, fBin_add, w]
    rw [show fIsAgg 6 (.agg (MC (cpM (nm, sts, start, ins, outs, rows, ())))) = true from rfl, gB_t]
    rw [show acc.map MC ++ [[fCell (.agg (MC (cpM (nm, sts, start, ins, outs, rows, ())))) 0, fCell (.agg (MC (cpM (nm, sts, start, ins, outs, rows, ())))) 1, fCell (.agg (MC (cpM (nm, sts, start, ins, outs, rows, ())))) 2, fCell (.agg (MC (cpM (nm, sts, start, ins, outs, rows, ())))) 3, fCell (.agg (MC (cpM (nm, sts, start, ins, outs, rows, ())))) 4, fCell (.agg (MC (cpM (nm, sts, start, ins, outs, rows, ())))) 5]] = (acc ++ [cpM (nm, sts, start, ins, outs, rows, ())]).map MC by rw [List.map_append]; rfl]
    rw [ih']
    simp
theorem cpBook_ok : ref02_CopyBook (.agg [sl MC oms, sl NT ons]) = some (.agg [sl MC (some ((li oms).map cpM)), sl NT (some ((li ons).map cpN))]) := by
  rw [ref02_CopyBook.eq]
  simp only [fIsAgg_agg, List.length_cons, List.length_nil, fCell_zero, fCell_succ]
  rw [show (0 + 1 + 1 == 2) = true from rfl, gB_t]
  exact cpBook_L0 hms hns [] [] (li oms) 0 [] rfl rfl
end
end Go.Proofs.Ytelcbakleaaneaa
end
section
namespace Go.Proofs.Ytelcbakleaaneaa
open Go Go.Proofs.Ytelcbakleaaneaa.VM
set_option linter.unusedVariables false
set_option linter.unusedSimpArgs false
set_option linter.unusedSectionVars false
/-- Rows that say the same. -/
def Req (a b : TRow) : Prop := a.1 = b.1 ∧ li a.2.1 = li b.2.1
theorem req_go {F F' : (Nat → TRow) → Nat → TRow} (hF : ∀ w w' : Nat → TRow, (∀ i, Req (w' i) (w i)) → ∀ p, Req (F' w' p) (F w p)) : ∀ (o : List Nat) (w w' : Nat → TRow), (∀ i, Req (w' i) (w i)) → ∀ i, Req (wGo F' o w' i) (wGo F o w i)
  | [], _, _, h => h
  | p :: o, w, w', h => by
    simp only [wGo]
    refine req_go hF o _ _ fun i => ?_
    unfold upd
    by_cases e : i = p
    · simp only [e, if_true]; exact hF w w' h p
    · simp only [e, if_false]; exact h i
section
variable {ms : List TMach} {ps : List TPart}
theorem cp_get (k : Nat) (d : TMach) (hd : d = ([], none, 0, none, none, none, ())) : li ((ms.map cpM).getD k d).2.2.2.1 = cpPo (li (ms.getD k d).2.2.2.1) ∧ li ((ms.map cpM).getD k d).2.2.2.2.1 = cpPo (li (ms.getD k d).2.2.2.2.1) ∧ ((ms.map cpM).getD k d).2.2.1 = (ms.getD k d).2.2.1 ∧ li ((ms.map cpM).getD k d).2.2.2.2.2.1 = cpR (li (ms.getD k d).2.2.2.2.2.1) := by
  subst hd
  rw [List.getD_eq_getElem?_getD, List.getD_eq_getElem?_getD, List.getElem?_map]
  cases h : ms[k]? with
  | none => exact ⟨rfl, rfl, rfl, rfl⟩
  | some m => exact ⟨rfl, rfl, rfl, rfl⟩
theorem cp_ins (i : Int) : insAt (ms.map cpM) ps i = cpPo (insAt ms ps i) := (cp_get _ _ rfl).1
theorem cp_outs (i : Int) : outsAt (ms.map cpM) ps i = cpPo (outsAt ms ps i) := (cp_get _ _ rfl).2.1
theorem cpPo_len (l : List TPort) : (cpPo l).length = l.length := by simp [cpPo]
theorem cpPo_get (l : List TPort) (k : Nat) : li ((cpPo l).getD k ([], none, ())).2.1 = li (l.getD k ([], none, ())).2.1 := by
  unfold cpPo
  rw [List.getD_eq_getElem?_getD, List.getD_eq_getElem?_getD, List.getElem?_map]
  cases l[k]? <;> rfl
theorem cp_inAt (p : TPin) : li (inAt (ms.map cpM) ps p).2.1 = li (inAt ms ps p).2.1 := by
  unfold inAt
  rw [cp_ins, cpPo_get]
theorem cp_outAt (p : TPin) : li (outAt (ms.map cpM) ps p).2.1 = li (outAt ms ps p).2.1 := by
  unfold outAt
  rw [cp_outs, cpPo_get]
theorem cp_isIn (p : TPin) : isInB (ms.map cpM) ps p = isInB ms ps p := by
  unfold isInB
  rw [cp_ins, cpPo_len]
theorem cp_isOut (p : TPin) : isOutB (ms.map cpM) ps p = isOutB ms ps p := by
  unfold isOutB
  rw [cp_outs, cpPo_len]
theorem cp_EE {ls : List TLink} {u v : Nat} : EE (ls.map cpL) u v ↔ EE ls u v := by
  unfold EE
  constructor
  · rintro ⟨l, hl, h1, h2, h3⟩
    obtain ⟨l0, hl0, rfl⟩ := List.mem_map.1 hl
    exact ⟨l0, hl0, h1, h2, h3⟩
  · rintro ⟨l, hl, h1, h2, h3⟩
    exact ⟨cpL l, List.mem_map_of_mem hl, h1, h2, h3⟩
theorem cp_fed (ls : List TLink) : fed (ls.map cpL) = fed ls := by
  unfold fed
  rw [List.map_map]; rfl
theorem cp_netP {nm : Str} {ls : List TLink} {is os : List TPin} (h : NetP ms nm ps ls is os) : NetP (ms.map cpM) nm ps (ls.map cpL) is os := by
  have ok := h.ok
  refine ⟨h.nm, h.pnm, h.pnd, ⟨ok.n32, by rw [List.length_map]; exact ok.pin, by rw [List.length_map]; exact ok.l64, fun l hl => ?_, fun p hp => by rw [cp_isIn]; exact ok.iok p hp, by rw [cp_fed]; exact ok.nd, fun p hp => by rw [cp_isOut]; exact ok.ook p hp, fun a b ha hb => by rw [cp_fed]; rw [cp_ins, cpPo_len] at hb; exact ok.whole a b ha hb, ?_⟩, h.ond⟩
  · obtain ⟨l0, hl0, rfl⟩ := List.mem_map.1 hl
    have k := ok.lok l0 hl0
    exact ⟨by rw [cp_isOut]; exact k.out, by rw [cp_isIn]; exact k.inn, k.del, k.len, by rw [cp_outAt]; exact k.init, by rw [cp_outAt, cp_inAt]; exact k.fit⟩
  · obtain ⟨r, hr⟩ := ok.rank
    exact ⟨r, fun u v e => hr u v (cp_EE.1 e)⟩
theorem cp_prod : ∀ l : List TPort, prodL (cpPo l) = prodL l
  | [] => rfl
  | q :: l => by
    have ih := cp_prod l
    simp only [cpPo, List.map_cons, prodL, li_some] at ih ⊢
    rw [ih]
theorem cp_num : ∀ (l : List TPort) (v : List Int) (a : Nat), numGo (cpPo l) v a = numGo l v a
  | [], v, a => by simp [cpPo, numGo]
  | q :: l, [], a => by simp [cpPo, numGo]
  | q :: l, x :: v, a => by
    have ih := cp_num l v (a * (li q.2.1).length + x.toNat)
    simp only [cpPo, List.map_cons, numGo, li_some] at ih ⊢
    rw [ih]
theorem cp_row (ins : List TPort) (rows : List TRow) (st : Nat) (v : List Int) : Req (rowAt (cpPo ins) (cpR rows) st v) (rowAt ins rows st v) := by
  unfold rowAt cpR
  rw [cp_prod, cp_num, List.getD_eq_getElem?_getD, List.getD_eq_getElem?_getD, List.getElem?_map]
  cases rows[st * prodL ins + numGo ins v 0]? with
  | none => exact ⟨rfl, rfl⟩
  | some r => exact ⟨rfl, rfl⟩
theorem cp_src {w w' : Nat → TRow} (hw : ∀ i, Req (w' i) (w i)) : ∀ (ls : List TLink) (Q : List (List Int)), srcLs w' (ls.map cpL) Q = srcLs w ls Q
  | [], _ => by simp [srcLs]
  | l :: ls, [] => by simp [srcLs]
  | l :: ls, q :: Q => by
    have ih := cp_src hw ls Q
    have e : linkVal w' q (cpL l) = linkVal w q l := by
      unfold linkVal
      simp only [cpL, (hw l.1.1.toNat).2]
    unfold srcLs at ih ⊢
    simp only [List.map_cons, List.zip_cons_cons, ih, e]
    rfl
theorem cp_rowOf {is : List TPin} {x : List Int} {ls : List TLink} {Q : List (List Int)} {sts : List Int} (w w' : Nat → TRow) (hw : ∀ i, Req (w' i) (w i)) (p : Nat) : Req (rowOf (ms.map cpM) ps is x (ls.map cpL) Q sts w' p) (rowOf ms ps is x ls Q sts w p) := by
  unfold rowOf
  rw [cp_ins, cp_src hw]
  have e1 : li (mAt (ms.map cpM) ps p).2.2.2.2.2.1 = cpR (li (mAt ms ps p).2.2.2.2.2.1) := (cp_get _ _ rfl).2.2.2
  have e2 : vecOf (ms.map cpM) ps (is.zip x ++ srcLs w ls Q) p = vecOf ms ps (is.zip x ++ srcLs w ls Q) p := by
    unfold vecOf
    rw [cp_ins, cpPo_len]
  rw [e1, e2]
  exact cp_row _ _ _ _
theorem cp_sol {is : List TPin} {x : List Int} {ls : List TLink} {Q : List (List Int)} {sts : List Int} (o : List Nat) (i : Nat) : Req (solW (ms.map cpM) ps is x (ls.map cpL) Q sts o i) (solW ms ps is x ls Q sts o i) :=
  req_go (fun w w' h p => cp_rowOf w w' h p) o w0 w0 (fun _ => ⟨rfl, rfl⟩) i
theorem cp_nextQ {w w' : Nat → TRow} (hw : ∀ i, Req (w' i) (w i)) : ∀ (ls : List TLink) (Q : List (List Int)), nextQ w' (ls.map cpL) Q = nextQ w ls Q
  | [], _ => by simp [nextQ]
  | l :: ls, [] => by simp [nextQ]
  | l :: ls, q :: Q => by
    have ih := cp_nextQ hw ls Q
    unfold nextQ at ih ⊢
    simp only [List.map_cons, List.zip_cons_cons, ih, cpL, (hw l.1.1.toNat).2]
theorem cp_netGo {is os : List TPin} {ls : List TLink} (o : List Nat) : ∀ (xs : List (Option (List Int))) (sts : List Int) (Q : List (List Int)), netGo (ms.map cpM) ps (ls.map cpL) is os o sts Q (xs.map cpO) = netGo ms ps ls is os o sts Q xs
  | [], _, _ => rfl
  | x :: xs, sts, Q => by
    have hW := fun i => cp_sol (ms := ms) (ps := ps) (is := is) (x := li x) (ls := ls) (Q := Q) (sts := sts) o i
    have e1 : shown (solW (ms.map cpM) ps is (li x) (ls.map cpL) Q sts o) os = shown (solW ms ps is (li x) ls Q sts o) os := by
      unfold shown
      exact List.map_congr_left fun p _ => by rw [(hW p.1.toNat).2]
    have e2 : nextS ps.length (solW (ms.map cpM) ps is (li x) (ls.map cpL) Q sts o) = nextS ps.length (solW ms ps is (li x) ls Q sts o) := by
      unfold nextS
      exact List.map_congr_left fun p _ => (hW p).1
    have e3 := cp_nextQ hW ls Q
    simp only [List.map_cons, netGo, cpO, li_some]
    rw [e1, e2, e3]
    congr 1
    exact cp_netGo o xs _ _
end
end Go.Proofs.Ytelcbakleaaneaa
end
section
namespace Go.Proofs.Ytelcbakleaaneaa
open Go Go.Proofs.Ytelcbakleaaneaa.VM
set_option linter.unusedVariables false
set_option linter.unusedSimpArgs false
set_option linter.unusedSectionVars false
theorem portsGo_cpo : ∀ (l : List TPort) (m : List Str), portsGo m (cpPo l) = portsGo m l
  | [], m => rfl
  | q :: l, m => by
    have ih := portsGo_cpo l (m ++ [q.1])
    simp only [cpPo, List.map_cons, portsGo, li_some] at ih ⊢
    rw [ih]
    rfl
theorem fitGo_cpo : ∀ (l : List TPort) (v : List Int), fitGo (cpPo l) v = fitGo l v
  | [], v => by simp [cpPo, fitGo]
  | q :: l, [] => by simp [cpPo, fitGo]
  | q :: l, x :: v => by
    have ih := fitGo_cpo l v
    simp only [cpPo, List.map_cons, fitGo, li_some] at ih ⊢
    rw [ih]
    rfl
theorem rowsOk_cpo (n : Nat) (outs : List TPort) (rows : List TRow) : rowsOk n (cpPo outs) (cpR rows) = rowsOk n outs rows := by
  unfold rowsOk cpR
  rw [List.all_map]
  congr 1
  funext r
  simp only [Function.comp, rowOk, fitP, cpPo_len, fitGo_cpo, li_some]
theorem checkP_cp (m : TMach) : checkP (cpM m) = checkP m := by
  have e : cpPo (li m.2.2.2.1) ++ cpPo (li m.2.2.2.2.1) = cpPo (li m.2.2.2.1 ++ li m.2.2.2.2.1) := by simp [cpPo]
  unfold checkP checkG
  simp only [cpM, li_some, cpPo_len, e, portsGo_cpo, cp_prod, rowsOk_cpo, show ∀ l : List TRow, (cpR l).length = l.length from fun l => by simp [cpR]]
theorem machinesGo_cp : ∀ (l : List TMach) (s : List Str), machinesGo s (l.map cpM) = machinesGo s l
  | [], _ => rfl
  | m :: l, s => by
    simp only [List.map_cons, machinesGo, checkP_cp]
    rw [show (cpM m).1 = m.1 from rfl, machinesGo_cp l]
theorem fitGo_lens : ∀ (a b : List TPort) (v : List Int), a.map (fun q => (li q.2.1).length) = b.map (fun q => (li q.2.1).length) → fitGo a v = fitGo b v
  | [], [], _, _ => rfl
  | [], _ :: _, _, h => by simp at h
  | _ :: _, [], _, h => by simp at h
  | p :: a, q :: b, [], _ => by simp [fitGo]
  | p :: a, q :: b, x :: v, h => by
    simp only [List.map_cons, List.cons.injEq] at h
    simp only [fitGo, h.1, fitGo_lens a b v h.2]
theorem fitAll_cp {ms : List TMach} {ps : List TPart} {is : List TPin} (xs : List (Option (List Int))) : fitAll (is.map (inAt (ms.map cpM) ps)) (xs.map cpO) = fitAll (is.map (inAt ms ps)) xs := by
  unfold fitAll
  rw [List.all_map]
  congr 1
  funext x
  simp only [Function.comp, cpO, li_some, fitP, List.length_map]
  congr 1
  refine fitGo_lens _ _ _ ?_
  rw [List.map_map, List.map_map]
  exact List.map_congr_left fun p _ => by simp only [Function.comp, cp_inAt]
theorem cp_netR {ms : List TMach} {ps : List TPart} {ls : List TLink} {is os : List TPin} (o : List Nat) (xs : List (Option (List Int))) : netR (ms.map cpM) ps (ls.map cpL) is os o (xs.map cpO) = netR ms ps ls is os o xs := by
  have e1 : sts0 (ms.map cpM) ps = sts0 ms ps := by
    unfold sts0
    exact List.map_congr_left fun p _ => (cp_get _ _ rfl).2.2.1
  have e2 : q0 (ls.map cpL) = q0 ls := by
    unfold q0
    rw [List.map_map]; rfl
  unfold netR
  rw [fitAll_cp, e1, e2, cp_netGo]
end Go.Proofs.Ytelcbakleaaneaa
end
section
namespace Go.Proofs.Ytelcbakleaaneaa
open Go Go.Proofs.Ytelcbakleaaneaa.VM
set_option linter.unusedVariables false
set_option linter.unusedSimpArgs false
set_option linter.unusedSectionVars false
theorem netCk_parts {ms : List TMach} {ns : List TNet} {i : Int} (h : netCk ms ns i = 0) : 0 ≤ i ∧ i.toNat < ns.length ∧ machinesGo [] ms = 0 ∧ netC ms (ns.getD i.toNat net0).1 (li (ns.getD i.toNat net0).2.1) (li (ns.getD i.toNat net0).2.2.1) (li (ns.getD i.toNat net0).2.2.2.1) (li (ns.getD i.toNat net0).2.2.2.2.1) = 0 := by
  unfold netCk at h
  by_cases g1 : i < 0
  · rw [if_pos g1] at h; omega
  rw [if_neg g1] at h
  by_cases g2 : (ns.length : Int) ≤ i
  · rw [if_pos g2] at h; omega
  rw [if_neg g2] at h
  by_cases g3 : machinesGo [] ms ≠ 0
  · rw [if_pos g3] at h; exact absurd h g3
  rw [if_neg g3] at h
  exact ⟨by omega, by omega, Decidable.not_not.1 g3, h⟩
theorem netCk_of {ms : List TMach} {ns : List TNet} {i : Int} (h0 : 0 ≤ i) (h1 : i.toNat < ns.length) (h2 : machinesGo [] ms = 0) (h3 : netC ms (ns.getD i.toNat net0).1 (li (ns.getD i.toNat net0).2.1) (li (ns.getD i.toNat net0).2.2.1) (li (ns.getD i.toNat net0).2.2.2.1) (li (ns.getD i.toNat net0).2.2.2.2.1) = 0) : netCk ms ns i = 0 := by
  unfold netCk
  rw [if_neg (by omega), if_neg (by omega), if_neg (by simp [h2]), h3]
theorem cpN_get {ns : List TNet} {k : Nat} (h : k < ns.length) : (ns.map cpN).getD k net0 = cpN (ns.getD k net0) := by
  simp [h]
theorem netCk_cp {ms : List TMach} {ns : List TNet} {i : Int} (h : netCk ms ns i = 0) : netCk (ms.map cpM) (ns.map cpN) i = 0 := by
  obtain ⟨h0, h1, h2, h3⟩ := netCk_parts h
  refine netCk_of h0 (by simpa using h1) (by rw [machinesGo_cp]; exact h2) ?_
  rw [cpN_get h1]
  exact netC_of (cp_netP (netP h3))
theorem runNetR_cp {ms : List TMach} {ns : List TNet} {i : Int} (h : netCk ms ns i = 0) {o o' : List Nat} (ho : Ord (EE (li (ns.getD i.toNat net0).2.2.1)) (li (ns.getD i.toNat net0).2.1).length o)
    (ho' : Ord (EE (li ((ns.map cpN).getD i.toNat net0).2.2.1)) (li ((ns.map cpN).getD i.toNat net0).2.1).length o') (xs : List (Option (List Int))) : runNetR (ms.map cpM) (ns.map cpN) i o' (xs.map cpO) = runNetR ms ns i o xs := by
  obtain ⟨h0, h1, h2, h3⟩ := netCk_parts h
  unfold runNetR
  have z : ¬ ((0 : Int) ≠ 0) := by simp
  rw [netCk_cp h, h, if_neg z, if_neg z, List.length_map]
  rw [cpN_get h1] at ho' ⊢
  have ho2 : Ord (EE (li (ns.getD i.toNat net0).2.2.1)) (li (ns.getD i.toNat net0).2.1).length o' :=
    ⟨ho'.nd, ho'.lt, ho'.len, fun u v e hv => ho'.topo u v (cp_EE.2 e) hv⟩
  by_cases g : 4096 < (xs.length : Int)
  · rw [if_pos g, if_pos g]
  · rw [if_neg g, if_neg g]
    have e1 := cp_netR (ms := ms) (ps := li (ns.getD i.toNat net0).2.1) (ls := li (ns.getD i.toNat net0).2.2.1) (is := li (ns.getD i.toNat net0).2.2.2.1) (os := li (ns.getD i.toNat net0).2.2.2.2.1) o' xs
    refine Eq.trans e1 ?_
    unfold netR
    rw [netGo_order (okN h3) ho2 ho]
/-- The book of the one net in another order. -/
theorem runNetR_other {ms : List TMach} {ns : List TNet} {i : Int} (h : netCk ms ns i = 0) {ps' : List TPart} {ls' : List TLink} {τ σ : Nat → Nat} (hO : Other (li (ns.getD i.toNat net0).2.1) ps' (li (ns.getD i.toNat net0).2.2.1) ls' τ σ) {o o' : List Nat} (ho : Ord (EE (li (ns.getD i.toNat net0).2.2.1)) (li (ns.getD i.toNat net0).2.1).length o) (ho' : Ord (EE ls') ps'.length o') (xs : List (Option (List Int))) :
    netCk ms [((ns.getD i.toNat net0).1, some ps', some ls', some ((li (ns.getD i.toNat net0).2.2.2.1).map (mvP τ)), some ((li (ns.getD i.toNat net0).2.2.2.2.1).map (mvP τ)), ())] 0 = 0 ∧
    runNetR ms [((ns.getD i.toNat net0).1, some ps', some ls', some ((li (ns.getD i.toNat net0).2.2.2.1).map (mvP τ)), some ((li (ns.getD i.toNat net0).2.2.2.2.1).map (mvP τ)), ())] 0 o' xs = runNetR ms ns i o xs := by
  obtain ⟨h0, h1, h2, h3⟩ := netCk_parts h
  have hP := netP h3
  have ck : netCk ms [((ns.getD i.toNat net0).1, some ps', some ls', some ((li (ns.getD i.toNat net0).2.2.2.1).map (mvP τ)), some ((li (ns.getD i.toNat net0).2.2.2.2.1).map (mvP τ)), ())] 0 = 0 :=
    netCk_of (by decide) (by simp) h2 (netC_of (hO.netP hP))
  refine ⟨ck, ?_⟩
  unfold runNetR
  have z : ¬ ((0 : Int) ≠ 0) := by simp
  rw [ck, h, if_neg z, if_neg z]
  by_cases g : 4096 < (xs.length : Int)
  · rw [if_pos g, if_pos g]
  · rw [if_neg g, if_neg g]
    exact netR_other hO hP.ok ho ho' xs
end Go.Proofs.Ytelcbakleaaneaa
end
section
namespace Go.Proofs.Ytelcbakleaaneaa
open Go Go.Proofs.Ytelcbakleaaneaa.VM
set_option linter.unusedVariables false
set_option linter.unusedSimpArgs false
set_option linter.unusedSectionVars false
theorem cp_SmM {m : TMach} (h : SmM m) : SmM (cpM m) := by
  refine ⟨h.nm, h.sts, ⟨by simp only [cpM, li_some, cpPo_len]; exact h.ins.1, fun p hp => ?_⟩, ⟨by simp only [cpM, li_some, cpPo_len]; exact h.outs.1, fun p hp => ?_⟩, ⟨by simp only [cpM, li_some]; simpa [cpR] using h.rows.1, fun r hr => ?_⟩⟩
  · obtain ⟨q, hq, rfl⟩ := List.mem_map.1 hp
    exact h.ins.2 q hq
  · obtain ⟨q, hq, rfl⟩ := List.mem_map.1 hp
    exact h.outs.2 q hq
  · obtain ⟨q, hq, rfl⟩ := List.mem_map.1 hr
    exact h.rows.2 q hq
theorem cp_SmN {n : TNet} (h : SmN n) : SmN (cpN n) := by
  obtain ⟨h1, h2, h3, h4, h5⟩ := h
  refine ⟨h1, h2, ⟨by simp only [cpN, li_some, List.length_map]; exact h3.1, fun l hl => ?_⟩, h4, h5⟩
  obtain ⟨l0, hl0, rfl⟩ := List.mem_map.1 hl
  exact h3.2 l0 hl0
section
variable {oms : Option (List TMach)} {ons : Option (List TNet)} (hcm : (li oms).length ≤ 1172812402961 ∧ ∀ m ∈ li oms, CpM m) (hcn : (li ons).length ≤ 1256584717458 ∧ ∀ n ∈ li ons, CpNe n) (hsm : ∀ m ∈ li oms, SmM m) (hns : ∀ n ∈ li ons, SmN n) (i : Int)
include hcm hcn hsm hns
theorem order_bad {x2 : List FV} (hx2 : x2.length = 3) (g : netCk (li oms) (li ons) i ≠ 0) : law02_MachAnyOrder (.agg [sl MC oms, sl NT ons]) (.int .i64 i) (.agg x2) = some (.bool true) := by
  obtain ⟨c1, c2⟩ := checkNet_ok (oms := oms) (ons := ons) (by omega) hsm hns i
  rw [law02_MachAnyOrder.eq]
  rw [show fIsAgg 3 (.agg x2) = true by simp [hx2]]
  simp only [fIsAgg_agg, List.length_cons, List.length_nil, fCell_zero, fCell_succ, c1, c2, bindO_s, fBin_neq, ne_eq, g, not_false_eq_true, decide_true, fCond_b, if_true, fBin_eql, gB_t]
  rw [show (0 + 1 + 1 == 2) = true from rfl, gB_t]
omit hcm hcn hsm hns in
theorem run_same {ox : Option (List (Option (List Int)))} (hlo : ∀ n ∈ li ons, (li n.2.2.2.2.1).length < 10000000000000) (g : netCk (li oms) (li ons) i = 0) (o : List Nat) :
    ref02_SameLists (sl LL (runNetR (li oms) (li ons) i o (li ox)).1) (sl LL (runNetR (li oms) (li ons) i o (li ox)).1) = some (.bool true) ∧ ((runNetR (li oms) (li ons) i o (li ox)).2 = 0 → (li (runNetR (li oms) (li ons) i o (li ox)).1).length = (li ox).length) := by
  unfold runNetR
  rw [if_neg (by simp [g])]
  by_cases g2 : 4096 < ((li ox).length : Int)
  · rw [if_pos g2]; exact ⟨sameLists_nil, fun h => by cases h⟩
  rw [if_neg g2]
  unfold netR
  split
  · refine ⟨sameLists_ok (by rw [netGo_len]; omega) fun y hy => ?_, fun _ => by simp [netGo_len]⟩
    rw [netGo_each _ _ _ _ _ _ _ _ _ y hy]
    by_cases hi : i.toNat < (li ons).length
    · have hn : (li ons)[i.toNat]? = some ((li ons).getD i.toNat net0) := by rw [List.getD_eq_getElem?_getD, List.getElem?_eq_getElem hi, Option.getD_some]
      have := hlo _ (List.mem_of_getElem? hn)
      omega
    · rw [List.getD_eq_getElem?_getD, List.getElem?_eq_none (by omega)]
      simp [net0]
  · exact ⟨sameLists_nil, fun h => by cases h⟩
theorem order_ok {ox : Option (List (Option (List Int)))} {oP oL : Option (List Int)} (hox : (li ox).length ≤ 5864062014805) (hxl : ∀ x ∈ li ox, (li x).length ≤ 17592186044416) (g : netCk (li oms) (li ons) i = 0) : law02_MachAnyOrder (.agg [sl MC oms, sl NT ons]) (.int .i64 i) (.agg [sl SI ox, sl I oP, sl I oL]) = some (.bool true) := by
  obtain ⟨c1, c2⟩ := checkNet_ok (oms := oms) (ons := ons) (by omega) hsm hns i
  obtain ⟨h0, h1, h2, h3⟩ := netCk_parts g
  have hn : (li ons)[i.toNat]? = some ((li ons).getD i.toNat net0) := by simp [h1]
  have hcpn := hcn.2 _ (List.mem_of_getElem? hn)
  have hsn := hns _ (List.mem_of_getElem? hn)
  have hix : fIdxC 5 (sl NT ons) (.int .i64 i) = some (NT ((li ons).getD i.toNat net0)) := by
    rw [show i = ((i.toNat : Nat) : Int) by omega]
    exact idx_sl (by rw [Int.toNat_natCast]; exact hn) rfl
  have hlo : ∀ n ∈ li ons, (li n.2.2.2.2.1).length < 10000000000000 := fun n hn => by have := (hcn.2 n hn).outs; omega
  obtain ⟨o1, w1, _, m1⟩ := runNet_ok (oms := oms) (ons := ons) (ox := ox) (by omega) hsm hns i hlo
  obtain ⟨o1', w1', m1', _⟩ := runNet_ok (oms := oms) (ons := ons) (ox := ox) (by omega) hsm hns i hlo
  obtain ⟨o2, w2, _, m2⟩ := runNet_ok (oms := some ((li oms).map cpM)) (ons := some ((li ons).map cpN)) (ox := some ((li ox).map cpO)) (by simp only [li_some, List.length_map]; omega) (fun m hm => by
    obtain ⟨m0, hm0, rfl⟩ := List.mem_map.1 hm
    exact cp_SmM (hsm m0 hm0)) (fun n hn => by
    obtain ⟨n0, hn0, rfl⟩ := List.mem_map.1 hn
    exact cp_SmN (hns n0 hn0)) i (fun n hn => by
    obtain ⟨n0, hn0, rfl⟩ := List.mem_map.1 hn
    exact hlo n0 hn0)
  have hbk := cpBook_ok hcm hcn
  have hls := cpLists_ok hox hxl
  have e2 := runNetR_cp g (w1 g) (w2 (netCk_cp g)) (li ox)
  have e1 : runNetR (li oms) (li ons) i o1' (li ox) = runNetR (li oms) (li ons) i o1 (li ox) := by
    unfold runNetR netR
    rw [netGo_order (okN h3) (w1' g) (w1 g)]
  simp only [li_some] at m2
  rw [e2] at m2
  rw [e1] at m1'
  have R3 := @runNetR_other (li oms) (li ons) i g
  have hR := run_same (oms := oms) i (ox := ox) hlo g o1
  generalize hgen : (li ons).getD i.toNat net0 = n at *
  obtain ⟨nm, ops, ol, oi, oo, ⟨⟩⟩ := n
  simp only at h3 hcpn hsn w1
  have ok := okN h3
  have n32 := ok.n32
  have l64 := ok.l64
  obtain ⟨at', ha, ta⟩ := turned_ok (n := (li ops).length) (by omega) (o := oP)
  obtain ⟨by', hb, tb⟩ := turned_ok (n := (li ol).length) (by omega) (o := oL)
  have hO := other_of (ps := li ops) (ls := li ol) ha hb ([], 0, ()) dL
  have hsN : SmN (nm, some (at'.map fun i => (li ops).getD i ([], 0, ())), some (by'.map fun i => mvL (fun t => at'.idxOf t) ((li ol).getD i dL)), some ((li oi).map (mvP fun t => at'.idxOf t)), some ((li oo).map (mvP fun t => at'.idxOf t)), ()) := by
    refine ⟨hsn.1, ⟨by simp only [li_some, List.length_map, ha.length_eq, List.length_range]; omega, fun p hp => ?_⟩, ⟨by simp only [li_some, List.length_map, hb.length_eq, List.length_range]; omega, fun l hl => ?_⟩, by simpa using hsn.2.2.2.1, by simpa using hsn.2.2.2.2⟩
    · obtain ⟨j, hj, rfl⟩ := List.mem_map.1 hp
      have hj' := (ha.mem_iff (a := j)).1 hj
      rw [List.mem_range] at hj'
      refine hsn.2.1.2 _ ?_
      simp only [List.getD_eq_getElem?_getD, List.getElem?_eq_getElem hj', Option.getD_some]
      exact List.getElem_mem _
    · obtain ⟨j, hj, rfl⟩ := List.mem_map.1 hl
      have hj' := (hb.mem_iff (a := j)).1 hj
      rw [List.mem_range] at hj'
      have := hsn.2.2.1.2 ((li ol).getD j dL) (by
        simp only [List.getD_eq_getElem?_getD, List.getElem?_eq_getElem hj', Option.getD_some]
        exact List.getElem_mem _)
      exact this
  obtain ⟨o3, w3, _, m3⟩ := runNet_ok (oms := oms) (ons := some [(nm, some (at'.map fun i => (li ops).getD i ([], 0, ())), some (by'.map fun i => mvL (fun t => at'.idxOf t) ((li ol).getD i dL)), some ((li oi).map (mvP fun t => at'.idxOf t)), some ((li oo).map (mvP fun t => at'.idxOf t)), ())]) (ox := ox) (by omega) hsm (fun n hn => by
    simp only [li_some, List.mem_singleton] at hn
    subst hn; exact hsN) 0 (fun n hn => by
    simp only [li_some, List.mem_singleton] at hn
    subst hn
    have := hcpn.outs
    simp only [li_some, List.length_map]; simp only at this; omega)
  have ck3 := netCk_of (i := 0) (by decide) (by simp) h2 (netC_of (hO.netP (netP h3)) : netC (li oms) (([(nm, some (at'.map fun i => (li ops).getD i ([], 0, ())), some (by'.map fun i => mvL (fun t => at'.idxOf t) ((li ol).getD i dL)), some ((li oi).map (mvP fun t => at'.idxOf t)), some ((li oo).map (mvP fun t => at'.idxOf t)), ())] : List TNet).getD (0 : Int).toNat net0).1 _ _ _ _ = 0)
  have r3 := (R3 hO (w1 g) (w3 ck3) (li ox)).2
  simp only [li_some] at m3
  rw [r3] at m3
  have lat : at'.length = (li ops).length := by rw [ha.length_eq]; simp
  have lby : by'.length = (li ol).length := by rw [hb.length_eq]; simp
  have t0 := any_L0 ok ha (.int .i64 i) (sl MC oms) (sl NT ons) (sl SI ox) (sl I oP) (sl I oL) (.str nm) (sl LK ol) (sl PN oi) (sl PN oo) (.str nm) [] [] [] _ 0 [] rfl (Nat.zero_le _) (by simp)
  have t1 := any_L1 ok (at' := at') hb (.int .i64 i) (sl MC oms) (sl NT ons) (sl SI ox) (sl I oP) (sl I oL) (.str nm) (sl PT ops) (sl PN oi) (sl PN oo) (.str nm) (toV (li ops).length at') ((at'.map fun j => (li ops).getD j ([], 0, ())).map PT) [] [] _ 0 [] rfl (Nat.zero_le _) (by simp)
  have t2 := any_L2 ok (at' := at') (show (li oi).length ≤ 8796093022208 from hcpn.ins) (.int .i64 i) (sl MC oms) (sl NT ons) (sl SI ox) (sl I oP) (sl I oL) (.str nm) (sl PT ops) (sl LK ol) (sl PN oo) (.str nm) (toV (li ops).length at') ((at'.map fun j => (li ops).getD j ([], 0, ())).map PT) [] ((by'.map (fun j => mvL (fun t => at'.idxOf t) ((li ol).getD j dL))).map LK) (li oi) 0 [] rfl rfl
  have t3 := any_L3 ok (at' := at') (show (li oo).length ≤ 8796093022208 from hcpn.outs) (.int .i64 i) (sl MC oms) (sl NT ons) (sl SI ox) (sl I oP) (sl I oL) (.str nm) (sl PT ops) (sl LK ol) (sl PN oi) (.str nm) (toV (li ops).length at') ((at'.map fun j => (li ops).getD j ([], 0, ())).map PT) ((by'.map (fun j => mvL (fun t => at'.idxOf t) ((li ol).getD j dL))).map LK) ((li oi).map (mvP fun t => at'.idxOf t) |>.map PN) (li oo) 0 [] rfl rfl
  rw [List.nil_append] at t2 t3
  generalize hRg : runNetR (li oms) (li ons) i o1 (li ox) = R at *
  have e3 : (FV.agg [sl MC oms, .arr [[.str nm, .arr ((at'.map fun j => (li ops).getD j ([], 0, ())).map PT), .arr ((by'.map (fun j => mvL (fun t => at'.idxOf t) ((li ol).getD j dL))).map LK), .arr ((li oi).map (mvP fun t => at'.idxOf t) |>.map PN), .arr (((li oo).map (mvP fun t => at'.idxOf t)).map PN)]]]) = .agg [sl MC oms, sl NT (some [(nm, some (at'.map fun i => (li ops).getD i ([], 0, ())), some (by'.map fun i => mvL (fun t => at'.idxOf t) ((li ol).getD i dL)), some ((li oi).map (mvP fun t => at'.idxOf t)), some ((li oo).map (mvP fun t => at'.idxOf t)), ())])] := rfl
  have fin : law02_MachAnyOrder.L3 (.int .i64 i) (.arr (toV (li ops).length at')) (.int .i64 ((li oo).length : Int)) (sl MC oms) (sl NT ons) (sl SI ox) (sl I oP) (sl I oL) (.str nm) (sl PT ops) (sl LK ol) (sl PN oi) (sl PN oo) (.str nm) (toV (li ops).length at') ((at'.map fun j => (li ops).getD j ([], 0, ())).map PT) ((by'.map (fun j => mvL (fun t => at'.idxOf t) ((li ol).getD j dL))).map LK) ((li oi).map (mvP fun t => at'.idxOf t) |>.map PN) (((li oo).map (mvP fun t => at'.idxOf t)).map PN) = some (.bool true) := by
    rw [law02_MachAnyOrder.L3_eq]
    simp only [fLen_sl, fBin_lss, bindO_s, fCond_b, decide_eq_true_eq, Int.ofNat_lt, Nat.lt_irrefl, if_false]
    rw [m1']
    simp only [bindO_s, netF, fIsTup_tup, List.length_cons, List.length_nil, fTup_zero, fTup_succ]
    rw [show (0 + 1 + 1 == 2) = true from rfl, gB_t, hbk]
    simp only [bindO_s, fIsAgg_agg, List.length_cons, List.length_nil, fCell_zero, fCell_succ]
    rw [show (0 + 1 + 1 == 2) = true from rfl, gB_t, hls]
    simp only [bindO_s]
    rw [m2]
    simp only [bindO_s, netF, fIsTup_tup, List.length_cons, List.length_nil, fTup_zero, fTup_succ]
    rw [show (0 + 1 + 1 == 2) = true from rfl, gB_t, e3, m3]
    simp only [bindO_s, netF, fIsTup_tup, List.length_cons, List.length_nil, fTup_zero, fTup_succ]
    rw [show (0 + 1 + 1 == 2) = true from rfl, gB_t]
    simp only [fBin_eql, decide_true, bindO_s, fCond_b, if_true, hR.1, fBin_neq, ne_eq, decide_eq_true_eq, fLen_sl]
    by_cases h0 : R.2 = 0
    · rw [if_neg (by simp [h0]), hR.2 h0]
      simp
    · rw [if_pos (by simpa using h0)]
  rw [law02_MachAnyOrder.eq]
  simp only [fIsAgg_agg, List.length_cons, List.length_nil, fCell_zero, fCell_succ, c1, bindO_s, fBin_neq, g, ne_eq, not_true_eq_false, decide_false, fCond_b, if_false, hix, NT, List.getElem?_cons_zero, List.getElem?_cons_succ, fLen_sl, ta, asNat_nat]
  rw [show (0 + 1 + 1 == 2) = true from rfl, gB_t, show (0 + 1 + 1 + 1 == 3) = true from rfl, gB_t]
  rw [show (decide ((li ops).length ≤ (li ops).length) && decide ((li ops).length * 8 ≤ room) && decide (1 ≥ 1)) = true by simp; unfold room; omega, gB_t]
  rw [show List.replicate (li ops).length [(.int .i64 0 : FV)] = vec (li ops).length fun t => I ((if t ∈ at'.take 0 then at'.idxOf t else 0 : Nat) : Int) by simp [vec, I, List.map_const']]
  refine Eq.trans t0 ?_
  rw [law02_MachAnyOrder.L0_eq]
  simp only [fLen_arr, nvL_len, lat, fBin_lss, bindO_s, fCond_b, decide_eq_true_eq, Int.ofNat_lt, Nat.lt_irrefl, if_false, fLen_sl, tb]
  exact t1.trans (t2.trans (t3.trans fin))
end
end Go.Proofs.Ytelcbakleaaneaa
end
