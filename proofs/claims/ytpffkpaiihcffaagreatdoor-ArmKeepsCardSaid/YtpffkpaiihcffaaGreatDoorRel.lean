/- How the abstract machine's values, blocks and frames stand to the model's. -/
import Derived.Test.YtpffkpaiihcffaaGreatDoorVM
import Derived.Calls
import Derived.Below
import Derived.Deep.AppendSrc
set_option linter.unusedVariables false
namespace Go.Proofs.YtpffkpaiihcffaaGreatDoor.VM
open Go Go.RowKit
theorem add_zero_addr (a : Addr) : a.add 0 = a:=by simp [Addr.add]
inductive FR (w : World) (A : Nat → Prop) : FV → Value → Prop
 | undef (c : Value) : FR w A .undef c
 | cst (c : Value) : FR w A (.cst c) c
 | bool (b : Bool) : FR w A (.bool b) (.bool b)
 | int (k : IntKind) (n : Int) : FR w A (.int k n) (.int k n)
 | str (s : ByteArray) : FR w A (.str s.data.toList) (.string s)
 | nilS (a : Option Addr) : FR w A .nilS (.slice a 0 0)
 | arrNil (a : Option Addr) (cap : Nat) : FR w A (.arr []) (.slice a 0 cap)
 | arr (rows : List (List FV)) (a : Addr) (cap s : Nat) (u : Nat → Nat → Value) (hs : 0 < s) (hc : rows.length ≤ cap) (hr : ∀ r ∈ rows,r.length = s) (hA : A a.block)
   (hm : ∀ i k,i < rows.length → k < s → w.cell? (a.add (i * s + k)) = some (u i k)) (h1 : ∀ i k,i < rows.length → k < s → (u i k).oneCell' = true) (hx : ∀ i r k x,rows[i]? = some r → r[k]? = some x → FR w A x (u i k)) :
   FR w A (.arr rows) (.slice (some a) rows.length cap)
 | eptr (cells : List FV) (a : Addr) (off : Nat) (u : Nat → Value) (hA : A a.block) (hm : ∀ k,k < cells.length → w.cell? (a.add k) = some (u k)) (h1 : ∀ k,k < cells.length → (u k).oneCell' = true)
   (hx : ∀ k x,cells[k]? = some x → FR w A x (u k)) : FR w A (.eptr cells off) (.pointer (some (a.add off)))
 | agg (cells : List FV) (vs : List Value) (hl : cells.length = vs.length) (h1 : ∀ c ∈ vs,c.oneCell' = true) (hx : ∀ (k : Nat) x c,cells[k]? = some x → vs[k]? = some c → FR w A x c) : FR w A (.agg cells) (.agg vs.toArray)
 | tup (cells : List FV) (vs : List Value) (hl : cells.length = vs.length) (hx : ∀ (k : Nat) x c,cells[k]? = some x → vs[k]? = some c → FR w A x c) : FR w A (.tup cells) (.tuple vs.toArray)
 | func (g : Nat) (cells : List FV) (vs : List Value) (hl : cells.length = vs.length) (h1 : ∀ c ∈ vs,c.oneCell' = true) (hx : ∀ (k : Nat) x c,cells[k]? = some x → vs[k]? = some c → FR w A x c) :
   FR w A (.func g cells) (.func (.func g) #[] vs.toArray)
structure FExt (w : World) (A : Nat → Prop) (w' : World) (A' : Nat → Prop) : Prop where
 sub : ∀ b,A b → A' b
 same : ∀ b,A b → w'.heap[b]? = w.heap[b]?
theorem FExt.refl (w : World) (A : Nat → Prop) : FExt w A w A:=⟨fun _ h => h,fun _ _ => rfl⟩
theorem FExt.trans {w1 w2 w3 : World} {A1 A2 A3 : Nat → Prop} (h : FExt w1 A1 w2 A2) (k : FExt w2 A2 w3 A3) : FExt w1 A1 w3 A3 :=
 ⟨fun b hb => k.sub b (h.sub b hb),fun b hb => (k.same b (h.sub b hb)).trans (h.same b hb)⟩
theorem add_block (a : Addr) (n : Nat) : (a.add n).block = a.block:=by unfold Addr.add;split <;> rfl
theorem FR.mono {w w' : World} {A A' : Nat → Prop} (e : FExt w A w' A') {x : FV} {c : Value} (h : FR w A x c) : FR w' A' x c:=by
 induction h with
 | undef c => exact .undef c
 | cst c => exact .cst c
 | bool b => exact .bool b
 | int k n => exact .int k n
 | str s => exact .str s
 | nilS a => exact .nilS a
 | arrNil a cap => exact .arrNil a cap
 | arr rows a cap s u hs hc hr hA hm h1 hx ih =>
  exact .arr rows a cap s u hs hc hr (e.sub _ hA) (fun i k hi hk => by
   rw [World.cell?_of_block (w:=w) (by rw [add_block];exact e.same _ hA)];exact hm i k hi hk) h1 ih
 | eptr cells a off u hA hm h1 hx ih =>
  exact .eptr cells a off u (e.sub _ hA) (fun k hk => by
   rw [World.cell?_of_block (w:=w) (by rw [add_block];exact e.same _ hA)];exact hm k hk) h1 ih
 | agg cells vs hl h1 hx ih => exact .agg cells vs hl h1 ih
 | tup cells vs hl hx ih => exact .tup cells vs hl ih
 | func g cells vs hl h1 hx ih => exact .func g cells vs hl h1 ih
inductive Loc where
 | no | nil
 | at (b o s cap : Nat)
abbrev LocOf:=Nat → Loc
inductive VR (w : World) (A : Nat → Prop) (β : LocOf) (H : Hp) : V → Value → Prop
 | un (c : Value) : VR w A β H .un c
 | f (x : FV) (c : Value) (h : FR w A x c) (h1 : c.oneCell' = true) : VR w A β H (.f x) c
 | refNil (id : Nat) (a : Option Addr) (h : β id = .nil) (hr : rowsOf H id = some []) : VR w A β H (.ref id) (.slice a 0 0)
 | refAt (id b o s cap n : Nat) (h : β id = .at b o s cap) (rows : List (List FV)) (hr : rowsOf H id = some rows) (hn : n = rows.length) : VR w A β H (.ref id) (.slice (some ⟨b,o,none⟩) n cap)
 | refDead (id : Nat) (c : Value) (h : H[id]? = some .dead) (h1 : c.oneCell' = true) : VR w A β H (.ref id) c
 | ptr (id i off b o s cap : Nat) (h : β id = .at b o s cap) (hl : id < H.length) : VR w A β H (.ptr id i off) (.pointer (some ⟨b,o + (i * s + off),none⟩))
 | ptrDead (id i off : Nat) (c : Value) (h : H[id]? = some .dead) (h1 : c.oneCell' = true) : VR w A β H (.ptr id i off) c
 | mp (id b : Nat) (h : β id = .at b 0 0 0) (hl : id < H.length) : VR w A β H (.mp id) (.map (some b))
 | it (id b : Nat) (h : β id = .at b 0 0 0) (hl : id < H.length) : VR w A β H (.it id) (.pointer (some ⟨b,0,none⟩))
 | agg (cells : List V) (vs : List Value) (hl : cells.length = vs.length) (hx : ∀ (k : Nat) x c,cells[k]? = some x → vs[k]? = some c → VR w A β H x c) : VR w A β H (.agg cells) (.agg vs.toArray)
 | tup (cells : List V) (vs : List Value) (hl : cells.length = vs.length) (hx : ∀ (k : Nat) x c,cells[k]? = some x → vs[k]? = some c → VR w A β H x c) : VR w A β H (.tup cells) (.tuple vs.toArray)
 | func (g : Nat) (cells : List V) (vs : List Value) (hl : cells.length = vs.length) (hx : ∀ (k : Nat) x c,cells[k]? = some x → vs[k]? = some c → VR w A β H x c) :
   VR w A β H (.func g cells) (.func (.func g) #[] vs.toArray)
structure HExt (β : LocOf) (H : Hp) (β' : LocOf) (H' : Hp) : Prop where
 loc : ∀ id,id < H.length → β id ≠ .no → β' id = β id
 len : H.length ≤ H'.length
 rows : ∀ id r,rowsOf H id = some r → (∃ r',rowsOf H' id = some r' ∧ r'.length = r.length) ∨ H'[id]? = some .dead
 dead : ∀ id : Nat,H[id]? = some .dead → H'[id]? = some .dead
theorem HExt.refl (β : LocOf) (H : Hp) : HExt β H β H:=⟨fun _ _ _ => rfl,Nat.le_refl _,fun _ r h => .inl ⟨r,h,rfl⟩,fun _ h => h⟩
theorem HExt.trans {β1 β2 β3 : LocOf} {H1 H2 H3 : Hp} (h : HExt β1 H1 β2 H2) (k : HExt β2 H2 β3 H3) : HExt β1 H1 β3 H3 where
 loc id hl hn:=by
  have e:=h.loc id hl hn
  rw [k.loc id (Nat.lt_of_lt_of_le hl h.len) (by rw [e];exact hn),e]
 len:=Nat.le_trans h.len k.len
 rows id r hr:=by
  rcases h.rows id r hr with ⟨r',h1,h2⟩ | h1
  ·rcases k.rows id r' h1 with ⟨r'',h3,h4⟩ | h3
   ·exact .inl ⟨r'',h3,h4.trans h2⟩
   ·exact .inr h3
  ·exact .inr (k.dead id h1)
 dead id hd:=k.dead id (h.dead id hd)
theorem rowsOf_lt {H : Hp} {id : Nat} {r : List (List FV)} (h : rowsOf H id = some r) : id < H.length:=by
 unfold rowsOf at h
 rcases Nat.lt_or_ge id H.length with hl | hl
 ·exact hl
 ·rw [List.getElem?_eq_none hl] at h;cases h
theorem VR.mono {w w' : World} {A A' : Nat → Prop} {β β' : LocOf} {H H' : Hp} (e : FExt w A w' A') (he : HExt β H β' H') {v : V} {c : Value} (h : VR w A β H v c) : VR w' A' β' H' v c:=by
 induction h with
 | un c => exact .un c
 | f x c h h1 => exact .f x c (h.mono e) h1
 | refNil id a h hr =>
  have hb:=he.loc id (rowsOf_lt hr) (by rw [h];simp)
  rcases he.rows id _ hr with ⟨r',h1,h2⟩ | h1
  ·obtain rfl : r' = []:=List.eq_nil_of_length_eq_zero h2
   exact .refNil id a (hb.trans h) h1
  ·exact .refDead id _ h1 rfl
 | refAt id b o s cap n h rows hr hn =>
  have hb:=he.loc id (rowsOf_lt hr) (by rw [h];simp)
  rcases he.rows id _ hr with ⟨r',h1,h2⟩ | h1
  ·exact .refAt id b o s cap n (hb.trans h) r' h1 (hn.trans h2.symm)
  ·exact .refDead id _ h1 rfl
 | refDead id c h h1 => exact .refDead id c (he.dead id h) h1
 | ptr id i off b o s cap h hl => exact .ptr id i off b o s cap ((he.loc id hl (by rw [h];simp)).trans h) (Nat.lt_of_lt_of_le hl he.len)
 | ptrDead id i off c h h1 => exact .ptrDead id i off c (he.dead id h) h1
 | mp id b h hl => exact .mp id b ((he.loc id hl (by rw [h];simp)).trans h) (Nat.lt_of_lt_of_le hl he.len)
 | it id b h hl => exact .it id b ((he.loc id hl (by rw [h];simp)).trans h) (Nat.lt_of_lt_of_le hl he.len)
 | agg cells vs hl hx ih => exact .agg cells vs hl ih
 | tup cells vs hl hx ih => exact .tup cells vs hl ih
 | func g cells vs hl hx ih => exact .func g cells vs hl ih
def RowsAt (w : World) (A : Nat → Prop) (b o s : Nat) (rows : List (List FV)) : Prop :=
 (∀ r ∈ rows,r.length = s) ∧ ∀ i r k x,rows[i]? = some r → r[k]? = some x → ∃ u,w.cell? ⟨b,o + (i * s + k),none⟩ = some u ∧ u.oneCell' = true ∧ FR w A x u
def EntriesR (w : World) (A : Nat → Prop) (es : List (FV × FV)) (es' : List MapEntry) : Prop :=
 es.length = es'.length ∧ ∀ (i : Nat) p e,es[i]? = some p → es'[i]? = some e → FR w A p.1 e.key ∧ FR w A p.2 e.val
def Blk.alive : Blk → Bool | .own _ _ | .box _ | .map _ _ | .sit _ _ => true | _ => false
def BRel (w : World) (A : Nat → Prop) (β : LocOf) (H : Hp) (l : Loc) : Blk → Prop
 | .dead => True
 | .free => l = .no
 | .own s rows => (l = .nil ∧ rows = []) ∨ ∃ b o cap,l = .at b o s cap ∧ 0 < s ∧ rows.length ≤ cap ∧ cap ≤ maxLen ∧ RowsAt w A b o s rows ∧ ∃ c e,w.heap[b]? = some (.cells c e (0,0)) ∧ o + cap * s ≤ c.size
 | .old rows => (l = .nil ∧ rows = []) ∨ ∃ b o s cap,l = .at b o s cap ∧ 0 < s ∧ rows.length ≤ cap ∧ RowsAt w A b o s rows ∧ b < w.heap.size
 | .fz rows => (l = .nil ∧ rows = []) ∨ ∃ b o s cap,l = .at b o s cap ∧ 0 < s ∧ rows.length ≤ cap ∧ RowsAt w A b o s rows ∧ A b
 | .box cs => ∃ b s,l = .at b 0 s 1 ∧ s = cs.length ∧ (∃ c e,w.heap[b]? = some (.cells c e (0,0)) ∧ c.size = s) ∧ ∀ (k : Nat) v,cs[k]? = some v → ∃ u,w.cell? ⟨b,k,none⟩ = some u ∧ u.oneCell' = true ∧ isOne v = true ∧ VR w A β H v u
 | .fzb cs => ∃ b s,l = .at b 0 s 1 ∧ A b ∧ ∀ (k : Nat) x,cs[k]? = some x → ∃ u,w.cell? ⟨b,k,none⟩ = some u ∧ u.oneCell' = true ∧ FR w A x u
 | .map ag es => ∃ b es' ck,l = .at b 0 0 0 ∧ w.heap[b]? = some (.map es' ck) ∧ EntriesR w A es es'.toList ∧ (ag = false → ∀ e ∈ es'.toList,e.val.oneCell' = true)
 | .sit s pos => ∃ b t,l = .at b 0 0 0 ∧ w.heap[b]? = some (.stringIter t pos) ∧ FR w A s (.string t)
structure HRel (B0 : Nat) (G T : Nat → Prop) (w : World) (A : Nat → Prop) (β : LocOf) (H : Hp) : Prop where
 blk : ∀ (id : Nat) k,H[id]? = some k → BRel w A β H (β id) k
 inj : ∀ (id id' b o s cap o' s' cap' : Nat) k k',H[id]? = some k → H[id']? = some k' → k.alive = true → k'.alive = true → β id = .at b o s cap → β id' = .at b o' s' cap' → id = id'
 ours : ∀ (id b o s cap : Nat) k,H[id]? = some k → k.alive = true → β id = .at b o s cap → (B0 ≤ b ∨ G b) ∧ ¬ A b
 lt : ∀ b,A b → b < w.heap.size
 low : ∀ b,A b → b < B0 → T b ∨ G b
 gt : ∀ b,G b → b < B0
 base : B0 ≤ w.heap.size
 top : ∀ b,T b → A b
structure Belowx (G : Nat → Prop) (B0 : Nat) (w0 w : World) : Prop where
 os : w.os = w0.os
 tape : w.tape = w0.tape
 output : w.output = w0.output
 size : w0.heap.size ≤ w.heap.size
 block : ∀ k,k < B0 → ¬ G k → w.heap[k]? = w0.heap[k]?
theorem Belowx.refl (G : Nat → Prop) (B0 : Nat) (w : World) : Belowx G B0 w w:=⟨rfl,rfl,rfl,Nat.le_refl _,fun _ _ _ => rfl⟩
theorem Belowx.trans {G : Nat → Prop} {B0 : Nat} {w1 w2 w3 : World} (h : Belowx G B0 w1 w2) (k : Belowx G B0 w2 w3) : Belowx G B0 w1 w3 :=
 ⟨k.os.trans h.os,k.tape.trans h.tape,k.output.trans h.output,Nat.le_trans h.size k.size,fun i hi hg => (k.block i hi hg).trans (h.block i hi hg)⟩
def GlobR (w : World) (A : Nat → Prop) : Prop:=∀ g cs,globOf globT g = some cs → FR w A (.eptr cs 0) (.pointer (some ⟨g,0,none⟩))
theorem GlobR.mono {w w' : World} {A A' : Nat → Prop} (e : FExt w A w' A') (h : GlobR w A) : GlobR w' A':=fun g cs hg => (h g cs hg).mono e
structure FRel (L : List (Fr × Act)) (w : World) (A : Nat → Prop) (β : LocOf) (H : Hp) (F : Fr) (a : Act) : Prop where
 size : a.tmps.size = F.length
 at_ : ∀ (t : Nat) v,F[t]? = some v → VR w A β H v (a.tmps.getD t undef)
 defers : a.defers = []
 sus : ∀ p ∈ L,∀ (t : Nat) v,p.1[t]? = some v → VR w A β H v (p.2.tmps.getD t undef)
 gl : GlobR w A
structure St (L : List (Fr × Act)) (B0 : Nat) (G T : Nat → Prop) (w0 : World) (F : Fr) (H : Hp) (a : Act) (w : World) (A : Nat → Prop) (β : LocOf) : Prop where
 fr : FRel L w A β H F a
 hp : HRel B0 G T w A β H
 below : Belowx G B0 w0 w
end Go.Proofs.YtpffkpaiihcffaaGreatDoor.VM
