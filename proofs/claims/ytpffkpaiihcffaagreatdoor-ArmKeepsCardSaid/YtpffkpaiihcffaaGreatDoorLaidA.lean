/- Steps of the proof: What the row says of its listed variables, as the abstract machine wants it at the call's begin; A world that holds the listed variables. -/
import Derived.Test.YtpffkpaiihcffaaGreatDoorRow
import Derived.Test.YtpffkpaiihcffaaGreatDoorRows
import Derived.FnData
import Derived.ChangeArms
import Derived.Handed
import Derived.KernelRfl
set_option linter.unusedVariables false
section
namespace Go.Proofs.YtpffkpaiihcffaaGreatDoor
open Go Go.Proofs Go.Proofs.YtpffkpaiihcffaaGreatDoor.VM
section
variable {H : Type} {enc : TypeId × Value → H} {P : Program} {w W : World} {base fuel : Nat} {sp : Nat → Bool} {held : Bool} {t e : TypeId} {cs : List Value} {d : DataW H} {p : List MemPlace}
theorem two_of {f1 f2 : Field} (hu : P.underlying t = some (.struct #[f1,f2])) (hc : P.cellsOf t = 2) (o1 : f1.offset = 0) (o2 : f2.offset = 1) (c1 : P.cellsOf f1.type = 1) (c2 : P.cellsOf f2.type = 1)
  (h : DataW.trod enc P w base sp held fuel t cs = some (d,p)) : ∃ a b d1 d2 p1 p2 n,cs = [a,b] ∧ d = .agg [d1,d2] ∧ DataW.trod enc P w base sp held n f1.type [a] = some (d1,p1) ∧ DataW.trod enc P w base sp held n f2.type [b] = some (d2,p2):=by
 cases fuel with
 | zero => simp [DataW.trod] at h
 | succ n =>
  simp only [DataW.trod,hu,hc] at h
  split at h
  ·rename_i hl
   obtain ⟨a,b,rfl⟩ : ∃ a b,cs = [a,b]:=by
    match cs,hl with
    | [a,b],_ => exact ⟨a,b,rfl⟩
   simp only [List.mapM_cons,List.mapM_nil,Option.map_eq_some_iff,Option.bind_eq_bind,Option.bind_eq_some_iff,Option.pure_def,Option.some.injEq,o1,o2,c1,c2] at h
   obtain ⟨xs,⟨y1,h1,_,⟨y2,h2,_,rfl,rfl⟩,rfl⟩,hx⟩:=h
   simp only [Prod.mk.injEq] at hx
   exact ⟨a,b,y1.1,y2.1,y1.2,y2.2,n,rfl,by rw [← hx.1];rfl,by simpa using h1,by simpa using h2⟩
  ·cases h
theorem mapM_range {α : Type} {f : Nat → Option α} : ∀ (n j : Nat) (xs : List α),(List.range' j n).mapM f = some xs → xs.length = n ∧ ∀ i,i < n → f (j + i) = xs[i]?
 | 0,j,xs,h => by
  simp at h
  exact ⟨by rw [h];rfl,fun i hi => by omega⟩
 | n + 1,j,xs,h => by
  rw [List.range'_succ] at h
  simp only [List.mapM_cons,Option.bind_eq_bind,Option.bind_eq_some_iff,Option.pure_def,Option.some.injEq] at h
  obtain ⟨y,h1,ys,h2,rfl⟩:=h
  obtain ⟨h3,h4⟩:=mapM_range n (j + 1) ys h2
  refine ⟨by simp [h3],fun i hi => ?_⟩
  match i with
  | 0 => simpa using h1
  | i + 1 =>
   have:=h4 i (by omega)
   rw [show j + 1 + i = j + (i + 1) by omega] at this
   simpa using this
theorem arr_of {n : Nat} (hu : P.underlying t = some (.array n e)) (hce : P.cellsOf e = 2) (hc : P.cellsOf t = n * 2) (h : DataW.trod enc P w base sp held fuel t cs = some (d,p)) :
  ∃ (m : Nat) (xs : List (DataW H × List MemPlace)),cs.length = n * 2 ∧ d = .agg (xs.map (·.1)) ∧ xs.length = n ∧ ∀ i,i < n → DataW.trod enc P w base sp held m e ((cs.drop (i * 2)).take 2) = xs[i]?:=by
 cases fuel with
 | zero => simp [DataW.trod] at h
 | succ m =>
  simp only [DataW.trod,hu,hc,hce] at h
  split at h
  ·rename_i hl
   rw [List.range_eq_range'] at h
   simp only [Option.map_eq_some_iff] at h
   obtain ⟨xs,h1,hx⟩:=h
   obtain ⟨h2,h3⟩:=mapM_range n 0 xs h1
   simp only [Prod.mk.injEq] at hx
   exact ⟨m,xs,hl,hx.1.symm,h2,fun i hi => by simpa using h3 i hi⟩
  ·cases h
def litF : Lit → FV
 | .string s => .str s
 | .int k n => .int k n
 | _ => .undef
theorem one_of {a : Value} {l : Lit} {A : Nat → Prop} (hu : P.underlying t = some .string ∨ ∃ k,P.underlying t = some (.int k)) (h : DataW.trod enc P w base sp held fuel t [a] = some (.lit l,p)) : FR W A (litF l) a ∧ a.oneCell' = true:=by
 rcases hu with hu | ⟨k,hu⟩
 ·obtain ⟨s,h1,h2,_⟩:=DataW.trod_string hu h
  cases h1;cases h2
  exact ⟨.str s,rfl⟩
 ·obtain ⟨n,h1,h2,_⟩:=DataW.trod_int hu h
  cases h1;cases h2
  exact ⟨.int k n,rfl⟩
theorem cellsR_pairs {A : Nat → Prop} : ∀ (L : List (Lit × Lit)) (cs : List Value),cs.length = L.length * 2 → (∀ (i : Nat) l,L[i]? = some l → ∃ a b,(cs.drop (i * 2)).take 2 = [a,b] ∧ (FR W A (litF l.1) a ∧ a.oneCell' = true) ∧ (FR W A (litF l.2) b ∧ b.oneCell' = true)) →
  VM.CellsR W A (L.flatMap fun l => [litF l.1,litF l.2]) cs
 | [],[],_,_ => trivial
 | [],_ :: _,h,_ => by simp at h
 | l :: L,[],h,_ => by simp at h
 | l :: L,[_],h,_ => by simp at h;omega
 | l :: L,a :: b :: cs,h,hp => by
  obtain ⟨a',b',h1,h2,h3⟩:=hp 0 l rfl
  simp at h1
  obtain ⟨rfl,rfl⟩:=h1
  refine ⟨h2,h3,cellsR_pairs L cs (by simp at h;omega) fun i l hi => ?_⟩
  have:=hp (i + 1) l (by simpa using hi)
  rwa [show (i + 1) * 2 = i * 2 + 1 + 1 by omega,List.drop_succ_cons,List.drop_succ_cons] at this
def datP (L : List (Lit × Lit)) : DataW H:=.agg (L.map fun l => .agg [.lit l.1,.lit l.2])
theorem pairs_of {A : Nat → Prop} {L : List (Lit × Lit)} {f1 f2 : Field} (hu : P.underlying t = some (.array L.length e)) (hue : P.underlying e = some (.struct #[f1,f2])) (hce : P.cellsOf e = 2) (hc : P.cellsOf t = L.length * 2) (o1 : f1.offset = 0) (o2 : f2.offset = 1)
  (c1 : P.cellsOf f1.type = 1) (c2 : P.cellsOf f2.type = 1) (k1 : P.underlying f1.type = some .string ∨ ∃ k,P.underlying f1.type = some (.int k)) (k2 : P.underlying f2.type = some .string ∨ ∃ k,P.underlying f2.type = some (.int k))
  (h : DataW.trod enc P w base sp held fuel t cs = some (datP L,p)) : VM.CellsR W A (L.flatMap fun l => [litF l.1,litF l.2]) cs:=by
 obtain ⟨m,xs,h1,h2,h3,h4⟩:=arr_of hu hce hc h
 refine cellsR_pairs L cs h1 fun i l hi => ?_
 have hlt : i < L.length:=(List.getElem?_eq_some_iff.1 hi).1
 have hx:=h4 i hlt
 rw [List.getElem?_eq_getElem (by omega)] at hx
 obtain ⟨a,b,d1,d2,p1,p2,n,q1,q2,q3,q4⟩:=two_of (d:=xs[i].1) (p:=xs[i].2) hue hce o1 o2 c1 c2 (by rw [hx])
 have hd : xs[i].1 = .agg [.lit l.1,.lit l.2]:=by
  have e1 : L.map (fun l => DataW.agg [.lit l.1,.lit l.2]) = xs.map (·.1):=by
   unfold datP at h2;injection h2
  have e2:=congrArg (fun z => z[i]?) e1
  simp only [List.getElem?_map,hi,Option.map_some,List.getElem?_eq_getElem (show i < xs.length by omega),Option.some.injEq] at e2
  exact e2.symm
 rw [q2] at hd
 injection hd with hd
 simp only [List.cons.injEq,and_true] at hd
 obtain ⟨rfl,rfl⟩:=hd
 exact ⟨a,b,q1,one_of k1 q3,one_of k2 q4⟩
theorem eptr_of {n : String} {g : Nat} {c : Array Value} {xs : List FV} (hg : P.globalNamed n = some g) (hv : W.var? P n = some c) (hc : VM.CellsR W (Low W) xs c.toList) (hne : 0 < xs.length) : FR W (Low W) (.eptr xs 0) (.pointer (some ⟨g,0,none⟩)):=by
 have hlen : xs.length = c.toList.length:=hc.len
 have hm : ∀ k,k < xs.length → W.cell? ((⟨g,0,none⟩ : Addr).add k) = some (c.toList.getD k undef):=fun k hk => by
  rw [show (⟨g,0,none⟩ : Addr).add k = ⟨g,k,none⟩ by (simp only [Addr.add,Nat.zero_add];split <;> simp_all),World.var?_cell hg hv k]
  rw [List.getD_eq_getElem?_getD,List.getElem?_eq_getElem (by omega)]
  simp at hlen
  rw [Array.getElem?_eq_getElem (by omega)]
  rfl
 have get : ∀ (k : Nat) x,xs[k]? = some x → FR W (Low W) x (c.toList.getD k undef) ∧ (c.toList.getD k undef).oneCell' = true:=fun k x hx => by
  have hk : k < c.toList.length:=by rw [← hlen];exact (List.getElem?_eq_some_iff.1 hx).1
  rw [List.getD_eq_getElem?_getD,List.getElem?_eq_getElem hk]
  exact hc.get k x _ hx (List.getElem?_eq_getElem hk)
 exact FR.eptr xs ⟨g,0,none⟩ 0 (fun k => c.toList.getD k undef) (cell_low (hm 0 hne)) hm (fun k hk => (get k _ (List.getElem?_eq_getElem hk)).2) (fun k x hx => (get k x hx).1)
end
def Lfix : List (Lit × Lit):=[(.string [49,48,48,48,48],.string [49,48,49,49,48]),(.string [49,48,48,48,49,48,48,48,48,48,48,48],.string [49,48,49,49,49,49,48,48,49,49,48,48]),(.string [49,48,48,48,49],.string [49,49,48,48,48])]
def Lgro : List (Lit × Lit):=[(.string [48,48,48,48],.int .i64 9),(.string [48,48,48,49],.int .i64 10),(.string [48,48,49],.int .i64 11),(.string [48,49,48],.int .i64 12),(.string [48,49,49],.int .i64 17),(.string [49,48,48],.int .i64 18),(.string [49,48,49],.int .i64 19),(.string [49,49,48],.int .i64 20),(.string [49,49,49],.int .i64 25)]
theorem nameG : Tryz.prog.globalNamed "ramet/cells.grown" = some 1:=by kernel_rfl
theorem nameF : Tryz.prog.globalNamed "ramet/arm.fixed" = some 0:=by kernel_rfl
theorem typeG : (Tryz.prog.globals[1]?).map (·.type) = some 128:=by kernel_rfl
theorem typeF : (Tryz.prog.globals[0]?).map (·.type) = some 121:=by kernel_rfl
theorem globOf_two {g : Nat} {cs : List FV} (h : globOf globT g = some cs) : (g = 0 ∧ cs = glo0) ∨ (g = 1 ∧ cs = glo1):=by
 match g,h with
 | 0,h => exact .inl ⟨rfl,(Option.some.inj ((show globOf globT 0 = some glo0 from rfl).symm.trans h)).symm⟩
 | 1,h => exact .inr ⟨rfl,(Option.some.inj ((show globOf globT 1 = some glo1 from rfl).symm.trans h)).symm⟩
 | g + 2,h => exact absurd h (by simp [globT,globOf,Nat.beq])
theorem globR_laid {W : World} (h : laidMet Tryz.prog [("ramet/cells.grown", Rows.laid_ramet_cells_grown),("ramet/arm.fixed", Rows.laid_ramet_arm_fixed)] W) : GlobR W (Low W):=by
 obtain ⟨ps,⟨g1,t1,c1,fuel1,p1,q1,hg1,ht1,hv1,hd1,⟨g2,t2,c2,fuel2,p2,q2,hg2,ht2,hv2,hd2,_,_⟩,_⟩,_,_⟩:=h
 obtain rfl:=Option.some.inj (nameG.symm.trans hg1)
 obtain rfl:=Option.some.inj (nameF.symm.trans hg2)
 obtain rfl:=Option.some.inj (typeG.symm.trans ht1)
 obtain rfl:=Option.some.inj (typeF.symm.trans ht2)
 intro g cs hg
 rcases globOf_two hg with ⟨rfl,rfl⟩ | ⟨rfl,rfl⟩
 ·refine eptr_of hg2 hv2 ?_ (by decide)
  exact pairs_of (L:=Lfix) Tryz.underlying121 Tryz.underlying39 (by kernel_rfl) (by kernel_rfl) rfl rfl (by kernel_rfl) (by kernel_rfl) (.inl Tryz.underlying9) (.inl Tryz.underlying9) hd2
 ·refine eptr_of hg1 hv1 ?_ (by decide)
  exact pairs_of (L:=Lgro) Tryz.underlying128 Tryz.underlying127 (by kernel_rfl) (by kernel_rfl) rfl rfl (by kernel_rfl) (by kernel_rfl) (.inl Tryz.underlying9) (.inr ⟨_,Tryz.underlying3⟩) hd1
end Go.Proofs.YtpffkpaiihcffaaGreatDoor
end
section
namespace Go.Proofs.YtpffkpaiihcffaaGreatDoor
open Go Go.Proofs Go.Proofs.YtpffkpaiihcffaaGreatDoor.VM
def litV : Lit → Value
 | .string s => .string ⟨s.toArray⟩
 | .int k n => .int k n
 | _ => undef
def cellsP (L : List (Lit × Lit)) : Array Value:=(L.flatMap fun l => [litV l.1,litV l.2]).toArray
def putCells (c : Array Value) : Obj → Obj
 | .cells _ t frozen => .cells c t frozen
 | o => o
noncomputable def laidWorld (os : Os) : World :=
 { World.holding Tryz.prog os ⟨#[],#[],[]⟩ with heap:=((World.holding Tryz.prog os ⟨#[],#[],[]⟩).heap.modify 0 (putCells (cellsP Lfix))).modify 1 (putCells (cellsP Lgro)) }
theorem laidWorld_0 (os : Os) (args : Array Value) : ((laidWorld os).forCall (fun _ _ => 0) ⟨#[],args,[]⟩).memory.heap[0]? = some (.cells (cellsP Lfix) 121 (0,0)):=by kernel_rfl
theorem laidWorld_1 (os : Os) (args : Array Value) : ((laidWorld os).forCall (fun _ _ => 0) ⟨#[],args,[]⟩).memory.heap[1]? = some (.cells (cellsP Lgro) 128 (0,0)):=by kernel_rfl
theorem noIface {L : List (Lit × Lit)} (h : (cellsP L).all (fun v => match v with | .iface _ _ => false | _ => true) = true) {k : Nat} {u : TypeId} {v : Value} (hk : (cellsP L)[k]? = some (.iface u v)) : False:=by
 have:=Array.all_eq_true_iff_forall_mem.1 h _ (Array.mem_of_getElem? hk)
 cases this
set_option maxRecDepth 100000 in
theorem laidWorld_met (os : Os) (args : Array Value) : laidMet Tryz.prog [("ramet/cells.grown", Rows.laid_ramet_cells_grown),("ramet/arm.fixed", Rows.laid_ramet_arm_fixed)] ((laidWorld os).forCall (fun _ _ => 0) ⟨#[],args,[]⟩).memory:=by
 refine ⟨MemPlace.row ⟨1,0,none⟩ 18 ++ [] ++ (MemPlace.row ⟨0,0,none⟩ 6 ++ [] ++ []),⟨1,128,cellsP Lgro,8,[],_,nameG,typeG,by kernel_rfl,by kernel_rfl,⟨0,121,cellsP Lfix,8,[],[],nameF,typeF,by kernel_rfl,by kernel_rfl,rfl,rfl⟩,rfl⟩,by decide,fun b off h => ?_⟩
 have hb : b = 1 ∨ b = 0:=by
  simp [MemPlace.row] at h
  omega
 rcases hb with rfl | rfl
 ·refine ⟨⟨_,_,laidWorld_1 os args⟩,fun u v hc => ?_⟩
  simp only [World.cell?,laidWorld_1 os args] at hc
  exact (noIface (L:=Lgro) (by kernel_rfl) (by simpa using hc)).elim
 ·refine ⟨⟨_,_,laidWorld_0 os args⟩,fun u v hc => ?_⟩
  simp only [World.cell?,laidWorld_0 os args] at hc
  exact (noIface (L:=Lfix) (by kernel_rfl) (by simpa using hc)).elim
end Go.Proofs.YtpffkpaiihcffaaGreatDoor
end
