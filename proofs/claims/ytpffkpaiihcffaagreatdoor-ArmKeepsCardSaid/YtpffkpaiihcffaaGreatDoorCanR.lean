/- Steps of the proof: cells.Canon of the rule R29: what it answers at any list of cells; cells.Canon's answer stands for its call; A slice of moves in memory; A field's columns in memory: a slice of slices of the call's own; arm.read: what it answers at any list of cells; arm.read's answer stands for its call; the two overrides together. -/
import Derived.Test.YtpffkpaiihcffaaGreatDoorCanQ
import Derived.Maps.OwnSet
import Derived.Carry
import Derived.Test.YtpffkpaiihcffaaGreatDoorEnv
import Derived.Test.YtpffkpaiihcffaaGreatDoorRes
import Derived.Test.YtpffkpaiihcffaaGreatDoorCel
import Derived.Maps.AppendAt
import Derived.RangeFuncBox
import Derived.WalkKit
set_option linter.unusedVariables false
section
namespace Go.Proofs.YtpffkpaiihcffaaGreatDoor
open Go Go.Proofs Go.Proofs.YtpffkpaiihcffaaGreatDoor.VM Go.RowKit Go.Shelf Go.Lib Go.Sort Go.Maps Go.ChangeMaps
def CellsR (w : World) (A : Nat → Prop) (v : Value) (cs : List Cel) : Prop :=
 (∃ ad cap,v = .slice ad 0 cap ∧ cs = []) ∨ ∃ b o cap,v = .slice (some ⟨b,o,none⟩) cs.length cap ∧ A b ∧ cs.length ≤ cap ∧
  ∀ (i : Nat) c,cs[i]? = some c → w.cell? ⟨b,o + i * 3,none⟩ = some (.int .i64 c.1) ∧ w.cell? ⟨b,o + i * 3 + 1,none⟩ = some (.int .i64 c.2.1) ∧ w.cell? ⟨b,o + i * 3 + 2,none⟩ = some (.int .i64 c.2.2)
theorem celsF_map : ∀ {r : List (List FV)} {cs : List Cel},celsF r = some cs → r = cs.map cellF
 | [],cs,h => by cases h;rfl
 | x :: r,cs,h => by
  simp only [celsF] at h
  obtain ⟨c,h1,h⟩:=bindO_some h
  obtain ⟨l,h2,h⟩:=bindO_some h
  cases h
  rw [celsF_map h2,List.map_cons]
  congr 1
  unfold celF at h1
  split at h1
  ·cases h1;rfl
  ·cases h1
theorem cellsR_of {w : World} {A : Nat → Prop} {x : FV} {v : Value} {r : List (List FV)} {cs : List Cel} (h : FR w A x v) (hr : asRows x = some r) (hc : celsF r = some cs) : CellsR w A v cs:=by
 have e:=celsF_map hc
 cases h with
 | nilS a => cases hr;cases cs with
  | nil => exact .inl ⟨_,_,rfl,rfl⟩
  | cons c cs => simp at e
 | arrNil a cap => cases hr;cases cs with
  | nil => exact .inl ⟨_,_,rfl,rfl⟩
  | cons c cs => simp at e
 | arr rows a cap s u hs hcap hrow hA hm h1 hx =>
  cases hr
  subst e
  cases cs with
  | nil => exact .inl ⟨_,_,rfl,rfl⟩
  | cons c0 cs =>
   have es : s = 3:=(hrow (cellF c0) (by simp)).symm
   subst es
   have hsp : a.spot = none:=by
    have:=hm 0 0 (by simp) (by omega)
    unfold World.cell? at this
    split at this
    ·split at this
     ·cases this
     ·rename_i hsp
      cases hq : a.spot with
      | none => rfl
      | some q => rw [show (a.add (0 * 3 + 0)) = a by simp [Addr.add]] at hsp;simp [hq] at hsp
    ·cases this
   obtain ⟨b,o,sp⟩:=a
   simp only at hsp
   subst hsp
   refine .inr ⟨b,o,cap,by simp,hA,by simpa using hcap,fun i c hi => ?_⟩
   have hlt : i < (c0 :: cs).length:=(List.getElem?_eq_some_iff.1 hi).1
   have hri : ((c0 :: cs).map cellF)[i]? = some (cellF c):=by rw [List.getElem?_map,hi];rfl
   have key : ∀ (k : Nat) (n : Int),k < 3 → (cellF c)[k]? = some (.int .i64 n) → w.cell? ⟨b,o + i * 3 + k,none⟩ = some (.int .i64 n):=fun k n hk hn => by
    have h2:=hm i k (by simpa using hlt) hk
    have h3:=hx i _ k _ hri hn
    have h4 : (⟨b,o,none⟩ : Addr).add (i * 3 + k) = ⟨b,o + i * 3 + k,none⟩:=by simp [Addr.add,Nat.add_assoc]
    rw [h4] at h2
    rw [h2]
    generalize u i k = q at h3
    cases h3
    rfl
   exact ⟨key 0 _ (by omega) rfl,key 1 _ (by omega) rfl,key 2 _ (by omega) rfl⟩
 | _ => cases hr
def canonR (cs : List Cel) : Int × List Cel:=if errC cs = 0 then (if (canonC cs).length ≤ 65536 then (0,canonC cs) else (14,[])) else (errC cs,[])
def CanonPost (cs : List Cel) (w : World) (e : Ending) (w' : World) : Prop :=
 ∃ v,e = .returned (.tuple #[v,.int .i64 (canonR cs).1]) ∧ CellsAt w' w.heap.size v (canonR cs).2 ∧ Go.RowKit.Below w.heap.size w w'
theorem far_rng {c : Cel} (h : farC c = false) : Rng c:=by
 simp only [farC,Bool.or_eq_false_iff,decide_eq_false_iff_not] at h
 unfold Rng
 simp [Lit.wf,IntKind.min,IntKind.max,IntKind.bits,IntKind.signed]
 omega
theorem grown_of_below {W W' : World} (h : Go.RowKit.Below W.heap.size W W') : W.grownBy W' none:=⟨h.os,h.tape,h.output,h.size,fun k hk _ => h.block k hk⟩
theorem CellsR.any {w : World} {A : Nat → Prop} {v : Value} {cs : List Cel} (h : CellsR w A v cs) : ∃ p cap,v = .slice p cs.length cap ∧ ∀ (i : Nat) c,cs[i]? = some c → ∃ b o,p = some ⟨b,o,none⟩ ∧ A b ∧
  w.cell? ⟨b,o + i * 3,none⟩ = some (.int .i64 c.1) ∧ w.cell? ⟨b,o + i * 3 + 1,none⟩ = some (.int .i64 c.2.1) ∧ w.cell? ⟨b,o + i * 3 + 2,none⟩ = some (.int .i64 c.2.2):=by
 rcases h with ⟨ad,cap,rfl,rfl⟩ | ⟨b,o,cap,rfl,hA,_,hc⟩
 ·exact ⟨ad,cap,rfl,by simp⟩
 ·exact ⟨_,cap,rfl,fun i c hi => ⟨b,o,rfl,hA,hc i c hi⟩⟩
structure LoopC (B : Nat) (W1 : World) (cs : List Cel) (k : Nat) (wr : World) : Prop where
 map : ∃ es,wr.ownsMap Tryz.prog 101 cellR B k (.map es) ∧ es.Perm ((lastC (cs.take k)).map entC)
 rng : ∀ c ∈ lastC (cs.take k),Rng c
 below : Go.RowKit.Below W1.heap.size W1 wr
 err : errC cs = errC (cs.drop k)
theorem filter_pd : ∀ L : List Cel,(L.map entC).filter (fun p => !pdC p.1 p.2) = (L.filter nzC).map entC
 | [] => rfl
 | c :: L => by
  have e : (!pdC (entC c).1 (entC c).2) = nzC c:=rfl
  rw [List.map_cons,List.filter_cons,List.filter_cons,e,filter_pd L]
  cases nzC c <;> rfl
theorem lastC_snoc (l : List Cel) (c : Cel) : lastC (l ++ [c]) = putC (lastC l) c:=by simp [lastC,List.foldl_append]
set_option maxHeartbeats 4000000 in
set_option maxRecDepth 100000 in
theorem canon_walk {A : Nat → Prop} (w : World) (hA : ∀ b,A b → b < w.heap.size) (gl : GlobR w A) {x : FV} {rv lv : Value} (hx : FR w A x rv) (h1 : rv.oneCell' = true) (cs : List Cel) (hl : CellsR w A lv cs) (hn : cs.length ≤ 1000000) :
  Calls Tryz.prog 35 #[.agg #[.int .i64 0,rv],lv] w (CanonPost cs w):=by
 have hmk:=@run_makeMap Tryz.prog
 obtain ⟨p,cap,rfl,hcells⟩:=hl.any
 have HCELLS:=Lib.hid hcells
 clear hcells hl
 obtain ⟨W0,hW0⟩ : ∃ W0,w.alloc (.cells #[.int .i64 0,rv] 62) = W0:=⟨_,rfl⟩
 have hb0 : Go.RowKit.Below w.heap.size w W0:=by rw [← hW0];exact (Go.RowKit.Below.refl _ w).alloc (Nat.le_refl _) _
 have hs0 : w.heap.size < W0.heap.size:=by rw [← hW0];simp
 have k0 : W0.cell? ⟨w.heap.size,0,none⟩ = some (.int .i64 0):=by rw [← hW0];simp
 have k1 : W0.cell? ⟨w.heap.size,1,none⟩ = some rv:=by rw [← hW0];simp
 have ext : ∀ {W : World},Go.RowKit.Below w.heap.size w W → (∀ b,A b → b < W.heap.size) ∧ GlobR W A:=fun {W} h => ⟨fun b hb => Nat.lt_of_lt_of_le (hA b hb) h.size,gl.mono ⟨fun _ h => h,fun b hb => h.block b (hA b hb)⟩⟩
 have fe0 : FExt w A W0 A:=⟨fun _ h => h,fun b hb => hb0.block b (hA b hb)⟩
 have hck:=check_calls (ext hb0).1 (ext hb0).2 (hx.mono fe0) h1
 clear fe0
 go_enter Tryz.func35,Tryz.ntmps35
 go_wp2_with fail
 refine hck.mono ?_
 rintro e W1 ⟨rfl,hb1⟩
 have hbw1 : Go.RowKit.Below w.heap.size w W1:=hb0.trans (hb1.mono (Nat.le_of_lt hs0))
 have hs1 : w.heap.size < W1.heap.size:=Nat.lt_of_lt_of_le hs0 hb1.size
 have k2 : W1.cell? ⟨w.heap.size,0,none⟩ = some (.int .i64 0):=(hb1.cell (p:=⟨w.heap.size,0,none⟩) hs0).trans k0
 clear hW0 hck k0 k1 hb1
 go_wp2
 go_loopw [18] (fun iv wr => ∃ k : Nat,iv = .int .i64 k ∧ k ≤ cs.length ∧ LoopC W1.heap.size W1 cs k wr) (fun iv _ => cs.length - (intOf iv).toNat)
 case atStart => exact ⟨0,rfl,Nat.zero_le _,⟨⟨[],World.ownsMap_made W1 _ _ _,List.Perm.nil⟩,by simp [lastC],(Go.RowKit.Below.refl _ _).alloc (Nat.le_refl _) _,rfl⟩⟩
 case round =>
  obtain ⟨k,rfl,hk,hrel⟩:=hrel
  by_cases hlt : k < cs.length
  ·obtain ⟨⟨es,hown,hperm⟩,hrng,hbr,herr⟩:=hrel
   obtain ⟨c1,c2,c3,hc⟩ : ∃ c1 c2 c3 : Int,cs[k]? = some (c1,c2,c3):=⟨_,_,_,List.getElem?_eq_getElem hlt⟩
   obtain ⟨b,o,rfl,hAb,f0,f1,f2⟩:=HCELLS.out k _ hc
   have hbw : Go.RowKit.Below w.heap.size w wr:=hbw1.trans (hbr.mono (Nat.le_of_lt hs1))
   have hbl:=hA b hAb
   have e0 : wr.cell? ⟨b,o + k * 3,none⟩ = some (.int .i64 c1):=(hbw.cell (p:=⟨b,o + k * 3,none⟩) hbl).trans f0
   have e1 : wr.cell? ⟨b,o + k * 3 + 1,none⟩ = some (.int .i64 c2):=(hbw.cell (p:=⟨b,o + k * 3 + 1,none⟩) hbl).trans f1
   have e2 : wr.cell? ⟨b,o + k * 3 + 2,none⟩ = some (.int .i64 c3):=(hbw.cell (p:=⟨b,o + k * 3 + 2,none⟩) hbl).trans f2
   have k3 : wr.cell? ⟨w.heap.size,0,none⟩ = some (.int .i64 0):=(hbr.cell (p:=⟨w.heap.size,0,none⟩) hs1).trans k2
   have hbox : Go.RowKit.Below w.heap.size w (wr.alloc (.cells #[.int .i64 c1,.int .i64 c2,.int .i64 c3] 53)):=hbw.trans ((Go.RowKit.Below.refl _ wr).alloc hbw.size _)
   have hfar:=far_calls (ext hbox).1 (ext hbox).2 (c1,c2,c3)
   have HC:=Lib.hid hc
   have HE:=Lib.hid herr
   have HM:=Lib.hid hown
   have hwr:=hbr.size
   clear f0 f1 f2 hc herr hown
   have hdrop : cs.drop k = (c1,c2,c3) :: cs.drop (k + 1):=by
    rw [List.drop_eq_getElem_cons hlt]
    congr 1
    have:=HC.out
    rw [List.getElem?_eq_getElem hlt] at this
    exact Option.some.inj this
   have HD:=Lib.hid hdrop
   clear hdrop
   cases hf : farC (c1,c2,c3) with
   | true =>
    rw [hf] at hfar
    have HR:=Lib.hid (show canonR cs = (13,[]) by
     have e : errC cs = 13:=by rw [HE.out,HD.out];simp [errC,hf]
     simp [canonR,e])
    clear hf
    go_wp2_with fail
    refine hfar.mono ?_
    rintro e W2 ⟨rfl,hb2⟩
    go_wp2
    refine bodyPost_ret (v:=.tuple #[.slice none 0 0,.int .i64 13]) (by simp [results,Tryz.results35,go_sem]) rfl ?_
    exact ⟨_,by rw [HR.out],.inl ⟨rfl,by rw [HR.out]⟩,hbox.trans (hb2.mono hbox.size)⟩
   | false =>
    rw [hf] at hfar
    have HF:=Lib.hid hf
    clear hf
    have hz : wr.heap.size < (wr.alloc (.cells #[.int .i64 c1,.int .i64 c2,.int .i64 c3] 53)).heap.size:=by simp
    have hz0 : w.heap.size < (wr.alloc (.cells #[.int .i64 c1,.int .i64 c2,.int .i64 c3] 53)).heap.size:=by simp;omega
    have a0 : (wr.alloc (.cells #[.int .i64 c1,.int .i64 c2,.int .i64 c3] 53)).cell? ⟨wr.heap.size,0,none⟩ = some (.int .i64 c1):=by simp
    have a1 : (wr.alloc (.cells #[.int .i64 c1,.int .i64 c2,.int .i64 c3] 53)).cell? ⟨wr.heap.size,1,none⟩ = some (.int .i64 c2):=by simp
    have a2 : (wr.alloc (.cells #[.int .i64 c1,.int .i64 c2,.int .i64 c3] 53)).cell? ⟨wr.heap.size,2,none⟩ = some (.int .i64 c3):=by simp
    have k4 : (wr.alloc (.cells #[.int .i64 c1,.int .i64 c2,.int .i64 c3] 53)).cell? ⟨w.heap.size,0,none⟩ = some (.int .i64 0):=((Go.RowKit.Below.refl _ wr).alloc (Nat.le_refl _) _).cell (p:=⟨w.heap.size,0,none⟩) (by show w.heap.size < wr.heap.size;omega) |>.trans k3
    go_wp2_with fail
    refine hfar.mono ?_
    rintro e W2 ⟨rfl,hb2⟩
    have b0 : W2.cell? ⟨wr.heap.size,0,none⟩ = some (.int .i64 c1):=(hb2.cell (p:=⟨wr.heap.size,0,none⟩) hz).trans a0
    have b1 : W2.cell? ⟨wr.heap.size,1,none⟩ = some (.int .i64 c2):=(hb2.cell (p:=⟨wr.heap.size,1,none⟩) hz).trans a1
    have b2 : W2.cell? ⟨wr.heap.size,2,none⟩ = some (.int .i64 c3):=(hb2.cell (p:=⟨wr.heap.size,2,none⟩) hz).trans a2
    have k5 : W2.cell? ⟨w.heap.size,0,none⟩ = some (.int .i64 0):=(hb2.cell (p:=⟨w.heap.size,0,none⟩) hz0).trans k4
    have hbx2 : Go.RowKit.Below w.heap.size w W2:=hbox.trans (hb2.mono hbox.size)
    have hst:=isState_calls (ext hbx2).1 (ext hbx2).2 c3
    have hz2 : wr.heap.size < W2.heap.size:=Nat.lt_of_lt_of_le hz hb2.size
    clear a0 a1 a2 k4 hfar
    cases hs : stateC c3 with
    | false =>
     rw [hs] at hst
     have HR:=Lib.hid (show canonR cs = (11,[]) by
      have e : errC cs = 11:=by rw [HE.out,HD.out];simp [errC,HF.out,hs]
      simp [canonR,e])
     clear hs
     go_wp2_with fail
     refine hst.mono ?_
     rintro e W3 ⟨rfl,hb3⟩
     go_wp2
     refine bodyPost_ret (v:=.tuple #[.slice none 0 0,.int .i64 11]) (by simp [results,Tryz.results35,go_sem]) rfl ?_
     exact ⟨_,by rw [HR.out],.inl ⟨rfl,by rw [HR.out]⟩,hbx2.trans (hb3.mono hbx2.size)⟩
    | true =>
     rw [hs] at hst
     have HS:=Lib.hid hs
     clear hs
     go_wp2_with fail
     refine hst.mono ?_
     rintro e W3 ⟨rfl,hb3⟩
     have d0 : W3.cell? ⟨wr.heap.size,0,none⟩ = some (.int .i64 c1):=(hb3.cell (p:=⟨wr.heap.size,0,none⟩) hz2).trans b0
     have d1 : W3.cell? ⟨wr.heap.size,1,none⟩ = some (.int .i64 c2):=(hb3.cell (p:=⟨wr.heap.size,1,none⟩) hz2).trans b1
     have d2 : W3.cell? ⟨wr.heap.size,2,none⟩ = some (.int .i64 c3):=(hb3.cell (p:=⟨wr.heap.size,2,none⟩) hz2).trans b2
     have hbr3 : Go.RowKit.Below wr.heap.size wr W3:=((Go.RowKit.Below.refl _ wr).alloc (Nat.le_refl _) _).trans ((hb2.mono (Nat.le_of_lt hz)).trans (hb3.mono (Nat.le_of_lt hz2)))
     have hown3 : W3.ownsMap Tryz.prog 101 cellR W1.heap.size k (.map es):=HM.out.kept (grown_of_below hbr3) (by simp)
     have hR:=far_rng HF.out
     have hkey:=keyOf_cell hR
     have HKEY:=Lib.hid hkey
     clear hkey b0 b1 b2 hst
     go_wp2_with (first
      | (at_mapUpdate;refine wpList_mapUpdate_own _ rfl _ _ _ 111 rfl 101 53 keyed101 Tryz.underlying111 cellR W1.heap.size k (.map es) rfl hown3 (by unfold maxLen;omega) _ _ _ rfl rfl HKEY.out (cellD (c1,c2,c3)) [] rfl ?_;intro w4 hown4 hgrow4)
      | go_in)
     have et : cs.take (k + 1) = cs.take k ++ [(c1,c2,c3)]:=by rw [List.take_add_one,HC.out];rfl
     refine ⟨⟨k + 1,by go_num,by omega,⟨?_,?_,?_,?_⟩⟩,by simp [intOf];omega⟩
     ·refine ⟨putKey (keyL (c1,c2,c3)) (cellD (c1,c2,c3)) es,hown4,?_⟩
      rw [et,lastC_snoc]
      exact MapIs.put_perm hR hrng hperm
     ·rw [et,lastC_snoc];exact putC_rng hR hrng
     ·exact (hbr.trans (hbr3.mono hwr)).grown hgrow4 (Nat.le_trans hwr hbr3.size) (fun j e => by cases e;exact Nat.le_refl _)
     ·rw [HE.out,HD.out]
      simp [errC,HF.out,HS.out]
  ·obtain ⟨⟨es,hown,hperm⟩,hrng,hbr,herr⟩:=hrel
   have hkl : k = cs.length:=by omega
   subst hkl
   rw [List.take_length] at hperm hrng
   have HE:=Lib.hid (show errC cs = 0 by rw [herr,List.drop_length];rfl)
   have hdel:=delete_zeros _ _ _ wr hown
   have HP:=Lib.hid hperm
   have hbw : Go.RowKit.Below w.heap.size w wr:=hbw1.trans (hbr.mono (Nat.le_of_lt hs1))
   clear herr hperm hown
   go_wp2_with fail
   refine hdel.mono ?_
   rintro e W2 ⟨rfl,hown2,hg2⟩
   have hp2 : (es.filter fun p => !pdC p.1 p.2).Perm (((lastC cs).filter nzC).map entC):=by
    have:=HP.out.filter fun p => !pdC p.1 p.2
    rwa [filter_pd] at this
   have hown3 : W2.ownsMap Tryz.prog 101 cellR W1.heap.size cs.length (.map (es.filter fun p => !pdC p.1 p.2)):=hown2
   have hlen0 : ∀ ty,(Builtin.len_ #[111] ty #[.map (some W1.heap.size)]).run Tryz.prog W2 = .ok (.int .i64 (((canonC cs).length : Nat) : Int)) W2:=fun ty => by
    have:=hown3.len Tryz.underlying111 ty
    rw [show Maps.size (DataW.map (es.filter fun p => !pdC p.1 p.2)) = (canonC cs).length by rw [Maps.size_eq,hp2.length_eq,canonC,sortC_len,List.length_map]] at this
    exact this
   have hrng2 : ∀ c ∈ (lastC cs).filter nzC,Rng c:=fun c hc => hrng c (List.mem_filter.1 hc).1
   have hbw2 : Go.RowKit.Below w.heap.size w W2:=hbw.grown hg2 hbw.size (fun j e => by cases e;exact Nat.le_of_lt hs1)
   have hsrt:=sorted_calls _ _ _ _ ((lastC_apart cs).filter nzC) W2 hown3 hp2 hrng2 (by have:=List.length_filter_le nzC (lastC cs);have:=lastC_len cs;omega)
   obtain ⟨n,hnn⟩ : ∃ n,n = (canonC cs).length:=⟨_,rfl⟩
   have HN:=Lib.hid hnn
   rw [← hnn] at hlen0
   clear hnn hown2 hown3 hp2 hdel hrng hrng2 hg2 HP
   by_cases hmany : 65536 < n
   ·go_wp2
    refine bodyPost_ret (v:=.tuple #[.slice none 0 0,.int .i64 14]) (by simp [results,Tryz.results35,go_sem]) rfl ?_
    have hR : canonR cs = (14,[]):=by
     have:=HN.out
     simp only [canonR,HE.out,if_true]
     rw [if_neg (by omega)]
    exact ⟨_,by rw [hR],.inl ⟨rfl,by rw [hR]⟩,hbw2⟩
   ·go_wp2_with fail
    refine hsrt.mono ?_
    rintro e W3 ⟨v,l,rfl,hord,hmem,hcel,hb3⟩
    go_wp2
    refine bodyPost_ret (v:=.tuple #[v,.int .i64 0]) (by simp [results,Tryz.results35,go_sem]) rfl ?_
    have hl : l = canonC cs:=by
     refine ord_unique hord (canonC_ord cs) fun c => ?_
     rw [hmem,canonC,sortC_mem]
    have hR : canonR cs = (0,canonC cs):=by
     have:=HN.out
     simp only [canonR,HE.out,if_true]
     rw [if_pos (by omega)]
    subst hl
    exact ⟨_,by rw [hR],by rw [hR];exact hcel.base hbw2.size,hbw2.trans (hb3.mono hbw2.size)⟩
end Go.Proofs.YtpffkpaiihcffaaGreatDoor
end
section
namespace Go.Proofs.YtpffkpaiihcffaaGreatDoor
open Go Go.Proofs Go.Proofs.YtpffkpaiihcffaaGreatDoor.VM Go.RowKit Go.Shelf Go.Lib Go.Sort
def Made (A : Nat → Prop) (w w' : World) (b : Nat) : Prop:=A b ∨ (w.heap.size ≤ b ∧ b < w'.heap.size)
theorem made_ext {A : Nat → Prop} {w w' : World} (hA : ∀ b,A b → b < w.heap.size) (hb : Go.RowKit.Below w.heap.size w w') : FExt w A w' (Made A w w'):=⟨fun b h => .inl h,fun b h => hb.block b (hA b h)⟩
theorem canonA_eq (cs : List Cel) : canonA cs = .tup [outC (canonR cs).2,.int .i64 (canonR cs).1]:=by
 unfold canonA canonR
 by_cases h : errC cs = 0
 ·by_cases h2 : (canonC cs).length ≤ 65536
  ·simp [h,h2]
  ·simp [h,h2,outC]
 ·simp [h,outC]
theorem agg_inv {w : World} {A : Nat → Prop} {x y : FV} {c : Value} (h : FR w A (.agg [x,y]) c) : ∃ u v,c = .agg #[u,v] ∧ FR w A x u ∧ FR w A y v ∧ u.oneCell' = true ∧ v.oneCell' = true:=by
 cases h with
 | agg _ vs hl h1 hx =>
  match vs,hl,h1,hx with
  | [u,v],_,h1,hx => exact ⟨u,v,rfl,hx 0 _ _ rfl rfl,hx 1 _ _ rfl rfl,h1 u (by simp),h1 v (by simp)⟩
  | [],h,_,_ => cases h
  | [_],h,_,_ => cases h
  | _ :: _ :: _ :: l,h,_,_ => simp at h
theorem canonOv_some {xs : List FV} {y : FV} (h : canonOv xs = some y) : ∃ x l r cs,xs = [.agg [.int .i64 0,x],l] ∧ asRows l = some r ∧ celsF r = some cs ∧ cs.length ≤ 1000000 ∧ y = canonA cs:=by
 unfold canonOv at h
 split at h
 ·obtain ⟨r,h1,h⟩:=bindO_some h
  obtain ⟨cs,h2,h⟩:=bindO_some h
  obtain ⟨h3,h⟩:=gB_some h
  cases h
  exact ⟨_,_,r,cs,rfl,h1,h2,of_decide_eq_true h3,rfl⟩
 ·cases h
end Go.Proofs.YtpffkpaiihcffaaGreatDoor
end
section
namespace Go.Proofs.YtpffkpaiihcffaaGreatDoor
open Go Go.Proofs Go.Proofs.YtpffkpaiihcffaaGreatDoor.VM Go.RowKit Go.Shelf Go.Maps Go.Lib Go.ChangeMaps
def MovesR (w : World) (A : Nat → Prop) (v : Value) (ms : List Mv) : Prop:=∃ p cap,v = .slice p ms.length cap ∧ ∀ (i : Nat) m,ms[i]? = some m → ∃ b o,p = some ⟨b,o,none⟩ ∧ A b ∧
  w.cell? ⟨b,o + i * 2,none⟩ = some (.int .i64 m.1) ∧ w.cell? ⟨b,o + i * 2 + 1,none⟩ = some (.int .i64 m.2)
def mvFo (m : Mv) : List FV:=[.int .i64 m.1,.int .i64 m.2]
theorem mvsF_inv : ∀ {r : List (List FV)} {ms : List Mv},mvsF r = some ms → r = ms.map mvFo
 | [],ms,h => by cases h;rfl
 | x :: r,ms,h => by
  simp only [mvsF] at h
  obtain ⟨c,h1,h⟩:=bindO_some h
  obtain ⟨l,h2,h⟩:=bindO_some h
  cases h
  rw [mvsF_inv h2,List.map_cons]
  congr 1
  unfold mvOf at h1
  split at h1
  ·cases h1;rfl
  ·cases h1
theorem movesR_of {w : World} {A : Nat → Prop} {x : FV} {v : Value} {r : List (List FV)} {ms : List Mv} (h : FR w A x v) (hr : asRows x = some r) (hc : mvsF r = some ms) : MovesR w A v ms:=by
 have e:=mvsF_inv hc
 have nil : ∀ (ad : Option Addr) (cap : Nat),ms = [] → MovesR w A (.slice ad 0 cap) ms:=fun ad cap hm => ⟨ad,cap,by rw [hm];rfl,fun i m hi => by rw [hm] at hi;simp at hi⟩
 cases h with
 | nilS a => cases hr;cases ms with
  | nil => exact nil _ _ rfl
  | cons c cs => simp at e
 | arrNil a cap => cases hr;cases ms with
  | nil => exact nil _ _ rfl
  | cons c cs => simp at e
 | arr rows a cap s u hs hcap hrow hA hm h1 hx =>
  cases hr
  subst e
  cases ms with
  | nil => exact nil _ _ rfl
  | cons c0 cs =>
   have es : s = 2:=(hrow (mvFo c0) (by simp)).symm
   subst es
   have hsp : a.spot = none:=by
    have:=hm 0 0 (by simp) (by omega)
    unfold World.cell? at this
    split at this
    ·split at this
     ·cases this
     ·rename_i hsp
      cases hq : a.spot with
      | none => rfl
      | some q => rw [show (a.add (0 * 2 + 0)) = a by simp [Addr.add]] at hsp;simp [hq] at hsp
    ·cases this
   obtain ⟨b,o,sp⟩:=a
   simp only at hsp
   subst hsp
   refine ⟨_,cap,by simp,fun i c hi => ⟨b,o,rfl,hA,?_⟩⟩
   have hlt : i < (c0 :: cs).length:=(List.getElem?_eq_some_iff.1 hi).1
   have hri : ((c0 :: cs).map mvFo)[i]? = some (mvFo c):=by rw [List.getElem?_map,hi];rfl
   have key : ∀ (k : Nat) (n : Int),k < 2 → (mvFo c)[k]? = some (.int .i64 n) → w.cell? ⟨b,o + i * 2 + k,none⟩ = some (.int .i64 n):=fun k n hk hn => by
    have h2:=hm i k (by simpa using hlt) hk
    have h3:=hx i _ k _ hri hn
    have h4 : (⟨b,o,none⟩ : Addr).add (i * 2 + k) = ⟨b,o + i * 2 + k,none⟩:=by simp [Addr.add,Nat.add_assoc]
    rw [h4] at h2
    rw [h2]
    generalize u i k = q at h3
    cases h3
    rfl
   exact ⟨key 0 _ (by omega) rfl,key 1 _ (by omega) rfl⟩
 | _ => cases hr
end Go.Proofs.YtpffkpaiihcffaaGreatDoor
end
section
namespace Go.Proofs.YtpffkpaiihcffaaGreatDoor
open Go Go.Proofs Go.Proofs.YtpffkpaiihcffaaGreatDoor.VM Go.RowKit
section
variable {W W' w1 : World} {base e : Nat} {v u : Value} {n g cap : Nat} {xs : List Value}
theorem heap_setCell {c : Array Value} {t : Nat} {i : Nat} (h : W.heap[g]? = some (.cells c t (0,0))) : (W.setCell ⟨g,i,none⟩ u).heap[g]? = some (.cells (c.setIfInBounds i u) t (0,0)):=by
 obtain ⟨hlt,hk⟩:=Array.getElem?_eq_some_iff.1 h
 show (W.heap.modify g _)[g]? = _
 rw [Array.getElem?_eq_getElem (by rw [Array.size_modify];exact hlt),Array.getElem_modify_self,hk]
 rfl
theorem heap_other {i k : Nat} (h : k ≠ g) : (W.setCell ⟨g,i,none⟩ u).heap[k]? = W.heap[k]?:=Go.RowKit.Below.heap_setCell W ⟨g,i,none⟩ u k h
theorem row_block (h : W.ownsRow base e 1 (.slice (some ⟨g,0,none⟩) n cap) n xs) : base ≤ g ∧ n ≤ cap ∧ ∃ cur,W.heap[g]? = some (.cells cur e (0,0)) ∧ cur.size = cap ∧ cur.toList.take n = xs:=by
 rcases h.2 with ⟨h0,_⟩ | ⟨g',cap',cur,hv,h1,h2,h3,h4,h5,h6⟩
 ·cases h0
 ·cases hv
  exact ⟨h1,h3,cur,h2,by omega,by simpa using h6⟩
theorem row_cell (h : W.ownsRow base e 1 (.slice (some ⟨g,0,none⟩) n cap) n xs) {i : Nat} (hi : i < n) : W.cell? ⟨g,i,none⟩ = xs[i]? ∧ W.frozen? ⟨g,i,none⟩ = false:=by
 obtain ⟨_,hc,cur,hb,hs,ht⟩:=row_block h
 refine ⟨?_,by simp [World.frozen?,hb]⟩
 rw [← ht,List.getElem?_take,if_pos hi]
 simp [World.cell?,hb]
theorem row_set (h : W.ownsRow base e 1 (.slice (some ⟨g,0,none⟩) n cap) n xs) (i : Nat) : (W.setCell ⟨g,i,none⟩ u).ownsRow base e 1 (.slice (some ⟨g,0,none⟩) n cap) n (xs.set i u):=by
 rcases h.2 with ⟨h0,_⟩ | ⟨g',cap',cur,hv,h1,h2,h3,h4,h5,h6⟩
 ·cases h0
 ·cases hv
  refine ⟨by rw [List.length_set];exact h.1,.inr ⟨g,cap,_,rfl,h1,heap_setCell h2,h3,h4,by simpa using h5,?_⟩⟩
  rw [Array.toList_setIfInBounds,List.take_set,h6]
theorem row_kept (h : W.ownsRow base e 1 v n xs) (hb : ∀ b,v.ownBlock = some b → W'.heap[b]? = W.heap[b]?) : W'.ownsRow base e 1 v n xs:=by
 refine ⟨h.1,?_⟩
 rcases h.2 with h0 | ⟨g,cap,cur,rfl,h1,h2,h3⟩
 ·exact .inl h0
 ·exact .inr ⟨g,cap,cur,rfl,h1,(hb g rfl).trans h2,h3⟩
theorem row_kind (h : W.ownsRow base e 1 v n xs) {b : Nat} (hb : v.ownBlock = some b) : ∃ cur,W.heap[b]? = some (.cells cur e (0,0)) ∧ base ≤ b ∧ b < W.heap.size:=by
 rcases h.2 with ⟨rfl,_⟩ | ⟨g,cap,cur,rfl,h1,h2,h3⟩
 ·simp [Value.ownBlock] at hb
 ·simp only [Value.ownBlock,Option.some.injEq] at hb
  subst hb
  exact ⟨cur,h2,h1,(Array.getElem?_eq_some_iff.1 h2).1⟩
end
structure InC (base : Nat) (cols : List (List Int)) (vs : List Value) (W : World) : Prop where
 len : vs.length = cols.length
 col : ∀ (i : Nat) ui c,vs[i]? = some ui → cols[i]? = some c → W.ownsRow base 3 1 ui c.length (c.map (Value.int .i64)) ∧ (ui = .slice none 0 0 ↔ c = [])
 apart : ∀ (i j : Nat) ui uj b,vs[i]? = some ui → vs[j]? = some uj → ui.ownBlock = some b → uj.ownBlock = some b → i = j
structure FldC (base Bf : Nat) (v : Value) (cols : List (List Int)) (vs : List Value) (W : World) : Prop where
 box : W.heap[Bf]? = some (.cells #[v] 72 (0,0))
 bf : base ≤ Bf
 row : W.ownsRow base 75 1 v cols.length vs
 ins : InC base cols vs W
 nil : v = .slice none 0 0 ↔ cols = []
def Rest (base Bf : Nat) (W W' : World) : Prop:=W.heap.size ≤ W'.heap.size ∧ Go.RowKit.Below base W W' ∧ ∀ (B : Nat) c t,W.heap[B]? = some (.cells c t (0,0)) → t ≠ 75 → t ≠ 3 → B ≠ Bf → W'.heap[B]? = some (.cells c t (0,0))
theorem Rest.refl (base Bf : Nat) (W : World) : Rest base Bf W W:=⟨Nat.le_refl _,Go.RowKit.Below.refl _ _,fun _ _ _ h _ _ _ => h⟩
theorem Rest.trans {base Bf : Nat} {W1 W2 W3 : World} (h : Rest base Bf W1 W2) (k : Rest base Bf W2 W3) : Rest base Bf W1 W3:=⟨Nat.le_trans h.1 k.1,h.2.1.trans k.2.1,fun B c t hb h1 h2 h3 => k.2.2 B c t (h.2.2 B c t hb h1 h2 h3) h1 h2 h3⟩
section
variable {W W' w1 : World} {base Bf : Nat} {v v' : Value} {cols : List (List Int)} {vs : List Value} {tmp : Obj}
theorem InC.kept (h : InC base cols vs W) (hb : ∀ (i : Nat) (ui : Value) (b : Nat),vs[i]? = some ui → ui.ownBlock = some b → W'.heap[b]? = W.heap[b]?) : InC base cols vs W' :=
 ⟨h.len,fun i ui c hu hc => ⟨row_kept (h.col i ui c hu hc).1 fun b hbb => hb i ui b hu hbb,(h.col i ui c hu hc).2⟩,h.apart⟩
theorem InC.kind (h : InC base cols vs W) {i : Nat} {ui : Value} {b : Nat} (hu : vs[i]? = some ui) (hb : ui.ownBlock = some b) : ∃ cur,W.heap[b]? = some (.cells cur 3 (0,0)) ∧ base ≤ b ∧ b < W.heap.size:=by
 have hlt : i < cols.length:=by rw [← h.len];exact (List.getElem?_eq_some_iff.1 hu).1
 exact row_kind (h.col i ui _ hu (List.getElem?_eq_getElem hlt)).1 hb
theorem FldC.grown (h : FldC base Bf v cols vs W) (hg : W.grownBy W' none) : FldC base Bf v cols vs W':=by
 have hlt:=(Array.getElem?_eq_some_iff.1 h.box).1
 refine ⟨(hg.block Bf hlt (by simp)).trans h.box,h.bf,row_kept h.row fun b hb => ?_,h.ins.kept fun i ui b hu hb => ?_,h.nil⟩
 ·obtain ⟨_,_,_,h3⟩:=row_kind h.row hb
  exact hg.block b h3 (by simp)
 ·obtain ⟨_,_,_,h3⟩:=h.ins.kind hu hb
  exact hg.block b h3 (by simp)
theorem FldC.start (hb : W.heap[Bf]? = some (.cells #[.slice none 0 0] 72 (0,0))) (hf : base ≤ Bf) : FldC base Bf (.slice none 0 0) [] [] W :=
 ⟨hb,hf,World.ownsRow_nil _ _ _ _,⟨rfl,by simp,by simp⟩,by simp⟩
theorem FldC.push (h : FldC base Bf v cols vs W) (hbase : base ≤ W.heap.size) (hg : (W.alloc tmp).grownBy w1 v.ownBlock) (hown : w1.ownsRow base 75 1 v' (cols.length + 1) (vs ++ [.slice none 0 0])) (hnil : v' ≠ .slice none 0 0) :
  w1.heap[Bf]? = some (.cells #[v] 72 (0,0)) ∧ FldC base Bf v' (cols ++ [[]]) (vs ++ [.slice none 0 0]) (w1.setCell ⟨Bf,0,none⟩ v') ∧ Rest base Bf W (w1.setCell ⟨Bf,0,none⟩ v'):=by
 have old : ∀ (b : Nat) (c : Array Value) (t : Nat),W.heap[b]? = some (Obj.cells c t (0,0)) → t ≠ 75 → w1.heap[b]? = some (Obj.cells c t (0,0)):=fun b c t hb ht => by
  have hlt:=(Array.getElem?_eq_some_iff.1 hb).1
  refine (hg.block b (by simp;omega) fun e => ?_).trans ((Go.RowKit.Below.heap_alloc W _ b hlt).trans hb)
  obtain ⟨cur,h1,_⟩:=row_kind h.row e.symm
  rw [hb] at h1;cases h1;exact ht rfl
 have hbox:=old Bf _ _ h.box (by decide)
 have hin1 : InC base cols vs w1:=h.ins.kept fun i ui b hu hb => by
  obtain ⟨cur,h1,_,_⟩:=h.ins.kind hu hb
  rw [h1];exact old b _ _ h1 (by decide)
 have hne : ∀ b,v'.ownBlock = some b → b ≠ Bf:=fun b hb e => by
  obtain ⟨cur,h1,_⟩:=row_kind hown hb
  subst e;rw [hbox] at h1;cases h1
 have hin2 : InC base cols vs (w1.setCell ⟨Bf,0,none⟩ v'):=hin1.kept fun i ui b hu hb => by
  obtain ⟨cur,h1,_,_⟩:=hin1.kind hu hb
  exact heap_other fun e => by subst e;rw [hbox] at h1;cases h1
 refine ⟨hbox,⟨by simpa using heap_setCell (i:=0) (u:=v') hbox,h.bf,?_,?_,?_⟩,?_,?_,?_⟩
 ·rw [List.length_append]
  exact row_kept hown fun b hb => heap_other (hne b hb)
 ·refine ⟨by simp [hin2.len],fun i ui c hu hc => ?_,fun i j ui uj b hu hj h1 h2 => ?_⟩
  ·by_cases hi : i < cols.length
   ·rw [List.getElem?_append_left hi] at hc
    rw [List.getElem?_append_left (by rw [hin2.len];exact hi)] at hu
    exact hin2.col i ui c hu hc
   ·rw [List.getElem?_append_right (by omega)] at hc
    rw [List.getElem?_append_right (by rw [hin2.len];omega)] at hu
    have : i - cols.length = 0:=by
     have:=(List.getElem?_eq_some_iff.1 hc).1
     simp at this;omega
    rw [this] at hc;rw [hin2.len,this] at hu
    cases hc;cases hu
    exact ⟨World.ownsRow_nil _ _ _ _,by simp⟩
  ·have lt : ∀ (i : Nat) ui,(vs ++ [Value.slice none 0 0])[i]? = some ui → ui.ownBlock = some b → i < vs.length:=fun i ui hu h1 => by
    by_cases hi : i < vs.length
    ·exact hi
    ·rw [List.getElem?_append_right (by omega)] at hu
     have : i - vs.length = 0:=by
      have:=(List.getElem?_eq_some_iff.1 hu).1
      simp at this;omega
     rw [this] at hu;cases hu;simp [Value.ownBlock] at h1
   have l1:=lt i ui hu h1
   have l2:=lt j uj hj h2
   rw [List.getElem?_append_left l1] at hu
   rw [List.getElem?_append_left l2] at hj
   exact hin2.apart i j ui uj b hu hj h1 h2
 ·simp [hnil]
 ·have:=hg.size
  simp only [World.size_setCell,World.size_alloc] at *
  omega
 ·refine (((Go.RowKit.Below.refl base W).alloc hbase _).grown hg (by simp;omega) (fun k hk => (row_kind h.row hk).choose_spec.2.1)).setCell (p:=⟨Bf,0,none⟩) h.bf _
 ·intro B c t hB h75 h3 hBf
  rw [heap_other hBf]
  exact old B c t hB h75
variable {g cap i : Nat} {ui u' : Value} {col : List Int}
theorem FldC.grow (h : FldC base Bf (.slice (some ⟨g,0,none⟩) cols.length cap) cols vs W) (hu : vs[i]? = some ui) (hc : cols[i]? = some col) (hbase : base ≤ W.heap.size) (hg : (W.alloc tmp).grownBy w1 ui.ownBlock)
  (hown : w1.ownsRow base 3 1 u' (col.length + 1) (col.map (Value.int .i64) ++ [.int .i64 0])) (hnil : u' ≠ .slice none 0 0) (hblk : u'.ownBlock = ui.ownBlock ∨ u'.ownBlock = some (W.alloc tmp).heap.size) :
  w1.cell? ⟨g,i,none⟩ = some ui ∧ w1.frozen? ⟨g,i,none⟩ = false ∧ FldC base Bf (.slice (some ⟨g,0,none⟩) cols.length cap) (cols.set i (col ++ [0])) (vs.set i u') (w1.setCell ⟨g,i,none⟩ u') ∧ Rest base Bf W (w1.setCell ⟨g,i,none⟩ u'):=by
 have hi : i < cols.length:=(List.getElem?_eq_some_iff.1 hc).1
 have old : ∀ (b : Nat) (c : Array Value) (t : Nat),W.heap[b]? = some (Obj.cells c t (0,0)) → some b ≠ ui.ownBlock → w1.heap[b]? = some (Obj.cells c t (0,0)):=fun b c t hb ht => by
  have hlt:=(Array.getElem?_eq_some_iff.1 hb).1
  exact (hg.block b (by simp;omega) ht).trans ((Go.RowKit.Below.heap_alloc W _ b hlt).trans hb)
 have not3 : ∀ (b : Nat) (c : Array Value) (t : Nat),W.heap[b]? = some (Obj.cells c t (0,0)) → t ≠ 3 → some b ≠ ui.ownBlock:=fun b c t hb ht e => by
  obtain ⟨cur,h1,_⟩:=h.ins.kind hu e.symm
  rw [hb] at h1;cases h1;exact ht rfl
 obtain ⟨hbg,hcap,cur,hg1,hcs,hct⟩:=row_block h.row
 have hg2:=old g _ _ hg1 (not3 g _ _ hg1 (by decide))
 have hrow1 : w1.ownsRow base 75 1 (.slice (some ⟨g,0,none⟩) cols.length cap) cols.length vs:=row_kept h.row fun b hb => by
  simp only [Value.ownBlock,Option.some.injEq] at hb
  subst hb;rw [hg2,hg1]
 have hcell:=row_cell hrow1 hi
 have hbox:=old Bf _ _ h.box (not3 Bf _ _ h.box (by decide))
 have hgB : g ≠ Bf:=fun e => by have hb:=h.box;rw [← e,hg1] at hb;cases hb
 have hu' : ∀ b,u'.ownBlock = some b → b ≠ g:=fun b hb e => by
  obtain ⟨c,h1,_⟩:=row_kind hown hb
  subst e;rw [hg2] at h1;cases h1
 refine ⟨by rw [hcell.1];exact hu,hcell.2,⟨(heap_other (Ne.symm hgB)).trans hbox,h.bf,?_,?_,?_⟩,?_,?_,?_⟩
 ·rw [List.length_set]
  exact row_set hrow1 i
 ·refine ⟨by simp [h.ins.len],fun j uj c hj hcj => ?_,fun j k uj uk b hj hk h1 h2 => ?_⟩
  ·by_cases hij : i = j
   ·subst hij
    rw [List.getElem?_set_self (by rw [h.ins.len];exact hi)] at hj
    rw [List.getElem?_set_self hi] at hcj
    cases hj;cases hcj
    refine ⟨row_kept (W:=w1) (by simpa using hown) fun b hb => heap_other (hu' b hb),by simp [hnil]⟩
   ·rw [List.getElem?_set_ne hij] at hj hcj
    have hcol:=h.ins.col j uj c hj hcj
    refine ⟨row_kept hcol.1 fun b hb => ?_,hcol.2⟩
    obtain ⟨c2,h3,_⟩:=row_kind hcol.1 hb
    have hne : some b ≠ ui.ownBlock:=fun e => hij (h.ins.apart i j ui uj b hu hj e.symm hb)
    rw [heap_other (g:=g) (fun e => by subst e;rw [hg1] at h3;cases h3),old b _ _ h3 hne,h3]
  ·have own : ∀ (j : Nat) uj,(vs.set i u')[j]? = some uj → uj.ownBlock = some b → (j = i ∧ uj = u') ∨ (j ≠ i ∧ vs[j]? = some uj):=fun j uj hj _ => by
    by_cases hij : i = j
    ·subst hij
     rw [List.getElem?_set_self (by rw [h.ins.len];exact hi)] at hj
     cases hj;exact .inl ⟨rfl,rfl⟩
    ·rw [List.getElem?_set_ne hij] at hj
     exact .inr ⟨Ne.symm hij,hj⟩
   have fresh : ∀ (j : Nat) uj,j ≠ i → vs[j]? = some uj → uj.ownBlock = some b → u'.ownBlock = some b → False:=fun j uj hji hj hb hb' => by
    obtain ⟨c2,h3,_,hlt⟩:=h.ins.kind hj hb
    rcases hblk with e | e
    ·rw [hb'] at e
     exact hji (h.ins.apart j i uj ui b hj hu hb e.symm)
    ·rw [hb'] at e
     simp only [World.size_alloc,Option.some.injEq] at e
     omega
   rcases own j uj hj h1 with ⟨rfl,rfl⟩ | ⟨hji,hj'⟩ <;> rcases own k uk hk h2 with ⟨rfl,rfl⟩ | ⟨hki,hk'⟩
   ·rfl
   ·exact (fresh k uk hki hk' h2 h1).elim
   ·exact (fresh j uj hji hj' h1 h2).elim
   ·exact h.ins.apart j k uj uk b hj' hk' h1 h2
 ·constructor
  ·intro e;cases e
  ·intro e
   have:=congrArg List.length e
   rw [List.length_set,List.length_nil] at this;omega
 ·have:=hg.size
  simp only [World.size_setCell,World.size_alloc] at *
  omega
 ·exact (((Go.RowKit.Below.refl base W).alloc hbase _).grown hg (by simp;omega) (fun k hk => (h.ins.kind hu hk).choose_spec.2.1)).setCell (p:=⟨g,i,none⟩) hbg _
 ·intro B c t hB h75 h3 hBf
  rw [heap_other (fun e => by subst e;rw [hg1] at hB;cases hB;exact h75 rfl)]
  exact old B c t hB (not3 B c t hB h3)
theorem FldC.put {gi ci k : Nat} {s : Int} (h : FldC base Bf (.slice (some ⟨g,0,none⟩) cols.length cap) cols vs W) (hu : vs[i]? = some (.slice (some ⟨gi,0,none⟩) col.length ci)) (hc : cols[i]? = some col) (hk : k < col.length) :
  (W.cell? ⟨gi,k,none⟩).isSome = true ∧ W.frozen? ⟨gi,k,none⟩ = false ∧ FldC base Bf (.slice (some ⟨g,0,none⟩) cols.length cap) (cols.set i (col.set k s)) vs (W.setCell ⟨gi,k,none⟩ (.int .i64 s)) ∧ Rest base Bf W (W.setCell ⟨gi,k,none⟩ (.int .i64 s)):=by
 have hi : i < cols.length:=(List.getElem?_eq_some_iff.1 hc).1
 have hrow:=(h.ins.col i _ _ hu hc).1
 obtain ⟨hbi,_,cur,hg1,_,_⟩:=row_block hrow
 have hcell:=row_cell hrow hk
 have notg : ∀ (b : Nat) (c : Array Value) (t : Nat),W.heap[b]? = some (Obj.cells c t (0,0)) → t ≠ 3 → b ≠ gi:=fun b c t hb ht e => by
  subst e;rw [hg1] at hb;cases hb;exact ht rfl
 obtain ⟨hbg,_,cur2,hg2,_,_⟩:=row_block h.row
 refine ⟨by rw [hcell.1,List.getElem?_map,List.getElem?_eq_getElem hk];rfl,hcell.2,⟨(heap_other (notg Bf _ _ h.box (by decide))).trans h.box,h.bf,?_,?_,?_⟩,?_,?_,?_⟩
 ·rw [List.length_set]
  exact row_kept h.row fun b hb => by
   simp only [Value.ownBlock,Option.some.injEq] at hb
   subst hb;exact heap_other (notg g _ _ hg2 (by decide))
 ·refine ⟨by simp [h.ins.len],fun j uj c hj hcj => ?_,h.ins.apart⟩
  by_cases hij : i = j
  ·subst hij
   rw [List.getElem?_set_self hi] at hcj
   cases hcj
   rw [hu] at hj;cases hj
   refine ⟨?_,?_⟩
   ·have:=row_set (u:=.int .i64 s) hrow k
    rw [List.length_set,List.map_set]
    exact this
   ·constructor
    ·intro e;cases e
    ·intro e
     have:=congrArg List.length e
     rw [List.length_set,List.length_nil] at this;omega
  ·rw [List.getElem?_set_ne hij] at hcj
   have hcol:=h.ins.col j uj c hj hcj
   refine ⟨row_kept hcol.1 fun b hb => heap_other fun e => ?_,hcol.2⟩
   subst e
   exact hij (h.ins.apart i j _ uj _ hu hj rfl hb)
 ·constructor
  ·intro e;cases e
  ·intro e
   have:=congrArg List.length e
   rw [List.length_set,List.length_nil] at this;omega
 ·simp
 ·exact (Go.RowKit.Below.refl base W).setCell (p:=⟨gi,k,none⟩) hbi _
 ·intro B c t hB h75 h3 hBf
  rw [heap_other (notg B c t hB h3)]
  exact hB
end
end Go.Proofs.YtpffkpaiihcffaaGreatDoor
end
section
namespace Go.Proofs.YtpffkpaiihcffaaGreatDoor
open Go Go.Proofs Go.Proofs.YtpffkpaiihcffaaGreatDoor.VM Go.RowKit Go.Shelf
def readR (cs : List Cel) : Int × List (List Int):=if properC cs = 0 then (if fieldC cs = 0 then (0,colsOf cs) else (fieldC cs,[])) else (properC cs,[])
def ColsAt (w : World) (base : Nat) (v : Value) (cols : List (List Int)) : Prop:=∃ vs,w.ownsRow base 75 1 v cols.length vs ∧ InC base cols vs w ∧ (v = .slice none 0 0 ↔ cols = [])
theorem colsAt_nil (w : World) (base : Nat) : ColsAt w base (.slice none 0 0) []:=⟨[],World.ownsRow_nil _ _ _ _,⟨rfl,by simp,by simp⟩,by simp⟩
def ReadPost (cs : List Cel) (w : World) (e : Ending) (w' : World) : Prop :=
 ∃ v,e = .returned (.tuple #[.agg #[v],.int .i64 (readR cs).1]) ∧ ColsAt w' w.heap.size v (readR cs).2 ∧ Go.RowKit.Below w.heap.size w w'
theorem row_shape {W : World} {base e n : Nat} {v : Value} {xs : List Value} (h : W.ownsRow base e 1 v n xs) : ∃ p cap,v = .slice p n cap:=by
 rcases h.2 with ⟨rfl,rfl⟩ | ⟨g,cap,cur,rfl,_⟩
 ·exact ⟨none,0,rfl⟩
 ·exact ⟨_,cap,rfl⟩
def lenAt (W : World) (a : Addr) : Nat:=match W.cell? a with | some (.slice _ n _) => n | _ => 0
section
variable {w : World} {A : Nat → Prop} (hA : ∀ b,A b → b < w.heap.size) (gl : GlobR w A)
include hA gl
theorem word_calls (s : Int) : Calls Tryz.prog 52 #[.int .i64 s] w fun e w' => (∃ str,e = .returned (.tuple #[.string str,.bool (quietC s)])) ∧ Go.RowKit.Below w.heap.size w w':=by
 obtain ⟨wd,hw⟩:=Z.word_z s
 refine (z_calls (fn:=Tryz.f52) (by kernel_rfl) (by kernel_rfl) (by kernel_rfl) hw hA (args_ints gl [s] (by kernel_rfl))).mono fun e w' ⟨v,he,hr⟩ => ?_
 obtain ⟨A',us,ys,obs,q1,q2,q3,q4,rfl,hy,q5,q6,_,_⟩:=hr
 rw [show Tryz.f52.resultTypes.size = 2 by kernel_rfl] at q5
 match ys,q5 with
 | [y1,y2],_ =>
  simp only [packF,FV.tup.injEq,List.cons.injEq,and_true] at hy
  obtain ⟨rfl,rfl⟩:=hy
  rw [show Tryz.f52.resultTypes.toList = [9,4] by kernel_rfl] at q6
  match us,q6 with
  | [u1,u2],q6 =>
   obtain ⟨_,_,_,h1,_,_,_,h2,_⟩:=q6
   have g1 : FR w' A' (.str wd) u1:=h1.1
   have g2 : FR w' A' (.bool (quietC s)) u2:=h2.1
   cases g2
   generalize hx : FV.str wd = x at g1
   cases g1 with
   | str sb => exact ⟨⟨sb,he⟩,q4⟩
   | _ => cases hx
  | [],q6 => exact q6.elim
  | [_],q6 => obtain ⟨_,_,_,_,h⟩:=q6;exact h.elim
  | _ :: _ :: _ :: _,q6 => obtain ⟨_,_,_,_,_,_,_,_,h⟩:=q6;exact h.elim
theorem proper_calls {lv : Value} {cs : List Cel} (hl : FR w A (.arr (cs.map cellF)) lv) (h1 : lv.oneCell' = true) (hn : cs.length ≤ 1000000) : Calls Tryz.prog 51 #[.agg #[.int .i64 0,.slice none 0 0],lv] w fun e w' => e = .returned (.int .i64 (properC cs)) ∧ Go.RowKit.Below w.heap.size w w' :=
 (z_calls (fn:=Tryz.f51) (cs:=[.agg #[.int .i64 0,.slice none 0 0],lv]) (by kernel_rfl) (by kernel_rfl) (by kernel_rfl) (Z.proper_z cs .nilS hn) hA ⟨by kernel_rfl,rfl,gl,fun i t y u ht hy hu => by
  have ep : Tryz.f51.params.toList = [62,24]:=by kernel_rfl
  rw [ep] at ht
  match i,ht,hy,hu with
  | 0,ht,hy,hu =>
   cases hy;cases hu;cases ht
   refine ⟨FR.agg [.int .i64 0,.nilS] [.int .i64 0,.slice none 0 0] rfl (by simp [Value.oneCell']) fun k y u hy hu => ?_,fun h => ?_⟩
   ·match k,hy,hu with
    | 0,hy,hu => cases hy;cases hu;exact .int _ _
    | 1,hy,hu => cases hy;cases hu;exact .nilS none
    | k + 2,hy,hu => simp at hy
   ·have e : (Z.E.ty 62).isAgg = true:=by kernel_rfl
    rw [e] at h;cases h
  | 1,ht,hy,hu => cases hy;cases hu;exact ⟨hl,fun _ => h1⟩
  | i + 2,ht,hy,hu => simp at hy⟩).mono fun e w' ⟨v,he,hr⟩ => by
  obtain ⟨⟨A',h⟩,hb⟩:=ret_one hr (by kernel_rfl)
  cases h
  exact ⟨he,hb⟩
end
theorem space_at (w : World) : Calls Tryz.prog 36 #[] w fun e w' => e = .returned (.agg #[.int .i64 0,.slice none 0 0]) ∧ Go.RowKit.Below w.heap.size w w':=by
 go_enter Tryz.func36,Tryz.ntmps36
 go_wp2
 exact bodyPost_ret (v:=.agg #[.int .i64 0,.slice none 0 0]) (by simp [results,Tryz.results36,go_sem]) rfl ⟨rfl,(Below.refl _ _).alloc (Nat.le_refl _) _⟩
theorem padC_push {α : Type} {n : Nat} {z : α} {l : List α} (h : l.length < n) : padC n z (l ++ [z]) = padC n z l:=by
 unfold padC
 rw [List.length_append,List.append_assoc]
 congr 1
 obtain ⟨m,hm⟩ : ∃ m,n - l.length = m + 1:=⟨n - l.length - 1,by omega⟩
 rw [hm,show n - (l.length + [z].length) = m by simp;omega]
 rfl
theorem padC_full {α : Type} {n : Nat} {z : α} {l : List α} (h : n ≤ l.length) : padC n z l = l:=by
 unfold padC
 rw [show n - l.length = 0 by omega];simp
theorem FldC.cell {base Bf : Nat} {v : Value} {cols : List (List Int)} {vs : List Value} {W : World} (h : FldC base Bf v cols vs W) : W.cell? ⟨Bf,0,none⟩ = some v:=by
 simp [World.cell?,h.box]
theorem colsOf_snoc (l : List Cel) (c : Cel) : colsOf (l ++ [c]) = addCol (colsOf l) c:=by simp [colsOf,List.foldl_append]
theorem row_base {W : World} {b0 base e n : Nat} {v : Value} {xs : List Value} (h : W.ownsRow base e 1 v n xs) (hb : b0 ≤ base) : W.ownsRow b0 e 1 v n xs:=by
 refine ⟨h.1,?_⟩
 rcases h.2 with h0 | ⟨g,cap,cur,rfl,h1,h2,h3⟩
 ·exact .inl h0
 ·exact .inr ⟨g,cap,cur,rfl,Nat.le_trans hb h1,h2,h3⟩
theorem FldC.cols {b0 base Bf : Nat} {v : Value} {cols : List (List Int)} {vs : List Value} {W W' : World} (h : FldC base Bf v cols vs W) (hb : b0 ≤ base) (hk : ∀ B,base ≤ B → B < W.heap.size → W'.heap[B]? = W.heap[B]?) : ColsAt W' b0 v cols:=by
 have hrow : W'.ownsRow base 75 1 v cols.length vs:=row_kept h.row fun b hb => by
  obtain ⟨_,_,h2,h3⟩:=row_kind h.row hb
  exact hk b h2 h3
 have hins : InC base cols vs W':=h.ins.kept fun i ui b hu hb => by
  obtain ⟨_,_,h2,h3⟩:=h.ins.kind hu hb
  exact hk b h2 h3
 exact ⟨vs,row_base hrow hb,⟨hins.len,fun i ui c h1 h2 => ⟨row_base (hins.col i ui c h1 h2).1 hb,(hins.col i ui c h1 h2).2⟩,hins.apart⟩,h.nil⟩
theorem heap_new (w : World) (o : Obj) : (w.alloc o).heap[w.heap.size]? = some o:=by
 show (w.heap.push o)[w.heap.size]? = some o
 simp
theorem box_set {W : World} {B : Nat} {x : Value} {t : Nat} (h : W.heap[B]? = some (.cells #[x] t (0,0))) (u : Value) : (W.setCell ⟨B,0,none⟩ u).cell? ⟨B,0,none⟩ = some u:=by simp [World.cell?,heap_setCell h]
structure RdL (Bf : Nat) (W1 : World) (cs : List Cel) (k : Nat) (wr : World) : Prop where
 fld : ∃ v vs,FldC W1.heap.size Bf v (colsOf (cs.take k)) vs wr
 below : Go.RowKit.Below W1.heap.size W1 wr
 err : fieldC cs = fieldC (cs.drop k)
theorem row_block' {W : World} {base e n : Nat} {v : Value} {xs : List Value} (h : W.ownsRow base e 1 v n xs) (hn : v ≠ .slice none 0 0) : ∃ g cap,v = .slice (some ⟨g,0,none⟩) n cap:=by
 rcases h.2 with ⟨rfl,_⟩ | ⟨g,cap,cur,rfl,_⟩
 ·exact absurd rfl hn
 ·exact ⟨_,cap,rfl⟩
structure In1 (Bf Bc n : Nat) (c : Cel) (W1 : World) (cols0 : List (List Int)) (v : Value) (cols : List (List Int)) (vs : List Value) (W : World) : Prop where
 fld : FldC W1.heap.size Bf v cols vs W
 below : Go.RowKit.Below W1.heap.size W1 W
 box : W.heap[Bc]? = some (.cells #[.int .i64 c.1,.int .i64 c.2.1,.int .i64 c.2.2] 53 (0,0))
 pad : padC n [] cols = padC n [] cols0
 bf : Bc ≠ Bf
theorem In1.cells {Bf Bc n : Nat} {c1 c2 c3 : Int} {W1 W : World} {cols0 cols : List (List Int)} {v : Value} {vs : List Value} (h : In1 Bf Bc n (c1,c2,c3) W1 cols0 v cols vs W) :
  W.cell? ⟨Bf,0,none⟩ = some v ∧ W.frozen? ⟨Bf,0,none⟩ = false ∧ W.cell? ⟨Bc,0,none⟩ = some (.int .i64 c1) ∧ W.cell? ⟨Bc,1,none⟩ = some (.int .i64 c2) ∧ W.cell? ⟨Bc,2,none⟩ = some (.int .i64 c3):=by
 refine ⟨h.fld.cell,by simp [World.frozen?,h.fld.box],?_⟩
 simp [World.cell?,h.box]
theorem lenAt_fld {base Bf : Nat} {v : Value} {cols : List (List Int)} {vs : List Value} {W : World} (h : FldC base Bf v cols vs W) : lenAt W ⟨Bf,0,none⟩ = cols.length:=by
 obtain ⟨p,c,rfl⟩:=row_shape h.row
 simp [lenAt,h.cell]
theorem In1.push {Bf Bc n : Nat} {c : Cel} {W1 W w3 : World} {cols0 cols : List (List Int)} {v v' : Value} {vs : List Value} {tmp : Obj} (h : In1 Bf Bc n c W1 cols0 v cols vs W) (hlt : cols.length < n)
  (hg : (W.alloc tmp).grownBy w3 v.ownBlock) (hown : w3.ownsRow W1.heap.size 75 1 v' (cols.length + 1) (vs ++ [.slice none 0 0])) (hnil : v' ≠ .slice none 0 0) :
  w3.cell? ⟨Bf,0,none⟩ = some v ∧ w3.frozen? ⟨Bf,0,none⟩ = false ∧ In1 Bf Bc n c W1 cols0 v' (cols ++ [[]]) (vs ++ [.slice none 0 0]) (w3.setCell ⟨Bf,0,none⟩ v') ∧ n - lenAt (w3.setCell ⟨Bf,0,none⟩ v') ⟨Bf,0,none⟩ < n - cols.length:=by
 obtain ⟨q0,hfl,hre⟩:=h.fld.push h.below.size hg hown hnil
 refine ⟨by simp [World.cell?,q0],by simp [World.frozen?,q0],⟨hfl,h.below.trans hre.2.1,hre.2.2 _ _ _ h.box (by decide) (by decide) h.bf,by rw [padC_push hlt];exact h.pad,h.bf⟩,?_⟩
 rw [lenAt_fld hfl,List.length_append]
 simp
 omega
theorem addCol_eq {x y : Nat} {s : Int} {cols0 cols : List (List Int)} {col0 col : List Int} (h1 : padC (x + 1) [] cols = padC (x + 1) [] cols0) (h2 : x < cols.length) (h3 : cols[x]? = some col0) (h4 : padC (y + 1) 0 col = padC (y + 1) 0 col0) (h5 : y < col.length) :
  addCol cols0 ((x : Int) + 2,-(y : Int) - 1,s) = cols.set x (col.set y s):=by
 have e1 : ((x : Int) + 2 - 2).toNat = x:=by omega
 have e2 : (-(-(y : Int) - 1) - 1).toNat = y:=by omega
 rw [padC_full (show x + 1 ≤ cols.length by omega)] at h1
 rw [padC_full (show y + 1 ≤ col.length by omega)] at h4
 simp only [addCol,e1,e2,← h1,setCol,List.getD_eq_getElem?_getD,h3,Option.getD_some,← h4]
structure In2 (Bf Bc n g cap x : Nat) (c : Cel) (W1 : World) (cols : List (List Int)) (col0 : List Int) (ui : Value) (col : List Int) (vs : List Value) (W : World) : Prop where
 fld : FldC W1.heap.size Bf (.slice (some ⟨g,0,none⟩) cols.length cap) (cols.set x col) vs W
 below : Go.RowKit.Below W1.heap.size W1 W
 box : W.heap[Bc]? = some (.cells #[.int .i64 c.1,.int .i64 c.2.1,.int .i64 c.2.2] 53 (0,0))
 pad : padC n 0 col = padC n 0 col0
 bf : Bc ≠ Bf
 hx : x < cols.length
 at_ : vs[x]? = some ui
section
variable {Bf Bc n g cap x : Nat} {c : Cel} {W1 W w3 : World} {cols : List (List Int)} {col0 col : List Int} {ui u' : Value} {vs : List Value} {tmp : Obj}
theorem In2.row (h : In2 Bf Bc n g cap x c W1 cols col0 ui col vs W) : W.ownsRow W1.heap.size 3 1 ui col.length (col.map (Value.int .i64)) ∧ (ui = .slice none 0 0 ↔ col = []) :=
 h.fld.ins.col x ui col h.at_ (List.getElem?_set_self h.hx)
theorem In2.fldX (h : In2 Bf Bc n g cap x c W1 cols col0 ui col vs W) : FldC W1.heap.size Bf (.slice (some ⟨g,0,none⟩) (cols.set x col).length cap) (cols.set x col) vs W:=by rw [List.length_set];exact h.fld
theorem In2.cells (h : In2 Bf Bc n g cap x c W1 cols col0 ui col vs W) : W.cell? ⟨g,x,none⟩ = some ui ∧ W.cell? ⟨Bc,0,none⟩ = some (.int .i64 c.1) ∧ W.cell? ⟨Bc,1,none⟩ = some (.int .i64 c.2.1) ∧ W.cell? ⟨Bc,2,none⟩ = some (.int .i64 c.2.2):=by
 refine ⟨?_,by simp [World.cell?,h.box]⟩
 rw [(row_cell h.fldX.row (i:=x) (by rw [List.length_set];exact h.hx)).1,h.at_]
theorem In2.drew (h : In2 Bf Bc n g cap x c W1 cols col0 ui col vs W) : In2 Bf Bc n g cap x c W1 cols col0 ui col vs { W with drawn:=W.drawn + 1 } :=
 ⟨⟨h.fld.box,h.fld.bf,row_kept h.fld.row fun _ _ => rfl,h.fld.ins.kept fun _ _ _ _ _ => rfl,h.fld.nil⟩,⟨h.below.os,h.below.tape,h.below.output,h.below.size,h.below.block⟩,h.box,h.pad,h.bf,h.hx,h.at_⟩
theorem In2.grow (h : In2 Bf Bc n g cap x c W1 cols col0 ui col vs W) (hlt : col.length < n) (hg : (W.alloc tmp).grownBy w3 ui.ownBlock) (hown : w3.ownsRow W1.heap.size 3 1 u' (col.length + 1) (col.map (Value.int .i64) ++ [.int .i64 0]))
  (hnil : u' ≠ .slice none 0 0) (hblk : u'.ownBlock = ui.ownBlock ∨ u'.ownBlock = some (W.alloc tmp).heap.size) :
  w3.cell? ⟨g,x,none⟩ = some ui ∧ w3.frozen? ⟨g,x,none⟩ = false ∧ In2 Bf Bc n g cap x c W1 cols col0 u' (col ++ [0]) (vs.set x u') (w3.setCell ⟨g,x,none⟩ u'):=by
 obtain ⟨q1,q2,hfl,hre⟩:=h.fldX.grow h.at_ (List.getElem?_set_self h.hx) h.below.size hg hown hnil hblk
 rw [List.set_set,List.length_set] at hfl
 exact ⟨q1,q2,⟨hfl,h.below.trans hre.2.1,hre.2.2 _ _ _ h.box (by decide) (by decide) h.bf,by rw [padC_push hlt];exact h.pad,h.bf,h.hx,List.getElem?_set_self (by rw [h.fld.ins.len,List.length_set];exact h.hx)⟩⟩
end
set_option maxHeartbeats 4000000 in
set_option maxRecDepth 100000 in
theorem read_walk {A : Nat → Prop} (w : World) (hA : ∀ b,A b → b < w.heap.size) (gl : GlobR w A) {lv : Value} {cs : List Cel} (hx : FR w A (.arr (cs.map cellF)) lv) (h1 : lv.oneCell' = true) (hl : CellsR w A lv cs) (hn : cs.length ≤ 1000000) :
  Calls Tryz.prog 43 #[lv] w (ReadPost cs w):=by
 have hsp:=space_at
 obtain ⟨W0,hW0⟩ : ∃ W0,w.alloc (.cells #[.slice none 0 0] 72) = W0:=⟨_,rfl⟩
 have hb0 : Go.RowKit.Below w.heap.size w W0:=by rw [← hW0];exact (Go.RowKit.Below.refl _ w).alloc (Nat.le_refl _) _
 have hs0 : w.heap.size < W0.heap.size:=by rw [← hW0];simp
 have k0 : W0.heap[w.heap.size]? = some (.cells #[.slice none 0 0] 72 (0,0)):=by rw [← hW0];exact heap_new _ _
 have ext : ∀ {W : World},Go.RowKit.Below w.heap.size w W → (∀ b,A b → b < W.heap.size) ∧ GlobR W A:=fun {W} h => ⟨fun b hb => Nat.lt_of_lt_of_le (hA b hb) h.size,gl.mono ⟨fun _ h => h,fun b hb => h.block b (hA b hb)⟩⟩
 obtain ⟨p,cap,rfl,hcells⟩:=hl.any
 have HCELLS:=Lib.hid hcells
 clear hcells hl
 go_enter Tryz.func43,Tryz.ntmps43
 go_wp2_with fail
 refine (hsp _).mono ?_
 rintro e Ws ⟨rfl,hbs⟩
 have hbws : Go.RowKit.Below w.heap.size w Ws:=hb0.trans (hbs.mono (Nat.le_of_lt hs0))
 have hpr:=proper_calls (ext hbws).1 (ext hbws).2 (hx.mono ⟨fun _ h => h,fun b hb => hbws.block b (hA b hb)⟩) h1 hn
 go_wp2_with fail
 refine hpr.mono ?_
 rintro e W1 ⟨rfl,hb1⟩
 have hbw1 : Go.RowKit.Below w.heap.size w W1:=hbws.trans (hb1.mono hbws.size)
 have hs1 : w.heap.size < W1.heap.size:=Nat.lt_of_lt_of_le hs0 (Nat.le_trans hbs.size hb1.size)
 have k1 : W1.heap[w.heap.size]? = some (.cells #[.slice none 0 0] 72 (0,0)):=(hb1.block _ (Nat.lt_of_lt_of_le hs0 hbs.size)).trans ((hbs.block _ hs0).trans k0)
 have k1c : W1.cell? ⟨w.heap.size,0,none⟩ = some (.slice none 0 0):=by simp [World.cell?,k1]
 have k1f : W1.frozen? ⟨w.heap.size,0,none⟩ = false:=by simp [World.frozen?,k1]
 clear hW0 hpr k0 hsp hb1 hbs hbws hs0 hb0
 by_cases hp : properC cs = 0
 ·rw [hp]
  have HP:=Lib.hid hp
  clear hp
  go_wp2
  have kk : ∀ {W : World},Go.RowKit.Below W1.heap.size W1 W → W.cell? ⟨w.heap.size,0,none⟩ = some (.slice none 0 0) ∧ W.frozen? ⟨w.heap.size,0,none⟩ = false ∧ ∀ u,(W.setCell ⟨w.heap.size,0,none⟩ u).cell? ⟨w.heap.size,0,none⟩ = some u:=fun {W} h => by
   have:=(h.block _ hs1).trans k1
   exact ⟨by simp [World.cell?,this],by simp [World.frozen?,this],box_set this⟩
  go_loopw [20] (fun iv wr => ∃ k : Nat,iv = .int .i64 k ∧ k ≤ cs.length ∧ RdL W1.heap.size W1 cs k wr) (fun iv _ => cs.length - (intOf iv).toNat)
  case atStart => exact ⟨0,rfl,Nat.zero_le _,⟨_,_,FldC.start (heap_new _ _) (Nat.le_refl _)⟩,(Go.RowKit.Below.refl _ _).alloc (Nat.le_refl _) _,rfl⟩
  case round =>
   obtain ⟨k,rfl,hk,hrel⟩:=hrel
   by_cases hlt : k < cs.length
   ·obtain ⟨⟨v,vs,hf⟩,hbr,herr⟩:=hrel
    obtain ⟨c1,c2,c3,hc⟩ : ∃ c1 c2 c3 : Int,cs[k]? = some (c1,c2,c3):=⟨_,_,_,List.getElem?_eq_getElem hlt⟩
    obtain ⟨b,o,rfl,hAb,f0,f1,f2⟩:=HCELLS.out k _ hc
    have hbw : Go.RowKit.Below w.heap.size w wr:=hbw1.trans (hbr.mono (Nat.le_of_lt hs1))
    have hbl:=hA b hAb
    have e0 : wr.cell? ⟨b,o + k * 3,none⟩ = some (.int .i64 c1):=(hbw.cell (p:=⟨b,o + k * 3,none⟩) hbl).trans f0
    have e1 : wr.cell? ⟨b,o + k * 3 + 1,none⟩ = some (.int .i64 c2):=(hbw.cell (p:=⟨b,o + k * 3 + 1,none⟩) hbl).trans f1
    have e2 : wr.cell? ⟨b,o + k * 3 + 2,none⟩ = some (.int .i64 c3):=(hbw.cell (p:=⟨b,o + k * 3 + 2,none⟩) hbl).trans f2
    have hwr:=hbr.size
    have HC:=Lib.hid hc
    have hdrop : cs.drop k = (c1,c2,c3) :: cs.drop (k + 1):=by
     rw [List.drop_eq_getElem_cons hlt]
     congr 1
     rw [List.getElem?_eq_getElem hlt] at hc
     exact Option.some.inj hc
    have HD:=Lib.hid hdrop
    have HE:=Lib.hid herr
    have HF:=Lib.hid hf
    obtain ⟨Wc,hWc⟩ : ∃ Wc,wr.alloc (.cells #[.int .i64 c1,.int .i64 c2,.int .i64 c3] 53) = Wc:=⟨_,rfl⟩
    have hbc : Go.RowKit.Below wr.heap.size wr Wc:=by rw [← hWc];exact (Go.RowKit.Below.refl _ wr).alloc (Nat.le_refl _) _
    have hsc : wr.heap.size < Wc.heap.size:=by rw [← hWc];simp
    have hbxc : Wc.heap[wr.heap.size]? = some (.cells #[.int .i64 c1,.int .i64 c2,.int .i64 c3] 53 (0,0)):=by rw [← hWc];exact heap_new _ _
    have a2 : Wc.cell? ⟨wr.heap.size,2,none⟩ = some (.int .i64 c3):=by simp [World.cell?,hbxc]
    have hbwc:=hbw.trans (hbc.mono hbw.size)
    have hwd:=word_calls (ext hbwc).1 (ext hbwc).2 c3
    clear hdrop hc f0 f1 f2 herr hf
    go_wp2_with fail
    refine hwd.mono ?_
    rintro e W2 ⟨⟨str,rfl⟩,hb2⟩
    have hbr2 : Go.RowKit.Below wr.heap.size wr W2:=hbc.trans (hb2.mono (Nat.le_of_lt hsc))
    have hr2:=hbr.trans (hbr2.mono hwr)
    obtain ⟨k4,k5,k6⟩:=kk hr2
    have hbw2 : Go.RowKit.Below w.heap.size w W2:=hbw.trans (hbr2.mono hbw.size)
    have hbx2 : W2.heap[wr.heap.size]? = some (.cells #[.int .i64 c1,.int .i64 c2,.int .i64 c3] 53 (0,0)):=(hb2.block _ hsc).trans hbxc
    have b0 : W2.cell? ⟨wr.heap.size,0,none⟩ = some (.int .i64 c1):=by simp [World.cell?,hbx2]
    have b1 : W2.cell? ⟨wr.heap.size,1,none⟩ = some (.int .i64 c2):=by simp [World.cell?,hbx2]
    clear hwd hb2 hWc a2 hbwc hbxc hsc hbc e0 e1 e2
    cases hq : quietC c3 with
    | false =>
     have HR:=Lib.hid (show readR cs = (82,[]) by
      have e : fieldC cs = 82:=by rw [HE.out,HD.out];simp [fieldC,hq]
      simp [readR,e,HP.out])
     clear hq
     go_wp2
     refine bodyPost_ret (v:=.tuple #[.agg #[.slice none 0 0],.int .i64 82]) (by simp [results,Tryz.results43,go_sem,k6]) rfl ?_
     exact ⟨_,by rw [HR.out],by rw [HR.out];exact colsAt_nil _ _,hbw2.setCell (p:=⟨w.heap.size,0,none⟩) (Nat.le_refl _) _⟩
    | true =>
     have HQ:=Lib.hid hq
     clear hq
     cases hi : inC (c1,c2,c3) with
     | false =>
      have HR:=Lib.hid (show readR cs = (81,[]) by
       have e : fieldC cs = 81:=by rw [HE.out,HD.out];simp [fieldC,HQ.out,hi]
       simp [readR,e,HP.out])
      simp only [inC,Bool.and_eq_false_iff,decide_eq_false_iff_not] at hi
      have hend : ReadPost cs w (.returned (.tuple #[.agg #[.slice none 0 0],.int .i64 81])) (W2.setCell ⟨w.heap.size,0,none⟩ (.slice none 0 0)) :=
       ⟨_,by rw [HR.out],by rw [HR.out];exact colsAt_nil _ _,hbw2.setCell (p:=⟨w.heap.size,0,none⟩) (Nat.le_refl _) _⟩
      have HEND:=Lib.hid hend
      clear hend
      by_cases g1 : c1 < 2
      ·go_wp2
       exact bodyPost_ret (v:=.tuple #[.agg #[.slice none 0 0],.int .i64 81]) (by simp [results,Tryz.results43,go_sem,k6]) rfl HEND.out
      ·by_cases g2 : 57 < c1
       ·go_wp2
        exact bodyPost_ret (v:=.tuple #[.agg #[.slice none 0 0],.int .i64 81]) (by simp [results,Tryz.results43,go_sem,k6]) rfl HEND.out
       ·by_cases g3 : c2 < -56
        ·go_wp2
         exact bodyPost_ret (v:=.tuple #[.agg #[.slice none 0 0],.int .i64 81]) (by simp [results,Tryz.results43,go_sem,k6]) rfl HEND.out
        ·have g4 : -1 < c2:=by omega
         go_wp2
         exact bodyPost_ret (v:=.tuple #[.agg #[.slice none 0 0],.int .i64 81]) (by simp [results,Tryz.results43,go_sem,k6]) rfl HEND.out
     | true =>
      have HI:=Lib.hid hi
      simp only [inC,Bool.and_eq_true,decide_eq_true_eq] at hi
      obtain ⟨i1,i2,i3,i4⟩:=hi
      have j1 : ¬ c1 < 2:=by omega
      have j2 : ¬ 57 < c1:=by omega
      have j3 : ¬ c2 < -56:=by omega
      have j4 : ¬ -1 < c2:=by omega
      obtain ⟨x,rfl⟩ : ∃ x : Nat,c1 = (x : Int) + 2:=⟨(c1 - 2).toNat,by omega⟩
      obtain ⟨y,rfl⟩ : ∃ y : Nat,c2 = -(y : Int) - 1:=⟨(-c2 - 1).toNat,by omega⟩
      obtain ⟨cols0,hcols0⟩ : ∃ cols0,colsOf (cs.take k) = cols0:=⟨_,rfl⟩
      have HC0:=Lib.hid hcols0
      have hf2:=HF.out.grown (grown_of_below hbr2)
      rw [hcols0] at hf2
      have hbfc : wr.heap.size ≠ W1.heap.size:=by
       have:=(Array.getElem?_eq_some_iff.1 HF.out.box).1
       omega
      have hin : In1 W1.heap.size wr.heap.size (x + 1) (_,_,c3) W1 cols0 v cols0 vs W2:=⟨hf2,hr2,hbx2,rfl,hbfc⟩
      obtain ⟨i70,hi70,hz70,hz71,hz72⟩:=info_parts (show (Tryz.prog.info? 75).map (fun i => (i.zero,i.size,i.bytes)) = some (some (.slice none 0 0),1,24) by kernel_rfl)
      obtain ⟨i75,hi75,hz75,hz76,hz77⟩:=info_parts (show (Tryz.prog.info? 3).map (fun i => (i.zero,i.size,i.bytes)) = some (some (.int .i64 0),1,8) by kernel_rfl)
      clear hf2 hcols0 hbx2
      go_wp2
      go_loopw [] (fun wr2 => ∃ v cols vs,In1 W1.heap.size wr.heap.size (x + 1) (_,_,c3) W1 cols0 v cols vs wr2) (fun wr2 => x + 1 - lenAt wr2 ⟨W1.heap.size,0,none⟩)
      case atStart => exact ⟨_,_,_,hin⟩
      case round =>
       obtain ⟨v2,cols,vs2,hI⟩:=hrel
       obtain ⟨f0,f1,f2,_,_⟩:=hI.cells
       obtain ⟨p2,cap2,rfl⟩:=row_shape hI.fld.row
       have hle : lenAt wr ⟨W1.heap.size,0,none⟩ = cols.length:=by simp [lenAt,f0]
       have hII:=Lib.hid hI
       have hbase : W1.heap.size ≤ wr.heap.size:=hI.below.size
       clear hI
       by_cases hlc : cols.length ≤ x
       ·have hlc' : (cols.length : Int) ≤ (x : Int):=by omega
        go_wp2_with (first
         | (at_builtin;refine wpList_append_own_at _ rfl _ _ 70 rfl W1.heap.size 75 i70 (.slice none 0 0) 1 24 Tryz.underlying70 hi70 hz70 hz71 hz72 rfl (by decide) _ _ _ rfl (hII.out.fld.row.alloc _) ⟨wr.heap.size,0,none⟩ 1 1 [.slice none 0 0] rfl rfl (cell_one_new _ _ _) (by simp [Value.oneCell']) (by unfold maxLen;omega) (by omega) (by simp;omega) ?_;intro v' w3 hown' hgrow hnil hloc
            obtain ⟨p5,c5,rfl⟩:=row_shape hown'
            obtain ⟨q1,q2,hin2,hmeas⟩:=hII.out.push (by omega) hgrow hown' (by simp [hnil])
            have HIN2:=Lib.hid hin2
            clear hin2 hgrow hown' hnil hloc)
         | go_in)
        go_roundw
        case rel => exact ⟨_,_,_,HIN2.out⟩
        case measure => rw [hle];exact hmeas
       ·have hlc' : ¬ (cols.length : Int) ≤ (x : Int):=by omega
        obtain ⟨g,cap3,hv3⟩:=row_block' hII.out.fld.row (fun e => by have:=hII.out.fld.nil.1 e;rw [this] at hlc;simp at hlc)
        cases hv3
        have hlx : (x : Int) < (cols.length : Int):=by omega
        obtain ⟨col0,hcol0⟩ : ∃ c,cols[x]? = some c:=⟨_,List.getElem?_eq_getElem (by omega)⟩
        obtain ⟨ui0,hui0⟩ : ∃ u,vs2[x]? = some u:=⟨_,List.getElem?_eq_getElem (by rw [hII.out.fld.ins.len];omega)⟩
        have hset : cols.set x col0 = cols:=by
         have h:=List.getElem?_eq_some_iff.1 hcol0
         rw [← h.2,List.set_getElem_self]
        have hin2:=In2.mk (n:=y + 1) (c:=(_,_,c3)) (col0:=col0) (col:=col0) (by rw [hset];exact hII.out.fld) hII.out.below hII.out.box rfl hII.out.bf (by omega) hui0
        have HIN:=Lib.hid hin2
        have HC0':=Lib.hid hcol0
        clear hin2 hset hcol0 hui0
        go_wp2
        go_loopw [] (fun wr3 => ∃ ui col vs,In2 W1.heap.size _ (y + 1) g cap2 x (_,_,c3) W1 cols col0 ui col vs wr3) (fun wr3 => y + 1 - lenAt wr3 ⟨g,x,none⟩)
        case atStart => exact ⟨_,_,_,HIN.out⟩
        case round =>
         obtain ⟨ui,col,vs3,hJ⟩:=hrel
         obtain ⟨m0,m1,m2,m3⟩:=hJ.drew.cells
         have hrow:=hJ.drew.row
         obtain ⟨p6,cap6,rfl⟩:=row_shape hrow.1
         have hJJ:=Lib.hid hJ.drew
         have hbase3 : W1.heap.size ≤ wr.heap.size:=hJ.below.size
         have hle3 : lenAt wr ⟨g,x,none⟩ = col.length:=by simp [lenAt,hJ.cells.1]
         clear hJ
         go_wp2
         refine wp_region_still_lit (by kernel_rfl) (by kernel_rfl) ?_
         generalize ({ wr with drawn:=wr.drawn + 1 } : World) = W3 at m0 m1 m2 m3 hrow hJJ ⊢
         have hrw:=hrow.1
         clear hrow
         repeat still_step
         have hwy : IntKind.i64.wrap (-(-(y : Int) - 1)) = (y : Int) + 1:=by
          rw [show -(-(y : Int) - 1) = (y : Int) + 1 by omega]
          exact wrap64 (by omega) (by omega)
         refine wpStill_nil ?_
         by_cases hly : col.length ≤ y
         ·have hly' : (col.length : Int) < (y : Int) + 1:=by omega
          go_wp2_with (first
           | (at_builtin;refine wpList_append_own_at _ rfl _ _ 75 rfl W1.heap.size 3 i75 (.int .i64 0) 1 8 Tryz.underlying75 hi75 hz75 hz76 hz77 rfl (by decide) _ _ _ rfl (hrw.alloc _) ⟨W3.heap.size,0,none⟩ 1 1 [.int .i64 0] rfl rfl (cell_one_new _ _ _) (by simp [Value.oneCell']) (by unfold maxLen;omega) (by omega) (by have:=hJJ.out.below.size;simp;omega) ?_;intro v' w3 hown' hgrow hnil hloc
              obtain ⟨p5,c5,rfl⟩:=row_shape hown'
              obtain ⟨q1,q2,hin2⟩:=hJJ.out.grow (by omega) hgrow hown' (by simp [hnil]) hloc
              have HIN2:=Lib.hid hin2
              clear hin2 hgrow hown' hnil hloc)
           | go_in)
          go_roundw
          case rel => exact ⟨_,_,_,HIN2.out⟩
          case measure =>
           rw [hle3]
           simp only [lenAt,HIN2.out.cells.1]
           omega
         ·have hly' : ¬ (col.length : Int) < (y : Int) + 1:=by omega
          obtain ⟨gi,cap7,hv7⟩:=row_block' hJJ.out.row.1 (fun e => by have:=hJJ.out.row.2.1 e;rw [this] at hly;simp at hly)
          cases hv7
          go_wp2
          refine wp_region_still_tail 10 (by kernel_rfl) (by kernel_rfl) ?_
          simp only [List.take_succ_cons,List.take_zero,List.drop_succ_cons,List.drop_zero]
          have H4:=Lib.hid hJJ.out.drew
          obtain ⟨n0,n1,n2,n3⟩:=H4.out.cells
          clear m0 m1 m2 m3
          generalize ({ W3 with drawn:=W3.drawn + 1 } : World) = W4 at n0 n1 n2 n3 H4 ⊢
          have hly2 : (y : Int) < (col.length : Int):=by omega
          have hwy2 : IntKind.i64.wrap (y : Int) = (y : Int):=wrap64 (by omega) (by omega)
          repeat still_step
          refine wpStill_nil ?_
          have hat:=H4.out.at_
          obtain ⟨q0,q1,hfl,hre⟩:=H4.out.fldX.put (s:=c3) hat (List.getElem?_set_self H4.out.hx) (show y < col.length by omega)
          obtain ⟨old,hold⟩:=Option.isSome_iff_exists.1 q0
          rw [List.set_set,List.length_set] at hfl
          have HFL:=Lib.hid hfl
          have HRE:=Lib.hid hre
          clear hfl hre q0 hat hrw hwy
          go_wp2
          have et : cs.take (k + 1) = cs.take k ++ [((x : Int) + 2,-(y : Int) - 1,c3)]:=by rw [List.take_add_one,HC.out];rfl
          have hadd:=addCol_eq (s:=c3) hII.out.pad H4.out.hx HC0'.out H4.out.pad (by omega)
          have hlast:=HFL.out
          rw [← hadd,← HC0.out,← colsOf_snoc,← et] at hlast
          refine ⟨⟨k + 1,by go_num,by omega,⟨⟨_,_,hlast⟩,H4.out.below.trans HRE.out.2.1,?_⟩⟩,by simp [intOf];omega⟩
          rw [HE.out,HD.out]
          simp [fieldC,HQ.out,HI.out]
   ·obtain ⟨⟨v,vs,hf⟩,hbr,herr⟩:=hrel
    have hkl : k = cs.length:=by omega
    subst hkl
    rw [List.take_length] at hf
    have HE:=Lib.hid (show fieldC cs = 0 by rw [herr,List.drop_length];rfl)
    have HF:=Lib.hid hf
    have f0:=hf.cell
    obtain ⟨k4,k5,k6⟩:=kk hbr
    obtain ⟨p2,cap2,rfl⟩:=row_shape hf.row
    have HR:=Lib.hid (show readR cs = (0,colsOf cs) by simp [readR,HP.out,HE.out])
    have hbw : Go.RowKit.Below w.heap.size w wr:=hbw1.trans (hbr.mono (Nat.le_of_lt hs1))
    clear herr hf
    go_wp2
    refine bodyPost_ret (v:=.tuple #[.agg #[.slice p2 (colsOf cs).length cap2],.int .i64 0]) (by simp [results,Tryz.results43,go_sem,k6]) rfl ?_
    refine ⟨_,by rw [HR.out],?_,hbw.setCell (p:=⟨w.heap.size,0,none⟩) (Nat.le_refl _) _⟩
    rw [HR.out]
    exact HF.out.cols (Nat.le_of_lt hs1) fun B hB _ => heap_other (by omega)
 ·have HR:=Lib.hid (show readR cs = (properC cs,[]) by simp [readR,hp])
  have hpp : ¬ (properC cs = 0):=hp
  have k6:=box_set k1
  generalize properC cs = pc at *
  go_wp2
  refine bodyPost_ret (v:=.tuple #[.agg #[.slice none 0 0],.int .i64 pc]) (by simp [results,Tryz.results43,go_sem,k6]) rfl ?_
  exact ⟨_,by rw [HR.out],by rw [HR.out];exact colsAt_nil _ _,hbw1.setCell (p:=⟨w.heap.size,0,none⟩) (Nat.le_refl _) _⟩
end Go.Proofs.YtpffkpaiihcffaaGreatDoor
end
section
namespace Go.Proofs.YtpffkpaiihcffaaGreatDoor
open Go Go.Proofs Go.Proofs.YtpffkpaiihcffaaGreatDoor.VM Go.RowKit Go.Shelf Go.Lib Go.Sort
theorem row_fr {W : World} {A : Nat → Prop} {base e n : Nat} {v : Value} {us : List Value} {xs : List (List FV)} (h : W.ownsRow base e 1 v n us) (hn : xs.length = n) (hA : ∀ b,base ≤ b → b < W.heap.size → A b) (hne : xs ≠ [])
  (h1 : ∀ u ∈ us,u.oneCell' = true) (hx : ∀ (i : Nat) r,xs[i]? = some r → ∃ x u,r = [x] ∧ us[i]? = some u ∧ FR W A x u) : FR W A (.arr xs) v ∧ v.oneCell' = true:=by
 obtain ⟨p,cap,rfl⟩:=row_shape h
 subst hn
 have h0 : 0 < xs.length:=List.length_pos_iff.2 hne
 have hus : us.length = xs.length:=by have:=h.1;omega
 obtain ⟨g,cap',hv⟩:=row_block' h (fun e => by injection e with _ e2 _;omega)
 cases hv
 obtain ⟨hb,hcap,cur,hblk,_,_⟩:=row_block h
 refine ⟨?_,rfl⟩
 refine FR.arr xs ⟨g,0,none⟩ cap 1 (fun i k => us.getD i undef) (by omega) hcap (fun r hr => ?_) (hA g hb (Array.getElem?_eq_some_iff.1 hblk).1) (fun i k hi hk => ?_) (fun i k hi hk => ?_) (fun i r k x hr hxk => ?_)
 ·obtain ⟨i,hi,rfl⟩:=List.mem_iff_getElem.1 hr
  obtain ⟨x,u,e,_⟩:=hx i _ (List.getElem?_eq_getElem hi)
  rw [e];rfl
 ·have hk0 : k = 0:=by omega
  subst hk0
  have:=(row_cell h hi).1
  rw [show (⟨g,0,none⟩ : Addr).add (i * 1 + 0) = ⟨g,i,none⟩ by (simp [Addr.add];try omega),this,List.getD_eq_getElem?_getD,List.getElem?_eq_getElem (by omega)];rfl
 ·rw [List.getD_eq_getElem?_getD,List.getElem?_eq_getElem (by omega)]
  exact h1 _ (List.getElem_mem _)
 ·obtain ⟨x',u,e,hu,hf⟩:=hx i r hr
  subst e
  match k,hxk with
  | 0,hxk => cases hxk;rw [List.getD_eq_getElem?_getD,hu];exact hf
  | k + 1,hxk => simp at hxk
theorem ints_one (l : List Int) : ∀ u ∈ l.map (Value.int .i64),u.oneCell' = true:=fun u hu => by
 obtain ⟨n,_,rfl⟩:=List.mem_map.1 hu;rfl
theorem col_rel {W : World} {A : Nat → Prop} {base : Nat} {ui : Value} {c : List Int} (h : W.ownsRow base 3 1 ui c.length (c.map (Value.int .i64))) (hA : ∀ b,base ≤ b → b < W.heap.size → A b) (hnil : ui = .slice none 0 0 ↔ c = []) : FR W A (colF c) ui ∧ ui.oneCell' = true:=by
 cases c with
 | nil => rw [hnil.2 rfl];exact ⟨.nilS none,rfl⟩
 | cons a l =>
  exact row_fr (xs:=(a :: l).map fun s => [FV.int .i64 s]) h (by simp) hA (by simp) (ints_one _) fun i r hr => by
   rw [List.getElem?_map,Option.map_eq_some_iff] at hr
   obtain ⟨s,hs,rfl⟩:=hr
   exact ⟨_,_,rfl,by rw [List.getElem?_map,hs];rfl,.int _ _⟩
theorem cols_rel {w w' : World} {A : Nat → Prop} {v : Value} {cols : List (List Int)} (h : ColsAt w' w.heap.size v cols) : FR w' (Made A w w') (colsF cols) v ∧ v.oneCell' = true:=by
 obtain ⟨vs,hrow,hins,hnil⟩:=h
 have hA : ∀ b,w.heap.size ≤ b → b < w'.heap.size → Made A w w' b:=fun b h1 h2 => .inr ⟨h1,h2⟩
 have hone : ∀ u ∈ vs,u.oneCell' = true:=fun u hu => by
  obtain ⟨i,hi,rfl⟩:=List.mem_iff_getElem.1 hu
  have hc:=hins.col i _ _ (List.getElem?_eq_getElem hi) (List.getElem?_eq_getElem (by rw [← hins.len];exact hi))
  exact (col_rel (A:=Made A w w') hc.1 hA hc.2).2
 cases cols with
 | nil => rw [hnil.2 rfl];exact ⟨.nilS none,rfl⟩
 | cons a l =>
  exact row_fr (xs:=(a :: l).map fun c => [colF c]) hrow (by simp) hA (by simp) hone fun i r hr => by
   rw [List.getElem?_map,Option.map_eq_some_iff] at hr
   obtain ⟨c,hc,rfl⟩:=hr
   obtain ⟨u,hu⟩ : ∃ u,vs[i]? = some u:=⟨_,List.getElem?_eq_getElem (by rw [hins.len];exact (List.getElem?_eq_some_iff.1 hc).1)⟩
   have hcc:=hins.col i _ _ hu hc
   exact ⟨_,u,rfl,hu,(col_rel hcc.1 hA hcc.2).1⟩
theorem readA_eq (cs : List Cel) : readA cs = .tup [.agg [colsF (readR cs).2],.int .i64 (readR cs).1]:=by
 unfold readA readR
 by_cases h : properC cs = 0
 ·by_cases h2 : fieldC cs = 0
  ·simp [h,h2]
  ·simp [h,h2,colsF]
 ·simp [h,colsF]
theorem readOv_some {xs : List FV} {y : FV} (h : readOv xs = some y) : ∃ l r cs,xs = [l] ∧ asRows l = some r ∧ celsF r = some cs ∧ cs.length ≤ 1000000 ∧ y = readA cs:=by
 unfold readOv at h
 split at h
 ·obtain ⟨r,h1,h⟩:=bindO_some h
  obtain ⟨cs,h2,h⟩:=bindO_some h
  obtain ⟨h3,h⟩:=gB_some h
  cases h
  exact ⟨_,r,cs,rfl,h1,h2,of_decide_eq_true h3,rfl⟩
 ·cases h
theorem read_ov {xs : List FV} {y : FV} (h : readOv xs = some y) {cs : List Value} {w : World} {A : Nat → Prop} (hA : ∀ b,A b → b < w.heap.size) (ha : ArgsR E w A (pars E Tryz.f43) xs cs) :
  Calls Tryz.prog 43 cs.toArray w fun e w' => ∃ v,e = .returned v ∧ Ret E [] Tryz.f43 w A y v w':=by
 obtain ⟨l,r,cl,rfl,hr,hc,hn,rfl⟩:=readOv_some h
 obtain ⟨a1,a2,gl,a3⟩:=ha
 have hp : pars E Tryz.f43 = [24]:=by kernel_rfl
 rw [hp] at a1 a3
 match cs,a2 with
 | [v],_ =>
  obtain ⟨h1,ho⟩:=a3 0 _ _ _ rfl rfl rfl
  have h1v:=ho (by kernel_rfl)
  have hfr : FR w A (.arr (cl.map cellF)) v:=by
   rw [← celsF_map hc]
   cases h1 with
   | nilS a => cases hr;exact .arrNil _ _
   | arrNil a cap => cases hr;exact .arrNil _ _
   | arr rows a cap s u hs hcap hrow hA hm h1 hx => cases hr;exact .arr _ a cap s u hs hcap hrow hA hm h1 hx
   | _ => cases hr
  refine (read_walk w hA gl hfr h1v (cellsR_of h1 hr hc) hn).mono fun e w' ⟨z,he,hcel,hb⟩ => ?_
  obtain ⟨g1,g2⟩:=cols_rel (A:=A) hcel
  refine ⟨_,he,Made A w w',[.agg #[z],.int .i64 (readR cl).1],[.agg [colsF (readR cl).2],.int .i64 (readR cl).1],[],made_ext hA hb,fun b hb => ?_,fun b h => ?_,hb,rfl,?_,by kernel_rfl,?_,List.nodup_nil,by simp⟩
  ·rcases hb with hb | hb
   ·exact .inl hb
   ·exact .inr hb.1
  ·rcases h with h | h
   ·exact Nat.lt_of_lt_of_le (hA b h) hb.size
   ·exact h.2
  ·rw [readA_eq];rfl
  ·rw [show Tryz.f43.resultTypes.toList = [72,25] by kernel_rfl]
   refine ⟨[],[],rfl,⟨FR.agg [_] [z] rfl (by simpa using g2) fun k y u hy hu => ?_,fun h => ?_,rfl⟩,[],[],rfl,⟨.int _ _,fun _ => rfl,rfl⟩,rfl⟩
   ·match k,hy,hu with
    | 0,hy,hu => cases hy;cases hu;exact g1
    | k + 1,hy,hu => simp at hy
   ·have e : (E.ty 72).isAgg = true:=by kernel_rfl
    rw [e] at h;cases h
end Go.Proofs.YtpffkpaiihcffaaGreatDoor
end
