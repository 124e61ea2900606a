/- Steps of the proof: The tables fit the program; The tables fit the program; The contracts of strings.Repeat and of strings.Builder laid at this program (printed by the kit: lay-plain); strings.Repeat's answer stands for its call: the only override of the small environment. -/
import Derived.Test.YtpffkpaiihcffaaGreatDoorEnv
import Derived.Test.YtpffkpaiihcffaaGreatDoorTab
import Derived.KernelRfl
import Derived.Test.YtpffkpaiihcffaaGreatDoorEnvZ
import Derived.Shelf.Strings.Builder1
import Derived.Shelf.Strings.Repeat
import Derived.Test.YtpffkpaiihcffaaGreatDoorProg
import Derived.Test.YtpffkpaiihcffaaGreatDoorCel
set_option linter.unusedVariables false
section
namespace Go.Proofs.YtpffkpaiihcffaaGreatDoor
open Go Go.Proofs Go.Proofs.YtpffkpaiihcffaaGreatDoor.VM
theorem tyL_ok : tysB Tryz.prog tyL tyL = true:=by kernel_rfl
theorem fnL_ok : AllFn Tryz.prog fnL:=⟨⟨Tryz.func3,by kernel_rfl,by kernel_rfl⟩,⟨Tryz.func4,by kernel_rfl,by kernel_rfl⟩,⟨Tryz.func7,by kernel_rfl,by kernel_rfl⟩,⟨Tryz.func10,by kernel_rfl,by kernel_rfl⟩,⟨Tryz.func11,by kernel_rfl,by kernel_rfl⟩,⟨Tryz.func12,by kernel_rfl,by kernel_rfl⟩,⟨Tryz.func13,by kernel_rfl,by kernel_rfl⟩,⟨Tryz.func14,by kernel_rfl,by kernel_rfl⟩,⟨Tryz.func15,by kernel_rfl,by kernel_rfl⟩,⟨Tryz.func16,by kernel_rfl,by kernel_rfl⟩,⟨Tryz.func17,by kernel_rfl,by kernel_rfl⟩,⟨Tryz.func18,by kernel_rfl,by kernel_rfl⟩,⟨Tryz.func19,by kernel_rfl,by kernel_rfl⟩,⟨Tryz.func20,by kernel_rfl,by kernel_rfl⟩,⟨Tryz.func23,by kernel_rfl,by kernel_rfl⟩,⟨Tryz.func24,by kernel_rfl,by kernel_rfl⟩,⟨Tryz.func25,by kernel_rfl,by kernel_rfl⟩,⟨Tryz.func26,by kernel_rfl,by kernel_rfl⟩,⟨Tryz.func31,by kernel_rfl,by kernel_rfl⟩,⟨Tryz.func32,by kernel_rfl,by kernel_rfl⟩,⟨Tryz.func33,by kernel_rfl,by kernel_rfl⟩,⟨Tryz.func34,by kernel_rfl,by kernel_rfl⟩,⟨Tryz.func35,by kernel_rfl,by kernel_rfl⟩,⟨Tryz.func36,by kernel_rfl,by kernel_rfl⟩,⟨Tryz.func37,by kernel_rfl,by kernel_rfl⟩,⟨Tryz.func38,by kernel_rfl,by kernel_rfl⟩,⟨Tryz.func39,by kernel_rfl,by kernel_rfl⟩,⟨Tryz.func40,by kernel_rfl,by kernel_rfl⟩,⟨Tryz.func41,by kernel_rfl,by kernel_rfl⟩,⟨Tryz.func42,by kernel_rfl,by kernel_rfl⟩,⟨Tryz.func43,by kernel_rfl,by kernel_rfl⟩,⟨Tryz.func44,by kernel_rfl,by kernel_rfl⟩,⟨Tryz.func52,by kernel_rfl,by kernel_rfl⟩,⟨Tryz.func55,by kernel_rfl,by kernel_rfl⟩,⟨Tryz.func57,by kernel_rfl,by kernel_rfl⟩,⟨Tryz.func59,by kernel_rfl,by kernel_rfl⟩,⟨Tryz.func60,by kernel_rfl,by kernel_rfl⟩,⟨Tryz.func61,by kernel_rfl,by kernel_rfl⟩,⟨Tryz.func62,by kernel_rfl,by kernel_rfl⟩,⟨Tryz.func89,by kernel_rfl,by kernel_rfl⟩,⟨Tryz.func91,by kernel_rfl,by kernel_rfl⟩,⟨Tryz.func93,by kernel_rfl,by kernel_rfl⟩,⟨Tryz.func94,by kernel_rfl,by kernel_rfl⟩,⟨Tryz.func95,by kernel_rfl,by kernel_rfl⟩,⟨Tryz.func96,by kernel_rfl,by kernel_rfl⟩,⟨Tryz.func97,by kernel_rfl,by kernel_rfl⟩,⟨Tryz.func112,by kernel_rfl,by kernel_rfl⟩,⟨Tryz.func113,by kernel_rfl,by kernel_rfl⟩,⟨Tryz.func114,by kernel_rfl,by kernel_rfl⟩,⟨Tryz.func115,by kernel_rfl,by kernel_rfl⟩,True.intro⟩
theorem envOk : EnvOk Tryz.prog E:=⟨tyOk_of (tysB_ok tyL_ok),fun g fn h => allFn_ok fnL_ok h,by kernel_rfl⟩
end Go.Proofs.YtpffkpaiihcffaaGreatDoor
end
section
namespace Go.Proofs.YtpffkpaiihcffaaGreatDoor.Z
open Go Go.Proofs Go.Proofs.YtpffkpaiihcffaaGreatDoor.VM
theorem tyL_ok : tysB Tryz.prog tyL tyL = true:=by kernel_rfl
theorem fnL_ok : AllFn Tryz.prog fnL:=⟨⟨Tryz.func13,by kernel_rfl,by kernel_rfl⟩,⟨Tryz.func24,by kernel_rfl,by kernel_rfl⟩,⟨Tryz.func34,by kernel_rfl,by kernel_rfl⟩,⟨Tryz.func38,by kernel_rfl,by kernel_rfl⟩,⟨Tryz.func50,by kernel_rfl,by kernel_rfl⟩,⟨Tryz.func51,by kernel_rfl,by kernel_rfl⟩,⟨Tryz.func52,by kernel_rfl,by kernel_rfl⟩,⟨Tryz.func63,by kernel_rfl,by kernel_rfl⟩,⟨Tryz.func64,by kernel_rfl,by kernel_rfl⟩,⟨Tryz.func65,by kernel_rfl,by kernel_rfl⟩,⟨Tryz.func69,by kernel_rfl,by kernel_rfl⟩,⟨Tryz.func71,by kernel_rfl,by kernel_rfl⟩,⟨Tryz.func72,by kernel_rfl,by kernel_rfl⟩,⟨Tryz.func73,by kernel_rfl,by kernel_rfl⟩,⟨Tryz.func74,by kernel_rfl,by kernel_rfl⟩,⟨Tryz.func75,by kernel_rfl,by kernel_rfl⟩,⟨Tryz.func76,by kernel_rfl,by kernel_rfl⟩,⟨Tryz.func77,by kernel_rfl,by kernel_rfl⟩,⟨Tryz.func78,by kernel_rfl,by kernel_rfl⟩,⟨Tryz.func79,by kernel_rfl,by kernel_rfl⟩,⟨Tryz.func80,by kernel_rfl,by kernel_rfl⟩,⟨Tryz.func81,by kernel_rfl,by kernel_rfl⟩,⟨Tryz.func82,by kernel_rfl,by kernel_rfl⟩,⟨Tryz.func83,by kernel_rfl,by kernel_rfl⟩,⟨Tryz.func84,by kernel_rfl,by kernel_rfl⟩,⟨Tryz.func85,by kernel_rfl,by kernel_rfl⟩,⟨Tryz.func86,by kernel_rfl,by kernel_rfl⟩,⟨Tryz.func98,by kernel_rfl,by kernel_rfl⟩,⟨Tryz.func99,by kernel_rfl,by kernel_rfl⟩,⟨Tryz.func100,by kernel_rfl,by kernel_rfl⟩,⟨Tryz.func103,by kernel_rfl,by kernel_rfl⟩,⟨Tryz.func105,by kernel_rfl,by kernel_rfl⟩,⟨Tryz.func106,by kernel_rfl,by kernel_rfl⟩,⟨Tryz.func107,by kernel_rfl,by kernel_rfl⟩,⟨Tryz.func108,by kernel_rfl,by kernel_rfl⟩,⟨Tryz.func109,by kernel_rfl,by kernel_rfl⟩,⟨Tryz.func116,by kernel_rfl,by kernel_rfl⟩,⟨Tryz.func118,by kernel_rfl,by kernel_rfl⟩,⟨Tryz.func122,by kernel_rfl,by kernel_rfl⟩,⟨Tryz.func123,by kernel_rfl,by kernel_rfl⟩,⟨Tryz.func124,by kernel_rfl,by kernel_rfl⟩,⟨Tryz.func135,by kernel_rfl,by kernel_rfl⟩,True.intro⟩
theorem envOk : EnvOk Tryz.prog E:=⟨tyOk_of (tysB_ok tyL_ok),fun g fn h => allFn_ok fnL_ok h,by kernel_rfl⟩
end Go.Proofs.YtpffkpaiihcffaaGreatDoor.Z
end
section
namespace Go.Proofs
open Go.Shelf
def Tryz.lays170_ren : Go.Shelf.Ren:=⟨fun | 170 => 47 | n => n,fun | 70 => 79 | 3 => 3 | 0 => 0 | 72 => 82 | 37 => 80 | 5 => 5 | n => n,fun | n => n⟩
theorem Tryz.lays170 : Go.Proofs.Lays.n170 Tryz.prog Tryz.lays170_ren:={
 mixed:=by kernel_rfl
 f170:=Tryz.func47.trans (congrArg some (by kernel_rfl))
 t0:=Tryz.underlying0
 a0:=Tryz.isAgg0
 z0:=Tryz.sizeOf0
 v0:=Tryz.zeroValue0
 t3:=Tryz.underlying3
 a3:=Tryz.isAgg3
 z3:=Tryz.sizeOf3
 v3:=Tryz.zeroValue3
 t37:=Tryz.underlying80
 a37:=Tryz.isAgg80
 z37:=Tryz.sizeOf80
 v37:=Tryz.zeroValue80
 t70:=Tryz.underlying79
 a70:=Tryz.isAgg79
 z70:=Tryz.sizeOf79
 v70:=Tryz.zeroValue79
 t72:=Tryz.underlying82
 a72:=Tryz.isAgg82
 z72:=Tryz.sizeOf82
 v72:=Tryz.zeroValue82 }
open Go.RowKit in
theorem Tryz.Builder_Len (B b : Nat) (bs : List Value) (w : World) (h : Lib.IsBuilder 82 5 B b bs w) :
  Calls Tryz.prog 47 #[.pointer (some ⟨b,0,none⟩)] w fun e w' => e = .returned (.int .i64 bs.length) ∧ w' = w:=Any.Builder_Len Tryz.lays170 B b bs w h
def Tryz.lays169_ren : Go.Shelf.Ren:=⟨fun | 169 => 49 | n => n,fun | 70 => 79 | 9 => 9 | 0 => 0 | 72 => 82 | 37 => 80 | 127 => 117 | 3 => 3 | 5 => 5 | n => n,fun | n => n⟩
theorem Tryz.lays169 : Go.Proofs.Lays.n169 Tryz.prog Tryz.lays169_ren:={
 mixed:=by kernel_rfl
 f169:=Tryz.func49.trans (congrArg some (by kernel_rfl))
 t0:=Tryz.underlying0
 a0:=Tryz.isAgg0
 z0:=Tryz.sizeOf0
 v0:=Tryz.zeroValue0
 t3:=Tryz.underlying3
 a3:=Tryz.isAgg3
 z3:=Tryz.sizeOf3
 v3:=Tryz.zeroValue3
 t9:=Tryz.underlying9
 a9:=Tryz.isAgg9
 z9:=Tryz.sizeOf9
 v9:=Tryz.zeroValue9
 t37:=Tryz.underlying80
 a37:=Tryz.isAgg80
 z37:=Tryz.sizeOf80
 v37:=Tryz.zeroValue80
 t70:=Tryz.underlying79
 a70:=Tryz.isAgg79
 z70:=Tryz.sizeOf79
 v70:=Tryz.zeroValue79
 t72:=Tryz.underlying82
 a72:=Tryz.isAgg82
 z72:=Tryz.sizeOf82
 v72:=Tryz.zeroValue82
 t127:=Tryz.underlying117
 a127:=Tryz.isAgg117
 z127:=Tryz.sizeOf117
 v127:=Tryz.zeroValue117 }
theorem Tryz.Builder_Extra_169 : Builder.Extra Tryz.prog Tryz.lays169_ren:={
 sizeBuilder:=by kernel_rfl
 liesBuilder:=by kernel_rfl
 t5:=Tryz.underlying5
 a5:=Tryz.isAgg5
 z5:=Tryz.sizeOf5
 v5:=Tryz.zeroValue5
 infoByte:=by kernel_rfl
 cellsByte:=by kernel_rfl
 sizeByte:=by kernel_rfl
 neB5:=by decide }
open Go.RowKit in
theorem Tryz.Builder_String_any (B b : Nat) (l : List UInt8) (w : World) (h : Lib.IsBuilder 82 5 B b (Lib.byteCells l) w) (hBw : B ≤ w.heap.size) :
  Calls Tryz.prog 49 #[.pointer (some ⟨b,0,none⟩)] w fun e w' => e = .returned (.string ⟨l.toArray⟩) ∧ Below B w w':=Any.Builder_String_any Tryz.lays169 Tryz.Builder_Extra_169 B b l w h hBw
def Tryz.lays105_ren : Go.Shelf.Ren:=⟨fun | 105 => 109 | 212 => 125 | 99 => 126 | 165 => 127 | 166 => 48 | 170 => 47 | 169 => 49 | 263 => 136 | 264 => 137 | 206 => 138 | 240 => 70 | 241 => 139 | 276 => 104 | 277 => 154 | n => n,fun | 9 => 9 | 3 => 3 | 4 => 4 | 20 => 20 | 0 => 0 | 46 => 180 | 109 => 181 | 5 => 5 | 72 => 82 | 76 => 87 | 51 => 194 | 146 => 195 | 53 => 131 | 148 => 197 | 70 => 79 | 37 => 80 | 75 => 86 | 127 => 117 | 164 => 151 | 80 => 89 | n => n,fun | n => n⟩
theorem Tryz.lays105 : Go.Proofs.Lays.n105 Tryz.prog Tryz.lays105_ren:={
 mixed:=by kernel_rfl
 f99:=Tryz.func126.trans (congrArg some (by kernel_rfl))
 f105:=Tryz.func109.trans (congrArg some (by kernel_rfl))
 f165:=Tryz.func127.trans (congrArg some (by kernel_rfl))
 f166:=Tryz.func48.trans (congrArg some (by kernel_rfl))
 f169:=Tryz.func49.trans (congrArg some (by kernel_rfl))
 f170:=Tryz.func47.trans (congrArg some (by kernel_rfl))
 f206:=Tryz.func138.trans (congrArg some (by kernel_rfl))
 f212:=Tryz.func125.trans (congrArg some (by kernel_rfl))
 f240:=Tryz.func70.trans (congrArg some (by kernel_rfl))
 f241:=Tryz.func139.trans (congrArg some (by kernel_rfl))
 f263:=Tryz.func136.trans (congrArg some (by kernel_rfl))
 f264:=Tryz.func137.trans (congrArg some (by kernel_rfl))
 f276:=Tryz.func104.trans (congrArg some (by kernel_rfl))
 f277:=Tryz.func154.trans (congrArg some (by kernel_rfl))
 t0:=Tryz.underlying0
 a0:=Tryz.isAgg0
 z0:=Tryz.sizeOf0
 v0:=Tryz.zeroValue0
 t3:=Tryz.underlying3
 a3:=Tryz.isAgg3
 z3:=Tryz.sizeOf3
 v3:=Tryz.zeroValue3
 t4:=Tryz.underlying4
 a4:=Tryz.isAgg4
 z4:=Tryz.sizeOf4
 v4:=Tryz.zeroValue4
 t5:=Tryz.underlying5
 a5:=Tryz.isAgg5
 z5:=Tryz.sizeOf5
 v5:=Tryz.zeroValue5
 t9:=Tryz.underlying9
 a9:=Tryz.isAgg9
 z9:=Tryz.sizeOf9
 v9:=Tryz.zeroValue9
 t20:=Tryz.underlying20
 a20:=Tryz.isAgg20
 z20:=Tryz.sizeOf20
 v20:=Tryz.zeroValue20
 t37:=Tryz.underlying80
 a37:=Tryz.isAgg80
 z37:=Tryz.sizeOf80
 v37:=Tryz.zeroValue80
 t46:=Tryz.underlying180
 a46:=Tryz.isAgg180
 z46:=Tryz.sizeOf180
 v46:=Tryz.zeroValue180
 t51:=Tryz.underlying194
 a51:=Tryz.isAgg194
 z51:=Tryz.sizeOf194
 v51:=Tryz.zeroValue194
 t53:=Tryz.underlying131
 a53:=Tryz.isAgg131
 z53:=Tryz.sizeOf131
 v53:=Tryz.zeroValue131
 t70:=Tryz.underlying79
 a70:=Tryz.isAgg79
 z70:=Tryz.sizeOf79
 v70:=Tryz.zeroValue79
 t72:=Tryz.underlying82
 a72:=Tryz.isAgg82
 z72:=Tryz.sizeOf82
 v72:=Tryz.zeroValue82
 t75:=Tryz.underlying86
 a75:=Tryz.isAgg86
 z75:=Tryz.sizeOf86
 v75:=Tryz.zeroValue86
 t76:=Tryz.underlying87
 a76:=Tryz.isAgg87
 z76:=Tryz.sizeOf87
 v76:=Tryz.zeroValue87
 t109:=Tryz.underlying181
 a109:=Tryz.isAgg181
 z109:=Tryz.sizeOf181
 v109:=Tryz.zeroValue181
 t127:=Tryz.underlying117
 a127:=Tryz.isAgg117
 z127:=Tryz.sizeOf117
 v127:=Tryz.zeroValue117
 t146:=Tryz.underlying195
 a146:=Tryz.isAgg195
 z146:=Tryz.sizeOf195
 v146:=Tryz.zeroValue195
 t148:=Tryz.underlying197
 a148:=Tryz.isAgg197
 z148:=Tryz.sizeOf197
 v148:=Tryz.zeroValue197
 t164:=Tryz.underlying151
 a164:=Tryz.isAgg151
 z164:=Tryz.sizeOf151
 v164:=Tryz.zeroValue151 }
theorem Tryz.Builder_Extra_105 : Builder.Extra Tryz.prog Tryz.lays105_ren:={
 sizeBuilder:=by kernel_rfl
 liesBuilder:=by kernel_rfl
 t5:=Tryz.underlying5
 a5:=Tryz.isAgg5
 z5:=Tryz.sizeOf5
 v5:=Tryz.zeroValue5
 infoByte:=by kernel_rfl
 cellsByte:=by kernel_rfl
 sizeByte:=by kernel_rfl
 neB5:=by decide }
open Go.RowKit Go.Lib in
theorem Tryz.strings_Repeat (s : ByteArray) (c : Nat) (w : World) (hc : c ≤ 9223372036854775807) (hlen : s.size * c ≤ 140737488355328) :
  Calls Tryz.prog 109 #[.string s,.int .i64 c] w fun e w' => e = .returned (.string ⟨(Lib.repeatL s.data.toList c).toArray⟩) ∧ Below w.heap.size w w':=Any.strings_Repeat Tryz.lays105 Tryz.Builder_Extra_105 s c w hc hlen
end Go.Proofs
end
section
namespace Go.Proofs.YtpffkpaiihcffaaGreatDoor
open Go Go.Proofs Go.Proofs.YtpffkpaiihcffaaGreatDoor.VM Go.RowKit
theorem repL_eq (s : List UInt8) : ∀ n,repL s n = Lib.repeatL s n
 | 0 => rfl
 | n + 1 => by rw [repL,Lib.repeatL,repL_eq s n]
theorem rep_ov {En : Env} (he : pars En Tryz.f109 = [9,3]) {xs : List FV} {y : FV} (h : repOv xs = some y) {cs : List Value} {w : World} {A : Nat → Prop} (hA : ∀ b,A b → b < w.heap.size) (ha : ArgsR En w A (pars En Tryz.f109) xs cs) :
  Calls Tryz.prog 109 cs.toArray w fun e w' => ∃ v,e = .returned v ∧ Ret En [] Tryz.f109 w A y v w':=by
 unfold repOv at h
 split at h
 ·rename_i s c
  obtain ⟨hb,h⟩:=gB_some h
  cases h
  obtain ⟨h0,hc,h1⟩:=of_decide_eq_true hb
  obtain ⟨a1,a2,gl,a3⟩:=ha
  rw [he] at a1 a3
  match cs,a2 with
  | [u,v],_ =>
   obtain ⟨f0,_⟩:=a3 0 _ _ _ rfl rfl rfl
   obtain ⟨f1,_⟩:=a3 1 _ _ _ rfl rfl rfl
   obtain ⟨n,rfl⟩ : ∃ n : Nat,c = n:=⟨c.toNat,by omega⟩
   rw [Int.toNat_natCast]
   cases f0 with
   | str s =>
    cases f1
    have hsz : s.size = s.data.toList.length:=Array.length_toList.symm
    have hlen : s.data.toList.length * n ≤ 100000000:=by
     have : ((s.data.toList.length * n : Nat) : Int) ≤ 100000000:=by rw [Int.natCast_mul];exact h1
     omega
    refine (Tryz.strings_Repeat s n w (by omega) (by rw [hsz];omega)).mono fun e w' ⟨he,hbl⟩ => ?_
    refine ⟨_,he,A,[.string ⟨(Lib.repeatL s.data.toList n).toArray⟩],[.str (repL s.data.toList n)],[],⟨fun _ h => h,fun b hb => hbl.block b (hA b hb)⟩,fun b h => .inl h,fun b h => Nat.lt_of_lt_of_le (hA b h) hbl.size,hbl,rfl,rfl,by kernel_rfl,?_,List.nodup_nil,fun b hb => by cases hb⟩
    rw [show Tryz.f109.resultTypes.toList = [9] by kernel_rfl]
    refine ⟨[],[],rfl,⟨?_,fun _ => rfl,rfl⟩,rfl⟩
    rw [repL_eq]
    exact .str ⟨(Lib.repeatL s.data.toList n).toArray⟩
 ·cases h
theorem Z.ovOk : OvSpec Tryz.prog Z.E where
 plain:=fun g f hf xs y own lend fn hm hg h cs w A hA ha => by
  have hh : g = 109 ∧ f = repOv:=by
   have hf' : Z.ovT g = some f:=hf
   unfold Z.ovT at hf'
   split at hf'
   ·cases hf';exact ⟨rfl,rfl⟩
   ·cases hf'
  obtain ⟨rfl,rfl⟩:=hh
  have e1 : Z.E.mode 109 = .call [] false:=by kernel_rfl
  have e2 : Z.E.fn 109 = some Tryz.f109:=by kernel_rfl
  rw [e1] at hm;rw [e2] at hg;cases hm;cases hg
  exact rep_ov (by kernel_rfl) h hA ha
 none:=fun g f hf ls own hm => by
  have hh : g = 109 ∧ f = repOv:=by
   have hf' : Z.ovT g = some f:=hf
   unfold Z.ovT at hf'
   split at hf'
   ·cases hf';exact ⟨rfl,rfl⟩
   ·cases hf'
  obtain ⟨rfl,rfl⟩:=hh
  have e1 : Z.E.mode 109 = .call [] false:=by kernel_rfl
  rw [e1] at hm;cases hm
end Go.Proofs.YtpffkpaiihcffaaGreatDoor
end
