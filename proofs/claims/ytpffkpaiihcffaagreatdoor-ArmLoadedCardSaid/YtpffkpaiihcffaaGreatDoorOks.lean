/- Steps of the proof: The tables fit the program; The tables fit the program. -/
import Derived.Test.YtpffkpaiihcffaaGreatDoorEnv
import Derived.Test.YtpffkpaiihcffaaGreatDoorTab
import Derived.KernelRfl
import Derived.Test.YtpffkpaiihcffaaGreatDoorEnvZ
section
namespace Go.Proofs.YtpffkpaiihcffaaGreatDoor
open Go Go.Proofs Go.Proofs.YtpffkpaiihcffaaGreatDoor.VM
theorem tyL_ok : tysB Tryz.prog tyL tyL = true:=by kernel_rfl
theorem fnL_ok : AllFn Tryz.prog fnL:=⟨⟨Tryz.func3,by kernel_rfl,by kernel_rfl⟩,⟨Tryz.func4,by kernel_rfl,by kernel_rfl⟩,⟨Tryz.func5,by kernel_rfl,by kernel_rfl⟩,⟨Tryz.func10,by kernel_rfl,by kernel_rfl⟩,⟨Tryz.func11,by kernel_rfl,by kernel_rfl⟩,⟨Tryz.func12,by kernel_rfl,by kernel_rfl⟩,⟨Tryz.func13,by kernel_rfl,by kernel_rfl⟩,⟨Tryz.func14,by kernel_rfl,by kernel_rfl⟩,⟨Tryz.func15,by kernel_rfl,by kernel_rfl⟩,⟨Tryz.func16,by kernel_rfl,by kernel_rfl⟩,⟨Tryz.func17,by kernel_rfl,by kernel_rfl⟩,⟨Tryz.func18,by kernel_rfl,by kernel_rfl⟩,⟨Tryz.func19,by kernel_rfl,by kernel_rfl⟩,⟨Tryz.func20,by kernel_rfl,by kernel_rfl⟩,⟨Tryz.func21,by kernel_rfl,by kernel_rfl⟩,⟨Tryz.func22,by kernel_rfl,by kernel_rfl⟩,⟨Tryz.func24,by kernel_rfl,by kernel_rfl⟩,⟨Tryz.func31,by kernel_rfl,by kernel_rfl⟩,⟨Tryz.func32,by kernel_rfl,by kernel_rfl⟩,⟨Tryz.func33,by kernel_rfl,by kernel_rfl⟩,⟨Tryz.func34,by kernel_rfl,by kernel_rfl⟩,⟨Tryz.func35,by kernel_rfl,by kernel_rfl⟩,⟨Tryz.func36,by kernel_rfl,by kernel_rfl⟩,⟨Tryz.func37,by kernel_rfl,by kernel_rfl⟩,⟨Tryz.func38,by kernel_rfl,by kernel_rfl⟩,⟨Tryz.func39,by kernel_rfl,by kernel_rfl⟩,⟨Tryz.func40,by kernel_rfl,by kernel_rfl⟩,⟨Tryz.func41,by kernel_rfl,by kernel_rfl⟩,⟨Tryz.func42,by kernel_rfl,by kernel_rfl⟩,⟨Tryz.func43,by kernel_rfl,by kernel_rfl⟩,⟨Tryz.func44,by kernel_rfl,by kernel_rfl⟩,⟨Tryz.func45,by kernel_rfl,by kernel_rfl⟩,⟨Tryz.func46,by kernel_rfl,by kernel_rfl⟩,⟨Tryz.func50,by kernel_rfl,by kernel_rfl⟩,⟨Tryz.func52,by kernel_rfl,by kernel_rfl⟩,⟨Tryz.func55,by kernel_rfl,by kernel_rfl⟩,⟨Tryz.func57,by kernel_rfl,by kernel_rfl⟩,⟨Tryz.func59,by kernel_rfl,by kernel_rfl⟩,⟨Tryz.func60,by kernel_rfl,by kernel_rfl⟩,⟨Tryz.func61,by kernel_rfl,by kernel_rfl⟩,⟨Tryz.func62,by kernel_rfl,by kernel_rfl⟩,⟨Tryz.func71,by kernel_rfl,by kernel_rfl⟩,⟨Tryz.func72,by kernel_rfl,by kernel_rfl⟩,⟨Tryz.func73,by kernel_rfl,by kernel_rfl⟩,⟨Tryz.func74,by kernel_rfl,by kernel_rfl⟩,⟨Tryz.func75,by kernel_rfl,by kernel_rfl⟩,⟨Tryz.func76,by kernel_rfl,by kernel_rfl⟩,⟨Tryz.func77,by kernel_rfl,by kernel_rfl⟩,⟨Tryz.func78,by kernel_rfl,by kernel_rfl⟩,⟨Tryz.func79,by kernel_rfl,by kernel_rfl⟩,⟨Tryz.func80,by kernel_rfl,by kernel_rfl⟩,⟨Tryz.func81,by kernel_rfl,by kernel_rfl⟩,⟨Tryz.func82,by kernel_rfl,by kernel_rfl⟩,⟨Tryz.func83,by kernel_rfl,by kernel_rfl⟩,⟨Tryz.func84,by kernel_rfl,by kernel_rfl⟩,⟨Tryz.func89,by kernel_rfl,by kernel_rfl⟩,⟨Tryz.func91,by kernel_rfl,by kernel_rfl⟩,⟨Tryz.func93,by kernel_rfl,by kernel_rfl⟩,⟨Tryz.func94,by kernel_rfl,by kernel_rfl⟩,⟨Tryz.func95,by kernel_rfl,by kernel_rfl⟩,⟨Tryz.func96,by kernel_rfl,by kernel_rfl⟩,⟨Tryz.func97,by kernel_rfl,by kernel_rfl⟩,⟨Tryz.func105,by kernel_rfl,by kernel_rfl⟩,⟨Tryz.func106,by kernel_rfl,by kernel_rfl⟩,⟨Tryz.func107,by kernel_rfl,by kernel_rfl⟩,⟨Tryz.func108,by kernel_rfl,by kernel_rfl⟩,⟨Tryz.func109,by kernel_rfl,by kernel_rfl⟩,⟨Tryz.func112,by kernel_rfl,by kernel_rfl⟩,⟨Tryz.func113,by kernel_rfl,by kernel_rfl⟩,⟨Tryz.func114,by kernel_rfl,by kernel_rfl⟩,⟨Tryz.func115,by kernel_rfl,by kernel_rfl⟩,⟨Tryz.func124,by kernel_rfl,by kernel_rfl⟩,True.intro⟩
theorem envOk : EnvOk Tryz.prog E:=⟨tyOk_of (tysB_ok tyL_ok),fun g fn h => allFn_ok fnL_ok h,by kernel_rfl⟩
end Go.Proofs.YtpffkpaiihcffaaGreatDoor
end
section
namespace Go.Proofs.YtpffkpaiihcffaaGreatDoor.Z
open Go Go.Proofs Go.Proofs.YtpffkpaiihcffaaGreatDoor.VM
theorem tyL_ok : tysB Tryz.prog tyL tyL = true:=by kernel_rfl
theorem fnL_ok : AllFn Tryz.prog fnL:=⟨⟨Tryz.func51,by kernel_rfl,by kernel_rfl⟩,⟨Tryz.func52,by kernel_rfl,by kernel_rfl⟩,⟨Tryz.func63,by kernel_rfl,by kernel_rfl⟩,⟨Tryz.func64,by kernel_rfl,by kernel_rfl⟩,⟨Tryz.func65,by kernel_rfl,by kernel_rfl⟩,⟨Tryz.func69,by kernel_rfl,by kernel_rfl⟩,⟨Tryz.func85,by kernel_rfl,by kernel_rfl⟩,⟨Tryz.func86,by kernel_rfl,by kernel_rfl⟩,⟨Tryz.func98,by kernel_rfl,by kernel_rfl⟩,⟨Tryz.func99,by kernel_rfl,by kernel_rfl⟩,⟨Tryz.func100,by kernel_rfl,by kernel_rfl⟩,⟨Tryz.func103,by kernel_rfl,by kernel_rfl⟩,⟨Tryz.func116,by kernel_rfl,by kernel_rfl⟩,⟨Tryz.func118,by kernel_rfl,by kernel_rfl⟩,⟨Tryz.func122,by kernel_rfl,by kernel_rfl⟩,⟨Tryz.func123,by kernel_rfl,by kernel_rfl⟩,⟨Tryz.func135,by kernel_rfl,by kernel_rfl⟩,True.intro⟩
theorem envOk : EnvOk Tryz.prog E:=⟨tyOk_of (tysB_ok tyL_ok),fun g fn h => allFn_ok fnL_ok h,by kernel_rfl⟩
theorem ovOk : OvSpec Tryz.prog E:=by
 have no : ∀ g f,E.ov g = some f → False:=fun g f h => by
  have h2 : (none : Option (List FV → Option FV)) = some f:=h
  cases h2
 exact ⟨fun g f h => (no g f h).elim,fun g f h => (no g f h).elim⟩
end Go.Proofs.YtpffkpaiihcffaaGreatDoor.Z
end
