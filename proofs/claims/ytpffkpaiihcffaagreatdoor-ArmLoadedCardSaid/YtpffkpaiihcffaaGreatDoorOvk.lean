/- Steps of the proof: The examples of the chapter, run by the abstract machine; The overrides stand; the examples of the chapter hold. -/
import Derived.Test.YtpffkpaiihcffaaGreatDoorEnv
import Derived.KernelRfl
import Derived.Test.YtpffkpaiihcffaaGreatDoorCanR
import Derived.Test.YtpffkpaiihcffaaGreatDoorOks
set_option linter.unusedVariables false
section
namespace Go.Proofs.YtpffkpaiihcffaaGreatDoor
open Go Go.Proofs.YtpffkpaiihcffaaGreatDoor.VM
theorem awake_run : callF E 400 15 [] = some (.bool true):=by kernel_rfl
theorem awake_true : law08_awake = some (.bool true):=(den_cv E 15 []).of 400 _ awake_run
end Go.Proofs.YtpffkpaiihcffaaGreatDoor
end
section
namespace Go.Proofs.YtpffkpaiihcffaaGreatDoor
open Go Go.Proofs Go.Proofs.YtpffkpaiihcffaaGreatDoor.VM
theorem ov_two {g : Nat} {f : List FV → Option FV} (h : ovT g = some f) : (g = 35 ∧ f = canonOv) ∨ (g = 43 ∧ f = readOv):=by
 unfold ovT at h
 split at h
 ·cases h;exact .inl ⟨rfl,rfl⟩
 ·cases h;exact .inr ⟨rfl,rfl⟩
 ·cases h
theorem ovOk : OvSpec Tryz.prog E where
 plain:=fun g f hf xs y own lend fn hm hg h cs w A hA ha => by
  rcases ov_two hf with ⟨rfl,rfl⟩ | ⟨rfl,rfl⟩
  ·have e1 : E.mode 35 = .call [] false:=by kernel_rfl
   have e2 : E.fn 35 = some Tryz.f35:=by kernel_rfl
   rw [e1] at hm;rw [e2] at hg;cases hm;cases hg
   exact canon_ov h hA ha
  ·have e1 : E.mode 43 = .call [] false:=by kernel_rfl
   have e2 : E.fn 43 = some Tryz.f43:=by kernel_rfl
   rw [e1] at hm;rw [e2] at hg;cases hm;cases hg
   exact read_ov h hA ha
 none:=fun g f hf ls own hm => by
  rcases ov_two hf with ⟨rfl,rfl⟩ | ⟨rfl,rfl⟩
  ·have e1 : E.mode 35 = .call [] false:=by kernel_rfl
   rw [e1] at hm;cases hm
  ·have e1 : E.mode 43 = .call [] false:=by kernel_rfl
   rw [e1] at hm;cases hm
end Go.Proofs.YtpffkpaiihcffaaGreatDoor
end
