/- What arm.Pulses answers: one closed evaluation for each move. -/
import Derived.Test.YtpffkpaiihcffaaGreatDoorEnvZ
import Derived.Test.YtpffkpaiihcffaaGreatDoorCel
import Derived.KernelRfl
namespace Go.Proofs.YtpffkpaiihcffaaGreatDoor.Z
open Go Go.Proofs Go.Proofs.YtpffkpaiihcffaaGreatDoor.VM Go.RowKit
def pulB (k s : Int) : Prop:=callF E 400 24 [.agg [.int .i64 k,.int .i64 s]] = some (pulR k s)
theorem pul_1_0 : pulB 1 0:=by unfold pulB;kernel_rfl
theorem pul_2_0 : pulB 2 0:=by unfold pulB;kernel_rfl
theorem pul_3_0 : pulB 3 0:=by unfold pulB;kernel_rfl
theorem pul_4_0 : pulB 4 0:=by unfold pulB;kernel_rfl
theorem pul_5_0 : pulB 5 0:=by unfold pulB;kernel_rfl
theorem pul_6_0 : pulB 6 0:=by unfold pulB;kernel_rfl
theorem pul_7_9 : pulB 7 9:=by unfold pulB;kernel_rfl
theorem pul_8_9 : pulB 8 9:=by unfold pulB;kernel_rfl
theorem pul_7_10 : pulB 7 10:=by unfold pulB;kernel_rfl
theorem pul_8_10 : pulB 8 10:=by unfold pulB;kernel_rfl
theorem pul_7_11 : pulB 7 11:=by unfold pulB;kernel_rfl
theorem pul_8_11 : pulB 8 11:=by unfold pulB;kernel_rfl
theorem pul_7_12 : pulB 7 12:=by unfold pulB;kernel_rfl
theorem pul_8_12 : pulB 8 12:=by unfold pulB;kernel_rfl
theorem pul_7_17 : pulB 7 17:=by unfold pulB;kernel_rfl
theorem pul_8_17 : pulB 8 17:=by unfold pulB;kernel_rfl
theorem pul_7_18 : pulB 7 18:=by unfold pulB;kernel_rfl
theorem pul_8_18 : pulB 8 18:=by unfold pulB;kernel_rfl
theorem pul_7_19 : pulB 7 19:=by unfold pulB;kernel_rfl
theorem pul_8_19 : pulB 8 19:=by unfold pulB;kernel_rfl
theorem pul_7_20 : pulB 7 20:=by unfold pulB;kernel_rfl
theorem pul_8_20 : pulB 8 20:=by unfold pulB;kernel_rfl
theorem pul_7_25 : pulB 7 25:=by unfold pulB;kernel_rfl
theorem pul_8_25 : pulB 8 25:=by unfold pulB;kernel_rfl
end Go.Proofs.YtpffkpaiihcffaaGreatDoor.Z
