/- The codes of the types of the law MachAnyPlane's parameters. -/
import Derived.Test.YtelcbakleaaneaaEnv
import Derived.Test.YtelcbakleaaneaaRow
namespace Go.Proofs.Ytelcbakleaaneaa
open Go Go.Proofs.Ytelcbakleaaneaa.VM
abbrev tcsMachAnyPlane : List TC := [(.cons (.sl 8 (.int .i64)) (.cons (.sl 8 (.int .i64)) (.cons (.int .i64) (.cons (.sl 8 (.int .i64)) (.cons (.sl 48 (.cons (.sl 8 (.int .i64)) (.cons (.sl 8 (.int .i64)) .nil))) .nil))))), (.sl 24 (.sl 8 (.int .i64)))]
end Go.Proofs.Ytelcbakleaaneaa
