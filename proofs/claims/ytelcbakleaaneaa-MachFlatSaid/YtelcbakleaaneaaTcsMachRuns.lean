/- The codes of the types of the law MachRuns's parameters. -/
import Derived.Test.YtelcbakleaaneaaEnv
import Derived.Test.YtelcbakleaaneaaRow
namespace Go.Proofs.Ytelcbakleaaneaa
open Go Go.Proofs.Ytelcbakleaaneaa.VM
abbrev tcsMachRuns : List TC := [(.cons .str (.cons (.sl 16 .str) (.cons (.int .i64) (.cons (.sl 40 (.cons .str (.cons (.sl 16 .str) .nil))) (.cons (.sl 40 (.cons .str (.cons (.sl 16 .str) .nil))) (.cons (.sl 32 (.cons (.int .i64) (.cons (.sl 8 (.int .i64)) .nil))) .nil)))))), (.sl 24 (.sl 8 (.int .i64)))]
end Go.Proofs.Ytelcbakleaaneaa
