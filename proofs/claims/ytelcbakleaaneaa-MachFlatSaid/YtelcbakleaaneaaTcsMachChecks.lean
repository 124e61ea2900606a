/- The codes of the types of the law MachChecks's parameters. -/
import Derived.Test.YtelcbakleaaneaaEnv
import Derived.Test.YtelcbakleaaneaaRow
namespace Go.Proofs.Ytelcbakleaaneaa
open Go Go.Proofs.Ytelcbakleaaneaa.VM
abbrev tcsMachChecks : List TC := [(.cons .str (.cons (.sl 16 .str) (.cons (.int .i64) (.cons (.sl 40 (.cons .str (.cons (.sl 16 .str) .nil))) (.cons (.sl 40 (.cons .str (.cons (.sl 16 .str) .nil))) (.cons (.sl 32 (.cons (.int .i64) (.cons (.sl 8 (.int .i64)) .nil))) .nil)))))), (.cons (.sl 120 (.cons .str (.cons (.sl 16 .str) (.cons (.int .i64) (.cons (.sl 40 (.cons .str (.cons (.sl 16 .str) .nil))) (.cons (.sl 40 (.cons .str (.cons (.sl 16 .str) .nil))) (.cons (.sl 32 (.cons (.int .i64) (.cons (.sl 8 (.int .i64)) .nil))) .nil))))))) (.cons (.sl 112 (.cons .str (.cons (.sl 24 (.cons .str (.cons (.int .i64) .nil))) (.cons (.sl 64 (.cons (.cons (.int .i64) (.cons (.int .i64) .nil)) (.cons (.cons (.int .i64) (.cons (.int .i64) .nil)) (.cons (.int .i64) (.cons (.sl 8 (.int .i64)) .nil))))) (.cons (.sl 16 (.cons (.int .i64) (.cons (.int .i64) .nil))) (.cons (.sl 16 (.cons (.int .i64) (.cons (.int .i64) .nil))) .nil)))))) .nil)), (.int .i64)]
end Go.Proofs.Ytelcbakleaaneaa
