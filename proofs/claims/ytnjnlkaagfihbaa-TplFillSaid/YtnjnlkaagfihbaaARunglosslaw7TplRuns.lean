/- A part of the proof of the statement that the last text of this claim closes; no condition. -/
import Derived.Test.YtnjnlkaagfihbaaAIrAp1
import Derived.KernelRfl
set_option linter.all false
namespace Gv
open Go
set_option maxRecDepth 100000
theorem run_glosslaw7_TplRuns : pcall F f_glosslaw7_TplRuns [] = some [.one (.bool true)] := pcall_of_n (n := 3000) (by kernel_rfl)
end Gv
