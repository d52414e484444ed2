/- THE EXAMPLES that every law asks for first: they hold, by the kernel's own reckoning. -/
import Derived.Test.YtfjnpgbjcgjecaaPevNums
namespace Go.PevTab
open Go.Pev
set_option maxRecDepth 100000
theorem awake_ok : ev (envF 1000000) 40 F_law01_awake [] = some (.bool true) := by kernel_rfl
end Go.PevTab
