/- Part 11 of the proof that 'DrawClear' holds. Conditions: as each part says. -/
import Derived.Test.YtmchedbfcniglaaGreatAmg
import Derived.Test.YtmchedbfcniglaaGreatAmj
set_option linter.unusedSimpArgs false
set_option linter.unusedVariables false
set_option linter.unusedSectionVars false
set_option linter.unnecessarySimpa false
section
/- Runs of one function at given arguments. No condition. -/
namespace Go.AM.Zd
set_option maxRecDepth 100000
theorem e9_ok : e9.ok F 1000000 24 := OEnt.ok_of (by decide +kernel)
theorem e10_ok : e10.ok F 1000000 24 := OEnt.ok_of (by decide +kernel)
end Go.AM.Zd
end
