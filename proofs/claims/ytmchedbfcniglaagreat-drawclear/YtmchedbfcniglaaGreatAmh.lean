/- Part 8 of the proof that 'DrawClear' holds. Conditions: as each part says. -/
import Derived.Test.YtmchedbfcniglaaGreatAmg
set_option linter.unusedSimpArgs false
set_option linter.unusedVariables false
set_option linter.unusedSectionVars false
set_option linter.unnecessarySimpa false
section
/- Runs of one function at given arguments. No condition. -/
namespace Go.AM.Zd
set_option maxRecDepth 100000
theorem e0_ok : e0.ok F 1000000 24 := OEnt.ok_of (by decide +kernel)
theorem e1_ok : e1.ok F 1000000 24 := OEnt.ok_of (by decide +kernel)
theorem e2_ok : e2.ok F 1000000 24 := OEnt.ok_of (by decide +kernel)
end Go.AM.Zd
end
