/- Part 10 of the proof that 'DrawClear' holds. Conditions: as each part says. -/
import Derived.Test.YtmchedbfcniglaaGreatAmg
import Derived.Test.YtmchedbfcniglaaGreatAmi
set_option linter.unusedSimpArgs false
set_option linter.unusedVariables false
set_option linter.unusedSectionVars false
set_option linter.unnecessarySimpa false
section
/- Runs of one function at given arguments. No condition. -/
namespace Go.AM.Zd
set_option maxRecDepth 100000
theorem e6_ok : e6.ok F 1000000 24 := OEnt.ok_of (by decide +kernel)
theorem e7_ok : e7.ok F 1000000 24 := OEnt.ok_of (by decide +kernel)
theorem e8_ok : e8.ok F 1000000 24 := OEnt.ok_of (by decide +kernel)
end Go.AM.Zd
end
