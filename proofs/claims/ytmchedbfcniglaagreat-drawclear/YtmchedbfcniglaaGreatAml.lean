/- Part 12 of the proof that 'DrawClear' holds. Conditions: as each part says. -/
import Derived.Test.YtmchedbfcniglaaGreatAmg
import Derived.Test.YtmchedbfcniglaaGreatAmk
set_option linter.unusedSimpArgs false
set_option linter.unusedVariables false
set_option linter.unusedSectionVars false
set_option linter.unnecessarySimpa false
section
/- 'drawBegun', run with the table of known answers. No condition. -/
namespace Go.AM.Zd
set_option maxRecDepth 100000
theorem begun_run : arunOK F 24 tab 1000000 8 [] emptyH (fun v _ => match v with | .b true => true | _ => false) = true := by decide +kernel
end Go.AM.Zd
end
