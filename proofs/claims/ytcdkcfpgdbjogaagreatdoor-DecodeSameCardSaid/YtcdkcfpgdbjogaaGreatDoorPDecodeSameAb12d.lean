/- A function that defers a call at its begin. -/
import Derived.Test.YtcdkcfpgdbjogaaGreatDoorPDecodeSameAb12
import Derived.DefersIn
set_option linter.unusedVariables false
set_option linter.unusedSimpArgs false
namespace Go.Ab
section
variable {P : Program} {Gl : Gh → Prop}
end
end Go.Ab

