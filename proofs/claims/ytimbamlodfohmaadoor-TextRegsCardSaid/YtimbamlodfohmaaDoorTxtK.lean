/- known() of the texts' laws is true. -/
import Derived.Test.YtimbamlodfohmaaDoorTxtA
namespace Go.SX.Txt
open Go Go.SX Go.Proofs
set_option maxRecDepth 1000000
theorem known5 [Env] : (callE Tryd.prog envB cfg0 20 5 [] [tabR, dbtR]).good leafG [] = true := by kernel_rfl
end Go.SX.Txt
