/- Numbers as bytes, and the reference's. No condition but what each says. -/
import Derived.Test.YtkdkhngdilhneaaWFSame
set_option linter.unusedSimpArgs false
set_option linter.unusedVariables false
set_option maxRecDepth 8000
set_option maxHeartbeats 4000000
namespace Go.Proofs.Ytkdkhngdilhneaa
open Go.Eng Go.RowKit
end Go.Proofs.Ytkdkhngdilhneaa
