/- Word: Lines as the program has them. -/
import Derived.Test.YtcpefnjofekibaaDoorWf
import Derived.Test.YtcpefnjofekibaaDoorWg
import Derived.Test.YtcpefnjofekibaaDoorHiU
namespace Go.Proofs.YtcpefnjofekibaaDoor
open Go.RowKit
set_option linter.unusedVariables false
set_option linter.unusedSimpArgs false
set_option maxRecDepth 8000

end Go.Proofs.YtcpefnjofekibaaDoor
