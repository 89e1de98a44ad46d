/- Batches out of bytes, by the document (plain). -/
import Derived.Test.YtgmejofagmfcfaaGreatDoorPBat5
namespace Go.Ab
set_option linter.unusedVariables false
set_option linter.unusedSimpArgs false

end Go.Ab
