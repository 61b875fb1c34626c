
/-
The reader: lists of records.
-/
import Derived.Test.YtmokpnkpfodppaaRdr14
namespace Go.Proofs.Ytmokpnkpfodppaa
set_option linter.unusedSimpArgs false
set_option linter.unusedVariables false
open Go.RowKit

end Go.Proofs.Ytmokpnkpfodppaa
