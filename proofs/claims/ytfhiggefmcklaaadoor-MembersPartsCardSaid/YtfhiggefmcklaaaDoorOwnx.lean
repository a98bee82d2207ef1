/- Contracts of functions of the given program, each under the conditions that it states (a run of the kit's printer, by hprint.py, with contracts of our own among its functions). -/
import Derived.Test.YtfhiggefmcklaaaDoorOwnx0
import Derived.Test.YtfhiggefmcklaaaDoorOwnx1
import Derived.Test.YtfhiggefmcklaaaDoorOwnx2
import Derived.Test.YtfhiggefmcklaaaDoorOwnx3
import Derived.Test.YtfhiggefmcklaaaDoorOwnx4
import Derived.Test.YtfhiggefmcklaaaDoorOwnx5
import Derived.Test.YtfhiggefmcklaaaDoorOwnx6
namespace Go.Proofs.YtfhiggefmcklaaaDoor.Own
open Go.RowKit Go.Proofs.YtfhiggefmcklaaaDoorW.PrintWords Go.Proofs.YtfhiggefmcklaaaDoorW.PrintLast Go.Proofs.YtfhiggefmcklaaaDoorW.PrintMore
attribute [local go_sem] max2_int min2_int max_two min_two max_three min_three max_four min_four   -- for this text's walks alone
set_option linter.unusedVariables false
set_option linter.unusedSimpArgs false

end Go.Proofs.YtfhiggefmcklaaaDoor.Own
