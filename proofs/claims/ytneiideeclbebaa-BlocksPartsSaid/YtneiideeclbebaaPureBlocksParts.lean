/- The pure statement of BlocksParts: for every value and every number of a part the law's function answers true. No condition. -/
import Derived.Test.YtneiideeclbebaaOwnx3
import Derived.Test.YtneiideeclbebaaPlain1
namespace Go.Proofs.Ytneiideeclbebaa.Pure
open Go.RowKit Go.Proofs.Ytneiideeclbebaa.Own Go.Proofs.YtneiideeclbebaaW.PrintWords Go.Proofs.YtneiideeclbebaaW.PrintLast

theorem BlocksParts : fuglemanlaw16_BlocksParts.Pure := fun v x1 _ _ => (Plain.parts_law v x1).rounds

end Go.Proofs.Ytneiideeclbebaa.Pure
