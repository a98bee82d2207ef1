/- The pure statement of BlocksOnce: for every directory the law's function answers true. No condition. -/
import Derived.Test.YtneiideeclbebaaOpen
import Derived.Test.YtneiideeclbebaaPlain2
namespace Go.Proofs.Ytneiideeclbebaa.Pure
open Go.RowKit Go.Proofs.Ytneiideeclbebaa.Own
theorem BlocksOnce : fuglemanlaw16_BlocksOnce.Pure := fun l _ _ _ => (Plain.once_law l).rounds
end Go.Proofs.Ytneiideeclbebaa.Pure
