/- The pure statement of BlocksLists: for every directory the law's function answers true. No condition. -/
import Derived.Test.YtneiideeclbebaaOpen
import Derived.Test.YtneiideeclbebaaPlain2
namespace Go.Proofs.Ytneiideeclbebaa.Pure
open Go.RowKit Go.Proofs.Ytneiideeclbebaa.Own
theorem BlocksLists : fuglemanlaw16_BlocksLists.Pure := fun l a b _ _ _ _ _ => (Plain.lists_law l a b).rounds
end Go.Proofs.Ytneiideeclbebaa.Pure
