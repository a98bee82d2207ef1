/- The pure statement of ImageInputs: for every number of own bytes, spots and texts the law's function answers true. No condition. -/
import Derived.Test.YtojcflaghicdiaaOpen
import Derived.Test.YtojcflaghicdiaaPlain2
namespace Go.Proofs.Ytojcflaghicdiaa.Pure
open Go.RowKit Go.Proofs.Ytojcflaghicdiaa.Own
theorem ImageInputs : fuglemanlaw19_ImageInputs.Pure := fun lo l ts _ _ _ hat _ _ _ => (Plain.inputs_law lo l ts hat).rounds
end Go.Proofs.Ytojcflaghicdiaa.Pure
