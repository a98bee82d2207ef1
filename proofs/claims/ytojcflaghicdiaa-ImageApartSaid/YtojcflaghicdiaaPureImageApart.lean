/- The pure statement of ImageApart: for every number of own bytes, spots and blocks the law's function answers true. No condition. -/
import Derived.Test.YtojcflaghicdiaaOpen
import Derived.Test.YtojcflaghicdiaaPlain3
namespace Go.Proofs.Ytojcflaghicdiaa.Pure
open Go.RowKit Go.Proofs.Ytojcflaghicdiaa.Own
theorem ImageApart : fuglemanlaw19_ImageApart.Pure := fun lo l m _ _ _ _ _ _ _ => (Plain.apart_law lo l m).rounds
end Go.Proofs.Ytojcflaghicdiaa.Pure
