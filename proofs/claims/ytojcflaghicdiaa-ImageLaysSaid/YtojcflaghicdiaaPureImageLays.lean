/- The pure statement of ImageLays: for every number of own bytes, spots and blocks the law's function answers true. No condition. -/
import Derived.Test.YtojcflaghicdiaaOpen
import Derived.Test.YtojcflaghicdiaaPlain1
namespace Go.Proofs.Ytojcflaghicdiaa.Pure
open Go.RowKit Go.Proofs.Ytojcflaghicdiaa.Own
theorem ImageLays : fuglemanlaw19_ImageLays.Pure := fun lo l m _ _ _ _ _ _ _ => (Plain.lays_law lo l m).rounds
end Go.Proofs.Ytojcflaghicdiaa.Pure
