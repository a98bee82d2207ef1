import Derived.Test.YtfhiggefmcklaaaDoorPlain4
namespace Go.Proofs.YtfhiggefmcklaaaDoor.Pure
open Go.RowKit Go.Proofs.YtfhiggefmcklaaaDoor.Own Go.Proofs.YtfhiggefmcklaaaDoor.Plain Go.Proofs.YtfhiggefmcklaaaDoorW.PrintWords Go.Proofs.YtfhiggefmcklaaaDoorW.PrintLast
/-- For every set and pair of addresses the law's function answers true. -/
theorem MembersBetween : fuglemanlaw05_MembersBetween.Pure := by
  intro a0 a1 a2 h0 _ _
  obtain ⟨s, rfl, hs⟩ := wf32 h0
  exact (between_law s a1 a2 hs).rounds
end Go.Proofs.YtfhiggefmcklaaaDoor.Pure
