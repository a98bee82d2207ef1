import Derived.Test.YtfhiggefmcklaaaDoorPlain3
namespace Go.Proofs.YtfhiggefmcklaaaDoor.Pure
open Go.RowKit Go.Proofs.YtfhiggefmcklaaaDoor.Own Go.Proofs.YtfhiggefmcklaaaDoor.Plain Go.Proofs.YtfhiggefmcklaaaDoorW.PrintWords Go.Proofs.YtfhiggefmcklaaaDoorW.PrintLast
/-- For every set and address the law's function answers true. -/
theorem MembersSets : fuglemanlaw05_MembersSets.Pure := by
  intro a0 a1 h0 _
  obtain ⟨s, rfl, hs⟩ := wf32 h0
  exact (sets_law s a1 hs).rounds
end Go.Proofs.YtfhiggefmcklaaaDoor.Pure
