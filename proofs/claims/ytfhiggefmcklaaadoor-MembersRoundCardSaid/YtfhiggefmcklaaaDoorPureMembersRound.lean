import Derived.Test.YtfhiggefmcklaaaDoorPlain5
namespace Go.Proofs.YtfhiggefmcklaaaDoor.Pure
open Go.RowKit Go.Proofs.YtfhiggefmcklaaaDoor.Own Go.Proofs.YtfhiggefmcklaaaDoor.Plain Go.Proofs.YtfhiggefmcklaaaDoorW.PrintWords Go.Proofs.YtfhiggefmcklaaaDoorW.PrintLast
/-- For every set and place the law's function answers true. -/
theorem MembersRound : fuglemanlaw05_MembersRound.Pure := by
  intro a0 a1 h0 h1
  obtain ⟨s, rfl, hs⟩ := wf32 h0
  exact (round_law s a1 hs (wf8 h1).1 (wf8 h1).2).rounds
end Go.Proofs.YtfhiggefmcklaaaDoor.Pure
