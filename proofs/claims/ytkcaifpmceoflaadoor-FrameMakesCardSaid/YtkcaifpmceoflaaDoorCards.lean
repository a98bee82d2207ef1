/-
  DERIVED. GIVEN WITH THE SEED: THE CARDS: each row of YtkcaifpmceoflaaDoorRows.lean that lists a variable, with what it lists TIED to the program's text (the seventh form; the later family's looks); each row that meets fmt, with fmt's text TOLD by the authors' own Lean function (tested against real Go, not proved from fmt's source: count such statements apart). THE CARD IS WHAT COUNTS. Prove the row's statement (the work); the ties are given (YtkcaifpmceoflaaDoorTie.lean); close each card by the builder's one call (the guide's Derived/Test/ToyasCard.lean, 'card_holds'). Laid BY PROGRAM, IN A SANDBOX (cutbox-door.mjs). By AI agents, Wed Nov 11 2026. No macro, syntax, notation, axiom, sorry.
-/
import Derived.Test.YtkcaifpmceoflaaDoorRows
import GoSem.ClaimSeven
namespace Go.Proofs.YtkcaifpmceoflaaDoor
namespace Rows

/-- THE TIED CARD OF 'fuglemanlaw04.FrameMakes'. -/
def frameMakesCard : Claim7 := { stood := { row := frameMakesRow, standIns := [], harness := (true, "743330c5abc90b794d2c0bc0ef3a79b09c212bf387050dbc2874fa9473059bf5"), looks := false }, kinds := [], alts := [], laidByText := true, laidKinds := [.data, .data, .data], laidTests := true, laidLooks := .later }
def FrameMakesCardSaid : Prop := Claim7.holds Tryd.pinned (.plain (OpenSpec.ofChange frameMakesSpec)) frameMakesCard

/-- THE TIED CARD OF 'fuglemanlaw04.FrameReads'. -/
def frameReadsCard : Claim7 := { stood := { row := frameReadsRow, standIns := [], harness := (true, "743330c5abc90b794d2c0bc0ef3a79b09c212bf387050dbc2874fa9473059bf5"), looks := false }, kinds := [], alts := [], laidByText := true, laidKinds := [.data, .data, .data], laidTests := true, laidLooks := .later }
def FrameReadsCardSaid : Prop := Claim7.holds Tryd.pinned (.plain (OpenSpec.ofChange frameReadsSpec)) frameReadsCard

/-- THE TIED CARD OF 'fuglemanlaw04.FrameSealed'. -/
def frameSealedCard : Claim7 := { stood := { row := frameSealedRow, standIns := [], harness := (true, "743330c5abc90b794d2c0bc0ef3a79b09c212bf387050dbc2874fa9473059bf5"), looks := false }, kinds := [], alts := [], laidByText := true, laidKinds := [.data, .data, .data], laidTests := true, laidLooks := .later }
def FrameSealedCardSaid : Prop := Claim7.holds Tryd.pinned (.plain (OpenSpec.ofChange frameSealedSpec)) frameSealedCard

/-- THE TIED CARD OF 'fuglemanlaw04.FrameCuts'. -/
def frameCutsCard : Claim7 := { stood := { row := frameCutsRow, standIns := [], harness := (true, "743330c5abc90b794d2c0bc0ef3a79b09c212bf387050dbc2874fa9473059bf5"), looks := false }, kinds := [], alts := [], laidByText := true, laidKinds := [.data, .data, .data], laidTests := true, laidLooks := .later }
def FrameCutsCardSaid : Prop := Claim7.holds Tryd.pinned (.plain (OpenSpec.ofChange frameCutsSpec)) frameCutsCard

/-- THE TIED CARD OF 'fuglemanlaw04.FrameBursts'. -/
def frameBurstsCard : Claim7 := { stood := { row := frameBurstsRow, standIns := [], harness := (true, "743330c5abc90b794d2c0bc0ef3a79b09c212bf387050dbc2874fa9473059bf5"), looks := false }, kinds := [], alts := [], laidByText := true, laidKinds := [.data, .data, .data], laidTests := true, laidLooks := .later }
def FrameBurstsCardSaid : Prop := Claim7.holds Tryd.pinned (.plain (OpenSpec.ofChange frameBurstsSpec)) frameBurstsCard

/-- THE SECOND FORM's CARD OF 'fuglemanlaw04.FrameMakes'. -/
def frameMakesUptoCard : Claim7 := { stood := { row := frameMakesUptoRow, standIns := [], harness := (true, "743330c5abc90b794d2c0bc0ef3a79b09c212bf387050dbc2874fa9473059bf5"), looks := false }, kinds := [], alts := [], laidByText := true, laidKinds := [.data, .data, .data], laidTests := true, laidLooks := .later }
def FrameMakesUptoCardSaid : Prop := Claim7.holds Tryd.pinned (.plain (OpenSpec.upto frameMakesSpec)) frameMakesUptoCard

/-- THE SECOND FORM's CARD OF 'fuglemanlaw04.FrameReads'. -/
def frameReadsUptoCard : Claim7 := { stood := { row := frameReadsUptoRow, standIns := [], harness := (true, "743330c5abc90b794d2c0bc0ef3a79b09c212bf387050dbc2874fa9473059bf5"), looks := false }, kinds := [], alts := [], laidByText := true, laidKinds := [.data, .data, .data], laidTests := true, laidLooks := .later }
def FrameReadsUptoCardSaid : Prop := Claim7.holds Tryd.pinned (.plain (OpenSpec.upto frameReadsSpec)) frameReadsUptoCard

/-- THE SECOND FORM's CARD OF 'fuglemanlaw04.FrameSealed'. -/
def frameSealedUptoCard : Claim7 := { stood := { row := frameSealedUptoRow, standIns := [], harness := (true, "743330c5abc90b794d2c0bc0ef3a79b09c212bf387050dbc2874fa9473059bf5"), looks := false }, kinds := [], alts := [], laidByText := true, laidKinds := [.data, .data, .data], laidTests := true, laidLooks := .later }
def FrameSealedUptoCardSaid : Prop := Claim7.holds Tryd.pinned (.plain (OpenSpec.upto frameSealedSpec)) frameSealedUptoCard

/-- THE SECOND FORM's CARD OF 'fuglemanlaw04.FrameCuts'. -/
def frameCutsUptoCard : Claim7 := { stood := { row := frameCutsUptoRow, standIns := [], harness := (true, "743330c5abc90b794d2c0bc0ef3a79b09c212bf387050dbc2874fa9473059bf5"), looks := false }, kinds := [], alts := [], laidByText := true, laidKinds := [.data, .data, .data], laidTests := true, laidLooks := .later }
def FrameCutsUptoCardSaid : Prop := Claim7.holds Tryd.pinned (.plain (OpenSpec.upto frameCutsSpec)) frameCutsUptoCard

/-- THE SECOND FORM's CARD OF 'fuglemanlaw04.FrameBursts'. -/
def frameBurstsUptoCard : Claim7 := { stood := { row := frameBurstsUptoRow, standIns := [], harness := (true, "743330c5abc90b794d2c0bc0ef3a79b09c212bf387050dbc2874fa9473059bf5"), looks := false }, kinds := [], alts := [], laidByText := true, laidKinds := [.data, .data, .data], laidTests := true, laidLooks := .later }
def FrameBurstsUptoCardSaid : Prop := Claim7.holds Tryd.pinned (.plain (OpenSpec.upto frameBurstsSpec)) frameBurstsUptoCard
end Rows
end Go.Proofs.YtkcaifpmceoflaaDoor
