/-
  DERIVED. GIVEN WITH THE SEED: THE CARDS: each row of YtbpjcgahdgpmhaaDoorRows.lean that lists a variable, with what it lists TIED to the program's text (the seventh form; the later family's looks); each row that meets fmt, with fmt's text TOLD by the authors' own Lean function (tested against real Go, not proved from fmt's source: count such statements apart). THE CARD IS WHAT COUNTS. Prove the row's statement (the work); the ties are given (YtbpjcgahdgpmhaaDoorTie.lean); close each card by the builder's one call (the guide's Derived/Test/ToyasCard.lean, 'card_holds'). Laid BY PROGRAM, IN A SANDBOX (cutbox-door.mjs). By AI agents, Wed Nov 11 2026. No macro, syntax, notation, axiom, sorry.
-/
import Derived.Test.YtbpjcgahdgpmhaaDoorRows
import GoSem.ClaimSeven
namespace Go.Proofs.YtbpjcgahdgpmhaaDoor
namespace Rows

/-- THE TIED CARD OF 'fuglemanlaw08.WheelComes'. -/
def wheelComesCard : Claim7 := { stood := { row := wheelComesRow, standIns := [], harness := (true, "5e3deff616a2be4345e079092675022d78fc39af0af5b7321a0380cff6565af4"), looks := false }, kinds := [], alts := [], laidByText := true, laidKinds := [.data], laidTests := true, laidLooks := .later }
def WheelComesCardSaid : Prop := Claim7.holds Tryd.pinned (.plain (OpenSpec.ofChange wheelComesSpec)) wheelComesCard

/-- THE TIED CARD OF 'fuglemanlaw08.WheelRuns'. -/
def wheelRunsCard : Claim7 := { stood := { row := wheelRunsRow, standIns := [], harness := (true, "5e3deff616a2be4345e079092675022d78fc39af0af5b7321a0380cff6565af4"), looks := false }, kinds := [], alts := [], laidByText := true, laidKinds := [.data], laidTests := true, laidLooks := .later }
def WheelRunsCardSaid : Prop := Claim7.holds Tryd.pinned (.plain (OpenSpec.ofChange wheelRunsSpec)) wheelRunsCard

/-- THE TIED CARD OF 'fuglemanlaw08.WheelSkips'. -/
def wheelSkipsCard : Claim7 := { stood := { row := wheelSkipsRow, standIns := [], harness := (true, "5e3deff616a2be4345e079092675022d78fc39af0af5b7321a0380cff6565af4"), looks := false }, kinds := [], alts := [], laidByText := true, laidKinds := [.data], laidTests := true, laidLooks := .later }
def WheelSkipsCardSaid : Prop := Claim7.holds Tryd.pinned (.plain (OpenSpec.ofChange wheelSkipsSpec)) wheelSkipsCard

/-- THE SECOND FORM's CARD OF 'fuglemanlaw08.WheelComes'. -/
def wheelComesUptoCard : Claim7 := { stood := { row := wheelComesUptoRow, standIns := [], harness := (true, "5e3deff616a2be4345e079092675022d78fc39af0af5b7321a0380cff6565af4"), looks := false }, kinds := [], alts := [], laidByText := true, laidKinds := [.data], laidTests := true, laidLooks := .later }
def WheelComesUptoCardSaid : Prop := Claim7.holds Tryd.pinned (.plain (OpenSpec.upto wheelComesSpec)) wheelComesUptoCard

/-- THE SECOND FORM's CARD OF 'fuglemanlaw08.WheelRuns'. -/
def wheelRunsUptoCard : Claim7 := { stood := { row := wheelRunsUptoRow, standIns := [], harness := (true, "5e3deff616a2be4345e079092675022d78fc39af0af5b7321a0380cff6565af4"), looks := false }, kinds := [], alts := [], laidByText := true, laidKinds := [.data], laidTests := true, laidLooks := .later }
def WheelRunsUptoCardSaid : Prop := Claim7.holds Tryd.pinned (.plain (OpenSpec.upto wheelRunsSpec)) wheelRunsUptoCard

/-- THE SECOND FORM's CARD OF 'fuglemanlaw08.WheelSkips'. -/
def wheelSkipsUptoCard : Claim7 := { stood := { row := wheelSkipsUptoRow, standIns := [], harness := (true, "5e3deff616a2be4345e079092675022d78fc39af0af5b7321a0380cff6565af4"), looks := false }, kinds := [], alts := [], laidByText := true, laidKinds := [.data], laidTests := true, laidLooks := .later }
def WheelSkipsUptoCardSaid : Prop := Claim7.holds Tryd.pinned (.plain (OpenSpec.upto wheelSkipsSpec)) wheelSkipsUptoCard
end Rows
end Go.Proofs.YtbpjcgahdgpmhaaDoor
