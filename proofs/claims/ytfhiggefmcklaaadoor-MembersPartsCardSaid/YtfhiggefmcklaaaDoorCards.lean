/-
  DERIVED. GIVEN WITH THE SEED: THE CARDS: each row of YtfhiggefmcklaaaDoorRows.lean that lists a variable, with what it lists TIED to the program's text (the seventh form; the later family's looks); each row that meets fmt, with fmt's text TOLD by the authors' own Lean function (tested against real Go, not proved from fmt's source: count such statements apart). THE CARD IS WHAT COUNTS. Prove the row's statement (the work); the ties are given (YtfhiggefmcklaaaDoorTie.lean); close each card by the builder's one call (the guide's Derived/Test/ToyasCard.lean, 'card_holds'). Laid BY PROGRAM, IN A SANDBOX (cutbox-door.mjs). By AI agents, Wed Nov 11 2026. No macro, syntax, notation, axiom, sorry.
-/
import Derived.Test.YtfhiggefmcklaaaDoorRows
import GoSem.ClaimSeven
namespace Go.Proofs.YtfhiggefmcklaaaDoor
namespace Rows

/-- THE TIED CARD OF 'fuglemanlaw05.MembersNext'. -/
def membersNextCard : Claim7 := { stood := { row := membersNextRow, standIns := [], harness := (true, "d6b0cbdbacc68b0b0fc5f1d86d1ec6269c72891f6c2ac7292e026b336679615f"), looks := false }, kinds := [], alts := [], laidByText := true, laidKinds := [.data, .data, .data], laidTests := true, laidLooks := .later }
def MembersNextCardSaid : Prop := Claim7.holds Tryd.pinned (.plain (OpenSpec.ofChange membersNextSpec)) membersNextCard

/-- THE TIED CARD OF 'fuglemanlaw05.MembersSets'. -/
def membersSetsCard : Claim7 := { stood := { row := membersSetsRow, standIns := [], harness := (true, "d6b0cbdbacc68b0b0fc5f1d86d1ec6269c72891f6c2ac7292e026b336679615f"), looks := false }, kinds := [], alts := [], laidByText := true, laidKinds := [.data, .data, .data], laidTests := true, laidLooks := .later }
def MembersSetsCardSaid : Prop := Claim7.holds Tryd.pinned (.plain (OpenSpec.ofChange membersSetsSpec)) membersSetsCard

/-- THE TIED CARD OF 'fuglemanlaw05.MembersRound'. -/
def membersRoundCard : Claim7 := { stood := { row := membersRoundRow, standIns := [], harness := (true, "d6b0cbdbacc68b0b0fc5f1d86d1ec6269c72891f6c2ac7292e026b336679615f"), looks := false }, kinds := [], alts := [], laidByText := true, laidKinds := [.data, .data, .data], laidTests := true, laidLooks := .later }
def MembersRoundCardSaid : Prop := Claim7.holds Tryd.pinned (.plain (OpenSpec.ofChange membersRoundSpec)) membersRoundCard

/-- THE TIED CARD OF 'fuglemanlaw05.MembersBetween'. -/
def membersBetweenCard : Claim7 := { stood := { row := membersBetweenRow, standIns := [], harness := (true, "d6b0cbdbacc68b0b0fc5f1d86d1ec6269c72891f6c2ac7292e026b336679615f"), looks := false }, kinds := [], alts := [], laidByText := true, laidKinds := [.data, .data, .data], laidTests := true, laidLooks := .later }
def MembersBetweenCardSaid : Prop := Claim7.holds Tryd.pinned (.plain (OpenSpec.ofChange membersBetweenSpec)) membersBetweenCard

/-- THE TIED CARD OF 'fuglemanlaw05.MembersParts'. -/
def membersPartsCard : Claim7 := { stood := { row := membersPartsRow, standIns := [], harness := (true, "d6b0cbdbacc68b0b0fc5f1d86d1ec6269c72891f6c2ac7292e026b336679615f"), looks := false }, kinds := [], alts := [], laidByText := true, laidKinds := [.data, .data, .data], laidTests := true, laidLooks := .later }
def MembersPartsCardSaid : Prop := Claim7.holds Tryd.pinned (.plain (OpenSpec.ofChange membersPartsSpec)) membersPartsCard

/-- THE SECOND FORM's CARD OF 'fuglemanlaw05.MembersNext'. -/
def membersNextUptoCard : Claim7 := { stood := { row := membersNextUptoRow, standIns := [], harness := (true, "d6b0cbdbacc68b0b0fc5f1d86d1ec6269c72891f6c2ac7292e026b336679615f"), looks := false }, kinds := [], alts := [], laidByText := true, laidKinds := [.data, .data, .data], laidTests := true, laidLooks := .later }
def MembersNextUptoCardSaid : Prop := Claim7.holds Tryd.pinned (.plain (OpenSpec.upto membersNextSpec)) membersNextUptoCard

/-- THE SECOND FORM's CARD OF 'fuglemanlaw05.MembersSets'. -/
def membersSetsUptoCard : Claim7 := { stood := { row := membersSetsUptoRow, standIns := [], harness := (true, "d6b0cbdbacc68b0b0fc5f1d86d1ec6269c72891f6c2ac7292e026b336679615f"), looks := false }, kinds := [], alts := [], laidByText := true, laidKinds := [.data, .data, .data], laidTests := true, laidLooks := .later }
def MembersSetsUptoCardSaid : Prop := Claim7.holds Tryd.pinned (.plain (OpenSpec.upto membersSetsSpec)) membersSetsUptoCard

/-- THE SECOND FORM's CARD OF 'fuglemanlaw05.MembersRound'. -/
def membersRoundUptoCard : Claim7 := { stood := { row := membersRoundUptoRow, standIns := [], harness := (true, "d6b0cbdbacc68b0b0fc5f1d86d1ec6269c72891f6c2ac7292e026b336679615f"), looks := false }, kinds := [], alts := [], laidByText := true, laidKinds := [.data, .data, .data], laidTests := true, laidLooks := .later }
def MembersRoundUptoCardSaid : Prop := Claim7.holds Tryd.pinned (.plain (OpenSpec.upto membersRoundSpec)) membersRoundUptoCard

/-- THE SECOND FORM's CARD OF 'fuglemanlaw05.MembersBetween'. -/
def membersBetweenUptoCard : Claim7 := { stood := { row := membersBetweenUptoRow, standIns := [], harness := (true, "d6b0cbdbacc68b0b0fc5f1d86d1ec6269c72891f6c2ac7292e026b336679615f"), looks := false }, kinds := [], alts := [], laidByText := true, laidKinds := [.data, .data, .data], laidTests := true, laidLooks := .later }
def MembersBetweenUptoCardSaid : Prop := Claim7.holds Tryd.pinned (.plain (OpenSpec.upto membersBetweenSpec)) membersBetweenUptoCard

/-- THE SECOND FORM's CARD OF 'fuglemanlaw05.MembersParts'. -/
def membersPartsUptoCard : Claim7 := { stood := { row := membersPartsUptoRow, standIns := [], harness := (true, "d6b0cbdbacc68b0b0fc5f1d86d1ec6269c72891f6c2ac7292e026b336679615f"), looks := false }, kinds := [], alts := [], laidByText := true, laidKinds := [.data, .data, .data], laidTests := true, laidLooks := .later }
def MembersPartsUptoCardSaid : Prop := Claim7.holds Tryd.pinned (.plain (OpenSpec.upto membersPartsSpec)) membersPartsUptoCard
end Rows
end Go.Proofs.YtfhiggefmcklaaaDoor
