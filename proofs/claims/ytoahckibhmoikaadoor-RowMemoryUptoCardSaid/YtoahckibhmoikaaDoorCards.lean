/-
  DERIVED. GIVEN WITH THE SEED: THE CARDS: each row of YtoahckibhmoikaaDoorRows.lean that lists a variable, with what it lists TIED to the program's text (the seventh form; the later family's looks); each row that meets fmt, with fmt's text TOLD by the authors' own Lean function (tested against real Go, not proved from fmt's source: count such statements apart). THE CARD IS WHAT COUNTS. Prove the row's statement (the work); the ties are given (YtoahckibhmoikaaDoorTie.lean); close each card by the builder's one call (the guide's Derived/Test/ToyasCard.lean, 'card_holds'). Laid BY PROGRAM, IN A SANDBOX (cutbox-door.mjs). By AI agents, Wed Nov 11 2026. No macro, syntax, notation, axiom, sorry.
-/
import Derived.Test.YtoahckibhmoikaaDoorRows
import GoSem.ClaimSeven
namespace Go.Proofs.YtoahckibhmoikaaDoor
namespace Rows

/-- THE TIED CARD OF 'osierlaw02.RowValids'. -/
def rowValidsCard : Claim7 := { stood := { row := rowValidsRow, standIns := [], harness := (true, "db383fc72a5c6a55c91f85ba4be147987bdf1617f8dab45d2451515ba6bebb92"), looks := false }, kinds := [], alts := [], laidByText := true, laidKinds := [.data, .data, .data], laidTests := true, laidLooks := .later }
def RowValidsCardSaid : Prop := Claim7.holds Tryd.pinned (.plain (OpenSpec.ofChange rowValidsSpec)) rowValidsCard

/-- THE TIED CARD OF 'osierlaw02.RowShows'. -/
def rowShowsCard : Claim7 := { stood := { row := rowShowsRow, standIns := [], harness := (true, "db383fc72a5c6a55c91f85ba4be147987bdf1617f8dab45d2451515ba6bebb92"), looks := false }, kinds := [], alts := [], laidByText := true, laidKinds := [.data, .data, .data], laidTests := true, laidLooks := .later }
def RowShowsCardSaid : Prop := Claim7.holds Tryd.pinned (.plain (OpenSpec.ofChange rowShowsSpec)) rowShowsCard

/-- THE TIED CARD OF 'osierlaw02.RowProjects'. -/
def rowProjectsCard : Claim7 := { stood := { row := rowProjectsRow, standIns := [], harness := (true, "db383fc72a5c6a55c91f85ba4be147987bdf1617f8dab45d2451515ba6bebb92"), looks := false }, kinds := [], alts := [], laidByText := true, laidKinds := [.data, .data, .data], laidTests := true, laidLooks := .later }
def RowProjectsCardSaid : Prop := Claim7.holds Tryd.pinned (.plain (OpenSpec.ofChange rowProjectsSpec)) rowProjectsCard

/-- THE TIED CARD OF 'osierlaw02.RowProjectsOn'. -/
def rowProjectsOnCard : Claim7 := { stood := { row := rowProjectsOnRow, standIns := [], harness := (true, "db383fc72a5c6a55c91f85ba4be147987bdf1617f8dab45d2451515ba6bebb92"), looks := false }, kinds := [], alts := [], laidByText := true, laidKinds := [.data, .data, .data], laidTests := true, laidLooks := .later }
def RowProjectsOnCardSaid : Prop := Claim7.holds Tryd.pinned (.plain (OpenSpec.ofChange rowProjectsOnSpec)) rowProjectsOnCard

/-- THE TIED CARD OF 'osierlaw02.RowPacks'. -/
def rowPacksCard : Claim7 := { stood := { row := rowPacksRow, standIns := [], harness := (true, "db383fc72a5c6a55c91f85ba4be147987bdf1617f8dab45d2451515ba6bebb92"), looks := false }, kinds := [], alts := [], laidByText := true, laidKinds := [.data, .data, .data], laidTests := true, laidLooks := .later }
def RowPacksCardSaid : Prop := Claim7.holds Tryd.pinned (.plain (OpenSpec.ofChange rowPacksSpec)) rowPacksCard

/-- THE TIED CARD OF 'osierlaw02.RowUnpacks'. -/
def rowUnpacksCard : Claim7 := { stood := { row := rowUnpacksRow, standIns := [], harness := (true, "db383fc72a5c6a55c91f85ba4be147987bdf1617f8dab45d2451515ba6bebb92"), looks := false }, kinds := [], alts := [], laidByText := true, laidKinds := [.data, .data, .data], laidTests := true, laidLooks := .later }
def RowUnpacksCardSaid : Prop := Claim7.holds Tryd.pinned (.plain (OpenSpec.ofChange rowUnpacksSpec)) rowUnpacksCard

/-- THE TIED CARD OF 'osierlaw02.RowCompares'. -/
def rowComparesCard : Claim7 := { stood := { row := rowComparesRow, standIns := [], harness := (true, "db383fc72a5c6a55c91f85ba4be147987bdf1617f8dab45d2451515ba6bebb92"), looks := false }, kinds := [], alts := [], laidByText := true, laidKinds := [.data, .data, .data], laidTests := true, laidLooks := .later }
def RowComparesCardSaid : Prop := Claim7.holds Tryd.pinned (.plain (OpenSpec.ofChange rowComparesSpec)) rowComparesCard

/-- THE TIED CARD OF 'osierlaw02.RowBack'. -/
def rowBackCard : Claim7 := { stood := { row := rowBackRow, standIns := [], harness := (true, "db383fc72a5c6a55c91f85ba4be147987bdf1617f8dab45d2451515ba6bebb92"), looks := false }, kinds := [], alts := [], laidByText := true, laidKinds := [.data, .data, .data], laidTests := true, laidLooks := .later }
def RowBackCardSaid : Prop := Claim7.holds Tryd.pinned (.plain (OpenSpec.ofChange rowBackSpec)) rowBackCard

/-- THE TIED CARD OF 'osierlaw02.RowOneForm'. -/
def rowOneFormCard : Claim7 := { stood := { row := rowOneFormRow, standIns := [], harness := (true, "db383fc72a5c6a55c91f85ba4be147987bdf1617f8dab45d2451515ba6bebb92"), looks := false }, kinds := [], alts := [], laidByText := true, laidKinds := [.data, .data, .data], laidTests := true, laidLooks := .later }
def RowOneFormCardSaid : Prop := Claim7.holds Tryd.pinned (.plain (OpenSpec.ofChange rowOneFormSpec)) rowOneFormCard

/-- THE TIED CARD OF 'osierlaw02.RowKeepsOrder'. -/
def rowKeepsOrderCard : Claim7 := { stood := { row := rowKeepsOrderRow, standIns := [], harness := (true, "db383fc72a5c6a55c91f85ba4be147987bdf1617f8dab45d2451515ba6bebb92"), looks := false }, kinds := [], alts := [], laidByText := true, laidKinds := [.data, .data, .data], laidTests := true, laidLooks := .later }
def RowKeepsOrderCardSaid : Prop := Claim7.holds Tryd.pinned (.plain (OpenSpec.ofChange rowKeepsOrderSpec)) rowKeepsOrderCard

/-- THE TIED CARD OF 'osierlaw02.RowArranges'. -/
def rowArrangesCard : Claim7 := { stood := { row := rowArrangesRow, standIns := [], harness := (true, "db383fc72a5c6a55c91f85ba4be147987bdf1617f8dab45d2451515ba6bebb92"), looks := false }, kinds := [], alts := [], laidByText := true, laidKinds := [.data, .data, .data], laidTests := true, laidLooks := .later }
def RowArrangesCardSaid : Prop := Claim7.holds Tryd.pinned (.plain (OpenSpec.ofChange rowArrangesSpec)) rowArrangesCard

/-- THE TIED CARD OF 'osierlaw02.RowSets'. -/
def rowSetsCard : Claim7 := { stood := { row := rowSetsRow, standIns := [], harness := (true, "db383fc72a5c6a55c91f85ba4be147987bdf1617f8dab45d2451515ba6bebb92"), looks := false }, kinds := [], alts := [], laidByText := true, laidKinds := [.data, .data, .data], laidTests := true, laidLooks := .later }
def RowSetsCardSaid : Prop := Claim7.holds Tryd.pinned (.plain (OpenSpec.ofChange rowSetsSpec)) rowSetsCard

/-- THE TIED CARD OF 'osierlaw02.RowMemory'. -/
def rowMemoryCard : Claim7 := { stood := { row := rowMemoryRow, standIns := [], harness := (true, "db383fc72a5c6a55c91f85ba4be147987bdf1617f8dab45d2451515ba6bebb92"), looks := false }, kinds := [], alts := [], laidByText := true, laidKinds := [.data, .data, .data], laidTests := true, laidLooks := .later }
def RowMemoryCardSaid : Prop := Claim7.holds Tryd.pinned (.plain (OpenSpec.ofChange rowMemorySpec)) rowMemoryCard

/-- THE SECOND FORM's CARD OF 'osierlaw02.RowValids'. -/
def rowValidsUptoCard : Claim7 := { stood := { row := rowValidsUptoRow, standIns := [], harness := (true, "db383fc72a5c6a55c91f85ba4be147987bdf1617f8dab45d2451515ba6bebb92"), looks := false }, kinds := [], alts := [], laidByText := true, laidKinds := [.data, .data, .data], laidTests := true, laidLooks := .later }
def RowValidsUptoCardSaid : Prop := Claim7.holds Tryd.pinned (.plain (OpenSpec.upto rowValidsSpec)) rowValidsUptoCard

/-- THE SECOND FORM's CARD OF 'osierlaw02.RowShows'. -/
def rowShowsUptoCard : Claim7 := { stood := { row := rowShowsUptoRow, standIns := [], harness := (true, "db383fc72a5c6a55c91f85ba4be147987bdf1617f8dab45d2451515ba6bebb92"), looks := false }, kinds := [], alts := [], laidByText := true, laidKinds := [.data, .data, .data], laidTests := true, laidLooks := .later }
def RowShowsUptoCardSaid : Prop := Claim7.holds Tryd.pinned (.plain (OpenSpec.upto rowShowsSpec)) rowShowsUptoCard

/-- THE SECOND FORM's CARD OF 'osierlaw02.RowProjects'. -/
def rowProjectsUptoCard : Claim7 := { stood := { row := rowProjectsUptoRow, standIns := [], harness := (true, "db383fc72a5c6a55c91f85ba4be147987bdf1617f8dab45d2451515ba6bebb92"), looks := false }, kinds := [], alts := [], laidByText := true, laidKinds := [.data, .data, .data], laidTests := true, laidLooks := .later }
def RowProjectsUptoCardSaid : Prop := Claim7.holds Tryd.pinned (.plain (OpenSpec.upto rowProjectsSpec)) rowProjectsUptoCard

/-- THE SECOND FORM's CARD OF 'osierlaw02.RowProjectsOn'. -/
def rowProjectsOnUptoCard : Claim7 := { stood := { row := rowProjectsOnUptoRow, standIns := [], harness := (true, "db383fc72a5c6a55c91f85ba4be147987bdf1617f8dab45d2451515ba6bebb92"), looks := false }, kinds := [], alts := [], laidByText := true, laidKinds := [.data, .data, .data], laidTests := true, laidLooks := .later }
def RowProjectsOnUptoCardSaid : Prop := Claim7.holds Tryd.pinned (.plain (OpenSpec.upto rowProjectsOnSpec)) rowProjectsOnUptoCard

/-- THE SECOND FORM's CARD OF 'osierlaw02.RowPacks'. -/
def rowPacksUptoCard : Claim7 := { stood := { row := rowPacksUptoRow, standIns := [], harness := (true, "db383fc72a5c6a55c91f85ba4be147987bdf1617f8dab45d2451515ba6bebb92"), looks := false }, kinds := [], alts := [], laidByText := true, laidKinds := [.data, .data, .data], laidTests := true, laidLooks := .later }
def RowPacksUptoCardSaid : Prop := Claim7.holds Tryd.pinned (.plain (OpenSpec.upto rowPacksSpec)) rowPacksUptoCard

/-- THE SECOND FORM's CARD OF 'osierlaw02.RowUnpacks'. -/
def rowUnpacksUptoCard : Claim7 := { stood := { row := rowUnpacksUptoRow, standIns := [], harness := (true, "db383fc72a5c6a55c91f85ba4be147987bdf1617f8dab45d2451515ba6bebb92"), looks := false }, kinds := [], alts := [], laidByText := true, laidKinds := [.data, .data, .data], laidTests := true, laidLooks := .later }
def RowUnpacksUptoCardSaid : Prop := Claim7.holds Tryd.pinned (.plain (OpenSpec.upto rowUnpacksSpec)) rowUnpacksUptoCard

/-- THE SECOND FORM's CARD OF 'osierlaw02.RowCompares'. -/
def rowComparesUptoCard : Claim7 := { stood := { row := rowComparesUptoRow, standIns := [], harness := (true, "db383fc72a5c6a55c91f85ba4be147987bdf1617f8dab45d2451515ba6bebb92"), looks := false }, kinds := [], alts := [], laidByText := true, laidKinds := [.data, .data, .data], laidTests := true, laidLooks := .later }
def RowComparesUptoCardSaid : Prop := Claim7.holds Tryd.pinned (.plain (OpenSpec.upto rowComparesSpec)) rowComparesUptoCard

/-- THE SECOND FORM's CARD OF 'osierlaw02.RowBack'. -/
def rowBackUptoCard : Claim7 := { stood := { row := rowBackUptoRow, standIns := [], harness := (true, "db383fc72a5c6a55c91f85ba4be147987bdf1617f8dab45d2451515ba6bebb92"), looks := false }, kinds := [], alts := [], laidByText := true, laidKinds := [.data, .data, .data], laidTests := true, laidLooks := .later }
def RowBackUptoCardSaid : Prop := Claim7.holds Tryd.pinned (.plain (OpenSpec.upto rowBackSpec)) rowBackUptoCard

/-- THE SECOND FORM's CARD OF 'osierlaw02.RowOneForm'. -/
def rowOneFormUptoCard : Claim7 := { stood := { row := rowOneFormUptoRow, standIns := [], harness := (true, "db383fc72a5c6a55c91f85ba4be147987bdf1617f8dab45d2451515ba6bebb92"), looks := false }, kinds := [], alts := [], laidByText := true, laidKinds := [.data, .data, .data], laidTests := true, laidLooks := .later }
def RowOneFormUptoCardSaid : Prop := Claim7.holds Tryd.pinned (.plain (OpenSpec.upto rowOneFormSpec)) rowOneFormUptoCard

/-- THE SECOND FORM's CARD OF 'osierlaw02.RowKeepsOrder'. -/
def rowKeepsOrderUptoCard : Claim7 := { stood := { row := rowKeepsOrderUptoRow, standIns := [], harness := (true, "db383fc72a5c6a55c91f85ba4be147987bdf1617f8dab45d2451515ba6bebb92"), looks := false }, kinds := [], alts := [], laidByText := true, laidKinds := [.data, .data, .data], laidTests := true, laidLooks := .later }
def RowKeepsOrderUptoCardSaid : Prop := Claim7.holds Tryd.pinned (.plain (OpenSpec.upto rowKeepsOrderSpec)) rowKeepsOrderUptoCard

/-- THE SECOND FORM's CARD OF 'osierlaw02.RowArranges'. -/
def rowArrangesUptoCard : Claim7 := { stood := { row := rowArrangesUptoRow, standIns := [], harness := (true, "db383fc72a5c6a55c91f85ba4be147987bdf1617f8dab45d2451515ba6bebb92"), looks := false }, kinds := [], alts := [], laidByText := true, laidKinds := [.data, .data, .data], laidTests := true, laidLooks := .later }
def RowArrangesUptoCardSaid : Prop := Claim7.holds Tryd.pinned (.plain (OpenSpec.upto rowArrangesSpec)) rowArrangesUptoCard

/-- THE SECOND FORM's CARD OF 'osierlaw02.RowSets'. -/
def rowSetsUptoCard : Claim7 := { stood := { row := rowSetsUptoRow, standIns := [], harness := (true, "db383fc72a5c6a55c91f85ba4be147987bdf1617f8dab45d2451515ba6bebb92"), looks := false }, kinds := [], alts := [], laidByText := true, laidKinds := [.data, .data, .data], laidTests := true, laidLooks := .later }
def RowSetsUptoCardSaid : Prop := Claim7.holds Tryd.pinned (.plain (OpenSpec.upto rowSetsSpec)) rowSetsUptoCard

/-- THE SECOND FORM's CARD OF 'osierlaw02.RowMemory'. -/
def rowMemoryUptoCard : Claim7 := { stood := { row := rowMemoryUptoRow, standIns := [], harness := (true, "db383fc72a5c6a55c91f85ba4be147987bdf1617f8dab45d2451515ba6bebb92"), looks := false }, kinds := [], alts := [], laidByText := true, laidKinds := [.data, .data, .data], laidTests := true, laidLooks := .later }
def RowMemoryUptoCardSaid : Prop := Claim7.holds Tryd.pinned (.plain (OpenSpec.upto rowMemorySpec)) rowMemoryUptoCard
end Rows
end Go.Proofs.YtoahckibhmoikaaDoor
