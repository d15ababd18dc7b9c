/-
  DERIVED. GIVEN WITH THE SEED: THE CARDS: each row of YtfegklafpjdemaaGreatDoorRows.lean that lists a variable, with what it lists TIED to the program's text (the seventh form; the later family's looks); each row that meets fmt, with fmt's text TOLD by the authors' own Lean function (tested against real Go, not proved from fmt's source: count such statements apart). THE CARD IS WHAT COUNTS. Prove the row's statement (the work); the ties are given (YtfegklafpjdemaaGreatDoorTie.lean); close each card by the builder's one call (the guide's Derived/Test/ToyasCard.lean, 'card_holds'). Laid BY PROGRAM, IN A SANDBOX (cutbox-door.mjs). By AI agents, Wed Nov 11 2026. No macro, syntax, notation, axiom, sorry.
-/
import Derived.Test.YtfegklafpjdemaaGreatDoorRows
import GoSem.ClaimSeven
namespace Go.Proofs.YtfegklafpjdemaaGreatDoor
namespace Rows

/-- THE TIED CARD OF 'marquetrylaw26.AlphaFilters'. -/
def alphaFiltersCard : Claim7 := { stood := { row := alphaFiltersRow, standIns := [], harness := (true, "3fcee7dd1aa8f49a3f08411744921c67d7cd56f62740fd642d2bfca96b628eae"), looks := true }, kinds := [], alts := [], laidByText := true, laidKinds := [.data, .data, .data, .data, .sentinel, .sentinel, .listed, .data, .pinned], laidTests := true, laidLooks := .later }
def AlphaFiltersCardSaid : Prop := Claim7.holds Tryz.pinned (.plain (OpenSpec.ofChange alphaFiltersSpec)) alphaFiltersCard

/-- THE TIED CARD OF 'marquetrylaw26.AlphaBack'. -/
def alphaBackCard : Claim7 := { stood := { row := alphaBackRow, standIns := [], harness := (true, "3fcee7dd1aa8f49a3f08411744921c67d7cd56f62740fd642d2bfca96b628eae"), looks := true }, kinds := [], alts := [], laidByText := true, laidKinds := [.data, .data, .data, .data, .sentinel, .sentinel, .listed, .data, .pinned], laidTests := true, laidLooks := .later }
def AlphaBackCardSaid : Prop := Claim7.holds Tryz.pinned (.plain (OpenSpec.ofChange alphaBackSpec)) alphaBackCard

/-- THE TIED CARD OF 'marquetrylaw26.AlphaFlat'. -/
def alphaFlatCard : Claim7 := { stood := { row := alphaFlatRow, standIns := [], harness := (true, "3fcee7dd1aa8f49a3f08411744921c67d7cd56f62740fd642d2bfca96b628eae"), looks := true }, kinds := [], alts := [], laidByText := true, laidKinds := [.data, .data, .data, .data, .sentinel, .sentinel, .listed, .data, .pinned], laidTests := true, laidLooks := .later }
def AlphaFlatCardSaid : Prop := Claim7.holds Tryz.pinned (.plain (OpenSpec.ofChange alphaFlatSpec)) alphaFlatCard

/-- THE TIED CARD OF 'marquetrylaw26.AlphaHeads'. -/
def alphaHeadsCard : Claim7 := { stood := { row := alphaHeadsRow, standIns := [], harness := (true, "3fcee7dd1aa8f49a3f08411744921c67d7cd56f62740fd642d2bfca96b628eae"), looks := true }, kinds := [], alts := [], laidByText := true, laidKinds := [.data, .data, .data, .data, .sentinel, .sentinel, .listed, .data, .pinned], laidTests := true, laidLooks := .later }
def AlphaHeadsCardSaid : Prop := Claim7.holds Tryz.pinned (.plain (OpenSpec.ofChange alphaHeadsSpec)) alphaHeadsCard

/-- THE SECOND FORM's CARD OF 'marquetrylaw26.AlphaFilters'. -/
def alphaFiltersUptoCard : Claim7 := { stood := { row := alphaFiltersUptoRow, standIns := [], harness := (true, "3fcee7dd1aa8f49a3f08411744921c67d7cd56f62740fd642d2bfca96b628eae"), looks := true }, kinds := [], alts := [], laidByText := true, laidKinds := [.data, .data, .data, .data, .sentinel, .sentinel, .listed, .data, .pinned], laidTests := true, laidLooks := .later }
def AlphaFiltersUptoCardSaid : Prop := Claim7.holds Tryz.pinned (.plain (OpenSpec.upto alphaFiltersSpec)) alphaFiltersUptoCard

/-- THE SECOND FORM's CARD OF 'marquetrylaw26.AlphaBack'. -/
def alphaBackUptoCard : Claim7 := { stood := { row := alphaBackUptoRow, standIns := [], harness := (true, "3fcee7dd1aa8f49a3f08411744921c67d7cd56f62740fd642d2bfca96b628eae"), looks := true }, kinds := [], alts := [], laidByText := true, laidKinds := [.data, .data, .data, .data, .sentinel, .sentinel, .listed, .data, .pinned], laidTests := true, laidLooks := .later }
def AlphaBackUptoCardSaid : Prop := Claim7.holds Tryz.pinned (.plain (OpenSpec.upto alphaBackSpec)) alphaBackUptoCard

/-- THE SECOND FORM's CARD OF 'marquetrylaw26.AlphaFlat'. -/
def alphaFlatUptoCard : Claim7 := { stood := { row := alphaFlatUptoRow, standIns := [], harness := (true, "3fcee7dd1aa8f49a3f08411744921c67d7cd56f62740fd642d2bfca96b628eae"), looks := true }, kinds := [], alts := [], laidByText := true, laidKinds := [.data, .data, .data, .data, .sentinel, .sentinel, .listed, .data, .pinned], laidTests := true, laidLooks := .later }
def AlphaFlatUptoCardSaid : Prop := Claim7.holds Tryz.pinned (.plain (OpenSpec.upto alphaFlatSpec)) alphaFlatUptoCard

/-- THE SECOND FORM's CARD OF 'marquetrylaw26.AlphaHeads'. -/
def alphaHeadsUptoCard : Claim7 := { stood := { row := alphaHeadsUptoRow, standIns := [], harness := (true, "3fcee7dd1aa8f49a3f08411744921c67d7cd56f62740fd642d2bfca96b628eae"), looks := true }, kinds := [], alts := [], laidByText := true, laidKinds := [.data, .data, .data, .data, .sentinel, .sentinel, .listed, .data, .pinned], laidTests := true, laidLooks := .later }
def AlphaHeadsUptoCardSaid : Prop := Claim7.holds Tryz.pinned (.plain (OpenSpec.upto alphaHeadsSpec)) alphaHeadsUptoCard
end Rows
end Go.Proofs.YtfegklafpjdemaaGreatDoor
