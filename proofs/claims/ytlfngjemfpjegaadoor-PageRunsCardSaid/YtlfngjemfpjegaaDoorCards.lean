/-
  DERIVED. GIVEN WITH THE SEED: THE CARDS: each row of YtlfngjemfpjegaaDoorRows.lean that lists a variable, with what it lists TIED to the program's text (the seventh form; the later family's looks); each row that meets fmt, with fmt's text TOLD by the authors' own Lean function (tested against real Go, not proved from fmt's source: count such statements apart). THE CARD IS WHAT COUNTS. Prove the row's statement (the work); the ties are given (YtlfngjemfpjegaaDoorTie.lean); close each card by the builder's one call (the guide's Derived/Test/ToyasCard.lean, 'card_holds'). Laid BY PROGRAM, IN A SANDBOX (cutbox-door.mjs). By AI agents, Wed Nov 11 2026. No macro, syntax, notation, axiom, sorry.
-/
import Derived.Test.YtlfngjemfpjegaaDoorRows
import GoSem.ClaimSeven
namespace Go.Proofs.YtlfngjemfpjegaaDoor
namespace Rows

/-- THE TIED CARD OF 'porticolaw16.PageRuns'. -/
def pageRunsCard : Claim7 := { stood := { row := pageRunsRow, standIns := [], harness := (true, "57f3d9c2b906dc8ac24a0512eb6660bec9ec06f9b121f2983e06d6c811691cec"), looks := true }, kinds := [], alts := [], laidByText := true, laidKinds := [.data, .data, .data, .data, .pinned], laidTests := true, laidLooks := .later }
def PageRunsCardSaid : Prop := Claim7.holds Tryd.pinned (.plain (OpenSpec.ofChange pageRunsSpec)) pageRunsCard

/-- THE TIED CARD OF 'porticolaw16.PageAgain'. -/
def pageAgainCard : Claim7 := { stood := { row := pageAgainRow, standIns := [], harness := (true, "57f3d9c2b906dc8ac24a0512eb6660bec9ec06f9b121f2983e06d6c811691cec"), looks := true }, kinds := [], alts := [], laidByText := true, laidKinds := [.data, .data, .data, .data, .pinned], laidTests := true, laidLooks := .later }
def PageAgainCardSaid : Prop := Claim7.holds Tryd.pinned (.plain (OpenSpec.ofChange pageAgainSpec)) pageAgainCard

/-- THE TIED CARD OF 'porticolaw16.PageTells'. -/
def pageTellsCard : Claim7 := { stood := { row := pageTellsRow, standIns := [], harness := (true, "57f3d9c2b906dc8ac24a0512eb6660bec9ec06f9b121f2983e06d6c811691cec"), looks := true }, kinds := [], alts := [], laidByText := true, laidKinds := [.data, .data, .data, .data, .pinned], laidTests := true, laidLooks := .later }
def PageTellsCardSaid : Prop := Claim7.holds Tryd.pinned (.plain (OpenSpec.ofChange pageTellsSpec)) pageTellsCard

/-- THE TIED CARD OF 'porticolaw16.PageFresh'. -/
def pageFreshCard : Claim7 := { stood := { row := pageFreshRow, standIns := [], harness := (true, "57f3d9c2b906dc8ac24a0512eb6660bec9ec06f9b121f2983e06d6c811691cec"), looks := true }, kinds := [], alts := [], laidByText := true, laidKinds := [.data, .data, .data, .data, .pinned], laidTests := true, laidLooks := .later }
def PageFreshCardSaid : Prop := Claim7.holds Tryd.pinned (.plain (OpenSpec.ofChange pageFreshSpec)) pageFreshCard

/-- THE TIED CARD OF 'porticolaw16.PageSlots'. -/
def pageSlotsCard : Claim7 := { stood := { row := pageSlotsRow, standIns := [], harness := (true, "57f3d9c2b906dc8ac24a0512eb6660bec9ec06f9b121f2983e06d6c811691cec"), looks := true }, kinds := [], alts := [], laidByText := true, laidKinds := [.data, .data, .data, .data, .pinned], laidTests := true, laidLooks := .later }
def PageSlotsCardSaid : Prop := Claim7.holds Tryd.pinned (.plain (OpenSpec.ofChange pageSlotsSpec)) pageSlotsCard

/-- THE TIED CARD OF 'porticolaw17.CompRenders'. -/
def compRendersCard : Claim7 := { stood := { row := compRendersRow, standIns := [], harness := (true, "57f3d9c2b906dc8ac24a0512eb6660bec9ec06f9b121f2983e06d6c811691cec"), looks := true }, kinds := [], alts := [], laidByText := true, laidKinds := [.data, .data, .data, .data, .pinned], laidTests := true, laidLooks := .later }
def CompRendersCardSaid : Prop := Claim7.holds Tryd.pinned (.plain (OpenSpec.ofChange compRendersSpec)) compRendersCard

/-- THE SECOND FORM's CARD OF 'porticolaw16.PageRuns'. -/
def pageRunsUptoCard : Claim7 := { stood := { row := pageRunsUptoRow, standIns := [], harness := (true, "57f3d9c2b906dc8ac24a0512eb6660bec9ec06f9b121f2983e06d6c811691cec"), looks := true }, kinds := [], alts := [], laidByText := true, laidKinds := [.data, .data, .data, .data, .pinned], laidTests := true, laidLooks := .later }
def PageRunsUptoCardSaid : Prop := Claim7.holds Tryd.pinned (.plain (OpenSpec.upto pageRunsSpec)) pageRunsUptoCard

/-- THE SECOND FORM's CARD OF 'porticolaw16.PageAgain'. -/
def pageAgainUptoCard : Claim7 := { stood := { row := pageAgainUptoRow, standIns := [], harness := (true, "57f3d9c2b906dc8ac24a0512eb6660bec9ec06f9b121f2983e06d6c811691cec"), looks := true }, kinds := [], alts := [], laidByText := true, laidKinds := [.data, .data, .data, .data, .pinned], laidTests := true, laidLooks := .later }
def PageAgainUptoCardSaid : Prop := Claim7.holds Tryd.pinned (.plain (OpenSpec.upto pageAgainSpec)) pageAgainUptoCard

/-- THE SECOND FORM's CARD OF 'porticolaw16.PageTells'. -/
def pageTellsUptoCard : Claim7 := { stood := { row := pageTellsUptoRow, standIns := [], harness := (true, "57f3d9c2b906dc8ac24a0512eb6660bec9ec06f9b121f2983e06d6c811691cec"), looks := true }, kinds := [], alts := [], laidByText := true, laidKinds := [.data, .data, .data, .data, .pinned], laidTests := true, laidLooks := .later }
def PageTellsUptoCardSaid : Prop := Claim7.holds Tryd.pinned (.plain (OpenSpec.upto pageTellsSpec)) pageTellsUptoCard

/-- THE SECOND FORM's CARD OF 'porticolaw16.PageFresh'. -/
def pageFreshUptoCard : Claim7 := { stood := { row := pageFreshUptoRow, standIns := [], harness := (true, "57f3d9c2b906dc8ac24a0512eb6660bec9ec06f9b121f2983e06d6c811691cec"), looks := true }, kinds := [], alts := [], laidByText := true, laidKinds := [.data, .data, .data, .data, .pinned], laidTests := true, laidLooks := .later }
def PageFreshUptoCardSaid : Prop := Claim7.holds Tryd.pinned (.plain (OpenSpec.upto pageFreshSpec)) pageFreshUptoCard

/-- THE SECOND FORM's CARD OF 'porticolaw16.PageSlots'. -/
def pageSlotsUptoCard : Claim7 := { stood := { row := pageSlotsUptoRow, standIns := [], harness := (true, "57f3d9c2b906dc8ac24a0512eb6660bec9ec06f9b121f2983e06d6c811691cec"), looks := true }, kinds := [], alts := [], laidByText := true, laidKinds := [.data, .data, .data, .data, .pinned], laidTests := true, laidLooks := .later }
def PageSlotsUptoCardSaid : Prop := Claim7.holds Tryd.pinned (.plain (OpenSpec.upto pageSlotsSpec)) pageSlotsUptoCard

/-- THE SECOND FORM's CARD OF 'porticolaw17.CompRenders'. -/
def compRendersUptoCard : Claim7 := { stood := { row := compRendersUptoRow, standIns := [], harness := (true, "57f3d9c2b906dc8ac24a0512eb6660bec9ec06f9b121f2983e06d6c811691cec"), looks := true }, kinds := [], alts := [], laidByText := true, laidKinds := [.data, .data, .data, .data, .pinned], laidTests := true, laidLooks := .later }
def CompRendersUptoCardSaid : Prop := Claim7.holds Tryd.pinned (.plain (OpenSpec.upto compRendersSpec)) compRendersUptoCard
end Rows
end Go.Proofs.YtlfngjemfpjegaaDoor
