/-
  DERIVED. GIVEN WITH THE SEED: THE CARDS: each row of YthllmdjcogjkoaaDoorRows.lean that lists a variable, with what it lists TIED to the program's text (the seventh form; the later family's looks); each row that meets fmt, with fmt's text TOLD by the authors' own Lean function (tested against real Go, not proved from fmt's source: count such statements apart). THE CARD IS WHAT COUNTS. Prove the row's statement (the work); the ties are given (YthllmdjcogjkoaaDoorTie.lean); close each card by the builder's one call (the guide's Derived/Test/ToyasCard.lean, 'card_holds'). Laid BY PROGRAM, IN A SANDBOX (cutbox-door.mjs). By AI agents, Wed Nov 11 2026. No macro, syntax, notation, axiom, sorry.
-/
import Derived.Test.YthllmdjcogjkoaaDoorRows
import GoSem.ClaimSeven
namespace Go.Proofs.YthllmdjcogjkoaaDoor
namespace Rows

/-- THE TIED CARD OF 'stutterlaw16.StorePrints'. -/
def storePrintsCard : Claim7 := { stood := { row := storePrintsRow, standIns := [], harness := (true, "86dcf19533619d94fce655adaea3d6266ec921f126e932696d4c810360346911"), looks := false }, kinds := [], alts := [], laidByText := true, laidKinds := [.data, .data, .data], laidTests := true, laidLooks := .later }
def StorePrintsCardSaid : Prop := Claim7.holds Tryd.pinned (.plain (OpenSpec.ofChange storePrintsSpec)) storePrintsCard

/-- THE TIED CARD OF 'stutterlaw16.StoreContents'. -/
def storeContentsCard : Claim7 := { stood := { row := storeContentsRow, standIns := [], harness := (true, "86dcf19533619d94fce655adaea3d6266ec921f126e932696d4c810360346911"), looks := false }, kinds := [], alts := [], laidByText := true, laidKinds := [.data, .data, .data], laidTests := true, laidLooks := .later }
def StoreContentsCardSaid : Prop := Claim7.holds Tryd.pinned (.plain (OpenSpec.ofChange storeContentsSpec)) storeContentsCard

/-- THE SECOND FORM's CARD OF 'stutterlaw16.StorePrints'. -/
def storePrintsUptoCard : Claim7 := { stood := { row := storePrintsUptoRow, standIns := [], harness := (true, "86dcf19533619d94fce655adaea3d6266ec921f126e932696d4c810360346911"), looks := false }, kinds := [], alts := [], laidByText := true, laidKinds := [.data, .data, .data], laidTests := true, laidLooks := .later }
def StorePrintsUptoCardSaid : Prop := Claim7.holds Tryd.pinned (.plain (OpenSpec.upto storePrintsSpec)) storePrintsUptoCard

/-- THE SECOND FORM's CARD OF 'stutterlaw16.StoreContents'. -/
def storeContentsUptoCard : Claim7 := { stood := { row := storeContentsUptoRow, standIns := [], harness := (true, "86dcf19533619d94fce655adaea3d6266ec921f126e932696d4c810360346911"), looks := false }, kinds := [], alts := [], laidByText := true, laidKinds := [.data, .data, .data], laidTests := true, laidLooks := .later }
def StoreContentsUptoCardSaid : Prop := Claim7.holds Tryd.pinned (.plain (OpenSpec.upto storeContentsSpec)) storeContentsUptoCard
end Rows
end Go.Proofs.YthllmdjcogjkoaaDoor
