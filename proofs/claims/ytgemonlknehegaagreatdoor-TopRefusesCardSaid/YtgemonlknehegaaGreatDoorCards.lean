/-
  DERIVED. GIVEN WITH THE SEED: THE CARDS: each row of YtgemonlknehegaaGreatDoorRows.lean that lists a variable, with what it lists TIED to the program's text (the seventh form; the later family's looks); each row that meets fmt, with fmt's text TOLD by the authors' own Lean function (tested against real Go, not proved from fmt's source: count such statements apart). THE CARD IS WHAT COUNTS. Prove the row's statement (the work); the ties are given (YtgemonlknehegaaGreatDoorTie.lean); close each card by the builder's one call (the guide's Derived/Test/ToyasCard.lean, 'card_holds'). Laid BY PROGRAM, IN A SANDBOX (cutbox-door.mjs). By AI agents, Wed Nov 11 2026. No macro, syntax, notation, axiom, sorry.
-/
import Derived.Test.YtgemonlknehegaaGreatDoorRows
import GoSem.ClaimSeven
namespace Go.Proofs.YtgemonlknehegaaGreatDoor
namespace Rows

/-- THE TIED CARD OF 'derricktop.TopCached'. -/
def topCachedCard : Claim7 := { stood := { row := topCachedRow, standIns := [], harness := (true, "16c470c61363746e37a2cac3760bb04b8da72b08d22565b3d112478804b09aed"), looks := false }, kinds := [], alts := [], laidByText := true, laidKinds := [.data, .data, .data], laidTests := true, laidLooks := .later }
def TopCachedCardSaid : Prop := Claim7.holds Tryz.pinned (.plain (OpenSpec.ofChange topCachedSpec)) topCachedCard

/-- THE TIED CARD OF 'derricktop.TopForged'. -/
def topForgedCard : Claim7 := { stood := { row := topForgedRow, standIns := [], harness := (true, "16c470c61363746e37a2cac3760bb04b8da72b08d22565b3d112478804b09aed"), looks := false }, kinds := [], alts := [], laidByText := true, laidKinds := [.data, .data, .data], laidTests := true, laidLooks := .later }
def TopForgedCardSaid : Prop := Claim7.holds Tryz.pinned (.plain (OpenSpec.ofChange topForgedSpec)) topForgedCard

/-- THE TIED CARD OF 'derricktop.TopRefuses'. -/
def topRefusesCard : Claim7 := { stood := { row := topRefusesRow, standIns := [], harness := (true, "16c470c61363746e37a2cac3760bb04b8da72b08d22565b3d112478804b09aed"), looks := false }, kinds := [], alts := [], laidByText := true, laidKinds := [.data, .data, .data], laidTests := true, laidLooks := .later }
def TopRefusesCardSaid : Prop := Claim7.holds Tryz.pinned (.plain (OpenSpec.ofChange topRefusesSpec)) topRefusesCard

/-- THE TIED CARD OF 'derricktop.TopScript'. -/
def topScriptCard : Claim7 := { stood := { row := topScriptRow, standIns := [], harness := (true, "16c470c61363746e37a2cac3760bb04b8da72b08d22565b3d112478804b09aed"), looks := false }, kinds := [], alts := [], laidByText := true, laidKinds := [.data, .data, .data], laidTests := true, laidLooks := .later }
def TopScriptCardSaid : Prop := Claim7.holds Tryz.pinned (.plain (OpenSpec.ofChange topScriptSpec)) topScriptCard

/-- THE SECOND FORM's CARD OF 'derricktop.TopCached'. -/
def topCachedUptoCard : Claim7 := { stood := { row := topCachedUptoRow, standIns := [], harness := (true, "16c470c61363746e37a2cac3760bb04b8da72b08d22565b3d112478804b09aed"), looks := false }, kinds := [], alts := [], laidByText := true, laidKinds := [.data, .data, .data], laidTests := true, laidLooks := .later }
def TopCachedUptoCardSaid : Prop := Claim7.holds Tryz.pinned (.plain (OpenSpec.upto topCachedSpec)) topCachedUptoCard

/-- THE SECOND FORM's CARD OF 'derricktop.TopForged'. -/
def topForgedUptoCard : Claim7 := { stood := { row := topForgedUptoRow, standIns := [], harness := (true, "16c470c61363746e37a2cac3760bb04b8da72b08d22565b3d112478804b09aed"), looks := false }, kinds := [], alts := [], laidByText := true, laidKinds := [.data, .data, .data], laidTests := true, laidLooks := .later }
def TopForgedUptoCardSaid : Prop := Claim7.holds Tryz.pinned (.plain (OpenSpec.upto topForgedSpec)) topForgedUptoCard

/-- THE SECOND FORM's CARD OF 'derricktop.TopRefuses'. -/
def topRefusesUptoCard : Claim7 := { stood := { row := topRefusesUptoRow, standIns := [], harness := (true, "16c470c61363746e37a2cac3760bb04b8da72b08d22565b3d112478804b09aed"), looks := false }, kinds := [], alts := [], laidByText := true, laidKinds := [.data, .data, .data], laidTests := true, laidLooks := .later }
def TopRefusesUptoCardSaid : Prop := Claim7.holds Tryz.pinned (.plain (OpenSpec.upto topRefusesSpec)) topRefusesUptoCard

/-- THE SECOND FORM's CARD OF 'derricktop.TopScript'. -/
def topScriptUptoCard : Claim7 := { stood := { row := topScriptUptoRow, standIns := [], harness := (true, "16c470c61363746e37a2cac3760bb04b8da72b08d22565b3d112478804b09aed"), looks := false }, kinds := [], alts := [], laidByText := true, laidKinds := [.data, .data, .data], laidTests := true, laidLooks := .later }
def TopScriptUptoCardSaid : Prop := Claim7.holds Tryz.pinned (.plain (OpenSpec.upto topScriptSpec)) topScriptUptoCard
end Rows
end Go.Proofs.YtgemonlknehegaaGreatDoor
