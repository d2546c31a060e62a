/-
  DERIVED. GIVEN WITH THE SEED: THE CARDS: each row of YtojhoeogikdjoaaGreatDoorRows.lean that lists a variable, with what it lists TIED to the program's text (the seventh form; the later family's looks); each row that meets fmt, with fmt's text TOLD by the authors' own Lean function (tested against real Go, not proved from fmt's source: count such statements apart). THE CARD IS WHAT COUNTS. Prove the row's statement (the work); the ties are given (YtojhoeogikdjoaaGreatDoorTie.lean); close each card by the builder's one call (the guide's Derived/Test/ToyasCard.lean, 'card_holds'). Laid BY PROGRAM, IN A SANDBOX (cutbox-door.mjs). By AI agents, Wed Nov 11 2026. No macro, syntax, notation, axiom, sorry.
-/
import Derived.Test.YtojhoeogikdjoaaGreatDoorRows
import GoSem.ClaimSeven
namespace Go.Proofs.YtojhoeogikdjoaaGreatDoor
namespace Rows

/-- THE TIED CARD OF 'limnerlaw22.HitAll'. -/
def hitAllCard : Claim7 := { stood := { row := hitAllRow, standIns := [], harness := (true, "b8024d3505544da626b14f2a8118e3ed3af8a332be6a9e12a326d21868c7233d"), looks := true }, kinds := [], alts := [], laidByText := true, laidKinds := [.data, .data], laidTests := true, laidLooks := .later }
def HitAllCardSaid : Prop := Claim7.holds Tryz.pinned (.plain (OpenSpec.ofChange hitAllSpec)) hitAllCard

/-- THE TIED CARD OF 'limnerlaw22.HitAligns'. -/
def hitAlignsCard : Claim7 := { stood := { row := hitAlignsRow, standIns := [], harness := (true, "b8024d3505544da626b14f2a8118e3ed3af8a332be6a9e12a326d21868c7233d"), looks := true }, kinds := [], alts := [], laidByText := true, laidKinds := [.data, .data], laidTests := true, laidLooks := .later }
def HitAlignsCardSaid : Prop := Claim7.holds Tryz.pinned (.plain (OpenSpec.ofChange hitAlignsSpec)) hitAlignsCard

/-- THE TIED CARD OF 'limnerlaw22.HitLines'. -/
def hitLinesCard : Claim7 := { stood := { row := hitLinesRow, standIns := [], harness := (true, "b8024d3505544da626b14f2a8118e3ed3af8a332be6a9e12a326d21868c7233d"), looks := true }, kinds := [], alts := [], laidByText := true, laidKinds := [.data, .data], laidTests := true, laidLooks := .later }
def HitLinesCardSaid : Prop := Claim7.holds Tryz.pinned (.plain (OpenSpec.ofChange hitLinesSpec)) hitLinesCard

/-- THE TIED CARD OF 'limnerlaw24.ViewAt'. -/
def viewAtCard : Claim7 := { stood := { row := viewAtRow, standIns := [], harness := (true, "b8024d3505544da626b14f2a8118e3ed3af8a332be6a9e12a326d21868c7233d"), looks := true }, kinds := [], alts := [], laidByText := true, laidKinds := [.data, .data], laidTests := true, laidLooks := .later }
def ViewAtCardSaid : Prop := Claim7.holds Tryz.pinned (.plain (OpenSpec.ofChange viewAtSpec)) viewAtCard

/-- THE SECOND FORM's CARD OF 'limnerlaw22.HitAll'. -/
def hitAllUptoCard : Claim7 := { stood := { row := hitAllUptoRow, standIns := [], harness := (true, "b8024d3505544da626b14f2a8118e3ed3af8a332be6a9e12a326d21868c7233d"), looks := true }, kinds := [], alts := [], laidByText := true, laidKinds := [.data, .data], laidTests := true, laidLooks := .later }
def HitAllUptoCardSaid : Prop := Claim7.holds Tryz.pinned (.plain (OpenSpec.upto hitAllSpec)) hitAllUptoCard

/-- THE SECOND FORM's CARD OF 'limnerlaw22.HitAligns'. -/
def hitAlignsUptoCard : Claim7 := { stood := { row := hitAlignsUptoRow, standIns := [], harness := (true, "b8024d3505544da626b14f2a8118e3ed3af8a332be6a9e12a326d21868c7233d"), looks := true }, kinds := [], alts := [], laidByText := true, laidKinds := [.data, .data], laidTests := true, laidLooks := .later }
def HitAlignsUptoCardSaid : Prop := Claim7.holds Tryz.pinned (.plain (OpenSpec.upto hitAlignsSpec)) hitAlignsUptoCard

/-- THE SECOND FORM's CARD OF 'limnerlaw22.HitLines'. -/
def hitLinesUptoCard : Claim7 := { stood := { row := hitLinesUptoRow, standIns := [], harness := (true, "b8024d3505544da626b14f2a8118e3ed3af8a332be6a9e12a326d21868c7233d"), looks := true }, kinds := [], alts := [], laidByText := true, laidKinds := [.data, .data], laidTests := true, laidLooks := .later }
def HitLinesUptoCardSaid : Prop := Claim7.holds Tryz.pinned (.plain (OpenSpec.upto hitLinesSpec)) hitLinesUptoCard

/-- THE SECOND FORM's CARD OF 'limnerlaw24.ViewAt'. -/
def viewAtUptoCard : Claim7 := { stood := { row := viewAtUptoRow, standIns := [], harness := (true, "b8024d3505544da626b14f2a8118e3ed3af8a332be6a9e12a326d21868c7233d"), looks := true }, kinds := [], alts := [], laidByText := true, laidKinds := [.data, .data], laidTests := true, laidLooks := .later }
def ViewAtUptoCardSaid : Prop := Claim7.holds Tryz.pinned (.plain (OpenSpec.upto viewAtSpec)) viewAtUptoCard
end Rows
end Go.Proofs.YtojhoeogikdjoaaGreatDoor
