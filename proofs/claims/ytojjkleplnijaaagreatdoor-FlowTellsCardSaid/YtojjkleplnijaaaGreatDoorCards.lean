/-
  DERIVED. GIVEN WITH THE SEED: THE CARDS: each row of YtojjkleplnijaaaGreatDoorRows.lean that lists a variable, with what it lists TIED to the program's text (the seventh form; the later family's looks); each row that meets fmt, with fmt's text TOLD by the authors' own Lean function (tested against real Go, not proved from fmt's source: count such statements apart). THE CARD IS WHAT COUNTS. Prove the row's statement (the work); the ties are given (YtojjkleplnijaaaGreatDoorTie.lean); close each card by the builder's one call (the guide's Derived/Test/ToyasCard.lean, 'card_holds'). Laid BY PROGRAM, IN A SANDBOX (cutbox-door.mjs). By AI agents, Wed Nov 11 2026. No macro, syntax, notation, axiom, sorry.
-/
import Derived.Test.YtojjkleplnijaaaGreatDoorRows
import GoSem.ClaimSeven
namespace Go.Proofs.YtojjkleplnijaaaGreatDoor
namespace Rows

/-- THE TIED CARD OF 'runnellaw7.TypesCheck'. -/
def typesCheckCard : Claim7 := { stood := { row := typesCheckRow, standIns := [], harness := (true, "2e7a3a2f280ed7d902fc29c2107e4a73c436b64f047ea130dfcddf713ddf9a10"), looks := true }, kinds := [], alts := [], laidByText := true, laidKinds := [.data, .data, .data, .sentinel, .sentinel], laidTests := true, laidLooks := .later }
def TypesCheckCardSaid : Prop := Claim7.holds Tryz.pinned (.plain (OpenSpec.ofChange typesCheckSpec)) typesCheckCard

/-- THE TIED CARD OF 'runnellaw7.TypesTell'. -/
def typesTellCard : Claim7 := { stood := { row := typesTellRow, standIns := [], harness := (true, "2e7a3a2f280ed7d902fc29c2107e4a73c436b64f047ea130dfcddf713ddf9a10"), looks := true }, kinds := [], alts := [], laidByText := true, laidKinds := [.data, .data, .data, .sentinel, .sentinel], laidTests := true, laidLooks := .later }
def TypesTellCardSaid : Prop := Claim7.holds Tryz.pinned (.plain (OpenSpec.ofChange typesTellSpec)) typesTellCard

/-- THE TIED CARD OF 'runnellaw8.FlowBuilds'. -/
def flowBuildsCard : Claim7 := { stood := { row := flowBuildsRow, standIns := [], harness := (true, "2e7a3a2f280ed7d902fc29c2107e4a73c436b64f047ea130dfcddf713ddf9a10"), looks := true }, kinds := [], alts := [], laidByText := true, laidKinds := [.data, .data, .data, .sentinel, .sentinel], laidTests := true, laidLooks := .later }
def FlowBuildsCardSaid : Prop := Claim7.holds Tryz.pinned (.plain (OpenSpec.ofChange flowBuildsSpec)) flowBuildsCard

/-- THE TIED CARD OF 'runnellaw8.FlowTells'. -/
def flowTellsCard : Claim7 := { stood := { row := flowTellsRow, standIns := [], harness := (true, "2e7a3a2f280ed7d902fc29c2107e4a73c436b64f047ea130dfcddf713ddf9a10"), looks := true }, kinds := [], alts := [], laidByText := true, laidKinds := [.data, .data, .data, .sentinel, .sentinel], laidTests := true, laidLooks := .later }
def FlowTellsCardSaid : Prop := Claim7.holds Tryz.pinned (.plain (OpenSpec.ofChange flowTellsSpec)) flowTellsCard

/-- THE SECOND FORM's CARD OF 'runnellaw7.TypesCheck'. -/
def typesCheckUptoCard : Claim7 := { stood := { row := typesCheckUptoRow, standIns := [], harness := (true, "2e7a3a2f280ed7d902fc29c2107e4a73c436b64f047ea130dfcddf713ddf9a10"), looks := true }, kinds := [], alts := [], laidByText := true, laidKinds := [.data, .data, .data, .sentinel, .sentinel], laidTests := true, laidLooks := .later }
def TypesCheckUptoCardSaid : Prop := Claim7.holds Tryz.pinned (.plain (OpenSpec.upto typesCheckSpec)) typesCheckUptoCard

/-- THE SECOND FORM's CARD OF 'runnellaw7.TypesTell'. -/
def typesTellUptoCard : Claim7 := { stood := { row := typesTellUptoRow, standIns := [], harness := (true, "2e7a3a2f280ed7d902fc29c2107e4a73c436b64f047ea130dfcddf713ddf9a10"), looks := true }, kinds := [], alts := [], laidByText := true, laidKinds := [.data, .data, .data, .sentinel, .sentinel], laidTests := true, laidLooks := .later }
def TypesTellUptoCardSaid : Prop := Claim7.holds Tryz.pinned (.plain (OpenSpec.upto typesTellSpec)) typesTellUptoCard

/-- THE SECOND FORM's CARD OF 'runnellaw8.FlowBuilds'. -/
def flowBuildsUptoCard : Claim7 := { stood := { row := flowBuildsUptoRow, standIns := [], harness := (true, "2e7a3a2f280ed7d902fc29c2107e4a73c436b64f047ea130dfcddf713ddf9a10"), looks := true }, kinds := [], alts := [], laidByText := true, laidKinds := [.data, .data, .data, .sentinel, .sentinel], laidTests := true, laidLooks := .later }
def FlowBuildsUptoCardSaid : Prop := Claim7.holds Tryz.pinned (.plain (OpenSpec.upto flowBuildsSpec)) flowBuildsUptoCard

/-- THE SECOND FORM's CARD OF 'runnellaw8.FlowTells'. -/
def flowTellsUptoCard : Claim7 := { stood := { row := flowTellsUptoRow, standIns := [], harness := (true, "2e7a3a2f280ed7d902fc29c2107e4a73c436b64f047ea130dfcddf713ddf9a10"), looks := true }, kinds := [], alts := [], laidByText := true, laidKinds := [.data, .data, .data, .sentinel, .sentinel], laidTests := true, laidLooks := .later }
def FlowTellsUptoCardSaid : Prop := Claim7.holds Tryz.pinned (.plain (OpenSpec.upto flowTellsSpec)) flowTellsUptoCard
end Rows
end Go.Proofs.YtojjkleplnijaaaGreatDoor
