/-
  DERIVED. GIVEN WITH THE SEED: THE CARDS: each row of YtbnfdpppgnokbaaGreatDoorRows.lean that lists a variable, with what it lists TIED to the program's text (the seventh form; the later family's looks); each row that meets fmt, with fmt's text TOLD by the authors' own Lean function (tested against real Go, not proved from fmt's source: count such statements apart). THE CARD IS WHAT COUNTS. Prove the row's statement (the work); the ties are given (YtbnfdpppgnokbaaGreatDoorTie.lean); close each card by the builder's one call (the guide's Derived/Test/ToyasCard.lean, 'card_holds'). Laid BY PROGRAM, IN A SANDBOX (cutbox-door.mjs). By AI agents, Wed Nov 11 2026. No macro, syntax, notation, axiom, sorry.
-/
import Derived.Test.YtbnfdpppgnokbaaGreatDoorRows
import GoSem.ClaimSeven
namespace Go.Proofs.YtbnfdpppgnokbaaGreatDoor
namespace Rows

/-- THE TIED CARD OF 'runnellaw7.TypesCheck'. -/
def typesCheckCard : Claim7 := { stood := { row := typesCheckRow, standIns := [], harness := (true, "31961ba657b5fa901e1c1456800944c37d7643fc2d3fc67a9f3767b15e29a63d"), looks := true }, kinds := [], alts := [], laidByText := true, laidKinds := [.data, .data, .data, .sentinel, .sentinel], laidTests := true, laidLooks := .later }
def TypesCheckCardSaid : Prop := Claim7.holds Tryz.pinned (.plain (OpenSpec.ofChange typesCheckSpec)) typesCheckCard

/-- THE TIED CARD OF 'runnellaw7.TypesOwner'. -/
def typesOwnerCard : Claim7 := { stood := { row := typesOwnerRow, standIns := [], harness := (true, "31961ba657b5fa901e1c1456800944c37d7643fc2d3fc67a9f3767b15e29a63d"), looks := true }, kinds := [], alts := [], laidByText := true, laidKinds := [.data, .data, .data, .sentinel, .sentinel], laidTests := true, laidLooks := .later }
def TypesOwnerCardSaid : Prop := Claim7.holds Tryz.pinned (.plain (OpenSpec.ofChange typesOwnerSpec)) typesOwnerCard

/-- THE TIED CARD OF 'runnellaw7.TypesMean'. -/
def typesMeanCard : Claim7 := { stood := { row := typesMeanRow, standIns := [], harness := (true, "31961ba657b5fa901e1c1456800944c37d7643fc2d3fc67a9f3767b15e29a63d"), looks := true }, kinds := [], alts := [], laidByText := true, laidKinds := [.data, .data, .data, .sentinel, .sentinel], laidTests := true, laidLooks := .later }
def TypesMeanCardSaid : Prop := Claim7.holds Tryz.pinned (.plain (OpenSpec.ofChange typesMeanSpec)) typesMeanCard

/-- THE TIED CARD OF 'runnellaw8.FlowBuilds'. -/
def flowBuildsCard : Claim7 := { stood := { row := flowBuildsRow, standIns := [], harness := (true, "31961ba657b5fa901e1c1456800944c37d7643fc2d3fc67a9f3767b15e29a63d"), looks := true }, kinds := [], alts := [], laidByText := true, laidKinds := [.data, .data, .data, .sentinel, .sentinel], laidTests := true, laidLooks := .later }
def FlowBuildsCardSaid : Prop := Claim7.holds Tryz.pinned (.plain (OpenSpec.ofChange flowBuildsSpec)) flowBuildsCard

/-- THE TIED CARD OF 'runnellaw8.FlowNodes'. -/
def flowNodesCard : Claim7 := { stood := { row := flowNodesRow, standIns := [], harness := (true, "31961ba657b5fa901e1c1456800944c37d7643fc2d3fc67a9f3767b15e29a63d"), looks := true }, kinds := [], alts := [], laidByText := true, laidKinds := [.data, .data, .data, .sentinel, .sentinel], laidTests := true, laidLooks := .later }
def FlowNodesCardSaid : Prop := Claim7.holds Tryz.pinned (.plain (OpenSpec.ofChange flowNodesSpec)) flowNodesCard

/-- THE TIED CARD OF 'runnellaw8.FlowJoins'. -/
def flowJoinsCard : Claim7 := { stood := { row := flowJoinsRow, standIns := [], harness := (true, "31961ba657b5fa901e1c1456800944c37d7643fc2d3fc67a9f3767b15e29a63d"), looks := true }, kinds := [], alts := [], laidByText := true, laidKinds := [.data, .data, .data, .sentinel, .sentinel], laidTests := true, laidLooks := .later }
def FlowJoinsCardSaid : Prop := Claim7.holds Tryz.pinned (.plain (OpenSpec.ofChange flowJoinsSpec)) flowJoinsCard

/-- THE TIED CARD OF 'runnellaw7.TypesChannels'. -/
def typesChannelsCard : Claim7 := { stood := { row := typesChannelsRow, standIns := [], harness := (true, "31961ba657b5fa901e1c1456800944c37d7643fc2d3fc67a9f3767b15e29a63d"), looks := true }, kinds := [], alts := [], laidByText := true, laidKinds := [.data, .data, .data, .sentinel, .sentinel], laidTests := true, laidLooks := .later }
def TypesChannelsCardSaid : Prop := Claim7.holds Tryz.pinned (.plain (OpenSpec.ofChange typesChannelsSpec)) typesChannelsCard

/-- THE TIED CARD OF 'runnellaw7.TypesTell'. -/
def typesTellCard : Claim7 := { stood := { row := typesTellRow, standIns := [], harness := (true, "31961ba657b5fa901e1c1456800944c37d7643fc2d3fc67a9f3767b15e29a63d"), looks := true }, kinds := [], alts := [], laidByText := true, laidKinds := [.data, .data, .data, .sentinel, .sentinel], laidTests := true, laidLooks := .later }
def TypesTellCardSaid : Prop := Claim7.holds Tryz.pinned (.plain (OpenSpec.ofChange typesTellSpec)) typesTellCard

/-- THE TIED CARD OF 'runnellaw8.FlowEntries'. -/
def flowEntriesCard : Claim7 := { stood := { row := flowEntriesRow, standIns := [], harness := (true, "31961ba657b5fa901e1c1456800944c37d7643fc2d3fc67a9f3767b15e29a63d"), looks := true }, kinds := [], alts := [], laidByText := true, laidKinds := [.data, .data, .data, .sentinel, .sentinel], laidTests := true, laidLooks := .later }
def FlowEntriesCardSaid : Prop := Claim7.holds Tryz.pinned (.plain (OpenSpec.ofChange flowEntriesSpec)) flowEntriesCard

/-- THE TIED CARD OF 'runnellaw8.FlowEnds'. -/
def flowEndsCard : Claim7 := { stood := { row := flowEndsRow, standIns := [], harness := (true, "31961ba657b5fa901e1c1456800944c37d7643fc2d3fc67a9f3767b15e29a63d"), looks := true }, kinds := [], alts := [], laidByText := true, laidKinds := [.data, .data, .data, .sentinel, .sentinel], laidTests := true, laidLooks := .later }
def FlowEndsCardSaid : Prop := Claim7.holds Tryz.pinned (.plain (OpenSpec.ofChange flowEndsSpec)) flowEndsCard

/-- THE TIED CARD OF 'runnellaw8.FlowReach'. -/
def flowReachCard : Claim7 := { stood := { row := flowReachRow, standIns := [], harness := (true, "31961ba657b5fa901e1c1456800944c37d7643fc2d3fc67a9f3767b15e29a63d"), looks := true }, kinds := [], alts := [], laidByText := true, laidKinds := [.data, .data, .data, .sentinel, .sentinel], laidTests := true, laidLooks := .later }
def FlowReachCardSaid : Prop := Claim7.holds Tryz.pinned (.plain (OpenSpec.ofChange flowReachSpec)) flowReachCard

/-- THE TIED CARD OF 'runnellaw8.FlowTells'. -/
def flowTellsCard : Claim7 := { stood := { row := flowTellsRow, standIns := [], harness := (true, "31961ba657b5fa901e1c1456800944c37d7643fc2d3fc67a9f3767b15e29a63d"), looks := true }, kinds := [], alts := [], laidByText := true, laidKinds := [.data, .data, .data, .sentinel, .sentinel], laidTests := true, laidLooks := .later }
def FlowTellsCardSaid : Prop := Claim7.holds Tryz.pinned (.plain (OpenSpec.ofChange flowTellsSpec)) flowTellsCard

/-- THE SECOND FORM's CARD OF 'runnellaw7.TypesCheck'. -/
def typesCheckUptoCard : Claim7 := { stood := { row := typesCheckUptoRow, standIns := [], harness := (true, "31961ba657b5fa901e1c1456800944c37d7643fc2d3fc67a9f3767b15e29a63d"), looks := true }, kinds := [], alts := [], laidByText := true, laidKinds := [.data, .data, .data, .sentinel, .sentinel], laidTests := true, laidLooks := .later }
def TypesCheckUptoCardSaid : Prop := Claim7.holds Tryz.pinned (.plain (OpenSpec.upto typesCheckSpec)) typesCheckUptoCard

/-- THE SECOND FORM's CARD OF 'runnellaw7.TypesOwner'. -/
def typesOwnerUptoCard : Claim7 := { stood := { row := typesOwnerUptoRow, standIns := [], harness := (true, "31961ba657b5fa901e1c1456800944c37d7643fc2d3fc67a9f3767b15e29a63d"), looks := true }, kinds := [], alts := [], laidByText := true, laidKinds := [.data, .data, .data, .sentinel, .sentinel], laidTests := true, laidLooks := .later }
def TypesOwnerUptoCardSaid : Prop := Claim7.holds Tryz.pinned (.plain (OpenSpec.upto typesOwnerSpec)) typesOwnerUptoCard

/-- THE SECOND FORM's CARD OF 'runnellaw7.TypesMean'. -/
def typesMeanUptoCard : Claim7 := { stood := { row := typesMeanUptoRow, standIns := [], harness := (true, "31961ba657b5fa901e1c1456800944c37d7643fc2d3fc67a9f3767b15e29a63d"), looks := true }, kinds := [], alts := [], laidByText := true, laidKinds := [.data, .data, .data, .sentinel, .sentinel], laidTests := true, laidLooks := .later }
def TypesMeanUptoCardSaid : Prop := Claim7.holds Tryz.pinned (.plain (OpenSpec.upto typesMeanSpec)) typesMeanUptoCard

/-- THE SECOND FORM's CARD OF 'runnellaw8.FlowBuilds'. -/
def flowBuildsUptoCard : Claim7 := { stood := { row := flowBuildsUptoRow, standIns := [], harness := (true, "31961ba657b5fa901e1c1456800944c37d7643fc2d3fc67a9f3767b15e29a63d"), looks := true }, kinds := [], alts := [], laidByText := true, laidKinds := [.data, .data, .data, .sentinel, .sentinel], laidTests := true, laidLooks := .later }
def FlowBuildsUptoCardSaid : Prop := Claim7.holds Tryz.pinned (.plain (OpenSpec.upto flowBuildsSpec)) flowBuildsUptoCard

/-- THE SECOND FORM's CARD OF 'runnellaw8.FlowNodes'. -/
def flowNodesUptoCard : Claim7 := { stood := { row := flowNodesUptoRow, standIns := [], harness := (true, "31961ba657b5fa901e1c1456800944c37d7643fc2d3fc67a9f3767b15e29a63d"), looks := true }, kinds := [], alts := [], laidByText := true, laidKinds := [.data, .data, .data, .sentinel, .sentinel], laidTests := true, laidLooks := .later }
def FlowNodesUptoCardSaid : Prop := Claim7.holds Tryz.pinned (.plain (OpenSpec.upto flowNodesSpec)) flowNodesUptoCard

/-- THE SECOND FORM's CARD OF 'runnellaw8.FlowJoins'. -/
def flowJoinsUptoCard : Claim7 := { stood := { row := flowJoinsUptoRow, standIns := [], harness := (true, "31961ba657b5fa901e1c1456800944c37d7643fc2d3fc67a9f3767b15e29a63d"), looks := true }, kinds := [], alts := [], laidByText := true, laidKinds := [.data, .data, .data, .sentinel, .sentinel], laidTests := true, laidLooks := .later }
def FlowJoinsUptoCardSaid : Prop := Claim7.holds Tryz.pinned (.plain (OpenSpec.upto flowJoinsSpec)) flowJoinsUptoCard

/-- THE SECOND FORM's CARD OF 'runnellaw7.TypesChannels'. -/
def typesChannelsUptoCard : Claim7 := { stood := { row := typesChannelsUptoRow, standIns := [], harness := (true, "31961ba657b5fa901e1c1456800944c37d7643fc2d3fc67a9f3767b15e29a63d"), looks := true }, kinds := [], alts := [], laidByText := true, laidKinds := [.data, .data, .data, .sentinel, .sentinel], laidTests := true, laidLooks := .later }
def TypesChannelsUptoCardSaid : Prop := Claim7.holds Tryz.pinned (.plain (OpenSpec.upto typesChannelsSpec)) typesChannelsUptoCard

/-- THE SECOND FORM's CARD OF 'runnellaw7.TypesTell'. -/
def typesTellUptoCard : Claim7 := { stood := { row := typesTellUptoRow, standIns := [], harness := (true, "31961ba657b5fa901e1c1456800944c37d7643fc2d3fc67a9f3767b15e29a63d"), looks := true }, kinds := [], alts := [], laidByText := true, laidKinds := [.data, .data, .data, .sentinel, .sentinel], laidTests := true, laidLooks := .later }
def TypesTellUptoCardSaid : Prop := Claim7.holds Tryz.pinned (.plain (OpenSpec.upto typesTellSpec)) typesTellUptoCard

/-- THE SECOND FORM's CARD OF 'runnellaw8.FlowEntries'. -/
def flowEntriesUptoCard : Claim7 := { stood := { row := flowEntriesUptoRow, standIns := [], harness := (true, "31961ba657b5fa901e1c1456800944c37d7643fc2d3fc67a9f3767b15e29a63d"), looks := true }, kinds := [], alts := [], laidByText := true, laidKinds := [.data, .data, .data, .sentinel, .sentinel], laidTests := true, laidLooks := .later }
def FlowEntriesUptoCardSaid : Prop := Claim7.holds Tryz.pinned (.plain (OpenSpec.upto flowEntriesSpec)) flowEntriesUptoCard

/-- THE SECOND FORM's CARD OF 'runnellaw8.FlowEnds'. -/
def flowEndsUptoCard : Claim7 := { stood := { row := flowEndsUptoRow, standIns := [], harness := (true, "31961ba657b5fa901e1c1456800944c37d7643fc2d3fc67a9f3767b15e29a63d"), looks := true }, kinds := [], alts := [], laidByText := true, laidKinds := [.data, .data, .data, .sentinel, .sentinel], laidTests := true, laidLooks := .later }
def FlowEndsUptoCardSaid : Prop := Claim7.holds Tryz.pinned (.plain (OpenSpec.upto flowEndsSpec)) flowEndsUptoCard

/-- THE SECOND FORM's CARD OF 'runnellaw8.FlowReach'. -/
def flowReachUptoCard : Claim7 := { stood := { row := flowReachUptoRow, standIns := [], harness := (true, "31961ba657b5fa901e1c1456800944c37d7643fc2d3fc67a9f3767b15e29a63d"), looks := true }, kinds := [], alts := [], laidByText := true, laidKinds := [.data, .data, .data, .sentinel, .sentinel], laidTests := true, laidLooks := .later }
def FlowReachUptoCardSaid : Prop := Claim7.holds Tryz.pinned (.plain (OpenSpec.upto flowReachSpec)) flowReachUptoCard

/-- THE SECOND FORM's CARD OF 'runnellaw8.FlowTells'. -/
def flowTellsUptoCard : Claim7 := { stood := { row := flowTellsUptoRow, standIns := [], harness := (true, "31961ba657b5fa901e1c1456800944c37d7643fc2d3fc67a9f3767b15e29a63d"), looks := true }, kinds := [], alts := [], laidByText := true, laidKinds := [.data, .data, .data, .sentinel, .sentinel], laidTests := true, laidLooks := .later }
def FlowTellsUptoCardSaid : Prop := Claim7.holds Tryz.pinned (.plain (OpenSpec.upto flowTellsSpec)) flowTellsUptoCard
end Rows
end Go.Proofs.YtbnfdpppgnokbaaGreatDoor
