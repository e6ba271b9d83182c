/-
  DERIVED. GIVEN WITH THE SEED: THE CARDS: each row of YtkomdppjelnpdaaGreatDoorRows.lean that lists a variable, with what it lists TIED to the program's text (the seventh form; the later family's looks); each row that meets fmt, with fmt's text TOLD by the authors' own Lean function (tested against real Go, not proved from fmt's source: count such statements apart). THE CARD IS WHAT COUNTS. Prove the row's statement (the work); the ties are given (YtkomdppjelnpdaaGreatDoorTie.lean); close each card by the builder's one call (the guide's Derived/Test/ToyasCard.lean, 'card_holds'). Laid BY PROGRAM, IN A SANDBOX (cutbox-door.mjs). By AI agents, Wed Nov 11 2026. No macro, syntax, notation, axiom, sorry.
-/
import Derived.Test.YtkomdppjelnpdaaGreatDoorRows
import GoSem.ClaimSeven
namespace Go.Proofs.YtkomdppjelnpdaaGreatDoor
namespace Rows

/-- THE TIED CARD OF 'runnellaw7.TypesOwner'. -/
def typesOwnerCard : Claim7 := { stood := { row := typesOwnerRow, standIns := [], harness := (true, "720248e3f5d4d418d23a96663af0f628274aede6ee31a65cc317f4eb6ee52a86"), looks := true }, kinds := [], alts := [], laidByText := true, laidKinds := [.data, .data, .data, .sentinel, .sentinel], laidTests := true, laidLooks := .later }
def TypesOwnerCardSaid : Prop := Claim7.holds Tryz.pinned (.plain (OpenSpec.ofChange typesOwnerSpec)) typesOwnerCard

/-- THE TIED CARD OF 'runnellaw8.FlowNodes'. -/
def flowNodesCard : Claim7 := { stood := { row := flowNodesRow, standIns := [], harness := (true, "720248e3f5d4d418d23a96663af0f628274aede6ee31a65cc317f4eb6ee52a86"), looks := true }, kinds := [], alts := [], laidByText := true, laidKinds := [.data, .data, .data, .sentinel, .sentinel], laidTests := true, laidLooks := .later }
def FlowNodesCardSaid : Prop := Claim7.holds Tryz.pinned (.plain (OpenSpec.ofChange flowNodesSpec)) flowNodesCard

/-- THE TIED CARD OF 'runnellaw8.FlowJoins'. -/
def flowJoinsCard : Claim7 := { stood := { row := flowJoinsRow, standIns := [], harness := (true, "720248e3f5d4d418d23a96663af0f628274aede6ee31a65cc317f4eb6ee52a86"), looks := true }, kinds := [], alts := [], laidByText := true, laidKinds := [.data, .data, .data, .sentinel, .sentinel], laidTests := true, laidLooks := .later }
def FlowJoinsCardSaid : Prop := Claim7.holds Tryz.pinned (.plain (OpenSpec.ofChange flowJoinsSpec)) flowJoinsCard

/-- THE TIED CARD OF 'runnellaw7.TypesChannels'. -/
def typesChannelsCard : Claim7 := { stood := { row := typesChannelsRow, standIns := [], harness := (true, "720248e3f5d4d418d23a96663af0f628274aede6ee31a65cc317f4eb6ee52a86"), looks := true }, kinds := [], alts := [], laidByText := true, laidKinds := [.data, .data, .data, .sentinel, .sentinel], laidTests := true, laidLooks := .later }
def TypesChannelsCardSaid : Prop := Claim7.holds Tryz.pinned (.plain (OpenSpec.ofChange typesChannelsSpec)) typesChannelsCard

/-- THE TIED CARD OF 'runnellaw8.FlowEntries'. -/
def flowEntriesCard : Claim7 := { stood := { row := flowEntriesRow, standIns := [], harness := (true, "720248e3f5d4d418d23a96663af0f628274aede6ee31a65cc317f4eb6ee52a86"), looks := true }, kinds := [], alts := [], laidByText := true, laidKinds := [.data, .data, .data, .sentinel, .sentinel], laidTests := true, laidLooks := .later }
def FlowEntriesCardSaid : Prop := Claim7.holds Tryz.pinned (.plain (OpenSpec.ofChange flowEntriesSpec)) flowEntriesCard

/-- THE TIED CARD OF 'runnellaw8.FlowEnds'. -/
def flowEndsCard : Claim7 := { stood := { row := flowEndsRow, standIns := [], harness := (true, "720248e3f5d4d418d23a96663af0f628274aede6ee31a65cc317f4eb6ee52a86"), looks := true }, kinds := [], alts := [], laidByText := true, laidKinds := [.data, .data, .data, .sentinel, .sentinel], laidTests := true, laidLooks := .later }
def FlowEndsCardSaid : Prop := Claim7.holds Tryz.pinned (.plain (OpenSpec.ofChange flowEndsSpec)) flowEndsCard

/-- THE TIED CARD OF 'runnellaw8.FlowReach'. -/
def flowReachCard : Claim7 := { stood := { row := flowReachRow, standIns := [], harness := (true, "720248e3f5d4d418d23a96663af0f628274aede6ee31a65cc317f4eb6ee52a86"), looks := true }, kinds := [], alts := [], laidByText := true, laidKinds := [.data, .data, .data, .sentinel, .sentinel], laidTests := true, laidLooks := .later }
def FlowReachCardSaid : Prop := Claim7.holds Tryz.pinned (.plain (OpenSpec.ofChange flowReachSpec)) flowReachCard

/-- THE SECOND FORM's CARD OF 'runnellaw7.TypesOwner'. -/
def typesOwnerUptoCard : Claim7 := { stood := { row := typesOwnerUptoRow, standIns := [], harness := (true, "720248e3f5d4d418d23a96663af0f628274aede6ee31a65cc317f4eb6ee52a86"), looks := true }, kinds := [], alts := [], laidByText := true, laidKinds := [.data, .data, .data, .sentinel, .sentinel], laidTests := true, laidLooks := .later }
def TypesOwnerUptoCardSaid : Prop := Claim7.holds Tryz.pinned (.plain (OpenSpec.upto typesOwnerSpec)) typesOwnerUptoCard

/-- THE SECOND FORM's CARD OF 'runnellaw8.FlowNodes'. -/
def flowNodesUptoCard : Claim7 := { stood := { row := flowNodesUptoRow, standIns := [], harness := (true, "720248e3f5d4d418d23a96663af0f628274aede6ee31a65cc317f4eb6ee52a86"), looks := true }, kinds := [], alts := [], laidByText := true, laidKinds := [.data, .data, .data, .sentinel, .sentinel], laidTests := true, laidLooks := .later }
def FlowNodesUptoCardSaid : Prop := Claim7.holds Tryz.pinned (.plain (OpenSpec.upto flowNodesSpec)) flowNodesUptoCard

/-- THE SECOND FORM's CARD OF 'runnellaw8.FlowJoins'. -/
def flowJoinsUptoCard : Claim7 := { stood := { row := flowJoinsUptoRow, standIns := [], harness := (true, "720248e3f5d4d418d23a96663af0f628274aede6ee31a65cc317f4eb6ee52a86"), looks := true }, kinds := [], alts := [], laidByText := true, laidKinds := [.data, .data, .data, .sentinel, .sentinel], laidTests := true, laidLooks := .later }
def FlowJoinsUptoCardSaid : Prop := Claim7.holds Tryz.pinned (.plain (OpenSpec.upto flowJoinsSpec)) flowJoinsUptoCard

/-- THE SECOND FORM's CARD OF 'runnellaw7.TypesChannels'. -/
def typesChannelsUptoCard : Claim7 := { stood := { row := typesChannelsUptoRow, standIns := [], harness := (true, "720248e3f5d4d418d23a96663af0f628274aede6ee31a65cc317f4eb6ee52a86"), looks := true }, kinds := [], alts := [], laidByText := true, laidKinds := [.data, .data, .data, .sentinel, .sentinel], laidTests := true, laidLooks := .later }
def TypesChannelsUptoCardSaid : Prop := Claim7.holds Tryz.pinned (.plain (OpenSpec.upto typesChannelsSpec)) typesChannelsUptoCard

/-- THE SECOND FORM's CARD OF 'runnellaw8.FlowEntries'. -/
def flowEntriesUptoCard : Claim7 := { stood := { row := flowEntriesUptoRow, standIns := [], harness := (true, "720248e3f5d4d418d23a96663af0f628274aede6ee31a65cc317f4eb6ee52a86"), looks := true }, kinds := [], alts := [], laidByText := true, laidKinds := [.data, .data, .data, .sentinel, .sentinel], laidTests := true, laidLooks := .later }
def FlowEntriesUptoCardSaid : Prop := Claim7.holds Tryz.pinned (.plain (OpenSpec.upto flowEntriesSpec)) flowEntriesUptoCard

/-- THE SECOND FORM's CARD OF 'runnellaw8.FlowEnds'. -/
def flowEndsUptoCard : Claim7 := { stood := { row := flowEndsUptoRow, standIns := [], harness := (true, "720248e3f5d4d418d23a96663af0f628274aede6ee31a65cc317f4eb6ee52a86"), looks := true }, kinds := [], alts := [], laidByText := true, laidKinds := [.data, .data, .data, .sentinel, .sentinel], laidTests := true, laidLooks := .later }
def FlowEndsUptoCardSaid : Prop := Claim7.holds Tryz.pinned (.plain (OpenSpec.upto flowEndsSpec)) flowEndsUptoCard

/-- THE SECOND FORM's CARD OF 'runnellaw8.FlowReach'. -/
def flowReachUptoCard : Claim7 := { stood := { row := flowReachUptoRow, standIns := [], harness := (true, "720248e3f5d4d418d23a96663af0f628274aede6ee31a65cc317f4eb6ee52a86"), looks := true }, kinds := [], alts := [], laidByText := true, laidKinds := [.data, .data, .data, .sentinel, .sentinel], laidTests := true, laidLooks := .later }
def FlowReachUptoCardSaid : Prop := Claim7.holds Tryz.pinned (.plain (OpenSpec.upto flowReachSpec)) flowReachUptoCard
end Rows
end Go.Proofs.YtkomdppjelnpdaaGreatDoor
