/-
  DERIVED. GIVEN WITH THE SEED: THE CARDS: each row of YtcmepkfefoidcaaGreatDoorRows.lean that lists a variable, with what it lists TIED to the program's text (the seventh form; the later family's looks); each row that meets fmt, with fmt's text TOLD by the authors' own Lean function (tested against real Go, not proved from fmt's source: count such statements apart). THE CARD IS WHAT COUNTS. Prove the row's statement (the work); the ties are given (YtcmepkfefoidcaaGreatDoorTie.lean); close each card by the builder's one call (the guide's Derived/Test/ToyasCard.lean, 'card_holds'). Laid BY PROGRAM, IN A SANDBOX (cutbox-door.mjs). By AI agents, Wed Nov 11 2026. No macro, syntax, notation, axiom, sorry.
-/
import Derived.Test.YtcmepkfefoidcaaGreatDoorRows
import GoSem.ClaimSeven
namespace Go.Proofs.YtcmepkfefoidcaaGreatDoor
namespace Rows

/-- THE TIED CARD OF 'runnellaw11.PostChains'. -/
def postChainsCard : Claim7 := { stood := { row := postChainsRow, standIns := [], harness := (true, "28da1a0e0f6494e357789c76b1329e26682d91c93a1323e3f4532df97100e5a2"), looks := true }, kinds := [], alts := [], laidByText := true, laidKinds := [.data, .data, .data, .sentinel, .sentinel], laidTests := true, laidLooks := .later }
def PostChainsCardSaid : Prop := Claim7.holds Tryz.pinned (.plain (OpenSpec.ofChange postChainsSpec)) postChainsCard

/-- THE TIED CARD OF 'runnellaw11.PostPrograms'. -/
def postProgramsCard : Claim7 := { stood := { row := postProgramsRow, standIns := [], harness := (true, "28da1a0e0f6494e357789c76b1329e26682d91c93a1323e3f4532df97100e5a2"), looks := true }, kinds := [], alts := [], laidByText := true, laidKinds := [.data, .data, .data, .sentinel, .sentinel], laidTests := true, laidLooks := .later }
def PostProgramsCardSaid : Prop := Claim7.holds Tryz.pinned (.plain (OpenSpec.ofChange postProgramsSpec)) postProgramsCard

/-- THE TIED CARD OF 'runnellaw11.PostWays'. -/
def postWaysCard : Claim7 := { stood := { row := postWaysRow, standIns := [], harness := (true, "28da1a0e0f6494e357789c76b1329e26682d91c93a1323e3f4532df97100e5a2"), looks := true }, kinds := [], alts := [], laidByText := true, laidKinds := [.data, .data, .data, .sentinel, .sentinel], laidTests := true, laidLooks := .later }
def PostWaysCardSaid : Prop := Claim7.holds Tryz.pinned (.plain (OpenSpec.ofChange postWaysSpec)) postWaysCard

/-- THE TIED CARD OF 'runnellaw11.PostOrder'. -/
def postOrderCard : Claim7 := { stood := { row := postOrderRow, standIns := [], harness := (true, "28da1a0e0f6494e357789c76b1329e26682d91c93a1323e3f4532df97100e5a2"), looks := true }, kinds := [], alts := [], laidByText := true, laidKinds := [.data, .data, .data, .sentinel, .sentinel], laidTests := true, laidLooks := .later }
def PostOrderCardSaid : Prop := Claim7.holds Tryz.pinned (.plain (OpenSpec.ofChange postOrderSpec)) postOrderCard

/-- THE TIED CARD OF 'runnellaw11.PostCommon'. -/
def postCommonCard : Claim7 := { stood := { row := postCommonRow, standIns := [], harness := (true, "28da1a0e0f6494e357789c76b1329e26682d91c93a1323e3f4532df97100e5a2"), looks := true }, kinds := [], alts := [], laidByText := true, laidKinds := [.data, .data, .data, .sentinel, .sentinel], laidTests := true, laidLooks := .later }
def PostCommonCardSaid : Prop := Claim7.holds Tryz.pinned (.plain (OpenSpec.ofChange postCommonSpec)) postCommonCard

/-- THE TIED CARD OF 'runnellaw12.RuleBoth'. -/
def ruleBothCard : Claim7 := { stood := { row := ruleBothRow, standIns := [], harness := (true, "28da1a0e0f6494e357789c76b1329e26682d91c93a1323e3f4532df97100e5a2"), looks := true }, kinds := [], alts := [], laidByText := true, laidKinds := [.data, .data, .data, .sentinel, .sentinel], laidTests := true, laidLooks := .later }
def RuleBothCardSaid : Prop := Claim7.holds Tryz.pinned (.plain (OpenSpec.ofChange ruleBothSpec)) ruleBothCard

/-- THE TIED CARD OF 'runnellaw12.RulePost'. -/
def rulePostCard : Claim7 := { stood := { row := rulePostRow, standIns := [], harness := (true, "28da1a0e0f6494e357789c76b1329e26682d91c93a1323e3f4532df97100e5a2"), looks := true }, kinds := [], alts := [], laidByText := true, laidKinds := [.data, .data, .data, .sentinel, .sentinel], laidTests := true, laidLooks := .later }
def RulePostCardSaid : Prop := Claim7.holds Tryz.pinned (.plain (OpenSpec.ofChange rulePostSpec)) rulePostCard

/-- THE TIED CARD OF 'runnellaw12.RuleExits'. -/
def ruleExitsCard : Claim7 := { stood := { row := ruleExitsRow, standIns := [], harness := (true, "28da1a0e0f6494e357789c76b1329e26682d91c93a1323e3f4532df97100e5a2"), looks := true }, kinds := [], alts := [], laidByText := true, laidKinds := [.data, .data, .data, .sentinel, .sentinel], laidTests := true, laidLooks := .later }
def RuleExitsCardSaid : Prop := Claim7.holds Tryz.pinned (.plain (OpenSpec.ofChange ruleExitsSpec)) ruleExitsCard

/-- THE TIED CARD OF 'runnellaw12.RulePrograms'. -/
def ruleProgramsCard : Claim7 := { stood := { row := ruleProgramsRow, standIns := [], harness := (true, "28da1a0e0f6494e357789c76b1329e26682d91c93a1323e3f4532df97100e5a2"), looks := true }, kinds := [], alts := [], laidByText := true, laidKinds := [.data, .data, .data, .sentinel, .sentinel], laidTests := true, laidLooks := .later }
def RuleProgramsCardSaid : Prop := Claim7.holds Tryz.pinned (.plain (OpenSpec.ofChange ruleProgramsSpec)) ruleProgramsCard

/-- THE SECOND FORM's CARD OF 'runnellaw11.PostChains'. -/
def postChainsUptoCard : Claim7 := { stood := { row := postChainsUptoRow, standIns := [], harness := (true, "28da1a0e0f6494e357789c76b1329e26682d91c93a1323e3f4532df97100e5a2"), looks := true }, kinds := [], alts := [], laidByText := true, laidKinds := [.data, .data, .data, .sentinel, .sentinel], laidTests := true, laidLooks := .later }
def PostChainsUptoCardSaid : Prop := Claim7.holds Tryz.pinned (.plain (OpenSpec.upto postChainsSpec)) postChainsUptoCard

/-- THE SECOND FORM's CARD OF 'runnellaw11.PostPrograms'. -/
def postProgramsUptoCard : Claim7 := { stood := { row := postProgramsUptoRow, standIns := [], harness := (true, "28da1a0e0f6494e357789c76b1329e26682d91c93a1323e3f4532df97100e5a2"), looks := true }, kinds := [], alts := [], laidByText := true, laidKinds := [.data, .data, .data, .sentinel, .sentinel], laidTests := true, laidLooks := .later }
def PostProgramsUptoCardSaid : Prop := Claim7.holds Tryz.pinned (.plain (OpenSpec.upto postProgramsSpec)) postProgramsUptoCard

/-- THE SECOND FORM's CARD OF 'runnellaw11.PostWays'. -/
def postWaysUptoCard : Claim7 := { stood := { row := postWaysUptoRow, standIns := [], harness := (true, "28da1a0e0f6494e357789c76b1329e26682d91c93a1323e3f4532df97100e5a2"), looks := true }, kinds := [], alts := [], laidByText := true, laidKinds := [.data, .data, .data, .sentinel, .sentinel], laidTests := true, laidLooks := .later }
def PostWaysUptoCardSaid : Prop := Claim7.holds Tryz.pinned (.plain (OpenSpec.upto postWaysSpec)) postWaysUptoCard

/-- THE SECOND FORM's CARD OF 'runnellaw11.PostOrder'. -/
def postOrderUptoCard : Claim7 := { stood := { row := postOrderUptoRow, standIns := [], harness := (true, "28da1a0e0f6494e357789c76b1329e26682d91c93a1323e3f4532df97100e5a2"), looks := true }, kinds := [], alts := [], laidByText := true, laidKinds := [.data, .data, .data, .sentinel, .sentinel], laidTests := true, laidLooks := .later }
def PostOrderUptoCardSaid : Prop := Claim7.holds Tryz.pinned (.plain (OpenSpec.upto postOrderSpec)) postOrderUptoCard

/-- THE SECOND FORM's CARD OF 'runnellaw11.PostCommon'. -/
def postCommonUptoCard : Claim7 := { stood := { row := postCommonUptoRow, standIns := [], harness := (true, "28da1a0e0f6494e357789c76b1329e26682d91c93a1323e3f4532df97100e5a2"), looks := true }, kinds := [], alts := [], laidByText := true, laidKinds := [.data, .data, .data, .sentinel, .sentinel], laidTests := true, laidLooks := .later }
def PostCommonUptoCardSaid : Prop := Claim7.holds Tryz.pinned (.plain (OpenSpec.upto postCommonSpec)) postCommonUptoCard

/-- THE SECOND FORM's CARD OF 'runnellaw12.RuleBoth'. -/
def ruleBothUptoCard : Claim7 := { stood := { row := ruleBothUptoRow, standIns := [], harness := (true, "28da1a0e0f6494e357789c76b1329e26682d91c93a1323e3f4532df97100e5a2"), looks := true }, kinds := [], alts := [], laidByText := true, laidKinds := [.data, .data, .data, .sentinel, .sentinel], laidTests := true, laidLooks := .later }
def RuleBothUptoCardSaid : Prop := Claim7.holds Tryz.pinned (.plain (OpenSpec.upto ruleBothSpec)) ruleBothUptoCard

/-- THE SECOND FORM's CARD OF 'runnellaw12.RulePost'. -/
def rulePostUptoCard : Claim7 := { stood := { row := rulePostUptoRow, standIns := [], harness := (true, "28da1a0e0f6494e357789c76b1329e26682d91c93a1323e3f4532df97100e5a2"), looks := true }, kinds := [], alts := [], laidByText := true, laidKinds := [.data, .data, .data, .sentinel, .sentinel], laidTests := true, laidLooks := .later }
def RulePostUptoCardSaid : Prop := Claim7.holds Tryz.pinned (.plain (OpenSpec.upto rulePostSpec)) rulePostUptoCard

/-- THE SECOND FORM's CARD OF 'runnellaw12.RuleExits'. -/
def ruleExitsUptoCard : Claim7 := { stood := { row := ruleExitsUptoRow, standIns := [], harness := (true, "28da1a0e0f6494e357789c76b1329e26682d91c93a1323e3f4532df97100e5a2"), looks := true }, kinds := [], alts := [], laidByText := true, laidKinds := [.data, .data, .data, .sentinel, .sentinel], laidTests := true, laidLooks := .later }
def RuleExitsUptoCardSaid : Prop := Claim7.holds Tryz.pinned (.plain (OpenSpec.upto ruleExitsSpec)) ruleExitsUptoCard

/-- THE SECOND FORM's CARD OF 'runnellaw12.RulePrograms'. -/
def ruleProgramsUptoCard : Claim7 := { stood := { row := ruleProgramsUptoRow, standIns := [], harness := (true, "28da1a0e0f6494e357789c76b1329e26682d91c93a1323e3f4532df97100e5a2"), looks := true }, kinds := [], alts := [], laidByText := true, laidKinds := [.data, .data, .data, .sentinel, .sentinel], laidTests := true, laidLooks := .later }
def RuleProgramsUptoCardSaid : Prop := Claim7.holds Tryz.pinned (.plain (OpenSpec.upto ruleProgramsSpec)) ruleProgramsUptoCard
end Rows
end Go.Proofs.YtcmepkfefoidcaaGreatDoor
