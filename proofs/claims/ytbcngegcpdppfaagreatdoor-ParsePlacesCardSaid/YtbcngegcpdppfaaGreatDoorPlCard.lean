/-
  THE CARD OF ParsePlaces.
-/
import Derived.Test.YtbcngegcpdppfaaGreatDoorPlRow
import Derived.Test.YtbcngegcpdppfaaGreatDoorTie
import Derived.Test.YtbcngegcpdppfaaGreatDoorCards
import Derived.SevenTiedAt
namespace Go.Proofs.YtbcngegcpdppfaaGreatDoor
open Go

theorem places_row : Rows.ParsePlacesSaid :=
  OpenClaim.holds_of_wide 4 Tryz.f4 rfl rfl rfl rfl rfl rfl rfl ⟨rfl, rfl, rfl, rfl, rfl⟩ rfl rfl rfl rfl rfl (by kernel_rfl) Tryz.func4 (by kernel_rfl)
    (of_decide_eq_true (by kernel_rfl)) (by unfold Func.isWrapper; rw [if_neg (of_decide_eq_false (by kernel_rfl))]; exact ⟨rfl, rfl⟩)
    (fun os started H enc _ => places_lifted os started H enc)

theorem places_card : Rows.ParsePlacesCardSaid :=
  Claim7.holds_tied_plain_at .later [] [.data, .data, .data, .sentinel, .sentinel] true (true, "2a28375363cf41e67b83da84cda164902924dc5bdcf4819147b6e3c9ee6fbfe3") true
    places_row (fun _ h => by cases h) (by kernel_rfl) (fun _ h => by cases h) parsePlaces_row_tie rfl ⟨rfl, rfl⟩ (by kernel_rfl) rfl
    (fun f fn hf hfn => by
      obtain rfl : f = 4 := Option.some.inj ((show Tryz.prog.funcNamed "runnel/runnellaw5.ParsePlaces" = some 4 by kernel_rfl).symm.trans hf) |>.symm
      obtain rfl : fn = Tryz.f4 := (Option.some.inj (Tryz.func4.symm.trans hfn)).symm
      exact ⟨by kernel_rfl, fun j t ht => by
        rw [Tryz.params4] at ht
        have h3 : t = 9 := by
          rcases j with _ | j
          · simpa using ht.symm
          · simp at ht
        subst h3
        exact (show Tryz.prog.wantsStandIn 9 = false by kernel_rfl)⟩)
    (by kernel_rfl)
#print axioms places_card
end Go.Proofs.YtbcngegcpdppfaaGreatDoor
