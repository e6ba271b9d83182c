/-
  THE ROW OF ParsePlaces.
-/
import Derived.Test.YtbcngegcpdppfaaGreatDoorPlaces
import Derived.Test.YtbcngegcpdppfaaGreatDoorRow
import Derived.Handed
import Derived.ChangeMaps5
import Derived.LaidOnce
import Derived.Stop.Joined
namespace Go.Proofs.YtbcngegcpdppfaaGreatDoor
open Go.AE Go.Ru Go.RowKit Go.ChangeShapes Go.WideShapes Go.ChangeAt Go.ChangeMaps

theorem seat_own : ownKnob Tryz.prog.godebug = none := by kernel_rfl
theorem door_met (os : Os) (args : Array Value) : laidMetH Tryz.prog Rows.parsePlacesRow.laid ((World.doorLaid Tryz.prog 62 os).forCall (fun _ _ => 0) ⟨#[], args, []⟩).memory :=
  laidMetH_of_parts3 (fuel := 8) (laidMet_of_run' 8 (by kernel_rfl) (by kernel_rfl)) (by kernel_rfl) (by kernel_rfl)

set_option maxRecDepth 100000 in
theorem places_lifted (os : Os) (started : os.Started) (H : Type) (enc : TypeId × Value → H) :
    ReturnsInHanded {} Tryz.checked os 4 .any (fun w args => (Rows.parsePlacesSpec.pre enc Tryz.prog Tryz.f4 [] false w args ∧ laidMetH Tryz.prog Rows.parsePlacesRow.laid w) ∧ sizedMet enc Tryz.prog Tryz.f4 (OpenSpec.ofChange Rows.parsePlacesSpec) false w args)
      (Rows.parsePlacesSpec.post enc Tryz.prog Tryz.f4 false true false false) := by
  refine returnsInHanded_of_calls (C := Tryz.checked) seat_own started (by kernel_rfl) (ChangeSpec.witness_shaped (enc := enc) (C := Tryz.checked) (os := os) (fn := Tryz.f4) (X := fun w _ => laidMetH Tryz.prog Rows.parsePlacesRow.laid w) false (World.doorLaid Tryz.prog 62 os) #[.string ⟨#[]⟩] 8 rfl (World.shaped_of_RefB (by kernel_rfl) (by kernel_rfl)) (by kernel_rfl) (by kernel_rfl) (by kernel_rfl) (door_met os _)) ?_
  intro w tape i _ hsh _ hok hpre hholds
  obtain ⟨_, _, _, fn', hfn', _, _, _, _, hval0⟩ := hok
  have e : fn' = Tryz.f4 := Option.some.inj (hfn'.symm.trans Tryz.func4)
  subst e
  obtain ⟨⟨⟨ds, gs, before, hw, hc⟩, hx⟩, hz⟩ := hpre
  have hW' := DataW.Whole.of_heap (w' := w.forCall tape i) (by rfl) hw
  have hx' : laidMetH Tryz.prog Rows.parsePlacesRow.laid (w.forCall tape i) := hx.of_heap (by rfl)
  generalize w.forCall tape i = W at hsh hW' hx' hval0 ⊢
  generalize i.args = args at hW' hval0 ⊢
  have hg := gfacts_of hsh hx'
  have hval : ∀ (j : Nat) t v, Tryz.f4.params[j]? = some t → args[j]? = some v → Value.okWide Tryz.prog W .any w.heap.size t v := hval0
  have hW := hW'
  obtain ⟨p, q, hA0, hV0, rfl, hfz, hnd⟩ := hW
  have hA : DataW.TrodAll enc Tryz.prog W 0 (fun _ => true) true Tryz.f4.params.toList args.toList ds p := hA0
  have hV : DataW.TrodVars enc Tryz.prog W (fun _ => true) [] gs q := hV0
  rw [Tryz.params4] at hA hval
  obtain ⟨v0, d0, rfl, rfl, h0⟩ := trodAll_one hA
  obtain ⟨s, rfl, rfl, rfl, hs⟩ := open_string Tryz.underlying9 (hval 0 9 v0 rfl rfl) h0
  obtain ⟨rfl, rfl⟩ : gs = [] ∧ q = [] := by
    cases gs with
    | nil => exact ⟨rfl, hV⟩
    | cons g r => exact absurd hV (by intro h; cases h)
  have hVL : VL W mp0 [.p (.str s.data.toList)] #[.string s] := ⟨rfl, fun j hj hj' => by
    have : j = 0 := by simpa using hj
    subst this; exact .p _ _ (.str s _ rfl)⟩
  refine (calls_true hg hVL (places_calls s.data.toList [] _ rfl)).mono fun e W' ⟨he, h1, h2, h3, h4, h5⟩ => ?_
  subst he
  have hk : W.keptBut W' (fun _ => False) := ⟨h1, h3, fun i hi => by
    rw [h5 i hi]
    cases W.heap[i]? with
    | none => trivial
    | some o => cases o <;> simp⟩
  refine ChangeSpec.post_blind (v := .bool true) ?_
  refine ⟨_, _, _, [], [], [], hW', ?_, ?_, ?_, ?_, fun h => by cases h⟩
  · exact trodAll_mk1 (shut_bool Tryz.underlying4 true)
  · exact trodAll_mk1 (shut_string Tryz.underlying9 hs)
  · rfl
  · exact World.keptBut_mono (fun p hp => hp.elim) hk
end Go.Proofs.YtbcngegcpdppfaaGreatDoor
