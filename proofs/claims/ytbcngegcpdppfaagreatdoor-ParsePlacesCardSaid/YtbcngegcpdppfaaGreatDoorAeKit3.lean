/-
  AE, part 11: a loop told by what it changes. Own metatheory over any program; no statement of the seat is proved here.
-/
import Derived.Test.YtbcngegcpdppfaaGreatDoorAeKit2
namespace Go.AE

/-- some slots of a frame -/
def rst (t : List (Nat × AV)) : List Nat → List (Nat × AV)
  | [] => []
  | d :: l => (d, look t d) :: rst t l
/-- a heap, some blocks of it others -/
def upK (K : List ABlk) : List (Nat × ABlk) → List ABlk
  | [] => K
  | (r, b) :: l => setN (upK K l) r b
def upLe (K : List ABlk) : List (Nat × ABlk) → Prop
  | [] => True
  | (r, b) :: l => (∀ b0, nth K r = some b0 → b0.le b) ∧ upLe K l

theorem subE_append {t a b : List (Nat × AV)} (h : subE t a) (h' : subE t b) : subE t (a ++ b) := by
  induction a with
  | nil => exact h'
  | cons x l ih => exact ⟨h.1, ih h.2⟩
theorem subE_rst (t : List (Nat × AV)) (l : List Nat) : subE t (rst t l) := by
  induction l with
  | nil => trivial
  | cons d l ih => exact ⟨AV.le_refl _, ih⟩
theorem lesK_setN {K K' : List ABlk} (h : lesK K K') : ∀ (r : Nat) (b : ABlk), (∀ b0, nth K r = some b0 → b0.le b) → lesK K (setN K' r b) := by
  induction K generalizing K' with
  | nil =>
    intro r b _
    cases K' with
    | nil => exact h
    | cons a l => exact h.elim
  | cons a l ih =>
    intro r b hb
    cases K' with
    | nil => exact h.elim
    | cons a' l' =>
      cases r with
      | zero => exact ⟨hb a rfl, h.2⟩
      | succ r => exact ⟨h.1, ih h.2 r b hb⟩
theorem lesK_up {K : List ABlk} {l : List (Nat × ABlk)} (h : upLe K l) : lesK K (upK K l) := by
  induction l with
  | nil => exact lesK.refl K
  | cons x l ih => exact lesK_setN (ih h.2) _ _ h.1

theorem loop_up {kb : Nat} {F : AS → (Ex → AS → Prop) → Prop} {Q : Ex → AS → Prop} {t : List (Nat × AV)} {K : List ABlk} {ι : Type} (keep : List Nat) (ts : ι → List (Nat × AV)) (up : ι → List (Nat × ABlk)) (Pre : ι → Prop) (μ : ι → Nat) (i : ι)
    (ht : subE t (ts i)) (hK : upLe K (up i)) (hi : Pre i)
    (h : ∀ (X : AS → Prop), (∀ s s', Le kb s s' → X s' → X s) → ∀ i, Pre i → (∀ j, μ j < μ i → Pre j → X ⟨ts j ++ rst t keep, upK K (up j)⟩) → F ⟨ts i ++ rst t keep, upK K (up i)⟩ (fun e s' => match e with | .norm => X s' | e => Q e s')) :
    LoopW kb F ⟨t, K⟩ Q :=
  loop_by (fun i => ⟨ts i ++ rst t keep, upK K (up i)⟩) Pre μ i (subE_append ht (subE_rst t keep)) (lesK_up hK) hi h

theorem upLe1 {K : List ABlk} {r : Nat} {b0 b : ABlk} (h0 : nth K r = some b0) (h : b0.le b) : ∀ b1, nth K r = some b1 → b1.le b := fun b1 h1 => by
  rw [h0] at h1; injection h1 with h1; rw [← h1]; exact h

end Go.AE
