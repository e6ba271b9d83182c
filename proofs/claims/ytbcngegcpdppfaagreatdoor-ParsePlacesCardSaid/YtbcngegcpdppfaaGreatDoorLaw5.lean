/-
  The statement ParsePlaces: what the program computes. No statement of the seat is proved here.
-/
import Derived.Test.YtbcngegcpdppfaaGreatDoorShown
namespace Go.Proofs.YtbcngegcpdppfaaGreatDoor
open Go.AE Go.Ru
set_option maxRecDepth 100000
set_option pp.maxSteps 3000

/-- where tokens begin, the one at the end too -/
def atsS (e : Int) (ts : List Tok) : List Int := ts.map (·.at_) ++ [e]
def toldS (e : Int) (ts : List Tok) (n er : Int) : Bool := if er == 0 || er == 8 then n == 0 else (atsS e ts).any (· == n) || (er == 6 && n == 0)
theorem encs_ats (e : Int) (ts : List Tok) (i : Nat) : ∃ kk nn tx, encs e ts i = [.int .i64 kk, .int .i64 nn, .int .i64 ((atsS e ts).getD i e), .str tx] := by
  induction ts generalizing i with
  | nil => exact ⟨5, 0, [], by cases i <;> simp [encs, atsS]⟩
  | cons t r ih =>
    cases i with
    | zero => exact ⟨_, _, _, rfl⟩
    | succ i =>
      obtain ⟨a, b, c, h⟩ := ih i
      exact ⟨a, b, c, by simpa [encs, atsS] using h⟩
theorem ats_len (e : Int) (ts : List Tok) : (atsS e ts).length = ts.length + 1 := by simp [atsS]

def cTold : AC := fun args K k => ∃ (e : Int) (ts : List Tok) (n er : Int), args = [.p (.sl 4 (ts.length + 1) (encs e ts)), .p (.int .i64 n), .p (.int .i64 er)] ∧ ts.length < 1000000 ∧ k (.ret (.p (.bool (toldS e ts n er)))) K
theorem told_ok : COk 15 cTold := by
  rintro args K k ⟨e, ts, n, er, rfl, hts, hk⟩
  refine frame0P g0_ok 19 rfl fun Q hr => ?_
  unfold toldS at hk
  have hret : (er == 0 || er == 8) = true → k (.ret (.p (.bool (n == 0)))) K := fun h => by rwa [if_pos h] at hk
  have hgo : (er == 0 || er == 8) = false → k (.ret (.p (.bool ((atsS e ts).any (· == n) || (er == 6 && n == 0))))) K := fun h => by rwa [if_neg (by simp [h])] at hk
  conv => whnf
  refine two_intro (fun h => ?_) (fun h => ?_)
  · conv => whnf
    exact hr _ _ rfl (hret (by rw [h]; rfl))
  conv => whnf
  refine two_intro (fun h2 => ?_) (fun h2 => ?_)
  · conv => whnf
    exact hr _ _ rfl (hret (by rw [h2]; simp))
  have hgo := hgo (by rw [h, h2]; rfl)
  clear hk hret
  conv => whnf
  refine loop_by (ι := Nat) (fun i => ⟨[(0, .p (.sl 4 (ts.length + 1) (encs e ts))), (1, .p (.int .i64 n)), (2, .p (.int .i64 er)), (7, .p (.int .i64 i))], []⟩)
    (fun i => i ≤ ts.length + 1 ∧ ∀ j, j < i → (atsS e ts).getD j e ≠ n) (fun i => ts.length + 1 - i) 0 ⟨AV.le_refl _, AV.le_refl _, AV.le_refl _, AV.le_refl _, trivial⟩ (lesK.refl _) ⟨Nat.zero_le _, fun j hj => by omega⟩ ?_
  intro Y hle i ⟨hi, hno⟩ ih
  have hd1 : decide ((i : Int) < ((ts.length + 1 : Nat) : Int)) = decide (i < ts.length + 1) := by
    by_cases h : i < ts.length + 1
    · rw [decide_eq_true h, decide_eq_true (by omega)]
    · rw [decide_eq_false h, decide_eq_false (by omega)]
  conv => whnf
  refine two_intro (fun h3 => ?_) (fun h3 => ?_)
  · have h3 := of_decide_eq_true (hd1 ▸ h3)
    obtain ⟨kk, nn, tx, henc⟩ := encs_ats e ts i
    conv => whnf
    refine ⟨⟨by omega, by omega, rfl⟩, ?_⟩
    rw [show encs e ts (Int.toNat (i : Int)) = _ from henc]
    conv => whnf
    refine two_intro (fun h4 => ?_) (fun h4 => ?_)
    · have h4 : ((atsS e ts).getD i e == n) = true := h4
      have hany : (atsS e ts).any (· == n) = true := by
        rw [List.any_eq_true]
        have hlt : i < (atsS e ts).length := by rw [ats_len]; exact h3
        exact ⟨(atsS e ts)[i], List.getElem_mem hlt, by rw [List.getD_eq_getElem?_getD, List.getElem?_eq_getElem hlt] at h4; exact h4⟩
      rw [hany] at hgo
      conv => whnf
      exact hr _ _ rfl hgo
    · have h4 : ((atsS e ts).getD i e == n) = false := h4
      conv => whnf
      refine hle _ _ (Le.cutEnv 0 rfl rfl trivial ?e1 ?e2) (ih (i + 1) (by omega) ⟨by omega, fun j hj => ?_⟩)
      case e1 =>
        (conv => whnf)
        refine ⟨AV.le_refl _, ?_⟩
        (conv => whnf)
        refine ⟨AV.le_refl _, ?_⟩
        (conv => whnf)
        refine ⟨AV.le_refl _, ?_⟩
        (conv => whnf)
        refine ⟨AV.le_of_eq (congrArg (fun x => AV.p (.int .i64 x)) (show IntKind.i64.wrap ((i : Int) + 1) = ((i + 1 : Nat) : Int) by rw [w64 ⟨by omega, by omega⟩]; omega)), ?_⟩
        (conv => whnf)
        exact trivial
      case e2 =>
        (conv => whnf)
        exact trivial
      · by_cases e' : j = i
        · subst e'; exact beq_eq_false_iff_ne.1 h4
        · exact hno j (by omega)
  · have h3 := of_decide_eq_false (hd1 ▸ h3)
    have hany : (atsS e ts).any (· == n) = false := by
      rw [List.any_eq_false]
      intro x hx
      obtain ⟨j, hj, rfl⟩ := List.getElem_of_mem hx
      have := hno j (by rw [ats_len] at hj; omega)
      rw [List.getD_eq_getElem?_getD, List.getElem?_eq_getElem hj] at this
      simpa using this
    rw [hany, Bool.false_or] at hgo
    conv => whnf
    refine two_intro (fun h4 => ?_) (fun h4 => ?_)
    · rw [show (er == 6) = true from h4, Bool.true_and] at hgo
      conv => whnf
      exact hr _ _ rfl hgo
    · rw [show (er == 6) = false from h4, Bool.false_and] at hgo
      conv => whnf
      exact hr _ _ rfl hgo

def gPl : AG := gput 8 cShown (gput 12 cCutT (gput 9 (cTop proS) (gput 13 (cTop exprRS) (gput 14 cNest (gput 15 cTold g0)))))
theorem gPl_ok : GOk Tryz.prog gPl := gput_ok shown_ok (gput_ok cutT_ok (gput_ok Program_ok (gput_ok Expr_ok (gput_ok Nest_ok (gput_ok told_ok g0_ok)))))
/-- the plain law -/
def PlacesLaw (s : Bs) : Prop := ∀ ts, s.length ≤ 20000 → cutT s = .ok ts → ((proS s).err == 0 && (exprRS s).err == 0) = false ∧ toldS s.length ts (proS s).place (proS s).err = true ∧ toldS s.length ts (exprRS s).place (exprRS s).err = true
def cPlaces : AC := fun args K k => ∃ s, args = [.p (.str s)] ∧ PlacesLaw s ∧ k (.ret (.p (.bool true))) K
theorem places_ok : COk 4 cPlaces := by
  rintro args K k ⟨s, rfl, hlaw, hk⟩
  refine frame0P gPl_ok 19 rfl fun Q hr => ?_
  conv => whnf
  refine ⟨rfl, ?_⟩
  have hd1 : decide ((s.length : Int) > 1500) = decide (1500 < s.length) := by
    by_cases h : 1500 < s.length
    · rw [decide_eq_true h, decide_eq_true (by omega)]
    · rw [decide_eq_false h, decide_eq_false (by omega)]
  conv => whnf
  refine two_intro (fun h => ?_) (fun h => ?_)
  · conv => whnf
    exact hr _ _ rfl hk
  have h := of_decide_eq_false (hd1 ▸ h)
  conv => whnf
  refine ⟨s, rfl, by omega, fun h2 => by omega, fun _ => ?_⟩
  cases hc : cutT s with
  | bad a =>
    have hp : proS s = .bad a 2 := by
      show readS programS s = _
      unfold readS; rw [if_neg (by omega), hc]
    have hx : exprRS s = .bad a 2 := by
      show readS _ s = _
      unfold readS; rw [if_neg (by omega), hc]
    have hn : nestS s = -1 := by unfold nestS; rw [hp, hx]; rfl
    conv => whnf
    refine ⟨s, rfl, by omega, ?_⟩
    rw [hp]
    conv => whnf
    refine ⟨s, rfl, by omega, ?_⟩
    rw [hx]
    have haa : ((a : Int) == (a : Int)) = true := by simp
    conv => whnf
    refine two_true haa ?_
    conv => whnf
    refine two_true haa ?_
    conv => whnf
    refine ⟨s, rfl, by omega, ?_⟩
    rw [hn]
    conv => whnf
    exact hr _ _ rfl hk
  | ok ts =>
    obtain ⟨h1, h2, h3⟩ := hlaw ts (by omega) hc
    have hln : ts.length ≤ s.length := cutS_len _ _ _ _ hc
    conv => whnf
    refine ⟨s, rfl, by omega, ?_⟩
    cases hp : proS s with
    | ok ns root mo =>
      rw [hp] at h1 h2
      conv => whnf
      refine ⟨s, rfl, by omega, ?_⟩
      cases hx : exprRS s with
      | ok ns2 root2 mo2 => rw [hx] at h1; simp [RR.err] at h1
      | bad a2 er2 =>
        rw [hx] at h1 h3
        have he2 : (er2 == 0) = false := by simpa [RR.err] using h1
        conv => whnf
        refine two_false he2 ?_
        conv => whnf
        refine ⟨s.length, ts, _, _, rfl, by omega, ?_⟩
        rw [show toldS s.length ts 0 0 = true from h2]
        conv => whnf
        refine ⟨s.length, ts, _, _, rfl, by omega, ?_⟩
        rw [show toldS s.length ts a2 er2 = true from h3]
        conv => whnf
        exact hr _ _ rfl hk
    | bad a1 er1 =>
      rw [hp] at h1 h2
      conv => whnf
      refine ⟨s, rfl, by omega, ?_⟩
      cases hx : exprRS s with
      | ok ns2 root2 mo2 =>
        rw [hx] at h1 h3
        have he1 : (er1 == 0) = false := by simpa [RR.err] using h1
        conv => whnf
        refine two_false he1 ?_
        conv => whnf
        refine ⟨s.length, ts, _, _, rfl, by omega, ?_⟩
        rw [show toldS s.length ts a1 er1 = true from h2]
        conv => whnf
        refine ⟨s.length, ts, _, _, rfl, by omega, ?_⟩
        rw [show toldS s.length ts 0 0 = true from h3]
        conv => whnf
        exact hr _ _ rfl hk
      | bad a2 er2 =>
        rw [hx] at h1 h3
        conv => whnf
        refine two_intro (fun he1 => ?_) (fun he1 => ?_)
        · have he1 : (er1 == 0) = true := he1
          have he2 : (er2 == 0) = false := by simpa [RR.err, beq_iff_eq.1 he1] using h1
          conv => whnf
          refine two_false he2 ?_
          conv => whnf
          refine ⟨s.length, ts, _, _, rfl, by omega, ?_⟩
          rw [show toldS s.length ts a1 er1 = true from h2]
          conv => whnf
          refine ⟨s.length, ts, _, _, rfl, by omega, ?_⟩
          rw [show toldS s.length ts a2 er2 = true from h3]
          conv => whnf
          exact hr _ _ rfl hk
        · conv => whnf
          refine ⟨s.length, ts, _, _, rfl, by omega, ?_⟩
          rw [show toldS s.length ts a1 er1 = true from h2]
          conv => whnf
          refine ⟨s.length, ts, _, _, rfl, by omega, ?_⟩
          rw [show toldS s.length ts a2 er2 = true from h3]
          conv => whnf
          exact hr _ _ rfl hk
end Go.Proofs.YtbcngegcpdppfaaGreatDoor
