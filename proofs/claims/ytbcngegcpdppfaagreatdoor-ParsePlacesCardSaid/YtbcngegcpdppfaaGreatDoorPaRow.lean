/-
  Parser, part 5: the function that reads operands with signs between, row by row, and all expressions by depth. No statement of the seat is proved here.
-/
import Derived.Test.YtbcngegcpdppfaaGreatDoorPaExpr
namespace Go.Proofs.YtbcngegcpdppfaaGreatDoor
open Go.AE Go.Ru
set_option maxRecDepth 100000
set_option pp.maxSteps 1000

structure LS where
  x : Int
  ts : List Tok
  ns : List Nd
  mo : Int
  n : Nat

theorem rowLoop_no {l : List Bs} {o : M Int} {n : Nat} {x : Int} {s : PS} (h : anyS l s.ts = false) : rowLoop l o n x s = .ok x s := by
  cases n with
  | zero => rfl
  | succ n =>
    unfold rowLoop
    split
    · rfl
    · rename_i t r ht
      rw [ht] at h
      rw [h]
theorem anyS_cons {l : List Bs} {ts : List Tok} (h : anyS l ts = true) : ∃ t r, ts = t :: r := by
  cases ts with
  | nil =>
    induction l with
    | nil => simp [anyS] at h
    | cons w l ih =>
      simp only [anyS, List.any_cons, isS, Bool.false_or] at h ih
      exact ih h
  | cons t r => exact ⟨t, r, rfl⟩
theorem rowS_len (j : Nat) : (rowS j).length < 1000 := by
  unfold rowS
  split <;> simp

theorem expr_step {D J : Nat} (hU : COk 110 (cUna D)) (hE : COk 66 (cExJ D J)) : COk 66 (cExJ D (J + 1)) := by
  rintro args K k ⟨d, j, e, ts, ns, mo, op, kk, X, rfl, rfl, ho, hkk, hd, hj, hJ, hf, hk⟩
  refine frameP (gE_ok hU hE) 9 rfl fun Q hr hp => ?_
  cases j with
  | zero =>
    conv => whnf
    refine two_true (by simp; omega) ?_
    conv => whnf
    refine ⟨d, _, _, _, _, _, _, rfl, rfl, ho, hd, hf, ⟨fun x ts' ns' mo' h => ?_, fun a er h => ?_⟩⟩
    · conv => whnf
      exact hr _ _ _ _ _ _ rfl rfl (hk.ok _ _ _ _ h)
    · conv => whnf
      exact hp _ _ rfl (hk.bad _ _ h)
  | succ j =>
    conv => whnf
    refine two_false (by simp; omega) ?_
    conv => whnf
    refine ⟨d, j, _, _, _, _, _, _, _, rfl, rfl, ho, by rw [w64 (by omega)]; omega, hd, by omega, by omega, hf, ⟨fun x ts' ns' mo' h => ?_, fun a er h => ?_⟩⟩
    · conv => whnf
      have hl := expr_le (una_le e d) j _ _ _ h
      have h0 : exprS (unaS e d) (j + 1) ⟨ts, ns, mo⟩ = rowLoop (rowS j) (exprS (unaS e d) j) ts'.length x ⟨ts', ns', mo'⟩ := by
        simp only [exprS, h, R.bind]
      rw [h0] at hk
      generalize hR0 : rowLoop (rowS j) (exprS (unaS e d) j) ts'.length x ⟨ts', ns', mo'⟩ = R0 at hk
      refine loop_by (ι := LS) (fun i => ⟨[(0, pp), (1, .p (.int .i64 kk)), (5, intV i.x)], encP e i.ts i.ns op i.mo⟩)
        (fun i => i.ts.length ≤ i.n ∧ i.ns.length + 4 * i.ts.length ≤ 900000 ∧ rowLoop (rowS j) (exprS (unaS e d) j) i.n i.x ⟨i.ts, i.ns, i.mo⟩ = R0)
        (fun i => i.ts.length) ⟨x, ts', ns', mo', ts'.length⟩ ⟨AV.le_refl _, AV.le_refl _, AV.le_refl _, trivial⟩ (lesK.refl _) ⟨Nat.le_refl _, ?_, ?_⟩ ?_
      · simp only [Fine, Lw] at hf hl ⊢; omega
      · exact hR0
      have hd4 := hf.1
      clear hR0 h h0 hl hf
      rintro Y hle ⟨x, ts, ns, mo, n⟩ ⟨hn, hb, hR⟩ ih
      simp only at hn hb hR
      conv => whnf
      refine ⟨j, kk, by omega, rfl, by omega, ?_⟩
      conv => whnf
      refine ⟨_, _, _, _, _, _, _, rfl, rfl, rowS_len j, ?_⟩
      conv => whnf
      refine two_intro (fun h1 => ?_) (fun h1 => ?_)
      · obtain ⟨t, r, rfl⟩ := anyS_cons h1
        conv => whnf
        refine ⟨_, _, _, _, _, _, _, rfl, rfl, ?_⟩
        conv => whnf
        cases n with
        | zero => simp at hn
        | succ n =>
        simp only [List.length_cons] at hn hb
        refine ⟨d, j, _, _, _, _, _, _, _, rfl, rfl, ho, by rw [w64 (by omega)]; omega, hd, by omega, by omega, ⟨hd4, by show ns.length + 4 * r.length ≤ 900000; omega⟩, ⟨fun y ts2 ns2 mo2 h => ?_, fun a er h => ?_⟩⟩
        · have hl := expr_le (una_le e d) j _ _ _ h
          simp only [Lw] at hl
          conv => whnf
          refine ⟨[x, y], _, _, _, _, _, _, _, _, _, _, _, rfl, rfl, PutK.slr ?_ rfl rfl rfl (allLt_ok ⟨⟨trivial, rfl⟩, rfl⟩) ?_⟩
          · omega
          conv => whnf
          refine hle _ _ (AE.Le.cutEnv 2 rfl rfl ⟨rfl, fun i _ => rfl, trivial⟩ ?_ (lesK.refl _)) (ih ⟨ns2.length, ts2, ns2 ++ [⟨27, 0, t.at_, t.tx, [x, y]⟩], mo2, n⟩ ?_ ⟨?_, ?_, ?_⟩)
          · exact ⟨AV.le_refl _, AV.le_refl _, AV.le_refl _, trivial⟩
          · simp only [List.length_cons]; omega
          · simp only; omega
          · simp only [List.length_append, List.length_cons, List.length_nil]; omega
          · rw [← hR]
            simp only at h
            have h1 : anyS (rowS j) (t :: r) = true := h1
            simp only [rowLoop, h1, h, R.bind, putS]
        · simp only at h
          have h1 : anyS (rowS j) (t :: r) = true := h1
          simp only [rowLoop, h1, h, R.bind] at hR
          subst hR
          conv => whnf
          exact hp _ _ rfl (hk.bad _ _ rfl)
      · rw [rowLoop_no h1] at hR
        subst hR
        conv => whnf
        exact hr _ _ _ _ _ _ rfl rfl (hk.ok _ _ _ _ rfl)
    · conv => whnf
      exact hp _ _ rfl (hk.bad _ _ (by simp only [exprS, h, R.bind]))
end Go.Proofs.YtbcngegcpdppfaaGreatDoor
