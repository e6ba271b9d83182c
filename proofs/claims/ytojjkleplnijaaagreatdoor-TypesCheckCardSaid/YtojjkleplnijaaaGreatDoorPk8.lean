/-
  The reference of layer 4, part 7: the contracts of kids, Shaped, Right. No statement of the seat is proved here.
  The reference of layer 7: what it says, and that package types says the same. No program in sight; no statement of the seat is proved here.
  The reference of layer 7, part 2: what is wrong with a node. No program in sight; no statement of the seat is proved here.
  The reference of layer 7, part 4: the contracts of owner, of, means, kind, params, plain. No statement of the seat is proved here.
  The reference of layer 7, part 5: the contracts of params, plain, among, typed, all. No statement of the seat is proved here.
  The reference of layer 7, part 6: the contracts of all, told, twice, named, operator. No statement of the seat is proved here.
  The reference of layer 7, part 7: the contracts of operator, call. No statement of the seat is proved here.
  The reference of layer 7, part 8: the contract of call. No statement of the seat is proved here.
  The reference of layer 7, part 2b: what is wrong with a node, kind by kind. No program in sight; no statement of the seat is proved here.
  The reference of layer 7, part 9: the contract of wrong. No statement of the seat is proved here.
  A small tree can be gone through. No statement of the seat is proved here.
  The reference of layer 7, part 10: the contract of Check. No statement of the seat is proved here.
  The statement TypesCheck: the walk. No statement of the seat is proved here.
-/
import Derived.Test.YtojjkleplnijaaaGreatDoorPk6
import Derived.Test.YtojjkleplnijaaaGreatDoorPk7
set_option linter.unusedVariables false
set_option linter.unusedSimpArgs false
namespace Go.Proofs.YtojjkleplnijaaaGreatDoor
open Go.AE Go.Ru
set_option maxRecDepth 100000
set_option maxHeartbeats 1000000
def cRKids : AC := fun args K k => ∃ kind l v, args = [intV kind, intsV l] ∧ List.length l < 1000000 ∧ kids4 kind l = v ∧ k (.ret (.p (.bool v))) K
def gQk : AG := gput 198 (cKB stB) (gput 200 (cKB exB) (gput 199 cRAll4 (gput 197 cRises g0)))
theorem gQk_ok : GOk Tryz.prog gQk := gput_ok rst_ok (gput_ok rex_ok (gput_ok rall4_ok (gput_ok rises_ok g0_ok)))
theorem rkids_ok : COk 152 cRKids := by
  rintro args K k ⟨kind, l, v, rfl, hl, rfl, hk⟩
  refine frame0P gQk_ok 19 rfl fun Q hr => ?_
  by_cases h1 : kind = 1
  · subst h1
    conv => whnf
    refine ⟨l, 2, 3, 0, _, rfl, hl, rfl, ?_⟩
    conv => whnf
    exact hr _ _ rfl hk
  by_cases h3 : kind = 3
  · subst h3
    conv => whnf
    refine ⟨l, 4, 5, 6, _, rfl, hl, rfl, ?_⟩
    conv => whnf
    exact hr _ _ rfl hk
  by_cases h6 : kind = 6
  · subst h6
    have hk : k (.ret (.p (.bool (l.all stB)))) K := hk
    conv => whnf
    refine loop_up (ι := Nat) [1] (fun j => [(5, intV j)]) (fun _ => []) (fun j => j ≤ l.length ∧ (l.drop j).all stB = l.all stB) (fun j => l.length - j) 0 ⟨AV.le_refl _, trivial⟩ trivial ⟨Nat.zero_le _, by simp⟩ ?_
    rintro Y hle i ⟨hi, he⟩ ih
    conv => whnf
    refine two_dec (fun h => ?_) (fun h => ?_)
    · have h : i < l.length := by have h : (i : Int) < (l.length : Int) := h; omega
      have h' : (i : Int) < (l.length : Int) := by omega
      have hw1 := wzz (i := i) (by omega)
      have e1 : l.getD i 0 = l[i] := by simp [h]
      rw [List.drop_eq_getElem_cons h, List.all_cons, ← e1] at he
      conv => whnf
      refine ⟨⟨by omega, h', rfl⟩, ?_⟩
      conv => whnf
      cases hx : stB (l.getD i 0) with
      | false =>
        rw [hx, Bool.false_and] at he
        refine ⟨l.getD i 0, false, rfl, hx, ?_⟩
        rw [← he] at hk
        conv => whnf
        exact hr _ _ rfl hk
      | true =>
        rw [hx, Bool.true_and] at he
        refine ⟨l.getD i 0, true, rfl, hx, ?_⟩
        conv => whnf
        refine hle _ _ (Le.env ?_ ?_) (ih (i + 1) (by omega) ⟨by omega, he⟩)
        · skip
          repeat' (first | exact trivial | ((conv => whnf); first | exact trivial | (refine And.intro (AV.le_refl _) ?_) | (refine And.intro (ABlk.le_refl _) ?_) | (refine And.intro (AV.le_of_eq ?_) ?_; (focus ((first | exact congrArg intV hw1 | fail); done))) | (refine And.intro (ABlk.le_of_eq ?_) ?_; (focus ((first | exact congrArg intV hw1 | fail); done))) | fail) | fail)
        · skip
          repeat' (first | exact trivial | ((conv => whnf); first | exact trivial | (refine And.intro (AV.le_refl _) ?_) | (refine And.intro (ABlk.le_refl _) ?_) | (refine And.intro (AV.le_of_eq ?_) ?_; (focus ((first | fail | fail); done))) | (refine And.intro (ABlk.le_of_eq ?_) ?_; (focus ((first | fail | fail); done))) | fail) | fail)
    · obtain rfl : i = l.length := by have h : ¬ (i : Int) < (l.length : Int) := h; omega
      rw [List.drop_length, List.all_nil] at he
      rw [← he] at hk
      conv => whnf
      exact hr _ _ rfl hk
  by_cases h7 : kind = 7
  · subst h7
    conv => whnf
    repeat' (first | (refine two_eq (fun h => ?_) (fun h => ?_) <;> (conv => whnf)) | (refine two_ne (fun h => ?_) (fun h => ?_) <;> (conv => whnf)) | (refine two_not (fun h => ?_) (fun h => ?_) <;> (conv => whnf)) | (refine two_dec (fun h => ?_) (fun h => ?_) <;> (conv => whnf)) | (refine two_intro (fun h => ?_) (fun h => ?_) <;> (conv => whnf)) | (refine Chk.mk ?_ ?_; (focus (((repeat' (refine And.intro ?_ ?_)) <;> (first | omega | rfl | (simp only [List.length_append, List.length_cons, List.length_nil]; omega) | fail)); done)); (conv => whnf)) | (refine And.intro ?_ ?_; (focus (((repeat' (refine And.intro ?_ ?_)) <;> (first | omega | rfl | (simp only [List.length_append, List.length_cons, List.length_nil]; omega) | fail)); done)); (conv => whnf)) | (refine ⟨l, _, _, _, rfl, rfl, fun _ _ => rfl, hl, rfl, ?_⟩; (conv => whnf)) | (refine ⟨l, _, _, _, _, rfl, hl, rfl, ?_⟩; (conv => whnf)) | (refine ⟨_, _, rfl, rfl, ?_⟩; (conv => whnf)) | fail)
    all_goals refine hr _ _ rfl (ret_eq hk (congrArg (fun b => AV.p (.bool b)) ?_))
    all_goals clear hr hk
    all_goals (try simp only [show Int.toNat 0 = 0 from rfl, show Int.toNat 1 = 1 from rfl, show Int.toNat 2 = 2 from rfl] at *)
    all_goals (first | (change (l.length == 1 && l.all exB) = _; have e : (l.length == 1) = true := beq_iff_eq.2 (by omega); rw [e]; first | rfl | ((try generalize l.getD 0 0 = x0 at *); (try generalize l.getD 1 0 = x1 at *); (try generalize l.getD 2 0 = x2 at *); simp [*]; done)) | (change (l.length == 1 && l.all exB) = _; have e : (l.length == 1) = false := beq_eq_false_iff_ne.2 (by omega); rw [e]; rfl) | (change (l.length == 1 && l.all exB) = _; rw [decide_eq_true (by omega : l.length ≤ 1)]; rfl) | (change (l.length == 1 && l.all exB) = _; rw [decide_eq_false (by omega : ¬ l.length ≤ 1)]; rfl) | skip)
  by_cases h15 : kind = 15
  · subst h15
    conv => whnf
    repeat' (first | (refine two_eq (fun h => ?_) (fun h => ?_) <;> (conv => whnf)) | (refine two_ne (fun h => ?_) (fun h => ?_) <;> (conv => whnf)) | (refine two_not (fun h => ?_) (fun h => ?_) <;> (conv => whnf)) | (refine two_dec (fun h => ?_) (fun h => ?_) <;> (conv => whnf)) | (refine two_intro (fun h => ?_) (fun h => ?_) <;> (conv => whnf)) | (refine Chk.mk ?_ ?_; (focus (((repeat' (refine And.intro ?_ ?_)) <;> (first | omega | rfl | (simp only [List.length_append, List.length_cons, List.length_nil]; omega) | fail)); done)); (conv => whnf)) | (refine And.intro ?_ ?_; (focus (((repeat' (refine And.intro ?_ ?_)) <;> (first | omega | rfl | (simp only [List.length_append, List.length_cons, List.length_nil]; omega) | fail)); done)); (conv => whnf)) | (refine ⟨l, _, _, _, rfl, rfl, fun _ _ => rfl, hl, rfl, ?_⟩; (conv => whnf)) | (refine ⟨l, _, _, _, _, rfl, hl, rfl, ?_⟩; (conv => whnf)) | (refine ⟨_, _, rfl, rfl, ?_⟩; (conv => whnf)) | fail)
    all_goals refine hr _ _ rfl (ret_eq hk (congrArg (fun b => AV.p (.bool b)) ?_))
    all_goals clear hr hk
    all_goals (try simp only [show Int.toNat 0 = 0 from rfl, show Int.toNat 1 = 1 from rfl, show Int.toNat 2 = 2 from rfl] at *)
    all_goals (first | (change (l.length == 1 && l.all exB) = _; have e : (l.length == 1) = true := beq_iff_eq.2 (by omega); rw [e]; first | rfl | ((try generalize l.getD 0 0 = x0 at *); (try generalize l.getD 1 0 = x1 at *); (try generalize l.getD 2 0 = x2 at *); simp [*]; done)) | (change (l.length == 1 && l.all exB) = _; have e : (l.length == 1) = false := beq_eq_false_iff_ne.2 (by omega); rw [e]; rfl) | (change (l.length == 1 && l.all exB) = _; rw [decide_eq_true (by omega : l.length ≤ 1)]; rfl) | (change (l.length == 1 && l.all exB) = _; rw [decide_eq_false (by omega : ¬ l.length ≤ 1)]; rfl) | skip)
  by_cases h17 : kind = 17
  · subst h17
    conv => whnf
    repeat' (first | (refine two_eq (fun h => ?_) (fun h => ?_) <;> (conv => whnf)) | (refine two_ne (fun h => ?_) (fun h => ?_) <;> (conv => whnf)) | (refine two_not (fun h => ?_) (fun h => ?_) <;> (conv => whnf)) | (refine two_dec (fun h => ?_) (fun h => ?_) <;> (conv => whnf)) | (refine two_intro (fun h => ?_) (fun h => ?_) <;> (conv => whnf)) | (refine Chk.mk ?_ ?_; (focus (((repeat' (refine And.intro ?_ ?_)) <;> (first | omega | rfl | (simp only [List.length_append, List.length_cons, List.length_nil]; omega) | fail)); done)); (conv => whnf)) | (refine And.intro ?_ ?_; (focus (((repeat' (refine And.intro ?_ ?_)) <;> (first | omega | rfl | (simp only [List.length_append, List.length_cons, List.length_nil]; omega) | fail)); done)); (conv => whnf)) | (refine ⟨l, _, _, _, rfl, rfl, fun _ _ => rfl, hl, rfl, ?_⟩; (conv => whnf)) | (refine ⟨l, _, _, _, _, rfl, hl, rfl, ?_⟩; (conv => whnf)) | (refine ⟨_, _, rfl, rfl, ?_⟩; (conv => whnf)) | fail)
    all_goals refine hr _ _ rfl (ret_eq hk (congrArg (fun b => AV.p (.bool b)) ?_))
    all_goals clear hr hk
    all_goals (try simp only [show Int.toNat 0 = 0 from rfl, show Int.toNat 1 = 1 from rfl, show Int.toNat 2 = 2 from rfl] at *)
    all_goals (first | (change (l.length == 1 && l.all exB) = _; have e : (l.length == 1) = true := beq_iff_eq.2 (by omega); rw [e]; first | rfl | ((try generalize l.getD 0 0 = x0 at *); (try generalize l.getD 1 0 = x1 at *); (try generalize l.getD 2 0 = x2 at *); simp [*]; done)) | (change (l.length == 1 && l.all exB) = _; have e : (l.length == 1) = false := beq_eq_false_iff_ne.2 (by omega); rw [e]; rfl) | (change (l.length == 1 && l.all exB) = _; rw [decide_eq_true (by omega : l.length ≤ 1)]; rfl) | (change (l.length == 1 && l.all exB) = _; rw [decide_eq_false (by omega : ¬ l.length ≤ 1)]; rfl) | skip)
  by_cases h23 : kind = 23
  · subst h23
    conv => whnf
    repeat' (first | (refine two_eq (fun h => ?_) (fun h => ?_) <;> (conv => whnf)) | (refine two_ne (fun h => ?_) (fun h => ?_) <;> (conv => whnf)) | (refine two_not (fun h => ?_) (fun h => ?_) <;> (conv => whnf)) | (refine two_dec (fun h => ?_) (fun h => ?_) <;> (conv => whnf)) | (refine two_intro (fun h => ?_) (fun h => ?_) <;> (conv => whnf)) | (refine Chk.mk ?_ ?_; (focus (((repeat' (refine And.intro ?_ ?_)) <;> (first | omega | rfl | (simp only [List.length_append, List.length_cons, List.length_nil]; omega) | fail)); done)); (conv => whnf)) | (refine And.intro ?_ ?_; (focus (((repeat' (refine And.intro ?_ ?_)) <;> (first | omega | rfl | (simp only [List.length_append, List.length_cons, List.length_nil]; omega) | fail)); done)); (conv => whnf)) | (refine ⟨l, _, _, _, rfl, rfl, fun _ _ => rfl, hl, rfl, ?_⟩; (conv => whnf)) | (refine ⟨l, _, _, _, _, rfl, hl, rfl, ?_⟩; (conv => whnf)) | (refine ⟨_, _, rfl, rfl, ?_⟩; (conv => whnf)) | fail)
    all_goals refine hr _ _ rfl (ret_eq hk (congrArg (fun b => AV.p (.bool b)) ?_))
    all_goals clear hr hk
    all_goals (try simp only [show Int.toNat 0 = 0 from rfl, show Int.toNat 1 = 1 from rfl, show Int.toNat 2 = 2 from rfl] at *)
    all_goals (first | (change (l.length == 1 && l.all exB) = _; have e : (l.length == 1) = true := beq_iff_eq.2 (by omega); rw [e]; first | rfl | ((try generalize l.getD 0 0 = x0 at *); (try generalize l.getD 1 0 = x1 at *); (try generalize l.getD 2 0 = x2 at *); simp [*]; done)) | (change (l.length == 1 && l.all exB) = _; have e : (l.length == 1) = false := beq_eq_false_iff_ne.2 (by omega); rw [e]; rfl) | (change (l.length == 1 && l.all exB) = _; rw [decide_eq_true (by omega : l.length ≤ 1)]; rfl) | (change (l.length == 1 && l.all exB) = _; rw [decide_eq_false (by omega : ¬ l.length ≤ 1)]; rfl) | skip)
  by_cases h26 : kind = 26
  · subst h26
    conv => whnf
    repeat' (first | (refine two_eq (fun h => ?_) (fun h => ?_) <;> (conv => whnf)) | (refine two_ne (fun h => ?_) (fun h => ?_) <;> (conv => whnf)) | (refine two_not (fun h => ?_) (fun h => ?_) <;> (conv => whnf)) | (refine two_dec (fun h => ?_) (fun h => ?_) <;> (conv => whnf)) | (refine two_intro (fun h => ?_) (fun h => ?_) <;> (conv => whnf)) | (refine Chk.mk ?_ ?_; (focus (((repeat' (refine And.intro ?_ ?_)) <;> (first | omega | rfl | (simp only [List.length_append, List.length_cons, List.length_nil]; omega) | fail)); done)); (conv => whnf)) | (refine And.intro ?_ ?_; (focus (((repeat' (refine And.intro ?_ ?_)) <;> (first | omega | rfl | (simp only [List.length_append, List.length_cons, List.length_nil]; omega) | fail)); done)); (conv => whnf)) | (refine ⟨l, _, _, _, rfl, rfl, fun _ _ => rfl, hl, rfl, ?_⟩; (conv => whnf)) | (refine ⟨l, _, _, _, _, rfl, hl, rfl, ?_⟩; (conv => whnf)) | (refine ⟨_, _, rfl, rfl, ?_⟩; (conv => whnf)) | fail)
    all_goals refine hr _ _ rfl (ret_eq hk (congrArg (fun b => AV.p (.bool b)) ?_))
    all_goals clear hr hk
    all_goals (try simp only [show Int.toNat 0 = 0 from rfl, show Int.toNat 1 = 1 from rfl, show Int.toNat 2 = 2 from rfl] at *)
    all_goals (first | (change (l.length == 1 && l.all exB) = _; have e : (l.length == 1) = true := beq_iff_eq.2 (by omega); rw [e]; first | rfl | ((try generalize l.getD 0 0 = x0 at *); (try generalize l.getD 1 0 = x1 at *); (try generalize l.getD 2 0 = x2 at *); simp [*]; done)) | (change (l.length == 1 && l.all exB) = _; have e : (l.length == 1) = false := beq_eq_false_iff_ne.2 (by omega); rw [e]; rfl) | (change (l.length == 1 && l.all exB) = _; rw [decide_eq_true (by omega : l.length ≤ 1)]; rfl) | (change (l.length == 1 && l.all exB) = _; rw [decide_eq_false (by omega : ¬ l.length ≤ 1)]; rfl) | skip)
  by_cases h8 : kind = 8
  · subst h8
    conv => whnf
    repeat' (first | (refine two_eq (fun h => ?_) (fun h => ?_) <;> (conv => whnf)) | (refine two_ne (fun h => ?_) (fun h => ?_) <;> (conv => whnf)) | (refine two_not (fun h => ?_) (fun h => ?_) <;> (conv => whnf)) | (refine two_dec (fun h => ?_) (fun h => ?_) <;> (conv => whnf)) | (refine two_intro (fun h => ?_) (fun h => ?_) <;> (conv => whnf)) | (refine Chk.mk ?_ ?_; (focus (((repeat' (refine And.intro ?_ ?_)) <;> (first | omega | rfl | (simp only [List.length_append, List.length_cons, List.length_nil]; omega) | fail)); done)); (conv => whnf)) | (refine And.intro ?_ ?_; (focus (((repeat' (refine And.intro ?_ ?_)) <;> (first | omega | rfl | (simp only [List.length_append, List.length_cons, List.length_nil]; omega) | fail)); done)); (conv => whnf)) | (refine ⟨l, _, _, _, rfl, rfl, fun _ _ => rfl, hl, rfl, ?_⟩; (conv => whnf)) | (refine ⟨l, _, _, _, _, rfl, hl, rfl, ?_⟩; (conv => whnf)) | (refine ⟨_, _, rfl, rfl, ?_⟩; (conv => whnf)) | fail)
    all_goals refine hr _ _ rfl (ret_eq hk (congrArg (fun b => AV.p (.bool b)) ?_))
    all_goals clear hr hk
    all_goals (try simp only [show Int.toNat 0 = 0 from rfl, show Int.toNat 1 = 1 from rfl, show Int.toNat 2 = 2 from rfl] at *)
    all_goals (first | (change (l.length == 2 && l.all exB) = _; have e : (l.length == 2) = true := beq_iff_eq.2 (by omega); rw [e]; first | rfl | ((try generalize l.getD 0 0 = x0 at *); (try generalize l.getD 1 0 = x1 at *); (try generalize l.getD 2 0 = x2 at *); simp [*]; done)) | (change (l.length == 2 && l.all exB) = _; have e : (l.length == 2) = false := beq_eq_false_iff_ne.2 (by omega); rw [e]; rfl) | (change (l.length == 2 && l.all exB) = _; rw [decide_eq_true (by omega : l.length ≤ 1)]; rfl) | (change (l.length == 2 && l.all exB) = _; rw [decide_eq_false (by omega : ¬ l.length ≤ 1)]; rfl) | skip)
  by_cases h27 : kind = 27
  · subst h27
    conv => whnf
    repeat' (first | (refine two_eq (fun h => ?_) (fun h => ?_) <;> (conv => whnf)) | (refine two_ne (fun h => ?_) (fun h => ?_) <;> (conv => whnf)) | (refine two_not (fun h => ?_) (fun h => ?_) <;> (conv => whnf)) | (refine two_dec (fun h => ?_) (fun h => ?_) <;> (conv => whnf)) | (refine two_intro (fun h => ?_) (fun h => ?_) <;> (conv => whnf)) | (refine Chk.mk ?_ ?_; (focus (((repeat' (refine And.intro ?_ ?_)) <;> (first | omega | rfl | (simp only [List.length_append, List.length_cons, List.length_nil]; omega) | fail)); done)); (conv => whnf)) | (refine And.intro ?_ ?_; (focus (((repeat' (refine And.intro ?_ ?_)) <;> (first | omega | rfl | (simp only [List.length_append, List.length_cons, List.length_nil]; omega) | fail)); done)); (conv => whnf)) | (refine ⟨l, _, _, _, rfl, rfl, fun _ _ => rfl, hl, rfl, ?_⟩; (conv => whnf)) | (refine ⟨l, _, _, _, _, rfl, hl, rfl, ?_⟩; (conv => whnf)) | (refine ⟨_, _, rfl, rfl, ?_⟩; (conv => whnf)) | fail)
    all_goals refine hr _ _ rfl (ret_eq hk (congrArg (fun b => AV.p (.bool b)) ?_))
    all_goals clear hr hk
    all_goals (try simp only [show Int.toNat 0 = 0 from rfl, show Int.toNat 1 = 1 from rfl, show Int.toNat 2 = 2 from rfl] at *)
    all_goals (first | (change (l.length == 2 && l.all exB) = _; have e : (l.length == 2) = true := beq_iff_eq.2 (by omega); rw [e]; first | rfl | ((try generalize l.getD 0 0 = x0 at *); (try generalize l.getD 1 0 = x1 at *); (try generalize l.getD 2 0 = x2 at *); simp [*]; done)) | (change (l.length == 2 && l.all exB) = _; have e : (l.length == 2) = false := beq_eq_false_iff_ne.2 (by omega); rw [e]; rfl) | (change (l.length == 2 && l.all exB) = _; rw [decide_eq_true (by omega : l.length ≤ 1)]; rfl) | (change (l.length == 2 && l.all exB) = _; rw [decide_eq_false (by omega : ¬ l.length ≤ 1)]; rfl) | skip)
  by_cases h9 : kind = 9
  · subst h9
    conv => whnf
    repeat' (first | (refine two_eq (fun h => ?_) (fun h => ?_) <;> (conv => whnf)) | (refine two_ne (fun h => ?_) (fun h => ?_) <;> (conv => whnf)) | (refine two_not (fun h => ?_) (fun h => ?_) <;> (conv => whnf)) | (refine two_dec (fun h => ?_) (fun h => ?_) <;> (conv => whnf)) | (refine two_intro (fun h => ?_) (fun h => ?_) <;> (conv => whnf)) | (refine Chk.mk ?_ ?_; (focus (((repeat' (refine And.intro ?_ ?_)) <;> (first | omega | rfl | (simp only [List.length_append, List.length_cons, List.length_nil]; omega) | fail)); done)); (conv => whnf)) | (refine And.intro ?_ ?_; (focus (((repeat' (refine And.intro ?_ ?_)) <;> (first | omega | rfl | (simp only [List.length_append, List.length_cons, List.length_nil]; omega) | fail)); done)); (conv => whnf)) | (refine ⟨l, _, _, _, rfl, rfl, fun _ _ => rfl, hl, rfl, ?_⟩; (conv => whnf)) | (refine ⟨l, _, _, _, _, rfl, hl, rfl, ?_⟩; (conv => whnf)) | (refine ⟨_, _, rfl, rfl, ?_⟩; (conv => whnf)) | fail)
    all_goals refine hr _ _ rfl (ret_eq hk (congrArg (fun b => AV.p (.bool b)) ?_))
    all_goals clear hr hk
    all_goals (try simp only [show Int.toNat 0 = 0 from rfl, show Int.toNat 1 = 1 from rfl, show Int.toNat 2 = 2 from rfl] at *)
    all_goals (first | (change (l.length == 1 && l.getD 0 0 == 18) = _; have e : (l.length == 1) = true := beq_iff_eq.2 (by omega); rw [e]; first | rfl | ((try generalize l.getD 0 0 = x0 at *); (try generalize l.getD 1 0 = x1 at *); (try generalize l.getD 2 0 = x2 at *); simp [*]; done)) | (change (l.length == 1 && l.getD 0 0 == 18) = _; have e : (l.length == 1) = false := beq_eq_false_iff_ne.2 (by omega); rw [e]; rfl) | (change (l.length == 1 && l.getD 0 0 == 18) = _; rw [decide_eq_true (by omega : l.length ≤ 1)]; rfl) | (change (l.length == 1 && l.getD 0 0 == 18) = _; rw [decide_eq_false (by omega : ¬ l.length ≤ 1)]; rfl) | skip)
  by_cases h10 : kind = 10
  · subst h10
    conv => whnf
    repeat' (first | (refine two_eq (fun h => ?_) (fun h => ?_) <;> (conv => whnf)) | (refine two_ne (fun h => ?_) (fun h => ?_) <;> (conv => whnf)) | (refine two_not (fun h => ?_) (fun h => ?_) <;> (conv => whnf)) | (refine two_dec (fun h => ?_) (fun h => ?_) <;> (conv => whnf)) | (refine two_intro (fun h => ?_) (fun h => ?_) <;> (conv => whnf)) | (refine Chk.mk ?_ ?_; (focus (((repeat' (refine And.intro ?_ ?_)) <;> (first | omega | rfl | (simp only [List.length_append, List.length_cons, List.length_nil]; omega) | fail)); done)); (conv => whnf)) | (refine And.intro ?_ ?_; (focus (((repeat' (refine And.intro ?_ ?_)) <;> (first | omega | rfl | (simp only [List.length_append, List.length_cons, List.length_nil]; omega) | fail)); done)); (conv => whnf)) | (refine ⟨l, _, _, _, rfl, rfl, fun _ _ => rfl, hl, rfl, ?_⟩; (conv => whnf)) | (refine ⟨l, _, _, _, _, rfl, hl, rfl, ?_⟩; (conv => whnf)) | (refine ⟨_, _, rfl, rfl, ?_⟩; (conv => whnf)) | fail)
    all_goals refine hr _ _ rfl (ret_eq hk (congrArg (fun b => AV.p (.bool b)) ?_))
    all_goals clear hr hk
    all_goals (try simp only [show Int.toNat 0 = 0 from rfl, show Int.toNat 1 = 1 from rfl, show Int.toNat 2 = 2 from rfl] at *)
    all_goals (first | (change (l.length == 2 && l.getD 0 0 == 18 && exB (l.getD 1 0)) = _; have e : (l.length == 2) = true := beq_iff_eq.2 (by omega); rw [e]; first | rfl | ((try generalize l.getD 0 0 = x0 at *); (try generalize l.getD 1 0 = x1 at *); (try generalize l.getD 2 0 = x2 at *); simp [*]; done)) | (change (l.length == 2 && l.getD 0 0 == 18 && exB (l.getD 1 0)) = _; have e : (l.length == 2) = false := beq_eq_false_iff_ne.2 (by omega); rw [e]; rfl) | (change (l.length == 2 && l.getD 0 0 == 18 && exB (l.getD 1 0)) = _; rw [decide_eq_true (by omega : l.length ≤ 1)]; rfl) | (change (l.length == 2 && l.getD 0 0 == 18 && exB (l.getD 1 0)) = _; rw [decide_eq_false (by omega : ¬ l.length ≤ 1)]; rfl) | skip)
  by_cases h11 : kind = 11
  · subst h11
    conv => whnf
    repeat' (first | (refine two_eq (fun h => ?_) (fun h => ?_) <;> (conv => whnf)) | (refine two_ne (fun h => ?_) (fun h => ?_) <;> (conv => whnf)) | (refine two_not (fun h => ?_) (fun h => ?_) <;> (conv => whnf)) | (refine two_dec (fun h => ?_) (fun h => ?_) <;> (conv => whnf)) | (refine two_intro (fun h => ?_) (fun h => ?_) <;> (conv => whnf)) | (refine Chk.mk ?_ ?_; (focus (((repeat' (refine And.intro ?_ ?_)) <;> (first | omega | rfl | (simp only [List.length_append, List.length_cons, List.length_nil]; omega) | fail)); done)); (conv => whnf)) | (refine And.intro ?_ ?_; (focus (((repeat' (refine And.intro ?_ ?_)) <;> (first | omega | rfl | (simp only [List.length_append, List.length_cons, List.length_nil]; omega) | fail)); done)); (conv => whnf)) | (refine ⟨l, _, _, _, rfl, rfl, fun _ _ => rfl, hl, rfl, ?_⟩; (conv => whnf)) | (refine ⟨l, _, _, _, _, rfl, hl, rfl, ?_⟩; (conv => whnf)) | (refine ⟨_, _, rfl, rfl, ?_⟩; (conv => whnf)) | fail)
    all_goals refine hr _ _ rfl (ret_eq hk (congrArg (fun b => AV.p (.bool b)) ?_))
    all_goals clear hr hk
    all_goals (try simp only [show Int.toNat 0 = 0 from rfl, show Int.toNat 1 = 1 from rfl, show Int.toNat 2 = 2 from rfl] at *)
    all_goals (first | (change (l.length == 3 && exB (l.getD 0 0) && l.getD 1 0 == 6 && l.getD 2 0 == 6) = _; have e : (l.length == 3) = true := beq_iff_eq.2 (by omega); rw [e]; first | rfl | ((try generalize l.getD 0 0 = x0 at *); (try generalize l.getD 1 0 = x1 at *); (try generalize l.getD 2 0 = x2 at *); simp [*]; done)) | (change (l.length == 3 && exB (l.getD 0 0) && l.getD 1 0 == 6 && l.getD 2 0 == 6) = _; have e : (l.length == 3) = false := beq_eq_false_iff_ne.2 (by omega); rw [e]; rfl) | (change (l.length == 3 && exB (l.getD 0 0) && l.getD 1 0 == 6 && l.getD 2 0 == 6) = _; rw [decide_eq_true (by omega : l.length ≤ 1)]; rfl) | (change (l.length == 3 && exB (l.getD 0 0) && l.getD 1 0 == 6 && l.getD 2 0 == 6) = _; rw [decide_eq_false (by omega : ¬ l.length ≤ 1)]; rfl) | skip)
  by_cases h12 : kind = 12
  · subst h12
    conv => whnf
    repeat' (first | (refine two_eq (fun h => ?_) (fun h => ?_) <;> (conv => whnf)) | (refine two_ne (fun h => ?_) (fun h => ?_) <;> (conv => whnf)) | (refine two_not (fun h => ?_) (fun h => ?_) <;> (conv => whnf)) | (refine two_dec (fun h => ?_) (fun h => ?_) <;> (conv => whnf)) | (refine two_intro (fun h => ?_) (fun h => ?_) <;> (conv => whnf)) | (refine Chk.mk ?_ ?_; (focus (((repeat' (refine And.intro ?_ ?_)) <;> (first | omega | rfl | (simp only [List.length_append, List.length_cons, List.length_nil]; omega) | fail)); done)); (conv => whnf)) | (refine And.intro ?_ ?_; (focus (((repeat' (refine And.intro ?_ ?_)) <;> (first | omega | rfl | (simp only [List.length_append, List.length_cons, List.length_nil]; omega) | fail)); done)); (conv => whnf)) | (refine ⟨l, _, _, _, rfl, rfl, fun _ _ => rfl, hl, rfl, ?_⟩; (conv => whnf)) | (refine ⟨l, _, _, _, _, rfl, hl, rfl, ?_⟩; (conv => whnf)) | (refine ⟨_, _, rfl, rfl, ?_⟩; (conv => whnf)) | fail)
    all_goals refine hr _ _ rfl (ret_eq hk (congrArg (fun b => AV.p (.bool b)) ?_))
    all_goals clear hr hk
    all_goals (try simp only [show Int.toNat 0 = 0 from rfl, show Int.toNat 1 = 1 from rfl, show Int.toNat 2 = 2 from rfl] at *)
    all_goals (first | (change (l.length == 2 && exB (l.getD 0 0) && l.getD 1 0 == 6) = _; have e : (l.length == 2) = true := beq_iff_eq.2 (by omega); rw [e]; first | rfl | ((try generalize l.getD 0 0 = x0 at *); (try generalize l.getD 1 0 = x1 at *); (try generalize l.getD 2 0 = x2 at *); simp [*]; done)) | (change (l.length == 2 && exB (l.getD 0 0) && l.getD 1 0 == 6) = _; have e : (l.length == 2) = false := beq_eq_false_iff_ne.2 (by omega); rw [e]; rfl) | (change (l.length == 2 && exB (l.getD 0 0) && l.getD 1 0 == 6) = _; rw [decide_eq_true (by omega : l.length ≤ 1)]; rfl) | (change (l.length == 2 && exB (l.getD 0 0) && l.getD 1 0 == 6) = _; rw [decide_eq_false (by omega : ¬ l.length ≤ 1)]; rfl) | skip)
  by_cases h14 : kind = 14
  · subst h14
    conv => whnf
    repeat' (first | (refine two_eq (fun h => ?_) (fun h => ?_) <;> (conv => whnf)) | (refine two_ne (fun h => ?_) (fun h => ?_) <;> (conv => whnf)) | (refine two_not (fun h => ?_) (fun h => ?_) <;> (conv => whnf)) | (refine two_dec (fun h => ?_) (fun h => ?_) <;> (conv => whnf)) | (refine two_intro (fun h => ?_) (fun h => ?_) <;> (conv => whnf)) | (refine Chk.mk ?_ ?_; (focus (((repeat' (refine And.intro ?_ ?_)) <;> (first | omega | rfl | (simp only [List.length_append, List.length_cons, List.length_nil]; omega) | fail)); done)); (conv => whnf)) | (refine And.intro ?_ ?_; (focus (((repeat' (refine And.intro ?_ ?_)) <;> (first | omega | rfl | (simp only [List.length_append, List.length_cons, List.length_nil]; omega) | fail)); done)); (conv => whnf)) | (refine ⟨l, _, _, _, rfl, rfl, fun _ _ => rfl, hl, rfl, ?_⟩; (conv => whnf)) | (refine ⟨l, _, _, _, _, rfl, hl, rfl, ?_⟩; (conv => whnf)) | (refine ⟨_, _, rfl, rfl, ?_⟩; (conv => whnf)) | fail)
    all_goals refine hr _ _ rfl (ret_eq hk (congrArg (fun b => AV.p (.bool b)) ?_))
    all_goals clear hr hk
    all_goals (try simp only [show Int.toNat 0 = 0 from rfl, show Int.toNat 1 = 1 from rfl, show Int.toNat 2 = 2 from rfl] at *)
    all_goals (first | (change (decide (l.length ≤ 1) && l.all exB) = _; have e : (l.length == 1) = true := beq_iff_eq.2 (by omega); rw [e]; first | rfl | ((try generalize l.getD 0 0 = x0 at *); (try generalize l.getD 1 0 = x1 at *); (try generalize l.getD 2 0 = x2 at *); simp [*]; done)) | (change (decide (l.length ≤ 1) && l.all exB) = _; have e : (l.length == 1) = false := beq_eq_false_iff_ne.2 (by omega); rw [e]; rfl) | (change (decide (l.length ≤ 1) && l.all exB) = _; rw [decide_eq_true (by omega : l.length ≤ 1)]; rfl) | (change (decide (l.length ≤ 1) && l.all exB) = _; rw [decide_eq_false (by omega : ¬ l.length ≤ 1)]; rfl) | skip)
  by_cases h16 : kind = 16
  · subst h16
    conv => whnf
    repeat' (first | (refine two_eq (fun h => ?_) (fun h => ?_) <;> (conv => whnf)) | (refine two_ne (fun h => ?_) (fun h => ?_) <;> (conv => whnf)) | (refine two_not (fun h => ?_) (fun h => ?_) <;> (conv => whnf)) | (refine two_dec (fun h => ?_) (fun h => ?_) <;> (conv => whnf)) | (refine two_intro (fun h => ?_) (fun h => ?_) <;> (conv => whnf)) | (refine Chk.mk ?_ ?_; (focus (((repeat' (refine And.intro ?_ ?_)) <;> (first | omega | rfl | (simp only [List.length_append, List.length_cons, List.length_nil]; omega) | fail)); done)); (conv => whnf)) | (refine And.intro ?_ ?_; (focus (((repeat' (refine And.intro ?_ ?_)) <;> (first | omega | rfl | (simp only [List.length_append, List.length_cons, List.length_nil]; omega) | fail)); done)); (conv => whnf)) | (refine ⟨l, _, _, _, rfl, rfl, fun _ _ => rfl, hl, rfl, ?_⟩; (conv => whnf)) | (refine ⟨l, _, _, _, _, rfl, hl, rfl, ?_⟩; (conv => whnf)) | (refine ⟨_, _, rfl, rfl, ?_⟩; (conv => whnf)) | fail)
    all_goals refine hr _ _ rfl (ret_eq hk (congrArg (fun b => AV.p (.bool b)) ?_))
    all_goals clear hr hk
    all_goals (try simp only [show Int.toNat 0 = 0 from rfl, show Int.toNat 1 = 1 from rfl, show Int.toNat 2 = 2 from rfl] at *)
    all_goals (first | (change (l.length == 2 && l.getD 0 0 == 6 && l.getD 1 0 == 6) = _; have e : (l.length == 2) = true := beq_iff_eq.2 (by omega); rw [e]; first | rfl | ((try generalize l.getD 0 0 = x0 at *); (try generalize l.getD 1 0 = x1 at *); (try generalize l.getD 2 0 = x2 at *); simp [*]; done)) | (change (l.length == 2 && l.getD 0 0 == 6 && l.getD 1 0 == 6) = _; have e : (l.length == 2) = false := beq_eq_false_iff_ne.2 (by omega); rw [e]; rfl) | (change (l.length == 2 && l.getD 0 0 == 6 && l.getD 1 0 == 6) = _; rw [decide_eq_true (by omega : l.length ≤ 1)]; rfl) | (change (l.length == 2 && l.getD 0 0 == 6 && l.getD 1 0 == 6) = _; rw [decide_eq_false (by omega : ¬ l.length ≤ 1)]; rfl) | skip)
  by_cases h13 : kind = 13
  · subst h13
    have hk : k (.ret (.p (.bool (decide (1 ≤ l.length) && l.getD 0 0 == 19 && l.tail.all exB)))) K := hk
    conv => whnf
    refine two_dec (fun h => ?_) (fun h => ?_)
    · have h : 1 ≤ l.length := by have h : (l.length : Int) ≥ 1 := h; omega
      rw [decide_eq_true h, Bool.true_and] at hk
      conv => whnf
      refine ⟨⟨by omega, by omega, rfl⟩, ?_⟩
      conv => whnf
      refine two_eq (fun h2 => ?_) (fun h2 => ?_)
      · have h2 : l.getD 0 0 = 19 := h2
        rw [beq_iff_eq.2 h2, Bool.true_and] at hk
        conv => whnf
        refine ⟨⟨by omega, by first | exact Int.le_refl _ | omega, by first | exact Int.le_refl _ | omega, rfl⟩, ?_⟩
        conv => whnf
        refine ⟨l.tail, _, _, _, rfl, by rw [List.length_tail]; simp only [Int.ofNat_eq_natCast]; omega, fun i hi => ?_, by rw [List.length_tail]; omega, rfl, ?_⟩
        · cases l with
          | nil => rfl
          | cons a r => rfl
        conv => whnf
        exact hr _ _ rfl hk
      · have h2 : l.getD 0 0 ≠ 19 := h2
        rw [beq_eq_false_iff_ne.2 h2] at hk
        conv => whnf
        exact hr _ _ rfl hk
    · have h : ¬ 1 ≤ l.length := by have h : ¬ (l.length : Int) ≥ 1 := h; omega
      rw [decide_eq_false h] at hk
      conv => whnf
      exact hr _ _ rfl hk
  have hk : k (.ret (.p (.bool (l.length == 0)))) K := by
    have e : kids4 kind l = (l.length == 0) := by simp [kids4, h1, h3, h6, h7, h15, h17, h23, h26, h8, h27, h9, h10, h11, h12, h14, h16, h13]
    rw [e] at hk; exact hk
  conv => whnf
  repeat' (first | (refine two_eq (fun h => absurd h (by assumption)) (fun _ => ?_); (conv => whnf)) | fail)
  exact hr _ _ rfl (ret_eq hk (congrArg (fun b => AV.p (.bool b)) (by rw [Bool.eq_iff_iff]; simp)))
def cRKidsL : AC := fun args K k => ∃ kind l r n f ty v, args = [intV kind, .slr r 0 0 n] ∧ nth K r = some (.arr ty 1 0 n f) ∧ n = List.length l ∧ (∀ i, i < n → f i = pvs (kidF l i)) ∧ List.length l < 1000000 ∧ kids4 kind l = v ∧ k (.ret (.p (.bool v))) (setN K r .dead)
theorem rkidsL_ok : COk 152 cRKidsL := by
  rintro args K k ⟨kind, l, r, n, f, ty, v, rfl, hn, rfl, hf, hl, rfl, hk⟩
  refine (rkids_ok [intV kind, intsV l] (setN K r .dead) k ⟨kind, l, _, rfl, hl, rfl, hk⟩).pre fun w m Args hS hV => ?_
  obtain ⟨m', h3, h4, h5⟩ := freeze_sl hS hn (kidF l) hf
  refine ⟨m', h3, h4, hV.1, fun i hi hi' => ?_⟩
  rcases i with _ | _ | i
  · exact (hV.2 0 hi hi').mono h3
  · exact h5 _ (hV.2 1 hi hi')
  · simp at hi; omega
def gQs : AG := gput 150 cRTx4 (gput 151 cRNum4 (gput 152 cRKidsL g0))
theorem gQs_ok : GOk Tryz.prog gQs := gput_ok rtexts_ok (gput_ok rnumbers_ok (gput_ok rkidsL_ok g0_ok))
def cRShaped : AC := fun args K k => ∃ ns root v, args = [treeV ns root] ∧ Tame ns ∧ soundS ns root = true ∧ List.all ns (nodeOkS ns) = v ∧ k (.ret (.p (.bool v))) K
def tbx (ns : List Nd) (root : Int) : ABlk := .box 24 [.p (.sl 5 ns.length (nodeF ns)), .p (.int .i64 root)]
def nbx (n : Nd) : ABlk := .box 61 [.p (.int .i64 n.k), .p (.int .i64 n.n), .p (.int .i64 n.at_), .p (.str n.tx), .p (.sl 1 n.kids.length (kidF n.kids))]
theorem rshaped_ok : COk 106 cRShaped := by
  rintro args K k ⟨ns, root, v, rfl, ta, hs, rfl, hk⟩
  have st := std_of hs
  have hlen := st.len
  refine frame0P gQs_ok 19 rfl fun Q hr => ?_
  conv => whnf
  refine loop_up (ι := Nat) [1] (fun j => [(3, intV j)]) (fun _ => []) (fun j => j ≤ ns.length ∧ (ns.drop j).all (nodeOkS ns) = ns.all (nodeOkS ns)) (fun j => ns.length - j) 0 ⟨AV.le_refl _, trivial⟩ trivial ⟨Nat.zero_le _, by simp⟩ ?_
  rintro Y hle i ⟨hi, he⟩ ih
  conv => whnf
  refine two_dec (fun h => ?_) (fun h => ?_)
  · have h : i < ns.length := by have h : (i : Int) < (ns.length : Int) := h; omega
    have hw1 := wzz (i := i) (by omega)
    have hkm := st.many i h
    have hkk := st.kid i h
    have htx := ta.tx i
    have e1 : ns[i] = nd ns i := by simp [nd, h]
    rw [List.drop_eq_getElem_cons h, List.all_cons, e1, ← node4_eq (by omega)] at he
    have hkl : (kindsS ns (nd ns i)).length = (nd ns i).kids.length := kinds_len ns (nd ns i)
    conv => whnf
    refine ⟨⟨by omega, by omega, rfl⟩, ?_⟩
    conv => whnf
    refine loop_nil (ι := Nat) 3 1 (fun i => pvs (kidF [] i)) (fun j => ⟨[(1, .ptr 0 0 1 0 0), (3, intV i), (4, .ptr 1 0 1 0 0), (5, .slr 2 0 0 ((kindsS ns (nd ns i)).take j).length), (6, intV j)], [tbx ns root, nbx (nd ns i), kiB ((kindsS ns (nd ns i)).take j)]⟩)
      (fun j => j ≤ (nd ns i).kids.length) (fun j => (nd ns i).kids.length - j) 0 [tbx ns root, nbx (nd ns i)]
      rfl ⟨.inl (AV.le_refl _), .inl (AV.le_refl _), .inl (AV.le_refl _), .inr ⟨rfl, rfl⟩, .inl (AV.le_refl _), trivial⟩ ⟨.inl (ABlk.le_refl _), .inl (ABlk.le_refl _), trivial⟩ rfl (Nat.zero_le _) ?_
    rintro Z hlz j hj ihz
    conv => whnf
    refine two_dec (fun h2 => ?_) (fun h2 => ?_)
    · have h2 : j < (nd ns i).kids.length := by have h2 : (j : Int) < ((nd ns i).kids.length : Int) := h2; omega
      have h2' : (j : Int) < ((nd ns i).kids.length : Int) := by omega
      have hw2 := wzz (i := j) (by omega)
      have hm := hkk _ (getD_mem h2)
      have hml : (nd ns i).kids.getD j 0 < (ns.length : Int) := by omega
      have htk : (kindsS ns (nd ns i)).take (j + 1) = (kindsS ns (nd ns i)).take j ++ [(nd ns ((nd ns i).kids.getD j 0).toNat).k] := by
        rw [List.take_add_one, kinds_get h2]; rfl
      have htl : ((kindsS ns (nd ns i)).take j).length = j := by rw [List.length_take, hkl]; omega
      generalize (kindsS ns (nd ns i)).take j = L at htk htl ⊢
      conv => whnf
      refine ⟨⟨by omega, h2', rfl⟩, ?_⟩
      conv => whnf
      refine ⟨⟨hm.1, hml, rfl⟩, ?_⟩
      conv => whnf
      refine ⟨⟨rfl, rfl, rfl, allLt_ok ⟨trivial, rfl⟩⟩, ?_⟩
      conv => whnf
      refine ⟨⟨rfl, rfl, rfl, rfl, ?_, ?_⟩, ?_⟩
      · show (L.length + 1) * 8 ≤ 140737488355328
        omega
      · show L.length + 1 ≤ 9223372036854775807
        omega
      conv => whnf
      refine hlz _ _ (Le.cutEnv 3 rfl rfl ⟨rfl, rfl, kiB_cl L _ _ 3 rfl, trivial⟩ ?_ ?_) (ihz (j + 1) (by omega) h2)
      · skip
        repeat' (first | exact trivial | ((conv => whnf); first | exact trivial | (refine And.intro (AV.le_refl _) ?_) | (refine And.intro (ABlk.le_refl _) ?_) | (refine And.intro (AV.le_of_eq ?_) ?_; (focus ((first | exact congrArg intV hw2 | exact congrArg (fun n => AV.slr 2 0 0 n) (by rw [htk]; simp) | fail); done))) | (refine And.intro (ABlk.le_of_eq ?_) ?_; (focus ((first | exact congrArg intV hw2 | exact congrArg (fun n => AV.slr 2 0 0 n) (by rw [htk]; simp) | fail); done))) | fail) | fail)
      · (conv => whnf)
        refine ⟨ABlk.le_refl _, ?_⟩
        (conv => whnf)
        refine ⟨ABlk.le_refl _, ?_⟩
        (conv => whnf)
        rw [htk]
        refine ⟨kiB_snoc L _ _ rfl, ?_⟩
        trivial
    · obtain rfl : j = (nd ns i).kids.length := by have h2 : ¬ (j : Int) < ((nd ns i).kids.length : Int) := h2; omega
      have htk : (kindsS ns (nd ns i)).take (nd ns i).kids.length = kindsS ns (nd ns i) := List.take_of_length_le (by omega)
      rw [htk]
      obtain ⟨b1, hb1⟩ : ∃ b, text4 (nd ns i).k (nd ns i).tx = b := ⟨_, rfl⟩
      obtain ⟨b2, hb2⟩ : ∃ b, numberS (nd ns i).k (nd ns i).n = b := ⟨_, rfl⟩
      obtain ⟨b3, hb3⟩ : ∃ b, kids4 (nd ns i).k (kindsS ns (nd ns i)) = b := ⟨_, rfl⟩
      have hnode : node4 ns (nd ns i) = !(decide ((nd ns i).k < 1) || (decide ((nd ns i).k > 27) || (!b1 || (!b2 || !b3)))) := by rw [node4, hb1, hb2, hb3]
      conv => whnf
      refine ⟨nd ns i, b1, rfl, htx, hb1, ?_⟩
      conv => whnf
      refine ⟨nd ns i, b2, rfl, hb2, ?_⟩
      conv => whnf
      refine ⟨(nd ns i).k, kindsS ns (nd ns i), 2, (kindsS ns (nd ns i)).length, _, _, b3, rfl, rfl, rfl, fun _ _ => rfl, by omega, hb3, ?_⟩
      conv => whnf
      refine two_dec (fun h3 => ?_) (fun h3 => ?_)
      · have hf : node4 ns (nd ns i) = false := by rw [hnode, decide_eq_true (show (nd ns i).k < 1 from h3)]; rfl
        rw [hf, Bool.false_and] at he
        rw [← he] at hk
        conv => whnf
        exact hr _ _ rfl hk
      rw [decide_eq_false (show ¬ (nd ns i).k < 1 from h3), Bool.false_or] at hnode
      conv => whnf
      refine two_dec (fun h4 => ?_) (fun h4 => ?_)
      · have hf : node4 ns (nd ns i) = false := by rw [hnode, decide_eq_true (show (nd ns i).k > 27 from h4)]; rfl
        rw [hf, Bool.false_and] at he
        rw [← he] at hk
        conv => whnf
        exact hr _ _ rfl hk
      rw [decide_eq_false (show ¬ (nd ns i).k > 27 from h4), Bool.false_or] at hnode
      clear hb1 hb2 hb3
      cases b1 with
      | false =>
        have hf : node4 ns (nd ns i) = false := hnode
        rw [hf, Bool.false_and] at he
        rw [← he] at hk
        conv => whnf
        exact hr _ _ rfl hk
      | true =>
      cases b2 with
      | false =>
        have hf : node4 ns (nd ns i) = false := hnode
        rw [hf, Bool.false_and] at he
        rw [← he] at hk
        conv => whnf
        exact hr _ _ rfl hk
      | true =>
      cases b3 with
      | false =>
        have hf : node4 ns (nd ns i) = false := hnode
        rw [hf, Bool.false_and] at he
        rw [← he] at hk
        conv => whnf
        exact hr _ _ rfl hk
      | true =>
        have hf : node4 ns (nd ns i) = true := hnode
        rw [hf, Bool.true_and] at he
        conv => whnf
        refine hle _ _ (Le.cutEnv 1 rfl rfl ⟨rfl, trivial⟩ ?_ ?_) (ih (i + 1) (by omega) ⟨by omega, he⟩)
        · skip
          repeat' (first | exact trivial | ((conv => whnf); first | exact trivial | (refine And.intro (AV.le_refl _) ?_) | (refine And.intro (ABlk.le_refl _) ?_) | (refine And.intro (AV.le_of_eq ?_) ?_; (focus ((first | exact congrArg intV hw1 | fail); done))) | (refine And.intro (ABlk.le_of_eq ?_) ?_; (focus ((first | exact congrArg intV hw1 | fail); done))) | fail) | fail)
        · skip
          repeat' (first | exact trivial | ((conv => whnf); first | exact trivial | (refine And.intro (AV.le_refl _) ?_) | (refine And.intro (ABlk.le_refl _) ?_) | (refine And.intro (AV.le_of_eq ?_) ?_; (focus ((first | fail | fail); done))) | (refine And.intro (ABlk.le_of_eq ?_) ?_; (focus ((first | fail | fail); done))) | fail) | fail)
  · obtain rfl : i = ns.length := by have h : ¬ (i : Int) < (ns.length : Int) := h; omega
    rw [List.drop_length, List.all_nil] at he
    rw [← he] at hk
    conv => whnf
    exact hr _ _ rfl hk
def cRRight : AC := fun args K k => ∃ ns root v, args = [treeV ns root] ∧ Kt ns ∧ Tame ns ∧ rightS ns root = v ∧ k (.ret (.p (.bool v))) K
theorem rright_ok : COk 49 cRRight := by
  rintro args K k ⟨ns, root, v, rfl, kt, ta, rfl, hk⟩
  refine frame0P (gput_ok rsound_ok (gput_ok rdepth_ok (gput_ok rshaped_ok g0_ok))) 19 rfl fun Q hr => ?_
  cases hs : soundS ns root with
  | false =>
    have hk : k (.ret (.p (.bool false))) K := by rw [rightS, hs] at hk; exact hk
    conv => whnf
    refine ⟨ns, root, _, rfl, kt, hs, ?_⟩
    conv => whnf
    exact hr _ _ rfl hk
  | true =>
    have st := std_of hs
    have hlen := st.len
    have hpos := st.pos
    have hrt := st.rt
    have hk : k (.ret (.p (.bool (decide (depthS ns root ≤ 40) && ((nd ns root.toNat).k == 1) && ns.all (nodeOkS ns))))) K := by rw [rightS, hs] at hk; exact hk
    conv => whnf
    refine ⟨ns, root, _, rfl, kt, hs, ?_⟩
    conv => whnf
    refine ⟨ns, root, rfl, kt, hs, ?_⟩
    conv => whnf
    refine two_dec (fun h => ?_) (fun h => ?_)
    · have h : ¬ depthS ns root ≤ 40 := by have h : (depthS ns root : Int) > 40 := h; omega
      rw [decide_eq_false h] at hk
      conv => whnf
      exact hr _ _ rfl hk
    have h : depthS ns root ≤ 40 := by have h : ¬ (depthS ns root : Int) > 40 := h; omega
    rw [decide_eq_true h, Bool.true_and] at hk
    conv => whnf
    refine ⟨⟨by omega, by omega, rfl⟩, ?_⟩
    conv => whnf
    refine two_ne (fun h2 => ?_) (fun h2 => ?_)
    · have h2 : (nd ns root.toNat).k ≠ 1 := h2
      rw [beq_eq_false_iff_ne.2 h2, Bool.false_and] at hk
      conv => whnf
      exact hr _ _ rfl hk
    have h2 : (nd ns root.toNat).k = 1 := h2
    rw [beq_iff_eq.2 h2, Bool.true_and] at hk
    conv => whnf
    refine ⟨ns, root, _, rfl, ta, hs, rfl, ?_⟩
    conv => whnf
    exact hr _ _ rfl hk
end Go.Proofs.YtojjkleplnijaaaGreatDoor

namespace Go.Ru
theorem kidsS_pr {out : List Nat} (ho : szOk out) : ∀ (l : List Int) (last : Int) (size : Nat) (c : Nat), last < out.length → kidsS out l last size = some c → l.Pairwise (fun a c => c < a) := by
  intro l
  induction l with
  | nil => intro _ _ _ _ _; exact List.Pairwise.nil
  | cons k r ih =>
    intro last size c h1 h
    simp only [kidsS] at h
    split at h
    case h_2 => simp at h
    rename_i hb
    simp only [Bool.and_eq_true, beq_iff_eq, decide_eq_true_eq] at hb
    obtain ⟨rfl, hk⟩ := hb
    have := ho k.toNat (by omega)
    refine List.pairwise_cons.2 ⟨fun x hx => ?_, ih _ _ c (by omega) h⟩
    have := kidsS_mem ho r _ _ c (by omega) h x hx
    omega
theorem kids_rise {ns : List Nd} {root : Int} (h : soundS ns root = true) {j : Nat} (hj : j < ns.length) : (nd ns j).kids.Pairwise (· < ·) := by
  simp only [soundS, Bool.and_eq_true] at h
  obtain ⟨_, h4⟩ := h
  split at h4
  case h_2 => simp at h4
  rename_i l hl
  obtain ⟨hlen, hok, _⟩ := sizesS_inv ns [] l (fun i hi => by simp at hi) hl
  obtain ⟨_, he⟩ := sizesS_each ns [] l hl
  simp only [List.length_nil, Nat.zero_add] at hlen he
  have hlt : (l.take j).length = j := by rw [List.length_take]; omega
  refine List.pairwise_reverse.1 (kidsS_pr (out := l.take j) (fun i hi => ?_) _ _ _ _ (by rw [hlt]; omega) (he j hj))
  rw [hlt] at hi
  have := hok i (by omega)
  rw [List.getD_eq_getElem?_getD, List.getElem?_take, if_pos hi, ← List.getD_eq_getElem?_getD]
  exact this
def ofB (ns : List Nd) (a b : Int) (name : Bs) (q : Int) : Bool := ((nd ns q.toNat).k == a || (nd ns q.toNat).k == b) && (nd ns q.toNat).tx == name
def ofF (ns : List Nd) (a b : Int) (name : Bs) : List Int → Int
  | [] => -1
  | q :: l => match ofB ns a b name q with
    | true => q
    | false => ofF ns a b name l
def ofS (ns : List Nd) (p : Nat) (a b : Int) (name : Bs) : Int := ofF ns a b name (nd ns p).kids
theorem ofF_spec {ns : List Nd} {a b : Int} {name : Bs} : ∀ {l : List Int}, l.Pairwise (· < ·) →
    (ofF ns a b name l = -1 ∧ ∀ q ∈ l, ofB ns a b name q = false) ∨ (ofF ns a b name l ∈ l ∧ ofB ns a b name (ofF ns a b name l) = true ∧ ∀ q ∈ l, ofB ns a b name q = true → ofF ns a b name l ≤ q) := by
  intro l
  induction l with
  | nil => intro _; exact .inl ⟨rfl, fun q h => by simp at h⟩
  | cons x l ih =>
    intro h
    obtain ⟨h1, h2⟩ := List.pairwise_cons.1 h
    cases hx : ofB ns a b name x with
    | true =>
      have e : ofF ns a b name (x :: l) = x := by simp [ofF, hx]
      rw [e]
      refine .inr ⟨List.mem_cons_self .., hx, fun q hq _ => ?_⟩
      rcases List.mem_cons.1 hq with rfl | hq
      · exact Int.le_refl _
      · exact Int.le_of_lt (h1 q hq)
    | false =>
      have e : ofF ns a b name (x :: l) = ofF ns a b name l := by simp [ofF, hx]
      rw [e]
      rcases ih h2 with ⟨g1, g2⟩ | ⟨g1, g2, g3⟩
      · refine .inl ⟨g1, fun q hq => ?_⟩
        rcases List.mem_cons.1 hq with rfl | hq
        · exact hx
        · exact g2 q hq
      · refine .inr ⟨List.mem_cons_of_mem _ g1, g2, fun q hq hb => ?_⟩
        rcases List.mem_cons.1 hq with rfl | hq
        · rw [hx] at hb; cases hb
        · exact g3 q hq hb
theorem ofF_nat {ns : List Nd} {a b : Int} {name : Bs} {P : Nat → Bool} {n : Nat} {l : List Int} (h : l.Pairwise (· < ·)) (hr : ∀ q ∈ l, 0 ≤ q ∧ q < (n : Int))
    (hp : ∀ i : Nat, i < n → (P i = true ↔ ((i : Int) ∈ l ∧ ofB ns a b name (i : Int) = true))) : ofF ns a b name l = natO (firstB P n) := by
  rcases ofF_spec (ns := ns) (a := a) (b := b) (name := name) h with ⟨h1, h2⟩ | ⟨h1, h2, h3⟩
  · rw [h1]
    cases hf : firstB P n with
    | none => rfl
    | some j =>
      obtain ⟨g1, g2, _⟩ := firstB_some hf
      have := (hp j g1).1 g2
      rw [h2 _ this.1] at this
      exact absurd this.2 (by simp)
  · generalize hq : ofF ns a b name l = q at h1 h2 h3
    obtain ⟨r1, r2⟩ := hr q h1
    obtain ⟨i, rfl⟩ : ∃ i : Nat, q = (i : Int) := ⟨q.toNat, by omega⟩
    have hi : i < n := by omega
    rw [firstB_eq hi ((hp i hi).2 ⟨h1, h2⟩) fun j hj => ?_]
    · rfl
    cases hpj : P j with
    | false => rfl
    | true =>
      obtain ⟨g1, g2⟩ := (hp j (by omega)).1 hpj
      have := h3 _ g1 g2
      omega
theorem dec_ne {j i : Nat} (h : j ≤ i) : decide ((j : Int) < (i : Int)) = ((j : Int) != (i : Int)) := by
  by_cases e : j = i
  · subst e; simp
  · rw [decide_eq_true (by omega)]
    symm; rw [bne_iff_ne]; omega
section
variable {ns : List Nd} {root : Int} (h : RightT ns root)
include h
theorem RightT.snd : soundS ns root = true := by have := h.ok; simp only [rightS, Bool.and_eq_true] at this; exact this.1.1.1
theorem RightT.rise {p : Nat} (hp : p < ns.length) : (nd ns p).kids.Pairwise (· < ·) := kids_rise h.snd hp
theorem RightT.inr {p : Nat} (hp : p < ns.length) : ∀ q ∈ (nd ns p).kids, 0 ≤ q ∧ q < (ns.length : Int) := fun q hq => by
  have := h.kid p hp q hq
  omega
theorem RightT.only {i : Nat} (hi : i < ns.length) (hk : (nd ns i).k = 1) : (i : Int) = root := by
  by_cases e : (i : Int) = root
  · exact e
  · obtain ⟨p, _, h2, h3, _⟩ := h.up hi e
    have h5 := kid_kind (h.shape p h2) (kinds_mem h3)
    simp only [Int.toNat_natCast, hk] at h5
    rcases h5 with ⟨_, h5⟩ | ⟨_, h5⟩ | ⟨_, h5⟩ | ⟨_, _, h5⟩ | ⟨_, h5⟩ | ⟨_, h5⟩ | ⟨_, h5⟩
    · omega
    · omega
    · simp [stB] at h5
    · simp [exB] at h5
    · omega
    · omega
    · omega
theorem RightT.glob {i : Nat} (hi : i < ns.length) (hk : (nd ns i).k = 2 ∨ (nd ns i).k = 3) : (i : Int) ∈ (nd ns root.toNat).kids := by
  obtain ⟨p, _, h2, h3, _⟩ := h.up hi (h.notroot hi (by omega))
  have h5 := kid_kind (h.shape p h2) (kinds_mem h3)
  simp only [Int.toNat_natCast] at h5
  have h6 : (nd ns p).k = 1 := by
    rcases h5 with ⟨h5, _⟩ | ⟨_, h5⟩ | ⟨_, h5⟩ | ⟨_, _, h5⟩ | ⟨_, h5⟩ | ⟨_, h5⟩ | ⟨_, h5⟩
    · exact h5
    · omega
    · simp only [stB, Bool.and_eq_true, decide_eq_true_eq] at h5; omega
    · simp only [exB, Bool.and_eq_true, decide_eq_true_eq] at h5; omega
    · omega
    · omega
    · omega
  have h7 := h.only h2 h6
  rw [← h7]
  exact h3
theorem RightT.rlt : root.toNat < ns.length := by have := h.rt; have := h.pos; omega
theorem of_loc {p : Nat} (hp : p < ns.length) (hk : (nd ns p).k = 3) (name : Bs) : ofS ns p 4 5 name = natO (locS ns root (p : Int) name) := by
  refine ofF_nat (h.rise hp) (h.inr hp) fun i hi => ?_
  simp only [locP, ofB, Int.toNat_natCast, Bool.and_eq_true, Bool.or_eq_true, beq_iff_eq]
  constructor
  · rintro ⟨h1, h2, h3⟩
    obtain ⟨p', _, _, g3, _, g5⟩ := h.decl hi h1
    obtain rfl : p' = p := by omega
    exact ⟨g3, h1, h3⟩
  · rintro ⟨h1, h2, h3⟩
    have := own_kid h.toStd hp h1 (by simp only [Int.toNat_natCast]; omega)
    simp only [Int.toNat_natCast] at this
    exact ⟨h2, by rw [this, own_eq h.toStd hp, if_pos hk], h3⟩
theorem of_glob (name : Bs) : ofS ns root.toNat 2 2 name = natO (globS ns name) := by
  refine ofF_nat (h.rise h.rlt) (h.inr h.rlt) fun i hi => ?_
  simp only [globP, ofB, Int.toNat_natCast, Bool.and_eq_true, Bool.or_eq_true, beq_iff_eq, or_self]
  exact ⟨fun ⟨h1, h2⟩ => ⟨h.glob hi (.inl h1), h1, h2⟩, fun ⟨_, h2⟩ => h2⟩
theorem of_proc (name : Bs) : ofS ns root.toNat 3 3 name = procI ns name := by
  refine ofF_nat (h.rise h.rlt) (h.inr h.rlt) fun i hi => ?_
  simp only [procP, ofB, Int.toNat_natCast, Bool.and_eq_true, Bool.or_eq_true, beq_iff_eq, or_self]
  exact ⟨fun ⟨h1, h2⟩ => ⟨h.glob hi (.inr h1), h1, h2⟩, fun ⟨_, h2⟩ => h2⟩
theorem means_of {i : Nat} (hi : i < ns.length) (name : Bs) :
    (own ns root i = -1 ∧ meansS ns root i name = -1) ∨ (0 ≤ own ns root i ∧ own ns root i < ns.length ∧ (nd ns (own ns root i).toNat).k = 3 ∧
      ((0 ≤ ofS ns (own ns root i).toNat 4 5 name ∧ meansS ns root i name = ofS ns (own ns root i).toNat 4 5 name) ∨ (ofS ns (own ns root i).toNat 4 5 name = -1 ∧ meansS ns root i name = ofS ns root.toNat 2 2 name))) := by
  rcases own_range h.toStd hi with e | ⟨e1, e2, e3⟩
  · exact .inl ⟨e, by unfold meansS; rw [e]; rfl⟩
  · refine .inr ⟨by omega, e2, e3, ?_⟩
    have hl := of_loc h (p := (own ns root i).toNat) (by omega) e3 name
    rw [show (((own ns root i).toNat : Nat) : Int) = own ns root i by omega] at hl
    have hm : meansS ns root i name = match locS ns root (own ns root i) name with
        | some d => (d : Int)
        | none => natO (globS ns name) := by
      unfold meansS
      rw [show (own ns root i == -1) = false from beq_eq_false_iff_ne.2 (by omega)]
      rfl
    rw [hm, hl, of_glob h]
    cases locS ns root (own ns root i) name with
    | some d => exact .inl ⟨by simp only [natO]; omega, rfl⟩
    | none => exact .inr ⟨rfl, rfl⟩
theorem means_kind {i : Nat} (_ : i < ns.length) (name : Bs) : meansS ns root i name = -1 ∨ (0 ≤ meansS ns root i name ∧ meansS ns root i name < ns.length ∧ 1 ≤ (nd ns (meansS ns root i name).toNat).n ∧ (nd ns (meansS ns root i name).toNat).n ≤ 4) := by
  have num : ∀ d : Nat, d < ns.length → ((nd ns d).k = 2 ∨ (nd ns d).k = 4 ∨ (nd ns d).k = 5) → 1 ≤ (nd ns d).n ∧ (nd ns d).n ≤ 4 := fun d hd hk => by
    have := h.num d hd
    unfold numberS at this
    rw [if_pos hk] at this
    simp only [Bool.and_eq_true, decide_eq_true_eq] at this
    omega
  unfold meansS
  split
  · exact .inl rfl
  · split
    · rename_i d hd
      obtain ⟨h1, h2, _⟩ := firstB_some hd
      simp only [locP, Bool.and_eq_true, Bool.or_eq_true, beq_iff_eq] at h2
      have := num d h1 (by omega)
      exact .inr ⟨by omega, by omega, by simpa using this⟩
    · cases hg : globS ns name with
      | none => exact .inl rfl
      | some d =>
        obtain ⟨h1, h2, _⟩ := firstB_some hg
        simp only [globP, Bool.and_eq_true, beq_iff_eq] at h2
        have := num d h1 (by omega)
        exact .inr ⟨by simp only [natO]; omega, by simp only [natO]; omega, by simpa [natO] using this⟩
theorem glob_first {g p : Int} (hg : g ∈ (nd ns root.toNat).kids) (hp : p ∈ (nd ns root.toNat).kids) (kg : (nd ns g.toNat).k = 2) (kp : (nd ns p.toNat).k = 3) : g < p := by
  have hs := h.shape root.toNat h.rlt
  rw [h.top] at hs
  obtain ⟨a, b, hab, ha, hb⟩ : ∃ a b, kindsS ns (nd ns root.toNat) = a ++ b ∧ (∀ x ∈ a, x = 2) ∧ (∀ x ∈ b, x = 3) := hs
  obtain ⟨A, B, hAB, rfl, rfl⟩ := List.map_eq_append_iff.1 hab
  have hr := h.rise h.rlt
  rw [hAB] at hr hg hp
  obtain ⟨_, _, hr⟩ := List.pairwise_append.1 hr
  refine hr g ?_ p ?_
  · rcases List.mem_append.1 hg with m | m
    · exact m
    · have := hb _ (List.mem_map.2 ⟨g, m, rfl⟩)
      have kg : (ns.getD g.toNat default).k = 2 := kg
      omega
  · rcases List.mem_append.1 hp with m | m
    · have := ha _ (List.mem_map.2 ⟨p, m, rfl⟩)
      have kp : (ns.getD p.toNat default).k = 3 := kp
      omega
    · exact m
def twiceR (ns : List Nd) (root : Int) (i : Nat) : Bool :=
  if (nd ns i).k = 4 ∨ (nd ns i).k = 5 then decide (ofS ns (own ns root i).toNat 4 5 (nd ns i).tx < (i : Int))
  else decide (ofS ns root.toNat 2 3 (nd ns i).tx < (i : Int))
theorem twice_eq {i : Nat} (hi : i < ns.length) (hk : (nd ns i).k = 2 ∨ (nd ns i).k = 3 ∨ (nd ns i).k = 4 ∨ (nd ns i).k = 5) : twiceR ns root i = twiceS ns root i (nd ns i) := by
  have nat : ∀ {P : Nat → Bool}, P i = true → decide (natO (firstB P ns.length) < (i : Int)) = (natZ (firstB P ns.length) != (i : Int)) := fun {P} hp => by
    obtain ⟨j, hj, hji⟩ := firstB_ex hi hp
    rw [hj]
    exact dec_ne hji
  unfold twiceR twiceS
  by_cases h4 : (nd ns i).k = 4 ∨ (nd ns i).k = 5
  · rw [if_pos h4, if_pos h4]
    obtain ⟨p, _, g2, g3, g4, g5⟩ := h.decl hi h4
    rw [g5, Int.toNat_natCast, of_loc h g2 g4]
    refine nat ?_
    simp only [locP, Bool.and_eq_true, Bool.or_eq_true, beq_iff_eq]
    exact ⟨h4, g5, trivial⟩
  rw [if_neg h4, if_neg h4]
  have hik := h.glob hi (by omega)
  have hB : ofB ns 2 3 (nd ns i).tx (i : Int) = true := by
    simp only [ofB, Int.toNat_natCast, Bool.and_eq_true, Bool.or_eq_true, beq_iff_eq]
    exact ⟨by omega, trivial⟩
  rcases ofF_spec (ns := ns) (a := 2) (b := 3) (name := (nd ns i).tx) (h.rise h.rlt) with ⟨_, f2⟩ | ⟨f1, f2, f3⟩
  · rw [f2 _ hik] at hB; cases hB
  have hle := f3 _ hik hB
  have hc0 := h.inr h.rlt _ f1
  change _ ≤ _ at hle
  have hof : ofS ns root.toNat 2 3 (nd ns i).tx = ofF ns 2 3 (nd ns i).tx (nd ns root.toNat).kids := rfl
  rw [hof]
  generalize ofF ns 2 3 (nd ns i).tx (nd ns root.toNat).kids = c at f1 f2 f3 hle hc0 ⊢
  obtain ⟨c, rfl⟩ : ∃ n : Nat, c = (n : Int) := ⟨c.toNat, by omega⟩
  simp only [ofB, Int.toNat_natCast, Bool.and_eq_true, Bool.or_eq_true, beq_iff_eq] at f2
  by_cases h2 : (nd ns i).k = 2
  · rw [if_pos h2]
    obtain ⟨j, hj, hji⟩ := firstB_ex (p := globP ns (nd ns i).tx) hi (by simp [globP, h2])
    obtain ⟨j1, j2, j3⟩ := firstB_some hj
    have e : (c : Int) = (j : Int) := by
      simp only [globP, Bool.and_eq_true, beq_iff_eq] at j2
      have hjk := h.glob j1 (.inl j2.1)
      have l1 := f3 _ hjk (by simp only [ofB, Int.toNat_natCast, Bool.and_eq_true, Bool.or_eq_true, beq_iff_eq]; exact ⟨.inl j2.1, j2.2⟩)
      rcases f2.1 with k2 | k3
      · by_cases e : c < j
        · have := j3 c e
          simp [globP, k2, f2.2] at this
        · omega
      · have := glob_first h hjk f1 (by simpa using j2.1) (by simpa using k3)
        omega
    rw [e]
    simp only [globS, hj]
    exact dec_ne hji
  · rw [if_neg h2]
    have h3 : (nd ns i).k = 3 := by omega
    obtain ⟨j, hj, hji⟩ := firstB_ex (p := procP ns (nd ns i).tx) hi (by simp [procP, h3])
    obtain ⟨j1, j2, j3⟩ := firstB_some hj
    simp only [procP, Bool.and_eq_true, beq_iff_eq] at j2
    have hjk := h.glob j1 (.inr j2.1)
    have l1 := f3 _ hjk (by simp only [ofB, Int.toNat_natCast, Bool.and_eq_true, Bool.or_eq_true, beq_iff_eq]; exact ⟨.inr j2.1, j2.2⟩)
    simp only [tprocS, hj]
    show _ = (_ || ((j : Int) != (i : Int)))
    cases hg : globS ns (nd ns i).tx with
    | some g =>
      obtain ⟨g1, g2, _⟩ := firstB_some hg
      simp only [globP, Bool.and_eq_true, beq_iff_eq] at g2
      have hgk := h.glob g1 (.inl g2.1)
      have l2 := f3 _ hgk (by simp only [ofB, Int.toNat_natCast, Bool.and_eq_true, Bool.or_eq_true, beq_iff_eq]; exact ⟨.inl g2.1, g2.2⟩)
      have l3 := glob_first h hgk hik (by simpa using g2.1) (by simpa using h3)
      simp only [Option.isSome_some, Bool.true_or]
      exact decide_eq_true (by omega)
    | none =>
      simp only [Option.isSome_none, Bool.false_or]
      have e : (c : Int) = (j : Int) := by
        rcases f2.1 with k2 | k3
        · have := firstB_none hg c (by omega)
          simp [globP, k2, f2.2] at this
        · by_cases e : c < j
          · have := j3 c e
            simp [procP, k3, f2.2] at this
          · omega
      rw [e]
      exact dec_ne hji
end
end Go.Ru

namespace Go.Ru
section
variable (ns : List Nd) (root : Int)
def namedR (i : Nat) (want : Int) (fits : Bool) : Int :=
  if meansS ns root i (nd ns i).tx < 0 then 3
  else if (want ≠ 0 ∧ kindS ns root i (nd ns i).tx ≠ want) ∨ fits = false then 5 else 0
def operR (n : Nd) : Bool :=
  if n.tx = [61, 61] ∨ n.tx = [33, 61] then tyS ns root (n.kids.getD 0 0).toNat == tyS ns root (n.kids.getD 1 0).toNat && (tyS ns root (n.kids.getD 0 0).toNat == 1 || tyS ns root (n.kids.getD 0 0).toNat == 2)
  else if n.tx = [33] ∨ n.tx = [38, 38] ∨ n.tx = [124, 124] then allS ns root n.kids 2
  else allS ns root n.kids 1
def retR (n : Nd) (a : Int) : Bool := if n.kids.length = 0 then a == 0 else (a != 0 && tyS ns root (n.kids.getD 0 0).toNat == a)
def wrongR (i : Nat) : Int :=
  let n := nd ns i
  if n.k = 2 ∨ n.k = 3 ∨ n.k = 4 ∨ n.k = 5 then (if twiceR ns root i then 4 else 0)
  else if n.k = 22 then namedR ns root i 0 true
  else if n.k = 23 ∨ n.k = 8 ∨ n.k = 17 then namedR ns root i 3 (allS ns root n.kids 1)
  else if n.k = 24 then namedR ns root i 3 true
  else if n.k = 9 ∨ n.k = 16 then namedR ns root i 1 true
  else if n.k = 25 then (if procI ns n.tx < 0 then 3 else toldS (tplainS ns (procI ns n.tx).toNat))
  else if n.k = 26 ∨ n.k = 27 then toldS (operR ns root n)
  else if n.k = 7 then namedR ns root i (tyS ns root (n.kids.getD 0 0).toNat) true
  else if n.k = 10 then toldS (tyS ns root (n.kids.getD 1 0).toNat == 1)
  else if n.k = 15 then toldS (tyS ns root (n.kids.getD 0 0).toNat == 1)
  else if n.k = 11 ∨ n.k = 12 then toldS (tyS ns root (n.kids.getD 0 0).toNat == 2)
  else if n.k = 13 then tcallS ns root i n
  else if n.k = 14 then toldS (retR ns root n (nd ns (own ns root i).toNat).n)
  else 0
end
section
variable {ns : List Nd} {root : Int} (h : RightT ns root)
include h
theorem named_eq {i : Nat} (hi : i < ns.length) {want : Int} (fits : Bool) (hw : want ≠ 0) : namedR ns root i want fits = tnamedS ns root i fun k => k == want && fits := by
  unfold namedR tnamedS
  rcases means_kind h hi (nd ns i).tx with e | ⟨e1, _, _⟩
  · rw [if_pos (by omega), if_pos e]
  · rw [if_neg (show ¬ meansS ns root i (nd ns i).tx < 0 by omega), if_neg (show ¬ meansS ns root i (nd ns i).tx = -1 by omega)]
    by_cases e : kindS ns root i (nd ns i).tx = want
    · cases fits <;> simp [e, toldS]
    · rw [if_pos (.inl ⟨hw, e⟩)]
      have : (kindS ns root i (nd ns i).tx == want) = false := beq_eq_false_iff_ne.2 e
      show (5 : Int) = toldS (kindS ns root i (nd ns i).tx == want && fits)
      rw [this]; rfl
theorem named_eq' {i : Nat} (hi : i < ns.length) {want : Int} (hw : want ≠ 0) : namedR ns root i want true = tnamedS ns root i fun k => k == want := by
  rw [named_eq h hi true hw]; simp only [Bool.and_true]
theorem kids_one {i : Nat} (hi : i < ns.length) (hk : (nd ns i).k = 7 ∨ (nd ns i).k = 17 ∨ (nd ns i).k = 15 ∨ (nd ns i).k = 23 ∨ (nd ns i).k = 26) : ∃ q, (nd ns i).kids = [q] ∧ exB (nd ns q.toNat).k = true := by
  have hs := h.shape i hi
  have hl := kinds_len ns (nd ns i)
  unfold ShapeOf at hs
  rw [if_neg (by omega), if_neg (by omega), if_neg (by omega), if_pos hk] at hs
  obtain ⟨a, ha, he⟩ := hs
  rw [ha] at hl
  match hq : (nd ns i).kids with
  | [q] =>
    refine ⟨q, rfl, ?_⟩
    rw [kindsS, hq] at ha
    simp only [List.map_cons, List.map_nil, List.cons.injEq, and_true] at ha
    show exB (ns.getD q.toNat default).k = true
    rw [ha]; exact he
  | [] => rw [hq] at hl; simp at hl
  | _ :: _ :: _ => rw [hq] at hl; simp at hl
theorem kids_two {i : Nat} (hi : i < ns.length) (hk : (nd ns i).k = 8 ∨ (nd ns i).k = 27 ∨ (nd ns i).k = 10 ∨ (nd ns i).k = 12) : ∃ q r, (nd ns i).kids = [q, r] := by
  have hs := h.shape i hi
  have hl := kinds_len ns (nd ns i)
  have : (kindsS ns (nd ns i)).length = 2 := by
    unfold ShapeOf at hs
    rw [if_neg (by omega), if_neg (by omega), if_neg (by omega), if_neg (by omega)] at hs
    by_cases h8 : (nd ns i).k = 8 ∨ (nd ns i).k = 27
    · rw [if_pos h8] at hs
      obtain ⟨a, b, e, _⟩ := hs
      rw [e]; rfl
    rw [if_neg h8, if_neg (by omega)] at hs
    by_cases h10 : (nd ns i).k = 10
    · rw [if_pos h10] at hs
      obtain ⟨a, e, _⟩ := hs
      rw [e]; rfl
    rw [if_neg h10, if_neg (by omega), if_pos (by omega)] at hs
    obtain ⟨a, e, _⟩ := hs
    rw [e]; rfl
  match hq : (nd ns i).kids with
  | [q, r] => exact ⟨q, r, rfl⟩
  | [] => rw [this, hq] at hl; simp at hl
  | [_] => rw [this, hq] at hl; simp at hl
  | _ :: _ :: _ :: _ => rw [this, hq] at hl; simp at hl
theorem kids_if {i : Nat} (hi : i < ns.length) (hk : (nd ns i).k = 11) : ∃ q r s, (nd ns i).kids = [q, r, s] := by
  have hs := h.shape i hi
  have hl := kinds_len ns (nd ns i)
  have : (kindsS ns (nd ns i)).length = 3 := by
    rw [hk] at hs
    obtain ⟨a, e, _⟩ : ∃ a, kindsS ns (nd ns i) = [a, 6, 6] ∧ exB a = true := hs
    rw [e]; rfl
  match hq : (nd ns i).kids with
  | [q, r, s] => exact ⟨q, r, s, rfl⟩
  | [] => rw [this, hq] at hl; simp at hl
  | [_] => rw [this, hq] at hl; simp at hl
  | [_, _] => rw [this, hq] at hl; simp at hl
  | _ :: _ :: _ :: _ :: _ => rw [this, hq] at hl; simp at hl
theorem kids_ret {i : Nat} (hi : i < ns.length) (hk : (nd ns i).k = 14) : (nd ns i).kids.length ≤ 1 := by
  have hs := h.shape i hi
  have hl := kinds_len ns (nd ns i)
  rw [hk] at hs
  have hs : kindsS ns (nd ns i) = [] ∨ ∃ a, kindsS ns (nd ns i) = [a] ∧ exB a = true := hs
  rcases hs with e | ⟨a, e, _⟩ <;> rw [e] at hl <;> simp at hl <;> omega
theorem own_in {i : Nat} (hi : i < ns.length) (hk : 3 ≤ (nd ns i).k) : 0 ≤ own ns root i ∧ own ns root i < ns.length := h.owned ns.length i (by omega) hi (by omega) (by omega)
theorem oper_eq {i : Nat} (hi : i < ns.length) (hk : (nd ns i).k = 26 ∨ (nd ns i).k = 27) : operR ns root (nd ns i) = operandsS ns root (nd ns i) := by
  unfold operR operandsS
  by_cases h1 : (nd ns i).tx = [61, 61] ∨ (nd ns i).tx = [33, 61]
  · rw [if_pos h1, if_neg (by rcases h1 with e | e <;> rw [e] <;> decide), if_pos h1]
    have h27 : (nd ns i).k = 27 := by
      rcases hk with e | e
      · have := h.tx i hi
        rw [e] at this
        rcases h1 with e1 | e1 <;> rw [e1] at this <;> exact absurd this (by decide)
      · exact e
    obtain ⟨q, r, e⟩ := kids_two h hi (.inr (.inl h27))
    rw [e]
    simp only [allS, List.all_cons, List.all_nil, Bool.and_true, List.getD_cons_zero, List.getD_cons_succ]
    generalize tyS ns root q.toNat = a
    generalize tyS ns root r.toNat = b
    rw [Bool.eq_iff_iff]
    simp only [Bool.and_eq_true, Bool.or_eq_true, beq_iff_eq]
    omega
  · rw [if_neg h1]
    by_cases h2 : (nd ns i).tx = [33] ∨ (nd ns i).tx = [38, 38] ∨ (nd ns i).tx = [124, 124]
    · rw [if_pos h2, if_pos h2]
    · rw [if_neg h2, if_neg h2, if_neg h1]
theorem wrong_eq {i : Nat} (hi : i < ns.length) (hb : ∀ j, j < i → checkS ns root j = 0) : wrongR ns root i = checkS ns root i := by
  unfold wrongR checkS
  extract_lets n
  by_cases h1 : n.k = 2 ∨ n.k = 3 ∨ n.k = 4 ∨ n.k = 5
  · rw [if_pos h1, if_pos h1, twice_eq h hi h1]
  rw [if_neg h1, if_neg h1]
  by_cases h2 : n.k = 22
  · rw [if_pos h2, if_pos h2]
    unfold namedR tnamedS
    rcases means_kind h hi (nd ns i).tx with e | ⟨e1, _, _⟩
    · rw [if_pos (by omega), if_pos e]
    · rw [if_neg (show ¬ meansS ns root i (nd ns i).tx < 0 by omega), if_neg (show ¬ meansS ns root i (nd ns i).tx = -1 by omega)]; simp [toldS]
  rw [if_neg h2, if_neg h2]
  by_cases h3 : n.k = 23 ∨ n.k = 8 ∨ n.k = 17
  · rw [if_pos h3, if_pos h3]; exact named_eq h hi _ (by decide)
  rw [if_neg h3, if_neg h3]
  by_cases h4 : n.k = 24
  · rw [if_pos h4, if_pos h4]; exact named_eq' h hi (by decide)
  rw [if_neg h4, if_neg h4]
  by_cases h5 : n.k = 9 ∨ n.k = 16
  · rw [if_pos h5, if_pos h5]; exact named_eq' h hi (by decide)
  rw [if_neg h5, if_neg h5]
  by_cases h7 : n.k = 7
  · rw [if_neg (by omega), if_neg (by omega), if_pos h7, if_pos h7]
    obtain ⟨q, hq, hx⟩ := kids_one h hi (.inl h7)
    have hqk := h.kid i hi q (by rw [hq]; simp)
    refine named_eq' h hi ?_
    show tyS ns root ((nd ns i).kids.getD 0 0).toNat ≠ 0
    rw [hq]
    show tyS ns root q.toNat ≠ 0
    have hc := hb q.toNat (by omega)
    simp only [exB, Bool.and_eq_true, decide_eq_true_eq] at hx
    unfold tyS
    extract_lets m
    by_cases t1 : m.k = 20 ∨ m.k = 23 ∨ m.k = 24
    · rw [if_pos t1]; decide
    rw [if_neg t1]
    by_cases t2 : m.k = 21
    · rw [if_pos t2]; decide
    rw [if_neg t2]
    by_cases t3 : m.k = 25
    · rw [if_pos t3]; decide
    rw [if_neg t3]
    by_cases t4 : m.k = 22
    · rw [if_pos t4]
      have hc : tnamedS ns root q.toNat (fun _ => true) = 0 := by
        have t4 : (nd ns q.toNat).k = 22 := t4
        unfold checkS at hc
        simpa [t4] using hc
      obtain ⟨c1, _, c3⟩ := named_ok hc
      show kindS ns root q.toNat (nd ns q.toNat).tx ≠ 0
      rw [c3]
      rcases means_kind h (i := q.toNat) (by omega) (nd ns q.toNat).tx with e | ⟨_, _, e, _⟩ <;> omega
    rw [if_neg t4]
    rw [if_pos (show m.k = 26 ∨ m.k = 27 by show (nd ns q.toNat).k = 26 ∨ (nd ns q.toNat).k = 27; have t1 : ¬ ((nd ns q.toNat).k = 20 ∨ (nd ns q.toNat).k = 23 ∨ (nd ns q.toNat).k = 24) := t1; have t2 : ¬ (nd ns q.toNat).k = 21 := t2; have t3 : ¬ (nd ns q.toNat).k = 25 := t3; have t4 : ¬ (nd ns q.toNat).k = 22 := t4; omega)]
    split <;> decide
  by_cases h25 : n.k = 25
  · rw [if_pos h25, if_neg h7, if_pos h25]
    rcases procI_range ns n.tx with e | ⟨e, _⟩
    · rw [if_pos (by omega), if_pos e]
    · rw [if_neg (show ¬ procI ns n.tx < 0 by omega), if_neg (show ¬ procI ns n.tx = -1 by omega)]
  rw [if_neg h25]
  by_cases h26 : n.k = 26 ∨ n.k = 27
  · rw [if_pos h26, if_neg h7, if_neg h25, if_pos h26]
    congr 1
    exact oper_eq h hi h26
  rw [if_neg h26, if_neg h7, if_neg h7, if_neg h25, if_neg h26]
  by_cases h10 : n.k = 10
  · rw [if_pos h10, if_pos h10]
    obtain ⟨q, r, e⟩ := kids_two h hi (.inr (.inr (.inl h10)))
    have e : n.kids = [q, r] := e
    rw [e]; simp [allS]
  rw [if_neg h10, if_neg h10]
  by_cases h15 : n.k = 15
  · rw [if_pos h15, if_pos h15]
    obtain ⟨q, e, _⟩ := kids_one h hi (.inr (.inr (.inl h15)))
    have e : n.kids = [q] := e
    rw [e]; simp [allS]
  rw [if_neg h15, if_neg h15]
  by_cases h11 : n.k = 11 ∨ n.k = 12
  · rw [if_pos h11, if_pos h11]
    rcases h11 with h11 | h12
    · obtain ⟨q, r, s, e⟩ := kids_if h hi h11
      have e : n.kids = [q, r, s] := e
      rw [e]; simp [allS]
    · obtain ⟨q, r, e⟩ := kids_two h hi (.inr (.inr (.inr h12)))
      have e : n.kids = [q, r] := e
      rw [e]; simp [allS]
  rw [if_neg h11, if_neg h11]
  by_cases h13 : n.k = 13
  · rw [if_pos h13, if_pos h13]
  rw [if_neg h13, if_neg h13]
  by_cases h14 : n.k = 14
  · rw [if_pos h14, if_pos h14]
    congr 1
    have hl := kids_ret h hi h14
    have hl : n.kids.length ≤ 1 := hl
    unfold retR
    match hq : n.kids with
    | [] => simp [allS]
    | [q] =>
      simp only [allS, List.length_cons, List.length_nil, List.all_cons, List.all_nil, Bool.and_true, List.getD_cons_zero]
      generalize (nd ns (own ns root i).toNat).n = a
      by_cases e : a = 0
      · simp [e]
      · simp [e]; rfl
    | _ :: _ :: _ => rw [hq] at hl; simp at hl
  rw [if_neg h14, if_neg h14]
def rwrongS (ns : List Nd) (root : Int) : Nat → Nat → Option (Nat × Int)
  | _, 0 => none
  | i, m + 1 => match wrongR ns root i == 0 with
    | true => rwrongS ns root (i + 1) m
    | false => some (i, wrongR ns root i)
omit h in
theorem fit_len : ∀ (l w : List Int), fitS ns root l w = true → l.length = w.length := by
  intro l
  induction l with
  | nil => intro w; cases w <;> simp [fitS]
  | cons a l ih =>
    intro w
    cases w with
    | nil => simp [fitS]
    | cons b w => simp only [fitS, Bool.and_eq_true, List.length_cons]; intro h; rw [ih w h.2]
end
end Go.Ru

namespace Go.Proofs.YtojjkleplnijaaaGreatDoor
open Go.AE Go.Ru
set_option maxRecDepth 100000
set_option maxHeartbeats 1000000
theorem kt_of {ns : List Nd} {root : Int} (rt : RightT ns root) : Kt ns := ⟨by have := rt.len; omega, fun i => by
  by_cases hi : i < ns.length
  · have := rt.many i hi; have := rt.len; omega
  · rw [show nd ns i = default by simp [nd, Nat.le_of_not_lt hi]]
    exact (by decide : (default : Nd).kids.length < 1000000)⟩
def cRown : AC := fun args K k => ∃ ns root i' i v, args = [treeV ns root, intV i'] ∧ i' = ((i : Nat) : Int) ∧ RightT ns root ∧ i < ns.length ∧ own ns root i = v ∧ k (.ret (intV v)) K
theorem rown_ok : COk 54 cRown := by
  rintro args K k ⟨ns, root, _, i, v, rfl, rfl, rt, hi, rfl, hk⟩
  have hlen := rt.len
  have st := rt.toStd
  refine frame0P (gput_ok rparents_ok g0_ok) 19 rfl fun Q hr => ?_
  conv => whnf
  refine ⟨ns, root, rfl, kt_of rt, rt.snd, ?_⟩
  conv => whnf
  refine loop_up (ι := Int) [2, 5] (fun j => [(6, intV j)]) (fun _ => []) (fun j => (j = -1 ∧ own ns root i = -1) ∨ (0 ≤ j ∧ j < (ns.length : Int) ∧ own ns root j.toNat = own ns root i)) (fun j => if j < 0 then 0 else ns.length - j.toNat) (i : Int) ⟨AV.le_refl _, trivial⟩ trivial (.inr ⟨by omega, by omega, by simp⟩) ?_
  rintro Y hle j hj ih
  conv => whnf
  refine two_dec (fun h => ?_) (fun h => ?_)
  · have h : 0 ≤ j := h
    obtain ⟨_, hjl, hje⟩ := hj.resolve_left (fun e => by omega)
    obtain ⟨x, rfl⟩ : ∃ x : Nat, j = (x : Int) := ⟨j.toNat, by omega⟩
    rw [Int.toNat_natCast] at hje
    have hx : x < ns.length := by omega
    have hoe := own_eq st hx
    conv => whnf
    refine ⟨⟨h, hjl, rfl⟩, ?_⟩
    conv => whnf
    refine two_eq (fun h2 => ?_) (fun h2 => ?_)
    · have h2 : (nd ns x).k = 3 := h2
      rw [if_pos h2] at hoe
      rw [← hje, hoe] at hk
      conv => whnf
      exact hr _ _ rfl hk
    have h2 : (nd ns x).k ≠ 3 := h2
    rw [if_neg h2] at hoe
    have hnext : (parF ns root x = -1 ∧ own ns root i = -1) ∨ (0 ≤ parF ns root x ∧ parF ns root x < (ns.length : Int) ∧ own ns root (parF ns root x).toNat = own ns root i) := by
      by_cases e : (x : Int) = root
      · rw [if_pos e] at hoe
        refine .inl ⟨?_, by rw [← hje, hoe]⟩
        have := st.par_root
        rw [← e, Int.toNat_natCast] at this
        rw [← this, e]
      · rw [if_neg e] at hoe
        obtain ⟨p, p1, p2, _, p4⟩ := rt.up hx e
        rw [p4] at hoe ⊢
        exact .inr ⟨by omega, by omega, by rw [← hje, hoe]⟩
    have hdec : (if parF ns root x < 0 then 0 else ns.length - (parF ns root x).toNat) < (if (x : Int) < 0 then 0 else ns.length - (x : Int).toNat) := by
      rw [if_neg (by omega : ¬ (x : Int) < 0), Int.toNat_natCast]
      split
      · omega
      · by_cases e : (x : Int) = root
        · have := st.par_root
          rw [← e, Int.toNat_natCast] at this
          have hpr : parF ns root x = -1 := by rw [← this, e]
          omega
        · obtain ⟨p, p1, p2, _, p4⟩ := rt.up hx e
          rw [p4]; omega
    conv => whnf
    refine ⟨⟨h, hjl, rfl⟩, ?_⟩
    conv => whnf
    refine hle _ _ (Le.env ?_ ?_) (ih (parF ns root x) hdec hnext)
    · skip
      repeat' (first | exact trivial | ((conv => whnf); first | exact trivial | (refine And.intro (AV.le_refl _) ?_) | (refine And.intro (ABlk.le_refl _) ?_) | (refine And.intro (AV.le_of_eq ?_) ?_; (focus ((first | fail | fail); done))) | (refine And.intro (ABlk.le_of_eq ?_) ?_; (focus ((first | fail | fail); done))) | fail) | fail)
    · skip
      repeat' (first | exact trivial | ((conv => whnf); first | exact trivial | (refine And.intro (AV.le_refl _) ?_) | (refine And.intro (ABlk.le_refl _) ?_) | (refine And.intro (AV.le_of_eq ?_) ?_; (focus ((first | fail | fail); done))) | (refine And.intro (ABlk.le_of_eq ?_) ?_; (focus ((first | fail | fail); done))) | fail) | fail)
  · have h : ¬ 0 ≤ j := h
    have hj : own ns root i = -1 := (hj.resolve_right (fun e => h e.1)).2
    rw [hj] at hk
    conv => whnf
    exact hr _ _ rfl hk
def cRof : AC := fun args K k => ∃ ns root p' p a b name v, args = [treeV ns root, intV p', intV a, intV b, .p (.str name)] ∧ p' = ((p : Nat) : Int) ∧ RightT ns root ∧ p < ns.length ∧ ofS ns p a b name = v ∧ k (.ret (intV v)) K
theorem rof_ok : COk 51 cRof := by
  rintro args K k ⟨ns, root, _, p, a, b, name, v, rfl, rfl, rt, hp, hv, hk⟩
  have hlen := rt.len
  have hm := rt.many p hp
  have hin := rt.inr hp
  refine frame0P g0_ok 19 rfl fun Q hr => ?_
  conv => whnf
  refine ⟨⟨by omega, by omega, rfl⟩, ?_⟩
  conv => whnf
  refine loop_up (ι := Nat) [2, 3, 4, 5, 11] (fun j => [(12, intV j)]) (fun _ => []) (fun j => j ≤ (nd ns p).kids.length ∧ ofF ns a b name ((nd ns p).kids.drop j) = v) (fun j => (nd ns p).kids.length - j) 0 ⟨AV.le_refl _, trivial⟩ trivial ⟨Nat.zero_le _, hv⟩ ?_
  rintro Y hle i ⟨hi, he⟩ ih
  conv => whnf
  refine two_dec (fun h => ?_) (fun h => ?_)
  · have h : i < (nd ns p).kids.length := by have h : (i : Int) < ((nd ns p).kids.length : Int) := h; omega
    have h' : (i : Int) < ((nd ns p).kids.length : Int) := by omega
    have hw1 := wzz (i := i) (by omega)
    have hq := hin _ (getD_mem h)
    have hdr : (nd ns p).kids.drop i = (nd ns p).kids.getD i 0 :: (nd ns p).kids.drop (i + 1) := by
      rw [List.drop_eq_getElem_cons h]; congr 1; simp [h]
    conv => whnf
    refine ⟨⟨by omega, h', rfl⟩, ?_⟩
    conv => whnf
    refine ⟨⟨hq.1, hq.2, rfl⟩, ?_⟩
    conv => whnf
    repeat ((refine And.intro ?_ ?_); (focus ((conv => whnf); first | done | exact ⟨⟨by omega, h', rfl⟩, by conv => whnf⟩ | exact ⟨⟨hq.1, hq.2, rfl⟩, by conv => whnf⟩)); (conv => whnf))
    refine two_eq (fun h2 => ?_) (fun h2 => ?_)
    · have h2 : (nd ns ((nd ns p).kids.getD i 0).toNat).k = a := h2
      conv => whnf
      refine two_eq (fun h4 => ?_) (fun h4 => ?_)
      · have h4 : (nd ns ((nd ns p).kids.getD i 0).toNat).tx = name := h4
        have he : (nd ns p).kids.getD i 0 = v := by rw [← he, hdr]; simp only [ofF, ofB]; rw [h2, h4]; simp
        conv => whnf
        refine ⟨⟨by omega, h', rfl⟩, ?_⟩
        rw [← he] at hk
        conv => whnf
        exact hr _ _ rfl hk
      · have h4 : (nd ns ((nd ns p).kids.getD i 0).toNat).tx ≠ name := h4
        have he := he.symm.trans (show ofF ns a b name ((nd ns p).kids.drop i) = ofF ns a b name ((nd ns p).kids.drop (i + 1)) by rw [hdr]; simp only [ofF, ofB]; rw [beq_eq_false_iff_ne.2 h4, Bool.and_false])
        conv => whnf
        refine hle _ _ (Le.cutEnv 1 rfl rfl ⟨rfl, trivial⟩ ?_ ?_) (ih (i + 1) (by omega) ⟨by omega, he.symm⟩)
        · skip
          repeat' (first | exact trivial | ((conv => whnf); first | exact trivial | (refine And.intro (AV.le_refl _) ?_) | (refine And.intro (ABlk.le_refl _) ?_) | (refine And.intro (AV.le_of_eq ?_) ?_; (focus ((first | exact congrArg intV hw1 | fail); done))) | (refine And.intro (ABlk.le_of_eq ?_) ?_; (focus ((first | exact congrArg intV hw1 | fail); done))) | fail) | fail)
        · skip
          repeat' (first | exact trivial | ((conv => whnf); first | exact trivial | (refine And.intro (AV.le_refl _) ?_) | (refine And.intro (ABlk.le_refl _) ?_) | (refine And.intro (AV.le_of_eq ?_) ?_; (focus ((first | fail | fail); done))) | (refine And.intro (ABlk.le_of_eq ?_) ?_; (focus ((first | fail | fail); done))) | fail) | fail)
    have h2 : (nd ns ((nd ns p).kids.getD i 0).toNat).k ≠ a := h2
    conv => whnf
    refine two_eq (fun h3 => ?_) (fun h3 => ?_)
    · have h3 : (nd ns ((nd ns p).kids.getD i 0).toNat).k = b := h3
      conv => whnf
      refine two_eq (fun h4 => ?_) (fun h4 => ?_)
      · have h4 : (nd ns ((nd ns p).kids.getD i 0).toNat).tx = name := h4
        have he : (nd ns p).kids.getD i 0 = v := by rw [← he, hdr]; simp only [ofF, ofB]; rw [h3, h4]; simp
        conv => whnf
        refine ⟨⟨by omega, h', rfl⟩, ?_⟩
        rw [← he] at hk
        conv => whnf
        exact hr _ _ rfl hk
      · have h4 : (nd ns ((nd ns p).kids.getD i 0).toNat).tx ≠ name := h4
        have he := he.symm.trans (show ofF ns a b name ((nd ns p).kids.drop i) = ofF ns a b name ((nd ns p).kids.drop (i + 1)) by rw [hdr]; simp only [ofF, ofB]; rw [beq_eq_false_iff_ne.2 h4, Bool.and_false])
        conv => whnf
        refine hle _ _ (Le.cutEnv 1 rfl rfl ⟨rfl, trivial⟩ ?_ ?_) (ih (i + 1) (by omega) ⟨by omega, he.symm⟩)
        · skip
          repeat' (first | exact trivial | ((conv => whnf); first | exact trivial | (refine And.intro (AV.le_refl _) ?_) | (refine And.intro (ABlk.le_refl _) ?_) | (refine And.intro (AV.le_of_eq ?_) ?_; (focus ((first | exact congrArg intV hw1 | fail); done))) | (refine And.intro (ABlk.le_of_eq ?_) ?_; (focus ((first | exact congrArg intV hw1 | fail); done))) | fail) | fail)
        · skip
          repeat' (first | exact trivial | ((conv => whnf); first | exact trivial | (refine And.intro (AV.le_refl _) ?_) | (refine And.intro (ABlk.le_refl _) ?_) | (refine And.intro (AV.le_of_eq ?_) ?_; (focus ((first | fail | fail); done))) | (refine And.intro (ABlk.le_of_eq ?_) ?_; (focus ((first | fail | fail); done))) | fail) | fail)
    have h3 : (nd ns ((nd ns p).kids.getD i 0).toNat).k ≠ b := h3
    have he := he.symm.trans (show ofF ns a b name ((nd ns p).kids.drop i) = ofF ns a b name ((nd ns p).kids.drop (i + 1)) by rw [hdr]; simp only [ofF, ofB]; rw [beq_eq_false_iff_ne.2 h2, beq_eq_false_iff_ne.2 h3, Bool.or_self, Bool.false_and])
    conv => whnf
    refine hle _ _ (Le.cutEnv 1 rfl rfl ⟨rfl, trivial⟩ ?_ ?_) (ih (i + 1) (by omega) ⟨by omega, he.symm⟩)
    · skip
      repeat' (first | exact trivial | ((conv => whnf); first | exact trivial | (refine And.intro (AV.le_refl _) ?_) | (refine And.intro (ABlk.le_refl _) ?_) | (refine And.intro (AV.le_of_eq ?_) ?_; (focus ((first | exact congrArg intV hw1 | fail); done))) | (refine And.intro (ABlk.le_of_eq ?_) ?_; (focus ((first | exact congrArg intV hw1 | fail); done))) | fail) | fail)
    · skip
      repeat' (first | exact trivial | ((conv => whnf); first | exact trivial | (refine And.intro (AV.le_refl _) ?_) | (refine And.intro (ABlk.le_refl _) ?_) | (refine And.intro (AV.le_of_eq ?_) ?_; (focus ((first | fail | fail); done))) | (refine And.intro (ABlk.le_of_eq ?_) ?_; (focus ((first | fail | fail); done))) | fail) | fail)
  · obtain rfl : i = (nd ns p).kids.length := by have h : ¬ (i : Int) < ((nd ns p).kids.length : Int) := h; omega
    rw [List.drop_length] at he
    have he : (-1 : Int) = v := he
    rw [← he] at hk
    conv => whnf
    exact hr _ _ rfl hk
def gRm : AG := gput 54 cRown (gput 51 cRof g0)
theorem gRm_ok : GOk Tryz.prog gRm := gput_ok rown_ok (gput_ok rof_ok g0_ok)
def cRmeans : AC := fun args K k => ∃ ns root i' i name v, args = [treeV ns root, intV i', .p (.str name)] ∧ i' = ((i : Nat) : Int) ∧ RightT ns root ∧ i < ns.length ∧ meansS ns root i name = v ∧ k (.ret (intV v)) K
theorem rmeans_ok : COk 56 cRmeans := by
  rintro args K k ⟨ns, root, _, i, name, v, rfl, rfl, rt, hi, hv, hk⟩
  refine frame0P gRm_ok 19 rfl fun Q hr => ?_
  have hm := means_of rt hi name
  rw [hv] at hm
  obtain ⟨o, ho⟩ : ∃ o, own ns root i = o := ⟨_, rfl⟩
  rw [ho] at hm
  have hrl := rt.rlt
  have hrt := rt.rt
  have hrp := rt.pos
  conv => whnf
  refine ⟨ns, root, _, i, o, rfl, rfl, rt, hi, ho, ?_⟩
  conv => whnf
  refine two_dec (fun h => ?_) (fun h => ?_)
  · have h : o < 0 := h
    have hv : v = -1 := by rcases hm with ⟨_, e⟩ | ⟨e, _⟩; exact e; omega
    rw [hv] at hk
    conv => whnf
    exact hr _ _ rfl hk
  have h : ¬ o < 0 := h
  obtain ⟨_, o2, o3, hm⟩ := hm.resolve_left (fun e => by omega)
  obtain ⟨d, hd⟩ : ∃ d, ofS ns o.toNat 4 5 name = d := ⟨_, rfl⟩
  rw [hd] at hm
  conv => whnf
  refine ⟨ns, root, _, o.toNat, 4, 5, name, d, rfl, by omega, rt, by omega, hd, ?_⟩
  conv => whnf
  refine two_dec (fun h2 => ?_) (fun h2 => ?_)
  · have h2 : d < 0 := h2
    obtain ⟨_, hv⟩ := hm.resolve_left (fun e => by omega)
    conv => whnf
    refine ⟨ns, root, _, root.toNat, 2, 2, name, v, rfl, by omega, rt, hrl, hv.symm, ?_⟩
    conv => whnf
    exact hr _ _ rfl hk
  · have h2 : ¬ d < 0 := h2
    obtain ⟨_, hv⟩ := hm.resolve_right (fun e => by omega)
    rw [hv] at hk
    conv => whnf
    exact hr _ _ rfl hk
def cRkind : AC := fun args K k => ∃ ns root i' i name v, args = [treeV ns root, intV i', .p (.str name)] ∧ i' = ((i : Nat) : Int) ∧ RightT ns root ∧ i < ns.length ∧ kindS ns root i name = v ∧ k (.ret (intV v)) K
theorem rkind_ok : COk 114 cRkind := by
  rintro args K k ⟨ns, root, _, i, name, v, rfl, rfl, rt, hi, rfl, hk⟩
  refine frame0P (gput_ok rmeans_ok g0_ok) 19 rfl fun Q hr => ?_
  have hm := means_range ns root i name
  unfold kindS at hk
  obtain ⟨d, hd⟩ : ∃ d, meansS ns root i name = d := ⟨_, rfl⟩
  rw [hd] at hm hk
  conv => whnf
  refine ⟨ns, root, _, i, name, d, rfl, rfl, rt, hi, hd, ?_⟩
  conv => whnf
  refine two_dec (fun h => ?_) (fun h => ?_)
  · have h : d < 0 := h
    obtain rfl : d = -1 := by omega
    have hk : k (.ret (intV 0)) K := hk
    conv => whnf
    exact hr _ _ rfl hk
  · have h : ¬ d < 0 := h
    have hk : k (.ret (intV (nd ns d.toNat).n)) K := by
      rw [show (d != -1) = true by rw [bne_iff_ne]; omega] at hk; exact hk
    conv => whnf
    refine ⟨⟨by omega, by omega, rfl⟩, ?_⟩
    conv => whnf
    exact hr _ _ rfl hk
end Go.Proofs.YtojjkleplnijaaaGreatDoor

namespace Go.Ru
def arithW : List Bs := [[43], [45], [42], [47], [37]]
theorem arith_any (t : Bs) : arithW.any (· == t) = arith t := by
  have c : ∀ a : Bs, (a == t) = (t == a) := fun a => Bool.eq_iff_iff.2 (by rw [beq_iff_eq, beq_iff_eq]; exact eq_comm)
  simp only [arithW, arith, List.any_cons, List.any_nil, Bool.or_false, c [43], c [45], c [42], c [47], c [37], Bool.or_assoc]
end Go.Ru
namespace Go.Proofs.YtojjkleplnijaaaGreatDoor
open Go.AE Go.Ru
set_option maxRecDepth 100000
set_option maxHeartbeats 1000000
def cRparams : AC := fun args K k => ∃ ns root p' p v, args = [treeV ns root, intV p'] ∧ p' = ((p : Nat) : Int) ∧ RightT ns root ∧ p < ns.length ∧ paramsS ns p = v ∧ k (.ret (intsV v)) K
theorem rparams_ok : COk 52 cRparams := by
  rintro args K k ⟨ns, root, _, p, v, rfl, rfl, rt, hp, rfl, hk⟩
  have hlen := rt.len
  have hmany := rt.many p hp
  have hin := rt.inr hp
  refine frame0W g0_ok 19 rfl fun Q hr => ?_
  conv => whnf
  refine ⟨⟨by omega, by omega, rfl⟩, ?_⟩
  conv => whnf
  refine loop_nil (ι := KC) 3 1 (fun i => pvs (kidF [] i)) (fun c => ⟨[(2, .ptr 0 0 1 0 0), (6, intsV (nd ns p).kids), (7, intV c.j), (5, .slr 1 0 0 c.l.length)], [tbx ns root, kiB c.l]⟩)
    (fun c => c.j ≤ (nd ns p).kids.length ∧ c.l.length ≤ c.j ∧ c.l ++ parsL ns ((nd ns p).kids.drop c.j) = paramsS ns p) (fun c => (nd ns p).kids.length - c.j) ⟨0, []⟩ [tbx ns root]
    rfl ⟨.inl (AV.le_refl _), .inl (AV.le_refl _), .inl (AV.le_refl _), .inr ⟨rfl, rfl⟩, trivial⟩ ⟨.inl (ABlk.le_refl _), trivial⟩ rfl ⟨Nat.zero_le _, Nat.le_refl _, rfl⟩ ?_
  rintro Y hle ⟨j, l⟩ ⟨hj, hl, he⟩ ih
  simp only at hj hl he
  conv => whnf
  refine two_dec (fun h => ?_) (fun h => ?_)
  · have h : j < (nd ns p).kids.length := by have h : (j : Int) < ((nd ns p).kids.length : Int) := h; omega
    have h' : (j : Int) < ((nd ns p).kids.length : Int) := by omega
    have hw1 := wzz (i := j) (by omega)
    have hq := hin _ (getD_mem h)
    rw [List.drop_eq_getElem_cons h] at he
    have e1 : (nd ns p).kids.getD j 0 = (nd ns p).kids[j] := by simp [h]
    rw [← e1] at he
    conv => whnf
    refine ⟨⟨by omega, h', rfl⟩, ?_⟩
    conv => whnf
    refine ⟨⟨hq.1, hq.2, rfl⟩, ?_⟩
    conv => whnf
    refine two_eq (fun h4 => ?_) (fun h4 => ?_)
    · have h4 : (nd ns ((nd ns p).kids.getD j 0).toNat).k = 4 := h4
      have he : (l ++ [(nd ns ((nd ns p).kids.getD j 0).toNat).n]) ++ parsL ns ((nd ns p).kids.drop (j + 1)) = paramsS ns p := by
        rw [← he]; simp only [parsL, List.filter_cons]; rw [h4]; simp
      conv => whnf
      refine ⟨⟨by omega, h', rfl⟩, ?_⟩
      conv => whnf
      refine ⟨⟨hq.1, hq.2, rfl⟩, ?_⟩
      conv => whnf
      refine ⟨⟨rfl, rfl, rfl, allLt_ok ⟨trivial, rfl⟩⟩, ?_⟩
      conv => whnf
      refine ⟨⟨rfl, rfl, rfl, rfl, ?_, ?_⟩, ?_⟩
      · show (l.length + 1) * 8 ≤ 140737488355328
        omega
      · show l.length + 1 ≤ 9223372036854775807
        omega
      conv => whnf
      refine hle _ _ (Le.cutEnv 2 rfl rfl ⟨rfl, kiB_cl l _ _ 2 rfl, trivial⟩ ?_ ?_) (ih ⟨j + 1, l ++ [(nd ns ((nd ns p).kids.getD j 0).toNat).n]⟩ (by show _ - (j + 1) < _ - j; omega) ⟨h, by simp; omega, he⟩)
      · skip
        repeat' (first | exact trivial | ((conv => whnf); first | exact trivial | (refine And.intro (AV.le_refl _) ?_) | (refine And.intro (ABlk.le_refl _) ?_) | (refine And.intro (AV.le_of_eq ?_) ?_; (focus ((first | exact congrArg intV hw1 | exact congrArg (fun n => AV.slr 1 0 0 n) (by simp) | fail); done))) | (refine And.intro (ABlk.le_of_eq ?_) ?_; (focus ((first | exact congrArg intV hw1 | exact congrArg (fun n => AV.slr 1 0 0 n) (by simp) | fail); done))) | fail) | fail)
      · (conv => whnf)
        refine ⟨ABlk.le_refl _, ?_⟩
        (conv => whnf)
        refine ⟨kiB_snoc l _ _ rfl, ?_⟩
        trivial
    · have h4 : (nd ns ((nd ns p).kids.getD j 0).toNat).k ≠ 4 := h4
      have he : l ++ parsL ns ((nd ns p).kids.drop (j + 1)) = paramsS ns p := by
        rw [← he]; simp only [parsL, List.filter_cons]; rw [beq_eq_false_iff_ne.2 h4]; rfl
      conv => whnf
      refine hle _ _ (Le.cutEnv 2 rfl rfl ⟨rfl, fun _ _ => rfl, trivial⟩ ?_ ?_) (ih ⟨j + 1, l⟩ (by show _ - (j + 1) < _ - j; omega) ⟨h, by show l.length ≤ j + 1; omega, he⟩)
      · skip
        repeat' (first | exact trivial | ((conv => whnf); first | exact trivial | (refine And.intro (AV.le_refl _) ?_) | (refine And.intro (ABlk.le_refl _) ?_) | (refine And.intro (AV.le_of_eq ?_) ?_; (focus ((first | exact congrArg intV hw1 | fail); done))) | (refine And.intro (ABlk.le_of_eq ?_) ?_; (focus ((first | exact congrArg intV hw1 | fail); done))) | fail) | fail)
      · skip
        repeat' (first | exact trivial | ((conv => whnf); first | exact trivial | (refine And.intro (AV.le_refl _) ?_) | (refine And.intro (ABlk.le_refl _) ?_) | (refine And.intro (AV.le_of_eq ?_) ?_; (focus ((first | fail | fail); done))) | (refine And.intro (ABlk.le_of_eq ?_) ?_; (focus ((first | fail | fail); done))) | fail) | fail)
  · obtain rfl : j = (nd ns p).kids.length := by have h : ¬ (j : Int) < ((nd ns p).kids.length : Int) := h; omega
    rw [List.drop_length] at he
    simp only [parsL, List.filter_nil, List.map_nil, List.append_nil] at he
    subst he
    conv => whnf
    exact hr _ _ _ _ (Wk1.freeze (r := 1) rfl (kidF (paramsS ns p)) (fun _ _ => rfl)) rfl hk
def cRplain : AC := fun args K k => ∃ ns root p' p v, args = [treeV ns root, intV p'] ∧ p' = ((p : Nat) : Int) ∧ RightT ns root ∧ p < ns.length ∧ tplainS ns p = v ∧ k (.ret (.p (.bool v))) K
theorem rplain_ok : COk 58 cRplain := by
  rintro args K k ⟨ns, root, _, p, v, rfl, rfl, rt, hp, rfl, hk⟩
  unfold tplainS at hk
  obtain ⟨l, hl⟩ : ∃ l, paramsS ns p = l := ⟨_, rfl⟩
  rw [hl] at hk
  have h1 : (l == [1]) = (decide ((l.length : Int) = 1) && decide (l.getD 0 0 = 1)) := by
    match l with
    | [] => rfl
    | [a] => rw [Bool.eq_iff_iff]; simp
    | a :: b :: r =>
      rw [decide_eq_false (by simp only [List.length_cons]; omega), Bool.false_and]
      exact beq_eq_false_iff_ne.2 (by simp)
  rw [h1] at hk
  refine frame0P (gput_ok rparams_ok g0_ok) 19 rfl fun Q hr => ?_
  conv => whnf
  refine ⟨ns, root, _, p, l, rfl, rfl, rt, hp, hl, ?_⟩
  conv => whnf
  refine two_eq (fun h2 => ?_) (fun h2 => ?_)
  · have h2 : (l.length : Int) = 1 := h2
    rw [decide_eq_true h2, Bool.true_and] at hk
    conv => whnf
    refine ⟨⟨by omega, by omega, rfl⟩, ?_⟩
    conv => whnf
    refine two_eq (fun h3 => ?_) (fun h3 => ?_)
    · have h3 : l.getD 0 0 = 1 := h3
      rw [decide_eq_true h3, Bool.true_and] at hk
      conv => whnf
      refine ⟨⟨by omega, by omega, rfl⟩, ?_⟩
      conv => whnf
      exact hr _ _ rfl hk
    · have h3 : l.getD 0 0 ≠ 1 := h3
      rw [decide_eq_false h3, Bool.false_and] at hk
      conv => whnf
      exact hr _ _ rfl hk
  · have h2 : (l.length : Int) ≠ 1 := h2
    rw [decide_eq_false h2, Bool.false_and, Bool.false_and] at hk
    conv => whnf
    exact hr _ _ rfl hk
def strsP (l : List Bs) : AV := .p (.sl 1 l.length (strF l))
def cRamong : AC := fun args K k => ∃ l s b, args = [strsP l, .p (.str s)] ∧ List.length l < 1000000 ∧ l.any (· == s) = b ∧ k (.ret (.p (.bool b))) K
theorem ramong_ok : COk 63 cRamong := by
  rintro args K k ⟨l, s, b, rfl, hl, rfl, hk⟩
  refine frame0P g0_ok 19 rfl fun Q hr => ?_
  conv => whnf
  refine loop_up (ι := Nat) [0, 1] (fun i => [(5, intV i)]) (fun _ => []) (fun i => i ≤ l.length ∧ (l.take i).any (· == s) = false) (fun i => l.length - i) 0 ⟨AV.le_refl _, trivial⟩ trivial ⟨Nat.zero_le _, by simp⟩ ?_
  rintro Y hle i ⟨hi, ha⟩ ih
  conv => whnf
  refine two_dec (fun h => ?_) (fun h => ?_)
  · have h : i < l.length := by have h : (i : Int) < (l.length : Int) := h; omega
    have h' : (i : Int) < (l.length : Int) := by omega
    have hw1 := wzz (i := i) (by omega)
    conv => whnf
    refine ⟨⟨by omega, h', rfl⟩, ?_⟩
    conv => whnf
    refine two_eq (fun h2 => ?_) (fun h2 => ?_)
    · have h2 : l.getD i [] = s := h2
      rw [any_at h h2] at hk
      conv => whnf
      exact hr _ _ rfl hk
    · have h2 : l.getD i [] ≠ s := h2
      conv => whnf
      refine hle _ _ (Le.env ?_ ?_) (ih (i + 1) (by omega) ⟨by omega, any_succ h ha h2⟩)
      · skip
        repeat' (first | exact trivial | ((conv => whnf); first | exact trivial | (refine And.intro (AV.le_refl _) ?_) | (refine And.intro (ABlk.le_refl _) ?_) | (refine And.intro (AV.le_of_eq ?_) ?_; (focus ((first | exact congrArg intV hw1 | fail); done))) | (refine And.intro (ABlk.le_of_eq ?_) ?_; (focus ((first | exact congrArg intV hw1 | fail); done))) | fail) | fail)
      · skip
        repeat' (first | exact trivial | ((conv => whnf); first | exact trivial | (refine And.intro (AV.le_refl _) ?_) | (refine And.intro (ABlk.le_refl _) ?_) | (refine And.intro (AV.le_of_eq ?_) ?_; (focus ((first | fail | fail); done))) | (refine And.intro (ABlk.le_of_eq ?_) ?_; (focus ((first | fail | fail); done))) | fail) | fail)
  · obtain rfl : i = l.length := by have h : ¬ (i : Int) < (l.length : Int) := h; omega
    rw [List.take_length] at ha
    rw [ha] at hk
    conv => whnf
    exact hr _ _ rfl hk
def cRamongL : AC := fun args K k => ∃ l r n f ty s b, args = [.slr r 0 0 n, .p (.str s)] ∧ nth K r = some (.arr ty 1 0 n f) ∧ n = List.length l ∧ (∀ i, i < n → f i = pvs (strF l i)) ∧ List.length l < 1000000 ∧ l.any (· == s) = b ∧ k (.ret (.p (.bool b))) (setN K r .dead)
theorem ramongL_ok : COk 63 cRamongL := by
  rintro args K k ⟨l, r, n, f, ty, s, b, rfl, hn, rfl, hf, hl, hb, hk⟩
  refine (ramong_ok [strsP l, .p (.str s)] (setN K r .dead) k ⟨l, s, b, rfl, hl, hb, hk⟩).pre fun w m Args hS hV => ?_
  obtain ⟨m', h3, h4, h5⟩ := freeze_sl hS hn (strF l) hf
  refine ⟨m', h3, h4, hV.1, fun i hi hi' => ?_⟩
  rcases i with _ | _ | i
  · exact h5 _ (hV.2 0 hi hi')
  · exact (hV.2 1 hi hi').mono h3
  · simp at hi; omega
def gRt7 : AG := gput 114 cRkind (gput 63 cRamongL g0)
theorem gRt7_ok : GOk Tryz.prog gRt7 := gput_ok rkind_ok (gput_ok ramongL_ok g0_ok)
def cRtyped : AC := fun args K k => ∃ ns root i' i v, args = [treeV ns root, intV i'] ∧ i' = ((i : Nat) : Int) ∧ RightT ns root ∧ i < ns.length ∧ tyS ns root i = v ∧ k (.ret (intV v)) K
theorem rtyped_ok : COk 60 cRtyped := by
  rintro args K k ⟨ns, root, _, i, v, rfl, rfl, rt, hi, rfl, hk⟩
  have hlen := rt.len
  refine frame0P gRt7_ok 19 rfl fun Q hr => ?_
  have e : nd ns i = ns.getD ((i : Int)).toNat default := rfl
  have hw5 : ∀ (f : Nat → List AV), f 0 = [.p (.str [43])] → f 1 = [.p (.str [45])] → f 2 = [.p (.str [42])] → f 3 = [.p (.str [47])] → f 4 = [.p (.str [37])] → ∀ j, j < 5 → f j = pvs (strF arithW j) := fun f h0 h1 h2 h3 h4 j hj => by
    match j, hj with
    | 0, _ => exact h0
    | 1, _ => exact h1
    | 2, _ => exact h2
    | 3, _ => exact h3
    | 4, _ => exact h4
    | n + 5, h => exact absurd h (by omega)
  conv => whnf
  refine ⟨⟨by omega, by omega, rfl⟩, ?_⟩
  conv => whnf
  repeat' (first | (refine two_eq (fun h => ?_) (fun h => ?_) <;> (conv => whnf)) | (refine two_ne (fun h => ?_) (fun h => ?_) <;> (conv => whnf)) | (refine two_not (fun h => ?_) (fun h => ?_) <;> (conv => whnf)) | (refine two_dec (fun h => ?_) (fun h => ?_) <;> (conv => whnf)) | (refine two_intro (fun h => ?_) (fun h => ?_) <;> (conv => whnf)) | (refine ⟨ns, root, _, i, _, _, rfl, rfl, rt, hi, rfl, ?_⟩; (conv => whnf)) | (refine ⟨arithW, _, 5, _, _, _, _, rfl, rfl, rfl, hw5 _ rfl rfl rfl rfl rfl, by decide, arith_any _, ?_⟩; (conv => whnf)) | fail)
  all_goals refine hr _ _ rfl (ret_eq hk (congrArg intV ?_))
  all_goals clear hr hk
  all_goals unfold tyS
  all_goals rw [e]
  all_goals simp_all
end Go.Proofs.YtojjkleplnijaaaGreatDoor

namespace Go.Ru
def boolW : List Bs := [[33], [38, 38], [124, 124]]
theorem bool_any (t : Bs) : boolW.any (· == t) = decide (t = [33] ∨ t = [38, 38] ∨ t = [124, 124]) := by
  have c : ∀ a : Bs, (a == t) = decide (t = a) := fun a => Bool.eq_iff_iff.2 (by rw [beq_iff_eq, decide_eq_true_eq]; exact eq_comm)
  simp only [boolW, List.any_cons, List.any_nil, Bool.or_false, c]
  simp only [Bool.decide_or]
end Go.Ru
namespace Go.Proofs.YtojjkleplnijaaaGreatDoor
open Go.AE Go.Ru
set_option maxRecDepth 100000
set_option maxHeartbeats 1000000
def cRall7 : AC := fun args K k => ∃ ns root kind l n f b, args = [treeV ns root, .p (.sl 1 n f), intV kind] ∧ n = List.length l ∧ (∀ i, i < n → f i = kidF l i) ∧ RightT ns root ∧ List.length l < 1000000 ∧ (∀ q ∈ l, 0 ≤ q ∧ q < (List.length ns : Int)) ∧ allS ns root l kind = b ∧ k (.ret (.p (.bool b))) K
theorem rall7_ok : COk 153 cRall7 := by
  rintro args K k ⟨ns, root, kind, l, n, f, b, rfl, rfl, hf, rt, hl, hq, rfl, hk⟩
  refine ACalls.pre (?_ : ACalls _ _ [treeV ns root, intsV l, intV kind] K k) (Wk.le ⟨AV.le_refl _, AV.sl_le rfl fun i hi => (hf i hi).symm, AV.le_refl _, trivial⟩ (lesK.refl K))
  refine frame0P (gput_ok rtyped_ok g0_ok) 19 rfl fun Q hr => ?_
  conv => whnf
  refine loop_up (ι := Nat) [1, 2, 3] (fun j => [(7, intV j)]) (fun _ => []) (fun j => j ≤ l.length ∧ allS ns root (l.drop j) kind = allS ns root l kind) (fun j => l.length - j) 0 ⟨AV.le_refl _, trivial⟩ trivial ⟨Nat.zero_le _, by simp⟩ ?_
  rintro Y hle i ⟨hi, he⟩ ih
  conv => whnf
  refine two_dec (fun h => ?_) (fun h => ?_)
  · have h : i < l.length := by have h : (i : Int) < (l.length : Int) := h; omega
    have h' : (i : Int) < (l.length : Int) := by omega
    have hw1 := wzz (i := i) (by omega)
    have hqi := hq _ (getD_mem h)
    have e1 : l.getD i 0 = l[i] := by simp [h]
    rw [List.drop_eq_getElem_cons h, ← e1] at he
    simp only [allS, List.all_cons] at he
    obtain ⟨v, hv⟩ : ∃ v, tyS ns root (l.getD i 0).toNat = v := ⟨_, rfl⟩
    rw [hv] at he
    conv => whnf
    refine ⟨⟨by omega, h', rfl⟩, ?_⟩
    conv => whnf
    refine ⟨ns, root, _, (l.getD i 0).toNat, v, rfl, (Int.toNat_of_nonneg hqi.1).symm, rt, by omega, hv, ?_⟩
    conv => whnf
    refine two_ne (fun h2 => ?_) (fun h2 => ?_)
    · have h2 : v ≠ kind := h2
      rw [beq_eq_false_iff_ne.2 h2, Bool.false_and] at he
      have hk : k (.ret (.p (.bool false))) K := by rw [show allS ns root l kind = false from he.symm] at hk; exact hk
      conv => whnf
      exact hr _ _ rfl hk
    · have h2 : v = kind := h2
      rw [beq_iff_eq.2 h2, Bool.true_and] at he
      conv => whnf
      refine hle _ _ (Le.env ?_ ?_) (ih (i + 1) (by omega) ⟨by omega, he⟩)
      · skip
        repeat' (first | exact trivial | ((conv => whnf); first | exact trivial | (refine And.intro (AV.le_refl _) ?_) | (refine And.intro (ABlk.le_refl _) ?_) | (refine And.intro (AV.le_of_eq ?_) ?_; (focus ((first | exact congrArg intV hw1 | fail); done))) | (refine And.intro (ABlk.le_of_eq ?_) ?_; (focus ((first | exact congrArg intV hw1 | fail); done))) | fail) | fail)
      · skip
        repeat' (first | exact trivial | ((conv => whnf); first | exact trivial | (refine And.intro (AV.le_refl _) ?_) | (refine And.intro (ABlk.le_refl _) ?_) | (refine And.intro (AV.le_of_eq ?_) ?_; (focus ((first | fail | fail); done))) | (refine And.intro (ABlk.le_of_eq ?_) ?_; (focus ((first | fail | fail); done))) | fail) | fail)
  · obtain rfl : i = l.length := by have h : ¬ (i : Int) < (l.length : Int) := h; omega
    rw [List.drop_length] at he
    have hk : k (.ret (.p (.bool true))) K := by rw [← he] at hk; exact hk
    conv => whnf
    exact hr _ _ rfl hk
def cRtold : AC := fun args K k => ∃ b, args = [.p (.bool b)] ∧ k (.ret (intV (toldS b))) K
theorem rtold_ok : COk 109 cRtold := by
  rintro args K k ⟨b, rfl, hk⟩
  refine frame0P g0_ok 19 rfl fun Q hr => ?_
  cases b with
  | true =>
    conv => whnf
    exact hr _ _ rfl hk
  | false =>
    conv => whnf
    exact hr _ _ rfl hk
def cRtwice : AC := fun args K k => ∃ ns root i' i b, args = [treeV ns root, intV i'] ∧ i' = ((i : Nat) : Int) ∧ RightT ns root ∧ i < ns.length ∧ twiceR ns root i = b ∧ k (.ret (.p (.bool b))) K
theorem rtwice_ok : COk 107 cRtwice := by
  rintro args K k ⟨ns, root, _, i, b, rfl, rfl, rt, hi, rfl, hk⟩
  have hlen := rt.len
  have hrl := rt.rlt
  have hrt := rt.rt
  refine frame0P gRm_ok 19 rfl fun Q hr => ?_
  conv => whnf
  refine ⟨⟨by omega, by omega, rfl⟩, ?_⟩
  conv => whnf
  refine two_eq (fun h4 => ?_) (fun h4 => ?_)
  · have h4 : (nd ns i).k = 4 := h4
    obtain ⟨p, p1, p2, p3, p4, p5⟩ := rt.decl hi (.inl h4)
    rw [twiceR, if_pos (.inl h4)] at hk
    obtain ⟨c, hc⟩ : ∃ c, ofS ns (own ns root i).toNat 4 5 (nd ns i).tx = c := ⟨_, rfl⟩
    rw [hc] at hk
    conv => whnf
    refine ⟨ns, root, _, i, own ns root i, rfl, rfl, rt, hi, rfl, ?_⟩
    conv => whnf
    repeat ((refine And.intro ?_ ?_); (focus ((conv => whnf); first | done | exact ⟨⟨by omega, by omega, rfl⟩, by conv => whnf⟩)); (conv => whnf))
    refine ⟨ns, root, _, (own ns root i).toNat, 4, 5, _, c, rfl, by omega, rt, by omega, hc, ?_⟩
    conv => whnf
    exact hr _ _ rfl hk
  have h4 : (nd ns i).k ≠ 4 := h4
  conv => whnf
  refine two_eq (fun h5 => ?_) (fun h5 => ?_)
  · have h5 : (nd ns i).k = 5 := h5
    obtain ⟨p, p1, p2, p3, p4, p5⟩ := rt.decl hi (.inr h5)
    rw [twiceR, if_pos (.inr h5)] at hk
    obtain ⟨c, hc⟩ : ∃ c, ofS ns (own ns root i).toNat 4 5 (nd ns i).tx = c := ⟨_, rfl⟩
    rw [hc] at hk
    conv => whnf
    refine ⟨ns, root, _, i, own ns root i, rfl, rfl, rt, hi, rfl, ?_⟩
    conv => whnf
    repeat ((refine And.intro ?_ ?_); (focus ((conv => whnf); first | done | exact ⟨⟨by omega, by omega, rfl⟩, by conv => whnf⟩)); (conv => whnf))
    refine ⟨ns, root, _, (own ns root i).toNat, 4, 5, _, c, rfl, by omega, rt, by omega, hc, ?_⟩
    conv => whnf
    exact hr _ _ rfl hk
  have h5 : (nd ns i).k ≠ 5 := h5
  rw [twiceR, if_neg (by omega)] at hk
  obtain ⟨c, hc⟩ : ∃ c, ofS ns root.toNat 2 3 (nd ns i).tx = c := ⟨_, rfl⟩
  rw [hc] at hk
  conv => whnf
  refine ⟨ns, root, _, root.toNat, 2, 3, _, c, rfl, by omega, rt, hrl, hc, ?_⟩
  conv => whnf
  exact hr _ _ rfl hk
def gRn : AG := gput 56 cRmeans (gput 114 cRkind (gput 153 cRall7 g0))
theorem gRn_ok : GOk Tryz.prog gRn := gput_ok rmeans_ok (gput_ok rkind_ok (gput_ok rall7_ok g0_ok))
def cRnamed : AC := fun args K k => ∃ ns root i' i want kids fits v, args = [treeV ns root, intV i', intV want, intV kids] ∧ i' = ((i : Nat) : Int) ∧ RightT ns root ∧ i < ns.length ∧ ((kids = 0 ∧ fits = true) ∨ (kids ≠ 0 ∧ allS ns root (nd ns i).kids kids = fits)) ∧ namedR ns root i want fits = v ∧ k (.ret (intV v)) K
theorem rnamed_ok : COk 108 cRnamed := by
  rintro args K k ⟨ns, root, _, i, want, kids, fits, v, rfl, rfl, rt, hi, hf, rfl, hk⟩
  have hlen := rt.len
  have hmany := rt.many i hi
  have hin := rt.inr hi
  refine frame0P gRn_ok 19 rfl fun Q hr => ?_
  obtain ⟨d, hd⟩ : ∃ d, meansS ns root i (nd ns i).tx = d := ⟨_, rfl⟩
  obtain ⟨kd, hkd⟩ : ∃ kd, kindS ns root i (nd ns i).tx = kd := ⟨_, rfl⟩
  rw [namedR, hd, hkd] at hk
  conv => whnf
  refine ⟨⟨by omega, by omega, rfl⟩, ?_⟩
  conv => whnf
  refine ⟨ns, root, _, i, _, d, rfl, rfl, rt, hi, hd, ?_⟩
  conv => whnf
  refine two_dec (fun h => ?_) (fun h => ?_)
  · have h : d < 0 := h
    rw [if_pos h] at hk
    conv => whnf
    exact hr _ _ rfl hk
  have h : ¬ d < 0 := h
  rw [if_neg h] at hk
  rcases hf with ⟨rfl, rfl⟩ | ⟨h0, hf⟩
  · conv => whnf
    refine two_ne (fun h2 => ?_) (fun h2 => ?_)
    · have h2 : want ≠ 0 := h2
      conv => whnf
      refine ⟨ns, root, _, i, _, kd, rfl, rfl, rt, hi, hkd, ?_⟩
      conv => whnf
      refine two_ne (fun h3 => ?_) (fun h3 => ?_)
      · have h3 : kd ≠ want := h3
        rw [if_pos (.inl ⟨h2, h3⟩)] at hk
        conv => whnf
        exact hr _ _ rfl hk
      · have h3 : kd = want := h3
        rw [if_neg (by rintro (⟨_, e⟩ | e); exact e h3; cases e)] at hk
        conv => whnf
        exact hr _ _ rfl hk
    · have h2 : want = 0 := h2
      rw [if_neg (by rintro (⟨e, _⟩ | e); exact e h2; cases e)] at hk
      conv => whnf
      exact hr _ _ rfl hk
  · conv => whnf
    refine two_eq (fun h1 => absurd h1 h0) (fun _ => ?_)
    conv => whnf
    refine ⟨ns, root, kids, (nd ns i).kids, _, _, fits, rfl, rfl, fun _ _ => rfl, rt, by omega, hin, hf, ?_⟩
    conv => whnf
    refine two_ne (fun h2 => ?_) (fun h2 => ?_)
    · have h2 : want ≠ 0 := h2
      conv => whnf
      refine ⟨ns, root, _, i, _, kd, rfl, rfl, rt, hi, hkd, ?_⟩
      conv => whnf
      refine two_ne (fun h3 => ?_) (fun h3 => ?_)
      · have h3 : kd ≠ want := h3
        rw [if_pos (.inl ⟨h2, h3⟩)] at hk
        conv => whnf
        exact hr _ _ rfl hk
      · have h3 : kd = want := h3
        cases fits with
        | true =>
          rw [if_neg (by rintro (⟨_, e⟩ | e); exact e h3; cases e)] at hk
          conv => whnf
          exact hr _ _ rfl hk
        | false =>
          rw [if_pos (.inr rfl)] at hk
          conv => whnf
          exact hr _ _ rfl hk
    · have h2 : want = 0 := h2
      cases fits with
      | true =>
        rw [if_neg (by rintro (⟨e, _⟩ | e); exact e h2; cases e)] at hk
        conv => whnf
        exact hr _ _ rfl hk
      | false =>
        rw [if_pos (.inr rfl)] at hk
        conv => whnf
        exact hr _ _ rfl hk
end Go.Proofs.YtojjkleplnijaaaGreatDoor

namespace Go.Proofs.YtojjkleplnijaaaGreatDoor
open Go.AE Go.Ru
set_option maxRecDepth 100000
set_option maxHeartbeats 1000000
def gRo : AG := gput 60 cRtyped (gput 63 cRamongL (gput 153 cRall7 g0))
theorem gRo_ok : GOk Tryz.prog gRo := gput_ok rtyped_ok (gput_ok ramongL_ok (gput_ok rall7_ok g0_ok))
def cRoper : AC := fun args K k => ∃ ns root i b, args = [treeV ns root, nodeV (nd ns i)] ∧ RightT ns root ∧ i < List.length ns ∧ ((nd ns i).k = 26 ∨ (nd ns i).k = 27) ∧ operR ns root (nd ns i) = b ∧ k (.ret (.p (.bool b))) K
theorem roper_ok : COk 110 cRoper := by
  rintro args K k ⟨ns, root, i, b, rfl, rt, hi, hk2, rfl, hk⟩
  have hlen := rt.len
  have hmany := rt.many i hi
  have hin := rt.inr hi
  have two_of : ((nd ns i).tx = [61, 61] ∨ (nd ns i).tx = [33, 61]) → ∃ q r, (nd ns i).kids = [q, r] := fun h1 => by
    refine kids_two rt hi (.inr (.inl ?_))
    rcases hk2 with e | e
    · have := rt.tx i hi
      rw [e] at this
      rcases h1 with e1 | e1 <;> rw [e1] at this <;> exact absurd this (by decide)
    · exact e
  have hw3 : ∀ (f : Nat → List AV), f 0 = [.p (.str [33])] → f 1 = [.p (.str [38, 38])] → f 2 = [.p (.str [124, 124])] → ∀ j, j < 3 → f j = pvs (strF boolW j) := fun f h0 h1 h2 j hj => by
    match j, hj with
    | 0, _ => exact h0
    | 1, _ => exact h1
    | 2, _ => exact h2
    | n + 3, h => exact absurd h (by omega)
  refine frame0P gRo_ok 19 rfl fun Q hr => ?_
  conv => whnf
  refine two_eq (fun h => ?_) (fun h => ?_)
  · have h : (nd ns i).tx = [61, 61] := h
    obtain ⟨q, r, hqr⟩ := two_of (.inl h)
    have hl2 : ((nd ns i).kids.length : Int) = 2 := by rw [hqr]; rfl
    have h0l : (0 : Int) < ((nd ns i).kids.length : Int) := by omega
    have h1l : (1 : Int) < ((nd ns i).kids.length : Int) := by omega
    have hq0 := hin _ (getD_mem (l := (nd ns i).kids) (i := 0) (by omega))
    have hq1 := hin _ (getD_mem (l := (nd ns i).kids) (i := 1) (by omega))
    rw [operR, if_pos (.inl h)] at hk
    obtain ⟨a, ha⟩ : ∃ a, tyS ns root ((nd ns i).kids.getD 0 0).toNat = a := ⟨_, rfl⟩
    obtain ⟨a1, ha1⟩ : ∃ a, tyS ns root ((nd ns i).kids.getD 1 0).toNat = a := ⟨_, rfl⟩
    rw [ha, ha1] at hk
    conv => whnf
    refine ⟨⟨by omega, h0l, rfl⟩, ?_⟩
    conv => whnf
    refine ⟨ns, root, _, ((nd ns i).kids.getD 0 0).toNat, a, rfl, (Int.toNat_of_nonneg hq0.1).symm, rt, by omega, ha, ?_⟩
    conv => whnf
    refine ⟨⟨by omega, h1l, rfl⟩, ?_⟩
    conv => whnf
    refine ⟨ns, root, _, ((nd ns i).kids.getD 1 0).toNat, a1, rfl, (Int.toNat_of_nonneg hq1.1).symm, rt, by omega, ha1, ?_⟩
    conv => whnf
    repeat' (first | (refine two_eq (fun h => ?_) (fun h => ?_) <;> (conv => whnf)) | (refine two_ne (fun h => ?_) (fun h => ?_) <;> (conv => whnf)) | (refine two_not (fun h => ?_) (fun h => ?_) <;> (conv => whnf)) | (refine two_dec (fun h => ?_) (fun h => ?_) <;> (conv => whnf)) | (refine two_intro (fun h => ?_) (fun h => ?_) <;> (conv => whnf)) | (refine Chk.mk ?_ ?_; (focus (((repeat' (refine And.intro ?_ ?_)) <;> (first | omega | rfl | (simp only [List.length_append, List.length_cons, List.length_nil]; omega) | fail)); done)); (conv => whnf)) | (refine And.intro ?_ ?_; (focus (((repeat' (refine And.intro ?_ ?_)) <;> (first | omega | rfl | (simp only [List.length_append, List.length_cons, List.length_nil]; omega) | fail)); done)); (conv => whnf)) | (refine Exists.intro _ (And.intro rfl ?_)) | (refine Exists.intro _ (Exists.intro _ (And.intro rfl ?_))) | (refine Exists.intro _ (Exists.intro _ (Exists.intro _ (And.intro rfl ?_)))) | fail)
    all_goals refine hr _ _ rfl (ret_eq hk (congrArg (fun b => AV.p (.bool b)) ?_))
    all_goals clear hr hk ha ha1 hq0 hq1 hin hw3 two_of hl2 h0l h1l
    all_goals first | (simp [*]; done) | (simp [*]; omega)
  have h : (nd ns i).tx ≠ [61, 61] := h
  conv => whnf
  refine two_eq (fun h2 => ?_) (fun h2 => ?_)
  · have h2 : (nd ns i).tx = [33, 61] := h2
    obtain ⟨q, r, hqr⟩ := two_of (.inr h2)
    have hl2 : ((nd ns i).kids.length : Int) = 2 := by rw [hqr]; rfl
    have h0l : (0 : Int) < ((nd ns i).kids.length : Int) := by omega
    have h1l : (1 : Int) < ((nd ns i).kids.length : Int) := by omega
    have hq0 := hin _ (getD_mem (l := (nd ns i).kids) (i := 0) (by omega))
    have hq1 := hin _ (getD_mem (l := (nd ns i).kids) (i := 1) (by omega))
    rw [operR, if_pos (.inr h2)] at hk
    obtain ⟨a, ha⟩ : ∃ a, tyS ns root ((nd ns i).kids.getD 0 0).toNat = a := ⟨_, rfl⟩
    obtain ⟨a1, ha1⟩ : ∃ a, tyS ns root ((nd ns i).kids.getD 1 0).toNat = a := ⟨_, rfl⟩
    rw [ha, ha1] at hk
    conv => whnf
    refine ⟨⟨by omega, h0l, rfl⟩, ?_⟩
    conv => whnf
    refine ⟨ns, root, _, ((nd ns i).kids.getD 0 0).toNat, a, rfl, (Int.toNat_of_nonneg hq0.1).symm, rt, by omega, ha, ?_⟩
    conv => whnf
    refine ⟨⟨by omega, h1l, rfl⟩, ?_⟩
    conv => whnf
    refine ⟨ns, root, _, ((nd ns i).kids.getD 1 0).toNat, a1, rfl, (Int.toNat_of_nonneg hq1.1).symm, rt, by omega, ha1, ?_⟩
    conv => whnf
    repeat' (first | (refine two_eq (fun h => ?_) (fun h => ?_) <;> (conv => whnf)) | (refine two_ne (fun h => ?_) (fun h => ?_) <;> (conv => whnf)) | (refine two_not (fun h => ?_) (fun h => ?_) <;> (conv => whnf)) | (refine two_dec (fun h => ?_) (fun h => ?_) <;> (conv => whnf)) | (refine two_intro (fun h => ?_) (fun h => ?_) <;> (conv => whnf)) | (refine Chk.mk ?_ ?_; (focus (((repeat' (refine And.intro ?_ ?_)) <;> (first | omega | rfl | (simp only [List.length_append, List.length_cons, List.length_nil]; omega) | fail)); done)); (conv => whnf)) | (refine And.intro ?_ ?_; (focus (((repeat' (refine And.intro ?_ ?_)) <;> (first | omega | rfl | (simp only [List.length_append, List.length_cons, List.length_nil]; omega) | fail)); done)); (conv => whnf)) | (refine Exists.intro _ (And.intro rfl ?_)) | (refine Exists.intro _ (Exists.intro _ (And.intro rfl ?_))) | (refine Exists.intro _ (Exists.intro _ (Exists.intro _ (And.intro rfl ?_)))) | fail)
    all_goals refine hr _ _ rfl (ret_eq hk (congrArg (fun b => AV.p (.bool b)) ?_))
    all_goals clear hr hk ha ha1 hq0 hq1 hin hw3 two_of hl2 h0l h1l
    all_goals first | (simp [*]; done) | (simp [*]; omega)
  have h2 : (nd ns i).tx ≠ [33, 61] := h2
  rw [operR, if_neg (by rintro (e | e); exact h e; exact h2 e)] at hk
  conv => whnf
  refine ⟨boolW, _, 3, _, _, _, _, rfl, rfl, rfl, hw3 _ rfl rfl rfl, by decide, bool_any _, ?_⟩
  conv => whnf
  refine two_dec (fun h3 => ?_) (fun h3 => ?_)
  · rw [if_pos h3] at hk
    conv => whnf
    refine ⟨ns, root, 2, (nd ns i).kids, _, _, _, rfl, rfl, fun _ _ => rfl, rt, by omega, hin, rfl, ?_⟩
    conv => whnf
    exact hr _ _ rfl hk
  · rw [if_neg h3] at hk
    conv => whnf
    refine ⟨ns, root, 1, (nd ns i).kids, _, _, _, rfl, rfl, fun _ _ => rfl, rt, by omega, hin, rfl, ?_⟩
    conv => whnf
    exact hr _ _ rfl hk
end Go.Proofs.YtojjkleplnijaaaGreatDoor

namespace Go.Proofs.YtojjkleplnijaaaGreatDoor
open Go.AE Go.Ru
set_option maxRecDepth 100000
set_option maxHeartbeats 1000000
def gRc7 : AG := gput 56 cRmeans (gput 51 cRof (gput 52 cRparams (gput 114 cRkind (gput 60 cRtyped g0))))
theorem gRc7_ok : GOk Tryz.prog gRc7 := gput_ok rmeans_ok (gput_ok rof_ok (gput_ok rparams_ok (gput_ok rkind_ok (gput_ok rtyped_ok g0_ok))))
theorem fit_drop {ns : List Nd} {root : Int} {l w : List Int} {j : Nat} (hj : j < w.length) (hl : l.length = w.length) : fitS ns root (l.drop j) (w.drop j) = (tyS ns root (l.getD j 0).toNat == w.getD j 0 && fitS ns root (l.drop (j + 1)) (w.drop (j + 1))) := by
  rw [List.drop_eq_getElem_cons (by omega : j < l.length), List.drop_eq_getElem_cons hj]
  simp only [fitS]
  congr 2
  · simp [show j < l.length by omega]
  · simp [hj]
def cRcall : AC := fun args K k => ∃ ns root i' i v, args = [treeV ns root, intV i'] ∧ i' = ((i : Nat) : Int) ∧ RightT ns root ∧ i < ns.length ∧ (nd ns i).k = 13 ∧ tcallS ns root i (nd ns i) = v ∧ k (.ret (intV v)) K
theorem rcall_ok : COk 111 cRcall := by
  rintro args K k ⟨ns, root, _, i, v, rfl, rfl, rt, hi, hk13, rfl, hk⟩
  have hlen := rt.len
  have hmany := rt.many i hi
  have hin := rt.inr hi
  have hrl := rt.rlt
  have hrt := rt.rt
  obtain ⟨q0, r, hkd⟩ := kids_cons rt hi (.inr (.inr (.inr (.inr hk13))))
  have h0l : (0 : Int) < ((nd ns i).kids.length : Int) := by rw [hkd]; simp only [List.length_cons]; omega
  have hq0 := hin _ (getD_mem (l := (nd ns i).kids) (i := 0) (by omega))
  obtain ⟨d, hd⟩ : ∃ d, meansS ns root i (nd ns ((nd ns i).kids.getD 0 0).toNat).tx = d := ⟨_, rfl⟩
  obtain ⟨p, hp⟩ : ∃ p, procI ns (nd ns ((nd ns i).kids.getD 0 0).toNat).tx = p := ⟨_, rfl⟩
  have hdr := means_range ns root i (nd ns ((nd ns i).kids.getD 0 0).toNat).tx
  have hpr := procI_range ns (nd ns ((nd ns i).kids.getD 0 0).toNat).tx
  rw [hd] at hdr
  rw [hp] at hpr
  obtain ⟨e, he⟩ : ∃ e, meansS ns root i (nd ns i).tx = e := ⟨_, rfl⟩
  have her := means_range ns root i (nd ns i).tx
  rw [he] at her
  obtain ⟨kd, hkd2⟩ : ∃ kd, kindS ns root i (nd ns i).tx = kd := ⟨_, rfl⟩
  unfold tcallS at hk
  simp only [hd, hp, he, hkd2] at hk
  refine frame0P gRc7_ok 19 rfl fun Q hr => ?_
  conv => whnf
  refine ⟨⟨by omega, by omega, rfl⟩, ?_⟩
  conv => whnf
  refine ⟨⟨by omega, h0l, rfl⟩, ?_⟩
  conv => whnf
  refine ⟨⟨hq0.1, hq0.2, rfl⟩, ?_⟩
  conv => whnf
  refine ⟨ns, root, _, i, _, d, rfl, rfl, rt, hi, hd, ?_⟩
  conv => whnf
  repeat ((refine And.intro ?_ ?_); (focus ((conv => whnf); first | done | exact ⟨⟨by omega, by omega, rfl⟩, by conv => whnf⟩)); (conv => whnf))
  refine ⟨ns, root, _, root.toNat, 3, 3, _, p, rfl, by omega, rt, hrl, (of_proc rt _).trans hp, ?_⟩
  conv => whnf
  repeat ((refine And.intro ?_ ?_); (focus ((conv => whnf); first | done | exact ⟨⟨by omega, by omega, rfl⟩, by conv => whnf⟩)); (conv => whnf))
  refine two_dec (fun hd1 => ?_) (fun hd1 => ?_)
  · have hd1 : d = -1 := by have hd1 : d < 0 := hd1; omega
    conv => whnf
    refine two_dec (fun hp1 => ?_) (fun hp1 => ?_)
    · have hp1 : p = -1 := by have hp1 : p < 0 := hp1; omega
      rw [if_pos (.inl ⟨hd1, hp1⟩)] at hk
      conv => whnf
      exact hr _ _ rfl hk
    have hp1 : ¬ p < 0 := hp1
    have hpr := hpr.resolve_left (by omega)
    conv => whnf
    refine two_ne (fun h3 => ?_) (fun h3 => ?_)
    · have h3 : (nd ns i).tx ≠ [] := h3
      conv => whnf
      refine ⟨ns, root, _, i, _, e, rfl, rfl, rt, hi, he, ?_⟩
      conv => whnf
      refine two_dec (fun h4 => ?_) (fun h4 => ?_)
      · have h4 : e = -1 := by have h4 : e < 0 := h4; omega
        rw [if_pos (.inr ⟨h3, h4⟩)] at hk
        conv => whnf
        exact hr _ _ rfl hk
      have h4 : ¬ e < 0 := h4
      rw [if_neg (by rintro (⟨_, e1⟩ | ⟨e1, e2⟩); omega; omega), if_pos hd1] at hk
      obtain ⟨ps, hps⟩ : ∃ ps, paramsS ns p.toNat = ps := ⟨_, rfl⟩
      have hpl := params_le ns p.toNat
      have hpm := rt.many p.toNat (by omega)
      rw [hps] at hpl hk
      have hd1' : d < 0 := by omega
      conv => whnf
      refine two_dec (fun _ => ?_) (fun h => absurd hd1' h)
      conv => whnf
      refine ⟨ns, root, _, p.toNat, ps, rfl, by omega, rt, by omega, hps, ?_⟩
      conv => whnf
      refine ⟨⟨by omega, by omega, rfl⟩, ?_⟩
      have hlb : List.length ps < 100000 := by omega
      conv => whnf
      refine two_ne (fun h7 => ?_) (fun h7 => ?_)
      · have h7 : ((nd ns i).kids.length : Int) ≠ IntKind.i64.wrap ((List.length ps : Int) + 1) := h7
        have hf : fitS ns root (nd ns i).kids.tail ps = false := by
          rw [← Bool.not_eq_true]; intro e; have := fit_len _ _ e; rw [List.length_tail] at this; exact h7 (by rw [wzz (by omega)]; omega)
        rw [hf] at hk
        conv => whnf
        exact hr _ _ rfl hk
      have h7 : (nd ns i).kids.length = List.length ps + 1 := by
        have h7 : ((nd ns i).kids.length : Int) = IntKind.i64.wrap ((List.length ps : Int) + 1) := h7
        rw [wzz (by omega)] at h7; omega
      have htl : (nd ns i).kids.tail.length = List.length ps := by rw [List.length_tail]; omega
      conv => whnf
      refine two_ne (fun h8 => ?_) (fun h8 => ?_)
      · have h8 : (nd ns i).tx ≠ [] := h8
        rw [beq_eq_false_iff_ne.2 h8, Bool.false_or] at hk
        conv => whnf
        refine two_eq (fun h11 => ?_) (fun h11 => ?_)
        · have h11 : (nd ns p.toNat).n = (0 : Int) := h11
          rw [h11, show ((0 : Int) != 0) = false from rfl, Bool.false_and, Bool.and_false] at hk
          conv => whnf
          exact hr _ _ rfl hk
        have h11 : (nd ns p.toNat).n ≠ (0 : Int) := h11
        rw [bne_iff_ne.2 h11, Bool.true_and] at hk
        conv => whnf
        refine ⟨ns, root, _, i, _, kd, rfl, rfl, rt, hi, hkd2, ?_⟩
        conv => whnf
        refine two_ne (fun h12 => ?_) (fun h12 => ?_)
        · have h12 : kd ≠ (nd ns p.toNat).n := h12
          rw [beq_eq_false_iff_ne.2 h12, Bool.and_false] at hk
          conv => whnf
          exact hr _ _ rfl hk
        have h12 : kd = (nd ns p.toNat).n := h12
        rw [beq_iff_eq.2 h12, Bool.and_true] at hk
        conv => whnf
        refine loop_up (ι := Nat) [2, 5, 9] (fun j => [(11, intV j)]) (fun _ => []) (fun j => j ≤ List.length ps ∧ fitS ns root ((nd ns i).kids.tail.drop j) (List.drop j ps) = fitS ns root (nd ns i).kids.tail ps) (fun j => List.length ps - j) 0 ⟨AV.le_refl _, trivial⟩ (trivial) ⟨Nat.zero_le _, by simp⟩ ?_
        rintro Y hle j ⟨hj, hfe⟩ ih
        conv => whnf
        refine two_dec (fun h9 => ?_) (fun h9 => ?_)
        · have h9 : j < List.length ps := by have h9 : (j : Int) < (List.length ps : Int) := h9; omega
          have h9' : (j : Int) < (List.length ps : Int) := by omega
          skip
          have hw1 := wzz (i := j) (by omega)
          have hw1' : IntKind.i64.wrap ((j : Int) + 1) = ((j + 1 : Nat) : Int) := hw1
          have hj1 : j + 1 < (nd ns i).kids.length := by omega
          have hx0 : 0 ≤ IntKind.i64.wrap ((j : Int) + 1) := by rw [hw1]; omega
          have hx1 : IntKind.i64.wrap ((j : Int) + 1) < ((nd ns i).kids.length : Int) := by rw [hw1]; omega
          have hqj := hin _ (getD_mem hj1)
          rw [fit_drop h9 htl] at hfe
          have etl : (nd ns i).kids.tail.getD j 0 = (nd ns i).kids.getD (j + 1) 0 := by cases (nd ns i).kids <;> rfl
          rw [etl] at hfe
          obtain ⟨ty, hty⟩ : ∃ ty, tyS ns root ((nd ns i).kids.getD (j + 1) 0).toNat = ty := ⟨_, rfl⟩
          rw [hty] at hfe
          have hqe : (nd ns i).kids.getD (IntKind.i64.wrap ((j : Int) + 1)).toNat 0 = ((((nd ns i).kids.getD (j + 1) 0).toNat : Nat) : Int) := by rw [hw1, Int.toNat_natCast]; omega
          conv => whnf
          refine ⟨⟨hx0, hx1, rfl⟩, ?_⟩
          conv => whnf
          (refine ⟨⟨by omega, h9', rfl⟩, ?_⟩; (conv => whnf))
          refine ⟨ns, root, _, ((nd ns i).kids.getD (j + 1) 0).toNat, ty, rfl, hqe, rt, by omega, hty, ?_⟩
          conv => whnf
          repeat ((refine And.intro ?_ ?_); (focus ((conv => whnf); first | done | exact ⟨⟨by omega, h9', rfl⟩, by conv => whnf⟩ | exact ⟨⟨hx0, hx1, rfl⟩, by conv => whnf⟩ | exact ⟨⟨rfl, rfl, by omega, h9', rfl⟩, by conv => whnf⟩ | exact ⟨⟨rfl, rfl⟩, by conv => whnf⟩)); (conv => whnf))
          refine two_ne (fun h10 => ?_) (fun h10 => ?_)
          · have h10 : ty ≠ List.getD ps j 0 := (fun h => h) h10
            rw [beq_eq_false_iff_ne.2 h10, Bool.false_and] at hfe
            rw [← hfe] at hk
            conv => whnf
            exact hr _ _ rfl hk
          · have h10 : ty = List.getD ps j 0 := (fun h => h) h10
            rw [beq_iff_eq.2 h10, Bool.true_and] at hfe
            conv => whnf
            refine hle _ _ (Le.env ?_ ?_) (ih (j + 1) (by omega) ⟨by omega, hfe⟩)
            · skip
              repeat' (first | exact trivial | ((conv => whnf); first | exact trivial | (refine And.intro (AV.le_refl _) ?_) | (refine And.intro (ABlk.le_refl _) ?_) | (refine And.intro (AV.le_of_eq ?_) ?_; (focus ((first | exact congrArg intV hw1 | fail); done))) | (refine And.intro (ABlk.le_of_eq ?_) ?_; (focus ((first | exact congrArg intV hw1 | fail); done))) | fail) | fail)
            · skip
              repeat' (first | exact trivial | ((conv => whnf); first | exact trivial | (refine And.intro (AV.le_refl _) ?_) | (refine And.intro (ABlk.le_refl _) ?_) | (refine And.intro (AV.le_of_eq ?_) ?_; (focus ((first | fail | fail); done))) | (refine And.intro (ABlk.le_of_eq ?_) ?_; (focus ((first | fail | fail); done))) | fail) | fail)
        · obtain rfl : j = List.length ps := by have h9 : ¬ (j : Int) < (List.length ps : Int) := h9; omega
          rw [List.drop_of_length_le (by omega), List.drop_of_length_le (Nat.le_refl _)] at hfe
          have hfe : true = fitS ns root (nd ns i).kids.tail ps := hfe
          rw [← hfe] at hk
          conv => whnf
          exact hr _ _ rfl hk
      · have h8 : (nd ns i).tx = [] := h8
        rw [beq_iff_eq.2 h8, Bool.true_or, Bool.and_true] at hk
        conv => whnf
        refine loop_up (ι := Nat) [2, 5, 9] (fun j => [(11, intV j)]) (fun _ => []) (fun j => j ≤ List.length ps ∧ fitS ns root ((nd ns i).kids.tail.drop j) (List.drop j ps) = fitS ns root (nd ns i).kids.tail ps) (fun j => List.length ps - j) 0 ⟨AV.le_refl _, trivial⟩ (trivial) ⟨Nat.zero_le _, by simp⟩ ?_
        rintro Y hle j ⟨hj, hfe⟩ ih
        conv => whnf
        refine two_dec (fun h9 => ?_) (fun h9 => ?_)
        · have h9 : j < List.length ps := by have h9 : (j : Int) < (List.length ps : Int) := h9; omega
          have h9' : (j : Int) < (List.length ps : Int) := by omega
          skip
          have hw1 := wzz (i := j) (by omega)
          have hw1' : IntKind.i64.wrap ((j : Int) + 1) = ((j + 1 : Nat) : Int) := hw1
          have hj1 : j + 1 < (nd ns i).kids.length := by omega
          have hx0 : 0 ≤ IntKind.i64.wrap ((j : Int) + 1) := by rw [hw1]; omega
          have hx1 : IntKind.i64.wrap ((j : Int) + 1) < ((nd ns i).kids.length : Int) := by rw [hw1]; omega
          have hqj := hin _ (getD_mem hj1)
          rw [fit_drop h9 htl] at hfe
          have etl : (nd ns i).kids.tail.getD j 0 = (nd ns i).kids.getD (j + 1) 0 := by cases (nd ns i).kids <;> rfl
          rw [etl] at hfe
          obtain ⟨ty, hty⟩ : ∃ ty, tyS ns root ((nd ns i).kids.getD (j + 1) 0).toNat = ty := ⟨_, rfl⟩
          rw [hty] at hfe
          have hqe : (nd ns i).kids.getD (IntKind.i64.wrap ((j : Int) + 1)).toNat 0 = ((((nd ns i).kids.getD (j + 1) 0).toNat : Nat) : Int) := by rw [hw1, Int.toNat_natCast]; omega
          conv => whnf
          refine ⟨⟨hx0, hx1, rfl⟩, ?_⟩
          conv => whnf
          (refine ⟨⟨by omega, h9', rfl⟩, ?_⟩; (conv => whnf))
          refine ⟨ns, root, _, ((nd ns i).kids.getD (j + 1) 0).toNat, ty, rfl, hqe, rt, by omega, hty, ?_⟩
          conv => whnf
          repeat ((refine And.intro ?_ ?_); (focus ((conv => whnf); first | done | exact ⟨⟨by omega, h9', rfl⟩, by conv => whnf⟩ | exact ⟨⟨hx0, hx1, rfl⟩, by conv => whnf⟩ | exact ⟨⟨rfl, rfl, by omega, h9', rfl⟩, by conv => whnf⟩ | exact ⟨⟨rfl, rfl⟩, by conv => whnf⟩)); (conv => whnf))
          refine two_ne (fun h10 => ?_) (fun h10 => ?_)
          · have h10 : ty ≠ List.getD ps j 0 := (fun h => h) h10
            rw [beq_eq_false_iff_ne.2 h10, Bool.false_and] at hfe
            rw [← hfe] at hk
            conv => whnf
            exact hr _ _ rfl hk
          · have h10 : ty = List.getD ps j 0 := (fun h => h) h10
            rw [beq_iff_eq.2 h10, Bool.true_and] at hfe
            conv => whnf
            refine hle _ _ (Le.env ?_ ?_) (ih (j + 1) (by omega) ⟨by omega, hfe⟩)
            · skip
              repeat' (first | exact trivial | ((conv => whnf); first | exact trivial | (refine And.intro (AV.le_refl _) ?_) | (refine And.intro (ABlk.le_refl _) ?_) | (refine And.intro (AV.le_of_eq ?_) ?_; (focus ((first | exact congrArg intV hw1 | fail); done))) | (refine And.intro (ABlk.le_of_eq ?_) ?_; (focus ((first | exact congrArg intV hw1 | fail); done))) | fail) | fail)
            · skip
              repeat' (first | exact trivial | ((conv => whnf); first | exact trivial | (refine And.intro (AV.le_refl _) ?_) | (refine And.intro (ABlk.le_refl _) ?_) | (refine And.intro (AV.le_of_eq ?_) ?_; (focus ((first | fail | fail); done))) | (refine And.intro (ABlk.le_of_eq ?_) ?_; (focus ((first | fail | fail); done))) | fail) | fail)
        · obtain rfl : j = List.length ps := by have h9 : ¬ (j : Int) < (List.length ps : Int) := h9; omega
          rw [List.drop_of_length_le (by omega), List.drop_of_length_le (Nat.le_refl _)] at hfe
          have hfe : true = fitS ns root (nd ns i).kids.tail ps := hfe
          rw [← hfe] at hk
          conv => whnf
          exact hr _ _ rfl hk
    · have h3 : (nd ns i).tx = [] := h3
      rw [if_neg (by rintro (⟨_, e1⟩ | ⟨e1, e2⟩); omega; exact e1 h3), if_pos hd1] at hk
      obtain ⟨ps, hps⟩ : ∃ ps, paramsS ns p.toNat = ps := ⟨_, rfl⟩
      have hpl := params_le ns p.toNat
      have hpm := rt.many p.toNat (by omega)
      rw [hps] at hpl hk
      have hd1' : d < 0 := by omega
      conv => whnf
      refine two_dec (fun _ => ?_) (fun h => absurd hd1' h)
      conv => whnf
      refine ⟨ns, root, _, p.toNat, ps, rfl, by omega, rt, by omega, hps, ?_⟩
      conv => whnf
      refine ⟨⟨by omega, by omega, rfl⟩, ?_⟩
      have hlb : List.length ps < 100000 := by omega
      conv => whnf
      refine two_ne (fun h7 => ?_) (fun h7 => ?_)
      · have h7 : ((nd ns i).kids.length : Int) ≠ IntKind.i64.wrap ((List.length ps : Int) + 1) := h7
        have hf : fitS ns root (nd ns i).kids.tail ps = false := by
          rw [← Bool.not_eq_true]; intro e; have := fit_len _ _ e; rw [List.length_tail] at this; exact h7 (by rw [wzz (by omega)]; omega)
        rw [hf] at hk
        conv => whnf
        exact hr _ _ rfl hk
      have h7 : (nd ns i).kids.length = List.length ps + 1 := by
        have h7 : ((nd ns i).kids.length : Int) = IntKind.i64.wrap ((List.length ps : Int) + 1) := h7
        rw [wzz (by omega)] at h7; omega
      have htl : (nd ns i).kids.tail.length = List.length ps := by rw [List.length_tail]; omega
      conv => whnf
      refine two_ne (fun h8 => ?_) (fun h8 => ?_)
      · have h8 : (nd ns i).tx ≠ [] := h8
        rw [beq_eq_false_iff_ne.2 h8, Bool.false_or] at hk
        conv => whnf
        refine two_eq (fun h11 => ?_) (fun h11 => ?_)
        · have h11 : (nd ns p.toNat).n = (0 : Int) := h11
          rw [h11, show ((0 : Int) != 0) = false from rfl, Bool.false_and, Bool.and_false] at hk
          conv => whnf
          exact hr _ _ rfl hk
        have h11 : (nd ns p.toNat).n ≠ (0 : Int) := h11
        rw [bne_iff_ne.2 h11, Bool.true_and] at hk
        conv => whnf
        refine ⟨ns, root, _, i, _, kd, rfl, rfl, rt, hi, hkd2, ?_⟩
        conv => whnf
        refine two_ne (fun h12 => ?_) (fun h12 => ?_)
        · have h12 : kd ≠ (nd ns p.toNat).n := h12
          rw [beq_eq_false_iff_ne.2 h12, Bool.and_false] at hk
          conv => whnf
          exact hr _ _ rfl hk
        have h12 : kd = (nd ns p.toNat).n := h12
        rw [beq_iff_eq.2 h12, Bool.and_true] at hk
        conv => whnf
        refine loop_up (ι := Nat) [2, 5, 9] (fun j => [(11, intV j)]) (fun _ => []) (fun j => j ≤ List.length ps ∧ fitS ns root ((nd ns i).kids.tail.drop j) (List.drop j ps) = fitS ns root (nd ns i).kids.tail ps) (fun j => List.length ps - j) 0 ⟨AV.le_refl _, trivial⟩ (trivial) ⟨Nat.zero_le _, by simp⟩ ?_
        rintro Y hle j ⟨hj, hfe⟩ ih
        conv => whnf
        refine two_dec (fun h9 => ?_) (fun h9 => ?_)
        · have h9 : j < List.length ps := by have h9 : (j : Int) < (List.length ps : Int) := h9; omega
          have h9' : (j : Int) < (List.length ps : Int) := by omega
          skip
          have hw1 := wzz (i := j) (by omega)
          have hw1' : IntKind.i64.wrap ((j : Int) + 1) = ((j + 1 : Nat) : Int) := hw1
          have hj1 : j + 1 < (nd ns i).kids.length := by omega
          have hx0 : 0 ≤ IntKind.i64.wrap ((j : Int) + 1) := by rw [hw1]; omega
          have hx1 : IntKind.i64.wrap ((j : Int) + 1) < ((nd ns i).kids.length : Int) := by rw [hw1]; omega
          have hqj := hin _ (getD_mem hj1)
          rw [fit_drop h9 htl] at hfe
          have etl : (nd ns i).kids.tail.getD j 0 = (nd ns i).kids.getD (j + 1) 0 := by cases (nd ns i).kids <;> rfl
          rw [etl] at hfe
          obtain ⟨ty, hty⟩ : ∃ ty, tyS ns root ((nd ns i).kids.getD (j + 1) 0).toNat = ty := ⟨_, rfl⟩
          rw [hty] at hfe
          have hqe : (nd ns i).kids.getD (IntKind.i64.wrap ((j : Int) + 1)).toNat 0 = ((((nd ns i).kids.getD (j + 1) 0).toNat : Nat) : Int) := by rw [hw1, Int.toNat_natCast]; omega
          conv => whnf
          refine ⟨⟨hx0, hx1, rfl⟩, ?_⟩
          conv => whnf
          (refine ⟨⟨by omega, h9', rfl⟩, ?_⟩; (conv => whnf))
          refine ⟨ns, root, _, ((nd ns i).kids.getD (j + 1) 0).toNat, ty, rfl, hqe, rt, by omega, hty, ?_⟩
          conv => whnf
          repeat ((refine And.intro ?_ ?_); (focus ((conv => whnf); first | done | exact ⟨⟨by omega, h9', rfl⟩, by conv => whnf⟩ | exact ⟨⟨hx0, hx1, rfl⟩, by conv => whnf⟩ | exact ⟨⟨rfl, rfl, by omega, h9', rfl⟩, by conv => whnf⟩ | exact ⟨⟨rfl, rfl⟩, by conv => whnf⟩)); (conv => whnf))
          refine two_ne (fun h10 => ?_) (fun h10 => ?_)
          · have h10 : ty ≠ List.getD ps j 0 := (fun h => h) h10
            rw [beq_eq_false_iff_ne.2 h10, Bool.false_and] at hfe
            rw [← hfe] at hk
            conv => whnf
            exact hr _ _ rfl hk
          · have h10 : ty = List.getD ps j 0 := (fun h => h) h10
            rw [beq_iff_eq.2 h10, Bool.true_and] at hfe
            conv => whnf
            refine hle _ _ (Le.env ?_ ?_) (ih (j + 1) (by omega) ⟨by omega, hfe⟩)
            · skip
              repeat' (first | exact trivial | ((conv => whnf); first | exact trivial | (refine And.intro (AV.le_refl _) ?_) | (refine And.intro (ABlk.le_refl _) ?_) | (refine And.intro (AV.le_of_eq ?_) ?_; (focus ((first | exact congrArg intV hw1 | fail); done))) | (refine And.intro (ABlk.le_of_eq ?_) ?_; (focus ((first | exact congrArg intV hw1 | fail); done))) | fail) | fail)
            · skip
              repeat' (first | exact trivial | ((conv => whnf); first | exact trivial | (refine And.intro (AV.le_refl _) ?_) | (refine And.intro (ABlk.le_refl _) ?_) | (refine And.intro (AV.le_of_eq ?_) ?_; (focus ((first | fail | fail); done))) | (refine And.intro (ABlk.le_of_eq ?_) ?_; (focus ((first | fail | fail); done))) | fail) | fail)
        · obtain rfl : j = List.length ps := by have h9 : ¬ (j : Int) < (List.length ps : Int) := h9; omega
          rw [List.drop_of_length_le (by omega), List.drop_of_length_le (Nat.le_refl _)] at hfe
          have hfe : true = fitS ns root (nd ns i).kids.tail ps := hfe
          rw [← hfe] at hk
          conv => whnf
          exact hr _ _ rfl hk
      · have h8 : (nd ns i).tx = [] := h8
        rw [beq_iff_eq.2 h8, Bool.true_or, Bool.and_true] at hk
        conv => whnf
        refine loop_up (ι := Nat) [2, 5, 9] (fun j => [(11, intV j)]) (fun _ => []) (fun j => j ≤ List.length ps ∧ fitS ns root ((nd ns i).kids.tail.drop j) (List.drop j ps) = fitS ns root (nd ns i).kids.tail ps) (fun j => List.length ps - j) 0 ⟨AV.le_refl _, trivial⟩ (trivial) ⟨Nat.zero_le _, by simp⟩ ?_
        rintro Y hle j ⟨hj, hfe⟩ ih
        conv => whnf
        refine two_dec (fun h9 => ?_) (fun h9 => ?_)
        · have h9 : j < List.length ps := by have h9 : (j : Int) < (List.length ps : Int) := h9; omega
          have h9' : (j : Int) < (List.length ps : Int) := by omega
          skip
          have hw1 := wzz (i := j) (by omega)
          have hw1' : IntKind.i64.wrap ((j : Int) + 1) = ((j + 1 : Nat) : Int) := hw1
          have hj1 : j + 1 < (nd ns i).kids.length := by omega
          have hx0 : 0 ≤ IntKind.i64.wrap ((j : Int) + 1) := by rw [hw1]; omega
          have hx1 : IntKind.i64.wrap ((j : Int) + 1) < ((nd ns i).kids.length : Int) := by rw [hw1]; omega
          have hqj := hin _ (getD_mem hj1)
          rw [fit_drop h9 htl] at hfe
          have etl : (nd ns i).kids.tail.getD j 0 = (nd ns i).kids.getD (j + 1) 0 := by cases (nd ns i).kids <;> rfl
          rw [etl] at hfe
          obtain ⟨ty, hty⟩ : ∃ ty, tyS ns root ((nd ns i).kids.getD (j + 1) 0).toNat = ty := ⟨_, rfl⟩
          rw [hty] at hfe
          have hqe : (nd ns i).kids.getD (IntKind.i64.wrap ((j : Int) + 1)).toNat 0 = ((((nd ns i).kids.getD (j + 1) 0).toNat : Nat) : Int) := by rw [hw1, Int.toNat_natCast]; omega
          conv => whnf
          refine ⟨⟨hx0, hx1, rfl⟩, ?_⟩
          conv => whnf
          (refine ⟨⟨by omega, h9', rfl⟩, ?_⟩; (conv => whnf))
          refine ⟨ns, root, _, ((nd ns i).kids.getD (j + 1) 0).toNat, ty, rfl, hqe, rt, by omega, hty, ?_⟩
          conv => whnf
          repeat ((refine And.intro ?_ ?_); (focus ((conv => whnf); first | done | exact ⟨⟨by omega, h9', rfl⟩, by conv => whnf⟩ | exact ⟨⟨hx0, hx1, rfl⟩, by conv => whnf⟩ | exact ⟨⟨rfl, rfl, by omega, h9', rfl⟩, by conv => whnf⟩ | exact ⟨⟨rfl, rfl⟩, by conv => whnf⟩)); (conv => whnf))
          refine two_ne (fun h10 => ?_) (fun h10 => ?_)
          · have h10 : ty ≠ List.getD ps j 0 := (fun h => h) h10
            rw [beq_eq_false_iff_ne.2 h10, Bool.false_and] at hfe
            rw [← hfe] at hk
            conv => whnf
            exact hr _ _ rfl hk
          · have h10 : ty = List.getD ps j 0 := (fun h => h) h10
            rw [beq_iff_eq.2 h10, Bool.true_and] at hfe
            conv => whnf
            refine hle _ _ (Le.env ?_ ?_) (ih (j + 1) (by omega) ⟨by omega, hfe⟩)
            · skip
              repeat' (first | exact trivial | ((conv => whnf); first | exact trivial | (refine And.intro (AV.le_refl _) ?_) | (refine And.intro (ABlk.le_refl _) ?_) | (refine And.intro (AV.le_of_eq ?_) ?_; (focus ((first | exact congrArg intV hw1 | fail); done))) | (refine And.intro (ABlk.le_of_eq ?_) ?_; (focus ((first | exact congrArg intV hw1 | fail); done))) | fail) | fail)
            · skip
              repeat' (first | exact trivial | ((conv => whnf); first | exact trivial | (refine And.intro (AV.le_refl _) ?_) | (refine And.intro (ABlk.le_refl _) ?_) | (refine And.intro (AV.le_of_eq ?_) ?_; (focus ((first | fail | fail); done))) | (refine And.intro (ABlk.le_of_eq ?_) ?_; (focus ((first | fail | fail); done))) | fail) | fail)
        · obtain rfl : j = List.length ps := by have h9 : ¬ (j : Int) < (List.length ps : Int) := h9; omega
          rw [List.drop_of_length_le (by omega), List.drop_of_length_le (Nat.le_refl _)] at hfe
          have hfe : true = fitS ns root (nd ns i).kids.tail ps := hfe
          rw [← hfe] at hk
          conv => whnf
          exact hr _ _ rfl hk
  · have hd1 : ¬ d < 0 := hd1
    have hdr := hdr.resolve_left (by omega)
    conv => whnf
    refine two_ne (fun h3 => ?_) (fun h3 => ?_)
    · have h3 : (nd ns i).tx ≠ [] := h3
      conv => whnf
      refine ⟨ns, root, _, i, _, e, rfl, rfl, rt, hi, he, ?_⟩
      conv => whnf
      refine two_dec (fun h4 => ?_) (fun h4 => ?_)
      · have h4 : e = -1 := by have h4 : e < 0 := h4; omega
        rw [if_pos (.inr ⟨h3, h4⟩)] at hk
        conv => whnf
        exact hr _ _ rfl hk
      have h4 : ¬ e < 0 := h4
      rw [if_neg (by rintro (⟨e1, _⟩ | ⟨e1, e2⟩); omega; omega), if_neg (by omega : ¬ d = -1)] at hk
      conv => whnf
      refine two_dec (fun h => absurd h hd1) (fun _ => ?_)
      conv => whnf
      refine ⟨⟨by omega, by omega, rfl⟩, ?_⟩
      conv => whnf
      refine two_ne (fun h5 => ?_) (fun h5 => ?_)
      · have h5 : (nd ns d.toNat).n ≠ 4 := h5
        rw [if_pos h5] at hk
        conv => whnf
        exact hr _ _ rfl hk
      have h5 : (nd ns d.toNat).n = 4 := h5
      rw [if_neg (fun e => e h5)] at hk
      have hk : k (.ret (intV (toldS (fitS ns root (nd ns i).kids.tail [1] && ((nd ns i).tx == [] || ((1 : Int) != 0 && kd == 1)))))) K := hk
      have hlb : List.length ([1] : List Int) < 100000 := by decide
      conv => whnf
      refine two_ne (fun h7 => ?_) (fun h7 => ?_)
      · have h7 : ((nd ns i).kids.length : Int) ≠ IntKind.i64.wrap ((List.length ([1] : List Int) : Int) + 1) := h7
        have hf : fitS ns root (nd ns i).kids.tail ([1] : List Int) = false := by
          rw [← Bool.not_eq_true]; intro e; have := fit_len _ _ e; rw [List.length_tail] at this; exact h7 (by rw [wzz (by omega)]; omega)
        rw [hf] at hk
        conv => whnf
        exact hr _ _ rfl hk
      have h7 : (nd ns i).kids.length = List.length ([1] : List Int) + 1 := by
        have h7 : ((nd ns i).kids.length : Int) = IntKind.i64.wrap ((List.length ([1] : List Int) : Int) + 1) := h7
        rw [wzz (by omega)] at h7; omega
      have htl : (nd ns i).kids.tail.length = List.length ([1] : List Int) := by rw [List.length_tail]; omega
      conv => whnf
      refine two_ne (fun h8 => ?_) (fun h8 => ?_)
      · have h8 : (nd ns i).tx ≠ [] := h8
        rw [beq_eq_false_iff_ne.2 h8, Bool.false_or] at hk
        rw [show ((1 : Int) != 0) = true from rfl, Bool.true_and] at hk
        conv => whnf
        refine ⟨ns, root, _, i, _, kd, rfl, rfl, rt, hi, hkd2, ?_⟩
        conv => whnf
        refine two_ne (fun h12 => ?_) (fun h12 => ?_)
        · have h12 : kd ≠ (1 : Int) := h12
          rw [beq_eq_false_iff_ne.2 h12, Bool.and_false] at hk
          conv => whnf
          exact hr _ _ rfl hk
        have h12 : kd = (1 : Int) := h12
        rw [beq_iff_eq.2 h12, Bool.and_true] at hk
        conv => whnf
        refine loop_up (ι := Nat) [2, 5, 9] (fun j => [(11, intV j)]) (fun _ => [(2, .arr 3 1 0 1 fun _ => [intV 1])]) (fun j => j ≤ List.length ([1] : List Int) ∧ fitS ns root ((nd ns i).kids.tail.drop j) (List.drop j ([1] : List Int)) = fitS ns root (nd ns i).kids.tail ([1] : List Int)) (fun j => List.length ([1] : List Int) - j) 0 ⟨AV.le_refl _, trivial⟩ (⟨upLe1 rfl (ABlk.arr_eq rfl fun i hi => by obtain rfl : i = 0 := (by omega); rfl), trivial⟩) ⟨Nat.zero_le _, by simp⟩ ?_
        rintro Y hle j ⟨hj, hfe⟩ ih
        conv => whnf
        refine two_dec (fun h9 => ?_) (fun h9 => ?_)
        · have h9 : j < List.length ([1] : List Int) := by have h9 : (j : Int) < (List.length ([1] : List Int) : Int) := h9; omega
          have h9' : (j : Int) < (List.length ([1] : List Int) : Int) := by omega
          have eg : List.getD ([1] : List Int) j 0 = 1 := by (obtain rfl : j = 0 := by (have h9 : j < 1 := h9; omega)); rfl
          have hw1 := wzz (i := j) (by omega)
          have hw1' : IntKind.i64.wrap ((j : Int) + 1) = ((j + 1 : Nat) : Int) := hw1
          have hj1 : j + 1 < (nd ns i).kids.length := by omega
          have hx0 : 0 ≤ IntKind.i64.wrap ((j : Int) + 1) := by rw [hw1]; omega
          have hx1 : IntKind.i64.wrap ((j : Int) + 1) < ((nd ns i).kids.length : Int) := by rw [hw1]; omega
          have hqj := hin _ (getD_mem hj1)
          rw [fit_drop h9 htl] at hfe
          have etl : (nd ns i).kids.tail.getD j 0 = (nd ns i).kids.getD (j + 1) 0 := by cases (nd ns i).kids <;> rfl
          rw [etl] at hfe
          obtain ⟨ty, hty⟩ : ∃ ty, tyS ns root ((nd ns i).kids.getD (j + 1) 0).toNat = ty := ⟨_, rfl⟩
          rw [hty] at hfe
          have hqe : (nd ns i).kids.getD (IntKind.i64.wrap ((j : Int) + 1)).toNat 0 = ((((nd ns i).kids.getD (j + 1) 0).toNat : Nat) : Int) := by rw [hw1, Int.toNat_natCast]; omega
          conv => whnf
          refine ⟨⟨hx0, hx1, rfl⟩, ?_⟩
          conv => whnf
          (refine ⟨⟨rfl, rfl, by omega, h9', rfl⟩, ?_⟩; (conv => whnf); refine ⟨⟨rfl, rfl⟩, ?_⟩; (conv => whnf))
          refine ⟨ns, root, _, ((nd ns i).kids.getD (j + 1) 0).toNat, ty, rfl, hqe, rt, by omega, hty, ?_⟩
          conv => whnf
          repeat ((refine And.intro ?_ ?_); (focus ((conv => whnf); first | done | exact ⟨⟨by omega, h9', rfl⟩, by conv => whnf⟩ | exact ⟨⟨hx0, hx1, rfl⟩, by conv => whnf⟩ | exact ⟨⟨rfl, rfl, by omega, h9', rfl⟩, by conv => whnf⟩ | exact ⟨⟨rfl, rfl⟩, by conv => whnf⟩)); (conv => whnf))
          refine two_ne (fun h10 => ?_) (fun h10 => ?_)
          · have h10 : ty ≠ List.getD ([1] : List Int) j 0 := (fun h => by rw [eg]; exact h) h10
            rw [beq_eq_false_iff_ne.2 h10, Bool.false_and] at hfe
            rw [← hfe] at hk
            conv => whnf
            exact hr _ _ rfl hk
          · have h10 : ty = List.getD ([1] : List Int) j 0 := (fun h => by rw [eg]; exact h) h10
            rw [beq_iff_eq.2 h10, Bool.true_and] at hfe
            conv => whnf
            refine hle _ _ (Le.env ?_ ?_) (ih (j + 1) (by omega) ⟨by omega, hfe⟩)
            · skip
              repeat' (first | exact trivial | ((conv => whnf); first | exact trivial | (refine And.intro (AV.le_refl _) ?_) | (refine And.intro (ABlk.le_refl _) ?_) | (refine And.intro (AV.le_of_eq ?_) ?_; (focus ((first | exact congrArg intV hw1 | fail); done))) | (refine And.intro (ABlk.le_of_eq ?_) ?_; (focus ((first | exact congrArg intV hw1 | fail); done))) | fail) | fail)
            · skip
              repeat' (first | exact trivial | ((conv => whnf); first | exact trivial | (refine And.intro (AV.le_refl _) ?_) | (refine And.intro (ABlk.le_refl _) ?_) | (refine And.intro (AV.le_of_eq ?_) ?_; (focus ((first | fail | fail); done))) | (refine And.intro (ABlk.le_of_eq ?_) ?_; (focus ((first | fail | fail); done))) | fail) | fail)
        · obtain rfl : j = List.length ([1] : List Int) := by have h9 : ¬ (j : Int) < (List.length ([1] : List Int) : Int) := h9; omega
          rw [List.drop_of_length_le (by omega), List.drop_of_length_le (Nat.le_refl _)] at hfe
          have hfe : true = fitS ns root (nd ns i).kids.tail ([1] : List Int) := hfe
          rw [← hfe] at hk
          conv => whnf
          exact hr _ _ rfl hk
      · have h8 : (nd ns i).tx = [] := h8
        rw [beq_iff_eq.2 h8, Bool.true_or, Bool.and_true] at hk
        conv => whnf
        refine loop_up (ι := Nat) [2, 5, 9] (fun j => [(11, intV j)]) (fun _ => [(2, .arr 3 1 0 1 fun _ => [intV 1])]) (fun j => j ≤ List.length ([1] : List Int) ∧ fitS ns root ((nd ns i).kids.tail.drop j) (List.drop j ([1] : List Int)) = fitS ns root (nd ns i).kids.tail ([1] : List Int)) (fun j => List.length ([1] : List Int) - j) 0 ⟨AV.le_refl _, trivial⟩ (⟨upLe1 rfl (ABlk.arr_eq rfl fun i hi => by obtain rfl : i = 0 := (by omega); rfl), trivial⟩) ⟨Nat.zero_le _, by simp⟩ ?_
        rintro Y hle j ⟨hj, hfe⟩ ih
        conv => whnf
        refine two_dec (fun h9 => ?_) (fun h9 => ?_)
        · have h9 : j < List.length ([1] : List Int) := by have h9 : (j : Int) < (List.length ([1] : List Int) : Int) := h9; omega
          have h9' : (j : Int) < (List.length ([1] : List Int) : Int) := by omega
          have eg : List.getD ([1] : List Int) j 0 = 1 := by (obtain rfl : j = 0 := by (have h9 : j < 1 := h9; omega)); rfl
          have hw1 := wzz (i := j) (by omega)
          have hw1' : IntKind.i64.wrap ((j : Int) + 1) = ((j + 1 : Nat) : Int) := hw1
          have hj1 : j + 1 < (nd ns i).kids.length := by omega
          have hx0 : 0 ≤ IntKind.i64.wrap ((j : Int) + 1) := by rw [hw1]; omega
          have hx1 : IntKind.i64.wrap ((j : Int) + 1) < ((nd ns i).kids.length : Int) := by rw [hw1]; omega
          have hqj := hin _ (getD_mem hj1)
          rw [fit_drop h9 htl] at hfe
          have etl : (nd ns i).kids.tail.getD j 0 = (nd ns i).kids.getD (j + 1) 0 := by cases (nd ns i).kids <;> rfl
          rw [etl] at hfe
          obtain ⟨ty, hty⟩ : ∃ ty, tyS ns root ((nd ns i).kids.getD (j + 1) 0).toNat = ty := ⟨_, rfl⟩
          rw [hty] at hfe
          have hqe : (nd ns i).kids.getD (IntKind.i64.wrap ((j : Int) + 1)).toNat 0 = ((((nd ns i).kids.getD (j + 1) 0).toNat : Nat) : Int) := by rw [hw1, Int.toNat_natCast]; omega
          conv => whnf
          refine ⟨⟨hx0, hx1, rfl⟩, ?_⟩
          conv => whnf
          (refine ⟨⟨rfl, rfl, by omega, h9', rfl⟩, ?_⟩; (conv => whnf); refine ⟨⟨rfl, rfl⟩, ?_⟩; (conv => whnf))
          refine ⟨ns, root, _, ((nd ns i).kids.getD (j + 1) 0).toNat, ty, rfl, hqe, rt, by omega, hty, ?_⟩
          conv => whnf
          repeat ((refine And.intro ?_ ?_); (focus ((conv => whnf); first | done | exact ⟨⟨by omega, h9', rfl⟩, by conv => whnf⟩ | exact ⟨⟨hx0, hx1, rfl⟩, by conv => whnf⟩ | exact ⟨⟨rfl, rfl, by omega, h9', rfl⟩, by conv => whnf⟩ | exact ⟨⟨rfl, rfl⟩, by conv => whnf⟩)); (conv => whnf))
          refine two_ne (fun h10 => ?_) (fun h10 => ?_)
          · have h10 : ty ≠ List.getD ([1] : List Int) j 0 := (fun h => by rw [eg]; exact h) h10
            rw [beq_eq_false_iff_ne.2 h10, Bool.false_and] at hfe
            rw [← hfe] at hk
            conv => whnf
            exact hr _ _ rfl hk
          · have h10 : ty = List.getD ([1] : List Int) j 0 := (fun h => by rw [eg]; exact h) h10
            rw [beq_iff_eq.2 h10, Bool.true_and] at hfe
            conv => whnf
            refine hle _ _ (Le.env ?_ ?_) (ih (j + 1) (by omega) ⟨by omega, hfe⟩)
            · skip
              repeat' (first | exact trivial | ((conv => whnf); first | exact trivial | (refine And.intro (AV.le_refl _) ?_) | (refine And.intro (ABlk.le_refl _) ?_) | (refine And.intro (AV.le_of_eq ?_) ?_; (focus ((first | exact congrArg intV hw1 | fail); done))) | (refine And.intro (ABlk.le_of_eq ?_) ?_; (focus ((first | exact congrArg intV hw1 | fail); done))) | fail) | fail)
            · skip
              repeat' (first | exact trivial | ((conv => whnf); first | exact trivial | (refine And.intro (AV.le_refl _) ?_) | (refine And.intro (ABlk.le_refl _) ?_) | (refine And.intro (AV.le_of_eq ?_) ?_; (focus ((first | fail | fail); done))) | (refine And.intro (ABlk.le_of_eq ?_) ?_; (focus ((first | fail | fail); done))) | fail) | fail)
        · obtain rfl : j = List.length ([1] : List Int) := by have h9 : ¬ (j : Int) < (List.length ([1] : List Int) : Int) := h9; omega
          rw [List.drop_of_length_le (by omega), List.drop_of_length_le (Nat.le_refl _)] at hfe
          have hfe : true = fitS ns root (nd ns i).kids.tail ([1] : List Int) := hfe
          rw [← hfe] at hk
          conv => whnf
          exact hr _ _ rfl hk
    · have h3 : (nd ns i).tx = [] := h3
      rw [if_neg (by rintro (⟨e1, _⟩ | ⟨e1, e2⟩); omega; exact e1 h3), if_neg (by omega : ¬ d = -1)] at hk
      conv => whnf
      refine two_dec (fun h => absurd h hd1) (fun _ => ?_)
      conv => whnf
      refine ⟨⟨by omega, by omega, rfl⟩, ?_⟩
      conv => whnf
      refine two_ne (fun h5 => ?_) (fun h5 => ?_)
      · have h5 : (nd ns d.toNat).n ≠ 4 := h5
        rw [if_pos h5] at hk
        conv => whnf
        exact hr _ _ rfl hk
      have h5 : (nd ns d.toNat).n = 4 := h5
      rw [if_neg (fun e => e h5)] at hk
      have hk : k (.ret (intV (toldS (fitS ns root (nd ns i).kids.tail [1] && ((nd ns i).tx == [] || ((1 : Int) != 0 && kd == 1)))))) K := hk
      have hlb : List.length ([1] : List Int) < 100000 := by decide
      conv => whnf
      refine two_ne (fun h7 => ?_) (fun h7 => ?_)
      · have h7 : ((nd ns i).kids.length : Int) ≠ IntKind.i64.wrap ((List.length ([1] : List Int) : Int) + 1) := h7
        have hf : fitS ns root (nd ns i).kids.tail ([1] : List Int) = false := by
          rw [← Bool.not_eq_true]; intro e; have := fit_len _ _ e; rw [List.length_tail] at this; exact h7 (by rw [wzz (by omega)]; omega)
        rw [hf] at hk
        conv => whnf
        exact hr _ _ rfl hk
      have h7 : (nd ns i).kids.length = List.length ([1] : List Int) + 1 := by
        have h7 : ((nd ns i).kids.length : Int) = IntKind.i64.wrap ((List.length ([1] : List Int) : Int) + 1) := h7
        rw [wzz (by omega)] at h7; omega
      have htl : (nd ns i).kids.tail.length = List.length ([1] : List Int) := by rw [List.length_tail]; omega
      conv => whnf
      refine two_ne (fun h8 => ?_) (fun h8 => ?_)
      · have h8 : (nd ns i).tx ≠ [] := h8
        rw [beq_eq_false_iff_ne.2 h8, Bool.false_or] at hk
        rw [show ((1 : Int) != 0) = true from rfl, Bool.true_and] at hk
        conv => whnf
        refine ⟨ns, root, _, i, _, kd, rfl, rfl, rt, hi, hkd2, ?_⟩
        conv => whnf
        refine two_ne (fun h12 => ?_) (fun h12 => ?_)
        · have h12 : kd ≠ (1 : Int) := h12
          rw [beq_eq_false_iff_ne.2 h12, Bool.and_false] at hk
          conv => whnf
          exact hr _ _ rfl hk
        have h12 : kd = (1 : Int) := h12
        rw [beq_iff_eq.2 h12, Bool.and_true] at hk
        conv => whnf
        refine loop_up (ι := Nat) [2, 5, 9] (fun j => [(11, intV j)]) (fun _ => [(2, .arr 3 1 0 1 fun _ => [intV 1])]) (fun j => j ≤ List.length ([1] : List Int) ∧ fitS ns root ((nd ns i).kids.tail.drop j) (List.drop j ([1] : List Int)) = fitS ns root (nd ns i).kids.tail ([1] : List Int)) (fun j => List.length ([1] : List Int) - j) 0 ⟨AV.le_refl _, trivial⟩ (⟨upLe1 rfl (ABlk.arr_eq rfl fun i hi => by obtain rfl : i = 0 := (by omega); rfl), trivial⟩) ⟨Nat.zero_le _, by simp⟩ ?_
        rintro Y hle j ⟨hj, hfe⟩ ih
        conv => whnf
        refine two_dec (fun h9 => ?_) (fun h9 => ?_)
        · have h9 : j < List.length ([1] : List Int) := by have h9 : (j : Int) < (List.length ([1] : List Int) : Int) := h9; omega
          have h9' : (j : Int) < (List.length ([1] : List Int) : Int) := by omega
          have eg : List.getD ([1] : List Int) j 0 = 1 := by (obtain rfl : j = 0 := by (have h9 : j < 1 := h9; omega)); rfl
          have hw1 := wzz (i := j) (by omega)
          have hw1' : IntKind.i64.wrap ((j : Int) + 1) = ((j + 1 : Nat) : Int) := hw1
          have hj1 : j + 1 < (nd ns i).kids.length := by omega
          have hx0 : 0 ≤ IntKind.i64.wrap ((j : Int) + 1) := by rw [hw1]; omega
          have hx1 : IntKind.i64.wrap ((j : Int) + 1) < ((nd ns i).kids.length : Int) := by rw [hw1]; omega
          have hqj := hin _ (getD_mem hj1)
          rw [fit_drop h9 htl] at hfe
          have etl : (nd ns i).kids.tail.getD j 0 = (nd ns i).kids.getD (j + 1) 0 := by cases (nd ns i).kids <;> rfl
          rw [etl] at hfe
          obtain ⟨ty, hty⟩ : ∃ ty, tyS ns root ((nd ns i).kids.getD (j + 1) 0).toNat = ty := ⟨_, rfl⟩
          rw [hty] at hfe
          have hqe : (nd ns i).kids.getD (IntKind.i64.wrap ((j : Int) + 1)).toNat 0 = ((((nd ns i).kids.getD (j + 1) 0).toNat : Nat) : Int) := by rw [hw1, Int.toNat_natCast]; omega
          conv => whnf
          refine ⟨⟨hx0, hx1, rfl⟩, ?_⟩
          conv => whnf
          (refine ⟨⟨rfl, rfl, by omega, h9', rfl⟩, ?_⟩; (conv => whnf); refine ⟨⟨rfl, rfl⟩, ?_⟩; (conv => whnf))
          refine ⟨ns, root, _, ((nd ns i).kids.getD (j + 1) 0).toNat, ty, rfl, hqe, rt, by omega, hty, ?_⟩
          conv => whnf
          repeat ((refine And.intro ?_ ?_); (focus ((conv => whnf); first | done | exact ⟨⟨by omega, h9', rfl⟩, by conv => whnf⟩ | exact ⟨⟨hx0, hx1, rfl⟩, by conv => whnf⟩ | exact ⟨⟨rfl, rfl, by omega, h9', rfl⟩, by conv => whnf⟩ | exact ⟨⟨rfl, rfl⟩, by conv => whnf⟩)); (conv => whnf))
          refine two_ne (fun h10 => ?_) (fun h10 => ?_)
          · have h10 : ty ≠ List.getD ([1] : List Int) j 0 := (fun h => by rw [eg]; exact h) h10
            rw [beq_eq_false_iff_ne.2 h10, Bool.false_and] at hfe
            rw [← hfe] at hk
            conv => whnf
            exact hr _ _ rfl hk
          · have h10 : ty = List.getD ([1] : List Int) j 0 := (fun h => by rw [eg]; exact h) h10
            rw [beq_iff_eq.2 h10, Bool.true_and] at hfe
            conv => whnf
            refine hle _ _ (Le.env ?_ ?_) (ih (j + 1) (by omega) ⟨by omega, hfe⟩)
            · skip
              repeat' (first | exact trivial | ((conv => whnf); first | exact trivial | (refine And.intro (AV.le_refl _) ?_) | (refine And.intro (ABlk.le_refl _) ?_) | (refine And.intro (AV.le_of_eq ?_) ?_; (focus ((first | exact congrArg intV hw1 | fail); done))) | (refine And.intro (ABlk.le_of_eq ?_) ?_; (focus ((first | exact congrArg intV hw1 | fail); done))) | fail) | fail)
            · skip
              repeat' (first | exact trivial | ((conv => whnf); first | exact trivial | (refine And.intro (AV.le_refl _) ?_) | (refine And.intro (ABlk.le_refl _) ?_) | (refine And.intro (AV.le_of_eq ?_) ?_; (focus ((first | fail | fail); done))) | (refine And.intro (ABlk.le_of_eq ?_) ?_; (focus ((first | fail | fail); done))) | fail) | fail)
        · obtain rfl : j = List.length ([1] : List Int) := by have h9 : ¬ (j : Int) < (List.length ([1] : List Int) : Int) := h9; omega
          rw [List.drop_of_length_le (by omega), List.drop_of_length_le (Nat.le_refl _)] at hfe
          have hfe : true = fitS ns root (nd ns i).kids.tail ([1] : List Int) := hfe
          rw [← hfe] at hk
          conv => whnf
          exact hr _ _ rfl hk
      · have h8 : (nd ns i).tx = [] := h8
        rw [beq_iff_eq.2 h8, Bool.true_or, Bool.and_true] at hk
        conv => whnf
        refine loop_up (ι := Nat) [2, 5, 9] (fun j => [(11, intV j)]) (fun _ => [(2, .arr 3 1 0 1 fun _ => [intV 1])]) (fun j => j ≤ List.length ([1] : List Int) ∧ fitS ns root ((nd ns i).kids.tail.drop j) (List.drop j ([1] : List Int)) = fitS ns root (nd ns i).kids.tail ([1] : List Int)) (fun j => List.length ([1] : List Int) - j) 0 ⟨AV.le_refl _, trivial⟩ (⟨upLe1 rfl (ABlk.arr_eq rfl fun i hi => by obtain rfl : i = 0 := (by omega); rfl), trivial⟩) ⟨Nat.zero_le _, by simp⟩ ?_
        rintro Y hle j ⟨hj, hfe⟩ ih
        conv => whnf
        refine two_dec (fun h9 => ?_) (fun h9 => ?_)
        · have h9 : j < List.length ([1] : List Int) := by have h9 : (j : Int) < (List.length ([1] : List Int) : Int) := h9; omega
          have h9' : (j : Int) < (List.length ([1] : List Int) : Int) := by omega
          have eg : List.getD ([1] : List Int) j 0 = 1 := by (obtain rfl : j = 0 := by (have h9 : j < 1 := h9; omega)); rfl
          have hw1 := wzz (i := j) (by omega)
          have hw1' : IntKind.i64.wrap ((j : Int) + 1) = ((j + 1 : Nat) : Int) := hw1
          have hj1 : j + 1 < (nd ns i).kids.length := by omega
          have hx0 : 0 ≤ IntKind.i64.wrap ((j : Int) + 1) := by rw [hw1]; omega
          have hx1 : IntKind.i64.wrap ((j : Int) + 1) < ((nd ns i).kids.length : Int) := by rw [hw1]; omega
          have hqj := hin _ (getD_mem hj1)
          rw [fit_drop h9 htl] at hfe
          have etl : (nd ns i).kids.tail.getD j 0 = (nd ns i).kids.getD (j + 1) 0 := by cases (nd ns i).kids <;> rfl
          rw [etl] at hfe
          obtain ⟨ty, hty⟩ : ∃ ty, tyS ns root ((nd ns i).kids.getD (j + 1) 0).toNat = ty := ⟨_, rfl⟩
          rw [hty] at hfe
          have hqe : (nd ns i).kids.getD (IntKind.i64.wrap ((j : Int) + 1)).toNat 0 = ((((nd ns i).kids.getD (j + 1) 0).toNat : Nat) : Int) := by rw [hw1, Int.toNat_natCast]; omega
          conv => whnf
          refine ⟨⟨hx0, hx1, rfl⟩, ?_⟩
          conv => whnf
          (refine ⟨⟨rfl, rfl, by omega, h9', rfl⟩, ?_⟩; (conv => whnf); refine ⟨⟨rfl, rfl⟩, ?_⟩; (conv => whnf))
          refine ⟨ns, root, _, ((nd ns i).kids.getD (j + 1) 0).toNat, ty, rfl, hqe, rt, by omega, hty, ?_⟩
          conv => whnf
          repeat ((refine And.intro ?_ ?_); (focus ((conv => whnf); first | done | exact ⟨⟨by omega, h9', rfl⟩, by conv => whnf⟩ | exact ⟨⟨hx0, hx1, rfl⟩, by conv => whnf⟩ | exact ⟨⟨rfl, rfl, by omega, h9', rfl⟩, by conv => whnf⟩ | exact ⟨⟨rfl, rfl⟩, by conv => whnf⟩)); (conv => whnf))
          refine two_ne (fun h10 => ?_) (fun h10 => ?_)
          · have h10 : ty ≠ List.getD ([1] : List Int) j 0 := (fun h => by rw [eg]; exact h) h10
            rw [beq_eq_false_iff_ne.2 h10, Bool.false_and] at hfe
            rw [← hfe] at hk
            conv => whnf
            exact hr _ _ rfl hk
          · have h10 : ty = List.getD ([1] : List Int) j 0 := (fun h => by rw [eg]; exact h) h10
            rw [beq_iff_eq.2 h10, Bool.true_and] at hfe
            conv => whnf
            refine hle _ _ (Le.env ?_ ?_) (ih (j + 1) (by omega) ⟨by omega, hfe⟩)
            · skip
              repeat' (first | exact trivial | ((conv => whnf); first | exact trivial | (refine And.intro (AV.le_refl _) ?_) | (refine And.intro (ABlk.le_refl _) ?_) | (refine And.intro (AV.le_of_eq ?_) ?_; (focus ((first | exact congrArg intV hw1 | fail); done))) | (refine And.intro (ABlk.le_of_eq ?_) ?_; (focus ((first | exact congrArg intV hw1 | fail); done))) | fail) | fail)
            · skip
              repeat' (first | exact trivial | ((conv => whnf); first | exact trivial | (refine And.intro (AV.le_refl _) ?_) | (refine And.intro (ABlk.le_refl _) ?_) | (refine And.intro (AV.le_of_eq ?_) ?_; (focus ((first | fail | fail); done))) | (refine And.intro (ABlk.le_of_eq ?_) ?_; (focus ((first | fail | fail); done))) | fail) | fail)
        · obtain rfl : j = List.length ([1] : List Int) := by have h9 : ¬ (j : Int) < (List.length ([1] : List Int) : Int) := h9; omega
          rw [List.drop_of_length_le (by omega), List.drop_of_length_le (Nat.le_refl _)] at hfe
          have hfe : true = fitS ns root (nd ns i).kids.tail ([1] : List Int) := hfe
          rw [← hfe] at hk
          conv => whnf
          exact hr _ _ rfl hk
end Go.Proofs.YtojjkleplnijaaaGreatDoor

namespace Go.Ru
section
variable {ns : List Nd} {root : Int} {i : Nat}
theorem wr2 (h : (nd ns i).k = 2) : wrongR ns root i = if twiceR ns root i then 4 else 0 := by simp [wrongR, h]
theorem wr3 (h : (nd ns i).k = 3) : wrongR ns root i = if twiceR ns root i then 4 else 0 := by simp [wrongR, h]
theorem wr4 (h : (nd ns i).k = 4) : wrongR ns root i = if twiceR ns root i then 4 else 0 := by simp [wrongR, h]
theorem wr5 (h : (nd ns i).k = 5) : wrongR ns root i = if twiceR ns root i then 4 else 0 := by simp [wrongR, h]
theorem wr22 (h : (nd ns i).k = 22) : wrongR ns root i = namedR ns root i 0 true := by simp [wrongR, h]
theorem wr23 (h : (nd ns i).k = 23) : wrongR ns root i = namedR ns root i 3 (allS ns root (nd ns i).kids 1) := by simp [wrongR, h]
theorem wr8 (h : (nd ns i).k = 8) : wrongR ns root i = namedR ns root i 3 (allS ns root (nd ns i).kids 1) := by simp [wrongR, h]
theorem wr17 (h : (nd ns i).k = 17) : wrongR ns root i = namedR ns root i 3 (allS ns root (nd ns i).kids 1) := by simp [wrongR, h]
theorem wr24 (h : (nd ns i).k = 24) : wrongR ns root i = namedR ns root i 3 true := by simp [wrongR, h]
theorem wr9 (h : (nd ns i).k = 9) : wrongR ns root i = namedR ns root i 1 true := by simp [wrongR, h]
theorem wr16 (h : (nd ns i).k = 16) : wrongR ns root i = namedR ns root i 1 true := by simp [wrongR, h]
theorem wr25 (h : (nd ns i).k = 25) : wrongR ns root i = if procI ns (nd ns i).tx < 0 then 3 else toldS (tplainS ns (procI ns (nd ns i).tx).toNat) := by simp [wrongR, h]
theorem wr26 (h : (nd ns i).k = 26) : wrongR ns root i = toldS (operR ns root (nd ns i)) := by simp [wrongR, h]
theorem wr27 (h : (nd ns i).k = 27) : wrongR ns root i = toldS (operR ns root (nd ns i)) := by simp [wrongR, h]
theorem wr7 (h : (nd ns i).k = 7) : wrongR ns root i = namedR ns root i (tyS ns root ((nd ns i).kids.getD 0 0).toNat) true := by simp [wrongR, h]
theorem wr10 (h : (nd ns i).k = 10) : wrongR ns root i = toldS (tyS ns root ((nd ns i).kids.getD 1 0).toNat == 1) := by simp [wrongR, h]
theorem wr15 (h : (nd ns i).k = 15) : wrongR ns root i = toldS (tyS ns root ((nd ns i).kids.getD 0 0).toNat == 1) := by simp [wrongR, h]
theorem wr11 (h : (nd ns i).k = 11) : wrongR ns root i = toldS (tyS ns root ((nd ns i).kids.getD 0 0).toNat == 2) := by simp [wrongR, h]
theorem wr12 (h : (nd ns i).k = 12) : wrongR ns root i = toldS (tyS ns root ((nd ns i).kids.getD 0 0).toNat == 2) := by simp [wrongR, h]
theorem wr13 (h : (nd ns i).k = 13) : wrongR ns root i = tcallS ns root i (nd ns i) := by simp [wrongR, h]
theorem wr14 (h : (nd ns i).k = 14) : wrongR ns root i = toldS (retR ns root (nd ns i) (nd ns (own ns root i).toNat).n) := by simp [wrongR, h]
theorem wrD (h2 : (nd ns i).k ≠ 2) (h3 : (nd ns i).k ≠ 3) (h4 : (nd ns i).k ≠ 4) (h5 : (nd ns i).k ≠ 5) (h22 : (nd ns i).k ≠ 22) (h23 : (nd ns i).k ≠ 23) (h8 : (nd ns i).k ≠ 8) (h17 : (nd ns i).k ≠ 17) (h24 : (nd ns i).k ≠ 24) (h9 : (nd ns i).k ≠ 9) (h16 : (nd ns i).k ≠ 16) (h25 : (nd ns i).k ≠ 25) (h26 : (nd ns i).k ≠ 26) (h27 : (nd ns i).k ≠ 27) (h7 : (nd ns i).k ≠ 7) (h10 : (nd ns i).k ≠ 10) (h15 : (nd ns i).k ≠ 15) (h11 : (nd ns i).k ≠ 11) (h12 : (nd ns i).k ≠ 12) (h13 : (nd ns i).k ≠ 13) (h14 : (nd ns i).k ≠ 14) : wrongR ns root i = 0 := by simp [wrongR, h2, h3, h4, h5, h22, h23, h8, h17, h24, h9, h16, h25, h26, h27, h7, h10, h15, h11, h12, h13, h14]
end
end Go.Ru

namespace Go.Proofs.YtojjkleplnijaaaGreatDoor
open Go.AE Go.Ru
set_option maxRecDepth 100000
set_option maxHeartbeats 1000000
def gRw7 : AG := gput 107 cRtwice (gput 108 cRnamed (gput 51 cRof (gput 58 cRplain (gput 109 cRtold (gput 110 cRoper (gput 60 cRtyped (gput 111 cRcall (gput 54 cRown g0))))))))
theorem gRw7_ok : GOk Tryz.prog gRw7 := gput_ok rtwice_ok (gput_ok rnamed_ok (gput_ok rof_ok (gput_ok rplain_ok (gput_ok rtold_ok (gput_ok roper_ok (gput_ok rtyped_ok (gput_ok rcall_ok (gput_ok rown_ok g0_ok))))))))
def cRwrong : AC := fun args K k => ∃ ns root i' i v, args = [treeV ns root, intV i'] ∧ i' = ((i : Nat) : Int) ∧ RightT ns root ∧ i < ns.length ∧ wrongR ns root i = v ∧ k (.ret (intV v)) K
theorem rwrong_ok : COk 50 cRwrong := by
  rintro args K k ⟨ns, root, _, i, v, rfl, rfl, rt, hi, rfl, hk⟩
  have hlen := rt.len
  have hmany := rt.many i hi
  have hin := rt.inr hi
  have hrl := rt.rlt
  have hrt := rt.rt
  have hrn : root = (root.toNat : Int) := by omega
  have len2 : ((nd ns i).k = 10 ∨ (nd ns i).k = 12) → (1 : Int) < ((nd ns i).kids.length : Int) := fun h => by
    obtain ⟨q, r, e⟩ := kids_two rt hi (by omega); rw [e]; exact (by decide : (1 : Int) < 2)
  have len1 : ((nd ns i).k = 7 ∨ (nd ns i).k = 15 ∨ (nd ns i).k = 11 ∨ (nd ns i).k = 12) → (0 : Int) < ((nd ns i).kids.length : Int) := fun h => by
    rcases h with h | h | h | h
    · obtain ⟨q, e, _⟩ := kids_one rt hi (.inl h); rw [e]; exact (by decide : (0 : Int) < 1)
    · obtain ⟨q, e, _⟩ := kids_one rt hi (.inr (.inr (.inl h))); rw [e]; exact (by decide : (0 : Int) < 1)
    · obtain ⟨q, r, s, e⟩ := kids_if rt hi h; rw [e]; exact (by decide : (0 : Int) < 3)
    · have := len2 (.inr h); omega
  obtain ⟨b, hb⟩ : ∃ b, twiceR ns root i = b := ⟨_, rfl⟩
  obtain ⟨bo, hbo⟩ : ∃ b, operR ns root (nd ns i) = b := ⟨_, rfl⟩
  obtain ⟨p, hp⟩ : ∃ p, procI ns (nd ns i).tx = p := ⟨_, rfl⟩
  obtain ⟨o, ho⟩ : ∃ o, own ns root i = o := ⟨_, rfl⟩
  obtain ⟨t0, ht0⟩ : ∃ t, tyS ns root ((nd ns i).kids.getD 0 0).toNat = t := ⟨_, rfl⟩
  obtain ⟨t1, ht1⟩ : ∃ t, tyS ns root ((nd ns i).kids.getD 1 0).toNat = t := ⟨_, rfl⟩
  refine frame0P gRw7_ok 19 rfl fun Q hr => ?_
  conv => whnf
  refine ⟨⟨by omega, by omega, rfl⟩, ?_⟩
  conv => whnf
  refine two_eq (fun h => ?_) (fun h => ?_)
  · have h : (nd ns i).k = 2 := h
    clear len1 len2
    rw [wr2 h, hb] at hk
    conv => whnf
    refine ⟨ns, root, _, i, b, rfl, rfl, rt, hi, hb, ?_⟩
    cases b with
    | true =>
      conv => whnf
      exact hr _ _ rfl hk
    | false =>
      conv => whnf
      exact hr _ _ rfl hk
  have n2 : (nd ns i).k ≠ 2 := h
  conv => whnf
  refine two_eq (fun h => ?_) (fun h => ?_)
  · have h : (nd ns i).k = 3 := h
    clear len1 len2
    clear n2
    rw [wr3 h, hb] at hk
    conv => whnf
    refine ⟨ns, root, _, i, b, rfl, rfl, rt, hi, hb, ?_⟩
    cases b with
    | true =>
      conv => whnf
      exact hr _ _ rfl hk
    | false =>
      conv => whnf
      exact hr _ _ rfl hk
  have n3 : (nd ns i).k ≠ 3 := h
  conv => whnf
  refine two_eq (fun h => ?_) (fun h => ?_)
  · have h : (nd ns i).k = 4 := h
    clear len1 len2
    clear n2 n3
    rw [wr4 h, hb] at hk
    conv => whnf
    refine ⟨ns, root, _, i, b, rfl, rfl, rt, hi, hb, ?_⟩
    cases b with
    | true =>
      conv => whnf
      exact hr _ _ rfl hk
    | false =>
      conv => whnf
      exact hr _ _ rfl hk
  have n4 : (nd ns i).k ≠ 4 := h
  conv => whnf
  refine two_eq (fun h => ?_) (fun h => ?_)
  · have h : (nd ns i).k = 5 := h
    clear len1 len2
    clear n2 n3 n4
    rw [wr5 h, hb] at hk
    conv => whnf
    refine ⟨ns, root, _, i, b, rfl, rfl, rt, hi, hb, ?_⟩
    cases b with
    | true =>
      conv => whnf
      exact hr _ _ rfl hk
    | false =>
      conv => whnf
      exact hr _ _ rfl hk
  have n5 : (nd ns i).k ≠ 5 := h
  conv => whnf
  refine two_eq (fun h => ?_) (fun h => ?_)
  · have h : (nd ns i).k = 22 := h
    clear len1 len2
    clear n2 n3 n4 n5
    rw [wr22 h] at hk
    conv => whnf
    refine ⟨ns, root, _, i, 0, 0, true, _, rfl, rfl, rt, hi, .inl ⟨rfl, rfl⟩, rfl, ?_⟩
    conv => whnf
    exact hr _ _ rfl hk
  have n22 : (nd ns i).k ≠ 22 := h
  conv => whnf
  refine two_eq (fun h => ?_) (fun h => ?_)
  · have h : (nd ns i).k = 23 := h
    clear len1 len2
    clear n2 n3 n4 n5 n22
    rw [wr23 h] at hk
    conv => whnf
    refine ⟨ns, root, _, i, 3, 1, (allS ns root (nd ns i).kids 1), _, rfl, rfl, rt, hi, .inr ⟨by decide, rfl⟩, rfl, ?_⟩
    conv => whnf
    exact hr _ _ rfl hk
  have n23 : (nd ns i).k ≠ 23 := h
  conv => whnf
  refine two_eq (fun h => ?_) (fun h => ?_)
  · have h : (nd ns i).k = 8 := h
    clear len1 len2
    clear n2 n3 n4 n5 n22 n23
    rw [wr8 h] at hk
    conv => whnf
    refine ⟨ns, root, _, i, 3, 1, (allS ns root (nd ns i).kids 1), _, rfl, rfl, rt, hi, .inr ⟨by decide, rfl⟩, rfl, ?_⟩
    conv => whnf
    exact hr _ _ rfl hk
  have n8 : (nd ns i).k ≠ 8 := h
  conv => whnf
  refine two_eq (fun h => ?_) (fun h => ?_)
  · have h : (nd ns i).k = 17 := h
    clear len1 len2
    clear n2 n3 n4 n5 n22 n23 n8
    rw [wr17 h] at hk
    conv => whnf
    refine ⟨ns, root, _, i, 3, 1, (allS ns root (nd ns i).kids 1), _, rfl, rfl, rt, hi, .inr ⟨by decide, rfl⟩, rfl, ?_⟩
    conv => whnf
    exact hr _ _ rfl hk
  have n17 : (nd ns i).k ≠ 17 := h
  conv => whnf
  refine two_eq (fun h => ?_) (fun h => ?_)
  · have h : (nd ns i).k = 24 := h
    clear len1 len2
    clear n2 n3 n4 n5 n22 n23 n8 n17
    rw [wr24 h] at hk
    conv => whnf
    refine ⟨ns, root, _, i, 3, 0, true, _, rfl, rfl, rt, hi, .inl ⟨rfl, rfl⟩, rfl, ?_⟩
    conv => whnf
    exact hr _ _ rfl hk
  have n24 : (nd ns i).k ≠ 24 := h
  conv => whnf
  refine two_eq (fun h => ?_) (fun h => ?_)
  · have h : (nd ns i).k = 9 := h
    clear len1 len2
    clear n2 n3 n4 n5 n22 n23 n8 n17 n24
    rw [wr9 h] at hk
    conv => whnf
    refine ⟨ns, root, _, i, 1, 0, true, _, rfl, rfl, rt, hi, .inl ⟨rfl, rfl⟩, rfl, ?_⟩
    conv => whnf
    exact hr _ _ rfl hk
  have n9 : (nd ns i).k ≠ 9 := h
  conv => whnf
  refine two_eq (fun h => ?_) (fun h => ?_)
  · have h : (nd ns i).k = 16 := h
    clear len1 len2
    clear n2 n3 n4 n5 n22 n23 n8 n17 n24 n9
    rw [wr16 h] at hk
    conv => whnf
    refine ⟨ns, root, _, i, 1, 0, true, _, rfl, rfl, rt, hi, .inl ⟨rfl, rfl⟩, rfl, ?_⟩
    conv => whnf
    exact hr _ _ rfl hk
  have n16 : (nd ns i).k ≠ 16 := h
  conv => whnf
  refine two_eq (fun h => ?_) (fun h => ?_)
  · have h : (nd ns i).k = 25 := h
    clear len1 len2
    clear n2 n3 n4 n5 n22 n23 n8 n17 n24 n9 n16
    have hpr := procI_range ns (nd ns i).tx
    rw [hp] at hpr
    rw [wr25 h, hp] at hk
    conv => whnf
    refine ⟨ns, root, _, root.toNat, 3, 3, _, p, rfl, hrn, rt, hrl, (of_proc rt _).trans hp, ?_⟩
    conv => whnf
    refine two_dec (fun hp1 => ?_) (fun hp1 => ?_)
    · have hp1 : p < 0 := hp1
      rw [if_pos hp1] at hk
      conv => whnf
      exact hr _ _ rfl hk
    have hp1 : ¬ p < 0 := hp1
    rw [if_neg hp1] at hk
    conv => whnf
    refine ⟨ns, root, _, p.toNat, _, rfl, by omega, rt, by omega, rfl, ?_⟩
    conv => whnf
    refine ⟨_, rfl, ?_⟩
    conv => whnf
    exact hr _ _ rfl hk
  have n25 : (nd ns i).k ≠ 25 := h
  conv => whnf
  refine two_eq (fun h => ?_) (fun h => ?_)
  · have h : (nd ns i).k = 26 := h
    clear len1 len2
    clear n2 n3 n4 n5 n22 n23 n8 n17 n24 n9 n16 n25
    rw [wr26 h, hbo] at hk
    conv => whnf
    refine ⟨ns, root, i, bo, rfl, rt, hi, .inl h, hbo, ?_⟩
    conv => whnf
    refine ⟨bo, rfl, ?_⟩
    conv => whnf
    exact hr _ _ rfl hk
  have n26 : (nd ns i).k ≠ 26 := h
  conv => whnf
  refine two_eq (fun h => ?_) (fun h => ?_)
  · have h : (nd ns i).k = 27 := h
    clear len1 len2
    clear n2 n3 n4 n5 n22 n23 n8 n17 n24 n9 n16 n25 n26
    rw [wr27 h, hbo] at hk
    conv => whnf
    refine ⟨ns, root, i, bo, rfl, rt, hi, .inr h, hbo, ?_⟩
    conv => whnf
    refine ⟨bo, rfl, ?_⟩
    conv => whnf
    exact hr _ _ rfl hk
  have n27 : (nd ns i).k ≠ 27 := h
  conv => whnf
  refine two_eq (fun h => ?_) (fun h => ?_)
  · have h : (nd ns i).k = 7 := h
    clear n2 n3 n4 n5 n22 n23 n8 n17 n24 n9 n16 n25 n26 n27
    have hql := len1 (.inl h)
    try clear len1 len2
    have hqj := hin _ (getD_mem (l := (nd ns i).kids) (i := 0) (by omega))
    rw [wr7 h, ht0] at hk
    conv => whnf
    refine ⟨⟨by omega, hql, rfl⟩, ?_⟩
    conv => whnf
    refine ⟨ns, root, _, ((nd ns i).kids.getD 0 0).toNat, t0, rfl, (Int.toNat_of_nonneg hqj.1).symm, rt, by omega, ht0, ?_⟩
    conv => whnf
    repeat ((refine And.intro ?_ ?_); (focus ((conv => whnf); first | done | exact ⟨⟨by omega, by omega, rfl⟩, by conv => whnf⟩)); (conv => whnf))
    refine ⟨ns, root, _, i, t0, 0, true, _, rfl, rfl, rt, hi, .inl ⟨rfl, rfl⟩, rfl, ?_⟩
    conv => whnf
    exact hr _ _ rfl hk
  have n7 : (nd ns i).k ≠ 7 := h
  conv => whnf
  refine two_eq (fun h => ?_) (fun h => ?_)
  · have h : (nd ns i).k = 10 := h
    clear n2 n3 n4 n5 n22 n23 n8 n17 n24 n9 n16 n25 n26 n27 n7
    have hql := len2 (.inl h)
    try clear len1 len2
    have hqj := hin _ (getD_mem (l := (nd ns i).kids) (i := 1) (by omega))
    rw [wr10 h, ht1] at hk
    conv => whnf
    refine ⟨⟨by omega, hql, rfl⟩, ?_⟩
    conv => whnf
    refine ⟨ns, root, _, ((nd ns i).kids.getD 1 0).toNat, t1, rfl, (Int.toNat_of_nonneg hqj.1).symm, rt, by omega, ht1, ?_⟩
    conv => whnf
    repeat ((refine And.intro ?_ ?_); (focus ((conv => whnf); first | done | exact ⟨⟨by omega, by omega, rfl⟩, by conv => whnf⟩)); (conv => whnf))
    refine ⟨_, rfl, ?_⟩
    conv => whnf
    exact hr _ _ rfl hk
  have n10 : (nd ns i).k ≠ 10 := h
  conv => whnf
  refine two_eq (fun h => ?_) (fun h => ?_)
  · have h : (nd ns i).k = 15 := h
    clear n2 n3 n4 n5 n22 n23 n8 n17 n24 n9 n16 n25 n26 n27 n7 n10
    have hql := len1 (.inr (.inl h))
    try clear len1 len2
    have hqj := hin _ (getD_mem (l := (nd ns i).kids) (i := 0) (by omega))
    rw [wr15 h, ht0] at hk
    conv => whnf
    refine ⟨⟨by omega, hql, rfl⟩, ?_⟩
    conv => whnf
    refine ⟨ns, root, _, ((nd ns i).kids.getD 0 0).toNat, t0, rfl, (Int.toNat_of_nonneg hqj.1).symm, rt, by omega, ht0, ?_⟩
    conv => whnf
    repeat ((refine And.intro ?_ ?_); (focus ((conv => whnf); first | done | exact ⟨⟨by omega, by omega, rfl⟩, by conv => whnf⟩)); (conv => whnf))
    refine ⟨_, rfl, ?_⟩
    conv => whnf
    exact hr _ _ rfl hk
  have n15 : (nd ns i).k ≠ 15 := h
  conv => whnf
  refine two_eq (fun h => ?_) (fun h => ?_)
  · have h : (nd ns i).k = 11 := h
    clear n2 n3 n4 n5 n22 n23 n8 n17 n24 n9 n16 n25 n26 n27 n7 n10 n15
    have hql := len1 (.inr (.inr (.inl h)))
    try clear len1 len2
    have hqj := hin _ (getD_mem (l := (nd ns i).kids) (i := 0) (by omega))
    rw [wr11 h, ht0] at hk
    conv => whnf
    refine ⟨⟨by omega, hql, rfl⟩, ?_⟩
    conv => whnf
    refine ⟨ns, root, _, ((nd ns i).kids.getD 0 0).toNat, t0, rfl, (Int.toNat_of_nonneg hqj.1).symm, rt, by omega, ht0, ?_⟩
    conv => whnf
    repeat ((refine And.intro ?_ ?_); (focus ((conv => whnf); first | done | exact ⟨⟨by omega, by omega, rfl⟩, by conv => whnf⟩)); (conv => whnf))
    refine ⟨_, rfl, ?_⟩
    conv => whnf
    exact hr _ _ rfl hk
  have n11 : (nd ns i).k ≠ 11 := h
  conv => whnf
  refine two_eq (fun h => ?_) (fun h => ?_)
  · have h : (nd ns i).k = 12 := h
    clear n2 n3 n4 n5 n22 n23 n8 n17 n24 n9 n16 n25 n26 n27 n7 n10 n15 n11
    have hql := len1 (.inr (.inr (.inr h)))
    try clear len1 len2
    have hqj := hin _ (getD_mem (l := (nd ns i).kids) (i := 0) (by omega))
    rw [wr12 h, ht0] at hk
    conv => whnf
    refine ⟨⟨by omega, hql, rfl⟩, ?_⟩
    conv => whnf
    refine ⟨ns, root, _, ((nd ns i).kids.getD 0 0).toNat, t0, rfl, (Int.toNat_of_nonneg hqj.1).symm, rt, by omega, ht0, ?_⟩
    conv => whnf
    repeat ((refine And.intro ?_ ?_); (focus ((conv => whnf); first | done | exact ⟨⟨by omega, by omega, rfl⟩, by conv => whnf⟩)); (conv => whnf))
    refine ⟨_, rfl, ?_⟩
    conv => whnf
    exact hr _ _ rfl hk
  have n12 : (nd ns i).k ≠ 12 := h
  conv => whnf
  refine two_eq (fun h => ?_) (fun h => ?_)
  · have h : (nd ns i).k = 13 := h
    clear len1 len2
    clear n2 n3 n4 n5 n22 n23 n8 n17 n24 n9 n16 n25 n26 n27 n7 n10 n15 n11 n12
    rw [wr13 h] at hk
    conv => whnf
    refine ⟨ns, root, _, i, _, rfl, rfl, rt, hi, h, rfl, ?_⟩
    conv => whnf
    exact hr _ _ rfl hk
  have n13 : (nd ns i).k ≠ 13 := h
  conv => whnf
  refine two_eq (fun h => ?_) (fun h => ?_)
  · have h : (nd ns i).k = 14 := h
    clear len1 len2
    clear n2 n3 n4 n5 n22 n23 n8 n17 n24 n9 n16 n25 n26 n27 n7 n10 n15 n11 n12 n13
    have o12 := own_in rt hi (by omega)
    rw [ho] at o12
    have o1 := o12.1
    have o2 := o12.2
    rw [wr14 h, ho, retR] at hk
    conv => whnf
    refine ⟨ns, root, _, i, o, rfl, rfl, rt, hi, ho, ?_⟩
    conv => whnf
    repeat ((refine And.intro ?_ ?_); (focus ((conv => whnf); first | done | exact ⟨⟨by omega, by omega, rfl⟩, by conv => whnf⟩)); (conv => whnf))
    refine ⟨⟨o1, o2, rfl⟩, ?_⟩
    conv => whnf
    refine two_eq (fun h2 => ?_) (fun h2 => ?_)
    · have h2 : (nd ns i).kids.length = 0 := by have h2 : ((nd ns i).kids.length : Int) = 0 := h2; omega
      rw [if_pos h2] at hk
      conv => whnf
      refine ⟨_, rfl, ?_⟩
      conv => whnf
      exact hr _ _ rfl hk
    have h2 : (nd ns i).kids.length ≠ 0 := by have h2 : ((nd ns i).kids.length : Int) ≠ 0 := h2; omega
    rw [if_neg h2] at hk
    have hql := (show (0 : Int) < ((nd ns i).kids.length : Int) by omega)
    try clear len1 len2
    have hqj := hin _ (getD_mem (l := (nd ns i).kids) (i := 0) (by omega))
    rw [ht0] at hk
    conv => whnf
    refine two_ne (fun h3 => ?_) (fun h3 => ?_)
    · have h3 : (nd ns o.toNat).n ≠ 0 := h3
      rw [bne_iff_ne.2 h3, Bool.true_and] at hk
      conv => whnf
      refine ⟨⟨by omega, hql, rfl⟩, ?_⟩
      conv => whnf
      refine ⟨ns, root, _, ((nd ns i).kids.getD 0 0).toNat, t0, rfl, (Int.toNat_of_nonneg hqj.1).symm, rt, by omega, ht0, ?_⟩
      conv => whnf
      repeat ((refine And.intro ?_ ?_); (focus ((conv => whnf); first | done | exact ⟨⟨by omega, by omega, rfl⟩, by conv => whnf⟩)); (conv => whnf))
      refine ⟨_, rfl, ?_⟩
      conv => whnf
      exact hr _ _ rfl hk
    · have h3 : (nd ns o.toNat).n = 0 := h3
      rw [h3] at hk
      conv => whnf
      refine ⟨_, rfl, ?_⟩
      conv => whnf
      exact hr _ _ rfl hk
  have n14 : (nd ns i).k ≠ 14 := h
  rw [wrD n2 n3 n4 n5 n22 n23 n8 n17 n24 n9 n16 n25 n26 n27 n7 n10 n15 n11 n12 n13 n14] at hk
  conv => whnf
  exact hr _ _ rfl hk
end Go.Proofs.YtojjkleplnijaaaGreatDoor

namespace Go.Proofs.YtojjkleplnijaaaGreatDoor
open Go.AE Go.Ru
theorem small_kt {m : Nat} {ns : List Nd} (hm : m < 1000000) (h : smallS m ns = true) : Kt ns := by
  simp only [smallS, Bool.and_eq_true, decide_eq_true_eq, List.all_eq_true] at h
  refine ⟨by omega, fun i => ?_⟩
  by_cases hi : i < ns.length
  · have := (h.2 ns[i] (List.getElem_mem hi)).1
    show (ns.getD i default).kids.length < 1000000
    rw [List.getD_eq_getElem?_getD, List.getElem?_eq_getElem hi]
    simp only [Option.getD_some]; omega
  · rw [show nd ns i = default by simp [nd, Nat.le_of_not_lt hi]]
    exact (by decide : (default : Nd).kids.length < 1000000)
end Go.Proofs.YtojjkleplnijaaaGreatDoor

namespace Go.Proofs.YtojjkleplnijaaaGreatDoor
open Go.AE Go.Ru
set_option maxRecDepth 100000
set_option maxHeartbeats 1000000
def gRck : AG := gput 49 cRRight (gput 50 cRwrong (gput 51 cRof (gput 52 cRparams g0)))
theorem gRck_ok : GOk Tryz.prog gRck := gput_ok rright_ok (gput_ok rwrong_ok (gput_ok rof_ok (gput_ok rparams_ok g0_ok)))
def eRCheck : AC := fun args K k => ∃ ns root a e, args = [treeV ns root] ∧ Tame ns ∧ Kt ns ∧ checkTree ns root = (a, e) ∧ k (.ret (.tup [intV a, intV e])) K
theorem rcheck_ok : COk 10 eRCheck := by
  rintro args K k ⟨ns, root, a, e, rfl, ta, kt, hc, hk⟩
  refine frame0P gRck_ok 19 rfl fun Q hr => ?_
  unfold checkTree at hc
  cases h : rightS ns root with
  | false =>
    rw [h] at hc
    conv => whnf
    refine ⟨ns, root, _, rfl, kt, ta, h, ?_⟩
    obtain ⟨rfl, rfl⟩ : 0 = a ∧ 1 = e := Prod.mk.inj hc
    conv => whnf
    exact hr _ _ rfl hk
  | true =>
    rw [h] at hc
    simp only at hc
    have rt := right_of h
    have hlen := rt.len
    have hrl := rt.rlt
    have hrt := rt.rt
    conv => whnf
    refine ⟨ns, root, _, rfl, kt, ta, h, ?_⟩
    conv => whnf
    refine loop_up (ι := Nat) [1] (fun i => [(5, intV i)]) (fun _ => []) (fun i => i ≤ ns.length ∧ (∀ j, j < i → checkS ns root j = 0) ∧ wrongS ns root i (ns.length - i) = wrongS ns root 0 ns.length) (fun i => ns.length - i) 0 ⟨AV.le_refl _, trivial⟩ trivial ⟨Nat.zero_le _, fun j hj => absurd hj (Nat.not_lt_zero _), rfl⟩ ?_
    rintro Y hle i ⟨hi, hb, he⟩ ih
    conv => whnf
    refine two_dec (fun h2 => ?_) (fun h2 => ?_)
    · have h2 : i < ns.length := by have h2 : (i : Int) < (ns.length : Int) := h2; omega
      have hw1 := wzz (i := i) (by omega)
      obtain ⟨m, hm⟩ : ∃ m, ns.length - i = m + 1 := ⟨ns.length - i - 1, by omega⟩
      have hm' : ns.length - (i + 1) = m := by omega
      rw [hm] at he
      simp only [wrongS] at he
      have hwe := wrong_eq rt h2 hb
      obtain ⟨v, hv⟩ : ∃ v, checkS ns root i = v := ⟨_, rfl⟩
      rw [hv] at he hwe
      conv => whnf
      refine ⟨ns, root, _, i, v, rfl, rfl, rt, h2, hwe, ?_⟩
      conv => whnf
      refine two_ne (fun h3 => ?_) (fun h3 => ?_)
      · have h3 : v ≠ 0 := h3
        rw [beq_eq_false_iff_ne.2 h3] at he
        simp only at he
        rw [← he] at hc
        obtain ⟨rfl, rfl⟩ : (i : Int) = a ∧ v = e := Prod.mk.inj hc
        conv => whnf
        exact hr _ _ rfl hk
      · have h3 : v = 0 := h3
        rw [h3] at he
        have hb2 : ∀ j, j < i + 1 → checkS ns root j = 0 := fun j hj => by
          rcases Nat.lt_succ_iff_lt_or_eq.1 hj with e | rfl
          · exact hb j e
          · exact hv.trans h3
        conv => whnf
        refine hle _ _ (Le.env ?_ ?_) (ih (i + 1) (by omega) ⟨by omega, hb2, by rw [hm']; exact he⟩)
        · skip
          repeat' (first | exact trivial | ((conv => whnf); first | exact trivial | (refine And.intro (AV.le_refl _) ?_) | (refine And.intro (ABlk.le_refl _) ?_) | (refine And.intro (AV.le_of_eq ?_) ?_; (focus ((first | exact congrArg intV hw1 | fail); done))) | (refine And.intro (ABlk.le_of_eq ?_) ?_; (focus ((first | exact congrArg intV hw1 | fail); done))) | fail) | fail)
        · skip
          repeat' (first | exact trivial | ((conv => whnf); first | exact trivial | (refine And.intro (AV.le_refl _) ?_) | (refine And.intro (ABlk.le_refl _) ?_) | (refine And.intro (AV.le_of_eq ?_) ?_; (focus ((first | fail | fail); done))) | (refine And.intro (ABlk.le_of_eq ?_) ?_; (focus ((first | fail | fail); done))) | fail) | fail)
    · obtain rfl : i = ns.length := by have h2 : ¬ (i : Int) < (ns.length : Int) := h2; omega
      rw [Nat.sub_self] at he
      simp only [wrongS] at he
      rw [← he] at hc
      simp only at hc
      have hp := procI_range ns mainT
      have hop := of_proc rt mainT
      generalize procI ns mainT = p at hc hp hop
      conv => whnf
      refine ⟨ns, root, _, root.toNat, 3, 3, _, p, rfl, by omega, rt, hrl, hop, ?_⟩
      conv => whnf
      refine two_dec (fun h3 => ?_) (fun h3 => ?_)
      · have h3 : p = -1 := by have h3 : p < 0 := h3; omega
        subst h3
        obtain ⟨rfl, rfl⟩ : root = a ∧ 11 = e := Prod.mk.inj hc
        conv => whnf
        exact hr _ _ rfl hk
      have h3 : ¬ p < 0 := h3
      obtain ⟨q, rfl⟩ : ∃ q : Nat, p = (q : Int) := ⟨p.toNat, by omega⟩
      have hq : q < ns.length := by omega
      rw [beq_eq_false_iff_ne.2 (show (q : Int) ≠ -1 by omega), Bool.false_or] at hc
      conv => whnf
      refine ⟨⟨by omega, by omega, rfl⟩, ?_⟩
      conv => whnf
      refine two_ne (fun h4 => ?_) (fun h4 => ?_)
      · have h4 : (nd ns q).n ≠ 0 := h4
        rw [show ((nd ns ((q : Int)).toNat).n != 0) = true from bne_iff_ne.2 h4] at hc
        obtain ⟨rfl, rfl⟩ : root = a ∧ 11 = e := Prod.mk.inj hc
        conv => whnf
        exact hr _ _ rfl hk
      have h4 : (nd ns q).n = 0 := h4
      rw [show ((nd ns ((q : Int)).toNat).n != 0) = false from by simpa using h4, Bool.false_or] at hc
      obtain ⟨ps, hps⟩ : ∃ ps, paramsS ns q = ps := ⟨_, rfl⟩
      have hc : (match decide (0 < ps.length) with | true => (root, (11 : Int)) | false => (0, 0)) = (a, e) := by rw [← hps]; exact hc
      conv => whnf
      refine ⟨ns, root, _, q, ps, rfl, rfl, rt, hq, hps, ?_⟩
      conv => whnf
      refine two_dec (fun h5 => ?_) (fun h5 => ?_)
      · have h5 : 0 < ps.length := by have h5 : (ps.length : Int) > 0 := h5; omega
        rw [decide_eq_true h5] at hc
        obtain ⟨rfl, rfl⟩ : root = a ∧ 11 = e := Prod.mk.inj hc
        conv => whnf
        exact hr _ _ rfl hk
      · have h5 : ¬ 0 < ps.length := by have h5 : ¬ (ps.length : Int) > 0 := h5; omega
        rw [decide_eq_false h5] at hc
        obtain ⟨rfl, rfl⟩ : 0 = a ∧ 0 = e := Prod.mk.inj hc
        conv => whnf
        exact hr _ _ rfl hk
end Go.Proofs.YtojjkleplnijaaaGreatDoor

namespace Go.Proofs.YtojjkleplnijaaaGreatDoor
open Go.AE Go.Ru
set_option maxRecDepth 100000
set_option maxHeartbeats 1000000
def gTq : AG := gput 7 cShown7 (gput 8 (eSmall 400) (gput 9 eCheck (gput 10 eRCheck g0)))
theorem gTq_ok : GOk Tryz.prog gTq := gput_ok shown7_ok (gput_ok eSmall7_ok (gput_ok eCheck_ok (gput_ok rcheck_ok g0_ok)))
theorem tcheck_calls (ns : List Nd) (root : Int) (K : List ABlk) (k : AO → List ABlk → Prop) (hk : k (.ret (.p (.bool true))) K) : ACalls Tryz.prog 3 [treeV ns root] K k := by
  refine frame0P gTq_ok 19 rfl fun Q hr => ?_
  conv => whnf
  refine ⟨rfl, ?_⟩
  conv => whnf
  cases hs : smallS 400 ns with
  | false =>
    refine ⟨ns, root, _, rfl, hs, ?_⟩
    conv => whnf
    exact hr _ _ rfl hk
  | true =>
    refine ⟨ns, root, _, rfl, hs, ?_⟩
    have ta := small_tame (m := 400) (by decide) hs
    have kt := small_kt (m := 400) (by decide) hs
    obtain ⟨a, e, hc⟩ : ∃ a e, checkTree ns root = (a, e) := ⟨_, _, rfl⟩
    conv => whnf
    refine ⟨ns, root, a, e, rfl, ta, hc, ?_⟩
    conv => whnf
    refine ⟨ns, root, a, e, rfl, ta, kt, hc, ?_⟩
    conv => whnf
    refine two_eq (fun _ => ?_) (fun h => absurd rfl h)
    conv => whnf
    exact hr _ _ rfl (ret_eq hk (congrArg (fun b => AV.p (.bool b)) (beq_self_eq_true e).symm))
end Go.Proofs.YtojjkleplnijaaaGreatDoor
