/-
  The statement FlowEnds: the walk. No statement of the seat is proved here.
-/
import Derived.Test.YtkomdppjelnpdaaGreatDoorPk8
set_option linter.unusedVariables false
set_option linter.unusedSimpArgs false
namespace Go.Proofs.YtkomdppjelnpdaaGreatDoor
open Go.AE Go.Ru
set_option maxRecDepth 100000
set_option maxHeartbeats 1000000
def gEd : AG := gput 16 cShown7 (gput 17 (eSmall 300) (gput 18 eBuild (gput 33 eReach (gput 27 (eEndsV 2) (gput 32 (eEndsV 3) (gput 34 cAmong g0))))))
theorem gEd_ok : GOk Tryz.prog gEd := gput_ok shown8_ok (gput_ok eSmall8_ok (gput_ok build_okW (gput_ok reach_ok (gput_ok (endsV_ok exit_ok) (gput_ok (endsV_ok fail_ok8) (gput_ok among_ok g0_ok))))))
theorem ends_calls (ns : List Nd) (root : Int) (K : List ABlk) (k : AO → List ABlk → Prop) (hk : k (.ret (.p (.bool true))) K) : ACalls Tryz.prog 8 [treeV ns root] K k := by
  cases hs : smallS 300 ns with
  | false =>
    refine frame0P gEd_ok 19 rfl fun Q hr => ?_
    conv => whnf
    refine ⟨rfl, ?_⟩
    conv => whnf
    refine ⟨ns, root, _, rfl, hs, ?_⟩
    conv => whnf
    exact hr _ _ rfl hk
  | true =>
  have ta := small_tame (m := 300) (by decide) hs
  obtain ⟨a, e, hc⟩ : ∃ a e, checkTree ns root = (a, e) := ⟨_, _, rfl⟩
  by_cases he : e = 0
  case neg =>
    refine frame0P gEd_ok 19 rfl fun Q hr => ?_
    conv => whnf
    refine ⟨rfl, ?_⟩
    conv => whnf
    refine ⟨ns, root, _, rfl, hs, ?_⟩
    conv => whnf
    refine ⟨ns, root, a, e, _, rfl, ta, hc, rfl, fun _ => ?_, fun h => absurd h he⟩
    conv => whnf
    exact hr _ _ rfl hk
  subst he
  have rt := right_of (check_right hc)
  have hlen := rt.len
  have hpos := rt.pos
  refine frame0P gEd_ok 19 rfl fun Q hr => ?_
  conv => whnf
  refine ⟨rfl, ?_⟩
  conv => whnf
  refine ⟨ns, root, _, rfl, hs, ?_⟩
  conv => whnf
  obtain ⟨s, hsb⟩ : ∃ s, buildS ns root = s := ⟨_, rfl⟩
  have hL : EndL s := hsb ▸ end_law rt
  obtain ⟨hcnt, hps⟩ := cnt_law rt
  rw [hsb] at hcnt hps
  have hcl := cntB_le (stP' ns) ns.length
  have hn : s.n < 100000 := by omega
  have hn' : s.n < 1000000 := by omega
  refine ⟨ns, root, a, 0, s, rfl, ta, hc, hsb, fun h => absurd rfl h, fun _ => ?_⟩
  conv => whnf
  refine loop_up (ι := Nat) [5] (fun i => [(7, intV i)]) (fun _ => []) (fun i => i ≤ s.n) (fun i => s.n - i) 0 ⟨AV.le_refl _, trivial⟩ trivial (Nat.zero_le _) ?_
  rintro Y hle i hi ih
  conv => whnf
  refine two_dec (fun h => ?_) (fun h => ?_)
  · have h : i < s.n := by have h : (i : Int) < (s.n : Int) := h; omega
    have hw1 := wzz (i := i) (by omega)
    have hil : (i : Int) < (s.n : Int) := by omega
    have hends := hL.ends i h
    conv => whnf
    refine ⟨⟨by omega, hil, rfl⟩, ?_⟩
    conv => whnf
    refine ⟨s, (i : Int), rfl, hn, hL.short, hL.clos, fun l hl => ?_⟩
    have hmem := hl.mem (by omega) hil
    have hself : decide ((i : Int) ∈ l) = true := decide_eq_true ((hmem _).2 .refl)
    have hll : l.length < 1000000 := by have := hl.len; omega
    have hall : ∀ y ∈ l, 0 ≤ y ∧ y < (s.n : Int) ∧ (s.f y.toNat).pr = (s.f i).pr := fun y hy => hL.same i h y ((hmem y).1 hy)
    conv => whnf
    refine ⟨l, (i : Int), true, rfl, hll, hself, ?_⟩
    conv => whnf
    cases hx : decide (endT s 2 (s.f i).pr ∈ l) with
    | true =>
      refine ⟨s, (s.f i).pr, endT s 2 (s.f i).pr, rfl, hn', rfl, ?_⟩
      conv => whnf
      refine ⟨l, endT s 2 (s.f i).pr, true, rfl, hll, hx, ?_⟩
      conv => whnf
      refine loop_up (ι := Nat) [5, 7, 8, 9] (fun j => [(10, intV j)]) (fun _ => []) (fun j => j ≤ l.length) (fun j => l.length - j) 0 ⟨AV.le_refl _, trivial⟩ trivial (Nat.zero_le _) ?_
      rintro Z hlz j hj ihz
      conv => whnf
      refine two_dec (fun hjl => ?_) (fun hjl => ?_)
      · have hjl : j < l.length := by have h : (j : Int) < (l.length : Int) := hjl; omega
        have hw2 := wzz (i := j) (by omega)
        have hjl' : (j : Int) < (l.length : Int) := by omega
        obtain ⟨hy0, hy1, hy2⟩ := hall (l.getD j 0) (by rw [List.getD_eq_getElem?_getD, List.getElem?_eq_getElem hjl]; exact List.getElem_mem hjl)
        conv => whnf
        refine ⟨⟨by omega, hjl', rfl⟩, ?_⟩
        conv => whnf
        refine ⟨⟨hy0, hy1, rfl⟩, ?_⟩
        conv => whnf
        refine two_ne (fun h => absurd hy2 h) (fun _ => ?_)
        conv => whnf
        refine hlz _ _ (Le.env ?_ ?_) (ihz (j + 1) (by omega) (by omega))
        · skip
          repeat' (first | exact trivial | ((conv => whnf); first | exact trivial | (refine And.intro (AV.le_refl _) ?_) | (refine And.intro (ABlk.le_refl _) ?_) | (refine And.intro (AV.le_of_eq ?_) ?_; (focus ((first | exact congrArg intV hw2 | fail); done))) | (refine And.intro (ABlk.le_of_eq ?_) ?_; (focus ((first | exact congrArg intV hw2 | fail); done))) | fail) | fail)
        · skip
          repeat' (first | exact trivial | ((conv => whnf); first | exact trivial | (refine And.intro (AV.le_refl _) ?_) | (refine And.intro (ABlk.le_refl _) ?_) | (refine And.intro (AV.le_of_eq ?_) ?_; (focus ((first | fail | fail); done))) | (refine And.intro (ABlk.le_of_eq ?_) ?_; (focus ((first | fail | fail); done))) | fail) | fail)
      · conv => whnf
        refine hle _ _ (Le.cutEnv 2 rfl rfl ⟨rfl, rfl, trivial⟩ ?_ ?_) (ih (i + 1) (by omega) (by omega))
        · skip
          repeat' (first | exact trivial | ((conv => whnf); first | exact trivial | (refine And.intro (AV.le_refl _) ?_) | (refine And.intro (ABlk.le_refl _) ?_) | (refine And.intro (AV.le_of_eq ?_) ?_; (focus ((first | exact congrArg intV hw1 | fail); done))) | (refine And.intro (ABlk.le_of_eq ?_) ?_; (focus ((first | exact congrArg intV hw1 | fail); done))) | fail) | fail)
        · skip
          repeat' (first | exact trivial | ((conv => whnf); first | exact trivial | (refine And.intro (AV.le_refl _) ?_) | (refine And.intro (ABlk.le_refl _) ?_) | (refine And.intro (AV.le_of_eq ?_) ?_; (focus ((first | fail | fail); done))) | (refine And.intro (ABlk.le_of_eq ?_) ?_; (focus ((first | fail | fail); done))) | fail) | fail)
    | false =>
      have hy : decide (endT s 3 (s.f i).pr ∈ l) = true := decide_eq_true ((hmem _).2 (hends.resolve_left fun h => (of_decide_eq_false hx) ((hmem _).2 h)))
      refine ⟨s, (s.f i).pr, endT s 2 (s.f i).pr, rfl, hn', rfl, ?_⟩
      conv => whnf
      refine ⟨l, endT s 2 (s.f i).pr, false, rfl, hll, hx, ?_⟩
      conv => whnf
      refine ⟨s, (s.f i).pr, endT s 3 (s.f i).pr, rfl, hn', rfl, ?_⟩
      conv => whnf
      refine ⟨l, endT s 3 (s.f i).pr, true, rfl, hll, hy, ?_⟩
      conv => whnf
      refine loop_up (ι := Nat) [5, 7, 8, 9] (fun j => [(10, intV j)]) (fun _ => []) (fun j => j ≤ l.length) (fun j => l.length - j) 0 ⟨AV.le_refl _, trivial⟩ trivial (Nat.zero_le _) ?_
      rintro Z hlz j hj ihz
      conv => whnf
      refine two_dec (fun hjl => ?_) (fun hjl => ?_)
      · have hjl : j < l.length := by have h : (j : Int) < (l.length : Int) := hjl; omega
        have hw2 := wzz (i := j) (by omega)
        have hjl' : (j : Int) < (l.length : Int) := by omega
        obtain ⟨hy0, hy1, hy2⟩ := hall (l.getD j 0) (by rw [List.getD_eq_getElem?_getD, List.getElem?_eq_getElem hjl]; exact List.getElem_mem hjl)
        conv => whnf
        refine ⟨⟨by omega, hjl', rfl⟩, ?_⟩
        conv => whnf
        refine ⟨⟨hy0, hy1, rfl⟩, ?_⟩
        conv => whnf
        refine two_ne (fun h => absurd hy2 h) (fun _ => ?_)
        conv => whnf
        refine hlz _ _ (Le.env ?_ ?_) (ihz (j + 1) (by omega) (by omega))
        · skip
          repeat' (first | exact trivial | ((conv => whnf); first | exact trivial | (refine And.intro (AV.le_refl _) ?_) | (refine And.intro (ABlk.le_refl _) ?_) | (refine And.intro (AV.le_of_eq ?_) ?_; (focus ((first | exact congrArg intV hw2 | fail); done))) | (refine And.intro (ABlk.le_of_eq ?_) ?_; (focus ((first | exact congrArg intV hw2 | fail); done))) | fail) | fail)
        · skip
          repeat' (first | exact trivial | ((conv => whnf); first | exact trivial | (refine And.intro (AV.le_refl _) ?_) | (refine And.intro (ABlk.le_refl _) ?_) | (refine And.intro (AV.le_of_eq ?_) ?_; (focus ((first | fail | fail); done))) | (refine And.intro (ABlk.le_of_eq ?_) ?_; (focus ((first | fail | fail); done))) | fail) | fail)
      · conv => whnf
        refine hle _ _ (Le.cutEnv 2 rfl rfl ⟨rfl, rfl, trivial⟩ ?_ ?_) (ih (i + 1) (by omega) (by omega))
        · skip
          repeat' (first | exact trivial | ((conv => whnf); first | exact trivial | (refine And.intro (AV.le_refl _) ?_) | (refine And.intro (ABlk.le_refl _) ?_) | (refine And.intro (AV.le_of_eq ?_) ?_; (focus ((first | exact congrArg intV hw1 | fail); done))) | (refine And.intro (ABlk.le_of_eq ?_) ?_; (focus ((first | exact congrArg intV hw1 | fail); done))) | fail) | fail)
        · skip
          repeat' (first | exact trivial | ((conv => whnf); first | exact trivial | (refine And.intro (AV.le_refl _) ?_) | (refine And.intro (ABlk.le_refl _) ?_) | (refine And.intro (AV.le_of_eq ?_) ?_; (focus ((first | fail | fail); done))) | (refine And.intro (ABlk.le_of_eq ?_) ?_; (focus ((first | fail | fail); done))) | fail) | fail)
  · conv => whnf
    exact hr _ _ rfl hk
end Go.Proofs.YtkomdppjelnpdaaGreatDoor
