/-
  The statement FlowReach: the walk. No statement of the seat is proved here.
-/
import Derived.Test.YtkomdppjelnpdaaGreatDoorPk8
set_option linter.unusedVariables false
set_option linter.unusedSimpArgs false
namespace Go.Ru
def fdS (s : BSt) (f y : Int) (l : List Int) (k : Nat) : Bool := (y == f) || (l.take k).any fun z => decide (y ∈ afterT s z)
theorem fdS_succ {s : BSt} {f y : Int} {l : List Int} {k : Nat} (hk : k < l.length) : fdS s f y l (k + 1) = (fdS s f y l k || decide (y ∈ afterT s (l.getD k 0))) := by
  unfold fdS
  rw [List.take_add_one, List.getElem?_eq_getElem hk, List.any_append, Bool.or_assoc]
  simp [hk]
theorem fdS_all {s : BSt} {f y : Int} {l : List Int} (hc : Clos s) (f0 : 0 ≤ f) (f1 : f < (s.n : Int)) (hl : ReachL s f l) (hy : y ∈ l) : fdS s f y l l.length = true := by
  unfold fdS
  rw [List.take_length]
  have hm := hl.mem f0 f1
  have hp := (hm y).1 hy
  cases hp with
  | refl => simp
  | @step z _ h h0 h1 hs =>
    rw [Bool.or_eq_true, List.any_eq_true]
    refine .inr ⟨z, (hm z).2 h, decide_eq_true ?_⟩
    obtain ⟨x, rfl⟩ : ∃ x : Nat, z = (x : Int) := ⟨z.toNat, by omega⟩
    exact (after_mem (by omega)).2 (by simpa using hs)
theorem rise_get {l : List Int} (h : l.Pairwise (· < ·)) {k : Nat} (hk : k + 1 < l.length) : l.getD k 0 < l.getD (k + 1) 0 := by
  have := List.pairwise_iff_getElem.1 h k (k + 1) (by omega) hk (by omega)
  simpa [List.getD_eq_getElem?_getD, List.getElem?_eq_getElem hk, List.getElem?_eq_getElem (show k < l.length by omega)] using this
end Go.Ru
namespace Go.Proofs.YtkomdppjelnpdaaGreatDoor
open Go.AE Go.Ru
set_option maxRecDepth 100000
set_option maxHeartbeats 1000000
def gRc : AG := gput 16 cShown7 (gput 17 (eSmall 300) (gput 18 eBuild (gput 33 eReach (gput 30 eAfter (gput 34 cAmong g0)))))
theorem gRc_ok : GOk Tryz.prog gRc := gput_ok shown8_ok (gput_ok eSmall8_ok (gput_ok build_okW (gput_ok reach_ok (gput_ok after_ok (gput_ok among_ok g0_ok)))))
theorem reach_calls (ns : List Nd) (root f : Int) (K : List ABlk) (k : AO → List ABlk → Prop) (hk : k (.ret (.p (.bool true))) K) : ACalls Tryz.prog 9 [treeV ns root, intV f] K k := by
  cases hs : smallS 300 ns with
  | false =>
    refine frame0P gRc_ok 19 rfl fun Q hr => ?_
    conv => whnf
    refine ⟨rfl, ?_⟩
    conv => whnf
    refine ⟨ns, root, _, rfl, hs, ?_⟩
    conv => whnf
    exact hr _ _ rfl hk
  | true =>
  have ta := small_tame (m := 300) (by decide) hs
  obtain ⟨a, e, hc⟩ : ∃ a e, checkTree ns root = (a, e) := ⟨_, _, rfl⟩
  by_cases he : e = 0
  case neg =>
    refine frame0P gRc_ok 19 rfl fun Q hr => ?_
    conv => whnf
    refine ⟨rfl, ?_⟩
    conv => whnf
    refine ⟨ns, root, _, rfl, hs, ?_⟩
    conv => whnf
    refine ⟨ns, root, a, e, _, rfl, ta, hc, rfl, fun _ => ?_, fun h => absurd h he⟩
    conv => whnf
    exact hr _ _ rfl hk
  subst he
  have rt := right_of (check_right hc)
  have hlen := rt.len
  have hpos := rt.pos
  refine frame0P gRc_ok 19 rfl fun Q hr => ?_
  conv => whnf
  refine ⟨rfl, ?_⟩
  conv => whnf
  refine ⟨ns, root, _, rfl, hs, ?_⟩
  conv => whnf
  obtain ⟨s, hsb⟩ : ∃ s, buildS ns root = s := ⟨_, rfl⟩
  have hL : EndL s := hsb ▸ end_law rt
  obtain ⟨hcnt, hps⟩ := cnt_law rt
  rw [hsb] at hcnt hps
  have hcl := cntB_le (stP' ns) ns.length
  have hn : s.n < 100000 := by omega
  have hn' : s.n < 1000000 := by omega
  refine ⟨ns, root, a, 0, s, rfl, ta, hc, hsb, fun h => absurd rfl h, fun _ => ?_⟩
  conv => whnf
  refine two_dec (fun h0 => ?_) (fun h0 => ?_)
  · have h0 : f < 0 := h0
    conv => whnf
    refine ⟨s, f, rfl, hn, hL.short, hL.clos, fun l hl => ?_⟩
    obtain rfl := hl.no (by omega)
    conv => whnf
    refine ⟨s, f, [], rfl, hn', hL.short, by simp only [afterT]; rw [if_neg (by omega)], ?_⟩
    conv => whnf
    exact hr _ _ rfl hk
  have h0 : ¬ f < 0 := h0
  conv => whnf
  refine two_dec (fun h1 => ?_) (fun h1 => ?_)
  · have h1 : f ≥ (s.n : Int) := h1
    conv => whnf
    refine ⟨s, f, rfl, hn, hL.short, hL.clos, fun l hl => ?_⟩
    obtain rfl := hl.no (by omega)
    conv => whnf
    refine ⟨s, f, [], rfl, hn', hL.short, by simp only [afterT]; rw [if_neg (by omega)], ?_⟩
    conv => whnf
    exact hr _ _ rfl hk
  have h1 : ¬ f ≥ (s.n : Int) := h1
  have f0 : 0 ≤ f := by omega
  have f1 : f < (s.n : Int) := by omega
  conv => whnf
  refine ⟨s, f, rfl, hn, hL.short, hL.clos, fun l hl => ?_⟩
  have hmem := hl.mem f0 f1
  have hll : l.length < 100000 := by have := hl.len; omega
  have hlr := hl.rise
  have hin : ∀ j, j < l.length → l.getD j 0 ∈ l := fun j hj => by rw [List.getD_eq_getElem?_getD, List.getElem?_eq_getElem hj]; exact List.getElem_mem hj
  have hrg : ∀ y ∈ l, 0 ≤ y ∧ y < (s.n : Int) := fun y hy => ((hmem y).1 hy).range hL.clos f0 f1
  conv => whnf
  refine loop_up (ι := Nat) [1, 7, 9] (fun i => [(10, intV i)]) (fun _ => []) (fun i => i ≤ l.length) (fun i => l.length - i) 0 ⟨AV.le_refl _, trivial⟩ trivial (Nat.zero_le _) ?_
  rintro Y hle i hi ih
  conv => whnf
  refine two_dec (fun h => ?_) (fun h => ?_)
  · have h : i < l.length := by have h : (i : Int) < (l.length : Int) := h; omega
    have hw1 := wzz (i := i) (by omega)
    have hil : (i : Int) < (l.length : Int) := by omega
    obtain ⟨y0, y1⟩ := hrg _ (hin i h)
    have hyl := hin i h
    obtain ⟨A, hA⟩ : ∃ A, afterT s (l.getD i 0) = A := ⟨_, rfl⟩
    have hAl : ∀ z ∈ A, decide (z ∈ l) = true := fun z hz => by
      obtain ⟨x, hx⟩ : ∃ x : Nat, l.getD i 0 = (x : Int) := ⟨(l.getD i 0).toNat, by omega⟩
      rw [← hA, hx] at hz
      refine decide_eq_true ((hmem z).2 (.step ((hmem _).1 hyl) y0 y1 ?_))
      rw [hx, Int.toNat_natCast]
      exact (after_mem (by omega)).1 hz
    have hAr : A.Pairwise (· < ·) := by
      rw [← hA]; simp only [afterT]; rw [if_pos ⟨y0, y1⟩]; exact setI_rise _
    have hAn : A.length < 1001 := by
      rw [← hA]; simp only [afterT]; rw [if_pos ⟨y0, y1⟩]
      have h1 := setI_len (nxtS (s.f (l.getD i 0).toNat))
      have h2 := hL.short (l.getD i 0).toNat (by omega)
      have h3 : (nxtS (s.f (l.getD i 0).toNat)).length ≤ (s.f (l.getD i 0).toNat).nx.length + 1 := by unfold nxtS; split <;> simp
      omega
    conv => whnf
    refine ⟨⟨by omega, hil, rfl⟩, ?_⟩
    conv => whnf
    refine ⟨s, l.getD i 0, A, rfl, hn', hL.short, hA, ?_⟩
    conv => whnf
    refine loop_up (ι := Nat) [1, 7, 9, 10, 11] (fun j => [(12, intV j)]) (fun _ => []) (fun j => j ≤ A.length) (fun j => A.length - j) 0 ⟨AV.le_refl _, trivial⟩ trivial (Nat.zero_le _) ?_
    rintro Z hlz j hj ihz
    conv => whnf
    refine two_dec (fun hjl => ?_) (fun hjl => ?_)
    · have hjl : j < A.length := by have h : (j : Int) < (A.length : Int) := hjl; omega
      have hw2 := wzz (i := j) (by omega)
      have hjl' : (j : Int) < (A.length : Int) := by omega
      have hja := hAl (A.getD j 0) (by rw [List.getD_eq_getElem?_getD, List.getElem?_eq_getElem hjl]; exact List.getElem_mem hjl)
      conv => whnf
      refine ⟨⟨by omega, hjl', rfl⟩, ?_⟩
      conv => whnf
      refine ⟨l, A.getD j 0, true, rfl, by omega, hja, ?_⟩
      conv => whnf
      repeat ((refine And.intro ?_ ?_); (focus ((conv => whnf); first | done | exact ⟨⟨by omega, hjl', rfl⟩, by conv => whnf⟩)); (conv => whnf))
      refine two_dec (fun hp => ?_) (fun hp => ?_)
      · have hp : 0 < j := by have hp : (j : Int) > 0 := hp; omega
        have hwk : IntKind.i64.wrap ((j : Int) - 1) = ((j - 1 : Nat) : Int) := by rw [w64 ⟨by omega, by omega⟩]; omega
        have hk0 : 0 ≤ IntKind.i64.wrap ((j : Int) - 1) := by rw [hwk]; omega
        have hk1 : IntKind.i64.wrap ((j : Int) - 1) < (A.length : Int) := by rw [hwk]; omega
        have hlt : ¬ A.getD j 0 ≤ A.getD (IntKind.i64.wrap ((j : Int) - 1)).toNat 0 := by
          rw [hwk, Int.toNat_natCast]
          have := rise_get hAr (k := j - 1) (by omega)
          rw [show j - 1 + 1 = j by omega] at this
          omega
        conv => whnf
        repeat' (first | (refine Chk.mk ⟨by omega, hjl', rfl⟩ ?_; (conv => whnf)) | (refine Chk.mk ⟨hk0, hk1, rfl⟩ ?_; (conv => whnf)) | fail)
        refine two_dec (fun h => absurd h hlt) (fun _ => ?_)
        conv => whnf
        refine hlz _ _ (Le.env ?_ ?_) (ihz (j + 1) (by omega) (by omega))
        · skip
          repeat' (first | exact trivial | ((conv => whnf); first | exact trivial | (refine And.intro (AV.le_refl _) ?_) | (refine And.intro (ABlk.le_refl _) ?_) | (refine And.intro (AV.le_of_eq ?_) ?_; (focus ((first | exact congrArg intV hw2 | fail); done))) | (refine And.intro (ABlk.le_of_eq ?_) ?_; (focus ((first | exact congrArg intV hw2 | fail); done))) | fail) | fail)
        · skip
          repeat' (first | exact trivial | ((conv => whnf); first | exact trivial | (refine And.intro (AV.le_refl _) ?_) | (refine And.intro (ABlk.le_refl _) ?_) | (refine And.intro (AV.le_of_eq ?_) ?_; (focus ((first | fail | fail); done))) | (refine And.intro (ABlk.le_of_eq ?_) ?_; (focus ((first | fail | fail); done))) | fail) | fail)
      · conv => whnf
        refine hlz _ _ (Le.env ?_ ?_) (ihz (j + 1) (by omega) (by omega))
        · skip
          repeat' (first | exact trivial | ((conv => whnf); first | exact trivial | (refine And.intro (AV.le_refl _) ?_) | (refine And.intro (ABlk.le_refl _) ?_) | (refine And.intro (AV.le_of_eq ?_) ?_; (focus ((first | exact congrArg intV hw2 | fail); done))) | (refine And.intro (ABlk.le_of_eq ?_) ?_; (focus ((first | exact congrArg intV hw2 | fail); done))) | fail) | fail)
        · skip
          repeat' (first | exact trivial | ((conv => whnf); first | exact trivial | (refine And.intro (AV.le_refl _) ?_) | (refine And.intro (ABlk.le_refl _) ?_) | (refine And.intro (AV.le_of_eq ?_) ?_; (focus ((first | fail | fail); done))) | (refine And.intro (ABlk.le_of_eq ?_) ?_; (focus ((first | fail | fail); done))) | fail) | fail)
    · conv => whnf
      refine ⟨⟨by omega, hil, rfl⟩, ?_⟩
      conv => whnf
      refine loop_up (ι := Nat) [1, 4, 7, 9, 10] (fun j => [(13, .p (.bool (fdS s f (l.getD i 0) l j))), (14, intV j)]) (fun _ => []) (fun j => j ≤ l.length) (fun j => l.length - j) 0 ⟨AV.le_of_eq (congrArg (fun b => AV.p (.bool b)) (by simp [fdS])), AV.le_refl _, trivial⟩ trivial (Nat.zero_le _) ?_
      rintro X hlx j hj ihx
      conv => whnf
      refine two_dec (fun hjl => ?_) (fun hjl => ?_)
      · have hjl : j < l.length := by have h : (j : Int) < (l.length : Int) := hjl; omega
        have hw2 := wzz (i := j) (by omega)
        have hjl' : (j : Int) < (l.length : Int) := by omega
        have hsc := fdS_succ (s := s) (f := f) (y := l.getD i 0) hjl
        conv => whnf
        refine two_intro (fun hf => ?_) (fun hf => ?_)
        · have hf : fdS s f (l.getD i 0) l j = true := hf
          have hb : true = fdS s f (l.getD i 0) l (j + 1) := by rw [hsc, hf]; rfl
          conv => whnf
          repeat ((refine And.intro ?_ ?_); (focus ((conv => whnf); first | done | exact ⟨⟨by omega, hjl', rfl⟩, by conv => whnf⟩ | exact ⟨⟨by omega, hil, rfl⟩, by conv => whnf⟩)); (conv => whnf))
          refine hlx _ _ (Le.env ?_ ?_) (ihx (j + 1) (by omega) (by omega))
          · skip
            repeat' (first | exact trivial | ((conv => whnf); first | exact trivial | (refine And.intro (AV.le_refl _) ?_) | (refine And.intro (ABlk.le_refl _) ?_) | (refine And.intro (AV.le_of_eq ?_) ?_; (focus ((first | exact congrArg intV hw2 | exact congrArg (fun b => AV.p (.bool b)) hb | fail); done))) | (refine And.intro (ABlk.le_of_eq ?_) ?_; (focus ((first | exact congrArg intV hw2 | exact congrArg (fun b => AV.p (.bool b)) hb | fail); done))) | fail) | fail)
          · skip
            repeat' (first | exact trivial | ((conv => whnf); first | exact trivial | (refine And.intro (AV.le_refl _) ?_) | (refine And.intro (ABlk.le_refl _) ?_) | (refine And.intro (AV.le_of_eq ?_) ?_; (focus ((first | fail | fail); done))) | (refine And.intro (ABlk.le_of_eq ?_) ?_; (focus ((first | fail | fail); done))) | fail) | fail)
        · have hf : fdS s f (l.getD i 0) l j = false := hf
          obtain ⟨B, hB⟩ : ∃ B, afterT s (l.getD j 0) = B := ⟨_, rfl⟩
          have hb : decide (l.getD i 0 ∈ B) = fdS s f (l.getD i 0) l (j + 1) := by rw [hsc, hf, Bool.false_or, hB]
          have hBn : B.length < 1001 := by
            obtain ⟨z0, z1⟩ := hrg _ (hin j hjl)
            rw [← hB]; simp only [afterT]; rw [if_pos ⟨z0, z1⟩]
            have h1 := setI_len (nxtS (s.f (l.getD j 0).toNat))
            have h2 := hL.short (l.getD j 0).toNat (by omega)
            have h3 : (nxtS (s.f (l.getD j 0).toNat)).length ≤ (s.f (l.getD j 0).toNat).nx.length + 1 := by unfold nxtS; split <;> simp
            omega
          conv => whnf
          repeat' (first | (refine Chk.mk ⟨by omega, hjl', rfl⟩ ?_; (conv => whnf)) | (refine Chk.mk ⟨by omega, hil, rfl⟩ ?_; (conv => whnf)) | fail)
          refine ⟨s, l.getD j 0, B, rfl, hn', hL.short, hB, ?_⟩
          conv => whnf
          repeat ((refine And.intro ?_ ?_); (focus ((conv => whnf); first | done | exact ⟨⟨by omega, hjl', rfl⟩, by conv => whnf⟩ | exact ⟨⟨by omega, hil, rfl⟩, by conv => whnf⟩)); (conv => whnf))
          repeat' (first | (refine Chk.mk ⟨by omega, hil, rfl⟩ ?_; (conv => whnf)) | fail)
          refine ⟨B, l.getD i 0, decide (l.getD i 0 ∈ B), rfl, by omega, rfl, ?_⟩
          conv => whnf
          repeat ((refine And.intro ?_ ?_); (focus ((conv => whnf); first | done | exact ⟨⟨by omega, hjl', rfl⟩, by conv => whnf⟩ | exact ⟨⟨by omega, hil, rfl⟩, by conv => whnf⟩)); (conv => whnf))
          refine hlx _ _ (Le.env ?_ ?_) (ihx (j + 1) (by omega) (by omega))
          · skip
            repeat' (first | exact trivial | ((conv => whnf); first | exact trivial | (refine And.intro (AV.le_refl _) ?_) | (refine And.intro (ABlk.le_refl _) ?_) | (refine And.intro (AV.le_of_eq ?_) ?_; (focus ((first | exact congrArg intV hw2 | exact congrArg (fun b => AV.p (.bool b)) hb | fail); done))) | (refine And.intro (ABlk.le_of_eq ?_) ?_; (focus ((first | exact congrArg intV hw2 | exact congrArg (fun b => AV.p (.bool b)) hb | fail); done))) | fail) | fail)
          · skip
            repeat' (first | exact trivial | ((conv => whnf); first | exact trivial | (refine And.intro (AV.le_refl _) ?_) | (refine And.intro (ABlk.le_refl _) ?_) | (refine And.intro (AV.le_of_eq ?_) ?_; (focus ((first | fail | fail); done))) | (refine And.intro (ABlk.le_of_eq ?_) ?_; (focus ((first | fail | fail); done))) | fail) | fail)
      · obtain rfl : j = l.length := by have h : ¬ (j : Int) < (l.length : Int) := hjl; omega
        have hfa := fdS_all hL.clos f0 f1 hl hyl
        conv => whnf
        refine two_false (show (!fdS s f (l.getD i 0) l l.length) = false by rw [hfa]; rfl) ?_
        conv => whnf
        refine two_dec (fun hp => ?_) (fun hp => ?_)
        · have hp : 0 < i := by have hp : (i : Int) > 0 := hp; omega
          have hwk : IntKind.i64.wrap ((i : Int) - 1) = ((i - 1 : Nat) : Int) := by rw [w64 ⟨by omega, by omega⟩]; omega
          have hk0 : 0 ≤ IntKind.i64.wrap ((i : Int) - 1) := by rw [hwk]; omega
          have hk1 : IntKind.i64.wrap ((i : Int) - 1) < (l.length : Int) := by rw [hwk]; omega
          have hlt : ¬ l.getD i 0 ≤ l.getD (IntKind.i64.wrap ((i : Int) - 1)).toNat 0 := by
            rw [hwk, Int.toNat_natCast]
            have := rise_get hlr (k := i - 1) (by omega)
            rw [show i - 1 + 1 = i by omega] at this
            omega
          conv => whnf
          repeat' (first | (refine Chk.mk ⟨by omega, hil, rfl⟩ ?_; (conv => whnf)) | (refine Chk.mk ⟨hk0, hk1, rfl⟩ ?_; (conv => whnf)) | fail)
          refine two_dec (fun h => absurd h hlt) (fun _ => ?_)
          conv => whnf
          refine hle _ _ (Le.env ?_ ?_) (ih (i + 1) (by omega) (by omega))
          · skip
            repeat' (first | exact trivial | ((conv => whnf); first | exact trivial | (refine And.intro (AV.le_refl _) ?_) | (refine And.intro (ABlk.le_refl _) ?_) | (refine And.intro (AV.le_of_eq ?_) ?_; (focus ((first | exact congrArg intV hw1 | fail); done))) | (refine And.intro (ABlk.le_of_eq ?_) ?_; (focus ((first | exact congrArg intV hw1 | fail); done))) | fail) | fail)
          · skip
            repeat' (first | exact trivial | ((conv => whnf); first | exact trivial | (refine And.intro (AV.le_refl _) ?_) | (refine And.intro (ABlk.le_refl _) ?_) | (refine And.intro (AV.le_of_eq ?_) ?_; (focus ((first | fail | fail); done))) | (refine And.intro (ABlk.le_of_eq ?_) ?_; (focus ((first | fail | fail); done))) | fail) | fail)
        · conv => whnf
          refine hle _ _ (Le.env ?_ ?_) (ih (i + 1) (by omega) (by omega))
          · skip
            repeat' (first | exact trivial | ((conv => whnf); first | exact trivial | (refine And.intro (AV.le_refl _) ?_) | (refine And.intro (ABlk.le_refl _) ?_) | (refine And.intro (AV.le_of_eq ?_) ?_; (focus ((first | exact congrArg intV hw1 | fail); done))) | (refine And.intro (ABlk.le_of_eq ?_) ?_; (focus ((first | exact congrArg intV hw1 | fail); done))) | fail) | fail)
          · skip
            repeat' (first | exact trivial | ((conv => whnf); first | exact trivial | (refine And.intro (AV.le_refl _) ?_) | (refine And.intro (ABlk.le_refl _) ?_) | (refine And.intro (AV.le_of_eq ?_) ?_; (focus ((first | fail | fail); done))) | (refine And.intro (ABlk.le_of_eq ?_) ?_; (focus ((first | fail | fail); done))) | fail) | fail)
  · conv => whnf
    refine ⟨l, f, true, rfl, by omega, decide_eq_true ((hmem _).2 .refl), ?_⟩
    conv => whnf
    exact hr _ _ rfl hk
end Go.Proofs.YtkomdppjelnpdaaGreatDoor
