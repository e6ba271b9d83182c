/-
  Flow, part 6: the ends of procedures, and the nodes of statements: plain laws. No program in sight; no statement of the seat is proved here.
  Flow, part 7: the contracts of end, Entry, Exit, Fail, Of. No statement of the seat is proved here.
  Flow, part 8: the contract of Build. No statement of the seat is proved here.
  The statements of chapter 8: small and shown. No statement of the seat is proved here.
  The statement FlowNodes: the walk. No statement of the seat is proved here.
-/
import Derived.Test.YtkomdppjelnpdaaGreatDoorPk7
set_option linter.unusedVariables false
set_option linter.unusedSimpArgs false
namespace Go.Ru

theorem endS_at {p : Nat → Bool} {n j : Nat} (h1 : j < n) (h2 : p j = true) (h3 : ∀ i, i < j → p i = false) : endS n p = (j : Int) := by
  simp only [endS, firstB_eq h1 h2 h3]
theorem endS_no {p : Nat → Bool} {n : Nat} (h : ∀ i, i < n → p i = false) : endS n p = -1 := by
  unfold endS
  split
  · rename_i j hj
    obtain ⟨h1, h2, _⟩ := firstB_some hj
    rw [h j h1] at h2; cases h2
  · rfl
theorem endS_one {p : Nat → Bool} {n j : Nat} (h1 : j < n) (h2 : p j = true) (h3 : ∀ i, i < n → p i = true → i = j) : endS n p = (j : Int) :=
  endS_at h1 h2 fun i hi => by
    cases hp : p i with
    | false => rfl
    | true => have := h3 i (by omega) hp; omega
def kindP (f : Nat → GN) (kind proc : Int) (x : Nat) : Bool := (f x).k == kind && (f x).pr == proc
def placeP (f : Nat → GN) (place : Int) (x : Nat) : Bool := (f x).k == 4 && (f x).pl == place
def endT (s : BSt) (kind proc : Int) : Int := endS s.n (kindP s.f kind proc)
def ofT (s : BSt) (place : Int) : Int := endS s.n (placeP s.f place)

section
variable {ns : List Nd} {root : Int} {s : BSt} {e : Nat → Nat} (h : BInv ns root s e)
include h
/-- what a node is -/
theorem BInv.what {x : Nat} (hx : x < s.n) : (∃ c, c < s.ps.length ∧ ((x = e c ∧ (s.f x).k = 1) ∨ (x = e c + 1 ∧ (s.f x).k = 2) ∨ (x = e c + 2 ∧ (s.f x).k = 3)) ∧ (s.f x).pr = (c : Int)) ∨
    ∃ i c, i < s.fst ∧ stB (nd ns i).k = true ∧ s.of (i : Int) = some x ∧ c < s.ps.length ∧ s.ps[c]? = some (own ns root i) ∧ (s.f x).k = 4 ∧ (s.f x).pl = (i : Int) ∧ (s.f x).pr = (c : Int) ∧ LaidN ns (ToN s c) i ⟨4, (i : Int), (c : Int), [], -1⟩ (s.f x) := by
  rcases h.back x hx with ⟨c, hc, hx⟩ | ⟨i, h1, h2, h3⟩
  · refine .inl ⟨c, hc, ?_⟩
    obtain ⟨q, a1, a2, a3, a4, ⟨b, a5, a6⟩, a7, a8⟩ := h.pr c hc
    rcases hx with rfl | rfl | rfl
    · rw [a5]; exact ⟨.inl ⟨rfl, rfl⟩, rfl⟩
    · rw [a7]; exact ⟨.inr (.inl ⟨rfl, rfl⟩), rfl⟩
    · rw [a8]; exact ⟨.inr (.inr ⟨rfl, rfl⟩), rfl⟩
  · obtain ⟨x', c, b1, b2, b3, b4, b5⟩ := h.st i h1 h2
    rw [h3] at b1
    injection b1 with b1
    subst b1
    exact .inr ⟨i, c, h1, h2, h3, b3, b4, b5.k, b5.pl, b5.pr, b5⟩
theorem BInv.end1 {c : Nat} (hc : c < s.ps.length) : endT s 1 (c : Int) = (e c : Nat) ∧ endT s 2 (c : Int) = (e c + 1 : Nat) ∧ endT s 3 (c : Int) = (e c + 2 : Nat) := by
  obtain ⟨q, a1, a2, a3, a4, ⟨b, a5, a6⟩, a7, a8⟩ := h.pr c hc
  have key : ∀ x, x < s.n → ∀ kd, (kd = 1 ∨ kd = 2 ∨ kd = 3) → kindP s.f kd (c : Int) x = true → (kd = 1 ∧ x = e c) ∨ (kd = 2 ∧ x = e c + 1) ∨ (kd = 3 ∧ x = e c + 2) := fun x hx kd hkd hp => by
    simp only [kindP, Bool.and_eq_true, beq_iff_eq] at hp
    rcases h.what hx with ⟨c', hc', g1, g2⟩ | ⟨i, c', _, _, _, _, _, g1, _⟩
    · have : c' = c := by omega
      subst this
      rcases g1 with ⟨g1, g3⟩ | ⟨g1, g3⟩ | ⟨g1, g3⟩
      · exact .inl ⟨by omega, g1⟩
      · exact .inr (.inl ⟨by omega, g1⟩)
      · exact .inr (.inr ⟨by omega, g1⟩)
    · omega
  refine ⟨endS_one (by omega) (by simp [kindP, a5]) fun x hx hp => ?_, endS_one (by omega) (by simp [kindP, a7]) fun x hx hp => ?_, endS_one (by omega) (by simp [kindP, a8]) fun x hx hp => ?_⟩
  · have := key x hx 1 (.inl rfl) hp; omega
  · have := key x hx 2 (.inr (.inl rfl)) hp; omega
  · have := key x hx 3 (.inr (.inr rfl)) hp; omega
theorem BInv.ofSt {i : Nat} (hi : i < s.fst) (hs : stB (nd ns i).k = true) : ∃ x c, ofT s (i : Int) = (x : Nat) ∧ x < s.n ∧ c < s.ps.length ∧ s.ps[c]? = some (own ns root i) ∧ LaidN ns (ToN s c) i ⟨4, (i : Int), (c : Int), [], -1⟩ (s.f x) := by
  obtain ⟨x, c, b1, b2, b3, b4, b5⟩ := h.st i hi hs
  refine ⟨x, c, endS_one b2 (by have := b5.k; have := b5.pl; simp_all [placeP]) fun y hy hp => ?_, b2, b3, b4, b5⟩
  simp only [placeP, Bool.and_eq_true, beq_iff_eq] at hp
  rcases h.what hy with ⟨c', hc', g1, g2⟩ | ⟨i', c', g0, _, g1, _, _, _, g2, _⟩
  · omega
  · have : i' = i := by omega
    subst this
    rw [b1] at g1
    injection g1 with g1
    exact g1.symm
theorem BInv.ofNo {i : Int} (hs : ∀ j : Nat, i = (j : Int) → stB (nd ns j).k = false) : ofT s i = -1 :=
  endS_no fun x hx => by
    cases hp : placeP s.f i x with
    | false => rfl
    | true =>
      simp only [placeP, Bool.and_eq_true, beq_iff_eq] at hp
      rcases h.what hx with ⟨c', hc', g1, g2⟩ | ⟨i', c', g0, g3, g1, _, _, _, g2, _⟩
      · omega
      · rw [hs i' (by omega)] at g3; cases g3
end

/-! ### the law of FlowNodes -/
/-- what is told of a node of a tree -/
structure NodeL (ns : List Nd) (root : Int) (s : BSt) (i : Nat) : Prop where
  no : stB (nd ns i).k = false → ofT s (i : Int) < 0
  yes : stB (nd ns i).k = true → ∃ x : Nat, ofT s (i : Int) = (x : Int) ∧ x < s.n ∧ (s.f x).pl = (i : Int) ∧ 0 ≤ (s.f x).pr ∧ (s.f x).pr < (s.ps.length : Int) ∧ s.ps.getD (s.f x).pr.toNat 0 = own ns root i ∧
    ((nd ns i).k ≠ 16 → (decide ((s.f x).ra ≥ 0)) = raisesF ns i) ∧ (((s.f x).nx.length = 2) ↔ ((nd ns i).k = 11 ∨ (nd ns i).k = 12)) ∧ ((s.f x).nx.length = 0 ↔ (nd ns i).k = 15)
theorem node_law {ns : List Nd} {root : Int} (rt : RightT ns root) {i : Nat} (hi : i < ns.length) : NodeL ns root (buildS ns root) i := by
  obtain ⟨e, h, hout⟩ := build_ok rt
  generalize buildS ns root = s at h hout
  refine ⟨fun hs => ?_, fun hs => ?_⟩
  · rw [h.ofNo fun j hj => by rw [show j = i by omega]; exact hs]; decide
  · have hif : i < s.fst := by
      by_cases e : i < s.fst
      · exact e
      · rw [hout i (by omega) hi] at hs; cases hs
    obtain ⟨x, c, a1, a2, a3, a4, a5⟩ := h.ofSt hif hs
    have hpr := a5.pr
    have hpl := a5.pl
    simp only at hpr hpl
    refine ⟨x, a1, a2, hpl, by omega, by omega, ?_, fun h16 => ?_, a5.two, a5.nil⟩
    · rw [hpr, Int.toNat_natCast, List.getD_eq_getElem?_getD, a4]; rfl
    · cases hr : raisesF ns i with
      | false => rw [a5.calm hr]; rfl
      | true => exact decide_eq_true (a5.rise h16 hr).1
theorem lay_ps (ns : List Nd) (s : BSt) (q : Nat) : (layS ns s q).ps = s.ps ++ [(q : Int)] := by
  simp only [layS]
theorem build_ps (ns : List Nd) : ∀ (l : List Int) (s : BSt), (buildR ns l s).ps.length ≤ s.ps.length + l.length := by
  intro l
  induction l with
  | nil => intro s; simp [buildR]
  | cons q l ih =>
    intro s
    simp only [buildR]
    split
    · have := ih (layS ns s q.toNat)
      rw [lay_ps] at this
      simp only [List.length_append, List.length_cons, List.length_nil] at this ⊢
      omega
    · have := ih ⟨s.n, s.f, s.of, s.ps, q.toNat + 1⟩
      simp only [List.length_cons] at this ⊢
      omega
theorem cntB_le (p : Nat → Bool) (n : Nat) : cntB p n ≤ n := by
  induction n with
  | zero => exact Nat.le_refl _
  | succ n ih =>
    have e : cntB p (n + 1) = cntB p n + (match p n with | true => 1 | false => 0) := rfl
    rw [e]
    cases p n <;> simp only <;> omega
theorem cnt_law {ns : List Nd} {root : Int} (rt : RightT ns root) : (buildS ns root).n = 3 * (buildS ns root).ps.length + cntB (stP' ns) ns.length ∧ (buildS ns root).ps.length ≤ ns.length := by
  obtain ⟨e, h, hout⟩ := build_ok rt
  have hf := h.fst
  have hrt := rt.rt
  have hpos := rt.pos
  constructor
  · have := cntB_same (p := stP' ns) (i := (buildS ns root).fst) (ns.length - (buildS ns root).fst) (fun j h1 h2 => hout j h1 (by omega))
    rw [show (buildS ns root).fst + (ns.length - (buildS ns root).fst) = ns.length by omega] at this
    rw [this]; exact h.num
  · have h1 := build_ps ns (nd ns root.toNat).kids bst0
    have h2 := rt.many root.toNat (by omega)
    have : (buildS ns root).ps.length ≤ _ := h1
    simp only [bst0, List.length_nil] at this
    omega
end Go.Ru

namespace Go.Proofs.YtkomdppjelnpdaaGreatDoor
open Go.AE Go.Ru
set_option maxRecDepth 100000
set_option pp.maxSteps 4000
set_option maxHeartbeats 1000000

def graphV (s : BSt) : AV := .agg [.p (.sl 5 s.n (gnF s.f)), .p (.sl 1 s.ps.length (kidF s.ps))]
def graphW (s : BSt) : AV := .agg [.p (.sl 5 s.n (gnW s.f)), .p (.sl 1 s.ps.length (kidF s.ps))]
def gnV (g : GN) : AV := .agg [intV g.k, intV g.pl, intV g.pr, intsV g.nx, intV g.ra]
def grW (s : BSt) : ABlk := .box 35 [.p (.sl 5 s.n (gnW s.f)), .p (.sl 1 s.ps.length (kidF s.ps))]
def endK (s : BSt) (kind proc : Int) : List ABlk := [grW s, .box 3 [intV kind], .box 3 [intV proc]]
def cEnd1 : AC := fun args K k => ∃ s x kind proc X, args = [gnV (s.f (x : Nat)), .ptr 1 0 1 0 0, .ptr 2 0 1 0 0] ∧ K = endK s kind proc ++ X ∧ k (.ret (.p (.bool (kindP s.f kind proc x)))) (endK s kind proc ++ X)
theorem end1_ok : COk 85 cEnd1 := by
  rintro args K k ⟨s, x, kind, proc, X, rfl, rfl, hk⟩
  refine frameG (K0 := endK s kind proc) (X := X) g0_ok 19 rfl ⟨rfl, rfl, rfl, trivial⟩ fun Q hr => ?_
  conv => whnf
  refine two_eq (fun h => ?_) (fun h => ?_)
  · have h : (s.f x).k = kind := h
    conv => whnf
    exact hr _ _ _ _ rfl rfl ⟨rfl, rfl, rfl, trivial⟩ (AV.le_refl _) (lesK.refl _) (by simp only [kindP, beq_iff_eq.2 h, Bool.true_and] at hk; exact hk)
  · have h : (s.f x).k ≠ kind := h
    conv => whnf
    exact hr _ _ _ _ rfl rfl ⟨rfl, rfl, rfl, trivial⟩ (AV.le_refl _) (lesK.refl _) (by simp only [kindP, beq_eq_false_iff_ne.2 h, Bool.false_and] at hk; exact hk)
def ofK (s : BSt) (place : Int) : List ABlk := [grW s, .box 3 [intV place]]
def cOf1 : AC := fun args K k => ∃ s x place X, args = [gnV (s.f (x : Nat)), .ptr 1 0 1 0 0] ∧ K = ofK s place ++ X ∧ k (.ret (.p (.bool (placeP s.f place x)))) (ofK s place ++ X)
theorem of1_ok : COk 49 cOf1 := by
  rintro args K k ⟨s, x, place, X, rfl, rfl, hk⟩
  refine frameG (K0 := ofK s place) (X := X) g0_ok 19 rfl ⟨rfl, rfl, trivial⟩ fun Q hr => ?_
  conv => whnf
  refine two_eq (fun h => ?_) (fun h => ?_)
  · have h : (s.f x).k = 4 := h
    conv => whnf
    exact hr _ _ _ _ rfl rfl ⟨rfl, rfl, trivial⟩ (AV.le_refl _) (lesK.refl _) (by simp only [placeP, beq_iff_eq.2 h, Bool.true_and] at hk; exact hk)
  · have h : (s.f x).k ≠ 4 := h
    conv => whnf
    exact hr _ _ _ _ rfl rfl ⟨rfl, rfl, trivial⟩ (AV.le_refl _) (lesK.refl _) (by simp only [placeP, beq_eq_false_iff_ne.2 h, Bool.false_and] at hk; exact hk)
def cIdxE : AC := fun args K k => ∃ s kind proc X, args = [.p (.sl 5 s.n (gnW s.f)), .fn 85 [] [.ptr 1 0 1 0 0, .ptr 2 0 1 0 0]] ∧ K = endK s kind proc ++ X ∧ s.n < 1000000 ∧ k (.ret (intV (endT s kind proc))) (endK s kind proc ++ X)
theorem idxE_ok : COk 48 cIdxE := by
  rintro args K k ⟨s, kind, proc, X, rfl, rfl, hn, hk⟩
  refine frameG (K0 := endK s kind proc) (X := X) (gput_ok end1_ok g0_ok) 19 rfl ⟨rfl, rfl, rfl, trivial⟩ fun Q hr => ?_
  conv => whnf
  refine loop_up (ι := Nat) [0, 1, 7] (fun i => [(8, intV i)]) (fun _ => []) (fun i => i ≤ s.n ∧ ∀ j, j < i → (kindP s.f kind proc) j = false) (fun i => s.n - i) 0 ⟨AV.le_refl _, trivial⟩ trivial ⟨Nat.zero_le _, fun j hj => by omega⟩ ?_
  rintro Y hle i ⟨hi, he⟩ ih
  conv => whnf
  refine two_dec (fun h => ?_) (fun h => ?_)
  · have h : i < s.n := by have h : (i : Int) < (s.n : Int) := h; omega
    have hw1 := wzz (i := i) (by omega)
    conv => whnf
    refine ⟨⟨by omega, by omega, rfl⟩, ?_⟩
    conv => whnf
    refine ⟨s, i, kind, proc, [], rfl, rfl, ?_⟩
    conv => whnf
    refine two_intro (fun h2 => ?_) (fun h2 => ?_)
    · have h2 : (kindP s.f kind proc) i = true := h2
      conv => whnf
      exact hr _ _ _ _ rfl rfl ⟨rfl, rfl, rfl, trivial⟩ (AV.le_refl _) (lesK.refl _) ((endS_at h h2 he) ▸ hk)
    · have h2 : (kindP s.f kind proc) i = false := h2
      conv => whnf
      refine hle _ _ (Le.env ?_ ?_) (ih (i + 1) (by omega) ⟨by omega, fun j hj => by
        by_cases e : j = i
        · rw [e]; exact h2
        · exact he j (by omega)⟩)
      · skip
        repeat' (first | exact trivial | ((conv => whnf); first | exact trivial | (refine And.intro (AV.le_refl _) ?_) | (refine And.intro (ABlk.le_refl _) ?_) | (refine And.intro (AV.le_of_eq ?_) ?_; (focus ((first | exact congrArg intV hw1 | fail); done))) | (refine And.intro (ABlk.le_of_eq ?_) ?_; (focus ((first | exact congrArg intV hw1 | fail); done))) | fail) | fail)
      · skip
        repeat' (first | exact trivial | ((conv => whnf); first | exact trivial | (refine And.intro (AV.le_refl _) ?_) | (refine And.intro (ABlk.le_refl _) ?_) | (refine And.intro (AV.le_of_eq ?_) ?_; (focus ((first | fail | fail); done))) | (refine And.intro (ABlk.le_of_eq ?_) ?_; (focus ((first | fail | fail); done))) | fail) | fail)
  · obtain rfl : i = s.n := by have h : ¬ (i : Int) < (s.n : Int) := h; omega
    conv => whnf
    exact hr _ _ _ _ rfl rfl ⟨rfl, rfl, rfl, trivial⟩ (AV.le_refl _) (lesK.refl _) ((endS_no he) ▸ hk)
def cIdxO : AC := fun args K k => ∃ s place X, args = [.p (.sl 5 s.n (gnW s.f)), .fn 49 [] [.ptr 1 0 1 0 0]] ∧ K = ofK s place ++ X ∧ s.n < 1000000 ∧ k (.ret (intV (ofT s place))) (ofK s place ++ X)
theorem idxO_ok : COk 48 cIdxO := by
  rintro args K k ⟨s, place, X, rfl, rfl, hn, hk⟩
  refine frameG (K0 := ofK s place) (X := X) (gput_ok of1_ok g0_ok) 19 rfl ⟨rfl, rfl, trivial⟩ fun Q hr => ?_
  conv => whnf
  refine loop_up (ι := Nat) [0, 1, 7] (fun i => [(8, intV i)]) (fun _ => []) (fun i => i ≤ s.n ∧ ∀ j, j < i → (placeP s.f place) j = false) (fun i => s.n - i) 0 ⟨AV.le_refl _, trivial⟩ trivial ⟨Nat.zero_le _, fun j hj => by omega⟩ ?_
  rintro Y hle i ⟨hi, he⟩ ih
  conv => whnf
  refine two_dec (fun h => ?_) (fun h => ?_)
  · have h : i < s.n := by have h : (i : Int) < (s.n : Int) := h; omega
    have hw1 := wzz (i := i) (by omega)
    conv => whnf
    refine ⟨⟨by omega, by omega, rfl⟩, ?_⟩
    conv => whnf
    refine ⟨s, i, place, [], rfl, rfl, ?_⟩
    conv => whnf
    refine two_intro (fun h2 => ?_) (fun h2 => ?_)
    · have h2 : (placeP s.f place) i = true := h2
      conv => whnf
      exact hr _ _ _ _ rfl rfl ⟨rfl, rfl, trivial⟩ (AV.le_refl _) (lesK.refl _) ((endS_at h h2 he) ▸ hk)
    · have h2 : (placeP s.f place) i = false := h2
      conv => whnf
      refine hle _ _ (Le.env ?_ ?_) (ih (i + 1) (by omega) ⟨by omega, fun j hj => by
        by_cases e : j = i
        · rw [e]; exact h2
        · exact he j (by omega)⟩)
      · skip
        repeat' (first | exact trivial | ((conv => whnf); first | exact trivial | (refine And.intro (AV.le_refl _) ?_) | (refine And.intro (ABlk.le_refl _) ?_) | (refine And.intro (AV.le_of_eq ?_) ?_; (focus ((first | exact congrArg intV hw1 | fail); done))) | (refine And.intro (ABlk.le_of_eq ?_) ?_; (focus ((first | exact congrArg intV hw1 | fail); done))) | fail) | fail)
      · skip
        repeat' (first | exact trivial | ((conv => whnf); first | exact trivial | (refine And.intro (AV.le_refl _) ?_) | (refine And.intro (ABlk.le_refl _) ?_) | (refine And.intro (AV.le_of_eq ?_) ?_; (focus ((first | fail | fail); done))) | (refine And.intro (ABlk.le_of_eq ?_) ?_; (focus ((first | fail | fail); done))) | fail) | fail)
  · obtain rfl : i = s.n := by have h : ¬ (i : Int) < (s.n : Int) := h; omega
    conv => whnf
    exact hr _ _ _ _ rfl rfl ⟨rfl, rfl, trivial⟩ (AV.le_refl _) (lesK.refl _) ((endS_no he) ▸ hk)

def gEnd : AG := gput 48 cIdxE g0
theorem gEnd_ok : GOk Tryz.prog gEnd := gput_ok idxE_ok g0_ok
def gOf : AG := gput 48 cIdxO g0
theorem gOf_ok : GOk Tryz.prog gOf := gput_ok idxO_ok g0_ok
def cEndM : AC := fun args K k => ∃ s kind proc, args = [graphW s, intV kind, intV proc] ∧ s.n < 1000000 ∧ k (.ret (intV (endT s kind proc))) K
theorem endM_ok : COk 56 cEndM := by
  rintro args K k ⟨s, kind, proc, rfl, hn, hk⟩
  refine frame0P gEnd_ok 19 rfl fun Q hr => ?_
  conv => whnf
  refine ⟨s, kind, proc, _, rfl, rfl, hn, ?_⟩
  conv => whnf
  exact hr _ _ rfl hk
def gEnd2 : AG := gput 56 cEndM g0
theorem gEnd2_ok : GOk Tryz.prog gEnd2 := gput_ok endM_ok g0_ok
/-- a graph with its ends told by an equation -/
def eEnds (kind : Int) : AC := fun args K k => ∃ s proc v, args = [graphW s, intV proc] ∧ s.n < 1000000 ∧ endT s kind proc = v ∧ k (.ret (intV v)) K
theorem entry_ok : COk 31 (eEnds 1) := by
  rintro args K k ⟨s, proc, v, rfl, hn, rfl, hk⟩
  refine frame0P gEnd2_ok 19 rfl fun Q hr => ?_
  conv => whnf
  refine ⟨s, 1, proc, rfl, hn, ?_⟩
  conv => whnf
  exact hr _ _ rfl hk
theorem exit_ok : COk 27 (eEnds 2) := by
  rintro args K k ⟨s, proc, v, rfl, hn, rfl, hk⟩
  refine frame0P gEnd2_ok 19 rfl fun Q hr => ?_
  conv => whnf
  refine ⟨s, 2, proc, rfl, hn, ?_⟩
  conv => whnf
  exact hr _ _ rfl hk
theorem fail_ok8 : COk 32 (eEnds 3) := by
  rintro args K k ⟨s, proc, v, rfl, hn, rfl, hk⟩
  refine frame0P gEnd2_ok 19 rfl fun Q hr => ?_
  conv => whnf
  refine ⟨s, 3, proc, rfl, hn, ?_⟩
  conv => whnf
  exact hr _ _ rfl hk
def eOf : AC := fun args K k => ∃ s place v, args = [graphW s, intV place] ∧ s.n < 1000000 ∧ ofT s place = v ∧ k (.ret (intV v)) K
theorem of_ok : COk 19 eOf := by
  rintro args K k ⟨s, place, v, rfl, hn, rfl, hk⟩
  refine frame0P gOf_ok 19 rfl fun Q hr => ?_
  conv => whnf
  refine ⟨s, place, _, rfl, rfl, hn, ?_⟩
  conv => whnf
  exact hr _ _ rfl hk
end Go.Proofs.YtkomdppjelnpdaaGreatDoor

namespace Go.AE
theorem Le.fzx {kb : Nat} {t : List (Nat × AV)} {K K' : List ABlk} {r ty sz n : Nat} {f : Nat → List AV} (g : Nat → List PV) (hr : nth K r = some (.arr ty sz 0 n f)) (hg : ∀ i, i < n → f i = pvs (g i))
    (hK : fsxK r sz n g (setN K r .dead) K') : Le kb ⟨t, K⟩ ⟨t, K'⟩ := fun we me hk w m tmps hT hS hE => by
  obtain ⟨m', h1, h2, h3⟩ := fzx_core hS hr hg hK
  exact ⟨m', hT.trans h1, h2, fun d => h3 _ _ _ (.inl (AV.le_refl _)) (hE d), .tr h1 h2⟩
theorem pvs_map (l : List PV) : pvs l = l.map AV.p := by
  induction l with
  | nil => rfl
  | cons a l ih => simp only [pvs, ih, List.map_cons]
theorem Fz.row {K : List ABlk} {r ty sz n : Nat} {g : Nat → List PV} (hr : nth K r = some (.arr ty sz 0 n (fun i => pvs (g i)))) : Fz K (.slr r 0 0 n) (.sl sz n g) := by
  refine .sl r ty sz 0 n 0 n _ g hr (Nat.zero_add _) (fun i hi => ?_) (fun i hi j hj hj' => ?_)
  · simp only [pvs_map, List.length_map, Nat.zero_add]
  · simp only [pvs_map, List.getElem_map, Nat.zero_add]
    exact .p _
theorem Le.fz7 {kb : Nat} {t : List (Nat × AV)} {b0 b1 b2 b3 b4 b5 b5' b6 : ABlk} {Y : List ABlk} {r ty sz n : Nat} {f : Nat → List AV} (g : Nat → List PV) (hr : nth Y r = some (.arr ty sz 0 n f)) (hg : ∀ i, i < n → f i = pvs (g i))
    (h5 : fsxB (r + 7) sz n g b5 b5') : Le kb ⟨t, b0 :: b1 :: b2 :: b3 :: b4 :: b5 :: b6 :: Y⟩ ⟨t, b0 :: b1 :: b2 :: b3 :: b4 :: b5' :: b6 :: setN Y r .dead⟩ :=
  Le.fzx (r := r + 7) g hr hg ⟨.inl (.inl (ABlk.le_refl _)), .inl (.inl (ABlk.le_refl _)), .inl (.inl (ABlk.le_refl _)), .inl (.inl (ABlk.le_refl _)), .inl (.inl (ABlk.le_refl _)), h5, .inl (.inl (ABlk.le_refl _)), fsxK.refl _ _ _ _ _⟩
end Go.AE
namespace Go.Proofs.YtkomdppjelnpdaaGreatDoor
open Go.AE Go.Ru
set_option maxRecDepth 100000
set_option pp.maxSteps 4000
set_option maxHeartbeats 2000000

def eFbl : AC := fun args K k => ∃ (ns : List Nd) (root : Int) (n : Nat) (G : Nat → GN) (of : Int → Option Nat) (ex : Int) (np : Nat) (pf : Nat → Int) (p : Nat) (fo h : Int) (X : List ABlk) (ex' p' fo' h' : Int) (b : Int) (G' : Nat → GN),
  args = [lpV, intV p', intV fo', intV h'] ∧ K = stK ns root n G of ex' np pf ++ X ∧ p' = (p : Int) ∧ fo' = fo ∧ h' = h ∧ ex' = ex ∧ RightT ns root ∧ p < ns.length ∧ (nd ns p).k = 6 ∧ OfOk ns of n p ∧ flBlock ns of ex 4000 p fo h G = (b, G') ∧
  k (.ret (intV b)) (stK ns root n G' of ex np pf ++ X)
theorem eFbl_ok : COk 47 eFbl := by
  rintro args K k ⟨ns, root, n, G, of, ex, np, pf, p, fo, h, X, _, _, _, _, b, G', h1, h2, rfl, rfl, rfl, rfl, rt, h3, h4, h5, h6, h7⟩
  have := rt.len
  exact fbl_ok (fst_ok 4000) args K k ⟨ns, root, n, G, of, _, np, pf, p, _, _, X, h1, h2, rt, h3, by omega, h4, h5, by rw [h6]; exact h7⟩
/-- the first of a procedure's ends -/
def endsJ (n : Nat) (f : Nat → GN) (p num : Int) : Nat → Nat → GN
  | 0 => f
  | 1 => addG n f ⟨1, p, num, [], -1⟩
  | 2 => addG (n + 1) (addG n f ⟨1, p, num, [], -1⟩) ⟨2, p, num, [], -1⟩
  | _ => endsS n f p num
/-- a row, one more -/
theorem gn_snoc {n : Nat} {G : Nat → GN} {x : GN} {f : Nat → List AV} (hf : f 0 = pvs (gnF (fun _ => x) 0)) :
    (ABlk.arr 41 5 0 (n + 1) (catF n (fun i => pvs (gnF G i)) f)).le (gnA (n + 1) (addG n G x)) := by
  refine ABlk.arr_eq rfl fun i hi => ?_
  by_cases h : i < n
  · rw [catF_lt h]
    simp [gnF, addG, show i ≠ n by omega]
  · obtain rfl : i = n := by omega
    rw [catF_ge (Nat.le_refl _), Nat.sub_self, hf]
    simp [gnF, addG]
theorem ps_snoc {l : List Int} {x : Int} : (ABlk.arr 3 1 0 (l.length + 1) (catF l.length (fun i => pvs (rowF (fun i => l.getD i 0) i)) fun i => takeN (dropN [intV x] (i * 1)) 1)).le (rowA (l.length + 1) (fun i => (l ++ [x]).getD i 0)) := by
  refine ABlk.arr_eq rfl fun i hi => ?_
  by_cases h : i < l.length
  · rw [catF_lt h]
    simp [rowF, List.getD_eq_getElem?_getD, List.getElem?_append_left h]
  · obtain rfl : i = l.length := by omega
    rw [catF_ge (Nat.le_refl _), Nat.sub_self]
    simp [rowF, pvs, intV, takeN, dropN]
theorem nd_cl {n m : Nat} {G : Nat → GN} {f : Nat → List AV} {ty sz : Nat} (hf : AV.cls m (f 0) = true) : (ABlk.arr ty sz 0 (n + 1) (catF n (fun i => pvs (gnF G i)) f)).cl m := fun i hi => by
  by_cases h : i < n
  · rw [catF_lt h]; rfl
  · obtain rfl : i = n := by omega
    rw [catF_ge (Nat.le_refl _), Nat.sub_self]; exact hf
theorem row3_cl {m : Nat} {a b c : Int} : ∀ i, i < 3 → AV.cls m (takeN (dropN [AV.p (.int .i64 a), AV.p (.int .i64 b), AV.p (.int .i64 c)] (i * 1)) 1) = true := fun i hi => by
  rcases (by omega : i = 0 ∨ i = 1 ∨ i = 2) with rfl | rfl | rfl <;> rfl
theorem row1_cl {m : Nat} {a : Int} : ∀ i, i < 1 → AV.cls m (takeN (dropN [AV.p (.int .i64 a)] (i * 1)) 1) = true := fun i hi => by
  obtain rfl : i = 0 := by omega
  rfl
theorem ofG_ins {of : Int → Option Nat} {i : Int} {n : Nat} {p : Nat} (h : i = (p : Int)) : insM (ofG of) (.i .i64 i) (intV (n : Int)) = ofG (insO of p n) := by
  subst h
  funext κ
  cases κ with
  | s l => simp [insM, ofG]
  | i q o =>
    unfold insM ofG insO
    by_cases hq : q = .i64
    · subst hq
      by_cases ho : o = (p : Int)
      · subst ho; simp
      · have : (MK.i .i64 o) ≠ MK.i .i64 (p : Int) := fun h => ho (by injection h)
        simp only [this, ho, if_false]
    · have : (MK.i q o) ≠ MK.i .i64 (p : Int) := fun h => hq (by injection h)
      simp only [this, hq, if_false]
theorem gn_upd1 {G : Nat → GN} {j a1 : Nat} {c1 : List AV} {v : AV} (h1 : a1 = j) (hc1 : c1 = [v]) (i : Nat) :
    updF (fun i => pvs (gnF G i)) a1 (putCells ((fun i => pvs (gnF G i)) a1) (0 + 3) c1) i =
      if i = j then [intV (G j).k, intV (G j).pl, intV (G j).pr, v, intV (G j).ra] else pvs (gnF G i) := by
  subst h1 hc1
  simp only [updF_eq]
  split <;> rfl
theorem ofG0 : ABlk.mp (.int .i64) (fun _ => none) [] = .mp (.int .i64) (ofG fun _ => none) [] := by
  congr 1
  funext κ
  cases κ <;> simp [ofG]
theorem fzv_graph {K : List ABlk} {s : BSt} (h1 : nth K 5 = some (gnA s.n s.f)) (h2 : nth K 6 = some (rowA s.ps.length (fun i => s.ps.getD i 0))) :
    FzV K (.tup [.agg [.slr 5 0 0 s.n, .slr 6 0 0 s.ps.length], intV 0]) (.tup [graphV s, intV 0]) := by
  refine .tup _ _ rfl fun j hj hj' => ?_
  rcases j with _ | _ | j
  · refine .agg _ _ rfl fun j hj hj' => ?_
    rcases j with _ | _ | j
    · exact .p _ _ (Fz.row h1)
    · exact .p _ _ (Fz.row (g := kidF s.ps) h2)
    · simp at hj; omega
  · exact .p _ _ (.p _)
  · simp at hj; omega
def gBuild : AG := gput 36 eCheck (gput 47 eFbl g0)
theorem gBuild_ok : GOk Tryz.prog gBuild := gput_ok eCheck_ok (gput_ok eFbl_ok g0_ok)
def graph0 : AV := .agg [.p .nils, .p .nils]
def eBuild : AC := fun args K k => ∃ ns root a e s, args = [treeV ns root] ∧ Tame ns ∧ checkTree ns root = (a, e) ∧ buildS ns root = s ∧ (e ≠ 0 → k (.ret (.tup [graph0, intV 1])) K) ∧ (e = 0 → k (.ret (.tup [graphV s, intV 0])) K)
structure BC where
  s : BSt
  j : Nat
  ex : Int
structure B1 where
  i : Nat
  s : SS
theorem build_okW : COk 18 eBuild := by
  rintro args K k ⟨ns, root, a, e, s, rfl, ta, hc, hs, hk1, hk0⟩
  by_cases he : e = 0
  case neg =>
    refine frame0P gBuild_ok 19 rfl fun Q hr => ?_
    conv => whnf
    refine ⟨ns, root, a, e, rfl, ta, hc, ?_⟩
    conv => whnf
    refine two_ne (fun _ => ?_) (fun h => absurd h he)
    conv => whnf
    exact hr _ _ rfl (hk1 he)
  subst he
  have hk := hk0 rfl
  clear hk0 hk1
  have rt := right_of (check_right hc)
  have hlen := rt.len
  have hrt := rt.rt
  have hpos := rt.pos
  refine frame0W gBuild_ok 19 rfl fun Q hr => ?_
  have hksl : (nd ns root.toNat).kids.length < ns.length := by have := rt.many root.toNat (by omega); omega
  conv => whnf
  refine ⟨ns, root, a, 0, rfl, ta, hc, ?_⟩
  conv => whnf
  refine ⟨⟨by omega, by omega, rfl⟩, ?_⟩
  conv => whnf
  refine LoopW.le (Le.nilRow (t' := [(1, .ptr 0 0 1 0 0), (2, .ptr 1 0 1 0 0), (3, intV 0), (6, .ptr 2 0 1 0 0), (7, lpV), (35, intsV (nd ns root.toNat).kids), (36, intV (nd ns root.toNat).kids.length), (8, intV 0), (37, intV 0)])
    (K' := [tbox ns root, .box 35 [.p .nils, .p .nils], .box 35 [.slr 5 0 0 0, .p .nils], .mp (.int .i64) (ofG fun _ => none) [], layB ns root 0]) 41 5 (fun i => pvs (gnF bst0.f i)) rfl
    ⟨.inl (AV.le_refl _), .inl (AV.le_refl _), .inl (AV.le_refl _), .inl (AV.le_refl _), .inl (AV.le_refl _), .inl (AV.le_refl _), .inl (AV.le_refl _), .inl (AV.le_refl _), .inl (AV.le_refl _), trivial⟩
    ⟨.inl (ABlk.le_refl _), .inl (ABlk.le_refl _), .inr ⟨_, _, _, rfl, rfl, .inr ⟨rfl, rfl⟩, .inl (AV.le_refl _), trivial⟩, .inl (ABlk.le_of_eq ofG0), .inl (ABlk.le_refl _), trivial⟩) ?_
  refine loop_nil (ι := BC) 3 1 (fun i => pvs (rowF (fun i => bst0.ps.getD i 0) i)) (fun c => ⟨[(1, .ptr 0 0 1 0 0), (2, .ptr 1 0 1 0 0), (3, intV 0), (6, .ptr 2 0 1 0 0), (7, lpV), (35, intsV (nd ns root.toNat).kids), (36, intV (nd ns root.toNat).kids.length), (8, intV c.s.fst), (37, intV c.j)],
      stK ns root c.s.n c.s.f c.s.of c.ex c.s.ps.length (fun i => c.s.ps.getD i 0)⟩)
    (fun c => c.j ≤ (nd ns root.toNat).kids.length ∧ BPre ns root ((nd ns root.toNat).kids.take c.j) ((nd ns root.toNat).kids.drop c.j) c.s ∧ buildR ns ((nd ns root.toNat).kids.drop c.j) c.s = s ∧ c.s.ps.length ≤ c.j) (fun c => (nd ns root.toNat).kids.length - c.j) ⟨bst0, 0, 0⟩
    [tbox ns root, .box 35 [.p .nils, .p .nils], grB 0 0, .mp (.int .i64) (ofG fun _ => none) [], layB ns root 0, gnA 0 bst0.f]
    rfl ⟨.inl (AV.le_refl _), .inl (AV.le_refl _), .inl (AV.le_refl _), .inl (AV.le_refl _), .inl (AV.le_refl _), .inl (AV.le_refl _), .inl (AV.le_refl _), .inl (AV.le_refl _), .inl (AV.le_refl _), trivial⟩
    ⟨.inl (ABlk.le_refl _), .inl (ABlk.le_refl _), .inr ⟨_, _, _, rfl, rfl, .inl (AV.le_refl _), .inr ⟨rfl, rfl⟩, trivial⟩, .inl (ABlk.le_refl _), .inl (ABlk.le_refl _), .inl (ABlk.le_refl _), trivial⟩
    rfl ⟨Nat.zero_le _, bpre0 rt, hs, Nat.le_refl _⟩ ?_
  rintro Y hle ⟨s0, j, ex⟩ ⟨hj, hpre, hbd, hpsl⟩ ih
  simp only at hj hpre hbd hpsl
  conv => whnf
  refine two_dec (fun h => ?_) (fun h => ?_)
  · have h : j < (nd ns root.toNat).kids.length := by have h : (j : Int) < ((nd ns root.toNat).kids.length : Int) := h; omega
    have hw1 := wzz (i := j) (by omega)
    rw [List.drop_eq_getElem_cons h] at hbd hpre
    have e1 : (nd ns root.toNat).kids.getD j 0 = (nd ns root.toNat).kids[j] := by simp [h]
    rw [← e1] at hbd hpre
    obtain ⟨q, hq⟩ : ∃ q, (nd ns root.toNat).kids.getD j 0 = q := ⟨_, rfl⟩
    rw [hq] at hbd hpre
    rw [buildR_cons] at hbd
    obtain ⟨sh, hq0, _⟩ := step_h rt hpre.hd hpre.ahead hpre.left
    obtain ⟨q, rfl⟩ : ∃ x : Nat, q = (x : Int) := ⟨q.toNat, by omega⟩
    have hnext := hpre.step rt
    rw [Int.toNat_natCast] at sh hbd hnext
    have htk : (nd ns root.toNat).kids.take j ++ [(q : Int)] = (nd ns root.toNat).kids.take (j + 1) := by
      rw [List.take_add_one, ← hq, List.getD_eq_getElem?_getD, List.getElem?_eq_getElem h]; rfl
    rw [htk] at hnext
    have hql : q < ns.length := by have := sh.lt; omega
    have hlo := sh.lo
    obtain ⟨e, hinv⟩ := hpre.inv
    have hnum := hinv.num
    have hcl := cntB_le (stP' ns) s0.fst
    have hqv : ((nd ns root.toNat).kids.getD ((j : Int)).toNat 0) = (q : Int) := hq
    have hb0 : 0 ≤ (nd ns root.toNat).kids.getD ((j : Int)).toNat 0 := by rw [hqv]; omega
    have hb1 : (nd ns root.toNat).kids.getD ((j : Int)).toNat 0 < (ns.length : Int) := by rw [hqv]; omega
    have hwq : IntKind.i64.wrap ((nd ns root.toNat).kids.getD ((j : Int)).toNat 0 + 1) = ((q + 1 : Nat) : Int) := by rw [hqv, w64 ⟨by omega, by omega⟩]; omega
    conv => whnf
    refine Chk.mk ⟨by omega, by omega, rfl⟩ ?_
    conv => whnf
    refine Chk.mk ⟨hb0, hb1, rfl⟩ ?_
    conv => whnf
    refine two_eq (fun h3 => ?_) (fun h3 => ?_)
    · have h3 : (nd ns q).k = 3 := by
        have h3 : (nd ns ((nd ns root.toNat).kids.getD ((j : Int)).toNat 0).toNat).k = 3 := h3
        rw [hqv] at h3; exact h3
      conv => whnf
      refine Chk.mk ⟨rfl, rfl, rfl, allLt_ok ⟨trivial, rfl⟩⟩ ?_
      conv => whnf
      refine Chk.mk ⟨rfl, rfl, rfl, rfl, (by show (s0.ps.length + 1) * 8 ≤ 140737488355328; omega), (by show s0.ps.length + 1 ≤ 9223372036854775807; omega)⟩ ?_
      conv => whnf
      have hps : (ABlk.arr 3 1 0 (s0.ps.length + 1) (catF s0.ps.length (fun i => pvs (rowF (fun i => s0.ps.getD i 0) i)) fun i => takeN (dropN [intV ((nd ns root.toNat).kids.getD ((j : Int)).toNat 0)] (i * 1)) 1)).le (rowA (s0.ps.length + 1) (fun i => (s0.ps ++ [(q : Int)]).getD i 0)) := by
        rw [hqv]; exact ps_snoc
      refine loop_up (ι := Nat) [1, 2, 3, 6, 7, 8, 10, 11, 35, 36, 37, 57, 58] (fun i => [(59, intV i)]) (fun i => [(2, grB (s0.n + i) (s0.ps.length + 1)), (5, gnA (s0.n + i) (endsJ s0.n s0.f (q : Int) (s0.ps.length : Int) i)), (6, rowA (s0.ps.length + 1) (fun i => (s0.ps ++ [(q : Int)]).getD i 0))])
        (fun i => i ≤ 3) (fun i => 3 - i) 0 ⟨AV.le_refl _, trivial⟩ ⟨upLe1 rfl (ABlk.le_refl _), upLe1 rfl (ABlk.le_refl _), upLe1 rfl hps, trivial⟩ (by decide) ?_
      rintro Z hlz i hi ihz
      have hi : i = 0 ∨ i = 1 ∨ i = 2 ∨ i = 3 := by omega
      rcases hi with rfl | rfl | rfl | rfl
      · skip
        conv => whnf
        refine Chk.mk ⟨rfl, rfl, by decide, by decide, rfl⟩ ?_
        conv => whnf
        refine Chk.mk ⟨rfl, rfl⟩ ?_
        conv => whnf
        refine Chk.mk ⟨rfl, rfl, rfl, allLt_ok ⟨trivial, rfl⟩⟩ ?_
        conv => whnf
        refine Chk.mk ⟨rfl, rfl, rfl, rfl, (by show (s0.n + 0 + 1) * 56 ≤ 140737488355328; omega), (by show s0.n + 0 + 1 ≤ 9223372036854775807; omega)⟩ ?_
        conv => whnf
        refine hlz _ _ (Le.cutEnv 9 rfl rfl ⟨rfl, rfl, rfl, ofG_cl, rfl, nd_cl rfl, fun _ _ => rfl, row1_cl, row3_cl, trivial⟩ ?_ ?_) (ihz 1 (by decide) (by decide))
        · skip
          repeat' (first | exact trivial | ((conv => whnf); first | exact trivial | (refine And.intro (AV.le_refl _) ?_) | (refine And.intro (ABlk.le_refl _) ?_) | (refine And.intro (AV.le_of_eq ?_) ?_; (focus ((first | fail | fail); done))) | (refine And.intro (ABlk.le_of_eq ?_) ?_; (focus ((first | fail | fail); done))) | fail) | fail)
        · skip
          iterate 5 ((conv => whnf); refine ⟨ABlk.le_refl _, ?_⟩)
          (conv => whnf); refine ⟨gn_snoc (x := ⟨1, q, s0.ps.length, [], -1⟩) (congrArg (fun v => [intV 1, intV v, intV (s0.ps.length : Int), .p .nils, intV (-1)]) hqv), ?_⟩
          iterate 3 ((conv => whnf); refine ⟨ABlk.le_refl _, ?_⟩)
          (conv => whnf); exact trivial
      · skip
        conv => whnf
        refine Chk.mk ⟨rfl, rfl, by decide, by decide, rfl⟩ ?_
        conv => whnf
        refine Chk.mk ⟨rfl, rfl⟩ ?_
        conv => whnf
        refine Chk.mk ⟨rfl, rfl, rfl, allLt_ok ⟨trivial, rfl⟩⟩ ?_
        conv => whnf
        refine Chk.mk ⟨rfl, rfl, rfl, rfl, (by show (s0.n + 1 + 1) * 56 ≤ 140737488355328; omega), (by show s0.n + 1 + 1 ≤ 9223372036854775807; omega)⟩ ?_
        conv => whnf
        refine hlz _ _ (Le.cutEnv 9 rfl rfl ⟨rfl, rfl, rfl, ofG_cl, rfl, nd_cl rfl, fun _ _ => rfl, row1_cl, row3_cl, trivial⟩ ?_ ?_) (ihz 2 (by decide) (by decide))
        · skip
          repeat' (first | exact trivial | ((conv => whnf); first | exact trivial | (refine And.intro (AV.le_refl _) ?_) | (refine And.intro (ABlk.le_refl _) ?_) | (refine And.intro (AV.le_of_eq ?_) ?_; (focus ((first | fail | fail); done))) | (refine And.intro (ABlk.le_of_eq ?_) ?_; (focus ((first | fail | fail); done))) | fail) | fail)
        · skip
          iterate 5 ((conv => whnf); refine ⟨ABlk.le_refl _, ?_⟩)
          (conv => whnf); refine ⟨gn_snoc (x := ⟨2, q, s0.ps.length, [], -1⟩) (congrArg (fun v => [intV 2, intV v, intV (s0.ps.length : Int), .p .nils, intV (-1)]) hqv), ?_⟩
          iterate 3 ((conv => whnf); refine ⟨ABlk.le_refl _, ?_⟩)
          (conv => whnf); exact trivial
      · skip
        conv => whnf
        refine Chk.mk ⟨rfl, rfl, by decide, by decide, rfl⟩ ?_
        conv => whnf
        refine Chk.mk ⟨rfl, rfl⟩ ?_
        conv => whnf
        refine Chk.mk ⟨rfl, rfl, rfl, allLt_ok ⟨trivial, rfl⟩⟩ ?_
        conv => whnf
        refine Chk.mk ⟨rfl, rfl, rfl, rfl, (by show (s0.n + 2 + 1) * 56 ≤ 140737488355328; omega), (by show s0.n + 2 + 1 ≤ 9223372036854775807; omega)⟩ ?_
        conv => whnf
        refine hlz _ _ (Le.cutEnv 9 rfl rfl ⟨rfl, rfl, rfl, ofG_cl, rfl, nd_cl rfl, fun _ _ => rfl, row1_cl, row3_cl, trivial⟩ ?_ ?_) (ihz 3 (by decide) (by decide))
        · skip
          repeat' (first | exact trivial | ((conv => whnf); first | exact trivial | (refine And.intro (AV.le_refl _) ?_) | (refine And.intro (ABlk.le_refl _) ?_) | (refine And.intro (AV.le_of_eq ?_) ?_; (focus ((first | fail | fail); done))) | (refine And.intro (ABlk.le_of_eq ?_) ?_; (focus ((first | fail | fail); done))) | fail) | fail)
        · skip
          iterate 5 ((conv => whnf); refine ⟨ABlk.le_refl _, ?_⟩)
          (conv => whnf); refine ⟨gn_snoc (x := ⟨3, q, s0.ps.length, [], -1⟩) (congrArg (fun v => [intV 3, intV v, intV (s0.ps.length : Int), .p .nils, intV (-1)]) hqv), ?_⟩
          iterate 3 ((conv => whnf); refine ⟨ABlk.le_refl _, ?_⟩)
          (conv => whnf); exact trivial
      obtain ⟨s1, hs1⟩ : ∃ s1, stepsS ns (s0.ps.length : Int) (q - s0.fst) s0.fst ⟨s0.n + 3, endsS s0.n s0.f (q : Int) (s0.ps.length : Int), s0.of⟩ = s1 := ⟨_, rfl⟩
      conv => whnf
      refine loop_up (ι := B1) [1, 2, 3, 6, 7, 8, 10, 11, 14, 35, 36, 37] (fun c => [(15, intV c.i)]) (fun c => [(2, grB c.s.n (s0.ps.length + 1)), (3, .mp (.int .i64) (ofG c.s.of) []), (5, gnA c.s.n c.s.f)])
        (fun c => s0.fst ≤ c.i ∧ c.i ≤ q ∧ stepsS ns (s0.ps.length : Int) (q - c.i) c.i c.s = s1 ∧ c.s.n ≤ 3 + s0.n + c.i) (fun c => q - c.i) ⟨s0.fst, ⟨s0.n + 3, endsS s0.n s0.f (q : Int) (s0.ps.length : Int), s0.of⟩⟩
        ⟨AV.le_refl _, trivial⟩ ⟨upLe1 rfl (ABlk.le_refl _), upLe1 rfl (ABlk.le_refl _), upLe1 rfl (ABlk.le_refl _), trivial⟩ ⟨Nat.le_refl _, hlo, hs1, by simp only; omega⟩ ?_
      rintro Z1 hlz1 ⟨i, t⟩ ⟨hi1, hi2, hst1, hn1⟩ ihz1
      simp only at hi1 hi2 hst1 hn1
      conv => whnf
      refine two_dec (fun h4 => ?_) (fun h4 => ?_)
      · have h4 : i < q := by
          have h4 : (i : Int) < (nd ns root.toNat).kids.getD ((j : Int)).toNat 0 := h4
          rw [hqv] at h4; omega
        rw [show q - i = (q - (i + 1)) + 1 by omega] at hst1
        simp only [stepsS] at hst1
        have hwi := wzz (i := i) (by omega)
        have hil : (i : Int) < (ns.length : Int) := by omega
        have hno : stB (nd ns i).k = false → stepsS ns (s0.ps.length : Int) (q - (i + 1)) (i + 1) t = s1 := fun e => by rw [e] at hst1; exact hst1
        have hyes : stB (nd ns i).k = true → stepsS ns (s0.ps.length : Int) (q - (i + 1)) (i + 1) ⟨t.n + 1, addG t.n t.f ⟨4, (i : Int), (s0.ps.length : Int), [], -1⟩, insO t.of i t.n⟩ = s1 := fun e => by rw [e] at hst1; exact hst1
        conv => whnf
        refine Chk.mk ⟨Int.natCast_nonneg _, hil, rfl⟩ ?_
        conv => whnf
        refine two_dec (fun h7 => ?_) (fun h7 => ?_)
        · have h7 : (nd ns i).k ≥ 7 := h7
          conv => whnf
          refine two_dec (fun h17 => ?_) (fun h17 => ?_)
          · have h17 : (nd ns i).k ≤ 17 := h17
            have hst1 := hyes (stB_iff.2 ⟨h7, h17⟩)
            conv => whnf
            refine Chk.mk ⟨rfl, rfl, rfl, allLt_ok ⟨trivial, rfl⟩⟩ ?_
            conv => whnf
            refine Chk.mk ⟨rfl, rfl, rfl, rfl, (by show (t.n + 1) * 56 ≤ 140737488355328; omega), (by show t.n + 1 ≤ 9223372036854775807; omega)⟩ ?_
            conv => whnf
            refine hlz1 _ _ (Le.cutEnv 9 rfl rfl ⟨rfl, rfl, rfl, fun κ a h => ofG_cl κ a ((congrFun (ofG_ins rfl) κ).symm.trans h), rfl, nd_cl rfl, fun _ _ => rfl, row1_cl, row3_cl, trivial⟩ ?_ ?_) (ihz1 ⟨i + 1, ⟨t.n + 1, addG t.n t.f ⟨4, (i : Int), (s0.ps.length : Int), [], -1⟩, insO t.of i t.n⟩⟩ (by simp only; omega) ⟨by simp only; omega, by simp only; omega, hst1, by simp only; omega⟩)
            · skip
              repeat' (first | exact trivial | ((conv => whnf); first | exact trivial | (refine And.intro (AV.le_refl _) ?_) | (refine And.intro (ABlk.le_refl _) ?_) | (refine And.intro (AV.le_of_eq ?_) ?_; (focus ((first | exact congrArg intV hwi | fail); done))) | (refine And.intro (ABlk.le_of_eq ?_) ?_; (focus ((first | exact congrArg intV hwi | fail); done))) | fail) | fail)
            · skip
              iterate 3 ((conv => whnf); refine ⟨ABlk.le_refl _, ?_⟩)
              (conv => whnf); refine ⟨ABlk.le_of_eq (congrArg (fun g => ABlk.mp (.int .i64) g []) (ofG_ins rfl)), ?_⟩
              iterate 1 ((conv => whnf); refine ⟨ABlk.le_refl _, ?_⟩)
              (conv => whnf); refine ⟨gn_snoc (x := ⟨4, i, s0.ps.length, [], -1⟩) rfl, ?_⟩
              iterate 3 ((conv => whnf); refine ⟨ABlk.le_refl _, ?_⟩)
              (conv => whnf); exact trivial
          · have h17 : ¬ (nd ns i).k ≤ 17 := h17
            have hst1 := hno (by simp [stB, h17])
            conv => whnf
            refine hlz1 _ _ (Le.cutEnv 9 rfl rfl ⟨rfl, rfl, rfl, ofG_cl, rfl, fun _ _ => rfl, fun _ _ => rfl, row1_cl, row3_cl, trivial⟩ ?_ ?_) (ihz1 ⟨i + 1, t⟩ (by simp only; omega) ⟨by simp only; omega, by simp only; omega, hst1, by simp only; omega⟩)
            · skip
              repeat' (first | exact trivial | ((conv => whnf); first | exact trivial | (refine And.intro (AV.le_refl _) ?_) | (refine And.intro (ABlk.le_refl _) ?_) | (refine And.intro (AV.le_of_eq ?_) ?_; (focus ((first | exact congrArg intV hwi | fail); done))) | (refine And.intro (ABlk.le_of_eq ?_) ?_; (focus ((first | exact congrArg intV hwi | fail); done))) | fail) | fail)
            · skip
              repeat' (first | exact trivial | ((conv => whnf); first | exact trivial | (refine And.intro (AV.le_refl _) ?_) | (refine And.intro (ABlk.le_refl _) ?_) | (refine And.intro (AV.le_of_eq ?_) ?_; (focus ((first | fail | fail); done))) | (refine And.intro (ABlk.le_of_eq ?_) ?_; (focus ((first | fail | fail); done))) | fail) | fail)
        · have h7 : ¬ (nd ns i).k ≥ 7 := h7
          have hst1 := hno (by simp [stB]; omega)
          conv => whnf
          refine hlz1 _ _ (Le.cutEnv 9 rfl rfl ⟨rfl, rfl, rfl, ofG_cl, rfl, fun _ _ => rfl, fun _ _ => rfl, row1_cl, row3_cl, trivial⟩ ?_ ?_) (ihz1 ⟨i + 1, t⟩ (by simp only; omega) ⟨by simp only; omega, by simp only; omega, hst1, by simp only; omega⟩)
          · skip
            repeat' (first | exact trivial | ((conv => whnf); first | exact trivial | (refine And.intro (AV.le_refl _) ?_) | (refine And.intro (ABlk.le_refl _) ?_) | (refine And.intro (AV.le_of_eq ?_) ?_; (focus ((first | exact congrArg intV hwi | fail); done))) | (refine And.intro (ABlk.le_of_eq ?_) ?_; (focus ((first | exact congrArg intV hwi | fail); done))) | fail) | fail)
          · skip
            repeat' (first | exact trivial | ((conv => whnf); first | exact trivial | (refine And.intro (AV.le_refl _) ?_) | (refine And.intro (ABlk.le_refl _) ?_) | (refine And.intro (AV.le_of_eq ?_) ?_; (focus ((first | fail | fail); done))) | (refine And.intro (ABlk.le_of_eq ?_) ?_; (focus ((first | fail | fail); done))) | fail) | fail)
      · have h4 : q = i := by
          have h4 : ¬ (i : Int) < (nd ns root.toNat).kids.getD ((j : Int)).toNat 0 := h4
          rw [hqv] at h4; omega
        subst h4
        rw [Nat.sub_self] at hst1
        simp only [stepsS] at hst1
        have hst1 := hst1.symm
        subst hst1
        obtain ⟨l, b, hkids, hkb, _⟩ := rt.body hql h3
        obtain ⟨b0, b1, b2⟩ := rt.kid q hql b (by rw [hkids]; simp)
        have hkR : (ns.getD ((nd ns root.toNat).kids.getD ((j : Int)).toNat 0).toNat default).kids = l ++ [b] := by rw [hqv]; exact hkids
        have hll : l.length < 4000 := by have := rt.many q hql; rw [hkids] at this; simp at this; omega
        have hwl : IntKind.i64.wrap (((ns.getD ((nd ns root.toNat).kids.getD ((j : Int)).toNat 0).toNat default).kids.length : Int) - 1) = (l.length : Int) := by
          rw [hkR, show ((l ++ [b]).length : Int) - 1 = (l.length : Int) by simp, w64 ⟨by omega, by omega⟩]
        have hc0 : 0 ≤ IntKind.i64.wrap (((ns.getD ((nd ns root.toNat).kids.getD ((j : Int)).toNat 0).toNat default).kids.length : Int) - 1) := by rw [hwl]; omega
        have hc1 : IntKind.i64.wrap (((ns.getD ((nd ns root.toNat).kids.getD ((j : Int)).toNat 0).toNat default).kids.length : Int) - 1) < ((ns.getD ((nd ns root.toNat).kids.getD ((j : Int)).toNat 0).toNat default).kids.length : Int) := by rw [hwl, hkR]; simp; omega
        have hbq : (ns.getD ((nd ns root.toNat).kids.getD ((j : Int)).toNat 0).toNat default).kids.getD (IntKind.i64.wrap (((ns.getD ((nd ns root.toNat).kids.getD ((j : Int)).toNat 0).toNat default).kids.length : Int) - 1)).toNat 0 = (b.toNat : Int) := by
          rw [hwl, hkR]; simp [Int.toNat_of_nonneg b0]
        have hfo : IntKind.i64.wrap (IntKind.i64.wrap (((s0.n + 3 : Nat) : Int) - 3) + 1) = (s0.n : Int) + 1 := by
          rw [show (((s0.n + 3 : Nat) : Int) - 3) = (s0.n : Int) by omega, w64 (n := (s0.n : Int)) ⟨by omega, by omega⟩, w64 ⟨by omega, by omega⟩]
        have hhd : IntKind.i64.wrap (IntKind.i64.wrap (((s0.n + 3 : Nat) : Int) - 3) + 2) = (s0.n : Int) + 2 := by
          rw [show (((s0.n + 3 : Nat) : Int) - 3) = (s0.n : Int) by omega, w64 (n := (s0.n : Int)) ⟨by omega, by omega⟩, w64 ⟨by omega, by omega⟩]
        have hen : IntKind.i64.wrap (((s0.n + 3 : Nat) : Int) - 3) = (s0.n : Int) := by
          rw [show (((s0.n + 3 : Nat) : Int) - 3) = (s0.n : Int) by omega, w64 (n := (s0.n : Int)) ⟨by omega, by omega⟩]
        have S := steps_ok ns (s0.ps.length : Int) (q - s0.fst) s0.fst ⟨s0.n + 3, endsS s0.n s0.f (q : Int) (s0.ps.length : Int), s0.of⟩
        rw [hs1] at S
        have hSle := S.le
        simp only at hSle
        have hof : OfOk ns s1.of s1.n b.toNat := fun i g1 g2 g3 => by
          have := sh.hout
          obtain ⟨x, a1, _, a3, _⟩ := S.new i (by omega) (by omega) g3
          exact ⟨x, a1, a3⟩
        obtain ⟨bg, G, hbl⟩ : ∃ bg G, flBlock ns s1.of ((s0.n : Int) + 1) 4000 b.toNat ((s0.n : Int) + 1) ((s0.n : Int) + 2) s1.f = (bg, G) := ⟨_, _, rfl⟩
        have e3 : stepB ns s0 q = ⟨s1.n, setG G s0.n [bg] (G s0.n).ra, s1.of, s0.ps ++ [(q : Int)], q + 1⟩ := by
          have hbody : (nd ns q).kids.getD ((nd ns q).kids.length - 1) 0 = b := by rw [hkids]; simp
          simp only [stepB, beq_iff_eq.2 h3, layS, hs1, hbody, hbl]
        rw [e3] at hnext hbd
        have he0 : 0 ≤ IntKind.i64.wrap (((s0.n + 3 : Nat) : Int) - 3) := by rw [hen]; omega
        have he1 : IntKind.i64.wrap (((s0.n + 3 : Nat) : Int) - 3) < (s1.n : Int) := by rw [hen]; omega
        conv => whnf
        refine Chk.mk ⟨hb0, hb1, rfl⟩ ?_
        conv => whnf
        refine Chk.mk ⟨hc0, hc1, rfl⟩ ?_
        conv => whnf
        refine ⟨ns, root, s1.n, s1.f, s1.of, (s0.n : Int) + 1, s0.ps.length + 1, _, b.toNat, (s0.n : Int) + 1, (s0.n : Int) + 2, _, _, _, _, _, bg, G, rfl, rfl, hbq, hfo, hhd, hfo, rt, by omega, hkb, hof, hbl, ?_⟩
        conv => whnf
        repeat ((refine And.intro ?_ ?_); (focus ((conv => whnf); first | done | exact ⟨⟨hc0, hc1, rfl⟩, by conv => whnf⟩ | exact ⟨⟨rfl, Nat.zero_add _, he0, he1, rfl⟩, by conv => whnf⟩)); (conv => whnf))
        refine Chk.mk ⟨rfl, Nat.zero_add _, he0, he1, rfl⟩ ?_
        conv => whnf
        refine Chk.mk ⟨rfl, rfl⟩ ?_
        conv => whnf
        have hpl2 : s0.ps.length + 1 = (s0.ps ++ [(q : Int)]).length := by simp
        have hea : 0 + (IntKind.i64.wrap (((s0.n + 3 : Nat) : Int) - 3)).toNat = s0.n := by rw [hen]; simp
        refine hle _ _ (Le.trans (Le.fz7 (r := 2) (b5' := gnA s1.n (setG G s0.n [bg] (G s0.n).ra)) (kidF [bg]) rfl (row1 rfl) (.inr ⟨_, _, _, _, _, _, rfl, rfl, gn_fz rfl rfl fun i => gn_upd1 hea rfl i⟩)) (Le.cutEnv 7 rfl rfl stK_cl ?_ ?_))
          (ih ⟨⟨s1.n, setG G s0.n [bg] (G s0.n).ra, s1.of, s0.ps ++ [(q : Int)], q + 1⟩, j + 1, (s0.n : Int) + 1⟩ (by simp only; omega) ⟨by simp only; omega, hnext, hbd, by simp only [List.length_append, List.length_cons, List.length_nil]; omega⟩)
        · skip
          repeat' (first | exact trivial | ((conv => whnf); first | exact trivial | (refine And.intro (AV.le_refl _) ?_) | (refine And.intro (ABlk.le_refl _) ?_) | (refine And.intro (AV.le_of_eq ?_) ?_; (focus ((first | exact congrArg intV hw1 | exact congrArg intV hwq | fail); done))) | (refine And.intro (ABlk.le_of_eq ?_) ?_; (focus ((first | exact congrArg intV hw1 | exact congrArg intV hwq | fail); done))) | fail) | fail)
        · skip
          repeat' (first | exact trivial | ((conv => whnf); first | exact trivial | (refine And.intro (AV.le_refl _) ?_) | (refine And.intro (ABlk.le_refl _) ?_) | (refine And.intro (AV.le_of_eq ?_) ?_; (focus ((first | exact congrArg (grB s1.n) hpl2 | exact congrArg (fun m => rowA m fun i => (s0.ps ++ [(q : Int)]).getD i 0) hpl2 | fail); done))) | (refine And.intro (ABlk.le_of_eq ?_) ?_; (focus ((first | exact congrArg (grB s1.n) hpl2 | exact congrArg (fun m => rowA m fun i => (s0.ps ++ [(q : Int)]).getD i 0) hpl2 | fail); done))) | fail) | fail)
    · have h3 : (nd ns q).k ≠ 3 := by
        have h3 : (nd ns ((nd ns root.toNat).kids.getD ((j : Int)).toNat 0).toNat).k ≠ 3 := h3
        rw [hqv] at h3; exact h3
      have e3 : stepB ns s0 q = ⟨s0.n, s0.f, s0.of, s0.ps, q + 1⟩ := by simp only [stepB, beq_eq_false_iff_ne.2 h3]
      rw [e3] at hnext hbd
      conv => whnf
      refine hle _ _ (Le.cutEnv 7 rfl rfl stK_cl ?_ ?_) (ih ⟨⟨s0.n, s0.f, s0.of, s0.ps, q + 1⟩, j + 1, ex⟩ (by simp only; omega) ⟨by simp only; omega, hnext, hbd, by simp only; omega⟩)
      · skip
        repeat' (first | exact trivial | ((conv => whnf); first | exact trivial | (refine And.intro (AV.le_refl _) ?_) | (refine And.intro (ABlk.le_refl _) ?_) | (refine And.intro (AV.le_of_eq ?_) ?_; (focus ((first | exact congrArg intV hw1 | exact congrArg intV hwq | fail); done))) | (refine And.intro (ABlk.le_of_eq ?_) ?_; (focus ((first | exact congrArg intV hw1 | exact congrArg intV hwq | fail); done))) | fail) | fail)
      · skip
        repeat' (first | exact trivial | ((conv => whnf); first | exact trivial | (refine And.intro (AV.le_refl _) ?_) | (refine And.intro (ABlk.le_refl _) ?_) | (refine And.intro (AV.le_of_eq ?_) ?_; (focus ((first | fail | fail); done))) | (refine And.intro (ABlk.le_of_eq ?_) ?_; (focus ((first | fail | fail); done))) | fail) | fail)
  · obtain rfl : j = (nd ns root.toNat).kids.length := by have h : ¬ (j : Int) < ((nd ns root.toNat).kids.length : Int) := h; omega
    rw [List.drop_length] at hbd
    simp only [buildR] at hbd
    subst hbd
    conv => whnf
    exact hr _ _ _ _ (Wk1.fzAll (fzv_graph rfl rfl)) rfl hk
end Go.Proofs.YtkomdppjelnpdaaGreatDoor

namespace Go.Proofs.YtkomdppjelnpdaaGreatDoor
open Go.AE Go.Ru
set_option maxRecDepth 100000
set_option pp.maxSteps 4000
set_option maxHeartbeats 1000000

theorem small8_ok : COk 17 (cSmall 300) := by
  rintro args K k ⟨ns, root, rfl, hk⟩
  refine frame0P g0_ok 19 rfl fun Q hr => ?_
  conv => whnf
  refine two_dec (fun h => ?_) (fun h => ?_)
  · have h : ¬ ns.length ≤ 300 := by have h : (ns.length : Int) > 300 := h; omega
    rw [show smallS 300 ns = false by simp [smallS, h]] at hk
    conv => whnf
    exact hr _ _ rfl hk
  have h : ns.length ≤ 300 := by have h : ¬ (ns.length : Int) > 300 := h; omega
  conv => whnf
  refine loop_up (ι := Nat) [1] (fun i => [(3, intV i)]) (fun _ => []) (fun i => i ≤ ns.length ∧ (ns.drop i).all (fun n => decide (n.kids.length ≤ 300) && decide (n.tx.length ≤ 200)) = smallS 300 ns) (fun i => ns.length - i) 0 ⟨AV.le_refl _, trivial⟩ trivial ⟨Nat.zero_le _, by simp [smallS, h]⟩ ?_
  rintro Y hle i ⟨hi, he⟩ ih
  conv => whnf
  refine two_dec (fun h2 => ?_) (fun h2 => ?_)
  · have h2 : i < ns.length := by have h2 : (i : Int) < (ns.length : Int) := h2; omega
    have hw1 := wzz (i := i) (by omega)
    rw [List.drop_eq_getElem_cons h2, List.all_cons] at he
    have e1 : ns[i] = nd ns i := by simp [nd, h2]
    rw [e1] at he
    conv => whnf
    refine ⟨⟨by omega, by omega, rfl⟩, ?_⟩
    conv => whnf
    refine two_dec (fun h3 => ?_) (fun h3 => ?_)
    · have h3 : ¬ (nd ns i).kids.length ≤ 300 := by have h3 : ((nd ns i).kids.length : Int) > 300 := h3; omega
      rw [decide_eq_false h3, Bool.false_and, Bool.false_and] at he
      rw [← he] at hk
      conv => whnf
      exact hr _ _ rfl hk
    have h3 : (nd ns i).kids.length ≤ 300 := by have h3 : ¬ ((nd ns i).kids.length : Int) > 300 := h3; omega
    rw [decide_eq_true h3, Bool.true_and] at he
    conv => whnf
    refine ⟨⟨by omega, by omega, rfl⟩, ?_⟩
    conv => whnf
    refine two_dec (fun h4 => ?_) (fun h4 => ?_)
    · have h4 : ¬ (nd ns i).tx.length ≤ 200 := by have h4 : ((nd ns i).tx.length : Int) > 200 := h4; omega
      rw [decide_eq_false h4, Bool.false_and] at he
      rw [← he] at hk
      conv => whnf
      exact hr _ _ rfl hk
    have h4 : (nd ns i).tx.length ≤ 200 := by have h4 : ¬ ((nd ns i).tx.length : Int) > 200 := h4; omega
    rw [decide_eq_true h4, Bool.true_and] at he
    conv => whnf
    refine hle _ _ (Le.env ?_ ?_) (ih (i + 1) (by omega) ⟨by omega, he⟩)
    · skip
      repeat' (first | exact trivial | ((conv => whnf); first | exact trivial | (refine And.intro (AV.le_refl _) ?_) | (refine And.intro (ABlk.le_refl _) ?_) | (refine And.intro (AV.le_of_eq ?_) ?_; (focus ((first | exact congrArg intV hw1 | fail); done))) | (refine And.intro (ABlk.le_of_eq ?_) ?_; (focus ((first | exact congrArg intV hw1 | fail); done))) | fail) | fail)
    · skip
      repeat' (first | exact trivial | ((conv => whnf); first | exact trivial | (refine And.intro (AV.le_refl _) ?_) | (refine And.intro (ABlk.le_refl _) ?_) | (refine And.intro (AV.le_of_eq ?_) ?_; (focus ((first | fail | fail); done))) | (refine And.intro (ABlk.le_of_eq ?_) ?_; (focus ((first | fail | fail); done))) | fail) | fail)
  · obtain rfl : i = ns.length := by have h2 : ¬ (i : Int) < (ns.length : Int) := h2; omega
    rw [List.drop_length, List.all_nil] at he
    rw [← he] at hk
    conv => whnf
    exact hr _ _ rfl hk
theorem eSmall8_ok : COk 17 (eSmall 300) := by
  rintro args K k ⟨ns, root, v, h1, rfl, h3⟩
  exact small8_ok args K k ⟨ns, root, h1, h3⟩

def pr8 : List Nd := [⟨5, 1, 14, [120], []⟩, ⟨18, 0, 32, [108, 111], []⟩, ⟨9, 0, 25, [120], [1]⟩, ⟨22, 0, 39, [120], []⟩, ⟨20, 1, 43, [], []⟩, ⟨27, 0, 41, [60], [3, 4]⟩, ⟨18, 0, 51, [108, 111], []⟩, ⟨22, 0, 54, [120], []⟩, ⟨10, 0, 47, [], [6, 7]⟩, ⟨6, 0, 45, [], [8]⟩, ⟨6, 0, 36, [], []⟩, ⟨11, 0, 36, [], [5, 9, 10]⟩, ⟨6, 0, 12, [], [2, 11]⟩, ⟨3, 0, 0, [109, 97, 105, 110], [0, 12]⟩, ⟨1, 0, 0, [], [13]⟩]
def gr8 : List GN := [⟨1, 13, 0, [3], -1⟩, ⟨2, 13, 0, [], -1⟩, ⟨3, 13, 0, [], -1⟩, ⟨4, 2, 0, [5], -1⟩, ⟨4, 8, 0, [1], -1⟩, ⟨4, 11, 0, [4, 1], -1⟩]
def bs8 : BSt := ⟨6, fun i => gr8.getD i default, fun _ => none, [13], 14⟩
theorem pr8_eq : proS [112, 114, 111, 99, 32, 109, 97, 105, 110, 40, 41, 32, 123, 32, 118, 97, 114, 32, 120, 32, 105, 110, 116, 59, 32, 120, 32, 61, 32, 105, 110, 32, 108, 111, 59, 32, 105, 102, 32, 120, 32, 60, 32, 49, 32, 123, 32, 111, 117, 116, 32, 108, 111, 32, 120, 59, 32, 125, 32, 125] = .ok pr8 14 2 := by kernel_rfl
theorem ck8_eq : checkTree pr8 14 = (0, 0) := by kernel_rfl
theorem pr8_tame : Tame pr8 := small_tame (m := 400) (by decide) (by kernel_rfl)
def gnB (a b : GN) : Bool := a.k == b.k && (a.pl == b.pl && (a.pr == b.pr && (a.nx == b.nx && a.ra == b.ra)))
theorem gnB_eq {a b : GN} (h : gnB a b = true) : a = b := by
  simp only [gnB, Bool.and_eq_true, beq_iff_eq] at h
  obtain ⟨h1, h2, h3, h4, h5⟩ := h
  cases a; cases b
  simp only at h1 h2 h3 h4 h5
  subst h1 h2 h3 h4 h5
  rfl
theorem bs8_n : (buildS pr8 14).n = 6 := by kernel_rfl
theorem bs8_ps : (buildS pr8 14).ps = [13] := by kernel_rfl
theorem bs8_all : (List.range 6).all (fun i => gnB ((buildS pr8 14).f i) (gr8.getD i default)) = true := by kernel_rfl
theorem bs8_f : ∀ i, i < 6 → (buildS pr8 14).f i = gr8.getD i default := fun i hi => by
  have := List.all_eq_true.1 bs8_all i (List.mem_range.2 hi)
  exact gnB_eq this
theorem agg_le {l l' : List AV} (h : lesL l l') : (AV.agg l).le (.agg l') := fun w m u hV => by
  obtain ⟨h1, h2⟩ := h.get
  cases hV with
  | agg _ A hA hv => exact .agg _ A (by omega) fun j hj hj' => h2 j (by omega) hj _ _ _ (hv j (by omega) hj')
/-- a value as data in weaker words -/
def pvLe (a b : PV) : Prop := ∀ w I u, VP w I a u → VP w I b u
theorem sl_leP {sz n n' : Nat} {f f' : Nat → List PV} (hn : n' = n) (h : ∀ i, i < n → (f i).length = (f' i).length ∧ ∀ j (hj : j < (f i).length) (hj' : j < (f' i).length), pvLe (f i)[j] (f' i)[j]) : (AV.p (.sl sz n f)).le (.p (.sl sz n' f')) := fun w m u hv => by
  subst hn
  cases hv with
  | p _ _ hv =>
    cases hv with
    | sl0 _ _ a c => exact .p _ _ (.sl0 sz f' a c)
    | sl _ _ _ b o c u hI hcap hc hv =>
      refine .p _ _ (.sl sz n' f' b o c u hI hcap (fun i hi j hj => ?_) (fun i hi j hj => ?_))
      · exact hc i hi j (by rw [(h i hi).1]; exact hj)
      · exact (h i hi).2 j (by rw [(h i hi).1]; exact hj) hj _ _ _ (hv i hi j (by rw [(h i hi).1]; exact hj))
theorem pvLe_refl (a : PV) : pvLe a a := fun _ _ _ h => h
theorem nxP_le (l : List Int) : pvLe (nxP l) (.sl 1 l.length (kidF l)) := fun w I u h => by
  cases l with
  | nil =>
    cases h
    exact .sl0 ..
  | cons a l => exact h
theorem gnF_eq {f f' : Nat → GN} {i : Nat} (h : f i = f' i) : gnF f i = gnF f' i := by simp only [gnF, h]
theorem gnF_le {f f' : Nat → GN} {n n' : Nat} (hn : n' = n) (hf : ∀ i, i < n → f i = f' i) : (AV.p (.sl 5 n (gnF f))).le (.p (.sl 5 n' (gnW f'))) :=
  sl_leP hn fun i hi => ⟨rfl, fun j hj hj' => by
    have hfi := hf i hi
    rcases j with _ | _ | _ | _ | _ | j
    · show pvLe (.int .i64 (f i).k) (.int .i64 (f' i).k); rw [hfi]; exact pvLe_refl _
    · show pvLe (.int .i64 (f i).pl) (.int .i64 (f' i).pl); rw [hfi]; exact pvLe_refl _
    · show pvLe (.int .i64 (f i).pr) (.int .i64 (f' i).pr); rw [hfi]; exact pvLe_refl _
    · show pvLe (nxP (f i).nx) (.sl 1 (f' i).nx.length (kidF (f' i).nx)); rw [hfi]; exact nxP_le _
    · show pvLe (.int .i64 (f i).ra) (.int .i64 (f' i).ra); rw [hfi]; exact pvLe_refl _
    · simp [gnF] at hj; omega⟩
theorem graph_weak (s : BSt) : (graphV s).le (graphW s) := agg_le ⟨gnF_le rfl fun _ _ => rfl, AV.le_refl _, trivial⟩
/-- a graph in weaker words -/
def eBuildW : AC := fun args K k => ∃ ns root a e s, args = [treeV ns root] ∧ Tame ns ∧ checkTree ns root = (a, e) ∧ buildS ns root = s ∧ (e ≠ 0 → k (.ret (.tup [graph0, intV 1])) K) ∧ (e = 0 → k (.ret (.tup [graphW s, intV 0])) K)
theorem eBuildW_ok : COk 18 eBuildW := by
  rintro args K k ⟨ns, root, a, e, s, rfl, ta, hc, hs, hk1, hk0⟩
  by_cases he : e = 0
  · refine ACalls.post (k := fun ao K1 => ao = .ret (.tup [graphV s, intV 0]) ∧ K1 = K) (build_okW _ _ _ ⟨ns, root, a, e, s, rfl, ta, hc, hs, fun h => absurd he h, fun _ => ⟨rfl, rfl⟩⟩) ?_
    rintro ao K1 ⟨rfl, rfl⟩
    exact ⟨.tup [graphW s, intV 0], K1, Wk1.le (AV.tup_le ⟨graph_weak s, AV.le_refl _, trivial⟩) (lesK.refl _), hk0 he⟩
  · exact build_okW _ _ _ ⟨ns, root, a, e, s, rfl, ta, hc, hs, hk1, fun h => absurd h he⟩
/-- a graph told by its nodes -/
def eBuildL : AC := fun args K k => ∃ ns root a s s', args = [treeV ns root] ∧ Tame ns ∧ checkTree ns root = (a, 0) ∧ buildS ns root = s ∧ s.n = s'.n ∧ s.ps = s'.ps ∧ (∀ i, i < s.n → s.f i = s'.f i) ∧ k (.ret (.tup [graphW s', intV 0])) K
theorem eBuildL_ok : COk 18 eBuildL := by
  rintro args K k ⟨ns, root, a, s, s', rfl, ta, hc, hs, hn, hp, hf, hk⟩
  refine ACalls.post (k := fun ao K1 => ao = .ret (.tup [graphV s, intV 0]) ∧ K1 = K) (build_okW _ _ _ ⟨ns, root, a, 0, s, rfl, ta, hc, hs, fun h => absurd rfl h, fun _ => ⟨rfl, rfl⟩⟩) ?_
  rintro ao K1 ⟨rfl, rfl⟩
  exact ⟨.tup [graphW s', intV 0], K1, Wk1.le (AV.tup_le ⟨agg_le ⟨gnF_le hn.symm hf, AV.le_of_eq (by rw [hp]), trivial⟩, AV.le_refl _, trivial⟩) (lesK.refl _), hk⟩

def gS8 : AG := gput 35 (cTop proS) (gput 18 eBuildL (gput 31 (eEnds 1) (gput 27 (eEnds 2) (gput 32 (eEnds 3) g0))))
theorem gS8_ok : GOk Tryz.prog gS8 := gput_ok Program_ok (gput_ok eBuildL_ok (gput_ok entry_ok (gput_ok exit_ok (gput_ok fail_ok8 g0_ok))))
theorem shown8_ok : COk 16 cShown7 := by
  rintro args K k ⟨rfl, hk⟩
  refine frame0P gS8_ok 19 rfl fun Q hr => ?_
  conv => whnf
  refine ⟨_, rfl, by decide, ?_⟩
  rw [pr8_eq]
  conv => whnf
  refine ⟨pr8, 14, 0, _, bs8, rfl, pr8_tame, ck8_eq, rfl, bs8_n, bs8_ps, fun i hi => bs8_f i (by rw [bs8_n] at hi; exact hi), ?_⟩
  conv => whnf
  repeat
    (refine ⟨⟨by decide, by decide, rfl⟩, ?_⟩
     conv => whnf)
  refine loop_up (ι := Nat) [0, 1] (fun i => [(5, intV i)]) (fun _ => []) (fun i => i ≤ 1) (fun i => 1 - i) 0 ⟨AV.le_refl _, trivial⟩ trivial (by decide) ?_
  rintro Y hle i hi ih
  have hi : i = 0 ∨ i = 1 := by omega
  rcases hi with rfl | rfl
  · conv => whnf
    refine ⟨⟨by decide, by decide, rfl⟩, ?_⟩
    conv => whnf
    refine Chk.mk ⟨rfl, rfl, by decide, by decide, rfl⟩ ?_
    conv => whnf
    refine Chk.mk ⟨rfl, rfl⟩ ?_
    conv => whnf
    refine hle _ _ (Le.env ?_ ?_) (ih 1 (by decide) (by decide))
    · skip
      repeat' (first | exact trivial | ((conv => whnf); first | exact trivial | (refine And.intro (AV.le_refl _) ?_) | (refine And.intro (ABlk.le_refl _) ?_) | (refine And.intro (AV.le_of_eq ?_) ?_; (focus ((first | fail | fail); done))) | (refine And.intro (ABlk.le_of_eq ?_) ?_; (focus ((first | fail | fail); done))) | fail) | fail)
    · skip
      repeat' (first | exact trivial | ((conv => whnf); first | exact trivial | (refine And.intro (AV.le_refl _) ?_) | (refine And.intro (ABlk.le_refl _) ?_) | (refine And.intro (AV.le_of_eq ?_) ?_; (focus ((first | fail | fail); done))) | (refine And.intro (ABlk.le_of_eq ?_) ?_; (focus ((first | fail | fail); done))) | fail) | fail)
  · conv => whnf
    repeat
      (refine ⟨⟨by decide, by decide, rfl⟩, ?_⟩
       conv => whnf)
    refine ⟨bs8, 0, 0, rfl, by decide, by kernel_rfl, ?_⟩
    conv => whnf
    refine ⟨bs8, 0, 1, rfl, by decide, by kernel_rfl, ?_⟩
    conv => whnf
    refine ⟨bs8, 0, 2, rfl, by decide, by kernel_rfl, ?_⟩
    conv => whnf
    exact hr _ _ rfl hk
end Go.Proofs.YtkomdppjelnpdaaGreatDoor

namespace Go.Proofs.YtkomdppjelnpdaaGreatDoor
open Go.AE Go.Ru
set_option maxRecDepth 100000
set_option pp.maxSteps 4000
set_option maxHeartbeats 1000000

def gNo : AG := gput 16 cShown7 (gput 17 (eSmall 300) (gput 18 eBuildW (gput 19 eOf (gput 14 eOwner (gput 20 eRaises g0)))))
theorem gNo_ok : GOk Tryz.prog gNo := gput_ok shown8_ok (gput_ok eSmall8_ok (gput_ok eBuildW_ok (gput_ok of_ok (gput_ok eOwner_ok (gput_ok raises_ok g0_ok)))))
theorem nodes_calls (ns : List Nd) (root : Int) (K : List ABlk) (k : AO → List ABlk → Prop) (hk : k (.ret (.p (.bool true))) K) : ACalls Tryz.prog 4 [treeV ns root] K k := by
  cases hs : smallS 300 ns with
  | false =>
    refine frame0P gNo_ok 19 rfl fun Q hr => ?_
    conv => whnf
    refine ⟨rfl, ?_⟩
    conv => whnf
    refine ⟨ns, root, _, rfl, hs, ?_⟩
    conv => whnf
    exact hr _ _ rfl hk
  | true =>
  have ta := small_tame (m := 300) (by decide) hs
  obtain ⟨a, e, hc⟩ : ∃ a e, checkTree ns root = (a, e) := ⟨_, _, rfl⟩
  by_cases he : e = 0
  case neg =>
    refine frame0P gNo_ok 19 rfl fun Q hr => ?_
    conv => whnf
    refine ⟨rfl, ?_⟩
    conv => whnf
    refine ⟨ns, root, _, rfl, hs, ?_⟩
    conv => whnf
    refine ⟨ns, root, a, e, _, rfl, ta, hc, rfl, fun _ => ?_, fun h => absurd h he⟩
    conv => whnf
    exact hr _ _ rfl hk
  subst he
  have rt := right_of (check_right hc)
  have hlen := rt.len
  have hpos := rt.pos
  refine frame0P gNo_ok 19 rfl fun Q hr => ?_
  conv => whnf
  refine ⟨rfl, ?_⟩
  conv => whnf
  refine ⟨ns, root, _, rfl, hs, ?_⟩
  conv => whnf
  obtain ⟨s, hsb⟩ : ∃ s, buildS ns root = s := ⟨_, rfl⟩
  have hN : ∀ i, i < ns.length → NodeL ns root s i := fun i hi => hsb ▸ node_law rt hi
  obtain ⟨hcnt, hps⟩ := cnt_law rt
  rw [hsb] at hcnt hps
  have hcl := cntB_le (stP' ns) ns.length
  refine ⟨ns, root, a, 0, s, rfl, ta, hc, hsb, fun h => absurd rfl h, fun _ => ?_⟩
  conv => whnf
  refine loop_up (ι := Nat) [1, 5] (fun i => [(7, intV (cntB (stP' ns) i)), (8, intV i)]) (fun _ => []) (fun i => i ≤ ns.length) (fun i => ns.length - i) 0 ⟨AV.le_refl _, AV.le_refl _, trivial⟩ trivial (Nat.zero_le _) ?_
  rintro Y hle i hi ih
  conv => whnf
  refine two_dec (fun h => ?_) (fun h => ?_)
  · have h : i < ns.length := by have h : (i : Int) < (ns.length : Int) := h; omega
    have hw1 := wzz (i := i) (by omega)
    have hn := hN i h
    obtain ⟨o, hO⟩ : ∃ o, ofT s (i : Int) = o := ⟨_, rfl⟩
    have hci := cntB_le (stP' ns) i
    have hil : (i : Int) < (ns.length : Int) := by omega
    cases hst : stB (nd ns i).k with
    | false =>
      have ho := hn.no hst
      rw [hO] at ho
      have hcn : cntB (stP' ns) (i + 1) = cntB (stP' ns) i := by simp [cntB, stP', hst]
      conv => whnf
      refine ⟨⟨by omega, hil, rfl⟩, ?_⟩
      conv => whnf
      refine ⟨s, (i : Int), o, rfl, by omega, hO, ?_⟩
      conv => whnf
      have ho0 : decide (o ≥ 0) = false := decide_eq_false (by omega)
      refine two_dec (fun h7 => ?_) (fun h7 => ?_)
      · have h17 : decide ((nd ns i).k ≤ 17) = false := by
          have h7 : (nd ns i).k ≥ 7 := h7
          refine decide_eq_false fun h17 => ?_
          rw [stB_iff.2 ⟨h7, h17⟩] at hst; cases hst
        conv => whnf
        refine two_false (show (decide (o ≥ 0) != decide ((nd ns i).k ≤ 17)) = false by rw [ho0, h17]; rfl) ?_
        conv => whnf
        refine two_dec (fun _ => ?_) (fun h => absurd ho h)
        conv => whnf
        refine hle _ _ (Le.cutEnv 2 rfl rfl ⟨rfl, rfl, trivial⟩ ?_ ?_) (ih (i + 1) (by omega) (by omega))
        · skip
          repeat' (first | exact trivial | ((conv => whnf); first | exact trivial | (refine And.intro (AV.le_refl _) ?_) | (refine And.intro (ABlk.le_refl _) ?_) | (refine And.intro (AV.le_of_eq ?_) ?_; (focus ((first | exact congrArg intV hw1 | exact congrArg (fun n => intV (n : Nat)) hcn.symm | exact congrArg intV (hwc.trans (congrArg (fun n => ((n : Nat) : Int)) hcn.symm)) | fail); done))) | (refine And.intro (ABlk.le_of_eq ?_) ?_; (focus ((first | exact congrArg intV hw1 | exact congrArg (fun n => intV (n : Nat)) hcn.symm | exact congrArg intV (hwc.trans (congrArg (fun n => ((n : Nat) : Int)) hcn.symm)) | fail); done))) | fail) | fail)
        · skip
          repeat' (first | exact trivial | ((conv => whnf); first | exact trivial | (refine And.intro (AV.le_refl _) ?_) | (refine And.intro (ABlk.le_refl _) ?_) | (refine And.intro (AV.le_of_eq ?_) ?_; (focus ((first | fail | fail); done))) | (refine And.intro (ABlk.le_of_eq ?_) ?_; (focus ((first | fail | fail); done))) | fail) | fail)
      · conv => whnf
        refine two_false (show (decide (o ≥ 0) != false) = false by rw [ho0]; rfl) ?_
        conv => whnf
        refine two_dec (fun _ => ?_) (fun h => absurd ho h)
        conv => whnf
        refine hle _ _ (Le.cutEnv 2 rfl rfl ⟨rfl, rfl, trivial⟩ ?_ ?_) (ih (i + 1) (by omega) (by omega))
        · skip
          repeat' (first | exact trivial | ((conv => whnf); first | exact trivial | (refine And.intro (AV.le_refl _) ?_) | (refine And.intro (ABlk.le_refl _) ?_) | (refine And.intro (AV.le_of_eq ?_) ?_; (focus ((first | exact congrArg intV hw1 | exact congrArg (fun n => intV (n : Nat)) hcn.symm | exact congrArg intV (hwc.trans (congrArg (fun n => ((n : Nat) : Int)) hcn.symm)) | fail); done))) | (refine And.intro (ABlk.le_of_eq ?_) ?_; (focus ((first | exact congrArg intV hw1 | exact congrArg (fun n => intV (n : Nat)) hcn.symm | exact congrArg intV (hwc.trans (congrArg (fun n => ((n : Nat) : Int)) hcn.symm)) | fail); done))) | fail) | fail)
        · skip
          repeat' (first | exact trivial | ((conv => whnf); first | exact trivial | (refine And.intro (AV.le_refl _) ?_) | (refine And.intro (ABlk.le_refl _) ?_) | (refine And.intro (AV.le_of_eq ?_) ?_; (focus ((first | fail | fail); done))) | (refine And.intro (ABlk.le_of_eq ?_) ?_; (focus ((first | fail | fail); done))) | fail) | fail)
    | true =>
      obtain ⟨x, hx, hxn, hpl, hpr0, hpr1, hps, hra, htwo, hnil⟩ := hn.yes hst
      rw [hO] at hx
      subst hx
      obtain ⟨h7, h17⟩ := stB_iff.1 hst
      have hcn : cntB (stP' ns) (i + 1) = cntB (stP' ns) i + 1 := by simp [cntB, stP', hst]
      have hwc : IntKind.i64.wrap ((cntB (stP' ns) i : Int) + 1) = ((cntB (stP' ns) i + 1 : Nat) : Int) := by rw [w64 ⟨by omega, by omega⟩]; omega
      have hrs : raisesT ns root (i : Int) = raisesF ns i := by
        simp only [raisesT, hc, Int.toNat_natCast, hst]
        simp [hil]
      have hxl : (x : Int) < (s.n : Int) := by omega
      conv => whnf
      refine ⟨⟨by omega, hil, rfl⟩, ?_⟩
      conv => whnf
      refine ⟨s, (i : Int), x, rfl, by omega, hO, ?_⟩
      conv => whnf
      refine two_dec (fun _ => ?_) (fun h => absurd h7 h)
      conv => whnf
      refine two_false (show (decide ((x : Int) ≥ 0) != decide ((nd ns i).k ≤ 17)) = false by rw [decide_eq_true h17, decide_eq_true (Int.natCast_nonneg x)]; rfl) ?_
      conv => whnf
      refine ⟨⟨Int.natCast_nonneg x, hxl, rfl⟩, ?_⟩
      conv => whnf
      refine two_ne (fun h => absurd hpl h) (fun _ => ?_)
      conv => whnf
      refine two_dec (fun h => absurd hpr0 (Int.not_le.2 h)) (fun _ => ?_)
      conv => whnf
      refine two_dec (fun h => absurd hpr1 (Int.not_lt.2 h)) (fun _ => ?_)
      conv => whnf
      refine ⟨⟨hpr0, hpr1, rfl⟩, ?_⟩
      conv => whnf
      refine ⟨ns, root, (i : Int), s.ps.getD (s.f x).pr.toNat 0, rfl, ta, by rw [ownerT_in rt h, hps], ?_⟩
      conv => whnf
      repeat ((refine And.intro ?_ ?_); (focus ((conv => whnf); first | done | exact ⟨⟨hpr0, hpr1, rfl⟩, by conv => whnf⟩)); (conv => whnf))
      refine two_ne (fun h => absurd rfl h) (fun _ => ?_)
      conv => whnf
      refine two_ne (fun h16 => ?_) (fun h16 => ?_)
      · have h16 : (nd ns i).k ≠ 16 := h16
        have hra := hra h16
        conv => whnf
        refine ⟨ns, root, (i : Int), raisesF ns i, rfl, ta, hrs, ?_⟩
        conv => whnf
        repeat ((refine And.intro ?_ ?_); (focus ((conv => whnf); first | done | exact ⟨⟨hpr0, hpr1, rfl⟩, by conv => whnf⟩)); (conv => whnf))
        refine two_false (show (decide ((s.f x).ra ≥ 0) != raisesF ns i) = false by rw [hra]; simp) ?_
        conv => whnf
        refine two_eq (fun h11 => ?_) (fun h11 => ?_)
        · have h11 : (nd ns i).k = 11 := h11
          have hl2 := htwo.2 (.inl h11)
          conv => whnf
          refine two_false (show (true != (((s.f x).nx.length : Int) == 2)) = false by rw [hl2]; rfl) ?_
          conv => whnf
          refine two_false (show (((nd ns i).k == 15) != (((s.f x).nx.length : Int) == 0)) = false by rw [hl2, h11]; rfl) ?_
          conv => whnf
          refine hle _ _ (Le.cutEnv 2 rfl rfl ⟨rfl, rfl, trivial⟩ ?_ ?_) (ih (i + 1) (by omega) (by omega))
          · skip
            repeat' (first | exact trivial | ((conv => whnf); first | exact trivial | (refine And.intro (AV.le_refl _) ?_) | (refine And.intro (ABlk.le_refl _) ?_) | (refine And.intro (AV.le_of_eq ?_) ?_; (focus ((first | exact congrArg intV hw1 | exact congrArg (fun n => intV (n : Nat)) hcn.symm | exact congrArg intV (hwc.trans (congrArg (fun n => ((n : Nat) : Int)) hcn.symm)) | fail); done))) | (refine And.intro (ABlk.le_of_eq ?_) ?_; (focus ((first | exact congrArg intV hw1 | exact congrArg (fun n => intV (n : Nat)) hcn.symm | exact congrArg intV (hwc.trans (congrArg (fun n => ((n : Nat) : Int)) hcn.symm)) | fail); done))) | fail) | fail)
          · skip
            repeat' (first | exact trivial | ((conv => whnf); first | exact trivial | (refine And.intro (AV.le_refl _) ?_) | (refine And.intro (ABlk.le_refl _) ?_) | (refine And.intro (AV.le_of_eq ?_) ?_; (focus ((first | fail | fail); done))) | (refine And.intro (ABlk.le_of_eq ?_) ?_; (focus ((first | fail | fail); done))) | fail) | fail)
        · have h11 : (nd ns i).k ≠ 11 := h11
          have hb2 : (((nd ns i).k == 12) != (((s.f x).nx.length : Int) == 2)) = false := by
            by_cases h12 : (nd ns i).k = 12
            · rw [h12, htwo.2 (.inr h12)]; rfl
            · rw [beq_eq_false_iff_ne.2 h12, beq_eq_false_iff_ne.2 (fun h => (htwo.1 (by omega)).elim h11 h12)]; rfl
          have hb0 : (((nd ns i).k == 15) != (((s.f x).nx.length : Int) == 0)) = false := by
            by_cases h15 : (nd ns i).k = 15
            · rw [h15, hnil.2 h15]; rfl
            · rw [beq_eq_false_iff_ne.2 h15, beq_eq_false_iff_ne.2 (fun h => h15 (hnil.1 (by omega)))]; rfl
          conv => whnf
          refine two_false hb2 ?_
          conv => whnf
          refine two_false hb0 ?_
          conv => whnf
          refine hle _ _ (Le.cutEnv 2 rfl rfl ⟨rfl, rfl, trivial⟩ ?_ ?_) (ih (i + 1) (by omega) (by omega))
          · skip
            repeat' (first | exact trivial | ((conv => whnf); first | exact trivial | (refine And.intro (AV.le_refl _) ?_) | (refine And.intro (ABlk.le_refl _) ?_) | (refine And.intro (AV.le_of_eq ?_) ?_; (focus ((first | exact congrArg intV hw1 | exact congrArg (fun n => intV (n : Nat)) hcn.symm | exact congrArg intV (hwc.trans (congrArg (fun n => ((n : Nat) : Int)) hcn.symm)) | fail); done))) | (refine And.intro (ABlk.le_of_eq ?_) ?_; (focus ((first | exact congrArg intV hw1 | exact congrArg (fun n => intV (n : Nat)) hcn.symm | exact congrArg intV (hwc.trans (congrArg (fun n => ((n : Nat) : Int)) hcn.symm)) | fail); done))) | fail) | fail)
          · skip
            repeat' (first | exact trivial | ((conv => whnf); first | exact trivial | (refine And.intro (AV.le_refl _) ?_) | (refine And.intro (ABlk.le_refl _) ?_) | (refine And.intro (AV.le_of_eq ?_) ?_; (focus ((first | fail | fail); done))) | (refine And.intro (ABlk.le_of_eq ?_) ?_; (focus ((first | fail | fail); done))) | fail) | fail)
      · have h16 : (nd ns i).k = 16 := h16
        conv => whnf
        repeat ((refine And.intro ?_ ?_); (focus ((conv => whnf); first | done | exact ⟨⟨hpr0, hpr1, rfl⟩, by conv => whnf⟩)); (conv => whnf))
        refine two_eq (fun h11 => ?_) (fun h11 => ?_)
        · have h11 : (nd ns i).k = 11 := h11
          have hl2 := htwo.2 (.inl h11)
          conv => whnf
          refine two_false (show (true != (((s.f x).nx.length : Int) == 2)) = false by rw [hl2]; rfl) ?_
          conv => whnf
          refine two_false (show (((nd ns i).k == 15) != (((s.f x).nx.length : Int) == 0)) = false by rw [hl2, h11]; rfl) ?_
          conv => whnf
          refine hle _ _ (Le.cutEnv 2 rfl rfl ⟨rfl, rfl, trivial⟩ ?_ ?_) (ih (i + 1) (by omega) (by omega))
          · skip
            repeat' (first | exact trivial | ((conv => whnf); first | exact trivial | (refine And.intro (AV.le_refl _) ?_) | (refine And.intro (ABlk.le_refl _) ?_) | (refine And.intro (AV.le_of_eq ?_) ?_; (focus ((first | exact congrArg intV hw1 | exact congrArg (fun n => intV (n : Nat)) hcn.symm | exact congrArg intV (hwc.trans (congrArg (fun n => ((n : Nat) : Int)) hcn.symm)) | fail); done))) | (refine And.intro (ABlk.le_of_eq ?_) ?_; (focus ((first | exact congrArg intV hw1 | exact congrArg (fun n => intV (n : Nat)) hcn.symm | exact congrArg intV (hwc.trans (congrArg (fun n => ((n : Nat) : Int)) hcn.symm)) | fail); done))) | fail) | fail)
          · skip
            repeat' (first | exact trivial | ((conv => whnf); first | exact trivial | (refine And.intro (AV.le_refl _) ?_) | (refine And.intro (ABlk.le_refl _) ?_) | (refine And.intro (AV.le_of_eq ?_) ?_; (focus ((first | fail | fail); done))) | (refine And.intro (ABlk.le_of_eq ?_) ?_; (focus ((first | fail | fail); done))) | fail) | fail)
        · have h11 : (nd ns i).k ≠ 11 := h11
          have hb2 : (((nd ns i).k == 12) != (((s.f x).nx.length : Int) == 2)) = false := by
            by_cases h12 : (nd ns i).k = 12
            · rw [h12, htwo.2 (.inr h12)]; rfl
            · rw [beq_eq_false_iff_ne.2 h12, beq_eq_false_iff_ne.2 (fun h => (htwo.1 (by omega)).elim h11 h12)]; rfl
          have hb0 : (((nd ns i).k == 15) != (((s.f x).nx.length : Int) == 0)) = false := by
            by_cases h15 : (nd ns i).k = 15
            · rw [h15, hnil.2 h15]; rfl
            · rw [beq_eq_false_iff_ne.2 h15, beq_eq_false_iff_ne.2 (fun h => h15 (hnil.1 (by omega)))]; rfl
          conv => whnf
          refine two_false hb2 ?_
          conv => whnf
          refine two_false hb0 ?_
          conv => whnf
          refine hle _ _ (Le.cutEnv 2 rfl rfl ⟨rfl, rfl, trivial⟩ ?_ ?_) (ih (i + 1) (by omega) (by omega))
          · skip
            repeat' (first | exact trivial | ((conv => whnf); first | exact trivial | (refine And.intro (AV.le_refl _) ?_) | (refine And.intro (ABlk.le_refl _) ?_) | (refine And.intro (AV.le_of_eq ?_) ?_; (focus ((first | exact congrArg intV hw1 | exact congrArg (fun n => intV (n : Nat)) hcn.symm | exact congrArg intV (hwc.trans (congrArg (fun n => ((n : Nat) : Int)) hcn.symm)) | fail); done))) | (refine And.intro (ABlk.le_of_eq ?_) ?_; (focus ((first | exact congrArg intV hw1 | exact congrArg (fun n => intV (n : Nat)) hcn.symm | exact congrArg intV (hwc.trans (congrArg (fun n => ((n : Nat) : Int)) hcn.symm)) | fail); done))) | fail) | fail)
          · skip
            repeat' (first | exact trivial | ((conv => whnf); first | exact trivial | (refine And.intro (AV.le_refl _) ?_) | (refine And.intro (ABlk.le_refl _) ?_) | (refine And.intro (AV.le_of_eq ?_) ?_; (focus ((first | fail | fail); done))) | (refine And.intro (ABlk.le_of_eq ?_) ?_; (focus ((first | fail | fail); done))) | fail) | fail)
  · obtain rfl : i = ns.length := by have h : ¬ (i : Int) < (ns.length : Int) := h; omega
    conv => whnf
    refine hr _ _ rfl (ret_eq hk (congrArg (fun b => AV.p (.bool b)) ?_))
    rw [w64 (n := 3 * (s.ps.length : Int)) ⟨by omega, by omega⟩, w64 ⟨by omega, by omega⟩]
    exact (beq_iff_eq.2 (by omega)).symm
end Go.Proofs.YtkomdppjelnpdaaGreatDoor
