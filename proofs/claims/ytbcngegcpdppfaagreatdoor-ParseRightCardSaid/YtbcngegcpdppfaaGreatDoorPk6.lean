/-
  The statement ParseRight: what the program computes. No statement of the seat is proved here.
  Parser, in plain Lean: where it goes wrong: at the beginning of what was left of the tokens; by which codes. No program in sight; no statement of the seat is proved here.
  The statement ParsePlaces: the plain law, and the two joined.
  What is parsed is right: the nodes that were put stand as they must, and each has its shape. In plain Lean; no program in sight; no statement of the seat is proved here.
  What is parsed is right, part 2: each function of the parser. In plain Lean; no program in sight; no statement of the seat is proved here.
  What the tokens of a text are. In plain Lean; no program in sight; no statement of the seat is proved here.
  The statement ParseRight: the plain law, and the two joined.
-/
import Derived.Test.YtbcngegcpdppfaaGreatDoorPk1
import Derived.Test.YtbcngegcpdppfaaGreatDoorPk2
import Derived.Test.YtbcngegcpdppfaaGreatDoorPk3
import Derived.Test.YtbcngegcpdppfaaGreatDoorPk4
import Derived.Test.YtbcngegcpdppfaaGreatDoorPk5
namespace Go.Proofs.YtbcngegcpdppfaaGreatDoor
open Go.AE Go.Ru
set_option maxRecDepth 100000
set_option pp.maxSteps 4000
set_option maxHeartbeats 1000000

/-- the plain law -/
def RightLaw (s : Bs) : Prop := match proS s with
  | .ok ns root _ => rightS ns root = true ∧ (∀ i, (ns.getD i default).tx.length < 1000000) ∧ ∀ ts, cutT s = .ok ts → ∀ i, i + 1 < ns.length → (atsS s.length ts).any (· == (ns.getD i default).at_) = true
  | .bad a er => er ≠ 0 ∧ 0 ≤ a ∧ a ≤ s.length
def gPr : AG := gput 8 cShown (gput 12 cCutT (gput 9 (cTop proS) (gput 19 cRight g0)))
theorem gPr_ok : GOk Tryz.prog gPr := gput_ok shown_ok (gput_ok cutT_ok (gput_ok Program_ok (gput_ok right_ok g0_ok)))
def cPRight : AC := fun args K k => ∃ s, args = [.p (.str s)] ∧ RightLaw s ∧ k (.ret (.p (.bool true))) K
structure KB where
  j : Nat
  b : Bool
theorem pright_ok : COk 6 cPRight := by
  rintro args K k ⟨s, rfl, hlaw, hk⟩
  refine frame0P gPr_ok 19 rfl fun Q hr => ?_
  conv => whnf
  refine ⟨rfl, ?_⟩
  conv => whnf
  refine two_dec (fun h => ?_) (fun h => ?_)
  · conv => whnf
    exact hr _ _ rfl hk
  have h : s.length ≤ 1500 := by omega
  conv => whnf
  refine ⟨s, rfl, by omega, ?_⟩
  unfold RightLaw at hlaw
  cases hp : proS s with
  | bad a er =>
    rw [hp] at hlaw
    obtain ⟨h1, h2, h3⟩ := hlaw
    conv => whnf
    refine two_ne (fun he => ?_) (fun he => absurd he h1)
    conv => whnf
    repeat' (first | (refine two_eq (fun h => ?_) (fun h => ?_) <;> (conv => whnf)) | (refine two_ne (fun h => ?_) (fun h => ?_) <;> (conv => whnf)) | (refine two_not (fun h => ?_) (fun h => ?_) <;> (conv => whnf)) | (refine two_dec (fun h => ?_) (fun h => ?_) <;> (conv => whnf)) | (refine two_intro (fun h => ?_) (fun h => ?_) <;> (conv => whnf)) | (refine Chk.mk ?_ ?_; (focus (((repeat' (refine And.intro ?_ ?_)) <;> (first | omega | rfl | (simp only [List.length_append, List.length_cons, List.length_nil]; omega) | fail)); done)); (conv => whnf)) | (refine And.intro ?_ ?_; (focus (((repeat' (refine And.intro ?_ ?_)) <;> (first | omega | rfl | (simp only [List.length_append, List.length_cons, List.length_nil]; omega) | fail)); done)); (conv => whnf)) | (refine Exists.intro _ (And.intro rfl ?_)) | (refine Exists.intro _ (Exists.intro _ (And.intro rfl ?_))) | (refine Exists.intro _ (Exists.intro _ (Exists.intro _ (And.intro rfl ?_)))) | fail)
    · exact hr _ _ rfl (ret_eq hk (congrArg (fun b => AV.p (.bool b)) (decide_eq_true h3).symm))
    · omega
  | ok ns root mo =>
    rw [hp] at hlaw
    obtain ⟨h1, h2, h3⟩ := hlaw
    have hso : soundS ns root = true := by
      simp only [rightS, Bool.and_eq_true] at h1; exact h1.1.1.1
    obtain ⟨hn0, hn, hroot, _⟩ := soundS_ok hso
    conv => whnf
    refine ⟨ns, root, rfl, by omega, h2, ?_⟩
    rw [h1]
    conv => whnf
    refine ⟨s, rfl, by omega, fun h2 => by omega, fun _ => ?_⟩
    cases hc : cutT s with
    | bad a =>
      exfalso
      have : proS s = .bad a 2 := by
        show readS programS s = _
        unfold readS; rw [if_neg (by omega), hc]
      rw [this] at hp; cases hp
    | ok ts =>
      have h3 := h3 ts hc
      have hln : ts.length ≤ s.length := cutS_len _ _ _ _ hc
      conv => whnf
      have hle1 : ∀ i : Nat, IntKind.i64.wrap ((ns.length : Int) - 1) = (ns.length : Int) - 1 := fun i => by rw [w64 ⟨by omega, by omega⟩]
      have hle1 := hle1 0
      refine loop_up (ι := Nat) [4, 7] (fun i => [(10, intV i)]) (fun _ => []) (fun i => i + 1 ≤ ns.length) (fun i => ns.length - i) 0 ⟨AV.le_refl _, trivial⟩ trivial (by omega) ?_
      rintro Y hle i hi ih
      have hw1 : IntKind.i64.wrap ((i : Int) + 1) = ((i + 1 : Nat) : Int) := by rw [w64 ⟨by omega, by omega⟩]; omega
      conv => whnf
      refine two_dec (fun h => ?_) (fun h => ?_)
      · have h : i + 1 < ns.length := by omega
        have h3 := h3 i h
        conv => whnf
        refine loop_up (ι := KB) [4, 7, 10] (fun c => [(11, .p (.bool c.b)), (12, intV c.j)]) (fun _ => []) (fun c => c.j ≤ ts.length + 1 ∧ c.b = ((atsS s.length ts).take c.j).any (· == (ns.getD i default).at_)) (fun c => ts.length + 1 - c.j) ⟨0, false⟩ ⟨AV.le_refl _, AV.le_refl _, trivial⟩ trivial ⟨Nat.zero_le _, rfl⟩ ?_
        rintro Z hlz ⟨j, b⟩ ⟨hj, hb⟩ ihz
        simp only at hj hb
        have hwj : IntKind.i64.wrap ((j : Int) + 1) = ((j + 1 : Nat) : Int) := by rw [w64 ⟨by omega, by omega⟩]; omega
        conv => whnf
        refine two_dec (fun h4 => ?_) (fun h4 => ?_)
        · have h4 : j < ts.length + 1 := by have h4 : (j : Int) < ((ts.length + 1 : Nat) : Int) := h4; omega
          obtain ⟨kk, nn, tx, henc⟩ := encs_ats s.length ts j
          have hlt : j < (atsS (s.length : Int) ts).length := by rw [ats_len]; exact h4
          have hsnoc : ((atsS (s.length : Int) ts).take (j + 1)).any (· == (ns.getD i default).at_) = (b || (atsS (s.length : Int) ts).getD j s.length == (ns.getD i default).at_) := by
            rw [List.take_succ_eq_append_getElem hlt, List.any_append, ← hb]
            simp [hlt]
          conv => whnf
          refine two_intro (fun hb1 => ?_) (fun hb1 => ?_)
          · have hb1 : b = true := hb1
            conv => whnf
            refine hlz _ _ (Le.env ?_ ?_) (ihz ⟨j + 1, true⟩ (by show ts.length + 1 - (j + 1) < ts.length + 1 - j; omega) ⟨h4, ?_⟩)
            · skip
              repeat' (first | exact trivial | ((conv => whnf); first | exact trivial | (refine And.intro (AV.le_refl _) ?_) | (refine And.intro (ABlk.le_refl _) ?_) | (refine And.intro (AV.le_of_eq ?_) ?_; (focus ((first | exact congrArg intV hwj | fail); done))) | (refine And.intro (ABlk.le_of_eq ?_) ?_; (focus ((first | exact congrArg intV hwj | fail); done))) | fail) | fail)
            · skip
              repeat' (first | exact trivial | ((conv => whnf); first | exact trivial | (refine And.intro (AV.le_refl _) ?_) | (refine And.intro (ABlk.le_refl _) ?_) | (refine And.intro (AV.le_of_eq ?_) ?_; (focus ((first | fail | fail); done))) | (refine And.intro (ABlk.le_of_eq ?_) ?_; (focus ((first | fail | fail); done))) | fail) | fail)
            · show true = _
              rw [hsnoc, hb1]; rfl
          · have hb1 : b = false := hb1
            conv => whnf
            refine ⟨⟨by omega, by omega, rfl⟩, ?_⟩
            rw [show encs s.length ts (Int.toNat (j : Int)) = _ from henc]
            conv => whnf
            refine ⟨⟨by omega, by omega, rfl⟩, ?_⟩
            conv => whnf
            refine hlz _ _ (Le.env ?_ ?_) (ihz ⟨j + 1, (atsS (s.length : Int) ts).getD j s.length == (ns.getD i default).at_⟩ (by show ts.length + 1 - (j + 1) < ts.length + 1 - j; omega) ⟨h4, ?_⟩)
            · skip
              repeat' (first | exact trivial | ((conv => whnf); first | exact trivial | (refine And.intro (AV.le_refl _) ?_) | (refine And.intro (ABlk.le_refl _) ?_) | (refine And.intro (AV.le_of_eq ?_) ?_; (focus ((first | exact congrArg intV hwj | fail); done))) | (refine And.intro (ABlk.le_of_eq ?_) ?_; (focus ((first | exact congrArg intV hwj | fail); done))) | fail) | fail)
            · skip
              repeat' (first | exact trivial | ((conv => whnf); first | exact trivial | (refine And.intro (AV.le_refl _) ?_) | (refine And.intro (ABlk.le_refl _) ?_) | (refine And.intro (AV.le_of_eq ?_) ?_; (focus ((first | fail | fail); done))) | (refine And.intro (ABlk.le_of_eq ?_) ?_; (focus ((first | fail | fail); done))) | fail) | fail)
            · show (_ == _) = _
              rw [hsnoc, hb1]; rfl
        · have h4 : (atsS (s.length : Int) ts).length ≤ j := by have h4 : ¬ (j : Int) < ((ts.length + 1 : Nat) : Int) := h4; rw [ats_len]; omega
          rw [List.take_of_length_le h4, h3] at hb
          subst hb
          conv => whnf
          refine hle _ _ (Le.env ?_ ?_) (ih (i + 1) (by omega) (by omega))
          · skip
            repeat' (first | exact trivial | ((conv => whnf); first | exact trivial | (refine And.intro (AV.le_refl _) ?_) | (refine And.intro (ABlk.le_refl _) ?_) | (refine And.intro (AV.le_of_eq ?_) ?_; (focus ((first | exact congrArg intV hw1 | fail); done))) | (refine And.intro (ABlk.le_of_eq ?_) ?_; (focus ((first | exact congrArg intV hw1 | fail); done))) | fail) | fail)
          · skip
            repeat' (first | exact trivial | ((conv => whnf); first | exact trivial | (refine And.intro (AV.le_refl _) ?_) | (refine And.intro (ABlk.le_refl _) ?_) | (refine And.intro (AV.le_of_eq ?_) ?_; (focus ((first | fail | fail); done))) | (refine And.intro (ABlk.le_of_eq ?_) ?_; (focus ((first | fail | fail); done))) | fail) | fail)
      · conv => whnf
        exact hr _ _ rfl hk
end Go.Proofs.YtbcngegcpdppfaaGreatDoor

namespace Go.Ru

/-- nothing is put back; what is wrong is wrong at the head of a rest -/
structure Wr {α : Type} (e : Int) (s0 : PS) (r : R α) : Prop where
  ok : ∀ a s, r = .ok a s → s.ts <:+ s0.ts
  bad : ∀ a er, r = .bad a er → (er = 2 ∨ er = 6) ∧ ∃ t, t <:+ s0.ts ∧ a = hd e t
def Wm {α : Type} (e : Int) (m : M α) : Prop := ∀ s, Wr e s (m s)

theorem Wr.pure {α : Type} {e : Int} {s0 s : PS} {a : α} (h : s.ts <:+ s0.ts) : Wr e s0 (.ok a s) := ⟨fun b s' hb => by injection hb with _ h2; exact h2 ▸ h, fun _ _ hb => by cases hb⟩
theorem Wr.here {α : Type} {e : Int} {s0 : PS} {er : Int} (h : er = 2 ∨ er = 6) : Wr (α := α) e s0 (.bad (hd e s0.ts) er) :=
  ⟨fun _ _ hb => (by cases hb), fun a er' hb => by injection hb with h1 h2; subst h1 h2; exact ⟨h, _, List.suffix_rfl, rfl⟩⟩
theorem Wr.weak {α : Type} {e : Int} {s0 s1 : PS} {r : R α} (h : Wr e s1 r) (hs : s1.ts <:+ s0.ts) : Wr e s0 r :=
  ⟨fun a s hr => (h.ok a s hr).trans hs, fun a er hr => let ⟨h1, t, h2, h3⟩ := h.bad a er hr; ⟨h1, t, h2.trans hs, h3⟩⟩
theorem Wr.bind {α β : Type} {e : Int} {s0 : PS} {r : R α} {f : α → PS → R β} (h : Wr e s0 r) (h' : ∀ a s1, r = .ok a s1 → Wr e s1 (f a s1)) : Wr e s0 (r.bind f) := by
  cases r with
  | ok a s1 => exact (h' a s1 rfl).weak (h.ok a s1 rfl)
  | bad a er => exact ⟨fun _ _ hb => (by cases hb), fun a' er' hb => by injection hb with h1 h2; subst h1 h2; exact h.bad _ _ rfl⟩
theorem want_wr (e : Int) (w : Bs) : Wm e (wantS e w) := fun s => by
  unfold wantS
  split
  · exact .pure (List.tail_suffix _)
  · exact .here (.inl rfl)
theorem ident_wr (e : Int) : Wm e (identS e) := fun s => by
  unfold identS
  split
  · rename_i h
    have := Wr.here (α := Tok) (e := e) (s0 := s) (er := 2) (.inl rfl)
    rw [h] at this; exact this
  · rename_i t r h
    split
    · exact .pure (by rw [h]; exact List.suffix_cons _ _)
    · have := Wr.here (α := Tok) (e := e) (s0 := s) (er := 2) (.inl rfl)
      rw [h] at this; exact this
theorem put_wr (e : Int) (n : Nd) : Wm e (putS n) := fun s => .pure List.suffix_rfl
theorem drop_sfx (s : PS) : (dropS s).ts <:+ s.ts := List.tail_suffix _
theorem within_wr {α : Type} (e : Int) (d : Nat) (op cl : Bs) {what : M α} (h : ∀ d', d = d' + 1 → Wm e what) : Wm e (withinS e d op cl what) := fun s => by
  unfold withinS
  split
  · exact .here (.inl rfl)
  · cases d with
    | zero => exact .here (.inr rfl)
    | succ d =>
      refine Wr.bind ((h d rfl _).weak (s0 := s) (List.tail_suffix _)) fun a s1 _ => ?_
      split
      · exact .pure List.suffix_rfl
      · exact Wr.bind (want_wr e _ s1) fun _ s2 _ => .pure List.suffix_rfl
theorem rowLoop_wr (e : Int) (l : List Bs) {opnd : M Int} (h : Wm e opnd) : ∀ n x, Wm e (rowLoop l opnd n x) := by
  intro n
  induction n with
  | zero => exact fun x s => .pure List.suffix_rfl
  | succ n ih =>
    intro x s
    unfold rowLoop
    split
    · exact .pure List.suffix_rfl
    · rename_i t r ht
      split
      · exact .pure List.suffix_rfl
      · exact Wr.bind ((h _).weak (s0 := s) (by rw [ht]; exact List.suffix_cons _ _)) fun y s1 _ => Wr.bind (put_wr e _ s1) fun x s2 _ => ih x s2
theorem expr_wr {e : Int} {una : M Int} (h : Wm e una) : ∀ j, Wm e (exprS una j) := by
  intro j
  induction j with
  | zero => exact h
  | succ j ih =>
    intro s
    unfold exprS
    exact Wr.bind (ih s) fun x s1 _ => rowLoop_wr e _ ih _ x s1
theorem prim_wr (e : Int) (d : Nat) {inner : M Int} (h : ∀ d', d = d' + 1 → Wm e inner) : Wm e (primS e d inner) := fun s => by
  unfold primS
  split
  · rename_i hn
    have := Wr.here (α := Int) (e := e) (s0 := s) (er := 2) (.inl rfl)
    rw [hn] at this; exact this
  · rename_i t r ht
    have hs : (⟨r, s.ns, s.mo⟩ : PS).ts <:+ s.ts := by rw [ht]; exact List.suffix_cons _ _
    split
    · exact (put_wr e _ _).weak hs
    · split
      · exact Wr.weak (Wr.bind (within_wr e d [91] [93] h _) fun x s1 _ => put_wr e _ s1) hs
      · exact (put_wr e _ _).weak hs
    · split
      · exact (put_wr e _ _).weak hs
      · split
        · exact (put_wr e _ _).weak hs
        · split
          · exact Wr.weak (Wr.bind (ident_wr e _) fun t' s1 _ => put_wr e _ s1) hs
          · split
            · exact Wr.weak (Wr.bind (ident_wr e _) fun t' s1 _ => put_wr e _ s1) hs
            · split
              · exact within_wr e d [40] [41] h s
              · have := Wr.here (α := Int) (e := e) (s0 := s) (er := 2) (.inl rfl)
                rw [ht] at this; exact this
theorem unaB_wr (e : Int) (d : Nat) {una inner : M Int} (h1 : ∀ d', d = d' + 1 → Wm e una) (h2 : ∀ d', d = d' + 1 → Wm e inner) : Wm e (unaB e d una inner) := fun s => by
  unfold unaB
  split
  · rename_i hn
    have := Wr.here (α := Int) (e := e) (s0 := s) (er := 2) (.inl rfl)
    rw [hn] at this; exact this
  · split
    · exact Wr.bind (within_wr e d _ _ h1 s) fun x s1 _ => put_wr e _ s1
    · exact prim_wr e d h2 s
theorem una_wr (e : Int) : ∀ d, Wm e (unaS e d) := by
  intro d
  induction d with
  | zero => exact unaB_wr e 0 (fun d' h => by omega) (fun d' h => by omega)
  | succ d ih => exact unaB_wr e (d + 1) (fun _ _ => ih) (fun _ _ => expr_wr ih 5)
theorem ex_wr (e : Int) (d : Nat) : Wm e (exS e d) := expr_wr (una_wr e d) 5
theorem in_wr (e : Int) (d : Nat) : ∀ d', d = d' + 1 → Wm e (inS e d) := fun d' h => by subst h; exact ex_wr e d'
theorem index_wr (e : Int) (d : Nat) : Wm e (indexS e d) := within_wr e d _ _ (in_wr e d)
theorem comma_wr {α : Type} {e : Int} {one : List α → M (List α)} (h : ∀ l, Wm e (one l)) : ∀ n l, Wm e (commaL one n l) := by
  intro n
  induction n with
  | zero => exact fun l s => .pure List.suffix_rfl
  | succ n ih =>
    intro l s
    unfold commaL
    split
    · exact Wr.bind ((h l _).weak (drop_sfx s)) fun l' s1 _ => ih l' s1
    · exact .pure List.suffix_rfl
theorem list_wr {α : Type} {e : Int} {one : List α → M (List α)} (h : ∀ l, Wm e (one l)) (l : List α) : Wm e (listS one l) := fun s => by
  unfold listS
  split
  · exact .pure List.suffix_rfl
  · exact Wr.bind (h l s) fun l' s1 _ => comma_wr h _ l' s1
theorem one_wr {e : Int} {m : M Int} (h : Wm e m) (l : List Int) : Wm e (oneS m l) := fun s => Wr.bind (h s) fun _ _ _ => .pure List.suffix_rfl
theorem call_wr (e : Int) (d : Nat) (a : Int) (tx : Bs) : Wm e (callS e d a tx) := fun s => by
  unfold callS
  exact Wr.bind (ident_wr e s) fun t s1 _ => Wr.bind (put_wr e _ s1) fun x s2 _ => Wr.bind (within_wr e d _ _ (fun d' h => list_wr (fun l => one_wr (in_wr e d d' h) l) [x]) s2) fun l s3 _ => put_wr e _ s3
theorem chan_wr (e : Int) : Wm e (chanS e) := fun s => Wr.bind (ident_wr e s) fun _ s1 _ => put_wr e _ s1
theorem named_wr (e : Int) (d : Nat) : Wm e (namedS e d) := fun s => by
  unfold namedS
  refine Wr.bind (ident_wr e s) fun t s1 _ => ?_
  split
  · exact Wr.bind (index_wr e d s1) fun x s2 _ => Wr.bind (want_wr e _ s2) fun _ s3 _ => Wr.bind (ex_wr e d s3) fun y s4 _ => put_wr e _ s4
  · refine Wr.bind (want_wr e _ s1) fun _ s2 _ => ?_
    split
    · exact Wr.bind ((chan_wr e _).weak (drop_sfx s2)) fun x s3 _ => put_wr e _ s3
    · split
      · exact (call_wr e d _ _ _).weak (drop_sfx s2)
      · split
        · exact Wr.bind ((ex_wr e d _).weak (drop_sfx s2)) fun x s3 _ => put_wr e _ s3
        · exact Wr.bind (ex_wr e d _) fun x s3 _ => put_wr e _ s3
theorem plain_wr (e : Int) (d : Nat) : Wm e (plainS e d) := fun s => by
  unfold plainS
  simp only
  split
  · exact Wr.bind ((chan_wr e _).weak (drop_sfx s)) fun c s1 _ => Wr.bind (ex_wr e d s1) fun x s2 _ => put_wr e _ s2
  · split
    · exact (call_wr e d _ _ _).weak (drop_sfx s)
    · split
      · exact Wr.bind ((ex_wr e d _).weak (drop_sfx s)) fun x s1 _ => put_wr e _ s1
      · split
        · split
          · exact (put_wr e _ _).weak (drop_sfx s)
          · exact Wr.bind ((ex_wr e d _).weak (drop_sfx s)) fun x s1 _ => put_wr e _ s1
        · exact named_wr e d s
theorem stmtsL_wr {e : Int} {stmt : M Int} (h : Wm e stmt) (hd : Dm 0 1 stmt) : ∀ n l s, s.ts.length < n → Wr e s (stmtsL stmt n l s) := by
  intro n
  induction n with
  | zero => intro l s hn; omega
  | succ n ih =>
    intro l s hn
    unfold stmtsL
    split
    · exact .pure List.suffix_rfl
    · refine Wr.bind (h s) fun x s1 h1 => ih _ s1 ?_
      have := (hd s x s1 h1).2
      omega
theorem stmts_wr {e : Int} {stmt : M Int} (h : Wm e stmt) (hd : Dm 0 1 stmt) (l : List Int) : Wm e (stmtsS stmt l) := fun s => stmtsL_wr h hd _ l s (Nat.lt_succ_self _)
theorem block_wr (e : Int) (d : Nat) {stmt : M Int} (h : ∀ d', d = d' + 1 → Wm e stmt ∧ Dm 0 1 stmt) : Wm e (blockB e d stmt) := fun s => by
  unfold blockB
  simp only
  exact Wr.bind (within_wr e d _ _ (fun d' hd => stmts_wr (h d' hd).1 (h d' hd).2 []) s) fun l s1 _ => put_wr e _ s1
theorem stmtB_wr (e : Int) (d : Nat) {stmt : M Int} (h : ∀ d', d = d' + 1 → Wm e stmt ∧ Dm 0 1 stmt) : Wm e (stmtB e d stmt) := fun s => by
  unfold stmtB
  simp only
  split
  · refine Wr.bind ((ex_wr e d _).weak (drop_sfx s)) fun x s1 _ => Wr.bind (block_wr e d h s1) fun a s2 _ => ?_
    split
    · exact Wr.bind ((block_wr e d h _).weak (drop_sfx s2)) fun b s3 _ => put_wr e _ s3
    · exact Wr.bind (put_wr e _ s2) fun b s3 _ => put_wr e _ s3
  · split
    · exact Wr.bind ((ex_wr e d _).weak (drop_sfx s)) fun x s1 _ => Wr.bind (block_wr e d h s1) fun a s2 _ => put_wr e _ s2
    · split
      · exact Wr.bind ((block_wr e d h _).weak (drop_sfx s)) fun a s1 _ => Wr.bind (want_wr e _ s1) fun _ s2 _ => Wr.bind (ident_wr e s2) fun t s3 _ => Wr.bind (block_wr e d h s3) fun b s4 _ => put_wr e _ s4
      · exact Wr.bind (plain_wr e d s) fun x s1 _ => Wr.bind (want_wr e _ s1) fun _ s2 _ => .pure List.suffix_rfl
theorem stmt_wr (e : Int) : ∀ d, Wm e (stmtS e d) := by
  intro d
  induction d with
  | zero => exact stmtB_wr e 0 (fun d' h => by omega)
  | succ d ih => exact stmtB_wr e (d + 1) (fun _ _ => ⟨ih, (stmt_le e d).weak (by omega) (by omega)⟩)
theorem typed_wr (e k a : Int) (tx : Bs) : Wm e (typedS e k a tx) := fun s => by
  unfold typedS
  split
  · exact .here (.inl rfl)
  · exact (put_wr e _ _).weak (drop_sfx s)
theorem varsL_wr (e kind : Int) : ∀ n l, Wm e (varsL e kind n l) := by
  intro n
  induction n with
  | zero => exact fun l s => .pure List.suffix_rfl
  | succ n ih =>
    intro l s
    unfold varsL
    split
    · exact .pure List.suffix_rfl
    · exact Wr.bind ((ident_wr e _).weak (drop_sfx s)) fun t s1 _ => Wr.bind (typed_wr e kind _ _ s1) fun x s2 _ => Wr.bind (want_wr e _ s2) fun _ s3 _ => ih _ s3
theorem vars_wr (e kind : Int) : Wm e (varsS e kind) := fun s => varsL_wr e kind _ [] s
theorem body_wr (e : Int) (d : Nat) : Wm e (bodyS e d) := fun s => by
  unfold bodyS
  simp only
  refine Wr.bind (within_wr e d _ _ (fun d' hd s => ?_) s) fun p s1 _ => Wr.bind (put_wr e _ s1) fun b s2 _ => .pure List.suffix_rfl
  subst hd
  exact Wr.bind (vars_wr e 5 s) fun vs s1 _ => Wr.bind (stmts_wr (stmt_wr e d') ((stmt_le e d').weak (by omega) (by omega)) [] s1) fun l s2 _ => .pure List.suffix_rfl
theorem param_wr (e : Int) : Wm e (paramS e) := fun s => Wr.bind (ident_wr e s) fun t s1 _ => typed_wr e 4 _ _ s1
theorem proc_wr (e : Int) (d : Nat) : Wm e (procS e d) := fun s => by
  unfold procS
  simp only
  refine Wr.bind (want_wr e _ s) fun _ s1 _ => Wr.bind (ident_wr e s1) fun t s2 _ => Wr.bind (within_wr e d _ _ (fun d' hd => list_wr (fun l => one_wr (param_wr e) l) []) s2) fun ps s3 _ => ?_
  refine Wr.bind ((body_wr e d _).weak (s0 := s3) ?_) fun p s5 _ => put_wr e _ s5
  split
  · exact drop_sfx s3
  · exact List.suffix_rfl
theorem procsL_wr (e : Int) (d : Nat) : ∀ n l, Wm e (procsL e d n l) := by
  intro n
  induction n with
  | zero => exact fun l s => .pure List.suffix_rfl
  | succ n ih =>
    intro l s
    unfold procsL
    split
    · exact .pure List.suffix_rfl
    · exact Wr.bind (proc_wr e d s) fun x s1 _ => ih _ s1
theorem program_wr (e : Int) : Wm e (programS e) := fun s => by
  unfold programS
  exact Wr.bind (vars_wr e 2 s) fun l s1 _ => Wr.bind (procsL_wr e 40 _ l s1) fun l2 s2 _ => put_wr e _ s2
end Go.Ru

namespace Go.Proofs.YtbcngegcpdppfaaGreatDoor
open Go.AE Go.Ru

theorem isS_cases {w : Bs} {t : Tok} {r : List Tok} (h : isS w (t :: r) = true) : (t.k = .word ∨ t.k = .sign) ∧ t.tx = w := by
  obtain ⟨tk, tn, ta, tx⟩ := t
  cases tk <;> simp [isS] at h ⊢ <;> exact h
theorem una_first {e : Int} {d : Nat} {una inner : M Int} {s : PS} {a : Int} {s' : PS} (h : unaB e d una inner s = .ok a s') : s.ts ≠ [] ∧ isS [118, 97, 114] s.ts = false ∧ isS [112, 114, 111, 99] s.ts = false := by
  obtain ⟨ts, ns, mo⟩ := s
  cases ts with
  | nil => simp [unaB] at h
  | cons t r =>
    refine ⟨by simp, ?_, ?_⟩
    · cases hb : isS [118, 97, 114] (t :: r) with
      | false => rfl
      | true =>
        obtain ⟨hk, hx⟩ := isS_cases hb
        obtain ⟨tk, tn, ta, tx⟩ := t
        simp only at hk hx
        subst hx
        rcases hk with rfl | rfl <;> simp [unaB, primS, isS] at h
    · cases hb : isS [112, 114, 111, 99] (t :: r) with
      | false => rfl
      | true =>
        obtain ⟨hk, hx⟩ := isS_cases hb
        obtain ⟨tk, tn, ta, tx⟩ := t
        simp only at hk hx
        subst hx
        rcases hk with rfl | rfl <;> simp [unaB, primS, isS] at h
theorem expr_una {una : M Int} : ∀ (j : Nat) (s : PS) (a : Int) (s' : PS), exprS una j s = .ok a s' → ∃ a1 s1, una s = .ok a1 s1 := by
  intro j
  induction j with
  | zero => exact fun s a s' h => ⟨a, s', h⟩
  | succ j ih =>
    intro s a s' h
    unfold exprS at h
    obtain ⟨x, s1, h1, _⟩ := bind_ok h
    exact ih s x s1 h1
theorem ex_first {e : Int} {d : Nat} {s : PS} {a : Int} {s' : PS} (h : exS e d s = .ok a s') : s.ts ≠ [] ∧ isS [118, 97, 114] s.ts = false ∧ isS [112, 114, 111, 99] s.ts = false := by
  obtain ⟨a1, s1, h1⟩ := expr_una 5 s a s' h
  cases d with
  | zero => exact una_first (show unaB e 0 _ _ s = .ok a1 s1 from h1)
  | succ d => exact una_first (show unaB e (d + 1) _ _ s = .ok a1 s1 from h1)
theorem program_first {e : Int} {s : PS} {a : Int} {s' : PS} (h : programS e s = .ok a s') : s.ts = [] ∨ isS [118, 97, 114] s.ts = true ∨ isS [112, 114, 111, 99] s.ts = true := by
  obtain ⟨ts, ns, mo⟩ := s
  cases ts with
  | nil => exact .inl rfl
  | cons t r =>
    refine .inr ?_
    cases hv : isS [118, 97, 114] (t :: r) with
    | true => exact .inl rfl
    | false =>
      refine .inr ?_
      unfold programS at h
      obtain ⟨l, s1, h1, h⟩ := bind_ok h
      obtain ⟨l2, s2, h2, h⟩ := bind_ok h
      unfold varsS at h1
      simp only [List.length_cons, varsL, hv] at h1
      simp only [R.ok.injEq] at h1
      obtain ⟨rfl, rfl⟩ := h1
      simp only [List.length_cons, procsL] at h2
      obtain ⟨x, s3, h3, h2⟩ := bind_ok h2
      unfold procS at h3
      simp only at h3
      obtain ⟨_, s4, h4, h3⟩ := bind_ok h3
      unfold wantS at h4
      split at h4
      · assumption
      · simp at h4

theorem hd_mem {e : Int} {t ts : List Tok} (h : t <:+ ts) : (atsS e ts).any (· == hd e t) = true := by
  rw [List.any_eq_true]
  cases t with
  | nil => exact ⟨e, by simp [atsS], by simp [hd]⟩
  | cons x r => exact ⟨x.at_, by
      simp only [atsS, List.mem_append, List.mem_map]
      exact .inl ⟨x, h.subset (List.mem_cons_self ..), rfl⟩, by simp [hd]⟩
theorem read_told {S : Int → PS → R Int} {s : Bs} (hS : Wm s.length (S s.length)) (hl : s.length ≤ 20000) {ts : List Tok} (hc : cutT s = .ok ts) :
    toldS s.length ts (readS S s).place (readS S s).err = true ∧ ((readS S s).err = 0 → ∃ root s', S s.length ⟨ts, [], 0⟩ = .ok root s') := by
  unfold readS
  rw [if_neg (by omega), hc]
  simp only
  have hw := hS ⟨ts, [], 0⟩
  cases hp : S s.length ⟨ts, [], 0⟩ with
  | bad a er =>
    obtain ⟨h1, t, h2, h3⟩ := hw.bad a er hp
    have hm := hd_mem (e := s.length) h2
    rw [← h3] at hm
    simp only [RR.place, RR.err, toldS]
    rcases h1 with rfl | rfl
    · exact ⟨by simp [hm], fun h => by omega⟩
    · exact ⟨by simp [hm], fun h => by omega⟩
  | ok root s' =>
    have hs := hw.ok root s' hp
    simp only
    split
    · rename_i t r ht
      rw [ht] at hs
      have hm := hd_mem (e := s.length) hs
      simp only [hd] at hm
      exact ⟨by simp [RR.place, RR.err, toldS, hm], fun _ => ⟨root, s', rfl⟩⟩
    · split
      · exact ⟨by simp [RR.place, RR.err, toldS], fun _ => ⟨root, s', rfl⟩⟩
      · split
        · exact ⟨by simp [RR.place, RR.err, toldS], fun _ => ⟨root, s', rfl⟩⟩
        · exact ⟨by simp [RR.place, RR.err, toldS], fun _ => ⟨root, s', rfl⟩⟩

theorem placesLaw (s : Bs) : PlacesLaw s := by
  intro ts hl hc
  obtain ⟨h1, h2⟩ := read_told (S := programS) (program_wr _) hl hc
  obtain ⟨h3, h4⟩ := read_told (S := fun e => exS e 40) (ex_wr _ 40) hl hc
  refine ⟨?_, h1, h3⟩
  cases hb : ((proS s).err == 0 && (exprRS s).err == 0) with
  | false => rfl
  | true =>
    simp only [Bool.and_eq_true, beq_iff_eq] at hb
    obtain ⟨r1, s1, e1⟩ := h2 hb.1
    obtain ⟨r2, s2, e2⟩ := h4 hb.2
    obtain ⟨n1, n2, n3⟩ := ex_first e2
    rcases program_first e1 with h | h | h
    · exact absurd h n1
    · rw [n2] at h; cases h
    · rw [n3] at h; cases h

theorem places_calls (s : Bs) (K : List ABlk) (k : AO → List ABlk → Prop) (hk : k (.ret (.p (.bool true))) K) : ACalls Tryz.prog 4 [.p (.str s)] K k :=
  places_ok _ _ _ ⟨s, rfl, placesLaw s, hk⟩
end Go.Proofs.YtbcngegcpdppfaaGreatDoor

namespace Go.Ru
open Go

def Hp {α : Type} (r : R α) (p : α → PS → Prop) : Prop := ∀ a s, r = .ok a s → p a s
theorem Hp.bind {α β : Type} {r : R α} {f : α → PS → R β} {p : α → PS → Prop} {q : β → PS → Prop} (h : Hp r p) (h' : ∀ a s, p a s → Hp (f a s) q) : Hp (r.bind f) q := fun b s' hb => by
  obtain ⟨a, s, h1, h2⟩ := bind_ok hb
  exact h' a s (h a s h1) b s' h2
theorem Hp.imp {α : Type} {r : R α} {p q : α → PS → Prop} (h : Hp r p) (h' : ∀ a s, p a s → q a s) : Hp r q := fun a s hr => h' a s (h a s hr)
theorem Hp.pure {α : Type} {a : α} {s : PS} {p : α → PS → Prop} (h : p a s) : Hp (.ok a s) p := fun b s' hb => by
  injection hb with h1 h2; subst h1 h2; exact h
theorem Hp.bad {α : Type} {a e : Int} {p : α → PS → Prop} : Hp (.bad a e : R α) p := fun b s' hb => by cases hb

/-! ### sizes, one node more -/
theorem sizesS_snoc (ns : List Nd) (n : Nd) : ∀ out, sizesS (ns ++ [n]) out = (sizesS ns out).bind fun l => (kidsS l n.kids.reverse ((l.length : Int) - 1) 1).map fun c => l ++ [c] := by
  induction ns with
  | nil =>
    intro out
    simp only [List.nil_append, sizesS, Option.bind_some]
    cases kidsS out n.kids.reverse ((out.length : Int) - 1) 1 <;> rfl
  | cons a r ih =>
    intro out
    simp only [List.cons_append, sizesS]
    cases kidsS out a.kids.reverse ((out.length : Int) - 1) 1 with
    | none => rfl
    | some c => exact ih _
/-- roots of trees, the last first, one behind the other -/
def Chain (l : List Nat) : Int → List Int → Prop
  | last, [] => last = -1
  | last, p :: r => p = last ∧ 0 ≤ p ∧ p < l.length ∧ Chain l (p - (l.getD p.toNat 0 : Nat)) r
theorem Chain.kids {l : List Nat} : ∀ (ps qs : List Int) (last : Int) (size : Nat), Chain l last (ps ++ qs) → ∃ c last', kidsS l ps last size = some c ∧ (c : Int) = size + (last - last') ∧ Chain l last' qs := by
  intro ps
  induction ps with
  | nil => exact fun qs last size h => ⟨size, last, rfl, by omega, h⟩
  | cons p r ih =>
    rintro qs last size ⟨rfl, h0, h1, h2⟩
    obtain ⟨c, last', h3, h4, h5⟩ := ih qs _ (size + l.getD p.toNat 0) h2
    refine ⟨c, last', ?_, by omega, h5⟩
    simp only [kidsS, beq_self_eq_true, decide_eq_true h0, Bool.and_self]
    exact h3
theorem Chain.snoc {l : List Nat} (c : Nat) : ∀ (qs : List Int) (last : Int), Chain l last qs → Chain (l ++ [c]) last qs := by
  intro qs
  induction qs with
  | nil => exact fun last h => h
  | cons p r ih =>
    rintro last ⟨rfl, h0, h1, h2⟩
    refine ⟨rfl, h0, by simp; omega, ?_⟩
    have : (l ++ [c]).getD p.toNat 0 = l.getD p.toNat 0 := by
      rw [List.getD_eq_getElem?_getD, List.getD_eq_getElem?_getD, List.getElem?_append_left (by omega)]
    rw [this]; exact ih _ h2

/-! ### what is known of a state -/
section
variable (A : Int → Prop)
def TokOk (t : Tok) : Prop := A t.at_ ∧ (t.k = .name → identP t.tx = true) ∧ (t.k = .number → 0 ≤ t.n) ∧ t.tx.length < 1000000
/-- a node's shape, by the kinds of its kids -/
def Shape (k n : Int) (tx : Bs) (kk : List Int) : Prop := kk.length ≤ 4000 → 1 ≤ k ∧ k ≤ 27 ∧ textS k tx = true ∧ numberS k n = true ∧ kidsOkS k kk = true
structure GoodS (ns : List Nd) (stk : List (Int × Int)) : Prop where
  sizes : ∃ l, sizesS ns [] = some l ∧ Chain l ((l.length : Int) - 1) (stk.map (·.1))
  kind : ∀ x ∈ stk, 0 ≤ x.1 ∧ x.1 < ns.length ∧ (ns.getD x.1.toNat default).k = x.2
  node : ∀ i, i < ns.length → Shape (ns.getD i default).k (ns.getD i default).n (ns.getD i default).tx (kindsS ns (ns.getD i default)) ∧ (ns.getD i default).tx.length < 1000000
structure Good (e : Int) (s : PS) (stk : List (Int × Int)) : Prop where
  st : GoodS s.ns stk
  at_ : ∀ i, i < s.ns.length → A (s.ns.getD i default).at_
  tok : ∀ t ∈ s.ts, TokOk A t
  e : A e
variable {A}
theorem sizes_len {ns : List Nd} {l : List Nat} (h : sizesS ns [] = some l) : l.length = ns.length := by
  have := (sizesS_inv ns [] l (fun i hi => by simp at hi) h).1
  simpa using this
theorem kid_lt {ns : List Nd} {l : List Nat} (h : sizesS ns [] = some l) {i : Nat} (hi : i < ns.length) : ∀ q ∈ (ns.getD i default).kids, 0 ≤ q ∧ q < (i : Int) := by
  intro q hq
  have := (sizesS_inv ns [] l (fun i hi => by simp at hi) h).2.2 i hi q hq
  simpa using this
theorem kinds_snoc {ns : List Nd} {n : Nd} {m : Nd} (h : ∀ q ∈ m.kids, 0 ≤ q ∧ q < ns.length) : kindsS (ns ++ [n]) m = kindsS ns m := by
  unfold kindsS
  refine List.map_congr_left fun q hq => ?_
  have := h q hq
  rw [List.getD_eq_getElem?_getD, List.getD_eq_getElem?_getD, List.getElem?_append_left (by omega)]
theorem getD_snoc_lt {ns : List Nd} {n : Nd} {i : Nat} (h : i < ns.length) : (ns ++ [n]).getD i default = ns.getD i default := by
  rw [List.getD_eq_getElem?_getD, List.getD_eq_getElem?_getD, List.getElem?_append_left h]
theorem getD_snoc_len (ns : List Nd) (n : Nd) : (ns ++ [n]).getD ns.length default = n := by
  simp [List.getD_eq_getElem?_getD]
theorem GoodS.put {ns : List Nd} {stk : List (Int × Int)} (ks : List (Int × Int)) (n : Nd) (h : GoodS ns (ks.reverse ++ stk)) (hk : n.kids = ks.map (·.1)) (hs : Shape n.k n.n n.tx (ks.map (·.2))) (hx : n.tx.length < 1000000) :
    GoodS (ns ++ [n]) (((ns.length : Int), n.k) :: stk) := by
  obtain ⟨⟨l, hl, hc⟩, hkind, hnode⟩ := h
  have hlen := sizes_len hl
  rw [List.map_append] at hc
  obtain ⟨c, last', h1, h2, h3⟩ := hc.kids _ _ _ 1
  have hrev : n.kids.reverse = ks.reverse.map (·.1) := by rw [hk, List.map_reverse]
  refine ⟨⟨l ++ [c], ?_, ?_⟩, fun x hx' => ?_, fun i hi => ?_⟩
  · rw [sizesS_snoc, hl, Option.bind_some, hrev, h1]; rfl
  · refine ⟨by simp; omega, by simp, by simp; omega, ?_⟩
    have e1 : (l ++ [c]).getD (Int.toNat (ns.length : Int)) 0 = c := by
      rw [Int.toNat_natCast, ← hlen]; simp [List.getD_eq_getElem?_getD]
    simp only [List.map_cons]
    rw [e1]
    have e2 : (ns.length : Int) - c = last' := by omega
    rw [e2]
    exact h3.snoc c
  · rcases List.mem_cons.1 hx' with rfl | hx'
    · refine ⟨by simp, by simp; omega, ?_⟩
      simp only [Int.toNat_natCast]
      rw [getD_snoc_len]
    · obtain ⟨a1, a2, a3⟩ := hkind x (List.mem_append_right _ hx')
      refine ⟨a1, by simp; omega, ?_⟩
      rw [getD_snoc_lt (by omega)]; exact a3
  · by_cases e : i < ns.length
    · rw [getD_snoc_lt e, kinds_snoc (fun q hq => by have := kid_lt hl e q hq; omega)]
      exact hnode i e
    · have : i = ns.length := by simp at hi; omega
      subst this
      rw [getD_snoc_len]
      refine ⟨?_, hx⟩
      have e3 : kindsS (ns ++ [n]) n = ks.map (·.2) := by
        unfold kindsS
        rw [hk, List.map_map]
        refine List.map_congr_left fun x hx' => ?_
        obtain ⟨a1, a2, a3⟩ := hkind x (List.mem_append_left _ (List.mem_reverse.2 hx'))
        simp only [Function.comp_apply]
        rw [getD_snoc_lt (by omega)]; exact a3
      rw [e3]; exact hs
end

variable {A : Int → Prop} {e : Int}
theorem put_g {s : PS} {stk : List (Int × Int)} (ks : List (Int × Int)) {n : Nd} (h : Good A e s (ks.reverse ++ stk)) (hk : n.kids = ks.map (·.1)) (hs : Shape n.k n.n n.tx (ks.map (·.2))) (ha : A n.at_) (hx : n.tx.length < 1000000) :
    Hp (putS n s) fun x s' => Good A e s' ((x, n.k) :: stk) := .pure <| by
  refine ⟨h.st.put ks n hk hs hx, fun i hi => ?_, h.tok, h.e⟩
  by_cases hi' : i < s.ns.length
  · simp only; rw [getD_snoc_lt hi']; exact h.at_ i hi'
  · have : i = s.ns.length := by simp at hi; omega
    subst this
    simp only; rw [getD_snoc_len]; exact ha
theorem Good.drop {s : PS} {stk : List (Int × Int)} (h : Good A e s stk) : Good A e (dropS s) stk := ⟨h.st, h.at_, fun t ht => h.tok t (List.mem_of_mem_tail ht), h.e⟩
theorem Good.hd {s : PS} {stk : List (Int × Int)} (h : Good A e s stk) : A (hd e s.ts) := by
  cases ht : s.ts with
  | nil => exact h.e
  | cons t r => exact (h.tok t (by rw [ht]; exact List.mem_cons_self ..)).1
theorem want_g {w : Bs} {s : PS} {stk : List (Int × Int)} (h : Good A e s stk) : Hp (wantS e w s) fun _ s' => Good A e s' stk := by
  unfold wantS
  split
  · exact .pure h.drop
  · exact .bad
theorem ident_g {s : PS} {stk : List (Int × Int)} (h : Good A e s stk) : Hp (identS e s) fun t s' => Good A e s' stk ∧ identP t.tx = true ∧ A t.at_ ∧ t.tx.length < 1000000 := by
  unfold identS
  split
  · exact .bad
  · rename_i t r ht
    have h0 := h.tok t (by rw [ht]; exact List.mem_cons_self ..)
    split
    · rename_i hk
      exact .pure ⟨⟨h.st, h.at_, fun t ht' => h.tok t (by rw [ht]; exact List.mem_cons_of_mem _ ht'), h.e⟩, h0.2.1 hk, h0.1, h0.2.2.2⟩
    · exact .bad
theorem within_g {α : Type} {d : Nat} {op cl : Bs} {what : M α} {s : PS} {stk : List (Int × Int)} {p : α → PS → Prop} (h : Good A e s stk) (hw : ∀ d', d = d' + 1 → ∀ s, Good A e s stk → Hp (what s) p)
    (hp : ∀ a s, p a s → ∃ stk, Good A e s stk ∧ ∀ s', s'.ns = s.ns → Good A e s' stk → p a s') : Hp (withinS e d op cl what s) p := by
  unfold withinS
  split
  · exact .bad
  · split
    · exact .bad
    · refine Hp.bind (hw _ rfl _ ⟨h.st, h.at_, fun t ht => h.tok t (List.mem_of_mem_tail ht), h.e⟩) fun a s1 h1 => ?_
      split
      · exact .pure h1
      · obtain ⟨stk', h2, h3⟩ := hp a s1 h1
        refine Hp.bind (p := fun _ s' => s'.ns = s1.ns ∧ Good A e s' stk') ?_ fun _ s2 h4 => .pure (h3 s2 h4.1 h4.2)
        intro u s2 hs
        refine ⟨?_, want_g h2 u s2 hs⟩
        unfold wantS at hs
        split at hs
        · injection hs with _ hs; rw [← hs]; rfl
        · cases hs

/-- an answer, and its kind -/
def One (A : Int → Prop) (e : Int) (p : Int → Bool) (stk : List (Int × Int)) (x : Int) (s : PS) : Prop := ∃ k, p k = true ∧ Good A e s ((x, k) :: stk)
def G1 (A : Int → Prop) (e : Int) (p : Int → Bool) (m : M Int) : Prop := ∀ s stk, Good A e s stk → Hp (m s) (One A e p stk)
theorem One.back {p : Int → Bool} {stk : List (Int × Int)} (x : Int) (s : PS) (h : One A e p stk x s) : ∃ stk', Good A e s stk' ∧ ∀ s', s'.ns = s.ns → Good A e s' stk' → One A e p stk x s' := by
  obtain ⟨k, h1, h2⟩ := h
  exact ⟨_, h2, fun s' _ h3 => ⟨k, h1, h3⟩⟩
theorem one_put {s : PS} {stk : List (Int × Int)} (ks : List (Int × Int)) {n : Nd} {p : Int → Bool} (h : Good A e s (ks.reverse ++ stk)) (hk : n.kids = ks.map (·.1)) (hp : p n.k = true) (hs : Shape n.k n.n n.tx (ks.map (·.2))) (ha : A n.at_) (hx : n.tx.length < 1000000) :
    Hp (putS n s) (One A e p stk) := (put_g ks h hk hs ha hx).imp fun x s' h => ⟨n.k, hp, h⟩

theorem isS_tx {w : Bs} {t : Tok} {r : List Tok} (h : isS w (t :: r) = true) : t.tx = w := by
  obtain ⟨tk, tn, ta, tx⟩ := t
  cases tk <;> simp [isS] at h <;> exact h
theorem cnt_one {p : Int → Bool} {a : Int} {m : Nat} (h : p a = true) : cntS p (m + 1) [a] = 1 := by cases m <;> simp [cntS, h]
theorem row_signs (j : Nat) : ∀ w ∈ rowS j, textS 27 w = true ∧ w.length < 1000000 := by
  intro w hw
  match j with
  | 0 => simp [rowS] at hw; rcases hw with rfl | rfl | rfl <;> exact ⟨by decide, by decide⟩
  | 1 => simp [rowS] at hw; rcases hw with rfl | rfl <;> exact ⟨by decide, by decide⟩
  | 2 => simp [rowS] at hw; rcases hw with rfl | rfl | rfl | rfl | rfl | rfl <;> exact ⟨by decide, by decide⟩
  | 3 => simp [rowS] at hw; subst hw; exact ⟨by decide, by decide⟩
  | j + 4 => simp [rowS] at hw; subst hw; exact ⟨by decide, by decide⟩
end Go.Ru

namespace Go.Ru
open Go
set_option maxRecDepth 10000

variable {A : Int → Prop} {e : Int}
theorem rowLoop_g (j : Nat) {opnd : M Int} (h : G1 A e exB opnd) : ∀ n x s stk k, exB k = true → Good A e s ((x, k) :: stk) → Hp (rowLoop (rowS j) opnd n x s) (One A e exB stk) := by
  intro n
  induction n with
  | zero => exact fun x s stk k hk hs => .pure ⟨k, hk, hs⟩
  | succ n ih =>
    intro x s stk k hk hs
    unfold rowLoop
    split
    · exact .pure ⟨k, hk, hs⟩
    · rename_i t r ht
      split
      · exact .pure ⟨k, hk, hs⟩
      · rename_i ha
        have ht0 := hs.tok t (by rw [ht]; exact List.mem_cons_self ..)
        obtain ⟨w, hw, hw2⟩ := List.any_eq_true.1 ha
        obtain ⟨h1, h2⟩ := row_signs j w hw
        rw [← isS_tx hw2] at h1 h2
        refine Hp.bind (h _ ((x, k) :: stk) ⟨hs.st, hs.at_, fun t ht' => hs.tok t (by rw [ht]; exact List.mem_cons_of_mem _ ht'), hs.e⟩) fun y s1 ⟨k2, hk2, hs1⟩ => ?_
        refine Hp.bind (put_g [(x, k), (y, k2)] hs1 rfl (fun _ => ⟨by simp, by simp, by first | assumption | simp [textS, *], by simp [numberS, *], by simp [kidsOkS, cntS, *]⟩) ht0.1 h2) fun x2 s2 hs2 => ih x2 s2 stk 27 (by decide) hs2
theorem expr_g {una : M Int} (h : G1 A e exB una) : ∀ j, G1 A e exB (exprS una j) := by
  intro j
  induction j with
  | zero => exact h
  | succ j ih =>
    intro s stk hs
    unfold exprS
    exact Hp.bind (ih s stk hs) fun x s1 ⟨k, hk, hs1⟩ => rowLoop_g j ih _ x s1 stk k hk hs1
theorem prim_g (d : Nat) {inner : M Int} (h : ∀ d', d = d' + 1 → G1 A e exB inner) : G1 A e exB (primS e d inner) := by
  intro s stk hs
  unfold primS
  split
  · exact .bad
  · rename_i t r ht
    have ht0 := hs.tok t (by rw [ht]; exact List.mem_cons_self ..)
    have hs1 : Good A e ⟨r, s.ns, s.mo⟩ stk := ⟨hs.st, hs.at_, fun t ht' => hs.tok t (by rw [ht]; exact List.mem_cons_of_mem _ ht'), hs.e⟩
    split
    · rename_i hk
      have hn := ht0.2.2.1 hk
      exact one_put [] hs1 rfl rfl (fun _ => ⟨by simp, by simp, by first | assumption | simp [textS, *], by simp [numberS, *], by simp [kidsOkS, cntS, *]⟩) ht0.1 (by simp)
    · rename_i hk
      have hi := ht0.2.1 hk
      split
      · refine Hp.bind (within_g hs1 (fun d' hd s hs => h d' hd s stk hs) One.back) fun x s2 ⟨k, hk, hs2⟩ => ?_
        exact one_put [(x, k)] hs2 rfl rfl (fun _ => ⟨by simp, by simp, by first | assumption | simp [textS, *], by simp [numberS, *], by simp [kidsOkS, cntS, *]⟩) ht0.1 ht0.2.2.2
      · exact one_put [] hs1 rfl rfl (fun _ => ⟨by simp, by simp, by first | assumption | simp [textS, *], by simp [numberS, *], by simp [kidsOkS, cntS, *]⟩) ht0.1 ht0.2.2.2
    · split
      · exact one_put [] hs1 rfl rfl (fun _ => ⟨by simp, by simp, by first | assumption | simp [textS, *], by simp [numberS, *], by simp [kidsOkS, cntS, *]⟩) ht0.1 (by simp)
      · split
        · exact one_put [] hs1 rfl rfl (fun _ => ⟨by simp, by simp, by first | assumption | simp [textS, *], by simp [numberS, *], by simp [kidsOkS, cntS, *]⟩) ht0.1 (by simp)
        · split
          · exact Hp.bind (ident_g hs1) fun t' s2 ⟨hs2, hi, _, hx⟩ => one_put [] hs2 rfl rfl (fun _ => ⟨by simp, by simp, by first | assumption | simp [textS, *], by simp [numberS, *], by simp [kidsOkS, cntS, *]⟩) ht0.1 hx
          · split
            · exact Hp.bind (ident_g hs1) fun t' s2 ⟨hs2, hi, _, hx⟩ => one_put [] hs2 rfl rfl (fun _ => ⟨by simp, by simp, by first | assumption | simp [textS, *], by simp [numberS, *], by simp [kidsOkS, cntS, *]⟩) ht0.1 hx
            · split
              · exact within_g hs (fun d' hd s hs => h d' hd s stk hs) One.back
              · exact .bad
theorem unaB_g (d : Nat) {una inner : M Int} (h1 : ∀ d', d = d' + 1 → G1 A e exB una) (h2 : ∀ d', d = d' + 1 → G1 A e exB inner) : G1 A e exB (unaB e d una inner) := by
  intro s stk hs
  unfold unaB
  split
  · exact .bad
  · rename_i t r ht
    have ht0 := hs.tok t (by rw [ht]; exact List.mem_cons_self ..)
    split
    · rename_i hb
      have htx : textS 26 t.tx = true := by
        rw [Bool.or_eq_true] at hb
        rcases hb with hb | hb <;> rw [isS_tx hb] <;> decide
      exact Hp.bind (within_g hs (fun d' hd s hs => h1 d' hd s stk hs) One.back) fun x s2 ⟨k, hk, hs2⟩ => one_put [(x, k)] hs2 rfl rfl (fun _ => ⟨by simp, by simp, by first | assumption | simp [textS, *], by simp [numberS, *], by simp [kidsOkS, cntS, *]⟩) ht0.1 ht0.2.2.2
    · exact prim_g d h2 s stk hs
theorem una_g : ∀ d, G1 A e exB (unaS e d) := by
  intro d
  induction d with
  | zero => exact unaB_g 0 (fun d' h => by omega) (fun d' h => by omega)
  | succ d ih => exact unaB_g (d + 1) (fun _ _ => ih) (fun _ _ => expr_g ih 5)
theorem ex_g (d : Nat) : G1 A e exB (exS e d) := expr_g (una_g d) 5
theorem in_g (d : Nat) : ∀ d', d = d' + 1 → G1 A e exB (inS e d) := fun d' h => by subst h; exact ex_g d'
theorem index_g (d : Nat) : G1 A e exB (indexS e d) := fun s stk hs => within_g hs (fun d' hd s hs => in_g d d' hd s stk hs) One.back

/-- a list's answers, and their kinds -/
def Many (A : Int → Prop) (e : Int) (p : Int → Bool) (stk : List (Int × Int)) (l0 l : List Int) (s : PS) : Prop := ∃ ks : List (Int × Int), l = l0 ++ ks.map (·.1) ∧ (∀ x ∈ ks, p x.2 = true) ∧ Good A e s (ks.reverse ++ stk)
theorem Many.nil {p : Int → Bool} {stk : List (Int × Int)} {l : List Int} {s : PS} (h : Good A e s stk) : Many A e p stk l l s := ⟨[], by simp, by simp, h⟩
theorem Many.cons {p : Int → Bool} {stk : List (Int × Int)} {l l' : List Int} {x k : Int} {s : PS} (hk : p k = true) (h : Many A e p ((x, k) :: stk) (l ++ [x]) l' s) : Many A e p stk l l' s := by
  obtain ⟨ks, h1, h2, h3⟩ := h
  refine ⟨(x, k) :: ks, by rw [h1]; simp, fun y hy => ?_, by simpa using h3⟩
  rcases List.mem_cons.1 hy with rfl | hy
  · exact hk
  · exact h2 y hy
theorem Many.back {p : Int → Bool} {stk : List (Int × Int)} {l0 : List Int} (l : List Int) (s : PS) (h : Many A e p stk l0 l s) : ∃ stk', Good A e s stk' ∧ ∀ s', s'.ns = s.ns → Good A e s' stk' → Many A e p stk l0 l s' := by
  obtain ⟨ks, h1, h2, h3⟩ := h
  exact ⟨_, h3, fun s' _ h4 => ⟨ks, h1, h2, h4⟩⟩
theorem comma_g {p : Int → Bool} {m : M Int} (h : G1 A e p m) : ∀ n l s stk, Good A e s stk → Hp (commaL (oneS m) n l s) (Many A e p stk l) := by
  intro n
  induction n with
  | zero => exact fun l s stk hs => .pure (.nil hs)
  | succ n ih =>
    intro l s stk hs
    unfold commaL
    split
    · unfold oneS
      refine Hp.bind (p := fun l' s' => ∃ x k, p k = true ∧ l' = l ++ [x] ∧ Good A e s' ((x, k) :: stk)) (Hp.bind (h _ stk hs.drop) fun x s1 ⟨k, hk, hs1⟩ => .pure ⟨x, k, hk, rfl, hs1⟩) fun l' s' ⟨x, k, hk, e', hs'⟩ => ?_
      subst e'
      exact (ih _ s' _ hs').imp fun l' s' h => .cons hk h
    · exact .pure (.nil hs)
theorem list_g {p : Int → Bool} {m : M Int} (h : G1 A e p m) (l : List Int) (s : PS) (stk : List (Int × Int)) (hs : Good A e s stk) : Hp (listS (oneS m) l s) (Many A e p stk l) := by
  unfold listS
  split
  · exact .pure (.nil hs)
  · unfold oneS
    refine Hp.bind (p := fun l' s' => ∃ x k, p k = true ∧ l' = l ++ [x] ∧ Good A e s' ((x, k) :: stk)) (Hp.bind (h _ stk hs) fun x s1 ⟨k, hk, hs1⟩ => .pure ⟨x, k, hk, rfl, hs1⟩) fun l' s' ⟨x, k, hk, e', hs'⟩ => ?_
    subst e'
    exact (comma_g h _ _ s' _ hs').imp fun l' s' h => .cons hk h
theorem cnt_all {p : Int → Bool} : ∀ (l : List Int) (m : Nat), (∀ x ∈ l, p x = true) → l.length ≤ m → cntS p m l = l.length := by
  intro l
  induction l with
  | nil => intro m _ _; cases m <;> rfl
  | cons a l ih =>
    intro m h hm
    cases m with
    | zero => simp at hm
    | succ m => rw [cnt_t (h a (List.mem_cons_self ..)), ih m (fun x hx => h x (List.mem_cons_of_mem _ hx)) (by simpa using hm)]; rfl
theorem cnt_app {p : Int → Bool} : ∀ (l r : List Int) (m : Nat), (∀ x ∈ l, p x = true) → l.length ≤ m → cntS p m (l ++ r) = l.length + cntS p (m - l.length) r := by
  intro l
  induction l with
  | nil => intro r m _ _; simp
  | cons a l ih =>
    intro r m h hm
    cases m with
    | zero => simp at hm
    | succ m =>
      rw [List.cons_append, cnt_t (h a (List.mem_cons_self ..)), ih r m (fun x hx => h x (List.mem_cons_of_mem _ hx)) (by simpa using hm)]
      simp only [List.length_cons, Nat.add_sub_add_right]; omega
theorem cnt_no {p : Int → Bool} {m : Nat} {a : Int} {l : List Int} (h : p a = false) : cntS p m (a :: l) = 0 := by cases m <;> simp [cntS, h]
theorem call_g (d : Nat) (a : Int) (tx : Bs) (ha : A a) (ht : textS 13 tx = true) (hx : tx.length < 1000000) {p : Int → Bool} (hp : p 13 = true) : G1 A e p (callS e d a tx) := by
  intro s stk hs
  unfold callS
  refine Hp.bind (ident_g hs) fun t s1 ⟨hs1, hi, hta, htx⟩ => Hp.bind (put_g [] hs1 rfl (fun _ => ⟨by simp, by simp, by first | assumption | simp [textS, *], by simp [numberS, *], by simp [kidsOkS, cntS, *]⟩) hta htx) fun x s2 hs2 => Hp.bind (within_g hs2 (fun d' hd s hs => list_g (in_g d d' hd) [x] s _ hs) Many.back) fun l s3 ⟨ks, h1, h2, h3⟩ => ?_
  refine one_put ((x, 19) :: ks) (by simpa using h3) (by rw [h1]; rfl) hp (fun hl => ⟨by simp, by simp, ht, by simp [numberS], ?_⟩) ha hx
  have hall : ∀ y ∈ ks.map (·.2), exB y = true := fun y hy => by
    obtain ⟨z, hz, rfl⟩ := List.mem_map.1 hy
    exact h2 z hz
  have hc := cnt_all (ks.map (·.2)) 4000 hall (by simp at hl ⊢; omega)
  have h0 : cntS (fun k => k == 19) 1 (19 :: ks.map (·.2)) = 1 := by simp [cntS]
  simp only [kidsOkS, List.map_cons, List.drop_zero]
  rw [h0]
  simp only [List.drop_succ_cons, List.drop_zero]
  rw [hc]
  simp
  omega
theorem chan_g : G1 A e (fun k => k == 18) (chanS e) := fun s stk hs => Hp.bind (ident_g hs) fun t s1 ⟨hs1, hi, hta, htx⟩ => one_put [] hs1 rfl rfl (fun _ => ⟨by simp, by simp, by first | assumption | simp [textS, *], by simp [numberS, *], by simp [kidsOkS, cntS, *]⟩) hta htx
theorem named_g (d : Nat) : G1 A e stB (namedS e d) := by
  intro s stk hs
  unfold namedS
  refine Hp.bind (ident_g hs) fun t s1 ⟨hs1, hi, hta, htx⟩ => ?_
  have ht13 : textS 13 t.tx = true := by simp [textS, hi]
  split
  · exact Hp.bind (index_g d s1 _ hs1) fun x s2 ⟨k, hk, hs2⟩ => Hp.bind (want_g hs2) fun _ s3 hs3 => Hp.bind (ex_g d s3 _ hs3) fun y s4 ⟨k2, hk2, hs4⟩ => one_put [(x, k), (y, k2)] hs4 rfl rfl (fun _ => ⟨by simp, by simp, by first | assumption | simp [textS, *], by simp [numberS, *], by simp [kidsOkS, cntS, *]⟩) hta htx
  · refine Hp.bind (want_g hs1) fun _ s2 hs2 => ?_
    split
    · exact Hp.bind (chan_g _ _ hs2.drop) fun x s3 ⟨k, hk, hs3⟩ => one_put [(x, k)] hs3 rfl rfl (fun _ => ⟨by simp, by simp, by simp [textS, *], by simp [numberS], by simp only [beq_iff_eq] at hk; subst hk; simp [kidsOkS, cntS]⟩) hta htx
    · split
      · exact call_g d _ _ hta ht13 htx rfl _ _ hs2.drop
      · split
        · exact Hp.bind (ex_g d _ _ hs2.drop) fun x s3 ⟨k, hk, hs3⟩ => one_put [(x, k)] hs3 rfl rfl (fun _ => ⟨by simp, by simp, by first | assumption | simp [textS, *], by simp [numberS, *], by simp [kidsOkS, cntS, *]⟩) hta htx
        · exact Hp.bind (ex_g d _ _ hs2) fun x s3 ⟨k, hk, hs3⟩ => one_put [(x, k)] hs3 rfl rfl (fun _ => ⟨by simp, by simp, by first | assumption | simp [textS, *], by simp [numberS, *], by simp [kidsOkS, cntS, *]⟩) hta htx
theorem plain_g (d : Nat) : G1 A e stB (plainS e d) := by
  intro s stk hs
  unfold plainS
  simp only
  have ha := hs.hd
  split
  · exact Hp.bind (chan_g _ _ hs.drop) fun c s1 ⟨k, hk, hs1⟩ => Hp.bind (ex_g d _ _ hs1) fun x s2 ⟨k2, hk2, hs2⟩ => one_put [(c, k), (x, k2)] hs2 rfl rfl (fun _ => ⟨by simp, by simp, by simp [textS], by simp [numberS], by simp only [beq_iff_eq] at hk; subst hk; simp [kidsOkS, cntS, hk2]⟩) ha (by simp)
  · split
    · exact call_g d _ _ ha rfl (by simp) rfl _ _ hs.drop
    · split
      · exact Hp.bind (ex_g d _ _ hs.drop) fun x s3 ⟨k, hk, hs3⟩ => one_put [(x, k)] hs3 rfl rfl (fun _ => ⟨by simp, by simp, by first | assumption | simp [textS, *], by simp [numberS, *], by simp [kidsOkS, cntS, *]⟩) ha (by simp)
      · split
        · split
          · exact one_put [] hs.drop rfl rfl (fun _ => ⟨by simp, by simp, by first | assumption | simp [textS, *], by simp [numberS, *], by simp [kidsOkS, cntS, *]⟩) ha (by simp)
          · exact Hp.bind (ex_g d _ _ hs.drop) fun x s3 ⟨k, hk, hs3⟩ => one_put [(x, k)] hs3 rfl rfl (fun _ => ⟨by simp, by simp, by first | assumption | simp [textS, *], by simp [numberS, *], by simp [kidsOkS, cntS, *]⟩) ha (by simp)
        · exact named_g d s stk hs
theorem stmtsL_g {p : Int → Bool} {stmt : M Int} (h : G1 A e p stmt) : ∀ n l s stk, Good A e s stk → Hp (stmtsL stmt n l s) (Many A e p stk l) := by
  intro n
  induction n with
  | zero => exact fun l s stk hs => .bad
  | succ n ih =>
    intro l s stk hs
    unfold stmtsL
    split
    · exact .pure (.nil hs)
    · exact Hp.bind (h s stk hs) fun x s1 ⟨k, hk, hs1⟩ => (ih _ s1 _ hs1).imp fun l' s' h => .cons hk h
theorem block_put {s : PS} {stk : List (Int × Int)} {l : List Int} {a : Int} (ha : A a) (h : Many A e stB stk [] l s) : Hp (putS ⟨6, 0, a, [], l⟩ s) (One A e (fun k => k == 6) stk) := by
  obtain ⟨ks, h1, h2, h3⟩ := h
  refine one_put ks h3 (by simpa using h1) rfl (fun hl => ⟨by simp, by simp, by simp [textS], by simp [numberS], ?_⟩) ha (by simp)
  have hall : ∀ y ∈ ks.map (·.2), stB y = true := fun y hy => by
    obtain ⟨z, hz, rfl⟩ := List.mem_map.1 hy
    exact h2 z hz
  have hc := cnt_all (ks.map (·.2)) 4000 hall hl
  simp only [kidsOkS, List.drop_zero]
  rw [hc]; simp
theorem block_g (d : Nat) {stmt : M Int} (h : ∀ d', d = d' + 1 → G1 A e stB stmt) : G1 A e (fun k => k == 6) (blockB e d stmt) := by
  intro s stk hs
  unfold blockB
  simp only
  exact Hp.bind (within_g hs (fun d' hd s hs => stmtsL_g (h d' hd) _ [] s stk hs) Many.back) fun l s1 h1 => block_put hs.hd h1
theorem stmtB_g (d : Nat) {stmt : M Int} (h : ∀ d', d = d' + 1 → G1 A e stB stmt) : G1 A e stB (stmtB e d stmt) := by
  intro s stk hs
  unfold stmtB
  simp only
  have ha := hs.hd
  split
  · refine Hp.bind (ex_g d _ _ hs.drop) fun x s1 ⟨k, hk, hs1⟩ => Hp.bind (block_g d h _ _ hs1) fun a s2 ⟨k2, hk2, hs2⟩ => ?_
    simp only [beq_iff_eq] at hk2; subst hk2
    split
    · refine Hp.bind (block_g d h _ _ hs2.drop) fun b s3 ⟨k3, hk3, hs3⟩ => ?_
      simp only [beq_iff_eq] at hk3; subst hk3
      exact one_put [(x, k), (a, 6), (b, 6)] hs3 rfl rfl (fun _ => ⟨by simp, by simp, by first | assumption | simp [textS, *], by simp [numberS, *], by simp [kidsOkS, cntS, *]⟩) ha (by simp)
    · exact Hp.bind (put_g [] hs2 rfl (n := ⟨6, 0, hd e s.ts, [], []⟩) (fun _ => ⟨by simp, by simp, by first | assumption | simp [textS, *], by simp [numberS, *], by simp [kidsOkS, cntS, *]⟩) ha (by simp)) fun b s3 hs3 => one_put [(x, k), (a, 6), (b, 6)] hs3 rfl rfl (fun _ => ⟨by simp, by simp, by first | assumption | simp [textS, *], by simp [numberS, *], by simp [kidsOkS, cntS, *]⟩) ha (by simp)
  · split
    · refine Hp.bind (ex_g d _ _ hs.drop) fun x s1 ⟨k, hk, hs1⟩ => Hp.bind (block_g d h _ _ hs1) fun a s2 ⟨k2, hk2, hs2⟩ => ?_
      simp only [beq_iff_eq] at hk2; subst hk2
      exact one_put [(x, k), (a, 6)] hs2 rfl rfl (fun _ => ⟨by simp, by simp, by first | assumption | simp [textS, *], by simp [numberS, *], by simp [kidsOkS, cntS, *]⟩) ha (by simp)
    · split
      · refine Hp.bind (block_g d h _ _ hs.drop) fun a s1 ⟨k, hk, hs1⟩ => Hp.bind (want_g hs1) fun _ s2 hs2 => Hp.bind (ident_g hs2) fun t s3 ⟨hs3, hi, hta, htx⟩ => Hp.bind (block_g d h _ _ hs3) fun b s4 ⟨k2, hk2, hs4⟩ => ?_
        simp only [beq_iff_eq] at hk hk2; subst hk hk2
        exact one_put [(a, 6), (b, 6)] hs4 rfl rfl (fun _ => ⟨by simp, by simp, by first | assumption | simp [textS, *], by simp [numberS, *], by simp [kidsOkS, cntS, *]⟩) ha htx
      · exact Hp.bind (plain_g d s stk hs) fun x s1 ⟨k, hk, hs1⟩ => Hp.bind (want_g hs1) fun _ s2 hs2 => .pure ⟨k, hk, hs2⟩
theorem stmt_g : ∀ d, G1 A e stB (stmtS e d) := by
  intro d
  induction d with
  | zero => exact stmtB_g 0 (fun d' h => by omega)
  | succ d ih => exact stmtB_g (d + 1) (fun _ _ => ih)
theorem inStmt_g (d : Nat) : ∀ d', d = d' + 1 → G1 A e stB (inStmtS e d) := fun d' h => by subst h; exact stmt_g d'
theorem types_in4 (ts : List Tok) : 0 ≤ typesS ts ∧ typesS ts ≤ 4 := by
  unfold typesS
  split
  · omega
  · split
    · omega
    · split
      · omega
      · split <;> omega
theorem typed_g (k a : Int) (tx : Bs) (hk : k = 2 ∨ k = 4 ∨ k = 5) (ha : A a) (ht : identP tx = true) (hx : tx.length < 1000000) : G1 A e (fun q => q == k) (typedS e k a tx) := by
  intro s stk hs
  unfold typedS
  split
  · exact .bad
  · rename_i h0
    have h1 := types_in4 s.ts
    have h2 : typesS s.ts ≠ 0 := beq_eq_false_iff_ne.1 h0
    refine one_put [] hs.drop rfl (by simp) (fun _ => ⟨by simp only; omega, by simp only; omega, ?_, ?_, ?_⟩) ha hx
    · rcases hk with rfl | rfl | rfl <;> simp [textS, ht]
    · rcases hk with rfl | rfl | rfl <;> simp [numberS] <;> omega
    · rcases hk with rfl | rfl | rfl <;> simp [kidsOkS, cntS]
theorem varsL_g (kind : Int) (hk : kind = 2 ∨ kind = 4 ∨ kind = 5) : ∀ n l s stk, Good A e s stk → Hp (varsL e kind n l s) (Many A e (fun q => q == kind) stk l) := by
  intro n
  induction n with
  | zero => exact fun l s stk hs => .pure (.nil hs)
  | succ n ih =>
    intro l s stk hs
    unfold varsL
    split
    · exact .pure (.nil hs)
    · exact Hp.bind (ident_g hs.drop) fun t s1 ⟨hs1, hi, hta, htx⟩ => Hp.bind (typed_g kind _ _ hk hs.hd hi htx s1 stk hs1) fun x s2 ⟨k, hk', hs2⟩ => Hp.bind (want_g hs2) fun _ s3 hs3 => (ih _ s3 _ hs3).imp fun l' s' h => .cons hk' h
/-- declarations, and a block -/
theorem body_g (d : Nat) (s : PS) (stk : List (Int × Int)) (hs : Good A e s stk) : Hp (bodyS e d s) (fun p s' => ∃ ks : List (Int × Int), p.1 = ks.map (·.1) ∧ (∀ x ∈ ks, x.2 = 5) ∧ Good A e s' ((p.2, 6) :: (ks.reverse ++ stk))) := by
  unfold bodyS
  simp only
  refine Hp.bind (p := fun (p : List Int × List Int) s' => ∃ ks : List (Int × Int), p.1 = ks.map (·.1) ∧ (∀ x ∈ ks, x.2 = 5) ∧ Many A e stB (ks.reverse ++ stk) [] p.2 s') ?_ ?_
  · refine within_g hs (fun d' hd s hs => ?_) ?_
    · refine Hp.bind (varsL_g 5 (by simp) _ [] s stk hs) fun vs s1 ⟨ks, h1, h2, h3⟩ => ?_
      refine Hp.bind (stmtsL_g (inStmt_g d d' hd) _ [] s1 _ h3) fun l s2 h4 => .pure ⟨ks, by simpa using h1, fun x hx => by simpa using h2 x hx, h4⟩
    · rintro p s ⟨ks, h1, h2, h3⟩
      obtain ⟨stk', h4, h5⟩ := Many.back _ _ h3
      exact ⟨stk', h4, fun s' e' h6 => ⟨ks, h1, h2, h5 s' e' h6⟩⟩
  · rintro p s1 ⟨ks, h1, h2, h3⟩
    refine Hp.bind (block_put hs.hd h3) fun b s2 ⟨k, hk, hs2⟩ => .pure ⟨ks, h1, h2, ?_⟩
    simp only [beq_iff_eq] at hk; subst hk
    exact hs2
theorem param_g : G1 A e (fun q => q == 4) (paramS e) := fun s stk hs => Hp.bind (ident_g hs) fun t s1 ⟨hs1, hi, hta, htx⟩ => typed_g 4 _ _ (by simp) hta hi htx s1 stk hs1
theorem proc_g (d : Nat) : G1 A e (fun q => q == 3) (procS e d) := by
  intro s stk hs
  unfold procS
  simp only
  refine Hp.bind (want_g hs) fun _ s1 hs1 => Hp.bind (ident_g hs1) fun t s2 ⟨hs2, hi, hta, htx⟩ => Hp.bind (within_g hs2 (fun d' hd s hs => list_g param_g [] s stk hs) Many.back) fun ps s3 ⟨ks, h1, h2, h3⟩ => ?_
  have h4 := types_in4 s3.ts
  have h5 : Good A e (match decide (typesS s3.ts > 0) with
        | true => dropS s3
        | false => s3) (ks.reverse ++ stk) := by
    split
    · exact h3.drop
    · exact h3
  refine Hp.bind (body_g d _ _ h5) fun p s4 ⟨ks2, h6, h7, h8⟩ => ?_
  refine one_put (ks ++ ks2 ++ [(p.2, 6)]) (by simpa using h8) (by simp [h1, h6]) rfl (fun hl => ⟨by simp, by simp, by simp [textS, hi], by simp [numberS]; omega, ?_⟩) hs.hd htx
  have ha1 : ∀ y ∈ ks.map (·.2), (fun k => k == (4 : Int)) y = true := fun y hy => by
    obtain ⟨z, hz, rfl⟩ := List.mem_map.1 hy
    exact h2 z hz
  have ha2 : ∀ y ∈ ks2.map (·.2), (fun k => k == (5 : Int)) y = true := fun y hy => by
    obtain ⟨z, hz, rfl⟩ := List.mem_map.1 hy
    simp [h7 z hz]
  simp only [List.map_append, List.map_cons, List.map_nil, List.length_append, List.length_cons, List.length_nil, List.length_map] at hl
  have hc1 : cntS (fun k => k == 4) 4000 (ks.map (·.2) ++ (ks2.map (·.2) ++ [6])) = ks.length := by
    rw [cnt_app _ _ _ ha1 (by simp; omega), List.length_map]
    have : cntS (fun k => k == 4) (4000 - ks.length) (ks2.map (·.2) ++ [6]) = 0 := by
      cases hk2 : ks2.map (·.2) with
      | nil => exact cnt_no (by decide)
      | cons y r =>
        have := ha2 y (by rw [hk2]; exact List.mem_cons_self ..)
        simp only [beq_iff_eq] at this; subst this
        exact cnt_no (by decide)
    rw [this]; rfl
  have hc2 : cntS (fun k => k == 5) 4000 (ks2.map (·.2) ++ [6]) = ks2.length := by
    rw [cnt_app _ _ _ ha2 (by simp; omega), List.length_map, cnt_no (by decide)]; rfl
  have hd1 : List.drop ks.length ((ks.map fun x : Int × Int => x.2) ++ ((ks2.map fun x : Int × Int => x.2) ++ [6])) = (ks2.map fun x : Int × Int => x.2) ++ [6] := by rw [List.drop_append_of_le_length (by simp)]; simp
  have hd2 : List.drop (ks.length + ks2.length) ((ks.map fun x : Int × Int => x.2) ++ ((ks2.map fun x : Int × Int => x.2) ++ [6])) = [6] := by
    rw [← List.drop_drop, hd1, List.drop_append_of_le_length (by simp)]; simp
  simp only [kidsOkS, List.map_append, List.map_cons, List.map_nil, List.append_assoc, List.drop_zero, Int.reduceEq, if_false, if_true, Nat.zero_add]
  rw [hc1, hd1, hc2, hd2]
  simp [cntS]
  omega
theorem procsL_g (d : Nat) : ∀ n l s stk, Good A e s stk → Hp (procsL e d n l s) (Many A e (fun q => q == 3) stk l) := by
  intro n
  induction n with
  | zero => exact fun l s stk hs => .pure (.nil hs)
  | succ n ih =>
    intro l s stk hs
    unfold procsL
    split
    · exact .pure (.nil hs)
    · exact Hp.bind (proc_g d s stk hs) fun x s1 ⟨k, hk, hs1⟩ => (ih _ s1 _ hs1).imp fun l' s' h => .cons hk h
/-- a program: its nodes, the last one's place aside -/
theorem program_g (s : PS) (hs : Good A e s []) : Hp (programS e s) (fun x s' => GoodS s'.ns [(x, 1)] ∧ ∀ i, i + 1 < s'.ns.length → A (s'.ns.getD i default).at_) := by
  unfold programS
  refine Hp.bind (varsL_g 2 (by simp) _ [] s [] hs) fun vs s1 ⟨ks, h1, h2, h3⟩ => Hp.bind (procsL_g 40 _ _ s1 _ h3) fun l s2 ⟨ks2, h4, h5, h6⟩ => .pure ⟨?_, fun i hi => ?_⟩
  · refine GoodS.put (ks ++ ks2) _ (by simpa using h6.st) (by simp [h4, h1]) (fun hl => ⟨by simp, by simp, by simp [textS], by simp [numberS], ?_⟩) (by simp)
    have ha1 : ∀ y ∈ ks.map (·.2), (fun k => k == (2 : Int)) y = true := fun y hy => by
      obtain ⟨z, hz, rfl⟩ := List.mem_map.1 hy
      exact h2 z hz
    have ha2 : ∀ y ∈ ks2.map (·.2), (fun k => k == (3 : Int)) y = true := fun y hy => by
      obtain ⟨z, hz, rfl⟩ := List.mem_map.1 hy
      exact h5 z hz
    simp only [List.map_append, List.length_append, List.length_map] at hl
    have hc1 : cntS (fun k => k == 2) 4000 (ks.map (·.2) ++ ks2.map (·.2)) = ks.length := by
      rw [cnt_app _ _ _ ha1 (by simp; omega), List.length_map]
      have : cntS (fun k => k == 2) (4000 - ks.length) (ks2.map (·.2)) = 0 := by
        cases hk2 : ks2.map (·.2) with
        | nil => cases 4000 - ks.length <;> rfl
        | cons y r =>
          have := ha2 y (by rw [hk2]; exact List.mem_cons_self ..)
          simp only [beq_iff_eq] at this; subst this
          exact cnt_no (by decide)
      rw [this]; rfl
    have hc2 : cntS (fun k => k == 3) 4000 (ks2.map (·.2)) = ks2.length := by
      rw [cnt_all _ _ ha2 (by simp; omega), List.length_map]
    have hd1 : List.drop ks.length ((ks.map fun x : Int × Int => x.2) ++ (ks2.map fun x : Int × Int => x.2)) = (ks2.map fun x : Int × Int => x.2) := by rw [List.drop_append_of_le_length (by simp)]; simp
    simp only [kidsOkS, List.map_append, List.drop_zero, if_true, Nat.zero_add]
    rw [hc1, hd1, hc2]
    simp
  · have hi' : i < s2.ns.length := by simp at hi; omega
    simp only; rw [getD_snoc_lt hi']; exact h6.at_ i hi'
end Go.Ru

namespace Go.Ru
open Go
set_option maxRecDepth 10000

theorem wordP_ok {l : Bs} (hl : ∀ c ∈ l, inB partsT c = true) {k : TK} {v : Int} (h : wordP l = some (k, v)) : (k = .name → identP l = true) ∧ (k = .number → 0 ≤ v) ∧ (k = .word → keptP l = true) ∧ k ≠ .sign := by
  unfold wordP at h
  split at h
  · rename_i hk
    simp only [Option.some.injEq, Prod.mk.injEq] at h
    obtain ⟨rfl, rfl⟩ := h
    exact ⟨fun h => by simp at h, fun h => by simp at h, fun _ => hk, by simp⟩
  · split at h
    · rename_i hi
      simp only [Option.some.injEq, Prod.mk.injEq] at h
      obtain ⟨rfl, rfl⟩ := h
      exact ⟨fun _ => hi, fun h => by simp at h, fun h => by simp at h, by simp⟩
    · split at h
      · rename_i v' hn
        simp only [Option.some.injEq, Prod.mk.injEq] at h
        obtain ⟨rfl, rfl⟩ := h
        refine ⟨fun h => by simp at h, fun _ => ?_, fun h => by simp at h, by simp⟩
        unfold numP at hn
        split at hn
        · rename_i v2 _
          split at hn
          · rename_i hi
            injection hn with hn; subst hn
            by_cases h0 : 0 ≤ v2
            · exact h0
            · exfalso
              unfold Lib.itoa at hi
              rw [if_pos (by omega)] at hi
              have := hl 45 (by rw [← hi]; exact List.mem_cons_self ..)
              exact absurd this (by decide)
          · cases hn
        · cases hn
      · cases h
theorem signP_le (r : Bs) : signP r ≤ 2 := by
  unfold signP; split
  · omega
  · split <;> omega
structure CutOk (i n : Nat) (t : Tok) : Prop where
  lo : (i : Int) ≤ t.at_
  hi : t.at_ ≤ (i + n : Nat)
  name : t.k = .name → identP t.tx = true
  num : t.k = .number → 0 ≤ t.n
  len : t.tx.length ≤ n
theorem CutOk.drop {i n m : Nat} {t : Tok} (h : CutOk (i + m) (n - m) t) (hm : m ≤ n) : CutOk i n t :=
  ⟨by have := h.lo; omega, by have := h.hi; omega, h.name, h.num, by have := h.len; omega⟩
theorem cons_ok {t : Tok} {c : CR} {l : List Tok} (h : c.cons t = .ok l) : ∃ l', c = .ok l' ∧ l = t :: l' := by
  cases c with
  | ok l' => simp only [CR.cons, CR.ok.injEq] at h; exact ⟨l', rfl, h.symm⟩
  | bad a => cases h
theorem cons_bad {t : Tok} {c : CR} {a : Nat} (h : c.cons t = .bad a) : c = .bad a := by
  cases c with
  | ok l' => cases h
  | bad a => simpa [CR.cons] using h
theorem runS_len (l r : Bs) : runS l r ≤ r.length := (List.takeWhile_sublist _).length_le
theorem tw_all {α : Type} (p : α → Bool) (l : List α) : ∀ c ∈ l.takeWhile p, p c = true := by
  induction l with
  | nil => intro c h; cases h
  | cons a l ih =>
    intro c h
    rw [List.takeWhile_cons] at h
    split at h
    · rcases List.mem_cons.1 h with rfl | h
      · assumption
      · exact ih c h
    · cases h
theorem dw_eq {α : Type} (p : α → Bool) (l : List α) : l.dropWhile p = l.drop (l.takeWhile p).length := by
  induction l with
  | nil => rfl
  | cons a l ih =>
    rw [List.dropWhile_cons, List.takeWhile_cons]
    split
    · rw [ih]; rfl
    · rfl
theorem run_all (l r : Bs) : ∀ c ∈ r.take (runS l r), inB l c = true := by
  intro c hc
  have : r.take (runS l r) = r.takeWhile (inB l) := by
    unfold runS
    exact (List.prefix_iff_eq_take.1 (List.takeWhile_prefix _)).symm
  rw [this] at hc
  exact tw_all (inB l) r c hc
theorem cut_at : ∀ (n : Nat) (r : Bs) (i : Nat), (∀ l, cutS n r i = .ok l → ∀ t ∈ l, CutOk i r.length t) ∧ (∀ a, cutS n r i = .bad a → i ≤ a ∧ a ≤ i + r.length) := by
  intro n
  induction n with
  | zero =>
    intro r i
    refine ⟨fun l h t ht => ?_, fun a h => ?_⟩
    · simp only [cutS, CR.ok.injEq] at h; subst h; cases ht
    · cases h
  | succ n ih =>
    intro r i
    cases r with
    | nil =>
      refine ⟨fun l h t ht => ?_, fun a h => ?_⟩
      · simp only [cutS, CR.ok.injEq] at h; subst h; cases ht
      · cases h
    | cons c r' =>
      have step : ∀ m, m ≤ (c :: r').length → (∀ l, cutS n ((c :: r').drop m) (i + m) = .ok l → ∀ t ∈ l, CutOk i (c :: r').length t) ∧ (∀ a, cutS n ((c :: r').drop m) (i + m) = .bad a → i ≤ a ∧ a ≤ i + (c :: r').length) := fun m hm => by
        obtain ⟨h1, h2⟩ := ih ((c :: r').drop m) (i + m)
        rw [List.length_drop] at h1 h2
        exact ⟨fun l h t ht => (h1 l h t ht).drop hm, fun a h => by have := h2 a h; omega⟩
      have here : ∀ (k : TK) (v : Int) (tx : Bs), tx.length ≤ (c :: r').length → (k = .name → identP tx = true) → (k = .number → 0 ≤ v) → CutOk i (c :: r').length ⟨k, v, i, tx⟩ := fun k v tx h1 h2 h3 => ⟨Int.le_refl _, by simp only; omega, h2, h3, h1⟩
      unfold cutS
      simp only
      split
      · exact step _ (runS_len _ _)
      · split
        · rw [dw_eq]
          exact step _ (List.takeWhile_sublist _).length_le
        · split
          · rename_i hp
            split
            · exact ⟨fun l h => (by cases h), fun a h => (by injection h with h; subst h; omega)⟩
            · rename_i k v hw
              obtain ⟨h1, h2, _, _⟩ := wordP_ok (run_all _ _) hw
              refine ⟨fun l h t ht => ?_, fun a h => (step _ (runS_len _ _)).2 a (cons_bad h)⟩
              obtain ⟨l', h3, rfl⟩ := cons_ok h
              rcases List.mem_cons.1 ht with rfl | ht
              · exact here k v _ (List.length_take_le' ..) h1 h2
              · exact (step _ (runS_len _ _)).1 l' h3 t ht
          · split
            · exact ⟨fun l h => (by cases h), fun a h => (by injection h with h; subst h; omega)⟩
            · rename_i m hm
              have hml : m + 1 ≤ (c :: r').length := by
                have h2 : signP (c :: r') = m + 1 := hm
                unfold signP at h2
                split at h2
                · rename_i hp
                  simp only [pairP, Bool.and_eq_true, decide_eq_true_eq] at hp
                  omega
                · split at h2
                  · simp; omega
                  · cases h2
              refine ⟨fun l h t ht => ?_, fun a h => (step _ hml).2 a (cons_bad h)⟩
              obtain ⟨l', h3, rfl⟩ := cons_ok h
              rcases List.mem_cons.1 ht with rfl | ht
              · exact here .sign 0 _ (List.length_take_le' ..) (fun h => by cases h) (fun h => by cases h)
              · exact (step _ hml).1 l' h3 t ht
end Go.Ru

namespace Go.Proofs.YtbcngegcpdppfaaGreatDoor
open Go.AE Go.Ru

theorem rightLaw (s : Bs) : RightLaw s := by
  by_cases hs : s.length ≤ 20000
  case neg =>
    have hp : proS s = .bad 0 7 := by
      show readS programS s = _
      unfold readS; rw [if_pos (by omega)]
    unfold RightLaw
    rw [hp]
    exact ⟨by omega, by omega, by omega⟩
  unfold RightLaw
  have hcut := cut_at s.length s 0
  cases hp : proS s with
  | bad a er =>
    have hp' : readS programS s = .bad a er := hp
    unfold readS at hp'
    rw [if_neg (by omega)] at hp'
    split at hp'
    · rename_i b hc
      injection hp' with h1 h2
      have := hcut.2 b hc
      subst h1 h2
      refine ⟨by omega, by omega, by omega⟩
    · rename_i ts hc
      have hat : ∀ x, (atsS s.length ts).any (· == x) = true → 0 ≤ x ∧ x ≤ s.length := fun x hx => by
        obtain ⟨y, hy, e⟩ := List.any_eq_true.1 hx
        rw [← beq_iff_eq.1 e]
        simp only [atsS, List.mem_append, List.mem_map, List.mem_singleton] at hy
        rcases hy with ⟨t, ht, rfl⟩ | rfl
        · have := hcut.1 ts hc t ht
          have h1 := this.lo; have h2 := this.hi; omega
        · omega
      have hw := program_wr s.length ⟨ts, [], 0⟩
      split at hp'
      · rename_i a' er' hb
        injection hp' with h1 h2
        subst h1 h2
        obtain ⟨h3, t, h4, h5⟩ := hw.bad _ _ hb
        have := hat a' (h5 ▸ hd_mem (e := s.length) h4)
        exact ⟨by omega, this.1, this.2⟩
      · rename_i root s' hok
        split at hp'
        · rename_i t r ht
          injection hp' with h1 h2
          have h3 := hw.ok _ _ hok
          have := hat t.at_ (by have := hd_mem (e := s.length) h3; rw [ht] at this; exact this)
          subst h1 h2
          exact ⟨by omega, this.1, this.2⟩
        · split at hp'
          · injection hp' with h1 h2; subst h1 h2; exact ⟨by omega, by omega, by omega⟩
          · split at hp'
            · injection hp' with h1 h2; subst h1 h2; exact ⟨by omega, by omega, by omega⟩
            · cases hp'
  | ok ns root mo =>
    have hp' : readS programS s = .ok ns root mo := hp
    unfold readS at hp'
    rw [if_neg (by omega)] at hp'
    split at hp'
    · cases hp'
    · rename_i ts hc
      split at hp'
      · cases hp'
      · rename_i root' s' hok
        split at hp'
        · cases hp'
        · split at hp'
          · cases hp'
          · rename_i hmany
            split at hp'
            · cases hp'
            · rename_i hdeep
              injection hp' with h1 h2 h3
              subst h1 h2 h3
              have hgood : Go.Ru.Good (fun x => (atsS s.length ts).any (· == x) = true) s.length ⟨ts, [], 0⟩ [] := by
                refine ⟨⟨⟨[], rfl, rfl⟩, fun x hx => (by cases hx), fun i hi => (by simp at hi)⟩, fun i hi => (by simp at hi), fun t ht => ?_, ?_⟩
                · have h := hcut.1 ts hc t ht
                  refine ⟨?_, h.name, h.num, by have := h.len; omega⟩
                  exact List.any_eq_true.2 ⟨t.at_, by simp only [atsS, List.mem_append, List.mem_map]; exact .inl ⟨t, ht, rfl⟩, by simp⟩
                · exact List.any_eq_true.2 ⟨_, by simp [atsS], beq_self_eq_true _⟩
              obtain ⟨hgs, hga⟩ := program_g (e := s.length) _ hgood root' s' hok
              obtain ⟨⟨l, hl, hch⟩, hkind, hnode⟩ := hgs
              have hlen := sizes_len hl
              obtain ⟨hr1, hr2, hr3⟩ := hkind (root', 1) (by simp)
              simp only at hr1 hr2 hr3
              obtain ⟨hc1, hc2, hc3, hc4⟩ := hch
              have hc1 : root' = (l.length : Int) - 1 := hc1
              have hc4 : root' - (l.getD root'.toNat 0 : Nat) = -1 := hc4
              have hsound : soundS s'.ns root' = true := by
                have e1 : (s'.ns.length == 0) = false := beq_eq_false_iff_ne.2 (by omega)
                have e2 : decide (4000 < s'.ns.length) = false := decide_eq_false (by omega)
                have e3 : (root' != (s'.ns.length : Int) - 1) = false := by rw [bne_eq_false_iff_eq]; omega
                have e4 : (l.getD root'.toNat 0 == s'.ns.length) = true := beq_iff_eq.2 (by omega)
                simp only [soundS, hl, e1, e2, e3, e4, Bool.or_self, Bool.not_false, Bool.true_and]
              have hmany' := soundS_many hsound
              refine ⟨?_, fun i => ?_, fun ts2 hc2 i hi => ?_⟩
              · simp only [rightS, hsound, hr3, show depthS s'.ns root' ≤ 40 by omega, decide_true, Bool.true_and, beq_self_eq_true]
                rw [List.all_eq_true]
                intro n hn
                obtain ⟨i, hi, rfl⟩ := List.getElem_of_mem hn
                have e1 : s'.ns.getD i default = s'.ns[i] := by simp [hi]
                obtain ⟨hsh, _⟩ := hnode i hi
                have hk := hmany' i hi
                rw [e1] at hsh hk
                obtain ⟨a1, a2, a3, a4, a5⟩ := hsh (by simp only [kindsS, List.length_map]; omega)
                simp only [nodeOkS, decide_eq_true a1, decide_eq_true a2, a3, a4, a5, Bool.and_self]
              · by_cases hi : i < s'.ns.length
                · exact (hnode i hi).2
                · rw [getD_lt hi]; decide
              · rw [hc2] at hc; injection hc with hc; subst hc
                exact hga i hi

theorem pright_calls (s : Bs) (K : List ABlk) (k : AO → List ABlk → Prop) (hk : k (.ret (.p (.bool true))) K) : ACalls Tryz.prog 6 [.p (.str s)] K k := by
  exact pright_ok _ _ _ ⟨s, rfl, rightLaw s, hk⟩
end Go.Proofs.YtbcngegcpdppfaaGreatDoor
