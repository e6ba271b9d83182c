/-
  Types, part 11: the contracts of the package's functions but for Channels. No statement of the seat is proved here.
  Parser, part 3: tokens are only taken, and few nodes are put for each: in plain Lean. No statement of the seat is proved here.
  Parser, part 4: the contracts of the functions that read expressions, by depth and by row. No statement of the seat is proved here.
  Parser, part 5: the function that reads operands with signs between, row by row, and all expressions by depth. No statement of the seat is proved here.
  Parser, part 6: all expressions; answers handed on step by step. No statement of the seat is proved here.
  Parser, part 7: the contracts of the functions that read statements. No statement of the seat is proved here.
  Parser, part 8: the contracts of the functions that read statements that end with a sign. No statement of the seat is proved here.
  Parser, part 9: the contracts of the functions that read statements and blocks, by depth. No statement of the seat is proved here.
  Parser, part 10: all statements by depth; declarations. No statement of the seat is proved here.
  Parser, part 11: declarations, procedures. No statement of the seat is proved here.
  Parser, part 12: bodies of procedures. No statement of the seat is proved here.
  Parser, part 13: procedures, programs. No statement of the seat is proved here.
  Parser, part 14: programs. No statement of the seat is proved here.
  AE, part 7d: a function that puts one call off, of a function literal that asks recover first. Own metatheory over any program; no statement of the seat is proved here.
  Parser, part 15: read. No statement of the seat is proved here.
  The statements of chapter 7: small and shown. No statement of the seat is proved here.
  Types, part 12: contracts whose answers are told by equations (so that no great goal need be rewritten). No statement of the seat is proved here.
-/
import Derived.RecoverIn
import Derived.KernelRfl
import Derived.Test.YtojjkleplnijaaaGreatDoorPk1
import Derived.Test.YtojjkleplnijaaaGreatDoorPk3
import Derived.Test.YtojjkleplnijaaaGreatDoorPk4
import Derived.Test.YtojjkleplnijaaaGreatDoorPk5
import Derived.Test.YtojjkleplnijaaaGreatDoorPk6
set_option linter.unusedVariables false
set_option linter.unusedSimpArgs false
namespace Go.Proofs.YtojjkleplnijaaaGreatDoor
open Go.AE Go.Ru
set_option maxRecDepth 100000
set_option maxHeartbeats 1000000
structure Tame (ns : List Nd) : Prop where
  len : ns.length < 1000000
  tx : ∀ i, (ns.getD i default).tx.length < 1000000
def gW1 : AG := gput 44 cRight g0
theorem gW1_ok : GOk Tryz.prog gW1 := gput_ok right_ok g0_ok
def cWithin : AC := fun args K k => ∃ ns root i, args = [treeV ns root, intV i] ∧ Tame ns ∧ k (.ret (.p (.bool (insT ns root i)))) K
theorem within_ok : COk 53 cWithin := by
  rintro args K k ⟨ns, root, i, rfl, t, hk⟩
  refine frame0P gW1_ok 19 rfl fun Q hr => ?_
  unfold insT at hk
  conv => whnf
  refine two_dec (fun h => ?_) (fun h => ?_)
  · have h : 0 ≤ i := h
    rw [decide_eq_true h, Bool.true_and] at hk
    conv => whnf
    refine two_dec (fun h2 => ?_) (fun h2 => ?_)
    · have h2 : i < ns.length := h2
      rw [decide_eq_true h2, Bool.true_and] at hk
      conv => whnf
      refine ⟨ns, root, rfl, t.len, t.tx, ?_⟩
      conv => whnf
      exact hr _ _ rfl hk
    · have h2 : ¬ i < ns.length := h2
      rw [decide_eq_false h2, Bool.false_and] at hk
      conv => whnf
      exact hr _ _ rfl hk
  · have h : ¬ 0 ≤ i := h
    rw [decide_eq_false h, Bool.false_and, Bool.false_and] at hk
    conv => whnf
    exact hr _ _ rfl hk
theorem insT_yes {ns : List Nd} {root i : Int} (h : insT ns root i = true) : RightT ns root ∧ ∃ j : Nat, i = (j : Int) ∧ j < ns.length := by
  simp only [insT, Bool.and_eq_true, decide_eq_true_eq] at h
  exact ⟨right_of h.2, i.toNat, by omega, by omega⟩
def gW2 : AG := gput 53 cWithin (gput 45 cLearn (gput 55 cMeans (gput 47 cTProc (gput 59 cTy (gput 57 cTPlain gW1)))))
theorem gW2_ok : GOk Tryz.prog gW2 := gput_ok within_ok (gput_ok learn_ok (gput_ok means_ok (gput_ok proc_ok' (gput_ok ty_ok (gput_ok tplain_ok gW1_ok)))))
def cOwner : AC := fun args K k => ∃ ns root i, args = [treeV ns root, intV i] ∧ Tame ns ∧ k (.ret (intV (ownerT ns root i))) K
theorem owner_ok : COk 11 cOwner := by
  rintro args K k ⟨ns, root, i, rfl, t, hk⟩
  refine frame0P gW2_ok 19 rfl fun Q hr => ?_
  unfold ownerT at hk
  conv => whnf
  refine ⟨ns, root, i, rfl, t, ?_⟩
  cases h : insT ns root i with
  | false =>
    rw [h] at hk
    conv => whnf
    exact hr _ _ rfl hk
  | true =>
    rw [h] at hk
    obtain ⟨rt, j, rfl, hj⟩ := insT_yes h
    conv => whnf
    refine ⟨ns, root, rfl, rt, ?_⟩
    conv => whnf
    refine ⟨⟨by omega, by omega, rfl⟩, ?_⟩
    conv => whnf
    exact hr _ _ rfl hk
def cLookup : AC := fun args K k => ∃ ns root i name, args = [treeV ns root, intV i, .p (.str name)] ∧ Tame ns ∧ k (.ret (intV (lookupT ns root i name))) K
theorem lookup_ok : COk 13 cLookup := by
  rintro args K k ⟨ns, root, i, name, rfl, t, hk⟩
  refine frame0P gW2_ok 19 rfl fun Q hr => ?_
  unfold lookupT at hk
  conv => whnf
  refine ⟨ns, root, i, rfl, t, ?_⟩
  cases h : insT ns root i with
  | false =>
    rw [h] at hk
    conv => whnf
    exact hr _ _ rfl hk
  | true =>
    rw [h] at hk
    obtain ⟨rt, j, rfl, hj⟩ := insT_yes h
    conv => whnf
    refine ⟨ns, root, rfl, rt, ?_⟩
    conv => whnf
    refine ⟨ns, root, j, name, rfl, rt.toStd, hj, ?_⟩
    conv => whnf
    exact hr _ _ rfl hk
def cType : AC := fun args K k => ∃ ns root i, args = [treeV ns root, intV i] ∧ Tame ns ∧ k (.ret (intV (typeT ns root i))) K
theorem type_ok : COk 19 cType := by
  rintro args K k ⟨ns, root, i, rfl, t, hk⟩
  refine frame0P gW2_ok 19 rfl fun Q hr => ?_
  unfold typeT at hk
  conv => whnf
  refine ⟨ns, root, i, rfl, t, ?_⟩
  cases h : insT ns root i with
  | false =>
    rw [h] at hk
    conv => whnf
    exact hr _ _ rfl hk
  | true =>
    rw [h] at hk
    obtain ⟨rt, j, rfl, hj⟩ := insT_yes h
    conv => whnf
    refine ⟨ns, root, rfl, rt, ?_⟩
    conv => whnf
    refine ⟨ns, root, j, rfl, rt.toStd, hj, ?_⟩
    conv => whnf
    exact hr _ _ rfl hk
def cPlainT : AC := fun args K k => ∃ ns root i, args = [treeV ns root, intV i] ∧ Tame ns ∧ k (.ret (.p (.bool (plainT ns root i)))) K
theorem plainT_ok : COk 17 cPlainT := by
  rintro args K k ⟨ns, root, i, rfl, t, hk⟩
  refine frame0P gW2_ok 19 rfl fun Q hr => ?_
  unfold plainT at hk
  conv => whnf
  refine ⟨ns, root, i, rfl, t, ?_⟩
  cases h : insT ns root i with
  | false =>
    rw [h, Bool.false_and, Bool.false_and] at hk
    conv => whnf
    exact hr _ _ rfl hk
  | true =>
    rw [h, Bool.true_and] at hk
    obtain ⟨rt, j, rfl, hj⟩ := insT_yes h
    conv => whnf
    refine ⟨⟨by omega, by omega, rfl⟩, ?_⟩
    conv => whnf
    refine two_eq (fun h3 => ?_) (fun h3 => ?_)
    · have h3 : (nd ns j).k = 3 := h3
      rw [show ((nd ns ((j : Int)).toNat).k == 3) = true from beq_iff_eq.2 h3, Bool.true_and] at hk
      conv => whnf
      refine ⟨ns, root, rfl, rt, ?_⟩
      conv => whnf
      refine ⟨ns, root, j, rfl, rt.toStd, hj, ?_⟩
      conv => whnf
      exact hr _ _ rfl hk
    · have h3 : (nd ns j).k ≠ 3 := h3
      rw [show ((nd ns ((j : Int)).toNat).k == 3) = false from beq_eq_false_iff_ne.2 h3, Bool.false_and] at hk
      conv => whnf
      exact hr _ _ rfl hk
def cProcedure : AC := fun args K k => ∃ ns root name, args = [treeV ns root, .p (.str name)] ∧ Tame ns ∧ k (.ret (intV (procedureT ns root name))) K
theorem procedure_ok : COk 15 cProcedure := by
  rintro args K k ⟨ns, root, name, rfl, t, hk⟩
  refine frame0P gW2_ok 19 rfl fun Q hr => ?_
  unfold procedureT at hk
  conv => whnf
  refine ⟨ns, root, rfl, t.len, t.tx, ?_⟩
  cases h : rightS ns root with
  | false =>
    rw [h] at hk
    conv => whnf
    exact hr _ _ rfl hk
  | true =>
    rw [h] at hk
    conv => whnf
    refine ⟨ns, root, rfl, right_of h, ?_⟩
    conv => whnf
    refine ⟨ns, root, name, rfl, ?_⟩
    conv => whnf
    exact hr _ _ rfl hk
def gW3 : AG := gput 15 cProcedure g0
theorem gW3_ok : GOk Tryz.prog gW3 := gput_ok procedure_ok g0_ok
def cMain : AC := fun args K k => ∃ ns root, args = [treeV ns root] ∧ Tame ns ∧ k (.ret (intV (procedureT ns root mainT))) K
theorem main_ok : COk 21 cMain := by
  rintro args K k ⟨ns, root, rfl, t, hk⟩
  refine frame0P gW3_ok 19 rfl fun Q hr => ?_
  conv => whnf
  refine ⟨ns, root, mainT, rfl, t, ?_⟩
  conv => whnf
  exact hr _ _ rfl hk
def gW4 : AG := gput 45 cLearn (gput 47 cTProc (gput 48 cParams (gput 46 cCheckN gW1)))
theorem gW4_ok : GOk Tryz.prog gW4 := gput_ok learn_ok (gput_ok proc_ok' (gput_ok params_ok (gput_ok checkN_ok gW1_ok)))
def ckV (p : Int × Int) : AV := .tup [intV p.1, intV p.2]
def cCheck : AC := fun args K k => ∃ ns root, args = [treeV ns root] ∧ Tame ns ∧ k (.ret (ckV (checkTree ns root))) K
theorem check_ok : COk 9 cCheck := by
  rintro args K k ⟨ns, root, rfl, t, hk⟩
  refine frame0P gW4_ok 19 rfl fun Q hr => ?_
  unfold checkTree at hk
  conv => whnf
  refine ⟨ns, root, rfl, t.len, t.tx, ?_⟩
  cases h : rightS ns root with
  | false =>
    rw [h] at hk
    conv => whnf
    exact hr _ _ rfl hk
  | true =>
    rw [h] at hk
    have rt := right_of h
    have hlen := rt.len
    simp only at hk
    conv => whnf
    refine ⟨ns, root, rfl, rt, ?_⟩
    conv => whnf
    refine loop_up (ι := Nat) [1, 4, 15] (fun i => [(16, intV i)]) (fun _ => []) (fun i => i ≤ ns.length ∧ wrongS ns root i (ns.length - i) = wrongS ns root 0 ns.length) (fun i => ns.length - i) 0 ⟨AV.le_refl _, trivial⟩ trivial ⟨Nat.zero_le _, rfl⟩ ?_
    rintro Y hle i ⟨hi, he⟩ ih
    conv => whnf
    refine two_dec (fun h2 => ?_) (fun h2 => ?_)
    · have h2 : i < ns.length := by have h2 : (i : Int) < (ns.length : Int) := h2; omega
      have hw1 := wzz (i := i) (by omega)
      obtain ⟨m, hm⟩ : ∃ m, ns.length - i = m + 1 := ⟨ns.length - i - 1, by omega⟩
      have hm' : ns.length - (i + 1) = m := by omega
      rw [hm] at he
      simp only [wrongS] at he
      conv => whnf
      refine ⟨ns, root, i, rfl, rt, h2, ?_⟩
      conv => whnf
      refine two_ne (fun h3 => ?_) (fun h3 => ?_)
      · have h3 : checkS ns root i ≠ 0 := h3
        rw [beq_eq_false_iff_ne.2 h3] at he
        simp only at he
        rw [← he] at hk
        conv => whnf
        exact hr _ _ rfl hk
      · have h3 : checkS ns root i = 0 := h3
        rw [h3] at he
        conv => whnf
        refine hle _ _ (Le.env ?_ ?_) (ih (i + 1) (by omega) ⟨by omega, by rw [hm']; exact he⟩)
        · skip
          repeat' (first | exact trivial | ((conv => whnf); first | exact trivial | (refine And.intro (AV.le_refl _) ?_) | (refine And.intro (ABlk.le_refl _) ?_) | (refine And.intro (AV.le_of_eq ?_) ?_; (focus ((first | exact congrArg intV hw1 | fail); done))) | (refine And.intro (ABlk.le_of_eq ?_) ?_; (focus ((first | exact congrArg intV hw1 | fail); done))) | fail) | fail)
        · skip
          repeat' (first | exact trivial | ((conv => whnf); first | exact trivial | (refine And.intro (AV.le_refl _) ?_) | (refine And.intro (ABlk.le_refl _) ?_) | (refine And.intro (AV.le_of_eq ?_) ?_; (focus ((first | fail | fail); done))) | (refine And.intro (ABlk.le_of_eq ?_) ?_; (focus ((first | fail | fail); done))) | fail) | fail)
    · obtain rfl : i = ns.length := by have h2 : ¬ (i : Int) < (ns.length : Int) := h2; omega
      rw [Nat.sub_self] at he
      simp only [wrongS] at he
      rw [← he] at hk
      simp only at hk
      conv => whnf
      refine ⟨ns, root, mainT, rfl, ?_⟩
      have hp := procI_range ns mainT
      generalize procI ns mainT = p at hk hp ⊢
      conv => whnf
      refine two_eq (fun h3 => ?_) (fun h3 => ?_)
      · have h3 : p = -1 := h3
        subst h3
        conv => whnf
        exact hr _ _ rfl hk
      have h3 : p ≠ -1 := h3
      obtain ⟨q, rfl⟩ : ∃ q : Nat, p = (q : Int) := ⟨p.toNat, by omega⟩
      have hq : q < ns.length := by omega
      rw [beq_eq_false_iff_ne.2 h3, Bool.false_or] at hk
      conv => whnf
      refine ⟨⟨by omega, by omega, rfl⟩, ?_⟩
      conv => whnf
      refine two_ne (fun h4 => ?_) (fun h4 => ?_)
      · have h4 : (nd ns q).n ≠ 0 := h4
        rw [show ((nd ns ((q : Int)).toNat).n != 0) = true from bne_iff_ne.2 h4] at hk
        conv => whnf
        exact hr _ _ rfl hk
      have h4 : (nd ns q).n = 0 := h4
      rw [show ((nd ns ((q : Int)).toNat).n != 0) = false from by simpa using h4, Bool.false_or] at hk
      conv => whnf
      refine ⟨ns, root, q, rfl, rt.toStd, hq, ?_⟩
      conv => whnf
      refine two_dec (fun h5 => ?_) (fun h5 => ?_)
      · have h5 : 0 < (paramsS ns q).length := by have h5 : ((paramsS ns q).length : Int) > 0 := h5; omega
        rw [show decide (0 < (paramsS ns ((q : Int)).toNat).length) = true from decide_eq_true h5] at hk
        conv => whnf
        exact hr _ _ rfl hk
      · have h5 : ¬ 0 < (paramsS ns q).length := by have h5 : ¬ ((paramsS ns q).length : Int) > 0 := h5; omega
        rw [show decide (0 < (paramsS ns ((q : Int)).toNat).length) = false from decide_eq_false h5] at hk
        conv => whnf
        exact hr _ _ rfl hk
end Go.Proofs.YtojjkleplnijaaaGreatDoor

namespace Go.Ru
theorem bind_ok {α β : Type} {r : R α} {f : α → PS → R β} {b : β} {s' : PS} (h : r.bind f = .ok b s') : ∃ a s, r = .ok a s ∧ f a s = .ok b s' := by
  cases r with
  | ok a s => exact ⟨a, s, rfl, h⟩
  | bad a e => simp [R.bind] at h
def Okk {α : Type} (r : R α) (p : PS → Prop) : Prop := ∀ a s, r = .ok a s → p s
theorem Okk.bind {α β : Type} {r : R α} {f : α → PS → R β} {p q : PS → Prop} (h : Okk r p) (h' : ∀ a s, p s → Okk (f a s) q) : Okk (r.bind f) q := fun b s' hb => by
  obtain ⟨a, s, h1, h2⟩ := bind_ok hb
  exact h' a s (h a s h1) b s' h2
theorem Okk.imp {α : Type} {r : R α} {p q : PS → Prop} (h : Okk r p) (h' : ∀ s, p s → q s) : Okk r q := fun a s hr => h' s (h a s hr)
theorem Okk.pure {α : Type} {a : α} {s : PS} {p : PS → Prop} (h : p s) : Okk (.ok a s) p := fun b s' hb => by
  injection hb with _ h2
  exact h2 ▸ h
theorem Okk.bad {α : Type} {a e : Int} {p : PS → Prop} : Okk (.bad a e : R α) p := fun b s' hb => by simp at hb
def Lw (s0 : PS) (c k : Nat) (s : PS) : Prop := s.ns.length + 4 * s.ts.length + c ≤ s0.ns.length + 4 * s0.ts.length ∧ s.ts.length + k ≤ s0.ts.length
theorem isS_pos {w : Bs} {ts : List Tok} (h : isS w ts = true) : 0 < ts.length := by
  cases ts with
  | nil => simp [isS] at h
  | cons t r => simp
theorem drop_le (s : PS) (h : 0 < s.ts.length) : Lw s 4 1 (dropS s) := by
  simp only [Lw, dropS, List.length_tail]; omega
theorem want_le (e : Int) (w : Bs) (s : PS) : Okk (wantS e w s) (Lw s 4 1) := by
  unfold wantS
  split
  · rename_i h; exact .pure (drop_le s (isS_pos h))
  · exact .bad
theorem ident_le (e : Int) (s : PS) : Okk (identS e s) (Lw s 4 1) := by
  unfold identS
  split
  · exact .bad
  · rename_i t r h
    split
    · refine .pure ?_
      simp only [Lw, h, List.length_cons]; omega
    · exact .bad
theorem put_len (n : Nd) (s : PS) : Okk (putS n s) (fun s' => s'.ns.length = s.ns.length + 1 ∧ s'.ts.length = s.ts.length) := by
  unfold putS
  exact .pure (by simp)
theorem put_le {n : Nd} {s0 s : PS} {c k : Nat} (h : Lw s0 (c + 1) k s) : Okk (putS n s) (Lw s0 c k) := (put_len n s).imp fun s' h' => by
  simp only [Lw] at h ⊢; omega
theorem Lw.trans {s0 s1 s2 : PS} {c k c' k' : Nat} (h : Lw s0 c k s1) (h' : Lw s1 c' k' s2) : Lw s0 (c + c') (k + k') s2 := by
  simp only [Lw] at h h' ⊢; omega
theorem Lw.weak {s0 s1 : PS} {c k c' k' : Nat} (h : Lw s0 c k s1) (hc : c' ≤ c) (hk : k' ≤ k) : Lw s0 c' k' s1 := by
  simp only [Lw] at h ⊢; omega
theorem Lw.refl (s : PS) : Lw s 0 0 s := by simp [Lw]
def Dm {α : Type} (c k : Nat) (m : M α) : Prop := ∀ s, Okk (m s) (Lw s c k)
theorem within_le {α : Type} (e : Int) (d : Nat) (op cl : Bs) {what : M α} {c k : Nat} (h : Dm c k what) (s : PS) : Okk (withinS e d op cl what s) (Lw s (c + 4) (k + 1)) := by
  unfold withinS
  split
  · exact .bad
  · rename_i hw
    have hp := isS_pos hw
    split
    · exact .bad
    · refine Okk.bind (h _) fun a s1 h1 => ?_
      have h2 : Lw s (c + 4) (k + 1) s1 := by
        simp only [Lw, List.length_tail] at h1 ⊢; omega
      split
      · exact .pure h2
      · refine Okk.bind (want_le _ _ _) fun _ s3 h3 => .pure ?_
        simp only [Lw] at h2 h3 ⊢; omega
theorem rowLoop_le (l : List Bs) {opnd : M Int} (h : Dm 0 0 opnd) : ∀ n x s, Okk (rowLoop l opnd n x s) (Lw s 0 0) := by
  intro n
  induction n with
  | zero => exact fun x s => .pure (Lw.refl s)
  | succ n ih =>
    intro x s
    unfold rowLoop
    split
    · exact .pure (Lw.refl s)
    · rename_i t r ht
      split
      · exact .pure (Lw.refl s)
      · refine Okk.bind (h _) fun y s1 h1 => ?_
        have h2 : Lw s 4 1 s1 := by simp only [Lw, ht, List.length_cons] at h1 ⊢; omega
        refine Okk.bind (put_le (c := 3) h2) fun x s3 h3 => (ih x s3).imp fun s4 h4 => ?_
        exact (h3.trans h4).weak (by omega) (by omega)
theorem expr_le {una : M Int} (h : Dm 3 1 una) : ∀ j, Dm 3 1 (exprS una j) := by
  intro j
  induction j with
  | zero => exact h
  | succ j ih =>
    intro s
    unfold exprS
    refine Okk.bind (ih s) fun x s1 h1 => (rowLoop_le _ (fun s => (ih s).imp fun s' h' => h'.weak (by omega) (by omega)) _ x s1).imp fun s2 h2 => ?_
    exact h1.trans h2
theorem prim_le (e : Int) (d : Nat) {inner : M Int} (h : Dm 0 0 inner) : Dm 3 1 (primS e d inner) := by
  intro s
  unfold primS
  split
  · exact .bad
  · rename_i t r ht
    have hs : Lw s 4 1 ⟨r, s.ns, s.mo⟩ := by simp only [Lw, ht, List.length_cons]; omega
    split
    · exact put_le hs
    · split
      · refine Okk.bind (within_le e d [91] [93] h _) fun x s1 h1 => put_le ((hs.trans h1).weak (by omega) (by omega))
      · exact put_le hs
    · split
      · exact put_le hs
      · split
        · exact put_le hs
        · split
          · exact Okk.bind (ident_le e _) fun t' s1 h1 => put_le ((hs.trans h1).weak (by omega) (by omega))
          · split
            · exact Okk.bind (ident_le e _) fun t' s1 h1 => put_le ((hs.trans h1).weak (by omega) (by omega))
            · split
              · exact (within_le e d [40] [41] h s).imp fun s1 h1 => h1.weak (by omega) (by omega)
              · exact .bad
theorem unaB_le (e : Int) (d : Nat) {una inner : M Int} (h1 : Dm 0 0 una) (h2 : Dm 0 0 inner) : Dm 3 1 (unaB e d una inner) := by
  intro s
  unfold unaB
  split
  · exact .bad
  · split
    · exact Okk.bind (within_le e d _ _ h1 s) fun x s1 h => put_le (h.weak (by omega) (by omega))
    · exact prim_le e d h2 s
theorem una_le (e : Int) : ∀ d, Dm 3 1 (unaS e d) := by
  intro d
  induction d with
  | zero => exact unaB_le e 0 (fun s => .bad) (fun s => .bad)
  | succ d ih =>
    exact unaB_le e (d + 1) (fun s => (ih s).imp fun s' h => h.weak (by omega) (by omega)) (fun s => (expr_le ih 5 s).imp fun s' h => h.weak (by omega) (by omega))
theorem ex_le (e : Int) (d : Nat) : Dm 3 1 (exS e d) := expr_le (una_le e d) 5
theorem Dm.weak {α : Type} {c k c' k' : Nat} {m : M α} (h : Dm c k m) (hc : c' ≤ c) (hk : k' ≤ k) : Dm c' k' m := fun s => (h s).imp fun _ h => h.weak hc hk
theorem in_le (e : Int) (d : Nat) : Dm 3 1 (inS e d) := by
  cases d with
  | zero => exact fun s => .bad
  | succ d => exact ex_le e d
theorem index_le (e : Int) (d : Nat) : Dm 7 2 (indexS e d) := within_le e d _ _ (in_le e d)
theorem comma_le {α : Type} {one : List α → M (List α)} (h : ∀ l, Dm 0 0 (one l)) : ∀ n l, Dm 0 0 (commaL one n l) := by
  intro n
  induction n with
  | zero => exact fun l s => .pure (Lw.refl s)
  | succ n ih =>
    intro l s
    unfold commaL
    split
    · rename_i hw
      refine Okk.bind (h l (dropS s)) fun l' s1 h1 => (ih l' s1).imp fun s2 h2 => ?_
      exact (((drop_le s (isS_pos hw)).trans h1).trans h2).weak (by omega) (by omega)
    · exact .pure (Lw.refl s)
theorem list_le {α : Type} {one : List α → M (List α)} (h : ∀ l, Dm 0 0 (one l)) (l : List α) : Dm 0 0 (listS one l) := by
  intro s
  unfold listS
  split
  · exact .pure (Lw.refl s)
  · exact Okk.bind (h l s) fun l' s1 h1 => (comma_le h _ l' s1).imp fun s2 h2 => (h1.trans h2).weak (by omega) (by omega)
theorem one_le {m : M Int} {c k : Nat} (h : Dm c k m) (l : List Int) : Dm c k (oneS m l) := fun s => Okk.bind (h s) fun _ _ h1 => .pure h1
theorem call_le (e : Int) (d : Nat) (a : Int) (tx : Bs) : Dm 6 2 (callS e d a tx) := by
  intro s
  unfold callS
  refine Okk.bind (ident_le e s) fun t s1 h1 => Okk.bind (put_le (c := 3) h1) fun x s2 h2 => ?_
  refine Okk.bind (within_le e d _ _ (list_le (fun l => one_le ((in_le e d).weak (by omega) (by omega)) l) [x]) s2) fun l s3 h3 => put_le ((h2.trans h3).weak (by omega) (by omega))
theorem chan_le (e : Int) : Dm 3 1 (chanS e) := fun s => Okk.bind (ident_le e s) fun _ _ h => put_le h
theorem named_le (e : Int) (d : Nat) : Dm 3 1 (namedS e d) := by
  intro s
  unfold namedS
  refine Okk.bind (ident_le e s) fun t s1 h1 => ?_
  split
  · exact Okk.bind (index_le e d s1) fun x s2 h2 => Okk.bind (want_le e _ s2) fun _ s3 h3 => Okk.bind (ex_le e d s3) fun y s4 h4 =>
      put_le ((((h1.trans h2).trans h3).trans h4).weak (by omega) (by omega))
  · refine Okk.bind (want_le e _ s1) fun _ s2 h2 => ?_
    have h12 := h1.trans h2
    split
    · rename_i hw
      exact Okk.bind (chan_le e _) fun x s3 h3 => put_le (((h12.trans (drop_le _ (isS_pos hw))).trans h3).weak (by omega) (by omega))
    · split
      · rename_i hw
        exact (call_le e d _ _ _).imp fun s3 h3 => ((h12.trans (drop_le _ (isS_pos hw))).trans h3).weak (by omega) (by omega)
      · split
        · rename_i hw
          exact Okk.bind (ex_le e d _) fun x s3 h3 => put_le (((h12.trans (drop_le _ (isS_pos hw))).trans h3).weak (by omega) (by omega))
        · exact Okk.bind (ex_le e d _) fun x s3 h3 => put_le ((h12.trans h3).weak (by omega) (by omega))
theorem plain_le (e : Int) (d : Nat) : Dm 3 1 (plainS e d) := by
  intro s
  unfold plainS
  simp only
  split
  · rename_i hw
    exact Okk.bind (chan_le e _) fun c s1 h1 => Okk.bind (ex_le e d s1) fun x s2 h2 => put_le ((((drop_le s (isS_pos hw)).trans h1).trans h2).weak (by omega) (by omega))
  · split
    · rename_i hw
      exact (call_le e d _ _ _).imp fun s1 h1 => ((drop_le s (isS_pos hw)).trans h1).weak (by omega) (by omega)
    · split
      · rename_i hw
        exact Okk.bind (ex_le e d _) fun x s1 h1 => put_le (((drop_le s (isS_pos hw)).trans h1).weak (by omega) (by omega))
      · split
        · rename_i hw
          split
          · exact put_le (drop_le s (isS_pos hw))
          · exact Okk.bind (ex_le e d _) fun x s1 h1 => put_le (((drop_le s (isS_pos hw)).trans h1).weak (by omega) (by omega))
        · exact named_le e d s
theorem stmtsL_le {stmt : M Int} (h : Dm 0 0 stmt) : ∀ n l, Dm 0 0 (stmtsL stmt n l) := by
  intro n
  induction n with
  | zero => exact fun l s => .bad
  | succ n ih =>
    intro l s
    unfold stmtsL
    split
    · exact .pure (Lw.refl s)
    · exact Okk.bind (h s) fun x s1 h1 => (ih _ s1).imp fun s2 h2 => (h1.trans h2).weak (by omega) (by omega)
theorem stmts_le {stmt : M Int} (h : Dm 0 0 stmt) (l : List Int) : Dm 0 0 (stmtsS stmt l) := fun s => stmtsL_le h _ l s
theorem block_le (e : Int) (d : Nat) {stmt : M Int} (h : Dm 0 0 stmt) : Dm 3 1 (blockB e d stmt) := by
  intro s
  unfold blockB
  simp only
  exact Okk.bind (within_le e d _ _ (stmts_le h []) s) fun l s1 h1 => put_le (h1.weak (by omega) (by omega))
theorem stmtB_le (e : Int) (d : Nat) {stmt : M Int} (h : Dm 0 0 stmt) : Dm 3 1 (stmtB e d stmt) := by
  intro s
  unfold stmtB
  simp only
  split
  · rename_i hw
    refine Okk.bind (ex_le e d _) fun x s1 h1 => Okk.bind (block_le e d h s1) fun a s2 h2 => ?_
    have h3 := ((drop_le s (isS_pos hw)).trans h1).trans h2
    split
    · rename_i hw2
      exact Okk.bind (block_le e d h _) fun b s3 h4 => put_le (((h3.trans (drop_le s2 (isS_pos hw2))).trans h4).weak (by omega) (by omega))
    · exact Okk.bind (put_le (c := 9) (k := 3) (h3.weak (by omega) (by omega))) fun b s3 h4 => put_le (h4.weak (by omega) (by omega))
  · split
    · rename_i hw
      exact Okk.bind (ex_le e d _) fun x s1 h1 => Okk.bind (block_le e d h s1) fun a s2 h2 => put_le ((((drop_le s (isS_pos hw)).trans h1).trans h2).weak (by omega) (by omega))
    · split
      · rename_i hw
        exact Okk.bind (block_le e d h _) fun a s1 h1 => Okk.bind (want_le e _ s1) fun _ s2 h2 => Okk.bind (ident_le e s2) fun t s3 h3 => Okk.bind (block_le e d h s3) fun b s4 h4 =>
          put_le ((((((drop_le s (isS_pos hw)).trans h1).trans h2).trans h3).trans h4).weak (by omega) (by omega))
      · exact Okk.bind (plain_le e d s) fun x s1 h1 => Okk.bind (want_le e _ s1) fun _ s2 h2 => .pure ((h1.trans h2).weak (by omega) (by omega))
theorem stmt_le (e : Int) : ∀ d, Dm 3 1 (stmtS e d) := by
  intro d
  induction d with
  | zero => exact stmtB_le e 0 (fun s => .bad)
  | succ d ih => exact stmtB_le e (d + 1) (ih.weak (by omega) (by omega))
theorem inStmt_le (e : Int) (d : Nat) : Dm 3 1 (inStmtS e d) := by
  cases d with
  | zero => exact fun s => .bad
  | succ d => exact stmt_le e d
theorem types_pos {ts : List Tok} (h : typesS ts ≠ 0) : 0 < ts.length := by
  cases ts with
  | nil => simp [typesS, isS] at h
  | cons t r => simp
theorem typed_le (e k a : Int) (tx : Bs) : Dm 3 1 (typedS e k a tx) := by
  intro s
  unfold typedS
  split
  · exact .bad
  · rename_i h
    exact put_le (drop_le s (types_pos (by simpa using h)))
theorem varsL_le (e kind : Int) : ∀ n l, Dm 0 0 (varsL e kind n l) := by
  intro n
  induction n with
  | zero => exact fun l s => .pure (Lw.refl s)
  | succ n ih =>
    intro l s
    unfold varsL
    split
    · exact .pure (Lw.refl s)
    · rename_i hw
      exact Okk.bind (ident_le e _) fun t s1 h1 => Okk.bind (typed_le e kind _ _ s1) fun x s2 h2 => Okk.bind (want_le e _ s2) fun _ s3 h3 => (ih _ s3).imp fun s4 h4 =>
        (((((drop_le s (isS_pos hw)).trans h1).trans h2).trans h3).trans h4).weak (by omega) (by omega)
theorem vars_le (e kind : Int) : Dm 0 0 (varsS e kind) := fun s => varsL_le e kind _ [] s
theorem body_le (e : Int) (d : Nat) : Dm 3 1 (bodyS e d) := by
  intro s
  unfold bodyS
  simp only
  refine Okk.bind (within_le (c := 0) (k := 0) e d _ _ (fun s => ?_) s) fun p s1 h1 => Okk.bind (put_le (c := 3) (k := 1) (h1.weak (by omega) (by omega))) fun b s2 h2 => .pure h2
  exact Okk.bind (vars_le e 5 s) fun vs s1 h1 => Okk.bind (stmts_le ((inStmt_le e d).weak (by omega) (by omega)) [] s1) fun l s2 h2 => .pure ((h1.trans h2).weak (by omega) (by omega))
theorem param_le (e : Int) : Dm 7 2 (paramS e) := fun s => Okk.bind (ident_le e s) fun t s1 h1 => (typed_le e 4 _ _ s1).imp fun s2 h2 => h1.trans h2
theorem proc_le (e : Int) (d : Nat) : Dm 3 1 (procS e d) := by
  intro s
  unfold procS
  simp only
  refine Okk.bind (want_le e _ s) fun _ s1 h1 => Okk.bind (ident_le e s1) fun t s2 h2 => Okk.bind (within_le (c := 0) (k := 0) e d _ _ (list_le (fun l => (one_le (param_le e) l).weak (by omega) (by omega)) []) s2) fun ps s3 h3 => ?_
  have h4 := (h1.trans h2).trans h3
  have h5 : Lw s3 0 0 (match decide (typesS s3.ts > 0) with
    | true => dropS s3
    | false => s3) := by
    split
    · rename_i h
      have h : typesS s3.ts > 0 := by simpa using h
      exact (drop_le s3 (types_pos (by omega))).weak (by omega) (by omega)
    · exact Lw.refl s3
  exact Okk.bind (body_le e d _) fun p s5 h6 => put_le (((h4.trans h5).trans h6).weak (by omega) (by omega))
theorem procsL_le (e : Int) (d : Nat) : ∀ n l, Dm 0 0 (procsL e d n l) := by
  intro n
  induction n with
  | zero => exact fun l s => .pure (Lw.refl s)
  | succ n ih =>
    intro l s
    unfold procsL
    split
    · exact .pure (Lw.refl s)
    · exact Okk.bind (proc_le e d s) fun x s1 h1 => (ih _ s1).imp fun s2 h2 => (h1.trans h2).weak (by omega) (by omega)
theorem varsL_len (e kind : Int) : ∀ n l s l' s', varsL e kind n l s = .ok l' s' → l'.length + s'.ts.length ≤ l.length + s.ts.length := by
  intro n
  induction n with
  | zero => intro l s l' s' h; simp only [varsL, R.ok.injEq] at h; obtain ⟨rfl, rfl⟩ := h; exact Nat.le_refl _
  | succ n ih =>
    intro l s l' s' h
    unfold varsL at h
    split at h
    · simp only [R.ok.injEq] at h; obtain ⟨rfl, rfl⟩ := h; exact Nat.le_refl _
    · rename_i hw
      obtain ⟨t, s1, h1, h⟩ := bind_ok h
      obtain ⟨x, s2, h2, h⟩ := bind_ok h
      obtain ⟨_, s3, h3, h⟩ := bind_ok h
      have := ih _ _ _ _ h
      have l1 := (ident_le e _ _ _ h1).2
      have l2 := (typed_le e kind _ _ _ _ _ h2).2
      have l3 := (want_le e _ _ _ _ h3).2
      have l0 := (drop_le s (isS_pos hw)).2
      simp only [List.length_append, List.length_cons, List.length_nil] at this
      omega
theorem body_len (e : Int) (d : Nat) (s : PS) (p : List Int × Int) (s' : PS) (h : bodyS e d s = .ok p s') : p.1.length ≤ s.ts.length := by
  unfold bodyS at h
  simp only at h
  obtain ⟨p1, s1, h1, h⟩ := bind_ok h
  obtain ⟨b, s2, h2, h⟩ := bind_ok h
  simp only [R.ok.injEq] at h
  obtain ⟨rfl, -⟩ := h
  unfold withinS at h1
  split at h1
  · simp at h1
  · split at h1
    · simp at h1
    · obtain ⟨q, s3, h3, h1⟩ := bind_ok h1
      obtain ⟨vs, s4, h4, h3⟩ := bind_ok h3
      obtain ⟨l, s5, h5, h3⟩ := bind_ok h3
      simp only [R.ok.injEq] at h3
      obtain ⟨rfl, rfl⟩ := h3
      have h6 := varsL_len e 5 _ _ _ _ _ h4
      simp only [List.length_nil, List.length_tail] at h6
      have h7 : p1.1 = vs := by
        simp only at h1
        obtain ⟨_, s6, _, h1⟩ := bind_ok h1
        simp only [R.ok.injEq] at h1
        rw [← h1.1]
      simp only
      rw [h7]; omega
end Go.Ru

namespace Go.Proofs.YtojjkleplnijaaaGreatDoor
open Go.AE Go.Ru
set_option maxRecDepth 100000
def Fine (d : Nat) (ts : List Tok) (ns : List Nd) : Prop := d ≤ 40 ∧ ns.length + 4 * ts.length ≤ 900000
def cUna (D : Nat) : AC := fun args K k => ∃ d : Nat, ∃ e ts ns mo op X, args = [pp] ∧ K = encP e ts ns op mo ++ X ∧ op = 40 - (d : Int) ∧ d < D ∧ Fine d ts ns ∧ After e (unaS e d ⟨ts, ns, mo⟩) intV op X k
def cExJ (D J : Nat) : AC := fun args K k => ∃ d j : Nat, ∃ e ts ns mo op kk X, args = [pp, .p (.int .i64 kk)] ∧ K = encP e ts ns op mo ++ X ∧ op = 40 - (d : Int) ∧ kk = 5 - (j : Int) ∧ d < D ∧ j < J ∧ J ≤ 6 ∧ Fine d ts ns ∧
  After e (exprS (unaS e d) j ⟨ts, ns, mo⟩) intV op X k
def cPrim (D : Nat) : AC := fun args K k => ∃ d : Nat, ∃ e ts ns mo op X, args = [pp] ∧ K = encP e ts ns op mo ++ X ∧ op = 40 - (d : Int) ∧ d ≤ D ∧ Fine d ts ns ∧ After e (primS e d (inS e d) ⟨ts, ns, mo⟩) intV op X k
def gE (D J : Nat) : AG := gput 242 (cUna D) (gput 229 (cExJ D J) g7)
theorem gE_ok {D J : Nat} (hU : COk 242 (cUna D)) (hE : COk 229 (cExJ D J)) : GOk Tryz.prog (gE D J) := gput_ok hU (gput_ok hE g7_ok)
theorem nt {b : Bool} (h : (!b) = true) : b = false := by simpa using h
theorem nf {b : Bool} (h : (!b) = false) : b = true := by simpa using h
theorem isS_self {w : Bs} {t : Tok} {r : List Tok} (h : isS w (t :: r) = true) : isS t.tx (t :: r) = true := by
  obtain ⟨k, n, a, tx⟩ := t
  cases k <;> simp_all [isS]
theorem in_op {op : Int} {d : Nat} (ho : op = 40 - ((d + 1 : Nat) : Int)) (h : d < 1000) : IntKind.i64.wrap (op + 1) = 40 - (d : Int) := by
  rw [w64 (by omega)]; omega
theorem in_mo {op mo : Int} {d : Nat} (ho : op = 40 - ((d + 1 : Nat) : Int)) (h : d < 1000) : (if IntKind.i64.wrap (op + 1) > mo then IntKind.i64.wrap (op + 1) else mo) = moreS (d + 1) mo := by
  rw [in_op ho h, moreS]
  have e : (41 : Int) - ((d + 1 : Nat) : Int) = 40 - d := by omega
  rw [e]
theorem out_op {op : Int} {d : Nat} (ho : op = 40 - ((d + 1 : Nat) : Int)) (h : d < 1000) : IntKind.i64.wrap (IntKind.i64.wrap (op + 1) - 1) = op := by
  rw [in_op ho h, w64 (by omega)]; omega
theorem unaS_eq (e : Int) (d : Nat) (s : PS) : unaS e d s = unaB e d (match d with
  | 0 => fun _ => .bad 0 0
  | d + 1 => unaS e d) (inS e d) s := by cases d <;> rfl
theorem una_step {D : Nat} (hP : COk 256 (cPrim D)) (hU : COk 242 (cUna D)) : COk 242 (cUna (D + 1)) := by
  rintro args K k ⟨d, e, ts, ns, mo, op, X, rfl, rfl, ho, hd, hf, hk⟩
  refine frameP (G := gput 256 (cPrim D) (gput 242 (cUna D) g7)) (gput_ok hP (gput_ok hU g7_ok)) 9 rfl fun Q hr hp => ?_
  rw [unaS_eq] at hk
  cases ts with
  | nil =>
    conv => whnf
    refine ⟨by simp, ?_⟩
    conv => whnf
    refine ⟨_, _, _, _, _, _, _, rfl, rfl, ?_⟩
    conv => whnf
    refine ⟨_, _, _, _, _, _, _, rfl, rfl, ?_⟩
    conv => whnf
    refine ⟨_, _, _, _, _, _, _, rfl, rfl, ho, by omega, hf, ⟨fun a ts' ns' mo' h => ?_, fun a er h => ?_⟩⟩
    · conv => whnf
      exact hr _ _ _ _ _ _ rfl rfl (hk.ok _ _ _ _ h)
    · conv => whnf
      exact hp _ _ rfl (hk.bad _ _ h)
  | cons t r =>
    conv => whnf
    refine ⟨by simp; omega, ?_⟩
    conv => whnf
    refine ⟨_, _, _, _, _, _, _, rfl, rfl, ?_⟩
    conv => whnf
    refine two_intro (fun h1 => ?_) (fun h1 => ?_)
    · have h1 : isS [45] (t :: r) = false := nt h1
      conv => whnf
      refine ⟨_, _, _, _, _, _, _, rfl, rfl, ?_⟩
      conv => whnf
      refine two_intro (fun h2 => ?_) (fun h2 => ?_)
      · have h2 : isS [33] (t :: r) = false := nt h2
        simp only [unaB, h1, h2, Bool.or_false] at hk
        conv => whnf
        refine ⟨_, _, _, _, _, _, _, rfl, rfl, ho, by omega, hf, ⟨fun a ts' ns' mo' h => ?_, fun a er h => ?_⟩⟩
        · conv => whnf
          exact hr _ _ _ _ _ _ rfl rfl (hk.ok _ _ _ _ h)
        · conv => whnf
          exact hp _ _ rfl (hk.bad _ _ h)
      · have h2 : isS [33] (t :: r) = true := nf h2
        simp only [unaB, h1, h2, Bool.or_true] at hk
        have hs := isS_self h2
        conv => whnf
        refine ⟨_, _, _, _, _, _, _, rfl, rfl, ?_⟩
        conv => whnf
        refine two_true hs ?_
        conv => whnf
        cases d with
        | zero =>
          refine two_intro (fun h3 => ?_) (fun h3 => ?_)
          · conv => whnf
            refine ⟨_, _, _, _, _, _, _, rfl, rfl, ?_⟩
            conv => whnf
            exact hp _ _ rfl (hk.bad _ _ (by simp [withinS, hs, R.bind]))
          · simp [ho] at h3
        | succ d =>
          refine two_intro (fun h3 => ?_) (fun h3 => ?_)
          · simp [ho] at h3; omega
          · conv => whnf
            refine ⟨_, _, _, _, _, _, _, rfl, rfl, ⟨fun a ts' ns' mo' h => ?_, fun a er h => ?_⟩⟩
            · simp only [wantS, hs, dropS, R.ok.injEq, PS.mk.injEq] at h
              obtain ⟨-, rfl, rfl, rfl⟩ := h
              conv => whnf
              have hd2 : d < 1000 := by have := hf.1; omega
              refine ⟨d, _, _, _, _, _, _, rfl, rfl, in_op ho hd2, by omega, ?_, ⟨fun a ts' ns' mo' h => ?_, fun a er h => ?_⟩⟩
              · simp only [Fine, List.length_cons, List.tail_cons] at hf ⊢; omega
              · rw [in_mo ho hd2] at h
                simp only [List.tail_cons] at h
                have hl := una_le e d _ _ _ h
                conv => whnf
                refine ⟨[a], _, _, _, _, _, _, _, _, _, _, _, rfl, rfl, PutK.slr ?_ rfl rfl rfl (allLt_ok ⟨trivial, rfl⟩) ?_⟩
                · simp only [Fine, Lw, List.length_cons] at hf hl; omega
                conv => whnf
                rw [out_op ho hd2]
                exact hr _ _ _ _ _ _ rfl rfl (hk.ok _ _ _ _ (by simp [withinS, hs, R.bind, h, putS]))
              · rw [in_mo ho hd2] at h
                simp only [List.tail_cons] at h
                conv => whnf
                exact hp _ _ rfl (hk.bad _ _ (by simp [withinS, hs, R.bind, h]))
            · simp [wantS, hs] at h
    · have h1 : isS [45] (t :: r) = true := nf h1
      simp only [unaB, h1, Bool.true_or] at hk
      have hs := isS_self h1
      conv => whnf
      refine ⟨_, _, _, _, _, _, _, rfl, rfl, ?_⟩
      conv => whnf
      refine two_true hs ?_
      conv => whnf
      cases d with
      | zero =>
        refine two_intro (fun h3 => ?_) (fun h3 => ?_)
        · conv => whnf
          refine ⟨_, _, _, _, _, _, _, rfl, rfl, ?_⟩
          conv => whnf
          exact hp _ _ rfl (hk.bad _ _ (by simp [withinS, hs, R.bind]))
        · simp [ho] at h3
      | succ d =>
        refine two_intro (fun h3 => ?_) (fun h3 => ?_)
        · simp [ho] at h3; omega
        · conv => whnf
          refine ⟨_, _, _, _, _, _, _, rfl, rfl, ⟨fun a ts' ns' mo' h => ?_, fun a er h => ?_⟩⟩
          · simp only [wantS, hs, dropS, R.ok.injEq, PS.mk.injEq] at h
            obtain ⟨-, rfl, rfl, rfl⟩ := h
            conv => whnf
            have hd2 : d < 1000 := by have := hf.1; omega
            refine ⟨d, _, _, _, _, _, _, rfl, rfl, in_op ho hd2, by omega, ?_, ⟨fun a ts' ns' mo' h => ?_, fun a er h => ?_⟩⟩
            · simp only [Fine, List.length_cons, List.tail_cons] at hf ⊢; omega
            · rw [in_mo ho hd2] at h
              simp only [List.tail_cons] at h
              have hl := una_le e d _ _ _ h
              conv => whnf
              refine ⟨[a], _, _, _, _, _, _, _, _, _, _, _, rfl, rfl, PutK.slr ?_ rfl rfl rfl (allLt_ok ⟨trivial, rfl⟩) ?_⟩
              · simp only [Fine, Lw, List.length_cons] at hf hl; omega
              conv => whnf
              rw [out_op ho hd2]
              exact hr _ _ _ _ _ _ rfl rfl (hk.ok _ _ _ _ (by simp [withinS, hs, R.bind, h, putS]))
            · rw [in_mo ho hd2] at h
              simp only [List.tail_cons] at h
              conv => whnf
              exact hp _ _ rfl (hk.bad _ _ (by simp [withinS, hs, R.bind, h]))
          · simp [wantS, hs] at h
def cIndex (D : Nat) : AC := fun args K k => ∃ d : Nat, ∃ e ts ns mo op X, args = [pp] ∧ K = encP e ts ns op mo ++ X ∧ op = 40 - (d : Int) ∧ d ≤ D ∧ Fine d ts ns ∧ After e (indexS e d ⟨ts, ns, mo⟩) intV op X k
theorem index_ok {D : Nat} (hE : COk 229 (cExJ D 6)) : COk 260 (cIndex D) := by
  rintro args K k ⟨d, e, ts, ns, mo, op, X, rfl, rfl, ho, hd, hf, hk⟩
  refine frameP (G := gput 229 (cExJ D 6) g7) (gput_ok hE g7_ok) 9 rfl fun Q hr hp => ?_
  conv => whnf
  by_cases hw : isS [91] ts = true
  · refine ⟨_, _, _, _, _, _, _, rfl, rfl, ?_⟩
    conv => whnf
    refine two_true hw ?_
    conv => whnf
    cases d with
    | zero =>
      refine two_intro (fun h3 => ?_) (fun h3 => ?_)
      · conv => whnf
        refine ⟨_, _, _, _, _, _, _, rfl, rfl, ?_⟩
        conv => whnf
        exact hp _ _ rfl (hk.bad _ _ (by simp [indexS, withinS, hw, R.bind]))
      · simp [ho] at h3
    | succ d =>
      refine two_intro (fun h3 => ?_) (fun h3 => ?_)
      · simp [ho] at h3; omega
      · conv => whnf
        refine ⟨_, _, _, _, _, _, _, rfl, rfl, ⟨fun a ts' ns' mo' h => ?_, fun a er h => ?_⟩⟩
        · simp only [wantS, hw, dropS, R.ok.injEq, PS.mk.injEq] at h
          obtain ⟨-, rfl, rfl, rfl⟩ := h
          conv => whnf
          have hd2 : d < 1000 := by have := hf.1; omega
          have hl0 := isS_pos hw
          refine ⟨d, 5, _, _, _, _, _, _, _, rfl, rfl, in_op ho hd2, rfl, by omega, by omega, by omega, ?_, ⟨fun x ts' ns' mo' h => ?_, fun a er h => ?_⟩⟩
          · simp only [Fine, List.length_cons, List.length_tail] at hf hl0 ⊢; omega
          · rw [in_mo ho hd2] at h
            have hl := ex_le e d _ _ _ h
            conv => whnf
            refine ⟨_, _, _, _, _, _, _, rfl, rfl, ⟨fun u ts2 ns2 mo2 h2 => ?_, fun a er h2 => ?_⟩⟩
            · have hl2 := want_le _ _ _ _ _ h2
              conv => whnf
              rw [out_op ho hd2]
              exact hr _ _ _ _ _ _ rfl rfl (hk.ok _ _ _ _ (by
                have h : inS e (d + 1) _ = _ := h
                have h2 : wantS e [93] _ = _ := h2
                simp only [indexS, withinS, hw, h, h2, R.bind]))
            · conv => whnf
              exact hp _ _ rfl (hk.bad _ _ (by
                have h : inS e (d + 1) _ = _ := h
                have h2 : wantS e [93] _ = _ := h2
                simp only [indexS, withinS, hw, h, h2, R.bind]))
          · rw [in_mo ho hd2] at h
            conv => whnf
            exact hp _ _ rfl (hk.bad _ _ (by
              have h : inS e (d + 1) _ = _ := h
              simp only [indexS, withinS, hw, h, R.bind]))
        · simp [wantS, hw] at h
  · have hw : isS [91] ts = false := by simpa using hw
    refine ⟨_, _, _, _, _, _, _, rfl, rfl, ?_⟩
    conv => whnf
    refine two_false hw ?_
    conv => whnf
    refine ⟨_, _, _, _, _, _, _, rfl, rfl, ⟨fun a ts' ns' mo' h => ?_, fun a er h => ?_⟩⟩
    · simp [wantS, hw] at h
    · simp only [wantS, hw, R.bad.injEq] at h
      obtain ⟨rfl, rfl⟩ := h
      conv => whnf
      exact hp _ _ rfl (hk.bad _ _ (by simp only [indexS, withinS, hw]))
theorem prim_ok {D : Nat} (hE : COk 229 (cExJ D 6)) : COk 256 (cPrim D) := by
  rintro args K k ⟨d, e, ts, ns, mo, op, X, rfl, rfl, ho, hd, hf, hk⟩
  refine frameP (G := gput 260 (cIndex D) (gput 229 (cExJ D 6) g7)) (gput_ok (index_ok hE) (gput_ok hE g7_ok)) 9 rfl fun Q hr hp => ?_
  cases ts with
  | nil =>
    conv => whnf
    refine ⟨by simp, ?_⟩
    conv => whnf
    refine ⟨_, _, _, _, _, _, _, rfl, rfl, ⟨fun h => by simp [isS] at h, fun _ => ?_⟩⟩
    conv => whnf
    refine ⟨_, _, _, _, _, _, _, rfl, rfl, ⟨fun h => by simp [isS] at h, fun _ => ?_⟩⟩
    conv => whnf
    refine ⟨_, _, _, _, _, _, _, rfl, rfl, ⟨fun h => by simp [isS] at h, fun _ => ?_⟩⟩
    conv => whnf
    refine ⟨_, _, _, _, _, _, _, rfl, rfl, ⟨fun h => by simp [isS] at h, fun _ => ?_⟩⟩
    conv => whnf
    refine ⟨_, _, _, _, _, _, _, rfl, rfl, ?_⟩
    conv => whnf
    refine ⟨_, _, _, _, _, _, rfl, rfl, ⟨fun a ts' ns' mo' h => by simp [identS] at h, fun a er h => ?_⟩⟩
    simp only [identS, R.bad.injEq] at h
    obtain ⟨rfl, rfl⟩ := h
    conv => whnf
    exact hp _ _ rfl (hk.bad _ _ rfl)
  | cons t r =>
    obtain ⟨tk, tn, ta, tx⟩ := t
    have hn : ns.length < 1000000 := by simp only [Fine] at hf; omega
    cases tk with
    | number =>
      conv => whnf
      refine ⟨by simp; omega, ?_⟩
      conv => whnf
      refine ⟨_, _, _, _, _, _, _, rfl, rfl, ?_⟩
      conv => whnf
      refine ⟨[], _, _, _, _, _, _, _, _, _, _, _, rfl, rfl, PutK.nils hn ?_⟩
      conv => whnf
      exact hr _ _ _ _ _ _ rfl rfl (hk.ok _ _ _ _ rfl)
    | name =>
      conv => whnf
      refine ⟨by simp; omega, ?_⟩
      conv => whnf
      refine ⟨_, _, _, _, _, _, _, rfl, rfl, ⟨fun h => by simp [isS] at h, fun _ => ?_⟩⟩
      conv => whnf
      refine ⟨_, _, _, _, _, _, _, rfl, rfl, ⟨fun h => by simp [isS] at h, fun _ => ?_⟩⟩
      conv => whnf
      refine ⟨_, _, _, _, _, _, _, rfl, rfl, ⟨fun h => by simp [isS] at h, fun _ => ?_⟩⟩
      conv => whnf
      refine ⟨_, _, _, _, _, _, _, rfl, rfl, ⟨fun h => by simp [isS] at h, fun _ => ?_⟩⟩
      conv => whnf
      refine ⟨_, _, _, _, _, _, _, rfl, rfl, ?_⟩
      conv => whnf
      refine ⟨_, _, _, _, _, _, rfl, rfl, ⟨fun a ts' ns' mo' h => ?_, fun a er h => by simp [identS] at h⟩⟩
      simp only [identS, R.ok.injEq, PS.mk.injEq] at h
      obtain ⟨rfl, rfl, rfl, rfl⟩ := h
      conv => whnf
      refine ⟨_, _, _, _, _, _, _, rfl, rfl, ?_⟩
      conv => whnf
      refine two_intro (fun h1 => ?_) (fun h1 => ?_)
      · have h1 : isS [91] r = true := h1
        simp only [primS, h1] at hk
        conv => whnf
        refine ⟨d, _, _, _, _, _, _, rfl, rfl, ho, hd, ?_, ⟨fun x ts' ns' mo' h => ?_, fun a er h => ?_⟩⟩
        · simp only [Fine, List.length_cons] at hf ⊢; omega
        · have hl := index_le _ _ _ _ _ h
          conv => whnf
          refine ⟨[x], _, _, _, _, _, _, _, _, _, _, _, rfl, rfl, PutK.slr ?_ rfl rfl rfl (allLt_ok ⟨trivial, rfl⟩) ?_⟩
          · simp only [Fine, Lw, List.length_cons] at hf hl; omega
          conv => whnf
          exact hr _ _ _ _ _ _ rfl rfl (hk.ok _ _ _ _ (by
            have h : withinS e d [91] [93] (inS e d) _ = _ := h
            simp only [h, R.bind, putS]))
        · conv => whnf
          exact hp _ _ rfl (hk.bad _ _ (by
            have h : withinS e d [91] [93] (inS e d) _ = _ := h
            simp only [h, R.bind]))
      · have h1 : isS [91] r = false := h1
        simp only [primS, h1] at hk
        conv => whnf
        refine ⟨[], _, _, _, _, _, _, _, _, _, _, _, rfl, rfl, PutK.nils hn ?_⟩
        conv => whnf
        exact hr _ _ _ _ _ _ rfl rfl (hk.ok _ _ _ _ rfl)
    | _ =>
      conv => whnf
      refine ⟨by simp; omega, ?_⟩
      conv => whnf
      refine ⟨_, _, _, _, _, _, _, rfl, rfl, ⟨fun h => ?_, fun h => ?_⟩⟩
      · have g0 : (tx == [116, 114, 117, 101]) = true := h
        simp only [primS, g0] at hk
        conv => whnf
        refine ⟨[], _, _, _, _, _, _, _, _, _, _, _, rfl, rfl, PutK.nils hn ?_⟩
        conv => whnf
        exact hr _ _ _ _ _ _ rfl rfl (hk.ok _ _ _ _ rfl)
      have g0 : (tx == [116, 114, 117, 101]) = false := h
      conv => whnf
      refine ⟨_, _, _, _, _, _, _, rfl, rfl, ⟨fun h => ?_, fun h => ?_⟩⟩
      · have g1 : (tx == [102, 97, 108, 115, 101]) = true := h
        simp only [primS, g0, g1] at hk
        conv => whnf
        refine ⟨[], _, _, _, _, _, _, _, _, _, _, _, rfl, rfl, PutK.nils hn ?_⟩
        conv => whnf
        exact hr _ _ _ _ _ _ rfl rfl (hk.ok _ _ _ _ rfl)
      have g1 : (tx == [102, 97, 108, 115, 101]) = false := h
      conv => whnf
      refine ⟨_, _, _, _, _, _, _, rfl, rfl, ⟨fun h => ?_, fun h => ?_⟩⟩
      · have g2 : (tx == [108, 101, 110]) = true := h
        simp only [primS, g0, g1, g2] at hk
        conv => whnf
        refine ⟨_, _, _, _, _, _, rfl, rfl, ⟨fun t' ts' ns' mo' h => ?_, fun a er h => ?_⟩⟩
        · have hl := ident_le _ _ _ _ h
          have h : identS e ⟨r, ns, mo⟩ = _ := h
          conv => whnf
          refine ⟨by conv => whnf, ?_⟩
          conv => whnf
          refine ⟨by conv => whnf, ?_⟩
          conv => whnf
          refine ⟨[], _, _, _, _, _, _, _, _, _, _, _, rfl, rfl, PutK.nils (by simp only [Fine, Lw, List.length_cons, List.length_tail] at hf hl; omega) ?_⟩
          conv => whnf
          exact hr _ _ _ _ _ _ rfl rfl (hk.ok _ _ _ _ (by simp only [h, R.bind, putS]))
        · have h : identS e ⟨r, ns, mo⟩ = _ := h
          conv => whnf
          exact hp _ _ rfl (hk.bad _ _ (by simp only [h, R.bind]))
      have g2 : (tx == [108, 101, 110]) = false := h
      conv => whnf
      refine ⟨_, _, _, _, _, _, _, rfl, rfl, ⟨fun h => ?_, fun h => ?_⟩⟩
      · have g3 : (tx == [38]) = true := h
        simp only [primS, g0, g1, g2, g3] at hk
        conv => whnf
        refine ⟨_, _, _, _, _, _, rfl, rfl, ⟨fun t' ts' ns' mo' h => ?_, fun a er h => ?_⟩⟩
        · have hl := ident_le _ _ _ _ h
          have h : identS e ⟨r, ns, mo⟩ = _ := h
          conv => whnf
          refine ⟨by conv => whnf, ?_⟩
          conv => whnf
          refine ⟨by conv => whnf, ?_⟩
          conv => whnf
          refine ⟨[], _, _, _, _, _, _, _, _, _, _, _, rfl, rfl, PutK.nils (by simp only [Fine, Lw, List.length_cons, List.length_tail] at hf hl; omega) ?_⟩
          conv => whnf
          exact hr _ _ _ _ _ _ rfl rfl (hk.ok _ _ _ _ (by simp only [h, R.bind, putS]))
        · have h : identS e ⟨r, ns, mo⟩ = _ := h
          conv => whnf
          exact hp _ _ rfl (hk.bad _ _ (by simp only [h, R.bind]))
      have g3 : (tx == [38]) = false := h
      conv => whnf
      refine ⟨_, _, _, _, _, _, _, rfl, rfl, ?_⟩
      conv => whnf
      refine two_intro (fun h => ?_) (fun h => ?_)
      · have g4 : (tx == [40]) = true := h
        simp only [primS, g0, g1, g2, g3, g4] at hk
        have hw : isS [40] (⟨_, tn, ta, tx⟩ :: r) = true := h
        conv => whnf
        refine ⟨_, _, _, _, _, _, _, rfl, rfl, ?_⟩
        conv => whnf
        refine two_true hw ?_
        conv => whnf
        cases d with
        | zero =>
          refine two_intro (fun h3 => ?_) (fun h3 => ?_)
          · conv => whnf
            refine ⟨_, _, _, _, _, _, _, rfl, rfl, ?_⟩
            conv => whnf
            exact hp _ _ rfl (hk.bad _ _ (by simp [withinS, hw, R.bind]))
          · simp [ho] at h3
        | succ d =>
          refine two_intro (fun h3 => ?_) (fun h3 => ?_)
          · simp [ho] at h3; omega
          · conv => whnf
            refine ⟨_, _, _, _, _, _, _, rfl, rfl, ⟨fun a ts' ns' mo' h => ?_, fun a er h => ?_⟩⟩
            · simp only [wantS, hw, dropS, R.ok.injEq, PS.mk.injEq] at h
              obtain ⟨-, rfl, rfl, rfl⟩ := h
              conv => whnf
              have hd2 : d < 1000 := by have := hf.1; omega
              have hl0 := isS_pos hw
              refine ⟨d, 5, _, _, _, _, _, _, _, rfl, rfl, in_op ho hd2, rfl, by omega, by omega, by omega, ?_, ⟨fun x ts' ns' mo' h => ?_, fun a er h => ?_⟩⟩
              · simp only [Fine, List.length_cons, List.length_tail] at hf hl0 ⊢; omega
              · rw [in_mo ho hd2] at h
                have hl := ex_le e d _ _ _ h
                conv => whnf
                refine ⟨_, _, _, _, _, _, _, rfl, rfl, ⟨fun u ts2 ns2 mo2 h2 => ?_, fun a er h2 => ?_⟩⟩
                · have hl2 := want_le _ _ _ _ _ h2
                  conv => whnf
                  rw [out_op ho hd2]
                  exact hr _ _ _ _ _ _ rfl rfl (hk.ok _ _ _ _ (by
                    have h : inS e (d + 1) _ = _ := h
                    have h2 : wantS e [41] _ = _ := h2
                    simp only [withinS, hw, h, h2, R.bind]))
                · conv => whnf
                  exact hp _ _ rfl (hk.bad _ _ (by
                    have h : inS e (d + 1) _ = _ := h
                    have h2 : wantS e [41] _ = _ := h2
                    simp only [withinS, hw, h, h2, R.bind]))
              · rw [in_mo ho hd2] at h
                conv => whnf
                exact hp _ _ rfl (hk.bad _ _ (by
                  have h : inS e (d + 1) _ = _ := h
                  simp only [withinS, hw, h, R.bind]))
            · simp [wantS, hw] at h
      · have g4 : (tx == [40]) = false := h
        simp only [primS, g0, g1, g2, g3, g4] at hk
        conv => whnf
        refine ⟨_, _, _, _, _, _, rfl, rfl, ⟨fun a ts' ns' mo' h => by simp [identS] at h, fun a er h => ?_⟩⟩
        simp only [identS, R.bad.injEq] at h
        obtain ⟨rfl, rfl⟩ := h
        conv => whnf
        exact hp _ _ rfl (hk.bad _ _ rfl)
end Go.Proofs.YtojjkleplnijaaaGreatDoor

namespace Go.Proofs.YtojjkleplnijaaaGreatDoor
open Go.AE Go.Ru
set_option maxRecDepth 100000
structure LS where
  x : Int
  ts : List Tok
  ns : List Nd
  mo : Int
  n : Nat
theorem rowLoop_no {l : List Bs} {o : M Int} {n : Nat} {x : Int} {s : PS} (h : anyS l s.ts = false) : rowLoop l o n x s = .ok x s := by
  cases n with
  | zero => rfl
  | succ n =>
    unfold rowLoop
    split
    · rfl
    · rename_i t r ht
      rw [ht] at h
      rw [h]
theorem anyS_cons {l : List Bs} {ts : List Tok} (h : anyS l ts = true) : ∃ t r, ts = t :: r := by
  cases ts with
  | nil =>
    induction l with
    | nil => simp [anyS] at h
    | cons w l ih =>
      simp only [anyS, List.any_cons, isS, Bool.false_or] at h ih
      exact ih h
  | cons t r => exact ⟨t, r, rfl⟩
theorem rowS_len (j : Nat) : (rowS j).length < 1000 := by
  unfold rowS
  split <;> simp
theorem expr_step {D J : Nat} (hU : COk 242 (cUna D)) (hE : COk 229 (cExJ D J)) : COk 229 (cExJ D (J + 1)) := by
  rintro args K k ⟨d, j, e, ts, ns, mo, op, kk, X, rfl, rfl, ho, hkk, hd, hj, hJ, hf, hk⟩
  refine frameP (gE_ok hU hE) 9 rfl fun Q hr hp => ?_
  cases j with
  | zero =>
    conv => whnf
    refine two_true (by simp; omega) ?_
    conv => whnf
    refine ⟨d, _, _, _, _, _, _, rfl, rfl, ho, hd, hf, ⟨fun x ts' ns' mo' h => ?_, fun a er h => ?_⟩⟩
    · conv => whnf
      exact hr _ _ _ _ _ _ rfl rfl (hk.ok _ _ _ _ h)
    · conv => whnf
      exact hp _ _ rfl (hk.bad _ _ h)
  | succ j =>
    conv => whnf
    refine two_false (by simp; omega) ?_
    conv => whnf
    refine ⟨d, j, _, _, _, _, _, _, _, rfl, rfl, ho, by rw [w64 (by omega)]; omega, hd, by omega, by omega, hf, ⟨fun x ts' ns' mo' h => ?_, fun a er h => ?_⟩⟩
    · conv => whnf
      have hl := expr_le (una_le e d) j _ _ _ h
      have h0 : exprS (unaS e d) (j + 1) ⟨ts, ns, mo⟩ = rowLoop (rowS j) (exprS (unaS e d) j) ts'.length x ⟨ts', ns', mo'⟩ := by
        simp only [exprS, h, R.bind]
      rw [h0] at hk
      generalize hR0 : rowLoop (rowS j) (exprS (unaS e d) j) ts'.length x ⟨ts', ns', mo'⟩ = R0 at hk
      refine loop_by (ι := LS) (fun i => ⟨[(0, pp), (1, .p (.int .i64 kk)), (5, intV i.x)], encP e i.ts i.ns op i.mo⟩)
        (fun i => i.ts.length ≤ i.n ∧ i.ns.length + 4 * i.ts.length ≤ 900000 ∧ rowLoop (rowS j) (exprS (unaS e d) j) i.n i.x ⟨i.ts, i.ns, i.mo⟩ = R0)
        (fun i => i.ts.length) ⟨x, ts', ns', mo', ts'.length⟩ ⟨AV.le_refl _, AV.le_refl _, AV.le_refl _, trivial⟩ (lesK.refl _) ⟨Nat.le_refl _, ?_, ?_⟩ ?_
      · simp only [Fine, Lw] at hf hl ⊢; omega
      · exact hR0
      have hd4 := hf.1
      clear hR0 h h0 hl hf
      rintro Y hle ⟨x, ts, ns, mo, n⟩ ⟨hn, hb, hR⟩ ih
      simp only at hn hb hR
      conv => whnf
      refine ⟨j, kk, by omega, rfl, by omega, ?_⟩
      conv => whnf
      refine ⟨_, _, _, _, _, _, _, rfl, rfl, rowS_len j, ?_⟩
      conv => whnf
      refine two_intro (fun h1 => ?_) (fun h1 => ?_)
      · obtain ⟨t, r, rfl⟩ := anyS_cons h1
        conv => whnf
        refine ⟨_, _, _, _, _, _, _, rfl, rfl, ?_⟩
        conv => whnf
        cases n with
        | zero => simp at hn
        | succ n =>
        simp only [List.length_cons] at hn hb
        refine ⟨d, j, _, _, _, _, _, _, _, rfl, rfl, ho, by rw [w64 (by omega)]; omega, hd, by omega, by omega, ⟨hd4, by show ns.length + 4 * r.length ≤ 900000; omega⟩, ⟨fun y ts2 ns2 mo2 h => ?_, fun a er h => ?_⟩⟩
        · have hl := expr_le (una_le e d) j _ _ _ h
          simp only [Lw] at hl
          conv => whnf
          refine ⟨[x, y], _, _, _, _, _, _, _, _, _, _, _, rfl, rfl, PutK.slr ?_ rfl rfl rfl (allLt_ok ⟨⟨trivial, rfl⟩, rfl⟩) ?_⟩
          · omega
          conv => whnf
          refine hle _ _ (AE.Le.cutEnv 2 rfl rfl ⟨rfl, fun i _ => rfl, trivial⟩ ?_ (lesK.refl _)) (ih ⟨ns2.length, ts2, ns2 ++ [⟨27, 0, t.at_, t.tx, [x, y]⟩], mo2, n⟩ ?_ ⟨?_, ?_, ?_⟩)
          · exact ⟨AV.le_refl _, AV.le_refl _, AV.le_refl _, trivial⟩
          · simp only [List.length_cons]; omega
          · simp only; omega
          · simp only [List.length_append, List.length_cons, List.length_nil]; omega
          · rw [← hR]
            simp only at h
            have h1 : anyS (rowS j) (t :: r) = true := h1
            simp only [rowLoop, h1, h, R.bind, putS]
        · simp only at h
          have h1 : anyS (rowS j) (t :: r) = true := h1
          simp only [rowLoop, h1, h, R.bind] at hR
          subst hR
          conv => whnf
          exact hp _ _ rfl (hk.bad _ _ rfl)
      · rw [rowLoop_no h1] at hR
        subst hR
        conv => whnf
        exact hr _ _ _ _ _ _ rfl rfl (hk.ok _ _ _ _ rfl)
    · conv => whnf
      exact hp _ _ rfl (hk.bad _ _ (by simp only [exprS, h, R.bind]))
end Go.Proofs.YtojjkleplnijaaaGreatDoor

namespace Go.Proofs.YtojjkleplnijaaaGreatDoor
open Go.AE Go.Ru
set_option maxRecDepth 100000
theorem exJ_zero (D : Nat) : COk 229 (cExJ D 0) := by
  rintro args K k ⟨d, j, e, ts, ns, mo, op, kk, X, -, -, -, -, -, hj, -⟩
  omega
theorem all_ok (D : Nat) : COk 242 (cUna D) ∧ COk 229 (cExJ D 6) ∧ COk 256 (cPrim D) := by
  have hx : ∀ D, COk 242 (cUna D) → COk 229 (cExJ D 6) := fun D hU =>
    expr_step hU (expr_step hU (expr_step hU (expr_step hU (expr_step hU (expr_step hU (exJ_zero D))))))
  induction D with
  | zero =>
    have h0 : COk 242 (cUna 0) := by
      rintro args K k ⟨d, e, ts, ns, mo, op, X, -, -, -, h, -⟩
      omega
    exact ⟨h0, hx 0 h0, prim_ok (hx 0 h0)⟩
  | succ D ih =>
    have h1 := una_step ih.2.2 ih.1
    exact ⟨h1, hx _ h1, prim_ok (hx _ h1)⟩
theorem bindA {α β γ : Type} (r : R α) (f : α → PS → R β) (g : β → PS → R γ) : (r.bind f).bind g = r.bind fun a s => (f a s).bind g := by cases r <;> rfl
theorem bindO {α β : Type} (a : α) (s : PS) (f : α → PS → R β) : (R.ok a s).bind f = f a s := rfl
theorem bindB {α β : Type} (a e : Int) (f : α → PS → R β) : (R.bad a e : R α).bind f = .bad a e := rfl
def AK {α : Type} (r : R α) (ok : α → PS → Prop) (bad : Int → Int → Prop) : Prop := match r with
  | .ok a s => ok a s
  | .bad a e => bad a e
theorem After.ak {α : Type} {e : Int} {r : R α} {val : α → AV} {op : Int} {X : List ABlk} {k : AO → List ABlk → Prop} (h : After e r val op X k) :
    AK r (fun a s => k (.ret (val a)) (encP e s.ts s.ns op s.mo ++ X)) (fun a er => k (.pan (wrongV a er)) (deads 2 ++ X)) := by
  cases hr : r with
  | ok a s => exact h.ok _ _ _ _ hr
  | bad a e => exact h.bad _ _ hr
theorem AK.step {α β : Type} {r : R α} {f : α → PS → R β} {ok : β → PS → Prop} {bad : Int → Int → Prop} (h : AK (r.bind f) ok bad) {e : Int} {val : α → AV} {op : Int} {X : List ABlk} {k : AO → List ABlk → Prop}
    {p : PS → Prop} (hp : Okk r p)
    (h1 : ∀ a ts' ns' mo', p ⟨ts', ns', mo'⟩ → AK (f a ⟨ts', ns', mo'⟩) ok bad → k (.ret (val a)) (encP e ts' ns' op mo' ++ X))
    (h2 : ∀ a er, bad a er → k (.pan (wrongV a er)) (deads 2 ++ X)) : After e r val op X k := by
  cases r with
  | ok a s => exact ⟨fun a' ts' ns' mo' hr => by injection hr with e1 e2; subst e1; subst e2; exact h1 _ _ _ _ (hp _ _ rfl) h, fun _ _ hr => by simp at hr⟩
  | bad a er => exact ⟨fun _ _ _ _ hr => by simp at hr, fun a' e' hr => by injection hr with e1 e2; subst e1; subst e2; exact h2 _ _ h⟩
theorem AK.stepv {α β : Type} {r : R α} {f : α → PS → R β} {ok : β → PS → Prop} {bad : Int → Int → Prop} (h : AK (r.bind f) ok bad) {e : Int} {val : α → AV} {op : Int} {X : List ABlk} {k : AO → List ABlk → Prop}
    {p : α → PS → Prop} (hp : ∀ a s, r = .ok a s → p a s)
    (h1 : ∀ a ts' ns' mo', p a ⟨ts', ns', mo'⟩ → AK (f a ⟨ts', ns', mo'⟩) ok bad → k (.ret (val a)) (encP e ts' ns' op mo' ++ X))
    (h2 : ∀ a er, bad a er → k (.pan (wrongV a er)) (deads 2 ++ X)) : After e r val op X k := by
  cases r with
  | ok a s => exact ⟨fun a' ts' ns' mo' hr => by injection hr with e1 e2; subst e1; subst e2; exact h1 _ _ _ _ (hp _ _ rfl) h, fun _ _ hr => by simp at hr⟩
  | bad a er => exact ⟨fun _ _ _ _ hr => by simp at hr, fun a' e' hr => by injection hr with e1 e2; subst e1; subst e2; exact h2 _ _ h⟩
theorem AK.last {β : Type} {r : R β} {ok : β → PS → Prop} {bad : Int → Int → Prop} (h : AK r ok bad) {e : Int} {val : β → AV} {op : Int} {X : List ABlk} {k : AO → List ABlk → Prop}
    (h1 : ∀ a ts' ns' mo', ok a ⟨ts', ns', mo'⟩ → k (.ret (val a)) (encP e ts' ns' op mo' ++ X))
    (h2 : ∀ a er, bad a er → k (.pan (wrongV a er)) (deads 2 ++ X)) : After e r val op X k := by
  cases r with
  | ok a s => exact ⟨fun a' ts' ns' mo' hr => by injection hr with e1 e2; subst e1; subst e2; exact h1 _ _ _ _ h, fun _ _ hr => by simp at hr⟩
  | bad a er => exact ⟨fun _ _ _ _ hr => by simp at hr, fun a' e' hr => by injection hr with e1 e2; subst e1; subst e2; exact h2 _ _ h⟩
theorem AK.within {α β : Type} {e : Int} {d : Nat} {op cl : Bs} {what : M α} {ts : List Tok} {ns : List Nd} {mo : Int} {f : α → PS → R β} {ok : β → PS → Prop} {bad : Int → Int → Prop}
    (h : AK ((withinS e (d + 1) op cl what ⟨ts, ns, mo⟩).bind f) ok bad) (hw : isS op ts = true) (hc : cl ≠ []) :
    AK ((what ⟨ts.tail, ns, moreS (d + 1) mo⟩).bind fun a s => (wantS e cl s).bind fun _ s => f a s) ok bad := by
  simp only [withinS, hw] at h
  generalize what ⟨ts.tail, ns, moreS (d + 1) mo⟩ = r at h ⊢
  cases r with
  | bad a e => exact h
  | ok a s =>
    simp only [R.bind] at h ⊢
    cases cl with
    | nil => exact absurd rfl hc
    | cons c l =>
      generalize wantS e (c :: l) s = r at h ⊢
      cases r <;> exact h
theorem AK.within_no {α β : Type} {e : Int} {d : Nat} {op cl : Bs} {what : M α} {ts : List Tok} {ns : List Nd} {mo : Int} {f : α → PS → R β} {ok : β → PS → Prop} {bad : Int → Int → Prop}
    (h : AK ((withinS e d op cl what ⟨ts, ns, mo⟩).bind f) ok bad) (hw : isS op ts = false) : bad (hd e ts) 2 := by
  simp only [withinS, hw] at h; exact h
theorem AK.within_deep {α β : Type} {e : Int} {op cl : Bs} {what : M α} {ts : List Tok} {ns : List Nd} {mo : Int} {f : α → PS → R β} {ok : β → PS → Prop} {bad : Int → Int → Prop}
    (h : AK ((withinS e 0 op cl what ⟨ts, ns, mo⟩).bind f) ok bad) (hw : isS op ts = true) : bad (hd e ts) 6 := by
  simp only [withinS, hw] at h; exact h
theorem AK.want {β : Type} {e : Int} {w : Bs} {s : PS} {f : Unit → PS → R β} {ok : β → PS → Prop} {bad : Int → Int → Prop} (h : AK ((wantS e w s).bind f) ok bad) (hw : isS w s.ts = true) : AK (f () (dropS s)) ok bad := by
  simp only [wantS, hw] at h; exact h
theorem AK.want_no {β : Type} {e : Int} {w : Bs} {s : PS} {f : Unit → PS → R β} {ok : β → PS → Prop} {bad : Int → Int → Prop} (h : AK ((wantS e w s).bind f) ok bad) (hw : isS w s.ts = false) : bad (hd e s.ts) 2 := by
  simp only [wantS, hw] at h; exact h
def cEx : AC := fun args K k => ∃ d : Nat, ∃ e ts ns mo op X, args = [pp, .p (.int .i64 0)] ∧ K = encP e ts ns op mo ++ X ∧ op = 40 - (d : Int) ∧ Fine d ts ns ∧ After e (exS e d ⟨ts, ns, mo⟩) intV op X k
theorem ex_ok : COk 229 cEx := by
  rintro args K k ⟨d, e, ts, ns, mo, op, X, rfl, rfl, ho, hf, hk⟩
  have := hf.1
  exact (all_ok 41).2.1 _ _ _ ⟨d, 5, e, ts, ns, mo, op, 0, X, rfl, rfl, ho, rfl, by omega, by omega, by omega, hf, hk⟩
theorem idx_ok' : COk 260 (cIndex 41) := index_ok (all_ok 41).2.1
structure Fin (d c : Nat) (ts : List Tok) (ns : List Nd) : Prop where
  d : d ≤ 40
  s : ns.length + 4 * ts.length + c ≤ 900000
theorem Fine.fin {d : Nat} {ts : List Tok} {ns : List Nd} (h : Fine d ts ns) : Fin d 0 ts ns := ⟨h.1, h.2⟩
theorem Fin.fine {d c : Nat} {ts : List Tok} {ns : List Nd} (h : Fin d c ts ns) : Fine d ts ns := ⟨h.1, by have := h.2; omega⟩
theorem Fin.sz {d c : Nat} {ts : List Tok} {ns : List Nd} (h : Fin d c ts ns) : ns.length < 1000000 := by have := h.2; omega
theorem Fin.st {d c c' k : Nat} {ts ts' : List Tok} {ns ns' : List Nd} {mo mo' : Int} (h : Fin d c ts ns) (hl : Lw ⟨ts, ns, mo⟩ c' k ⟨ts', ns', mo'⟩) : Fin d (c + c') ts' ns' :=
  ⟨h.1, by have := h.2; have := hl.1; simp only at this; omega⟩
theorem Fin.pt {d c : Nat} {ts : List Tok} {ns : List Nd} {n : Nd} (h : Fin d (c + 1) ts ns) : Fin d c ts (ns ++ [n]) := ⟨h.1, by have := h.2; simp only [List.length_append, List.length_cons, List.length_nil]; omega⟩
theorem Fin.opn {d c : Nat} {ts : List Tok} {ns : List Nd} {w : Bs} (h : Fin (d + 1) c ts ns) (hw : isS w ts = true) : Fin d (c + 4) ts.tail ns :=
  ⟨by have := h.1; omega, by have := h.2; have := isS_pos hw; simp only [List.length_tail]; omega⟩
theorem Fin.sk {d c : Nat} {ts : List Tok} {ns : List Nd} {w : Bs} (h : Fin d c ts ns) (hw : isS w ts = true) : Fin d (c + 4) ts.tail ns :=
  ⟨h.1, by have := h.2; have := isS_pos hw; simp only [List.length_tail]; omega⟩
theorem Fin.lo {d c c' : Nat} {ts : List Tok} {ns : List Nd} (h : Fin d c ts ns) (hc : c' ≤ c) : Fin d c' ts ns := ⟨h.1, by have := h.2; omega⟩
end Go.Proofs.YtojjkleplnijaaaGreatDoor

namespace Go.Proofs.YtojjkleplnijaaaGreatDoor
open Go.AE Go.Ru
set_option maxRecDepth 100000
def cChan : AC := fun args K k => ∃ d : Nat, ∃ e ts ns mo op X, args = [pp] ∧ K = encP e ts ns op mo ++ X ∧ Fine d ts ns ∧ After e (chanS e ⟨ts, ns, mo⟩) intV op X k
theorem chan_ok : COk 245 cChan := by
  rintro args K k ⟨d, e, ts, ns, mo, op, X, rfl, rfl, hf, hk⟩
  refine frameP g7_ok 9 rfl fun Q hr hp => ?_
  have hk := hk.ak
  have hf := hf.fin
  unfold chanS at hk
  conv => whnf
  refine ⟨_, _, _, _, _, _, rfl, rfl, hk.step (ident_le _ _) (fun t ts ns mo hl hk => ?_) (fun a er hb => by ((conv => whnf); exact hp _ _ rfl hb))⟩
  have hf := hf.st hl
  conv => whnf
  refine ⟨[], _, _, _, _, _, _, _, _, _, _, _, rfl, rfl, PutK.nils hf.sz ?_⟩
  conv => whnf
  exact hr _ _ _ _ _ _ rfl rfl hk
def g8 : AG := gput 229 cEx (gput 260 (cIndex 41) (gput 245 cChan g7))
theorem g8_ok : GOk Tryz.prog g8 := gput_ok ex_ok (gput_ok idx_ok' (gput_ok chan_ok g7_ok))
structure LC where
  ts : List Tok
  ns : List Nd
  mo : Int
  l : List Int
  n : Nat
def kidA (l : List Int) : ABlk := .arr 3 1 0 l.length fun i => pvs (kidF l i)
theorem kidA_snoc (l : List Int) (x : Int) (f : Nat → List AV) (hf : f 0 = [intV x]) : (ABlk.arr 3 1 0 (l.length + 1) (catF l.length (fun i => pvs (kidF l i)) f)).le (kidA (l ++ [x])) := by
  refine ABlk.arr_eq (by simp) fun i hi => ?_
  by_cases h : i < l.length
  · rw [catF_lt h]
    simp [kidF, List.getD_eq_getElem?_getD, List.getElem?_append_left h]
  · obtain rfl : i = l.length := by omega
    rw [catF_ge (Nat.le_refl _), Nat.sub_self, hf]
    simp [kidF, List.getD_eq_getElem?_getD, pvs, intV]
theorem kid_cl (l : List Int) (x : Int) (f : Nat → List AV) (n : Nat) (hf : f 0 = [intV x]) : (ABlk.arr 3 1 0 (l.length + 1) (catF l.length (fun i => pvs (kidF l i)) f)).cl n := fun i hi => by
  by_cases h : i < l.length
  · rw [catF_lt h]; rfl
  · obtain rfl : i = l.length := by omega
    rw [catF_ge (Nat.le_refl _), Nat.sub_self, hf]; rfl
def cCall : AC := fun args K k => ∃ d : Nat, ∃ e ts ns mo op kd at_ tx X, args = [pp, .agg [.p (.int .i64 kd), .p (.int .i64 0), .p (.int .i64 at_), .p (.str tx), .p .nils]] ∧ K = encP e ts ns op mo ++ X ∧ op = 40 - (d : Int) ∧ Fine d ts ns ∧
  After e (callS e d at_ tx ⟨ts, ns, mo⟩) intV op X k
theorem call_ok2 : COk 246 cCall := by
  rintro args K k ⟨d, e, ts, ns, mo, op, kd, at_, tx, X, rfl, rfl, ho, hf, hk⟩
  refine frameP g8_ok 19 rfl fun Q hr hp => ?_
  have hk := hk.ak
  have hf := hf.fin
  unfold callS at hk
  conv => whnf
  refine ⟨_, _, _, _, _, _, rfl, rfl, hk.step (ident_le _ _) (fun t ts ns mo hl hk => ?_) (fun a er hb => by ((conv => whnf); exact hp _ _ rfl hb))⟩
  have hf := hf.st hl
  conv => whnf
  refine ⟨[], _, _, _, _, _, _, _, _, _, _, _, rfl, rfl, PutK.nils hf.sz ?_⟩
  conv => whnf
  replace hk : AK ((withinS e d [40] [41] (listS (oneS (inS e d)) [(ns.length : Int)]) ⟨ts, ns ++ [⟨19, 0, t.at_, t.tx, []⟩], mo⟩).bind fun l s => putS ⟨13, 0, at_, tx, l⟩ s) _ _ := hk
  have hf := hf.pt (n := ⟨19, 0, t.at_, t.tx, []⟩)
  generalize ns ++ [⟨19, 0, t.at_, t.tx, []⟩] = ns at hk hf
  cases hw : isS [40] ts with
  | false =>
    have hb := hk.within_no hw
    refine ⟨_, _, _, _, _, _, _, rfl, rfl, ?_⟩
    conv => whnf
    refine two_false hw ?_
    conv => whnf
    refine ⟨_, _, _, _, _, _, _, rfl, rfl, ⟨fun a ts' ns' mo' h => by simp [wantS, hw] at h, fun a er h => ?_⟩⟩
    simp only [wantS, hw, R.bad.injEq] at h
    obtain ⟨rfl, rfl⟩ := h
    ((conv => whnf); exact hp _ _ rfl hb)
  | true =>
    refine ⟨_, _, _, _, _, _, _, rfl, rfl, ?_⟩
    conv => whnf
    refine two_true hw ?_
    conv => whnf
    cases d with
    | zero =>
      have hb := hk.within_deep hw
      refine two_true (by simp [ho]) ?_
      conv => whnf
      refine ⟨_, _, _, _, _, _, _, rfl, rfl, ?_⟩
      ((conv => whnf); exact hp _ _ rfl hb)
    | succ d =>
    refine two_false (by simp [ho]; omega) ?_
    conv => whnf
    refine ⟨_, _, _, _, _, _, _, rfl, rfl, ⟨fun a ts' ns' mo' h => ?_, fun a er h => by simp [wantS, hw] at h⟩⟩
    simp only [wantS, hw, dropS, R.ok.injEq, PS.mk.injEq] at h
    obtain ⟨-, rfl, rfl, rfl⟩ := h
    have hd2 : d < 1000 := by have := hf.1; omega
    have hk := hk.within hw (by simp)
    rw [← in_mo ho hd2] at hk
    have hf := hf.opn hw
    conv => whnf
    refine ⟨_, _, _, _, _, _, _, rfl, rfl, ?_⟩
    conv => whnf
    refine two_intro (fun h2 => ?_) (fun h2 => ?_)
    · have h2 : isS [41] ts.tail = true := h2
      simp only [listS, h2, bindO] at hk
      conv => whnf
      refine ⟨_, _, _, _, _, _, _, rfl, rfl, hk.step (want_le _ _ _) (fun t ts ns mo hl hk => ?_) (fun a er hb => by ((conv => whnf); exact hp _ _ rfl hb))⟩
      have hf := hf.st hl
      conv => whnf
      refine ⟨[_], _, _, _, _, _, _, _, _, _, _, _, rfl, rfl, PutK.slr hf.sz rfl rfl rfl (allLt_ok ⟨trivial, rfl⟩) ?_⟩
      conv => whnf
      rw [out_op ho hd2]
      exact hr _ _ _ _ _ _ rfl rfl hk
    · have h2 : isS [41] ts.tail = false := h2
      simp only [listS, h2, oneS, bindA, bindO] at hk
      conv => whnf
      refine ⟨d, _, _, _, _, _, _, rfl, rfl, in_op ho hd2, hf.fine, hk.step (ex_le _ _ _) (fun x ts ns mo hl hk => ?_) (fun a er hb => by ((conv => whnf); exact hp _ _ rfl hb))⟩
      have hf := hf.st hl
      conv => whnf
      refine ⟨by conv => whnf, ?_⟩
      conv => whnf
      refine ⟨by conv => whnf, ?_⟩
      conv => whnf
      refine ⟨⟨rfl, rfl, rfl, allLt_ok ⟨trivial, rfl⟩⟩, ?_⟩
      conv => whnf
      refine ⟨⟨rfl, rfl, rfl, rfl, by decide, by decide⟩, ?_⟩
      conv => whnf
      refine loop_cut (ι := LC) 7 (fun i => ⟨[(0, pp), (1, .fn 259 [] [.ptr 6 0 1 0 0, .ptr 2 0 1 0 0])],
          encP e i.ts i.ns (IntKind.i64.wrap (op + 1)) i.mo ++ [.box 101 [pp], .box 61 [.p (.int .i64 kd), .p (.int .i64 0), .p (.int .i64 at_), .p (.str tx), .p .nils], .box 131 [.p (.int .i64 t.k.code), .p (.int .i64 t.n), .p (.int .i64 t.at_), .p (.str t.tx)], kidA i.l, .box 40 [.slr 5 0 0 i.l.length]]⟩)
        (fun i => i.ts.length ≤ i.n ∧ i.n ≤ 900000 ∧ i.l.length + i.ts.length ≤ 900000 ∧ Fin d 3 i.ts i.ns ∧ AK ((commaL (oneS (inS e (d + 1))) i.n i.l ⟨i.ts, i.ns, i.mo⟩).bind fun l s => (wantS e [41] s).bind fun _ s => putS ⟨13, 0, at_, tx, l⟩ s)
          (fun a s => k (.ret (intV a)) (encP e s.ts s.ns op s.mo ++ X)) (fun a er => k (.pan (wrongV a er)) (deads 2 ++ X)))
        (fun i => i.n) ⟨ts, ns, mo, [_, _], ts.length⟩ rfl rfl ⟨AV.le_refl _, AV.le_refl _, trivial⟩ ⟨rfl, fun _ _ => rfl, rfl, rfl, rfl, allLt_ok ⟨⟨trivial, rfl⟩, rfl⟩, rfl, trivial⟩ ⟨ABlk.le_refl _, ABlk.le_refl _, ABlk.le_refl _, ABlk.le_refl _, ABlk.le_refl _, ABlk.arr_eq rfl (allLt_ok ⟨⟨trivial, rfl⟩, rfl⟩), ABlk.le_refl _, trivial⟩
        ⟨Nat.le_refl _, ?_, ?_, hf.lo (by omega), hk⟩ ?_
      · have := hf.s; show ts.length ≤ 900000; omega
      · have := hf.s; show 2 + ts.length ≤ 900000; omega
      clear hk hf hl
      rintro Y hle ⟨ts, ns, mo, l, n⟩ ⟨hn, hn2, hln, hf, hk⟩ ih
      simp only at hn hn2 hln hf hk
      conv => whnf
      refine ⟨_, _, _, _, _, _, _, rfl, rfl, ⟨fun h => ?_, fun h => ?_⟩⟩
      · cases n with
        | zero => have := isS_pos h; simp only at this; omega
        | succ n =>
        have h : isS [44] ts = true := h
        simp only [commaL, h, oneS, bindA, bindO, dropS] at hk
        conv => whnf
        refine ⟨d, _, _, _, _, _, _, rfl, rfl, in_op ho hd2, (hf.sk h).fine, hk.step (ex_le _ _ _) (fun x ts2 ns2 mo2 hl hk => ?_) (fun a er hb => by ((conv => whnf); exact hp _ _ rfl hb))⟩
        have hf := (hf.sk h).st hl
        have hpos := isS_pos h
        conv => whnf
        refine ⟨by conv => whnf, ?_⟩
        conv => whnf
        refine ⟨by conv => whnf, ?_⟩
        conv => whnf
        refine ⟨⟨rfl, rfl, rfl, allLt_ok ⟨trivial, rfl⟩⟩, ?_⟩
        conv => whnf
        refine ⟨⟨rfl, rfl, rfl, rfl, ?_, ?_⟩, ?_⟩
        · show (l.length + 1) * 8 ≤ 140737488355328
          omega
        · show l.length + 1 ≤ 9223372036854775807
          omega
        conv => whnf
        have hl2 := hl.2
        simp only [List.length_tail] at hl2
        refine hle _ _ (Le.cutEnv 7 rfl rfl ⟨rfl, fun _ _ => rfl, rfl, rfl, rfl, ?_, rfl, trivial⟩ ?_ ?_) (ih ⟨ts2, ns2, mo2, l ++ [x], n⟩ (by simp only; omega) ⟨?_, ?_, ?_, hf.lo (by omega), hk⟩)
        · exact kid_cl l x _ 7 rfl
        · exact ⟨AV.le_refl _, AV.le_refl _, trivial⟩
        · exact ⟨ABlk.le_refl _, ABlk.le_refl _, ABlk.le_refl _, ABlk.le_refl _, ABlk.le_refl _, kidA_snoc l x _ rfl, ABlk.le_of_eq (by simp), trivial⟩
        · simp only; omega
        · simp only; omega
        · simp only [List.length_append, List.length_cons, List.length_nil]; omega
      · have h : isS [44] ts = false := h
        have hk : AK ((wantS e [41] ⟨ts, ns, mo⟩).bind fun _ s => putS ⟨13, 0, at_, tx, l⟩ s) (fun a s => k (.ret (intV a)) (encP e s.ts s.ns op s.mo ++ X)) (fun a er => k (.pan (wrongV a er)) (deads 2 ++ X)) := by
          cases n with
          | zero => exact hk
          | succ n => simp only [commaL, h, bindO] at hk; exact hk
        conv => whnf
        refine ⟨_, _, _, _, _, _, _, rfl, rfl, hk.step (want_le _ _ _) (fun _ ts ns mo hl hk => ?_) (fun a er hb => by ((conv => whnf); exact hp _ _ rfl hb))⟩
        have hf := hf.st hl
        conv => whnf
        refine ⟨l, _, _, _, _, _, _, _, _, _, _, _, rfl, rfl, PutK.slr hf.sz rfl rfl rfl (fun _ _ => rfl) ?_⟩
        conv => whnf
        rw [out_op ho hd2]
        exact hr _ _ _ _ _ _ rfl rfl hk
end Go.Proofs.YtojjkleplnijaaaGreatDoor

namespace Go.Proofs.YtojjkleplnijaaaGreatDoor
open Go.AE Go.Ru
set_option maxRecDepth 100000
def g9 : AG := gput 246 cCall g8
theorem g9_ok : GOk Tryz.prog g9 := gput_ok call_ok2 g8_ok
def cNamed : AC := fun args K k => ∃ d : Nat, ∃ e ts ns mo op X, args = [pp] ∧ K = encP e ts ns op mo ++ X ∧ op = 40 - (d : Int) ∧ Fine d ts ns ∧
  After e (namedS e d ⟨ts, ns, mo⟩) intV op X k
theorem named_ok : COk 247 cNamed := by
  rintro args K k ⟨d, e, ts, ns, mo, op, X, rfl, rfl, ho, hf, hk⟩
  refine frameP g9_ok 19 rfl fun Q hr hp => ?_
  have hk := hk.ak
  have hf := hf.fin
  have hd := hf.d
  unfold namedS at hk
  conv => whnf
  refine ⟨_, _, _, _, _, _, rfl, rfl, hk.step (ident_le _ _) (fun t ts ns mo hl hk => ?_) (fun a er hb => by ((conv => whnf); exact hp _ _ rfl hb))⟩
  have hf := hf.st hl
  conv => whnf
  refine ⟨_, _, _, _, _, _, _, rfl, rfl, ?_⟩
  conv => whnf
  refine two_intro (fun h => ?_) (fun h => ?_)
  · have h : isS [91] ts = true := h
    simp only [h] at hk
    conv => whnf
    refine ⟨d, _, _, _, _, _, _, rfl, rfl, ho, by omega, hf.fine, hk.step (index_le _ _ _) (fun x ts ns mo hl hk => ?_) (fun a er hb => by ((conv => whnf); exact hp _ _ rfl hb))⟩
    have hf := hf.st hl
    conv => whnf
    refine ⟨_, _, _, _, _, _, _, rfl, rfl, hk.step (want_le _ _ _) (fun _ ts ns mo hl hk => ?_) (fun a er hb => by ((conv => whnf); exact hp _ _ rfl hb))⟩
    have hf := hf.st hl
    conv => whnf
    refine ⟨d, _, _, _, _, _, _, rfl, rfl, ho, hf.fine, hk.step (ex_le _ _ _) (fun y ts ns mo hl hk => ?_) (fun a er hb => by ((conv => whnf); exact hp _ _ rfl hb))⟩
    have hf := hf.st hl
    conv => whnf
    refine ⟨[x, y], _, _, _, _, _, _, _, _, _, _, _, rfl, rfl, PutK.slr hf.sz rfl rfl rfl (allLt_ok ⟨⟨trivial, rfl⟩, rfl⟩) ?_⟩
    conv => whnf
    exact hr _ _ _ _ _ _ rfl rfl hk
  · have h : isS [91] ts = false := h
    simp only [h] at hk
    conv => whnf
    refine ⟨_, _, _, _, _, _, _, rfl, rfl, hk.step (want_le _ _ _) (fun _ ts ns mo hl hk => ?_) (fun a er hb => by ((conv => whnf); exact hp _ _ rfl hb))⟩
    have hf := hf.st hl
    conv => whnf
    refine ⟨_, _, _, _, _, _, _, rfl, rfl, ⟨fun h => ?_, fun h => ?_⟩⟩
    · have h : isS [105, 110] ts = true := h
      simp only [h, dropS] at hk
      conv => whnf
      refine ⟨d, _, _, _, _, _, _, rfl, rfl, (hf.sk h).fine, hk.step (chan_le _ _) (fun x ts2 ns2 mo2 hl hk => ?_) (fun a er hb => by ((conv => whnf); exact hp _ _ rfl hb))⟩
      have hf := (hf.sk h).st hl
      conv => whnf
      refine ⟨[x], _, _, _, _, _, _, _, _, _, _, _, rfl, rfl, PutK.slr hf.sz rfl rfl rfl (allLt_ok ⟨trivial, rfl⟩) ?_⟩
      conv => whnf
      exact hr _ _ _ _ _ _ rfl rfl hk
    have h : isS [105, 110] ts = false := h
    simp only [h] at hk
    conv => whnf
    refine ⟨_, _, _, _, _, _, _, rfl, rfl, ⟨fun h => ?_, fun h => ?_⟩⟩
    · have h : isS [99, 97, 108, 108] ts = true := h
      simp only [h, dropS] at hk
      conv => whnf
      refine ⟨d, _, _, _, _, _, _, _, _, _, rfl, rfl, ho, (hf.sk h).fine, hk.last (fun x ts2 ns2 mo2 hk => ?_) (fun a er hb => by ((conv => whnf); exact hp _ _ rfl hb))⟩
      conv => whnf
      exact hr _ _ _ _ _ _ rfl rfl hk
    have h : isS [99, 97, 108, 108] ts = false := h
    simp only [h] at hk
    conv => whnf
    refine ⟨_, _, _, _, _, _, _, rfl, rfl, ⟨fun h => ?_, fun h => ?_⟩⟩
    · have h : isS [110, 101, 119] ts = true := h
      simp only [h, dropS] at hk
      conv => whnf
      refine ⟨d, _, _, _, _, _, _, rfl, rfl, ho, (hf.sk h).fine, hk.step (ex_le _ _ _) (fun x ts2 ns2 mo2 hl hk => ?_) (fun a er hb => by ((conv => whnf); exact hp _ _ rfl hb))⟩
      have hf := (hf.sk h).st hl
      conv => whnf
      refine ⟨[x], _, _, _, _, _, _, _, _, _, _, _, rfl, rfl, PutK.slr hf.sz rfl rfl rfl (allLt_ok ⟨trivial, rfl⟩) ?_⟩
      conv => whnf
      exact hr _ _ _ _ _ _ rfl rfl hk
    have h : isS [110, 101, 119] ts = false := h
    simp only [h] at hk
    conv => whnf
    refine ⟨d, _, _, _, _, _, _, rfl, rfl, ho, hf.fine, hk.step (ex_le _ _ _) (fun x ts2 ns2 mo2 hl hk => ?_) (fun a er hb => by ((conv => whnf); exact hp _ _ rfl hb))⟩
    have hf := hf.st hl
    conv => whnf
    refine ⟨[x], _, _, _, _, _, _, _, _, _, _, _, rfl, rfl, PutK.slr hf.sz rfl rfl rfl (allLt_ok ⟨trivial, rfl⟩) ?_⟩
    conv => whnf
    exact hr _ _ _ _ _ _ rfl rfl hk
def g10 : AG := gput 247 cNamed g9
theorem g10_ok : GOk Tryz.prog g10 := gput_ok named_ok g9_ok
def cPlain : AC := fun args K k => ∃ d : Nat, ∃ e ts ns mo op X, args = [pp] ∧ K = encP e ts ns op mo ++ X ∧ op = 40 - (d : Int) ∧ Fine d ts ns ∧
  After e (plainS e d ⟨ts, ns, mo⟩) intV op X k
def hdK : List Tok → Int
  | [] => 5
  | t :: _ => t.k.code
def hdN : List Tok → Int
  | [] => 0
  | t :: _ => t.n
def hdT : List Tok → Bs
  | [] => []
  | t :: _ => t.tx
theorem enc_hd (e : Int) (ts : List Tok) : encs e ts (Int.toNat 0) = [.int .i64 (hdK ts), .int .i64 (hdN ts), .int .i64 (hd e ts), .str (hdT ts)] := by cases ts <;> rfl
theorem plain_ok : COk 231 cPlain := by
  rintro args K k ⟨d, e, ts, ns, mo, op, X, rfl, rfl, ho, hf, hk⟩
  refine frameP g10_ok 19 rfl fun Q hr hp => ?_
  have hk := hk.ak
  have hf := hf.fin
  have hd := hf.d
  unfold plainS at hk
  simp only at hk
  conv => whnf
  refine ⟨by simp <;> omega, ?_⟩
  conv => whnf
  rw [enc_hd]
  conv => whnf
  refine ⟨_, _, _, _, _, _, _, rfl, rfl, ⟨fun h => ?_, fun h => ?_⟩⟩
  · have h : isS [111, 117, 116] ts = true := h
    simp only [h, dropS] at hk
    conv => whnf
    refine ⟨d, _, _, _, _, _, _, rfl, rfl, (hf.sk h).fine, hk.step (chan_le _ _) (fun c ts2 ns2 mo2 hl hk => ?_) (fun a er hb => by ((conv => whnf); exact hp _ _ rfl hb))⟩
    have hf := (hf.sk h).st hl
    conv => whnf
    refine ⟨d, _, _, _, _, _, _, rfl, rfl, ho, hf.fine, hk.step (ex_le _ _ _) (fun x ts3 ns3 mo3 hl hk => ?_) (fun a er hb => by ((conv => whnf); exact hp _ _ rfl hb))⟩
    have hf := hf.st hl
    conv => whnf
    refine ⟨[c, x], _, _, _, _, _, _, _, _, _, _, _, rfl, rfl, PutK.slr hf.sz rfl rfl rfl (allLt_ok ⟨⟨trivial, rfl⟩, rfl⟩) ?_⟩
    conv => whnf
    exact hr _ _ _ _ _ _ rfl rfl hk
  have h : isS [111, 117, 116] ts = false := h
  simp only [h] at hk
  conv => whnf
  refine ⟨_, _, _, _, _, _, _, rfl, rfl, ⟨fun h => ?_, fun h => ?_⟩⟩
  · have h : isS [99, 97, 108, 108] ts = true := h
    simp only [h, dropS] at hk
    conv => whnf
    refine ⟨d, _, _, _, _, _, _, _, _, _, rfl, rfl, ho, (hf.sk h).fine, hk.last (fun x ts2 ns2 mo2 hk => ?_) (fun a er hb => by ((conv => whnf); exact hp _ _ rfl hb))⟩
    conv => whnf
    exact hr _ _ _ _ _ _ rfl rfl hk
  have h : isS [99, 97, 108, 108] ts = false := h
  simp only [h] at hk
  conv => whnf
  refine ⟨_, _, _, _, _, _, _, rfl, rfl, ⟨fun h => ?_, fun h => ?_⟩⟩
  · have h : isS [116, 104, 114, 111, 119] ts = true := h
    simp only [h, dropS] at hk
    conv => whnf
    refine ⟨d, _, _, _, _, _, _, rfl, rfl, ho, (hf.sk h).fine, hk.step (ex_le _ _ _) (fun x ts2 ns2 mo2 hl hk => ?_) (fun a er hb => by ((conv => whnf); exact hp _ _ rfl hb))⟩
    have hf := (hf.sk h).st hl
    conv => whnf
    refine ⟨[x], _, _, _, _, _, _, _, _, _, _, _, rfl, rfl, PutK.slr hf.sz rfl rfl rfl (allLt_ok ⟨trivial, rfl⟩) ?_⟩
    conv => whnf
    exact hr _ _ _ _ _ _ rfl rfl hk
  have h : isS [116, 104, 114, 111, 119] ts = false := h
  simp only [h] at hk
  conv => whnf
  refine ⟨_, _, _, _, _, _, _, rfl, rfl, ⟨fun h => ?_, fun h => ?_⟩⟩
  · have h : isS [114, 101, 116, 117, 114, 110] ts = true := h
    simp only [h, dropS] at hk
    have hf := hf.sk h
    conv => whnf
    refine ⟨_, _, _, _, _, _, _, rfl, rfl, ?_⟩
    conv => whnf
    refine two_intro (fun h => ?_) (fun h => ?_)
    · have h : isS [59] ts.tail = true := h
      simp only [h] at hk
      conv => whnf
      refine ⟨[], _, _, _, _, _, _, _, _, _, _, _, rfl, rfl, PutK.nils hf.sz ?_⟩
      conv => whnf
      exact hr _ _ _ _ _ _ rfl rfl hk
    · have h : isS [59] ts.tail = false := h
      simp only [h] at hk
      conv => whnf
      refine ⟨d, _, _, _, _, _, _, rfl, rfl, ho, hf.fine, hk.step (ex_le _ _ _) (fun x ts2 ns2 mo2 hl hk => ?_) (fun a er hb => by ((conv => whnf); exact hp _ _ rfl hb))⟩
      have hf := hf.st hl
      conv => whnf
      refine ⟨[x], _, _, _, _, _, _, _, _, _, _, _, rfl, rfl, PutK.slr hf.sz rfl rfl rfl (allLt_ok ⟨trivial, rfl⟩) ?_⟩
      conv => whnf
      exact hr _ _ _ _ _ _ rfl rfl hk
  have h : isS [114, 101, 116, 117, 114, 110] ts = false := h
  simp only [h] at hk
  conv => whnf
  refine ⟨d, _, _, _, _, _, _, rfl, rfl, ho, hf.fine, hk.last (fun x ts2 ns2 mo2 hk => ?_) (fun a er hb => by ((conv => whnf); exact hp _ _ rfl hb))⟩
  conv => whnf
  exact hr _ _ _ _ _ _ rfl rfl hk
end Go.Proofs.YtojjkleplnijaaaGreatDoor

namespace Go.Proofs.YtojjkleplnijaaaGreatDoor
open Go.AE Go.Ru
set_option maxRecDepth 100000
def g11 : AG := gput 231 cPlain g10
theorem g11_ok : GOk Tryz.prog g11 := gput_ok plain_ok g10_ok
def cStmt (D : Nat) : AC := fun args K k => ∃ d : Nat, ∃ e ts ns mo op X, args = [pp] ∧ K = encP e ts ns op mo ++ X ∧ op = 40 - (d : Int) ∧ d < D ∧ Fine d ts ns ∧ After e (stmtS e d ⟨ts, ns, mo⟩) intV op X k
def cBlock (D : Nat) : AC := fun args K k => ∃ d : Nat, ∃ e ts ns mo op X, args = [pp] ∧ K = encP e ts ns op mo ++ X ∧ op = 40 - (d : Int) ∧ d ≤ D ∧ Fine d ts ns ∧ After e (blockB e d (inStmtS e d) ⟨ts, ns, mo⟩) intV op X k
theorem block_ok {D : Nat} (hS : COk 216 (cStmt D)) : COk 230 (cBlock D) := by
  rintro args K k ⟨d, e, ts, ns, mo, op, X, rfl, rfl, ho, hd, hf, hk⟩
  refine frameP (G := gput 216 (cStmt D) g11) (gput_ok hS g11_ok) 19 rfl fun Q hr hp => ?_
  have hk := hk.ak
  have hf := hf.fin
  unfold blockB at hk
  simp only at hk
  conv => whnf
  refine ⟨by simp <;> omega, ?_⟩
  conv => whnf
  rw [enc_hd]
  conv => whnf
  cases hw : isS [123] ts with
  | false =>
    have hb := hk.within_no hw
    refine ⟨_, _, _, _, _, _, _, rfl, rfl, ?_⟩
    conv => whnf
    refine two_false hw ?_
    conv => whnf
    refine ⟨_, _, _, _, _, _, _, rfl, rfl, ⟨fun a ts' ns' mo' h => by simp [wantS, hw] at h, fun a er h => ?_⟩⟩
    simp only [wantS, hw, R.bad.injEq] at h
    obtain ⟨rfl, rfl⟩ := h
    ((conv => whnf); exact hp _ _ rfl hb)
  | true =>
    refine ⟨_, _, _, _, _, _, _, rfl, rfl, ?_⟩
    conv => whnf
    refine two_true hw ?_
    conv => whnf
    cases d with
    | zero =>
      have hb := hk.within_deep hw
      refine two_true (by simp [ho]) ?_
      conv => whnf
      refine ⟨_, _, _, _, _, _, _, rfl, rfl, ?_⟩
      ((conv => whnf); exact hp _ _ rfl hb)
    | succ d =>
    refine two_false (by simp [ho]; omega) ?_
    conv => whnf
    refine ⟨_, _, _, _, _, _, _, rfl, rfl, ⟨fun a ts' ns' mo' h => ?_, fun a er h => by simp [wantS, hw] at h⟩⟩
    simp only [wantS, hw, dropS, R.ok.injEq, PS.mk.injEq] at h
    obtain ⟨-, rfl, rfl, rfl⟩ := h
    have hd2 : d < 1000 := by have := hf.1; omega
    have hk := hk.within hw (by simp)
    rw [← in_mo ho hd2] at hk
    have hf := hf.opn hw
    conv => whnf
    refine loop_nil (ι := LC) 3 1 (fun i => pvs (kidF [] i)) (fun i => ⟨[(1, .ptr 2 0 1 0 0), (3, .ptr 6 0 1 0 0)],
        encP e i.ts i.ns (IntKind.i64.wrap (op + 1)) i.mo ++ [.box 101 [pp], .box 4 [.p (.bool false)], .box 61 [.p (.int .i64 6), .p (.int .i64 0), .p (.int .i64 (Ru.hd e ts)), .p (.str []), .p .nils], .box 40 [.p .nils], .box 40 [.slr 7 0 0 i.l.length], kidA i.l]⟩)
      (fun i => i.ts.length < i.n ∧ i.n ≤ 900001 ∧ i.l.length + i.ts.length ≤ 900000 ∧ Fin d 3 i.ts i.ns ∧ AK ((stmtsL (stmtS e d) i.n i.l ⟨i.ts, i.ns, i.mo⟩).bind fun l s => (wantS e [125] s).bind fun _ s => putS ⟨6, 0, Ru.hd e ts, [], l⟩ s)
        (fun a s => k (.ret (intV a)) (encP e s.ts s.ns op s.mo ++ X)) (fun a er => k (.pan (wrongV a er)) (deads 2 ++ X)))
      (fun i => i.n) ⟨ts.tail, ns, (if IntKind.i64.wrap (op + 1) > mo then IntKind.i64.wrap (op + 1) else mo), [], ts.tail.length + 1⟩
      (encP e ts.tail ns (IntKind.i64.wrap (op + 1)) (if IntKind.i64.wrap (op + 1) > mo then IntKind.i64.wrap (op + 1) else mo) ++ [.box 101 [pp], .box 4 [.p (.bool false)], .box 61 [.p (.int .i64 6), .p (.int .i64 0), .p (.int .i64 (Ru.hd e ts)), .p (.str []), .p .nils], .box 40 [.p .nils], .box 40 [.slr 7 0 0 0]])
      rfl ⟨.inl (AV.le_refl _), .inl (AV.le_refl _), trivial⟩
      ?_ rfl
      ⟨Nat.lt_succ_self _, ?_, ?_, hf.lo (by omega), hk⟩ ?_
    · exact ⟨.inl (ABlk.le_refl _), .inl (ABlk.le_refl _), .inl (ABlk.le_refl _), .inl (ABlk.le_refl _), .inl (ABlk.le_refl _), .inl (ABlk.le_refl _), .inr ⟨_, _, _, rfl, rfl, .inr ⟨rfl, rfl⟩, trivial⟩, trivial⟩
    · have := hf.s; show ts.tail.length + 1 ≤ 900001; omega
    · have := hf.s; show 0 + ts.tail.length ≤ 900000; omega
    clear hk hf
    rintro Y hle ⟨ts, ns, mo, l, n⟩ ⟨hn, hn2, hln, hf, hk⟩ ih
    simp only at hn hn2 hln hf hk
    cases n with
    | zero => omega
    | succ n =>
    conv => whnf
    refine ⟨_, _, _, _, _, _, _, rfl, rfl, ?_⟩
    conv => whnf
    refine two_intro (fun h => ?_) (fun h => ?_)
    · have h : isS [125] ts = false := nt h
      simp only [stmtsL, h, bindA] at hk
      conv => whnf
      refine ⟨d, _, _, _, _, _, _, rfl, rfl, in_op ho hd2, by omega, hf.fine, hk.step (stmt_le _ _ _) (fun x ts2 ns2 mo2 hl hk => ?_) (fun a er hb => by ((conv => whnf); exact hp _ _ rfl hb))⟩
      have hf := hf.st hl
      conv => whnf
      refine ⟨by conv => whnf, ?_⟩
      conv => whnf
      refine ⟨by conv => whnf, ?_⟩
      conv => whnf
      refine ⟨⟨rfl, rfl, rfl, allLt_ok ⟨trivial, rfl⟩⟩, ?_⟩
      conv => whnf
      refine ⟨⟨rfl, rfl, rfl, rfl, ?_, ?_⟩, ?_⟩
      · show (l.length + 1) * 8 ≤ 140737488355328
        omega
      · show l.length + 1 ≤ 9223372036854775807
        omega
      conv => whnf
      have hl2 := hl.2
      simp only at hl2
      refine hle _ _ (Le.cutEnv 8 rfl rfl ⟨rfl, fun _ _ => rfl, rfl, rfl, rfl, rfl, rfl, ?_, trivial⟩ ?_ ?_) (ih ⟨ts2, ns2, mo2, l ++ [x], n⟩ (by simp only; omega) ⟨?_, ?_, ?_, hf.lo (by omega), hk⟩)
      · exact kid_cl l x _ 8 rfl
      · exact ⟨AV.le_refl _, AV.le_refl _, trivial⟩
      · exact ⟨ABlk.le_refl _, ABlk.le_refl _, ABlk.le_refl _, ABlk.le_refl _, ABlk.le_refl _, ABlk.le_refl _, ABlk.le_of_eq (by simp), kidA_snoc l x _ rfl, trivial⟩
      · simp only; omega
      · simp only; omega
      · simp only [List.length_append, List.length_cons, List.length_nil]; omega
    · have h : isS [125] ts = true := nf h
      simp only [stmtsL, h, bindO] at hk
      conv => whnf
      refine ⟨_, _, _, _, _, _, _, rfl, rfl, hk.step (want_le _ _ _) (fun _ ts ns mo hl hk => ?_) (fun a er hb => by ((conv => whnf); exact hp _ _ rfl hb))⟩
      have hf := hf.st hl
      conv => whnf
      refine ⟨l, _, _, _, _, _, _, _, _, _, _, _, rfl, rfl, PutK.slr hf.sz rfl rfl rfl (fun _ _ => rfl) ?_⟩
      conv => whnf
      refine ⟨by conv => whnf, ?_⟩
      conv => whnf
      rw [out_op ho hd2]
      exact hr _ _ _ _ _ _ rfl rfl hk
end Go.Proofs.YtojjkleplnijaaaGreatDoor

namespace Go.Proofs.YtojjkleplnijaaaGreatDoor
open Go.AE Go.Ru
set_option maxRecDepth 100000
theorem stmtS_eq (e : Int) (d : Nat) (s : PS) : stmtS e d s = stmtB e d (inStmtS e d) s := by cases d <;> rfl
theorem blk_le (e : Int) (d : Nat) : Dm 3 1 (blockB e d (inStmtS e d)) := block_le e d ((inStmt_le e d).weak (by omega) (by omega))
theorem stmt_step {D : Nat} (hB : COk 230 (cBlock D)) : COk 216 (cStmt (D + 1)) := by
  rintro args K k ⟨d, e, ts, ns, mo, op, X, rfl, rfl, ho, hd, hf, hk⟩
  refine frameP (G := gput 230 (cBlock D) g11) (gput_ok hB g11_ok) 19 rfl fun Q hr hp => ?_
  rw [stmtS_eq] at hk
  have hk := hk.ak
  have hf := hf.fin
  unfold stmtB at hk
  simp only at hk
  conv => whnf
  refine ⟨by simp <;> omega, ?_⟩
  conv => whnf
  rw [enc_hd]
  conv => whnf
  refine ⟨_, _, _, _, _, _, _, rfl, rfl, ⟨fun h => ?_, fun h => ?_⟩⟩
  · have h : isS [105, 102] ts = true := h
    simp only [h, dropS] at hk
    conv => whnf
    refine ⟨d, _, _, _, _, _, _, rfl, rfl, ho, (hf.sk h).fine, hk.step (ex_le _ _ _) (fun x ts2 ns2 mo2 hl hk => ?_) (fun a er hb => by ((conv => whnf); exact hp _ _ rfl hb))⟩
    have hf := (hf.sk h).st hl
    conv => whnf
    refine ⟨d, _, _, _, _, _, _, rfl, rfl, ho, by omega, hf.fine, hk.step (blk_le _ _ _) (fun a ts3 ns3 mo3 hl hk => ?_) (fun a er hb => by ((conv => whnf); exact hp _ _ rfl hb))⟩
    have hf := hf.st hl
    conv => whnf
    refine ⟨_, _, _, _, _, _, _, rfl, rfl, ⟨fun h => ?_, fun h => ?_⟩⟩
    · have h : isS [101, 108, 115, 101] ts3 = true := h
      simp only [h] at hk
      conv => whnf
      refine ⟨d, _, _, _, _, _, _, rfl, rfl, ho, by omega, (hf.sk h).fine, hk.step (blk_le _ _ _) (fun b ts4 ns4 mo4 hl hk => ?_) (fun a er hb => by ((conv => whnf); exact hp _ _ rfl hb))⟩
      have hf := (hf.sk h).st hl
      conv => whnf
      refine ⟨[x, a, b], _, _, _, _, _, _, _, _, _, _, _, rfl, rfl, PutK.slr hf.sz rfl rfl rfl (allLt_ok ⟨⟨⟨trivial, rfl⟩, rfl⟩, rfl⟩) ?_⟩
      conv => whnf
      exact hr _ _ _ _ _ _ rfl rfl hk
    · have h : isS [101, 108, 115, 101] ts3 = false := h
      simp only [h] at hk
      conv => whnf
      refine ⟨[], _, _, _, _, _, _, _, _, _, _, _, rfl, rfl, PutK.nils hf.sz ?_⟩
      have hf := hf.pt (n := ⟨6, 0, Ru.hd e ts, [], []⟩)
      conv => whnf
      refine ⟨[x, a, ns3.length], _, _, _, _, _, _, _, _, _, _, _, rfl, rfl, PutK.slr hf.sz rfl rfl rfl (allLt_ok ⟨⟨⟨trivial, rfl⟩, rfl⟩, rfl⟩) ?_⟩
      conv => whnf
      exact hr _ _ _ _ _ _ rfl rfl hk
  have h : isS [105, 102] ts = false := h
  simp only [h] at hk
  conv => whnf
  refine ⟨_, _, _, _, _, _, _, rfl, rfl, ⟨fun h => ?_, fun h => ?_⟩⟩
  · have h : isS [119, 104, 105, 108, 101] ts = true := h
    simp only [h, dropS] at hk
    conv => whnf
    refine ⟨d, _, _, _, _, _, _, rfl, rfl, ho, (hf.sk h).fine, hk.step (ex_le _ _ _) (fun x ts2 ns2 mo2 hl hk => ?_) (fun a er hb => by ((conv => whnf); exact hp _ _ rfl hb))⟩
    have hf := (hf.sk h).st hl
    conv => whnf
    refine ⟨d, _, _, _, _, _, _, rfl, rfl, ho, by omega, hf.fine, hk.step (blk_le _ _ _) (fun a ts3 ns3 mo3 hl hk => ?_) (fun a er hb => by ((conv => whnf); exact hp _ _ rfl hb))⟩
    have hf := hf.st hl
    conv => whnf
    refine ⟨[x, a], _, _, _, _, _, _, _, _, _, _, _, rfl, rfl, PutK.slr hf.sz rfl rfl rfl (allLt_ok ⟨⟨trivial, rfl⟩, rfl⟩) ?_⟩
    conv => whnf
    exact hr _ _ _ _ _ _ rfl rfl hk
  have h : isS [119, 104, 105, 108, 101] ts = false := h
  simp only [h] at hk
  conv => whnf
  refine ⟨_, _, _, _, _, _, _, rfl, rfl, ⟨fun h => ?_, fun h => ?_⟩⟩
  · have h : isS [116, 114, 121] ts = true := h
    simp only [h, dropS] at hk
    conv => whnf
    refine ⟨d, _, _, _, _, _, _, rfl, rfl, ho, by omega, (hf.sk h).fine, hk.step (blk_le _ _ _) (fun a ts2 ns2 mo2 hl hk => ?_) (fun a er hb => by ((conv => whnf); exact hp _ _ rfl hb))⟩
    have hf := (hf.sk h).st hl
    conv => whnf
    refine ⟨_, _, _, _, _, _, _, rfl, rfl, hk.step (want_le _ _ _) (fun _ ts3 ns3 mo3 hl hk => ?_) (fun a er hb => by ((conv => whnf); exact hp _ _ rfl hb))⟩
    have hf := hf.st hl
    conv => whnf
    refine ⟨_, _, _, _, _, _, rfl, rfl, hk.step (ident_le _ _) (fun t ts4 ns4 mo4 hl hk => ?_) (fun a er hb => by ((conv => whnf); exact hp _ _ rfl hb))⟩
    have hf := hf.st hl
    conv => whnf
    refine ⟨d, _, _, _, _, _, _, rfl, rfl, ho, by omega, hf.fine, hk.step (blk_le _ _ _) (fun b ts5 ns5 mo5 hl hk => ?_) (fun a er hb => by ((conv => whnf); exact hp _ _ rfl hb))⟩
    have hf := hf.st hl
    conv => whnf
    refine ⟨[a, b], _, _, _, _, _, _, _, _, _, _, _, rfl, rfl, PutK.slr hf.sz rfl rfl rfl (allLt_ok ⟨⟨trivial, rfl⟩, rfl⟩) ?_⟩
    conv => whnf
    exact hr _ _ _ _ _ _ rfl rfl hk
  have h : isS [116, 114, 121] ts = false := h
  simp only [h] at hk
  conv => whnf
  refine ⟨d, _, _, _, _, _, _, rfl, rfl, ho, hf.fine, hk.step (plain_le _ _ _) (fun x ts2 ns2 mo2 hl hk => ?_) (fun a er hb => by ((conv => whnf); exact hp _ _ rfl hb))⟩
  have hf := hf.st hl
  conv => whnf
  refine ⟨_, _, _, _, _, _, _, rfl, rfl, hk.step (want_le _ _ _) (fun _ ts3 ns3 mo3 hl hk => ?_) (fun a er hb => by ((conv => whnf); exact hp _ _ rfl hb))⟩
  conv => whnf
  exact hr _ _ _ _ _ _ rfl rfl hk
theorem stmt_ok (D : Nat) : COk 216 (cStmt D) := by
  induction D with
  | zero =>
    rintro args K k ⟨d, e, ts, ns, mo, op, X, -, -, -, h, -⟩
    omega
  | succ D ih => exact stmt_step (block_ok ih)
def cTyped : AC := fun args K k => ∃ d : Nat, ∃ e ts ns mo op kd at_ tx X, args = [pp, .agg [.p (.int .i64 kd), .p (.int .i64 0), .p (.int .i64 at_), .p (.str tx), .p .nils]] ∧ K = encP e ts ns op mo ++ X ∧ Fine d ts ns ∧
  After e (typedS e kd at_ tx ⟨ts, ns, mo⟩) intV op X k
theorem typed_ok : COk 183 cTyped := by
  rintro args K k ⟨d, e, ts, ns, mo, op, kd, at_, tx, X, rfl, rfl, hf, hk⟩
  refine frameP g7_ok 19 rfl fun Q hr hp => ?_
  have hk := hk.ak
  have hf := hf.fin
  unfold typedS at hk
  conv => whnf
  refine ⟨_, _, _, _, _, _, rfl, rfl, ?_⟩
  conv => whnf
  refine two_intro (fun h => ?_) (fun h => ?_)
  · have h : (typesS ts == 0) = true := h
    simp only [h] at hk
    have hb := hk
    conv => whnf
    refine ⟨_, _, _, _, _, _, _, rfl, rfl, ?_⟩
    ((conv => whnf); exact hp _ _ rfl hb)
  · have h : (typesS ts == 0) = false := h
    simp only [h] at hk
    obtain ⟨t, r, rfl⟩ : ∃ t r, ts = t :: r := by
      cases ts with
      | nil => simp [typesS, isS] at h
      | cons t r => exact ⟨t, r, rfl⟩
    conv => whnf
    refine ⟨_, _, _, _, _, _, _, rfl, rfl, ?_⟩
    conv => whnf
    refine ⟨[], _, _, _, _, _, _, _, _, _, _, _, rfl, rfl, PutK.nils hf.sz ?_⟩
    conv => whnf
    exact hr _ _ _ _ _ _ rfl rfl hk
end Go.Proofs.YtojjkleplnijaaaGreatDoor

namespace Go.Proofs.YtojjkleplnijaaaGreatDoor
open Go.AE Go.Ru
set_option maxRecDepth 100000
theorem frameW {G : AG} (hG : GOk Tryz.prog G) (n : Nat) {f : FuncId} {args : List AV} {e : Int} {ts : List Tok} {ns : List Nd} {op mo : Int} {X : List ABlk} {k : AO → List ABlk → Prop} (hcl : AV.cls 2 args = true)
    (h : ∀ Q : AO → List ABlk → Prop,
      (∀ v K' v' K2 ts' ns' op' mo', Wk1 2 v K' v' K2 → v'.cl 2 = true → takeN K2 2 = encP e ts' ns' op' mo' → k (.ret v') (encP e ts' ns' op' mo' ++ X) → Q (.ret v) K') →
      (∀ v K', v.cl 0 = true → k (.pan v) (deads 2 ++ X) → Q (.pan v) K') → acall1 T0 G n f args (encP e ts ns op mo) Q) :
    ACalls Tryz.prog f args (encP e ts ns op mo ++ X) k := by
  refine (ACalls.frame (K0 := encP e ts ns op mo) (k := fun ao K1 => k ao (K1 ++ X)) hcl (fun r _ => encP_cl e ts ns op mo r)
    (ACalls.post (k := fun ao K1 => ∃ v' K2, Wk1 2 ao.val K1 v' K2 ∧ frameK 2 (fun ao K1 => k ao (K1 ++ X)) (ao.with v') K2) (call_ok hG n f args _ _ (h _ ?_ ?_)) ?_)).mono ?_
  · intro v K' v' K2 ts' ns' op' mo' hw h1 h3 h4
    have hl : 2 ≤ K2.length := by
      have := congrArg List.length h3
      match K2, h3 with
      | [], h3 => simp [takeN, encP] at h3
      | [_], h3 => simp [takeN, encP] at h3
      | _ :: _ :: _, _ => simp
    refine ⟨v', K2, hw, h1, hl, fun r hr => ?_, ?_⟩
    · have := encP_cl e ts' ns' op' mo' r
      rw [← h3, hp_takeN, if_pos hr] at this; exact this
    · show k (.ret v') (takeN K2 2 ++ X)
      rw [h3]; exact h4
  · intro v K' h1 h2; exact ⟨v, K', Wk1.refl _ _ _, h1, h2⟩
  · rintro (v | v) K1 ⟨v', K2, h1, h2⟩
    · exact ⟨v', K2, h1, h2⟩
    · exact ⟨v', K2, h1, h2⟩
  · rintro ao K ⟨K1, rfl, h⟩; exact h
def g12 : AG := gput 216 (cStmt 41) (gput 183 cTyped g11)
theorem g12_ok : GOk Tryz.prog g12 := gput_ok (stmt_ok 41) (gput_ok typed_ok g11_ok)
def kidV (l : List Int) : AV := .p (.sl 1 l.length (kidF l))
def cVars : AC := fun args K k => ∃ d : Nat, ∃ e ts ns mo op kind X, args = [pp, .p (.int .i64 kind)] ∧ K = encP e ts ns op mo ++ X ∧ Fine d ts ns ∧
  After e (varsS e kind ⟨ts, ns, mo⟩) kidV op X k
theorem vars_ok : COk 131 cVars := by
  rintro args K k ⟨d, e, ts, ns, mo, op, kind, X, rfl, rfl, hf, hk⟩
  refine frameW g12_ok 19 rfl fun Q hr hp => ?_
  have hk := hk.ak
  have hf := hf.fin
  unfold varsS at hk
  conv => whnf
  refine loop_nil (ι := LC) 3 1 (fun i => pvs (kidF [] i)) (fun i => ⟨[(0, pp), (1, .p (.int .i64 kind)), (5, .slr 2 0 0 i.l.length)], encP e i.ts i.ns op i.mo ++ [kidA i.l]⟩)
      (fun i => i.ts.length ≤ i.n ∧ i.n ≤ 900001 ∧ i.l.length + i.ts.length ≤ 900000 ∧ Fin d 0 i.ts i.ns ∧ AK (varsL e kind i.n i.l ⟨i.ts, i.ns, i.mo⟩)
        (fun a s => k (.ret (kidV a)) (encP e s.ts s.ns op s.mo ++ X)) (fun a er => k (.pan (wrongV a er)) (deads 2 ++ X)))
      (fun i => i.n) ⟨ts, ns, mo, [], ts.length⟩ (encP e ts ns op mo)
      rfl ⟨.inl (AV.le_refl _), .inl (AV.le_refl _), .inr ⟨rfl, rfl⟩, trivial⟩ (nswK.refl _ _) rfl
      ⟨Nat.le_refl _, ?_, ?_, hf, hk⟩ ?_
  · have := hf.s; show ts.length ≤ 900001; omega
  · have := hf.s; show 0 + ts.length ≤ 900000; omega
  clear hk hf
  rintro Y hle ⟨ts, ns, mo, l, n⟩ ⟨hn, hn2, hln, hf, hk⟩ ih
  simp only at hn hn2 hln hf hk
  conv => whnf
  refine ⟨_, _, _, _, _, _, _, rfl, rfl, ?_⟩
  conv => whnf
  refine two_intro (fun h => ?_) (fun h => ?_)
  · have h : isS [118, 97, 114] ts = true := h
    cases n with
    | zero => have := isS_pos h; simp only at this; omega
    | succ n =>
    obtain ⟨t0, ts, rfl⟩ : ∃ t r, ts = t :: r := by
      cases ts with
      | nil => simp [isS] at h
      | cons t r => exact ⟨t, r, rfl⟩
    simp only [varsL, h, bindA, dropS] at hk
    conv => whnf
    refine ⟨_, _, _, _, _, _, _, rfl, rfl, ?_⟩
    conv => whnf
    have hf : Fin d 4 ts ns := ⟨hf.1, by have := hf.2; simp only [List.length_cons] at this; omega⟩
    refine ⟨_, _, _, _, _, _, rfl, rfl, hk.step (ident_le _ _) (fun t ts2 ns2 mo2 hl hk => ?_) (fun a er hb => by ((conv => whnf); exact hp _ _ rfl hb))⟩
    have hf := hf.st hl
    have hl1 := hl.2
    conv => whnf
    refine ⟨d, _, _, _, _, _, _, _, _, _, rfl, rfl, hf.fine, hk.step (typed_le _ _ _ _ _) (fun x ts3 ns3 mo3 hl hk => ?_) (fun a er hb => by ((conv => whnf); exact hp _ _ rfl hb))⟩
    have hf := hf.st hl
    have hl2 := hl.2
    conv => whnf
    refine ⟨⟨rfl, rfl, rfl, allLt_ok ⟨trivial, rfl⟩⟩, ?_⟩
    conv => whnf
    refine ⟨⟨rfl, rfl, rfl, rfl, ?_, ?_⟩, ?_⟩
    · show (l.length + 1) * 8 ≤ 140737488355328
      omega
    · show l.length + 1 ≤ 9223372036854775807
      omega
    conv => whnf
    refine ⟨_, _, _, _, _, _, _, rfl, rfl, hk.step (want_le _ _ _) (fun _ ts4 ns4 mo4 hl hk => ?_) (fun a er hb => by ((conv => whnf); exact hp _ _ rfl hb))⟩
    have hf := hf.st hl
    have hl3 := hl.2
    conv => whnf
    simp only [List.length_cons, List.tail_cons] at hl1 hl2 hl3 hn hln
    refine hle _ _ (Le.cutEnv 3 rfl rfl ⟨rfl, fun _ _ => rfl, ?_, trivial⟩ ?_ ?_) (ih ⟨ts4, ns4, mo4, l ++ [x], n⟩ (by simp only; omega) ⟨?_, ?_, ?_, hf.lo (by omega), hk⟩)
    · exact kid_cl l x _ 3 rfl
    · exact ⟨AV.le_refl _, AV.le_refl _, AV.le_of_eq (show AV.slr 2 0 0 (l.length + 1) = AV.slr 2 0 0 (l ++ [x]).length by simp), trivial⟩
    · exact ⟨ABlk.le_refl _, ABlk.le_refl _, kidA_snoc l x _ rfl, trivial⟩
    · simp only; omega
    · simp only; omega
    · simp only [List.length_append, List.length_cons, List.length_nil]; omega
  · have h : isS [118, 97, 114] ts = false := h
    have hk : k (.ret (kidV l)) (encP e ts ns op mo ++ X) := by
      cases n with
      | zero => exact hk
      | succ n => simp only [varsL, h] at hk; exact hk
    conv => whnf
    exact hr _ _ _ _ _ _ _ _ (Wk1.freeze (r := 2) rfl (kidF l) (fun _ _ => rfl)) rfl rfl hk
end Go.Proofs.YtojjkleplnijaaaGreatDoor

namespace Go.Proofs.YtojjkleplnijaaaGreatDoor
open Go.AE Go.Ru
set_option maxRecDepth 100000
def g13 : AG := gput 131 cVars g12
theorem g13_ok : GOk Tryz.prog g13 := gput_ok vars_ok g12_ok
def cBody : AC := fun args K k => ∃ d : Nat, ∃ e ts ns mo op X, args = [pp, .p (.bool true)] ∧ K = encP e ts ns op mo ++ X ∧ op = 40 - (d : Int) ∧ Fine d ts ns ∧
  After e (bodyS e d ⟨ts, ns, mo⟩) (fun a => .tup [kidV a.1, intV a.2]) op X k
theorem body_ok : COk 190 cBody := by
  rintro args K k ⟨d, e, ts, ns, mo, op, X, rfl, rfl, ho, hf, hk⟩
  refine frameP g13_ok 19 rfl fun Q hr hp => ?_
  have hk := hk.ak
  have hf := hf.fin
  unfold bodyS at hk
  simp only at hk
  conv => whnf
  refine ⟨by simp <;> omega, ?_⟩
  conv => whnf
  rw [enc_hd]
  conv => whnf
  cases hw : isS [123] ts with
  | false =>
    have hb := hk.within_no hw
    refine ⟨_, _, _, _, _, _, _, rfl, rfl, ?_⟩
    conv => whnf
    refine two_false hw ?_
    conv => whnf
    refine ⟨_, _, _, _, _, _, _, rfl, rfl, ⟨fun a ts' ns' mo' h => by simp [wantS, hw] at h, fun a er h => ?_⟩⟩
    simp only [wantS, hw, R.bad.injEq] at h
    obtain ⟨rfl, rfl⟩ := h
    ((conv => whnf); exact hp _ _ rfl hb)
  | true =>
    refine ⟨_, _, _, _, _, _, _, rfl, rfl, ?_⟩
    conv => whnf
    refine two_true hw ?_
    conv => whnf
    cases d with
    | zero =>
      have hb := hk.within_deep hw
      refine two_true (by simp [ho]) ?_
      conv => whnf
      refine ⟨_, _, _, _, _, _, _, rfl, rfl, ?_⟩
      ((conv => whnf); exact hp _ _ rfl hb)
    | succ d =>
    refine two_false (by simp [ho]; omega) ?_
    conv => whnf
    refine ⟨_, _, _, _, _, _, _, rfl, rfl, ⟨fun a ts' ns' mo' h => ?_, fun a er h => by simp [wantS, hw] at h⟩⟩
    simp only [wantS, hw, dropS, R.ok.injEq, PS.mk.injEq] at h
    obtain ⟨-, rfl, rfl, rfl⟩ := h
    have hd2 : d < 1000 := by have := hf.1; omega
    have hk := hk.within hw (by simp)
    rw [← in_mo ho hd2] at hk
    have hf := hf.opn hw
    conv => whnf
    simp only [bindA] at hk
    refine ⟨d, _, _, _, _, _, _, _, rfl, rfl, hf.fine, hk.step (vars_le _ _ _) (fun vs ts2 ns2 mo2 hl hk => ?_) (fun a er hb => by ((conv => whnf); exact hp _ _ rfl hb))⟩
    have hf := hf.st hl
    have hl0 := hl.2
    have hd40 : d < 41 := by have := hf.d; omega
    simp only at hl0
    conv => whnf
    refine loop_nil (ι := LC) 3 1 (fun i => pvs (kidF [] i)) (fun i => ⟨[(1, .ptr 2 0 1 0 0), (3, .ptr 6 0 1 0 0)],
        encP e i.ts i.ns (IntKind.i64.wrap (op + 1)) i.mo ++ [.box 101 [pp], .box 4 [.p (.bool true)], .box 61 [.p (.int .i64 6), .p (.int .i64 0), .p (.int .i64 (Ru.hd e ts)), .p (.str []), .p .nils], .box 40 [kidV vs], .box 40 [.slr 7 0 0 i.l.length], kidA i.l]⟩)
      (fun i => i.ts.length < i.n ∧ i.n ≤ 900001 ∧ i.l.length + i.ts.length ≤ 900000 ∧ Fin d 3 i.ts i.ns ∧ AK ((stmtsL (stmtS e d) i.n i.l ⟨i.ts, i.ns, i.mo⟩).bind fun l s => (wantS e [125] s).bind fun _ s => (putS ⟨6, 0, Ru.hd e ts, [], l⟩ s).bind fun b s => .ok (vs, b) s)
        (fun a s => k (.ret (.tup [kidV a.1, intV a.2])) (encP e s.ts s.ns op s.mo ++ X)) (fun a er => k (.pan (wrongV a er)) (deads 2 ++ X)))
      (fun i => i.n) ⟨ts2, ns2, mo2, [], ts2.length + 1⟩
      (encP e ts2 ns2 (IntKind.i64.wrap (op + 1)) mo2 ++ [.box 101 [pp], .box 4 [.p (.bool true)], .box 61 [.p (.int .i64 6), .p (.int .i64 0), .p (.int .i64 (Ru.hd e ts)), .p (.str []), .p .nils], .box 40 [kidV vs], .box 40 [.slr 7 0 0 0]])
      rfl ⟨.inl (AV.le_refl _), .inl (AV.le_refl _), trivial⟩
      ?_ rfl
      ⟨Nat.lt_succ_self _, ?_, ?_, hf.lo (by omega), hk⟩ ?_
    · exact ⟨.inl (ABlk.le_refl _), .inl (ABlk.le_refl _), .inl (ABlk.le_refl _), .inl (ABlk.le_refl _), .inl (ABlk.le_refl _), .inl (ABlk.le_refl _), .inr ⟨_, _, _, rfl, rfl, .inr ⟨rfl, rfl⟩, trivial⟩, trivial⟩
    · have := hf.s; show ts2.length + 1 ≤ 900001; omega
    · have := hf.s; show 0 + ts2.length ≤ 900000; omega
    clear hk hf hl0 hl
    rintro Y hle ⟨ts, ns, mo, l, n⟩ ⟨hn, hn2, hln, hf, hk⟩ ih
    simp only at hn hn2 hln hf hk
    cases n with
    | zero => omega
    | succ n =>
    conv => whnf
    refine ⟨_, _, _, _, _, _, _, rfl, rfl, ?_⟩
    conv => whnf
    refine two_intro (fun h => ?_) (fun h => ?_)
    · have h : isS [125] ts = false := nt h
      simp only [stmtsL, h, bindA] at hk
      conv => whnf
      refine ⟨d, _, _, _, _, _, _, rfl, rfl, in_op ho hd2, by omega, hf.fine, hk.step (stmt_le _ _ _) (fun x ts2 ns2 mo2 hl hk => ?_) (fun a er hb => by ((conv => whnf); exact hp _ _ rfl hb))⟩
      have hf := hf.st hl
      conv => whnf
      refine ⟨by conv => whnf, ?_⟩
      conv => whnf
      refine ⟨by conv => whnf, ?_⟩
      conv => whnf
      refine ⟨⟨rfl, rfl, rfl, allLt_ok ⟨trivial, rfl⟩⟩, ?_⟩
      conv => whnf
      refine ⟨⟨rfl, rfl, rfl, rfl, ?_, ?_⟩, ?_⟩
      · show (l.length + 1) * 8 ≤ 140737488355328
        omega
      · show l.length + 1 ≤ 9223372036854775807
        omega
      conv => whnf
      have hl2 := hl.2
      simp only at hl2
      refine hle _ _ (Le.cutEnv 8 rfl rfl ⟨rfl, fun _ _ => rfl, rfl, rfl, rfl, rfl, rfl, ?_, trivial⟩ ?_ ?_) (ih ⟨ts2, ns2, mo2, l ++ [x], n⟩ (by simp only; omega) ⟨?_, ?_, ?_, hf.lo (by omega), hk⟩)
      · exact kid_cl l x _ 8 rfl
      · exact ⟨AV.le_refl _, AV.le_refl _, trivial⟩
      · exact ⟨ABlk.le_refl _, ABlk.le_refl _, ABlk.le_refl _, ABlk.le_refl _, ABlk.le_refl _, ABlk.le_refl _, ABlk.le_of_eq (by simp), kidA_snoc l x _ rfl, trivial⟩
      · simp only; omega
      · simp only; omega
      · simp only [List.length_append, List.length_cons, List.length_nil]; omega
    · have h : isS [125] ts = true := nf h
      simp only [stmtsL, h, bindO] at hk
      conv => whnf
      refine ⟨_, _, _, _, _, _, _, rfl, rfl, hk.step (want_le _ _ _) (fun _ ts ns mo hl hk => ?_) (fun a er hb => by ((conv => whnf); exact hp _ _ rfl hb))⟩
      have hf := hf.st hl
      conv => whnf
      refine ⟨l, _, _, _, _, _, _, _, _, _, _, _, rfl, rfl, PutK.slr hf.sz rfl rfl rfl (fun _ _ => rfl) ?_⟩
      conv => whnf
      refine ⟨by conv => whnf, ?_⟩
      conv => whnf
      rw [out_op ho hd2]
      exact hr _ _ _ _ _ _ rfl rfl hk
end Go.Proofs.YtojjkleplnijaaaGreatDoor

namespace Go.Proofs.YtojjkleplnijaaaGreatDoor
open Go.AE Go.Ru
set_option maxRecDepth 100000
def g14 : AG := gput 190 cBody g13
theorem g14_ok : GOk Tryz.prog g14 := gput_ok body_ok g13_ok
def cProc : AC := fun args K k => ∃ d : Nat, ∃ e ts ns mo op X, args = [pp] ∧ K = encP e ts ns op mo ++ X ∧ op = 40 - (d : Int) ∧ Fine d ts ns ∧
  After e (procS e d ⟨ts, ns, mo⟩) intV op X k
theorem kid_app (l vs : List Int) (b : Int) (f : Nat → List AV) (hf : f 0 = [intV b]) : ∀ i, i < l.length + vs.length + 1 →
    catF (l.length + vs.length) (catF l.length (fun i => pvs (kidF l i)) (fun i => pvs (kidF vs i))) f i = [intV ((l ++ vs ++ [b]).getD i 0)] := fun i hi => by
  by_cases h : i < l.length + vs.length
  · rw [catF_lt h]
    by_cases h2 : i < l.length
    · rw [catF_lt h2]
      have : (l ++ vs ++ [b])[i]? = l[i]? := by rw [List.append_assoc, List.getElem?_append_left h2]
      simp only [kidF, List.getD_eq_getElem?_getD, this, pvs, intV]
    · rw [catF_ge (by omega)]
      have : (l ++ vs ++ [b])[i]? = vs[i - l.length]? := by
        rw [List.getElem?_append_left (by simp; omega), List.getElem?_append_right (by omega)]
      simp only [kidF, List.getD_eq_getElem?_getD, this, pvs, intV]
  · obtain rfl : i = l.length + vs.length := by omega
    rw [catF_ge (Nat.le_refl _), Nat.sub_self, hf]
    have : (l ++ vs ++ [b])[l.length + vs.length]? = some b := by
      rw [List.getElem?_append_right (by simp)]; simp
    simp only [List.getD_eq_getElem?_getD, this, Option.getD_some]
def cIsN : AC := fun args K k => cIs args K k ∨ cIs args K (fun ao K1 => ∃ ty sz g K2, nswK K1.length K1 K2 ∧ k ao (K2 ++ [.arr ty sz 0 0 g]))
theorem isN_ok : COk 180 cIsN := by
  rintro args K k (h | h)
  · exact is_ok _ _ _ h
  · exact (is_ok _ _ _ h).nil
theorem proc_ok : COk 132 cProc := by
  rintro args K k ⟨d, e, ts0, ns, mo, op, X, rfl, rfl, ho, hf, hk⟩
  refine frameP (G := gput 180 cIsN g14) (gput_ok isN_ok g14_ok) 19 rfl fun Q hr hp => ?_
  have hk := hk.ak
  have hf := hf.fin
  have hd0 := hf.d
  unfold procS at hk
  simp only at hk
  conv => whnf
  refine ⟨by simp <;> omega, ?_⟩
  conv => whnf
  rw [enc_hd]
  conv => whnf
  refine ⟨_, _, _, _, _, _, _, rfl, rfl, hk.step (want_le _ _ _) (fun _ ts2 ns2 mo2 hl hk => ?_) (fun a er hb => by ((conv => whnf); exact hp _ _ rfl hb))⟩
  have hf := hf.st hl
  conv => whnf
  refine ⟨_, _, _, _, _, _, rfl, rfl, hk.step (ident_le _ _) (fun t ts ns mo hl hk => ?_) (fun a er hb => by ((conv => whnf); exact hp _ _ rfl hb))⟩
  have hf := hf.st hl
  conv => whnf
  refine .inl ?_
  cases hw : isS [40] ts with
  | false =>
    have hb := hk.within_no hw
    refine ⟨_, _, _, _, _, _, _, rfl, rfl, ?_⟩
    conv => whnf
    refine two_false hw ?_
    conv => whnf
    refine ⟨_, _, _, _, _, _, _, rfl, rfl, ⟨fun a ts' ns' mo' h => by simp [wantS, hw] at h, fun a er h => ?_⟩⟩
    simp only [wantS, hw, R.bad.injEq] at h
    obtain ⟨rfl, rfl⟩ := h
    ((conv => whnf); exact hp _ _ rfl hb)
  | true =>
    refine ⟨_, _, _, _, _, _, _, rfl, rfl, ?_⟩
    conv => whnf
    refine two_true hw ?_
    conv => whnf
    cases d with
    | zero =>
      have hb := hk.within_deep hw
      refine two_true (by simp [ho]) ?_
      conv => whnf
      refine ⟨_, _, _, _, _, _, _, rfl, rfl, ?_⟩
      ((conv => whnf); exact hp _ _ rfl hb)
    | succ d =>
    refine two_false (by simp [ho]; omega) ?_
    conv => whnf
    refine ⟨_, _, _, _, _, _, _, rfl, rfl, ⟨fun a ts' ns' mo' h => ?_, fun a er h => by simp [wantS, hw] at h⟩⟩
    simp only [wantS, hw, dropS, R.ok.injEq, PS.mk.injEq] at h
    obtain ⟨-, rfl, rfl, rfl⟩ := h
    have hd2 : d < 1000 := by have := hf.1; omega
    have hk := hk.within hw (by simp)
    rw [← in_mo ho hd2] at hk
    have hf := hf.opn hw
    conv => whnf
    refine .inr ⟨_, _, _, _, _, _, _, rfl, rfl, 3, 1, fun i => pvs (kidF [] i), encP e ts.tail ns (IntKind.i64.wrap (op + 1)) (if IntKind.i64.wrap (op + 1) > mo then IntKind.i64.wrap (op + 1) else mo) ++ [.box 101 [pp], .box 61 [.p (.int .i64 3), .p (.int .i64 0), .p (.int .i64 (hd e ts0)), .p (.str t.tx), .p .nils], .box 40 [.slr 5 0 0 0]], ?_, ?_⟩
    · exact ⟨.inl (ABlk.le_refl _), .inl (ABlk.le_refl _), .inl (ABlk.le_refl _), .inl (ABlk.le_refl _), .inr ⟨_, _, _, rfl, rfl, .inr ⟨rfl, rfl⟩, trivial⟩, trivial⟩
    conv => whnf
    refine two_intro (fun h2 => ?_) (fun h2 => ?_)
    · have h2 : isS [41] ts.tail = true := h2
      simp only [listS, h2, bindO] at hk
      conv => whnf
      refine ⟨_, _, _, _, _, _, _, rfl, rfl, hk.step (want_le _ _ _) (fun _ ts ns mo hl hk => ?_) (fun a er hb => by ((conv => whnf); exact hp _ _ rfl hb))⟩
      have hf := hf.st hl
      conv => whnf
      have hln0 : ([] : List Int).length ≤ 900000 := by simp
      refine ⟨_, _, _, _, _, _, rfl, rfl, ?_⟩
      conv => whnf
      refine two_intro (fun h3 => ?_) (fun h3 => ?_)
      · obtain ⟨t2, ts, rfl⟩ : ∃ t r, ts = t :: r := by
          cases ts with
          | nil => simp [typesS, isS] at h3
          | cons t r => exact ⟨t, r, rfl⟩
        have h3 : decide (typesS (t2 :: ts) > 0) = true := h3
        simp only [h3, dropS] at hk
        conv => whnf
        refine ⟨_, _, _, _, _, _, _, rfl, rfl, ?_⟩
        conv => whnf
        rw [out_op ho hd2]
        have hf : Fin d 7 ts ns := ⟨hf.1, by have := hf.2; simp only [List.length_cons] at this; omega⟩
        refine ⟨d + 1, _, _, _, _, _, _, rfl, rfl, ho, ⟨hd0, by have := hf.2; omega⟩, hk.stepv (p := fun p s => Lw _ 3 1 s ∧ p.1.length ≤ _) (fun p s h => ⟨body_le _ _ _ _ _ h, body_len _ _ _ _ _ h⟩) (fun p ts ns mo hl hk => ?_) (fun a er hb => by ((conv => whnf); exact hp _ _ rfl hb))⟩
        have hpl := hl.2
        have hl := hl.1
        have hpb : p.1.length ≤ 900000 := by have := hf.2; simp only [List.tail_cons] at hpl; omega
        have hf := hf.st hl
        conv => whnf
        have hlen : (([] : List Int)).length ≤ 900000 := hln0
        refine ⟨?_, ?_⟩
        · conv => whnf
          refine ⟨⟨rfl, fun _ _ => rfl⟩, ?_⟩
          conv => whnf
          refine ⟨⟨rfl, rfl, rfl, rfl, ?_, ?_⟩, ?_⟩
          · show ((([] : List Int)).length + p.1.length) * 8 ≤ 140737488355328
            omega
          · show (([] : List Int)).length + p.1.length ≤ 9223372036854775807
            omega
          conv => whnf
          repeat ((refine And.intro ?_ ?_); (focus ((conv => whnf); done)); (conv => whnf))
          refine ⟨⟨rfl, rfl, rfl, allLt_ok ⟨trivial, rfl⟩⟩, ?_⟩
          conv => whnf
          refine ⟨⟨rfl, rfl, rfl, rfl, ?_, ?_⟩, ?_⟩
          · show ((([] : List Int)).length + p.1.length + 1) * 8 ≤ 140737488355328
            omega
          · show (([] : List Int)).length + p.1.length + 1 ≤ 9223372036854775807
            omega
          conv => whnf
          repeat ((refine And.intro ?_ ?_); (focus ((conv => whnf); done)); (conv => whnf))
          refine ⟨([] : List Int) ++ p.1 ++ [p.2], _, _, _, _, _, _, _, _, _, _, _, rfl, rfl, PutK.slr hf.sz rfl rfl ?_ ?_ ?_⟩
          · show (([] : List Int) ++ p.1 ++ [p.2]).length = (([] : List Int)).length + p.1.length + 1
            simp only [List.length_append, List.length_cons, List.length_nil]
          · exact kid_app (([] : List Int)) p.1 p.2 _ rfl
          conv => whnf
          repeat ((refine And.intro ?_ ?_); (focus ((conv => whnf); done)); (conv => whnf))
          exact hr _ _ _ _ _ _ rfl rfl hk
        · conv => whnf
          repeat ((refine And.intro ?_ ?_); (focus ((conv => whnf); done)); (conv => whnf))
          refine ⟨⟨rfl, fun _ _ => rfl⟩, ?_⟩
          conv => whnf
          refine ⟨⟨rfl, rfl, rfl, rfl, ?_, ?_⟩, ?_⟩
          · show ((([] : List Int)).length + p.1.length) * 8 ≤ 140737488355328
            omega
          · show (([] : List Int)).length + p.1.length ≤ 9223372036854775807
            omega
          conv => whnf
          repeat ((refine And.intro ?_ ?_); (focus ((conv => whnf); done)); (conv => whnf))
          refine ⟨⟨rfl, rfl, rfl, allLt_ok ⟨trivial, rfl⟩⟩, ?_⟩
          conv => whnf
          refine ⟨⟨rfl, rfl, rfl, rfl, ?_, ?_⟩, ?_⟩
          · show ((([] : List Int)).length + p.1.length + 1) * 8 ≤ 140737488355328
            omega
          · show (([] : List Int)).length + p.1.length + 1 ≤ 9223372036854775807
            omega
          conv => whnf
          repeat ((refine And.intro ?_ ?_); (focus ((conv => whnf); done)); (conv => whnf))
          refine ⟨([] : List Int) ++ p.1 ++ [p.2], _, _, _, _, _, _, _, _, _, _, _, rfl, rfl, PutK.slr hf.sz rfl rfl ?_ ?_ ?_⟩
          · show (([] : List Int) ++ p.1 ++ [p.2]).length = (([] : List Int)).length + p.1.length + 1
            simp only [List.length_append, List.length_cons, List.length_nil]
          · exact kid_app (([] : List Int)) p.1 p.2 _ rfl
          conv => whnf
          repeat ((refine And.intro ?_ ?_); (focus ((conv => whnf); done)); (conv => whnf))
          exact hr _ _ _ _ _ _ rfl rfl hk
      · have h3 : decide (typesS ts > 0) = false := h3
        simp only [h3] at hk
        conv => whnf
        rw [out_op ho hd2]
        have hf : Fin d 7 ts ns := hf.lo (by omega)
        refine ⟨d + 1, _, _, _, _, _, _, rfl, rfl, ho, ⟨hd0, by have := hf.2; omega⟩, hk.stepv (p := fun p s => Lw _ 3 1 s ∧ p.1.length ≤ _) (fun p s h => ⟨body_le _ _ _ _ _ h, body_len _ _ _ _ _ h⟩) (fun p ts ns mo hl hk => ?_) (fun a er hb => by ((conv => whnf); exact hp _ _ rfl hb))⟩
        have hpl := hl.2
        have hl := hl.1
        have hpb : p.1.length ≤ 900000 := by have := hf.2; simp only [List.tail_cons] at hpl; omega
        have hf := hf.st hl
        conv => whnf
        have hlen : (([] : List Int)).length ≤ 900000 := hln0
        refine ⟨?_, ?_⟩
        · conv => whnf
          refine ⟨⟨rfl, fun _ _ => rfl⟩, ?_⟩
          conv => whnf
          refine ⟨⟨rfl, rfl, rfl, rfl, ?_, ?_⟩, ?_⟩
          · show ((([] : List Int)).length + p.1.length) * 8 ≤ 140737488355328
            omega
          · show (([] : List Int)).length + p.1.length ≤ 9223372036854775807
            omega
          conv => whnf
          repeat ((refine And.intro ?_ ?_); (focus ((conv => whnf); done)); (conv => whnf))
          refine ⟨⟨rfl, rfl, rfl, allLt_ok ⟨trivial, rfl⟩⟩, ?_⟩
          conv => whnf
          refine ⟨⟨rfl, rfl, rfl, rfl, ?_, ?_⟩, ?_⟩
          · show ((([] : List Int)).length + p.1.length + 1) * 8 ≤ 140737488355328
            omega
          · show (([] : List Int)).length + p.1.length + 1 ≤ 9223372036854775807
            omega
          conv => whnf
          repeat ((refine And.intro ?_ ?_); (focus ((conv => whnf); done)); (conv => whnf))
          refine ⟨([] : List Int) ++ p.1 ++ [p.2], _, _, _, _, _, _, _, _, _, _, _, rfl, rfl, PutK.slr hf.sz rfl rfl ?_ ?_ ?_⟩
          · show (([] : List Int) ++ p.1 ++ [p.2]).length = (([] : List Int)).length + p.1.length + 1
            simp only [List.length_append, List.length_cons, List.length_nil]
          · exact kid_app (([] : List Int)) p.1 p.2 _ rfl
          conv => whnf
          repeat ((refine And.intro ?_ ?_); (focus ((conv => whnf); done)); (conv => whnf))
          exact hr _ _ _ _ _ _ rfl rfl hk
        · conv => whnf
          repeat ((refine And.intro ?_ ?_); (focus ((conv => whnf); done)); (conv => whnf))
          refine ⟨⟨rfl, fun _ _ => rfl⟩, ?_⟩
          conv => whnf
          refine ⟨⟨rfl, rfl, rfl, rfl, ?_, ?_⟩, ?_⟩
          · show ((([] : List Int)).length + p.1.length) * 8 ≤ 140737488355328
            omega
          · show (([] : List Int)).length + p.1.length ≤ 9223372036854775807
            omega
          conv => whnf
          repeat ((refine And.intro ?_ ?_); (focus ((conv => whnf); done)); (conv => whnf))
          refine ⟨⟨rfl, rfl, rfl, allLt_ok ⟨trivial, rfl⟩⟩, ?_⟩
          conv => whnf
          refine ⟨⟨rfl, rfl, rfl, rfl, ?_, ?_⟩, ?_⟩
          · show ((([] : List Int)).length + p.1.length + 1) * 8 ≤ 140737488355328
            omega
          · show (([] : List Int)).length + p.1.length + 1 ≤ 9223372036854775807
            omega
          conv => whnf
          repeat ((refine And.intro ?_ ?_); (focus ((conv => whnf); done)); (conv => whnf))
          refine ⟨([] : List Int) ++ p.1 ++ [p.2], _, _, _, _, _, _, _, _, _, _, _, rfl, rfl, PutK.slr hf.sz rfl rfl ?_ ?_ ?_⟩
          · show (([] : List Int) ++ p.1 ++ [p.2]).length = (([] : List Int)).length + p.1.length + 1
            simp only [List.length_append, List.length_cons, List.length_nil]
          · exact kid_app (([] : List Int)) p.1 p.2 _ rfl
          conv => whnf
          repeat ((refine And.intro ?_ ?_); (focus ((conv => whnf); done)); (conv => whnf))
          exact hr _ _ _ _ _ _ rfl rfl hk
    · have h2 : isS [41] ts.tail = false := h2
      simp only [listS, h2, oneS, paramS, bindA, bindO] at hk
      conv => whnf
      refine ⟨_, _, _, _, _, _, rfl, rfl, hk.step (ident_le _ _) (fun t1 ts2 ns2 mo2 hl hk => ?_) (fun a er hb => by ((conv => whnf); exact hp _ _ rfl hb))⟩
      have hf := hf.st hl
      conv => whnf
      refine ⟨d, _, _, _, _, _, _, _, _, _, rfl, rfl, hf.fine, hk.step (typed_le _ _ _ _ _) (fun x ts3 ns3 mo3 hl hk => ?_) (fun a er hb => by ((conv => whnf); exact hp _ _ rfl hb))⟩
      have hf := hf.st hl
      conv => whnf
      repeat ((refine And.intro ?_ ?_); (focus ((conv => whnf); done)); (conv => whnf))
      refine ⟨⟨rfl, rfl, rfl, allLt_ok ⟨trivial, rfl⟩⟩, ?_⟩
      conv => whnf
      refine ⟨⟨rfl, rfl, rfl, rfl, by decide, by decide⟩, ?_⟩
      conv => whnf
      refine loop_cut (ι := LC) 6 (fun i => ⟨[(0, pp), (1, .fn 188 [] [.ptr 2 0 1 0 0, .ptr 4 0 1 0 0])],
          encP e i.ts i.ns (IntKind.i64.wrap (op + 1)) i.mo ++ [.box 101 [pp], .box 61 [.p (.int .i64 3), .p (.int .i64 0), .p (.int .i64 (hd e ts0)), .p (.str t.tx), .p .nils], .box 40 [.slr 5 0 0 i.l.length], kidA i.l]⟩)
        (fun i => i.ts.length ≤ i.n ∧ i.n ≤ 900000 ∧ i.l.length + i.ts.length ≤ 900000 ∧ Fin d 7 i.ts i.ns ∧ AK ((commaL (oneS (paramS e)) i.n i.l ⟨i.ts, i.ns, i.mo⟩).bind fun l s => (wantS e [41] s).bind fun _ s => (bodyS e (d + 1)
              (match decide (typesS s.ts > 0) with
                | true => dropS s
                | false => s)).bind fun p s_1 => putS ⟨3, typesS s.ts, hd e ts0, t.tx, l ++ p.1 ++ [p.2]⟩ s_1)
          (fun a s => k (.ret (intV a)) (encP e s.ts s.ns op s.mo ++ X)) (fun a er => k (.pan (wrongV a er)) (deads 2 ++ X)))
        (fun i => i.n) ⟨ts3, ns3, mo3, [x], ts3.length⟩ rfl rfl ⟨AV.le_refl _, AV.le_refl _, trivial⟩ ⟨rfl, fun _ _ => rfl, rfl, rfl, rfl, ?_, trivial⟩ ⟨ABlk.le_refl _, ABlk.le_refl _, ABlk.le_refl _, ABlk.le_refl _, ABlk.le_refl _, ?_, trivial⟩
        ⟨Nat.le_refl _, ?_, ?_, hf.lo (by omega), hk⟩ ?_
      · exact kid_cl [] x _ 6 rfl
      · exact kidA_snoc [] x _ rfl
      · have := hf.s; show ts3.length ≤ 900000; omega
      · have := hf.s; show 1 + ts3.length ≤ 900000; omega
      clear hk hf hl
      rintro Y hle ⟨ts, ns, mo, l, n⟩ ⟨hn, hn2, hln, hf, hk⟩ ih
      simp only at hn hn2 hln hf hk
      conv => whnf
      refine ⟨_, _, _, _, _, _, _, rfl, rfl, ⟨fun h => ?_, fun h => ?_⟩⟩
      · cases n with
        | zero => have := isS_pos h; simp only at this; omega
        | succ n =>
        have h : isS [44] ts = true := h
        simp only [commaL, h, oneS, paramS, bindA, bindO, dropS] at hk
        have hf := hf.sk h
        have hpos := isS_pos h
        conv => whnf
        refine ⟨_, _, _, _, _, _, rfl, rfl, hk.step (ident_le _ _) (fun t2 ts2 ns2 mo2 hl hk => ?_) (fun a er hb => by ((conv => whnf); exact hp _ _ rfl hb))⟩
        have hf := hf.st hl
        have hl2 := hl.2
        conv => whnf
        refine ⟨d, _, _, _, _, _, _, _, _, _, rfl, rfl, hf.fine, hk.step (typed_le _ _ _ _ _) (fun x ts3 ns3 mo3 hl hk => ?_) (fun a er hb => by ((conv => whnf); exact hp _ _ rfl hb))⟩
        have hf := hf.st hl
        have hl3 := hl.2
        conv => whnf
        repeat ((refine And.intro ?_ ?_); (focus ((conv => whnf); done)); (conv => whnf))
        refine ⟨⟨rfl, rfl, rfl, allLt_ok ⟨trivial, rfl⟩⟩, ?_⟩
        conv => whnf
        refine ⟨⟨rfl, rfl, rfl, rfl, ?_, ?_⟩, ?_⟩
        · show (l.length + 1) * 8 ≤ 140737488355328
          omega
        · show l.length + 1 ≤ 9223372036854775807
          omega
        conv => whnf
        simp only [List.length_tail] at hl2 hl3
        refine hle _ _ (Le.cutEnv 6 rfl rfl ⟨rfl, fun _ _ => rfl, rfl, rfl, rfl, ?_, trivial⟩ ?_ ?_) (ih ⟨ts3, ns3, mo3, l ++ [x], n⟩ (by simp only; omega) ⟨?_, ?_, ?_, hf.lo (by omega), hk⟩)
        · exact kid_cl l x _ 6 rfl
        · exact ⟨AV.le_refl _, AV.le_refl _, trivial⟩
        · exact ⟨ABlk.le_refl _, ABlk.le_refl _, ABlk.le_refl _, ABlk.le_refl _, ABlk.le_of_eq (by simp), kidA_snoc l x _ rfl, trivial⟩
        · simp only; omega
        · simp only; omega
        · simp only [List.length_append, List.length_cons, List.length_nil]; omega
      · have h : isS [44] ts = false := h
        replace hk : AK ((wantS e [41] ⟨ts, ns, mo⟩).bind fun _ s => (bodyS e (d + 1)
              (match decide (typesS s.ts > 0) with
                | true => dropS s
                | false => s)).bind fun p s_1 => putS ⟨3, typesS s.ts, hd e ts0, t.tx, l ++ p.1 ++ [p.2]⟩ s_1)
          (fun a s => k (.ret (intV a)) (encP e s.ts s.ns op s.mo ++ X)) (fun a er => k (.pan (wrongV a er)) (deads 2 ++ X)) := by
          cases n with
          | zero => exact hk
          | succ n => simp only [commaL, h, bindO] at hk; exact hk
        have hln0 : l.length ≤ 900000 := by omega
        conv => whnf
        refine ⟨_, _, _, _, _, _, _, rfl, rfl, hk.step (want_le _ _ _) (fun _ ts ns mo hl hk => ?_) (fun a er hb => by ((conv => whnf); exact hp _ _ rfl hb))⟩
        have hf := hf.st hl
        conv => whnf
        refine ⟨_, _, _, _, _, _, rfl, rfl, ?_⟩
        conv => whnf
        refine two_intro (fun h3 => ?_) (fun h3 => ?_)
        · obtain ⟨t2, ts, rfl⟩ : ∃ t r, ts = t :: r := by
            cases ts with
            | nil => simp [typesS, isS] at h3
            | cons t r => exact ⟨t, r, rfl⟩
          have h3 : decide (typesS (t2 :: ts) > 0) = true := h3
          simp only [h3, dropS] at hk
          conv => whnf
          refine ⟨_, _, _, _, _, _, _, rfl, rfl, ?_⟩
          conv => whnf
          rw [out_op ho hd2]
          have hf : Fin d 7 ts ns := ⟨hf.1, by have := hf.2; simp only [List.length_cons] at this; omega⟩
          refine ⟨d + 1, _, _, _, _, _, _, rfl, rfl, ho, ⟨hd0, by have := hf.2; omega⟩, hk.stepv (p := fun p s => Lw _ 3 1 s ∧ p.1.length ≤ _) (fun p s h => ⟨body_le _ _ _ _ _ h, body_len _ _ _ _ _ h⟩) (fun p ts ns mo hl hk => ?_) (fun a er hb => by ((conv => whnf); exact hp _ _ rfl hb))⟩
          have hpl := hl.2
          have hl := hl.1
          have hpb : p.1.length ≤ 900000 := by have := hf.2; simp only [List.tail_cons] at hpl; omega
          have hf := hf.st hl
          conv => whnf
          have hlen : (l).length ≤ 900000 := hln0
          refine ⟨?_, ?_⟩
          · conv => whnf
            refine ⟨⟨rfl, fun _ _ => rfl⟩, ?_⟩
            conv => whnf
            refine ⟨⟨rfl, rfl, rfl, rfl, ?_, ?_⟩, ?_⟩
            · show ((l).length + p.1.length) * 8 ≤ 140737488355328
              omega
            · show (l).length + p.1.length ≤ 9223372036854775807
              omega
            conv => whnf
            repeat ((refine And.intro ?_ ?_); (focus ((conv => whnf); done)); (conv => whnf))
            refine ⟨⟨rfl, rfl, rfl, allLt_ok ⟨trivial, rfl⟩⟩, ?_⟩
            conv => whnf
            refine ⟨⟨rfl, rfl, rfl, rfl, ?_, ?_⟩, ?_⟩
            · show ((l).length + p.1.length + 1) * 8 ≤ 140737488355328
              omega
            · show (l).length + p.1.length + 1 ≤ 9223372036854775807
              omega
            conv => whnf
            repeat ((refine And.intro ?_ ?_); (focus ((conv => whnf); done)); (conv => whnf))
            refine ⟨l ++ p.1 ++ [p.2], _, _, _, _, _, _, _, _, _, _, _, rfl, rfl, PutK.slr hf.sz rfl rfl ?_ ?_ ?_⟩
            · show (l ++ p.1 ++ [p.2]).length = (l).length + p.1.length + 1
              simp only [List.length_append, List.length_cons, List.length_nil]
            · exact kid_app (l) p.1 p.2 _ rfl
            conv => whnf
            repeat ((refine And.intro ?_ ?_); (focus ((conv => whnf); done)); (conv => whnf))
            exact hr _ _ _ _ _ _ rfl rfl hk
          · conv => whnf
            repeat ((refine And.intro ?_ ?_); (focus ((conv => whnf); done)); (conv => whnf))
            refine ⟨⟨rfl, fun _ _ => rfl⟩, ?_⟩
            conv => whnf
            refine ⟨⟨rfl, rfl, rfl, rfl, ?_, ?_⟩, ?_⟩
            · show ((l).length + p.1.length) * 8 ≤ 140737488355328
              omega
            · show (l).length + p.1.length ≤ 9223372036854775807
              omega
            conv => whnf
            repeat ((refine And.intro ?_ ?_); (focus ((conv => whnf); done)); (conv => whnf))
            refine ⟨⟨rfl, rfl, rfl, allLt_ok ⟨trivial, rfl⟩⟩, ?_⟩
            conv => whnf
            refine ⟨⟨rfl, rfl, rfl, rfl, ?_, ?_⟩, ?_⟩
            · show ((l).length + p.1.length + 1) * 8 ≤ 140737488355328
              omega
            · show (l).length + p.1.length + 1 ≤ 9223372036854775807
              omega
            conv => whnf
            repeat ((refine And.intro ?_ ?_); (focus ((conv => whnf); done)); (conv => whnf))
            refine ⟨l ++ p.1 ++ [p.2], _, _, _, _, _, _, _, _, _, _, _, rfl, rfl, PutK.slr hf.sz rfl rfl ?_ ?_ ?_⟩
            · show (l ++ p.1 ++ [p.2]).length = (l).length + p.1.length + 1
              simp only [List.length_append, List.length_cons, List.length_nil]
            · exact kid_app (l) p.1 p.2 _ rfl
            conv => whnf
            repeat ((refine And.intro ?_ ?_); (focus ((conv => whnf); done)); (conv => whnf))
            exact hr _ _ _ _ _ _ rfl rfl hk
        · have h3 : decide (typesS ts > 0) = false := h3
          simp only [h3] at hk
          conv => whnf
          rw [out_op ho hd2]
          have hf : Fin d 7 ts ns := hf.lo (by omega)
          refine ⟨d + 1, _, _, _, _, _, _, rfl, rfl, ho, ⟨hd0, by have := hf.2; omega⟩, hk.stepv (p := fun p s => Lw _ 3 1 s ∧ p.1.length ≤ _) (fun p s h => ⟨body_le _ _ _ _ _ h, body_len _ _ _ _ _ h⟩) (fun p ts ns mo hl hk => ?_) (fun a er hb => by ((conv => whnf); exact hp _ _ rfl hb))⟩
          have hpl := hl.2
          have hl := hl.1
          have hpb : p.1.length ≤ 900000 := by have := hf.2; simp only [List.tail_cons] at hpl; omega
          have hf := hf.st hl
          conv => whnf
          have hlen : (l).length ≤ 900000 := hln0
          refine ⟨?_, ?_⟩
          · conv => whnf
            refine ⟨⟨rfl, fun _ _ => rfl⟩, ?_⟩
            conv => whnf
            refine ⟨⟨rfl, rfl, rfl, rfl, ?_, ?_⟩, ?_⟩
            · show ((l).length + p.1.length) * 8 ≤ 140737488355328
              omega
            · show (l).length + p.1.length ≤ 9223372036854775807
              omega
            conv => whnf
            repeat ((refine And.intro ?_ ?_); (focus ((conv => whnf); done)); (conv => whnf))
            refine ⟨⟨rfl, rfl, rfl, allLt_ok ⟨trivial, rfl⟩⟩, ?_⟩
            conv => whnf
            refine ⟨⟨rfl, rfl, rfl, rfl, ?_, ?_⟩, ?_⟩
            · show ((l).length + p.1.length + 1) * 8 ≤ 140737488355328
              omega
            · show (l).length + p.1.length + 1 ≤ 9223372036854775807
              omega
            conv => whnf
            repeat ((refine And.intro ?_ ?_); (focus ((conv => whnf); done)); (conv => whnf))
            refine ⟨l ++ p.1 ++ [p.2], _, _, _, _, _, _, _, _, _, _, _, rfl, rfl, PutK.slr hf.sz rfl rfl ?_ ?_ ?_⟩
            · show (l ++ p.1 ++ [p.2]).length = (l).length + p.1.length + 1
              simp only [List.length_append, List.length_cons, List.length_nil]
            · exact kid_app (l) p.1 p.2 _ rfl
            conv => whnf
            repeat ((refine And.intro ?_ ?_); (focus ((conv => whnf); done)); (conv => whnf))
            exact hr _ _ _ _ _ _ rfl rfl hk
          · conv => whnf
            repeat ((refine And.intro ?_ ?_); (focus ((conv => whnf); done)); (conv => whnf))
            refine ⟨⟨rfl, fun _ _ => rfl⟩, ?_⟩
            conv => whnf
            refine ⟨⟨rfl, rfl, rfl, rfl, ?_, ?_⟩, ?_⟩
            · show ((l).length + p.1.length) * 8 ≤ 140737488355328
              omega
            · show (l).length + p.1.length ≤ 9223372036854775807
              omega
            conv => whnf
            repeat ((refine And.intro ?_ ?_); (focus ((conv => whnf); done)); (conv => whnf))
            refine ⟨⟨rfl, rfl, rfl, allLt_ok ⟨trivial, rfl⟩⟩, ?_⟩
            conv => whnf
            refine ⟨⟨rfl, rfl, rfl, rfl, ?_, ?_⟩, ?_⟩
            · show ((l).length + p.1.length + 1) * 8 ≤ 140737488355328
              omega
            · show (l).length + p.1.length + 1 ≤ 9223372036854775807
              omega
            conv => whnf
            repeat ((refine And.intro ?_ ?_); (focus ((conv => whnf); done)); (conv => whnf))
            refine ⟨l ++ p.1 ++ [p.2], _, _, _, _, _, _, _, _, _, _, _, rfl, rfl, PutK.slr hf.sz rfl rfl ?_ ?_ ?_⟩
            · show (l ++ p.1 ++ [p.2]).length = (l).length + p.1.length + 1
              simp only [List.length_append, List.length_cons, List.length_nil]
            · exact kid_app (l) p.1 p.2 _ rfl
            conv => whnf
            repeat ((refine And.intro ?_ ?_); (focus ((conv => whnf); done)); (conv => whnf))
            exact hr _ _ _ _ _ _ rfl rfl hk
end Go.Proofs.YtojjkleplnijaaaGreatDoor

namespace Go.Proofs.YtojjkleplnijaaaGreatDoor
open Go.AE Go.Ru
set_option maxRecDepth 100000
def g15 : AG := gput 132 cProc g14
theorem g15_ok : GOk Tryz.prog g15 := gput_ok proc_ok g14_ok
def cVarsM : AC := fun args K k => ∃ d : Nat, ∃ e ts ns mo op kind, args = [pp, .p (.int .i64 kind)] ∧ K = encP e ts ns op mo ∧ Fine d ts ns ∧
  AK (varsS e kind ⟨ts, ns, mo⟩) (fun l s => k (.ret (.slr 2 0 0 l.length)) (encP e s.ts s.ns op s.mo ++ [kidA l])) (fun a er => ∀ K', k (.pan (wrongV a er)) K')
theorem varsM_ok : COk 131 cVarsM := by
  rintro args K k ⟨d, e, ts, ns, mo, op, kind, rfl, rfl, hf, hk⟩
  refine call_ok g12_ok 19 _ _ _ _ ?_
  have hf := hf.fin
  unfold varsS at hk
  conv => whnf
  refine loop_nil (ι := LC) 3 1 (fun i => pvs (kidF [] i)) (fun i => ⟨[(0, pp), (1, .p (.int .i64 kind)), (5, .slr 2 0 0 i.l.length)], encP e i.ts i.ns op i.mo ++ [kidA i.l]⟩)
      (fun i => i.ts.length ≤ i.n ∧ i.n ≤ 900001 ∧ i.l.length + i.ts.length ≤ 900000 ∧ Fin d 0 i.ts i.ns ∧ AK (varsL e kind i.n i.l ⟨i.ts, i.ns, i.mo⟩)
        (fun l s => k (.ret (.slr 2 0 0 l.length)) (encP e s.ts s.ns op s.mo ++ [kidA l])) (fun a er => ∀ K', k (.pan (wrongV a er)) K'))
      (fun i => i.n) ⟨ts, ns, mo, [], ts.length⟩ (encP e ts ns op mo)
      rfl ⟨.inl (AV.le_refl _), .inl (AV.le_refl _), .inr ⟨rfl, rfl⟩, trivial⟩ (nswK.refl _ _) rfl
      ⟨Nat.le_refl _, ?_, ?_, hf, hk⟩ ?_
  · have := hf.s; show ts.length ≤ 900001; omega
  · have := hf.s; show 0 + ts.length ≤ 900000; omega
  clear hk hf
  rintro Y hle ⟨ts, ns, mo, l, n⟩ ⟨hn, hn2, hln, hf, hk⟩ ih
  simp only at hn hn2 hln hf hk
  conv => whnf
  refine ⟨_, _, _, _, _, _, _, rfl, rfl, ?_⟩
  conv => whnf
  refine two_intro (fun h => ?_) (fun h => ?_)
  · have h : isS [118, 97, 114] ts = true := h
    cases n with
    | zero => have := isS_pos h; simp only at this; omega
    | succ n =>
    obtain ⟨t0, ts, rfl⟩ : ∃ t r, ts = t :: r := by
      cases ts with
      | nil => simp [isS] at h
      | cons t r => exact ⟨t, r, rfl⟩
    simp only [varsL, h, bindA, dropS] at hk
    conv => whnf
    refine ⟨_, _, _, _, _, _, _, rfl, rfl, ?_⟩
    conv => whnf
    have hf : Fin d 4 ts ns := ⟨hf.1, by have := hf.2; simp only [List.length_cons] at this; omega⟩
    refine ⟨_, _, _, _, _, _, rfl, rfl, hk.step (ident_le _ _) (fun t ts2 ns2 mo2 hl hk => ?_) (fun a er hb => by (conv => whnf); exact hb _)⟩
    have hf := hf.st hl
    have hl1 := hl.2
    conv => whnf
    refine ⟨d, _, _, _, _, _, _, _, _, _, rfl, rfl, hf.fine, hk.step (typed_le _ _ _ _ _) (fun x ts3 ns3 mo3 hl hk => ?_) (fun a er hb => by (conv => whnf); exact hb _)⟩
    have hf := hf.st hl
    have hl2 := hl.2
    conv => whnf
    refine ⟨⟨rfl, rfl, rfl, allLt_ok ⟨trivial, rfl⟩⟩, ?_⟩
    conv => whnf
    refine ⟨⟨rfl, rfl, rfl, rfl, ?_, ?_⟩, ?_⟩
    · show (l.length + 1) * 8 ≤ 140737488355328
      omega
    · show l.length + 1 ≤ 9223372036854775807
      omega
    conv => whnf
    refine ⟨_, _, _, _, _, _, _, rfl, rfl, hk.step (want_le _ _ _) (fun _ ts4 ns4 mo4 hl hk => ?_) (fun a er hb => by (conv => whnf); exact hb _)⟩
    have hf := hf.st hl
    have hl3 := hl.2
    conv => whnf
    simp only [List.length_cons, List.tail_cons] at hl1 hl2 hl3 hn hln
    refine hle _ _ (Le.cutEnv 3 rfl rfl ⟨rfl, fun _ _ => rfl, ?_, trivial⟩ ?_ ?_) (ih ⟨ts4, ns4, mo4, l ++ [x], n⟩ (by simp only; omega) ⟨?_, ?_, ?_, hf.lo (by omega), hk⟩)
    · exact kid_cl l x _ 3 rfl
    · exact ⟨AV.le_refl _, AV.le_refl _, AV.le_of_eq (show AV.slr 2 0 0 (l.length + 1) = AV.slr 2 0 0 (l ++ [x]).length by simp), trivial⟩
    · exact ⟨ABlk.le_refl _, ABlk.le_refl _, kidA_snoc l x _ rfl, trivial⟩
    · simp only; omega
    · simp only; omega
    · simp only [List.length_append, List.length_cons, List.length_nil]; omega
  · have h : isS [118, 97, 114] ts = false := h
    have hk : k (.ret (.slr 2 0 0 l.length)) (encP e ts ns op mo ++ [kidA l]) := by
      cases n with
      | zero => exact hk
      | succ n => simp only [varsL, h] at hk; exact hk
    conv => whnf
    exact hk
def g16 : AG := gput 131 cVarsM g15
theorem g16_ok : GOk Tryz.prog g16 := gput_ok varsM_ok g15_ok
theorem AK.vstep {α β : Type} {r : R α} {f : α → PS → R β} {ok : β → PS → Prop} {bad : Int → Int → Prop} (h : AK (r.bind f) ok bad) {ok' : α → PS → Prop} {bad' : Int → Int → Prop} {p : α → PS → Prop} (hp : ∀ a s, r = .ok a s → p a s)
    (h1 : ∀ a ts ns mo, p a ⟨ts, ns, mo⟩ → AK (f a ⟨ts, ns, mo⟩) ok bad → ok' a ⟨ts, ns, mo⟩) (h2 : ∀ a er, bad a er → bad' a er) : AK r ok' bad' := by
  cases r with
  | ok a s => exact h1 _ _ _ _ (hp _ _ rfl) h
  | bad a er => exact h2 _ _ h
def cProgram : AC := fun args K k => ∃ e ts ns mo X, args = [pp] ∧ K = encP e ts ns 0 mo ++ X ∧ Fine 40 ts ns ∧
  After e (programS e ⟨ts, ns, mo⟩) intV 0 X k
theorem varsS_len (e kind : Int) (s : PS) : ∀ l s', varsS e kind s = .ok l s' → Lw s 0 0 s' ∧ l.length + s'.ts.length ≤ s.ts.length := fun l s' h =>
  ⟨vars_le e kind s l s' h, by have := varsL_len e kind _ _ _ _ _ h; simpa using this⟩
theorem program_ok : COk 84 cProgram := by
  rintro args K k ⟨e, ts, ns, mo, X, rfl, rfl, hf, hk⟩
  refine frameP g16_ok 19 rfl fun Q hr hp => ?_
  have hk := hk.ak
  have hf := hf.fin
  unfold programS at hk
  conv => whnf
  refine ⟨40, _, _, _, _, _, _, rfl, rfl, hf.fine, hk.vstep (varsS_len _ _ _) (fun vs ts2 ns2 mo2 hl hk => ?_) (fun a er hb K' => by (conv => whnf); show fK K' _; rw [fK_eq]; exact hp _ _ rfl hb)⟩
  have hln := hl.2
  have hf0 := hf.s
  have hf := hf.st hl.1
  simp only at hln
  conv => whnf
  refine loop_by (ι := LC) (fun i => ⟨[(0, pp), (3, .slr 2 0 0 i.l.length)], encP e i.ts i.ns 0 i.mo ++ [kidA i.l]⟩)
      (fun i => i.ts.length ≤ i.n ∧ i.n ≤ 900001 ∧ i.l.length + i.ts.length ≤ 900000 ∧ Fin 40 0 i.ts i.ns ∧ AK ((procsL e 40 i.n i.l ⟨i.ts, i.ns, i.mo⟩).bind fun l s => putS ⟨1, 0, 0, [], l⟩ s)
        (fun a s => k (.ret (intV a)) (encP e s.ts s.ns 0 s.mo ++ X)) (fun a er => k (.pan (wrongV a er)) (deads 2 ++ X)))
      (fun i => i.n) ⟨ts2, ns2, mo2, vs, ts2.length⟩ ⟨AV.le_refl _, AV.le_refl _, trivial⟩ (lesK.refl _)
      ⟨Nat.le_refl _, ?_, ?_, hf, hk⟩ ?_
  · have := hf.s; show ts2.length ≤ 900001; omega
  · show vs.length + ts2.length ≤ 900000; omega
  clear hk hf hln hl hf0
  rintro Y hle ⟨ts, ns, mo, l, n⟩ ⟨hn, hn2, hln, hf, hk⟩ ih
  simp only at hn hn2 hln hf hk
  conv => whnf
  refine ⟨by simp <;> omega, ?_⟩
  conv => whnf
  rw [enc_hd]
  conv => whnf
  refine two_intro (fun h => ?_) (fun h => ?_)
  · have h : (hdK ts != 5) = true := h
    cases n with
    | zero =>
      cases ts with
      | nil => simp [hdK] at h
      | cons t r => simp at hn
    | succ n =>
    obtain ⟨t, r, rfl⟩ : ∃ t r, ts = t :: r := by
      cases ts with
      | nil => simp [hdK] at h
      | cons t r => exact ⟨t, r, rfl⟩
    simp only [procsL, bindA] at hk
    conv => whnf
    refine ⟨40, _, _, _, _, _, _, rfl, rfl, rfl, hf.fine, hk.step (proc_le _ _ _) (fun x ts3 ns3 mo3 hl hk => ?_) (fun a er hb => by ((conv => whnf); exact hp _ _ rfl hb))⟩
    have hf := hf.st hl
    have hl2 := hl.2
    simp only [List.length_cons] at hl2 hn hln
    conv => whnf
    refine ⟨⟨rfl, rfl, rfl, allLt_ok ⟨trivial, rfl⟩⟩, ?_⟩
    conv => whnf
    refine ⟨⟨rfl, rfl, rfl, rfl, ?_, ?_⟩, ?_⟩
    · show (l.length + 1) * 8 ≤ 140737488355328
      omega
    · show l.length + 1 ≤ 9223372036854775807
      omega
    conv => whnf
    refine hle _ _ (Le.cutEnv 3 rfl rfl ⟨rfl, fun _ _ => rfl, ?_, trivial⟩ ?_ ?_) (ih ⟨ts3, ns3, mo3, l ++ [x], n⟩ (by simp only; omega) ⟨?_, ?_, ?_, hf.lo (by omega), hk⟩)
    · exact kid_cl l x _ 3 rfl
    · exact ⟨AV.le_refl _, AV.le_of_eq (show AV.slr 2 0 0 (l.length + 1) = AV.slr 2 0 0 (l ++ [x]).length by simp), trivial⟩
    · exact ⟨ABlk.le_refl _, ABlk.le_refl _, kidA_snoc l x _ rfl, trivial⟩
    · simp only; omega
    · simp only; omega
    · simp only [List.length_append, List.length_cons, List.length_nil]; omega
  · have h : (hdK ts != 5) = false := h
    obtain rfl : ts = [] := by
      cases ts with
      | nil => rfl
      | cons t r =>
        obtain ⟨tk, _, _, _⟩ := t
        cases tk <;> simp [hdK, TK.code] at h
    replace hk : AK (putS ⟨1, 0, 0, [], l⟩ ⟨[], ns, mo⟩) (fun a s => k (.ret (intV a)) (encP e s.ts s.ns 0 s.mo ++ X)) (fun a er => k (.pan (wrongV a er)) (deads 2 ++ X)) := by
      cases n <;> exact hk
    conv => whnf
    refine ⟨l, _, _, _, _, _, _, _, _, _, _, _, rfl, rfl, PutK.slr hf.sz rfl rfl rfl (fun _ _ => rfl) ?_⟩
    conv => whnf
    exact hr _ _ _ _ _ _ rfl rfl hk
end Go.Proofs.YtojjkleplnijaaaGreatDoor

namespace Go.AE
def plainOp : Op → Bool
  | .move _ | .assign _ | .alloc _ | .store _ _ _ | .load _ _ | .extract _ _ | .typeAssert _ _ _ _ | .fieldAddr _ _ _ => true
  | _ => false
def plainL : List Oper → Bool
  | [] => true
  | o :: r => plainOp o.op && o.guard.isNone && plainL r
def isRec : Op → Bool
  | .call c => match c.callee with
    | .builtin .recover => true
    | _ => false
  | _ => false
def deferOf (o : Oper) : Option Nat := match o.op with
  | .defer c => match c.callee with
    | .value (.tmp d) => match c.args.toList with
      | [] => match o.dst with
        | none => match o.guard with
          | none => some d
          | some _ => none
        | some _ => none
      | _ => none
    | _ => none
  | _ => none
noncomputable def recE (T : Tab) (fn : Func) (k : List ABlk → Prop) (e : Ex) (s : AS) : Prop := match e with
  | .norm => ares T fn s fun _ => fK s.K k
  | .ret => ares T fn s fun _ => fK s.K k
  | _ => False
noncomputable def recM (T : Tab) (call : ACall) (fn : Func) (kb : Nat) (y : Code) (k : List ABlk → Prop) (e : Ex) (s : AS) : Prop := match e with
  | .norm => awp T call kb fn.ntmps y s (recE T fn k)
  | _ => False
noncomputable def recW (T : Tab) (call : ACall) (fn : Func) (caps : List AV) (K : List ABlk) (rv : AV) (k : List ABlk → Prop) : Prop :=
  match fn.body with
  | some (.seq (.region _ ops false) y) => match ops.toList with
    | o0 :: os => match isRec o0.op, o0.dst, o0.guard with
      | true, some d, none => match plainL os && Nat.ble (len caps) fn.ntmps && Nat.blt d fn.ntmps && noRF y with
        | true => fV rv fun rv => aops T call fn.ntmps ops.toList os ((d, rv) :: frame0 0 caps) K (recM T call fn (len K) y k)
        | false => False
      | _, _, _ => False
    | [] => False
  | _ => False
noncomputable def bEnd (T : Tab) (fn : Func) (k : AO → List ABlk → Prop) (e : Ex) (s : AS) : Prop := match e with
  | .norm => ares T fn s fun v => fK s.K fun K => k (.ret v) K
  | .ret => ares T fn s fun v => fK s.K fun K => k (.ret v) K
  | .pan v => fV v fun v => fK s.K fun K => k (.pan v) K
  | .exit _ => False
noncomputable def dRes (T : Tab) (fn : Func) (k : AO → List ABlk → Prop) (t : List (Nat × AV)) (K : List ABlk) : Prop := ares T fn ⟨t, K⟩ fun v => fK K fun K => k (.ret v) K
noncomputable def dEnd (T : Tab) (call : ACall) (fn gf : Func) (caps : List AV) (k : AO → List ABlk → Prop) (e : Ex) (s : AS) : Prop := match e with
  | .norm => recW T call gf caps s.K (.p .nili) (dRes T fn k s.t)
  | .ret => recW T call gf caps s.K (.p .nili) (dRes T fn k s.t)
  | .pan v => recW T call gf caps s.K v (dRes T fn k s.t)
  | .exit _ => False
noncomputable def dMid (T : Tab) (call : ACall) (fn : Func) (o1 : Oper) (d : Nat) (y : Code) (k : AO → List ABlk → Prop) (s : AS) : Prop :=
  bound fn.ntmps o1.dst <| aop T call o1 s.t s.K (fun v K' => match look (put s.t o1.dst v) d with
    | .fn g first caps => match first with
      | [] => match T.f.get g with
        | some gf => match gf.body.isSome with
          | true => awp T call (len K') fn.ntmps y ⟨put s.t o1.dst v, K'⟩ (dEnd T call fn gf caps k)
          | false => False
        | none => False
      | _ => False
    | _ => False) (fun _ _ => False)
noncomputable def abodyD (T : Tab) (call : ACall) (fn : Func) (args : List AV) (K : List ABlk) (k : AO → List ABlk → Prop) : Prop :=
  match fn.body with
  | some (.seq c1 (.seq c2 (.seq c3 (.seq (.region _ ops false) y)))) => match ops.toList with
    | [o1, o2] => match deferOf o2, o1.guard with
      | some d, none => match Nat.ble (len args) fn.ntmps && noRF c1 && noRF c2 && noRF c3 && noRF y with
        | true => fK K fun K => awp T call (len K) fn.ntmps c1 ⟨frame0 0 args, K⟩ (wSeqK (fun s Q => awp T call (len K) fn.ntmps c2 s (wSeqK (fun s Q => awp T call (len K) fn.ntmps c3 s (wSeqK (fun s _ => dMid T call fn o1 d y k s) Q)) Q)) (bEnd T fn k))
        | false => False
      | _, _ => False
    | _ => False
  | _ => False
section
variable {P : Program} {T : Tab} {call : ACall} {we : World} {me : Mp} {N kb : Nat} {D0 : List Deferred} {bm : Bool} {ro : Option Nat} {nn : Nat}
def isPl : Result Next → Bool
  | .ok (.value _) _ => true
  | .ok .skip _ => true
  | .halt _ _ => true
  | _ => false
theorem isPl_val (s : Sem Value) (w : World) : isPl ((do pure (Next.value (← s)) : Sem Next).run P w) = true := by
  cases h : s.run P w <;> simp [h, isPl]
theorem isPl_skip (s : Sem Unit) (w : World) : isPl ((do s; pure Next.skip : Sem Next).run P w) = true := by
  cases h : s.run P w <;> simp [h, isPl]
theorem exec_plain {o : Oper} (hp : plainOp o.op = true) (ρ : Operand → Value) (w : World) : isPl ((execOp ρ o).run P w) = true := by
  unfold execOp
  cases hop : o.op <;> rw [hop] at hp <;> first | (simp [plainOp] at hp; done) | exact isPl_val _ _ | exact isPl_skip _ _ | rfl
theorem aopsS_ok (hT : TabOk P T) (hcall : CallOk P call) {ops : Array Oper} {Q : Ex → AS → Prop} {cs : List Frame} (l : List Oper) : ∀ (i : Nat) (t : List (Nat × AV)) (K : List ABlk), (∀ j, l[j]? = ops[i + j]?) → plainL l = true →
    aops T call N ops.toList l t K Q → ∀ (w : World) (m : Mp) (a : Act), Tr we me w m → St w m (hp K) → EnvOk w m t a.tmps → a.tmps.size = N → Mk bm we D0 w m a.defers →
    wpOpsSIn (FW none) nn P ops (fun e a cs' w' => cs' = cs ∧ Rel bm N we me D0 Q e a w') (List.range' i l.length) a cs w := by
  induction l with
  | nil => intro i t K _ _ h w m a hTr hS hE hN hd; exact ⟨rfl, hN, m, ⟨t, K⟩, hd, hTr, hS, hE, h⟩
  | cons o rest ih =>
    intro i t K hl hp h w m a hTr hS hE hN hd
    simp only [plainL, Bool.and_eq_true] at hp
    obtain ⟨⟨hp1, hg⟩, hp2⟩ := hp
    have hg : o.guard = none := by simpa using hg
    rw [aops_cons] at h
    simp only [want, hg] at h
    obtain ⟨hb, h⟩ := bound_ok h
    have h0 : ops[i]? = some o := by simpa using (hl 0).symm
    simp only [List.length_cons, List.range'_succ, wpOpsSIn, h0]
    refine ⟨fun _ _ => trivial, ?_⟩
    rw [if_pos (by simp [Region.wanted, hg])]
    have hu := aopX_ok (ro := none) (nn := nn) (next := fun a w => wpOpsSIn (FW none) nn P ops (fun e a cs' w' => cs' = cs ∧ Rel bm N we me D0 Q e a w') (List.range' (i + 1) rest.length) a cs w)
      (Q := fun e a w => cs = cs ∧ Rel bm N we me D0 Q e a w) hT hcall hS hE (fun w' m' v K' u h1 h2 h3 h4 => ih (i + 1) _ _ (fun j => by have := hl (j + 1); simpa [Nat.add_assoc, Nat.add_comm 1 j] using this) hp2 h4 w' m' _ (hTr.trans h1) h2
        ((hE.mono h1).put (fun x hx => by rw [hN]; exact hb x hx) h3) (by rw [put_size]; exact hN) (by rw [put_defers]; exact hd.mono h1))
      (fun w' m' v K' u h1 h2 h3 h4 => ⟨rfl, hN, m', ⟨t, K'⟩, v, u, hd.mono h1, rfl, hTr.trans h1, h2, hE.mono h1, h3, h4⟩) h
    have hpl := exec_plain (P := P) hp1 a.eval w
    generalize (execOp a.eval o).run P w = r at hpl hu ⊢
    cases r with
    | ok x w' => cases x <;> first | exact hu | simp [isPl] at hpl
    | halt x w' => cases x <;> first | exact ⟨trivial, hu.2⟩ | exact hu.elim
theorem wpOpsSIn_mono {ops : Array Oper} {Q Q' : Exit → Act → List Frame → World → Prop} {l : List Nat} {a : Act} {cs : List Frame} {w : World} (h : wpOpsSIn (FW none) nn P ops Q l a cs w) (hq : ∀ e a cs w, Q e a cs w → Q' e a cs w) : wpOpsSIn (FW none) nn P ops Q' l a cs w := by
  induction l generalizing a cs w with
  | nil => exact hq _ _ _ _ h
  | cons i rest ih =>
    simp only [wpOpsSIn] at h ⊢
    cases ho : ops[i]? with
    | none => rw [ho] at h; exact ih h
    | some o =>
      rw [ho] at h
      simp only at h ⊢
      refine ⟨h.1, ?_⟩
      have h := h.2
      split at h
      · rename_i hw
        rw [if_pos hw]
        generalize (execOp a.eval o).run P w = r at h ⊢
        cases r with
        | ok x w' =>
          cases x with
          | recover =>
            simp only at h ⊢
            cases hrd : recoverD cs with
            | none => rw [hrd] at h; exact ih h
            | some x => rw [hrd] at h; exact ih h
          | value v => exact ih h
          | skip => exact ih h
          | _ => exact h.elim
        | halt x w' => cases x <;> first | exact hq _ _ _ _ h | exact h.elim
      · rename_i hw
        rw [if_neg hw]
        exact ih h
theorem ares_nores (hT : TabOk P T) {w : World} {m : Mp} {s : AS} {a : Act} (hS : St w m (hp s.K)) (hE : EnvOk w m s.t a.tmps) {fn : Func} {q : Prop} (h : ares T fn s fun _ => q) : (∃ u, (results fn a.tmps).run P w = .ok u w) ∧ q := by
  obtain ⟨u, v, h1, _, h3⟩ := ares_ok hT hS hE h
  exact ⟨⟨u, h1⟩, h3⟩
theorem recW_ok (hT : TabOk P T) (hcall : CallOk P call) (hmix : P.follows .mixedOrders = true) {g : FuncId} {fn : Func} (hf : P.funcs[g]? = some fn) {caps : List AV} {K : List ABlk} {rv : AV} {k : List ABlk → Prop} (h : recW T call fn caps K rv k)
    {w : World} {m : Mp} {U : Array Value} {u : FrameMode} (hS : St w m (hp K)) (hU : VL w m caps U)
    (hrec : ∀ (c₀ : Frame) cs, c₀.mode = u → ∃ x u', V w m rv x ∧ settle u' = .returning ∧ (recoverD (c₀ :: cs) = some (x, { c₀ with mode := u' } :: cs) ∨ (recoverD (c₀ :: cs) = none ∧ x = .nilIface ∧ u' = u))) :
    CallsDIn (FW none) nn P g U u w (fun e u' w' => (∃ v, e = .returned v) ∧ settle u' = .returning ∧ ∃ m' K', Tr w m w' m' ∧ St w' m' (hp K') ∧ k K') := by
  unfold recW at h
  split at h
  case h_2 => exact h.elim
  rename_i id ops y hb
  split at h
  case h_2 => exact h.elim
  rename_i o0 os hops
  split at h
  case h_2 => exact h.elim
  rename_i d hr0 hd0 hg0
  split at h
  case h_2 => exact h.elim
  rename_i hchk
  simp only [Bool.and_eq_true] at hchk
  obtain ⟨⟨⟨hpl, hle⟩, hdlt⟩, hrf⟩ := hchk
  have hle : caps.length ≤ fn.ntmps := by have := Nat.le_of_ble_eq_true hle; rwa [len_eq] at this
  have hdlt : d < fn.ntmps := Nat.le_of_ble_eq_true hdlt
  rw [fV_eq] at h
  have hkb : ∀ r, len K ≤ r → m.L r = .absent := fun r hr => hS.absent (by
    simp only [hp, nth_eq]
    rw [len_eq] at hr
    rw [List.getElem?_eq_none hr])
  refine callsDIn_of_wpSIn hf hb trivial fun c₀ cs hu => ?_
  obtain ⟨x, u', hx, hset, hrd⟩ := hrec c₀ cs hu
  refine wpSIn_seq (wpSIn_region ?_)
  have hsz : ops.size = os.length + 1 := by rw [← Array.length_toList, hops]; rfl
  have hr : List.range ops.size = 0 :: List.range' 1 os.length := by
    rw [hsz, List.range_eq_range', List.range'_succ]
  rw [hr]
  have h0 : ops[0]? = some o0 := by rw [← Array.getElem?_toList, hops]; rfl
  simp only [wpOpsSIn, h0]
  refine ⟨fun _ _ => trivial, ?_⟩
  rw [if_pos (by simp [Region.wanted, hg0])]
  have hexec : (execOp (Act.eval { tmps := U ++ Array.replicate (fn.ntmps - U.size) undef, defers := [] }) o0).run P w = .ok .recover w := by
    unfold isRec at hr0
    split at hr0
    case h_2 => simp at hr0
    rename_i c hop
    split at hr0
    case h_2 => simp at hr0
    rename_i hc
    unfold execOp
    simp only [hop, resolve, hc]
    simp [go_sem, invoke, builtin]
  rw [hexec]
  have hN : (U ++ Array.replicate (fn.ntmps - U.size) undef).size = fn.ntmps := by simp; have := hU.1; omega
  have hE0 : EnvOk w m ((d, rv) :: frame0 0 caps) ((U ++ Array.replicate (fn.ntmps - U.size) undef).setIfInBounds d x) := (EnvOk.frame hU _).set (by rw [hN]; exact hdlt) hx
  -- what stands behind the first operation
  have key : wpOpsSIn (FW none) nn P ops (Exit.thenS (y.wpSIn (FW none) nn P (bodyPostS P fn c₀ cs fun e u' w' => (∃ v, e = .returned v) ∧ settle u' = .returning ∧ ∃ m' K', Tr w m w' m' ∧ St w' m' (hp K') ∧ k K'))
      (bodyPostS P fn c₀ cs fun e u' w' => (∃ v, e = .returned v) ∧ settle u' = .returning ∧ ∃ m' K', Tr w m w' m' ∧ St w' m' (hp K') ∧ k K')) (List.range' 1 os.length)
      { tmps := (U ++ Array.replicate (fn.ntmps - U.size) undef).setIfInBounds d x, defers := [] } ({ c₀ with mode := u' } :: cs) w := by
    refine wpOpsSIn_mono (aopsS_ok (bm := false) (D0 := []) (we := w) (me := m) (cs := { c₀ with mode := u' } :: cs) hT hcall os 1 _ K (fun j => ?_) hpl h w m _ (Tr.refl w m) hS hE0 (by simpa using hN) .base) ?_
    · rw [← Array.getElem?_toList, hops, Nat.add_comm]; rfl
    rintro e a1 cs1 w1 ⟨rfl, hR⟩
    cases e with
    | normal =>
      obtain ⟨hN1, m1, s1, hd1, hT1, hS1, hE1, hQ⟩ := hR
      refine wpSIn_of_wpIn rfl (wpIn_mono (awp_ok (ro := none) (bm := false) (D0 := []) (we := w) (me := m) hT hcall hmix hkb (fun d hd => by simp at hd) y _ _ hQ w1 m1 a1 hT1 hS1 hE1 hN1 hd1 (.inr hrf)) fun e a2 w2 hR2 => ?_)
      have fin : ∀ (m2 : Mp) (s2 : AS), Mk false w [] w2 m2 a2.defers → Tr w m w2 m2 → St w2 m2 (hp s2.K) → EnvOk w2 m2 s2.t a2.tmps → (ares T fn s2 fun _ => fK s2.K k) →
          a2.defers = [] ∧ ∃ u1, ({ c₀ with mode := u' } :: cs : List Frame) = { c₀ with mode := u1 } :: cs ∧ ∃ v, (results fn a2.tmps).run P w2 = .ok v w2 ∧ ((∃ v', Ending.returned v = .returned v') ∧ settle u1 = .returning ∧ ∃ m' K', Tr w m w2 m' ∧ St w2 m' (hp K') ∧ k K') := by
        intro m2 s2 hd2 hT2 hS2 hE2 hQ2
        obtain ⟨⟨v, hv⟩, hk⟩ := ares_nores (a := a2) hT hS2 hE2 hQ2
        rw [fK_eq] at hk
        refine ⟨?_, u', rfl, v, hv, ⟨v, rfl⟩, hset, m2, s2.K, hT2, hS2, hk⟩
        generalize a2.defers = ds at hd2
        cases hd2 with
        | base => rfl
        | mark hb => simp at hb
      cases e with
      | normal => obtain ⟨_, m2, s2, hd2, hT2, hS2, hE2, hQ2⟩ := hR2; exact fin m2 s2 hd2 hT2 hS2 hE2 hQ2
      | ret => obtain ⟨_, m2, s2, hd2, hT2, hS2, hE2, hQ2⟩ := hR2; exact fin m2 s2 hd2 hT2 hS2 hE2 hQ2
      | exit n => obtain ⟨_, _, _, _, _, _, _, hQ2⟩ := hR2; exact hQ2.elim
      | panic ch => obtain ⟨_, _, _, _, _, _, _, _, _, _, _, hQ2⟩ := hR2; exact hQ2.elim
      | goto l => exact hR2.elim
      | outgrown => exact hR2.elim
    | exit n => obtain ⟨_, _, _, _, _, _, _, hQ2⟩ := hR; exact hQ2.elim
    | ret => obtain ⟨_, _, _, _, _, _, _, hQ2⟩ := hR; exact hQ2.elim
    | panic ch => obtain ⟨_, _, _, _, _, _, _, _, _, _, _, hQ2⟩ := hR; exact hQ2.elim
    | goto l => exact hR.elim
    | outgrown => exact hR.elim
  rcases hrd with hrd | ⟨hrd, rfl, rfl⟩
  · simp only [hrd, hd0, Act.put]
    exact key
  · simp only [hrd, hd0, Act.put]
    subst hu
    exact key
theorem mk_false {w : World} {m : Mp} {ds : List Deferred} (h : Mk false we D0 w m ds) : ds = D0 := by
  cases h with
  | base => rfl
  | mark hb => simp at hb
theorem bEnd_ok (hT : TabOk P T) {fn : Func} {k : AO → List ABlk → Prop} {e : Exit} {a : Act} {w : World} (h : Rel false N we me [] (bEnd T fn k) e a w) : bodyPostM (FW none) nn P fn (Post we me k) e a w := by
  cases e with
  | normal =>
    obtain ⟨_, m', s', hd, h1, h2, h3, h4⟩ := h
    obtain ⟨u, v, h5, h6, h7⟩ := ares_ok (s := s') (a := a) hT h2 h3 h4
    rw [fK_eq] at h7
    show LeavesInM (FW none) nn P fn a.tmps _ a.defers .returning w
    rw [mk_false hd]
    exact ⟨u, h5, m', v, s'.K, h1, h2, h6, h7⟩
  | ret =>
    obtain ⟨_, m', s', hd, h1, h2, h3, h4⟩ := h
    obtain ⟨u, v, h5, h6, h7⟩ := ares_ok (s := s') (a := a) hT h2 h3 h4
    rw [fK_eq] at h7
    show LeavesInM (FW none) nn P fn a.tmps _ a.defers .returning w
    rw [mk_false hd]
    exact ⟨u, h5, m', v, s'.K, h1, h2, h6, h7⟩
  | panic ch =>
    obtain ⟨_, m', s', v, u, hd, rfl, h1, h2, h3, h4, h5⟩ := h
    simp only [bEnd, fV_eq, fK_eq] at h5
    show LeavesInM (FW none) nn P fn a.tmps _ a.defers (.panicking _) w
    rw [mk_false hd]
    exact ⟨m', v, u, s'.K, rfl, h1, h2, h4, h5⟩
  | exit n => obtain ⟨_, _, _, _, _, _, _, h⟩ := h; exact h.elim
  | goto l => exact h
  | outgrown => exact h.elim
theorem dRes_ok (hT : TabOk P T) {fn : Func} {k : AO → List ABlk → Prop} {t : List (Nat × AV)} {K : List ABlk} {tmps : Array Value} {w : World} {m : Mp} (h : dRes T fn k t K) (hTr : Tr we me w m) (hS : St w m (hp K)) (hE : EnvOk w m t tmps) :
    LeavesInM (FW none) nn P fn tmps (Post we me k) [] .returning w := by
  unfold dRes at h
  obtain ⟨u, v, h5, h6, h7⟩ := ares_ok (s := ⟨t, K⟩) (a := { tmps := tmps, defers := [] }) hT hS hE h
  rw [fK_eq] at h7
  exact ⟨u, h5, m, v, K, hTr, hS, h6, h7⟩
theorem dEnd_ok (hT : TabOk P T) (hcall : CallOk P call) (hmix : P.follows .mixedOrders = true) {fn gf : Func} {g : FuncId} (hent : Ent P g) (hg : P.funcs[g]? = some gf) {caps : List AV} {U : Array Value} {k : AO → List ABlk → Prop} {w1 : World} {m1 : Mp}
    (hT1 : Tr we me w1 m1) (hU : VL w1 m1 caps U) {e : Exit} {a : Act} {w : World} (h : Rel false N w1 m1 [{ target := .fn (.func g) U, args := #[] }] (dEnd T call fn gf caps k) e a w) :
    bodyPostM (FW none) nn P fn (Post we me k) e a w := by
  have core : ∀ (u : FrameMode) (m' : Mp) (s' : AS) (rv : AV), u ≠ .run → Mk false w1 [{ target := .fn (.func g) U, args := #[] }] w m' a.defers → Tr w1 m1 w m' → St w m' (hp s'.K) → EnvOk w m' s'.t a.tmps →
      recW T call gf caps s'.K rv (dRes T fn k s'.t) →
      (∀ (c₀ : Frame) cs, c₀.mode = u → ∃ x u', V w m' rv x ∧ settle u' = .returning ∧ (recoverD (c₀ :: cs) = some (x, { c₀ with mode := u' } :: cs) ∨ (recoverD (c₀ :: cs) = none ∧ x = .nilIface ∧ u' = u))) →
      LeavesInM (FW none) nn P fn a.tmps (Post we me k) a.defers u w := by
    intro u m' s' rv hu hd h1 h2 h3 h4 hrec
    rw [mk_false hd]
    refine ⟨hu, .inr ⟨FW.depth, .func g, U, g, U, rfl, ?_, fun _ _ => trivial, ?_⟩⟩
    · simp [invoke, callFunc_run hent]
    · refine CallsDIn.mono (recW_ok hT hcall hmix hg h4 h2 ⟨hU.1, fun j hj hj' => (hU.2 j hj hj').mono h1⟩ hrec) ?_
      rintro e u' w' ⟨⟨v, rfl⟩, hset, m2, K2, h5, h6, h7⟩
      show LeavesInM (FW none) nn P fn a.tmps (Post we me k) [] (settle u') w'
      rw [hset]
      exact dRes_ok hT h7 (hT1.trans (h1.trans h5)) h6 (h3.mono h5)
  have ret : ∀ (m' : Mp) (c₀ : Frame) (cs : List Frame), c₀.mode = .returning → ∃ x u', V w m' (.p .nili) x ∧ settle u' = .returning ∧ (recoverD (c₀ :: cs) = some (x, { c₀ with mode := u' } :: cs) ∨ (recoverD (c₀ :: cs) = none ∧ x = .nilIface ∧ u' = .returning)) :=
    fun m' c₀ cs hc => ⟨.nilIface, .returning, .p _ _ .nili, rfl, .inr ⟨by simp [recoverD, hc], rfl, rfl⟩⟩
  cases e with
  | normal =>
    obtain ⟨_, m', s', hd, h1, h2, h3, h4⟩ := h
    exact core .returning m' s' _ (by simp) hd h1 h2 h3 h4 (ret m')
  | ret =>
    obtain ⟨_, m', s', hd, h1, h2, h3, h4⟩ := h
    exact core .returning m' s' _ (by simp) hd h1 h2 h3 h4 (ret m')
  | panic ch =>
    obtain ⟨_, m', s', v, u, hd, rfl, h1, h2, h3, h4, h5⟩ := h
    exact core (.panicking [{ v := u, recovered := false }]) m' s' v (by simp) hd h1 h2 h3 h5 fun c₀ cs hc => ⟨u, .panicking [{ v := u, recovered := true }], h4, rfl, .inl (by simp [recoverD, hc])⟩
  | exit n => obtain ⟨_, _, _, _, _, _, _, h⟩ := h; exact h.elim
  | goto l => exact h
  | outgrown => exact h.elim
theorem defer_exec {o : Oper} {d : Nat} (h : deferOf o = some d) {ρ : Operand → Value} {g : FuncId} {B : Array Value} (hv : ρ (.tmp d) = .func (.func g) #[] B) (w : World) :
    o.dst = none ∧ o.guard = none ∧ (execOp ρ o).run P w = .ok (.defer { target := .fn (.func g) B, args := #[] }) w := by
  unfold deferOf at h
  split at h
  case h_2 => simp at h
  rename_i c hop
  split at h
  case h_2 => simp at h
  rename_i x hc
  split at h
  case h_2 => simp at h
  rename_i hargs
  split at h
  case h_2 => simp at h
  rename_i hdst
  split at h
  case h_2 => simp at h
  rename_i hg
  simp only [Option.some.injEq] at h
  subst h
  have hargs : c.args = #[] := by apply Array.ext'; simpa using hargs
  refine ⟨hdst, hg, ?_⟩
  unfold execOp
  simp only [hop]
  simp [resolve, hc, hv, hargs, Deferred.ofValue]
theorem abodyD_ok (hT : TabOk P T) (hcall : CallOk P call) (hmix : P.follows .mixedOrders = true) {f : FuncId} {fn : Func} (hf : P.funcs[f]? = some fn) (hn : (fn.name == "runtime.NumGoroutine") = false) {args : List AV} {K : List ABlk} {k : AO → List ABlk → Prop}
    (h : abodyD T call fn args K k) : ACalls P f args K k := by
  unfold abodyD at h
  split at h
  case h_2 => exact h.elim
  rename_i c1 c2 c3 id ops y hb
  split at h
  case h_2 => exact h.elim
  rename_i o1 o2 hops
  split at h
  case h_2 => exact h.elim
  rename_i d hdo hg1
  split at h
  case h_2 => exact h.elim
  rename_i hchk
  simp only [Bool.and_eq_true] at hchk
  obtain ⟨⟨⟨⟨hle, hn1⟩, hn2⟩, hn3⟩, hn4⟩ := hchk
  have hle : args.length ≤ fn.ntmps := by have := Nat.le_of_ble_eq_true hle; rwa [len_eq] at this
  refine ⟨⟨fn, hf, hn, by rw [hb]; rfl⟩, fun w m Args hS hA => (callsIn_wide (n := 0)).1 (callsIn_of_wp_marks hf hb trivial ?_)⟩
  show Code.wpIn (FW none) 0 P _ (bodyPostM (FW none) 0 P fn (Post w m k)) _ w
  rw [fK_eq] at h
  have hkb : ∀ r, len K ≤ r → m.L r = .absent := fun r hr => hS.absent (by
    simp only [hp, nth_eq]
    rw [len_eq] at hr
    rw [List.getElem?_eq_none hr])
  have hD0 : ∀ d ∈ ([] : List Deferred), ∀ D, d.target ≠ .collected D := fun d hd => by simp at hd
  refine wpIn_seq (wpIn_mono (awp_ok (ro := none) (bm := false) (D0 := []) (we := w) (me := m) hT hcall hmix hkb hD0 c1 _ _ h w m _ (Tr.refl w m) hS (EnvOk.frame hA _) (by simp; have := hA.1; omega) .base (.inr hn1)) fun e a1 w1 hR => ?_)
  cases e with
  | exit n => exact bEnd_ok (nn := 0) (e := .exit n) (N := fn.ntmps) hT (show Rel false fn.ntmps w m [] (bEnd T fn k) (.exit n) a1 w1 from hR)
  | ret => exact bEnd_ok (nn := 0) (e := .ret) (N := fn.ntmps) hT (show Rel false fn.ntmps w m [] (bEnd T fn k) .ret a1 w1 from hR)
  | panic ch => exact bEnd_ok (nn := 0) (e := .panic ch) (N := fn.ntmps) hT (show Rel false fn.ntmps w m [] (bEnd T fn k) (.panic ch) a1 w1 from hR)
  | goto l => exact hR.elim
  | outgrown => exact hR.elim
  | normal =>
  obtain ⟨hN1, m1, s1, hd1, hT1, hS1, hE1, h1⟩ := hR
  refine wpIn_seq (wpIn_mono (awp_ok (ro := none) (bm := false) (D0 := []) (we := w) (me := m) hT hcall hmix hkb hD0 c2 _ _ h1 w1 m1 a1 hT1 hS1 hE1 hN1 hd1 (.inr hn2)) fun e a2 w2 hR => ?_)
  cases e with
  | exit n => exact bEnd_ok (nn := 0) (e := .exit n) (N := fn.ntmps) hT (show Rel false fn.ntmps w m [] (bEnd T fn k) (.exit n) a2 w2 from hR)
  | ret => exact bEnd_ok (nn := 0) (e := .ret) (N := fn.ntmps) hT (show Rel false fn.ntmps w m [] (bEnd T fn k) .ret a2 w2 from hR)
  | panic ch => exact bEnd_ok (nn := 0) (e := .panic ch) (N := fn.ntmps) hT (show Rel false fn.ntmps w m [] (bEnd T fn k) (.panic ch) a2 w2 from hR)
  | goto l => exact hR.elim
  | outgrown => exact hR.elim
  | normal =>
  obtain ⟨hN2, m2, s2, hd2, hT2, hS2, hE2, h2⟩ := hR
  refine wpIn_seq (wpIn_mono (awp_ok (ro := none) (bm := false) (D0 := []) (we := w) (me := m) hT hcall hmix hkb hD0 c3 _ _ h2 w2 m2 a2 hT2 hS2 hE2 hN2 hd2 (.inr hn3)) fun e a3 w3 hR => ?_)
  cases e with
  | exit n => exact bEnd_ok (nn := 0) (e := .exit n) (N := fn.ntmps) hT (show Rel false fn.ntmps w m [] (bEnd T fn k) (.exit n) a3 w3 from hR)
  | ret => exact bEnd_ok (nn := 0) (e := .ret) (N := fn.ntmps) hT (show Rel false fn.ntmps w m [] (bEnd T fn k) .ret a3 w3 from hR)
  | panic ch => exact bEnd_ok (nn := 0) (e := .panic ch) (N := fn.ntmps) hT (show Rel false fn.ntmps w m [] (bEnd T fn k) (.panic ch) a3 w3 from hR)
  | goto l => exact hR.elim
  | outgrown => exact hR.elim
  | normal =>
  obtain ⟨hN3, m3, s3, hd3, hT3, hS3, hE3, h3⟩ := hR
  simp only [wSeqK, dMid] at h3
  obtain ⟨hb1, h3⟩ := bound_ok h3
  refine wpIn_seq (wpIn_region_list ?_)
  rw [hops]
  unfold wpListIn
  rw [if_pos (by simp [Region.wanted, hg1])]
  refine ⟨fun _ _ => trivial, ?_⟩
  rw [show (FW none).round = none from rfl, Oper.semAt_none]
  refine aop_ok (ro := none) hT hcall hS3 hE3 (fun w4 m4 v K4 u hT4 hS4 hV4 h4 => ?_) (fun w' m' v K' u _ _ _ h4 => h4.elim) h3
  have hE4 := (hE3.mono hT4).put (a := a3) (d := o1.dst) (fun x hx => by rw [hN3]; exact hb1 x hx) hV4
  have hvd := hE4 d
  split at h4
  case h_2 => exact h4.elim
  rename_i g first caps hlk
  split at h4
  case h_2 => exact h4.elim
  split at h4
  case h_2 => exact h4.elim
  rename_i gf hgf
  split at h4
  case h_2 => exact h4.elim
  rename_i hbody
  obtain ⟨hg2, hg3⟩ := hT.f g gf hgf
  rw [hlk] at hvd
  generalize hud : (a3.put o1.dst u).tmps.getD d undef = ud at hvd
  cases hvd with
  | fn _ _ _ A B hA' hB h1 h2' =>
  have hA0 : A = #[] := by
    have : A.size = 0 := by simpa using hA'.symm
    exact Array.eq_empty_of_size_eq_zero this
  subst hA0
  have hev : (a3.put o1.dst u).eval (.tmp d) = .func (.func g) #[] B := hud
  obtain ⟨hx1, hx2, hx3⟩ := defer_exec (P := P) hdo hev w4
  unfold wpListIn
  rw [if_pos (by simp [Region.wanted, hx2])]
  refine ⟨fun _ _ => trivial, ?_⟩
  rw [show (FW none).round = none from rfl, Oper.semAt_none, hx3, Oper.uponIn_defer, hx1]
  show Code.wpIn _ _ _ y _ { a3.put o1.dst u with defers := _ } w4
  have hda : (a3.put o1.dst u).defers = [] := by rw [put_defers]; exact mk_false hd3
  rw [hda]
  have hkb4 : ∀ r, len K4 ≤ r → m4.L r = .absent := fun r hr => hS4.absent (by
    simp only [hp, nth_eq]
    rw [len_eq] at hr
    rw [List.getElem?_eq_none hr])
  have hent : Ent P g := ⟨gf, hg2, hg3, hbody⟩
  refine wpIn_mono (awp_ok (ro := none) (bm := false) (D0 := [{ target := .fn (.func g) B, args := #[] }]) (we := w4) (me := m4) hT hcall hmix hkb4 (fun d hd D => by
    simp only [List.mem_singleton] at hd; subst hd; simp) y _ _ h4 w4 m4 _ (Tr.refl w4 m4) hS4 hE4 (by rw [put_size]; exact hN3) .base (.inr hn4)) fun e a' w' hR => dEnd_ok hT hcall hmix hent hg2 (hT3.trans hT4) ⟨hB, h2'⟩ hR
end
end Go.AE

namespace Go.Proofs.YtojjkleplnijaaaGreatDoor
open Go.AE Go.Ru
set_option maxRecDepth 100000
def cStd (S : Int → PS → R Int) : AC := fun args K k => ∃ e ts ns mo X, args = [pp] ∧ K = encP e ts ns 0 mo ++ X ∧ Fine 40 ts ns ∧ After e (S e ⟨ts, ns, mo⟩) intV 0 X k
def pbW (e : Int) (ts : List Tok) (nv : AV) (mo : Int) : ABlk := .box 129 [.p (.sl 4 (ts.length + 1) (encs e ts)), nv, intV 0, intV mo]
def cWhat (S : Int → PS → R Int) : AC := fun args K k => ∃ (e : Int) (ts : List Tok) (y0 y1 y2 y3 : ABlk), args = [.ptr 4 0 1 0 0] ∧ K = [y0, y1, y2, y3, pbW e ts (.p .nils) 0] ∧ Fine 40 ts [] ∧
  (∀ a ts' ns' mo', S e ⟨ts, [], 0⟩ = .ok a ⟨ts', ns', mo'⟩ → k (.ret (intV a)) [y0, y1, y2, y3, pbW e ts' (.p (.sl 5 ns'.length (nodeF ns'))) mo', .dead]) ∧
  (∀ a er, S e ⟨ts, [], 0⟩ = .bad a er → k (.pan (wrongV a er)) [y0, y1, y2, y3, .dead, .dead])
theorem ups_pvs (n : Nat) (l : List PV) : AV.ups n (pvs l) = pvs l := by
  induction l with
  | nil => rfl
  | cons a l ih => simp [pvs, AV.ups, AV.up, ih]
theorem what_ok {f : FuncId} {S : Int → PS → R Int} (h0 : COk f (cStd S)) : COk f (cWhat S) := by
  rintro args K k ⟨e, ts, y0, y1, y2, y3, rfl, rfl, hf, hk1, hk2⟩
  refine ACalls.post (k := fun ao K1 => (∃ a ts' ns' mo', S e ⟨ts, [], 0⟩ = .ok a ⟨ts', ns', mo'⟩ ∧ ao = .ret (intV a) ∧ K1 = [y0, y1, y2, y3] ++ upsB 4 (encP e ts' ns' 0 mo')) ∨
    (∃ a er, S e ⟨ts, [], 0⟩ = .bad a er ∧ ao = .pan (wrongV a er) ∧ K1 = [y0, y1, y2, y3, .dead, .dead])) ?_ ?_
  · refine ACalls.nilPre (K' := [y0, y1, y2, y3, pbW e ts (.slr 5 0 0 0) 0]) 61 5 (fun i => pvs (nodeF [] i)) ⟨.inl (ABlk.le_refl _), .inl (ABlk.le_refl _), .inl (ABlk.le_refl _), .inl (ABlk.le_refl _), .inr ⟨_, _, _, rfl, rfl, .inl (AV.le_refl _), .inr ⟨rfl, rfl⟩, .inl (AV.le_refl _), .inl (AV.le_refl _), trivial⟩, trivial⟩ ?_
    refine ACalls.shift (n := 4) (Y := [y0, y1, y2, y3]) (K1 := [pbW e ts (.slr 5 0 0 0) 0, .arr 61 5 0 0 (fun i => pvs (nodeF [] i))]) rfl ⟨trivial, trivial, trivial⟩ ?_
    refine ACalls.pre (args' := [pp]) (K' := encP e ts [] 0 0 ++ []) ?_ (fun w m Args hS hV => ⟨m, Tr.refl w m, hS.les ?_, hV⟩)
    · refine h0 _ _ _ ⟨e, ts, [], 0, [], rfl, rfl, hf, ⟨fun a ts' ns' mo' hr => ?_, fun a er hr => ?_⟩⟩
      · exact ⟨⟨trivial, trivial, trivial⟩, .inl ⟨a, ts', ns', mo', hr, rfl, rfl⟩⟩
      · exact ⟨⟨trivial, trivial, trivial⟩, .inr ⟨a, er, hr, rfl, rfl⟩⟩
    · exact ⟨ABlk.le_refl _, ABlk.arr_eq rfl fun i hi => by simp at hi, trivial⟩
  · rintro ao K1 (⟨a, ts', ns', mo', hr, rfl, rfl⟩ | ⟨a, er, hr, rfl, rfl⟩)
    · refine ⟨intV a, _, Wk1.fz (r := 5) (ty := 61) (sz := 5) (n := ns'.length) (f := fun i => AV.ups 4 (pvs (nodeF ns' i))) (nodeF ns') rfl (fun i _ => ups_pvs _ _) ?_ (AV.le_refl _), hk1 a ts' ns' mo' hr⟩
      exact ⟨.inl (ABlk.le_refl _), .inl (ABlk.le_refl _), .inl (ABlk.le_refl _), .inl (ABlk.le_refl _), .inr ⟨_, _, _, rfl, rfl, .inl (AV.le_refl _), .inr ⟨rfl, rfl⟩, .inl (AV.le_refl _), .inl (AV.le_refl _), trivial⟩, .inl (ABlk.le_refl _), trivial⟩
    · exact ⟨_, _, Wk1.refl _ _ _, hk2 a er hr⟩
inductive RR where
  | bad (at_ err : Int)
  | ok (ns : List Nd) (root mo : Int)
def readS (S : Int → PS → R Int) (s : Bs) : RR :=
  if s.length > 20000 then .bad 0 7 else match cutT s with
  | .bad a => .bad a 2
  | .ok ts => match S s.length ⟨ts, [], 0⟩ with
    | .bad a er => .bad a er
    | .ok root s' => match s'.ts with
      | t :: _ => .bad t.at_ 2
      | [] => if 4000 < s'.ns.length then .bad 0 8 else if 40 < depthS s'.ns root then .bad 0 6 else .ok s'.ns root s'.mo
def readV : RR → AV
  | .bad a er => .tup [.agg [.p .nils, intV 0], intV 0, intV a, intV er]
  | .ok ns root mo => .tup [treeV ns root, intV mo, intV 0, intV 0]
theorem runS_le (l r : Bs) : runS l r ≤ r.length := by
  unfold runS
  exact (List.takeWhile_sublist _).length_le
theorem cutS_len : ∀ (n : Nat) (r : Bs) (i : Nat) (l : List Tok), cutS n r i = .ok l → l.length ≤ r.length := by
  intro n
  induction n with
  | zero => intro r i l h; simp only [cutS, CR.ok.injEq] at h; subst h; exact Nat.zero_le _
  | succ n ih =>
    intro r i l h
    cases r with
    | nil => simp only [cutS, CR.ok.injEq] at h; subst h; exact Nat.zero_le _
    | cons c r' =>
      simp only [cutS] at h
      split at h
      · have := ih _ _ _ h
        simp only [List.length_drop] at this; omega
      split at h
      · have := ih _ _ _ h
        have h2 := (List.dropWhile_sublist (fun c => !(c == (10 : UInt8))) (l := c :: r')).length_le
        omega
      split at h
      · rename_i hp
        split at h
        · cases h
        · rename_i k v hw
          cases hc : cutS n ((c :: r').drop (runS partsT (c :: r'))) (i + runS partsT (c :: r')) with
          | bad a => rw [hc] at h; simp [CR.cons] at h
          | ok l' =>
            rw [hc] at h
            simp only [CR.cons, CR.ok.injEq] at h
            subst h
            have := ih _ _ _ hc
            simp only [List.length_drop, List.length_cons] at this ⊢; omega
      · split at h
        · cases h
        · rename_i m hm
          cases hc : cutS n ((c :: r').drop (m + 1)) (i + (m + 1)) with
          | bad a => rw [hc] at h; simp [CR.cons] at h
          | ok l' =>
            rw [hc] at h
            simp only [CR.cons, CR.ok.injEq] at h
            subst h
            have := ih _ _ _ hc
            simp only [List.length_drop, List.length_cons] at this ⊢; omega
theorem call_okD {G : AG} (hG : GOk Tryz.prog G) (n : Nat) {f : FuncId} {fn : Func} (hf : T0.f.get f = some fn) {args : List AV} {K : List ABlk} {k : AO → List ABlk → Prop} (h : abodyD T0 (acall T0 G n) fn args K k) : ACalls Tryz.prog f args K k := by
  obtain ⟨h1, h2⟩ := tabOk.f f fn hf
  exact abodyD_ok tabOk (acall_ok tabOk (Checked.mixed Tryz.checked) hG n) (Checked.mixed Tryz.checked) h1 h2 h
theorem frame0D {G : AG} (hG : GOk Tryz.prog G) (n : Nat) {f : FuncId} {fn : Func} (hf : T0.f.get f = some fn) {args : List AV} {X : List ABlk} {k : AO → List ABlk → Prop} (hcl : AV.cls 0 args = true)
    (h : ∀ Q : AO → List ABlk → Prop, (∀ v K', v.cl 0 = true → k (.ret v) X → Q (.ret v) K') → abodyD T0 (acall T0 G n) fn args [] Q) : ACalls Tryz.prog f args X k := by
  refine (ACalls.frame (K0 := []) (X := X) (k := fun ao K1 => k ao (K1 ++ X)) hcl (fun r h => by simp at h) (call_okD hG n hf (h _ ?_))).mono fun ao K ⟨K1, h1, h2⟩ => by subst h1; exact h2
  intro v K' h1 h2
  refine ⟨h1, by simp, fun r hr => by simp at hr, ?_⟩
  show k (.ret v) (takeN K' 0 ++ X)
  rw [takeN_zero]; exact h2
def gRd (f : FuncId) (S : Int → PS → R Int) : AG := gput 128 cCutT (gput f (cWhat S) (gput 86 cDepth g0))
theorem gRd_ok {f : FuncId} {S : Int → PS → R Int} (h0 : COk f (cStd S)) : GOk Tryz.prog (gRd f S) := gput_ok cutT_ok (gput_ok (what_ok h0) (gput_ok depth_ok g0_ok))
def cRead (f : FuncId) (S : Int → PS → R Int) : AC := fun args K k => ∃ s, args = [.p (.str s), .p (.fn f)] ∧ s.length < 1000000 ∧ k (.ret (readV (readS S s))) K
theorem readP_ok (S : Int → PS → R Int) (hS : ∀ e ts a s', List.length ts ≤ 20000 → S e ⟨ts, [], 0⟩ = .ok a s' → s'.ns.length < 1000000) (h0 : COk 84 (cStd S)) :
    COk 83 (cRead 84 S) := by
    rintro args K k ⟨s, rfl, hs, hk⟩
    refine frame0D (gRd_ok h0) 19 rfl rfl fun Q hr => ?_
    conv => whnf
    refine ⟨s, rfl, hs, fun h => ?_, fun h => ?_⟩
    · have e : readS S s = .bad 0 7 := by unfold readS; rw [if_pos h]
      rw [e] at hk
      conv => whnf
      repeat ((refine And.intro ?_ ?_); (focus ((conv => whnf); done)); (conv => whnf))
      exact hr _ _ rfl hk
    unfold readS at hk
    rw [if_neg (by omega)] at hk
    cases hc : cutT s with
    | bad a =>
      rw [hc] at hk
      conv => whnf
      repeat ((refine And.intro ?_ ?_); (focus ((conv => whnf); done)); (conv => whnf))
      exact hr _ _ rfl hk
    | ok ts =>
      rw [hc] at hk
      have hln : ts.length ≤ s.length := cutS_len _ _ _ _ hc
      simp only at hk
      conv => whnf
      refine ⟨s.length, ts, _, _, _, _, rfl, rfl, ⟨Nat.le_refl _, by simp only [List.length_nil]; omega⟩, fun a ts2 ns2 mo2 hp => ?_, fun a er hp => ?_⟩
      · have hns := hS _ _ _ _ (by omega) hp
        rw [hp] at hk
        simp only at hk hns
        cases ts2 with
        | cons t r =>
          obtain ⟨tk, tn, ta, tx⟩ := t
          cases tk <;>
          · conv => whnf
            refine ⟨by simp <;> omega, ?_⟩
            conv => whnf
            refine ⟨by simp <;> omega, ?_⟩
            conv => whnf
            repeat ((refine And.intro ?_ ?_); (focus ((conv => whnf); done)); (conv => whnf))
            exact hr _ _ rfl hk
        | nil =>
          conv => whnf
          refine ⟨by simp, ?_⟩
          conv => whnf
          have hd1 : decide ((ns2.length : Int) > 4000) = decide (4000 < ns2.length) := by
            by_cases h : 4000 < ns2.length
            · rw [decide_eq_true h, decide_eq_true (by omega)]
            · rw [decide_eq_false h, decide_eq_false (by omega)]
          refine two_intro (fun h1 => ?_) (fun h1 => ?_)
          · have h1 := of_decide_eq_true (hd1 ▸ h1)
            rw [if_pos h1] at hk
            conv => whnf
            repeat ((refine And.intro ?_ ?_); (focus ((conv => whnf); done)); (conv => whnf))
            exact hr _ _ rfl hk
          have h1 := of_decide_eq_false (hd1 ▸ h1)
          rw [if_neg h1] at hk
          conv => whnf
          refine ⟨ns2, a, rfl, hns, ?_⟩
          conv => whnf
          have hd2 : decide (((depthS ns2 a : Nat) : Int) > 40) = decide (40 < depthS ns2 a) := by
            by_cases h : 40 < depthS ns2 a
            · rw [decide_eq_true h, decide_eq_true (by omega)]
            · rw [decide_eq_false h, decide_eq_false (by omega)]
          refine two_intro (fun h2 => ?_) (fun h2 => ?_)
          · have h2 := of_decide_eq_true (hd2 ▸ h2)
            rw [if_pos h2] at hk
            conv => whnf
            repeat ((refine And.intro ?_ ?_); (focus ((conv => whnf); done)); (conv => whnf))
            exact hr _ _ rfl hk
          have h2 := of_decide_eq_false (hd2 ▸ h2)
          rw [if_neg h2] at hk
          conv => whnf
          repeat ((refine And.intro ?_ ?_); (focus ((conv => whnf); done)); (conv => whnf))
          exact hr _ _ rfl hk
      · rw [hp] at hk
        simp only at hk
        conv => whnf
        repeat ((refine And.intro ?_ ?_); (focus ((conv => whnf); done)); (conv => whnf))
        exact hr _ _ rfl hk
theorem programS_len (e : Int) (ts : List Tok) (a : Int) (s' : PS) (hl : ts.length ≤ 20000) (h : programS e ⟨ts, [], 0⟩ = .ok a s') : s'.ns.length < 1000000 := by
  have : Okk (programS e ⟨ts, [], 0⟩) (fun s' => s'.ns.length < 1000000) := by
    unfold programS
    refine Okk.bind (vars_le e 2 ⟨ts, [], 0⟩) fun l s1 h1 => Okk.bind (procsL_le e 40 _ l s1) fun l2 s2 h2 => (put_len _ s2).imp fun s3 h3 => ?_
    simp only [Lw, List.length_nil] at h1 h2 h3
    omega
  exact this a s' h
abbrev proS (s : Bs) : RR := readS programS s
def gPr : AG := gput 83 (cRead 84 programS) g0
theorem gPr_ok : GOk Tryz.prog gPr := gput_ok (readP_ok programS programS_len program_ok) g0_ok
def topV : RR → AV
  | .bad a er => .tup [.agg [.p .nils, intV 0], intV a, intV er]
  | .ok ns root _ => .tup [treeV ns root, intV 0, intV 0]
def cTop (S : Bs → RR) : AC := fun args K k => ∃ s, args = [.p (.str s)] ∧ s.length < 1000000 ∧ k (.ret (topV (S s))) K
theorem Program_ok : COk 43 (cTop proS) := by
  rintro args K k ⟨s, rfl, hs, hk⟩
  refine frame0P gPr_ok 19 rfl fun Q hr => ?_
  conv => whnf
  refine ⟨s, rfl, hs, ?_⟩
  cases h : readS programS s with
  | bad a er =>
    rw [show proS s = _ from h] at hk
    conv => whnf
    exact hr _ _ rfl hk
  | ok ns root mo =>
    rw [show proS s = _ from h] at hk
    conv => whnf
    exact hr _ _ rfl hk
def RR.err : RR → Int
  | .bad _ er => er
  | .ok _ _ _ => 0
def RR.most : RR → Int
  | .bad _ _ => 0
  | .ok _ _ mo => mo
def RR.place : RR → Int
  | .bad a _ => a
  | .ok _ _ _ => 0
def RR.tree : RR → AV
  | .bad _ _ => .agg [.p .nils, intV 0]
  | .ok ns root _ => treeV ns root
theorem readV_eq (r : RR) : readV r = .tup [r.tree, intV r.most, intV r.place, intV r.err] := by cases r <;> rfl
end Go.Proofs.YtojjkleplnijaaaGreatDoor

namespace Go.Ru
def smallS (m : Nat) (ns : List Nd) : Bool := decide (ns.length ≤ m) && ns.all fun n => decide (n.kids.length ≤ m) && decide (n.tx.length ≤ 200)
end Go.Ru
namespace Go.Proofs.YtojjkleplnijaaaGreatDoor
open Go.AE Go.Ru
set_option maxRecDepth 100000
set_option maxHeartbeats 1000000
theorem small_tame {m : Nat} {ns : List Nd} (hm : m < 1000000) (h : smallS m ns = true) : Tame ns := by
  simp only [smallS, Bool.and_eq_true, decide_eq_true_eq, List.all_eq_true] at h
  refine ⟨by omega, fun i => ?_⟩
  by_cases hi : i < ns.length
  · have := (h.2 ns[i] (List.getElem_mem hi)).2
    rw [List.getD_eq_getElem?_getD, List.getElem?_eq_getElem hi]
    simp only [Option.getD_some]; omega
  · rw [List.getD_eq_getElem?_getD, List.getElem?_eq_none (by omega)]
    exact Nat.lt_of_le_of_lt (Nat.zero_le _) (by decide : 0 < 1000000)
def cSmall (m : Nat) : AC := fun args K k => ∃ ns root, args = [treeV ns root] ∧ k (.ret (.p (.bool (smallS m ns)))) K
theorem small7_ok : COk 8 (cSmall 400) := by
  rintro args K k ⟨ns, root, rfl, hk⟩
  refine frame0P g0_ok 19 rfl fun Q hr => ?_
  conv => whnf
  refine two_dec (fun h => ?_) (fun h => ?_)
  · have h : ¬ ns.length ≤ 400 := by have h : (ns.length : Int) > 400 := h; omega
    rw [show smallS 400 ns = false by simp [smallS, h]] at hk
    conv => whnf
    exact hr _ _ rfl hk
  have h : ns.length ≤ 400 := by have h : ¬ (ns.length : Int) > 400 := h; omega
  conv => whnf
  refine loop_up (ι := Nat) [1] (fun i => [(3, intV i)]) (fun _ => []) (fun i => i ≤ ns.length ∧ (ns.drop i).all (fun n => decide (n.kids.length ≤ 400) && decide (n.tx.length ≤ 200)) = smallS 400 ns) (fun i => ns.length - i) 0 ⟨AV.le_refl _, trivial⟩ trivial ⟨Nat.zero_le _, by simp [smallS, h]⟩ ?_
  rintro Y hle i ⟨hi, he⟩ ih
  conv => whnf
  refine two_dec (fun h2 => ?_) (fun h2 => ?_)
  · have h2 : i < ns.length := by have h2 : (i : Int) < (ns.length : Int) := h2; omega
    have hw1 := wzz (i := i) (by omega)
    rw [List.drop_eq_getElem_cons h2, List.all_cons] at he
    have e1 : ns[i] = nd ns i := by simp [nd, h2]
    rw [e1] at he
    conv => whnf
    refine ⟨⟨by omega, by omega, rfl⟩, ?_⟩
    conv => whnf
    refine two_dec (fun h3 => ?_) (fun h3 => ?_)
    · have h3 : ¬ (nd ns i).kids.length ≤ 400 := by have h3 : ((nd ns i).kids.length : Int) > 400 := h3; omega
      rw [decide_eq_false h3, Bool.false_and, Bool.false_and] at he
      rw [← he] at hk
      conv => whnf
      exact hr _ _ rfl hk
    have h3 : (nd ns i).kids.length ≤ 400 := by have h3 : ¬ ((nd ns i).kids.length : Int) > 400 := h3; omega
    rw [decide_eq_true h3, Bool.true_and] at he
    conv => whnf
    refine ⟨⟨by omega, by omega, rfl⟩, ?_⟩
    conv => whnf
    refine two_dec (fun h4 => ?_) (fun h4 => ?_)
    · have h4 : ¬ (nd ns i).tx.length ≤ 200 := by have h4 : ((nd ns i).tx.length : Int) > 200 := h4; omega
      rw [decide_eq_false h4, Bool.false_and] at he
      rw [← he] at hk
      conv => whnf
      exact hr _ _ rfl hk
    have h4 : (nd ns i).tx.length ≤ 200 := by have h4 : ¬ ((nd ns i).tx.length : Int) > 200 := h4; omega
    rw [decide_eq_true h4, Bool.true_and] at he
    conv => whnf
    refine hle _ _ (Le.env ?_ ?_) (ih (i + 1) (by omega) ⟨by omega, he⟩)
    · skip
      repeat' (first | exact trivial | ((conv => whnf); first | exact trivial | (refine And.intro (AV.le_refl _) ?_) | (refine And.intro (ABlk.le_refl _) ?_) | (refine And.intro (AV.le_of_eq ?_) ?_; (focus ((first | exact congrArg intV hw1 | fail); done))) | (refine And.intro (ABlk.le_of_eq ?_) ?_; (focus ((first | exact congrArg intV hw1 | fail); done))) | fail) | fail)
    · skip
      repeat' (first | exact trivial | ((conv => whnf); first | exact trivial | (refine And.intro (AV.le_refl _) ?_) | (refine And.intro (ABlk.le_refl _) ?_) | (refine And.intro (AV.le_of_eq ?_) ?_; (focus ((first | fail | fail); done))) | (refine And.intro (ABlk.le_of_eq ?_) ?_; (focus ((first | fail | fail); done))) | fail) | fail)
  · obtain rfl : i = ns.length := by have h2 : ¬ (i : Int) < (ns.length : Int) := h2; omega
    rw [List.drop_length, List.all_nil] at he
    rw [← he] at hk
    conv => whnf
    exact hr _ _ rfl hk
def pr1 : List Nd := [⟨5, 1, 14, [120], []⟩, ⟨21, 1, 29, [], []⟩, ⟨7, 0, 25, [120], [1]⟩, ⟨6, 0, 12, [], [2]⟩, ⟨3, 0, 0, [109, 97, 105, 110], [0, 3]⟩, ⟨1, 0, 0, [], [4]⟩]
def pr2 : List Nd := [⟨6, 0, 9, [], []⟩, ⟨3, 0, 0, [102], [0]⟩, ⟨1, 0, 0, [], [1]⟩]
def pr3 : List Nd := [⟨20, 1, 18, [], []⟩, ⟨7, 0, 14, [121], [0]⟩, ⟨6, 0, 12, [], [1]⟩, ⟨3, 0, 0, [109, 97, 105, 110], [2]⟩, ⟨1, 0, 0, [], [3]⟩]
theorem pr1_eq : proS [112, 114, 111, 99, 32, 109, 97, 105, 110, 40, 41, 32, 123, 32, 118, 97, 114, 32, 120, 32, 105, 110, 116, 59, 32, 120, 32, 61, 32, 116, 114, 117, 101, 59, 32, 125] = .ok pr1 5 1 := by kernel_rfl
theorem pr2_eq : proS [112, 114, 111, 99, 32, 102, 40, 41, 32, 123, 32, 125] = .ok pr2 2 1 := by kernel_rfl
theorem pr3_eq : proS [112, 114, 111, 99, 32, 109, 97, 105, 110, 40, 41, 32, 123, 32, 121, 32, 61, 32, 49, 59, 32, 125] = .ok pr3 4 1 := by kernel_rfl
theorem ck1_eq : checkTree pr1 5 = (2, 5) := by kernel_rfl
theorem ck2_eq : checkTree pr2 2 = (2, 11) := by kernel_rfl
theorem ck3_eq : checkTree pr3 4 = (1, 3) := by kernel_rfl
theorem pr1_tame : Tame pr1 := small_tame (m := 400) (by decide) (by kernel_rfl)
theorem pr2_tame : Tame pr2 := small_tame (m := 400) (by decide) (by kernel_rfl)
theorem pr3_tame : Tame pr3 := small_tame (m := 400) (by decide) (by kernel_rfl)
def gS7 : AG := gput 43 (cTop proS) (gput 9 cCheck g0)
theorem gS7_ok : GOk Tryz.prog gS7 := gput_ok Program_ok (gput_ok check_ok g0_ok)
def cShown7 : AC := fun args K k => args = [] ∧ k (.ret (.p (.bool true))) K
theorem shown7_ok : COk 7 cShown7 := by
  rintro args K k ⟨rfl, hk⟩
  refine frame0P gS7_ok 19 rfl fun Q hr => ?_
  conv => whnf
  refine ⟨_, rfl, by decide, ?_⟩
  rw [pr1_eq]
  conv => whnf
  refine ⟨_, rfl, by decide, ?_⟩
  rw [pr2_eq]
  conv => whnf
  refine ⟨_, rfl, by decide, ?_⟩
  rw [pr3_eq]
  conv => whnf
  refine ⟨pr1, 5, rfl, pr1_tame, ?_⟩
  rw [ck1_eq]
  conv => whnf
  refine ⟨pr2, 2, rfl, pr2_tame, ?_⟩
  rw [ck2_eq]
  conv => whnf
  refine ⟨pr3, 4, rfl, pr3_tame, ?_⟩
  rw [ck3_eq]
  conv => whnf
  repeat
    (refine ⟨⟨by decide, by decide, rfl⟩, ?_⟩
     conv => whnf)
  exact hr _ _ rfl hk
end Go.Proofs.YtojjkleplnijaaaGreatDoor

namespace Go.Proofs.YtojjkleplnijaaaGreatDoor
open Go.AE Go.Ru
set_option maxRecDepth 100000
def eOwner : AC := fun args K k => ∃ ns root i v, args = [treeV ns root, intV i] ∧ Tame ns ∧ ownerT ns root i = v ∧ k (.ret (intV v)) K
theorem eOwner_ok : COk 11 eOwner := by
  rintro args K k ⟨ns, root, i, v, h1, h2, rfl, h3⟩
  exact owner_ok args K k ⟨ns, root, i, h1, h2, h3⟩
def eLookup : AC := fun args K k => ∃ ns root i name v, args = [treeV ns root, intV i, .p (.str name)] ∧ Tame ns ∧ lookupT ns root i name = v ∧ k (.ret (intV v)) K
theorem eLookup_ok : COk 13 eLookup := by
  rintro args K k ⟨ns, root, i, name, v, h1, h2, rfl, h3⟩
  exact lookup_ok args K k ⟨ns, root, i, name, h1, h2, h3⟩
def eRight : AC := fun args K k => ∃ ns root v, args = [treeV ns root] ∧ Tame ns ∧ rightS ns root = v ∧ k (.ret (.p (.bool v))) K
theorem eRight_ok : COk 44 eRight := by
  rintro args K k ⟨ns, root, v, h1, h2, rfl, h3⟩
  exact right_ok args K k ⟨ns, root, h1, h2.len, h2.tx, h3⟩
def eParents : AC := fun args K k => ∃ ns root, args = [treeV ns root] ∧ List.length ns < 1000000 ∧ soundS ns root = true ∧ k (.ret (.p (.sl 1 ns.length (rowF (parF ns root))))) K
theorem eParents_ok : COk 92 eParents := by
  rintro args K k ⟨ns, root, h1, h2, hs, h3⟩
  exact parents_ok args K k ⟨ns, root, h1, h2, by simp only [parV, hs]; exact h3⟩
def eSmall (m : Nat) : AC := fun args K k => ∃ ns root v, args = [treeV ns root] ∧ smallS m ns = v ∧ k (.ret (.p (.bool v))) K
theorem eSmall7_ok : COk 8 (eSmall 400) := by
  rintro args K k ⟨ns, root, v, h1, rfl, h3⟩
  exact small7_ok args K k ⟨ns, root, h1, h3⟩
def eCheck : AC := fun args K k => ∃ ns root a e, args = [treeV ns root] ∧ Tame ns ∧ checkTree ns root = (a, e) ∧ k (.ret (.tup [intV a, intV e])) K
theorem eCheck_ok : COk 9 eCheck := by
  rintro args K k ⟨ns, root, a, e, h1, h2, h3, h4⟩
  exact check_ok args K k ⟨ns, root, h1, h2, by rw [h3]; exact h4⟩
theorem right_sound {ns : List Nd} {root : Int} (h : rightS ns root = true) : soundS ns root = true := by
  simp only [rightS, Bool.and_eq_true] at h; exact h.1.1.1
end Go.Proofs.YtojjkleplnijaaaGreatDoor
