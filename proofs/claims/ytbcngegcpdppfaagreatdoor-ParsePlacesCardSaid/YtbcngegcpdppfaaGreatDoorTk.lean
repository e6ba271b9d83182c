/-
  Tokens, part 2: the contracts of the cutter's small functions. No statement of the seat is proved here.
-/
import Derived.Test.YtbcngegcpdppfaaGreatDoorTkSpec
import Derived.Test.YtbcngegcpdppfaaGreatDoorLib
namespace Go.Proofs.YtbcngegcpdppfaaGreatDoor
open Go.AE Go.Ru
set_option maxRecDepth 100000
set_option pp.maxSteps 2000

def gL : AG := gput 28 cIndexByte (gput 65 cContains (gput 61 cAtoi (gput 64 cItoa g0)))
theorem gL_ok : GOk Tryz.prog gL := gput_ok indexByte_ok (gput_ok contains_ok (gput_ok atoi_ok (gput_ok itoa_ok g0_ok)))

/-- a call that asks nothing of memory, whatever lies there -/
theorem frame0P {G : AG} (hG : GOk Tryz.prog G) (n : Nat) {f : FuncId} {args : List AV} {X : List ABlk} {k : AO → List ABlk → Prop} (hcl : AV.cls 0 args = true)
    (h : ∀ Q : AO → List ABlk → Prop, (∀ v K', v.cl 0 = true → k (.ret v) X → Q (.ret v) K') → acall1 T0 G n f args [] Q) : ACalls Tryz.prog f args X k := by
  refine (ACalls.frame (K0 := []) (X := X) (k := fun ao K1 => k ao (K1 ++ X)) hcl (fun r h => by simp at h) (call_ok hG n f args [] _ (h _ ?_))).mono fun ao K ⟨K1, h1, h2⟩ => by subst h1; exact h2
  intro v K' h1 h2
  refine ⟨h1, by simp, fun r hr => by simp at hr, ?_⟩
  show k (.ret v) (takeN K' 0 ++ X)
  rw [takeN_zero]; exact h2

def cKept : AC := fun args K k => ∃ l, args = [.p (.str l)] ∧ l.length < 1000000 ∧ k (.ret (.p (.bool (keptP l)))) K
theorem kept_ok : COk 62 cKept := by
  rintro args K k ⟨l, rfl, hl, hk⟩
  refine frame0P gL_ok 19 rfl fun Q hr => ?_
  conv => whnf
  refine two_intro (fun h => ?_) (fun h => ?_)
  · have h : (!(l == [])) = true := h
    conv => whnf
    refine ⟨_, _, rfl, ?_⟩
    conv => whnf
    refine two_intro (fun h2 => ?_) (fun h2 => ?_)
    · have h2 : decide (Lib.indexByte l 32 < 0) = true := h2
      conv => whnf
      refine ⟨?_, ?_⟩
      · show 1 + l.length ≤ _
        omega
      conv => whnf
      refine ⟨?_, ?_⟩
      · show ([32] ++ l).length + 1 ≤ _
        simp only [List.length_append, List.length_cons, List.length_nil]; omega
      conv => whnf
      refine ⟨_, _, rfl, by decide, ?_⟩
      conv => whnf
      simp only [keptP, h, h2, Bool.true_and] at hk
      exact hr _ _ rfl hk
    · have h2 : decide (Lib.indexByte l 32 < 0) = false := h2
      conv => whnf
      simp only [keptP, h, h2, Bool.false_and, Bool.and_false] at hk
      exact hr _ _ rfl hk
  · have h : (!(l == [])) = false := h
    conv => whnf
    simp only [keptP, h, Bool.false_and] at hk
    exact hr _ _ rfl hk

theorem u8n (c : UInt8) : ((c.toNat : Int)).toNat.toUInt8 = c := by simp
theorem u8b (l : List UInt8) (i : Nat) : (byteAt l i).toNat.toUInt8 = l.getD i 0 := u8n _

/-- has a text nothing but some bytes? -/
def cOnly : AC := fun args K k => ∃ l m, args = [.p (.str l), .p (.str m)] ∧ l.length < 1000000 ∧ k (.ret (.p (.bool (l.all (inB m))))) K
theorem only_ok : COk 107 cOnly := by
  rintro args K k ⟨l, m, rfl, hl, hk⟩
  refine frame0P gL_ok 19 rfl fun Q hr => ?_
  conv => whnf
  refine ⟨by omega, ?_⟩
  conv => whnf
  refine loop_by (ι := Nat) (fun i => ⟨[(8, .p (.int .i64 i)), (7, .p (.int .i64 l.length)), (0, .p (.sl 1 l.length (byteF l))), (1, .fn 129 [] [.ptr 0 0 1 0 0])], [.box 9 [.p (.str m)]]⟩)
    (fun i => i ≤ l.length ∧ (l.take i).all (inB m) = true) (fun i => l.length - i) 0 ⟨AV.le_refl _, AV.le_refl _, AV.le_refl _, AV.le_refl _, trivial⟩ (lesK.refl _) ⟨by omega, rfl⟩ ?_
  intro Y hle i ⟨hi, ha⟩ ih
  conv => whnf
  refine two_intro (fun h => ?_) (fun h => ?_)
  · have h : i < l.length := by simpa using h
    conv => whnf
    refine ⟨⟨by omega, by omega, rfl⟩, ?_⟩
    conv => whnf
    refine ⟨_, _, rfl, ?_⟩
    have hi2 : ((i : Int)).toNat = i := by omega
    have hc : ((l.getD (Int.toNat i) 0).toNat : Int).toNat.toUInt8 = l[i] := by
      rw [u8n, hi2, List.getD_eq_getElem?_getD, List.getElem?_eq_getElem h]; rfl
    conv => whnf
    have hb : decide (Lib.indexByte m (((l.getD (Int.toNat i) 0).toNat : Int).toNat.toUInt8) < 0) = !inB m l[i] := by
      rw [hc]; simp only [inB]
      by_cases hx : Lib.indexByte m l[i] < 0
      · simp [hx] <;> omega
      · simp [hx] <;> omega
    refine two_intro (fun h2 => ?_) (fun h2 => ?_)
    · rw [hb] at h2
      have h2 : inB m l[i] = false := by simpa using h2
      have he : l.all (inB m) = false := by
        rw [List.all_eq_false]; exact ⟨l[i], by simp, by simp [h2]⟩
      conv => whnf
      rw [he] at hk
      have : (decide ((i : Int) ≥ 0)) = true := by simp
      rw [this]
      exact hr _ _ rfl hk
    · rw [hb] at h2
      have h2 : inB m l[i] = true := by simpa using h2
      conv => whnf
      refine hle _ _ (Le.env ?_ (lesK.refl _)) (ih (i + 1) (by omega) ⟨by omega, ?_⟩)
      · refine ⟨AV.le_of_eq ?_, AV.le_refl _, AV.le_refl _, AV.le_refl _, trivial⟩
        show AV.p (.int .i64 (IntKind.i64.wrap ((i : Int) + 1))) = .p (.int .i64 ((i + 1 : Nat) : Int))
        rw [w64 (by omega)]; rfl
      · rw [List.take_succ_eq_append_getElem h, List.all_append, ha]; simp [h2]
  · have h : ¬ i < l.length := by simpa using h
    obtain rfl : i = l.length := by omega
    rw [List.take_length] at ha
    conv => whnf
    rw [ha] at hk
    exact hr _ _ rfl hk

def cIdentT : AC := fun args K k => ∃ l, args = [.p (.str l)] ∧ l.length < 1000000 ∧ k (.ret (.p (.bool (identP l)))) K
def gK : AG := gput 62 cKept (gput 107 cOnly gL)
theorem gK_ok : GOk Tryz.prog gK := gput_ok kept_ok (gput_ok only_ok gL_ok)
theorem identT_ok : COk 63 cIdentT := by
  rintro args K k ⟨l, rfl, hl, hk⟩
  refine frame0P gK_ok 19 rfl fun Q hr => ?_
  conv => whnf
  refine two_intro (fun h => ?_) (fun h => ?_)
  · have h : (!(l == [])) = true := h
    conv => whnf
    refine two_intro (fun h2 => ?_) (fun h2 => ?_)
    · have h2 : decide (l.length ≤ 20) = true := decide_eq_true (by have := of_decide_eq_true h2; omega)
      conv => whnf
      refine ⟨_, _, rfl, hl, ?_⟩
      conv => whnf
      refine two_intro (fun h3 => ?_) (fun h3 => ?_)
      · have h3 : l.all (inB partsT) = true := h3
        have hl0 : 0 < l.length := by
          cases l with
          | nil => simp at h
          | cons a r => simp
        conv => whnf
        refine ⟨⟨by omega, by omega⟩, ?_⟩
        conv => whnf
        refine ⟨_, _, rfl, ?_⟩
        conv => whnf
        refine two_intro (fun h4 => ?_) (fun h4 => ?_)
        · rw [u8b] at h4
          have h4 : decide (Lib.indexByte digitsT (l.getD 0 0) < 0) = true := h4
          conv => whnf
          refine ⟨_, rfl, hl, ?_⟩
          conv => whnf
          simp only [identP, h, h2, h3, h4, Bool.true_and] at hk
          exact hr _ _ rfl hk
        · rw [u8b] at h4
          have h4 : decide (Lib.indexByte digitsT (l.getD 0 0) < 0) = false := h4
          conv => whnf
          simp only [identP, h, h2, h3, h4, Bool.true_and, Bool.false_and] at hk
          exact hr _ _ rfl hk
      · have h3 : l.all (inB partsT) = false := h3
        conv => whnf
        simp only [identP, h, h2, h3, Bool.true_and, Bool.false_and] at hk
        exact hr _ _ rfl hk
    · have h2 : decide (l.length ≤ 20) = false := decide_eq_false (by have := of_decide_eq_false h2; omega)
      conv => whnf
      simp only [identP, h, h2, Bool.true_and, Bool.false_and] at hk
      exact hr _ _ rfl hk
  · have h : (!(l == [])) = false := h
    conv => whnf
    simp only [identP, h, Bool.false_and] at hk
    exact hr _ _ rfl hk

def tkV (k n a : Int) (l : Bs) : AV := .agg [.p (.int .i64 k), .p (.int .i64 n), .p (.int .i64 a), .p (.str l)]
def wordV (l : Bs) (a : Int) : Option (TK × Int) → AV
  | some (k, v) => .tup [tkV k.code v a l, .p (.bool true)]
  | none => .tup [tkV 0 0 a l, .p (.bool false)]
def cWordT : AC := fun args K k => ∃ l a, args = [.p (.str l), .p (.int .i64 a)] ∧ l.length < 1000000 ∧ k (.ret (wordV l a (wordP l))) K
def gI : AG := gput 63 cIdentT gK
theorem gI_ok : GOk Tryz.prog gI := gput_ok identT_ok gK_ok
theorem wordT_ok : COk 29 cWordT := by
  rintro args K k ⟨l, a, rfl, hl, hk⟩
  refine frame0P gI_ok 19 rfl fun Q hr => ?_
  conv => whnf
  refine ⟨_, rfl, hl, ?_⟩
  have kw : keptP l = true → k (.ret (.tup [tkV 4 0 a l, .p (.bool true)])) K := fun h => by simp only [wordP, h] at hk; exact hk
  have ki : keptP l = false → identP l = true → k (.ret (.tup [tkV 1 0 a l, .p (.bool true)])) K := fun h h2 => by simp only [wordP, h, h2] at hk; exact hk
  cases ha : Lib.atoiAll l with
  | ok v =>
    obtain ⟨hv0, hv1⟩ := Lib.atoiAll_bounds ha
    conv => whnf
    refine ⟨_, rfl, hl, ?_⟩
    conv => whnf
    refine two_intro (fun h => ?_) (fun h => ?_)
    · have hk := kw h
      conv => whnf
      repeat ((refine And.intro ?_ ?_); (focus ((conv => whnf); done)); (conv => whnf))
      exact hr _ _ rfl hk
    · have h : keptP l = false := h
      conv => whnf
      refine ⟨_, rfl, hl, ?_⟩
      conv => whnf
      refine two_intro (fun h2 => ?_) (fun h2 => ?_)
      · have hk := ki h h2
        conv => whnf
        repeat ((refine And.intro ?_ ?_); (focus ((conv => whnf); done)); (conv => whnf))
        exact hr _ _ rfl hk
      · have h2 : identP l = false := h2
        conv => whnf
        refine ⟨_, rfl, by omega, by omega, ?_⟩
        conv => whnf
        refine two_intro (fun h3 => ?_) (fun h3 => ?_)
        · have h3 : Lib.itoa v = l := by simpa using h3
          simp only [wordP, h, h2, numP, ha, if_pos h3] at hk
          conv => whnf
          repeat ((refine And.intro ?_ ?_); (focus ((conv => whnf); done)); (conv => whnf))
          exact hr _ _ rfl hk
        · have h3 : ¬ Lib.itoa v = l := by simpa using h3
          simp only [wordP, h, h2, numP, ha, if_neg h3] at hk
          conv => whnf
          repeat ((refine And.intro ?_ ?_); (focus ((conv => whnf); done)); (conv => whnf))
          exact hr _ _ rfl hk
  | range =>
    conv => whnf
    refine ⟨_, rfl, hl, ?_⟩
    conv => whnf
    refine two_intro (fun h => ?_) (fun h => ?_)
    · have hk := kw h
      conv => whnf
      repeat ((refine And.intro ?_ ?_); (focus ((conv => whnf); done)); (conv => whnf))
      exact hr _ _ rfl hk
    · have h : keptP l = false := h
      conv => whnf
      refine ⟨_, rfl, hl, ?_⟩
      conv => whnf
      refine two_intro (fun h2 => ?_) (fun h2 => ?_)
      · have hk := ki h h2
        conv => whnf
        repeat ((refine And.intro ?_ ?_); (focus ((conv => whnf); done)); (conv => whnf))
        exact hr _ _ rfl hk
      · have h2 : identP l = false := h2
        simp only [wordP, h, h2, numP, ha] at hk
        conv => whnf
        repeat ((refine And.intro ?_ ?_); (focus ((conv => whnf); done)); (conv => whnf))
        exact hr _ _ rfl hk
  | _ =>
    conv => whnf
    refine ⟨_, rfl, hl, ?_⟩
    conv => whnf
    refine two_intro (fun h => ?_) (fun h => ?_)
    · have hk := kw h
      conv => whnf
      repeat ((refine And.intro ?_ ?_); (focus ((conv => whnf); done)); (conv => whnf))
      exact hr _ _ rfl hk
    · have h : keptP l = false := h
      conv => whnf
      refine ⟨_, rfl, hl, ?_⟩
      conv => whnf
      refine two_intro (fun h2 => ?_) (fun h2 => ?_)
      · have hk := ki h h2
        conv => whnf
        repeat ((refine And.intro ?_ ?_); (focus ((conv => whnf); done)); (conv => whnf))
        exact hr _ _ rfl hk
      · have h2 : identP l = false := h2
        simp only [wordP, h, h2, numP, ha] at hk
        conv => whnf
        repeat ((refine And.intro ?_ ?_); (focus ((conv => whnf); done)); (conv => whnf))
        exact hr _ _ rfl hk

theorem bne_byte (l : List UInt8) (i : Nat) : (byteAt l i != 32) = !(l.getD i 0 == 32) := by
  show (!(((l.getD i 0).toNat : Int) == 32)) = _
  congr 1
  rw [Bool.eq_iff_iff]
  simp only [beq_iff_eq]
  constructor
  · intro h
    exact UInt8.toNat_inj.1 (by show (l.getD i 0).toNat = 32; omega)
  · intro h; rw [h]; rfl
def cSignT : AC := fun args K k => ∃ l, args = [.p (.str l)] ∧ 0 < l.length ∧ l.length < 1000000 ∧ k (.ret (.p (.int .i64 (signP l : Nat)))) K
theorem signT_ok : COk 30 cSignT := by
  rintro args K k ⟨l, rfl, hl0, hl, hk⟩
  refine frame0P gL_ok 19 rfl fun Q hr => ?_
  conv => whnf
  have hd1 : decide ((l.length : Int) > 1) = decide (l.length > 1) := by
    by_cases h : l.length > 1
    · rw [decide_eq_true h, decide_eq_true (by omega)]
    · rw [decide_eq_false h, decide_eq_false (by omega)]
  refine two_intro (fun h => ?_) (fun h => ?_)
  · rw [hd1] at h
    have h1 := of_decide_eq_true h
    conv => whnf
    refine ⟨⟨by omega, by omega⟩, ?_⟩
    conv => whnf
    refine two_intro (fun h2 => ?_) (fun h2 => ?_)
    · have h2 : (!(l.getD 0 0 == 32)) = true := by rw [← bne_byte]; exact h2
      conv => whnf
      refine ⟨⟨by omega, by omega⟩, ?_⟩
      conv => whnf
      refine two_intro (fun h3 => ?_) (fun h3 => ?_)
      · have h3 : (!(l.getD 1 0 == 32)) = true := by rw [← bne_byte]; exact h3
        conv => whnf
        refine ⟨⟨by decide, by decide, by omega⟩, ?_⟩
        conv => whnf
        refine ⟨?_, ?_⟩
        · show 1 + (l.take 2).length ≤ _
          simp only [List.length_take]; omega
        conv => whnf
        refine ⟨?_, ?_⟩
        · show ([32] ++ l.take 2).length + 1 ≤ _
          simp only [List.length_append, List.length_cons, List.length_nil, List.length_take]; omega
        conv => whnf
        refine ⟨_, _, rfl, by decide, ?_⟩
        conv => whnf
        refine two_intro (fun h4 => ?_) (fun h4 => ?_)
        · have h4 : Lib.contains pairsT ([32] ++ l.take 2 ++ [32]) = true := h4
          have hp : pairP l = true := by simp only [pairP, h, h2, h3, h4, Bool.and_true]
          simp only [signP, if_pos hp] at hk
          conv => whnf
          exact hr _ _ rfl hk
        · have h4 : Lib.contains pairsT ([32] ++ l.take 2 ++ [32]) = false := h4
          have hp : ¬ pairP l = true := by simp only [pairP, h, h2, h3, h4, Bool.and_false]; simp
          simp only [signP, if_neg hp] at hk
          conv => whnf
          refine ⟨⟨by omega, by omega⟩, ?_⟩
          conv => whnf
          refine ⟨_, _, rfl, ?_⟩
          conv => whnf
          have hb : decide (Lib.indexByte singleT ((byteAt l (Int.toNat 0)).toNat.toUInt8) ≥ 0) = inB singleT (l.getD 0 0) := by rw [u8b]; rfl
          refine two_intro (fun h5 => ?_) (fun h5 => ?_)
          · have h5 : inB singleT (l.getD 0 0) = true := by rw [← hb]; exact h5
            conv => whnf
            rw [if_pos h5] at hk
            exact hr _ _ rfl hk
          · have h5 : inB singleT (l.getD 0 0) = false := by rw [← hb]; exact h5
            conv => whnf
            rw [if_neg (by rw [h5]; exact Bool.false_ne_true)] at hk
            exact hr _ _ rfl hk
      · have h3 : (!(l.getD 1 0 == 32)) = false := by rw [← bne_byte]; exact h3
        have hp : ¬ pairP l = true := by simp only [pairP, h, h2, h3, Bool.and_false, Bool.false_and]; simp
        simp only [signP, if_neg hp] at hk
        conv => whnf
        refine ⟨⟨by omega, by omega⟩, ?_⟩
        conv => whnf
        refine ⟨_, _, rfl, ?_⟩
        conv => whnf
        have hb : decide (Lib.indexByte singleT ((byteAt l (Int.toNat 0)).toNat.toUInt8) ≥ 0) = inB singleT (l.getD 0 0) := by rw [u8b]; rfl
        refine two_intro (fun h5 => ?_) (fun h5 => ?_)
        · have h5 : inB singleT (l.getD 0 0) = true := by rw [← hb]; exact h5
          conv => whnf
          rw [if_pos h5] at hk
          exact hr _ _ rfl hk
        · have h5 : inB singleT (l.getD 0 0) = false := by rw [← hb]; exact h5
          conv => whnf
          rw [if_neg (by rw [h5]; exact Bool.false_ne_true)] at hk
          exact hr _ _ rfl hk
    · have h2 : (!(l.getD 0 0 == 32)) = false := by rw [← bne_byte]; exact h2
      have hp : ¬ pairP l = true := by simp only [pairP, h, h2, Bool.and_false, Bool.false_and]; simp
      simp only [signP, if_neg hp] at hk
      conv => whnf
      refine ⟨⟨by omega, by omega⟩, ?_⟩
      conv => whnf
      refine ⟨_, _, rfl, ?_⟩
      conv => whnf
      have hb : decide (Lib.indexByte singleT ((byteAt l (Int.toNat 0)).toNat.toUInt8) ≥ 0) = inB singleT (l.getD 0 0) := by rw [u8b]; rfl
      refine two_intro (fun h5 => ?_) (fun h5 => ?_)
      · have h5 : inB singleT (l.getD 0 0) = true := by rw [← hb]; exact h5
        conv => whnf
        rw [if_pos h5] at hk
        exact hr _ _ rfl hk
      · have h5 : inB singleT (l.getD 0 0) = false := by rw [← hb]; exact h5
        conv => whnf
        rw [if_neg (by rw [h5]; exact Bool.false_ne_true)] at hk
        exact hr _ _ rfl hk
  · rw [hd1] at h
    have hp : ¬ pairP l = true := by simp only [pairP, h, Bool.false_and]; simp
    simp only [signP, if_neg hp] at hk
    conv => whnf
    refine ⟨⟨by omega, by omega⟩, ?_⟩
    conv => whnf
    refine ⟨_, _, rfl, ?_⟩
    conv => whnf
    have hb : decide (Lib.indexByte singleT ((byteAt l (Int.toNat 0)).toNat.toUInt8) ≥ 0) = inB singleT (l.getD 0 0) := by rw [u8b]; rfl
    refine two_intro (fun h5 => ?_) (fun h5 => ?_)
    · have h5 : inB singleT (l.getD 0 0) = true := by rw [← hb]; exact h5
      conv => whnf
      rw [if_pos h5] at hk
      exact hr _ _ rfl hk
    · have h5 : inB singleT (l.getD 0 0) = false := by rw [← hb]; exact h5
      conv => whnf
      rw [if_neg (by rw [h5]; exact Bool.false_ne_true)] at hk
      exact hr _ _ rfl hk
end Go.Proofs.YtbcngegcpdppfaaGreatDoor
