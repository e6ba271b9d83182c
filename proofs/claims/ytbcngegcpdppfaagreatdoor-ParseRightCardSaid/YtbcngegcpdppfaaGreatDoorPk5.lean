/-
  Tokens, part 3: the contract of the cutter. No statement of the seat is proved here.
  AE, part 11: a loop told by what it changes. Own metatheory over any program; no statement of the seat is proved here.
  AE, part 12: a call of which the references stand further on; a nil slice as a row ahead of a call; rows frozen behind one. Own metatheory over any program; no statement of the seat is proved here.
  Trees, part 2: the contracts of tree.sizes, Sound, Depth. No statement of the seat is proved here.
  AE, part 7d: a function that puts one call off, of a function literal that asks recover first. Own metatheory over any program; no statement of the seat is proved here.
  Parser, part 15: read. No statement of the seat is proved here.
  The statements' head: shown of runnellaw5. No statement of the seat is proved here.
  The statement ParsePlaces: what the program computes. No statement of the seat is proved here.
  Trees that are right, part 1: what tree.Right computes, in plain Lean. No program in sight; no statement of the seat is proved here.
  AE, part 13: tests as propositions. Own metatheory over any program; no statement of the seat is proved here.
  Trees that are right, part 2: the contracts of tree.text, number, kids, Right. No statement of the seat is proved here.
  Trees that are right, part 3: the contract of tree.Right. No statement of the seat is proved here.
-/
import Derived.RecoverIn
import Derived.KernelRfl
import Derived.Test.YtbcngegcpdppfaaGreatDoorPk1
import Derived.Test.YtbcngegcpdppfaaGreatDoorPk2
import Derived.Test.YtbcngegcpdppfaaGreatDoorPk3
import Derived.Test.YtbcngegcpdppfaaGreatDoorPk4
namespace Go.Proofs.YtbcngegcpdppfaaGreatDoor
open Go.AE Go.Ru
set_option maxRecDepth 100000
set_option pp.maxSteps 2000

/-- a call that leaves some blocks as they are, whatever lies behind them -/
theorem frameS {G : AG} (hG : GOk Tryz.prog G) (n : Nat) {f : FuncId} {args : List AV} {K0 X : List ABlk} {k : AO → List ABlk → Prop} (hcl : AV.cls K0.length args = true) (hK : clK K0.length K0)
    (h : ∀ Q : AO → List ABlk → Prop, (∀ v K', v.cl K0.length = true → K0.length ≤ K'.length → takeN K' K0.length = K0 → k (.ret v) (K0 ++ X) → Q (.ret v) K') → acall1 T0 G n f args K0 Q) : ACalls Tryz.prog f args (K0 ++ X) k := by
  refine (ACalls.frame (K0 := K0) (X := X) (k := fun ao K1 => k ao (K1 ++ X)) hcl (fun r h => clK.hp hK r) (call_ok hG n f args K0 _ (h _ ?_))).mono fun ao K ⟨K1, h1, h2⟩ => by subst h1; exact h2
  intro v K' h1 h2 h3 h4
  refine ⟨h1, h2, fun r hr => ?_, ?_⟩
  · have e := congrArg (fun L => hp L r) h3
    simp only [hp_takeN, if_pos hr] at e
    rw [e]; exact clK.hp hK r
  · show k (.ret v) (takeN K' K0.length ++ X)
    rw [h3]; exact h4
theorem frame0W {G : AG} (hG : GOk Tryz.prog G) (n : Nat) {f : FuncId} {args : List AV} {X : List ABlk} {k : AO → List ABlk → Prop} (hcl : AV.cls 0 args = true)
    (h : ∀ Q : AO → List ABlk → Prop, (∀ v K' v' K2, Wk1 0 v K' v' K2 → v'.cl 0 = true → k (.ret v') X → Q (.ret v) K') → acall1 T0 G n f args [] Q) : ACalls Tryz.prog f args X k := by
  refine (ACalls.frame (K0 := []) (X := X) (k := fun ao K1 => k ao (K1 ++ X)) hcl (fun r h => by simp at h)
    (ACalls.post (k := fun ao K1 => ∃ v v' K2, ao = .ret v ∧ Wk1 0 v K1 v' K2 ∧ v'.cl 0 = true ∧ k (.ret v') X) (call_ok hG n f args [] _ (h _ ?_)) ?_)).mono fun ao K ⟨K1, h1, h2⟩ => by subst h1; exact h2
  · intro v K' v' K2 h1 h2 h3
    exact ⟨v, v', K2, rfl, h1, h2, h3⟩
  · rintro ao K1 ⟨v, v', K2, rfl, h1, h2, h3⟩
    refine ⟨v', K2, h1, h2, by simp, fun r hr => by simp at hr, ?_⟩
    show k (.ret v') (takeN K2 0 ++ X)
    rw [takeN_zero]; exact h3

def cutK (s : Bs) (i : Nat) : List ABlk := [.box 9 [.p (.str s)], .box 3 [.p (.int .i64 i)]]
def cRow : AC := fun args K k => ∃ (some s : Bs) (i : Nat) (ii : Int) (X : List ABlk), args = [.p (.str some), .ptr 1 0 1 0 0, .ptr 0 0 1 0 0] ∧ K = [.box 9 [.p (.str s)], .box 3 [.p (.int .i64 ii)]] ++ X ∧ ii = i ∧ i ≤ s.length ∧ s.length < 1000000 ∧
  k (.ret (.p (.int .i64 ((i + runS some (s.drop i) : Nat) : Int)))) (cutK s i ++ X)
theorem runS_cons (l : Bs) (c : UInt8) (r : Bs) : runS l (c :: r) = if inB l c then runS l r + 1 else 0 := by
  simp only [runS, List.takeWhile_cons]
  split <;> simp
theorem row_ok : COk 27 cRow := by
  rintro args K k ⟨m, s, i, _, X, rfl, rfl, rfl, hi, hs, hk⟩
  refine frameS (K0 := cutK s i) gL_ok 19 rfl ⟨rfl, rfl, trivial⟩ fun Q hr => ?_
  conv => whnf
  refine loop_by (ι := Nat) (fun j => ⟨[(0, .p (.str m)), (2, .ptr 0 0 1 0 0), (5, .p (.int .i64 j))], cutK s i⟩)
    (fun j => j ≤ s.length ∧ i + runS m (s.drop i) = j + runS m (s.drop j)) (fun j => s.length - j) i ⟨AV.le_refl _, AV.le_refl _, AV.le_refl _, trivial⟩ (lesK.refl _) ⟨hi, rfl⟩ ?_
  intro Y hle j ⟨hj, he⟩ ih
  have hd1 : decide ((j : Int) < (s.length : Int)) = decide (j < s.length) := by
    by_cases h : j < s.length
    · rw [decide_eq_true h, decide_eq_true (by omega)]
    · rw [decide_eq_false h, decide_eq_false (by omega)]
  conv => whnf
  refine two_intro (fun h => ?_) (fun h => ?_)
  · rw [hd1] at h
    have h := of_decide_eq_true h
    have hs2 : s.drop j = s[j] :: s.drop (j + 1) := List.drop_eq_getElem_cons h
    rw [hs2, runS_cons] at he
    conv => whnf
    refine ⟨⟨by omega, by omega⟩, ?_⟩
    conv => whnf
    refine ⟨_, _, rfl, ?_⟩
    conv => whnf
    have hb : decide (Lib.indexByte m ((byteAt s (Int.toNat j)).toNat.toUInt8) ≥ 0) = inB m s[j] := by
      rw [u8b, Int.toNat_natCast, List.getD_eq_getElem?_getD, List.getElem?_eq_getElem h]; rfl
    refine two_intro (fun h5 => ?_) (fun h5 => ?_)
    · rw [hb] at h5
      rw [if_pos h5] at he
      conv => whnf
      refine hle _ _ (Le.env ?_ (lesK.refl _)) (ih (j + 1) (by omega) ⟨by omega, by omega⟩)
      refine ⟨AV.le_refl _, AV.le_refl _, AV.le_of_eq ?_, trivial⟩
      show AV.p (.int .i64 (IntKind.i64.wrap ((j : Int) + 1))) = .p (.int .i64 ((j + 1 : Nat) : Int))
      rw [w64 (by omega)]; rfl
    · rw [hb] at h5
      rw [if_neg (by rw [h5]; exact Bool.false_ne_true)] at he
      conv => whnf
      rw [he] at hk
      exact hr _ _ rfl (Nat.le_refl _) rfl hk
  · rw [hd1] at h
    have h := of_decide_eq_false h
    obtain rfl : j = s.length := by omega
    rw [List.drop_length] at he
    conv => whnf
    rw [he] at hk
    exact hr _ _ rfl (Nat.le_refl _) rfl hk

def tokF (l : List Tok) (j : Nat) : List PV := encTok (l.getD j ⟨.name, 0, 0, []⟩)
def tokA (l : List Tok) : ABlk := .arr 46 4 0 l.length fun j => pvs (tokF l j)
def cutV (e : Int) : CR → AV
  | .ok l => .tup [.p (.sl 4 (l.length + 1) (encs e l)), .p (.int .i64 0), .p (.int .i64 0)]
  | .bad a => .tup [.p .nils, .p (.int .i64 (a : Nat)), .p (.int .i64 2)]
def cCutT : AC := fun args K k => ∃ s, args = [.p (.str s)] ∧ s.length < 1000000 ∧
  (s.length > 20000 → k (.ret (.tup [.p .nils, .p (.int .i64 0), .p (.int .i64 7)])) K) ∧ (s.length ≤ 20000 → k (.ret (cutV s.length (cutT s))) K)
structure TC where
  l : List Tok
  i : Nat
  n : Nat
def CR.app (l : List Tok) : CR → CR
  | .ok l' => .ok (l ++ l')
  | .bad a => .bad a
def gT : AG := gput 27 cRow (gput 29 cWordT (gput 30 cSignT gI))
theorem gT_ok : GOk Tryz.prog gT := gput_ok row_ok (gput_ok wordT_ok (gput_ok signT_ok gI_ok))
theorem encs_lt (e : Int) (l : List Tok) (j : Nat) (h : j < l.length) : encs e l j = tokF l j := by
  induction l generalizing j with
  | nil => simp at h
  | cons t r ih =>
    cases j with
    | zero => rfl
    | succ j => exact ih j (by simpa using h)
theorem encs_at (e : Int) (l : List Tok) : encs e l l.length = [.int .i64 5, .int .i64 0, .int .i64 e, .str []] := by
  induction l with
  | nil => rfl
  | cons t r ih => exact ih
theorem enc_all (e : Int) (l : List Tok) (f : Nat → List AV) (hf : f 0 = pvs [.int .i64 5, .int .i64 0, .int .i64 e, .str []]) : ∀ j, j < l.length + 1 → catF l.length (fun j => pvs (tokF l j)) f j = pvs (encs e l j) := fun j hj => by
  by_cases h : j < l.length
  · rw [catF_lt h, encs_lt e l j h]
  · obtain rfl : j = l.length := by omega
    rw [catF_ge (Nat.le_refl _), Nat.sub_self, hf, encs_at]
theorem tokA_snoc (l : List Tok) (x : Tok) (f : Nat → List AV) (hf : f 0 = pvs (encTok x)) : (ABlk.arr 46 4 0 (l.length + 1) (catF l.length (fun i => pvs (tokF l i)) f)).le (tokA (l ++ [x])) := by
  refine ABlk.arr_eq (by simp) fun i hi => ?_
  by_cases h : i < l.length
  · rw [catF_lt h]
    simp [tokF, List.getD_eq_getElem?_getD, List.getElem?_append_left h]
  · obtain rfl : i = l.length := by omega
    rw [catF_ge (Nat.le_refl _), Nat.sub_self, hf]
    simp [tokF, List.getD_eq_getElem?_getD]
theorem tok_cl (l : List Tok) (x : Tok) (f : Nat → List AV) (n : Nat) (hf : f 0 = pvs (encTok x)) : (ABlk.arr 46 4 0 (l.length + 1) (catF l.length (fun i => pvs (tokF l i)) f)).cl n := fun i hi => by
  by_cases h : i < l.length
  · rw [catF_lt h]; rfl
  · obtain rfl : i = l.length := by omega
    rw [catF_ge (Nat.le_refl _), Nat.sub_self, hf]; rfl
theorem slr_len (l : List Tok) (x : Tok) : AV.slr 2 0 0 (l.length + 1) = AV.slr 2 0 0 (l ++ [x]).length := by simp
theorem app_cons (l : List Tok) (t : Tok) (r : CR) : CR.app l (r.cons t) = CR.app (l ++ [t]) r := by
  cases r with
  | ok l' => simp [CR.cons, CR.app]
  | bad a => rfl
theorem cutT_ok : COk 12 cCutT := by
  rintro args K k ⟨s, rfl, hs, hk1, hk2⟩
  refine frame0W gT_ok 19 rfl fun Q hr => ?_
  have hd1 : decide ((s.length : Int) > 20000) = decide (s.length > 20000) := by
    by_cases h : s.length > 20000
    · rw [decide_eq_true h, decide_eq_true (by omega)]
    · rw [decide_eq_false h, decide_eq_false (by omega)]
  conv => whnf
  refine two_intro (fun h => ?_) (fun h => ?_)
  · rw [hd1] at h
    have h := of_decide_eq_true h
    conv => whnf
    exact hr _ _ _ _ (Wk1.refl _ _ _) rfl (hk1 h)
  rw [hd1] at h
  have h := of_decide_eq_false h
  have hk := hk2 (by omega)
  clear hk1 hk2
  conv => whnf
  refine loop_nil (ι := TC) 46 4 (fun j => pvs (tokF [] j)) (fun i => ⟨[(1, .ptr 0 0 1 0 0), (6, .ptr 1 0 1 0 0), (7, .fn 27 [] [.ptr 1 0 1 0 0, .ptr 0 0 1 0 0]), (5, .slr 2 0 0 i.l.length)], cutK s i.i ++ [tokA i.l]⟩)
    (fun i => i.i ≤ s.length ∧ s.length ≤ i.i + i.n ∧ i.l.length ≤ i.i ∧ CR.app i.l (cutS i.n (s.drop i.i) i.i) = cutT s) (fun i => i.n) ⟨[], 0, s.length⟩ (cutK s 0)
    rfl ⟨.inl (AV.le_refl _), .inl (AV.le_refl _), .inl (AV.le_refl _), .inr ⟨rfl, rfl⟩, trivial⟩ (nswK.refl _ _) rfl ⟨Nat.zero_le _, by simp, Nat.le_refl _, ?_⟩ ?_
  · show CR.app [] (cutS s.length s 0) = cutT s
    unfold cutT
    cases cutS s.length s 0 <;> rfl
  rintro Y hle ⟨l, i, n⟩ ⟨hi, hn, hl, he⟩ ih
  simp only at hi hn hl he
  have hd2 : decide ((i : Int) < (s.length : Int)) = decide (i < s.length) := by
    by_cases h : i < s.length
    · rw [decide_eq_true h, decide_eq_true (by omega)]
    · rw [decide_eq_false h, decide_eq_false (by omega)]
  conv => whnf
  refine two_intro (fun h => ?_) (fun h => ?_)
  · rw [hd2] at h
    have h := of_decide_eq_true h
    cases n with
    | zero => omega
    | succ n =>
    have hs2 : s.drop i = s[i] :: s.drop (i + 1) := List.drop_eq_getElem_cons h
    have hrl : ∀ m, runS m (s.drop i) ≤ s.length - i := fun m => by
      unfold runS
      refine Nat.le_trans (List.takeWhile_sublist _).length_le ?_
      simp
    conv => whnf
    refine ⟨_, _, _, _, _, rfl, rfl, rfl, hi, hs, ?_⟩
    conv => whnf
    refine ⟨_, _, _, _, _, rfl, rfl, rfl, hi, hs, ?_⟩
    conv => whnf
    repeat ((refine And.intro ?_ ?_); (focus ((conv => whnf); done)); (conv => whnf))
    refine two_intro (fun h2 => ?_) (fun h2 => ?_)
    · have h2 : 0 < runS blanksT (s.drop i) := by
        have := of_decide_eq_true h2
        have : ((i + runS blanksT (s.drop i) : Nat) : Int) > (i : Int) := this
        omega
      have hb := hrl blanksT
      conv => whnf
      refine ⟨_, _, _, _, _, rfl, rfl, rfl, hi, hs, ?_⟩
      conv => whnf
      refine hle _ _ (Le.env ?_ ?_) (ih ⟨l, i + runS blanksT (s.drop i), n⟩ (Nat.lt_succ_self _) ⟨?_, ?_, ?_, ?_⟩)
      · exact ⟨AV.le_refl _, AV.le_refl _, AV.le_refl _, AV.le_refl _, trivial⟩
      · exact ⟨ABlk.le_refl _, ABlk.le_refl _, ABlk.le_refl _, trivial⟩
      · simp only; omega
      · simp only; omega
      · simp only; omega
      · rw [← he]
        simp only [cutS, hs2]
        rw [hs2] at h2
        rw [if_pos h2, ← hs2, List.drop_drop]
    · have h2 : ¬ 0 < runS blanksT (s.drop i) := by
        have := of_decide_eq_false h2
        have : ¬ ((i + runS blanksT (s.drop i) : Nat) : Int) > (i : Int) := this
        omega
      conv => whnf
      refine ⟨(⟨by omega, by omega⟩ : (0 : Int) ≤ (i : Int) ∧ (i : Int) < (s.length : Int)), ?_⟩
      conv => whnf
      have hby : byteAt s (Int.toNat i) = (s[i].toNat : Int) := by
        unfold byteAt
        rw [Int.toNat_natCast, List.getD_eq_getElem?_getD, List.getElem?_eq_getElem h]; rfl
      simp only [cutS, hs2] at he
      rw [hs2] at h2
      rw [if_neg h2] at he
      refine two_intro (fun h3 => ?_) (fun h3 => ?_)
      · have h3 : s[i] = 35 := by
          have h3 : (byteAt s (Int.toNat i) == 35) = true := h3
          rw [hby] at h3
          have := eq_of_beq h3
          exact UInt8.toNat_inj.1 (by show s[i].toNat = 35; omega)
        rw [if_pos h3, ← hs2] at he
        conv => whnf
        refine loop_by (ι := Nat) (fun j => ⟨[(1, .ptr 0 0 1 0 0), (6, .ptr 1 0 1 0 0), (7, .fn 27 [] [.ptr 1 0 1 0 0, .ptr 0 0 1 0 0]), (5, .slr 2 0 0 l.length)], cutK s j ++ [tokA l]⟩)
          (fun j => i ≤ j ∧ j ≤ s.length ∧ (s.drop i).dropWhile (fun c => !(c == 10)) = (s.drop j).dropWhile (fun c => !(c == 10)) ∧ i + ((s.drop i).takeWhile (fun c => !(c == 10))).length = j + ((s.drop j).takeWhile (fun c => !(c == 10))).length) (fun j => s.length - j) i
          ?_ ?_ ⟨Nat.le_refl _, hi, rfl, rfl⟩ ?_
        · exact ⟨AV.le_refl _, AV.le_refl _, AV.le_refl _, AV.le_refl _, trivial⟩
        · exact ⟨ABlk.le_refl _, ABlk.le_refl _, ABlk.le_refl _, trivial⟩
        intro Z hle2 j ⟨hij, hj, hdw, htw⟩ ih2
        have hd3 : decide ((j : Int) < (s.length : Int)) = decide (j < s.length) := by
          by_cases h : j < s.length
          · rw [decide_eq_true h, decide_eq_true (by omega)]
          · rw [decide_eq_false h, decide_eq_false (by omega)]
        have fin : ∀ j, i < j → j ≤ s.length → (s.drop i).dropWhile (fun c => !(c == 10)) = s.drop j → i + ((s.drop i).takeWhile (fun c => !(c == 10))).length = j → (TC.mk l j n).i ≤ s.length ∧ s.length ≤ (TC.mk l j n).i + (TC.mk l j n).n ∧ (TC.mk l j n).l.length ≤ (TC.mk l j n).i ∧ CR.app (TC.mk l j n).l (cutS (TC.mk l j n).n (s.drop (TC.mk l j n).i) (TC.mk l j n).i) = cutT s := fun j h1 h2 h3 h4 => by
          refine ⟨h2, ?_, ?_, ?_⟩
          · simp only; omega
          · simp only; omega
          · rw [← he, h3, h4]
        conv => whnf
        refine two_intro (fun h4 => ?_) (fun h4 => ?_)
        · rw [hd3] at h4
          have h4 := of_decide_eq_true h4
          have hsj : s.drop j = s[j] :: s.drop (j + 1) := List.drop_eq_getElem_cons h4
          rw [hsj] at hdw htw
          simp only [List.dropWhile_cons, List.takeWhile_cons] at hdw htw
          conv => whnf
          refine ⟨⟨by omega, by omega⟩, ?_⟩
          conv => whnf
          have hby2 : byteAt s (Int.toNat j) = (s[j].toNat : Int) := by
            unfold byteAt
            rw [Int.toNat_natCast, List.getD_eq_getElem?_getD, List.getElem?_eq_getElem h4]; rfl
          have hb : (byteAt s (Int.toNat j) != 10) = !(s[j] == 10) := by
            rw [hby2]
            show (!((s[j].toNat : Int) == 10)) = _
            congr 1
            rw [Bool.eq_iff_iff]
            simp only [beq_iff_eq]
            constructor
            · intro h
              exact UInt8.toNat_inj.1 (by show s[j].toNat = 10; omega)
            · intro h; rw [h]; rfl
          refine two_intro (fun h5 => ?_) (fun h5 => ?_)
          · have h5 : (!(s[j] == 10)) = true := by rw [← hb]; exact h5
            rw [if_pos h5] at hdw htw
            conv => whnf
            refine hle2 _ _ (Le.env ?_ ?_) (ih2 (j + 1) (by omega) ⟨by omega, by omega, hdw, ?_⟩)
            · exact ⟨AV.le_refl _, AV.le_refl _, AV.le_refl _, AV.le_refl _, trivial⟩
            · refine ⟨ABlk.le_refl _, ABlk.le_of_eq ?_, ABlk.le_refl _, trivial⟩
              show ABlk.box 3 [.p (.int .i64 (IntKind.i64.wrap ((j : Int) + 1)))] = _
              rw [w64 (by omega)]; rfl
            · simp only [List.length_cons] at htw; omega
          · have h5 : (!(s[j] == 10)) = false := by rw [← hb]; exact h5
            rw [if_neg (by rw [h5]; exact Bool.false_ne_true)] at hdw htw
            have hij2 : i < j := by
              rcases Nat.lt_or_ge i j with h | h
              · exact h
              · exfalso
                have : i = j := by omega
                subst this
                rw [h3] at h5; simp at h5
            conv => whnf
            refine hle _ _ (Le.env ?_ ?_) (ih ⟨l, j, n⟩ (Nat.lt_succ_self _) (fin j hij2 hj (by rw [hdw, hsj]) (by simpa using htw)))
            · exact ⟨AV.le_refl _, AV.le_refl _, AV.le_refl _, AV.le_refl _, trivial⟩
            · exact ⟨ABlk.le_refl _, ABlk.le_refl _, ABlk.le_refl _, trivial⟩
        · rw [hd3] at h4
          have h4 := of_decide_eq_false h4
          obtain rfl : j = s.length := by omega
          conv => whnf
          refine hle _ _ (Le.env ?_ ?_) (ih ⟨l, s.length, n⟩ (Nat.lt_succ_self _) (fin s.length h hj (by rw [hdw]; simp) (by simpa using htw)))
          · exact ⟨AV.le_refl _, AV.le_refl _, AV.le_refl _, AV.le_refl _, trivial⟩
          · exact ⟨ABlk.le_refl _, ABlk.le_refl _, ABlk.le_refl _, trivial⟩
      have h3 : ¬ s[i] = 35 := fun e => by
        have h3 : (byteAt s (Int.toNat i) == 35) = false := h3
        rw [hby, e] at h3
        simp at h3
      rw [if_neg h3, ← hs2] at he
      conv => whnf
      refine two_intro (fun h4 => ?_) (fun h4 => ?_)
      · have h4 : 0 < runS partsT (s.drop i) := by
          have := of_decide_eq_true h4
          have : ((i + runS partsT (s.drop i) : Nat) : Int) > (i : Int) := this
          omega
        rw [if_pos h4] at he
        conv => whnf
        have hp := hrl partsT
        refine ⟨(⟨by omega, by omega, by omega⟩ : (0 : Int) ≤ (i : Int) ∧ (i : Int) ≤ ((i + runS partsT (s.drop i) : Nat) : Int) ∧ ((i + runS partsT (s.drop i) : Nat) : Int) ≤ (s.length : Int)), ?_⟩
        conv => whnf
        have hw : (s.take (Int.toNat ((i + runS partsT (s.drop i) : Nat) : Int))).drop (Int.toNat (i : Int)) = (s.drop i).take (runS partsT (s.drop i)) := by
          rw [Int.toNat_natCast, Int.toNat_natCast, List.drop_take, Nat.add_sub_cancel_left]
        have hwl : ((s.drop i).take (runS partsT (s.drop i))).length < 1000000 := by
          simp only [List.length_take, List.length_drop]; omega
        have hsb : (0 : Int) ≤ (i : Int) ∧ (i : Int) ≤ ((i + runS partsT (s.drop i) : Nat) : Int) ∧ ((i + runS partsT (s.drop i) : Nat) : Int) ≤ (s.length : Int) := ⟨by omega, by omega, by omega⟩
        refine ⟨?_, ?_⟩
        · conv => whnf
          refine ⟨(s.drop i).take (runS partsT (s.drop i)), (i : Int), congrArg (fun w => [AV.p (PV.str w), AV.p (PV.int .i64 (i : Int))]) hw, hwl, ?_⟩
          cases hwp : wordP ((s.drop i).take (runS partsT (s.drop i))) with
          | none =>
            rw [hwp] at he
            have hct : cutT s = .bad i := by rw [← he]; rfl
            rw [hct] at hk
            conv => whnf
            repeat ((refine And.intro ?_ ?_); (focus ((conv => whnf); done)); (conv => whnf))
            first | ((refine ⟨⟨hsb, rfl⟩, ?_⟩); (conv => whnf); repeat ((refine And.intro ?_ ?_); (focus ((conv => whnf); done)); (conv => whnf))) | skip
            exact hr _ _ _ _ (Wk1.refl _ _ _) rfl hk
          | some q =>
            obtain ⟨kd, v⟩ := q
            rw [hwp] at he
            simp only at he
            conv => whnf
            repeat ((refine And.intro ?_ ?_); (focus ((conv => whnf); done)); (conv => whnf))
            first | ((refine ⟨⟨hsb, rfl⟩, ?_⟩); (conv => whnf); repeat ((refine And.intro ?_ ?_); (focus ((conv => whnf); done)); (conv => whnf))) | skip
            refine ⟨⟨rfl, rfl, rfl, allLt_ok ⟨trivial, rfl⟩⟩, ?_⟩
            conv => whnf
            refine ⟨⟨rfl, rfl, rfl, rfl, ?_, ?_⟩, ?_⟩
            · show (l.length + 1) * 40 ≤ 140737488355328
              omega
            · show l.length + 1 ≤ 9223372036854775807
              omega
            conv => whnf
            refine hle _ _ (Le.cutEnv 3 rfl rfl ⟨rfl, rfl, ?_, trivial⟩ ?_ ?_) (ih ⟨l ++ [⟨kd, v, i, (s.drop i).take (runS partsT (s.drop i))⟩], i + runS partsT (s.drop i), n⟩ (Nat.lt_succ_self _) ⟨?_, ?_, ?_, ?_⟩)
            · exact tok_cl l ⟨kd, v, i, (s.drop i).take (runS partsT (s.drop i))⟩ _ 3 rfl
            · exact ⟨AV.le_refl _, AV.le_refl _, AV.le_refl _, AV.le_of_eq (slr_len _ _), trivial⟩
            · exact ⟨ABlk.le_refl _, ABlk.le_refl _, tokA_snoc l ⟨kd, v, i, (s.drop i).take (runS partsT (s.drop i))⟩ _ rfl, trivial⟩
            · simp only; omega
            · simp only; omega
            · simp only [List.length_append, List.length_cons, List.length_nil]; omega
            · rw [← he, app_cons, List.drop_drop]
        · conv => whnf
          repeat ((refine And.intro ?_ ?_); (focus ((conv => whnf); done)); (conv => whnf))
          refine ⟨⟨hsb, rfl⟩, ?_⟩
          conv => whnf
          repeat ((refine And.intro ?_ ?_); (focus ((conv => whnf); done)); (conv => whnf))
          refine ⟨(s.drop i).take (runS partsT (s.drop i)), (i : Int), congrArg (fun w => [AV.p (PV.str w), AV.p (PV.int .i64 (i : Int))]) hw, hwl, ?_⟩
          cases hwp : wordP ((s.drop i).take (runS partsT (s.drop i))) with
          | none =>
            rw [hwp] at he
            have hct : cutT s = .bad i := by rw [← he]; rfl
            rw [hct] at hk
            conv => whnf
            repeat ((refine And.intro ?_ ?_); (focus ((conv => whnf); done)); (conv => whnf))
            first | ((refine ⟨⟨hsb, rfl⟩, ?_⟩); (conv => whnf); repeat ((refine And.intro ?_ ?_); (focus ((conv => whnf); done)); (conv => whnf))) | skip
            exact hr _ _ _ _ (Wk1.refl _ _ _) rfl hk
          | some q =>
            obtain ⟨kd, v⟩ := q
            rw [hwp] at he
            simp only at he
            conv => whnf
            repeat ((refine And.intro ?_ ?_); (focus ((conv => whnf); done)); (conv => whnf))
            first | ((refine ⟨⟨hsb, rfl⟩, ?_⟩); (conv => whnf); repeat ((refine And.intro ?_ ?_); (focus ((conv => whnf); done)); (conv => whnf))) | skip
            refine ⟨⟨rfl, rfl, rfl, allLt_ok ⟨trivial, rfl⟩⟩, ?_⟩
            conv => whnf
            refine ⟨⟨rfl, rfl, rfl, rfl, ?_, ?_⟩, ?_⟩
            · show (l.length + 1) * 40 ≤ 140737488355328
              omega
            · show l.length + 1 ≤ 9223372036854775807
              omega
            conv => whnf
            refine hle _ _ (Le.cutEnv 3 rfl rfl ⟨rfl, rfl, ?_, trivial⟩ ?_ ?_) (ih ⟨l ++ [⟨kd, v, i, (s.drop i).take (runS partsT (s.drop i))⟩], i + runS partsT (s.drop i), n⟩ (Nat.lt_succ_self _) ⟨?_, ?_, ?_, ?_⟩)
            · exact tok_cl l ⟨kd, v, i, (s.drop i).take (runS partsT (s.drop i))⟩ _ 3 rfl
            · exact ⟨AV.le_refl _, AV.le_refl _, AV.le_refl _, AV.le_of_eq (slr_len _ _), trivial⟩
            · exact ⟨ABlk.le_refl _, ABlk.le_refl _, tokA_snoc l ⟨kd, v, i, (s.drop i).take (runS partsT (s.drop i))⟩ _ rfl, trivial⟩
            · simp only; omega
            · simp only; omega
            · simp only [List.length_append, List.length_cons, List.length_nil]; omega
            · rw [← he, app_cons, List.drop_drop]
      · have h4 : ¬ 0 < runS partsT (s.drop i) := by
          have := of_decide_eq_false h4
          have : ¬ ((i + runS partsT (s.drop i) : Nat) : Int) > (i : Int) := this
          omega
        rw [if_neg h4] at he
        conv => whnf
        refine ⟨(⟨by omega, (by show (i : Int) ≤ (s.length : Int); omega), Int.le_refl _⟩ : (0 : Int) ≤ (i : Int) ∧ (i : Int) ≤ Int.ofNat s.length ∧ Int.ofNat s.length ≤ (s.length : Int)), ?_⟩
        conv => whnf
        have hw : (s.take (Int.toNat (Int.ofNat s.length))).drop (Int.toNat (i : Int)) = s.drop i := by
          have e1 : Int.toNat (Int.ofNat s.length) = s.length := rfl
          rw [e1, Int.toNat_natCast, List.take_length]
        refine ⟨s.drop i, congrArg (fun w => [AV.p (PV.str w)]) hw, ?_, ?_, ?_⟩
        · simp only [List.length_drop]; omega
        · simp only [List.length_drop]; omega
        have hsl : signP (s.drop i) ≤ s.length - i := by
          unfold signP
          split
          · rename_i hpp
            simp only [pairP, Bool.and_eq_true, decide_eq_true_eq, List.length_drop] at hpp
            omega
          · split <;> omega
        generalize hsg : signP (s.drop i) = m at he hsl ⊢
        conv => whnf
        refine two_intro (fun h5 => ?_) (fun h5 => ?_)
        · have h5 : m = 0 := by
            have h5 : ((m : Int) == 0) = true := h5
            have := eq_of_beq h5
            omega
          subst h5
          have hct : cutT s = .bad i := by rw [← he]; rfl
          rw [hct] at hk
          conv => whnf
          exact hr _ _ _ _ (Wk1.refl _ _ _) rfl hk
        · cases m with
          | zero => exact absurd h5 (by simp)
          | succ m =>
          simp only at he
          conv => whnf
          refine ⟨(⟨by omega, ?_, ?_⟩ : (0 : Int) ≤ (i : Int) ∧ (i : Int) ≤ IntKind.i64.wrap ((i : Int) + ((m + 1 : Nat) : Int)) ∧ IntKind.i64.wrap ((i : Int) + ((m + 1 : Nat) : Int)) ≤ (s.length : Int)), ?_⟩
          · rw [w64 (by omega)]; omega
          · rw [w64 (by omega)]; omega
          conv => whnf
          repeat ((refine And.intro ?_ ?_); (focus ((conv => whnf); done)); (conv => whnf))
          have hw2 : (s.take (Int.toNat (IntKind.i64.wrap ((i : Int) + ((m + 1 : Nat) : Int))))).drop (Int.toNat (i : Int)) = (s.drop i).take (m + 1) := by
            rw [w64 (by omega)]
            have e1 : Int.toNat ((i : Int) + ((m + 1 : Nat) : Int)) = i + (m + 1) := by omega
            rw [e1, Int.toNat_natCast, List.drop_take, Nat.add_sub_cancel_left]
          have hcells := congrArg (fun w => [AV.p (.int .i64 3), AV.p (.int .i64 0), AV.p (.int .i64 (i : Int)), AV.p (.str w)]) hw2
          refine ⟨⟨rfl, rfl, rfl, allLt_ok ⟨trivial, rfl⟩⟩, ?_⟩
          conv => whnf
          refine ⟨⟨rfl, rfl, rfl, rfl, ?_, ?_⟩, ?_⟩
          · show (l.length + 1) * 40 ≤ 140737488355328
            omega
          · show l.length + 1 ≤ 9223372036854775807
            omega
          conv => whnf
          repeat ((refine And.intro ?_ ?_); (focus ((conv => whnf); done)); (conv => whnf))
          refine hle _ _ (Le.cutEnv 3 rfl rfl ⟨rfl, rfl, ?_, trivial⟩ ?_ ?_) (ih ⟨l ++ [⟨.sign, 0, i, (s.drop i).take (m + 1)⟩], i + (m + 1), n⟩ (Nat.lt_succ_self _) ⟨?_, ?_, ?_, ?_⟩)
          · exact tok_cl l ⟨.sign, 0, i, (s.drop i).take (m + 1)⟩ _ 3 hcells
          · exact ⟨AV.le_refl _, AV.le_refl _, AV.le_refl _, AV.le_of_eq (slr_len _ _), trivial⟩
          · refine ⟨ABlk.le_refl _, ABlk.le_of_eq ?_, tokA_snoc l ⟨.sign, 0, i, (s.drop i).take (m + 1)⟩ _ hcells, trivial⟩
            show ABlk.box 3 [.p (.int .i64 (IntKind.i64.wrap ((i : Int) + ((m + 1 : Nat) : Int))))] = _
            rw [w64 (by omega)]; rfl
          · simp only; omega
          · simp only; omega
          · simp only [List.length_append, List.length_cons, List.length_nil]; omega
          · rw [← he, app_cons, List.drop_drop]
  · rw [hd2] at h
    have h := of_decide_eq_false h
    obtain rfl : i = s.length := by omega
    rw [List.drop_length] at he
    have hct : cutT s = .ok l := by
      rw [← he]
      cases n <;> simp [cutS, CR.app]
    rw [hct] at hk
    conv => whnf
    refine ⟨⟨rfl, rfl, rfl, allLt_ok ⟨trivial, rfl⟩⟩, ?_⟩
    conv => whnf
    refine ⟨⟨rfl, rfl, rfl, rfl, ?_, ?_⟩, ?_⟩
    · show (l.length + 1) * 40 ≤ 140737488355328
      omega
    · show l.length + 1 ≤ 9223372036854775807
      omega
    conv => whnf
    exact hr _ _ _ _ (Wk1.tup_freeze1 (r := 2) rfl (encs s.length l) (enc_all _ _ _ rfl)) rfl hk
end Go.Proofs.YtbcngegcpdppfaaGreatDoor

namespace Go.AE

/-- some slots of a frame -/
def rst (t : List (Nat × AV)) : List Nat → List (Nat × AV)
  | [] => []
  | d :: l => (d, look t d) :: rst t l
/-- a heap, some blocks of it others -/
def upK (K : List ABlk) : List (Nat × ABlk) → List ABlk
  | [] => K
  | (r, b) :: l => setN (upK K l) r b
def upLe (K : List ABlk) : List (Nat × ABlk) → Prop
  | [] => True
  | (r, b) :: l => (∀ b0, nth K r = some b0 → b0.le b) ∧ upLe K l

theorem subE_append {t a b : List (Nat × AV)} (h : subE t a) (h' : subE t b) : subE t (a ++ b) := by
  induction a with
  | nil => exact h'
  | cons x l ih => exact ⟨h.1, ih h.2⟩
theorem subE_rst (t : List (Nat × AV)) (l : List Nat) : subE t (rst t l) := by
  induction l with
  | nil => trivial
  | cons d l ih => exact ⟨AV.le_refl _, ih⟩
theorem lesK_setN {K K' : List ABlk} (h : lesK K K') : ∀ (r : Nat) (b : ABlk), (∀ b0, nth K r = some b0 → b0.le b) → lesK K (setN K' r b) := by
  induction K generalizing K' with
  | nil =>
    intro r b _
    cases K' with
    | nil => exact h
    | cons a l => exact h.elim
  | cons a l ih =>
    intro r b hb
    cases K' with
    | nil => exact h.elim
    | cons a' l' =>
      cases r with
      | zero => exact ⟨hb a rfl, h.2⟩
      | succ r => exact ⟨h.1, ih h.2 r b hb⟩
theorem lesK_up {K : List ABlk} {l : List (Nat × ABlk)} (h : upLe K l) : lesK K (upK K l) := by
  induction l with
  | nil => exact lesK.refl K
  | cons x l ih => exact lesK_setN (ih h.2) _ _ h.1

theorem loop_up {kb : Nat} {F : AS → (Ex → AS → Prop) → Prop} {Q : Ex → AS → Prop} {t : List (Nat × AV)} {K : List ABlk} {ι : Type} (keep : List Nat) (ts : ι → List (Nat × AV)) (up : ι → List (Nat × ABlk)) (Pre : ι → Prop) (μ : ι → Nat) (i : ι)
    (ht : subE t (ts i)) (hK : upLe K (up i)) (hi : Pre i)
    (h : ∀ (X : AS → Prop), (∀ s s', Le kb s s' → X s' → X s) → ∀ i, Pre i → (∀ j, μ j < μ i → Pre j → X ⟨ts j ++ rst t keep, upK K (up j)⟩) → F ⟨ts i ++ rst t keep, upK K (up i)⟩ (fun e s' => match e with | .norm => X s' | e => Q e s')) :
    LoopW kb F ⟨t, K⟩ Q :=
  loop_by (fun i => ⟨ts i ++ rst t keep, upK K (up i)⟩) Pre μ i (subE_append ht (subE_rst t keep)) (lesK_up hK) hi h

theorem upLe1 {K : List ABlk} {r : Nat} {b0 b : ABlk} (h0 : nth K r = some b0) (h : b0.le b) : ∀ b1, nth K r = some b1 → b1.le b := fun b1 h1 => by
  rw [h0] at h1; injection h1 with h1; rw [← h1]; exact h

end Go.AE

namespace Go.AE
section
variable {P : Program} {T : Tab}

mutual
/-- references n further on -/
def AV.up (n : Nat) : AV → AV
  | .ptr r ver k i off => .ptr (r + n) ver k i off
  | .slr r ver off k => .slr (r + n) ver off k
  | .fn f a b => .fn f (AV.ups n a) (AV.ups n b)
  | .iface t v => .iface t (AV.up n v)
  | .agg l => .agg (AV.ups n l)
  | .tup l => .tup (AV.ups n l)
  | .yld r => .yld (r + n)
  | .p v => .p v
  | .rop cs off => .rop cs off
  | .junk => .junk
def AV.ups (n : Nat) : List AV → List AV
  | [] => []
  | a :: l => AV.up n a :: AV.ups n l
end
mutual
/-- references n less; those below n are none -/
def AV.dn (n : Nat) : AV → AV
  | .ptr r ver k i off => match Nat.ble n r with
    | true => .ptr (Nat.sub r n) ver k i off
    | false => .junk
  | .slr r ver off k => match Nat.ble n r with
    | true => .slr (Nat.sub r n) ver off k
    | false => .junk
  | .fn f a b => .fn f (AV.dns n a) (AV.dns n b)
  | .iface t v => .iface t (AV.dn n v)
  | .agg l => .agg (AV.dns n l)
  | .tup l => .tup (AV.dns n l)
  | .yld r => match Nat.ble n r with
    | true => .yld (Nat.sub r n)
    | false => .junk
  | .p v => .p v
  | .rop cs off => .rop cs off
  | .junk => .junk
def AV.dns (n : Nat) : List AV → List AV
  | [] => []
  | a :: l => AV.dn n a :: AV.dns n l
end
theorem AV.ups_len (n : Nat) (l : List AV) : (AV.ups n l).length = l.length := by
  induction l with
  | nil => rfl
  | cons a l ih => simp [AV.ups, ih]
theorem AV.dns_len (n : Nat) (l : List AV) : (AV.dns n l).length = l.length := by
  induction l with
  | nil => rfl
  | cons a l ih => simp [AV.dns, ih]
theorem AV.ups_get (n : Nat) (l : List AV) (j : Nat) (hj : j < (AV.ups n l).length) : (AV.ups n l)[j] = AV.up n (l[j]'(by rw [AV.ups_len] at hj; exact hj)) := by
  induction l generalizing j with
  | nil => simp [AV.ups] at hj
  | cons a l ih =>
    cases j with
    | zero => rfl
    | succ j => simpa [AV.ups] using ih j (by simpa [AV.ups] using hj)
theorem AV.dns_get (n : Nat) (l : List AV) (j : Nat) (hj : j < (AV.dns n l).length) : (AV.dns n l)[j] = AV.dn n (l[j]'(by rw [AV.dns_len] at hj; exact hj)) := by
  induction l generalizing j with
  | nil => simp [AV.dns] at hj
  | cons a l ih =>
    cases j with
    | zero => rfl
    | succ j => simpa [AV.dns] using ih j (by simpa [AV.dns] using hj)

def Mp.dn (n : Nat) (m : Mp) : Mp := ⟨fun r => m.ρ (r + n), m.I, fun r => m.L (r + n)⟩
def Mp.ups (n : Nat) (m m' : Mp) : Mp := ⟨fun r => if r < n then m.ρ r else m'.ρ (r - n), m'.I, fun r => if r < n then m.L r else m'.L (r - n)⟩

theorem V.dn {w : World} {m : Mp} {a : AV} {u : Value} (n : Nat) (h : V w m a u) : V w (m.dn n) (a.dn n) u := by
  induction h with
  | p v u h => exact .p v u h
  | ptr r ver k i off sz cap h hi =>
    simp only [AV.dn]
    split
    · rename_i hb
      have hb := Nat.le_of_ble_eq_true hb
      have e : Nat.sub r n + n = r := by simp only [Nat.sub_eq]; omega
      have := V.ptr (w := w) (m := m.dn n) (Nat.sub r n) ver k i off sz cap (by simp only [Mp.dn, e, h]) hi
      simp only [Mp.dn, e] at this ⊢
      exact this
    · exact .junk _
  | ptrOld r ver k i off b o h =>
    simp only [AV.dn]
    split
    · rename_i hb
      have hb := Nat.le_of_ble_eq_true hb
      have e : Nat.sub r n + n = r := by simp only [Nat.sub_eq]; omega
      exact .ptrOld (m := m.dn n) _ ver k i off b o (by simp only [Mp.dn, e]; exact h)
    · exact .junk _
  | slr r ver off k N sz cap h hn =>
    simp only [AV.dn]
    split
    · rename_i hb
      have hb := Nat.le_of_ble_eq_true hb
      have e : Nat.sub r n + n = r := by simp only [Nat.sub_eq]; omega
      have := V.slr (w := w) (m := m.dn n) (Nat.sub r n) ver off k N sz cap (by simp only [Mp.dn, e, h]) hn
      simp only [Mp.dn, e] at this ⊢
      exact this
    · exact .junk _
  | slrNil r ver h =>
    simp only [AV.dn]
    split
    · rename_i hb
      have hb := Nat.le_of_ble_eq_true hb
      have e : Nat.sub r n + n = r := by simp only [Nat.sub_eq]; omega
      exact .slrNil (m := m.dn n) _ ver (by simp only [Mp.dn, e, h])
    · exact .junk _
  | slrOld r ver off k ad c h =>
    simp only [AV.dn]
    split
    · rename_i hb
      have hb := Nat.le_of_ble_eq_true hb
      have e : Nat.sub r n + n = r := by simp only [Nat.sub_eq]; omega
      exact .slrOld (m := m.dn n) _ ver off k ad c (by simp only [Mp.dn, e]; exact h)
    · exact .junk _
  | rop cs off b o u hb h1 h2 => exact .rop (m := m.dn n) cs off b o u hb h1 h2
  | fn f first cap A B hA hB h1 h2 ih1 ih2 =>
    exact .fn f _ _ A B (by rw [AV.dns_len]; exact hA) (by rw [AV.dns_len]; exact hB) (fun j hj hj' => by rw [AV.dns_get]; exact ih1 j _ hj') (fun j hj hj' => by rw [AV.dns_get]; exact ih2 j _ hj')
  | iface t v u h ih => exact .iface t _ u ih
  | agg cs A hA h ih => exact .agg _ A (by rw [AV.dns_len]; exact hA) (fun j hj hj' => by rw [AV.dns_get]; exact ih j _ hj')
  | tup cs A hA h ih => exact .tup _ A (by rw [AV.dns_len]; exact hA) (fun j hj hj' => by rw [AV.dns_get]; exact ih j _ hj')
  | yld r sz cap h =>
    simp only [AV.dn]
    split
    · rename_i hb
      have hb := Nat.le_of_ble_eq_true hb
      have e : Nat.sub r n + n = r := by simp only [Nat.sub_eq]; omega
      have := V.yld (w := w) (m := m.dn n) (Nat.sub r n) sz cap (by simp only [Mp.dn, e, h])
      simp only [Mp.dn, e] at this ⊢
      exact this
    · exact .junk _
  | yldOld r b h =>
    simp only [AV.dn]
    split
    · rename_i hb
      have hb := Nat.le_of_ble_eq_true hb
      have e : Nat.sub r n + n = r := by simp only [Nat.sub_eq]; omega
      exact .yldOld (m := m.dn n) _ b (by simp only [Mp.dn, e]; exact h)
    · exact .junk _
  | junk u => exact .junk u

theorem V.ups {w : World} {m0 m : Mp} {a : AV} {u : Value} (n : Nat) (h : V w m a u) : V w (m0.ups n m) (a.up n) u := by
  have hL : ∀ r, (m0.ups n m).L (r + n) = m.L r := fun r => by simp [Mp.ups, show ¬ (r + n < n) by omega]
  have hρ : ∀ r, (m0.ups n m).ρ (r + n) = m.ρ r := fun r => by simp [Mp.ups, show ¬ (r + n < n) by omega]
  induction h with
  | p v u h => exact .p v u h
  | ptr r ver k i off sz cap h hi =>
    have := V.ptr (w := w) (m := m0.ups n m) (r + n) ver k i off sz cap (by rw [hL, h]) hi
    rwa [hρ] at this
  | ptrOld r ver k i off b o h => exact .ptrOld (m := m0.ups n m) _ ver k i off b o (by rw [hL]; exact h)
  | slr r ver off k N sz cap h hn =>
    have := V.slr (w := w) (m := m0.ups n m) (r + n) ver off k N sz cap (by rw [hL, h]) hn
    rwa [hρ] at this
  | slrNil r ver h => exact .slrNil (m := m0.ups n m) _ ver (by rw [hL, h])
  | slrOld r ver off k ad c h => exact .slrOld (m := m0.ups n m) _ ver off k ad c (by rw [hL]; exact h)
  | rop cs off b o u hb h1 h2 => exact .rop (m := m0.ups n m) cs off b o u hb h1 h2
  | fn f first cap A B hA hB h1 h2 ih1 ih2 =>
    exact .fn f _ _ A B (by rw [AV.ups_len]; exact hA) (by rw [AV.ups_len]; exact hB) (fun j hj hj' => by rw [AV.ups_get]; exact ih1 j _ hj') (fun j hj hj' => by rw [AV.ups_get]; exact ih2 j _ hj')
  | iface t v u h ih => exact .iface t _ u ih
  | agg cs A hA h ih => exact .agg _ A (by rw [AV.ups_len]; exact hA) (fun j hj hj' => by rw [AV.ups_get]; exact ih j _ hj')
  | tup cs A hA h ih => exact .tup _ A (by rw [AV.ups_len]; exact hA) (fun j hj hj' => by rw [AV.ups_get]; exact ih j _ hj')
  | yld r sz cap h =>
    have := V.yld (w := w) (m := m0.ups n m) (r + n) sz cap (by rw [hL, h])
    rwa [hρ] at this
  | yldOld r b h => exact .yldOld (m := m0.ups n m) _ b (by rw [hL]; exact h)
  | junk u => exact .junk u

def ABlk.up (n : Nat) : ABlk → ABlk
  | .box ty cs => .box ty (AV.ups n cs)
  | .arr ty sz ver k f => .arr ty sz ver k fun i => AV.ups n (f i)
  | b => b
def ABlk.dn (n : Nat) : ABlk → ABlk
  | .box ty cs => .box ty (AV.dns n cs)
  | .arr ty sz ver k f => .arr ty sz ver k fun i => AV.dns n (f i)
  | b => b
def ABlk.nl : ABlk → Prop
  | .lp _ _ _ _ _ _ => False
  | _ => True
def upsB (n : Nat) : List ABlk → List ABlk
  | [] => []
  | b :: l => b.up n :: upsB n l
def dnsB (n : Nat) : List ABlk → List ABlk
  | [] => []
  | b :: l => b.dn n :: dnsB n l
def nlK : List ABlk → Prop
  | [] => True
  | b :: l => b.nl ∧ nlK l
def AO.up (n : Nat) : AO → AO
  | .ret a => .ret (a.up n)
  | .pan a => .pan (a.up n)
theorem hp_dns (n : Nat) (K : List ABlk) (r : Nat) : hp (dnsB n K) r = (hp K r).dn n := by
  induction K generalizing r with
  | nil => rfl
  | cons b K ih =>
    cases r with
    | zero => rfl
    | succ r => exact ih r
theorem hp_ups (n : Nat) (K : List ABlk) (r : Nat) : hp (upsB n K) r = (hp K r).up n := by
  induction K generalizing r with
  | nil => rfl
  | cons b K ih =>
    cases r with
    | zero => rfl
    | succ r => exact ih r
theorem nlK.hp {K : List ABlk} (h : nlK K) (r : Nat) : (hp K r).nl := by
  induction K generalizing r with
  | nil => trivial
  | cons b K ih =>
    cases r with
    | zero => exact h.1
    | succ r => exact ih h.2 r

theorem BlkOk.dn {w : World} {m : Mp} {l : Inf} {g : Nat} {b : ABlk} (n : Nat) (hn : b.nl) (h : BlkOk w m l g b) : BlkOk w (m.dn n) l g (b.dn n) := by
  cases b with
  | absent => exact h
  | dead => exact h
  | box ty cs =>
    obtain ⟨hl, c, h1, h2, h3⟩ := h
    refine ⟨by rw [AV.dns_len]; exact hl, c, h1, by rw [AV.dns_len]; exact h2, fun j hj => ?_⟩
    rw [AV.dns_get]
    obtain ⟨u, a, b⟩ := h3 j (by rw [AV.dns_len] at hj; exact hj)
    exact ⟨u, a, b.dn n⟩
  | arr ty sz ver k f =>
    rcases h with h | ⟨cap, c, hl, h0, h00, h1, h2, h3⟩
    · exact .inl h
    refine .inr ⟨cap, c, hl, h0, h00, h1, h2, fun i hi => ⟨by rw [AV.dns_len]; exact (h3 i hi).1, fun j hj => ?_⟩⟩
    rw [AV.dns_get]
    obtain ⟨u, a, b⟩ := (h3 i hi).2 j (by rw [AV.dns_len] at hj; exact hj)
    exact ⟨u, a, b.dn n⟩
  | lp => exact hn.elim
theorem BlkOk.ups {w : World} {m0 m : Mp} {l : Inf} {g : Nat} {b : ABlk} (n : Nat) (hn : b.nl) (h : BlkOk w m l g b) : BlkOk w (m0.ups n m) l g (b.up n) := by
  cases b with
  | absent => exact h
  | dead => exact h
  | box ty cs =>
    obtain ⟨hl, c, h1, h2, h3⟩ := h
    refine ⟨by rw [AV.ups_len]; exact hl, c, h1, by rw [AV.ups_len]; exact h2, fun j hj => ?_⟩
    rw [AV.ups_get]
    obtain ⟨u, a, b⟩ := h3 j (by rw [AV.ups_len] at hj; exact hj)
    exact ⟨u, a, b.ups n⟩
  | arr ty sz ver k f =>
    rcases h with h | ⟨cap, c, hl, h0, h00, h1, h2, h3⟩
    · exact .inl h
    refine .inr ⟨cap, c, hl, h0, h00, h1, h2, fun i hi => ⟨by rw [AV.ups_len]; exact (h3 i hi).1, fun j hj => ?_⟩⟩
    rw [AV.ups_get]
    obtain ⟨u, a, b⟩ := (h3 i hi).2 j (by rw [AV.ups_len] at hj; exact hj)
    exact ⟨u, a, b.ups n⟩
  | lp => exact hn.elim

theorem shift_ok {n : Nat} {w w' : World} {m m' : Mp} {Y K2 : List ABlk} {H : Nat → ABlk} (hY : Y.length = n) (hS : St w m H) (hH : ∀ r, r < n → H r = hp Y r) (hT : Tr w (m.dn n) w' m') (hS' : St w' m' (hp K2)) (hnl : nlK K2) :
    Tr w m w' (m.ups n m') ∧ St w' (m.ups n m') (hp (Y ++ upsB n K2)) := by
  have hlo : ∀ r, r < n → (m.ups n m').L r = m.L r ∧ (m.ups n m').ρ r = m.ρ r := fun r hr => by simp [Mp.ups, hr]
  have hhi : ∀ r, ¬ r < n → (m.ups n m').L r = m'.L (r - n) ∧ (m.ups n m').ρ r = m'.ρ (r - n) := fun r hr => by simp [Mp.ups, hr]
  have hdn : ∀ r, ¬ r < n → (m.dn n).L (r - n) = m.L r ∧ (m.dn n).ρ (r - n) = m.ρ r := fun r hr => by
    have : r - n + n = r := by omega
    simp only [Mp.dn, this]; exact ⟨trivial, trivial⟩
  have hTr : Tr w m w' (m.ups n m') := {
    os := hT.os
    tape := hT.tape
    output := hT.output
    size := hT.size
    out := fun b hb hr => hT.out b hb fun r hl => hr (r + n) hl
    imm := fun b hb => hT.imm b hb
    same := fun b hb => hT.same b hb
    newI := fun b hb => by
      rcases hT.newI b hb with h | ⟨r, h1, h2⟩ | h
      · exact .inl h
      · exact .inr (.inl ⟨r + n, h1, h2⟩)
      · exact .inr (.inr h)
    step := fun r => by
      by_cases hr : r < n
      · rw [(hlo r hr).1, (hlo r hr).2]; exact Inf.step_refl _ _ rfl
      · rw [(hhi r hr).1, (hhi r hr).2]
        have := hT.step (r - n)
        rw [(hdn r hr).1, (hdn r hr).2] at this
        exact this
    newρ := fun r hl => by
      by_cases hr : r < n
      · rw [(hlo r hr).1] at hl; exact .inl ⟨hl, (hlo r hr).2⟩
      · rw [(hhi r hr).1] at hl
        rw [(hhi r hr).2]
        rcases hT.newρ (r - n) hl with ⟨h1, h2⟩ | h1
        · rw [(hdn r hr).1] at h1
          rw [(hdn r hr).2] at h2
          exact .inl ⟨h1, h2⟩
        · exact .inr h1 }
  have sep : ∀ r1 r2, r1 < n → (m.L r1).isLive → ¬ r2 < n → (m'.L (r2 - n)).isLive → m.ρ r1 ≠ m'.ρ (r2 - n) := fun r1 r2 h1 hl1 h2 hl2 e => by
    rcases hT.newρ (r2 - n) hl2 with ⟨h3, h4⟩ | h3
    · rw [(hdn r2 h2).1] at h3
      rw [(hdn r2 h2).2] at h4
      have := hS.inj r1 r2 hl1 h3 (e.trans h4)
      omega
    · have := hS.lt r1 hl1; omega
  refine ⟨hTr, fun r1 r2 h1 h2 e => ?_, fun r h1 hI => ?_, fun r h1 => ?_, hS'.Ilt, hS'.gl, fun r => ?_⟩
  · by_cases hr1 : r1 < n <;> by_cases hr2 : r2 < n
    · rw [(hlo r1 hr1).1] at h1; rw [(hlo r2 hr2).1] at h2
      rw [(hlo r1 hr1).2, (hlo r2 hr2).2] at e
      exact hS.inj r1 r2 h1 h2 e
    · rw [(hlo r1 hr1).1] at h1; rw [(hhi r2 hr2).1] at h2
      rw [(hlo r1 hr1).2, (hhi r2 hr2).2] at e
      exact absurd e (sep r1 r2 hr1 h1 hr2 h2)
    · rw [(hhi r1 hr1).1] at h1; rw [(hlo r2 hr2).1] at h2
      rw [(hhi r1 hr1).2, (hlo r2 hr2).2] at e
      exact absurd e.symm (sep r2 r1 hr2 h2 hr1 h1)
    · rw [(hhi r1 hr1).1] at h1; rw [(hhi r2 hr2).1] at h2
      rw [(hhi r1 hr1).2, (hhi r2 hr2).2] at e
      have := hS'.inj _ _ h1 h2 e
      omega
  · by_cases hr : r < n
    · rw [(hlo r hr).1] at h1
      rw [(hlo r hr).2] at hI
      rcases hT.newI _ hI with h | ⟨r0, h2, h3⟩ | h
      · exact hS.notI r h1 h
      · have := hS.inj (r0 + n) r h2 h1 h3; omega
      · have := hS.lt r h1; omega
    · rw [(hhi r hr).1] at h1
      rw [(hhi r hr).2] at hI
      exact hS'.notI _ h1 hI
  · by_cases hr : r < n
    · rw [(hlo r hr).1] at h1
      rw [(hlo r hr).2]
      exact Nat.lt_of_lt_of_le (hS.lt r h1) hT.size
    · rw [(hhi r hr).1] at h1
      rw [(hhi r hr).2]
      exact hS'.lt _ h1
  · rw [hp_append, hY]
    by_cases hr : r < n
    · rw [if_pos hr, (hlo r hr).1, (hlo r hr).2]
      have hb := hS.blk r
      rw [hH r hr] at hb
      by_cases hl : (m.L r).isLive
      · refine hb.mono (hT.out _ (hS.lt r hl) fun r0 h0 e => ?_) (fun _ _ hv => hv.mono hTr)
        have := hS.inj (r0 + n) r h0 hl e
        omega
      · exact hb.nolive hl
    · rw [if_neg hr, (hhi r hr).1, (hhi r hr).2, hp_ups]
      exact (hS'.blk (r - n)).ups n (hnl.hp _)

theorem St.dn {w : World} {m : Mp} {Y K1 : List ABlk} {n : Nat} (hY : Y.length = n) (hnl : nlK K1) (hS : St w m (hp (Y ++ K1))) : St w (m.dn n) (hp (dnsB n K1)) := by
  refine ⟨fun r1 r2 h1 h2 e => by have := hS.inj (r1 + n) (r2 + n) h1 h2 e; omega, fun r h1 => hS.notI (r + n) h1, fun r h1 => hS.lt (r + n) h1, hS.Ilt, hS.gl, fun r => ?_⟩
  rw [hp_dns]
  have hb := hS.blk (r + n)
  rw [hp_append, hY, if_neg (by omega), show r + n - n = r by omega] at hb
  exact hb.dn n (hnl.hp _)

/-- a call of which the references stand behind some blocks that it does not know -/
theorem ACalls.shift {n : Nat} {f : FuncId} {args : List AV} {Y K1 : List ABlk} {k : AO → List ABlk → Prop} (hY : Y.length = n) (hnl : nlK K1)
    (h : ACalls P f (AV.dns n args) (dnsB n K1) (fun ao K2 => nlK K2 ∧ k (ao.up n) (Y ++ upsB n K2))) : ACalls P f args (Y ++ K1) k := by
  refine ⟨h.1, fun w m Args hS hV => ?_⟩
  have hV' : VL w (m.dn n) (AV.dns n args) Args := ⟨by rw [AV.dns_len]; exact hV.1, fun j hj hj' => by rw [AV.dns_get]; exact (hV.2 j _ hj').dn n⟩
  have hH : ∀ r, r < n → hp (Y ++ K1) r = hp Y r := fun r hr => by rw [hp_append, hY, if_pos hr]
  refine (h.2 w (m.dn n) Args (hS.dn hY hnl) hV').mono fun e w' he => ?_
  cases e with
  | returned u =>
    obtain ⟨m', a, K2, h1, h2, h3, h4, h5⟩ := he
    obtain ⟨k1, k2⟩ := shift_ok hY hS hH h1 h2 h4
    exact ⟨_, _, _, k1, k2, h3.ups n, h5⟩
  | panicked ch =>
    obtain ⟨m', a, u, K2, h0, h1, h2, h3, h4, h5⟩ := he
    obtain ⟨k1, k2⟩ := shift_ok hY hS hH h1 h2 h4
    exact ⟨_, _, u, _, h0, k1, k2, h3.ups n, h5⟩
  | outgrown => exact he.elim

/-- ahead of a call: a nil slice is a row of nothing -/
theorem ACalls.nilPre {f : FuncId} {args : List AV} {K K' : List ABlk} {k : AO → List ABlk → Prop} (ty sz : Nat) (g : Nat → List AV) (hK : nswK K.length K K')
    (h : ACalls P f args (K' ++ [.arr ty sz 0 0 g]) k) : ACalls P f args K k :=
  h.pre fun w m Args hS hV => by
    obtain ⟨m', h1, h2, _⟩ := nil_core ty sz g hS hK
    exact ⟨m', h1, h2, hV.1, fun j hj hj' => (hV.2 j hj hj').mono h1⟩

/-! ### rows frozen behind a call -/
/-- in weaker words, or a row as data -/
def fsw (r sz n : Nat) (g : Nat → List PV) (a b : AV) : Prop := a.le b ∨ (a = .slr r 0 0 n ∧ b = .p (.sl sz n g))
def fswL (r sz n : Nat) (g : Nat → List PV) : List AV → List AV → Prop
  | [], [] => True
  | a :: l, b :: l' => fsw r sz n g a b ∧ fswL r sz n g l l'
  | _, _ => False
def fswB (r sz n : Nat) (g : Nat → List PV) (b b' : ABlk) : Prop := b.le b' ∨ ∃ ty cs cs', b = .box ty cs ∧ b' = .box ty cs' ∧ fswL r sz n g cs cs'
def fswK (r sz n : Nat) (g : Nat → List PV) : List ABlk → List ABlk → Prop
  | [], [] => True
  | a :: l, b :: l' => fswB r sz n g a b ∧ fswK r sz n g l l'
  | _, _ => False
theorem fswL.get {r sz n : Nat} {g : Nat → List PV} {l l' : List AV} (h : fswL r sz n g l l') : l.length = l'.length ∧ ∀ j (hj : j < l.length) (hj' : j < l'.length), fsw r sz n g l[j] l'[j] := by
  induction l generalizing l' with
  | nil => cases l' with
    | nil => exact ⟨rfl, fun j hj => by simp at hj⟩
    | cons b l' => exact h.elim
  | cons a l ih => cases l' with
    | nil => exact h.elim
    | cons b l' =>
      obtain ⟨h1, h2⟩ := ih h.2
      refine ⟨by simp [h1], fun j hj hj' => ?_⟩
      cases j with
      | zero => exact h.1
      | succ j => exact h2 j (by simpa using hj) (by simpa using hj')
theorem fswK.hp {r sz n : Nat} {g : Nat → List PV} {K K' : List ABlk} (h : fswK r sz n g K K') (j : Nat) : fswB r sz n g (hp K j) (hp K' j) := by
  induction K generalizing K' j with
  | nil => cases K' with
    | nil => exact .inl (ABlk.le_refl _)
    | cons b l' => exact h.elim
  | cons a l ih => cases K' with
    | nil => exact h.elim
    | cons b l' =>
      cases j with
      | zero => exact h.1
      | succ j => exact ih h.2 j

theorem fz_core {w : World} {m : Mp} {K K' : List ABlk} {r ty sz n : Nat} {f : Nat → List AV} {g : Nat → List PV} (hS : St w m (hp K)) (hr : nth K r = some (.arr ty sz 0 n f)) (hg : ∀ i, i < n → f i = pvs (g i))
    (hK : fswK r sz n g (setN K r .dead) K') : ∃ m', Tr w m w m' ∧ St w m' (hp K') ∧ ∀ a a' u, fsw r sz n g a a' → V w m a u → V w m' a' u := by
  obtain ⟨m', hT, hS', hV⟩ := freeze_sl hS hr g hg
  have hv : ∀ a a' u, fsw r sz n g a a' → V w m a u → V w m' a' u := fun a a' u h hu => by
    rcases h with h | ⟨rfl, rfl⟩
    · exact h _ _ _ (hu.mono hT)
    · exact hV u hu
  refine ⟨m', hT, ⟨hS'.inj, hS'.notI, hS'.lt, hS'.Ilt, hS'.gl, fun j => ?_⟩, hv⟩
  have hb := hS'.blk j
  rcases hK.hp j with h | ⟨ty, cs, cs', h1, h2, h3⟩
  · exact h _ _ _ _ hb
  · rw [h1] at hb
    rw [h2]
    have hup : hp (setN K r .dead) j = upd (hp K) r .dead j := by rw [upd_setN _ (nth_lt hr)]
    have hj : hp K j = .box ty cs := by
      rw [h1] at hup
      simp only [upd] at hup
      split at hup
      · cases hup
      · exact hup.symm
    have hb0 := hS.blk j
    rw [hj] at hb0
    obtain ⟨hl0, c0, e1, e2, e3⟩ := hb0
    obtain ⟨hl, c, d1, d2, d3⟩ := hb
    have hρ : m'.ρ j = m.ρ j := by
      have hs := hT.step j
      rw [hl0, hl] at hs
      simp only [Inf.step] at hs
      rcases hs with hs | ⟨_, he⟩ | ⟨v', n', sz', cap', hs, hlt⟩
      · cases hs
      · exact he
      · simp only [Inf.live.injEq] at hs; omega
    obtain ⟨k1, k2⟩ := h3.get
    refine ⟨by rw [← k1]; exact hl, c0, by rw [hρ]; exact e1, by rw [e2, k1], fun i hi => ?_⟩
    obtain ⟨u, hu, hvu⟩ := e3 i (by omega)
    exact ⟨u, hu, hv _ _ _ (k2 i (by omega) hi) hvu⟩

theorem Wk1.fz {N : Nat} {K K' : List ABlk} {r ty sz n : Nat} {f : Nat → List AV} {a a' : AV} (g : Nat → List PV) (hr : nth K r = some (.arr ty sz 0 n f)) (hg : ∀ i, i < n → f i = pvs (g i))
    (hK : fswK r sz n g (setN K r .dead) K') (ha : a.le a') : Wk1 N a K a' K' := fun w m u we me hT _ hS hV => by
  obtain ⟨m', h1, h2, h3⟩ := fz_core hS hr hg hK
  exact ⟨m', hT.trans h1, h2, h3 _ _ _ (.inl ha) hV⟩

/-- what the values of a call tell -/
theorem ACalls.fact {f : FuncId} {args : List AV} {K : List ABlk} {k : AO → List ABlk → Prop} {c : Prop} (hent : Ent P f) (hf : ∀ w m Args, St w m (hp K) → VL w m args Args → c) (h : c → ACalls P f args K k) : ACalls P f args K k :=
  ⟨hent, fun w m Args hS hV => (h (hf w m Args hS hV)).2 w m Args hS hV⟩
theorem VP.len {w : World} {I : Nat → Prop} {sz n : Nat} {f : Nat → List PV} {u : Value} (h : VP w I (.sl sz n f) u) : n ≤ 9223372036854775807 := by
  cases h with
  | sl0 => omega
  | sl _ _ _ b o c uu hI hcap hc hv => have := hcap.2; simp only [maxLen] at this; omega
theorem VP.get {w : World} {I : Nat → Prop} {sz n : Nat} {f : Nat → List PV} {u : Value} (h : VP w I (.sl sz n f) u) {i j : Nat} (hi : i < n) (hj : j < (f i).length) : ∃ u, VP w I (f i)[j] u := by
  cases h with
  | sl0 => omega
  | sl _ _ _ b o c uu hI hcap hc hv => exact ⟨_, hv i hi j hj⟩
end
end Go.AE

namespace Go.Proofs.YtbcngegcpdppfaaGreatDoor
open Go.AE Go.Ru
set_option maxRecDepth 100000
set_option pp.maxSteps 4000

theorem ent_ok {f : FuncId} (h : ∃ fn, T0.f.get f = some fn ∧ fn.body.isSome = true) : Ent Tryz.prog f := by
  obtain ⟨fn, h1, h2⟩ := h
  obtain ⟨h3, h4⟩ := tabOk.f f fn h1
  exact ⟨fn, h3, h4, h2⟩
theorem kids_bound {w : World} {I : Nat → Prop} {ns : List Nd} {u : Value} (h : VP w I (.sl 5 ns.length (nodeF ns)) u) (i : Nat) : (ns.getD i default).kids.length ≤ 9223372036854775807 := by
  by_cases hi : i < ns.length
  · obtain ⟨u, hu⟩ := h.get (i := i) (j := 4) hi (by simp [nodeF, encNode])
    exact VP.len (show VP w I (.sl 1 (ns.getD i default).kids.length (kidF (ns.getD i default).kids)) u from hu)
  · rw [List.getD_eq_getElem?_getD, List.getElem?_eq_none (by omega)]
    exact Nat.zero_le _

def natF (l : List Nat) (i : Nat) : List PV := [.int .i64 (l.getD i 0 : Nat)]
def natA (l : List Nat) : ABlk := .arr 3 1 0 l.length (fun i => pvs (natF l i))
def sizesV : Option (List Nat) → AV
  | some l => .tup [.p (.sl 1 l.length (natF l)), .p (.bool true)]
  | none => .tup [.p .nils, .p (.bool false)]
def cSizes : AC := fun args K k => ∃ (ns : List Nd), args = [.p (.sl 5 ns.length (nodeF ns))] ∧ ns.length ≤ 4000 ∧ k (.ret (sizesV (sizesS ns []))) K

structure RC where
  j : Nat
  size : Nat
  last : Int
def sizK (l : List Nat) : List ABlk := [.box 39 [.p .nils], .box 4 [.p (.bool false)], .box 39 [.slr 3 0 0 l.length], natA l]
theorem natA_snoc (l : List Nat) (x : Nat) (f : Nat → List AV) (hf : f 0 = [intV x]) : (ABlk.arr 3 1 0 (l.length + 1) (catF l.length (fun i => pvs (natF l i)) f)).le (natA (l ++ [x])) := by
  refine ABlk.arr_eq (by simp) fun i hi => ?_
  by_cases h : i < l.length
  · rw [catF_lt h]
    simp [natF, List.getD_eq_getElem?_getD, List.getElem?_append_left h]
  · obtain rfl : i = l.length := by omega
    rw [catF_ge (Nat.le_refl _), Nat.sub_self, hf]
    simp [natF, List.getD_eq_getElem?_getD, pvs, intV]
theorem nat_cl (l : List Nat) (x : Nat) (f : Nat → List AV) (n : Nat) (hf : f 0 = [intV x]) : (ABlk.arr 3 1 0 (l.length + 1) (catF l.length (fun i => pvs (natF l i)) f)).cl n := fun i hi => by
  by_cases h : i < l.length
  · rw [catF_lt h]; rfl
  · obtain rfl : i = l.length := by omega
    rw [catF_ge (Nat.le_refl _), Nat.sub_self, hf]; rfl
theorem sizes_ok : COk 67 cSizes := by
  rintro args K k ⟨ns, rfl, hn, hk⟩
  refine ACalls.fact (ent_ok ⟨_, rfl, rfl⟩) (c := ∀ i, (ns.getD i default).kids.length ≤ 9223372036854775807) (fun w m Args hS hV => ?_) fun hkid => ?_
  · have h0 := hV.2 0 (by simp) (by have := hV.1; simp at this; omega)
    simp only [List.getElem_cons_zero] at h0
    generalize Args[0]'(by have := hV.1; simp at this; omega) = u at h0
    cases h0 with
    | p _ _ h => exact kids_bound h
  refine frame0W g0_ok 19 rfl fun Q hr => ?_
  conv => whnf
  refine loop_nil (ι := List Nat) 3 1 (fun j => pvs (natF [] j)) (fun l => ⟨[(2, .ptr 0 0 1 0 0), (3, .ptr 1 0 1 0 0), (4, .ptr 2 0 1 0 0), (11, .p (.sl 5 ns.length (nodeF ns))), (12, .p (.int .i64 ns.length)), (13, .p (.int .i64 l.length))], sizK l⟩)
    (fun l => l.length ≤ ns.length ∧ szOk l ∧ sizesS (ns.drop l.length) l = sizesS ns []) (fun l => ns.length - l.length) [] [.box 39 [.p .nils], .box 4 [.p (.bool false)], .box 39 [.slr 3 0 0 0]]
    rfl ⟨.inl (AV.le_refl _), .inl (AV.le_refl _), .inl (AV.le_refl _), .inl (AV.le_refl _), .inl (AV.le_refl _), .inl (AV.le_refl _), trivial⟩
    ⟨.inl (ABlk.le_refl _), .inl (ABlk.le_refl _), .inr ⟨_, _, _, rfl, rfl, .inr ⟨rfl, rfl⟩, trivial⟩, trivial⟩ rfl ⟨Nat.zero_le _, fun i hi => by simp at hi, rfl⟩ ?_
  rintro Y hle l ⟨hl, hso, he⟩ ih
  have hd : decide ((l.length : Int) < (ns.length : Int)) = decide (l.length < ns.length) := by
    by_cases h : l.length < ns.length
    · rw [decide_eq_true h, decide_eq_true (by omega)]
    · rw [decide_eq_false h, decide_eq_false (by omega)]
  conv => whnf
  refine two_intro (fun h => ?_) (fun h => ?_)
  · rw [hd] at h
    have h := of_decide_eq_true h
    have hs2 : ns.drop l.length = ns[l.length] :: ns.drop (l.length + 1) := List.drop_eq_getElem_cons h
    have hgd : ns.getD l.length default = ns[l.length] := by simp [h]
    rw [hs2] at he
    simp only [sizesS] at he
    rw [← hgd] at he
    have hkl := hkid l.length
    have hwr : IntKind.i64.wrap ((l.length : Int) - 1) = (l.length : Int) - 1 := w64 ⟨by omega, by omega⟩
    have hwk : IntKind.i64.wrap (((ns.getD l.length default).kids.length : Int) - 1) = ((ns.getD l.length default).kids.length : Int) - 1 := w64 ⟨by omega, by omega⟩
    conv => whnf
    refine ⟨by simp <;> omega, ?_⟩
    conv => whnf
    refine loop_up (ι := RC) [0, 1] (fun c => [(3, .p (.int .i64 ((c.j : Int) - 1)))]) (fun c => [(5, .box 3 [.p (.int .i64 (c.size : Int))]), (6, .box 3 [.p (.int .i64 c.last)])])
      (fun c => c.j ≤ (ns.getD l.length default).kids.length ∧ c.last < l.length ∧ -1 ≤ c.last ∧ (c.size : Int) = l.length - c.last ∧
        kidsS l ((ns.getD l.length default).kids.take c.j).reverse c.last c.size = kidsS l (ns.getD l.length default).kids.reverse ((l.length : Int) - 1) 1) (fun c => c.j) ⟨(ns.getD l.length default).kids.length, 1, (l.length : Int) - 1⟩
      ⟨AV.le_of_eq (congrArg (fun x => AV.p (.int .i64 x)) hwk), trivial⟩ ⟨upLe1 rfl (ABlk.le_refl _), upLe1 rfl (ABlk.le_of_eq (congrArg (fun x => ABlk.box 3 [.p (.int .i64 x)]) hwr)), trivial⟩
      ⟨Nat.le_refl _, by simp only; omega, by simp only; omega, by simp only; omega, by simp only [List.take_length]⟩ ?_
    rintro Z hlz ⟨j, size, last⟩ ⟨hj, hl1, hl2, hl3, hke⟩ ihz
    simp only at hj hl1 hl2 hl3 hke
    have hdj : decide (((j : Int) - 1) ≥ 0) = decide (0 < j) := by
      by_cases h : 0 < j
      · rw [decide_eq_true h, decide_eq_true (by omega)]
      · rw [decide_eq_false h, decide_eq_false (by omega)]
    conv => whnf
    refine two_intro (fun hjj => ?_) (fun hjj => ?_)
    · rw [hdj] at hjj
      have hjj := of_decide_eq_true hjj
      obtain ⟨j, rfl⟩ : ∃ i, j = i + 1 := ⟨j - 1, by omega⟩
      obtain ⟨q, hq⟩ : ∃ q, (ns.getD l.length default).kids.getD j 0 = q := ⟨_, rfl⟩
      have htk : ((ns.getD l.length default).kids.take (j + 1)).reverse = q :: ((ns.getD l.length default).kids.take j).reverse := by
        rw [List.take_add_one, List.reverse_append, ← hq]
        have hlt : j < (ns.getD l.length default).kids.length := by omega
        generalize (ns.getD l.length default).kids = ks at hlt
        rw [List.getD_eq_getElem?_getD, List.getElem?_eq_getElem hlt]
        rfl
      rw [htk] at hke
      simp only [kidsS] at hke
      have hjt : (((j + 1 : Nat) : Int) - 1).toNat = j := by omega
      have hbad : (q == last && decide (0 ≤ q)) = false → k (.ret (.tup [.p .nils, .p (.bool false)])) K := fun hb => by
        rw [hb] at hke
        simp only at hke
        rw [← hke] at he
        simp only at he
        rw [← he] at hk
        exact hk
      conv => whnf
      refine ⟨⟨by show (0 : Int) ≤ ((j + 1 : Nat) : Int) - 1; omega, by show ((j + 1 : Nat) : Int) - 1 < ((ns.getD l.length default).kids.length : Int); omega, rfl⟩, ?_⟩
      conv => whnf
      refine two_intro (fun hne => ?_) (fun hne => ?_)
      · have hne : ((ns.getD l.length default).kids.getD (((j + 1 : Nat) : Int) - 1).toNat 0 != last) = true := hne
        rw [hjt, hq] at hne
        conv => whnf
        exact hr _ _ _ _ (Wk1.refl _ _ _) rfl (hbad (by simp at hne; simp [hne]))
      · have hne : ((ns.getD l.length default).kids.getD (((j + 1 : Nat) : Int) - 1).toNat 0 != last) = false := hne
        rw [hjt, hq] at hne
        conv => whnf
        refine two_intro (fun hn0 => ?_) (fun hn0 => ?_)
        · have hn0 : decide ((ns.getD l.length default).kids.getD (((j + 1 : Nat) : Int) - 1).toNat 0 < 0) = true := hn0
          rw [hjt, hq] at hn0
          conv => whnf
          exact hr _ _ _ _ (Wk1.refl _ _ _) rfl (hbad (by have := of_decide_eq_true hn0; simp [show ¬ (0 ≤ q) by omega]))
        · have hn0 : decide ((ns.getD l.length default).kids.getD (((j + 1 : Nat) : Int) - 1).toNat 0 < 0) = false := hn0
          rw [hjt, hq] at hn0
          have hn0 := of_decide_eq_false hn0
          have hql : q = last := by simpa using hne
          subst hql
          rw [show (q == q && decide (0 ≤ q)) = true by simp; omega] at hke
          simp only at hke
          have hsq := hso q.toNat (by omega)
          have hC : ∀ x : Int, x = q → 0 ≤ x ∧ x < (l.length : Int) := fun x hx => by subst hx; omega
          have hqe : (ns.getD l.length default).kids.getD (((j + 1 : Nat) : Int) - 1).toNat 0 = q := by rw [hjt, hq]
          conv => whnf
          refine ⟨⟨rfl, Nat.zero_add _, (hC _ hqe).1, (hC _ hqe).2, rfl⟩, ?_⟩
          conv => whnf
          refine ⟨⟨rfl, rfl⟩, ?_⟩
          conv => whnf
          refine ⟨⟨rfl, Nat.zero_add _, (hC _ hqe).1, (hC _ hqe).2, rfl⟩, ?_⟩
          conv => whnf
          refine ⟨⟨rfl, rfl⟩, ?_⟩
          conv => whnf
          have hszq : IntKind.i64.wrap ((size : Int) + (l.getD q.toNat 0 : Nat)) = ((size + l.getD q.toNat 0 : Nat) : Int) := by rw [w64 ⟨by omega, by omega⟩]; omega
          have hlaq : IntKind.i64.wrap (q - (l.getD q.toNat 0 : Nat)) = q - (l.getD q.toNat 0 : Nat) := w64 ⟨by omega, by omega⟩
          have hjq : IntKind.i64.wrap ((((j + 1 : Nat) : Int) - 1) - 1) = (j : Int) - 1 := by rw [w64 ⟨by omega, by omega⟩]; omega
          refine hlz _ _ (Le.cutEnv 9 rfl rfl ⟨rfl, rfl, rfl, fun _ _ => rfl, rfl, rfl, rfl, rfl, rfl, trivial⟩
            ?e1 ?e2)
            (ihz ⟨j, size + l.getD q.toNat 0, q - (l.getD q.toNat 0 : Nat)⟩ (Nat.lt_succ_self _) ⟨?_, ?_, ?_, ?_, hke⟩)
          case e1 =>
            (conv => whnf)
            refine ⟨AV.le_of_eq (congrArg (fun x => AV.p (.int .i64 x)) hjq), ?_⟩
            (conv => whnf)
            refine ⟨AV.le_refl _, ?_⟩
            (conv => whnf)
            refine ⟨AV.le_refl _, ?_⟩
            (conv => whnf)
            exact trivial
          case e2 =>
            (conv => whnf)
            refine ⟨ABlk.le_refl _, ?_⟩
            (conv => whnf)
            refine ⟨ABlk.le_refl _, ?_⟩
            (conv => whnf)
            refine ⟨ABlk.le_refl _, ?_⟩
            (conv => whnf)
            refine ⟨ABlk.le_refl _, ?_⟩
            (conv => whnf)
            refine ⟨ABlk.le_refl _, ?_⟩
            (conv => whnf)
            refine ⟨ABlk.le_of_eq (congrArg (fun x => ABlk.box 3 [.p (.int .i64 x)]) (show IntKind.i64.wrap ((size : Int) + (l.getD (0 + ((ns.getD l.length default).kids.getD (((j + 1 : Nat) : Int) - 1).toNat 0).toNat) 0 : Nat)) = ((size + l.getD q.toNat 0 : Nat) : Int) by rw [hqe, Nat.zero_add]; exact hszq)), ?_⟩
            (conv => whnf)
            refine ⟨ABlk.le_of_eq (congrArg (fun x => ABlk.box 3 [.p (.int .i64 x)]) (show IntKind.i64.wrap ((ns.getD l.length default).kids.getD (((j + 1 : Nat) : Int) - 1).toNat 0 - (l.getD (0 + ((ns.getD l.length default).kids.getD (((j + 1 : Nat) : Int) - 1).toNat 0).toNat) 0 : Nat)) = q - (l.getD q.toNat 0 : Nat) by rw [hqe, Nat.zero_add]; exact hlaq)), ?_⟩
            (conv => whnf)
            refine ⟨ABlk.le_refl _, ?_⟩
            (conv => whnf)
            refine ⟨ABlk.le_refl _, ?_⟩
            (conv => whnf)
            exact trivial
          · show j ≤ _; omega
          · show q - (l.getD q.toNat 0 : Nat) < _; omega
          · show -1 ≤ q - (l.getD q.toNat 0 : Nat); omega
          · show ((size + l.getD q.toNat 0 : Nat) : Int) = _ - (q - (l.getD q.toNat 0 : Nat)); omega
    · rw [hdj] at hjj
      have hjj := of_decide_eq_false hjj
      obtain rfl : j = 0 := by omega
      simp only [List.take_zero, List.reverse_nil, kidsS] at hke
      rw [← hke] at he
      simp only at he
      have hinv := kidsS_inv hso _ _ _ size (by omega) (by omega) (by omega) hke.symm
      conv => whnf
      refine ⟨⟨rfl, rfl, rfl, allLt_ok ⟨trivial, rfl⟩⟩, ?_⟩
      conv => whnf
      refine ⟨⟨rfl, rfl, rfl, rfl, ?_, ?_⟩, ?_⟩
      · show (l.length + 1) * 8 ≤ 140737488355328
        omega
      · show l.length + 1 ≤ 9223372036854775807
        omega
      conv => whnf
      refine hle _ _ (Le.cutEnv 4 rfl rfl ⟨rfl, rfl, rfl, nat_cl l size _ 4 rfl, trivial⟩ ?e1 ?e2) (ih (l ++ [size]) ?_ ⟨?_, szOk_snoc hso hinv, ?_⟩)
      case e1 =>
        (conv => whnf)
        refine ⟨AV.le_refl _, ?_⟩
        (conv => whnf)
        refine ⟨AV.le_refl _, ?_⟩
        (conv => whnf)
        refine ⟨AV.le_refl _, ?_⟩
        (conv => whnf)
        refine ⟨AV.le_refl _, ?_⟩
        (conv => whnf)
        refine ⟨AV.le_refl _, ?_⟩
        (conv => whnf)
        refine ⟨AV.le_of_eq (congrArg (fun x => AV.p (.int .i64 x)) (show IntKind.i64.wrap ((l.length : Int) + 1) = ((l ++ [size]).length : Int) by rw [w64 ⟨by omega, by omega⟩]; simp)), ?_⟩
        (conv => whnf)
        exact trivial
      case e2 =>
        (conv => whnf)
        refine ⟨ABlk.le_refl _, ?_⟩
        (conv => whnf)
        refine ⟨ABlk.le_refl _, ?_⟩
        (conv => whnf)
        refine ⟨ABlk.le_of_eq (congrArg (fun x => ABlk.box 39 [.slr 3 0 0 x]) (show l.length + 1 = (l ++ [size]).length by simp)), ?_⟩
        (conv => whnf)
        refine ⟨natA_snoc l size _ rfl, ?_⟩
        (conv => whnf)
        exact trivial
      · show ns.length - (l ++ [size]).length < ns.length - l.length
        simp only [List.length_append, List.length_cons, List.length_nil]; omega
      · show (l ++ [size]).length ≤ ns.length
        simp only [List.length_append, List.length_cons, List.length_nil]; omega
      · show sizesS (ns.drop (l ++ [size]).length) (l ++ [size]) = _
        rw [← he]
        simp only [List.length_append, List.length_cons, List.length_nil]
  · rw [hd] at h
    have h := of_decide_eq_false h
    rw [List.drop_of_length_le (by omega)] at he
    simp only [sizesS] at he
    rw [← he] at hk
    conv => whnf
    exact hr _ _ _ _ (Wk1.tup_freeze1 (r := 3) rfl (natF l) (fun _ _ => rfl)) rfl hk

def gR1 : AG := gput 67 cSizes g0
theorem gR1_ok : GOk Tryz.prog gR1 := gput_ok sizes_ok g0_ok
def treeV (ns : List Nd) (root : Int) : AV := .agg [.p (.sl 5 ns.length (nodeF ns)), .p (.int .i64 root)]
def cSound : AC := fun args K k => ∃ (ns : List Nd) (root : Int), args = [treeV ns root] ∧ ns.length < 1000000 ∧ k (.ret (.p (.bool (soundS ns root)))) K
theorem sound_ok : COk 32 cSound := by
  rintro args K k ⟨ns, root, rfl, hn, hk⟩
  refine frame0P gR1_ok 19 rfl fun Q hr => ?_
  have hbad : soundS ns root = false → k (.ret (.p (.bool false))) K := fun h => by rwa [h] at hk
  have hw : (0 : Int) < ns.length → IntKind.i64.wrap ((ns.length : Int) - 1) = (ns.length : Int) - 1 := fun h => w64 ⟨by omega, by omega⟩
  conv => whnf
  refine two_intro (fun h1 => ?_) (fun h1 => ?_)
  · conv => whnf
    exact hr _ _ rfl (hbad (by
      have : ns.length = 0 := by have := beq_iff_eq.1 h1; omega
      simp [soundS, this]))
  have h1 : 0 < ns.length := by
    have : ¬ ((ns.length : Int) = 0) := by simpa using h1
    omega
  conv => whnf
  refine two_intro (fun h2 => ?_) (fun h2 => ?_)
  · conv => whnf
    exact hr _ _ rfl (hbad (by
      have : (ns.length : Int) > 4000 := of_decide_eq_true h2
      simp [soundS, show 4000 < ns.length by omega]))
  have h2 : ns.length ≤ 4000 := by
    have : ¬ ((ns.length : Int) > 4000) := of_decide_eq_false h2
    omega
  conv => whnf
  refine two_intro (fun h3 => ?_) (fun h3 => ?_)
  · have h3 : (root != IntKind.i64.wrap ((ns.length : Int) - 1)) = true := h3
    rw [hw (by omega)] at h3
    conv => whnf
    exact hr _ _ rfl (hbad (by simp only [soundS, h3]; simp))
  have h3 : (root != IntKind.i64.wrap ((ns.length : Int) - 1)) = false := h3
  rw [hw (by omega)] at h3
  have h4 : root = (ns.length : Int) - 1 := by simpa using h3
  conv => whnf
  refine ⟨ns, rfl, h2, ?_⟩
  cases hz : sizesS ns [] with
  | none =>
    conv => whnf
    exact hr _ _ rfl (hbad (by simp [soundS, hz]))
  | some l =>
    obtain ⟨hl, _, _⟩ := sizesS_inv ns [] l (fun i hi => by simp at hi) hz
    simp only [List.length_nil, Nat.zero_add] at hl
    conv => whnf
    refine ⟨⟨by omega, by omega, rfl⟩, ?_⟩
    conv => whnf
    refine hr _ _ rfl ?_
    have e : soundS ns root = (l.getD root.toNat 0 == ns.length) := by
      have e1 : (ns.length == 0) = false := beq_eq_false_iff_ne.2 (by omega)
      have e2 : decide (4000 < ns.length) = false := decide_eq_false (by omega)
      simp only [soundS, hz, h3, e1, e2, Bool.or_self, Bool.not_false, Bool.true_and]
    rw [e] at hk
    have e2 : (((l.getD root.toNat 0 : Nat) : Int) == ((l.length : Nat) : Int)) = (l.getD root.toNat 0 == ns.length) := by
      rw [hl]
      by_cases h : l.getD root.toNat 0 = ns.length
      · rw [h]; simp
      · have : ¬ ((l.getD root.toNat 0 : Nat) : Int) = ((ns.length : Nat) : Int) := by omega
        rw [beq_eq_false_iff_ne.2 this, beq_eq_false_iff_ne.2 h]
    rw [← e2] at hk
    exact hk

/-! ### depth -/
def deepK (ns : List Nd) (root : Int) : List ABlk := [.box 25 [.p (.sl 5 ns.length (nodeF ns)), .p (.int .i64 root)], .box 61 [.fn 33 [] [.ptr 0 0 1 0 0, .ptr 1 0 1 0 0]]]
/-- a node's depth: of those behind which there are fewer than n -/
def cDeep (n : Nat) : AC := fun args K k => ∃ (ns : List Nd) (root : Int) (p : Int) (X : List ABlk), args = [.p (.int .i64 p), .ptr 0 0 1 0 0, .ptr 1 0 1 0 0] ∧ K = deepK ns root ++ X ∧ 0 ≤ p ∧ p < n ∧ p < ns.length ∧ ns.length ≤ 4000 ∧ n ≤ 4000 ∧
  (∀ j, j < ns.length → ∀ k ∈ (ns.getD j default).kids, 0 ≤ k ∧ k < (j : Int)) ∧ (∀ i, (ns.getD i default).kids.length ≤ 9223372036854775807) ∧ k (.ret (intV (deepS ns n p))) (deepK ns root ++ X)
structure DC where
  j : Nat
  d : Nat
theorem deep_ok (n : Nat) : COk 33 (cDeep n) := by
  induction n with
  | zero => rintro args K k ⟨ns, root, p, X, rfl, rfl, h1, h2, _⟩; omega
  | succ n ihn =>
  rintro args K k ⟨ns, root, p, X, rfl, rfl, h1, h2, h3, h4, h5, hsd, hkid, hk⟩
  refine frameS (K0 := deepK ns root) (gput_ok ihn g0_ok) 19 rfl ⟨rfl, rfl, trivial⟩ fun Q hr => ?_
  have hkl := hkid p.toNat
  conv => whnf
  refine ⟨⟨by omega, by omega, rfl⟩, ?_⟩
  conv => whnf
  obtain ⟨ks, hks⟩ : ∃ ks, (ns.getD p.toNat default).kids = ks := ⟨_, rfl⟩
  have hmem := hsd p.toNat (by omega)
  simp only [deepS] at hk
  rw [hks] at hkl hmem hk
  refine loop_up (ι := DC) [1, 2, 13, 14] (fun c => [(5, .p (.int .i64 (c.d : Int))), (15, .p (.int .i64 (c.j : Int)))]) (fun _ => [])
    (fun c => c.j ≤ ks.length ∧ c.d ≤ n ∧ (ks.drop c.j).foldl (fun d k => max d (deepS ns n k)) c.d = ks.foldl (fun d k => max d (deepS ns n k)) 0) (fun c => ks.length - c.j) ⟨0, 0⟩
    ⟨AV.le_refl _, AV.le_refl _, trivial⟩ trivial ⟨Nat.zero_le _, Nat.zero_le _, rfl⟩ ?_
  rintro Y hle ⟨j, d⟩ ⟨hj, hd, he⟩ ih
  simp only at hj hd he
  have hdj : decide ((j : Int) < ((ns.getD p.toNat default).kids.length : Int)) = decide (j < ks.length) := by
    rw [hks]
    by_cases h : j < ks.length
    · rw [decide_eq_true h, decide_eq_true (by omega)]
    · rw [decide_eq_false h, decide_eq_false (by omega)]
  conv => whnf
  refine two_intro (fun h => ?_) (fun h => ?_)
  · have h := of_decide_eq_true (hdj ▸ h)
    have hq : (ns.getD p.toNat default).kids.getD (j : Int).toNat 0 = ks[j] := by rw [hks]; simp [h]
    have hqm := hmem ks[j] (List.getElem_mem h)
    rw [List.drop_eq_getElem_cons h, List.foldl_cons] at he
    conv => whnf
    refine ⟨⟨by omega, by rw [hks]; show (j : Int) < (ks.length : Int); omega, rfl⟩, ?_⟩
    conv => whnf
    refine ⟨ns, root, _, [], rfl, rfl, by rw [hq]; omega, by rw [hq]; omega, by rw [hq]; omega, h4, by omega, hsd, hkid, ?_⟩
    conv => whnf
    have hdl := deepS_le ns n ks[j]
    refine hle _ _ (Le.cutEnv 2 rfl rfl ⟨rfl, rfl, trivial⟩ ?e1 ?e2) (ih ⟨j + 1, max d (deepS ns n ks[j])⟩ ?_ ⟨?_, ?_, he⟩)
    case e1 =>
      have hmx : (if ((deepS ns n ((ns.getD p.toNat default).kids.getD (j : Int).toNat 0) : Nat) : Int) > (d : Int) then ((deepS ns n ((ns.getD p.toNat default).kids.getD (j : Int).toNat 0) : Nat) : Int) else (d : Int)) = ((max d (deepS ns n ks[j]) : Nat) : Int) := by
        rw [hq]
        split <;> omega
      (conv => whnf)
      refine ⟨AV.le_of_eq (congrArg (fun x => AV.p (.int .i64 x)) hmx), ?_⟩
      (conv => whnf)
      refine ⟨AV.le_of_eq (congrArg (fun x => AV.p (.int .i64 x)) (show IntKind.i64.wrap ((j : Int) + 1) = ((j + 1 : Nat) : Int) by rw [w64 ⟨by omega, by omega⟩]; omega)), ?_⟩
      (conv => whnf)
      refine ⟨AV.le_refl _, ?_⟩
      (conv => whnf)
      refine ⟨AV.le_refl _, ?_⟩
      (conv => whnf)
      refine ⟨AV.le_refl _, ?_⟩
      (conv => whnf)
      refine ⟨AV.le_refl _, ?_⟩
      (conv => whnf)
      exact trivial
    case e2 =>
      (conv => whnf)
      refine ⟨ABlk.le_refl _, ?_⟩
      (conv => whnf)
      refine ⟨ABlk.le_refl _, ?_⟩
      (conv => whnf)
      exact trivial
    · show ks.length - (j + 1) < ks.length - j
      omega
    · show j + 1 ≤ ks.length
      omega
    · exact Nat.max_le.2 ⟨hd, hdl⟩
  · have h := of_decide_eq_false (hdj ▸ h)
    rw [List.drop_of_length_le (by omega), List.foldl_nil] at he
    have hw : IntKind.i64.wrap ((d : Int) + 1) = ((ks.foldl (fun d k => max d (deepS ns n k)) 0 + 1 : Nat) : Int) := by rw [w64 ⟨by omega, by omega⟩]; omega
    rw [← hw] at hk
    conv => whnf
    exact hr _ _ rfl (Nat.le_refl _) rfl hk

def gR2 : AG := gput 32 cSound (gput 33 (cDeep 4000) g0)
theorem gR2_ok : GOk Tryz.prog gR2 := gput_ok sound_ok (gput_ok (deep_ok 4000) g0_ok)
def cDepth : AC := fun args K k => ∃ (ns : List Nd) (root : Int), args = [treeV ns root] ∧ ns.length < 1000000 ∧ k (.ret (intV (depthS ns root))) K
theorem deepS_more (ns : List Nd) (hsd : ∀ j, j < ns.length → ∀ k ∈ (ns.getD j default).kids, 0 ≤ k ∧ k < (j : Int)) : ∀ (n m : Nat) (p : Int), 0 ≤ p → p < n → p < ns.length → n ≤ m → deepS ns n p = deepS ns m p := by
  intro n
  induction n with
  | zero => intro m p h1 h2; omega
  | succ n ih =>
    intro m p h1 h2 h3 hm
    obtain ⟨m, rfl⟩ : ∃ i, m = i + 1 := ⟨m - 1, by omega⟩
    simp only [deepS]
    have hk := hsd p.toNat (by omega)
    generalize (ns.getD p.toNat default).kids = ks at hk
    have : ∀ d, ks.foldl (fun d k => max d (deepS ns n k)) d = ks.foldl (fun d k => max d (deepS ns m k)) d := by
      induction ks with
      | nil => intro d; rfl
      | cons q ks ihk =>
        intro d
        have hq := hk q (List.mem_cons_self ..)
        simp only [List.foldl_cons]
        rw [ih m q (by omega) (by omega) (by omega) (by omega)]
        exact ihk (fun k hk' => hk k (List.mem_cons_of_mem _ hk')) _
    rw [this]
theorem depth_ok : COk 16 cDepth := by
  rintro args K k ⟨ns, root, rfl, hn, hk⟩
  refine ACalls.fact (ent_ok ⟨_, rfl, rfl⟩) (c := ∀ i, (ns.getD i default).kids.length ≤ 9223372036854775807) (fun w m Args hS hV => ?_) fun hkid => ?_
  · have h0 := hV.2 0 (by simp) (by have := hV.1; simp at this; omega)
    simp only [List.getElem_cons_zero, treeV] at h0
    generalize Args[0]'(by have := hV.1; simp at this; omega) = u at h0
    cases h0 with
    | agg cs A hA h =>
      have h1 := h 0 (by simp) (by simp at hA; omega)
      simp only [List.getElem_cons_zero] at h1
      generalize A[0]'(by simp at hA; omega) = u1 at h1
      cases h1 with
      | p _ _ h => exact kids_bound h
  refine frame0P gR2_ok 19 rfl fun Q hr => ?_
  conv => whnf
  refine ⟨ns, root, rfl, hn, ?_⟩
  cases hs : soundS ns root with
  | false =>
    conv => whnf
    simp only [depthS, hs] at hk
    exact hr _ _ rfl hk
  | true =>
    obtain ⟨h1, h2, h3, h4⟩ := soundS_ok hs
    conv => whnf
    refine ⟨ns, root, root, [], rfl, rfl, by omega, by omega, by omega, h2, Nat.le_refl _, h4, hkid, ?_⟩
    simp only [depthS, hs] at hk
    rw [deepS_more ns h4 ns.length 4000 root (by omega) (by omega) (by omega) h2] at hk
    conv => whnf
    exact hr _ _ rfl hk
end Go.Proofs.YtbcngegcpdppfaaGreatDoor

namespace Go.AE

def plainOp : Op → Bool
  | .move _ | .assign _ | .alloc _ | .store _ _ _ | .load _ _ | .extract _ _ | .typeAssert _ _ _ _ | .fieldAddr _ _ _ => true
  | _ => false
def plainL : List Oper → Bool
  | [] => true
  | o :: r => plainOp o.op && o.guard.isNone && plainL r
def isRec : Op → Bool
  | .call c => match c.callee with
    | .builtin .recover => true
    | _ => false
  | _ => false
def deferOf (o : Oper) : Option Nat := match o.op with
  | .defer c => match c.callee with
    | .value (.tmp d) => match c.args.toList with
      | [] => match o.dst with
        | none => match o.guard with
          | none => some d
          | some _ => none
        | some _ => none
      | _ => none
    | _ => none
  | _ => none

/-- the call that was put off -/
noncomputable def recE (T : Tab) (fn : Func) (k : List ABlk → Prop) (e : Ex) (s : AS) : Prop := match e with
  | .norm => ares T fn s fun _ => fK s.K k
  | .ret => ares T fn s fun _ => fK s.K k
  | _ => False
noncomputable def recM (T : Tab) (call : ACall) (fn : Func) (kb : Nat) (y : Code) (k : List ABlk → Prop) (e : Ex) (s : AS) : Prop := match e with
  | .norm => awp T call kb fn.ntmps y s (recE T fn k)
  | _ => False
noncomputable def recW (T : Tab) (call : ACall) (fn : Func) (caps : List AV) (K : List ABlk) (rv : AV) (k : List ABlk → Prop) : Prop :=
  match fn.body with
  | some (.seq (.region _ ops false) y) => match ops.toList with
    | o0 :: os => match isRec o0.op, o0.dst, o0.guard with
      | true, some d, none => match plainL os && Nat.ble (len caps) fn.ntmps && Nat.blt d fn.ntmps && noRF y with
        | true => fV rv fun rv => aops T call fn.ntmps ops.toList os ((d, rv) :: frame0 0 caps) K (recM T call fn (len K) y k)
        | false => False
      | _, _, _ => False
    | [] => False
  | _ => False

/-- behind the body -/
noncomputable def bEnd (T : Tab) (fn : Func) (k : AO → List ABlk → Prop) (e : Ex) (s : AS) : Prop := match e with
  | .norm => ares T fn s fun v => fK s.K fun K => k (.ret v) K
  | .ret => ares T fn s fun v => fK s.K fun K => k (.ret v) K
  | .pan v => fV v fun v => fK s.K fun K => k (.pan v) K
  | .exit _ => False
noncomputable def dRes (T : Tab) (fn : Func) (k : AO → List ABlk → Prop) (t : List (Nat × AV)) (K : List ABlk) : Prop := ares T fn ⟨t, K⟩ fun v => fK K fun K => k (.ret v) K
noncomputable def dEnd (T : Tab) (call : ACall) (fn gf : Func) (caps : List AV) (k : AO → List ABlk → Prop) (e : Ex) (s : AS) : Prop := match e with
  | .norm => recW T call gf caps s.K (.p .nili) (dRes T fn k s.t)
  | .ret => recW T call gf caps s.K (.p .nili) (dRes T fn k s.t)
  | .pan v => recW T call gf caps s.K v (dRes T fn k s.t)
  | .exit _ => False
noncomputable def dMid (T : Tab) (call : ACall) (fn : Func) (o1 : Oper) (d : Nat) (y : Code) (k : AO → List ABlk → Prop) (s : AS) : Prop :=
  bound fn.ntmps o1.dst <| aop T call o1 s.t s.K (fun v K' => match look (put s.t o1.dst v) d with
    | .fn g first caps => match first with
      | [] => match T.f.get g with
        | some gf => match gf.body.isSome with
          | true => awp T call (len K') fn.ntmps y ⟨put s.t o1.dst v, K'⟩ (dEnd T call fn gf caps k)
          | false => False
        | none => False
      | _ => False
    | _ => False) (fun _ _ => False)
noncomputable def abodyD (T : Tab) (call : ACall) (fn : Func) (args : List AV) (K : List ABlk) (k : AO → List ABlk → Prop) : Prop :=
  match fn.body with
  | some (.seq c1 (.seq c2 (.seq c3 (.seq (.region _ ops false) y)))) => match ops.toList with
    | [o1, o2] => match deferOf o2, o1.guard with
      | some d, none => match Nat.ble (len args) fn.ntmps && noRF c1 && noRF c2 && noRF c3 && noRF y with
        | true => fK K fun K => awp T call (len K) fn.ntmps c1 ⟨frame0 0 args, K⟩ (wSeqK (fun s Q => awp T call (len K) fn.ntmps c2 s (wSeqK (fun s Q => awp T call (len K) fn.ntmps c3 s (wSeqK (fun s _ => dMid T call fn o1 d y k s) Q)) Q)) (bEnd T fn k))
        | false => False
      | _, _ => False
    | _ => False
  | _ => False

section
variable {P : Program} {T : Tab} {call : ACall} {we : World} {me : Mp} {N kb : Nat} {D0 : List Deferred} {bm : Bool} {ro : Option Nat} {nn : Nat}

def isPl : Result Next → Bool
  | .ok (.value _) _ => true
  | .ok .skip _ => true
  | .halt _ _ => true
  | _ => false
theorem isPl_val (s : Sem Value) (w : World) : isPl ((do pure (Next.value (← s)) : Sem Next).run P w) = true := by
  cases h : s.run P w <;> simp [h, isPl]
theorem isPl_skip (s : Sem Unit) (w : World) : isPl ((do s; pure Next.skip : Sem Next).run P w) = true := by
  cases h : s.run P w <;> simp [h, isPl]
theorem exec_plain {o : Oper} (hp : plainOp o.op = true) (ρ : Operand → Value) (w : World) : isPl ((execOp ρ o).run P w) = true := by
  unfold execOp
  cases hop : o.op <;> rw [hop] at hp <;> first | (simp [plainOp] at hp; done) | exact isPl_val _ _ | exact isPl_skip _ _ | rfl

/-- quiet operations behind recover -/
theorem aopsS_ok (hT : TabOk P T) (hcall : CallOk P call) {ops : Array Oper} {Q : Ex → AS → Prop} {cs : List Frame} (l : List Oper) : ∀ (i : Nat) (t : List (Nat × AV)) (K : List ABlk), (∀ j, l[j]? = ops[i + j]?) → plainL l = true →
    aops T call N ops.toList l t K Q → ∀ (w : World) (m : Mp) (a : Act), Tr we me w m → St w m (hp K) → EnvOk w m t a.tmps → a.tmps.size = N → Mk bm we D0 w m a.defers →
    wpOpsSIn (FW none) nn P ops (fun e a cs' w' => cs' = cs ∧ Rel bm N we me D0 Q e a w') (List.range' i l.length) a cs w := by
  induction l with
  | nil => intro i t K _ _ h w m a hTr hS hE hN hd; exact ⟨rfl, hN, m, ⟨t, K⟩, hd, hTr, hS, hE, h⟩
  | cons o rest ih =>
    intro i t K hl hp h w m a hTr hS hE hN hd
    simp only [plainL, Bool.and_eq_true] at hp
    obtain ⟨⟨hp1, hg⟩, hp2⟩ := hp
    have hg : o.guard = none := by simpa using hg
    rw [aops_cons] at h
    simp only [want, hg] at h
    obtain ⟨hb, h⟩ := bound_ok h
    have h0 : ops[i]? = some o := by simpa using (hl 0).symm
    simp only [List.length_cons, List.range'_succ, wpOpsSIn, h0]
    refine ⟨fun _ _ => trivial, ?_⟩
    rw [if_pos (by simp [Region.wanted, hg])]
    have hu := aop_ok (ro := none) (nn := nn) (next := fun a w => wpOpsSIn (FW none) nn P ops (fun e a cs' w' => cs' = cs ∧ Rel bm N we me D0 Q e a w') (List.range' (i + 1) rest.length) a cs w)
      (Q := fun e a w => cs = cs ∧ Rel bm N we me D0 Q e a w) hT hcall hS hE (fun w' m' v K' u h1 h2 h3 h4 => ih (i + 1) _ _ (fun j => by have := hl (j + 1); simpa [Nat.add_assoc, Nat.add_comm 1 j] using this) hp2 h4 w' m' _ (hTr.trans h1) h2
        ((hE.mono h1).put (fun x hx => by rw [hN]; exact hb x hx) h3) (by rw [put_size]; exact hN) (by rw [put_defers]; exact hd.mono h1))
      (fun w' m' v K' u h1 h2 h3 h4 => ⟨rfl, hN, m', ⟨t, K'⟩, v, u, hd.mono h1, rfl, hTr.trans h1, h2, hE.mono h1, h3, h4⟩) h
    have hpl := exec_plain (P := P) hp1 a.eval w
    generalize (execOp a.eval o).run P w = r at hpl hu ⊢
    cases r with
    | ok x w' => cases x <;> first | exact hu | simp [isPl] at hpl
    | halt x w' => cases x <;> first | exact ⟨trivial, hu.2⟩ | exact hu.elim

theorem wpOpsSIn_mono {ops : Array Oper} {Q Q' : Exit → Act → List Frame → World → Prop} {l : List Nat} {a : Act} {cs : List Frame} {w : World} (h : wpOpsSIn (FW none) nn P ops Q l a cs w) (hq : ∀ e a cs w, Q e a cs w → Q' e a cs w) : wpOpsSIn (FW none) nn P ops Q' l a cs w := by
  induction l generalizing a cs w with
  | nil => exact hq _ _ _ _ h
  | cons i rest ih =>
    simp only [wpOpsSIn] at h ⊢
    cases ho : ops[i]? with
    | none => rw [ho] at h; exact ih h
    | some o =>
      rw [ho] at h
      simp only at h ⊢
      refine ⟨h.1, ?_⟩
      have h := h.2
      split at h
      · rename_i hw
        rw [if_pos hw]
        generalize (execOp a.eval o).run P w = r at h ⊢
        cases r with
        | ok x w' =>
          cases x with
          | recover =>
            simp only at h ⊢
            cases hrd : recoverD cs with
            | none => rw [hrd] at h; exact ih h
            | some x => rw [hrd] at h; exact ih h
          | value v => exact ih h
          | skip => exact ih h
          | _ => exact h.elim
        | halt x w' => cases x <;> first | exact hq _ _ _ _ h | exact h.elim
      · rename_i hw
        rw [if_neg hw]
        exact ih h

theorem ares_nores (hT : TabOk P T) {w : World} {m : Mp} {s : AS} {a : Act} (hS : St w m (hp s.K)) (hE : EnvOk w m s.t a.tmps) {fn : Func} {q : Prop} (h : ares T fn s fun _ => q) : (∃ u, (results fn a.tmps).run P w = .ok u w) ∧ q := by
  obtain ⟨u, v, h1, _, h3⟩ := ares_ok hT hS hE h
  exact ⟨⟨u, h1⟩, h3⟩

theorem recW_ok (hT : TabOk P T) (hcall : CallOk P call) (hmix : P.follows .mixedOrders = true) {g : FuncId} {fn : Func} (hf : P.funcs[g]? = some fn) {caps : List AV} {K : List ABlk} {rv : AV} {k : List ABlk → Prop} (h : recW T call fn caps K rv k)
    {w : World} {m : Mp} {U : Array Value} {u : FrameMode} (hS : St w m (hp K)) (hU : VL w m caps U)
    (hrec : ∀ (c₀ : Frame) cs, c₀.mode = u → ∃ x u', V w m rv x ∧ settle u' = .returning ∧ (recoverD (c₀ :: cs) = some (x, { c₀ with mode := u' } :: cs) ∨ (recoverD (c₀ :: cs) = none ∧ x = .nilIface ∧ u' = u))) :
    CallsDIn (FW none) nn P g U u w (fun e u' w' => (∃ v, e = .returned v) ∧ settle u' = .returning ∧ ∃ m' K', Tr w m w' m' ∧ St w' m' (hp K') ∧ k K') := by
  unfold recW at h
  split at h
  case h_2 => exact h.elim
  rename_i id ops y hb
  split at h
  case h_2 => exact h.elim
  rename_i o0 os hops
  split at h
  case h_2 => exact h.elim
  rename_i d hr0 hd0 hg0
  split at h
  case h_2 => exact h.elim
  rename_i hchk
  simp only [Bool.and_eq_true] at hchk
  obtain ⟨⟨⟨hpl, hle⟩, hdlt⟩, hrf⟩ := hchk
  have hle : caps.length ≤ fn.ntmps := by have := Nat.le_of_ble_eq_true hle; rwa [len_eq] at this
  have hdlt : d < fn.ntmps := Nat.le_of_ble_eq_true hdlt
  rw [fV_eq] at h
  have hkb : ∀ r, len K ≤ r → m.L r = .absent := fun r hr => hS.absent (by
    simp only [hp, nth_eq]
    rw [len_eq] at hr
    rw [List.getElem?_eq_none hr])
  refine callsDIn_of_wpSIn hf hb trivial fun c₀ cs hu => ?_
  obtain ⟨x, u', hx, hset, hrd⟩ := hrec c₀ cs hu
  refine wpSIn_seq (wpSIn_region ?_)
  have hsz : ops.size = os.length + 1 := by rw [← Array.length_toList, hops]; rfl
  have hr : List.range ops.size = 0 :: List.range' 1 os.length := by
    rw [hsz, List.range_eq_range', List.range'_succ]
  rw [hr]
  have h0 : ops[0]? = some o0 := by rw [← Array.getElem?_toList, hops]; rfl
  simp only [wpOpsSIn, h0]
  refine ⟨fun _ _ => trivial, ?_⟩
  rw [if_pos (by simp [Region.wanted, hg0])]
  have hexec : (execOp (Act.eval { tmps := U ++ Array.replicate (fn.ntmps - U.size) undef, defers := [] }) o0).run P w = .ok .recover w := by
    unfold isRec at hr0
    split at hr0
    case h_2 => simp at hr0
    rename_i c hop
    split at hr0
    case h_2 => simp at hr0
    rename_i hc
    unfold execOp
    simp only [hop, resolve, hc]
    simp [go_sem, invoke, builtin]
  rw [hexec]
  have hN : (U ++ Array.replicate (fn.ntmps - U.size) undef).size = fn.ntmps := by simp; have := hU.1; omega
  have hE0 : EnvOk w m ((d, rv) :: frame0 0 caps) ((U ++ Array.replicate (fn.ntmps - U.size) undef).setIfInBounds d x) := (EnvOk.frame hU _).set (by rw [hN]; exact hdlt) hx
  -- what stands behind the first operation
  have key : wpOpsSIn (FW none) nn P ops (Exit.thenS (y.wpSIn (FW none) nn P (bodyPostS P fn c₀ cs fun e u' w' => (∃ v, e = .returned v) ∧ settle u' = .returning ∧ ∃ m' K', Tr w m w' m' ∧ St w' m' (hp K') ∧ k K'))
      (bodyPostS P fn c₀ cs fun e u' w' => (∃ v, e = .returned v) ∧ settle u' = .returning ∧ ∃ m' K', Tr w m w' m' ∧ St w' m' (hp K') ∧ k K')) (List.range' 1 os.length)
      { tmps := (U ++ Array.replicate (fn.ntmps - U.size) undef).setIfInBounds d x, defers := [] } ({ c₀ with mode := u' } :: cs) w := by
    refine wpOpsSIn_mono (aopsS_ok (bm := false) (D0 := []) (we := w) (me := m) (cs := { c₀ with mode := u' } :: cs) hT hcall os 1 _ K (fun j => ?_) hpl h w m _ (Tr.refl w m) hS hE0 (by simpa using hN) .base) ?_
    · rw [← Array.getElem?_toList, hops, Nat.add_comm]; rfl
    rintro e a1 cs1 w1 ⟨rfl, hR⟩
    cases e with
    | normal =>
      obtain ⟨hN1, m1, s1, hd1, hT1, hS1, hE1, hQ⟩ := hR
      refine wpSIn_of_wpIn rfl (wpIn_mono (awp_ok (ro := none) (bm := false) (D0 := []) (we := w) (me := m) hT hcall hmix hkb (fun d hd => by simp at hd) y _ _ hQ w1 m1 a1 hT1 hS1 hE1 hN1 hd1 (.inr hrf)) fun e a2 w2 hR2 => ?_)
      have fin : ∀ (m2 : Mp) (s2 : AS), Mk false w [] w2 m2 a2.defers → Tr w m w2 m2 → St w2 m2 (hp s2.K) → EnvOk w2 m2 s2.t a2.tmps → (ares T fn s2 fun _ => fK s2.K k) →
          a2.defers = [] ∧ ∃ u1, ({ c₀ with mode := u' } :: cs : List Frame) = { c₀ with mode := u1 } :: cs ∧ ∃ v, (results fn a2.tmps).run P w2 = .ok v w2 ∧ ((∃ v', Ending.returned v = .returned v') ∧ settle u1 = .returning ∧ ∃ m' K', Tr w m w2 m' ∧ St w2 m' (hp K') ∧ k K') := by
        intro m2 s2 hd2 hT2 hS2 hE2 hQ2
        obtain ⟨⟨v, hv⟩, hk⟩ := ares_nores (a := a2) hT hS2 hE2 hQ2
        rw [fK_eq] at hk
        refine ⟨?_, u', rfl, v, hv, ⟨v, rfl⟩, hset, m2, s2.K, hT2, hS2, hk⟩
        generalize a2.defers = ds at hd2
        cases hd2 with
        | base => rfl
        | mark hb => simp at hb
      cases e with
      | normal => obtain ⟨_, m2, s2, hd2, hT2, hS2, hE2, hQ2⟩ := hR2; exact fin m2 s2 hd2 hT2 hS2 hE2 hQ2
      | ret => obtain ⟨_, m2, s2, hd2, hT2, hS2, hE2, hQ2⟩ := hR2; exact fin m2 s2 hd2 hT2 hS2 hE2 hQ2
      | exit n => obtain ⟨_, _, _, _, _, _, _, hQ2⟩ := hR2; exact hQ2.elim
      | panic ch => obtain ⟨_, _, _, _, _, _, _, _, _, _, _, hQ2⟩ := hR2; exact hQ2.elim
      | goto l => exact hR2.elim
      | outgrown => exact hR2.elim
    | exit n => obtain ⟨_, _, _, _, _, _, _, hQ2⟩ := hR; exact hQ2.elim
    | ret => obtain ⟨_, _, _, _, _, _, _, hQ2⟩ := hR; exact hQ2.elim
    | panic ch => obtain ⟨_, _, _, _, _, _, _, _, _, _, _, hQ2⟩ := hR; exact hQ2.elim
    | goto l => exact hR.elim
    | outgrown => exact hR.elim
  rcases hrd with hrd | ⟨hrd, rfl, rfl⟩
  · simp only [hrd, hd0, Act.put]
    exact key
  · simp only [hrd, hd0, Act.put]
    subst hu
    exact key

theorem mk_false {w : World} {m : Mp} {ds : List Deferred} (h : Mk false we D0 w m ds) : ds = D0 := by
  cases h with
  | base => rfl
  | mark hb => simp at hb

/-- behind a body that put nothing off -/
theorem bEnd_ok (hT : TabOk P T) {fn : Func} {k : AO → List ABlk → Prop} {e : Exit} {a : Act} {w : World} (h : Rel false N we me [] (bEnd T fn k) e a w) : bodyPostM (FW none) nn P fn (Post we me k) e a w := by
  cases e with
  | normal =>
    obtain ⟨_, m', s', hd, h1, h2, h3, h4⟩ := h
    obtain ⟨u, v, h5, h6, h7⟩ := ares_ok (s := s') (a := a) hT h2 h3 h4
    rw [fK_eq] at h7
    show LeavesInM (FW none) nn P fn a.tmps _ a.defers .returning w
    rw [mk_false hd]
    exact ⟨u, h5, m', v, s'.K, h1, h2, h6, h7⟩
  | ret =>
    obtain ⟨_, m', s', hd, h1, h2, h3, h4⟩ := h
    obtain ⟨u, v, h5, h6, h7⟩ := ares_ok (s := s') (a := a) hT h2 h3 h4
    rw [fK_eq] at h7
    show LeavesInM (FW none) nn P fn a.tmps _ a.defers .returning w
    rw [mk_false hd]
    exact ⟨u, h5, m', v, s'.K, h1, h2, h6, h7⟩
  | panic ch =>
    obtain ⟨_, m', s', v, u, hd, rfl, h1, h2, h3, h4, h5⟩ := h
    simp only [bEnd, fV_eq, fK_eq] at h5
    show LeavesInM (FW none) nn P fn a.tmps _ a.defers (.panicking _) w
    rw [mk_false hd]
    exact ⟨m', v, u, s'.K, rfl, h1, h2, h4, h5⟩
  | exit n => obtain ⟨_, _, _, _, _, _, _, h⟩ := h; exact h.elim
  | goto l => exact h
  | outgrown => exact h.elim

theorem dRes_ok (hT : TabOk P T) {fn : Func} {k : AO → List ABlk → Prop} {t : List (Nat × AV)} {K : List ABlk} {tmps : Array Value} {w : World} {m : Mp} (h : dRes T fn k t K) (hTr : Tr we me w m) (hS : St w m (hp K)) (hE : EnvOk w m t tmps) :
    LeavesInM (FW none) nn P fn tmps (Post we me k) [] .returning w := by
  unfold dRes at h
  obtain ⟨u, v, h5, h6, h7⟩ := ares_ok (s := ⟨t, K⟩) (a := { tmps := tmps, defers := [] }) hT hS hE h
  rw [fK_eq] at h7
  exact ⟨u, h5, m, v, K, hTr, hS, h6, h7⟩

theorem dEnd_ok (hT : TabOk P T) (hcall : CallOk P call) (hmix : P.follows .mixedOrders = true) {fn gf : Func} {g : FuncId} (hent : Ent P g) (hg : P.funcs[g]? = some gf) {caps : List AV} {U : Array Value} {k : AO → List ABlk → Prop} {w1 : World} {m1 : Mp}
    (hT1 : Tr we me w1 m1) (hU : VL w1 m1 caps U) {e : Exit} {a : Act} {w : World} (h : Rel false N w1 m1 [{ target := .fn (.func g) U, args := #[] }] (dEnd T call fn gf caps k) e a w) :
    bodyPostM (FW none) nn P fn (Post we me k) e a w := by
  have core : ∀ (u : FrameMode) (m' : Mp) (s' : AS) (rv : AV), u ≠ .run → Mk false w1 [{ target := .fn (.func g) U, args := #[] }] w m' a.defers → Tr w1 m1 w m' → St w m' (hp s'.K) → EnvOk w m' s'.t a.tmps →
      recW T call gf caps s'.K rv (dRes T fn k s'.t) →
      (∀ (c₀ : Frame) cs, c₀.mode = u → ∃ x u', V w m' rv x ∧ settle u' = .returning ∧ (recoverD (c₀ :: cs) = some (x, { c₀ with mode := u' } :: cs) ∨ (recoverD (c₀ :: cs) = none ∧ x = .nilIface ∧ u' = u))) →
      LeavesInM (FW none) nn P fn a.tmps (Post we me k) a.defers u w := by
    intro u m' s' rv hu hd h1 h2 h3 h4 hrec
    rw [mk_false hd]
    refine ⟨hu, .inr ⟨FW.depth, .func g, U, g, U, rfl, ?_, fun _ _ => trivial, ?_⟩⟩
    · simp [invoke, callFunc_run hent]
    · refine CallsDIn.mono (recW_ok hT hcall hmix hg h4 h2 ⟨hU.1, fun j hj hj' => (hU.2 j hj hj').mono h1⟩ hrec) ?_
      rintro e u' w' ⟨⟨v, rfl⟩, hset, m2, K2, h5, h6, h7⟩
      show LeavesInM (FW none) nn P fn a.tmps (Post we me k) [] (settle u') w'
      rw [hset]
      exact dRes_ok hT h7 (hT1.trans (h1.trans h5)) h6 (h3.mono h5)
  have ret : ∀ (m' : Mp) (c₀ : Frame) (cs : List Frame), c₀.mode = .returning → ∃ x u', V w m' (.p .nili) x ∧ settle u' = .returning ∧ (recoverD (c₀ :: cs) = some (x, { c₀ with mode := u' } :: cs) ∨ (recoverD (c₀ :: cs) = none ∧ x = .nilIface ∧ u' = .returning)) :=
    fun m' c₀ cs hc => ⟨.nilIface, .returning, .p _ _ .nili, rfl, .inr ⟨by simp [recoverD, hc], rfl, rfl⟩⟩
  cases e with
  | normal =>
    obtain ⟨_, m', s', hd, h1, h2, h3, h4⟩ := h
    exact core .returning m' s' _ (by simp) hd h1 h2 h3 h4 (ret m')
  | ret =>
    obtain ⟨_, m', s', hd, h1, h2, h3, h4⟩ := h
    exact core .returning m' s' _ (by simp) hd h1 h2 h3 h4 (ret m')
  | panic ch =>
    obtain ⟨_, m', s', v, u, hd, rfl, h1, h2, h3, h4, h5⟩ := h
    exact core (.panicking [{ v := u, recovered := false }]) m' s' v (by simp) hd h1 h2 h3 h5 fun c₀ cs hc => ⟨u, .panicking [{ v := u, recovered := true }], h4, rfl, .inl (by simp [recoverD, hc])⟩
  | exit n => obtain ⟨_, _, _, _, _, _, _, h⟩ := h; exact h.elim
  | goto l => exact h
  | outgrown => exact h.elim

theorem defer_exec {o : Oper} {d : Nat} (h : deferOf o = some d) {ρ : Operand → Value} {g : FuncId} {B : Array Value} (hv : ρ (.tmp d) = .func (.func g) #[] B) (w : World) :
    o.dst = none ∧ o.guard = none ∧ (execOp ρ o).run P w = .ok (.defer { target := .fn (.func g) B, args := #[] }) w := by
  unfold deferOf at h
  split at h
  case h_2 => simp at h
  rename_i c hop
  split at h
  case h_2 => simp at h
  rename_i x hc
  split at h
  case h_2 => simp at h
  rename_i hargs
  split at h
  case h_2 => simp at h
  rename_i hdst
  split at h
  case h_2 => simp at h
  rename_i hg
  simp only [Option.some.injEq] at h
  subst h
  have hargs : c.args = #[] := by apply Array.ext'; simpa using hargs
  refine ⟨hdst, hg, ?_⟩
  unfold execOp
  simp only [hop]
  simp [resolve, hc, hv, hargs, Deferred.ofValue]

theorem abodyD_ok (hT : TabOk P T) (hcall : CallOk P call) (hmix : P.follows .mixedOrders = true) {f : FuncId} {fn : Func} (hf : P.funcs[f]? = some fn) (hn : (fn.name == "runtime.NumGoroutine") = false) {args : List AV} {K : List ABlk} {k : AO → List ABlk → Prop}
    (h : abodyD T call fn args K k) : ACalls P f args K k := by
  unfold abodyD at h
  split at h
  case h_2 => exact h.elim
  rename_i c1 c2 c3 id ops y hb
  split at h
  case h_2 => exact h.elim
  rename_i o1 o2 hops
  split at h
  case h_2 => exact h.elim
  rename_i d hdo hg1
  split at h
  case h_2 => exact h.elim
  rename_i hchk
  simp only [Bool.and_eq_true] at hchk
  obtain ⟨⟨⟨⟨hle, hn1⟩, hn2⟩, hn3⟩, hn4⟩ := hchk
  have hle : args.length ≤ fn.ntmps := by have := Nat.le_of_ble_eq_true hle; rwa [len_eq] at this
  refine ⟨⟨fn, hf, hn, by rw [hb]; rfl⟩, fun w m Args hS hA => (callsIn_wide (n := 0)).1 (callsIn_of_wp_marks hf hb trivial ?_)⟩
  show Code.wpIn (FW none) 0 P _ (bodyPostM (FW none) 0 P fn (Post w m k)) _ w
  rw [fK_eq] at h
  have hkb : ∀ r, len K ≤ r → m.L r = .absent := fun r hr => hS.absent (by
    simp only [hp, nth_eq]
    rw [len_eq] at hr
    rw [List.getElem?_eq_none hr])
  have hD0 : ∀ d ∈ ([] : List Deferred), ∀ D, d.target ≠ .collected D := fun d hd => by simp at hd
  refine wpIn_seq (wpIn_mono (awp_ok (ro := none) (bm := false) (D0 := []) (we := w) (me := m) hT hcall hmix hkb hD0 c1 _ _ h w m _ (Tr.refl w m) hS (EnvOk.frame hA _) (by simp; have := hA.1; omega) .base (.inr hn1)) fun e a1 w1 hR => ?_)
  cases e with
  | exit n => exact bEnd_ok (nn := 0) (e := .exit n) (N := fn.ntmps) hT (show Rel false fn.ntmps w m [] (bEnd T fn k) (.exit n) a1 w1 from hR)
  | ret => exact bEnd_ok (nn := 0) (e := .ret) (N := fn.ntmps) hT (show Rel false fn.ntmps w m [] (bEnd T fn k) .ret a1 w1 from hR)
  | panic ch => exact bEnd_ok (nn := 0) (e := .panic ch) (N := fn.ntmps) hT (show Rel false fn.ntmps w m [] (bEnd T fn k) (.panic ch) a1 w1 from hR)
  | goto l => exact hR.elim
  | outgrown => exact hR.elim
  | normal =>
  obtain ⟨hN1, m1, s1, hd1, hT1, hS1, hE1, h1⟩ := hR
  refine wpIn_seq (wpIn_mono (awp_ok (ro := none) (bm := false) (D0 := []) (we := w) (me := m) hT hcall hmix hkb hD0 c2 _ _ h1 w1 m1 a1 hT1 hS1 hE1 hN1 hd1 (.inr hn2)) fun e a2 w2 hR => ?_)
  cases e with
  | exit n => exact bEnd_ok (nn := 0) (e := .exit n) (N := fn.ntmps) hT (show Rel false fn.ntmps w m [] (bEnd T fn k) (.exit n) a2 w2 from hR)
  | ret => exact bEnd_ok (nn := 0) (e := .ret) (N := fn.ntmps) hT (show Rel false fn.ntmps w m [] (bEnd T fn k) .ret a2 w2 from hR)
  | panic ch => exact bEnd_ok (nn := 0) (e := .panic ch) (N := fn.ntmps) hT (show Rel false fn.ntmps w m [] (bEnd T fn k) (.panic ch) a2 w2 from hR)
  | goto l => exact hR.elim
  | outgrown => exact hR.elim
  | normal =>
  obtain ⟨hN2, m2, s2, hd2, hT2, hS2, hE2, h2⟩ := hR
  refine wpIn_seq (wpIn_mono (awp_ok (ro := none) (bm := false) (D0 := []) (we := w) (me := m) hT hcall hmix hkb hD0 c3 _ _ h2 w2 m2 a2 hT2 hS2 hE2 hN2 hd2 (.inr hn3)) fun e a3 w3 hR => ?_)
  cases e with
  | exit n => exact bEnd_ok (nn := 0) (e := .exit n) (N := fn.ntmps) hT (show Rel false fn.ntmps w m [] (bEnd T fn k) (.exit n) a3 w3 from hR)
  | ret => exact bEnd_ok (nn := 0) (e := .ret) (N := fn.ntmps) hT (show Rel false fn.ntmps w m [] (bEnd T fn k) .ret a3 w3 from hR)
  | panic ch => exact bEnd_ok (nn := 0) (e := .panic ch) (N := fn.ntmps) hT (show Rel false fn.ntmps w m [] (bEnd T fn k) (.panic ch) a3 w3 from hR)
  | goto l => exact hR.elim
  | outgrown => exact hR.elim
  | normal =>
  obtain ⟨hN3, m3, s3, hd3, hT3, hS3, hE3, h3⟩ := hR
  simp only [wSeqK, dMid] at h3
  obtain ⟨hb1, h3⟩ := bound_ok h3
  refine wpIn_seq (wpIn_region_list ?_)
  rw [hops]
  unfold wpListIn
  rw [if_pos (by simp [Region.wanted, hg1])]
  refine ⟨fun _ _ => trivial, ?_⟩
  rw [show (FW none).round = none from rfl, Oper.semAt_none]
  refine aop_ok (ro := none) hT hcall hS3 hE3 (fun w4 m4 v K4 u hT4 hS4 hV4 h4 => ?_) (fun w' m' v K' u _ _ _ h4 => h4.elim) h3
  have hE4 := (hE3.mono hT4).put (a := a3) (d := o1.dst) (fun x hx => by rw [hN3]; exact hb1 x hx) hV4
  have hvd := hE4 d
  split at h4
  case h_2 => exact h4.elim
  rename_i g first caps hlk
  split at h4
  case h_2 => exact h4.elim
  split at h4
  case h_2 => exact h4.elim
  rename_i gf hgf
  split at h4
  case h_2 => exact h4.elim
  rename_i hbody
  obtain ⟨hg2, hg3⟩ := hT.f g gf hgf
  rw [hlk] at hvd
  generalize hud : (a3.put o1.dst u).tmps.getD d undef = ud at hvd
  cases hvd with
  | fn _ _ _ A B hA' hB h1 h2' =>
  have hA0 : A = #[] := by
    have : A.size = 0 := by simpa using hA'.symm
    exact Array.eq_empty_of_size_eq_zero this
  subst hA0
  have hev : (a3.put o1.dst u).eval (.tmp d) = .func (.func g) #[] B := hud
  obtain ⟨hx1, hx2, hx3⟩ := defer_exec (P := P) hdo hev w4
  unfold wpListIn
  rw [if_pos (by simp [Region.wanted, hx2])]
  refine ⟨fun _ _ => trivial, ?_⟩
  rw [show (FW none).round = none from rfl, Oper.semAt_none, hx3, Oper.uponIn_defer, hx1]
  show Code.wpIn _ _ _ y _ { a3.put o1.dst u with defers := _ } w4
  have hda : (a3.put o1.dst u).defers = [] := by rw [put_defers]; exact mk_false hd3
  rw [hda]
  have hkb4 : ∀ r, len K4 ≤ r → m4.L r = .absent := fun r hr => hS4.absent (by
    simp only [hp, nth_eq]
    rw [len_eq] at hr
    rw [List.getElem?_eq_none hr])
  have hent : Ent P g := ⟨gf, hg2, hg3, hbody⟩
  refine wpIn_mono (awp_ok (ro := none) (bm := false) (D0 := [{ target := .fn (.func g) B, args := #[] }]) (we := w4) (me := m4) hT hcall hmix hkb4 (fun d hd D => by
    simp only [List.mem_singleton] at hd; subst hd; simp) y _ _ h4 w4 m4 _ (Tr.refl w4 m4) hS4 hE4 (by rw [put_size]; exact hN3) .base (.inr hn4)) fun e a' w' hR => dEnd_ok hT hcall hmix hent hg2 (hT3.trans hT4) ⟨hB, h2'⟩ hR
end
end Go.AE

namespace Go.Proofs.YtbcngegcpdppfaaGreatDoor
open Go.AE Go.Ru
set_option maxRecDepth 100000
set_option pp.maxSteps 3000

/-- what reads something: of a parser's state that stands first -/
def cStd (S : Int → PS → R Int) : AC := fun args K k => ∃ e ts ns mo X, args = [pp] ∧ K = encP e ts ns 0 mo ++ X ∧ Fine 40 ts ns ∧ After e (S e ⟨ts, ns, mo⟩) intV 0 X k
def pbW (e : Int) (ts : List Tok) (nv : AV) (mo : Int) : ABlk := .box 74 [.p (.sl 4 (ts.length + 1) (encs e ts)), nv, intV 0, intV mo]
/-- of one that stands fifth, and has no nodes yet -/
def cWhat (S : Int → PS → R Int) : AC := fun args K k => ∃ (e : Int) (ts : List Tok) (y0 y1 y2 y3 : ABlk), args = [.ptr 4 0 1 0 0] ∧ K = [y0, y1, y2, y3, pbW e ts (.p .nils) 0] ∧ Fine 40 ts [] ∧
  (∀ a ts' ns' mo', S e ⟨ts, [], 0⟩ = .ok a ⟨ts', ns', mo'⟩ → k (.ret (intV a)) [y0, y1, y2, y3, pbW e ts' (.p (.sl 5 ns'.length (nodeF ns'))) mo', .dead]) ∧
  (∀ a er, S e ⟨ts, [], 0⟩ = .bad a er → k (.pan (wrongV a er)) [y0, y1, y2, y3, .dead, .dead])

theorem ups_pvs (n : Nat) (l : List PV) : AV.ups n (pvs l) = pvs l := by
  induction l with
  | nil => rfl
  | cons a l ih => simp [pvs, AV.ups, AV.up, ih]

theorem what_ok {f : FuncId} {S : Int → PS → R Int} (h0 : COk f (cStd S)) : COk f (cWhat S) := by
  rintro args K k ⟨e, ts, y0, y1, y2, y3, rfl, rfl, hf, hk1, hk2⟩
  refine ACalls.post (k := fun ao K1 => (∃ a ts' ns' mo', S e ⟨ts, [], 0⟩ = .ok a ⟨ts', ns', mo'⟩ ∧ ao = .ret (intV a) ∧ K1 = [y0, y1, y2, y3] ++ upsB 4 (encP e ts' ns' 0 mo')) ∨
    (∃ a er, S e ⟨ts, [], 0⟩ = .bad a er ∧ ao = .pan (wrongV a er) ∧ K1 = [y0, y1, y2, y3, .dead, .dead])) ?_ ?_
  · refine ACalls.nilPre (K' := [y0, y1, y2, y3, pbW e ts (.slr 5 0 0 0) 0]) 41 5 (fun i => pvs (nodeF [] i)) ⟨.inl (ABlk.le_refl _), .inl (ABlk.le_refl _), .inl (ABlk.le_refl _), .inl (ABlk.le_refl _), .inr ⟨_, _, _, rfl, rfl, .inl (AV.le_refl _), .inr ⟨rfl, rfl⟩, .inl (AV.le_refl _), .inl (AV.le_refl _), trivial⟩, trivial⟩ ?_
    refine ACalls.shift (n := 4) (Y := [y0, y1, y2, y3]) (K1 := [pbW e ts (.slr 5 0 0 0) 0, .arr 41 5 0 0 (fun i => pvs (nodeF [] i))]) rfl ⟨trivial, trivial, trivial⟩ ?_
    refine ACalls.pre (args' := [pp]) (K' := encP e ts [] 0 0 ++ []) ?_ (fun w m Args hS hV => ⟨m, Tr.refl w m, hS.les ?_, hV⟩)
    · refine h0 _ _ _ ⟨e, ts, [], 0, [], rfl, rfl, hf, ⟨fun a ts' ns' mo' hr => ?_, fun a er hr => ?_⟩⟩
      · exact ⟨⟨trivial, trivial, trivial⟩, .inl ⟨a, ts', ns', mo', hr, rfl, rfl⟩⟩
      · exact ⟨⟨trivial, trivial, trivial⟩, .inr ⟨a, er, hr, rfl, rfl⟩⟩
    · exact ⟨ABlk.le_refl _, ABlk.arr_eq rfl fun i hi => by simp at hi, trivial⟩
  · rintro ao K1 (⟨a, ts', ns', mo', hr, rfl, rfl⟩ | ⟨a, er, hr, rfl, rfl⟩)
    · refine ⟨intV a, _, Wk1.fz (r := 5) (ty := 41) (sz := 5) (n := ns'.length) (f := fun i => AV.ups 4 (pvs (nodeF ns' i))) (nodeF ns') rfl (fun i _ => ups_pvs _ _) ?_ (AV.le_refl _), hk1 a ts' ns' mo' hr⟩
      exact ⟨.inl (ABlk.le_refl _), .inl (ABlk.le_refl _), .inl (ABlk.le_refl _), .inl (ABlk.le_refl _), .inr ⟨_, _, _, rfl, rfl, .inl (AV.le_refl _), .inr ⟨rfl, rfl⟩, .inl (AV.le_refl _), .inl (AV.le_refl _), trivial⟩, .inl (ABlk.le_refl _), trivial⟩
    · exact ⟨_, _, Wk1.refl _ _ _, hk2 a er hr⟩

/-! ### what reading answers -/
inductive RR where
  | bad (at_ err : Int)
  | ok (ns : List Nd) (root mo : Int)
def readS (S : Int → PS → R Int) (s : Bs) : RR :=
  if s.length > 20000 then .bad 0 7 else match cutT s with
  | .bad a => .bad a 2
  | .ok ts => match S s.length ⟨ts, [], 0⟩ with
    | .bad a er => .bad a er
    | .ok root s' => match s'.ts with
      | t :: _ => .bad t.at_ 2
      | [] => if 4000 < s'.ns.length then .bad 0 8 else if 40 < depthS s'.ns root then .bad 0 6 else .ok s'.ns root s'.mo
def readV : RR → AV
  | .bad a er => .tup [.agg [.p .nils, intV 0], intV 0, intV a, intV er]
  | .ok ns root mo => .tup [treeV ns root, intV mo, intV 0, intV 0]

theorem runS_le (l r : Bs) : runS l r ≤ r.length := by
  unfold runS
  exact (List.takeWhile_sublist _).length_le
theorem cutS_len : ∀ (n : Nat) (r : Bs) (i : Nat) (l : List Tok), cutS n r i = .ok l → l.length ≤ r.length := by
  intro n
  induction n with
  | zero => intro r i l h; simp only [cutS, CR.ok.injEq] at h; subst h; exact Nat.zero_le _
  | succ n ih =>
    intro r i l h
    cases r with
    | nil => simp only [cutS, CR.ok.injEq] at h; subst h; exact Nat.zero_le _
    | cons c r' =>
      simp only [cutS] at h
      split at h
      · have := ih _ _ _ h
        simp only [List.length_drop] at this; omega
      split at h
      · have := ih _ _ _ h
        have h2 := (List.dropWhile_sublist (fun c => !(c == (10 : UInt8))) (l := c :: r')).length_le
        omega
      split at h
      · rename_i hp
        split at h
        · cases h
        · rename_i k v hw
          cases hc : cutS n ((c :: r').drop (runS partsT (c :: r'))) (i + runS partsT (c :: r')) with
          | bad a => rw [hc] at h; simp [CR.cons] at h
          | ok l' =>
            rw [hc] at h
            simp only [CR.cons, CR.ok.injEq] at h
            subst h
            have := ih _ _ _ hc
            simp only [List.length_drop, List.length_cons] at this ⊢; omega
      · split at h
        · cases h
        · rename_i m hm
          cases hc : cutS n ((c :: r').drop (m + 1)) (i + (m + 1)) with
          | bad a => rw [hc] at h; simp [CR.cons] at h
          | ok l' =>
            rw [hc] at h
            simp only [CR.cons, CR.ok.injEq] at h
            subst h
            have := ih _ _ _ hc
            simp only [List.length_drop, List.length_cons] at this ⊢; omega

/-! ### read -/
theorem call_okD {G : AG} (hG : GOk Tryz.prog G) (n : Nat) {f : FuncId} {fn : Func} (hf : T0.f.get f = some fn) {args : List AV} {K : List ABlk} {k : AO → List ABlk → Prop} (h : abodyD T0 (acall T0 G n) fn args K k) : ACalls Tryz.prog f args K k := by
  obtain ⟨h1, h2⟩ := tabOk.f f fn hf
  exact abodyD_ok tabOk (acall_ok tabOk (Checked.mixed Tryz.checked) hG n) (Checked.mixed Tryz.checked) h1 h2 h
theorem frame0D {G : AG} (hG : GOk Tryz.prog G) (n : Nat) {f : FuncId} {fn : Func} (hf : T0.f.get f = some fn) {args : List AV} {X : List ABlk} {k : AO → List ABlk → Prop} (hcl : AV.cls 0 args = true)
    (h : ∀ Q : AO → List ABlk → Prop, (∀ v K', v.cl 0 = true → k (.ret v) X → Q (.ret v) K') → abodyD T0 (acall T0 G n) fn args [] Q) : ACalls Tryz.prog f args X k := by
  refine (ACalls.frame (K0 := []) (X := X) (k := fun ao K1 => k ao (K1 ++ X)) hcl (fun r h => by simp at h) (call_okD hG n hf (h _ ?_))).mono fun ao K ⟨K1, h1, h2⟩ => by subst h1; exact h2
  intro v K' h1 h2
  refine ⟨h1, by simp, fun r hr => by simp at hr, ?_⟩
  show k (.ret v) (takeN K' 0 ++ X)
  rw [takeN_zero]; exact h2

def gRd (f : FuncId) (S : Int → PS → R Int) : AG := gput 12 cCutT (gput f (cWhat S) (gput 16 cDepth g0))
theorem gRd_ok {f : FuncId} {S : Int → PS → R Int} (h0 : COk f (cStd S)) : GOk Tryz.prog (gRd f S) := gput_ok cutT_ok (gput_ok (what_ok h0) (gput_ok depth_ok g0_ok))
def cRead (f : FuncId) (S : Int → PS → R Int) : AC := fun args K k => ∃ s, args = [.p (.str s), .p (.fn f)] ∧ s.length < 1000000 ∧ k (.ret (readV (readS S s))) K
theorem readP_ok (S : Int → PS → R Int) (hS : ∀ e ts a s', List.length ts ≤ 20000 → S e ⟨ts, [], 0⟩ = .ok a s' → s'.ns.length < 1000000) (h0 : COk 22 (cStd S)) :
    COk 21 (cRead 22 S) := by
    rintro args K k ⟨s, rfl, hs, hk⟩
    refine frame0D (gRd_ok h0) 19 rfl rfl fun Q hr => ?_
    conv => whnf
    refine ⟨s, rfl, hs, fun h => ?_, fun h => ?_⟩
    · have e : readS S s = .bad 0 7 := by unfold readS; rw [if_pos h]
      rw [e] at hk
      conv => whnf
      repeat ((refine And.intro ?_ ?_); (focus ((conv => whnf); done)); (conv => whnf))
      exact hr _ _ rfl hk
    unfold readS at hk
    rw [if_neg (by omega)] at hk
    cases hc : cutT s with
    | bad a =>
      rw [hc] at hk
      conv => whnf
      repeat ((refine And.intro ?_ ?_); (focus ((conv => whnf); done)); (conv => whnf))
      exact hr _ _ rfl hk
    | ok ts =>
      rw [hc] at hk
      have hln : ts.length ≤ s.length := cutS_len _ _ _ _ hc
      simp only at hk
      conv => whnf
      refine ⟨s.length, ts, _, _, _, _, rfl, rfl, ⟨Nat.le_refl _, by simp only [List.length_nil]; omega⟩, fun a ts2 ns2 mo2 hp => ?_, fun a er hp => ?_⟩
      · have hns := hS _ _ _ _ (by omega) hp
        rw [hp] at hk
        simp only at hk hns
        cases ts2 with
        | cons t r =>
          obtain ⟨tk, tn, ta, tx⟩ := t
          cases tk <;>
          · conv => whnf
            refine ⟨by simp <;> omega, ?_⟩
            conv => whnf
            refine ⟨by simp <;> omega, ?_⟩
            conv => whnf
            repeat ((refine And.intro ?_ ?_); (focus ((conv => whnf); done)); (conv => whnf))
            exact hr _ _ rfl hk
        | nil =>
          conv => whnf
          refine ⟨by simp, ?_⟩
          conv => whnf
          have hd1 : decide ((ns2.length : Int) > 4000) = decide (4000 < ns2.length) := by
            by_cases h : 4000 < ns2.length
            · rw [decide_eq_true h, decide_eq_true (by omega)]
            · rw [decide_eq_false h, decide_eq_false (by omega)]
          refine two_intro (fun h1 => ?_) (fun h1 => ?_)
          · have h1 := of_decide_eq_true (hd1 ▸ h1)
            rw [if_pos h1] at hk
            conv => whnf
            repeat ((refine And.intro ?_ ?_); (focus ((conv => whnf); done)); (conv => whnf))
            exact hr _ _ rfl hk
          have h1 := of_decide_eq_false (hd1 ▸ h1)
          rw [if_neg h1] at hk
          conv => whnf
          refine ⟨ns2, a, rfl, hns, ?_⟩
          conv => whnf
          have hd2 : decide (((depthS ns2 a : Nat) : Int) > 40) = decide (40 < depthS ns2 a) := by
            by_cases h : 40 < depthS ns2 a
            · rw [decide_eq_true h, decide_eq_true (by omega)]
            · rw [decide_eq_false h, decide_eq_false (by omega)]
          refine two_intro (fun h2 => ?_) (fun h2 => ?_)
          · have h2 := of_decide_eq_true (hd2 ▸ h2)
            rw [if_pos h2] at hk
            conv => whnf
            repeat ((refine And.intro ?_ ?_); (focus ((conv => whnf); done)); (conv => whnf))
            exact hr _ _ rfl hk
          have h2 := of_decide_eq_false (hd2 ▸ h2)
          rw [if_neg h2] at hk
          conv => whnf
          repeat ((refine And.intro ?_ ?_); (focus ((conv => whnf); done)); (conv => whnf))
          exact hr _ _ rfl hk
      · rw [hp] at hk
        simp only at hk
        conv => whnf
        repeat ((refine And.intro ?_ ?_); (focus ((conv => whnf); done)); (conv => whnf))
        exact hr _ _ rfl hk
theorem readE_ok (S : Int → PS → R Int) (hS : ∀ e ts a s', List.length ts ≤ 20000 → S e ⟨ts, [], 0⟩ = .ok a s' → s'.ns.length < 1000000) (h0 : COk 31 (cStd S)) :
    COk 21 (cRead 31 S) := by
    rintro args K k ⟨s, rfl, hs, hk⟩
    refine frame0D (gRd_ok h0) 19 rfl rfl fun Q hr => ?_
    conv => whnf
    refine ⟨s, rfl, hs, fun h => ?_, fun h => ?_⟩
    · have e : readS S s = .bad 0 7 := by unfold readS; rw [if_pos h]
      rw [e] at hk
      conv => whnf
      repeat ((refine And.intro ?_ ?_); (focus ((conv => whnf); done)); (conv => whnf))
      exact hr _ _ rfl hk
    unfold readS at hk
    rw [if_neg (by omega)] at hk
    cases hc : cutT s with
    | bad a =>
      rw [hc] at hk
      conv => whnf
      repeat ((refine And.intro ?_ ?_); (focus ((conv => whnf); done)); (conv => whnf))
      exact hr _ _ rfl hk
    | ok ts =>
      rw [hc] at hk
      have hln : ts.length ≤ s.length := cutS_len _ _ _ _ hc
      simp only at hk
      conv => whnf
      refine ⟨s.length, ts, _, _, _, _, rfl, rfl, ⟨Nat.le_refl _, by simp only [List.length_nil]; omega⟩, fun a ts2 ns2 mo2 hp => ?_, fun a er hp => ?_⟩
      · have hns := hS _ _ _ _ (by omega) hp
        rw [hp] at hk
        simp only at hk hns
        cases ts2 with
        | cons t r =>
          obtain ⟨tk, tn, ta, tx⟩ := t
          cases tk <;>
          · conv => whnf
            refine ⟨by simp <;> omega, ?_⟩
            conv => whnf
            refine ⟨by simp <;> omega, ?_⟩
            conv => whnf
            repeat ((refine And.intro ?_ ?_); (focus ((conv => whnf); done)); (conv => whnf))
            exact hr _ _ rfl hk
        | nil =>
          conv => whnf
          refine ⟨by simp, ?_⟩
          conv => whnf
          have hd1 : decide ((ns2.length : Int) > 4000) = decide (4000 < ns2.length) := by
            by_cases h : 4000 < ns2.length
            · rw [decide_eq_true h, decide_eq_true (by omega)]
            · rw [decide_eq_false h, decide_eq_false (by omega)]
          refine two_intro (fun h1 => ?_) (fun h1 => ?_)
          · have h1 := of_decide_eq_true (hd1 ▸ h1)
            rw [if_pos h1] at hk
            conv => whnf
            repeat ((refine And.intro ?_ ?_); (focus ((conv => whnf); done)); (conv => whnf))
            exact hr _ _ rfl hk
          have h1 := of_decide_eq_false (hd1 ▸ h1)
          rw [if_neg h1] at hk
          conv => whnf
          refine ⟨ns2, a, rfl, hns, ?_⟩
          conv => whnf
          have hd2 : decide (((depthS ns2 a : Nat) : Int) > 40) = decide (40 < depthS ns2 a) := by
            by_cases h : 40 < depthS ns2 a
            · rw [decide_eq_true h, decide_eq_true (by omega)]
            · rw [decide_eq_false h, decide_eq_false (by omega)]
          refine two_intro (fun h2 => ?_) (fun h2 => ?_)
          · have h2 := of_decide_eq_true (hd2 ▸ h2)
            rw [if_pos h2] at hk
            conv => whnf
            repeat ((refine And.intro ?_ ?_); (focus ((conv => whnf); done)); (conv => whnf))
            exact hr _ _ rfl hk
          have h2 := of_decide_eq_false (hd2 ▸ h2)
          rw [if_neg h2] at hk
          conv => whnf
          repeat ((refine And.intro ?_ ?_); (focus ((conv => whnf); done)); (conv => whnf))
          exact hr _ _ rfl hk
      · rw [hp] at hk
        simp only at hk
        conv => whnf
        repeat ((refine And.intro ?_ ?_); (focus ((conv => whnf); done)); (conv => whnf))
        exact hr _ _ rfl hk

/-! ### an expression alone -/
def gEx : AG := gput 66 cEx g0
theorem gEx_ok : GOk Tryz.prog gEx := gput_ok ex_ok g0_ok
theorem expression_ok : COk 31 (cStd fun e => exS e 40) := by
  rintro args K k ⟨e, ts, ns, mo, X, rfl, rfl, hf, hk⟩
  refine frameP gEx_ok 19 rfl fun Q hr hp => ?_
  conv => whnf
  refine ⟨40, e, ts, ns, mo, _, _, rfl, rfl, rfl, hf, ⟨fun a ts' ns' mo' hr' => ?_, fun a er hr' => ?_⟩⟩
  · conv => whnf
    exact hr _ _ ts' ns' 0 mo' rfl rfl (hk.ok a ts' ns' mo' hr')
  · conv => whnf
    exact hp _ _ rfl (hk.bad a er hr')

theorem programS_len (e : Int) (ts : List Tok) (a : Int) (s' : PS) (hl : ts.length ≤ 20000) (h : programS e ⟨ts, [], 0⟩ = .ok a s') : s'.ns.length < 1000000 := by
  have : Okk (programS e ⟨ts, [], 0⟩) (fun s' => s'.ns.length < 1000000) := by
    unfold programS
    refine Okk.bind (vars_le e 2 ⟨ts, [], 0⟩) fun l s1 h1 => Okk.bind (procsL_le e 40 _ l s1) fun l2 s2 h2 => (put_len _ s2).imp fun s3 h3 => ?_
    simp only [Lw, List.length_nil] at h1 h2 h3
    omega
  exact this a s' h
theorem exS_len (e : Int) (ts : List Tok) (a : Int) (s' : PS) (hl : ts.length ≤ 20000) (h : exS e 40 ⟨ts, [], 0⟩ = .ok a s') : s'.ns.length < 1000000 := by
  have := ex_le e 40 ⟨ts, [], 0⟩ a s' h
  simp only [Lw, List.length_nil] at this
  omega

/-! ### Program, Expr, Nest -/
abbrev proS (s : Bs) : RR := readS programS s
abbrev exprRS (s : Bs) : RR := readS (fun e => exS e 40) s
def cReadB : AC := fun args K k => cRead 22 programS args K k ∨ cRead 31 (fun e => exS e 40) args K k
theorem readB_ok : COk 21 cReadB := by
  rintro args K k (h | h)
  · exact readP_ok programS programS_len program_ok args K k h
  · exact readE_ok (fun e => exS e 40) exS_len expression_ok args K k h
def gB : AG := gput 21 cReadB g0
theorem gB_ok : GOk Tryz.prog gB := gput_ok readB_ok g0_ok
def topV : RR → AV
  | .bad a er => .tup [.agg [.p .nils, intV 0], intV a, intV er]
  | .ok ns root _ => .tup [treeV ns root, intV 0, intV 0]
def cTop (S : Bs → RR) : AC := fun args K k => ∃ s, args = [.p (.str s)] ∧ s.length < 1000000 ∧ k (.ret (topV (S s))) K
theorem Program_ok : COk 9 (cTop proS) := by
  rintro args K k ⟨s, rfl, hs, hk⟩
  refine frame0P gB_ok 19 rfl fun Q hr => ?_
  conv => whnf
  refine .inl ⟨s, rfl, hs, ?_⟩
  cases h : readS programS s with
  | bad a er =>
    rw [show proS s = _ from h] at hk
    conv => whnf
    exact hr _ _ rfl hk
  | ok ns root mo =>
    rw [show proS s = _ from h] at hk
    conv => whnf
    exact hr _ _ rfl hk
theorem Expr_ok : COk 13 (cTop exprRS) := by
  rintro args K k ⟨s, rfl, hs, hk⟩
  refine frame0P gB_ok 19 rfl fun Q hr => ?_
  conv => whnf
  refine .inr ⟨s, rfl, hs, ?_⟩
  cases h : readS (fun e => exS e 40) s with
  | bad a er =>
    rw [show exprRS s = _ from h] at hk
    conv => whnf
    exact hr _ _ rfl hk
  | ok ns root mo =>
    rw [show exprRS s = _ from h] at hk
    conv => whnf
    exact hr _ _ rfl hk
def RR.err : RR → Int
  | .bad _ er => er
  | .ok _ _ _ => 0
def RR.most : RR → Int
  | .bad _ _ => 0
  | .ok _ _ mo => mo
def RR.place : RR → Int
  | .bad a _ => a
  | .ok _ _ _ => 0
def RR.tree : RR → AV
  | .bad _ _ => .agg [.p .nils, intV 0]
  | .ok ns root _ => treeV ns root
theorem readV_eq (r : RR) : readV r = .tup [r.tree, intV r.most, intV r.place, intV r.err] := by cases r <;> rfl
def nestS (s : Bs) : Int := if (proS s).err == 0 then (proS s).most else if (exprRS s).err == 0 then (exprRS s).most else -1
def cNest : AC := fun args K k => ∃ s, args = [.p (.str s)] ∧ s.length < 1000000 ∧ k (.ret (intV (nestS s))) K
theorem Nest_ok : COk 14 cNest := by
  rintro args K k ⟨s, rfl, hs, hk⟩
  refine frame0P gB_ok 19 rfl fun Q hr => ?_
  unfold nestS at hk
  conv => whnf
  refine .inl ⟨s, rfl, hs, ?_⟩
  have hp : readS programS s = proS s := rfl
  have he : readS (fun e => exS e 40) s = exprRS s := rfl
  rw [hp]
  generalize proS s = p at hk
  generalize exprRS s = x at hk he
  cases p with
  | ok ns root mo =>
    conv => whnf
    exact hr _ _ rfl hk
  | bad a er =>
    conv => whnf
    refine two_intro (fun h => ?_) (fun h => ?_)
    · rw [show (RR.bad a er).err = er from rfl, show (er == 0) = true from h] at hk
      conv => whnf
      exact hr _ _ rfl hk
    · rw [show (RR.bad a er).err = er from rfl, show (er == 0) = false from h] at hk
      conv => whnf
      refine .inr ⟨s, rfl, hs, ?_⟩
      rw [he]
      cases x with
      | ok ns root mo =>
        conv => whnf
        exact hr _ _ rfl hk
      | bad a2 er2 =>
        conv => whnf
        refine two_intro (fun h2 => ?_) (fun h2 => ?_)
        · rw [show (RR.bad a2 er2).err = er2 from rfl, show (er2 == 0) = true from h2] at hk
          conv => whnf
          exact hr _ _ rfl hk
        · rw [show (RR.bad a2 er2).err = er2 from rfl, show (er2 == 0) = false from h2] at hk
          conv => whnf
          exact hr _ _ rfl hk
end Go.Proofs.YtbcngegcpdppfaaGreatDoor

namespace Go.Proofs.YtbcngegcpdppfaaGreatDoor
open Go.AE Go.Ru
set_option maxRecDepth 100000
set_option pp.maxSteps 3000

theorem sh1 : exprRS [49, 43, 50, 42, 120] = .ok [⟨20, 1, 0, [], []⟩, ⟨20, 2, 2, [], []⟩, ⟨22, 0, 4, [120], []⟩, ⟨27, 0, 3, [42], [1, 2]⟩, ⟨27, 0, 1, [43], [0, 3]⟩] 4 0 := by
  kernel_rfl
theorem sh2 : exprRS [40, 49] = .bad 2 2 := by kernel_rfl
theorem sh3 : exprRS [49, 32, 50] = .bad 2 2 := by kernel_rfl
theorem sh4 : proS [112, 114, 111, 99, 32, 102, 40, 41, 32, 123, 32, 120, 32, 61, 32, 59, 32, 125] = .bad 15 2 := by kernel_rfl

def gS : AG := gput 9 (cTop proS) (gput 13 (cTop exprRS) g0)
theorem gS_ok : GOk Tryz.prog gS := gput_ok Program_ok (gput_ok Expr_ok g0_ok)
def cShown : AC := fun args K k => args = [] ∧ k (.ret (.p (.bool true))) K
theorem shown_ok : COk 8 cShown := by
  rintro args K k ⟨rfl, hk⟩
  refine frame0P gS_ok 19 rfl fun Q hr => ?_
  conv => whnf
  refine ⟨[49, 43, 50, 42, 120], rfl, by decide, ?_⟩
  rw [sh1]
  conv => whnf
  refine ⟨[40, 49], rfl, by decide, ?_⟩
  rw [sh2]
  conv => whnf
  refine ⟨[49, 32, 50], rfl, by decide, ?_⟩
  rw [sh3]
  conv => whnf
  refine ⟨_, rfl, by decide, ?_⟩
  rw [sh4]
  conv => whnf
  repeat
    (refine ⟨⟨by decide, by decide, rfl⟩, ?_⟩
     conv => whnf)
  exact hr _ _ rfl hk
end Go.Proofs.YtbcngegcpdppfaaGreatDoor

namespace Go.Proofs.YtbcngegcpdppfaaGreatDoor
open Go.AE Go.Ru
set_option maxRecDepth 100000
set_option pp.maxSteps 3000

/-- where tokens begin, the one at the end too -/
def atsS (e : Int) (ts : List Tok) : List Int := ts.map (·.at_) ++ [e]
def toldS (e : Int) (ts : List Tok) (n er : Int) : Bool := if er == 0 || er == 8 then n == 0 else (atsS e ts).any (· == n) || (er == 6 && n == 0)
theorem encs_ats (e : Int) (ts : List Tok) (i : Nat) : ∃ kk nn tx, encs e ts i = [.int .i64 kk, .int .i64 nn, .int .i64 ((atsS e ts).getD i e), .str tx] := by
  induction ts generalizing i with
  | nil => exact ⟨5, 0, [], by cases i <;> simp [encs, atsS]⟩
  | cons t r ih =>
    cases i with
    | zero => exact ⟨_, _, _, rfl⟩
    | succ i =>
      obtain ⟨a, b, c, h⟩ := ih i
      exact ⟨a, b, c, by simpa [encs, atsS] using h⟩
theorem ats_len (e : Int) (ts : List Tok) : (atsS e ts).length = ts.length + 1 := by simp [atsS]

def cTold : AC := fun args K k => ∃ (e : Int) (ts : List Tok) (n er : Int), args = [.p (.sl 4 (ts.length + 1) (encs e ts)), .p (.int .i64 n), .p (.int .i64 er)] ∧ ts.length < 1000000 ∧ k (.ret (.p (.bool (toldS e ts n er)))) K
theorem told_ok : COk 15 cTold := by
  rintro args K k ⟨e, ts, n, er, rfl, hts, hk⟩
  refine frame0P g0_ok 19 rfl fun Q hr => ?_
  unfold toldS at hk
  have hret : (er == 0 || er == 8) = true → k (.ret (.p (.bool (n == 0)))) K := fun h => by rwa [if_pos h] at hk
  have hgo : (er == 0 || er == 8) = false → k (.ret (.p (.bool ((atsS e ts).any (· == n) || (er == 6 && n == 0))))) K := fun h => by rwa [if_neg (by simp [h])] at hk
  conv => whnf
  refine two_intro (fun h => ?_) (fun h => ?_)
  · conv => whnf
    exact hr _ _ rfl (hret (by rw [h]; rfl))
  conv => whnf
  refine two_intro (fun h2 => ?_) (fun h2 => ?_)
  · conv => whnf
    exact hr _ _ rfl (hret (by rw [h2]; simp))
  have hgo := hgo (by rw [h, h2]; rfl)
  clear hk hret
  conv => whnf
  refine loop_by (ι := Nat) (fun i => ⟨[(0, .p (.sl 4 (ts.length + 1) (encs e ts))), (1, .p (.int .i64 n)), (2, .p (.int .i64 er)), (7, .p (.int .i64 i))], []⟩)
    (fun i => i ≤ ts.length + 1 ∧ ∀ j, j < i → (atsS e ts).getD j e ≠ n) (fun i => ts.length + 1 - i) 0 ⟨AV.le_refl _, AV.le_refl _, AV.le_refl _, AV.le_refl _, trivial⟩ (lesK.refl _) ⟨Nat.zero_le _, fun j hj => by omega⟩ ?_
  intro Y hle i ⟨hi, hno⟩ ih
  have hd1 : decide ((i : Int) < ((ts.length + 1 : Nat) : Int)) = decide (i < ts.length + 1) := by
    by_cases h : i < ts.length + 1
    · rw [decide_eq_true h, decide_eq_true (by omega)]
    · rw [decide_eq_false h, decide_eq_false (by omega)]
  conv => whnf
  refine two_intro (fun h3 => ?_) (fun h3 => ?_)
  · have h3 := of_decide_eq_true (hd1 ▸ h3)
    obtain ⟨kk, nn, tx, henc⟩ := encs_ats e ts i
    conv => whnf
    refine ⟨⟨by omega, by omega, rfl⟩, ?_⟩
    rw [show encs e ts (Int.toNat (i : Int)) = _ from henc]
    conv => whnf
    refine two_intro (fun h4 => ?_) (fun h4 => ?_)
    · have h4 : ((atsS e ts).getD i e == n) = true := h4
      have hany : (atsS e ts).any (· == n) = true := by
        rw [List.any_eq_true]
        have hlt : i < (atsS e ts).length := by rw [ats_len]; exact h3
        exact ⟨(atsS e ts)[i], List.getElem_mem hlt, by rw [List.getD_eq_getElem?_getD, List.getElem?_eq_getElem hlt] at h4; exact h4⟩
      rw [hany] at hgo
      conv => whnf
      exact hr _ _ rfl hgo
    · have h4 : ((atsS e ts).getD i e == n) = false := h4
      conv => whnf
      refine hle _ _ (Le.cutEnv 0 rfl rfl trivial ?e1 ?e2) (ih (i + 1) (by omega) ⟨by omega, fun j hj => ?_⟩)
      case e1 =>
        (conv => whnf)
        refine ⟨AV.le_refl _, ?_⟩
        (conv => whnf)
        refine ⟨AV.le_refl _, ?_⟩
        (conv => whnf)
        refine ⟨AV.le_refl _, ?_⟩
        (conv => whnf)
        refine ⟨AV.le_of_eq (congrArg (fun x => AV.p (.int .i64 x)) (show IntKind.i64.wrap ((i : Int) + 1) = ((i + 1 : Nat) : Int) by rw [w64 ⟨by omega, by omega⟩]; omega)), ?_⟩
        (conv => whnf)
        exact trivial
      case e2 =>
        (conv => whnf)
        exact trivial
      · by_cases e' : j = i
        · subst e'; exact beq_eq_false_iff_ne.1 h4
        · exact hno j (by omega)
  · have h3 := of_decide_eq_false (hd1 ▸ h3)
    have hany : (atsS e ts).any (· == n) = false := by
      rw [List.any_eq_false]
      intro x hx
      obtain ⟨j, hj, rfl⟩ := List.getElem_of_mem hx
      have := hno j (by rw [ats_len] at hj; omega)
      rw [List.getD_eq_getElem?_getD, List.getElem?_eq_getElem hj] at this
      simpa using this
    rw [hany, Bool.false_or] at hgo
    conv => whnf
    refine two_intro (fun h4 => ?_) (fun h4 => ?_)
    · rw [show (er == 6) = true from h4, Bool.true_and] at hgo
      conv => whnf
      exact hr _ _ rfl hgo
    · rw [show (er == 6) = false from h4, Bool.false_and] at hgo
      conv => whnf
      exact hr _ _ rfl hgo

def gPl : AG := gput 8 cShown (gput 12 cCutT (gput 9 (cTop proS) (gput 13 (cTop exprRS) (gput 14 cNest (gput 15 cTold g0)))))
theorem gPl_ok : GOk Tryz.prog gPl := gput_ok shown_ok (gput_ok cutT_ok (gput_ok Program_ok (gput_ok Expr_ok (gput_ok Nest_ok (gput_ok told_ok g0_ok)))))
/-- the plain law -/
def PlacesLaw (s : Bs) : Prop := ∀ ts, s.length ≤ 20000 → cutT s = .ok ts → ((proS s).err == 0 && (exprRS s).err == 0) = false ∧ toldS s.length ts (proS s).place (proS s).err = true ∧ toldS s.length ts (exprRS s).place (exprRS s).err = true
def cPlaces : AC := fun args K k => ∃ s, args = [.p (.str s)] ∧ PlacesLaw s ∧ k (.ret (.p (.bool true))) K
theorem places_ok : COk 4 cPlaces := by
  rintro args K k ⟨s, rfl, hlaw, hk⟩
  refine frame0P gPl_ok 19 rfl fun Q hr => ?_
  conv => whnf
  refine ⟨rfl, ?_⟩
  have hd1 : decide ((s.length : Int) > 1500) = decide (1500 < s.length) := by
    by_cases h : 1500 < s.length
    · rw [decide_eq_true h, decide_eq_true (by omega)]
    · rw [decide_eq_false h, decide_eq_false (by omega)]
  conv => whnf
  refine two_intro (fun h => ?_) (fun h => ?_)
  · conv => whnf
    exact hr _ _ rfl hk
  have h := of_decide_eq_false (hd1 ▸ h)
  conv => whnf
  refine ⟨s, rfl, by omega, fun h2 => by omega, fun _ => ?_⟩
  cases hc : cutT s with
  | bad a =>
    have hp : proS s = .bad a 2 := by
      show readS programS s = _
      unfold readS; rw [if_neg (by omega), hc]
    have hx : exprRS s = .bad a 2 := by
      show readS _ s = _
      unfold readS; rw [if_neg (by omega), hc]
    have hn : nestS s = -1 := by unfold nestS; rw [hp, hx]; rfl
    conv => whnf
    refine ⟨s, rfl, by omega, ?_⟩
    rw [hp]
    conv => whnf
    refine ⟨s, rfl, by omega, ?_⟩
    rw [hx]
    have haa : ((a : Int) == (a : Int)) = true := by simp
    conv => whnf
    refine two_true haa ?_
    conv => whnf
    refine two_true haa ?_
    conv => whnf
    refine ⟨s, rfl, by omega, ?_⟩
    rw [hn]
    conv => whnf
    exact hr _ _ rfl hk
  | ok ts =>
    obtain ⟨h1, h2, h3⟩ := hlaw ts (by omega) hc
    have hln : ts.length ≤ s.length := cutS_len _ _ _ _ hc
    conv => whnf
    refine ⟨s, rfl, by omega, ?_⟩
    cases hp : proS s with
    | ok ns root mo =>
      rw [hp] at h1 h2
      conv => whnf
      refine ⟨s, rfl, by omega, ?_⟩
      cases hx : exprRS s with
      | ok ns2 root2 mo2 => rw [hx] at h1; simp [RR.err] at h1
      | bad a2 er2 =>
        rw [hx] at h1 h3
        have he2 : (er2 == 0) = false := by simpa [RR.err] using h1
        conv => whnf
        refine two_false he2 ?_
        conv => whnf
        refine ⟨s.length, ts, _, _, rfl, by omega, ?_⟩
        rw [show toldS s.length ts 0 0 = true from h2]
        conv => whnf
        refine ⟨s.length, ts, _, _, rfl, by omega, ?_⟩
        rw [show toldS s.length ts a2 er2 = true from h3]
        conv => whnf
        exact hr _ _ rfl hk
    | bad a1 er1 =>
      rw [hp] at h1 h2
      conv => whnf
      refine ⟨s, rfl, by omega, ?_⟩
      cases hx : exprRS s with
      | ok ns2 root2 mo2 =>
        rw [hx] at h1 h3
        have he1 : (er1 == 0) = false := by simpa [RR.err] using h1
        conv => whnf
        refine two_false he1 ?_
        conv => whnf
        refine ⟨s.length, ts, _, _, rfl, by omega, ?_⟩
        rw [show toldS s.length ts a1 er1 = true from h2]
        conv => whnf
        refine ⟨s.length, ts, _, _, rfl, by omega, ?_⟩
        rw [show toldS s.length ts 0 0 = true from h3]
        conv => whnf
        exact hr _ _ rfl hk
      | bad a2 er2 =>
        rw [hx] at h1 h3
        conv => whnf
        refine two_intro (fun he1 => ?_) (fun he1 => ?_)
        · have he1 : (er1 == 0) = true := he1
          have he2 : (er2 == 0) = false := by simpa [RR.err, beq_iff_eq.1 he1] using h1
          conv => whnf
          refine two_false he2 ?_
          conv => whnf
          refine ⟨s.length, ts, _, _, rfl, by omega, ?_⟩
          rw [show toldS s.length ts a1 er1 = true from h2]
          conv => whnf
          refine ⟨s.length, ts, _, _, rfl, by omega, ?_⟩
          rw [show toldS s.length ts a2 er2 = true from h3]
          conv => whnf
          exact hr _ _ rfl hk
        · conv => whnf
          refine ⟨s.length, ts, _, _, rfl, by omega, ?_⟩
          rw [show toldS s.length ts a1 er1 = true from h2]
          conv => whnf
          refine ⟨s.length, ts, _, _, rfl, by omega, ?_⟩
          rw [show toldS s.length ts a2 er2 = true from h3]
          conv => whnf
          exact hr _ _ rfl hk
end Go.Proofs.YtbcngegcpdppfaaGreatDoor

namespace Go.Ru
open Go

def signsT : Bs := [32, 43, 32, 45, 32, 42, 32, 47, 32, 37, 32, 61, 61, 32, 33, 61, 32, 60, 32, 60, 61, 32, 62, 32, 62, 61, 32, 38, 38, 32, 124, 124, 32]
def signedP (l : Bs) : Bool := !(l == []) && (decide (Lib.indexByte l 32 < 0) && Lib.contains signsT ([32] ++ l ++ [32]))
def textS (k : Int) (l : Bs) : Bool :=
  if k = 1 ∨ k = 6 ∨ k = 10 ∨ k = 11 ∨ k = 12 ∨ k = 14 ∨ k = 15 ∨ k = 20 ∨ k = 21 then l == []
  else if k = 13 then l == [] || identP l
  else if k = 26 then l == [45] || l == [33]
  else if k = 27 then signedP l
  else identP l
def numberS (k n : Int) : Bool :=
  if k = 2 ∨ k = 4 ∨ k = 5 then decide (n ≥ 1) && decide (n ≤ 4)
  else if k = 3 then decide (n ≥ 0) && decide (n ≤ 4)
  else if k = 20 then decide (n ≥ 0)
  else if k = 21 then n == 0 || n == 1
  else n == 0
def stB (k : Int) : Bool := decide (k ≥ 7) && decide (k ≤ 17)
def exB (k : Int) : Bool := decide (k ≥ 20) && decide (k ≤ 27)
def kindsS (ns : List Nd) (n : Nd) : List Int := n.kids.map fun q => (ns.getD q.toNat default).k
/-- how many at the head are so, at most that many -/
def cntS (p : Int → Bool) : Nat → List Int → Nat
  | 0, _ => 0
  | _ + 1, [] => 0
  | m + 1, a :: l => match p a with
    | true => cntS p m l + 1
    | false => 0
theorem cnt_t {p : Int → Bool} {m : Nat} {a : Int} {l : List Int} (h : p a = true) : cntS p (m + 1) (a :: l) = cntS p m l + 1 := by simp [cntS, h]
theorem cnt_f {p : Int → Bool} {m : Nat} {a : Int} {l : List Int} (h : p a = false) : cntS p (m + 1) (a :: l) = 0 := by simp [cntS, h]
/-- has a node the kids that it must have? of their kinds -/
def kidsOkS (k : Int) (l : List Int) : Bool :=
  let is (c : Int) : Int → Bool := fun k => k == c
  let a (p : Int → Bool) (m : Nat) (i : Nat) : Nat := cntS p m (l.drop i)
  let e (i : Nat) : Bool := ((i : Int) == (l.length : Int))
  if k = 1 then let i := a (is 2) 4000 0; let i := i + a (is 3) 4000 i; e i
  else if k = 3 then let i := a (is 4) 4000 0; let i := i + a (is 5) 4000 i; let c := a (is 6) 1 i; c == 1 && e (i + c)
  else if k = 6 then e (a stB 4000 0)
  else if k = 7 ∨ k = 17 ∨ k = 15 ∨ k = 23 ∨ k = 26 then let c := a exB 1 0; c == 1 && e c
  else if k = 8 ∨ k = 27 then let c := a exB 2 0; c == 2 && e c
  else if k = 9 then let c := a (is 18) 1 0; c == 1 && e c
  else if k = 10 then let c := a (is 18) 1 0; c == 1 && (let d := a exB 1 c; d == 1 && e (c + d))
  else if k = 11 then let c := a exB 1 0; c == 1 && (let d := a (is 6) 2 c; d == 2 && e (c + d))
  else if k = 12 then let c := a exB 1 0; c == 1 && (let d := a (is 6) 1 c; d == 1 && e (c + d))
  else if k = 13 then let c := a (is 19) 1 0; let d := a exB 4000 c; c == 1 && e (c + d)
  else if k = 14 then e (a exB 1 0)
  else if k = 16 then let c := a (is 6) 2 0; c == 2 && e c
  else e 0
/-- has a node its shape? -/
def nodeOkS (ns : List Nd) (n : Nd) : Bool := decide (1 ≤ n.k) && decide (n.k ≤ 27) && textS n.k n.tx && numberS n.k n.n && kidsOkS n.k (kindsS ns n)
def rightS (ns : List Nd) (root : Int) : Bool := soundS ns root && decide (depthS ns root ≤ 40) && ((ns.getD root.toNat default).k == 1) && ns.all (nodeOkS ns)
theorem kidsS_many {out : List Nat} (ho : szOk out) : ∀ (l : List Int) (last : Int) (size c : Nat), last < out.length → kidsS out l last size = some c → size + l.length ≤ c := by
  intro l
  induction l with
  | nil => intro last size c _ h; simp only [kidsS, Option.some.injEq] at h; simp; omega
  | cons k r ih =>
    intro last size c h1 h
    simp only [kidsS] at h
    split at h
    case h_2 => simp at h
    rename_i hb
    simp only [Bool.and_eq_true, beq_iff_eq, decide_eq_true_eq] at hb
    obtain ⟨rfl, hk⟩ := hb
    have := ho k.toNat (by omega)
    have := ih _ _ c (by omega) h
    simp only [List.length_cons]; omega
theorem sizesS_many : ∀ (r : List Nd) (out l : List Nat), szOk out → sizesS r out = some l → ∀ j, j < r.length → (r.getD j default).kids.length ≤ out.length + j := by
  intro r
  induction r with
  | nil => intro out l ho h j hj; simp at hj
  | cons n r ih =>
    intro out l ho h j hj
    simp only [sizesS] at h
    split at h
    case h_2 => simp at h
    rename_i c hc
    have hinv := kidsS_inv ho _ _ _ c (by omega) (by omega) (by omega) hc
    have hm := kidsS_many ho _ _ _ c (by omega) hc
    cases j with
    | zero => simp at hm ⊢; omega
    | succ j =>
      have := ih _ _ (szOk_snoc ho hinv) h j (by simpa using hj)
      simp at this ⊢; omega
theorem soundS_many {ns : List Nd} {root : Int} (h : soundS ns root = true) : ∀ j, j < ns.length → (ns.getD j default).kids.length ≤ j := by
  simp only [soundS, Bool.and_eq_true] at h
  obtain ⟨_, h4⟩ := h
  split at h4
  case h_2 => simp at h4
  rename_i l hl
  intro j hj
  have := sizesS_many ns [] l (fun i hi => by simp at hi) hl j hj
  simpa using this
end Go.Ru

namespace Go.AE

theorem two_dec {p : Prop} [Decidable p] {x y : Prop} (h : p → x) (h' : ¬p → y) : two (decide p) x y :=
  two_intro (fun e => h (of_decide_eq_true e)) (fun e => h' (of_decide_eq_false e))
theorem two_eq {α : Type} [BEq α] [LawfulBEq α] {a b : α} {x y : Prop} (h : a = b → x) (h' : a ≠ b → y) : two (a == b) x y :=
  two_intro (fun e => h (beq_iff_eq.1 e)) (fun e => h' (beq_eq_false_iff_ne.1 e))
theorem two_ne {α : Type} [BEq α] [LawfulBEq α] {a b : α} {x y : Prop} (h : a ≠ b → x) (h' : a = b → y) : two (a != b) x y :=
  two_intro (fun e => h (by simpa using e)) (fun e => h' (by simpa using e))
theorem two_not {b : Bool} {x y : Prop} (h : b = false → x) (h' : b = true → y) : two (!b) x y :=
  two_intro (fun e => h (by simpa using e)) (fun e => h' (by simpa using e))
theorem ret_eq {k : AO → List ABlk → Prop} {K : List ABlk} {a b : AV} (hk : k (.ret a) K) (h : a = b) : k (.ret b) K := h ▸ hk
end Go.AE

namespace Go.Proofs.YtbcngegcpdppfaaGreatDoor
open Go.AE Go.Ru
set_option maxRecDepth 100000
set_option pp.maxSteps 4000
set_option maxHeartbeats 1000000

def nodeV (n : Nd) : AV := .agg [.p (.int .i64 n.k), .p (.int .i64 n.n), .p (.int .i64 n.at_), .p (.str n.tx), .p (.sl 1 n.kids.length (kidF n.kids))]
def gN : AG := gput 63 cIdentT gL
theorem gN_ok : GOk Tryz.prog gN := gput_ok identT_ok gL_ok
def cNumber : AC := fun args K k => ∃ n, args = [nodeV n] ∧ k (.ret (.p (.bool (numberS n.k n.n)))) K
theorem number_ok : COk 41 cNumber := by
  rintro args K k ⟨n, rfl, hk⟩
  refine frame0P gN_ok 19 rfl fun Q hr => ?_
  conv => whnf
  repeat' (first | (refine two_eq (fun h => ?_) (fun h => ?_) <;> (conv => whnf)) | (refine two_ne (fun h => ?_) (fun h => ?_) <;> (conv => whnf)) | (refine two_not (fun h => ?_) (fun h => ?_) <;> (conv => whnf)) | (refine two_dec (fun h => ?_) (fun h => ?_) <;> (conv => whnf)) | (refine two_intro (fun h => ?_) (fun h => ?_) <;> (conv => whnf)) | (refine Chk.mk ?_ ?_; (focus (((repeat' (refine And.intro ?_ ?_)) <;> (first | omega | rfl | (simp only [List.length_append, List.length_cons, List.length_nil]; omega) | fail)); done)); (conv => whnf)) | (refine And.intro ?_ ?_; (focus (((repeat' (refine And.intro ?_ ?_)) <;> (first | omega | rfl | (simp only [List.length_append, List.length_cons, List.length_nil]; omega) | fail)); done)); (conv => whnf)) | (refine Exists.intro _ (And.intro rfl ?_)) | (refine Exists.intro _ (Exists.intro _ (And.intro rfl ?_))) | (refine Exists.intro _ (Exists.intro _ (Exists.intro _ (And.intro rfl ?_)))) | fail)
  all_goals exact hr _ _ rfl (ret_eq hk (by simp [numberS, *]))
def cText : AC := fun args K k => ∃ n, args = [nodeV n] ∧ n.tx.length < 1000000 ∧ k (.ret (.p (.bool (textS n.k n.tx)))) K
theorem text_ok : COk 40 cText := by
  rintro args K k ⟨n, rfl, hl, hk⟩
  refine frame0P gN_ok 19 rfl fun Q hr => ?_
  conv => whnf
  repeat' (first | (refine two_eq (fun h => ?_) (fun h => ?_) <;> (conv => whnf)) | (refine two_ne (fun h => ?_) (fun h => ?_) <;> (conv => whnf)) | (refine two_not (fun h => ?_) (fun h => ?_) <;> (conv => whnf)) | (refine two_dec (fun h => ?_) (fun h => ?_) <;> (conv => whnf)) | (refine two_intro (fun h => ?_) (fun h => ?_) <;> (conv => whnf)) | (refine Chk.mk ?_ ?_; (focus (((repeat' (refine And.intro ?_ ?_)) <;> (first | omega | rfl | (simp only [List.length_append, List.length_cons, List.length_nil]; omega) | fail)); done)); (conv => whnf)) | (refine And.intro ?_ ?_; (focus (((repeat' (refine And.intro ?_ ?_)) <;> (first | omega | rfl | (simp only [List.length_append, List.length_cons, List.length_nil]; omega) | fail)); done)); (conv => whnf)) | (refine Exists.intro _ (And.intro rfl ?_)) | (refine Exists.intro _ (Exists.intro _ (And.intro rfl ?_))) | (refine Exists.intro _ (Exists.intro _ (Exists.intro _ (And.intro rfl ?_)))) | fail)
  all_goals exact hr _ _ rfl (ret_eq hk (by clear hr hk; (first | (simp_all [textS, signedP, signsT, show (Int.toNat 32).toUInt8 = 32 from rfl]; done) | (simp_all [textS, signedP, signsT, show (Int.toNat 32).toUInt8 = 32 from rfl] <;> (try intros) <;> omega))))

/-- a call on some blocks, whatever lies behind them; what is answered, in weaker words -/
theorem frameG {G : AG} (hG : GOk Tryz.prog G) (n : Nat) {f : FuncId} {args : List AV} {K0 X : List ABlk} {k : AO → List ABlk → Prop} (hcl : AV.cls K0.length args = true) (hK : clK K0.length K0)
    (h : ∀ Q : AO → List ABlk → Prop, (∀ v K' v' K1, v'.cl K0.length = true → K1.length = K0.length → clK K0.length K1 → v.le v' → lesK (takeN K' K0.length) K1 → k (.ret v') (K1 ++ X) → Q (.ret v) K') → acall1 T0 G n f args K0 Q) :
    ACalls Tryz.prog f args (K0 ++ X) k := by
  refine (ACalls.frame (K0 := K0) (k := fun ao K1 => k ao (K1 ++ X)) hcl (fun r _ => clK.hp hK r)
    (ACalls.post (k := fun ao K1 => ∃ v K' v' K2, ao = .ret v ∧ K1 = K' ∧ v'.cl K0.length = true ∧ K2.length = K0.length ∧ clK K0.length K2 ∧ v.le v' ∧ lesK (takeN K' K0.length) K2 ∧ k (.ret v') (K2 ++ X)) (call_ok hG n f args _ _ (h _ ?_)) ?_)).mono ?_
  · intro v K' v' K1 h1 h2 h3 h4 h5 h6
    exact ⟨v, K', v', K1, rfl, rfl, h1, h2, h3, h4, h5, h6⟩
  · rintro _ K' ⟨v, _, v', K2, rfl, rfl, h1, h2, h3, h4, h5, h6⟩
    have e : ∀ (K2 L : List ABlk), takeN (K2 ++ L) K2.length = K2 := fun K2 L => by
      induction K2 with
      | nil => exact takeN_zero _
      | cons a l ih => simp only [List.cons_append, List.length_cons, takeN]; rw [ih]
    have e := e K2 (dropN K' K0.length)
    rw [h2] at e
    refine ⟨v', K2 ++ dropN K' K0.length, Wk1.le h4 h5.head, h1, ?_, fun r hr => ?_, ?_⟩
    · simp [h2]
    · rw [hp_append, if_pos (by omega)]; exact clK.hp h3 r
    · show k (.ret v') (takeN _ K0.length ++ X)
      rw [e]; exact h6
  · rintro ao K ⟨K1, rfl, h⟩; exact h

def kidsK (ns : List Nd) (root : Int) (n : Nd) (i : Int) : List ABlk := [.box 25 [.p (.sl 5 ns.length (nodeF ns)), .p (.int .i64 root)], .box 41 [.p (.int .i64 n.k), .p (.int .i64 n.n), .p (.int .i64 n.at_), .p (.str n.tx), .p (.sl 1 n.kids.length (kidF n.kids))], .box 3 [intV i]]
def ibox (c : Int) : ABlk := .box 3 [intV c]
/-- what is asked of kinds -/
def SoV (so : AV) (p : Int → Bool) (X : List ABlk) : Prop := (so = .p (.fn 73) ∧ p = stB ∧ (X = [] ∨ ∃ a, X = [ibox a])) ∨ (so = .p (.fn 74) ∧ p = exB ∧ (X = [] ∨ ∃ a, X = [ibox a])) ∨
  ∃ c, p = (fun k => k == c) ∧ ((so = .fn 71 [] [.ptr 3 0 1 0 0] ∧ X = [ibox c]) ∨ (∃ a, so = .fn 71 [] [.ptr 4 0 1 0 0] ∧ X = [ibox a, ibox c]) ∨ ∃ a b, so = .fn 71 [] [.ptr 5 0 1 0 0] ∧ X = [ibox a, ibox b, ibox c])
def cTakeK : AC := fun args K k => ∃ (ns : List Nd) (root : Int) (n : Nd) (i m : Nat) (ii mm : Int) (so : AV) (p : Int → Bool) (X : List ABlk), args = [.p (.int .i64 mm), so, .ptr 2 0 1 0 0, .ptr 1 0 1 0 0, .ptr 0 0 1 0 0] ∧ K = kidsK ns root n ii ++ X ∧ ii = i ∧ mm = m ∧ m ≤ 4000 ∧ n.kids.length ≤ 4000 ∧
  (∀ q ∈ n.kids, 0 ≤ q ∧ q < ns.length) ∧ SoV so p X ∧ k (.ret (intV (cntS p m ((kindsS ns n).drop i)))) (kidsK ns root n ((i + cntS p m ((kindsS ns n).drop i) : Nat) : Int) ++ X)
theorem take_ok' : COk 69 cTakeK := by
  rintro args K k ⟨ns, root, n, i, m, ii, mm, so, p, X, rfl, rfl, rfl, rfl, hm, hn, hq, hso, hk⟩
  rcases hso with ⟨rfl, rfl, rfl | ⟨a, rfl⟩⟩ | ⟨rfl, rfl, rfl | ⟨a, rfl⟩⟩ | ⟨c, rfl, ⟨rfl, rfl⟩ | ⟨a, rfl, rfl⟩ | ⟨a, b, rfl, rfl⟩⟩
  · skip
    refine frameG (K0 := kidsK ns root n i) (X := []) gN_ok 19 rfl (by repeat' (first | exact trivial | exact rfl | (refine And.intro ?_ ?_) | fail)) fun Q hr => ?_
    conv => whnf
    refine loop_up (ι := Nat) [0, 1, 2, 3, 4, 8] (fun _ => []) (fun j => [(2, .box 3 [.p (.int .i64 ((i + j : Nat) : Int))])])
      (fun j => j ≤ m ∧ (j = 0 ∨ i + j ≤ n.kids.length) ∧ cntS stB m ((kindsS ns n).drop i) = j + cntS stB (m - j) ((kindsS ns n).drop (i + j))) (fun j => n.kids.length - (i + j)) 0 trivial ⟨upLe1 rfl (ABlk.le_refl _), trivial⟩ ⟨Nat.zero_le _, .inl rfl, by simp⟩ ?_
    rintro Y hle j ⟨hj, hij, he⟩ ih
    have hw : IntKind.i64.wrap (((i + j : Nat) : Int) - (i : Int)) = j := by rw [w64 ⟨by omega, by omega⟩]; omega
    have hw1 : i + j < n.kids.length → IntKind.i64.wrap (((i + j : Nat) : Int) + 1) = ((i + (j + 1) : Nat) : Int) := fun h => by rw [w64 ⟨by omega, by omega⟩]; omega
    have hg : i + j < n.kids.length → 0 ≤ n.kids.getD ((i + j : Nat) : Int).toNat 0 ∧ n.kids.getD ((i + j : Nat) : Int).toNat 0 < ns.length := fun h => hq _ (by rw [Int.toNat_natCast, List.getD_eq_getElem?_getD, List.getElem?_eq_getElem h]; exact List.getElem_mem h)
    have hkd : i + j < n.kids.length → (kindsS ns n).drop (i + j) = (ns.getD (n.kids.getD ((i + j : Nat) : Int).toNat 0).toNat default).k :: (kindsS ns n).drop (i + (j + 1)) := fun h => by
      have h2 : i + j < (kindsS ns n).length := by simpa [kindsS] using h
      have e : (kindsS ns n)[i + j] = (ns.getD (n.kids.getD (i + j) 0).toNat default).k := by simp [kindsS, h]
      rw [List.drop_eq_getElem_cons h2, e, Int.toNat_natCast, Nat.add_assoc]
    have hend : n.kids.length ≤ i + j → (kindsS ns n).drop (i + j) = [] := fun h => List.drop_of_length_le (by simpa [kindsS] using h)
    conv => whnf
    repeat' (first | (refine two_eq (fun h => ?_) (fun h => ?_) <;> (conv => whnf)) | (refine two_ne (fun h => ?_) (fun h => ?_) <;> (conv => whnf)) | (refine two_not (fun h => ?_) (fun h => ?_) <;> (conv => whnf)) | (refine two_dec (fun h => ?_) (fun h => ?_) <;> (conv => whnf)) | (refine two_intro (fun h => ?_) (fun h => ?_) <;> (conv => whnf)) | (refine Chk.mk ?_ ?_; (focus (((repeat' (refine And.intro ?_ ?_)) <;> (first | omega | rfl | (simp only [List.length_append, List.length_cons, List.length_nil]; omega) | fail)); done)); (conv => whnf)) | (refine And.intro ?_ ?_; (focus (((repeat' (refine And.intro ?_ ?_)) <;> (first | omega | rfl | (simp only [List.length_append, List.length_cons, List.length_nil]; omega) | fail)); done)); (conv => whnf)) | (refine Exists.intro _ (And.intro rfl ?_)) | (refine Exists.intro _ (Exists.intro _ (And.intro rfl ?_))) | (refine Exists.intro _ (Exists.intro _ (Exists.intro _ (And.intro rfl ?_)))) | fail)
    all_goals first
    | (have h0 : cntS stB (m - j) ((kindsS ns n).drop (i + j)) = 0 := by
        first
        | (rw [hend (by omega)]; cases (m - j) <;> rfl)
        | (rw [show m - j = 0 by omega]; rfl)
        | (rw [hkd (by omega), show m - j = (m - j - 1) + 1 by omega, cnt_f]; (simp only [stB, exB, Bool.and_eq_true, Bool.and_eq_false_iff, decide_eq_true_eq, decide_eq_false_iff_not, beq_iff_eq, beq_eq_false_iff_ne]; omega))
        | fail
       have he : cntS stB m ((kindsS ns n).drop i) = j := by rw [he, h0]; rfl
       rw [he] at hk
       exact hr _ _ (intV (j : Int)) (kidsK ns root n ((i + j : Nat) : Int) ++ []) rfl rfl (by repeat' (first | exact trivial | exact rfl | (refine And.intro ?_ ?_) | fail)) (AV.le_of_eq (congrArg intV hw)) (lesK.refl _) (by rw [List.append_nil]; exact hk))
    | (have hw1 := hw1 (by omega)
       refine hle _ _ (Le.env ?_ ?_) (ih (j + 1) (by omega) ⟨by omega, by omega, ?_⟩)
       · skip
         repeat' (first | exact trivial | ((conv => whnf); first | exact trivial | (refine And.intro (AV.le_refl _) ?_) | (refine And.intro (ABlk.le_refl _) ?_) | (refine And.intro (AV.le_of_eq ?_) ?_; (focus ((first | fail | fail); done))) | (refine And.intro (ABlk.le_of_eq ?_) ?_; (focus ((first | fail | fail); done))) | fail) | fail)
       · skip
         repeat' (first | exact trivial | ((conv => whnf); first | exact trivial | (refine And.intro (AV.le_refl _) ?_) | (refine And.intro (ABlk.le_refl _) ?_) | (refine And.intro (AV.le_of_eq ?_) ?_; (focus ((first | exact congrArg (fun x => ABlk.box 3 [.p (.int .i64 x)]) hw1 | fail); done))) | (refine And.intro (ABlk.le_of_eq ?_) ?_; (focus ((first | exact congrArg (fun x => ABlk.box 3 [.p (.int .i64 x)]) hw1 | fail); done))) | fail) | fail)
       · rw [he, hkd (by omega), show m - j = (m - (j + 1)) + 1 by omega, cnt_t (by (simp only [stB, exB, Bool.and_eq_true, Bool.and_eq_false_iff, decide_eq_true_eq, decide_eq_false_iff_not, beq_iff_eq, beq_eq_false_iff_ne]; omega))]; omega)
    | fail
  · skip
    refine frameG (K0 := kidsK ns root n i ++ [ibox a]) (X := []) gN_ok 19 rfl (by repeat' (first | exact trivial | exact rfl | (refine And.intro ?_ ?_) | fail)) fun Q hr => ?_
    conv => whnf
    refine loop_up (ι := Nat) [0, 1, 2, 3, 4, 8] (fun _ => []) (fun j => [(2, .box 3 [.p (.int .i64 ((i + j : Nat) : Int))])])
      (fun j => j ≤ m ∧ (j = 0 ∨ i + j ≤ n.kids.length) ∧ cntS stB m ((kindsS ns n).drop i) = j + cntS stB (m - j) ((kindsS ns n).drop (i + j))) (fun j => n.kids.length - (i + j)) 0 trivial ⟨upLe1 rfl (ABlk.le_refl _), trivial⟩ ⟨Nat.zero_le _, .inl rfl, by simp⟩ ?_
    rintro Y hle j ⟨hj, hij, he⟩ ih
    have hw : IntKind.i64.wrap (((i + j : Nat) : Int) - (i : Int)) = j := by rw [w64 ⟨by omega, by omega⟩]; omega
    have hw1 : i + j < n.kids.length → IntKind.i64.wrap (((i + j : Nat) : Int) + 1) = ((i + (j + 1) : Nat) : Int) := fun h => by rw [w64 ⟨by omega, by omega⟩]; omega
    have hg : i + j < n.kids.length → 0 ≤ n.kids.getD ((i + j : Nat) : Int).toNat 0 ∧ n.kids.getD ((i + j : Nat) : Int).toNat 0 < ns.length := fun h => hq _ (by rw [Int.toNat_natCast, List.getD_eq_getElem?_getD, List.getElem?_eq_getElem h]; exact List.getElem_mem h)
    have hkd : i + j < n.kids.length → (kindsS ns n).drop (i + j) = (ns.getD (n.kids.getD ((i + j : Nat) : Int).toNat 0).toNat default).k :: (kindsS ns n).drop (i + (j + 1)) := fun h => by
      have h2 : i + j < (kindsS ns n).length := by simpa [kindsS] using h
      have e : (kindsS ns n)[i + j] = (ns.getD (n.kids.getD (i + j) 0).toNat default).k := by simp [kindsS, h]
      rw [List.drop_eq_getElem_cons h2, e, Int.toNat_natCast, Nat.add_assoc]
    have hend : n.kids.length ≤ i + j → (kindsS ns n).drop (i + j) = [] := fun h => List.drop_of_length_le (by simpa [kindsS] using h)
    conv => whnf
    repeat' (first | (refine two_eq (fun h => ?_) (fun h => ?_) <;> (conv => whnf)) | (refine two_ne (fun h => ?_) (fun h => ?_) <;> (conv => whnf)) | (refine two_not (fun h => ?_) (fun h => ?_) <;> (conv => whnf)) | (refine two_dec (fun h => ?_) (fun h => ?_) <;> (conv => whnf)) | (refine two_intro (fun h => ?_) (fun h => ?_) <;> (conv => whnf)) | (refine Chk.mk ?_ ?_; (focus (((repeat' (refine And.intro ?_ ?_)) <;> (first | omega | rfl | (simp only [List.length_append, List.length_cons, List.length_nil]; omega) | fail)); done)); (conv => whnf)) | (refine And.intro ?_ ?_; (focus (((repeat' (refine And.intro ?_ ?_)) <;> (first | omega | rfl | (simp only [List.length_append, List.length_cons, List.length_nil]; omega) | fail)); done)); (conv => whnf)) | (refine Exists.intro _ (And.intro rfl ?_)) | (refine Exists.intro _ (Exists.intro _ (And.intro rfl ?_))) | (refine Exists.intro _ (Exists.intro _ (Exists.intro _ (And.intro rfl ?_)))) | fail)
    all_goals first
    | (have h0 : cntS stB (m - j) ((kindsS ns n).drop (i + j)) = 0 := by
        first
        | (rw [hend (by omega)]; cases (m - j) <;> rfl)
        | (rw [show m - j = 0 by omega]; rfl)
        | (rw [hkd (by omega), show m - j = (m - j - 1) + 1 by omega, cnt_f]; (simp only [stB, exB, Bool.and_eq_true, Bool.and_eq_false_iff, decide_eq_true_eq, decide_eq_false_iff_not, beq_iff_eq, beq_eq_false_iff_ne]; omega))
        | fail
       have he : cntS stB m ((kindsS ns n).drop i) = j := by rw [he, h0]; rfl
       rw [he] at hk
       exact hr _ _ (intV (j : Int)) (kidsK ns root n ((i + j : Nat) : Int) ++ [ibox a]) rfl rfl (by repeat' (first | exact trivial | exact rfl | (refine And.intro ?_ ?_) | fail)) (AV.le_of_eq (congrArg intV hw)) (lesK.refl _) (by rw [List.append_nil]; exact hk))
    | (have hw1 := hw1 (by omega)
       refine hle _ _ (Le.env ?_ ?_) (ih (j + 1) (by omega) ⟨by omega, by omega, ?_⟩)
       · skip
         repeat' (first | exact trivial | ((conv => whnf); first | exact trivial | (refine And.intro (AV.le_refl _) ?_) | (refine And.intro (ABlk.le_refl _) ?_) | (refine And.intro (AV.le_of_eq ?_) ?_; (focus ((first | fail | fail); done))) | (refine And.intro (ABlk.le_of_eq ?_) ?_; (focus ((first | fail | fail); done))) | fail) | fail)
       · skip
         repeat' (first | exact trivial | ((conv => whnf); first | exact trivial | (refine And.intro (AV.le_refl _) ?_) | (refine And.intro (ABlk.le_refl _) ?_) | (refine And.intro (AV.le_of_eq ?_) ?_; (focus ((first | exact congrArg (fun x => ABlk.box 3 [.p (.int .i64 x)]) hw1 | fail); done))) | (refine And.intro (ABlk.le_of_eq ?_) ?_; (focus ((first | exact congrArg (fun x => ABlk.box 3 [.p (.int .i64 x)]) hw1 | fail); done))) | fail) | fail)
       · rw [he, hkd (by omega), show m - j = (m - (j + 1)) + 1 by omega, cnt_t (by (simp only [stB, exB, Bool.and_eq_true, Bool.and_eq_false_iff, decide_eq_true_eq, decide_eq_false_iff_not, beq_iff_eq, beq_eq_false_iff_ne]; omega))]; omega)
    | fail
  · skip
    refine frameG (K0 := kidsK ns root n i) (X := []) gN_ok 19 rfl (by repeat' (first | exact trivial | exact rfl | (refine And.intro ?_ ?_) | fail)) fun Q hr => ?_
    conv => whnf
    refine loop_up (ι := Nat) [0, 1, 2, 3, 4, 8] (fun _ => []) (fun j => [(2, .box 3 [.p (.int .i64 ((i + j : Nat) : Int))])])
      (fun j => j ≤ m ∧ (j = 0 ∨ i + j ≤ n.kids.length) ∧ cntS exB m ((kindsS ns n).drop i) = j + cntS exB (m - j) ((kindsS ns n).drop (i + j))) (fun j => n.kids.length - (i + j)) 0 trivial ⟨upLe1 rfl (ABlk.le_refl _), trivial⟩ ⟨Nat.zero_le _, .inl rfl, by simp⟩ ?_
    rintro Y hle j ⟨hj, hij, he⟩ ih
    have hw : IntKind.i64.wrap (((i + j : Nat) : Int) - (i : Int)) = j := by rw [w64 ⟨by omega, by omega⟩]; omega
    have hw1 : i + j < n.kids.length → IntKind.i64.wrap (((i + j : Nat) : Int) + 1) = ((i + (j + 1) : Nat) : Int) := fun h => by rw [w64 ⟨by omega, by omega⟩]; omega
    have hg : i + j < n.kids.length → 0 ≤ n.kids.getD ((i + j : Nat) : Int).toNat 0 ∧ n.kids.getD ((i + j : Nat) : Int).toNat 0 < ns.length := fun h => hq _ (by rw [Int.toNat_natCast, List.getD_eq_getElem?_getD, List.getElem?_eq_getElem h]; exact List.getElem_mem h)
    have hkd : i + j < n.kids.length → (kindsS ns n).drop (i + j) = (ns.getD (n.kids.getD ((i + j : Nat) : Int).toNat 0).toNat default).k :: (kindsS ns n).drop (i + (j + 1)) := fun h => by
      have h2 : i + j < (kindsS ns n).length := by simpa [kindsS] using h
      have e : (kindsS ns n)[i + j] = (ns.getD (n.kids.getD (i + j) 0).toNat default).k := by simp [kindsS, h]
      rw [List.drop_eq_getElem_cons h2, e, Int.toNat_natCast, Nat.add_assoc]
    have hend : n.kids.length ≤ i + j → (kindsS ns n).drop (i + j) = [] := fun h => List.drop_of_length_le (by simpa [kindsS] using h)
    conv => whnf
    repeat' (first | (refine two_eq (fun h => ?_) (fun h => ?_) <;> (conv => whnf)) | (refine two_ne (fun h => ?_) (fun h => ?_) <;> (conv => whnf)) | (refine two_not (fun h => ?_) (fun h => ?_) <;> (conv => whnf)) | (refine two_dec (fun h => ?_) (fun h => ?_) <;> (conv => whnf)) | (refine two_intro (fun h => ?_) (fun h => ?_) <;> (conv => whnf)) | (refine Chk.mk ?_ ?_; (focus (((repeat' (refine And.intro ?_ ?_)) <;> (first | omega | rfl | (simp only [List.length_append, List.length_cons, List.length_nil]; omega) | fail)); done)); (conv => whnf)) | (refine And.intro ?_ ?_; (focus (((repeat' (refine And.intro ?_ ?_)) <;> (first | omega | rfl | (simp only [List.length_append, List.length_cons, List.length_nil]; omega) | fail)); done)); (conv => whnf)) | (refine Exists.intro _ (And.intro rfl ?_)) | (refine Exists.intro _ (Exists.intro _ (And.intro rfl ?_))) | (refine Exists.intro _ (Exists.intro _ (Exists.intro _ (And.intro rfl ?_)))) | fail)
    all_goals first
    | (have h0 : cntS exB (m - j) ((kindsS ns n).drop (i + j)) = 0 := by
        first
        | (rw [hend (by omega)]; cases (m - j) <;> rfl)
        | (rw [show m - j = 0 by omega]; rfl)
        | (rw [hkd (by omega), show m - j = (m - j - 1) + 1 by omega, cnt_f]; (simp only [stB, exB, Bool.and_eq_true, Bool.and_eq_false_iff, decide_eq_true_eq, decide_eq_false_iff_not, beq_iff_eq, beq_eq_false_iff_ne]; omega))
        | fail
       have he : cntS exB m ((kindsS ns n).drop i) = j := by rw [he, h0]; rfl
       rw [he] at hk
       exact hr _ _ (intV (j : Int)) (kidsK ns root n ((i + j : Nat) : Int) ++ []) rfl rfl (by repeat' (first | exact trivial | exact rfl | (refine And.intro ?_ ?_) | fail)) (AV.le_of_eq (congrArg intV hw)) (lesK.refl _) (by rw [List.append_nil]; exact hk))
    | (have hw1 := hw1 (by omega)
       refine hle _ _ (Le.env ?_ ?_) (ih (j + 1) (by omega) ⟨by omega, by omega, ?_⟩)
       · skip
         repeat' (first | exact trivial | ((conv => whnf); first | exact trivial | (refine And.intro (AV.le_refl _) ?_) | (refine And.intro (ABlk.le_refl _) ?_) | (refine And.intro (AV.le_of_eq ?_) ?_; (focus ((first | fail | fail); done))) | (refine And.intro (ABlk.le_of_eq ?_) ?_; (focus ((first | fail | fail); done))) | fail) | fail)
       · skip
         repeat' (first | exact trivial | ((conv => whnf); first | exact trivial | (refine And.intro (AV.le_refl _) ?_) | (refine And.intro (ABlk.le_refl _) ?_) | (refine And.intro (AV.le_of_eq ?_) ?_; (focus ((first | exact congrArg (fun x => ABlk.box 3 [.p (.int .i64 x)]) hw1 | fail); done))) | (refine And.intro (ABlk.le_of_eq ?_) ?_; (focus ((first | exact congrArg (fun x => ABlk.box 3 [.p (.int .i64 x)]) hw1 | fail); done))) | fail) | fail)
       · rw [he, hkd (by omega), show m - j = (m - (j + 1)) + 1 by omega, cnt_t (by (simp only [stB, exB, Bool.and_eq_true, Bool.and_eq_false_iff, decide_eq_true_eq, decide_eq_false_iff_not, beq_iff_eq, beq_eq_false_iff_ne]; omega))]; omega)
    | fail
  · skip
    refine frameG (K0 := kidsK ns root n i ++ [ibox a]) (X := []) gN_ok 19 rfl (by repeat' (first | exact trivial | exact rfl | (refine And.intro ?_ ?_) | fail)) fun Q hr => ?_
    conv => whnf
    refine loop_up (ι := Nat) [0, 1, 2, 3, 4, 8] (fun _ => []) (fun j => [(2, .box 3 [.p (.int .i64 ((i + j : Nat) : Int))])])
      (fun j => j ≤ m ∧ (j = 0 ∨ i + j ≤ n.kids.length) ∧ cntS exB m ((kindsS ns n).drop i) = j + cntS exB (m - j) ((kindsS ns n).drop (i + j))) (fun j => n.kids.length - (i + j)) 0 trivial ⟨upLe1 rfl (ABlk.le_refl _), trivial⟩ ⟨Nat.zero_le _, .inl rfl, by simp⟩ ?_
    rintro Y hle j ⟨hj, hij, he⟩ ih
    have hw : IntKind.i64.wrap (((i + j : Nat) : Int) - (i : Int)) = j := by rw [w64 ⟨by omega, by omega⟩]; omega
    have hw1 : i + j < n.kids.length → IntKind.i64.wrap (((i + j : Nat) : Int) + 1) = ((i + (j + 1) : Nat) : Int) := fun h => by rw [w64 ⟨by omega, by omega⟩]; omega
    have hg : i + j < n.kids.length → 0 ≤ n.kids.getD ((i + j : Nat) : Int).toNat 0 ∧ n.kids.getD ((i + j : Nat) : Int).toNat 0 < ns.length := fun h => hq _ (by rw [Int.toNat_natCast, List.getD_eq_getElem?_getD, List.getElem?_eq_getElem h]; exact List.getElem_mem h)
    have hkd : i + j < n.kids.length → (kindsS ns n).drop (i + j) = (ns.getD (n.kids.getD ((i + j : Nat) : Int).toNat 0).toNat default).k :: (kindsS ns n).drop (i + (j + 1)) := fun h => by
      have h2 : i + j < (kindsS ns n).length := by simpa [kindsS] using h
      have e : (kindsS ns n)[i + j] = (ns.getD (n.kids.getD (i + j) 0).toNat default).k := by simp [kindsS, h]
      rw [List.drop_eq_getElem_cons h2, e, Int.toNat_natCast, Nat.add_assoc]
    have hend : n.kids.length ≤ i + j → (kindsS ns n).drop (i + j) = [] := fun h => List.drop_of_length_le (by simpa [kindsS] using h)
    conv => whnf
    repeat' (first | (refine two_eq (fun h => ?_) (fun h => ?_) <;> (conv => whnf)) | (refine two_ne (fun h => ?_) (fun h => ?_) <;> (conv => whnf)) | (refine two_not (fun h => ?_) (fun h => ?_) <;> (conv => whnf)) | (refine two_dec (fun h => ?_) (fun h => ?_) <;> (conv => whnf)) | (refine two_intro (fun h => ?_) (fun h => ?_) <;> (conv => whnf)) | (refine Chk.mk ?_ ?_; (focus (((repeat' (refine And.intro ?_ ?_)) <;> (first | omega | rfl | (simp only [List.length_append, List.length_cons, List.length_nil]; omega) | fail)); done)); (conv => whnf)) | (refine And.intro ?_ ?_; (focus (((repeat' (refine And.intro ?_ ?_)) <;> (first | omega | rfl | (simp only [List.length_append, List.length_cons, List.length_nil]; omega) | fail)); done)); (conv => whnf)) | (refine Exists.intro _ (And.intro rfl ?_)) | (refine Exists.intro _ (Exists.intro _ (And.intro rfl ?_))) | (refine Exists.intro _ (Exists.intro _ (Exists.intro _ (And.intro rfl ?_)))) | fail)
    all_goals first
    | (have h0 : cntS exB (m - j) ((kindsS ns n).drop (i + j)) = 0 := by
        first
        | (rw [hend (by omega)]; cases (m - j) <;> rfl)
        | (rw [show m - j = 0 by omega]; rfl)
        | (rw [hkd (by omega), show m - j = (m - j - 1) + 1 by omega, cnt_f]; (simp only [stB, exB, Bool.and_eq_true, Bool.and_eq_false_iff, decide_eq_true_eq, decide_eq_false_iff_not, beq_iff_eq, beq_eq_false_iff_ne]; omega))
        | fail
       have he : cntS exB m ((kindsS ns n).drop i) = j := by rw [he, h0]; rfl
       rw [he] at hk
       exact hr _ _ (intV (j : Int)) (kidsK ns root n ((i + j : Nat) : Int) ++ [ibox a]) rfl rfl (by repeat' (first | exact trivial | exact rfl | (refine And.intro ?_ ?_) | fail)) (AV.le_of_eq (congrArg intV hw)) (lesK.refl _) (by rw [List.append_nil]; exact hk))
    | (have hw1 := hw1 (by omega)
       refine hle _ _ (Le.env ?_ ?_) (ih (j + 1) (by omega) ⟨by omega, by omega, ?_⟩)
       · skip
         repeat' (first | exact trivial | ((conv => whnf); first | exact trivial | (refine And.intro (AV.le_refl _) ?_) | (refine And.intro (ABlk.le_refl _) ?_) | (refine And.intro (AV.le_of_eq ?_) ?_; (focus ((first | fail | fail); done))) | (refine And.intro (ABlk.le_of_eq ?_) ?_; (focus ((first | fail | fail); done))) | fail) | fail)
       · skip
         repeat' (first | exact trivial | ((conv => whnf); first | exact trivial | (refine And.intro (AV.le_refl _) ?_) | (refine And.intro (ABlk.le_refl _) ?_) | (refine And.intro (AV.le_of_eq ?_) ?_; (focus ((first | exact congrArg (fun x => ABlk.box 3 [.p (.int .i64 x)]) hw1 | fail); done))) | (refine And.intro (ABlk.le_of_eq ?_) ?_; (focus ((first | exact congrArg (fun x => ABlk.box 3 [.p (.int .i64 x)]) hw1 | fail); done))) | fail) | fail)
       · rw [he, hkd (by omega), show m - j = (m - (j + 1)) + 1 by omega, cnt_t (by (simp only [stB, exB, Bool.and_eq_true, Bool.and_eq_false_iff, decide_eq_true_eq, decide_eq_false_iff_not, beq_iff_eq, beq_eq_false_iff_ne]; omega))]; omega)
    | fail
  · skip
    refine frameG (K0 := kidsK ns root n i ++ [ibox c]) (X := []) gN_ok 19 rfl (by repeat' (first | exact trivial | exact rfl | (refine And.intro ?_ ?_) | fail)) fun Q hr => ?_
    conv => whnf
    refine loop_up (ι := Nat) [0, 1, 2, 3, 4, 8] (fun _ => []) (fun j => [(2, .box 3 [.p (.int .i64 ((i + j : Nat) : Int))])])
      (fun j => j ≤ m ∧ (j = 0 ∨ i + j ≤ n.kids.length) ∧ cntS (fun k => k == c) m ((kindsS ns n).drop i) = j + cntS (fun k => k == c) (m - j) ((kindsS ns n).drop (i + j))) (fun j => n.kids.length - (i + j)) 0 trivial ⟨upLe1 rfl (ABlk.le_refl _), trivial⟩ ⟨Nat.zero_le _, .inl rfl, by simp⟩ ?_
    rintro Y hle j ⟨hj, hij, he⟩ ih
    have hw : IntKind.i64.wrap (((i + j : Nat) : Int) - (i : Int)) = j := by rw [w64 ⟨by omega, by omega⟩]; omega
    have hw1 : i + j < n.kids.length → IntKind.i64.wrap (((i + j : Nat) : Int) + 1) = ((i + (j + 1) : Nat) : Int) := fun h => by rw [w64 ⟨by omega, by omega⟩]; omega
    have hg : i + j < n.kids.length → 0 ≤ n.kids.getD ((i + j : Nat) : Int).toNat 0 ∧ n.kids.getD ((i + j : Nat) : Int).toNat 0 < ns.length := fun h => hq _ (by rw [Int.toNat_natCast, List.getD_eq_getElem?_getD, List.getElem?_eq_getElem h]; exact List.getElem_mem h)
    have hkd : i + j < n.kids.length → (kindsS ns n).drop (i + j) = (ns.getD (n.kids.getD ((i + j : Nat) : Int).toNat 0).toNat default).k :: (kindsS ns n).drop (i + (j + 1)) := fun h => by
      have h2 : i + j < (kindsS ns n).length := by simpa [kindsS] using h
      have e : (kindsS ns n)[i + j] = (ns.getD (n.kids.getD (i + j) 0).toNat default).k := by simp [kindsS, h]
      rw [List.drop_eq_getElem_cons h2, e, Int.toNat_natCast, Nat.add_assoc]
    have hend : n.kids.length ≤ i + j → (kindsS ns n).drop (i + j) = [] := fun h => List.drop_of_length_le (by simpa [kindsS] using h)
    conv => whnf
    repeat' (first | (refine two_eq (fun h => ?_) (fun h => ?_) <;> (conv => whnf)) | (refine two_ne (fun h => ?_) (fun h => ?_) <;> (conv => whnf)) | (refine two_not (fun h => ?_) (fun h => ?_) <;> (conv => whnf)) | (refine two_dec (fun h => ?_) (fun h => ?_) <;> (conv => whnf)) | (refine two_intro (fun h => ?_) (fun h => ?_) <;> (conv => whnf)) | (refine Chk.mk ?_ ?_; (focus (((repeat' (refine And.intro ?_ ?_)) <;> (first | omega | rfl | (simp only [List.length_append, List.length_cons, List.length_nil]; omega) | fail)); done)); (conv => whnf)) | (refine And.intro ?_ ?_; (focus (((repeat' (refine And.intro ?_ ?_)) <;> (first | omega | rfl | (simp only [List.length_append, List.length_cons, List.length_nil]; omega) | fail)); done)); (conv => whnf)) | (refine Exists.intro _ (And.intro rfl ?_)) | (refine Exists.intro _ (Exists.intro _ (And.intro rfl ?_))) | (refine Exists.intro _ (Exists.intro _ (Exists.intro _ (And.intro rfl ?_)))) | fail)
    all_goals first
    | (have h0 : cntS (fun k => k == c) (m - j) ((kindsS ns n).drop (i + j)) = 0 := by
        first
        | (rw [hend (by omega)]; cases (m - j) <;> rfl)
        | (rw [show m - j = 0 by omega]; rfl)
        | (rw [hkd (by omega), show m - j = (m - j - 1) + 1 by omega, cnt_f]; (simp only [stB, exB, Bool.and_eq_true, Bool.and_eq_false_iff, decide_eq_true_eq, decide_eq_false_iff_not, beq_iff_eq, beq_eq_false_iff_ne]; omega))
        | fail
       have he : cntS (fun k => k == c) m ((kindsS ns n).drop i) = j := by rw [he, h0]; rfl
       rw [he] at hk
       exact hr _ _ (intV (j : Int)) (kidsK ns root n ((i + j : Nat) : Int) ++ [ibox c]) rfl rfl (by repeat' (first | exact trivial | exact rfl | (refine And.intro ?_ ?_) | fail)) (AV.le_of_eq (congrArg intV hw)) (lesK.refl _) (by rw [List.append_nil]; exact hk))
    | (have hw1 := hw1 (by omega)
       refine hle _ _ (Le.env ?_ ?_) (ih (j + 1) (by omega) ⟨by omega, by omega, ?_⟩)
       · skip
         repeat' (first | exact trivial | ((conv => whnf); first | exact trivial | (refine And.intro (AV.le_refl _) ?_) | (refine And.intro (ABlk.le_refl _) ?_) | (refine And.intro (AV.le_of_eq ?_) ?_; (focus ((first | fail | fail); done))) | (refine And.intro (ABlk.le_of_eq ?_) ?_; (focus ((first | fail | fail); done))) | fail) | fail)
       · skip
         repeat' (first | exact trivial | ((conv => whnf); first | exact trivial | (refine And.intro (AV.le_refl _) ?_) | (refine And.intro (ABlk.le_refl _) ?_) | (refine And.intro (AV.le_of_eq ?_) ?_; (focus ((first | exact congrArg (fun x => ABlk.box 3 [.p (.int .i64 x)]) hw1 | fail); done))) | (refine And.intro (ABlk.le_of_eq ?_) ?_; (focus ((first | exact congrArg (fun x => ABlk.box 3 [.p (.int .i64 x)]) hw1 | fail); done))) | fail) | fail)
       · rw [he, hkd (by omega), show m - j = (m - (j + 1)) + 1 by omega, cnt_t (by (simp only [stB, exB, Bool.and_eq_true, Bool.and_eq_false_iff, decide_eq_true_eq, decide_eq_false_iff_not, beq_iff_eq, beq_eq_false_iff_ne]; omega))]; omega)
    | fail
  · skip
    refine frameG (K0 := kidsK ns root n i ++ [ibox a, ibox c]) (X := []) gN_ok 19 rfl (by repeat' (first | exact trivial | exact rfl | (refine And.intro ?_ ?_) | fail)) fun Q hr => ?_
    conv => whnf
    refine loop_up (ι := Nat) [0, 1, 2, 3, 4, 8] (fun _ => []) (fun j => [(2, .box 3 [.p (.int .i64 ((i + j : Nat) : Int))])])
      (fun j => j ≤ m ∧ (j = 0 ∨ i + j ≤ n.kids.length) ∧ cntS (fun k => k == c) m ((kindsS ns n).drop i) = j + cntS (fun k => k == c) (m - j) ((kindsS ns n).drop (i + j))) (fun j => n.kids.length - (i + j)) 0 trivial ⟨upLe1 rfl (ABlk.le_refl _), trivial⟩ ⟨Nat.zero_le _, .inl rfl, by simp⟩ ?_
    rintro Y hle j ⟨hj, hij, he⟩ ih
    have hw : IntKind.i64.wrap (((i + j : Nat) : Int) - (i : Int)) = j := by rw [w64 ⟨by omega, by omega⟩]; omega
    have hw1 : i + j < n.kids.length → IntKind.i64.wrap (((i + j : Nat) : Int) + 1) = ((i + (j + 1) : Nat) : Int) := fun h => by rw [w64 ⟨by omega, by omega⟩]; omega
    have hg : i + j < n.kids.length → 0 ≤ n.kids.getD ((i + j : Nat) : Int).toNat 0 ∧ n.kids.getD ((i + j : Nat) : Int).toNat 0 < ns.length := fun h => hq _ (by rw [Int.toNat_natCast, List.getD_eq_getElem?_getD, List.getElem?_eq_getElem h]; exact List.getElem_mem h)
    have hkd : i + j < n.kids.length → (kindsS ns n).drop (i + j) = (ns.getD (n.kids.getD ((i + j : Nat) : Int).toNat 0).toNat default).k :: (kindsS ns n).drop (i + (j + 1)) := fun h => by
      have h2 : i + j < (kindsS ns n).length := by simpa [kindsS] using h
      have e : (kindsS ns n)[i + j] = (ns.getD (n.kids.getD (i + j) 0).toNat default).k := by simp [kindsS, h]
      rw [List.drop_eq_getElem_cons h2, e, Int.toNat_natCast, Nat.add_assoc]
    have hend : n.kids.length ≤ i + j → (kindsS ns n).drop (i + j) = [] := fun h => List.drop_of_length_le (by simpa [kindsS] using h)
    conv => whnf
    repeat' (first | (refine two_eq (fun h => ?_) (fun h => ?_) <;> (conv => whnf)) | (refine two_ne (fun h => ?_) (fun h => ?_) <;> (conv => whnf)) | (refine two_not (fun h => ?_) (fun h => ?_) <;> (conv => whnf)) | (refine two_dec (fun h => ?_) (fun h => ?_) <;> (conv => whnf)) | (refine two_intro (fun h => ?_) (fun h => ?_) <;> (conv => whnf)) | (refine Chk.mk ?_ ?_; (focus (((repeat' (refine And.intro ?_ ?_)) <;> (first | omega | rfl | (simp only [List.length_append, List.length_cons, List.length_nil]; omega) | fail)); done)); (conv => whnf)) | (refine And.intro ?_ ?_; (focus (((repeat' (refine And.intro ?_ ?_)) <;> (first | omega | rfl | (simp only [List.length_append, List.length_cons, List.length_nil]; omega) | fail)); done)); (conv => whnf)) | (refine Exists.intro _ (And.intro rfl ?_)) | (refine Exists.intro _ (Exists.intro _ (And.intro rfl ?_))) | (refine Exists.intro _ (Exists.intro _ (Exists.intro _ (And.intro rfl ?_)))) | fail)
    all_goals first
    | (have h0 : cntS (fun k => k == c) (m - j) ((kindsS ns n).drop (i + j)) = 0 := by
        first
        | (rw [hend (by omega)]; cases (m - j) <;> rfl)
        | (rw [show m - j = 0 by omega]; rfl)
        | (rw [hkd (by omega), show m - j = (m - j - 1) + 1 by omega, cnt_f]; (simp only [stB, exB, Bool.and_eq_true, Bool.and_eq_false_iff, decide_eq_true_eq, decide_eq_false_iff_not, beq_iff_eq, beq_eq_false_iff_ne]; omega))
        | fail
       have he : cntS (fun k => k == c) m ((kindsS ns n).drop i) = j := by rw [he, h0]; rfl
       rw [he] at hk
       exact hr _ _ (intV (j : Int)) (kidsK ns root n ((i + j : Nat) : Int) ++ [ibox a, ibox c]) rfl rfl (by repeat' (first | exact trivial | exact rfl | (refine And.intro ?_ ?_) | fail)) (AV.le_of_eq (congrArg intV hw)) (lesK.refl _) (by rw [List.append_nil]; exact hk))
    | (have hw1 := hw1 (by omega)
       refine hle _ _ (Le.env ?_ ?_) (ih (j + 1) (by omega) ⟨by omega, by omega, ?_⟩)
       · skip
         repeat' (first | exact trivial | ((conv => whnf); first | exact trivial | (refine And.intro (AV.le_refl _) ?_) | (refine And.intro (ABlk.le_refl _) ?_) | (refine And.intro (AV.le_of_eq ?_) ?_; (focus ((first | fail | fail); done))) | (refine And.intro (ABlk.le_of_eq ?_) ?_; (focus ((first | fail | fail); done))) | fail) | fail)
       · skip
         repeat' (first | exact trivial | ((conv => whnf); first | exact trivial | (refine And.intro (AV.le_refl _) ?_) | (refine And.intro (ABlk.le_refl _) ?_) | (refine And.intro (AV.le_of_eq ?_) ?_; (focus ((first | exact congrArg (fun x => ABlk.box 3 [.p (.int .i64 x)]) hw1 | fail); done))) | (refine And.intro (ABlk.le_of_eq ?_) ?_; (focus ((first | exact congrArg (fun x => ABlk.box 3 [.p (.int .i64 x)]) hw1 | fail); done))) | fail) | fail)
       · rw [he, hkd (by omega), show m - j = (m - (j + 1)) + 1 by omega, cnt_t (by (simp only [stB, exB, Bool.and_eq_true, Bool.and_eq_false_iff, decide_eq_true_eq, decide_eq_false_iff_not, beq_iff_eq, beq_eq_false_iff_ne]; omega))]; omega)
    | fail
  · skip
    refine frameG (K0 := kidsK ns root n i ++ [ibox a, ibox b, ibox c]) (X := []) gN_ok 19 rfl (by repeat' (first | exact trivial | exact rfl | (refine And.intro ?_ ?_) | fail)) fun Q hr => ?_
    conv => whnf
    refine loop_up (ι := Nat) [0, 1, 2, 3, 4, 8] (fun _ => []) (fun j => [(2, .box 3 [.p (.int .i64 ((i + j : Nat) : Int))])])
      (fun j => j ≤ m ∧ (j = 0 ∨ i + j ≤ n.kids.length) ∧ cntS (fun k => k == c) m ((kindsS ns n).drop i) = j + cntS (fun k => k == c) (m - j) ((kindsS ns n).drop (i + j))) (fun j => n.kids.length - (i + j)) 0 trivial ⟨upLe1 rfl (ABlk.le_refl _), trivial⟩ ⟨Nat.zero_le _, .inl rfl, by simp⟩ ?_
    rintro Y hle j ⟨hj, hij, he⟩ ih
    have hw : IntKind.i64.wrap (((i + j : Nat) : Int) - (i : Int)) = j := by rw [w64 ⟨by omega, by omega⟩]; omega
    have hw1 : i + j < n.kids.length → IntKind.i64.wrap (((i + j : Nat) : Int) + 1) = ((i + (j + 1) : Nat) : Int) := fun h => by rw [w64 ⟨by omega, by omega⟩]; omega
    have hg : i + j < n.kids.length → 0 ≤ n.kids.getD ((i + j : Nat) : Int).toNat 0 ∧ n.kids.getD ((i + j : Nat) : Int).toNat 0 < ns.length := fun h => hq _ (by rw [Int.toNat_natCast, List.getD_eq_getElem?_getD, List.getElem?_eq_getElem h]; exact List.getElem_mem h)
    have hkd : i + j < n.kids.length → (kindsS ns n).drop (i + j) = (ns.getD (n.kids.getD ((i + j : Nat) : Int).toNat 0).toNat default).k :: (kindsS ns n).drop (i + (j + 1)) := fun h => by
      have h2 : i + j < (kindsS ns n).length := by simpa [kindsS] using h
      have e : (kindsS ns n)[i + j] = (ns.getD (n.kids.getD (i + j) 0).toNat default).k := by simp [kindsS, h]
      rw [List.drop_eq_getElem_cons h2, e, Int.toNat_natCast, Nat.add_assoc]
    have hend : n.kids.length ≤ i + j → (kindsS ns n).drop (i + j) = [] := fun h => List.drop_of_length_le (by simpa [kindsS] using h)
    conv => whnf
    repeat' (first | (refine two_eq (fun h => ?_) (fun h => ?_) <;> (conv => whnf)) | (refine two_ne (fun h => ?_) (fun h => ?_) <;> (conv => whnf)) | (refine two_not (fun h => ?_) (fun h => ?_) <;> (conv => whnf)) | (refine two_dec (fun h => ?_) (fun h => ?_) <;> (conv => whnf)) | (refine two_intro (fun h => ?_) (fun h => ?_) <;> (conv => whnf)) | (refine Chk.mk ?_ ?_; (focus (((repeat' (refine And.intro ?_ ?_)) <;> (first | omega | rfl | (simp only [List.length_append, List.length_cons, List.length_nil]; omega) | fail)); done)); (conv => whnf)) | (refine And.intro ?_ ?_; (focus (((repeat' (refine And.intro ?_ ?_)) <;> (first | omega | rfl | (simp only [List.length_append, List.length_cons, List.length_nil]; omega) | fail)); done)); (conv => whnf)) | (refine Exists.intro _ (And.intro rfl ?_)) | (refine Exists.intro _ (Exists.intro _ (And.intro rfl ?_))) | (refine Exists.intro _ (Exists.intro _ (Exists.intro _ (And.intro rfl ?_)))) | fail)
    all_goals first
    | (have h0 : cntS (fun k => k == c) (m - j) ((kindsS ns n).drop (i + j)) = 0 := by
        first
        | (rw [hend (by omega)]; cases (m - j) <;> rfl)
        | (rw [show m - j = 0 by omega]; rfl)
        | (rw [hkd (by omega), show m - j = (m - j - 1) + 1 by omega, cnt_f]; (simp only [stB, exB, Bool.and_eq_true, Bool.and_eq_false_iff, decide_eq_true_eq, decide_eq_false_iff_not, beq_iff_eq, beq_eq_false_iff_ne]; omega))
        | fail
       have he : cntS (fun k => k == c) m ((kindsS ns n).drop i) = j := by rw [he, h0]; rfl
       rw [he] at hk
       exact hr _ _ (intV (j : Int)) (kidsK ns root n ((i + j : Nat) : Int) ++ [ibox a, ibox b, ibox c]) rfl rfl (by repeat' (first | exact trivial | exact rfl | (refine And.intro ?_ ?_) | fail)) (AV.le_of_eq (congrArg intV hw)) (lesK.refl _) (by rw [List.append_nil]; exact hk))
    | (have hw1 := hw1 (by omega)
       refine hle _ _ (Le.env ?_ ?_) (ih (j + 1) (by omega) ⟨by omega, by omega, ?_⟩)
       · skip
         repeat' (first | exact trivial | ((conv => whnf); first | exact trivial | (refine And.intro (AV.le_refl _) ?_) | (refine And.intro (ABlk.le_refl _) ?_) | (refine And.intro (AV.le_of_eq ?_) ?_; (focus ((first | fail | fail); done))) | (refine And.intro (ABlk.le_of_eq ?_) ?_; (focus ((first | fail | fail); done))) | fail) | fail)
       · skip
         repeat' (first | exact trivial | ((conv => whnf); first | exact trivial | (refine And.intro (AV.le_refl _) ?_) | (refine And.intro (ABlk.le_refl _) ?_) | (refine And.intro (AV.le_of_eq ?_) ?_; (focus ((first | exact congrArg (fun x => ABlk.box 3 [.p (.int .i64 x)]) hw1 | fail); done))) | (refine And.intro (ABlk.le_of_eq ?_) ?_; (focus ((first | exact congrArg (fun x => ABlk.box 3 [.p (.int .i64 x)]) hw1 | fail); done))) | fail) | fail)
       · rw [he, hkd (by omega), show m - j = (m - (j + 1)) + 1 by omega, cnt_t (by (simp only [stB, exB, Bool.and_eq_true, Bool.and_eq_false_iff, decide_eq_true_eq, decide_eq_false_iff_not, beq_iff_eq, beq_eq_false_iff_ne]; omega))]; omega)
    | fail

theorem cnt_le (p : Int → Bool) (m : Nat) (l : List Int) : cntS p m l ≤ l.length ∧ cntS p m l ≤ m := by
  induction l generalizing m with
  | nil => cases m <;> simp [cntS]
  | cons a l ih =>
    cases m with
    | zero => simp [cntS]
    | succ m =>
      have := ih m
      simp only [cntS, List.length_cons]
      split <;> omega
def gKi : AG := gput 69 cTakeK gN
theorem gKi_ok : GOk Tryz.prog gKi := gput_ok take_ok' gN_ok
def treeV' (ns : List Nd) (root : Int) : AV := treeV ns root
def cKids : AC := fun args K k => ∃ ns root n, args = [treeV ns root, nodeV n] ∧ n.kids.length ≤ 4000 ∧ (∀ q ∈ n.kids, 0 ≤ q ∧ q < (List.length ns : Int)) ∧ k (.ret (.p (.bool (kidsOkS n.k (kindsS ns n))))) K
theorem kids_ok : COk 42 cKids := by
  rintro args K k ⟨ns, root, n, rfl, hn, hq, hk⟩
  refine frame0P gKi_ok 19 rfl fun Q hr => ?_
  have hkl : (kindsS ns n).length = n.kids.length := by simp [kindsS]
  conv => whnf
  repeat' (first | (refine two_eq (fun h => ?_) (fun h => ?_) <;> (conv => whnf)) | (refine two_ne (fun h => ?_) (fun h => ?_) <;> (conv => whnf)) | (refine two_not (fun h => ?_) (fun h => ?_) <;> (conv => whnf)) | (refine two_dec (fun h => ?_) (fun h => ?_) <;> (conv => whnf)) | (refine two_intro (fun h => ?_) (fun h => ?_) <;> (conv => whnf)) | (refine Chk.mk ?_ ?_; (focus (((repeat' (refine And.intro ?_ ?_)) <;> (first | omega | rfl | (simp only [List.length_append, List.length_cons, List.length_nil]; omega) | fail)); done)); (conv => whnf)) | (refine And.intro ?_ ?_; (focus (((repeat' (refine And.intro ?_ ?_)) <;> (first | omega | rfl | (simp only [List.length_append, List.length_cons, List.length_nil]; omega) | fail)); done)); (conv => whnf)) | (refine ⟨ns, root, n, _, _, _, _, _, _, _, rfl, rfl, (Int.toNat_of_nonneg ?_).symm, (Int.toNat_of_nonneg ?_).symm, ?_, hn, hq, .inl ⟨rfl, rfl, .inl rfl⟩, ?_⟩; (focus omega); (focus omega); (focus omega); (conv => whnf)) | (refine ⟨ns, root, n, _, _, _, _, _, _, _, rfl, rfl, (Int.toNat_of_nonneg ?_).symm, (Int.toNat_of_nonneg ?_).symm, ?_, hn, hq, .inl ⟨rfl, rfl, .inr ⟨_, rfl⟩⟩, ?_⟩; (focus omega); (focus omega); (focus omega); (conv => whnf)) | (refine ⟨ns, root, n, _, _, _, _, _, _, _, rfl, rfl, (Int.toNat_of_nonneg ?_).symm, (Int.toNat_of_nonneg ?_).symm, ?_, hn, hq, .inr (.inl ⟨rfl, rfl, .inl rfl⟩), ?_⟩; (focus omega); (focus omega); (focus omega); (conv => whnf)) | (refine ⟨ns, root, n, _, _, _, _, _, _, _, rfl, rfl, (Int.toNat_of_nonneg ?_).symm, (Int.toNat_of_nonneg ?_).symm, ?_, hn, hq, .inr (.inl ⟨rfl, rfl, .inr ⟨_, rfl⟩⟩), ?_⟩; (focus omega); (focus omega); (focus omega); (conv => whnf)) | (refine ⟨ns, root, n, _, _, _, _, _, _, _, rfl, rfl, (Int.toNat_of_nonneg ?_).symm, (Int.toNat_of_nonneg ?_).symm, ?_, hn, hq, .inr (.inr ⟨_, rfl, .inl ⟨rfl, rfl⟩⟩), ?_⟩; (focus omega); (focus omega); (focus omega); (conv => whnf)) | (refine ⟨ns, root, n, _, _, _, _, _, _, _, rfl, rfl, (Int.toNat_of_nonneg ?_).symm, (Int.toNat_of_nonneg ?_).symm, ?_, hn, hq, .inr (.inr ⟨_, rfl, .inr (.inl ⟨_, rfl, rfl⟩)⟩), ?_⟩; (focus omega); (focus omega); (focus omega); (conv => whnf)) | (refine ⟨ns, root, n, _, _, _, _, _, _, _, rfl, rfl, (Int.toNat_of_nonneg ?_).symm, (Int.toNat_of_nonneg ?_).symm, ?_, hn, hq, .inr (.inr ⟨_, rfl, .inr (.inr ⟨_, _, rfl, rfl⟩)⟩), ?_⟩; (focus omega); (focus omega); (focus omega); (conv => whnf)) | fail)
  all_goals refine hr _ _ rfl (ret_eq hk ?_)
  all_goals clear hr hk hq
  all_goals try simp only [Int.toNat_natCast, show Int.toNat 0 = 0 from rfl, show Int.toNat 4000 = 4000 from rfl, show Int.toNat 1 = 1 from rfl, show Int.toNat 2 = 2 from rfl, Nat.zero_add, List.drop_zero] at *
  all_goals refine congrArg (fun b => AV.p (.bool b)) (Bool.eq_iff_iff.2 ?_)
  all_goals simp (disch := omega) only [kidsOkS, if_pos, if_neg, List.drop_zero, Nat.zero_add, hkl]
  all_goals simp only [Bool.and_eq_true, beq_iff_eq, reduceCtorEq]
  all_goals first | omega | (simp only [iff_false, not_and]; intros; omega) | fail
end Go.Proofs.YtbcngegcpdppfaaGreatDoor

namespace Go.Proofs.YtbcngegcpdppfaaGreatDoor
open Go.AE Go.Ru
set_option maxRecDepth 100000
set_option pp.maxSteps 4000
set_option maxHeartbeats 1000000

def gR3 : AG := gput 40 cText (gput 41 cNumber (gput 42 cKids g0))
theorem gR3_ok : GOk Tryz.prog gR3 := gput_ok text_ok (gput_ok number_ok (gput_ok kids_ok g0_ok))
def treeK (ns : List Nd) (root : Int) : List ABlk := [.box 25 [.p (.sl 5 ns.length (nodeF ns)), .p (.int .i64 root)]]
def cBad : AC := fun args K k => ∃ ns root n X, args = [nodeV n, .ptr 0 0 1 0 0] ∧ K = treeK ns root ++ X ∧ n.tx.length < 1000000 ∧ n.kids.length ≤ 4000 ∧ (∀ q ∈ n.kids, 0 ≤ q ∧ q < (List.length ns : Int)) ∧ k (.ret (.p (.bool (!nodeOkS ns n)))) (treeK ns root ++ X)
theorem bad_ok : COk 39 cBad := by
  rintro args K k ⟨ns, root, n, X, rfl, rfl, ht, hn, hq, hk⟩
  refine frameG (K0 := treeK ns root) gR3_ok 19 rfl ⟨rfl, trivial⟩ fun Q hr => ?_
  conv => whnf
  repeat' (first | (refine two_eq (fun h => ?_) (fun h => ?_) <;> (conv => whnf)) | (refine two_ne (fun h => ?_) (fun h => ?_) <;> (conv => whnf)) | (refine two_not (fun h => ?_) (fun h => ?_) <;> (conv => whnf)) | (refine two_dec (fun h => ?_) (fun h => ?_) <;> (conv => whnf)) | (refine two_intro (fun h => ?_) (fun h => ?_) <;> (conv => whnf)) | (refine ⟨n, rfl, ht, ?_⟩; (conv => whnf)) | (refine ⟨n, rfl, ?_⟩; (conv => whnf)) | (refine ⟨ns, root, n, rfl, hn, hq, ?_⟩; (conv => whnf)) | fail)
  all_goals refine hr _ _ _ _ rfl rfl ⟨rfl, trivial⟩ (AV.le_of_eq ?_) (lesK.refl _) hk
  all_goals refine congrArg (fun b => AV.p (.bool b)) (Bool.eq_iff_iff.2 ?_)
  all_goals clear hr hk hq
  all_goals (simp_all [nodeOkS] <;> (try intros) <;> omega)

theorem nodeV_get (ns : List Nd) (i : Nat) : pvs (nodeF ns i) = [.p (.int .i64 (ns.getD i default).k), .p (.int .i64 (ns.getD i default).n), .p (.int .i64 (ns.getD i default).at_), .p (.str (ns.getD i default).tx), .p (.sl 1 (ns.getD i default).kids.length (kidF (ns.getD i default).kids))] := rfl
def gR4 : AG := gput 39 cBad g0
theorem gR4_ok : GOk Tryz.prog gR4 := gput_ok bad_ok g0_ok
/-- the first node, from a place on, that has not its shape -/
def badAt (ns : List Nd) (i : Nat) : List Nd → Int
  | [] => -1
  | n :: r => match nodeOkS ns n with
    | false => (i : Int)
    | true => badAt ns (i + 1) r
structure Sized (ns : List Nd) : Prop where
  len : ns.length ≤ 4000
  txt : ∀ i, (ns.getD i default).tx.length < 1000000
  many : ∀ i, (ns.getD i default).kids.length ≤ 4000
  kid : ∀ i, ∀ q ∈ (ns.getD i default).kids, 0 ≤ q ∧ q < (ns.length : Int)
def cIdxR : AC := fun args K k => ∃ ns root X, args = [.p (.sl 5 (List.length ns) (nodeF ns)), .fn 39 [] [.ptr 0 0 1 0 0]] ∧ K = treeK ns root ++ X ∧ Sized ns ∧ k (.ret (intV (badAt ns 0 ns))) (treeK ns root ++ X)
theorem idxR_ok : COk 68 cIdxR := by
  rintro args K k ⟨ns, root, X, rfl, rfl, hz, hk⟩
  have hl := hz.len
  refine frameG (K0 := treeK ns root) gR4_ok 19 rfl ⟨rfl, trivial⟩ fun Q hr => ?_
  conv => whnf
  refine loop_up (ι := Nat) [0, 1, 7] (fun i => [(8, intV i)]) (fun _ => []) (fun i => i ≤ ns.length ∧ badAt ns i (ns.drop i) = badAt ns 0 ns) (fun i => ns.length - i) 0 ⟨AV.le_refl _, trivial⟩ trivial ⟨Nat.zero_le _, rfl⟩ ?_
  rintro Y hle i ⟨hi, he⟩ ih
  have hw1 : IntKind.i64.wrap ((i : Int) + 1) = ((i + 1 : Nat) : Int) := by rw [w64 ⟨by omega, by omega⟩]; omega
  conv => whnf
  refine two_dec (fun h => ?_) (fun h => ?_)
  · have h : i < ns.length := by omega
    rw [List.drop_eq_getElem_cons h] at he
    have e1 : ns.getD i default = ns[i] := by simp [h]
    conv => whnf
    repeat' (first | (refine two_eq (fun h => ?_) (fun h => ?_) <;> (conv => whnf)) | (refine two_ne (fun h => ?_) (fun h => ?_) <;> (conv => whnf)) | (refine two_not (fun h => ?_) (fun h => ?_) <;> (conv => whnf)) | (refine two_dec (fun h => ?_) (fun h => ?_) <;> (conv => whnf)) | (refine two_intro (fun h => ?_) (fun h => ?_) <;> (conv => whnf)) | (refine Chk.mk ?_ ?_; (focus (((repeat' (refine And.intro ?_ ?_)) <;> (first | omega | rfl | (simp only [List.length_append, List.length_cons, List.length_nil]; omega) | fail)); done)); (conv => whnf)) | (refine And.intro ?_ ?_; (focus (((repeat' (refine And.intro ?_ ?_)) <;> (first | omega | rfl | (simp only [List.length_append, List.length_cons, List.length_nil]; omega) | fail)); done)); (conv => whnf)) | (refine Exists.intro _ (And.intro rfl ?_)) | (refine Exists.intro _ (Exists.intro _ (And.intro rfl ?_))) | (refine Exists.intro _ (Exists.intro _ (Exists.intro _ (And.intro rfl ?_)))) | fail)
    refine ⟨ns, root, ns.getD i default, [], rfl, rfl, hz.txt _, hz.many _, hz.kid _, ?_⟩
    conv => whnf
    refine two_not (fun h2 => ?_) (fun h2 => ?_)
    · rw [e1] at h2
      simp only [badAt, h2] at he
      conv => whnf
      exact hr _ _ _ _ rfl rfl ⟨rfl, trivial⟩ (AV.le_refl _) (lesK.refl _) (he ▸ hk)
    · rw [e1] at h2
      simp only [badAt, h2] at he
      conv => whnf
      refine hle _ _ (Le.env ?_ ?_) (ih (i + 1) (by omega) ⟨by omega, he⟩)
      · skip
        repeat' (first | exact trivial | ((conv => whnf); first | exact trivial | (refine And.intro (AV.le_refl _) ?_) | (refine And.intro (ABlk.le_refl _) ?_) | (refine And.intro (AV.le_of_eq ?_) ?_; (focus ((first | exact congrArg intV hw1 | fail); done))) | (refine And.intro (ABlk.le_of_eq ?_) ?_; (focus ((first | exact congrArg intV hw1 | fail); done))) | fail) | fail)
      · skip
        repeat' (first | exact trivial | ((conv => whnf); first | exact trivial | (refine And.intro (AV.le_refl _) ?_) | (refine And.intro (ABlk.le_refl _) ?_) | (refine And.intro (AV.le_of_eq ?_) ?_; (focus ((first | fail | fail); done))) | (refine And.intro (ABlk.le_of_eq ?_) ?_; (focus ((first | fail | fail); done))) | fail) | fail)
  · obtain rfl : i = ns.length := by omega
    rw [List.drop_length] at he
    rw [← he] at hk
    conv => whnf
    exact hr _ _ _ _ rfl rfl ⟨rfl, trivial⟩ (AV.le_refl _) (lesK.refl _) hk

theorem badAt_all (ns : List Nd) (i : Nat) (l : List Nd) : decide (badAt ns i l ≥ 0) = !l.all (nodeOkS ns) := by
  induction l generalizing i with
  | nil => rfl
  | cons n r ih =>
    unfold badAt
    rw [List.all_cons]
    by_cases h : nodeOkS ns n = true
    · rw [h]; simp only [ih, Bool.true_and]
    · rw [Bool.eq_false_iff.2 h]; simp
def gR5 : AG := gput 68 cIdxR (gput 32 cSound (gput 16 cDepth g0))
theorem gR5_ok : GOk Tryz.prog gR5 := gput_ok idxR_ok (gput_ok sound_ok (gput_ok depth_ok g0_ok))
theorem getD_lt {ns : List Nd} {i : Nat} (h : ¬ i < ns.length) : ns.getD i default = default := by
  rw [List.getD_eq_getElem?_getD, List.getElem?_eq_none (by omega)]; rfl
theorem sized_of {ns : List Nd} {root : Int} (h : soundS ns root = true) (ht : ∀ i, (ns.getD i default).tx.length < 1000000) : Sized ns := by
  obtain ⟨h1, h2, h3, h4⟩ := soundS_ok h
  refine ⟨h2, ht, fun i => ?_, fun i q hq => ?_⟩
  · by_cases hi : i < ns.length
    · have := soundS_many h i hi; omega
    · rw [getD_lt hi]; exact Nat.zero_le _
  · by_cases hi : i < ns.length
    · have := h4 i hi q hq; omega
    · rw [getD_lt hi] at hq; cases hq
def cRight : AC := fun args K k => ∃ ns root, args = [treeV ns root] ∧ (List.length ns : Nat) < 1000000 ∧ (∀ i, (ns.getD i default).tx.length < 1000000) ∧ k (.ret (.p (.bool (rightS ns root)))) K
theorem right_ok : COk 19 cRight := by
  rintro args K k ⟨ns, root, rfl, hn, ht, hk⟩
  refine frame0P gR5_ok 19 rfl fun Q hr => ?_
  conv => whnf
  refine ⟨ns, root, rfl, hn, ?_⟩
  cases hs : soundS ns root with
  | false =>
    conv => whnf
    exact hr _ _ rfl (by simpa [rightS, hs] using hk)
  | true =>
    have hz := sized_of hs ht
    obtain ⟨h1, h2, h3, h4⟩ := soundS_ok hs
    conv => whnf
    refine ⟨ns, root, rfl, hn, ?_⟩
    conv => whnf
    refine two_dec (fun h => ?_) (fun h => ?_)
    · conv => whnf
      exact hr _ _ rfl (by simpa [rightS, hs, show ¬ depthS ns root ≤ 40 by omega] using hk)
    conv => whnf
    refine ⟨⟨by omega, by omega, rfl⟩, ?_⟩
    conv => whnf
    refine two_ne (fun h' => ?_) (fun h' => ?_)
    · conv => whnf
      exact hr _ _ rfl (ret_eq hk (congrArg (fun b => AV.p (.bool b)) (by simp only [rightS, beq_eq_false_iff_ne.2 h', Bool.and_false, Bool.false_and])))
    conv => whnf
    refine ⟨ns, root, [], rfl, rfl, hz, ?_⟩
    conv => whnf
    exact hr _ _ rfl (ret_eq hk (congrArg (fun b => AV.p (.bool b)) (by
      show _ = !decide (badAt ns 0 ns ≥ 0)
      rw [badAt_all, Bool.not_not]
      simp only [rightS, hs, h', show depthS ns root ≤ 40 by omega, decide_true, beq_self_eq_true, Bool.true_and])))
end Go.Proofs.YtbcngegcpdppfaaGreatDoor
