/-
  Tokens, part 3: the contract of the cutter. No statement of the seat is proved here.
-/
import Derived.Test.YtbcngegcpdppfaaGreatDoorTk
import Derived.Test.YtbcngegcpdppfaaGreatDoorPaLeaf
namespace Go.Proofs.YtbcngegcpdppfaaGreatDoor
open Go.AE Go.Ru
set_option maxRecDepth 100000
set_option pp.maxSteps 2000

/-- a call that leaves some blocks as they are, whatever lies behind them -/
theorem frameS {G : AG} (hG : GOk Tryz.prog G) (n : Nat) {f : FuncId} {args : List AV} {K0 X : List ABlk} {k : AO → List ABlk → Prop} (hcl : AV.cls K0.length args = true) (hK : clK K0.length K0)
    (h : ∀ Q : AO → List ABlk → Prop, (∀ v K', v.cl K0.length = true → K0.length ≤ K'.length → takeN K' K0.length = K0 → k (.ret v) (K0 ++ X) → Q (.ret v) K') → acall1 T0 G n f args K0 Q) : ACalls Tryz.prog f args (K0 ++ X) k := by
  refine (ACalls.frame (K0 := K0) (X := X) (k := fun ao K1 => k ao (K1 ++ X)) hcl (fun r h => clK.hp hK r) (call_ok hG n f args K0 _ (h _ ?_))).mono fun ao K ⟨K1, h1, h2⟩ => by subst h1; exact h2
  intro v K' h1 h2 h3 h4
  refine ⟨h1, h2, fun r hr => ?_, ?_⟩
  · have e := congrArg (fun L => hp L r) h3
    simp only [hp_takeN, if_pos hr] at e
    rw [e]; exact clK.hp hK r
  · show k (.ret v) (takeN K' K0.length ++ X)
    rw [h3]; exact h4
theorem frame0W {G : AG} (hG : GOk Tryz.prog G) (n : Nat) {f : FuncId} {args : List AV} {X : List ABlk} {k : AO → List ABlk → Prop} (hcl : AV.cls 0 args = true)
    (h : ∀ Q : AO → List ABlk → Prop, (∀ v K' v' K2, Wk1 0 v K' v' K2 → v'.cl 0 = true → k (.ret v') X → Q (.ret v) K') → acall1 T0 G n f args [] Q) : ACalls Tryz.prog f args X k := by
  refine (ACalls.frame (K0 := []) (X := X) (k := fun ao K1 => k ao (K1 ++ X)) hcl (fun r h => by simp at h)
    (ACalls.post (k := fun ao K1 => ∃ v v' K2, ao = .ret v ∧ Wk1 0 v K1 v' K2 ∧ v'.cl 0 = true ∧ k (.ret v') X) (call_ok hG n f args [] _ (h _ ?_)) ?_)).mono fun ao K ⟨K1, h1, h2⟩ => by subst h1; exact h2
  · intro v K' v' K2 h1 h2 h3
    exact ⟨v, v', K2, rfl, h1, h2, h3⟩
  · rintro ao K1 ⟨v, v', K2, rfl, h1, h2, h3⟩
    refine ⟨v', K2, h1, h2, by simp, fun r hr => by simp at hr, ?_⟩
    show k (.ret v') (takeN K2 0 ++ X)
    rw [takeN_zero]; exact h3

def cutK (s : Bs) (i : Nat) : List ABlk := [.box 9 [.p (.str s)], .box 3 [.p (.int .i64 i)]]
def cRow : AC := fun args K k => ∃ (some s : Bs) (i : Nat) (ii : Int) (X : List ABlk), args = [.p (.str some), .ptr 1 0 1 0 0, .ptr 0 0 1 0 0] ∧ K = [.box 9 [.p (.str s)], .box 3 [.p (.int .i64 ii)]] ++ X ∧ ii = i ∧ i ≤ s.length ∧ s.length < 1000000 ∧
  k (.ret (.p (.int .i64 ((i + runS some (s.drop i) : Nat) : Int)))) (cutK s i ++ X)
theorem runS_cons (l : Bs) (c : UInt8) (r : Bs) : runS l (c :: r) = if inB l c then runS l r + 1 else 0 := by
  simp only [runS, List.takeWhile_cons]
  split <;> simp
theorem row_ok : COk 27 cRow := by
  rintro args K k ⟨m, s, i, _, X, rfl, rfl, rfl, hi, hs, hk⟩
  refine frameS (K0 := cutK s i) gL_ok 19 rfl ⟨rfl, rfl, trivial⟩ fun Q hr => ?_
  conv => whnf
  refine loop_by (ι := Nat) (fun j => ⟨[(0, .p (.str m)), (2, .ptr 0 0 1 0 0), (5, .p (.int .i64 j))], cutK s i⟩)
    (fun j => j ≤ s.length ∧ i + runS m (s.drop i) = j + runS m (s.drop j)) (fun j => s.length - j) i ⟨AV.le_refl _, AV.le_refl _, AV.le_refl _, trivial⟩ (lesK.refl _) ⟨hi, rfl⟩ ?_
  intro Y hle j ⟨hj, he⟩ ih
  have hd1 : decide ((j : Int) < (s.length : Int)) = decide (j < s.length) := by
    by_cases h : j < s.length
    · rw [decide_eq_true h, decide_eq_true (by omega)]
    · rw [decide_eq_false h, decide_eq_false (by omega)]
  conv => whnf
  refine two_intro (fun h => ?_) (fun h => ?_)
  · rw [hd1] at h
    have h := of_decide_eq_true h
    have hs2 : s.drop j = s[j] :: s.drop (j + 1) := List.drop_eq_getElem_cons h
    rw [hs2, runS_cons] at he
    conv => whnf
    refine ⟨⟨by omega, by omega⟩, ?_⟩
    conv => whnf
    refine ⟨_, _, rfl, ?_⟩
    conv => whnf
    have hb : decide (Lib.indexByte m ((byteAt s (Int.toNat j)).toNat.toUInt8) ≥ 0) = inB m s[j] := by
      rw [u8b, Int.toNat_natCast, List.getD_eq_getElem?_getD, List.getElem?_eq_getElem h]; rfl
    refine two_intro (fun h5 => ?_) (fun h5 => ?_)
    · rw [hb] at h5
      rw [if_pos h5] at he
      conv => whnf
      refine hle _ _ (Le.env ?_ (lesK.refl _)) (ih (j + 1) (by omega) ⟨by omega, by omega⟩)
      refine ⟨AV.le_refl _, AV.le_refl _, AV.le_of_eq ?_, trivial⟩
      show AV.p (.int .i64 (IntKind.i64.wrap ((j : Int) + 1))) = .p (.int .i64 ((j + 1 : Nat) : Int))
      rw [w64 (by omega)]; rfl
    · rw [hb] at h5
      rw [if_neg (by rw [h5]; exact Bool.false_ne_true)] at he
      conv => whnf
      rw [he] at hk
      exact hr _ _ rfl (Nat.le_refl _) rfl hk
  · rw [hd1] at h
    have h := of_decide_eq_false h
    obtain rfl : j = s.length := by omega
    rw [List.drop_length] at he
    conv => whnf
    rw [he] at hk
    exact hr _ _ rfl (Nat.le_refl _) rfl hk

def tokF (l : List Tok) (j : Nat) : List PV := encTok (l.getD j ⟨.name, 0, 0, []⟩)
def tokA (l : List Tok) : ABlk := .arr 46 4 0 l.length fun j => pvs (tokF l j)
def cutV (e : Int) : CR → AV
  | .ok l => .tup [.p (.sl 4 (l.length + 1) (encs e l)), .p (.int .i64 0), .p (.int .i64 0)]
  | .bad a => .tup [.p .nils, .p (.int .i64 (a : Nat)), .p (.int .i64 2)]
def cCutT : AC := fun args K k => ∃ s, args = [.p (.str s)] ∧ s.length < 1000000 ∧
  (s.length > 20000 → k (.ret (.tup [.p .nils, .p (.int .i64 0), .p (.int .i64 7)])) K) ∧ (s.length ≤ 20000 → k (.ret (cutV s.length (cutT s))) K)
structure TC where
  l : List Tok
  i : Nat
  n : Nat
def CR.app (l : List Tok) : CR → CR
  | .ok l' => .ok (l ++ l')
  | .bad a => .bad a
def gT : AG := gput 27 cRow (gput 29 cWordT (gput 30 cSignT gI))
theorem gT_ok : GOk Tryz.prog gT := gput_ok row_ok (gput_ok wordT_ok (gput_ok signT_ok gI_ok))
theorem encs_lt (e : Int) (l : List Tok) (j : Nat) (h : j < l.length) : encs e l j = tokF l j := by
  induction l generalizing j with
  | nil => simp at h
  | cons t r ih =>
    cases j with
    | zero => rfl
    | succ j => exact ih j (by simpa using h)
theorem encs_at (e : Int) (l : List Tok) : encs e l l.length = [.int .i64 5, .int .i64 0, .int .i64 e, .str []] := by
  induction l with
  | nil => rfl
  | cons t r ih => exact ih
theorem enc_all (e : Int) (l : List Tok) (f : Nat → List AV) (hf : f 0 = pvs [.int .i64 5, .int .i64 0, .int .i64 e, .str []]) : ∀ j, j < l.length + 1 → catF l.length (fun j => pvs (tokF l j)) f j = pvs (encs e l j) := fun j hj => by
  by_cases h : j < l.length
  · rw [catF_lt h, encs_lt e l j h]
  · obtain rfl : j = l.length := by omega
    rw [catF_ge (Nat.le_refl _), Nat.sub_self, hf, encs_at]
theorem tokA_snoc (l : List Tok) (x : Tok) (f : Nat → List AV) (hf : f 0 = pvs (encTok x)) : (ABlk.arr 46 4 0 (l.length + 1) (catF l.length (fun i => pvs (tokF l i)) f)).le (tokA (l ++ [x])) := by
  refine ABlk.arr_eq (by simp) fun i hi => ?_
  by_cases h : i < l.length
  · rw [catF_lt h]
    simp [tokF, List.getD_eq_getElem?_getD, List.getElem?_append_left h]
  · obtain rfl : i = l.length := by omega
    rw [catF_ge (Nat.le_refl _), Nat.sub_self, hf]
    simp [tokF, List.getD_eq_getElem?_getD]
theorem tok_cl (l : List Tok) (x : Tok) (f : Nat → List AV) (n : Nat) (hf : f 0 = pvs (encTok x)) : (ABlk.arr 46 4 0 (l.length + 1) (catF l.length (fun i => pvs (tokF l i)) f)).cl n := fun i hi => by
  by_cases h : i < l.length
  · rw [catF_lt h]; rfl
  · obtain rfl : i = l.length := by omega
    rw [catF_ge (Nat.le_refl _), Nat.sub_self, hf]; rfl
theorem slr_len (l : List Tok) (x : Tok) : AV.slr 2 0 0 (l.length + 1) = AV.slr 2 0 0 (l ++ [x]).length := by simp
theorem app_cons (l : List Tok) (t : Tok) (r : CR) : CR.app l (r.cons t) = CR.app (l ++ [t]) r := by
  cases r with
  | ok l' => simp [CR.cons, CR.app]
  | bad a => rfl
theorem cutT_ok : COk 12 cCutT := by
  rintro args K k ⟨s, rfl, hs, hk1, hk2⟩
  refine frame0W gT_ok 19 rfl fun Q hr => ?_
  have hd1 : decide ((s.length : Int) > 20000) = decide (s.length > 20000) := by
    by_cases h : s.length > 20000
    · rw [decide_eq_true h, decide_eq_true (by omega)]
    · rw [decide_eq_false h, decide_eq_false (by omega)]
  conv => whnf
  refine two_intro (fun h => ?_) (fun h => ?_)
  · rw [hd1] at h
    have h := of_decide_eq_true h
    conv => whnf
    exact hr _ _ _ _ (Wk1.refl _ _ _) rfl (hk1 h)
  rw [hd1] at h
  have h := of_decide_eq_false h
  have hk := hk2 (by omega)
  clear hk1 hk2
  conv => whnf
  refine loop_nil (ι := TC) 46 4 (fun j => pvs (tokF [] j)) (fun i => ⟨[(1, .ptr 0 0 1 0 0), (6, .ptr 1 0 1 0 0), (7, .fn 27 [] [.ptr 1 0 1 0 0, .ptr 0 0 1 0 0]), (5, .slr 2 0 0 i.l.length)], cutK s i.i ++ [tokA i.l]⟩)
    (fun i => i.i ≤ s.length ∧ s.length ≤ i.i + i.n ∧ i.l.length ≤ i.i ∧ CR.app i.l (cutS i.n (s.drop i.i) i.i) = cutT s) (fun i => i.n) ⟨[], 0, s.length⟩ (cutK s 0)
    rfl ⟨.inl (AV.le_refl _), .inl (AV.le_refl _), .inl (AV.le_refl _), .inr ⟨rfl, rfl⟩, trivial⟩ (nswK.refl _ _) rfl ⟨Nat.zero_le _, by simp, Nat.le_refl _, ?_⟩ ?_
  · show CR.app [] (cutS s.length s 0) = cutT s
    unfold cutT
    cases cutS s.length s 0 <;> rfl
  rintro Y hle ⟨l, i, n⟩ ⟨hi, hn, hl, he⟩ ih
  simp only at hi hn hl he
  have hd2 : decide ((i : Int) < (s.length : Int)) = decide (i < s.length) := by
    by_cases h : i < s.length
    · rw [decide_eq_true h, decide_eq_true (by omega)]
    · rw [decide_eq_false h, decide_eq_false (by omega)]
  conv => whnf
  refine two_intro (fun h => ?_) (fun h => ?_)
  · rw [hd2] at h
    have h := of_decide_eq_true h
    cases n with
    | zero => omega
    | succ n =>
    have hs2 : s.drop i = s[i] :: s.drop (i + 1) := List.drop_eq_getElem_cons h
    have hrl : ∀ m, runS m (s.drop i) ≤ s.length - i := fun m => by
      unfold runS
      refine Nat.le_trans (List.takeWhile_sublist _).length_le ?_
      simp
    conv => whnf
    refine ⟨_, _, _, _, _, rfl, rfl, rfl, hi, hs, ?_⟩
    conv => whnf
    refine ⟨_, _, _, _, _, rfl, rfl, rfl, hi, hs, ?_⟩
    conv => whnf
    repeat ((refine And.intro ?_ ?_); (focus ((conv => whnf); done)); (conv => whnf))
    refine two_intro (fun h2 => ?_) (fun h2 => ?_)
    · have h2 : 0 < runS blanksT (s.drop i) := by
        have := of_decide_eq_true h2
        have : ((i + runS blanksT (s.drop i) : Nat) : Int) > (i : Int) := this
        omega
      have hb := hrl blanksT
      conv => whnf
      refine ⟨_, _, _, _, _, rfl, rfl, rfl, hi, hs, ?_⟩
      conv => whnf
      refine hle _ _ (Le.env ?_ ?_) (ih ⟨l, i + runS blanksT (s.drop i), n⟩ (Nat.lt_succ_self _) ⟨?_, ?_, ?_, ?_⟩)
      · exact ⟨AV.le_refl _, AV.le_refl _, AV.le_refl _, AV.le_refl _, trivial⟩
      · exact ⟨ABlk.le_refl _, ABlk.le_refl _, ABlk.le_refl _, trivial⟩
      · simp only; omega
      · simp only; omega
      · simp only; omega
      · rw [← he]
        simp only [cutS, hs2]
        rw [hs2] at h2
        rw [if_pos h2, ← hs2, List.drop_drop]
    · have h2 : ¬ 0 < runS blanksT (s.drop i) := by
        have := of_decide_eq_false h2
        have : ¬ ((i + runS blanksT (s.drop i) : Nat) : Int) > (i : Int) := this
        omega
      conv => whnf
      refine ⟨(⟨by omega, by omega⟩ : (0 : Int) ≤ (i : Int) ∧ (i : Int) < (s.length : Int)), ?_⟩
      conv => whnf
      have hby : byteAt s (Int.toNat i) = (s[i].toNat : Int) := by
        unfold byteAt
        rw [Int.toNat_natCast, List.getD_eq_getElem?_getD, List.getElem?_eq_getElem h]; rfl
      simp only [cutS, hs2] at he
      rw [hs2] at h2
      rw [if_neg h2] at he
      refine two_intro (fun h3 => ?_) (fun h3 => ?_)
      · have h3 : s[i] = 35 := by
          have h3 : (byteAt s (Int.toNat i) == 35) = true := h3
          rw [hby] at h3
          have := eq_of_beq h3
          exact UInt8.toNat_inj.1 (by show s[i].toNat = 35; omega)
        rw [if_pos h3, ← hs2] at he
        conv => whnf
        refine loop_by (ι := Nat) (fun j => ⟨[(1, .ptr 0 0 1 0 0), (6, .ptr 1 0 1 0 0), (7, .fn 27 [] [.ptr 1 0 1 0 0, .ptr 0 0 1 0 0]), (5, .slr 2 0 0 l.length)], cutK s j ++ [tokA l]⟩)
          (fun j => i ≤ j ∧ j ≤ s.length ∧ (s.drop i).dropWhile (fun c => !(c == 10)) = (s.drop j).dropWhile (fun c => !(c == 10)) ∧ i + ((s.drop i).takeWhile (fun c => !(c == 10))).length = j + ((s.drop j).takeWhile (fun c => !(c == 10))).length) (fun j => s.length - j) i
          ?_ ?_ ⟨Nat.le_refl _, hi, rfl, rfl⟩ ?_
        · exact ⟨AV.le_refl _, AV.le_refl _, AV.le_refl _, AV.le_refl _, trivial⟩
        · exact ⟨ABlk.le_refl _, ABlk.le_refl _, ABlk.le_refl _, trivial⟩
        intro Z hle2 j ⟨hij, hj, hdw, htw⟩ ih2
        have hd3 : decide ((j : Int) < (s.length : Int)) = decide (j < s.length) := by
          by_cases h : j < s.length
          · rw [decide_eq_true h, decide_eq_true (by omega)]
          · rw [decide_eq_false h, decide_eq_false (by omega)]
        have fin : ∀ j, i < j → j ≤ s.length → (s.drop i).dropWhile (fun c => !(c == 10)) = s.drop j → i + ((s.drop i).takeWhile (fun c => !(c == 10))).length = j → (TC.mk l j n).i ≤ s.length ∧ s.length ≤ (TC.mk l j n).i + (TC.mk l j n).n ∧ (TC.mk l j n).l.length ≤ (TC.mk l j n).i ∧ CR.app (TC.mk l j n).l (cutS (TC.mk l j n).n (s.drop (TC.mk l j n).i) (TC.mk l j n).i) = cutT s := fun j h1 h2 h3 h4 => by
          refine ⟨h2, ?_, ?_, ?_⟩
          · simp only; omega
          · simp only; omega
          · rw [← he, h3, h4]
        conv => whnf
        refine two_intro (fun h4 => ?_) (fun h4 => ?_)
        · rw [hd3] at h4
          have h4 := of_decide_eq_true h4
          have hsj : s.drop j = s[j] :: s.drop (j + 1) := List.drop_eq_getElem_cons h4
          rw [hsj] at hdw htw
          simp only [List.dropWhile_cons, List.takeWhile_cons] at hdw htw
          conv => whnf
          refine ⟨⟨by omega, by omega⟩, ?_⟩
          conv => whnf
          have hby2 : byteAt s (Int.toNat j) = (s[j].toNat : Int) := by
            unfold byteAt
            rw [Int.toNat_natCast, List.getD_eq_getElem?_getD, List.getElem?_eq_getElem h4]; rfl
          have hb : (byteAt s (Int.toNat j) != 10) = !(s[j] == 10) := by
            rw [hby2]
            show (!((s[j].toNat : Int) == 10)) = _
            congr 1
            rw [Bool.eq_iff_iff]
            simp only [beq_iff_eq]
            constructor
            · intro h
              exact UInt8.toNat_inj.1 (by show s[j].toNat = 10; omega)
            · intro h; rw [h]; rfl
          refine two_intro (fun h5 => ?_) (fun h5 => ?_)
          · have h5 : (!(s[j] == 10)) = true := by rw [← hb]; exact h5
            rw [if_pos h5] at hdw htw
            conv => whnf
            refine hle2 _ _ (Le.env ?_ ?_) (ih2 (j + 1) (by omega) ⟨by omega, by omega, hdw, ?_⟩)
            · exact ⟨AV.le_refl _, AV.le_refl _, AV.le_refl _, AV.le_refl _, trivial⟩
            · refine ⟨ABlk.le_refl _, ABlk.le_of_eq ?_, ABlk.le_refl _, trivial⟩
              show ABlk.box 3 [.p (.int .i64 (IntKind.i64.wrap ((j : Int) + 1)))] = _
              rw [w64 (by omega)]; rfl
            · simp only [List.length_cons] at htw; omega
          · have h5 : (!(s[j] == 10)) = false := by rw [← hb]; exact h5
            rw [if_neg (by rw [h5]; exact Bool.false_ne_true)] at hdw htw
            have hij2 : i < j := by
              rcases Nat.lt_or_ge i j with h | h
              · exact h
              · exfalso
                have : i = j := by omega
                subst this
                rw [h3] at h5; simp at h5
            conv => whnf
            refine hle _ _ (Le.env ?_ ?_) (ih ⟨l, j, n⟩ (Nat.lt_succ_self _) (fin j hij2 hj (by rw [hdw, hsj]) (by simpa using htw)))
            · exact ⟨AV.le_refl _, AV.le_refl _, AV.le_refl _, AV.le_refl _, trivial⟩
            · exact ⟨ABlk.le_refl _, ABlk.le_refl _, ABlk.le_refl _, trivial⟩
        · rw [hd3] at h4
          have h4 := of_decide_eq_false h4
          obtain rfl : j = s.length := by omega
          conv => whnf
          refine hle _ _ (Le.env ?_ ?_) (ih ⟨l, s.length, n⟩ (Nat.lt_succ_self _) (fin s.length h hj (by rw [hdw]; simp) (by simpa using htw)))
          · exact ⟨AV.le_refl _, AV.le_refl _, AV.le_refl _, AV.le_refl _, trivial⟩
          · exact ⟨ABlk.le_refl _, ABlk.le_refl _, ABlk.le_refl _, trivial⟩
      have h3 : ¬ s[i] = 35 := fun e => by
        have h3 : (byteAt s (Int.toNat i) == 35) = false := h3
        rw [hby, e] at h3
        simp at h3
      rw [if_neg h3, ← hs2] at he
      conv => whnf
      refine two_intro (fun h4 => ?_) (fun h4 => ?_)
      · have h4 : 0 < runS partsT (s.drop i) := by
          have := of_decide_eq_true h4
          have : ((i + runS partsT (s.drop i) : Nat) : Int) > (i : Int) := this
          omega
        rw [if_pos h4] at he
        conv => whnf
        have hp := hrl partsT
        refine ⟨(⟨by omega, by omega, by omega⟩ : (0 : Int) ≤ (i : Int) ∧ (i : Int) ≤ ((i + runS partsT (s.drop i) : Nat) : Int) ∧ ((i + runS partsT (s.drop i) : Nat) : Int) ≤ (s.length : Int)), ?_⟩
        conv => whnf
        have hw : (s.take (Int.toNat ((i + runS partsT (s.drop i) : Nat) : Int))).drop (Int.toNat (i : Int)) = (s.drop i).take (runS partsT (s.drop i)) := by
          rw [Int.toNat_natCast, Int.toNat_natCast, List.drop_take, Nat.add_sub_cancel_left]
        have hwl : ((s.drop i).take (runS partsT (s.drop i))).length < 1000000 := by
          simp only [List.length_take, List.length_drop]; omega
        have hsb : (0 : Int) ≤ (i : Int) ∧ (i : Int) ≤ ((i + runS partsT (s.drop i) : Nat) : Int) ∧ ((i + runS partsT (s.drop i) : Nat) : Int) ≤ (s.length : Int) := ⟨by omega, by omega, by omega⟩
        refine ⟨?_, ?_⟩
        · conv => whnf
          refine ⟨(s.drop i).take (runS partsT (s.drop i)), (i : Int), congrArg (fun w => [AV.p (PV.str w), AV.p (PV.int .i64 (i : Int))]) hw, hwl, ?_⟩
          cases hwp : wordP ((s.drop i).take (runS partsT (s.drop i))) with
          | none =>
            rw [hwp] at he
            have hct : cutT s = .bad i := by rw [← he]; rfl
            rw [hct] at hk
            conv => whnf
            repeat ((refine And.intro ?_ ?_); (focus ((conv => whnf); done)); (conv => whnf))
            first | ((refine ⟨⟨hsb, rfl⟩, ?_⟩); (conv => whnf); repeat ((refine And.intro ?_ ?_); (focus ((conv => whnf); done)); (conv => whnf))) | skip
            exact hr _ _ _ _ (Wk1.refl _ _ _) rfl hk
          | some q =>
            obtain ⟨kd, v⟩ := q
            rw [hwp] at he
            simp only at he
            conv => whnf
            repeat ((refine And.intro ?_ ?_); (focus ((conv => whnf); done)); (conv => whnf))
            first | ((refine ⟨⟨hsb, rfl⟩, ?_⟩); (conv => whnf); repeat ((refine And.intro ?_ ?_); (focus ((conv => whnf); done)); (conv => whnf))) | skip
            refine ⟨⟨rfl, rfl, rfl, allLt_ok ⟨trivial, rfl⟩⟩, ?_⟩
            conv => whnf
            refine ⟨⟨rfl, rfl, rfl, rfl, ?_, ?_⟩, ?_⟩
            · show (l.length + 1) * 40 ≤ 140737488355328
              omega
            · show l.length + 1 ≤ 9223372036854775807
              omega
            conv => whnf
            refine hle _ _ (Le.cutEnv 3 rfl rfl ⟨rfl, rfl, ?_, trivial⟩ ?_ ?_) (ih ⟨l ++ [⟨kd, v, i, (s.drop i).take (runS partsT (s.drop i))⟩], i + runS partsT (s.drop i), n⟩ (Nat.lt_succ_self _) ⟨?_, ?_, ?_, ?_⟩)
            · exact tok_cl l ⟨kd, v, i, (s.drop i).take (runS partsT (s.drop i))⟩ _ 3 rfl
            · exact ⟨AV.le_refl _, AV.le_refl _, AV.le_refl _, AV.le_of_eq (slr_len _ _), trivial⟩
            · exact ⟨ABlk.le_refl _, ABlk.le_refl _, tokA_snoc l ⟨kd, v, i, (s.drop i).take (runS partsT (s.drop i))⟩ _ rfl, trivial⟩
            · simp only; omega
            · simp only; omega
            · simp only [List.length_append, List.length_cons, List.length_nil]; omega
            · rw [← he, app_cons, List.drop_drop]
        · conv => whnf
          repeat ((refine And.intro ?_ ?_); (focus ((conv => whnf); done)); (conv => whnf))
          refine ⟨⟨hsb, rfl⟩, ?_⟩
          conv => whnf
          repeat ((refine And.intro ?_ ?_); (focus ((conv => whnf); done)); (conv => whnf))
          refine ⟨(s.drop i).take (runS partsT (s.drop i)), (i : Int), congrArg (fun w => [AV.p (PV.str w), AV.p (PV.int .i64 (i : Int))]) hw, hwl, ?_⟩
          cases hwp : wordP ((s.drop i).take (runS partsT (s.drop i))) with
          | none =>
            rw [hwp] at he
            have hct : cutT s = .bad i := by rw [← he]; rfl
            rw [hct] at hk
            conv => whnf
            repeat ((refine And.intro ?_ ?_); (focus ((conv => whnf); done)); (conv => whnf))
            first | ((refine ⟨⟨hsb, rfl⟩, ?_⟩); (conv => whnf); repeat ((refine And.intro ?_ ?_); (focus ((conv => whnf); done)); (conv => whnf))) | skip
            exact hr _ _ _ _ (Wk1.refl _ _ _) rfl hk
          | some q =>
            obtain ⟨kd, v⟩ := q
            rw [hwp] at he
            simp only at he
            conv => whnf
            repeat ((refine And.intro ?_ ?_); (focus ((conv => whnf); done)); (conv => whnf))
            first | ((refine ⟨⟨hsb, rfl⟩, ?_⟩); (conv => whnf); repeat ((refine And.intro ?_ ?_); (focus ((conv => whnf); done)); (conv => whnf))) | skip
            refine ⟨⟨rfl, rfl, rfl, allLt_ok ⟨trivial, rfl⟩⟩, ?_⟩
            conv => whnf
            refine ⟨⟨rfl, rfl, rfl, rfl, ?_, ?_⟩, ?_⟩
            · show (l.length + 1) * 40 ≤ 140737488355328
              omega
            · show l.length + 1 ≤ 9223372036854775807
              omega
            conv => whnf
            refine hle _ _ (Le.cutEnv 3 rfl rfl ⟨rfl, rfl, ?_, trivial⟩ ?_ ?_) (ih ⟨l ++ [⟨kd, v, i, (s.drop i).take (runS partsT (s.drop i))⟩], i + runS partsT (s.drop i), n⟩ (Nat.lt_succ_self _) ⟨?_, ?_, ?_, ?_⟩)
            · exact tok_cl l ⟨kd, v, i, (s.drop i).take (runS partsT (s.drop i))⟩ _ 3 rfl
            · exact ⟨AV.le_refl _, AV.le_refl _, AV.le_refl _, AV.le_of_eq (slr_len _ _), trivial⟩
            · exact ⟨ABlk.le_refl _, ABlk.le_refl _, tokA_snoc l ⟨kd, v, i, (s.drop i).take (runS partsT (s.drop i))⟩ _ rfl, trivial⟩
            · simp only; omega
            · simp only; omega
            · simp only [List.length_append, List.length_cons, List.length_nil]; omega
            · rw [← he, app_cons, List.drop_drop]
      · have h4 : ¬ 0 < runS partsT (s.drop i) := by
          have := of_decide_eq_false h4
          have : ¬ ((i + runS partsT (s.drop i) : Nat) : Int) > (i : Int) := this
          omega
        rw [if_neg h4] at he
        conv => whnf
        refine ⟨(⟨by omega, (by show (i : Int) ≤ (s.length : Int); omega), Int.le_refl _⟩ : (0 : Int) ≤ (i : Int) ∧ (i : Int) ≤ Int.ofNat s.length ∧ Int.ofNat s.length ≤ (s.length : Int)), ?_⟩
        conv => whnf
        have hw : (s.take (Int.toNat (Int.ofNat s.length))).drop (Int.toNat (i : Int)) = s.drop i := by
          have e1 : Int.toNat (Int.ofNat s.length) = s.length := rfl
          rw [e1, Int.toNat_natCast, List.take_length]
        refine ⟨s.drop i, congrArg (fun w => [AV.p (PV.str w)]) hw, ?_, ?_, ?_⟩
        · simp only [List.length_drop]; omega
        · simp only [List.length_drop]; omega
        have hsl : signP (s.drop i) ≤ s.length - i := by
          unfold signP
          split
          · rename_i hpp
            simp only [pairP, Bool.and_eq_true, decide_eq_true_eq, List.length_drop] at hpp
            omega
          · split <;> omega
        generalize hsg : signP (s.drop i) = m at he hsl ⊢
        conv => whnf
        refine two_intro (fun h5 => ?_) (fun h5 => ?_)
        · have h5 : m = 0 := by
            have h5 : ((m : Int) == 0) = true := h5
            have := eq_of_beq h5
            omega
          subst h5
          have hct : cutT s = .bad i := by rw [← he]; rfl
          rw [hct] at hk
          conv => whnf
          exact hr _ _ _ _ (Wk1.refl _ _ _) rfl hk
        · cases m with
          | zero => exact absurd h5 (by simp)
          | succ m =>
          simp only at he
          conv => whnf
          refine ⟨(⟨by omega, ?_, ?_⟩ : (0 : Int) ≤ (i : Int) ∧ (i : Int) ≤ IntKind.i64.wrap ((i : Int) + ((m + 1 : Nat) : Int)) ∧ IntKind.i64.wrap ((i : Int) + ((m + 1 : Nat) : Int)) ≤ (s.length : Int)), ?_⟩
          · rw [w64 (by omega)]; omega
          · rw [w64 (by omega)]; omega
          conv => whnf
          repeat ((refine And.intro ?_ ?_); (focus ((conv => whnf); done)); (conv => whnf))
          have hw2 : (s.take (Int.toNat (IntKind.i64.wrap ((i : Int) + ((m + 1 : Nat) : Int))))).drop (Int.toNat (i : Int)) = (s.drop i).take (m + 1) := by
            rw [w64 (by omega)]
            have e1 : Int.toNat ((i : Int) + ((m + 1 : Nat) : Int)) = i + (m + 1) := by omega
            rw [e1, Int.toNat_natCast, List.drop_take, Nat.add_sub_cancel_left]
          have hcells := congrArg (fun w => [AV.p (.int .i64 3), AV.p (.int .i64 0), AV.p (.int .i64 (i : Int)), AV.p (.str w)]) hw2
          refine ⟨⟨rfl, rfl, rfl, allLt_ok ⟨trivial, rfl⟩⟩, ?_⟩
          conv => whnf
          refine ⟨⟨rfl, rfl, rfl, rfl, ?_, ?_⟩, ?_⟩
          · show (l.length + 1) * 40 ≤ 140737488355328
            omega
          · show l.length + 1 ≤ 9223372036854775807
            omega
          conv => whnf
          repeat ((refine And.intro ?_ ?_); (focus ((conv => whnf); done)); (conv => whnf))
          refine hle _ _ (Le.cutEnv 3 rfl rfl ⟨rfl, rfl, ?_, trivial⟩ ?_ ?_) (ih ⟨l ++ [⟨.sign, 0, i, (s.drop i).take (m + 1)⟩], i + (m + 1), n⟩ (Nat.lt_succ_self _) ⟨?_, ?_, ?_, ?_⟩)
          · exact tok_cl l ⟨.sign, 0, i, (s.drop i).take (m + 1)⟩ _ 3 hcells
          · exact ⟨AV.le_refl _, AV.le_refl _, AV.le_refl _, AV.le_of_eq (slr_len _ _), trivial⟩
          · refine ⟨ABlk.le_refl _, ABlk.le_of_eq ?_, tokA_snoc l ⟨.sign, 0, i, (s.drop i).take (m + 1)⟩ _ hcells, trivial⟩
            show ABlk.box 3 [.p (.int .i64 (IntKind.i64.wrap ((i : Int) + ((m + 1 : Nat) : Int))))] = _
            rw [w64 (by omega)]; rfl
          · simp only; omega
          · simp only; omega
          · simp only [List.length_append, List.length_cons, List.length_nil]; omega
          · rw [← he, app_cons, List.drop_drop]
  · rw [hd2] at h
    have h := of_decide_eq_false h
    obtain rfl : i = s.length := by omega
    rw [List.drop_length] at he
    have hct : cutT s = .ok l := by
      rw [← he]
      cases n <;> simp [cutS, CR.app]
    rw [hct] at hk
    conv => whnf
    refine ⟨⟨rfl, rfl, rfl, allLt_ok ⟨trivial, rfl⟩⟩, ?_⟩
    conv => whnf
    refine ⟨⟨rfl, rfl, rfl, rfl, ?_, ?_⟩, ?_⟩
    · show (l.length + 1) * 40 ≤ 140737488355328
      omega
    · show l.length + 1 ≤ 9223372036854775807
      omega
    conv => whnf
    exact hr _ _ _ _ (Wk1.tup_freeze1 (r := 2) rfl (encs s.length l) (enc_all _ _ _ rfl)) rfl hk
end Go.Proofs.YtbcngegcpdppfaaGreatDoor
