/-
  Trees, part 2: the contracts of tree.sizes, Sound, Depth. No statement of the seat is proved here.
-/
import Derived.Test.YtbcngegcpdppfaaGreatDoorTrSpec
import Derived.Test.YtbcngegcpdppfaaGreatDoorTk2
import Derived.Test.YtbcngegcpdppfaaGreatDoorAeKit4
namespace Go.Proofs.YtbcngegcpdppfaaGreatDoor
open Go.AE Go.Ru
set_option maxRecDepth 100000
set_option pp.maxSteps 4000

theorem ent_ok {f : FuncId} (h : ∃ fn, T0.f.get f = some fn ∧ fn.body.isSome = true) : Ent Tryz.prog f := by
  obtain ⟨fn, h1, h2⟩ := h
  obtain ⟨h3, h4⟩ := tabOk.f f fn h1
  exact ⟨fn, h3, h4, h2⟩
theorem kids_bound {w : World} {I : Nat → Prop} {ns : List Nd} {u : Value} (h : VP w I (.sl 5 ns.length (nodeF ns)) u) (i : Nat) : (ns.getD i default).kids.length ≤ 9223372036854775807 := by
  by_cases hi : i < ns.length
  · obtain ⟨u, hu⟩ := h.get (i := i) (j := 4) hi (by simp [nodeF, encNode])
    exact VP.len (show VP w I (.sl 1 (ns.getD i default).kids.length (kidF (ns.getD i default).kids)) u from hu)
  · rw [List.getD_eq_getElem?_getD, List.getElem?_eq_none (by omega)]
    exact Nat.zero_le _

def natF (l : List Nat) (i : Nat) : List PV := [.int .i64 (l.getD i 0 : Nat)]
def natA (l : List Nat) : ABlk := .arr 3 1 0 l.length (fun i => pvs (natF l i))
def sizesV : Option (List Nat) → AV
  | some l => .tup [.p (.sl 1 l.length (natF l)), .p (.bool true)]
  | none => .tup [.p .nils, .p (.bool false)]
def cSizes : AC := fun args K k => ∃ (ns : List Nd), args = [.p (.sl 5 ns.length (nodeF ns))] ∧ ns.length ≤ 4000 ∧ k (.ret (sizesV (sizesS ns []))) K

structure RC where
  j : Nat
  size : Nat
  last : Int
def sizK (l : List Nat) : List ABlk := [.box 39 [.p .nils], .box 4 [.p (.bool false)], .box 39 [.slr 3 0 0 l.length], natA l]
theorem natA_snoc (l : List Nat) (x : Nat) (f : Nat → List AV) (hf : f 0 = [intV x]) : (ABlk.arr 3 1 0 (l.length + 1) (catF l.length (fun i => pvs (natF l i)) f)).le (natA (l ++ [x])) := by
  refine ABlk.arr_eq (by simp) fun i hi => ?_
  by_cases h : i < l.length
  · rw [catF_lt h]
    simp [natF, List.getD_eq_getElem?_getD, List.getElem?_append_left h]
  · obtain rfl : i = l.length := by omega
    rw [catF_ge (Nat.le_refl _), Nat.sub_self, hf]
    simp [natF, List.getD_eq_getElem?_getD, pvs, intV]
theorem nat_cl (l : List Nat) (x : Nat) (f : Nat → List AV) (n : Nat) (hf : f 0 = [intV x]) : (ABlk.arr 3 1 0 (l.length + 1) (catF l.length (fun i => pvs (natF l i)) f)).cl n := fun i hi => by
  by_cases h : i < l.length
  · rw [catF_lt h]; rfl
  · obtain rfl : i = l.length := by omega
    rw [catF_ge (Nat.le_refl _), Nat.sub_self, hf]; rfl
theorem sizes_ok : COk 67 cSizes := by
  rintro args K k ⟨ns, rfl, hn, hk⟩
  refine ACalls.fact (ent_ok ⟨_, rfl, rfl⟩) (c := ∀ i, (ns.getD i default).kids.length ≤ 9223372036854775807) (fun w m Args hS hV => ?_) fun hkid => ?_
  · have h0 := hV.2 0 (by simp) (by have := hV.1; simp at this; omega)
    simp only [List.getElem_cons_zero] at h0
    generalize Args[0]'(by have := hV.1; simp at this; omega) = u at h0
    cases h0 with
    | p _ _ h => exact kids_bound h
  refine frame0W g0_ok 19 rfl fun Q hr => ?_
  conv => whnf
  refine loop_nil (ι := List Nat) 3 1 (fun j => pvs (natF [] j)) (fun l => ⟨[(2, .ptr 0 0 1 0 0), (3, .ptr 1 0 1 0 0), (4, .ptr 2 0 1 0 0), (11, .p (.sl 5 ns.length (nodeF ns))), (12, .p (.int .i64 ns.length)), (13, .p (.int .i64 l.length))], sizK l⟩)
    (fun l => l.length ≤ ns.length ∧ szOk l ∧ sizesS (ns.drop l.length) l = sizesS ns []) (fun l => ns.length - l.length) [] [.box 39 [.p .nils], .box 4 [.p (.bool false)], .box 39 [.slr 3 0 0 0]]
    rfl ⟨.inl (AV.le_refl _), .inl (AV.le_refl _), .inl (AV.le_refl _), .inl (AV.le_refl _), .inl (AV.le_refl _), .inl (AV.le_refl _), trivial⟩
    ⟨.inl (ABlk.le_refl _), .inl (ABlk.le_refl _), .inr ⟨_, _, _, rfl, rfl, .inr ⟨rfl, rfl⟩, trivial⟩, trivial⟩ rfl ⟨Nat.zero_le _, fun i hi => by simp at hi, rfl⟩ ?_
  rintro Y hle l ⟨hl, hso, he⟩ ih
  have hd : decide ((l.length : Int) < (ns.length : Int)) = decide (l.length < ns.length) := by
    by_cases h : l.length < ns.length
    · rw [decide_eq_true h, decide_eq_true (by omega)]
    · rw [decide_eq_false h, decide_eq_false (by omega)]
  conv => whnf
  refine two_intro (fun h => ?_) (fun h => ?_)
  · rw [hd] at h
    have h := of_decide_eq_true h
    have hs2 : ns.drop l.length = ns[l.length] :: ns.drop (l.length + 1) := List.drop_eq_getElem_cons h
    have hgd : ns.getD l.length default = ns[l.length] := by simp [h]
    rw [hs2] at he
    simp only [sizesS] at he
    rw [← hgd] at he
    have hkl := hkid l.length
    have hwr : IntKind.i64.wrap ((l.length : Int) - 1) = (l.length : Int) - 1 := w64 ⟨by omega, by omega⟩
    have hwk : IntKind.i64.wrap (((ns.getD l.length default).kids.length : Int) - 1) = ((ns.getD l.length default).kids.length : Int) - 1 := w64 ⟨by omega, by omega⟩
    conv => whnf
    refine ⟨by simp <;> omega, ?_⟩
    conv => whnf
    refine loop_up (ι := RC) [0, 1] (fun c => [(3, .p (.int .i64 ((c.j : Int) - 1)))]) (fun c => [(5, .box 3 [.p (.int .i64 (c.size : Int))]), (6, .box 3 [.p (.int .i64 c.last)])])
      (fun c => c.j ≤ (ns.getD l.length default).kids.length ∧ c.last < l.length ∧ -1 ≤ c.last ∧ (c.size : Int) = l.length - c.last ∧
        kidsS l ((ns.getD l.length default).kids.take c.j).reverse c.last c.size = kidsS l (ns.getD l.length default).kids.reverse ((l.length : Int) - 1) 1) (fun c => c.j) ⟨(ns.getD l.length default).kids.length, 1, (l.length : Int) - 1⟩
      ⟨AV.le_of_eq (congrArg (fun x => AV.p (.int .i64 x)) hwk), trivial⟩ ⟨upLe1 rfl (ABlk.le_refl _), upLe1 rfl (ABlk.le_of_eq (congrArg (fun x => ABlk.box 3 [.p (.int .i64 x)]) hwr)), trivial⟩
      ⟨Nat.le_refl _, by simp only; omega, by simp only; omega, by simp only; omega, by simp only [List.take_length]⟩ ?_
    rintro Z hlz ⟨j, size, last⟩ ⟨hj, hl1, hl2, hl3, hke⟩ ihz
    simp only at hj hl1 hl2 hl3 hke
    have hdj : decide (((j : Int) - 1) ≥ 0) = decide (0 < j) := by
      by_cases h : 0 < j
      · rw [decide_eq_true h, decide_eq_true (by omega)]
      · rw [decide_eq_false h, decide_eq_false (by omega)]
    conv => whnf
    refine two_intro (fun hjj => ?_) (fun hjj => ?_)
    · rw [hdj] at hjj
      have hjj := of_decide_eq_true hjj
      obtain ⟨j, rfl⟩ : ∃ i, j = i + 1 := ⟨j - 1, by omega⟩
      obtain ⟨q, hq⟩ : ∃ q, (ns.getD l.length default).kids.getD j 0 = q := ⟨_, rfl⟩
      have htk : ((ns.getD l.length default).kids.take (j + 1)).reverse = q :: ((ns.getD l.length default).kids.take j).reverse := by
        rw [List.take_add_one, List.reverse_append, ← hq]
        have hlt : j < (ns.getD l.length default).kids.length := by omega
        generalize (ns.getD l.length default).kids = ks at hlt
        rw [List.getD_eq_getElem?_getD, List.getElem?_eq_getElem hlt]
        rfl
      rw [htk] at hke
      simp only [kidsS] at hke
      have hjt : (((j + 1 : Nat) : Int) - 1).toNat = j := by omega
      have hbad : (q == last && decide (0 ≤ q)) = false → k (.ret (.tup [.p .nils, .p (.bool false)])) K := fun hb => by
        rw [hb] at hke
        simp only at hke
        rw [← hke] at he
        simp only at he
        rw [← he] at hk
        exact hk
      conv => whnf
      refine ⟨⟨by show (0 : Int) ≤ ((j + 1 : Nat) : Int) - 1; omega, by show ((j + 1 : Nat) : Int) - 1 < ((ns.getD l.length default).kids.length : Int); omega, rfl⟩, ?_⟩
      conv => whnf
      refine two_intro (fun hne => ?_) (fun hne => ?_)
      · have hne : ((ns.getD l.length default).kids.getD (((j + 1 : Nat) : Int) - 1).toNat 0 != last) = true := hne
        rw [hjt, hq] at hne
        conv => whnf
        exact hr _ _ _ _ (Wk1.refl _ _ _) rfl (hbad (by simp at hne; simp [hne]))
      · have hne : ((ns.getD l.length default).kids.getD (((j + 1 : Nat) : Int) - 1).toNat 0 != last) = false := hne
        rw [hjt, hq] at hne
        conv => whnf
        refine two_intro (fun hn0 => ?_) (fun hn0 => ?_)
        · have hn0 : decide ((ns.getD l.length default).kids.getD (((j + 1 : Nat) : Int) - 1).toNat 0 < 0) = true := hn0
          rw [hjt, hq] at hn0
          conv => whnf
          exact hr _ _ _ _ (Wk1.refl _ _ _) rfl (hbad (by have := of_decide_eq_true hn0; simp [show ¬ (0 ≤ q) by omega]))
        · have hn0 : decide ((ns.getD l.length default).kids.getD (((j + 1 : Nat) : Int) - 1).toNat 0 < 0) = false := hn0
          rw [hjt, hq] at hn0
          have hn0 := of_decide_eq_false hn0
          have hql : q = last := by simpa using hne
          subst hql
          rw [show (q == q && decide (0 ≤ q)) = true by simp; omega] at hke
          simp only at hke
          have hsq := hso q.toNat (by omega)
          have hC : ∀ x : Int, x = q → 0 ≤ x ∧ x < (l.length : Int) := fun x hx => by subst hx; omega
          have hqe : (ns.getD l.length default).kids.getD (((j + 1 : Nat) : Int) - 1).toNat 0 = q := by rw [hjt, hq]
          conv => whnf
          refine ⟨⟨rfl, Nat.zero_add _, (hC _ hqe).1, (hC _ hqe).2, rfl⟩, ?_⟩
          conv => whnf
          refine ⟨⟨rfl, rfl⟩, ?_⟩
          conv => whnf
          refine ⟨⟨rfl, Nat.zero_add _, (hC _ hqe).1, (hC _ hqe).2, rfl⟩, ?_⟩
          conv => whnf
          refine ⟨⟨rfl, rfl⟩, ?_⟩
          conv => whnf
          have hszq : IntKind.i64.wrap ((size : Int) + (l.getD q.toNat 0 : Nat)) = ((size + l.getD q.toNat 0 : Nat) : Int) := by rw [w64 ⟨by omega, by omega⟩]; omega
          have hlaq : IntKind.i64.wrap (q - (l.getD q.toNat 0 : Nat)) = q - (l.getD q.toNat 0 : Nat) := w64 ⟨by omega, by omega⟩
          have hjq : IntKind.i64.wrap ((((j + 1 : Nat) : Int) - 1) - 1) = (j : Int) - 1 := by rw [w64 ⟨by omega, by omega⟩]; omega
          refine hlz _ _ (Le.cutEnv 9 rfl rfl ⟨rfl, rfl, rfl, fun _ _ => rfl, rfl, rfl, rfl, rfl, rfl, trivial⟩
            ?e1 ?e2)
            (ihz ⟨j, size + l.getD q.toNat 0, q - (l.getD q.toNat 0 : Nat)⟩ (Nat.lt_succ_self _) ⟨?_, ?_, ?_, ?_, hke⟩)
          case e1 =>
            (conv => whnf)
            refine ⟨AV.le_of_eq (congrArg (fun x => AV.p (.int .i64 x)) hjq), ?_⟩
            (conv => whnf)
            refine ⟨AV.le_refl _, ?_⟩
            (conv => whnf)
            refine ⟨AV.le_refl _, ?_⟩
            (conv => whnf)
            exact trivial
          case e2 =>
            (conv => whnf)
            refine ⟨ABlk.le_refl _, ?_⟩
            (conv => whnf)
            refine ⟨ABlk.le_refl _, ?_⟩
            (conv => whnf)
            refine ⟨ABlk.le_refl _, ?_⟩
            (conv => whnf)
            refine ⟨ABlk.le_refl _, ?_⟩
            (conv => whnf)
            refine ⟨ABlk.le_refl _, ?_⟩
            (conv => whnf)
            refine ⟨ABlk.le_of_eq (congrArg (fun x => ABlk.box 3 [.p (.int .i64 x)]) (show IntKind.i64.wrap ((size : Int) + (l.getD (0 + ((ns.getD l.length default).kids.getD (((j + 1 : Nat) : Int) - 1).toNat 0).toNat) 0 : Nat)) = ((size + l.getD q.toNat 0 : Nat) : Int) by rw [hqe, Nat.zero_add]; exact hszq)), ?_⟩
            (conv => whnf)
            refine ⟨ABlk.le_of_eq (congrArg (fun x => ABlk.box 3 [.p (.int .i64 x)]) (show IntKind.i64.wrap ((ns.getD l.length default).kids.getD (((j + 1 : Nat) : Int) - 1).toNat 0 - (l.getD (0 + ((ns.getD l.length default).kids.getD (((j + 1 : Nat) : Int) - 1).toNat 0).toNat) 0 : Nat)) = q - (l.getD q.toNat 0 : Nat) by rw [hqe, Nat.zero_add]; exact hlaq)), ?_⟩
            (conv => whnf)
            refine ⟨ABlk.le_refl _, ?_⟩
            (conv => whnf)
            refine ⟨ABlk.le_refl _, ?_⟩
            (conv => whnf)
            exact trivial
          · show j ≤ _; omega
          · show q - (l.getD q.toNat 0 : Nat) < _; omega
          · show -1 ≤ q - (l.getD q.toNat 0 : Nat); omega
          · show ((size + l.getD q.toNat 0 : Nat) : Int) = _ - (q - (l.getD q.toNat 0 : Nat)); omega
    · rw [hdj] at hjj
      have hjj := of_decide_eq_false hjj
      obtain rfl : j = 0 := by omega
      simp only [List.take_zero, List.reverse_nil, kidsS] at hke
      rw [← hke] at he
      simp only at he
      have hinv := kidsS_inv hso _ _ _ size (by omega) (by omega) (by omega) hke.symm
      conv => whnf
      refine ⟨⟨rfl, rfl, rfl, allLt_ok ⟨trivial, rfl⟩⟩, ?_⟩
      conv => whnf
      refine ⟨⟨rfl, rfl, rfl, rfl, ?_, ?_⟩, ?_⟩
      · show (l.length + 1) * 8 ≤ 140737488355328
        omega
      · show l.length + 1 ≤ 9223372036854775807
        omega
      conv => whnf
      refine hle _ _ (Le.cutEnv 4 rfl rfl ⟨rfl, rfl, rfl, nat_cl l size _ 4 rfl, trivial⟩ ?e1 ?e2) (ih (l ++ [size]) ?_ ⟨?_, szOk_snoc hso hinv, ?_⟩)
      case e1 =>
        (conv => whnf)
        refine ⟨AV.le_refl _, ?_⟩
        (conv => whnf)
        refine ⟨AV.le_refl _, ?_⟩
        (conv => whnf)
        refine ⟨AV.le_refl _, ?_⟩
        (conv => whnf)
        refine ⟨AV.le_refl _, ?_⟩
        (conv => whnf)
        refine ⟨AV.le_refl _, ?_⟩
        (conv => whnf)
        refine ⟨AV.le_of_eq (congrArg (fun x => AV.p (.int .i64 x)) (show IntKind.i64.wrap ((l.length : Int) + 1) = ((l ++ [size]).length : Int) by rw [w64 ⟨by omega, by omega⟩]; simp)), ?_⟩
        (conv => whnf)
        exact trivial
      case e2 =>
        (conv => whnf)
        refine ⟨ABlk.le_refl _, ?_⟩
        (conv => whnf)
        refine ⟨ABlk.le_refl _, ?_⟩
        (conv => whnf)
        refine ⟨ABlk.le_of_eq (congrArg (fun x => ABlk.box 39 [.slr 3 0 0 x]) (show l.length + 1 = (l ++ [size]).length by simp)), ?_⟩
        (conv => whnf)
        refine ⟨natA_snoc l size _ rfl, ?_⟩
        (conv => whnf)
        exact trivial
      · show ns.length - (l ++ [size]).length < ns.length - l.length
        simp only [List.length_append, List.length_cons, List.length_nil]; omega
      · show (l ++ [size]).length ≤ ns.length
        simp only [List.length_append, List.length_cons, List.length_nil]; omega
      · show sizesS (ns.drop (l ++ [size]).length) (l ++ [size]) = _
        rw [← he]
        simp only [List.length_append, List.length_cons, List.length_nil]
  · rw [hd] at h
    have h := of_decide_eq_false h
    rw [List.drop_of_length_le (by omega)] at he
    simp only [sizesS] at he
    rw [← he] at hk
    conv => whnf
    exact hr _ _ _ _ (Wk1.tup_freeze1 (r := 3) rfl (natF l) (fun _ _ => rfl)) rfl hk

def gR1 : AG := gput 67 cSizes g0
theorem gR1_ok : GOk Tryz.prog gR1 := gput_ok sizes_ok g0_ok
def treeV (ns : List Nd) (root : Int) : AV := .agg [.p (.sl 5 ns.length (nodeF ns)), .p (.int .i64 root)]
def cSound : AC := fun args K k => ∃ (ns : List Nd) (root : Int), args = [treeV ns root] ∧ ns.length < 1000000 ∧ k (.ret (.p (.bool (soundS ns root)))) K
theorem sound_ok : COk 32 cSound := by
  rintro args K k ⟨ns, root, rfl, hn, hk⟩
  refine frame0P gR1_ok 19 rfl fun Q hr => ?_
  have hbad : soundS ns root = false → k (.ret (.p (.bool false))) K := fun h => by rwa [h] at hk
  have hw : (0 : Int) < ns.length → IntKind.i64.wrap ((ns.length : Int) - 1) = (ns.length : Int) - 1 := fun h => w64 ⟨by omega, by omega⟩
  conv => whnf
  refine two_intro (fun h1 => ?_) (fun h1 => ?_)
  · conv => whnf
    exact hr _ _ rfl (hbad (by
      have : ns.length = 0 := by have := beq_iff_eq.1 h1; omega
      simp [soundS, this]))
  have h1 : 0 < ns.length := by
    have : ¬ ((ns.length : Int) = 0) := by simpa using h1
    omega
  conv => whnf
  refine two_intro (fun h2 => ?_) (fun h2 => ?_)
  · conv => whnf
    exact hr _ _ rfl (hbad (by
      have : (ns.length : Int) > 4000 := of_decide_eq_true h2
      simp [soundS, show 4000 < ns.length by omega]))
  have h2 : ns.length ≤ 4000 := by
    have : ¬ ((ns.length : Int) > 4000) := of_decide_eq_false h2
    omega
  conv => whnf
  refine two_intro (fun h3 => ?_) (fun h3 => ?_)
  · have h3 : (root != IntKind.i64.wrap ((ns.length : Int) - 1)) = true := h3
    rw [hw (by omega)] at h3
    conv => whnf
    exact hr _ _ rfl (hbad (by simp only [soundS, h3]; simp))
  have h3 : (root != IntKind.i64.wrap ((ns.length : Int) - 1)) = false := h3
  rw [hw (by omega)] at h3
  have h4 : root = (ns.length : Int) - 1 := by simpa using h3
  conv => whnf
  refine ⟨ns, rfl, h2, ?_⟩
  cases hz : sizesS ns [] with
  | none =>
    conv => whnf
    exact hr _ _ rfl (hbad (by simp [soundS, hz]))
  | some l =>
    obtain ⟨hl, _, _⟩ := sizesS_inv ns [] l (fun i hi => by simp at hi) hz
    simp only [List.length_nil, Nat.zero_add] at hl
    conv => whnf
    refine ⟨⟨by omega, by omega, rfl⟩, ?_⟩
    conv => whnf
    refine hr _ _ rfl ?_
    have e : soundS ns root = (l.getD root.toNat 0 == ns.length) := by
      have e1 : (ns.length == 0) = false := beq_eq_false_iff_ne.2 (by omega)
      have e2 : decide (4000 < ns.length) = false := decide_eq_false (by omega)
      simp only [soundS, hz, h3, e1, e2, Bool.or_self, Bool.not_false, Bool.true_and]
    rw [e] at hk
    have e2 : (((l.getD root.toNat 0 : Nat) : Int) == ((l.length : Nat) : Int)) = (l.getD root.toNat 0 == ns.length) := by
      rw [hl]
      by_cases h : l.getD root.toNat 0 = ns.length
      · rw [h]; simp
      · have : ¬ ((l.getD root.toNat 0 : Nat) : Int) = ((ns.length : Nat) : Int) := by omega
        rw [beq_eq_false_iff_ne.2 this, beq_eq_false_iff_ne.2 h]
    rw [← e2] at hk
    exact hk

/-! ### depth -/
def deepK (ns : List Nd) (root : Int) : List ABlk := [.box 25 [.p (.sl 5 ns.length (nodeF ns)), .p (.int .i64 root)], .box 61 [.fn 33 [] [.ptr 0 0 1 0 0, .ptr 1 0 1 0 0]]]
/-- a node's depth: of those behind which there are fewer than n -/
def cDeep (n : Nat) : AC := fun args K k => ∃ (ns : List Nd) (root : Int) (p : Int) (X : List ABlk), args = [.p (.int .i64 p), .ptr 0 0 1 0 0, .ptr 1 0 1 0 0] ∧ K = deepK ns root ++ X ∧ 0 ≤ p ∧ p < n ∧ p < ns.length ∧ ns.length ≤ 4000 ∧ n ≤ 4000 ∧
  (∀ j, j < ns.length → ∀ k ∈ (ns.getD j default).kids, 0 ≤ k ∧ k < (j : Int)) ∧ (∀ i, (ns.getD i default).kids.length ≤ 9223372036854775807) ∧ k (.ret (intV (deepS ns n p))) (deepK ns root ++ X)
structure DC where
  j : Nat
  d : Nat
theorem deep_ok (n : Nat) : COk 33 (cDeep n) := by
  induction n with
  | zero => rintro args K k ⟨ns, root, p, X, rfl, rfl, h1, h2, _⟩; omega
  | succ n ihn =>
  rintro args K k ⟨ns, root, p, X, rfl, rfl, h1, h2, h3, h4, h5, hsd, hkid, hk⟩
  refine frameS (K0 := deepK ns root) (gput_ok ihn g0_ok) 19 rfl ⟨rfl, rfl, trivial⟩ fun Q hr => ?_
  have hkl := hkid p.toNat
  conv => whnf
  refine ⟨⟨by omega, by omega, rfl⟩, ?_⟩
  conv => whnf
  obtain ⟨ks, hks⟩ : ∃ ks, (ns.getD p.toNat default).kids = ks := ⟨_, rfl⟩
  have hmem := hsd p.toNat (by omega)
  simp only [deepS] at hk
  rw [hks] at hkl hmem hk
  refine loop_up (ι := DC) [1, 2, 13, 14] (fun c => [(5, .p (.int .i64 (c.d : Int))), (15, .p (.int .i64 (c.j : Int)))]) (fun _ => [])
    (fun c => c.j ≤ ks.length ∧ c.d ≤ n ∧ (ks.drop c.j).foldl (fun d k => max d (deepS ns n k)) c.d = ks.foldl (fun d k => max d (deepS ns n k)) 0) (fun c => ks.length - c.j) ⟨0, 0⟩
    ⟨AV.le_refl _, AV.le_refl _, trivial⟩ trivial ⟨Nat.zero_le _, Nat.zero_le _, rfl⟩ ?_
  rintro Y hle ⟨j, d⟩ ⟨hj, hd, he⟩ ih
  simp only at hj hd he
  have hdj : decide ((j : Int) < ((ns.getD p.toNat default).kids.length : Int)) = decide (j < ks.length) := by
    rw [hks]
    by_cases h : j < ks.length
    · rw [decide_eq_true h, decide_eq_true (by omega)]
    · rw [decide_eq_false h, decide_eq_false (by omega)]
  conv => whnf
  refine two_intro (fun h => ?_) (fun h => ?_)
  · have h := of_decide_eq_true (hdj ▸ h)
    have hq : (ns.getD p.toNat default).kids.getD (j : Int).toNat 0 = ks[j] := by rw [hks]; simp [h]
    have hqm := hmem ks[j] (List.getElem_mem h)
    rw [List.drop_eq_getElem_cons h, List.foldl_cons] at he
    conv => whnf
    refine ⟨⟨by omega, by rw [hks]; show (j : Int) < (ks.length : Int); omega, rfl⟩, ?_⟩
    conv => whnf
    refine ⟨ns, root, _, [], rfl, rfl, by rw [hq]; omega, by rw [hq]; omega, by rw [hq]; omega, h4, by omega, hsd, hkid, ?_⟩
    conv => whnf
    have hdl := deepS_le ns n ks[j]
    refine hle _ _ (Le.cutEnv 2 rfl rfl ⟨rfl, rfl, trivial⟩ ?e1 ?e2) (ih ⟨j + 1, max d (deepS ns n ks[j])⟩ ?_ ⟨?_, ?_, he⟩)
    case e1 =>
      have hmx : (if ((deepS ns n ((ns.getD p.toNat default).kids.getD (j : Int).toNat 0) : Nat) : Int) > (d : Int) then ((deepS ns n ((ns.getD p.toNat default).kids.getD (j : Int).toNat 0) : Nat) : Int) else (d : Int)) = ((max d (deepS ns n ks[j]) : Nat) : Int) := by
        rw [hq]
        split <;> omega
      (conv => whnf)
      refine ⟨AV.le_of_eq (congrArg (fun x => AV.p (.int .i64 x)) hmx), ?_⟩
      (conv => whnf)
      refine ⟨AV.le_of_eq (congrArg (fun x => AV.p (.int .i64 x)) (show IntKind.i64.wrap ((j : Int) + 1) = ((j + 1 : Nat) : Int) by rw [w64 ⟨by omega, by omega⟩]; omega)), ?_⟩
      (conv => whnf)
      refine ⟨AV.le_refl _, ?_⟩
      (conv => whnf)
      refine ⟨AV.le_refl _, ?_⟩
      (conv => whnf)
      refine ⟨AV.le_refl _, ?_⟩
      (conv => whnf)
      refine ⟨AV.le_refl _, ?_⟩
      (conv => whnf)
      exact trivial
    case e2 =>
      (conv => whnf)
      refine ⟨ABlk.le_refl _, ?_⟩
      (conv => whnf)
      refine ⟨ABlk.le_refl _, ?_⟩
      (conv => whnf)
      exact trivial
    · show ks.length - (j + 1) < ks.length - j
      omega
    · show j + 1 ≤ ks.length
      omega
    · exact Nat.max_le.2 ⟨hd, hdl⟩
  · have h := of_decide_eq_false (hdj ▸ h)
    rw [List.drop_of_length_le (by omega), List.foldl_nil] at he
    have hw : IntKind.i64.wrap ((d : Int) + 1) = ((ks.foldl (fun d k => max d (deepS ns n k)) 0 + 1 : Nat) : Int) := by rw [w64 ⟨by omega, by omega⟩]; omega
    rw [← hw] at hk
    conv => whnf
    exact hr _ _ rfl (Nat.le_refl _) rfl hk

def gR2 : AG := gput 32 cSound (gput 33 (cDeep 4000) g0)
theorem gR2_ok : GOk Tryz.prog gR2 := gput_ok sound_ok (gput_ok (deep_ok 4000) g0_ok)
def cDepth : AC := fun args K k => ∃ (ns : List Nd) (root : Int), args = [treeV ns root] ∧ ns.length < 1000000 ∧ k (.ret (intV (depthS ns root))) K
theorem deepS_more (ns : List Nd) (hsd : ∀ j, j < ns.length → ∀ k ∈ (ns.getD j default).kids, 0 ≤ k ∧ k < (j : Int)) : ∀ (n m : Nat) (p : Int), 0 ≤ p → p < n → p < ns.length → n ≤ m → deepS ns n p = deepS ns m p := by
  intro n
  induction n with
  | zero => intro m p h1 h2; omega
  | succ n ih =>
    intro m p h1 h2 h3 hm
    obtain ⟨m, rfl⟩ : ∃ i, m = i + 1 := ⟨m - 1, by omega⟩
    simp only [deepS]
    have hk := hsd p.toNat (by omega)
    generalize (ns.getD p.toNat default).kids = ks at hk
    have : ∀ d, ks.foldl (fun d k => max d (deepS ns n k)) d = ks.foldl (fun d k => max d (deepS ns m k)) d := by
      induction ks with
      | nil => intro d; rfl
      | cons q ks ihk =>
        intro d
        have hq := hk q (List.mem_cons_self ..)
        simp only [List.foldl_cons]
        rw [ih m q (by omega) (by omega) (by omega) (by omega)]
        exact ihk (fun k hk' => hk k (List.mem_cons_of_mem _ hk')) _
    rw [this]
theorem depth_ok : COk 16 cDepth := by
  rintro args K k ⟨ns, root, rfl, hn, hk⟩
  refine ACalls.fact (ent_ok ⟨_, rfl, rfl⟩) (c := ∀ i, (ns.getD i default).kids.length ≤ 9223372036854775807) (fun w m Args hS hV => ?_) fun hkid => ?_
  · have h0 := hV.2 0 (by simp) (by have := hV.1; simp at this; omega)
    simp only [List.getElem_cons_zero, treeV] at h0
    generalize Args[0]'(by have := hV.1; simp at this; omega) = u at h0
    cases h0 with
    | agg cs A hA h =>
      have h1 := h 0 (by simp) (by simp at hA; omega)
      simp only [List.getElem_cons_zero] at h1
      generalize A[0]'(by simp at hA; omega) = u1 at h1
      cases h1 with
      | p _ _ h => exact kids_bound h
  refine frame0P gR2_ok 19 rfl fun Q hr => ?_
  conv => whnf
  refine ⟨ns, root, rfl, hn, ?_⟩
  cases hs : soundS ns root with
  | false =>
    conv => whnf
    simp only [depthS, hs] at hk
    exact hr _ _ rfl hk
  | true =>
    obtain ⟨h1, h2, h3, h4⟩ := soundS_ok hs
    conv => whnf
    refine ⟨ns, root, root, [], rfl, rfl, by omega, by omega, by omega, h2, Nat.le_refl _, h4, hkid, ?_⟩
    simp only [depthS, hs] at hk
    rw [deepS_more ns h4 ns.length 4000 root (by omega) (by omega) (by omega) h2] at hk
    conv => whnf
    exact hr _ _ rfl hk
end Go.Proofs.YtbcngegcpdppfaaGreatDoor
