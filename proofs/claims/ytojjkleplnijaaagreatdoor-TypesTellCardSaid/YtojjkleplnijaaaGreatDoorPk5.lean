/-
  Trees, part 2: the contracts of tree.sizes, Sound, Depth. No statement of the seat is proved here.
  AE, part 13: tests as propositions. Own metatheory over any program; no statement of the seat is proved here.
  Trees that are right, part 2: the contracts of tree.text, number, kids, Right. No statement of the seat is proved here.
  Trees that are right, part 3: the contract of tree.Right. No statement of the seat is proved here.
  AE, part 14: rows frozen behind a call, of which other rows and aggregates tell. Own metatheory over any program; no statement of the seat is proved here.
  AE, part 15: all that a heap holds becomes data at once: rows, maps, variables. Own metatheory over any program; no statement of the seat is proved here.
  Types, part 3: the contract of tree.Parents; what is known of a program's names, as data; contracts of means, proc, kind. No statement of the seat is proved here.
  The reference of layer 4, part 4: the contracts of begins, Sound, Parents, Depth. No statement of the seat is proved here.
  The reference of layer 4, part 5: the contracts of Parents, Depth. No statement of the seat is proved here.
  The reference of layer 3, part 2: contracts of its small functions. No statement of the seat is proved here.
  Types, part 4: what is known of a program's names, as data; contracts of means, proc, kind, params. No statement of the seat is proved here.
  The reference of layer 4, part 6: the contracts of its shapes. No statement of the seat is proved here.
  Types, part 5: contracts of slices.Equal of ints, plain, expr, all, operands. No statement of the seat is proved here.
  Types, part 6: contracts of all, operands. No statement of the seat is proved here.
  Types, part 2: the plain laws of TypesOwner and TypesMean. No program in sight; no statement of the seat is proved here.
-/
import Derived.Test.YtojjkleplnijaaaGreatDoorPk1
import Derived.Test.YtojjkleplnijaaaGreatDoorPk4
set_option linter.unusedVariables false
set_option linter.unusedSimpArgs false
namespace Go.Proofs.YtojjkleplnijaaaGreatDoor
open Go.AE Go.Ru
set_option maxRecDepth 100000
theorem ent_ok {f : FuncId} (h : ∃ fn, T0.f.get f = some fn ∧ fn.body.isSome = true) : Ent Tryz.prog f := by
  obtain ⟨fn, h1, h2⟩ := h
  obtain ⟨h3, h4⟩ := tabOk.f f fn h1
  exact ⟨fn, h3, h4, h2⟩
theorem kids_bound {w : World} {I : Nat → Prop} {ns : List Nd} {u : Value} (h : VP w I (.sl 5 ns.length (nodeF ns)) u) (i : Nat) : (ns.getD i default).kids.length ≤ 9223372036854775807 := by
  by_cases hi : i < ns.length
  · obtain ⟨u, hu⟩ := h.get (i := i) (j := 4) hi (by simp [nodeF, encNode])
    exact VP.len (show VP w I (.sl 1 (ns.getD i default).kids.length (kidF (ns.getD i default).kids)) u from hu)
  · rw [List.getD_eq_getElem?_getD, List.getElem?_eq_none (by omega)]
    exact Nat.zero_le _
def natF (l : List Nat) (i : Nat) : List PV := [.int .i64 (l.getD i 0 : Nat)]
def natA (l : List Nat) : ABlk := .arr 3 1 0 l.length (fun i => pvs (natF l i))
def sizesV : Option (List Nat) → AV
  | some l => .tup [.p (.sl 1 l.length (natF l)), .p (.bool true)]
  | none => .tup [.p .nils, .p (.bool false)]
def cSizes : AC := fun args K k => ∃ (ns : List Nd), args = [.p (.sl 5 ns.length (nodeF ns))] ∧ ns.length ≤ 4000 ∧ k (.ret (sizesV (sizesS ns []))) K
structure RC where
  j : Nat
  size : Nat
  last : Int
def sizK (l : List Nat) : List ABlk := [.box 40 [.p .nils], .box 4 [.p (.bool false)], .box 40 [.slr 3 0 0 l.length], natA l]
theorem natA_snoc (l : List Nat) (x : Nat) (f : Nat → List AV) (hf : f 0 = [intV x]) : (ABlk.arr 3 1 0 (l.length + 1) (catF l.length (fun i => pvs (natF l i)) f)).le (natA (l ++ [x])) := by
  refine ABlk.arr_eq (by simp) fun i hi => ?_
  by_cases h : i < l.length
  · rw [catF_lt h]
    simp [natF, List.getD_eq_getElem?_getD, List.getElem?_append_left h]
  · obtain rfl : i = l.length := by omega
    rw [catF_ge (Nat.le_refl _), Nat.sub_self, hf]
    simp [natF, List.getD_eq_getElem?_getD, pvs, intV]
theorem nat_cl (l : List Nat) (x : Nat) (f : Nat → List AV) (n : Nat) (hf : f 0 = [intV x]) : (ABlk.arr 3 1 0 (l.length + 1) (catF l.length (fun i => pvs (natF l i)) f)).cl n := fun i hi => by
  by_cases h : i < l.length
  · rw [catF_lt h]; rfl
  · obtain rfl : i = l.length := by omega
    rw [catF_ge (Nat.le_refl _), Nat.sub_self, hf]; rfl
theorem sizes_ok : COk 134 cSizes := by
  rintro args K k ⟨ns, rfl, hn, hk⟩
  refine ACalls.fact (ent_ok ⟨_, rfl, rfl⟩) (c := ∀ i, (ns.getD i default).kids.length ≤ 9223372036854775807) (fun w m Args hS hV => ?_) fun hkid => ?_
  · have h0 := hV.2 0 (by simp) (by have := hV.1; simp at this; omega)
    simp only [List.getElem_cons_zero] at h0
    generalize Args[0]'(by have := hV.1; simp at this; omega) = u at h0
    cases h0 with
    | p _ _ h => exact kids_bound h
  refine frame0W g0_ok 19 rfl fun Q hr => ?_
  conv => whnf
  refine loop_nil (ι := List Nat) 3 1 (fun j => pvs (natF [] j)) (fun l => ⟨[(2, .ptr 0 0 1 0 0), (3, .ptr 1 0 1 0 0), (4, .ptr 2 0 1 0 0), (11, .p (.sl 5 ns.length (nodeF ns))), (12, .p (.int .i64 ns.length)), (13, .p (.int .i64 l.length))], sizK l⟩)
    (fun l => l.length ≤ ns.length ∧ szOk l ∧ sizesS (ns.drop l.length) l = sizesS ns []) (fun l => ns.length - l.length) [] [.box 40 [.p .nils], .box 4 [.p (.bool false)], .box 40 [.slr 3 0 0 0]]
    rfl ⟨.inl (AV.le_refl _), .inl (AV.le_refl _), .inl (AV.le_refl _), .inl (AV.le_refl _), .inl (AV.le_refl _), .inl (AV.le_refl _), trivial⟩
    ⟨.inl (ABlk.le_refl _), .inl (ABlk.le_refl _), .inr ⟨_, _, _, rfl, rfl, .inr ⟨rfl, rfl⟩, trivial⟩, trivial⟩ rfl ⟨Nat.zero_le _, fun i hi => by simp at hi, rfl⟩ ?_
  rintro Y hle l ⟨hl, hso, he⟩ ih
  have hd : decide ((l.length : Int) < (ns.length : Int)) = decide (l.length < ns.length) := by
    by_cases h : l.length < ns.length
    · rw [decide_eq_true h, decide_eq_true (by omega)]
    · rw [decide_eq_false h, decide_eq_false (by omega)]
  conv => whnf
  refine two_intro (fun h => ?_) (fun h => ?_)
  · rw [hd] at h
    have h := of_decide_eq_true h
    have hs2 : ns.drop l.length = ns[l.length] :: ns.drop (l.length + 1) := List.drop_eq_getElem_cons h
    have hgd : ns.getD l.length default = ns[l.length] := by simp [h]
    rw [hs2] at he
    simp only [sizesS] at he
    rw [← hgd] at he
    have hkl := hkid l.length
    have hwr : IntKind.i64.wrap ((l.length : Int) - 1) = (l.length : Int) - 1 := w64 ⟨by omega, by omega⟩
    have hwk : IntKind.i64.wrap (((ns.getD l.length default).kids.length : Int) - 1) = ((ns.getD l.length default).kids.length : Int) - 1 := w64 ⟨by omega, by omega⟩
    conv => whnf
    refine ⟨by simp <;> omega, ?_⟩
    conv => whnf
    refine loop_up (ι := RC) [0, 1] (fun c => [(3, .p (.int .i64 ((c.j : Int) - 1)))]) (fun c => [(5, .box 3 [.p (.int .i64 (c.size : Int))]), (6, .box 3 [.p (.int .i64 c.last)])])
      (fun c => c.j ≤ (ns.getD l.length default).kids.length ∧ c.last < l.length ∧ -1 ≤ c.last ∧ (c.size : Int) = l.length - c.last ∧
        kidsS l ((ns.getD l.length default).kids.take c.j).reverse c.last c.size = kidsS l (ns.getD l.length default).kids.reverse ((l.length : Int) - 1) 1) (fun c => c.j) ⟨(ns.getD l.length default).kids.length, 1, (l.length : Int) - 1⟩
      ⟨AV.le_of_eq (congrArg (fun x => AV.p (.int .i64 x)) hwk), trivial⟩ ⟨upLe1 rfl (ABlk.le_refl _), upLe1 rfl (ABlk.le_of_eq (congrArg (fun x => ABlk.box 3 [.p (.int .i64 x)]) hwr)), trivial⟩
      ⟨Nat.le_refl _, by simp only; omega, by simp only; omega, by simp only; omega, by simp only [List.take_length]⟩ ?_
    rintro Z hlz ⟨j, size, last⟩ ⟨hj, hl1, hl2, hl3, hke⟩ ihz
    simp only at hj hl1 hl2 hl3 hke
    have hdj : decide (((j : Int) - 1) ≥ 0) = decide (0 < j) := by
      by_cases h : 0 < j
      · rw [decide_eq_true h, decide_eq_true (by omega)]
      · rw [decide_eq_false h, decide_eq_false (by omega)]
    conv => whnf
    refine two_intro (fun hjj => ?_) (fun hjj => ?_)
    · rw [hdj] at hjj
      have hjj := of_decide_eq_true hjj
      obtain ⟨j, rfl⟩ : ∃ i, j = i + 1 := ⟨j - 1, by omega⟩
      obtain ⟨q, hq⟩ : ∃ q, (ns.getD l.length default).kids.getD j 0 = q := ⟨_, rfl⟩
      have htk : ((ns.getD l.length default).kids.take (j + 1)).reverse = q :: ((ns.getD l.length default).kids.take j).reverse := by
        rw [List.take_add_one, List.reverse_append, ← hq]
        have hlt : j < (ns.getD l.length default).kids.length := by omega
        generalize (ns.getD l.length default).kids = ks at hlt
        rw [List.getD_eq_getElem?_getD, List.getElem?_eq_getElem hlt]
        rfl
      rw [htk] at hke
      simp only [kidsS] at hke
      have hjt : (((j + 1 : Nat) : Int) - 1).toNat = j := by omega
      have hbad : (q == last && decide (0 ≤ q)) = false → k (.ret (.tup [.p .nils, .p (.bool false)])) K := fun hb => by
        rw [hb] at hke
        simp only at hke
        rw [← hke] at he
        simp only at he
        rw [← he] at hk
        exact hk
      conv => whnf
      refine ⟨⟨by show (0 : Int) ≤ ((j + 1 : Nat) : Int) - 1; omega, by show ((j + 1 : Nat) : Int) - 1 < ((ns.getD l.length default).kids.length : Int); omega, rfl⟩, ?_⟩
      conv => whnf
      refine two_intro (fun hne => ?_) (fun hne => ?_)
      · have hne : ((ns.getD l.length default).kids.getD (((j + 1 : Nat) : Int) - 1).toNat 0 != last) = true := hne
        rw [hjt, hq] at hne
        conv => whnf
        exact hr _ _ _ _ (Wk1.refl _ _ _) rfl (hbad (by simp at hne; simp [hne]))
      · have hne : ((ns.getD l.length default).kids.getD (((j + 1 : Nat) : Int) - 1).toNat 0 != last) = false := hne
        rw [hjt, hq] at hne
        conv => whnf
        refine two_intro (fun hn0 => ?_) (fun hn0 => ?_)
        · have hn0 : decide ((ns.getD l.length default).kids.getD (((j + 1 : Nat) : Int) - 1).toNat 0 < 0) = true := hn0
          rw [hjt, hq] at hn0
          conv => whnf
          exact hr _ _ _ _ (Wk1.refl _ _ _) rfl (hbad (by have := of_decide_eq_true hn0; simp [show ¬ (0 ≤ q) by omega]))
        · have hn0 : decide ((ns.getD l.length default).kids.getD (((j + 1 : Nat) : Int) - 1).toNat 0 < 0) = false := hn0
          rw [hjt, hq] at hn0
          have hn0 := of_decide_eq_false hn0
          have hql : q = last := by simpa using hne
          subst hql
          rw [show (q == q && decide (0 ≤ q)) = true by simp; omega] at hke
          simp only at hke
          have hsq := hso q.toNat (by omega)
          have hC : ∀ x : Int, x = q → 0 ≤ x ∧ x < (l.length : Int) := fun x hx => by subst hx; omega
          have hqe : (ns.getD l.length default).kids.getD (((j + 1 : Nat) : Int) - 1).toNat 0 = q := by rw [hjt, hq]
          conv => whnf
          refine ⟨⟨rfl, Nat.zero_add _, (hC _ hqe).1, (hC _ hqe).2, rfl⟩, ?_⟩
          conv => whnf
          refine ⟨⟨rfl, rfl⟩, ?_⟩
          conv => whnf
          refine ⟨⟨rfl, Nat.zero_add _, (hC _ hqe).1, (hC _ hqe).2, rfl⟩, ?_⟩
          conv => whnf
          refine ⟨⟨rfl, rfl⟩, ?_⟩
          conv => whnf
          have hszq : IntKind.i64.wrap ((size : Int) + (l.getD q.toNat 0 : Nat)) = ((size + l.getD q.toNat 0 : Nat) : Int) := by rw [w64 ⟨by omega, by omega⟩]; omega
          have hlaq : IntKind.i64.wrap (q - (l.getD q.toNat 0 : Nat)) = q - (l.getD q.toNat 0 : Nat) := w64 ⟨by omega, by omega⟩
          have hjq : IntKind.i64.wrap ((((j + 1 : Nat) : Int) - 1) - 1) = (j : Int) - 1 := by rw [w64 ⟨by omega, by omega⟩]; omega
          refine hlz _ _ (Le.cutEnv 9 rfl rfl ⟨rfl, rfl, rfl, fun _ _ => rfl, rfl, rfl, rfl, rfl, rfl, trivial⟩
            ?e1 ?e2)
            (ihz ⟨j, size + l.getD q.toNat 0, q - (l.getD q.toNat 0 : Nat)⟩ (Nat.lt_succ_self _) ⟨?_, ?_, ?_, ?_, hke⟩)
          case e1 =>
            (conv => whnf)
            refine ⟨AV.le_of_eq (congrArg (fun x => AV.p (.int .i64 x)) hjq), ?_⟩
            (conv => whnf)
            refine ⟨AV.le_refl _, ?_⟩
            (conv => whnf)
            refine ⟨AV.le_refl _, ?_⟩
            (conv => whnf)
            exact trivial
          case e2 =>
            (conv => whnf)
            refine ⟨ABlk.le_refl _, ?_⟩
            (conv => whnf)
            refine ⟨ABlk.le_refl _, ?_⟩
            (conv => whnf)
            refine ⟨ABlk.le_refl _, ?_⟩
            (conv => whnf)
            refine ⟨ABlk.le_refl _, ?_⟩
            (conv => whnf)
            refine ⟨ABlk.le_refl _, ?_⟩
            (conv => whnf)
            refine ⟨ABlk.le_of_eq (congrArg (fun x => ABlk.box 3 [.p (.int .i64 x)]) (show IntKind.i64.wrap ((size : Int) + (l.getD (0 + ((ns.getD l.length default).kids.getD (((j + 1 : Nat) : Int) - 1).toNat 0).toNat) 0 : Nat)) = ((size + l.getD q.toNat 0 : Nat) : Int) by rw [hqe, Nat.zero_add]; exact hszq)), ?_⟩
            (conv => whnf)
            refine ⟨ABlk.le_of_eq (congrArg (fun x => ABlk.box 3 [.p (.int .i64 x)]) (show IntKind.i64.wrap ((ns.getD l.length default).kids.getD (((j + 1 : Nat) : Int) - 1).toNat 0 - (l.getD (0 + ((ns.getD l.length default).kids.getD (((j + 1 : Nat) : Int) - 1).toNat 0).toNat) 0 : Nat)) = q - (l.getD q.toNat 0 : Nat) by rw [hqe, Nat.zero_add]; exact hlaq)), ?_⟩
            (conv => whnf)
            refine ⟨ABlk.le_refl _, ?_⟩
            (conv => whnf)
            refine ⟨ABlk.le_refl _, ?_⟩
            (conv => whnf)
            exact trivial
          · show j ≤ _; omega
          · show q - (l.getD q.toNat 0 : Nat) < _; omega
          · show -1 ≤ q - (l.getD q.toNat 0 : Nat); omega
          · show ((size + l.getD q.toNat 0 : Nat) : Int) = _ - (q - (l.getD q.toNat 0 : Nat)); omega
    · rw [hdj] at hjj
      have hjj := of_decide_eq_false hjj
      obtain rfl : j = 0 := by omega
      simp only [List.take_zero, List.reverse_nil, kidsS] at hke
      rw [← hke] at he
      simp only at he
      have hinv := kidsS_inv hso _ _ _ size (by omega) (by omega) (by omega) hke.symm
      conv => whnf
      refine ⟨⟨rfl, rfl, rfl, allLt_ok ⟨trivial, rfl⟩⟩, ?_⟩
      conv => whnf
      refine ⟨⟨rfl, rfl, rfl, rfl, ?_, ?_⟩, ?_⟩
      · show (l.length + 1) * 8 ≤ 140737488355328
        omega
      · show l.length + 1 ≤ 9223372036854775807
        omega
      conv => whnf
      refine hle _ _ (Le.cutEnv 4 rfl rfl ⟨rfl, rfl, rfl, nat_cl l size _ 4 rfl, trivial⟩ ?e1 ?e2) (ih (l ++ [size]) ?_ ⟨?_, szOk_snoc hso hinv, ?_⟩)
      case e1 =>
        (conv => whnf)
        refine ⟨AV.le_refl _, ?_⟩
        (conv => whnf)
        refine ⟨AV.le_refl _, ?_⟩
        (conv => whnf)
        refine ⟨AV.le_refl _, ?_⟩
        (conv => whnf)
        refine ⟨AV.le_refl _, ?_⟩
        (conv => whnf)
        refine ⟨AV.le_refl _, ?_⟩
        (conv => whnf)
        refine ⟨AV.le_of_eq (congrArg (fun x => AV.p (.int .i64 x)) (show IntKind.i64.wrap ((l.length : Int) + 1) = ((l ++ [size]).length : Int) by rw [w64 ⟨by omega, by omega⟩]; simp)), ?_⟩
        (conv => whnf)
        exact trivial
      case e2 =>
        (conv => whnf)
        refine ⟨ABlk.le_refl _, ?_⟩
        (conv => whnf)
        refine ⟨ABlk.le_refl _, ?_⟩
        (conv => whnf)
        refine ⟨ABlk.le_of_eq (congrArg (fun x => ABlk.box 40 [.slr 3 0 0 x]) (show l.length + 1 = (l ++ [size]).length by simp)), ?_⟩
        (conv => whnf)
        refine ⟨natA_snoc l size _ rfl, ?_⟩
        (conv => whnf)
        exact trivial
      · show ns.length - (l ++ [size]).length < ns.length - l.length
        simp only [List.length_append, List.length_cons, List.length_nil]; omega
      · show (l ++ [size]).length ≤ ns.length
        simp only [List.length_append, List.length_cons, List.length_nil]; omega
      · show sizesS (ns.drop (l ++ [size]).length) (l ++ [size]) = _
        rw [← he]
        simp only [List.length_append, List.length_cons, List.length_nil]
  · rw [hd] at h
    have h := of_decide_eq_false h
    rw [List.drop_of_length_le (by omega)] at he
    simp only [sizesS] at he
    rw [← he] at hk
    conv => whnf
    exact hr _ _ _ _ (Wk1.tup_freeze1 (r := 3) rfl (natF l) (fun _ _ => rfl)) rfl hk
def gR1 : AG := gput 134 cSizes g0
theorem gR1_ok : GOk Tryz.prog gR1 := gput_ok sizes_ok g0_ok
def treeV (ns : List Nd) (root : Int) : AV := .agg [.p (.sl 5 ns.length (nodeF ns)), .p (.int .i64 root)]
def cSound : AC := fun args K k => ∃ (ns : List Nd) (root : Int), args = [treeV ns root] ∧ ns.length < 1000000 ∧ k (.ret (.p (.bool (soundS ns root)))) K
theorem sound_ok : COk 85 cSound := by
  rintro args K k ⟨ns, root, rfl, hn, hk⟩
  refine frame0P gR1_ok 19 rfl fun Q hr => ?_
  have hbad : soundS ns root = false → k (.ret (.p (.bool false))) K := fun h => by rwa [h] at hk
  have hw : (0 : Int) < ns.length → IntKind.i64.wrap ((ns.length : Int) - 1) = (ns.length : Int) - 1 := fun h => w64 ⟨by omega, by omega⟩
  conv => whnf
  refine two_intro (fun h1 => ?_) (fun h1 => ?_)
  · conv => whnf
    exact hr _ _ rfl (hbad (by
      have : ns.length = 0 := by have := beq_iff_eq.1 h1; omega
      simp [soundS, this]))
  have h1 : 0 < ns.length := by
    have : ¬ ((ns.length : Int) = 0) := by simpa using h1
    omega
  conv => whnf
  refine two_intro (fun h2 => ?_) (fun h2 => ?_)
  · conv => whnf
    exact hr _ _ rfl (hbad (by
      have : (ns.length : Int) > 4000 := of_decide_eq_true h2
      simp [soundS, show 4000 < ns.length by omega]))
  have h2 : ns.length ≤ 4000 := by
    have : ¬ ((ns.length : Int) > 4000) := of_decide_eq_false h2
    omega
  conv => whnf
  refine two_intro (fun h3 => ?_) (fun h3 => ?_)
  · have h3 : (root != IntKind.i64.wrap ((ns.length : Int) - 1)) = true := h3
    rw [hw (by omega)] at h3
    conv => whnf
    exact hr _ _ rfl (hbad (by simp only [soundS, h3]; simp))
  have h3 : (root != IntKind.i64.wrap ((ns.length : Int) - 1)) = false := h3
  rw [hw (by omega)] at h3
  have h4 : root = (ns.length : Int) - 1 := by simpa using h3
  conv => whnf
  refine ⟨ns, rfl, h2, ?_⟩
  cases hz : sizesS ns [] with
  | none =>
    conv => whnf
    exact hr _ _ rfl (hbad (by simp [soundS, hz]))
  | some l =>
    obtain ⟨hl, _, _⟩ := sizesS_inv ns [] l (fun i hi => by simp at hi) hz
    simp only [List.length_nil, Nat.zero_add] at hl
    conv => whnf
    refine ⟨⟨by omega, by omega, rfl⟩, ?_⟩
    conv => whnf
    refine hr _ _ rfl ?_
    have e : soundS ns root = (l.getD root.toNat 0 == ns.length) := by
      have e1 : (ns.length == 0) = false := beq_eq_false_iff_ne.2 (by omega)
      have e2 : decide (4000 < ns.length) = false := decide_eq_false (by omega)
      simp only [soundS, hz, h3, e1, e2, Bool.or_self, Bool.not_false, Bool.true_and]
    rw [e] at hk
    have e2 : (((l.getD root.toNat 0 : Nat) : Int) == ((l.length : Nat) : Int)) = (l.getD root.toNat 0 == ns.length) := by
      rw [hl]
      by_cases h : l.getD root.toNat 0 = ns.length
      · rw [h]; simp
      · have : ¬ ((l.getD root.toNat 0 : Nat) : Int) = ((ns.length : Nat) : Int) := by omega
        rw [beq_eq_false_iff_ne.2 this, beq_eq_false_iff_ne.2 h]
    rw [← e2] at hk
    exact hk
def deepK (ns : List Nd) (root : Int) : List ABlk := [.box 24 [.p (.sl 5 ns.length (nodeF ns)), .p (.int .i64 root)], .box 55 [.fn 135 [] [.ptr 0 0 1 0 0, .ptr 1 0 1 0 0]]]
def cDeep (n : Nat) : AC := fun args K k => ∃ (ns : List Nd) (root : Int) (p : Int) (X : List ABlk), args = [.p (.int .i64 p), .ptr 0 0 1 0 0, .ptr 1 0 1 0 0] ∧ K = deepK ns root ++ X ∧ 0 ≤ p ∧ p < n ∧ p < ns.length ∧ ns.length ≤ 4000 ∧ n ≤ 4000 ∧
  (∀ j, j < ns.length → ∀ k ∈ (ns.getD j default).kids, 0 ≤ k ∧ k < (j : Int)) ∧ (∀ i, (ns.getD i default).kids.length ≤ 9223372036854775807) ∧ k (.ret (intV (deepS ns n p))) (deepK ns root ++ X)
structure DC where
  j : Nat
  d : Nat
theorem deep_ok (n : Nat) : COk 135 (cDeep n) := by
  induction n with
  | zero => rintro args K k ⟨ns, root, p, X, rfl, rfl, h1, h2, _⟩; omega
  | succ n ihn =>
  rintro args K k ⟨ns, root, p, X, rfl, rfl, h1, h2, h3, h4, h5, hsd, hkid, hk⟩
  refine frameS (K0 := deepK ns root) (gput_ok ihn g0_ok) 19 rfl ⟨rfl, rfl, trivial⟩ fun Q hr => ?_
  have hkl := hkid p.toNat
  conv => whnf
  refine ⟨⟨by omega, by omega, rfl⟩, ?_⟩
  conv => whnf
  obtain ⟨ks, hks⟩ : ∃ ks, (ns.getD p.toNat default).kids = ks := ⟨_, rfl⟩
  have hmem := hsd p.toNat (by omega)
  simp only [deepS] at hk
  rw [hks] at hkl hmem hk
  refine loop_up (ι := DC) [1, 2, 13, 14] (fun c => [(5, .p (.int .i64 (c.d : Int))), (15, .p (.int .i64 (c.j : Int)))]) (fun _ => [])
    (fun c => c.j ≤ ks.length ∧ c.d ≤ n ∧ (ks.drop c.j).foldl (fun d k => max d (deepS ns n k)) c.d = ks.foldl (fun d k => max d (deepS ns n k)) 0) (fun c => ks.length - c.j) ⟨0, 0⟩
    ⟨AV.le_refl _, AV.le_refl _, trivial⟩ trivial ⟨Nat.zero_le _, Nat.zero_le _, rfl⟩ ?_
  rintro Y hle ⟨j, d⟩ ⟨hj, hd, he⟩ ih
  simp only at hj hd he
  have hdj : decide ((j : Int) < ((ns.getD p.toNat default).kids.length : Int)) = decide (j < ks.length) := by
    rw [hks]
    by_cases h : j < ks.length
    · rw [decide_eq_true h, decide_eq_true (by omega)]
    · rw [decide_eq_false h, decide_eq_false (by omega)]
  conv => whnf
  refine two_intro (fun h => ?_) (fun h => ?_)
  · have h := of_decide_eq_true (hdj ▸ h)
    have hq : (ns.getD p.toNat default).kids.getD (j : Int).toNat 0 = ks[j] := by rw [hks]; simp [h]
    have hqm := hmem ks[j] (List.getElem_mem h)
    rw [List.drop_eq_getElem_cons h, List.foldl_cons] at he
    conv => whnf
    refine ⟨⟨by omega, by rw [hks]; show (j : Int) < (ks.length : Int); omega, rfl⟩, ?_⟩
    conv => whnf
    refine ⟨ns, root, _, [], rfl, rfl, by rw [hq]; omega, by rw [hq]; omega, by rw [hq]; omega, h4, by omega, hsd, hkid, ?_⟩
    conv => whnf
    have hdl := deepS_le ns n ks[j]
    refine hle _ _ (Le.cutEnv 2 rfl rfl ⟨rfl, rfl, trivial⟩ ?e1 ?e2) (ih ⟨j + 1, max d (deepS ns n ks[j])⟩ ?_ ⟨?_, ?_, he⟩)
    case e1 =>
      have hmx : (if ((deepS ns n ((ns.getD p.toNat default).kids.getD (j : Int).toNat 0) : Nat) : Int) > (d : Int) then ((deepS ns n ((ns.getD p.toNat default).kids.getD (j : Int).toNat 0) : Nat) : Int) else (d : Int)) = ((max d (deepS ns n ks[j]) : Nat) : Int) := by
        rw [hq]
        split <;> omega
      (conv => whnf)
      refine ⟨AV.le_of_eq (congrArg (fun x => AV.p (.int .i64 x)) hmx), ?_⟩
      (conv => whnf)
      refine ⟨AV.le_of_eq (congrArg (fun x => AV.p (.int .i64 x)) (show IntKind.i64.wrap ((j : Int) + 1) = ((j + 1 : Nat) : Int) by rw [w64 ⟨by omega, by omega⟩]; omega)), ?_⟩
      (conv => whnf)
      refine ⟨AV.le_refl _, ?_⟩
      (conv => whnf)
      refine ⟨AV.le_refl _, ?_⟩
      (conv => whnf)
      refine ⟨AV.le_refl _, ?_⟩
      (conv => whnf)
      refine ⟨AV.le_refl _, ?_⟩
      (conv => whnf)
      exact trivial
    case e2 =>
      (conv => whnf)
      refine ⟨ABlk.le_refl _, ?_⟩
      (conv => whnf)
      refine ⟨ABlk.le_refl _, ?_⟩
      (conv => whnf)
      exact trivial
    · show ks.length - (j + 1) < ks.length - j
      omega
    · show j + 1 ≤ ks.length
      omega
    · exact Nat.max_le.2 ⟨hd, hdl⟩
  · have h := of_decide_eq_false (hdj ▸ h)
    rw [List.drop_of_length_le (by omega), List.foldl_nil] at he
    have hw : IntKind.i64.wrap ((d : Int) + 1) = ((ks.foldl (fun d k => max d (deepS ns n k)) 0 + 1 : Nat) : Int) := by rw [w64 ⟨by omega, by omega⟩]; omega
    rw [← hw] at hk
    conv => whnf
    exact hr _ _ rfl (Nat.le_refl _) rfl hk
def gR2 : AG := gput 85 cSound (gput 135 (cDeep 4000) g0)
theorem gR2_ok : GOk Tryz.prog gR2 := gput_ok sound_ok (gput_ok (deep_ok 4000) g0_ok)
def cDepth : AC := fun args K k => ∃ (ns : List Nd) (root : Int), args = [treeV ns root] ∧ ns.length < 1000000 ∧ k (.ret (intV (depthS ns root))) K
theorem deepS_more (ns : List Nd) (hsd : ∀ j, j < ns.length → ∀ k ∈ (ns.getD j default).kids, 0 ≤ k ∧ k < (j : Int)) : ∀ (n m : Nat) (p : Int), 0 ≤ p → p < n → p < ns.length → n ≤ m → deepS ns n p = deepS ns m p := by
  intro n
  induction n with
  | zero => intro m p h1 h2; omega
  | succ n ih =>
    intro m p h1 h2 h3 hm
    obtain ⟨m, rfl⟩ : ∃ i, m = i + 1 := ⟨m - 1, by omega⟩
    simp only [deepS]
    have hk := hsd p.toNat (by omega)
    generalize (ns.getD p.toNat default).kids = ks at hk
    have : ∀ d, ks.foldl (fun d k => max d (deepS ns n k)) d = ks.foldl (fun d k => max d (deepS ns m k)) d := by
      induction ks with
      | nil => intro d; rfl
      | cons q ks ihk =>
        intro d
        have hq := hk q (List.mem_cons_self ..)
        simp only [List.foldl_cons]
        rw [ih m q (by omega) (by omega) (by omega) (by omega)]
        exact ihk (fun k hk' => hk k (List.mem_cons_of_mem _ hk')) _
    rw [this]
theorem depth_ok : COk 86 cDepth := by
  rintro args K k ⟨ns, root, rfl, hn, hk⟩
  refine ACalls.fact (ent_ok ⟨_, rfl, rfl⟩) (c := ∀ i, (ns.getD i default).kids.length ≤ 9223372036854775807) (fun w m Args hS hV => ?_) fun hkid => ?_
  · have h0 := hV.2 0 (by simp) (by have := hV.1; simp at this; omega)
    simp only [List.getElem_cons_zero, treeV] at h0
    generalize Args[0]'(by have := hV.1; simp at this; omega) = u at h0
    cases h0 with
    | agg cs A hA h =>
      have h1 := h 0 (by simp) (by simp at hA; omega)
      simp only [List.getElem_cons_zero] at h1
      generalize A[0]'(by simp at hA; omega) = u1 at h1
      cases h1 with
      | p _ _ h => exact kids_bound h
  refine frame0P gR2_ok 19 rfl fun Q hr => ?_
  conv => whnf
  refine ⟨ns, root, rfl, hn, ?_⟩
  cases hs : soundS ns root with
  | false =>
    conv => whnf
    simp only [depthS, hs] at hk
    exact hr _ _ rfl hk
  | true =>
    obtain ⟨h1, h2, h3, h4⟩ := soundS_ok hs
    conv => whnf
    refine ⟨ns, root, root, [], rfl, rfl, by omega, by omega, by omega, h2, Nat.le_refl _, h4, hkid, ?_⟩
    simp only [depthS, hs] at hk
    rw [deepS_more ns h4 ns.length 4000 root (by omega) (by omega) (by omega) h2] at hk
    conv => whnf
    exact hr _ _ rfl hk
end Go.Proofs.YtojjkleplnijaaaGreatDoor

namespace Go.AE
theorem two_dec {p : Prop} [Decidable p] {x y : Prop} (h : p → x) (h' : ¬p → y) : two (decide p) x y :=
  two_intro (fun e => h (of_decide_eq_true e)) (fun e => h' (of_decide_eq_false e))
theorem two_eq {α : Type} [BEq α] [LawfulBEq α] {a b : α} {x y : Prop} (h : a = b → x) (h' : a ≠ b → y) : two (a == b) x y :=
  two_intro (fun e => h (beq_iff_eq.1 e)) (fun e => h' (beq_eq_false_iff_ne.1 e))
theorem two_ne {α : Type} [BEq α] [LawfulBEq α] {a b : α} {x y : Prop} (h : a ≠ b → x) (h' : a = b → y) : two (a != b) x y :=
  two_intro (fun e => h (by simpa using e)) (fun e => h' (by simpa using e))
theorem two_not {b : Bool} {x y : Prop} (h : b = false → x) (h' : b = true → y) : two (!b) x y :=
  two_intro (fun e => h (by simpa using e)) (fun e => h' (by simpa using e))
theorem ret_eq {k : AO → List ABlk → Prop} {K : List ABlk} {a b : AV} (hk : k (.ret a) K) (h : a = b) : k (.ret b) K := h ▸ hk
end Go.AE

namespace Go.Proofs.YtojjkleplnijaaaGreatDoor
open Go.AE Go.Ru
set_option maxRecDepth 100000
set_option maxHeartbeats 1000000
def nodeV (n : Nd) : AV := .agg [.p (.int .i64 n.k), .p (.int .i64 n.n), .p (.int .i64 n.at_), .p (.str n.tx), .p (.sl 1 n.kids.length (kidF n.kids))]
def gN : AG := gput 137 cIdentT gL
theorem gN_ok : GOk Tryz.prog gN := gput_ok identT_ok gL_ok
def cNumber : AC := fun args K k => ∃ n, args = [nodeV n] ∧ k (.ret (.p (.bool (numberS n.k n.n)))) K
theorem number_ok : COk 90 cNumber := by
  rintro args K k ⟨n, rfl, hk⟩
  refine frame0P gN_ok 19 rfl fun Q hr => ?_
  conv => whnf
  repeat' (first | (refine two_eq (fun h => ?_) (fun h => ?_) <;> (conv => whnf)) | (refine two_ne (fun h => ?_) (fun h => ?_) <;> (conv => whnf)) | (refine two_not (fun h => ?_) (fun h => ?_) <;> (conv => whnf)) | (refine two_dec (fun h => ?_) (fun h => ?_) <;> (conv => whnf)) | (refine two_intro (fun h => ?_) (fun h => ?_) <;> (conv => whnf)) | (refine Chk.mk ?_ ?_; (focus (((repeat' (refine And.intro ?_ ?_)) <;> (first | omega | rfl | (simp only [List.length_append, List.length_cons, List.length_nil]; omega) | fail)); done)); (conv => whnf)) | (refine And.intro ?_ ?_; (focus (((repeat' (refine And.intro ?_ ?_)) <;> (first | omega | rfl | (simp only [List.length_append, List.length_cons, List.length_nil]; omega) | fail)); done)); (conv => whnf)) | (refine Exists.intro _ (And.intro rfl ?_)) | (refine Exists.intro _ (Exists.intro _ (And.intro rfl ?_))) | (refine Exists.intro _ (Exists.intro _ (Exists.intro _ (And.intro rfl ?_)))) | fail)
  all_goals exact hr _ _ rfl (ret_eq hk (by simp [numberS, *]))
def cText : AC := fun args K k => ∃ n, args = [nodeV n] ∧ n.tx.length < 1000000 ∧ k (.ret (.p (.bool (textS n.k n.tx)))) K
theorem text_ok : COk 89 cText := by
  rintro args K k ⟨n, rfl, hl, hk⟩
  refine frame0P gN_ok 19 rfl fun Q hr => ?_
  conv => whnf
  repeat' (first | (refine two_eq (fun h => ?_) (fun h => ?_) <;> (conv => whnf)) | (refine two_ne (fun h => ?_) (fun h => ?_) <;> (conv => whnf)) | (refine two_not (fun h => ?_) (fun h => ?_) <;> (conv => whnf)) | (refine two_dec (fun h => ?_) (fun h => ?_) <;> (conv => whnf)) | (refine two_intro (fun h => ?_) (fun h => ?_) <;> (conv => whnf)) | (refine Chk.mk ?_ ?_; (focus (((repeat' (refine And.intro ?_ ?_)) <;> (first | omega | rfl | (simp only [List.length_append, List.length_cons, List.length_nil]; omega) | fail)); done)); (conv => whnf)) | (refine And.intro ?_ ?_; (focus (((repeat' (refine And.intro ?_ ?_)) <;> (first | omega | rfl | (simp only [List.length_append, List.length_cons, List.length_nil]; omega) | fail)); done)); (conv => whnf)) | (refine Exists.intro _ (And.intro rfl ?_)) | (refine Exists.intro _ (Exists.intro _ (And.intro rfl ?_))) | (refine Exists.intro _ (Exists.intro _ (Exists.intro _ (And.intro rfl ?_)))) | fail)
  all_goals exact hr _ _ rfl (ret_eq hk (by clear hr hk; (first | (simp_all [textS, signedP, signsT, show (Int.toNat 32).toUInt8 = 32 from rfl]; done) | (simp_all [textS, signedP, signsT, show (Int.toNat 32).toUInt8 = 32 from rfl] <;> (try intros) <;> omega))))
theorem frameG {G : AG} (hG : GOk Tryz.prog G) (n : Nat) {f : FuncId} {args : List AV} {K0 X : List ABlk} {k : AO → List ABlk → Prop} (hcl : AV.cls K0.length args = true) (hK : clK K0.length K0)
    (h : ∀ Q : AO → List ABlk → Prop, (∀ v K' v' K1, v'.cl K0.length = true → K1.length = K0.length → clK K0.length K1 → v.le v' → lesK (takeN K' K0.length) K1 → k (.ret v') (K1 ++ X) → Q (.ret v) K') → acall1 T0 G n f args K0 Q) :
    ACalls Tryz.prog f args (K0 ++ X) k := by
  refine (ACalls.frame (K0 := K0) (k := fun ao K1 => k ao (K1 ++ X)) hcl (fun r _ => clK.hp hK r)
    (ACalls.post (k := fun ao K1 => ∃ v K' v' K2, ao = .ret v ∧ K1 = K' ∧ v'.cl K0.length = true ∧ K2.length = K0.length ∧ clK K0.length K2 ∧ v.le v' ∧ lesK (takeN K' K0.length) K2 ∧ k (.ret v') (K2 ++ X)) (call_ok hG n f args _ _ (h _ ?_)) ?_)).mono ?_
  · intro v K' v' K1 h1 h2 h3 h4 h5 h6
    exact ⟨v, K', v', K1, rfl, rfl, h1, h2, h3, h4, h5, h6⟩
  · rintro _ K' ⟨v, _, v', K2, rfl, rfl, h1, h2, h3, h4, h5, h6⟩
    have e : ∀ (K2 L : List ABlk), takeN (K2 ++ L) K2.length = K2 := fun K2 L => by
      induction K2 with
      | nil => exact takeN_zero _
      | cons a l ih => simp only [List.cons_append, List.length_cons, takeN]; rw [ih]
    have e := e K2 (dropN K' K0.length)
    rw [h2] at e
    refine ⟨v', K2 ++ dropN K' K0.length, Wk1.le h4 h5.head, h1, ?_, fun r hr => ?_, ?_⟩
    · simp [h2]
    · rw [hp_append, if_pos (by omega)]; exact clK.hp h3 r
    · show k (.ret v') (takeN _ K0.length ++ X)
      rw [e]; exact h6
  · rintro ao K ⟨K1, rfl, h⟩; exact h
def kidsK (ns : List Nd) (root : Int) (n : Nd) (i : Int) : List ABlk := [.box 24 [.p (.sl 5 ns.length (nodeF ns)), .p (.int .i64 root)], .box 61 [.p (.int .i64 n.k), .p (.int .i64 n.n), .p (.int .i64 n.at_), .p (.str n.tx), .p (.sl 1 n.kids.length (kidF n.kids))], .box 3 [intV i]]
def ibox (c : Int) : ABlk := .box 3 [intV c]
def SoV (so : AV) (p : Int → Bool) (X : List ABlk) : Prop := (so = .p (.fn 144) ∧ p = stB ∧ (X = [] ∨ ∃ a, X = [ibox a])) ∨ (so = .p (.fn 145) ∧ p = exB ∧ (X = [] ∨ ∃ a, X = [ibox a])) ∨
  ∃ c, p = (fun k => k == c) ∧ ((so = .fn 142 [] [.ptr 3 0 1 0 0] ∧ X = [ibox c]) ∨ (∃ a, so = .fn 142 [] [.ptr 4 0 1 0 0] ∧ X = [ibox a, ibox c]) ∨ ∃ a b, so = .fn 142 [] [.ptr 5 0 1 0 0] ∧ X = [ibox a, ibox b, ibox c])
def cTakeK : AC := fun args K k => ∃ (ns : List Nd) (root : Int) (n : Nd) (i m : Nat) (ii mm : Int) (so : AV) (p : Int → Bool) (X : List ABlk), args = [.p (.int .i64 mm), so, .ptr 2 0 1 0 0, .ptr 1 0 1 0 0, .ptr 0 0 1 0 0] ∧ K = kidsK ns root n ii ++ X ∧ ii = i ∧ mm = m ∧ m ≤ 4000 ∧ n.kids.length ≤ 4000 ∧
  (∀ q ∈ n.kids, 0 ≤ q ∧ q < ns.length) ∧ SoV so p X ∧ k (.ret (intV (cntS p m ((kindsS ns n).drop i)))) (kidsK ns root n ((i + cntS p m ((kindsS ns n).drop i) : Nat) : Int) ++ X)
theorem take_ok' : COk 140 cTakeK := by
  rintro args K k ⟨ns, root, n, i, m, ii, mm, so, p, X, rfl, rfl, rfl, rfl, hm, hn, hq, hso, hk⟩
  rcases hso with ⟨rfl, rfl, rfl | ⟨a, rfl⟩⟩ | ⟨rfl, rfl, rfl | ⟨a, rfl⟩⟩ | ⟨c, rfl, ⟨rfl, rfl⟩ | ⟨a, rfl, rfl⟩ | ⟨a, b, rfl, rfl⟩⟩
  · skip
    refine frameG (K0 := kidsK ns root n i) (X := []) gN_ok 19 rfl (by repeat' (first | exact trivial | exact rfl | (refine And.intro ?_ ?_) | fail)) fun Q hr => ?_
    conv => whnf
    refine loop_up (ι := Nat) [0, 1, 2, 3, 4, 8] (fun _ => []) (fun j => [(2, .box 3 [.p (.int .i64 ((i + j : Nat) : Int))])])
      (fun j => j ≤ m ∧ (j = 0 ∨ i + j ≤ n.kids.length) ∧ cntS stB m ((kindsS ns n).drop i) = j + cntS stB (m - j) ((kindsS ns n).drop (i + j))) (fun j => n.kids.length - (i + j)) 0 trivial ⟨upLe1 rfl (ABlk.le_refl _), trivial⟩ ⟨Nat.zero_le _, .inl rfl, by simp⟩ ?_
    rintro Y hle j ⟨hj, hij, he⟩ ih
    have hw : IntKind.i64.wrap (((i + j : Nat) : Int) - (i : Int)) = j := by rw [w64 ⟨by omega, by omega⟩]; omega
    have hw1 : i + j < n.kids.length → IntKind.i64.wrap (((i + j : Nat) : Int) + 1) = ((i + (j + 1) : Nat) : Int) := fun h => by rw [w64 ⟨by omega, by omega⟩]; omega
    have hg : i + j < n.kids.length → 0 ≤ n.kids.getD ((i + j : Nat) : Int).toNat 0 ∧ n.kids.getD ((i + j : Nat) : Int).toNat 0 < ns.length := fun h => hq _ (by rw [Int.toNat_natCast, List.getD_eq_getElem?_getD, List.getElem?_eq_getElem h]; exact List.getElem_mem h)
    have hkd : i + j < n.kids.length → (kindsS ns n).drop (i + j) = (ns.getD (n.kids.getD ((i + j : Nat) : Int).toNat 0).toNat default).k :: (kindsS ns n).drop (i + (j + 1)) := fun h => by
      have h2 : i + j < (kindsS ns n).length := by simpa [kindsS] using h
      have e : (kindsS ns n)[i + j] = (ns.getD (n.kids.getD (i + j) 0).toNat default).k := by simp [kindsS, h]
      rw [List.drop_eq_getElem_cons h2, e, Int.toNat_natCast, Nat.add_assoc]
    have hend : n.kids.length ≤ i + j → (kindsS ns n).drop (i + j) = [] := fun h => List.drop_of_length_le (by simpa [kindsS] using h)
    conv => whnf
    repeat' (first | (refine two_eq (fun h => ?_) (fun h => ?_) <;> (conv => whnf)) | (refine two_ne (fun h => ?_) (fun h => ?_) <;> (conv => whnf)) | (refine two_not (fun h => ?_) (fun h => ?_) <;> (conv => whnf)) | (refine two_dec (fun h => ?_) (fun h => ?_) <;> (conv => whnf)) | (refine two_intro (fun h => ?_) (fun h => ?_) <;> (conv => whnf)) | (refine Chk.mk ?_ ?_; (focus (((repeat' (refine And.intro ?_ ?_)) <;> (first | omega | rfl | (simp only [List.length_append, List.length_cons, List.length_nil]; omega) | fail)); done)); (conv => whnf)) | (refine And.intro ?_ ?_; (focus (((repeat' (refine And.intro ?_ ?_)) <;> (first | omega | rfl | (simp only [List.length_append, List.length_cons, List.length_nil]; omega) | fail)); done)); (conv => whnf)) | (refine Exists.intro _ (And.intro rfl ?_)) | (refine Exists.intro _ (Exists.intro _ (And.intro rfl ?_))) | (refine Exists.intro _ (Exists.intro _ (Exists.intro _ (And.intro rfl ?_)))) | fail)
    all_goals first
    | (have h0 : cntS stB (m - j) ((kindsS ns n).drop (i + j)) = 0 := by
        first
        | (rw [hend (by omega)]; cases (m - j) <;> rfl)
        | (rw [show m - j = 0 by omega]; rfl)
        | (rw [hkd (by omega), show m - j = (m - j - 1) + 1 by omega, cnt_f]; (simp only [stB, exB, Bool.and_eq_true, Bool.and_eq_false_iff, decide_eq_true_eq, decide_eq_false_iff_not, beq_iff_eq, beq_eq_false_iff_ne]; omega))
        | fail
       have he : cntS stB m ((kindsS ns n).drop i) = j := by rw [he, h0]; rfl
       rw [he] at hk
       exact hr _ _ (intV (j : Int)) (kidsK ns root n ((i + j : Nat) : Int) ++ []) rfl rfl (by repeat' (first | exact trivial | exact rfl | (refine And.intro ?_ ?_) | fail)) (AV.le_of_eq (congrArg intV hw)) (lesK.refl _) (by rw [List.append_nil]; exact hk))
    | (have hw1 := hw1 (by omega)
       refine hle _ _ (Le.env ?_ ?_) (ih (j + 1) (by omega) ⟨by omega, by omega, ?_⟩)
       · skip
         repeat' (first | exact trivial | ((conv => whnf); first | exact trivial | (refine And.intro (AV.le_refl _) ?_) | (refine And.intro (ABlk.le_refl _) ?_) | (refine And.intro (AV.le_of_eq ?_) ?_; (focus ((first | fail | fail); done))) | (refine And.intro (ABlk.le_of_eq ?_) ?_; (focus ((first | fail | fail); done))) | fail) | fail)
       · skip
         repeat' (first | exact trivial | ((conv => whnf); first | exact trivial | (refine And.intro (AV.le_refl _) ?_) | (refine And.intro (ABlk.le_refl _) ?_) | (refine And.intro (AV.le_of_eq ?_) ?_; (focus ((first | exact congrArg (fun x => ABlk.box 3 [.p (.int .i64 x)]) hw1 | fail); done))) | (refine And.intro (ABlk.le_of_eq ?_) ?_; (focus ((first | exact congrArg (fun x => ABlk.box 3 [.p (.int .i64 x)]) hw1 | fail); done))) | fail) | fail)
       · rw [he, hkd (by omega), show m - j = (m - (j + 1)) + 1 by omega, cnt_t (by (simp only [stB, exB, Bool.and_eq_true, Bool.and_eq_false_iff, decide_eq_true_eq, decide_eq_false_iff_not, beq_iff_eq, beq_eq_false_iff_ne]; omega))]; omega)
    | fail
  · skip
    refine frameG (K0 := kidsK ns root n i ++ [ibox a]) (X := []) gN_ok 19 rfl (by repeat' (first | exact trivial | exact rfl | (refine And.intro ?_ ?_) | fail)) fun Q hr => ?_
    conv => whnf
    refine loop_up (ι := Nat) [0, 1, 2, 3, 4, 8] (fun _ => []) (fun j => [(2, .box 3 [.p (.int .i64 ((i + j : Nat) : Int))])])
      (fun j => j ≤ m ∧ (j = 0 ∨ i + j ≤ n.kids.length) ∧ cntS stB m ((kindsS ns n).drop i) = j + cntS stB (m - j) ((kindsS ns n).drop (i + j))) (fun j => n.kids.length - (i + j)) 0 trivial ⟨upLe1 rfl (ABlk.le_refl _), trivial⟩ ⟨Nat.zero_le _, .inl rfl, by simp⟩ ?_
    rintro Y hle j ⟨hj, hij, he⟩ ih
    have hw : IntKind.i64.wrap (((i + j : Nat) : Int) - (i : Int)) = j := by rw [w64 ⟨by omega, by omega⟩]; omega
    have hw1 : i + j < n.kids.length → IntKind.i64.wrap (((i + j : Nat) : Int) + 1) = ((i + (j + 1) : Nat) : Int) := fun h => by rw [w64 ⟨by omega, by omega⟩]; omega
    have hg : i + j < n.kids.length → 0 ≤ n.kids.getD ((i + j : Nat) : Int).toNat 0 ∧ n.kids.getD ((i + j : Nat) : Int).toNat 0 < ns.length := fun h => hq _ (by rw [Int.toNat_natCast, List.getD_eq_getElem?_getD, List.getElem?_eq_getElem h]; exact List.getElem_mem h)
    have hkd : i + j < n.kids.length → (kindsS ns n).drop (i + j) = (ns.getD (n.kids.getD ((i + j : Nat) : Int).toNat 0).toNat default).k :: (kindsS ns n).drop (i + (j + 1)) := fun h => by
      have h2 : i + j < (kindsS ns n).length := by simpa [kindsS] using h
      have e : (kindsS ns n)[i + j] = (ns.getD (n.kids.getD (i + j) 0).toNat default).k := by simp [kindsS, h]
      rw [List.drop_eq_getElem_cons h2, e, Int.toNat_natCast, Nat.add_assoc]
    have hend : n.kids.length ≤ i + j → (kindsS ns n).drop (i + j) = [] := fun h => List.drop_of_length_le (by simpa [kindsS] using h)
    conv => whnf
    repeat' (first | (refine two_eq (fun h => ?_) (fun h => ?_) <;> (conv => whnf)) | (refine two_ne (fun h => ?_) (fun h => ?_) <;> (conv => whnf)) | (refine two_not (fun h => ?_) (fun h => ?_) <;> (conv => whnf)) | (refine two_dec (fun h => ?_) (fun h => ?_) <;> (conv => whnf)) | (refine two_intro (fun h => ?_) (fun h => ?_) <;> (conv => whnf)) | (refine Chk.mk ?_ ?_; (focus (((repeat' (refine And.intro ?_ ?_)) <;> (first | omega | rfl | (simp only [List.length_append, List.length_cons, List.length_nil]; omega) | fail)); done)); (conv => whnf)) | (refine And.intro ?_ ?_; (focus (((repeat' (refine And.intro ?_ ?_)) <;> (first | omega | rfl | (simp only [List.length_append, List.length_cons, List.length_nil]; omega) | fail)); done)); (conv => whnf)) | (refine Exists.intro _ (And.intro rfl ?_)) | (refine Exists.intro _ (Exists.intro _ (And.intro rfl ?_))) | (refine Exists.intro _ (Exists.intro _ (Exists.intro _ (And.intro rfl ?_)))) | fail)
    all_goals first
    | (have h0 : cntS stB (m - j) ((kindsS ns n).drop (i + j)) = 0 := by
        first
        | (rw [hend (by omega)]; cases (m - j) <;> rfl)
        | (rw [show m - j = 0 by omega]; rfl)
        | (rw [hkd (by omega), show m - j = (m - j - 1) + 1 by omega, cnt_f]; (simp only [stB, exB, Bool.and_eq_true, Bool.and_eq_false_iff, decide_eq_true_eq, decide_eq_false_iff_not, beq_iff_eq, beq_eq_false_iff_ne]; omega))
        | fail
       have he : cntS stB m ((kindsS ns n).drop i) = j := by rw [he, h0]; rfl
       rw [he] at hk
       exact hr _ _ (intV (j : Int)) (kidsK ns root n ((i + j : Nat) : Int) ++ [ibox a]) rfl rfl (by repeat' (first | exact trivial | exact rfl | (refine And.intro ?_ ?_) | fail)) (AV.le_of_eq (congrArg intV hw)) (lesK.refl _) (by rw [List.append_nil]; exact hk))
    | (have hw1 := hw1 (by omega)
       refine hle _ _ (Le.env ?_ ?_) (ih (j + 1) (by omega) ⟨by omega, by omega, ?_⟩)
       · skip
         repeat' (first | exact trivial | ((conv => whnf); first | exact trivial | (refine And.intro (AV.le_refl _) ?_) | (refine And.intro (ABlk.le_refl _) ?_) | (refine And.intro (AV.le_of_eq ?_) ?_; (focus ((first | fail | fail); done))) | (refine And.intro (ABlk.le_of_eq ?_) ?_; (focus ((first | fail | fail); done))) | fail) | fail)
       · skip
         repeat' (first | exact trivial | ((conv => whnf); first | exact trivial | (refine And.intro (AV.le_refl _) ?_) | (refine And.intro (ABlk.le_refl _) ?_) | (refine And.intro (AV.le_of_eq ?_) ?_; (focus ((first | exact congrArg (fun x => ABlk.box 3 [.p (.int .i64 x)]) hw1 | fail); done))) | (refine And.intro (ABlk.le_of_eq ?_) ?_; (focus ((first | exact congrArg (fun x => ABlk.box 3 [.p (.int .i64 x)]) hw1 | fail); done))) | fail) | fail)
       · rw [he, hkd (by omega), show m - j = (m - (j + 1)) + 1 by omega, cnt_t (by (simp only [stB, exB, Bool.and_eq_true, Bool.and_eq_false_iff, decide_eq_true_eq, decide_eq_false_iff_not, beq_iff_eq, beq_eq_false_iff_ne]; omega))]; omega)
    | fail
  · skip
    refine frameG (K0 := kidsK ns root n i) (X := []) gN_ok 19 rfl (by repeat' (first | exact trivial | exact rfl | (refine And.intro ?_ ?_) | fail)) fun Q hr => ?_
    conv => whnf
    refine loop_up (ι := Nat) [0, 1, 2, 3, 4, 8] (fun _ => []) (fun j => [(2, .box 3 [.p (.int .i64 ((i + j : Nat) : Int))])])
      (fun j => j ≤ m ∧ (j = 0 ∨ i + j ≤ n.kids.length) ∧ cntS exB m ((kindsS ns n).drop i) = j + cntS exB (m - j) ((kindsS ns n).drop (i + j))) (fun j => n.kids.length - (i + j)) 0 trivial ⟨upLe1 rfl (ABlk.le_refl _), trivial⟩ ⟨Nat.zero_le _, .inl rfl, by simp⟩ ?_
    rintro Y hle j ⟨hj, hij, he⟩ ih
    have hw : IntKind.i64.wrap (((i + j : Nat) : Int) - (i : Int)) = j := by rw [w64 ⟨by omega, by omega⟩]; omega
    have hw1 : i + j < n.kids.length → IntKind.i64.wrap (((i + j : Nat) : Int) + 1) = ((i + (j + 1) : Nat) : Int) := fun h => by rw [w64 ⟨by omega, by omega⟩]; omega
    have hg : i + j < n.kids.length → 0 ≤ n.kids.getD ((i + j : Nat) : Int).toNat 0 ∧ n.kids.getD ((i + j : Nat) : Int).toNat 0 < ns.length := fun h => hq _ (by rw [Int.toNat_natCast, List.getD_eq_getElem?_getD, List.getElem?_eq_getElem h]; exact List.getElem_mem h)
    have hkd : i + j < n.kids.length → (kindsS ns n).drop (i + j) = (ns.getD (n.kids.getD ((i + j : Nat) : Int).toNat 0).toNat default).k :: (kindsS ns n).drop (i + (j + 1)) := fun h => by
      have h2 : i + j < (kindsS ns n).length := by simpa [kindsS] using h
      have e : (kindsS ns n)[i + j] = (ns.getD (n.kids.getD (i + j) 0).toNat default).k := by simp [kindsS, h]
      rw [List.drop_eq_getElem_cons h2, e, Int.toNat_natCast, Nat.add_assoc]
    have hend : n.kids.length ≤ i + j → (kindsS ns n).drop (i + j) = [] := fun h => List.drop_of_length_le (by simpa [kindsS] using h)
    conv => whnf
    repeat' (first | (refine two_eq (fun h => ?_) (fun h => ?_) <;> (conv => whnf)) | (refine two_ne (fun h => ?_) (fun h => ?_) <;> (conv => whnf)) | (refine two_not (fun h => ?_) (fun h => ?_) <;> (conv => whnf)) | (refine two_dec (fun h => ?_) (fun h => ?_) <;> (conv => whnf)) | (refine two_intro (fun h => ?_) (fun h => ?_) <;> (conv => whnf)) | (refine Chk.mk ?_ ?_; (focus (((repeat' (refine And.intro ?_ ?_)) <;> (first | omega | rfl | (simp only [List.length_append, List.length_cons, List.length_nil]; omega) | fail)); done)); (conv => whnf)) | (refine And.intro ?_ ?_; (focus (((repeat' (refine And.intro ?_ ?_)) <;> (first | omega | rfl | (simp only [List.length_append, List.length_cons, List.length_nil]; omega) | fail)); done)); (conv => whnf)) | (refine Exists.intro _ (And.intro rfl ?_)) | (refine Exists.intro _ (Exists.intro _ (And.intro rfl ?_))) | (refine Exists.intro _ (Exists.intro _ (Exists.intro _ (And.intro rfl ?_)))) | fail)
    all_goals first
    | (have h0 : cntS exB (m - j) ((kindsS ns n).drop (i + j)) = 0 := by
        first
        | (rw [hend (by omega)]; cases (m - j) <;> rfl)
        | (rw [show m - j = 0 by omega]; rfl)
        | (rw [hkd (by omega), show m - j = (m - j - 1) + 1 by omega, cnt_f]; (simp only [stB, exB, Bool.and_eq_true, Bool.and_eq_false_iff, decide_eq_true_eq, decide_eq_false_iff_not, beq_iff_eq, beq_eq_false_iff_ne]; omega))
        | fail
       have he : cntS exB m ((kindsS ns n).drop i) = j := by rw [he, h0]; rfl
       rw [he] at hk
       exact hr _ _ (intV (j : Int)) (kidsK ns root n ((i + j : Nat) : Int) ++ []) rfl rfl (by repeat' (first | exact trivial | exact rfl | (refine And.intro ?_ ?_) | fail)) (AV.le_of_eq (congrArg intV hw)) (lesK.refl _) (by rw [List.append_nil]; exact hk))
    | (have hw1 := hw1 (by omega)
       refine hle _ _ (Le.env ?_ ?_) (ih (j + 1) (by omega) ⟨by omega, by omega, ?_⟩)
       · skip
         repeat' (first | exact trivial | ((conv => whnf); first | exact trivial | (refine And.intro (AV.le_refl _) ?_) | (refine And.intro (ABlk.le_refl _) ?_) | (refine And.intro (AV.le_of_eq ?_) ?_; (focus ((first | fail | fail); done))) | (refine And.intro (ABlk.le_of_eq ?_) ?_; (focus ((first | fail | fail); done))) | fail) | fail)
       · skip
         repeat' (first | exact trivial | ((conv => whnf); first | exact trivial | (refine And.intro (AV.le_refl _) ?_) | (refine And.intro (ABlk.le_refl _) ?_) | (refine And.intro (AV.le_of_eq ?_) ?_; (focus ((first | exact congrArg (fun x => ABlk.box 3 [.p (.int .i64 x)]) hw1 | fail); done))) | (refine And.intro (ABlk.le_of_eq ?_) ?_; (focus ((first | exact congrArg (fun x => ABlk.box 3 [.p (.int .i64 x)]) hw1 | fail); done))) | fail) | fail)
       · rw [he, hkd (by omega), show m - j = (m - (j + 1)) + 1 by omega, cnt_t (by (simp only [stB, exB, Bool.and_eq_true, Bool.and_eq_false_iff, decide_eq_true_eq, decide_eq_false_iff_not, beq_iff_eq, beq_eq_false_iff_ne]; omega))]; omega)
    | fail
  · skip
    refine frameG (K0 := kidsK ns root n i ++ [ibox a]) (X := []) gN_ok 19 rfl (by repeat' (first | exact trivial | exact rfl | (refine And.intro ?_ ?_) | fail)) fun Q hr => ?_
    conv => whnf
    refine loop_up (ι := Nat) [0, 1, 2, 3, 4, 8] (fun _ => []) (fun j => [(2, .box 3 [.p (.int .i64 ((i + j : Nat) : Int))])])
      (fun j => j ≤ m ∧ (j = 0 ∨ i + j ≤ n.kids.length) ∧ cntS exB m ((kindsS ns n).drop i) = j + cntS exB (m - j) ((kindsS ns n).drop (i + j))) (fun j => n.kids.length - (i + j)) 0 trivial ⟨upLe1 rfl (ABlk.le_refl _), trivial⟩ ⟨Nat.zero_le _, .inl rfl, by simp⟩ ?_
    rintro Y hle j ⟨hj, hij, he⟩ ih
    have hw : IntKind.i64.wrap (((i + j : Nat) : Int) - (i : Int)) = j := by rw [w64 ⟨by omega, by omega⟩]; omega
    have hw1 : i + j < n.kids.length → IntKind.i64.wrap (((i + j : Nat) : Int) + 1) = ((i + (j + 1) : Nat) : Int) := fun h => by rw [w64 ⟨by omega, by omega⟩]; omega
    have hg : i + j < n.kids.length → 0 ≤ n.kids.getD ((i + j : Nat) : Int).toNat 0 ∧ n.kids.getD ((i + j : Nat) : Int).toNat 0 < ns.length := fun h => hq _ (by rw [Int.toNat_natCast, List.getD_eq_getElem?_getD, List.getElem?_eq_getElem h]; exact List.getElem_mem h)
    have hkd : i + j < n.kids.length → (kindsS ns n).drop (i + j) = (ns.getD (n.kids.getD ((i + j : Nat) : Int).toNat 0).toNat default).k :: (kindsS ns n).drop (i + (j + 1)) := fun h => by
      have h2 : i + j < (kindsS ns n).length := by simpa [kindsS] using h
      have e : (kindsS ns n)[i + j] = (ns.getD (n.kids.getD (i + j) 0).toNat default).k := by simp [kindsS, h]
      rw [List.drop_eq_getElem_cons h2, e, Int.toNat_natCast, Nat.add_assoc]
    have hend : n.kids.length ≤ i + j → (kindsS ns n).drop (i + j) = [] := fun h => List.drop_of_length_le (by simpa [kindsS] using h)
    conv => whnf
    repeat' (first | (refine two_eq (fun h => ?_) (fun h => ?_) <;> (conv => whnf)) | (refine two_ne (fun h => ?_) (fun h => ?_) <;> (conv => whnf)) | (refine two_not (fun h => ?_) (fun h => ?_) <;> (conv => whnf)) | (refine two_dec (fun h => ?_) (fun h => ?_) <;> (conv => whnf)) | (refine two_intro (fun h => ?_) (fun h => ?_) <;> (conv => whnf)) | (refine Chk.mk ?_ ?_; (focus (((repeat' (refine And.intro ?_ ?_)) <;> (first | omega | rfl | (simp only [List.length_append, List.length_cons, List.length_nil]; omega) | fail)); done)); (conv => whnf)) | (refine And.intro ?_ ?_; (focus (((repeat' (refine And.intro ?_ ?_)) <;> (first | omega | rfl | (simp only [List.length_append, List.length_cons, List.length_nil]; omega) | fail)); done)); (conv => whnf)) | (refine Exists.intro _ (And.intro rfl ?_)) | (refine Exists.intro _ (Exists.intro _ (And.intro rfl ?_))) | (refine Exists.intro _ (Exists.intro _ (Exists.intro _ (And.intro rfl ?_)))) | fail)
    all_goals first
    | (have h0 : cntS exB (m - j) ((kindsS ns n).drop (i + j)) = 0 := by
        first
        | (rw [hend (by omega)]; cases (m - j) <;> rfl)
        | (rw [show m - j = 0 by omega]; rfl)
        | (rw [hkd (by omega), show m - j = (m - j - 1) + 1 by omega, cnt_f]; (simp only [stB, exB, Bool.and_eq_true, Bool.and_eq_false_iff, decide_eq_true_eq, decide_eq_false_iff_not, beq_iff_eq, beq_eq_false_iff_ne]; omega))
        | fail
       have he : cntS exB m ((kindsS ns n).drop i) = j := by rw [he, h0]; rfl
       rw [he] at hk
       exact hr _ _ (intV (j : Int)) (kidsK ns root n ((i + j : Nat) : Int) ++ [ibox a]) rfl rfl (by repeat' (first | exact trivial | exact rfl | (refine And.intro ?_ ?_) | fail)) (AV.le_of_eq (congrArg intV hw)) (lesK.refl _) (by rw [List.append_nil]; exact hk))
    | (have hw1 := hw1 (by omega)
       refine hle _ _ (Le.env ?_ ?_) (ih (j + 1) (by omega) ⟨by omega, by omega, ?_⟩)
       · skip
         repeat' (first | exact trivial | ((conv => whnf); first | exact trivial | (refine And.intro (AV.le_refl _) ?_) | (refine And.intro (ABlk.le_refl _) ?_) | (refine And.intro (AV.le_of_eq ?_) ?_; (focus ((first | fail | fail); done))) | (refine And.intro (ABlk.le_of_eq ?_) ?_; (focus ((first | fail | fail); done))) | fail) | fail)
       · skip
         repeat' (first | exact trivial | ((conv => whnf); first | exact trivial | (refine And.intro (AV.le_refl _) ?_) | (refine And.intro (ABlk.le_refl _) ?_) | (refine And.intro (AV.le_of_eq ?_) ?_; (focus ((first | exact congrArg (fun x => ABlk.box 3 [.p (.int .i64 x)]) hw1 | fail); done))) | (refine And.intro (ABlk.le_of_eq ?_) ?_; (focus ((first | exact congrArg (fun x => ABlk.box 3 [.p (.int .i64 x)]) hw1 | fail); done))) | fail) | fail)
       · rw [he, hkd (by omega), show m - j = (m - (j + 1)) + 1 by omega, cnt_t (by (simp only [stB, exB, Bool.and_eq_true, Bool.and_eq_false_iff, decide_eq_true_eq, decide_eq_false_iff_not, beq_iff_eq, beq_eq_false_iff_ne]; omega))]; omega)
    | fail
  · skip
    refine frameG (K0 := kidsK ns root n i ++ [ibox c]) (X := []) gN_ok 19 rfl (by repeat' (first | exact trivial | exact rfl | (refine And.intro ?_ ?_) | fail)) fun Q hr => ?_
    conv => whnf
    refine loop_up (ι := Nat) [0, 1, 2, 3, 4, 8] (fun _ => []) (fun j => [(2, .box 3 [.p (.int .i64 ((i + j : Nat) : Int))])])
      (fun j => j ≤ m ∧ (j = 0 ∨ i + j ≤ n.kids.length) ∧ cntS (fun k => k == c) m ((kindsS ns n).drop i) = j + cntS (fun k => k == c) (m - j) ((kindsS ns n).drop (i + j))) (fun j => n.kids.length - (i + j)) 0 trivial ⟨upLe1 rfl (ABlk.le_refl _), trivial⟩ ⟨Nat.zero_le _, .inl rfl, by simp⟩ ?_
    rintro Y hle j ⟨hj, hij, he⟩ ih
    have hw : IntKind.i64.wrap (((i + j : Nat) : Int) - (i : Int)) = j := by rw [w64 ⟨by omega, by omega⟩]; omega
    have hw1 : i + j < n.kids.length → IntKind.i64.wrap (((i + j : Nat) : Int) + 1) = ((i + (j + 1) : Nat) : Int) := fun h => by rw [w64 ⟨by omega, by omega⟩]; omega
    have hg : i + j < n.kids.length → 0 ≤ n.kids.getD ((i + j : Nat) : Int).toNat 0 ∧ n.kids.getD ((i + j : Nat) : Int).toNat 0 < ns.length := fun h => hq _ (by rw [Int.toNat_natCast, List.getD_eq_getElem?_getD, List.getElem?_eq_getElem h]; exact List.getElem_mem h)
    have hkd : i + j < n.kids.length → (kindsS ns n).drop (i + j) = (ns.getD (n.kids.getD ((i + j : Nat) : Int).toNat 0).toNat default).k :: (kindsS ns n).drop (i + (j + 1)) := fun h => by
      have h2 : i + j < (kindsS ns n).length := by simpa [kindsS] using h
      have e : (kindsS ns n)[i + j] = (ns.getD (n.kids.getD (i + j) 0).toNat default).k := by simp [kindsS, h]
      rw [List.drop_eq_getElem_cons h2, e, Int.toNat_natCast, Nat.add_assoc]
    have hend : n.kids.length ≤ i + j → (kindsS ns n).drop (i + j) = [] := fun h => List.drop_of_length_le (by simpa [kindsS] using h)
    conv => whnf
    repeat' (first | (refine two_eq (fun h => ?_) (fun h => ?_) <;> (conv => whnf)) | (refine two_ne (fun h => ?_) (fun h => ?_) <;> (conv => whnf)) | (refine two_not (fun h => ?_) (fun h => ?_) <;> (conv => whnf)) | (refine two_dec (fun h => ?_) (fun h => ?_) <;> (conv => whnf)) | (refine two_intro (fun h => ?_) (fun h => ?_) <;> (conv => whnf)) | (refine Chk.mk ?_ ?_; (focus (((repeat' (refine And.intro ?_ ?_)) <;> (first | omega | rfl | (simp only [List.length_append, List.length_cons, List.length_nil]; omega) | fail)); done)); (conv => whnf)) | (refine And.intro ?_ ?_; (focus (((repeat' (refine And.intro ?_ ?_)) <;> (first | omega | rfl | (simp only [List.length_append, List.length_cons, List.length_nil]; omega) | fail)); done)); (conv => whnf)) | (refine Exists.intro _ (And.intro rfl ?_)) | (refine Exists.intro _ (Exists.intro _ (And.intro rfl ?_))) | (refine Exists.intro _ (Exists.intro _ (Exists.intro _ (And.intro rfl ?_)))) | fail)
    all_goals first
    | (have h0 : cntS (fun k => k == c) (m - j) ((kindsS ns n).drop (i + j)) = 0 := by
        first
        | (rw [hend (by omega)]; cases (m - j) <;> rfl)
        | (rw [show m - j = 0 by omega]; rfl)
        | (rw [hkd (by omega), show m - j = (m - j - 1) + 1 by omega, cnt_f]; (simp only [stB, exB, Bool.and_eq_true, Bool.and_eq_false_iff, decide_eq_true_eq, decide_eq_false_iff_not, beq_iff_eq, beq_eq_false_iff_ne]; omega))
        | fail
       have he : cntS (fun k => k == c) m ((kindsS ns n).drop i) = j := by rw [he, h0]; rfl
       rw [he] at hk
       exact hr _ _ (intV (j : Int)) (kidsK ns root n ((i + j : Nat) : Int) ++ [ibox c]) rfl rfl (by repeat' (first | exact trivial | exact rfl | (refine And.intro ?_ ?_) | fail)) (AV.le_of_eq (congrArg intV hw)) (lesK.refl _) (by rw [List.append_nil]; exact hk))
    | (have hw1 := hw1 (by omega)
       refine hle _ _ (Le.env ?_ ?_) (ih (j + 1) (by omega) ⟨by omega, by omega, ?_⟩)
       · skip
         repeat' (first | exact trivial | ((conv => whnf); first | exact trivial | (refine And.intro (AV.le_refl _) ?_) | (refine And.intro (ABlk.le_refl _) ?_) | (refine And.intro (AV.le_of_eq ?_) ?_; (focus ((first | fail | fail); done))) | (refine And.intro (ABlk.le_of_eq ?_) ?_; (focus ((first | fail | fail); done))) | fail) | fail)
       · skip
         repeat' (first | exact trivial | ((conv => whnf); first | exact trivial | (refine And.intro (AV.le_refl _) ?_) | (refine And.intro (ABlk.le_refl _) ?_) | (refine And.intro (AV.le_of_eq ?_) ?_; (focus ((first | exact congrArg (fun x => ABlk.box 3 [.p (.int .i64 x)]) hw1 | fail); done))) | (refine And.intro (ABlk.le_of_eq ?_) ?_; (focus ((first | exact congrArg (fun x => ABlk.box 3 [.p (.int .i64 x)]) hw1 | fail); done))) | fail) | fail)
       · rw [he, hkd (by omega), show m - j = (m - (j + 1)) + 1 by omega, cnt_t (by (simp only [stB, exB, Bool.and_eq_true, Bool.and_eq_false_iff, decide_eq_true_eq, decide_eq_false_iff_not, beq_iff_eq, beq_eq_false_iff_ne]; omega))]; omega)
    | fail
  · skip
    refine frameG (K0 := kidsK ns root n i ++ [ibox a, ibox c]) (X := []) gN_ok 19 rfl (by repeat' (first | exact trivial | exact rfl | (refine And.intro ?_ ?_) | fail)) fun Q hr => ?_
    conv => whnf
    refine loop_up (ι := Nat) [0, 1, 2, 3, 4, 8] (fun _ => []) (fun j => [(2, .box 3 [.p (.int .i64 ((i + j : Nat) : Int))])])
      (fun j => j ≤ m ∧ (j = 0 ∨ i + j ≤ n.kids.length) ∧ cntS (fun k => k == c) m ((kindsS ns n).drop i) = j + cntS (fun k => k == c) (m - j) ((kindsS ns n).drop (i + j))) (fun j => n.kids.length - (i + j)) 0 trivial ⟨upLe1 rfl (ABlk.le_refl _), trivial⟩ ⟨Nat.zero_le _, .inl rfl, by simp⟩ ?_
    rintro Y hle j ⟨hj, hij, he⟩ ih
    have hw : IntKind.i64.wrap (((i + j : Nat) : Int) - (i : Int)) = j := by rw [w64 ⟨by omega, by omega⟩]; omega
    have hw1 : i + j < n.kids.length → IntKind.i64.wrap (((i + j : Nat) : Int) + 1) = ((i + (j + 1) : Nat) : Int) := fun h => by rw [w64 ⟨by omega, by omega⟩]; omega
    have hg : i + j < n.kids.length → 0 ≤ n.kids.getD ((i + j : Nat) : Int).toNat 0 ∧ n.kids.getD ((i + j : Nat) : Int).toNat 0 < ns.length := fun h => hq _ (by rw [Int.toNat_natCast, List.getD_eq_getElem?_getD, List.getElem?_eq_getElem h]; exact List.getElem_mem h)
    have hkd : i + j < n.kids.length → (kindsS ns n).drop (i + j) = (ns.getD (n.kids.getD ((i + j : Nat) : Int).toNat 0).toNat default).k :: (kindsS ns n).drop (i + (j + 1)) := fun h => by
      have h2 : i + j < (kindsS ns n).length := by simpa [kindsS] using h
      have e : (kindsS ns n)[i + j] = (ns.getD (n.kids.getD (i + j) 0).toNat default).k := by simp [kindsS, h]
      rw [List.drop_eq_getElem_cons h2, e, Int.toNat_natCast, Nat.add_assoc]
    have hend : n.kids.length ≤ i + j → (kindsS ns n).drop (i + j) = [] := fun h => List.drop_of_length_le (by simpa [kindsS] using h)
    conv => whnf
    repeat' (first | (refine two_eq (fun h => ?_) (fun h => ?_) <;> (conv => whnf)) | (refine two_ne (fun h => ?_) (fun h => ?_) <;> (conv => whnf)) | (refine two_not (fun h => ?_) (fun h => ?_) <;> (conv => whnf)) | (refine two_dec (fun h => ?_) (fun h => ?_) <;> (conv => whnf)) | (refine two_intro (fun h => ?_) (fun h => ?_) <;> (conv => whnf)) | (refine Chk.mk ?_ ?_; (focus (((repeat' (refine And.intro ?_ ?_)) <;> (first | omega | rfl | (simp only [List.length_append, List.length_cons, List.length_nil]; omega) | fail)); done)); (conv => whnf)) | (refine And.intro ?_ ?_; (focus (((repeat' (refine And.intro ?_ ?_)) <;> (first | omega | rfl | (simp only [List.length_append, List.length_cons, List.length_nil]; omega) | fail)); done)); (conv => whnf)) | (refine Exists.intro _ (And.intro rfl ?_)) | (refine Exists.intro _ (Exists.intro _ (And.intro rfl ?_))) | (refine Exists.intro _ (Exists.intro _ (Exists.intro _ (And.intro rfl ?_)))) | fail)
    all_goals first
    | (have h0 : cntS (fun k => k == c) (m - j) ((kindsS ns n).drop (i + j)) = 0 := by
        first
        | (rw [hend (by omega)]; cases (m - j) <;> rfl)
        | (rw [show m - j = 0 by omega]; rfl)
        | (rw [hkd (by omega), show m - j = (m - j - 1) + 1 by omega, cnt_f]; (simp only [stB, exB, Bool.and_eq_true, Bool.and_eq_false_iff, decide_eq_true_eq, decide_eq_false_iff_not, beq_iff_eq, beq_eq_false_iff_ne]; omega))
        | fail
       have he : cntS (fun k => k == c) m ((kindsS ns n).drop i) = j := by rw [he, h0]; rfl
       rw [he] at hk
       exact hr _ _ (intV (j : Int)) (kidsK ns root n ((i + j : Nat) : Int) ++ [ibox a, ibox c]) rfl rfl (by repeat' (first | exact trivial | exact rfl | (refine And.intro ?_ ?_) | fail)) (AV.le_of_eq (congrArg intV hw)) (lesK.refl _) (by rw [List.append_nil]; exact hk))
    | (have hw1 := hw1 (by omega)
       refine hle _ _ (Le.env ?_ ?_) (ih (j + 1) (by omega) ⟨by omega, by omega, ?_⟩)
       · skip
         repeat' (first | exact trivial | ((conv => whnf); first | exact trivial | (refine And.intro (AV.le_refl _) ?_) | (refine And.intro (ABlk.le_refl _) ?_) | (refine And.intro (AV.le_of_eq ?_) ?_; (focus ((first | fail | fail); done))) | (refine And.intro (ABlk.le_of_eq ?_) ?_; (focus ((first | fail | fail); done))) | fail) | fail)
       · skip
         repeat' (first | exact trivial | ((conv => whnf); first | exact trivial | (refine And.intro (AV.le_refl _) ?_) | (refine And.intro (ABlk.le_refl _) ?_) | (refine And.intro (AV.le_of_eq ?_) ?_; (focus ((first | exact congrArg (fun x => ABlk.box 3 [.p (.int .i64 x)]) hw1 | fail); done))) | (refine And.intro (ABlk.le_of_eq ?_) ?_; (focus ((first | exact congrArg (fun x => ABlk.box 3 [.p (.int .i64 x)]) hw1 | fail); done))) | fail) | fail)
       · rw [he, hkd (by omega), show m - j = (m - (j + 1)) + 1 by omega, cnt_t (by (simp only [stB, exB, Bool.and_eq_true, Bool.and_eq_false_iff, decide_eq_true_eq, decide_eq_false_iff_not, beq_iff_eq, beq_eq_false_iff_ne]; omega))]; omega)
    | fail
  · skip
    refine frameG (K0 := kidsK ns root n i ++ [ibox a, ibox b, ibox c]) (X := []) gN_ok 19 rfl (by repeat' (first | exact trivial | exact rfl | (refine And.intro ?_ ?_) | fail)) fun Q hr => ?_
    conv => whnf
    refine loop_up (ι := Nat) [0, 1, 2, 3, 4, 8] (fun _ => []) (fun j => [(2, .box 3 [.p (.int .i64 ((i + j : Nat) : Int))])])
      (fun j => j ≤ m ∧ (j = 0 ∨ i + j ≤ n.kids.length) ∧ cntS (fun k => k == c) m ((kindsS ns n).drop i) = j + cntS (fun k => k == c) (m - j) ((kindsS ns n).drop (i + j))) (fun j => n.kids.length - (i + j)) 0 trivial ⟨upLe1 rfl (ABlk.le_refl _), trivial⟩ ⟨Nat.zero_le _, .inl rfl, by simp⟩ ?_
    rintro Y hle j ⟨hj, hij, he⟩ ih
    have hw : IntKind.i64.wrap (((i + j : Nat) : Int) - (i : Int)) = j := by rw [w64 ⟨by omega, by omega⟩]; omega
    have hw1 : i + j < n.kids.length → IntKind.i64.wrap (((i + j : Nat) : Int) + 1) = ((i + (j + 1) : Nat) : Int) := fun h => by rw [w64 ⟨by omega, by omega⟩]; omega
    have hg : i + j < n.kids.length → 0 ≤ n.kids.getD ((i + j : Nat) : Int).toNat 0 ∧ n.kids.getD ((i + j : Nat) : Int).toNat 0 < ns.length := fun h => hq _ (by rw [Int.toNat_natCast, List.getD_eq_getElem?_getD, List.getElem?_eq_getElem h]; exact List.getElem_mem h)
    have hkd : i + j < n.kids.length → (kindsS ns n).drop (i + j) = (ns.getD (n.kids.getD ((i + j : Nat) : Int).toNat 0).toNat default).k :: (kindsS ns n).drop (i + (j + 1)) := fun h => by
      have h2 : i + j < (kindsS ns n).length := by simpa [kindsS] using h
      have e : (kindsS ns n)[i + j] = (ns.getD (n.kids.getD (i + j) 0).toNat default).k := by simp [kindsS, h]
      rw [List.drop_eq_getElem_cons h2, e, Int.toNat_natCast, Nat.add_assoc]
    have hend : n.kids.length ≤ i + j → (kindsS ns n).drop (i + j) = [] := fun h => List.drop_of_length_le (by simpa [kindsS] using h)
    conv => whnf
    repeat' (first | (refine two_eq (fun h => ?_) (fun h => ?_) <;> (conv => whnf)) | (refine two_ne (fun h => ?_) (fun h => ?_) <;> (conv => whnf)) | (refine two_not (fun h => ?_) (fun h => ?_) <;> (conv => whnf)) | (refine two_dec (fun h => ?_) (fun h => ?_) <;> (conv => whnf)) | (refine two_intro (fun h => ?_) (fun h => ?_) <;> (conv => whnf)) | (refine Chk.mk ?_ ?_; (focus (((repeat' (refine And.intro ?_ ?_)) <;> (first | omega | rfl | (simp only [List.length_append, List.length_cons, List.length_nil]; omega) | fail)); done)); (conv => whnf)) | (refine And.intro ?_ ?_; (focus (((repeat' (refine And.intro ?_ ?_)) <;> (first | omega | rfl | (simp only [List.length_append, List.length_cons, List.length_nil]; omega) | fail)); done)); (conv => whnf)) | (refine Exists.intro _ (And.intro rfl ?_)) | (refine Exists.intro _ (Exists.intro _ (And.intro rfl ?_))) | (refine Exists.intro _ (Exists.intro _ (Exists.intro _ (And.intro rfl ?_)))) | fail)
    all_goals first
    | (have h0 : cntS (fun k => k == c) (m - j) ((kindsS ns n).drop (i + j)) = 0 := by
        first
        | (rw [hend (by omega)]; cases (m - j) <;> rfl)
        | (rw [show m - j = 0 by omega]; rfl)
        | (rw [hkd (by omega), show m - j = (m - j - 1) + 1 by omega, cnt_f]; (simp only [stB, exB, Bool.and_eq_true, Bool.and_eq_false_iff, decide_eq_true_eq, decide_eq_false_iff_not, beq_iff_eq, beq_eq_false_iff_ne]; omega))
        | fail
       have he : cntS (fun k => k == c) m ((kindsS ns n).drop i) = j := by rw [he, h0]; rfl
       rw [he] at hk
       exact hr _ _ (intV (j : Int)) (kidsK ns root n ((i + j : Nat) : Int) ++ [ibox a, ibox b, ibox c]) rfl rfl (by repeat' (first | exact trivial | exact rfl | (refine And.intro ?_ ?_) | fail)) (AV.le_of_eq (congrArg intV hw)) (lesK.refl _) (by rw [List.append_nil]; exact hk))
    | (have hw1 := hw1 (by omega)
       refine hle _ _ (Le.env ?_ ?_) (ih (j + 1) (by omega) ⟨by omega, by omega, ?_⟩)
       · skip
         repeat' (first | exact trivial | ((conv => whnf); first | exact trivial | (refine And.intro (AV.le_refl _) ?_) | (refine And.intro (ABlk.le_refl _) ?_) | (refine And.intro (AV.le_of_eq ?_) ?_; (focus ((first | fail | fail); done))) | (refine And.intro (ABlk.le_of_eq ?_) ?_; (focus ((first | fail | fail); done))) | fail) | fail)
       · skip
         repeat' (first | exact trivial | ((conv => whnf); first | exact trivial | (refine And.intro (AV.le_refl _) ?_) | (refine And.intro (ABlk.le_refl _) ?_) | (refine And.intro (AV.le_of_eq ?_) ?_; (focus ((first | exact congrArg (fun x => ABlk.box 3 [.p (.int .i64 x)]) hw1 | fail); done))) | (refine And.intro (ABlk.le_of_eq ?_) ?_; (focus ((first | exact congrArg (fun x => ABlk.box 3 [.p (.int .i64 x)]) hw1 | fail); done))) | fail) | fail)
       · rw [he, hkd (by omega), show m - j = (m - (j + 1)) + 1 by omega, cnt_t (by (simp only [stB, exB, Bool.and_eq_true, Bool.and_eq_false_iff, decide_eq_true_eq, decide_eq_false_iff_not, beq_iff_eq, beq_eq_false_iff_ne]; omega))]; omega)
    | fail
def gKi : AG := gput 140 cTakeK gN
theorem gKi_ok : GOk Tryz.prog gKi := gput_ok take_ok' gN_ok
def cKids : AC := fun args K k => ∃ ns root n, args = [treeV ns root, nodeV n] ∧ n.kids.length ≤ 4000 ∧ (∀ q ∈ n.kids, 0 ≤ q ∧ q < (List.length ns : Int)) ∧ k (.ret (.p (.bool (kidsOkS n.k (kindsS ns n))))) K
theorem kids_ok : COk 91 cKids := by
  rintro args K k ⟨ns, root, n, rfl, hn, hq, hk⟩
  refine frame0P gKi_ok 19 rfl fun Q hr => ?_
  have hkl : (kindsS ns n).length = n.kids.length := by simp [kindsS]
  conv => whnf
  repeat' (first | (refine two_eq (fun h => ?_) (fun h => ?_) <;> (conv => whnf)) | (refine two_ne (fun h => ?_) (fun h => ?_) <;> (conv => whnf)) | (refine two_not (fun h => ?_) (fun h => ?_) <;> (conv => whnf)) | (refine two_dec (fun h => ?_) (fun h => ?_) <;> (conv => whnf)) | (refine two_intro (fun h => ?_) (fun h => ?_) <;> (conv => whnf)) | (refine Chk.mk ?_ ?_; (focus (((repeat' (refine And.intro ?_ ?_)) <;> (first | omega | rfl | (simp only [List.length_append, List.length_cons, List.length_nil]; omega) | fail)); done)); (conv => whnf)) | (refine And.intro ?_ ?_; (focus (((repeat' (refine And.intro ?_ ?_)) <;> (first | omega | rfl | (simp only [List.length_append, List.length_cons, List.length_nil]; omega) | fail)); done)); (conv => whnf)) | (refine ⟨ns, root, n, _, _, _, _, _, _, _, rfl, rfl, (Int.toNat_of_nonneg ?_).symm, (Int.toNat_of_nonneg ?_).symm, ?_, hn, hq, .inl ⟨rfl, rfl, .inl rfl⟩, ?_⟩; (focus omega); (focus omega); (focus omega); (conv => whnf)) | (refine ⟨ns, root, n, _, _, _, _, _, _, _, rfl, rfl, (Int.toNat_of_nonneg ?_).symm, (Int.toNat_of_nonneg ?_).symm, ?_, hn, hq, .inl ⟨rfl, rfl, .inr ⟨_, rfl⟩⟩, ?_⟩; (focus omega); (focus omega); (focus omega); (conv => whnf)) | (refine ⟨ns, root, n, _, _, _, _, _, _, _, rfl, rfl, (Int.toNat_of_nonneg ?_).symm, (Int.toNat_of_nonneg ?_).symm, ?_, hn, hq, .inr (.inl ⟨rfl, rfl, .inl rfl⟩), ?_⟩; (focus omega); (focus omega); (focus omega); (conv => whnf)) | (refine ⟨ns, root, n, _, _, _, _, _, _, _, rfl, rfl, (Int.toNat_of_nonneg ?_).symm, (Int.toNat_of_nonneg ?_).symm, ?_, hn, hq, .inr (.inl ⟨rfl, rfl, .inr ⟨_, rfl⟩⟩), ?_⟩; (focus omega); (focus omega); (focus omega); (conv => whnf)) | (refine ⟨ns, root, n, _, _, _, _, _, _, _, rfl, rfl, (Int.toNat_of_nonneg ?_).symm, (Int.toNat_of_nonneg ?_).symm, ?_, hn, hq, .inr (.inr ⟨_, rfl, .inl ⟨rfl, rfl⟩⟩), ?_⟩; (focus omega); (focus omega); (focus omega); (conv => whnf)) | (refine ⟨ns, root, n, _, _, _, _, _, _, _, rfl, rfl, (Int.toNat_of_nonneg ?_).symm, (Int.toNat_of_nonneg ?_).symm, ?_, hn, hq, .inr (.inr ⟨_, rfl, .inr (.inl ⟨_, rfl, rfl⟩)⟩), ?_⟩; (focus omega); (focus omega); (focus omega); (conv => whnf)) | (refine ⟨ns, root, n, _, _, _, _, _, _, _, rfl, rfl, (Int.toNat_of_nonneg ?_).symm, (Int.toNat_of_nonneg ?_).symm, ?_, hn, hq, .inr (.inr ⟨_, rfl, .inr (.inr ⟨_, _, rfl, rfl⟩)⟩), ?_⟩; (focus omega); (focus omega); (focus omega); (conv => whnf)) | fail)
  all_goals refine hr _ _ rfl (ret_eq hk ?_)
  all_goals clear hr hk hq
  all_goals try simp only [Int.toNat_natCast, show Int.toNat 0 = 0 from rfl, show Int.toNat 4000 = 4000 from rfl, show Int.toNat 1 = 1 from rfl, show Int.toNat 2 = 2 from rfl, Nat.zero_add, List.drop_zero] at *
  all_goals refine congrArg (fun b => AV.p (.bool b)) (Bool.eq_iff_iff.2 ?_)
  all_goals simp (disch := omega) only [kidsOkS, if_pos, if_neg, List.drop_zero, Nat.zero_add, hkl]
  all_goals simp only [Bool.and_eq_true, beq_iff_eq, reduceCtorEq]
  all_goals first | omega | (simp only [iff_false, not_and]; intros; omega) | fail
end Go.Proofs.YtojjkleplnijaaaGreatDoor

namespace Go.Proofs.YtojjkleplnijaaaGreatDoor
open Go.AE Go.Ru
set_option maxRecDepth 100000
set_option maxHeartbeats 1000000
def gR3 : AG := gput 89 cText (gput 90 cNumber (gput 91 cKids g0))
theorem gR3_ok : GOk Tryz.prog gR3 := gput_ok text_ok (gput_ok number_ok (gput_ok kids_ok g0_ok))
def treeK (ns : List Nd) (root : Int) : List ABlk := [.box 24 [.p (.sl 5 ns.length (nodeF ns)), .p (.int .i64 root)]]
def cBad : AC := fun args K k => ∃ ns root n X, args = [nodeV n, .ptr 0 0 1 0 0] ∧ K = treeK ns root ++ X ∧ n.tx.length < 1000000 ∧ n.kids.length ≤ 4000 ∧ (∀ q ∈ n.kids, 0 ≤ q ∧ q < (List.length ns : Int)) ∧ k (.ret (.p (.bool (!nodeOkS ns n)))) (treeK ns root ++ X)
theorem bad_ok : COk 88 cBad := by
  rintro args K k ⟨ns, root, n, X, rfl, rfl, ht, hn, hq, hk⟩
  refine frameG (K0 := treeK ns root) gR3_ok 19 rfl ⟨rfl, trivial⟩ fun Q hr => ?_
  conv => whnf
  repeat' (first | (refine two_eq (fun h => ?_) (fun h => ?_) <;> (conv => whnf)) | (refine two_ne (fun h => ?_) (fun h => ?_) <;> (conv => whnf)) | (refine two_not (fun h => ?_) (fun h => ?_) <;> (conv => whnf)) | (refine two_dec (fun h => ?_) (fun h => ?_) <;> (conv => whnf)) | (refine two_intro (fun h => ?_) (fun h => ?_) <;> (conv => whnf)) | (refine ⟨n, rfl, ht, ?_⟩; (conv => whnf)) | (refine ⟨n, rfl, ?_⟩; (conv => whnf)) | (refine ⟨ns, root, n, rfl, hn, hq, ?_⟩; (conv => whnf)) | fail)
  all_goals refine hr _ _ _ _ rfl rfl ⟨rfl, trivial⟩ (AV.le_of_eq ?_) (lesK.refl _) hk
  all_goals refine congrArg (fun b => AV.p (.bool b)) (Bool.eq_iff_iff.2 ?_)
  all_goals clear hr hk hq
  all_goals (simp_all [nodeOkS] <;> (try intros) <;> omega)
def gR4 : AG := gput 88 cBad g0
theorem gR4_ok : GOk Tryz.prog gR4 := gput_ok bad_ok g0_ok
def badAt (ns : List Nd) (i : Nat) : List Nd → Int
  | [] => -1
  | n :: r => match nodeOkS ns n with
    | false => (i : Int)
    | true => badAt ns (i + 1) r
structure Sized (ns : List Nd) : Prop where
  len : ns.length ≤ 4000
  txt : ∀ i, (ns.getD i default).tx.length < 1000000
  many : ∀ i, (ns.getD i default).kids.length ≤ 4000
  kid : ∀ i, ∀ q ∈ (ns.getD i default).kids, 0 ≤ q ∧ q < (ns.length : Int)
def cIdxR : AC := fun args K k => ∃ ns root X, args = [.p (.sl 5 (List.length ns) (nodeF ns)), .fn 88 [] [.ptr 0 0 1 0 0]] ∧ K = treeK ns root ++ X ∧ Sized ns ∧ k (.ret (intV (badAt ns 0 ns))) (treeK ns root ++ X)
theorem idxR_ok : COk 136 cIdxR := by
  rintro args K k ⟨ns, root, X, rfl, rfl, hz, hk⟩
  have hl := hz.len
  refine frameG (K0 := treeK ns root) gR4_ok 19 rfl ⟨rfl, trivial⟩ fun Q hr => ?_
  conv => whnf
  refine loop_up (ι := Nat) [0, 1, 7] (fun i => [(8, intV i)]) (fun _ => []) (fun i => i ≤ ns.length ∧ badAt ns i (ns.drop i) = badAt ns 0 ns) (fun i => ns.length - i) 0 ⟨AV.le_refl _, trivial⟩ trivial ⟨Nat.zero_le _, rfl⟩ ?_
  rintro Y hle i ⟨hi, he⟩ ih
  have hw1 : IntKind.i64.wrap ((i : Int) + 1) = ((i + 1 : Nat) : Int) := by rw [w64 ⟨by omega, by omega⟩]; omega
  conv => whnf
  refine two_dec (fun h => ?_) (fun h => ?_)
  · have h : i < ns.length := by omega
    rw [List.drop_eq_getElem_cons h] at he
    have e1 : ns.getD i default = ns[i] := by simp [h]
    conv => whnf
    repeat' (first | (refine two_eq (fun h => ?_) (fun h => ?_) <;> (conv => whnf)) | (refine two_ne (fun h => ?_) (fun h => ?_) <;> (conv => whnf)) | (refine two_not (fun h => ?_) (fun h => ?_) <;> (conv => whnf)) | (refine two_dec (fun h => ?_) (fun h => ?_) <;> (conv => whnf)) | (refine two_intro (fun h => ?_) (fun h => ?_) <;> (conv => whnf)) | (refine Chk.mk ?_ ?_; (focus (((repeat' (refine And.intro ?_ ?_)) <;> (first | omega | rfl | (simp only [List.length_append, List.length_cons, List.length_nil]; omega) | fail)); done)); (conv => whnf)) | (refine And.intro ?_ ?_; (focus (((repeat' (refine And.intro ?_ ?_)) <;> (first | omega | rfl | (simp only [List.length_append, List.length_cons, List.length_nil]; omega) | fail)); done)); (conv => whnf)) | (refine Exists.intro _ (And.intro rfl ?_)) | (refine Exists.intro _ (Exists.intro _ (And.intro rfl ?_))) | (refine Exists.intro _ (Exists.intro _ (Exists.intro _ (And.intro rfl ?_)))) | fail)
    refine ⟨ns, root, ns.getD i default, [], rfl, rfl, hz.txt _, hz.many _, hz.kid _, ?_⟩
    conv => whnf
    refine two_not (fun h2 => ?_) (fun h2 => ?_)
    · rw [e1] at h2
      simp only [badAt, h2] at he
      conv => whnf
      exact hr _ _ _ _ rfl rfl ⟨rfl, trivial⟩ (AV.le_refl _) (lesK.refl _) (he ▸ hk)
    · rw [e1] at h2
      simp only [badAt, h2] at he
      conv => whnf
      refine hle _ _ (Le.env ?_ ?_) (ih (i + 1) (by omega) ⟨by omega, he⟩)
      · skip
        repeat' (first | exact trivial | ((conv => whnf); first | exact trivial | (refine And.intro (AV.le_refl _) ?_) | (refine And.intro (ABlk.le_refl _) ?_) | (refine And.intro (AV.le_of_eq ?_) ?_; (focus ((first | exact congrArg intV hw1 | fail); done))) | (refine And.intro (ABlk.le_of_eq ?_) ?_; (focus ((first | exact congrArg intV hw1 | fail); done))) | fail) | fail)
      · skip
        repeat' (first | exact trivial | ((conv => whnf); first | exact trivial | (refine And.intro (AV.le_refl _) ?_) | (refine And.intro (ABlk.le_refl _) ?_) | (refine And.intro (AV.le_of_eq ?_) ?_; (focus ((first | fail | fail); done))) | (refine And.intro (ABlk.le_of_eq ?_) ?_; (focus ((first | fail | fail); done))) | fail) | fail)
  · obtain rfl : i = ns.length := by omega
    rw [List.drop_length] at he
    rw [← he] at hk
    conv => whnf
    exact hr _ _ _ _ rfl rfl ⟨rfl, trivial⟩ (AV.le_refl _) (lesK.refl _) hk
theorem badAt_all (ns : List Nd) (i : Nat) (l : List Nd) : decide (badAt ns i l ≥ 0) = !l.all (nodeOkS ns) := by
  induction l generalizing i with
  | nil => rfl
  | cons n r ih =>
    unfold badAt
    rw [List.all_cons]
    by_cases h : nodeOkS ns n = true
    · rw [h]; simp only [ih, Bool.true_and]
    · rw [Bool.eq_false_iff.2 h]; simp
def gR5 : AG := gput 136 cIdxR (gput 85 cSound (gput 86 cDepth g0))
theorem gR5_ok : GOk Tryz.prog gR5 := gput_ok idxR_ok (gput_ok sound_ok (gput_ok depth_ok g0_ok))
theorem getD_lt {ns : List Nd} {i : Nat} (h : ¬ i < ns.length) : ns.getD i default = default := by
  rw [List.getD_eq_getElem?_getD, List.getElem?_eq_none (by omega)]; rfl
theorem sized_of {ns : List Nd} {root : Int} (h : soundS ns root = true) (ht : ∀ i, (ns.getD i default).tx.length < 1000000) : Sized ns := by
  obtain ⟨h1, h2, h3, h4⟩ := soundS_ok h
  refine ⟨h2, ht, fun i => ?_, fun i q hq => ?_⟩
  · by_cases hi : i < ns.length
    · have := soundS_many h i hi; omega
    · rw [getD_lt hi]; exact Nat.zero_le _
  · by_cases hi : i < ns.length
    · have := h4 i hi q hq; omega
    · rw [getD_lt hi] at hq; cases hq
def cRight : AC := fun args K k => ∃ ns root, args = [treeV ns root] ∧ (List.length ns : Nat) < 1000000 ∧ (∀ i, (ns.getD i default).tx.length < 1000000) ∧ k (.ret (.p (.bool (rightS ns root)))) K
theorem right_ok : COk 44 cRight := by
  rintro args K k ⟨ns, root, rfl, hn, ht, hk⟩
  refine frame0P gR5_ok 19 rfl fun Q hr => ?_
  conv => whnf
  refine ⟨ns, root, rfl, hn, ?_⟩
  cases hs : soundS ns root with
  | false =>
    conv => whnf
    exact hr _ _ rfl (by simpa [rightS, hs] using hk)
  | true =>
    have hz := sized_of hs ht
    obtain ⟨h1, h2, h3, h4⟩ := soundS_ok hs
    conv => whnf
    refine ⟨ns, root, rfl, hn, ?_⟩
    conv => whnf
    refine two_dec (fun h => ?_) (fun h => ?_)
    · conv => whnf
      exact hr _ _ rfl (by simpa [rightS, hs, show ¬ depthS ns root ≤ 40 by omega] using hk)
    conv => whnf
    refine ⟨⟨by omega, by omega, rfl⟩, ?_⟩
    conv => whnf
    refine two_ne (fun h' => ?_) (fun h' => ?_)
    · conv => whnf
      exact hr _ _ rfl (ret_eq hk (congrArg (fun b => AV.p (.bool b)) (by simp only [rightS, beq_eq_false_iff_ne.2 h', Bool.and_false, Bool.false_and])))
    conv => whnf
    refine ⟨ns, root, [], rfl, rfl, hz, ?_⟩
    conv => whnf
    exact hr _ _ rfl (ret_eq hk (congrArg (fun b => AV.p (.bool b)) (by
      show _ = !decide (badAt ns 0 ns ≥ 0)
      rw [badAt_all, Bool.not_not]
      simp only [rightS, hs, h', show depthS ns root ≤ 40 by omega, decide_true, beq_self_eq_true, Bool.true_and])))
end Go.Proofs.YtojjkleplnijaaaGreatDoor

namespace Go.AE
def fsxB (r sz n : Nat) (g : Nat → List PV) (b b' : ABlk) : Prop := fswB r sz n g b b' ∨ ∃ ty s ver k f f', b = .arr ty s ver k f ∧ b' = .arr ty s ver k f' ∧ ∀ i, i < k → fswL r sz n g (f i) (f' i)
def fsxK (r sz n : Nat) (g : Nat → List PV) : List ABlk → List ABlk → Prop
  | [], [] => True
  | a :: l, b :: l' => fsxB r sz n g a b ∧ fsxK r sz n g l l'
  | _, _ => False
theorem fsxK.hp {r sz n : Nat} {g : Nat → List PV} {K K' : List ABlk} (h : fsxK r sz n g K K') (j : Nat) : fsxB r sz n g (hp K j) (hp K' j) := by
  induction K generalizing K' j with
  | nil => cases K' with
    | nil => exact .inl (.inl (ABlk.le_refl _))
    | cons b l' => exact h.elim
  | cons a l ih => cases K' with
    | nil => exact h.elim
    | cons b l' =>
      cases j with
      | zero => exact h.1
      | succ j => exact ih h.2 j
end Go.AE

namespace Go.AE
inductive Fz (K : List ABlk) : AV → PV → Prop where
  | p (v : PV) : Fz K (.p v) v
  | sl (r ty sz ver N off n : Nat) (f : Nat → List AV) (g : Nat → List PV) (hr : nth K r = some (.arr ty sz ver N f)) (hn : off + n = N)
      (hl : ∀ i, i < n → (f (off + i)).length = (g i).length) (h : ∀ i, i < n → ∀ j (hj : j < (f (off + i)).length) (hj' : j < (g i).length), Fz K (f (off + i))[j] (g i)[j]) : Fz K (.slr r ver off n) (.sl sz n g)
  | mp (r : Nat) (kt : KT) (g : MK → Option AV) (st : List (MK × Nat)) (g' : MK → Option PV) (hr : nth K r = some (.mp kt g st)) (h0 : ∀ κ, κ.kt = kt → ((g κ).isSome ↔ (g' κ).isSome))
      (h : ∀ κ a p, κ.kt = kt → g κ = some a → g' κ = some p → Fz K a p) : Fz K (.mref r) (.mp kt g')
inductive FzV (K : List ABlk) : AV → AV → Prop where
  | p (a : AV) (v : PV) (h : Fz K a v) : FzV K a (.p v)
  | box (r ty off : Nat) (cs : List AV) (ps : List PV) (hr : nth K r = some (.box ty cs)) (hl : cs.length = ps.length) (h : ∀ j (hj : j < cs.length) (hj' : j < ps.length), Fz K cs[j] ps[j]) : FzV K (.ptr r 0 1 0 off) (.rop ps off)
  | rop (ps : List PV) (off : Nat) : FzV K (.rop ps off) (.rop ps off)
  | agg (cs cs' : List AV) (hl : cs.length = cs'.length) (h : ∀ j (hj : j < cs.length) (hj' : j < cs'.length), FzV K cs[j] cs'[j]) : FzV K (.agg cs) (.agg cs')
  | tup (cs cs' : List AV) (hl : cs.length = cs'.length) (h : ∀ j (hj : j < cs.length) (hj' : j < cs'.length), FzV K cs[j] cs'[j]) : FzV K (.tup cs) (.tup cs')
  | iface (t : TypeId) (a a' : AV) (h : FzV K a a') : FzV K (.iface t a) (.iface t a')
  | junk (a : AV) : FzV K a .junk
def ABlk.ded : ABlk → ABlk
  | .absent => .absent
  | _ => .dead
def deadK : List ABlk → List ABlk
  | [] => []
  | b :: l => b.ded :: deadK l
theorem hp_deadK (K : List ABlk) (r : Nat) : hp (deadK K) r = (hp K r).ded := by
  induction K generalizing r with
  | nil => rfl
  | cons b K ih =>
    cases r with
    | zero => rfl
    | succ r => exact ih r
def Mp.frz (m : Mp) : Mp := ⟨m.ρ, fun b => m.I b ∨ ∃ r, (m.L r).isLive ∧ m.ρ r = b, fun r => match m.L r with | .absent => .absent | _ => .dead⟩
theorem Mp.frz_live (m : Mp) (r : Nat) : ¬ (m.frz.L r).isLive := by
  simp only [Mp.frz]
  split <;> simp [Inf.isLive]
theorem Tr.frz (w : World) (m : Mp) : Tr w m w m.frz where
  os := rfl
  tape := rfl
  output := rfl
  size := Nat.le_refl _
  out := fun _ _ _ => rfl
  imm := fun _ h => .inl h
  same := fun _ _ => rfl
  newI := fun b h => by
    rcases h with h | h
    · exact .inl h
    · exact .inr (.inl h)
  step := fun r => by
    simp only [Mp.frz]
    cases m.L r with
    | absent => trivial
    | dead => rfl
    | nil v => exact .inl rfl
    | live a b c d => exact .inl rfl
  newρ := fun r h => absurd h (m.frz_live r)
theorem St.frz {w : World} {m : Mp} {K : List ABlk} (h : St w m (hp K)) : St w m.frz (hp (deadK K)) := by
  refine ⟨fun r1 r2 h1 => absurd h1 (m.frz_live r1), fun r h1 => absurd h1 (m.frz_live r), fun r h1 => absurd h1 (m.frz_live r), fun b hb => ?_, h.gl.mono (Tr.frz w m).imm (Tr.frz w m).same, fun r => ?_⟩
  · rcases hb with hb | ⟨r, h1, rfl⟩
    · exact h.Ilt b hb
    · exact h.lt r h1
  · rw [hp_deadK]
    have hb := h.blk r
    cases hk : hp K r with
    | absent => rw [hk] at hb; simp only [BlkOk] at hb; simp [ABlk.ded, BlkOk, Mp.frz, hb]
    | dead => rw [hk] at hb; simp only [BlkOk] at hb; simp [ABlk.ded, BlkOk, Mp.frz, hb]
    | box ty cs => rw [hk] at hb; simp [ABlk.ded, BlkOk, Mp.frz, hb.1]
    | lp => rw [hk] at hb; simp [ABlk.ded, BlkOk, Mp.frz, hb.1]
    | mp => rw [hk] at hb; simp [ABlk.ded, BlkOk, Mp.frz, hb.1]
    | arr ty sz ver n f =>
      rw [hk] at hb
      rcases hb with ⟨hb, _⟩ | ⟨cap, c, hb, _⟩ <;> simp [ABlk.ded, BlkOk, Mp.frz, hb]
theorem Fz.ok {w : World} {m : Mp} {K : List ABlk} (hS : St w m (hp K)) {a : AV} {p : PV} (h : Fz K a p) : ∀ {u : Value}, V w m a u → VP w m.frz.I p u := by
  induction h with
  | p v =>
    intro u hV
    cases hV with
    | p _ _ h => exact h.mono (Tr.frz w m).imm (fun _ _ => rfl)
  | sl r ty sz ver N off n f g hr hn hl h ih =>
    intro u hV
    have hb := hS.blk r
    rw [hp_nth hr] at hb
    cases hV with
    | slr _ _ _ _ N' sz' cap' hL hn' =>
      rcases hb with ⟨hb, _⟩ | ⟨cap, c, hb, h0, h00, h1, h2, h3⟩
      · rw [hL] at hb; simp at hb
      rw [hL] at hb
      injection hb with _ e2 e3 e4
      subst e3 e4
      have hlive : (m.L r).isLive := by rw [hL]; trivial
      have hc : ∀ i, i < n → ∀ j, j < (g i).length → ∃ x, c[(off + i) * sz' + j]? = some x ∧ VP w m.frz.I ((g i).getD j .nilp) x := fun i hi j hj => by
        have hj2 : j < (f (off + i)).length := by rw [hl i hi]; exact hj
        obtain ⟨x, h4, h5⟩ := (h3 (off + i) (by omega)).2 j hj2
        have := ih i hi j hj2 hj h5
        refine ⟨x, h4, ?_⟩
        rw [List.getD_eq_getElem?_getD, List.getElem?_eq_getElem hj]
        exact this
      refine .sl sz' n g (m.ρ r) (off * sz') (cap' - off) (fun i j => (c[(off + i) * sz' + j]?).getD undef) (.inr ⟨r, hlive, rfl⟩) ⟨by omega, by omega⟩ (fun i hi j hj => ?_) (fun i hi j hj => ?_)
      · obtain ⟨x, h4, _⟩ := hc i hi j hj
        rw [cell_of_row w _ _ c ty (0, 0) h1, show off * sz' + (i * sz' + j) = (off + i) * sz' + j by rw [Nat.add_mul]; omega, h4]
        rfl
      · obtain ⟨x, h4, h5⟩ := hc i hi j hj
        rw [h4]
        rw [List.getD_eq_getElem?_getD, List.getElem?_eq_getElem hj] at h5
        exact h5
    | slrNil _ _ hL => exact .sl0 ..
    | slrOld _ _ _ _ ad c hold =>
      exfalso
      rcases hb with ⟨hb, h0⟩ | ⟨cap, c, hb, _⟩
      · rw [hb] at hold; simp [Inf.old] at hold
      · rw [hb] at hold; simp [Inf.old] at hold; omega
  | mp r kt g st g' hr h0 h ih =>
    intro u hV
    have hb := hS.blk r
    rw [hp_nth hr] at hb
    obtain ⟨hl, es, clock, r2, h1, h2⟩ := hb
    cases hV with
    | mref _ sz cap hL =>
      have hlive : (m.L r).isLive := by rw [hL]; trivial
      refine .mp kt g' (m.ρ r) es clock r2 (.inr ⟨r, hlive, rfl⟩) h1 h2.is (fun κ hk hg => ?_) (fun κ p hk hg => ?_) (fun κ p i u hk hg hr => ?_)
      · refine h2.no κ hk ?_
        cases hq : g κ with
        | none => rfl
        | some a => have := (h0 κ hk).1 (by rw [hq]; rfl); rw [hg] at this; simp at this
      · have := (h0 κ hk).2 (by rw [hg]; rfl)
        cases hq : g κ with
        | none => rw [hq] at this; simp at this
        | some a => obtain ⟨i, u, h3, _⟩ := h2.yes κ a hk hq; rw [h3]; rfl
      · have := (h0 κ hk).2 (by rw [hg]; rfl)
        cases hq : g κ with
        | none => rw [hq] at this; simp at this
        | some a =>
          obtain ⟨i', u', h3, h4⟩ := h2.yes κ a hk hq
          rw [hr] at h3
          simp only [Option.some.injEq, Prod.mk.injEq] at h3
          obtain ⟨rfl, rfl⟩ := h3
          exact ih κ a p hk hq hg h4
    | mrefOld _ b hold => rw [hl] at hold; simp [Inf.old] at hold
theorem FzV.ok {w : World} {m : Mp} {K : List ABlk} (hS : St w m (hp K)) {a a' : AV} (h : FzV K a a') : ∀ {u : Value}, V w m a u → V w m.frz a' u := by
  induction h with
  | p a v h => intro u hV; exact .p v u (h.ok hS hV)
  | box r ty off cs ps hr hl h =>
    intro u hV
    have hb := hS.blk r
    rw [hp_nth hr] at hb
    obtain ⟨hL0, c, h1, h2, h3⟩ := hb
    cases hV with
    | ptr _ _ _ _ _ sz cap hL hi =>
      have hlive : (m.L r).isLive := by rw [hL]; trivial
      have hc : ∀ j (hj : j < ps.length), ∃ x, c[j]? = some x ∧ VP w m.frz.I ps[j] x := fun j hj => by
        obtain ⟨x, h4, h5⟩ := h3 j (by omega)
        exact ⟨x, h4, (h j (by omega) hj).ok hS h5⟩
      simp only [Nat.zero_mul]
      refine .rop (m := m.frz) ps off (m.ρ r) 0 (fun j => (c[j]?).getD undef) (.inr ⟨r, hlive, rfl⟩) (fun j hj => ?_) (fun j hj => ?_)
      · obtain ⟨x, h4, _⟩ := hc j hj
        rw [cell_of_row w _ _ c ty (0, 0) h1, Nat.zero_add, h4]; rfl
      · obtain ⟨x, h4, h5⟩ := hc j hj
        rw [h4]; exact h5
    | ptrOld _ _ _ _ _ b o hold => rw [hL0] at hold; simp [Inf.old] at hold
  | rop ps off => intro u hV; exact hV.mono (Tr.frz w m)
  | agg cs cs' hl h ih =>
    intro u hV
    cases hV with
    | agg _ A hA hv => exact .agg _ A (by omega) fun j hj hj' => ih j (by omega) hj (hv j (by omega) hj')
  | tup cs cs' hl h ih =>
    intro u hV
    cases hV with
    | tup _ A hA hv => exact .tup _ A (by omega) fun j hj hj' => ih j (by omega) hj (hv j (by omega) hj')
  | iface t a a' h ih =>
    intro u hV
    cases hV with
    | iface _ _ u hv => exact .iface t _ u (ih hv)
  | junk a => intro u _; exact .junk u
theorem Wk1.fzAll {N : Nat} {K : List ABlk} {a a' : AV} (h : FzV K a a') : Wk1 N a K a' (deadK K) := fun w m u we me hT _ hS hV =>
  ⟨m.frz, hT.trans (Tr.frz w m), hS.frz, h.ok hS hV⟩
end Go.AE

namespace Go.AE
theorem MGet.of_some {o : Option AV} {a : AV} {y : AV → Prop} {n : Prop} (h : o = some a) (hy : y a) : MGet o y n :=
  MGet.mk (fun b hb => by rw [h] at hb; cases hb; exact hy) (fun hn => by rw [h] at hn; cases hn)
theorem MGet.of_none {o : Option AV} {y : AV → Prop} {n : Prop} (h : o = none) (hn : n) : MGet o y n :=
  MGet.mk (fun b hb => by rw [h] at hb; cases hb) (fun _ => hn)
def pvO : Option PV → Option AV
  | none => none
  | some p => some (.p p)
theorem MGet.pv_some {o : Option PV} {p : PV} {y : AV → Prop} {n : Prop} (h : o = some p) (hy : y (.p p)) : MGet (pvO o) y n := by
  subst h; exact MGet.of_some rfl hy
theorem MGet.pv_none {o : Option PV} {y : AV → Prop} {n : Prop} (h : o = none) (hn : n) : MGet (pvO o) y n := by
  subst h; exact MGet.of_none rfl hn
end Go.AE
namespace Go.Proofs.YtojjkleplnijaaaGreatDoor
open Go.AE Go.Ru
set_option maxRecDepth 100000
set_option maxHeartbeats 1000000
theorem wzz {i : Nat} (h : i < 9223372036854775807) : IntKind.i64.wrap ((i : Int) + 1) = ((i + 1 : Nat) : Int) := by rw [w64 ⟨by omega, by omega⟩]; omega
def rowF (f : Nat → Int) (i : Nat) : List PV := [.int .i64 (f i)]
def rowA (n : Nat) (f : Nat → Int) : ABlk := .arr 3 1 0 n (fun i => pvs (rowF f i))
theorem rowA_set {n k k' : Nat} {g : Nat → List AV} {f : Nat → Int} {v : Int} {c : List AV} (hc : c = [intV v]) (hk : k' = k) (hg : ∀ i, i < n → g i = [intV (f i)]) :
    (ABlk.arr 3 1 0 n (updF g k' c)).le (rowA n (setF f k v)) := by
  subst hc hk
  refine ABlk.arr_eq rfl fun i hi => ?_
  unfold updF setF rowF
  by_cases h : i = k'
  · subst h; simp only [Nat.beq_refl, if_true]; rfl
  · simp only [h, if_false]
    rw [show Nat.beq i k' = false from by rw [← Bool.not_eq_true]; exact fun e => h (Nat.eq_of_beq_eq_true e)]
    exact hg i hi
theorem rowA_cl (n : Nat) (f : Nat → Int) (m : Nat) : (rowA n f).cl m := fun _ _ => rfl
theorem rowU_cl {n k' : Nat} {g : Nat → List AV} {f : Nat → Int} {v : Int} {c : List AV} (m : Nat) (hc : c = [intV v]) (hg : ∀ i, i < n → g i = [intV (f i)]) : (ABlk.arr 3 1 0 n (updF g k' c)).cl m := by
  subst hc
  intro i hi
  unfold updF
  split
  · rfl
  · rw [hg i hi]; rfl
structure PC where
  i : Nat
  f : Nat → Int
def gSd : AG := gput 85 cSound g0
theorem gSd_ok : GOk Tryz.prog gSd := gput_ok sound_ok g0_ok
def parV (ns : List Nd) (root : Int) : AV := match soundS ns root with
  | true => .p (.sl 1 ns.length (rowF (parF ns root)))
  | false => .p .nils
def cParents : AC := fun args K k => ∃ ns root, args = [treeV ns root] ∧ List.length ns < 1000000 ∧ k (.ret (parV ns root)) K
theorem parents_ok : COk 92 cParents := by
  rintro args K k ⟨ns, root, rfl, hn, hk⟩
  refine frame0W gSd_ok 19 rfl fun Q hr => ?_
  conv => whnf
  refine ⟨ns, root, rfl, hn, ?_⟩
  cases hs : soundS ns root with
  | false =>
    simp only [parV, hs] at hk
    conv => whnf
    exact hr _ _ _ _ (Wk1.refl _ _ _) rfl hk
  | true =>
    simp only [parV, hs] at hk
    have st := std_of hs
    have hl := st.len
    have hp := st.pos
    have hrt := st.rt
    conv => whnf
    refine ⟨⟨by omega, by omega, by omega, ?_⟩, ?_⟩
    · show (8 : Int) * (ns.length : Int) ≤ 140737488355328
      omega
    conv => whnf
    refine ⟨⟨rfl, Nat.zero_add _, by omega, by omega, rfl⟩, ?_⟩
    conv => whnf
    refine ⟨⟨rfl, rfl⟩, ?_⟩
    conv => whnf
    refine loop_up (ι := PC) [2, 3, 20, 21] (fun c => [(22, intV c.i)]) (fun c => [(1, rowA ns.length c.f)]) (fun c => c.i ≤ ns.length ∧ parNs c.i (ns.drop c.i) c.f = parF ns root) (fun c => ns.length - c.i) ⟨0, setF (fun _ => 0) root.toNat (-1)⟩
      ⟨AV.le_refl _, trivial⟩ ⟨upLe1 rfl (rowA_set rfl (Nat.zero_add _) (fun _ _ => rfl)), trivial⟩ ⟨Nat.zero_le _, rfl⟩ ?_
    rintro Y hle ⟨i, f⟩ ⟨hi, he⟩ ih
    simp only at hi he
    conv => whnf
    refine two_dec (fun h => ?_) (fun h => ?_)
    · have h : i < ns.length := by have h : (i : Int) < (ns.length : Int) := h; omega
      have hw1 := wzz (i := i) (by omega)
      have hkm := st.many i h
      have hkk := st.kid i h
      rw [List.drop_eq_getElem_cons h] at he
      have e1 : ns.getD i default = ns[i] := by simp [h]
      rw [← e1] at he
      simp only [parNs] at he
      conv => whnf
      repeat' (first | (refine two_eq (fun h => ?_) (fun h => ?_) <;> (conv => whnf)) | (refine two_ne (fun h => ?_) (fun h => ?_) <;> (conv => whnf)) | (refine two_not (fun h => ?_) (fun h => ?_) <;> (conv => whnf)) | (refine two_dec (fun h => ?_) (fun h => ?_) <;> (conv => whnf)) | (refine two_intro (fun h => ?_) (fun h => ?_) <;> (conv => whnf)) | (refine Chk.mk ?_ ?_; (focus (((repeat' (refine And.intro ?_ ?_)) <;> (first | omega | rfl | (simp only [List.length_append, List.length_cons, List.length_nil]; omega) | fail)); done)); (conv => whnf)) | (refine And.intro ?_ ?_; (focus (((repeat' (refine And.intro ?_ ?_)) <;> (first | omega | rfl | (simp only [List.length_append, List.length_cons, List.length_nil]; omega) | fail)); done)); (conv => whnf)) | (refine Exists.intro _ (And.intro rfl ?_)) | (refine Exists.intro _ (Exists.intro _ (And.intro rfl ?_))) | (refine Exists.intro _ (Exists.intro _ (Exists.intro _ (And.intro rfl ?_)))) | fail)
      refine loop_up (ι := PC) [2, 3, 4, 20, 21, 22, 28, 29] (fun c => [(30, intV c.i)]) (fun c => [(1, rowA ns.length c.f)]) (fun c => c.i ≤ (nd ns i).kids.length ∧ parKids i ((nd ns i).kids.drop c.i) c.f = parKids i (nd ns i).kids f) (fun c => (nd ns i).kids.length - c.i) ⟨0, f⟩
        ⟨AV.le_refl _, trivial⟩ ⟨upLe1 rfl (ABlk.le_refl _), trivial⟩ ⟨Nat.zero_le _, rfl⟩ ?_
      rintro Z hlz ⟨j, g⟩ ⟨hj, hg⟩ ihz
      simp only at hj hg
      conv => whnf
      refine two_dec (fun h2 => ?_) (fun h2 => ?_)
      · have h2 : j < (nd ns i).kids.length := by have h2 : (j : Int) < ((nd ns i).kids.length : Int) := h2; omega
        have hw2 := wzz (i := j) (by omega)
        rw [List.drop_eq_getElem_cons h2] at hg
        simp only [parKids] at hg
        have hm := hkk _ (List.getElem_mem h2)
        have e2 : (nd ns i).kids.getD j 0 = (nd ns i).kids[j] := by simp [h2]
        rw [← e2] at hg hm
        conv => whnf
        refine ⟨⟨by omega, by show (j : Int) < ((nd ns i).kids.length : Int); omega, rfl⟩, ?_⟩
        conv => whnf
        refine ⟨⟨rfl, Nat.zero_add _, by show 0 ≤ (nd ns i).kids.getD j 0; omega, by show (nd ns i).kids.getD j 0 < (ns.length : Int); omega, rfl⟩, ?_⟩
        conv => whnf
        refine ⟨⟨rfl, rfl⟩, ?_⟩
        conv => whnf
        refine hlz _ _ (Le.cutEnv 3 rfl rfl ⟨rfl, rowU_cl (f := g) 3 rfl (fun _ _ => rfl), rfl, trivial⟩ ?_ ?_) (ihz ⟨j + 1, setF g ((nd ns i).kids.getD j 0).toNat i⟩ (by show _ - (j + 1) < _ - j; omega) ⟨h2, hg⟩)
        · skip
          repeat' (first | exact trivial | ((conv => whnf); first | exact trivial | (refine And.intro (AV.le_refl _) ?_) | (refine And.intro (ABlk.le_refl _) ?_) | (refine And.intro (AV.le_of_eq ?_) ?_; (focus ((first | exact congrArg intV hw2 | fail); done))) | (refine And.intro (ABlk.le_of_eq ?_) ?_; (focus ((first | exact congrArg intV hw2 | fail); done))) | fail) | fail)
        · (conv => whnf)
          refine ⟨ABlk.le_refl _, ?_⟩
          (conv => whnf)
          refine ⟨rowA_set rfl (Nat.zero_add _) (fun _ _ => rfl), ?_⟩
          repeat' (first | exact trivial | ((conv => whnf); first | exact trivial | (refine And.intro (AV.le_refl _) ?_) | (refine And.intro (ABlk.le_refl _) ?_) | (refine And.intro (AV.le_of_eq ?_) ?_; (focus ((first | fail | fail); done))) | (refine And.intro (ABlk.le_of_eq ?_) ?_; (focus ((first | fail | fail); done))) | fail) | fail)
      · obtain rfl : j = (nd ns i).kids.length := by have h2 : ¬ (j : Int) < ((nd ns i).kids.length : Int) := h2; omega
        rw [List.drop_length] at hg
        simp only [parKids] at hg
        conv => whnf
        refine hle _ _ (Le.cutEnv 2 rfl rfl ⟨rfl, rowA_cl _ _ _, trivial⟩ ?_ ?_) (ih ⟨i + 1, g⟩ (by show _ - (i + 1) < _ - i; omega) ⟨h, by rw [hg]; exact he⟩)
        · skip
          repeat' (first | exact trivial | ((conv => whnf); first | exact trivial | (refine And.intro (AV.le_refl _) ?_) | (refine And.intro (ABlk.le_refl _) ?_) | (refine And.intro (AV.le_of_eq ?_) ?_; (focus ((first | exact congrArg intV hw1 | fail); done))) | (refine And.intro (ABlk.le_of_eq ?_) ?_; (focus ((first | exact congrArg intV hw1 | fail); done))) | fail) | fail)
        · skip
          repeat' (first | exact trivial | ((conv => whnf); first | exact trivial | (refine And.intro (AV.le_refl _) ?_) | (refine And.intro (ABlk.le_refl _) ?_) | (refine And.intro (AV.le_of_eq ?_) ?_; (focus ((first | fail | fail); done))) | (refine And.intro (ABlk.le_of_eq ?_) ?_; (focus ((first | fail | fail); done))) | fail) | fail)
    · obtain rfl : i = ns.length := by have h : ¬ (i : Int) < (ns.length : Int) := h; omega
      rw [List.drop_length] at he
      simp only [parNs] at he
      subst he
      conv => whnf
      exact hr _ _ _ _ (Wk1.freeze (r := 1) rfl (rowF (parF ns root)) (fun _ _ => rfl)) rfl hk
end Go.Proofs.YtojjkleplnijaaaGreatDoor

namespace Go.Ru
structure Kt (ns : List Nd) : Prop where
  len : ns.length < 1000000
  many : ∀ i, (nd ns i).kids.length < 1000000
def AheadT (ns : List Nd) : Prop := ∀ j, j < ns.length → ∀ k ∈ (nd ns j).kids, 0 ≤ k ∧ k < (j : Int)
theorem ahead_of {ns : List Nd} (h : aheadS ns = true) : AheadT ns := fun j hj k hk => by
  simp only [aheadS, List.all_eq_true, List.mem_range, Bool.not_eq_true', Bool.or_eq_false_iff, decide_eq_false_iff_not] at h
  have := h j hj k hk
  omega
theorem ahead_to {ns : List Nd} (h : AheadT ns) : aheadS ns = true := by
  simp only [aheadS, List.all_eq_true, List.mem_range, Bool.not_eq_true', Bool.or_eq_false_iff, decide_eq_false_iff_not]
  intro j hj k hk
  have := h j hj k hk
  omega
theorem begF_le {ns : List Nd} (ah : AheadT ns) (m : Nat) : ∀ p : Nat, p < ns.length → p < m → begF ns m p ≤ (p : Int) := fun p hp hm => by
  by_cases h : 0 ≤ begF ns m p
  · have e := begF_more ah m ns.length p hp hm hp
    rw [e] at h ⊢
    exact (begF_in ah p hp h).1
  · omega
theorem getD_mem {l : List Int} {i : Nat} (h : i < l.length) : l.getD i 0 ∈ l := by
  rw [List.getD_eq_getElem?_getD, List.getElem?_eq_getElem h]; exact List.getElem_mem h
end Go.Ru
namespace Go.Proofs.YtojjkleplnijaaaGreatDoor
open Go.AE Go.Ru
set_option maxRecDepth 100000
set_option maxHeartbeats 1000000
def cBeg (m : Nat) : AC := fun args K k => ∃ ns p' p v, args = [.p (.sl 5 ns.length (nodeF ns)), intV p'] ∧ p' = p ∧ Kt ns ∧ AheadT ns ∧ 0 ≤ p ∧ p < (List.length ns : Int) ∧ p < (m : Int) ∧ begF ns m p = v ∧ k (.ret (intV v)) K
structure BgC where
  j : Nat
  k : Int
theorem beg_ok (m : Nat) : COk 149 (cBeg m) := by
  induction m with
  | zero => rintro args K k ⟨ns, p, _, v, rfl, rfl, _, _, h1, _, h2, _⟩; omega
  | succ m ihm =>
  rintro args K k ⟨ns, p, _, v, rfl, rfl, kt, ah, h1, h2, h3, hv, hk⟩
  subst hv
  have hlen := kt.len
  obtain ⟨x, rfl⟩ : ∃ x : Nat, p = (x : Int) := ⟨p.toNat, by omega⟩
  have hmany := kt.many x
  simp only [begF, Int.toNat_natCast] at hk
  have hkid := ah x (by omega)
  refine frame0P (gput_ok ihm g0_ok) 19 rfl fun Q hr => ?_
  have hw0 : IntKind.i64.wrap (((nd ns x).kids.length : Int) - 1) = ((nd ns x).kids.length : Int) - 1 := by rw [w64 ⟨by omega, by omega⟩]
  conv => whnf
  refine ⟨⟨by omega, by omega, rfl⟩, ?_⟩
  conv => whnf
  refine loop_up (ι := BgC) [0, 6] (fun c => [(5, intV c.k), (7, intV ((c.j : Int) - 1))]) (fun _ => []) (fun c => c.j ≤ (nd ns x).kids.length ∧ -1 < c.k ∧ c.k ≤ 1000000 ∧ kidB (begF ns m) ((nd ns x).kids.take c.j).reverse c.k = kidB (begF ns m) (nd ns x).kids.reverse x) (fun c => c.j) ⟨(nd ns x).kids.length, x⟩
    ⟨AV.le_refl _, AV.le_of_eq (congrArg intV hw0), trivial⟩ trivial ⟨Nat.le_refl _, by show (-1 : Int) < (x : Int); omega, by show (x : Int) ≤ 1000000; omega, by rw [List.take_length]⟩ ?_
  rintro Y hle ⟨j, b⟩ ⟨hj, hb, hb2, he⟩ ih
  simp only at hj hb hb2 he
  conv => whnf
  refine two_dec (fun h => ?_) (fun h => ?_)
  · have h : (j : Int) - 1 ≥ 0 := h
    obtain ⟨j, rfl⟩ : ∃ i, j = i + 1 := ⟨j - 1, by omega⟩
    have hjl : j < (nd ns x).kids.length := by omega
    have e0 : (((j + 1 : Nat) : Int) - 1).toNat = j := by omega
    have hidx : ((j + 1 : Nat) : Int) - 1 < ((nd ns x).kids.length : Int) := by omega
    have hw1 : IntKind.i64.wrap ((((j + 1 : Nat) : Int) - 1) - 1) = (j : Int) - 1 := by rw [w64 ⟨by omega, by omega⟩]; omega
    have hwb : IntKind.i64.wrap (b - 1) = b - 1 := by rw [w64 ⟨by omega, by omega⟩]
    have hq := hkid _ (getD_mem hjl)
    have htk : ((nd ns x).kids.take (j + 1)).reverse = (nd ns x).kids.getD j 0 :: ((nd ns x).kids.take j).reverse := by
      rw [List.take_succ_eq_append_getElem hjl, List.reverse_append, List.getD_eq_getElem?_getD, List.getElem?_eq_getElem hjl]
      rfl
    rw [htk] at he
    simp only [kidB] at he
    obtain ⟨q, hqe⟩ : ∃ q, (nd ns x).kids.getD j 0 = q := ⟨_, rfl⟩
    rw [hqe] at he hq
    have hge : (nd ns x).kids.getD (((j + 1 : Nat) : Int) - 1).toNat 0 = q := by rw [e0]; exact hqe
    conv => whnf
    refine ⟨⟨by omega, hidx, rfl⟩, ?_⟩
    conv => whnf
    refine two_ne (fun h4 => ?_) (fun h4 => ?_)
    · have h4 : q ≠ b - 1 := by rw [← hqe, ← e0, ← hwb]; exact h4
      have hc : (q != b - 1 || decide (q < 0)) = true := by rw [bne_iff_ne.2 h4]; rfl
      rw [hc] at he
      have he : (-1 : Int) = _ := he
      rw [← he] at hk
      conv => whnf
      exact hr _ _ rfl hk
    have h4 : q = b - 1 := by rw [← hqe, ← e0, ← hwb]; exact h4
    have hc : (q != b - 1 || decide (q < 0)) = false := by rw [decide_eq_false (by omega : ¬ q < 0), h4]; simp
    rw [hc] at he
    conv => whnf
    refine ⟨⟨by omega, hidx, rfl⟩, ?_⟩
    conv => whnf
    refine two_dec (fun h5 => ?_) (fun _ => ?_)
    · have h5 : (nd ns x).kids.getD (((j + 1 : Nat) : Int) - 1).toNat 0 < 0 := h5
      rw [hge] at h5; omega
    conv => whnf
    refine ⟨⟨by omega, hidx, rfl⟩, ?_⟩
    conv => whnf
    obtain ⟨v2, hv2⟩ : ∃ v2, begF ns m q = v2 := ⟨_, rfl⟩
    have hbl := begF_le ah m q.toNat (by omega) (by omega)
    rw [show ((q.toNat : Nat) : Int) = q by omega, hv2] at hbl
    refine ⟨ns, _, q, v2, rfl, hge, kt, ah, by omega, by omega, by omega, hv2, ?_⟩
    conv => whnf
    refine two_dec (fun h6 => ?_) (fun h6 => ?_)
    · have h6 : v2 < 0 := h6
      have hd : decide (v2 < 0) = true := decide_eq_true h6
      simp only [hv2, hd] at he
      rw [← he] at hk
      conv => whnf
      exact hr _ _ rfl hk
    have h6 : ¬ v2 < 0 := h6
    have hd : decide (v2 < 0) = false := decide_eq_false h6
    simp only [hv2, hd] at he
    conv => whnf
    refine hle _ _ (Le.env ?_ ?_) (ih ⟨j, v2⟩ (Nat.lt_succ_self _) ⟨by simp only; omega, by simp only; omega, by simp only; omega, he⟩)
    · skip
      repeat' (first | exact trivial | ((conv => whnf); first | exact trivial | (refine And.intro (AV.le_refl _) ?_) | (refine And.intro (ABlk.le_refl _) ?_) | (refine And.intro (AV.le_of_eq ?_) ?_; (focus ((first | exact congrArg intV hw1 | fail); done))) | (refine And.intro (ABlk.le_of_eq ?_) ?_; (focus ((first | exact congrArg intV hw1 | fail); done))) | fail) | fail)
    · skip
      repeat' (first | exact trivial | ((conv => whnf); first | exact trivial | (refine And.intro (AV.le_refl _) ?_) | (refine And.intro (ABlk.le_refl _) ?_) | (refine And.intro (AV.le_of_eq ?_) ?_; (focus ((first | fail | fail); done))) | (refine And.intro (ABlk.le_of_eq ?_) ?_; (focus ((first | fail | fail); done))) | fail) | fail)
  · obtain rfl : j = 0 := by have h : ¬ (j : Int) - 1 ≥ 0 := h; omega
    simp only [List.take_zero, List.reverse_nil, kidB] at he
    rw [← he] at hk
    conv => whnf
    exact hr _ _ rfl hk
def cRSound : AC := fun args K k => ∃ ns root v, args = [treeV ns root] ∧ Kt ns ∧ soundS ns root = v ∧ k (.ret (.p (.bool v))) K
theorem rsound_ok : COk 104 cRSound := by
  rintro args K k ⟨ns, root, v, rfl, kt, rfl, hk⟩
  rw [← sound4_eq] at hk
  have hlen := kt.len
  refine frame0P (gput_ok (beg_ok 4000) g0_ok) 19 rfl fun Q hr => ?_
  conv => whnf
  refine two_dec (fun h => ?_) (fun h1 => ?_)
  · have h : (ns.length : Int) < 1 := h
    rw [show sound4 ns root = false by simp only [sound4]; rw [decide_eq_true h]; rfl] at hk
    conv => whnf
    exact hr _ _ rfl hk
  have h1 : ¬ (ns.length : Int) < 1 := h1
  conv => whnf
  refine two_dec (fun h => ?_) (fun h2 => ?_)
  · have h : (ns.length : Int) > 4000 := h
    rw [show sound4 ns root = false by simp only [sound4]; rw [decide_eq_false h1, decide_eq_true h]; rfl] at hk
    conv => whnf
    exact hr _ _ rfl hk
  have h2 : ¬ (ns.length : Int) > 4000 := h2
  have hw : IntKind.i64.wrap ((ns.length : Int) - 1) = (ns.length : Int) - 1 := by rw [w64 ⟨by omega, by omega⟩]
  conv => whnf
  refine two_ne (fun h => ?_) (fun h3 => ?_)
  · have h : root ≠ (ns.length : Int) - 1 := by rw [← hw]; exact h
    rw [show sound4 ns root = false by simp only [sound4]; rw [decide_eq_false h1, decide_eq_false h2, bne_iff_ne.2 h]; rfl] at hk
    conv => whnf
    exact hr _ _ rfl hk
  have h3 : root = (ns.length : Int) - 1 := by rw [← hw]; exact h3
  have hs4 : sound4 ns root = (aheadS ns && begF ns ns.length ((ns.length : Int) - 1) == 0) := by
    simp only [sound4]; rw [decide_eq_false h1, decide_eq_false h2, h3, bne_self_eq_false]; rfl
  rw [hs4] at hk
  have hbad : ∀ i : Nat, i < ns.length → ∀ q ∈ (nd ns i).kids, (q < 0 ∨ q ≥ (i : Int)) → aheadS ns = false := fun i hi q hq h => by
    rw [← Bool.not_eq_true]
    intro ha
    have := ahead_of ha i hi q hq
    omega
  conv => whnf
  refine loop_up (ι := Nat) [1, 3] (fun i => [(4, intV i)]) (fun _ => []) (fun i => i ≤ ns.length ∧ ∀ j, j < i → ∀ q ∈ (nd ns j).kids, 0 ≤ q ∧ q < (j : Int)) (fun i => ns.length - i) 0 ⟨AV.le_refl _, trivial⟩ trivial ⟨Nat.zero_le _, fun j hj => by omega⟩ ?_
  rintro Y hle i ⟨hi, hdone⟩ ih
  conv => whnf
  refine two_dec (fun h => ?_) (fun h => ?_)
  · have h : i < ns.length := by have h : (i : Int) < (ns.length : Int) := h; omega
    have hw1 := wzz (i := i) (by omega)
    have hm := kt.many i
    conv => whnf
    refine loop_up (ι := Nat) [1, 3, 4] (fun j => [(5, intV j)]) (fun _ => []) (fun j => j ≤ (nd ns i).kids.length ∧ ∀ q ∈ (nd ns i).kids.take j, 0 ≤ q ∧ q < (i : Int)) (fun j => (nd ns i).kids.length - j) 0 ⟨AV.le_refl _, trivial⟩ trivial ⟨Nat.zero_le _, fun q hq => by simp at hq⟩ ?_
    rintro Z hlz j ⟨hj, hdz⟩ ihz
    conv => whnf
    refine ⟨⟨by omega, by omega, rfl⟩, ?_⟩
    conv => whnf
    refine two_dec (fun hjl => ?_) (fun hjl => ?_)
    · have hjl : j < (nd ns i).kids.length := by have h : (j : Int) < ((nd ns i).kids.length : Int) := hjl; omega
      have hjl' : (j : Int) < ((nd ns i).kids.length : Int) := by omega
      have hw2 := wzz (i := j) (by omega)
      have hqm := getD_mem hjl
      have htk : (nd ns i).kids.take (j + 1) = (nd ns i).kids.take j ++ [(nd ns i).kids.getD j 0] := by
        rw [List.take_succ_eq_append_getElem hjl, List.getD_eq_getElem?_getD, List.getElem?_eq_getElem hjl]; rfl
      conv => whnf
      repeat' (first | (refine Chk.mk ⟨by omega, by omega, rfl⟩ ?_; (conv => whnf)) | (refine Chk.mk ⟨by omega, hjl', rfl⟩ ?_; (conv => whnf)) | fail)
      refine two_dec (fun h5 => ?_) (fun h5 => ?_)
      · have h5 : (nd ns i).kids.getD j 0 < 0 := h5
        rw [hbad i h _ hqm (.inl h5), Bool.false_and] at hk
        conv => whnf
        exact hr _ _ rfl hk
      have h5 : ¬ (nd ns i).kids.getD j 0 < 0 := h5
      conv => whnf
      repeat' (first | (refine Chk.mk ⟨by omega, by omega, rfl⟩ ?_; (conv => whnf)) | (refine Chk.mk ⟨by omega, hjl', rfl⟩ ?_; (conv => whnf)) | fail)
      refine two_dec (fun h6 => ?_) (fun h6 => ?_)
      · have h6 : (nd ns i).kids.getD j 0 ≥ (i : Int) := h6
        rw [hbad i h _ hqm (.inr h6), Bool.false_and] at hk
        conv => whnf
        exact hr _ _ rfl hk
      have h6 : ¬ (nd ns i).kids.getD j 0 ≥ (i : Int) := h6
      conv => whnf
      refine hlz _ _ (Le.env ?_ ?_) (ihz (j + 1) (by omega) ⟨by omega, fun q hq => ?_⟩)
      · skip
        repeat' (first | exact trivial | ((conv => whnf); first | exact trivial | (refine And.intro (AV.le_refl _) ?_) | (refine And.intro (ABlk.le_refl _) ?_) | (refine And.intro (AV.le_of_eq ?_) ?_; (focus ((first | exact congrArg intV hw2 | fail); done))) | (refine And.intro (ABlk.le_of_eq ?_) ?_; (focus ((first | exact congrArg intV hw2 | fail); done))) | fail) | fail)
      · skip
        repeat' (first | exact trivial | ((conv => whnf); first | exact trivial | (refine And.intro (AV.le_refl _) ?_) | (refine And.intro (ABlk.le_refl _) ?_) | (refine And.intro (AV.le_of_eq ?_) ?_; (focus ((first | fail | fail); done))) | (refine And.intro (ABlk.le_of_eq ?_) ?_; (focus ((first | fail | fail); done))) | fail) | fail)
      · rw [htk] at hq
        rcases List.mem_append.1 hq with hq | hq
        · exact hdz q hq
        · simp only [List.mem_cons, List.not_mem_nil, or_false] at hq
          subst hq; omega
    · obtain rfl : j = (nd ns i).kids.length := by have h : ¬ (j : Int) < ((nd ns i).kids.length : Int) := hjl; omega
      rw [List.take_length] at hdz
      conv => whnf
      refine hle _ _ (Le.env ?_ ?_) (ih (i + 1) (by omega) ⟨by omega, fun j hj => ?_⟩)
      · skip
        repeat' (first | exact trivial | ((conv => whnf); first | exact trivial | (refine And.intro (AV.le_refl _) ?_) | (refine And.intro (ABlk.le_refl _) ?_) | (refine And.intro (AV.le_of_eq ?_) ?_; (focus ((first | exact congrArg intV hw1 | fail); done))) | (refine And.intro (ABlk.le_of_eq ?_) ?_; (focus ((first | exact congrArg intV hw1 | fail); done))) | fail) | fail)
      · skip
        repeat' (first | exact trivial | ((conv => whnf); first | exact trivial | (refine And.intro (AV.le_refl _) ?_) | (refine And.intro (ABlk.le_refl _) ?_) | (refine And.intro (AV.le_of_eq ?_) ?_; (focus ((first | fail | fail); done))) | (refine And.intro (ABlk.le_of_eq ?_) ?_; (focus ((first | fail | fail); done))) | fail) | fail)
      · by_cases e : j = i
        · subst e; exact hdz
        · exact hdone j (by omega)
  · obtain rfl : i = ns.length := by have h : ¬ (i : Int) < (ns.length : Int) := h; omega
    have ah : AheadT ns := hdone
    rw [ahead_to ah, Bool.true_and, show (ns.length : Int) - 1 = ((ns.length - 1 : Nat) : Int) by omega, begF_more ah ns.length 4000 (ns.length - 1) (by omega) (by omega) (by omega)] at hk
    conv => whnf
    refine ⟨ns, _, ((ns.length - 1 : Nat) : Int), _, rfl, by rw [hw]; omega, kt, ah, by omega, by omega, by omega, rfl, ?_⟩
    conv => whnf
    exact hr _ _ rfl hk
end Go.Proofs.YtojjkleplnijaaaGreatDoor

namespace Go.Proofs.YtojjkleplnijaaaGreatDoor
open Go.AE Go.Ru
set_option maxRecDepth 100000
set_option maxHeartbeats 1000000
def cRParents : AC := fun args K k => ∃ ns root, args = [treeV ns root] ∧ Kt ns ∧ soundS ns root = true ∧ k (.ret (.p (.sl 1 ns.length (rowF (parF ns root))))) K
theorem rparents_ok : COk 66 cRParents := by
  rintro args K k ⟨ns, root, rfl, kt, hs, hk⟩
  refine frame0W (gput_ok rsound_ok g0_ok) 19 rfl fun Q hr => ?_
  conv => whnf
  refine ⟨ns, root, true, rfl, kt, hs, ?_⟩
  · skip
    have st := std_of hs
    have hl := st.len
    have hp := st.pos
    have hrt := st.rt
    conv => whnf
    refine ⟨⟨by omega, by omega, by omega, ?_⟩, ?_⟩
    · show (8 : Int) * (ns.length : Int) ≤ 140737488355328
      omega
    conv => whnf
    refine ⟨⟨rfl, Nat.zero_add _, by omega, by omega, rfl⟩, ?_⟩
    conv => whnf
    refine ⟨⟨rfl, rfl⟩, ?_⟩
    conv => whnf
    refine loop_up (ι := PC) [1, 4] (fun c => [(5, intV c.i)]) (fun c => [(1, rowA ns.length c.f)]) (fun c => c.i ≤ ns.length ∧ parNs c.i (ns.drop c.i) c.f = parF ns root) (fun c => ns.length - c.i) ⟨0, setF (fun _ => 0) root.toNat (-1)⟩
      ⟨AV.le_refl _, trivial⟩ ⟨upLe1 rfl (rowA_set rfl (Nat.zero_add _) (fun _ _ => rfl)), trivial⟩ ⟨Nat.zero_le _, rfl⟩ ?_
    rintro Y hle ⟨i, f⟩ ⟨hi, he⟩ ih
    simp only at hi he
    conv => whnf
    refine two_dec (fun h => ?_) (fun h => ?_)
    · have h : i < ns.length := by have h : (i : Int) < (ns.length : Int) := h; omega
      have hw1 := wzz (i := i) (by omega)
      have hkm := st.many i h
      have hkk := st.kid i h
      rw [List.drop_eq_getElem_cons h] at he
      have e1 : ns.getD i default = ns[i] := by simp [h]
      rw [← e1] at he
      simp only [parNs] at he
      conv => whnf
      repeat' (first | (refine two_eq (fun h => ?_) (fun h => ?_) <;> (conv => whnf)) | (refine two_ne (fun h => ?_) (fun h => ?_) <;> (conv => whnf)) | (refine two_not (fun h => ?_) (fun h => ?_) <;> (conv => whnf)) | (refine two_dec (fun h => ?_) (fun h => ?_) <;> (conv => whnf)) | (refine two_intro (fun h => ?_) (fun h => ?_) <;> (conv => whnf)) | (refine Chk.mk ?_ ?_; (focus (((repeat' (refine And.intro ?_ ?_)) <;> (first | omega | rfl | (simp only [List.length_append, List.length_cons, List.length_nil]; omega) | fail)); done)); (conv => whnf)) | (refine And.intro ?_ ?_; (focus (((repeat' (refine And.intro ?_ ?_)) <;> (first | omega | rfl | (simp only [List.length_append, List.length_cons, List.length_nil]; omega) | fail)); done)); (conv => whnf)) | (refine Exists.intro _ (And.intro rfl ?_)) | (refine Exists.intro _ (Exists.intro _ (And.intro rfl ?_))) | (refine Exists.intro _ (Exists.intro _ (Exists.intro _ (And.intro rfl ?_)))) | fail)
      refine loop_up (ι := PC) [1, 4, 5] (fun c => [(6, intV c.i)]) (fun c => [(1, rowA ns.length c.f)]) (fun c => c.i ≤ (nd ns i).kids.length ∧ parKids i ((nd ns i).kids.drop c.i) c.f = parKids i (nd ns i).kids f) (fun c => (nd ns i).kids.length - c.i) ⟨0, f⟩
        ⟨AV.le_refl _, trivial⟩ ⟨upLe1 rfl (ABlk.le_refl _), trivial⟩ ⟨Nat.zero_le _, rfl⟩ ?_
      rintro Z hlz ⟨j, g⟩ ⟨hj, hg⟩ ihz
      simp only at hj hg
      conv => whnf
      refine ⟨⟨by omega, by omega, rfl⟩, ?_⟩
      conv => whnf
      refine two_dec (fun h2 => ?_) (fun h2 => ?_)
      · have h2 : j < (nd ns i).kids.length := by have h2 : (j : Int) < ((nd ns i).kids.length : Int) := h2; omega
        have hw2 := wzz (i := j) (by omega)
        rw [List.drop_eq_getElem_cons h2] at hg
        simp only [parKids] at hg
        have hm := hkk _ (List.getElem_mem h2)
        have e2 : (nd ns i).kids.getD j 0 = (nd ns i).kids[j] := by simp [h2]
        rw [← e2] at hg hm
        have hi0 : 0 ≤ (i : Int) := by omega
        have hil : (i : Int) < (ns.length : Int) := by omega
        have hj0 : 0 ≤ (j : Int) := by omega
        have hjl : (j : Int) < ((nd ns i).kids.length : Int) := by omega
        have hm0 : 0 ≤ (nd ns i).kids.getD j 0 := hm.1
        have hml : (nd ns i).kids.getD j 0 < (ns.length : Int) := by omega
        conv => whnf
        repeat' (first | (refine Chk.mk ⟨hi0, hil, rfl⟩ ?_; (conv => whnf)) | (refine Chk.mk ⟨hj0, hjl, rfl⟩ ?_; (conv => whnf)) | (refine Chk.mk ⟨rfl, Nat.zero_add _, hi0, hil, rfl⟩ ?_; (conv => whnf)) | (refine Chk.mk ⟨rfl, Nat.zero_add _, hm0, hml, rfl⟩ ?_; (conv => whnf)) | (refine Chk.mk ⟨rfl, rfl⟩ ?_; (conv => whnf)) | (refine And.intro ⟨hi0, hil, rfl⟩ ?_; (conv => whnf)) | (refine And.intro ⟨hj0, hjl, rfl⟩ ?_; (conv => whnf)) | (refine And.intro ⟨rfl, Nat.zero_add _, hi0, hil, rfl⟩ ?_; (conv => whnf)) | (refine And.intro ⟨rfl, Nat.zero_add _, hm0, hml, rfl⟩ ?_; (conv => whnf)) | (refine And.intro ⟨rfl, rfl⟩ ?_; (conv => whnf)) | fail)
        refine hlz _ _ (Le.cutEnv 2 rfl rfl ⟨rfl, rowU_cl (f := g) 2 rfl (fun _ _ => rfl), trivial⟩ ?_ ?_) (ihz ⟨j + 1, setF g ((nd ns i).kids.getD j 0).toNat i⟩ (by show _ - (j + 1) < _ - j; omega) ⟨h2, hg⟩)
        · skip
          repeat' (first | exact trivial | ((conv => whnf); first | exact trivial | (refine And.intro (AV.le_refl _) ?_) | (refine And.intro (ABlk.le_refl _) ?_) | (refine And.intro (AV.le_of_eq ?_) ?_; (focus ((first | exact congrArg intV hw2 | fail); done))) | (refine And.intro (ABlk.le_of_eq ?_) ?_; (focus ((first | exact congrArg intV hw2 | fail); done))) | fail) | fail)
        · (conv => whnf)
          refine ⟨ABlk.le_refl _, ?_⟩
          (conv => whnf)
          refine ⟨rowA_set rfl (Nat.zero_add _) (fun _ _ => rfl), ?_⟩
          repeat' (first | exact trivial | ((conv => whnf); first | exact trivial | (refine And.intro (AV.le_refl _) ?_) | (refine And.intro (ABlk.le_refl _) ?_) | (refine And.intro (AV.le_of_eq ?_) ?_; (focus ((first | fail | fail); done))) | (refine And.intro (ABlk.le_of_eq ?_) ?_; (focus ((first | fail | fail); done))) | fail) | fail)
      · obtain rfl : j = (nd ns i).kids.length := by have h2 : ¬ (j : Int) < ((nd ns i).kids.length : Int) := h2; omega
        rw [List.drop_length] at hg
        simp only [parKids] at hg
        conv => whnf
        refine hle _ _ (Le.cutEnv 2 rfl rfl ⟨rfl, rowA_cl _ _ _, trivial⟩ ?_ ?_) (ih ⟨i + 1, g⟩ (by show _ - (i + 1) < _ - i; omega) ⟨h, by rw [hg]; exact he⟩)
        · skip
          repeat' (first | exact trivial | ((conv => whnf); first | exact trivial | (refine And.intro (AV.le_refl _) ?_) | (refine And.intro (ABlk.le_refl _) ?_) | (refine And.intro (AV.le_of_eq ?_) ?_; (focus ((first | exact congrArg intV hw1 | fail); done))) | (refine And.intro (ABlk.le_of_eq ?_) ?_; (focus ((first | exact congrArg intV hw1 | fail); done))) | fail) | fail)
        · skip
          repeat' (first | exact trivial | ((conv => whnf); first | exact trivial | (refine And.intro (AV.le_refl _) ?_) | (refine And.intro (ABlk.le_refl _) ?_) | (refine And.intro (AV.le_of_eq ?_) ?_; (focus ((first | fail | fail); done))) | (refine And.intro (ABlk.le_of_eq ?_) ?_; (focus ((first | fail | fail); done))) | fail) | fail)
    · obtain rfl : i = ns.length := by have h : ¬ (i : Int) < (ns.length : Int) := h; omega
      rw [List.drop_length] at he
      simp only [parNs] at he
      subst he
      conv => whnf
      exact hr _ _ _ _ (Wk1.freeze (r := 1) rfl (rowF (parF ns root)) (fun _ _ => rfl)) rfl hk
def cRDepth : AC := fun args K k => ∃ ns root, args = [treeV ns root] ∧ Kt ns ∧ soundS ns root = true ∧ k (.ret (intV (depthS ns root))) K
def dpF (ns : List Nd) (j : Nat) : Int := (deepS ns 4000 (j : Int) : Nat)
def mxF (ns : List Nd) (l : List Int) : Nat := l.foldl (fun d k => max d (deepS ns 3999 k)) 0
theorem rdepth_ok : COk 105 cRDepth := by
  rintro args K k ⟨ns, root, rfl, kt, hs, hk⟩
  have st := std_of hs
  have hl := st.len
  have hp := st.pos
  have hrt := st.rt
  have hkd : ∀ j, j < ns.length → ∀ k ∈ (ns.getD j default).kids, 0 ≤ k ∧ k < (j : Int) := fun j hj q hq => by have := st.kid j hj q hq; omega
  have hdp : ∀ j, j < ns.length → dpF ns j = ((mxF ns (nd ns j).kids + 1 : Nat) : Int) := fun j hj => by
    simp only [dpF, mxF]; rfl
  have hres : depthS ns root = deepS ns 4000 root := by
    simp only [depthS, hs]
    exact deepS_more ns hkd ns.length 4000 root (by omega) (by omega) (by omega) hl
  rw [hres, show root = ((ns.length - 1 : Nat) : Int) by omega] at hk
  refine frame0P (gput_ok rsound_ok g0_ok) 19 rfl fun Q hr => ?_
  conv => whnf
  refine ⟨ns, root, true, rfl, kt, hs, ?_⟩
  conv => whnf
  refine ⟨⟨by omega, by omega, by omega, ?_⟩, ?_⟩
  · show (8 : Int) * (ns.length : Int) ≤ 140737488355328
    omega
  conv => whnf
  refine loop_up (ι := PC) [1, 4] (fun c => [(5, intV c.i)]) (fun c => [(1, rowA ns.length c.f)]) (fun c => c.i ≤ ns.length ∧ ∀ j, j < c.i → c.f j = dpF ns j) (fun c => ns.length - c.i) ⟨0, fun _ => 0⟩
    ⟨AV.le_refl _, trivial⟩ ⟨upLe1 rfl (ABlk.arr_eq rfl fun _ _ => rfl), trivial⟩ ⟨Nat.zero_le _, fun j hj => by simp only at hj; omega⟩ ?_
  rintro Y hle ⟨i, f⟩ ⟨hi, hf⟩ ih
  simp only at hi hf
  conv => whnf
  refine two_dec (fun h => ?_) (fun h => ?_)
  · have h : i < ns.length := by have h : (i : Int) < (ns.length : Int) := h; omega
    have hw1 := wzz (i := i) (by omega)
    have hkm := st.many i h
    have hkk := st.kid i h
    conv => whnf
    refine ⟨⟨rfl, Nat.zero_add _, by omega, by omega, rfl⟩, ?_⟩
    conv => whnf
    refine ⟨⟨rfl, rfl⟩, ?_⟩
    conv => whnf
    refine loop_up (ι := PC) [1, 4, 5] (fun c => [(6, intV c.i)]) (fun c => [(1, rowA ns.length c.f)]) (fun c => c.i ≤ (nd ns i).kids.length ∧ (∀ j, j < i → c.f j = dpF ns j) ∧ c.f i = ((mxF ns ((nd ns i).kids.take c.i) + 1 : Nat) : Int)) (fun c => (nd ns i).kids.length - c.i) ⟨0, setF f i 1⟩
      ⟨AV.le_refl _, trivial⟩ ⟨upLe1 rfl (rowA_set rfl (Nat.zero_add _) (fun _ _ => rfl)), trivial⟩ ⟨Nat.zero_le _, fun j hj => by simp only [setF]; rw [if_neg (by omega)]; exact hf j hj, by simp [setF, mxF]⟩ ?_
    rintro Z hlz ⟨j, g⟩ ⟨hj, hg, hgi⟩ ihz
    simp only at hj hg hgi
    conv => whnf
    refine ⟨⟨by omega, by omega, rfl⟩, ?_⟩
    conv => whnf
    refine two_dec (fun h2 => ?_) (fun h2 => ?_)
    · have h2 : j < (nd ns i).kids.length := by have h2 : (j : Int) < ((nd ns i).kids.length : Int) := h2; omega
      have h2' : (j : Int) < ((nd ns i).kids.length : Int) := by omega
      have hw2 := wzz (i := j) (by omega)
      have hm := hkk _ (getD_mem h2)
      have hi0 : 0 ≤ (i : Int) := by omega
      have hil : (i : Int) < (ns.length : Int) := by omega
      have hj0 : 0 ≤ (j : Int) := by omega
      have hjl : (j : Int) < ((nd ns i).kids.length : Int) := h2'
      have hm0 : 0 ≤ (nd ns i).kids.getD j 0 := hm.1
      have hml : (nd ns i).kids.getD j 0 < (ns.length : Int) := by omega
      obtain ⟨q, hq⟩ : ∃ q : Nat, (nd ns i).kids.getD j 0 = (q : Int) := ⟨((nd ns i).kids.getD j 0).toNat, by omega⟩
      have hgq : g q = dpF ns q := hg q (by omega)
      have hqd : dpF ns q = (deepS ns 3999 (q : Int) : Nat) := by
        simp only [dpF]; rw [deepS_more ns hkd 3999 4000 (q : Int) (by omega) (by omega) (by omega) (by omega)]
      have hq1 := deepS_le ns 3999 (q : Int)
      have hwq : IntKind.i64.wrap (1 + g ((nd ns i).kids.getD j 0).toNat) = 1 + (deepS ns 3999 (q : Int) : Nat) := by
        rw [hq, Int.toNat_natCast, hgq, hqd, w64 ⟨by omega, by omega⟩]
      have hmx : mxF ns ((nd ns i).kids.take (j + 1)) = max (mxF ns ((nd ns i).kids.take j)) (deepS ns 3999 (q : Int)) := by
        unfold mxF
        rw [List.take_succ_eq_append_getElem h2, List.foldl_append]
        have e1 : (nd ns i).kids[j] = (q : Int) := by rw [← hq]; simp [h2]
        rw [e1]; rfl
      conv => whnf
      repeat' (first | (refine Chk.mk ⟨hi0, hil, rfl⟩ ?_; (conv => whnf)) | (refine Chk.mk ⟨hj0, hjl, rfl⟩ ?_; (conv => whnf)) | (refine Chk.mk ⟨rfl, Nat.zero_add _, hi0, hil, rfl⟩ ?_; (conv => whnf)) | (refine Chk.mk ⟨rfl, Nat.zero_add _, hm0, hml, rfl⟩ ?_; (conv => whnf)) | (refine Chk.mk ⟨rfl, rfl⟩ ?_; (conv => whnf)) | (refine And.intro ⟨hi0, hil, rfl⟩ ?_; (conv => whnf)) | (refine And.intro ⟨hj0, hjl, rfl⟩ ?_; (conv => whnf)) | (refine And.intro ⟨rfl, Nat.zero_add _, hi0, hil, rfl⟩ ?_; (conv => whnf)) | (refine And.intro ⟨rfl, Nat.zero_add _, hm0, hml, rfl⟩ ?_; (conv => whnf)) | (refine And.intro ⟨rfl, rfl⟩ ?_; (conv => whnf)) | fail)
      have hval : (if IntKind.i64.wrap (1 + g (0 + ((nd ns i).kids.getD j 0).toNat)) > g (0 + i) then IntKind.i64.wrap (1 + g (0 + ((nd ns i).kids.getD j 0).toNat)) else g (0 + i)) = ((mxF ns ((nd ns i).kids.take (j + 1)) + 1 : Nat) : Int) := by
        rw [Nat.zero_add, Nat.zero_add, hwq, hgi, hmx]
        split <;> omega
      refine hlz _ _ (Le.cutEnv 2 rfl rfl ⟨rfl, rowU_cl (f := g) 2 rfl (fun _ _ => rfl), trivial⟩ ?_ ?_) (ihz ⟨j + 1, setF g i ((mxF ns ((nd ns i).kids.take (j + 1)) + 1 : Nat) : Int)⟩ (by show _ - (j + 1) < _ - j; omega) ⟨h2, fun x hx => ?_, ?_⟩)
      · skip
        repeat' (first | exact trivial | ((conv => whnf); first | exact trivial | (refine And.intro (AV.le_refl _) ?_) | (refine And.intro (ABlk.le_refl _) ?_) | (refine And.intro (AV.le_of_eq ?_) ?_; (focus ((first | exact congrArg intV hw2 | fail); done))) | (refine And.intro (ABlk.le_of_eq ?_) ?_; (focus ((first | exact congrArg intV hw2 | fail); done))) | fail) | fail)
      · (conv => whnf)
        refine ⟨ABlk.le_refl _, ?_⟩
        (conv => whnf)
        refine ⟨rowA_set (congrArg (fun x => [intV x]) hval) (Nat.zero_add _) (fun _ _ => rfl), ?_⟩
        repeat' (first | exact trivial | ((conv => whnf); first | exact trivial | (refine And.intro (AV.le_refl _) ?_) | (refine And.intro (ABlk.le_refl _) ?_) | (refine And.intro (AV.le_of_eq ?_) ?_; (focus ((first | fail | fail); done))) | (refine And.intro (ABlk.le_of_eq ?_) ?_; (focus ((first | fail | fail); done))) | fail) | fail)
      · have hx : x < i := hx
        simp only [setF]; rw [if_neg (by omega)]; exact hg x hx
      · simp [setF]
    · obtain rfl : j = (nd ns i).kids.length := by have h2 : ¬ (j : Int) < ((nd ns i).kids.length : Int) := h2; omega
      rw [List.take_length, ← hdp i h] at hgi
      conv => whnf
      refine hle _ _ (Le.cutEnv 2 rfl rfl ⟨rfl, rowA_cl _ _ _, trivial⟩ ?_ ?_) (ih ⟨i + 1, g⟩ (by show _ - (i + 1) < _ - i; omega) ⟨h, fun j hj => ?_⟩)
      · skip
        repeat' (first | exact trivial | ((conv => whnf); first | exact trivial | (refine And.intro (AV.le_refl _) ?_) | (refine And.intro (ABlk.le_refl _) ?_) | (refine And.intro (AV.le_of_eq ?_) ?_; (focus ((first | exact congrArg intV hw1 | fail); done))) | (refine And.intro (ABlk.le_of_eq ?_) ?_; (focus ((first | exact congrArg intV hw1 | fail); done))) | fail) | fail)
      · skip
        repeat' (first | exact trivial | ((conv => whnf); first | exact trivial | (refine And.intro (AV.le_refl _) ?_) | (refine And.intro (ABlk.le_refl _) ?_) | (refine And.intro (AV.le_of_eq ?_) ?_; (focus ((first | fail | fail); done))) | (refine And.intro (ABlk.le_of_eq ?_) ?_; (focus ((first | fail | fail); done))) | fail) | fail)
      · by_cases e : j = i
        · subst e; exact hgi
        · exact hg j (by simp only at hj; omega)
  · obtain rfl : i = ns.length := by have h : ¬ (i : Int) < (ns.length : Int) := h; omega
    have hv := hf (ns.length - 1) (by omega)
    simp only [dpF] at hv
    rw [← hv, show f (ns.length - 1) = f root.toNat from congrArg f (by omega), show f root.toNat = f (0 + root.toNat) by rw [Nat.zero_add]] at hk
    conv => whnf
    refine ⟨⟨rfl, Nat.zero_add _, by omega, by omega, rfl⟩, ?_⟩
    conv => whnf
    refine Chk.mk ⟨rfl, rfl⟩ ?_
    conv => whnf
    exact hr _ _ rfl hk
end Go.Proofs.YtojjkleplnijaaaGreatDoor

namespace Go.Proofs.YtojjkleplnijaaaGreatDoor
open Go.AE Go.Ru
set_option maxRecDepth 100000
set_option maxHeartbeats 4000000
def digB (c : UInt8) : Bool := decide (48 ≤ c.toNat) && decide (c.toNat ≤ 57)
def partB (c : UInt8) : Bool := digB c || (decide (97 ≤ c.toNat) && decide (c.toNat ≤ 122)) || (decide (65 ≤ c.toNat) && decide (c.toNat ≤ 90)) || decide (c.toNat = 95)
def cByteB (p : UInt8 → Bool) : AC := fun args K k => ∃ (c : UInt8) (n : Int), n = (c.toNat : Int) ∧ args = [.p (.int .u8 n)] ∧ k (.ret (.p (.bool (p c)))) K
theorem rdigit_ok : COk 223 (cByteB digB) := by
  rintro args K k ⟨c, n, hn, rfl, hk⟩
  refine frame0P g0_ok 19 rfl fun Q hr => ?_
  have e1 : decide (n ≥ 48) = decide (48 ≤ c.toNat) := by subst hn; rw [decide_eq_decide]; omega
  have e2 : decide (n ≤ 57) = decide (c.toNat ≤ 57) := by subst hn; rw [decide_eq_decide]; omega
  conv => whnf
  refine two_intro (fun h => ?_) (fun h => ?_)
  · have h' : decide (48 ≤ c.toNat) = true := by rw [← e1]; exact h
    simp only [digB, h', Bool.true_and, ← e2] at hk
    conv => whnf
    exact hr _ _ rfl hk
  · have h' : decide (48 ≤ c.toNat) = false := by rw [← e1]; exact h
    simp only [digB, h', Bool.false_and] at hk
    conv => whnf
    exact hr _ _ rfl hk
def gRd3 : AG := gput 223 (cByteB digB) g0
theorem gRd3_ok : GOk Tryz.prog gRd3 := gput_ok rdigit_ok g0_ok
theorem rpart_ok : COk 221 (cByteB partB) := by
  rintro args K k ⟨c, n, hn, rfl, hk⟩
  refine frame0P gRd3_ok 19 rfl fun Q hr => ?_
  conv => whnf
  refine ⟨c, n, hn, rfl, ?_⟩
  conv => whnf
  repeat' (first | (refine two_eq (fun h => ?_) (fun h => ?_) <;> (conv => whnf)) | (refine two_ne (fun h => ?_) (fun h => ?_) <;> (conv => whnf)) | (refine two_not (fun h => ?_) (fun h => ?_) <;> (conv => whnf)) | (refine two_dec (fun h => ?_) (fun h => ?_) <;> (conv => whnf)) | (refine two_intro (fun h => ?_) (fun h => ?_) <;> (conv => whnf)) | (refine Chk.mk ?_ ?_; (focus (((repeat' (refine And.intro ?_ ?_)) <;> (first | omega | rfl | (simp only [List.length_append, List.length_cons, List.length_nil]; omega) | fail)); done)); (conv => whnf)) | (refine And.intro ?_ ?_; (focus (((repeat' (refine And.intro ?_ ?_)) <;> (first | omega | rfl | (simp only [List.length_append, List.length_cons, List.length_nil]; omega) | fail)); done)); (conv => whnf)) | (refine Exists.intro _ (And.intro rfl ?_)) | (refine Exists.intro _ (Exists.intro _ (And.intro rfl ?_))) | (refine Exists.intro _ (Exists.intro _ (Exists.intro _ (And.intro rfl ?_)))) | fail)
  all_goals (refine hr _ _ rfl (ret_eq hk ?_); clear hr hk; refine congrArg (fun b => AV.p (.bool b)) ?_; rw [Bool.eq_iff_iff]; simp only [partB, Bool.or_eq_true, Bool.and_eq_true, decide_eq_true_eq, beq_iff_eq, iff_true, *]; try (first | omega | (simp; done) | (simp; omega)))
theorem wz3 {i : Nat} (h : i < 9223372036854775807) : IntKind.i64.wrap ((i : Int) + 1) = ((i + 1 : Nat) : Int) := by rw [w64 ⟨by omega, by omega⟩]; omega
theorem any_at {W : List Bs} {i : Nat} (hi : i < W.length) {l : Bs} (h : W.getD i [] = l) : W.any (· == l) = true := by
  rw [List.any_eq_true]
  refine ⟨W[i], List.getElem_mem hi, ?_⟩
  rw [List.getD_eq_getElem?_getD, List.getElem?_eq_getElem hi] at h
  simpa using h
theorem any_succ {W : List Bs} {i : Nat} (hi : i < W.length) {l : Bs} (ha : (W.take i).any (· == l) = false) (h : W.getD i [] ≠ l) : (W.take (i + 1)).any (· == l) = false := by
  rw [List.getD_eq_getElem?_getD, List.getElem?_eq_getElem hi] at h
  rw [List.take_succ_eq_append_getElem hi, List.any_append, ha]
  simpa using h
def cRKept : AC := fun args K k => ∃ l, args = [.p (.str l)] ∧ k (.ret (.p (.bool (keptP l)))) K
theorem rkept_ok : COk 222 cRKept := by
  rintro args K k ⟨l, rfl, hk⟩
  refine frame0P g0_ok 19 rfl fun Q hr => ?_
  rw [keptP_any] at hk
  conv => whnf
  refine loop_up (ι := Nat) [0, 3] (fun i => [(4, .p (.int .i64 i)), (2, .p (.bool false))]) (fun _ => [(0, .arr 9 1 0 20 fun i => [.p (.str (keptW.getD i []))])])
    (fun i => i ≤ 20 ∧ (keptW.take i).any (· == l) = false) (fun i => 20 - i) 0 ⟨AV.le_refl _, AV.le_refl _, trivial⟩ ⟨upLe1 rfl (ABlk.arr_eq rfl fun i hi => ?_), trivial⟩ ⟨by omega, rfl⟩ ?_
  · match i, hi with
    | 0, _ => rfl
    | 1, _ => rfl
    | 2, _ => rfl
    | 3, _ => rfl
    | 4, _ => rfl
    | 5, _ => rfl
    | 6, _ => rfl
    | 7, _ => rfl
    | 8, _ => rfl
    | 9, _ => rfl
    | 10, _ => rfl
    | 11, _ => rfl
    | 12, _ => rfl
    | 13, _ => rfl
    | 14, _ => rfl
    | 15, _ => rfl
    | 16, _ => rfl
    | 17, _ => rfl
    | 18, _ => rfl
    | 19, _ => rfl
    | n + 20, h => exact absurd h (by omega)
  intro Y hle i ⟨hi, ha⟩ ih
  conv => whnf
  repeat' (first | (refine two_eq (fun h => ?_) (fun h => ?_) <;> (conv => whnf)) | (refine two_ne (fun h => ?_) (fun h => ?_) <;> (conv => whnf)) | (refine two_not (fun h => ?_) (fun h => ?_) <;> (conv => whnf)) | (refine two_dec (fun h => ?_) (fun h => ?_) <;> (conv => whnf)) | (refine two_intro (fun h => ?_) (fun h => ?_) <;> (conv => whnf)) | (refine Chk.mk ?_ ?_; (focus (((repeat' (refine And.intro ?_ ?_)) <;> (first | omega | rfl | (simp only [List.length_append, List.length_cons, List.length_nil]; omega) | fail)); done)); (conv => whnf)) | (refine And.intro ?_ ?_; (focus (((repeat' (refine And.intro ?_ ?_)) <;> (first | omega | rfl | (simp only [List.length_append, List.length_cons, List.length_nil]; omega) | fail)); done)); (conv => whnf)) | (refine Exists.intro _ (And.intro rfl ?_)) | (refine Exists.intro _ (Exists.intro _ (And.intro rfl ?_))) | (refine Exists.intro _ (Exists.intro _ (Exists.intro _ (And.intro rfl ?_)))) | fail)
  · have hi2 : i < keptW.length := by show i < 20; omega
    have h : keptW.getD i [] = l := by rw [← ‹keptW.getD _ [] = l›]; congr 1; omega
    rw [any_at hi2 h] at hk
    exact hr _ _ rfl hk
  · have hi2 : i < keptW.length := by show i < 20; omega
    have h : keptW.getD i [] ≠ l := by intro e; apply ‹keptW.getD _ [] ≠ l›; rw [← e]; congr 1; omega
    refine hle _ _ (Le.env ?_ ?_) (ih (i + 1) (by omega) ⟨by omega, any_succ hi2 ha h⟩)
    · skip
      repeat' (first | exact trivial | ((conv => whnf); first | exact trivial | (refine And.intro (AV.le_refl _) ?_) | (refine And.intro (ABlk.le_refl _) ?_) | (refine And.intro (AV.le_of_eq ?_) ?_; (focus ((first | exact congrArg (fun x => AV.p (.int .i64 x)) (wz3 (by omega)) | fail); done))) | (refine And.intro (ABlk.le_of_eq ?_) ?_; (focus ((first | exact congrArg (fun x => AV.p (.int .i64 x)) (wz3 (by omega)) | fail); done))) | fail) | fail)
    · exact lesK.refl _
  · have h : i = keptW.length := by show i = 20; omega
    rw [h, List.take_length] at ha
    rw [ha] at hk
    exact hr _ _ rfl hk
theorem inB_dig (c : UInt8) : inB digitsT c = digB c := by
  have h : ∀ n < 256, inB digitsT (UInt8.ofNat n) = digB (UInt8.ofNat n) := by decide +kernel
  have := h c.toNat c.toNat_lt
  simpa using this
theorem inB_part (c : UInt8) : inB partsT c = partB c := by
  have h : ∀ n < 256, inB partsT (UInt8.ofNat n) = partB (UInt8.ofNat n) := by decide +kernel
  have := h c.toNat c.toNat_lt
  simpa using this
def gRi : AG := gput 222 cRKept (gput 221 (cByteB partB) gRd3)
theorem gRi_ok : GOk Tryz.prog gRi := gput_ok rkept_ok (gput_ok rpart_ok gRd3_ok)
def cRIdent : AC := fun args K k => ∃ l, args = [.p (.str l)] ∧ l.length < 1000000 ∧ k (.ret (.p (.bool (identP l)))) K
theorem identP_ref (l : Bs) : identP l = (l.all partB && (decide (l.length ≥ 1) && (decide (l.length ≤ 20) && (!digB (l.getD 0 0) && !keptP l)))) := by
  have hp : inB partsT = partB := funext inB_part
  simp only [identP, hp]
  cases l with
  | nil => rfl
  | cons a r =>
    have h1 : decide (Lib.indexByte digitsT ((a :: r).getD 0 0) < 0) = !digB ((a :: r).getD 0 0) := by
      rw [← inB_dig]; simp only [inB]
      by_cases hx : Lib.indexByte digitsT ((a :: r).getD 0 0) < 0
      · rw [decide_eq_true hx, decide_eq_false (by omega)]; rfl
      · rw [decide_eq_false hx, decide_eq_true (by omega)]; rfl
    have h2 : ((a :: r) == []) = false := rfl
    have h3 : decide ((a :: r).length ≥ 1) = true := by simp
    rw [h1, h2, h3]
    cases decide ((a :: r).length ≤ 20) <;> cases (a :: r).all partB <;> rfl
theorem rident_ok : COk 195 cRIdent := by
  rintro args K k ⟨l, rfl, hl, hk⟩
  refine frame0P gRi_ok 19 rfl fun Q hr => ?_
  rw [identP_ref] at hk
  conv => whnf
  refine loop_up (ι := Nat) [0] (fun i => [(3, .p (.int .i64 i)), (2, .p (.bool false))]) (fun _ => [])
    (fun i => i ≤ l.length ∧ (l.take i).all partB = true) (fun i => l.length - i) 0 ⟨AV.le_refl _, AV.le_refl _, trivial⟩ trivial ⟨by omega, rfl⟩ ?_
  intro Y hle i ⟨hi, ha⟩ ih
  conv => whnf
  repeat' (first | (refine two_eq (fun h => ?_) (fun h => ?_) <;> (conv => whnf)) | (refine two_ne (fun h => ?_) (fun h => ?_) <;> (conv => whnf)) | (refine two_not (fun h => ?_) (fun h => ?_) <;> (conv => whnf)) | (refine two_dec (fun h => ?_) (fun h => ?_) <;> (conv => whnf)) | (refine two_intro (fun h => ?_) (fun h => ?_) <;> (conv => whnf)) | (refine Chk.mk ?_ ?_; (focus (((repeat' (refine And.intro ?_ ?_)) <;> (first | omega | rfl | (simp only [List.length_append, List.length_cons, List.length_nil]; omega) | fail)); done)); (conv => whnf)) | (refine And.intro ?_ ?_; (focus (((repeat' (refine And.intro ?_ ?_)) <;> (first | omega | rfl | (simp only [List.length_append, List.length_cons, List.length_nil]; omega) | fail)); done)); (conv => whnf)) | (refine Exists.intro _ (And.intro rfl ?_)) | (refine Exists.intro _ (Exists.intro _ (And.intro rfl ?_))) | (refine Exists.intro _ (Exists.intro _ (Exists.intro _ (And.intro rfl ?_)))) | fail)
  · refine ⟨l.getD (Int.toNat i) 0, _, rfl, rfl, ?_⟩
    have hi3 : i < l.length := by omega
    have hg : l.getD (Int.toNat i) 0 = l[i] := by rw [Int.toNat_natCast, List.getD_eq_getElem?_getD, List.getElem?_eq_getElem hi3]; rfl
    rw [hg]
    conv => whnf
    refine two_intro (fun h2 => ?_) (fun h2 => ?_)
    · have h2 : partB l[i] = false := by simpa using h2
      have he : l.all partB = false := by rw [List.all_eq_false]; exact ⟨l[i], by simp, by simp [h2]⟩
      rw [he] at hk
      conv => whnf
      exact hr _ _ rfl hk
    · have h2 : partB l[i] = true := by simpa using h2
      conv => whnf
      refine hle _ _ (Le.env ?_ ?_) (ih (i + 1) (by omega) ⟨by omega, ?_⟩)
      · skip
        repeat' (first | exact trivial | ((conv => whnf); first | exact trivial | (refine And.intro (AV.le_refl _) ?_) | (refine And.intro (ABlk.le_refl _) ?_) | (refine And.intro (AV.le_of_eq ?_) ?_; (focus ((first | exact congrArg (fun x => AV.p (.int .i64 x)) (wz3 (by omega)) | fail); done))) | (refine And.intro (ABlk.le_of_eq ?_) ?_; (focus ((first | exact congrArg (fun x => AV.p (.int .i64 x)) (wz3 (by omega)) | fail); done))) | fail) | fail)
      · exact lesK.refl _
      · rw [List.take_succ_eq_append_getElem hi3, List.all_append, ha]; simp [h2]
  · skip
    obtain rfl : i = l.length := by omega
    rw [List.take_length] at ha
    rw [ha] at hk
    have h1 : decide (l.length ≥ 1) = true := decide_eq_true (by omega)
    have h2 : decide (l.length ≤ 20) = true := decide_eq_true (by omega)
    simp only [h1, h2, Bool.true_and] at hk
    refine ⟨l.getD (Int.toNat 0) 0, _, rfl, rfl, ?_⟩
    conv => whnf
    refine two_intro (fun h2 => ?_) (fun h2 => ?_)
    · have h2 : digB (l.getD 0 0) = false := by simpa using h2
      rw [h2] at hk
      conv => whnf
      exact hr _ _ rfl hk
    · have h2 : digB (l.getD 0 0) = true := by simpa using h2
      rw [h2] at hk
      conv => whnf
      exact hr _ _ rfl hk
  · skip
    obtain rfl : i = l.length := by omega
    rw [List.take_length] at ha
    rw [ha] at hk
    have h1 : decide (l.length ≥ 1) = true := decide_eq_true (by omega)
    have h2 : decide (l.length ≤ 20) = false := decide_eq_false (by omega)
    simp only [h1, h2, Bool.true_and, Bool.false_and] at hk
    exact hr _ _ rfl hk
  · skip
    obtain rfl : i = l.length := by omega
    rw [List.take_length] at ha
    rw [ha] at hk
    have h1 : decide (l.length ≥ 1) = false := decide_eq_false (by omega)
    simp only [h1, Bool.true_and, Bool.false_and] at hk
    exact hr _ _ rfl hk
end Go.Proofs.YtojjkleplnijaaaGreatDoor

namespace Go.Proofs.YtojjkleplnijaaaGreatDoor
open Go.AE Go.Ru
set_option maxRecDepth 100000
set_option maxHeartbeats 1000000
def strM (f : Bs → Option Nat) (κ : MK) : Option PV := match κ with
  | .s l => match f l with
    | some j => some (.int .i64 (j : Int))
    | none => none
  | .i _ _ => none
def isProcB (ns : List Nd) (o : Int) : Bool := decide (0 ≤ o) && (decide (o < ns.length) && (nd ns o.toNat).k == 3)
def locM (ns : List Nd) (root : Int) (κ : MK) : Option PV := match κ with
  | .i _ o => match isProcB ns o with
    | true => some (.mp .str (strM (locS ns root o)))
    | false => none
  | .s _ => none
def scC (ns : List Nd) (root : Int) : List PV := [.sl 5 ns.length (nodeF ns), .int .i64 root, .sl 1 ns.length (rowF (own ns root)), .mp .str (strM (globS ns)), .mp .str (strM (tprocS ns)), .mp (.int .i64) (locM ns root)]
def scV (ns : List Nd) (root : Int) : AV := .rop (scC ns root) 0
theorem strM_some {f : Bs → Option Nat} {l : Bs} {j : Nat} (h : f l = some j) : strM f (.s l) = some (.int .i64 (j : Int)) := by simp only [strM, h]
theorem strM_none {f : Bs → Option Nat} {l : Bs} (h : f l = none) : strM f (.s l) = none := by simp only [strM, h]
theorem locM_yes {ns : List Nd} {root o : Int} {q : IntKind} (h : isProcB ns o = true) : locM ns root (.i q o) = some (.mp .str (strM (locS ns root o))) := by simp only [locM, h]
theorem isProcB_own {ns : List Nd} {root : Int} (h : Std ns root) {i : Nat} (hi : i < ns.length) (ho : own ns root i ≠ -1) : isProcB ns (own ns root i) = true := by
  rcases own_range h hi with e | ⟨e1, e2, e3⟩
  · exact absurd e ho
  · simp only [isProcB, e3, beq_self_eq_true, Bool.and_true, Bool.and_eq_true, decide_eq_true_eq]; omega
def cMeans : AC := fun args K k => ∃ ns root i name, args = [scV ns root, .p (.int .i64 ((i : Nat) : Int)), .p (.str name)] ∧ Std ns root ∧ i < ns.length ∧ k (.ret (intV (meansS ns root i name))) K
theorem means_ok : COk 55 cMeans := by
  rintro args K k ⟨ns, root, i, name, rfl, st, hi, hk⟩
  refine frame0P g0_ok 19 rfl fun Q hr => ?_
  unfold meansS at hk
  conv => whnf
  refine ⟨⟨by omega, by omega, rfl⟩, ?_⟩
  conv => whnf
  refine two_eq (fun h => ?_) (fun h => ?_)
  · have h : own ns root i = -1 := h
    rw [h] at hk
    conv => whnf
    exact hr _ _ rfl hk
  have h : own ns root i ≠ -1 := h
  rw [show (own ns root i == -1) = false from beq_eq_false_iff_ne.2 h] at hk
  conv => whnf
  refine MGet.pv_some (locM_yes (isProcB_own st hi h)) ?_
  conv => whnf
  cases hl : locS ns root (own ns root i) name with
  | some d =>
    rw [hl] at hk
    refine MGet.pv_some (strM_some hl) ?_
    conv => whnf
    exact hr _ _ rfl hk
  | none =>
    rw [hl] at hk
    refine MGet.pv_none (strM_none hl) ?_
    conv => whnf
    cases hg : globS ns name with
    | some d =>
      rw [hg] at hk
      refine MGet.pv_some (strM_some hg) ?_
      conv => whnf
      exact hr _ _ rfl hk
    | none =>
      rw [hg] at hk
      refine MGet.pv_none (strM_none hg) ?_
      conv => whnf
      exact hr _ _ rfl hk
def cTProc : AC := fun args K k => ∃ ns root name, args = [scV ns root, .p (.str name)] ∧ k (.ret (intV (procI ns name))) K
theorem proc_ok' : COk 47 cTProc := by
  rintro args K k ⟨ns, root, name, rfl, hk⟩
  refine frame0P g0_ok 19 rfl fun Q hr => ?_
  unfold procI at hk
  conv => whnf
  cases hg : tprocS ns name with
  | some d =>
    rw [hg] at hk
    refine MGet.pv_some (strM_some hg) ?_
    conv => whnf
    exact hr _ _ rfl hk
  | none =>
    rw [hg] at hk
    refine MGet.pv_none (strM_none hg) ?_
    conv => whnf
    exact hr _ _ rfl hk
def gMe : AG := gput 55 cMeans g0
theorem gMe_ok : GOk Tryz.prog gMe := gput_ok means_ok g0_ok
def cKind : AC := fun args K k => ∃ ns root i name, args = [scV ns root, .p (.int .i64 ((i : Nat) : Int)), .p (.str name)] ∧ Std ns root ∧ i < ns.length ∧ k (.ret (intV (kindS ns root i name))) K
theorem kind_ok : COk 113 cKind := by
  rintro args K k ⟨ns, root, i, name, rfl, st, hi, hk⟩
  refine frame0P gMe_ok 19 rfl fun Q hr => ?_
  unfold kindS at hk
  conv => whnf
  refine ⟨ns, root, i, name, rfl, st, hi, ?_⟩
  conv => whnf
  have hm := means_range ns root i name
  generalize meansS ns root i name = d at hk hm
  refine two_ne (fun h => ?_) (fun h => ?_)
  · have h : d ≠ -1 := h
    rw [show (d != -1) = true from bne_iff_ne.2 h] at hk
    conv => whnf
    refine ⟨⟨by omega, by omega, rfl⟩, ?_⟩
    conv => whnf
    exact hr _ _ rfl hk
  · have h : d = -1 := h
    subst h
    conv => whnf
    exact hr _ _ rfl hk
def kiB (l : List Int) : ABlk := .arr 3 1 0 l.length (fun i => pvs (kidF l i))
theorem kiB_snoc (l : List Int) (x : Int) (f : Nat → List AV) (hf : f 0 = [intV x]) : (ABlk.arr 3 1 0 (l.length + 1) (catF l.length (fun i => pvs (kidF l i)) f)).le (kiB (l ++ [x])) := by
  refine ABlk.arr_eq (by simp) fun i hi => ?_
  by_cases h : i < l.length
  · rw [catF_lt h]
    simp [kidF, List.getD_eq_getElem?_getD, List.getElem?_append_left h]
  · obtain rfl : i = l.length := by omega
    rw [catF_ge (Nat.le_refl _), Nat.sub_self, hf]
    simp [kidF, List.getD_eq_getElem?_getD, pvs, intV]
theorem kiB_cl (l : List Int) (x : Int) (f : Nat → List AV) (n : Nat) (hf : f 0 = [intV x]) : (ABlk.arr 3 1 0 (l.length + 1) (catF l.length (fun i => pvs (kidF l i)) f)).cl n := fun i hi => by
  by_cases h : i < l.length
  · rw [catF_lt h]; rfl
  · obtain rfl : i = l.length := by omega
    rw [catF_ge (Nat.le_refl _), Nat.sub_self, hf]; rfl
structure KC where
  j : Nat
  l : List Int
def parsL (ns : List Nd) (ks : List Int) : List Int := (ks.filter fun q => (nd ns q.toNat).k == 4).map fun q => (nd ns q.toNat).n
def intsV (l : List Int) : AV := .p (.sl 1 l.length (kidF l))
def cParams : AC := fun args K k => ∃ ns root p, args = [scV ns root, .p (.int .i64 ((p : Nat) : Int))] ∧ Std ns root ∧ p < ns.length ∧ k (.ret (intsV (paramsS ns p))) K
theorem params_ok : COk 48 cParams := by
  rintro args K k ⟨ns, root, p, rfl, st, hp, hk⟩
  have hlen := st.len
  have hmany := st.many p hp
  have hkid := st.kid p hp
  refine frame0W g0_ok 19 rfl fun Q hr => ?_
  conv => whnf
  refine ⟨⟨by omega, by omega, rfl⟩, ?_⟩
  conv => whnf
  refine loop_nil (ι := KC) 3 1 (fun i => pvs (kidF [] i)) (fun c => ⟨[(0, scV ns root), (17, .p (.sl 1 (nd ns p).kids.length (kidF (nd ns p).kids))), (18, intV (nd ns p).kids.length), (19, intV c.j), (5, .slr 0 0 0 c.l.length)], [kiB c.l]⟩)
    (fun c => c.j ≤ (nd ns p).kids.length ∧ c.l.length ≤ c.j ∧ c.l ++ parsL ns ((nd ns p).kids.drop c.j) = paramsS ns p) (fun c => (nd ns p).kids.length - c.j) ⟨0, []⟩ []
    rfl ⟨.inl (AV.le_refl _), .inl (AV.le_refl _), .inl (AV.le_refl _), .inl (AV.le_refl _), .inr ⟨rfl, rfl⟩, trivial⟩ trivial rfl ⟨Nat.zero_le _, Nat.le_refl _, rfl⟩ ?_
  rintro Y hle ⟨j, l⟩ ⟨hj, hl, he⟩ ih
  simp only at hj hl he
  conv => whnf
  refine two_dec (fun h => ?_) (fun h => ?_)
  · have h : j < (nd ns p).kids.length := by have h : (j : Int) < ((nd ns p).kids.length : Int) := h; omega
    have hw1 := wzz (i := j) (by omega)
    rw [List.drop_eq_getElem_cons h] at he
    have e1 : (nd ns p).kids.getD j 0 = (nd ns p).kids[j] := by simp [h]
    have hm := hkid _ (List.getElem_mem h)
    rw [← e1] at he hm
    generalize hq : (nd ns p).kids.getD j 0 = q at he hm
    have hq' : (nd ns p).kids.getD (j : Int).toNat 0 = q := hq
    conv => whnf
    refine ⟨⟨by omega, by show (j : Int) < ((nd ns p).kids.length : Int); omega, rfl⟩, ?_⟩
    conv => whnf
    refine ⟨⟨by rw [hq']; omega, by rw [hq']; omega, rfl⟩, ?_⟩
    conv => whnf
    refine two_eq (fun h4 => ?_) (fun h4 => ?_)
    · have h4 : (nd ns ((nd ns p).kids.getD (j : Int).toNat 0).toNat).k = 4 := h4
      rw [hq'] at h4
      have he : (l ++ [(nd ns q.toNat).n]) ++ parsL ns ((nd ns p).kids.drop (j + 1)) = paramsS ns p := by
        rw [← he]; simp [parsL, h4]
      conv => whnf
      refine ⟨⟨rfl, rfl, rfl, allLt_ok ⟨trivial, rfl⟩⟩, ?_⟩
      conv => whnf
      refine ⟨⟨rfl, rfl, rfl, rfl, ?_, ?_⟩, ?_⟩
      · show (l.length + 1) * 8 ≤ 140737488355328
        omega
      · show l.length + 1 ≤ 9223372036854775807
        omega
      conv => whnf
      refine hle _ _ (Le.cutEnv 1 rfl rfl ⟨kiB_cl l _ _ 1 rfl, trivial⟩ ?_ ?_) (ih ⟨j + 1, l ++ [(nd ns q.toNat).n]⟩ (by show _ - (j + 1) < _ - j; omega) ⟨h, by simp; omega, he⟩)
      · skip
        repeat' (first | exact trivial | ((conv => whnf); first | exact trivial | (refine And.intro (AV.le_refl _) ?_) | (refine And.intro (ABlk.le_refl _) ?_) | (refine And.intro (AV.le_of_eq ?_) ?_; (focus ((first | exact congrArg intV hw1 | exact congrArg (fun n => AV.slr 0 0 0 n) (by simp) | fail); done))) | (refine And.intro (ABlk.le_of_eq ?_) ?_; (focus ((first | exact congrArg intV hw1 | exact congrArg (fun n => AV.slr 0 0 0 n) (by simp) | fail); done))) | fail) | fail)
      · (conv => whnf)
        refine ⟨kiB_snoc l _ _ (congrArg (fun q : Int => [intV (nd ns q.toNat).n]) hq'), ?_⟩
        trivial
    · have h4 : (nd ns ((nd ns p).kids.getD (j : Int).toNat 0).toNat).k ≠ 4 := h4
      rw [hq'] at h4
      have he : l ++ parsL ns ((nd ns p).kids.drop (j + 1)) = paramsS ns p := by
        rw [← he]; simp [parsL, h4]
      conv => whnf
      refine hle _ _ (Le.cutEnv 1 rfl rfl ⟨fun _ _ => rfl, trivial⟩ ?_ ?_) (ih ⟨j + 1, l⟩ (by show _ - (j + 1) < _ - j; omega) ⟨h, by show l.length ≤ j + 1; omega, he⟩)
      · skip
        repeat' (first | exact trivial | ((conv => whnf); first | exact trivial | (refine And.intro (AV.le_refl _) ?_) | (refine And.intro (ABlk.le_refl _) ?_) | (refine And.intro (AV.le_of_eq ?_) ?_; (focus ((first | exact congrArg intV hw1 | fail); done))) | (refine And.intro (ABlk.le_of_eq ?_) ?_; (focus ((first | exact congrArg intV hw1 | fail); done))) | fail) | fail)
      · skip
        repeat' (first | exact trivial | ((conv => whnf); first | exact trivial | (refine And.intro (AV.le_refl _) ?_) | (refine And.intro (ABlk.le_refl _) ?_) | (refine And.intro (AV.le_of_eq ?_) ?_; (focus ((first | fail | fail); done))) | (refine And.intro (ABlk.le_of_eq ?_) ?_; (focus ((first | fail | fail); done))) | fail) | fail)
  · obtain rfl : j = (nd ns p).kids.length := by have h : ¬ (j : Int) < ((nd ns p).kids.length : Int) := h; omega
    rw [List.drop_length] at he
    simp only [parsL, List.filter_nil, List.map_nil, List.append_nil] at he
    subst he
    conv => whnf
    exact hr _ _ _ _ (Wk1.freeze (r := 0) rfl (kidF (paramsS ns p)) (fun _ _ => rfl)) rfl hk
end Go.Proofs.YtojjkleplnijaaaGreatDoor

namespace Go.Proofs.YtojjkleplnijaaaGreatDoor
open Go.AE Go.Ru
set_option maxRecDepth 100000
set_option maxHeartbeats 1000000
def cKB (p : Int → Bool) : AC := fun args K k => ∃ x b, args = [intV x] ∧ p x = b ∧ k (.ret (.p (.bool b))) K
theorem rst_ok : COk 198 (cKB stB) := by
  rintro args K k ⟨x, b, rfl, rfl, hk⟩
  refine frame0P g0_ok 19 rfl fun Q hr => ?_
  conv => whnf
  repeat' (first | (refine two_eq (fun h => ?_) (fun h => ?_) <;> (conv => whnf)) | (refine two_ne (fun h => ?_) (fun h => ?_) <;> (conv => whnf)) | (refine two_not (fun h => ?_) (fun h => ?_) <;> (conv => whnf)) | (refine two_dec (fun h => ?_) (fun h => ?_) <;> (conv => whnf)) | (refine two_intro (fun h => ?_) (fun h => ?_) <;> (conv => whnf)) | (refine Chk.mk ?_ ?_; (focus (((repeat' (refine And.intro ?_ ?_)) <;> (first | omega | rfl | (simp only [List.length_append, List.length_cons, List.length_nil]; omega) | fail)); done)); (conv => whnf)) | (refine And.intro ?_ ?_; (focus (((repeat' (refine And.intro ?_ ?_)) <;> (first | omega | rfl | (simp only [List.length_append, List.length_cons, List.length_nil]; omega) | fail)); done)); (conv => whnf)) | (refine Exists.intro _ (And.intro rfl ?_)) | (refine Exists.intro _ (Exists.intro _ (And.intro rfl ?_))) | (refine Exists.intro _ (Exists.intro _ (Exists.intro _ (And.intro rfl ?_)))) | fail)
  all_goals exact hr _ _ rfl (ret_eq hk (by simp [stB, *]))
theorem rex_ok : COk 200 (cKB exB) := by
  rintro args K k ⟨x, b, rfl, rfl, hk⟩
  refine frame0P g0_ok 19 rfl fun Q hr => ?_
  conv => whnf
  repeat' (first | (refine two_eq (fun h => ?_) (fun h => ?_) <;> (conv => whnf)) | (refine two_ne (fun h => ?_) (fun h => ?_) <;> (conv => whnf)) | (refine two_not (fun h => ?_) (fun h => ?_) <;> (conv => whnf)) | (refine two_dec (fun h => ?_) (fun h => ?_) <;> (conv => whnf)) | (refine two_intro (fun h => ?_) (fun h => ?_) <;> (conv => whnf)) | (refine Chk.mk ?_ ?_; (focus (((repeat' (refine And.intro ?_ ?_)) <;> (first | omega | rfl | (simp only [List.length_append, List.length_cons, List.length_nil]; omega) | fail)); done)); (conv => whnf)) | (refine And.intro ?_ ?_; (focus (((repeat' (refine And.intro ?_ ?_)) <;> (first | omega | rfl | (simp only [List.length_append, List.length_cons, List.length_nil]; omega) | fail)); done)); (conv => whnf)) | (refine Exists.intro _ (And.intro rfl ?_)) | (refine Exists.intro _ (Exists.intro _ (And.intro rfl ?_))) | (refine Exists.intro _ (Exists.intro _ (Exists.intro _ (And.intro rfl ?_)))) | fail)
  all_goals exact hr _ _ rfl (ret_eq hk (by simp [exB, *]))
def cRSigned : AC := fun args K k => ∃ l, args = [.p (.str l)] ∧ k (.ret (.p (.bool (signW.any (· == l))))) K
theorem rsigned_ok : COk 196 cRSigned := by
  rintro args K k ⟨l, rfl, hk⟩
  refine frame0P g0_ok 19 rfl fun Q hr => ?_
  conv => whnf
  refine loop_up (ι := Nat) [0, 3] (fun i => [(4, .p (.int .i64 i)), (2, .p (.bool false))]) (fun _ => [(0, .arr 9 1 0 13 fun i => [.p (.str (signW.getD i []))])])
    (fun i => i ≤ 13 ∧ (signW.take i).any (· == l) = false) (fun i => 13 - i) 0 ⟨AV.le_refl _, AV.le_refl _, trivial⟩ ⟨upLe1 rfl (ABlk.arr_eq rfl fun i hi => ?_), trivial⟩ ⟨by omega, rfl⟩ ?_
  · match i, hi with
    | 0, _ => rfl
    | 1, _ => rfl
    | 2, _ => rfl
    | 3, _ => rfl
    | 4, _ => rfl
    | 5, _ => rfl
    | 6, _ => rfl
    | 7, _ => rfl
    | 8, _ => rfl
    | 9, _ => rfl
    | 10, _ => rfl
    | 11, _ => rfl
    | 12, _ => rfl
    | n + 13, h => exact absurd h (by omega)
  intro Y hle i ⟨hi, ha⟩ ih
  conv => whnf
  repeat' (first | (refine two_eq (fun h => ?_) (fun h => ?_) <;> (conv => whnf)) | (refine two_ne (fun h => ?_) (fun h => ?_) <;> (conv => whnf)) | (refine two_not (fun h => ?_) (fun h => ?_) <;> (conv => whnf)) | (refine two_dec (fun h => ?_) (fun h => ?_) <;> (conv => whnf)) | (refine two_intro (fun h => ?_) (fun h => ?_) <;> (conv => whnf)) | (refine Chk.mk ?_ ?_; (focus (((repeat' (refine And.intro ?_ ?_)) <;> (first | omega | rfl | (simp only [List.length_append, List.length_cons, List.length_nil]; omega) | fail)); done)); (conv => whnf)) | (refine And.intro ?_ ?_; (focus (((repeat' (refine And.intro ?_ ?_)) <;> (first | omega | rfl | (simp only [List.length_append, List.length_cons, List.length_nil]; omega) | fail)); done)); (conv => whnf)) | (refine Exists.intro _ (And.intro rfl ?_)) | (refine Exists.intro _ (Exists.intro _ (And.intro rfl ?_))) | (refine Exists.intro _ (Exists.intro _ (Exists.intro _ (And.intro rfl ?_)))) | fail)
  · have hi2 : i < signW.length := by show i < 13; omega
    have h : signW.getD i [] = l := by rw [← ‹signW.getD _ [] = l›]; congr 1; omega
    rw [any_at hi2 h] at hk
    exact hr _ _ rfl hk
  · have hi2 : i < signW.length := by show i < 13; omega
    have h : signW.getD i [] ≠ l := by intro e; apply ‹signW.getD _ [] ≠ l›; rw [← e]; congr 1; omega
    refine hle _ _ (Le.env ?_ ?_) (ih (i + 1) (by omega) ⟨by omega, any_succ hi2 ha h⟩)
    · skip
      repeat' (first | exact trivial | ((conv => whnf); first | exact trivial | (refine And.intro (AV.le_refl _) ?_) | (refine And.intro (ABlk.le_refl _) ?_) | (refine And.intro (AV.le_of_eq ?_) ?_; (focus ((first | exact congrArg (fun x => AV.p (.int .i64 x)) (wz3 (by omega)) | fail); done))) | (refine And.intro (ABlk.le_of_eq ?_) ?_; (focus ((first | exact congrArg (fun x => AV.p (.int .i64 x)) (wz3 (by omega)) | fail); done))) | fail) | fail)
    · exact lesK.refl _
  · have h : i = signW.length := by show i = 13; omega
    rw [h, List.take_length] at ha
    rw [ha] at hk
    exact hr _ _ rfl hk
def cRNum4 : AC := fun args K k => ∃ n b, args = [nodeV n] ∧ numberS n.k n.n = b ∧ k (.ret (.p (.bool b))) K
theorem rnumbers_ok : COk 151 cRNum4 := by
  rintro args K k ⟨n, b, rfl, rfl, hk⟩
  refine frame0P g0_ok 19 rfl fun Q hr => ?_
  conv => whnf
  repeat' (first | (refine two_eq (fun h => ?_) (fun h => ?_) <;> (conv => whnf)) | (refine two_ne (fun h => ?_) (fun h => ?_) <;> (conv => whnf)) | (refine two_not (fun h => ?_) (fun h => ?_) <;> (conv => whnf)) | (refine two_dec (fun h => ?_) (fun h => ?_) <;> (conv => whnf)) | (refine two_intro (fun h => ?_) (fun h => ?_) <;> (conv => whnf)) | (refine Chk.mk ?_ ?_; (focus (((repeat' (refine And.intro ?_ ?_)) <;> (first | omega | rfl | (simp only [List.length_append, List.length_cons, List.length_nil]; omega) | fail)); done)); (conv => whnf)) | (refine And.intro ?_ ?_; (focus (((repeat' (refine And.intro ?_ ?_)) <;> (first | omega | rfl | (simp only [List.length_append, List.length_cons, List.length_nil]; omega) | fail)); done)); (conv => whnf)) | (refine Exists.intro _ (And.intro rfl ?_)) | (refine Exists.intro _ (Exists.intro _ (And.intro rfl ?_))) | (refine Exists.intro _ (Exists.intro _ (Exists.intro _ (And.intro rfl ?_)))) | fail)
  all_goals exact hr _ _ rfl (ret_eq hk (by simp [numberS, *]))
def gQ4 : AG := gput 195 cRIdent (gput 196 cRSigned (gput 198 (cKB stB) (gput 200 (cKB exB) g0)))
theorem gQ4_ok : GOk Tryz.prog gQ4 := gput_ok rident_ok (gput_ok rsigned_ok (gput_ok rst_ok (gput_ok rex_ok g0_ok)))
def cRTx4 : AC := fun args K k => ∃ n b, args = [nodeV n] ∧ n.tx.length < 1000000 ∧ text4 n.k n.tx = b ∧ k (.ret (.p (.bool b))) K
theorem rtexts_ok : COk 150 cRTx4 := by
  rintro args K k ⟨n, b, rfl, hl, rfl, hk⟩
  refine frame0P gQ4_ok 19 rfl fun Q hr => ?_
  conv => whnf
  refine ⟨n.tx, rfl, hl, ?_⟩
  conv => whnf
  repeat' (first | (refine two_eq (fun h => ?_) (fun h => ?_) <;> (conv => whnf)) | (refine two_ne (fun h => ?_) (fun h => ?_) <;> (conv => whnf)) | (refine two_not (fun h => ?_) (fun h => ?_) <;> (conv => whnf)) | (refine two_dec (fun h => ?_) (fun h => ?_) <;> (conv => whnf)) | (refine two_intro (fun h => ?_) (fun h => ?_) <;> (conv => whnf)) | (refine Chk.mk ?_ ?_; (focus (((repeat' (refine And.intro ?_ ?_)) <;> (first | omega | rfl | (simp only [List.length_append, List.length_cons, List.length_nil]; omega) | fail)); done)); (conv => whnf)) | (refine And.intro ?_ ?_; (focus (((repeat' (refine And.intro ?_ ?_)) <;> (first | omega | rfl | (simp only [List.length_append, List.length_cons, List.length_nil]; omega) | fail)); done)); (conv => whnf)) | (refine ⟨n.tx, rfl, ?_⟩; (conv => whnf)) | fail)
  all_goals exact hr _ _ rfl (ret_eq hk (by simp [text4, *]))
def cRises : AC := fun args K k => ∃ l a b c v, args = [intsV l, intV a, intV b, intV c] ∧ List.length l < 1000000 ∧ rises4 l a b c = v ∧ k (.ret (.p (.bool v))) K
theorem head_in {a : Int} {l : List Int} {i : Nat} (hi : i < l.length) (h : l.getD i 0 = a) : headN a (l.drop i) = 1 + headN a (l.drop (i + 1)) := by
  unfold headN
  have e : l.getD i 0 = l[i] := by simp [hi]
  rw [List.drop_eq_getElem_cons hi, List.takeWhile_cons_of_pos (by rw [← e, h]; simp), List.length_cons]; omega
theorem head_out {a : Int} {l : List Int} {i : Nat} (h : l.getD i 0 ≠ a ∨ l.length ≤ i) : headN a (l.drop i) = 0 := by
  unfold headN
  by_cases hi : i < l.length
  · have h := h.resolve_right (by omega)
    have e : l.getD i 0 = l[i] := by simp [hi]
    rw [List.drop_eq_getElem_cons hi, List.takeWhile_cons_of_neg (by rw [← e]; simpa using h)]; rfl
  · rw [List.drop_of_length_le (by omega)]; rfl
theorem rises_ok : COk 197 cRises := by
  rintro args K k ⟨l, a, b, c, v, rfl, hl, rfl, hk⟩
  refine frame0P g0_ok 19 rfl fun Q hr => ?_
  conv => whnf
  refine loop_up (ι := Nat) [0, 1, 2, 3] (fun j => [(9, intV j)]) (fun _ => []) (fun j => j ≤ l.length ∧ headN a l = j + headN a (l.drop j)) (fun j => l.length - j) 0 ⟨AV.le_refl _, trivial⟩ trivial ⟨Nat.zero_le _, by simp⟩ ?_
  rintro Y hle i ⟨hi, he⟩ ih
  conv => whnf
  refine two_dec (fun h => ?_) (fun h => ?_)
  · have h : i < l.length := by have h : (i : Int) < (l.length : Int) := h; omega
    have h' : (i : Int) < (l.length : Int) := by omega
    have hw1 := wzz (i := i) (by omega)
    conv => whnf
    refine ⟨⟨by omega, h', rfl⟩, ?_⟩
    conv => whnf
    refine two_eq (fun h2 => ?_) (fun h2 => ?_)
    · have h2 : l.getD i 0 = a := h2
      conv => whnf
      refine hle _ _ (Le.env ?_ ?_) (ih (i + 1) (by omega) ⟨by omega, by have := head_in h h2; omega⟩)
      · skip
        repeat' (first | exact trivial | ((conv => whnf); first | exact trivial | (refine And.intro (AV.le_refl _) ?_) | (refine And.intro (ABlk.le_refl _) ?_) | (refine And.intro (AV.le_of_eq ?_) ?_; (focus ((first | exact congrArg intV hw1 | fail); done))) | (refine And.intro (ABlk.le_of_eq ?_) ?_; (focus ((first | exact congrArg intV hw1 | fail); done))) | fail) | fail)
      · skip
        repeat' (first | exact trivial | ((conv => whnf); first | exact trivial | (refine And.intro (AV.le_refl _) ?_) | (refine And.intro (ABlk.le_refl _) ?_) | (refine And.intro (AV.le_of_eq ?_) ?_; (focus ((first | fail | fail); done))) | (refine And.intro (ABlk.le_of_eq ?_) ?_; (focus ((first | fail | fail); done))) | fail) | fail)
    · have h2 : l.getD i 0 ≠ a := h2
      have hi0 : headN a l = i := by have := head_out (a := a) (l := l) (i := i) (.inl h2); omega
      conv => whnf
      refine loop_up (ι := Nat) [0, 1, 2, 3] (fun j => [(9, intV j)]) (fun _ => []) (fun j => headN a l ≤ j ∧ j ≤ l.length ∧ headN b (l.drop (headN a l)) = (j - headN a l) + headN b (l.drop j)) (fun j => l.length - j) i ⟨AV.le_refl _, trivial⟩ trivial ⟨by omega, hi, by rw [hi0]; omega⟩ ?_
      rintro Z hlz j ⟨hj0, hj, hez⟩ ihz
      conv => whnf
      refine two_dec (fun h5 => ?_) (fun h5 => ?_)
      · have h5 : j < l.length := by have h5 : (j : Int) < (l.length : Int) := h5; omega
        have h5' : (j : Int) < (l.length : Int) := by omega
        have hw2 := wzz (i := j) (by omega)
        conv => whnf
        refine ⟨⟨by omega, h5', rfl⟩, ?_⟩
        conv => whnf
        refine two_eq (fun h6 => ?_) (fun h6 => ?_)
        · have h6 : l.getD j 0 = b := h6
          conv => whnf
          refine hlz _ _ (Le.env ?_ ?_) (ihz (j + 1) (by omega) ⟨by omega, by omega, by have := head_in h5 h6; omega⟩)
          · skip
            repeat' (first | exact trivial | ((conv => whnf); first | exact trivial | (refine And.intro (AV.le_refl _) ?_) | (refine And.intro (ABlk.le_refl _) ?_) | (refine And.intro (AV.le_of_eq ?_) ?_; (focus ((first | exact congrArg intV hw2 | fail); done))) | (refine And.intro (ABlk.le_of_eq ?_) ?_; (focus ((first | exact congrArg intV hw2 | fail); done))) | fail) | fail)
          · skip
            repeat' (first | exact trivial | ((conv => whnf); first | exact trivial | (refine And.intro (AV.le_refl _) ?_) | (refine And.intro (ABlk.le_refl _) ?_) | (refine And.intro (AV.le_of_eq ?_) ?_; (focus ((first | fail | fail); done))) | (refine And.intro (ABlk.le_of_eq ?_) ?_; (focus ((first | fail | fail); done))) | fail) | fail)
        · have h6 : l.getD j 0 ≠ b := h6
          have e0 : headN b (l.drop (headN a l)) = j - headN a l := by have := head_out (a := b) (l := l) (i := j) (.inl h6); omega
          have ej : headN a l + headN b (l.drop (headN a l)) = j := by omega
          simp only [rises4, ej] at hk
          conv => whnf
          refine two_ne (fun h8 => ?_) (fun h8 => ?_)
          · have h8 : c ≠ 0 := h8
            rw [bne_iff_ne.2 h8] at hk
            have hk : k (.ret (.p (.bool ((j : Int) == (l.length : Int) - 1 && l.getD j 0 == c)))) K := hk
            have hwl : IntKind.i64.wrap ((l.length : Int) - 1) = (l.length : Int) - 1 := by rw [w64 ⟨by omega, by omega⟩]
            conv => whnf
            refine two_eq (fun h9 => ?_) (fun h9 => ?_)
            · have h9 : (j : Int) = (l.length : Int) - 1 := by rw [← hwl]; exact h9
              have hjl : (j : Int) < (l.length : Int) := by omega
              rw [beq_iff_eq.2 h9, Bool.true_and] at hk
              conv => whnf
              refine ⟨⟨by omega, hjl, rfl⟩, ?_⟩
              conv => whnf
              exact hr _ _ rfl hk
            · have h9 : (j : Int) ≠ (l.length : Int) - 1 := by rw [← hwl]; exact h9
              rw [beq_eq_false_iff_ne.2 h9, Bool.false_and] at hk
              conv => whnf
              exact hr _ _ rfl hk
          · have h8 : c = 0 := h8
            subst h8
            have hk : k (.ret (.p (.bool ((j : Int) == (l.length : Int))))) K := hk
            conv => whnf
            exact hr _ _ rfl hk
      · have h5 : l.length ≤ j := by have h5 : ¬ (j : Int) < (l.length : Int) := h5; omega
        have e0 : headN b (l.drop (headN a l)) = j - headN a l := by have := head_out (a := b) (l := l) (i := j) (.inr h5); omega
        have ej : headN a l + headN b (l.drop (headN a l)) = j := by omega
        simp only [rises4, ej] at hk
        conv => whnf
        refine two_ne (fun h8 => ?_) (fun h8 => ?_)
        · have h8 : c ≠ 0 := h8
          rw [bne_iff_ne.2 h8] at hk
          have hk : k (.ret (.p (.bool ((j : Int) == (l.length : Int) - 1 && l.getD j 0 == c)))) K := hk
          have hwl : IntKind.i64.wrap ((l.length : Int) - 1) = (l.length : Int) - 1 := by rw [w64 ⟨by omega, by omega⟩]
          conv => whnf
          refine two_eq (fun h9 => ?_) (fun h9 => ?_)
          · have h9 : (j : Int) = (l.length : Int) - 1 := by rw [← hwl]; exact h9
            have hjl : (j : Int) < (l.length : Int) := by omega
            rw [beq_iff_eq.2 h9, Bool.true_and] at hk
            conv => whnf
            refine ⟨⟨by omega, hjl, rfl⟩, ?_⟩
            conv => whnf
            exact hr _ _ rfl hk
          · have h9 : (j : Int) ≠ (l.length : Int) - 1 := by rw [← hwl]; exact h9
            rw [beq_eq_false_iff_ne.2 h9, Bool.false_and] at hk
            conv => whnf
            exact hr _ _ rfl hk
        · have h8 : c = 0 := h8
          subst h8
          have hk : k (.ret (.p (.bool ((j : Int) == (l.length : Int))))) K := hk
          conv => whnf
          exact hr _ _ rfl hk
  · have h : l.length ≤ i := by have h : ¬ (i : Int) < (l.length : Int) := h; omega
    have hi0 : headN a l = i := by have := head_out (a := a) (l := l) (i := i) (.inr h); omega
    conv => whnf
    refine loop_up (ι := Nat) [0, 1, 2, 3] (fun j => [(9, intV j)]) (fun _ => []) (fun j => headN a l ≤ j ∧ j ≤ l.length ∧ headN b (l.drop (headN a l)) = (j - headN a l) + headN b (l.drop j)) (fun j => l.length - j) i ⟨AV.le_refl _, trivial⟩ trivial ⟨by omega, hi, by rw [hi0]; omega⟩ ?_
    rintro Z hlz j ⟨hj0, hj, hez⟩ ihz
    conv => whnf
    refine two_dec (fun h5 => ?_) (fun h5 => ?_)
    · have h5 : j < l.length := by have h5 : (j : Int) < (l.length : Int) := h5; omega
      have h5' : (j : Int) < (l.length : Int) := by omega
      have hw2 := wzz (i := j) (by omega)
      conv => whnf
      refine ⟨⟨by omega, h5', rfl⟩, ?_⟩
      conv => whnf
      refine two_eq (fun h6 => ?_) (fun h6 => ?_)
      · have h6 : l.getD j 0 = b := h6
        conv => whnf
        refine hlz _ _ (Le.env ?_ ?_) (ihz (j + 1) (by omega) ⟨by omega, by omega, by have := head_in h5 h6; omega⟩)
        · skip
          repeat' (first | exact trivial | ((conv => whnf); first | exact trivial | (refine And.intro (AV.le_refl _) ?_) | (refine And.intro (ABlk.le_refl _) ?_) | (refine And.intro (AV.le_of_eq ?_) ?_; (focus ((first | exact congrArg intV hw2 | fail); done))) | (refine And.intro (ABlk.le_of_eq ?_) ?_; (focus ((first | exact congrArg intV hw2 | fail); done))) | fail) | fail)
        · skip
          repeat' (first | exact trivial | ((conv => whnf); first | exact trivial | (refine And.intro (AV.le_refl _) ?_) | (refine And.intro (ABlk.le_refl _) ?_) | (refine And.intro (AV.le_of_eq ?_) ?_; (focus ((first | fail | fail); done))) | (refine And.intro (ABlk.le_of_eq ?_) ?_; (focus ((first | fail | fail); done))) | fail) | fail)
      · have h6 : l.getD j 0 ≠ b := h6
        have e0 : headN b (l.drop (headN a l)) = j - headN a l := by have := head_out (a := b) (l := l) (i := j) (.inl h6); omega
        have ej : headN a l + headN b (l.drop (headN a l)) = j := by omega
        simp only [rises4, ej] at hk
        conv => whnf
        refine two_ne (fun h8 => ?_) (fun h8 => ?_)
        · have h8 : c ≠ 0 := h8
          rw [bne_iff_ne.2 h8] at hk
          have hk : k (.ret (.p (.bool ((j : Int) == (l.length : Int) - 1 && l.getD j 0 == c)))) K := hk
          have hwl : IntKind.i64.wrap ((l.length : Int) - 1) = (l.length : Int) - 1 := by rw [w64 ⟨by omega, by omega⟩]
          conv => whnf
          refine two_eq (fun h9 => ?_) (fun h9 => ?_)
          · have h9 : (j : Int) = (l.length : Int) - 1 := by rw [← hwl]; exact h9
            have hjl : (j : Int) < (l.length : Int) := by omega
            rw [beq_iff_eq.2 h9, Bool.true_and] at hk
            conv => whnf
            refine ⟨⟨by omega, hjl, rfl⟩, ?_⟩
            conv => whnf
            exact hr _ _ rfl hk
          · have h9 : (j : Int) ≠ (l.length : Int) - 1 := by rw [← hwl]; exact h9
            rw [beq_eq_false_iff_ne.2 h9, Bool.false_and] at hk
            conv => whnf
            exact hr _ _ rfl hk
        · have h8 : c = 0 := h8
          subst h8
          have hk : k (.ret (.p (.bool ((j : Int) == (l.length : Int))))) K := hk
          conv => whnf
          exact hr _ _ rfl hk
    · have h5 : l.length ≤ j := by have h5 : ¬ (j : Int) < (l.length : Int) := h5; omega
      have e0 : headN b (l.drop (headN a l)) = j - headN a l := by have := head_out (a := b) (l := l) (i := j) (.inr h5); omega
      have ej : headN a l + headN b (l.drop (headN a l)) = j := by omega
      simp only [rises4, ej] at hk
      conv => whnf
      refine two_ne (fun h8 => ?_) (fun h8 => ?_)
      · have h8 : c ≠ 0 := h8
        rw [bne_iff_ne.2 h8] at hk
        have hk : k (.ret (.p (.bool ((j : Int) == (l.length : Int) - 1 && l.getD j 0 == c)))) K := hk
        have hwl : IntKind.i64.wrap ((l.length : Int) - 1) = (l.length : Int) - 1 := by rw [w64 ⟨by omega, by omega⟩]
        conv => whnf
        refine two_eq (fun h9 => ?_) (fun h9 => ?_)
        · have h9 : (j : Int) = (l.length : Int) - 1 := by rw [← hwl]; exact h9
          have hjl : (j : Int) < (l.length : Int) := by omega
          rw [beq_iff_eq.2 h9, Bool.true_and] at hk
          conv => whnf
          refine ⟨⟨by omega, hjl, rfl⟩, ?_⟩
          conv => whnf
          exact hr _ _ rfl hk
        · have h9 : (j : Int) ≠ (l.length : Int) - 1 := by rw [← hwl]; exact h9
          rw [beq_eq_false_iff_ne.2 h9, Bool.false_and] at hk
          conv => whnf
          exact hr _ _ rfl hk
      · have h8 : c = 0 := h8
        subst h8
        have hk : k (.ret (.p (.bool ((j : Int) == (l.length : Int))))) K := hk
        conv => whnf
        exact hr _ _ rfl hk
def cRAll4 : AC := fun args K k => ∃ l n f b, args = [.p (.sl 1 n f)] ∧ n = List.length l ∧ (∀ i, i < n → f i = kidF l i) ∧ List.length l < 1000000 ∧ l.all exB = b ∧ k (.ret (.p (.bool b))) K
theorem rall4_ok : COk 199 cRAll4 := by
  rintro args K k ⟨l, n, f, b, rfl, rfl, hf, hl, rfl, hk⟩
  refine ACalls.pre (?_ : ACalls _ _ [intsV l] K k) (Wk.le ⟨AV.sl_le rfl fun i hi => (hf i hi).symm, trivial⟩ (lesK.refl K))
  refine frame0P (gput_ok rex_ok g0_ok) 19 rfl fun Q hr => ?_
  conv => whnf
  refine loop_up (ι := Nat) [0] (fun j => [(3, intV j)]) (fun _ => []) (fun j => j ≤ l.length ∧ (l.drop j).all exB = l.all exB) (fun j => l.length - j) 0 ⟨AV.le_refl _, trivial⟩ trivial ⟨Nat.zero_le _, by simp⟩ ?_
  rintro Y hle i ⟨hi, he⟩ ih
  conv => whnf
  refine two_dec (fun h => ?_) (fun h => ?_)
  · have h : i < l.length := by have h : (i : Int) < (l.length : Int) := h; omega
    have h' : (i : Int) < (l.length : Int) := by omega
    have hw1 := wzz (i := i) (by omega)
    have e1 : l.getD i 0 = l[i] := by simp [h]
    rw [List.drop_eq_getElem_cons h, List.all_cons, ← e1] at he
    conv => whnf
    refine ⟨⟨by omega, h', rfl⟩, ?_⟩
    conv => whnf
    cases hx : exB (l.getD i 0) with
    | false =>
      rw [hx, Bool.false_and] at he
      refine ⟨l.getD i 0, false, rfl, hx, ?_⟩
      rw [← he] at hk
      conv => whnf
      exact hr _ _ rfl hk
    | true =>
      rw [hx, Bool.true_and] at he
      refine ⟨l.getD i 0, true, rfl, hx, ?_⟩
      conv => whnf
      refine hle _ _ (Le.env ?_ ?_) (ih (i + 1) (by omega) ⟨by omega, he⟩)
      · skip
        repeat' (first | exact trivial | ((conv => whnf); first | exact trivial | (refine And.intro (AV.le_refl _) ?_) | (refine And.intro (ABlk.le_refl _) ?_) | (refine And.intro (AV.le_of_eq ?_) ?_; (focus ((first | exact congrArg intV hw1 | fail); done))) | (refine And.intro (ABlk.le_of_eq ?_) ?_; (focus ((first | exact congrArg intV hw1 | fail); done))) | fail) | fail)
      · skip
        repeat' (first | exact trivial | ((conv => whnf); first | exact trivial | (refine And.intro (AV.le_refl _) ?_) | (refine And.intro (ABlk.le_refl _) ?_) | (refine And.intro (AV.le_of_eq ?_) ?_; (focus ((first | fail | fail); done))) | (refine And.intro (ABlk.le_of_eq ?_) ?_; (focus ((first | fail | fail); done))) | fail) | fail)
  · obtain rfl : i = l.length := by have h : ¬ (i : Int) < (l.length : Int) := h; omega
    rw [List.drop_length, List.all_nil] at he
    rw [← he] at hk
    conv => whnf
    exact hr _ _ rfl hk
end Go.Proofs.YtojjkleplnijaaaGreatDoor

namespace Go.Proofs.YtojjkleplnijaaaGreatDoor
open Go.AE Go.Ru
set_option maxRecDepth 100000
set_option maxHeartbeats 1000000
theorem list_eq_len {a b : List Int} (h : a.length = b.length) (h' : ∀ i, i < a.length → a.getD i 0 = b.getD i 0) : a = b := by
  refine List.ext_getElem h fun i h1 h2 => ?_
  have := h' i h1
  simpa [h1, h2] using this
def cTEqI : AC := fun args K k => ∃ (a b : List Int) (f : Nat → List AV) (X : List ABlk), args = [intsV a, .slr 0 0 0 b.length] ∧ K = [.arr 3 1 0 b.length f] ++ X ∧ a.length < 1000000 ∧ (∀ i, i < b.length → f i = [intV (b.getD i 0)]) ∧
  k (.ret (.p (.bool (a == b)))) ([.arr 3 1 0 b.length f] ++ X)
theorem teqI_ok : COk 112 cTEqI := by
  rintro args K k ⟨a, b, f, X, rfl, rfl, ha, hf, hk⟩
  refine frameG (K0 := [.arr 3 1 0 b.length f]) g0_ok 19 rfl ⟨fun i hi => by rw [hf i hi]; rfl, trivial⟩ fun Q hr => ?_
  conv => whnf
  refine two_ne (fun h => ?_) (fun h => ?_)
  · have h : (a.length : Int) ≠ (b.length : Int) := h
    conv => whnf
    refine hr _ _ _ _ rfl rfl ⟨fun i hi => by rw [hf i hi]; rfl, trivial⟩ (AV.le_of_eq ?_) (lesK.refl _) hk
    have : a ≠ b := fun e => h (by rw [e])
    rw [beq_eq_false_iff_ne.2 this]
  have h : a.length = b.length := by have h : (a.length : Int) = (b.length : Int) := h; omega
  conv => whnf
  refine loop_up (ι := Nat) [0, 1, 12] (fun i => [(13, intV i)]) (fun _ => []) (fun i => i ≤ a.length ∧ ∀ j, j < i → a.getD j 0 = b.getD j 0) (fun i => a.length - i) 0 ⟨AV.le_refl _, trivial⟩ trivial ⟨Nat.zero_le _, fun j hj => absurd hj (Nat.not_lt_zero j)⟩ ?_
  rintro Y hle i ⟨hi, he⟩ ih
  conv => whnf
  refine two_dec (fun h2 => ?_) (fun h2 => ?_)
  · have h2 : i < a.length := by have h2 : (i : Int) < (a.length : Int) := h2; omega
    have hw1 := wzz (i := i) (by omega)
    conv => whnf
    refine ⟨⟨by omega, by omega, rfl⟩, ?_⟩
    conv => whnf
    refine ⟨⟨rfl, Nat.zero_add _, by omega, by omega, rfl⟩, ?_⟩
    conv => whnf
    refine ⟨⟨rfl, rfl⟩, ?_⟩
    have hf2 : f (0 + (i : Int).toNat) = [intV (b.getD i 0)] := by rw [Nat.zero_add]; exact hf i (by omega)
    rw [hf2]
    conv => whnf
    refine two_ne (fun h3 => ?_) (fun h3 => ?_)
    · have h3 : a.getD i 0 ≠ b.getD i 0 := h3
      conv => whnf
      refine hr _ _ _ _ rfl rfl ⟨fun i hi => by rw [hf i hi]; rfl, trivial⟩ (AV.le_of_eq ?_) (lesK.refl _) hk
      have : a ≠ b := fun e => h3 (by rw [e])
      rw [beq_eq_false_iff_ne.2 this]
    · have h3 : a.getD i 0 = b.getD i 0 := h3
      conv => whnf
      refine hle _ _ (Le.env ?_ ?_) (ih (i + 1) (by omega) ⟨by omega, fun j hj => ?_⟩)
      · skip
        repeat' (first | exact trivial | ((conv => whnf); first | exact trivial | (refine And.intro (AV.le_refl _) ?_) | (refine And.intro (ABlk.le_refl _) ?_) | (refine And.intro (AV.le_of_eq ?_) ?_; (focus ((first | exact congrArg intV hw1 | fail); done))) | (refine And.intro (ABlk.le_of_eq ?_) ?_; (focus ((first | exact congrArg intV hw1 | fail); done))) | fail) | fail)
      · skip
        repeat' (first | exact trivial | ((conv => whnf); first | exact trivial | (refine And.intro (AV.le_refl _) ?_) | (refine And.intro (ABlk.le_refl _) ?_) | (refine And.intro (AV.le_of_eq ?_) ?_; (focus ((first | fail | fail); done))) | (refine And.intro (ABlk.le_of_eq ?_) ?_; (focus ((first | fail | fail); done))) | fail) | fail)
      · by_cases e : j = i
        · subst e; exact h3
        · exact he j (by omega)
  · obtain rfl : i = a.length := by have h2 : ¬ (i : Int) < (a.length : Int) := h2; omega
    conv => whnf
    refine hr _ _ _ _ rfl rfl ⟨fun i hi => by rw [hf i hi]; rfl, trivial⟩ (AV.le_of_eq ?_) (lesK.refl _) hk
    rw [list_eq_len h he, beq_self_eq_true]
def gTPl : AG := gput 48 cParams (gput 112 cTEqI g0)
theorem gTPl_ok : GOk Tryz.prog gTPl := gput_ok params_ok (gput_ok teqI_ok g0_ok)
def cTPlain : AC := fun args K k => ∃ ns root p, args = [scV ns root, .p (.int .i64 ((p : Nat) : Int))] ∧ Std ns root ∧ p < ns.length ∧ k (.ret (.p (.bool (tplainS ns p)))) K
theorem params_le (ns : List Nd) (p : Nat) : (paramsS ns p).length ≤ (nd ns p).kids.length := by
  unfold paramsS; rw [List.length_map]; exact List.length_filter_le _ _
theorem tplain_ok : COk 57 cTPlain := by
  rintro args K k ⟨ns, root, p, rfl, st, hp, hk⟩
  have hm := st.many p hp
  have hl := st.len
  have hle := params_le ns p
  refine frame0P gTPl_ok 19 rfl fun Q hr => ?_
  unfold tplainS at hk
  conv => whnf
  refine ⟨ns, root, p, rfl, st, hp, ?_⟩
  conv => whnf
  refine ⟨paramsS ns p, [1], _, [], rfl, rfl, by omega, fun i hi => ?_, ?_⟩
  · obtain rfl : i = 0 := by simpa using hi
    rfl
  conv => whnf
  refine two_intro (fun h => ?_) (fun h => ?_)
  · rw [h] at hk
    conv => whnf
    refine ⟨⟨by omega, by omega, rfl⟩, ?_⟩
    conv => whnf
    exact hr _ _ rfl hk
  · rw [h] at hk
    conv => whnf
    exact hr _ _ rfl hk
def gEx2 : AG := gput 113 cKind g0
theorem gEx2_ok : GOk Tryz.prog gEx2 := gput_ok kind_ok g0_ok
def cTy : AC := fun args K k => ∃ ns root i, args = [scV ns root, .p (.int .i64 ((i : Nat) : Int))] ∧ Std ns root ∧ i < ns.length ∧ k (.ret (intV (tyS ns root i))) K
theorem ty_ok : COk 59 cTy := by
  rintro args K k ⟨ns, root, i, rfl, st, hi, hk⟩
  have hl := st.len
  refine frame0P gEx2_ok 19 rfl fun Q hr => ?_
  have e : nd ns i = ns.getD ((i : Int)).toNat default := rfl
  conv => whnf
  refine ⟨⟨by omega, by omega, rfl⟩, ?_⟩
  conv => whnf
  repeat' (first | (refine two_eq (fun h => ?_) (fun h => ?_) <;> (conv => whnf)) | (refine two_ne (fun h => ?_) (fun h => ?_) <;> (conv => whnf)) | (refine two_not (fun h => ?_) (fun h => ?_) <;> (conv => whnf)) | (refine two_dec (fun h => ?_) (fun h => ?_) <;> (conv => whnf)) | (refine two_intro (fun h => ?_) (fun h => ?_) <;> (conv => whnf)) | (refine ⟨ns, root, i, _, rfl, st, hi, ?_⟩; (conv => whnf)) | fail)
  all_goals refine hr _ _ rfl (ret_eq hk (congrArg intV ?_))
  all_goals clear hr hk
  all_goals unfold tyS arith
  all_goals rw [e]
  all_goals simp_all
end Go.Proofs.YtojjkleplnijaaaGreatDoor

namespace Go.Ru
def firstIx (p : Int → Bool) (i : Nat) : List Int → Int
  | [] => -1
  | q :: r => match p q with
    | true => (i : Int)
    | false => firstIx p (i + 1) r
theorem firstIx_any (p : Int → Bool) (i : Nat) (l : List Int) : decide (firstIx p i l ≥ 0) = l.any p := by
  induction l generalizing i with
  | nil => rfl
  | cons q r ih =>
    unfold firstIx
    rw [List.any_cons]
    cases h : p q with
    | true => simp
    | false => simp only [ih, Bool.false_or]
end Go.Ru
namespace Go.Proofs.YtojjkleplnijaaaGreatDoor
open Go.AE Go.Ru
set_option maxRecDepth 100000
set_option maxHeartbeats 1000000
def gTy : AG := gput 59 cTy g0
theorem gTy_ok : GOk Tryz.prog gTy := gput_ok ty_ok g0_ok
def InR (ns : List Nd) (q : Int) : Prop := 0 ≤ q ∧ q < (ns.length : Int)
def allK (ns : List Nd) (root kind : Int) : List ABlk := [.box 62 [scV ns root], .box 3 [intV kind]]
def cAll1 : AC := fun args K k => ∃ ns root kind q X, args = [intV q, .ptr 0 0 1 0 0, .ptr 1 0 1 0 0] ∧ K = allK ns root kind ++ X ∧ Std ns root ∧ InR ns q ∧ k (.ret (.p (.bool (tyS ns root q.toNat != kind)))) (allK ns root kind ++ X)
theorem all1_ok : COk 146 cAll1 := by
  rintro args K k ⟨ns, root, kind, q, X, rfl, rfl, st, ⟨h1, h2⟩, hk⟩
  obtain ⟨i, rfl⟩ : ∃ i : Nat, q = (i : Int) := ⟨q.toNat, by omega⟩
  refine frameG (K0 := allK ns root kind) gTy_ok 19 rfl ⟨rfl, rfl, trivial⟩ fun Q hr => ?_
  conv => whnf
  refine ⟨ns, root, i, rfl, st, by omega, ?_⟩
  conv => whnf
  repeat ((refine And.intro ?_ ?_); (focus ((conv => whnf); done)); (conv => whnf))
  exact hr _ _ _ _ rfl rfl ⟨rfl, rfl, trivial⟩ (AV.le_refl _) (lesK.refl _) hk
def gAl1 : AG := gput 146 cAll1 g0
theorem gAl1_ok : GOk Tryz.prog gAl1 := gput_ok all1_ok g0_ok
def cIdxA : AC := fun args K k => ∃ ns root kind l X, args = [intsV l, .fn 146 [] [.ptr 0 0 1 0 0, .ptr 1 0 1 0 0]] ∧ K = allK ns root kind ++ X ∧ Std ns root ∧ List.length l < 1000000 ∧ (∀ q ∈ l, InR ns q) ∧
  k (.ret (intV (firstIx (fun q => tyS ns root q.toNat != kind) 0 l))) (allK ns root kind ++ X)
theorem idxA_ok : COk 166 cIdxA := by
  rintro args K k ⟨ns, root, kind, l, X, rfl, rfl, st, hl, hq, hk⟩
  refine frameG (K0 := allK ns root kind) gAl1_ok 19 rfl ⟨rfl, rfl, trivial⟩ fun Q hr => ?_
  conv => whnf
  refine loop_up (ι := Nat) [0, 1, 7] (fun i => [(8, intV i)]) (fun _ => []) (fun i => i ≤ l.length ∧ firstIx (fun q => tyS ns root q.toNat != kind) i (l.drop i) = firstIx (fun q => tyS ns root q.toNat != kind) 0 l) (fun i => l.length - i) 0 ⟨AV.le_refl _, trivial⟩ trivial ⟨Nat.zero_le _, rfl⟩ ?_
  rintro Y hle i ⟨hi, he⟩ ih
  conv => whnf
  refine two_dec (fun h => ?_) (fun h => ?_)
  · have h : i < l.length := by have h : (i : Int) < (l.length : Int) := h; omega
    have hw1 := wzz (i := i) (by omega)
    rw [List.drop_eq_getElem_cons h] at he
    have e1 : l.getD i 0 = l[i] := by simp [h]
    have hm := hq _ (List.getElem_mem h)
    rw [← e1] at he hm
    conv => whnf
    refine ⟨⟨by omega, by omega, rfl⟩, ?_⟩
    conv => whnf
    refine ⟨ns, root, kind, l.getD i 0, [], rfl, rfl, st, hm, ?_⟩
    conv => whnf
    refine two_intro (fun h2 => ?_) (fun h2 => ?_)
    · simp only [firstIx, h2] at he
      conv => whnf
      exact hr _ _ _ _ rfl rfl ⟨rfl, rfl, trivial⟩ (AV.le_refl _) (lesK.refl _) (he ▸ hk)
    · simp only [firstIx, h2] at he
      conv => whnf
      refine hle _ _ (Le.env ?_ ?_) (ih (i + 1) (by omega) ⟨by omega, he⟩)
      · skip
        repeat' (first | exact trivial | ((conv => whnf); first | exact trivial | (refine And.intro (AV.le_refl _) ?_) | (refine And.intro (ABlk.le_refl _) ?_) | (refine And.intro (AV.le_of_eq ?_) ?_; (focus ((first | exact congrArg intV hw1 | fail); done))) | (refine And.intro (ABlk.le_of_eq ?_) ?_; (focus ((first | exact congrArg intV hw1 | fail); done))) | fail) | fail)
      · skip
        repeat' (first | exact trivial | ((conv => whnf); first | exact trivial | (refine And.intro (AV.le_refl _) ?_) | (refine And.intro (ABlk.le_refl _) ?_) | (refine And.intro (AV.le_of_eq ?_) ?_; (focus ((first | fail | fail); done))) | (refine And.intro (ABlk.le_of_eq ?_) ?_; (focus ((first | fail | fail); done))) | fail) | fail)
  · obtain rfl : i = l.length := by have h : ¬ (i : Int) < (l.length : Int) := h; omega
    rw [List.drop_length] at he
    rw [← he] at hk
    conv => whnf
    exact hr _ _ _ _ rfl rfl ⟨rfl, rfl, trivial⟩ (AV.le_refl _) (lesK.refl _) hk
def gAl : AG := gput 166 cIdxA g0
theorem gAl_ok : GOk Tryz.prog gAl := gput_ok idxA_ok g0_ok
def cAllS : AC := fun args K k => ∃ ns root kind l, args = [scV ns root, intsV l, intV kind] ∧ Std ns root ∧ List.length l < 1000000 ∧ (∀ q ∈ l, InR ns q) ∧ k (.ret (.p (.bool (allS ns root l kind)))) K
theorem allS_ok : COk 100 cAllS := by
  rintro args K k ⟨ns, root, kind, l, rfl, st, hl, hq, hk⟩
  refine frame0P gAl_ok 19 rfl fun Q hr => ?_
  conv => whnf
  refine ⟨ns, root, kind, l, [], rfl, rfl, st, hl, hq, ?_⟩
  conv => whnf
  refine hr _ _ rfl (ret_eq hk (congrArg (fun b => AV.p (.bool b)) ?_))
  show _ = !decide (firstIx (fun q => tyS ns root q.toNat != kind) 0 l ≥ 0)
  rw [firstIx_any, List.not_any_eq_all_not]
  unfold allS
  congr 1
  funext q
  simp only [bne, Bool.not_not]
def gOp : AG := gput 100 cAllS g0
theorem gOp_ok : GOk Tryz.prog gOp := gput_ok allS_ok g0_ok
def cOperands : AC := fun args K k => ∃ ns root n, args = [scV ns root, nodeV n] ∧ Std ns root ∧ n.kids.length < 1000000 ∧ (∀ q ∈ n.kids, InR ns q) ∧ k (.ret (.p (.bool (operandsS ns root n)))) K
theorem operands_ok : COk 102 cOperands := by
  rintro args K k ⟨ns, root, n, rfl, st, hl, hq, hk⟩
  refine frame0P gOp_ok 19 rfl fun Q hr => ?_
  conv => whnf
  repeat' (first | (refine two_eq (fun h => ?_) (fun h => ?_) <;> (conv => whnf)) | (refine two_ne (fun h => ?_) (fun h => ?_) <;> (conv => whnf)) | (refine two_not (fun h => ?_) (fun h => ?_) <;> (conv => whnf)) | (refine two_dec (fun h => ?_) (fun h => ?_) <;> (conv => whnf)) | (refine two_intro (fun h => ?_) (fun h => ?_) <;> (conv => whnf)) | (refine ⟨ns, root, _, n.kids, rfl, st, hl, hq, ?_⟩; (conv => whnf)) | fail)
  all_goals refine hr _ _ rfl (ret_eq hk (congrArg (fun b => AV.p (.bool b)) ?_))
  all_goals clear hr hk
  all_goals unfold operandsS
  all_goals simp_all
end Go.Proofs.YtojjkleplnijaaaGreatDoor

namespace Go.Ru
theorem kinds_get {ns : List Nd} {n : Nd} {j : Nat} (hj : j < n.kids.length) : (kindsS ns n)[j]? = some (nd ns (n.kids.getD j 0).toNat).k := by
  simp [kindsS, nd, List.getElem?_map, hj]
theorem kinds_mem {ns : List Nd} {n : Nd} {q : Int} (h : q ∈ n.kids) : (nd ns q.toNat).k ∈ kindsS ns n := List.mem_map.2 ⟨q, h, rfl⟩
theorem kinds_len (ns : List Nd) (n : Nd) : (kindsS ns n).length = n.kids.length := by simp [kindsS]
section
variable {ns : List Nd} {root : Int} (h : RightT ns root)
include h
theorem RightT.up {i : Nat} (hi : i < ns.length) (hr : (i : Int) ≠ root) : ∃ p, i < p ∧ p < ns.length ∧ (i : Int) ∈ (nd ns p).kids ∧ parF ns root i = (p : Int) := by
  have := h.rt
  exact h.toStd.par_up i (by omega)
theorem RightT.notroot {i : Nat} (_ : i < ns.length) (hk : (nd ns i).k ≠ 1) : (i : Int) ≠ root := fun e => by
  have := h.top
  rw [← e] at this
  exact hk (by simpa using this)
theorem RightT.decl {i : Nat} (hi : i < ns.length) (hk : (nd ns i).k = 4 ∨ (nd ns i).k = 5) : ∃ p, i < p ∧ p < ns.length ∧ (i : Int) ∈ (nd ns p).kids ∧ (nd ns p).k = 3 ∧ own ns root i = (p : Int) := by
  obtain ⟨p, h1, h2, h3, h4⟩ := h.up hi (h.notroot hi (by omega))
  have h5 := kid_kind (h.shape p h2) (kinds_mem h3)
  simp only [Int.toNat_natCast] at h5
  have h6 : (nd ns p).k = 3 := by
    rcases h5 with ⟨_, h5⟩ | ⟨h5, _⟩ | ⟨_, h5⟩ | ⟨_, _, h5⟩ | ⟨_, h5⟩ | ⟨_, h5⟩ | ⟨_, h5⟩
    · omega
    · exact h5
    · simp only [stB, Bool.and_eq_true, decide_eq_true_eq] at h5; omega
    · simp only [exB, Bool.and_eq_true, decide_eq_true_eq] at h5; omega
    · omega
    · omega
    · omega
  refine ⟨p, h1, h2, h3, h6, ?_⟩
  have h7 := own_kid h.toStd h2 h3 (by simp only [Int.toNat_natCast]; omega)
  simp only [Int.toNat_natCast] at h7
  rw [h7, own_eq h.toStd h2, if_pos h6]
theorem RightT.owned : ∀ (m i : Nat), ns.length - i ≤ m → i < ns.length → (nd ns i).k ≠ 1 → (nd ns i).k ≠ 2 → 0 ≤ own ns root i ∧ own ns root i < ns.length := by
  intro m
  induction m with
  | zero => intro i h1 h2; omega
  | succ m ih =>
    intro i h1 hi k1 k2
    rw [own_eq h.toStd hi]
    by_cases k3 : (nd ns i).k = 3
    · rw [if_pos k3]; omega
    rw [if_neg k3, if_neg (h.notroot hi k1)]
    obtain ⟨p, p1, p2, p3, p4⟩ := h.up hi (h.notroot hi k1)
    have h5 := kid_kind (h.shape p p2) (kinds_mem p3)
    simp only [Int.toNat_natCast] at h5
    rw [p4, Int.toNat_natCast]
    refine ih p (by omega) p2 ?_ ?_
    · omega
    · omega
omit h in
theorem told_ok {b : Bool} (h : toldS b = 0) : b = true := by
  cases b with
  | true => rfl
  | false => simp [toldS] at h
omit h in
theorem named_ok {i : Nat} {fits : Int → Bool} (hc : tnamedS ns root i fits = 0) : 0 ≤ meansS ns root i (nd ns i).tx ∧ fits (nd ns (meansS ns root i (nd ns i).tx).toNat).n = true ∧ kindS ns root i (nd ns i).tx = (nd ns (meansS ns root i (nd ns i).tx).toNat).n := by
  unfold tnamedS at hc
  split at hc
  · cases hc
  rename_i hd
  have hk : kindS ns root i (nd ns i).tx = (nd ns (meansS ns root i (nd ns i).tx).toNat).n := by
    unfold kindS
    rw [show (meansS ns root i (nd ns i).tx != -1) = true by simpa using hd]
  rw [hk] at hc
  refine ⟨?_, told_ok hc, hk⟩
  rcases means_range ns root i (nd ns i).tx with e | ⟨e, _⟩
  · exact absurd e hd
  · exact e
end
theorem ck2 {ns : List Nd} {root : Int} {i : Nat} (h : (nd ns i).k = 2) : checkS ns root i = if twiceS ns root i (nd ns i) then 4 else 0 := by simp [checkS, h]
theorem ck3 {ns : List Nd} {root : Int} {i : Nat} (h : (nd ns i).k = 3) : checkS ns root i = if twiceS ns root i (nd ns i) then 4 else 0 := by simp [checkS, h]
theorem ck4 {ns : List Nd} {root : Int} {i : Nat} (h : (nd ns i).k = 4) : checkS ns root i = if twiceS ns root i (nd ns i) then 4 else 0 := by simp [checkS, h]
theorem ck5 {ns : List Nd} {root : Int} {i : Nat} (h : (nd ns i).k = 5) : checkS ns root i = if twiceS ns root i (nd ns i) then 4 else 0 := by simp [checkS, h]
theorem ck22 {ns : List Nd} {root : Int} {i : Nat} (h : (nd ns i).k = 22) : checkS ns root i = tnamedS ns root i fun _ => true := by simp [checkS, h]
theorem ck23 {ns : List Nd} {root : Int} {i : Nat} (h : (nd ns i).k = 23) : checkS ns root i = tnamedS ns root i fun k => k == 3 && allS ns root (nd ns i).kids 1 := by simp [checkS, h]
theorem ck8 {ns : List Nd} {root : Int} {i : Nat} (h : (nd ns i).k = 8) : checkS ns root i = tnamedS ns root i fun k => k == 3 && allS ns root (nd ns i).kids 1 := by simp [checkS, h]
theorem ck17 {ns : List Nd} {root : Int} {i : Nat} (h : (nd ns i).k = 17) : checkS ns root i = tnamedS ns root i fun k => k == 3 && allS ns root (nd ns i).kids 1 := by simp [checkS, h]
theorem ck24 {ns : List Nd} {root : Int} {i : Nat} (h : (nd ns i).k = 24) : checkS ns root i = tnamedS ns root i fun k => k == 3 := by simp [checkS, h]
theorem ck9 {ns : List Nd} {root : Int} {i : Nat} (h : (nd ns i).k = 9) : checkS ns root i = tnamedS ns root i fun k => k == 1 := by simp [checkS, h]
theorem ck16 {ns : List Nd} {root : Int} {i : Nat} (h : (nd ns i).k = 16) : checkS ns root i = tnamedS ns root i fun k => k == 1 := by simp [checkS, h]
theorem ck7 {ns : List Nd} {root : Int} {i : Nat} (h : (nd ns i).k = 7) : checkS ns root i = tnamedS ns root i fun k => k == tyS ns root ((nd ns i).kids.getD 0 0).toNat := by simp [checkS, h]
theorem ck25 {ns : List Nd} {root : Int} {i : Nat} (h : (nd ns i).k = 25) : checkS ns root i = if procI ns (nd ns i).tx = -1 then 3 else toldS (tplainS ns (procI ns (nd ns i).tx).toNat) := by simp [checkS, h]
theorem ck26 {ns : List Nd} {root : Int} {i : Nat} (h : (nd ns i).k = 26) : checkS ns root i = toldS (operandsS ns root (nd ns i)) := by simp [checkS, h]
theorem ck27 {ns : List Nd} {root : Int} {i : Nat} (h : (nd ns i).k = 27) : checkS ns root i = toldS (operandsS ns root (nd ns i)) := by simp [checkS, h]
theorem ck10 {ns : List Nd} {root : Int} {i : Nat} (h : (nd ns i).k = 10) : checkS ns root i = toldS (allS ns root (nd ns i).kids.tail 1) := by simp [checkS, h]
theorem ck15 {ns : List Nd} {root : Int} {i : Nat} (h : (nd ns i).k = 15) : checkS ns root i = toldS (allS ns root (nd ns i).kids 1) := by simp [checkS, h]
theorem ck11 {ns : List Nd} {root : Int} {i : Nat} (h : (nd ns i).k = 11) : checkS ns root i = toldS (allS ns root ((nd ns i).kids.take 1) 2) := by simp [checkS, h]
theorem ck12 {ns : List Nd} {root : Int} {i : Nat} (h : (nd ns i).k = 12) : checkS ns root i = toldS (allS ns root ((nd ns i).kids.take 1) 2) := by simp [checkS, h]
theorem ck13 {ns : List Nd} {root : Int} {i : Nat} (h : (nd ns i).k = 13) : checkS ns root i = tcallS ns root i (nd ns i) := by simp [checkS, h]
theorem ck14 {ns : List Nd} {root : Int} {i : Nat} (h : (nd ns i).k = 14) : checkS ns root i = toldS (((nd ns (own ns root i).toNat).n == 0) == ((nd ns i).kids.length == 0) && allS ns root (nd ns i).kids (nd ns (own ns root i).toNat).n) := by simp [checkS, h]
theorem ckD {ns : List Nd} {root : Int} {i : Nat} (h2 : (nd ns i).k ≠ 2) (h3 : (nd ns i).k ≠ 3) (h4 : (nd ns i).k ≠ 4) (h5 : (nd ns i).k ≠ 5) (h22 : (nd ns i).k ≠ 22) (h23 : (nd ns i).k ≠ 23) (h8 : (nd ns i).k ≠ 8) (h17 : (nd ns i).k ≠ 17) (h24 : (nd ns i).k ≠ 24) (h9 : (nd ns i).k ≠ 9) (h16 : (nd ns i).k ≠ 16) (h7 : (nd ns i).k ≠ 7) (h25 : (nd ns i).k ≠ 25) (h26 : (nd ns i).k ≠ 26) (h27 : (nd ns i).k ≠ 27) (h10 : (nd ns i).k ≠ 10) (h15 : (nd ns i).k ≠ 15) (h11 : (nd ns i).k ≠ 11) (h12 : (nd ns i).k ≠ 12) (h13 : (nd ns i).k ≠ 13) (h14 : (nd ns i).k ≠ 14) : checkS ns root i = 0 := by simp [checkS, h2, h3, h4, h5, h22, h23, h8, h17, h24, h9, h16, h7, h25, h26, h27, h10, h15, h11, h12, h13, h14]
end Go.Ru
