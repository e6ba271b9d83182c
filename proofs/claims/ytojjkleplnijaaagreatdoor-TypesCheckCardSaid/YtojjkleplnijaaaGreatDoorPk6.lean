/-
  The reference of layer 4, part 4: the contracts of begins, Sound, Parents, Depth. No statement of the seat is proved here.
  The reference of layer 4, part 5: the contracts of Parents, Depth. No statement of the seat is proved here.
  The reference of layer 3, part 2: contracts of its small functions. No statement of the seat is proved here.
  Types, part 4: what is known of a program's names, as data; contracts of means, proc, kind, params. No statement of the seat is proved here.
  The reference of layer 4, part 6: the contracts of its shapes. No statement of the seat is proved here.
  Types, part 5: contracts of slices.Equal of ints, plain, expr, all, operands. No statement of the seat is proved here.
  Types, part 6: contracts of all, operands. No statement of the seat is proved here.
  Types, part 2: the plain laws of TypesOwner and TypesMean. No program in sight; no statement of the seat is proved here.
  Types, part 7: contracts of twice, call. No statement of the seat is proved here.
  Types, part 8: the contract of call. No statement of the seat is proved here.
  Types, part 9: the contract of check. No statement of the seat is proved here.
  Types, part 10: the contract of learn. No statement of the seat is proved here.
-/
import Derived.Test.YtojjkleplnijaaaGreatDoorPk1
import Derived.Test.YtojjkleplnijaaaGreatDoorPk5
set_option linter.unusedVariables false
set_option linter.unusedSimpArgs false
namespace Go.Ru
structure Kt (ns : List Nd) : Prop where
  len : ns.length < 1000000
  many : ∀ i, (nd ns i).kids.length < 1000000
def AheadT (ns : List Nd) : Prop := ∀ j, j < ns.length → ∀ k ∈ (nd ns j).kids, 0 ≤ k ∧ k < (j : Int)
theorem ahead_of {ns : List Nd} (h : aheadS ns = true) : AheadT ns := fun j hj k hk => by
  simp only [aheadS, List.all_eq_true, List.mem_range, Bool.not_eq_true', Bool.or_eq_false_iff, decide_eq_false_iff_not] at h
  have := h j hj k hk
  omega
theorem ahead_to {ns : List Nd} (h : AheadT ns) : aheadS ns = true := by
  simp only [aheadS, List.all_eq_true, List.mem_range, Bool.not_eq_true', Bool.or_eq_false_iff, decide_eq_false_iff_not]
  intro j hj k hk
  have := h j hj k hk
  omega
theorem begF_le {ns : List Nd} (ah : AheadT ns) (m : Nat) : ∀ p : Nat, p < ns.length → p < m → begF ns m p ≤ (p : Int) := fun p hp hm => by
  by_cases h : 0 ≤ begF ns m p
  · have e := begF_more ah m ns.length p hp hm hp
    rw [e] at h ⊢
    exact (begF_in ah p hp h).1
  · omega
theorem getD_mem {l : List Int} {i : Nat} (h : i < l.length) : l.getD i 0 ∈ l := by
  rw [List.getD_eq_getElem?_getD, List.getElem?_eq_getElem h]; exact List.getElem_mem h
end Go.Ru
namespace Go.Proofs.YtojjkleplnijaaaGreatDoor
open Go.AE Go.Ru
set_option maxRecDepth 100000
set_option maxHeartbeats 1000000
def cBeg (m : Nat) : AC := fun args K k => ∃ ns p' p v, args = [.p (.sl 5 ns.length (nodeF ns)), intV p'] ∧ p' = p ∧ Kt ns ∧ AheadT ns ∧ 0 ≤ p ∧ p < (List.length ns : Int) ∧ p < (m : Int) ∧ begF ns m p = v ∧ k (.ret (intV v)) K
structure BgC where
  j : Nat
  k : Int
theorem beg_ok (m : Nat) : COk 149 (cBeg m) := by
  induction m with
  | zero => rintro args K k ⟨ns, p, _, v, rfl, rfl, _, _, h1, _, h2, _⟩; omega
  | succ m ihm =>
  rintro args K k ⟨ns, p, _, v, rfl, rfl, kt, ah, h1, h2, h3, hv, hk⟩
  subst hv
  have hlen := kt.len
  obtain ⟨x, rfl⟩ : ∃ x : Nat, p = (x : Int) := ⟨p.toNat, by omega⟩
  have hmany := kt.many x
  simp only [begF, Int.toNat_natCast] at hk
  have hkid := ah x (by omega)
  refine frame0P (gput_ok ihm g0_ok) 19 rfl fun Q hr => ?_
  have hw0 : IntKind.i64.wrap (((nd ns x).kids.length : Int) - 1) = ((nd ns x).kids.length : Int) - 1 := by rw [w64 ⟨by omega, by omega⟩]
  conv => whnf
  refine ⟨⟨by omega, by omega, rfl⟩, ?_⟩
  conv => whnf
  refine loop_up (ι := BgC) [0, 6] (fun c => [(5, intV c.k), (7, intV ((c.j : Int) - 1))]) (fun _ => []) (fun c => c.j ≤ (nd ns x).kids.length ∧ -1 < c.k ∧ c.k ≤ 1000000 ∧ kidB (begF ns m) ((nd ns x).kids.take c.j).reverse c.k = kidB (begF ns m) (nd ns x).kids.reverse x) (fun c => c.j) ⟨(nd ns x).kids.length, x⟩
    ⟨AV.le_refl _, AV.le_of_eq (congrArg intV hw0), trivial⟩ trivial ⟨Nat.le_refl _, by show (-1 : Int) < (x : Int); omega, by show (x : Int) ≤ 1000000; omega, by rw [List.take_length]⟩ ?_
  rintro Y hle ⟨j, b⟩ ⟨hj, hb, hb2, he⟩ ih
  simp only at hj hb hb2 he
  conv => whnf
  refine two_dec (fun h => ?_) (fun h => ?_)
  · have h : (j : Int) - 1 ≥ 0 := h
    obtain ⟨j, rfl⟩ : ∃ i, j = i + 1 := ⟨j - 1, by omega⟩
    have hjl : j < (nd ns x).kids.length := by omega
    have e0 : (((j + 1 : Nat) : Int) - 1).toNat = j := by omega
    have hidx : ((j + 1 : Nat) : Int) - 1 < ((nd ns x).kids.length : Int) := by omega
    have hw1 : IntKind.i64.wrap ((((j + 1 : Nat) : Int) - 1) - 1) = (j : Int) - 1 := by rw [w64 ⟨by omega, by omega⟩]; omega
    have hwb : IntKind.i64.wrap (b - 1) = b - 1 := by rw [w64 ⟨by omega, by omega⟩]
    have hq := hkid _ (getD_mem hjl)
    have htk : ((nd ns x).kids.take (j + 1)).reverse = (nd ns x).kids.getD j 0 :: ((nd ns x).kids.take j).reverse := by
      rw [List.take_succ_eq_append_getElem hjl, List.reverse_append, List.getD_eq_getElem?_getD, List.getElem?_eq_getElem hjl]
      rfl
    rw [htk] at he
    simp only [kidB] at he
    obtain ⟨q, hqe⟩ : ∃ q, (nd ns x).kids.getD j 0 = q := ⟨_, rfl⟩
    rw [hqe] at he hq
    have hge : (nd ns x).kids.getD (((j + 1 : Nat) : Int) - 1).toNat 0 = q := by rw [e0]; exact hqe
    conv => whnf
    refine ⟨⟨by omega, hidx, rfl⟩, ?_⟩
    conv => whnf
    refine two_ne (fun h4 => ?_) (fun h4 => ?_)
    · have h4 : q ≠ b - 1 := by rw [← hqe, ← e0, ← hwb]; exact h4
      have hc : (q != b - 1 || decide (q < 0)) = true := by rw [bne_iff_ne.2 h4]; rfl
      rw [hc] at he
      have he : (-1 : Int) = _ := he
      rw [← he] at hk
      conv => whnf
      exact hr _ _ rfl hk
    have h4 : q = b - 1 := by rw [← hqe, ← e0, ← hwb]; exact h4
    have hc : (q != b - 1 || decide (q < 0)) = false := by rw [decide_eq_false (by omega : ¬ q < 0), h4]; simp
    rw [hc] at he
    conv => whnf
    refine ⟨⟨by omega, hidx, rfl⟩, ?_⟩
    conv => whnf
    refine two_dec (fun h5 => ?_) (fun _ => ?_)
    · have h5 : (nd ns x).kids.getD (((j + 1 : Nat) : Int) - 1).toNat 0 < 0 := h5
      rw [hge] at h5; omega
    conv => whnf
    refine ⟨⟨by omega, hidx, rfl⟩, ?_⟩
    conv => whnf
    obtain ⟨v2, hv2⟩ : ∃ v2, begF ns m q = v2 := ⟨_, rfl⟩
    have hbl := begF_le ah m q.toNat (by omega) (by omega)
    rw [show ((q.toNat : Nat) : Int) = q by omega, hv2] at hbl
    refine ⟨ns, _, q, v2, rfl, hge, kt, ah, by omega, by omega, by omega, hv2, ?_⟩
    conv => whnf
    refine two_dec (fun h6 => ?_) (fun h6 => ?_)
    · have h6 : v2 < 0 := h6
      have hd : decide (v2 < 0) = true := decide_eq_true h6
      simp only [hv2, hd] at he
      rw [← he] at hk
      conv => whnf
      exact hr _ _ rfl hk
    have h6 : ¬ v2 < 0 := h6
    have hd : decide (v2 < 0) = false := decide_eq_false h6
    simp only [hv2, hd] at he
    conv => whnf
    refine hle _ _ (Le.env ?_ ?_) (ih ⟨j, v2⟩ (Nat.lt_succ_self _) ⟨by simp only; omega, by simp only; omega, by simp only; omega, he⟩)
    · skip
      repeat' (first | exact trivial | ((conv => whnf); first | exact trivial | (refine And.intro (AV.le_refl _) ?_) | (refine And.intro (ABlk.le_refl _) ?_) | (refine And.intro (AV.le_of_eq ?_) ?_; (focus ((first | exact congrArg intV hw1 | fail); done))) | (refine And.intro (ABlk.le_of_eq ?_) ?_; (focus ((first | exact congrArg intV hw1 | fail); done))) | fail) | fail)
    · skip
      repeat' (first | exact trivial | ((conv => whnf); first | exact trivial | (refine And.intro (AV.le_refl _) ?_) | (refine And.intro (ABlk.le_refl _) ?_) | (refine And.intro (AV.le_of_eq ?_) ?_; (focus ((first | fail | fail); done))) | (refine And.intro (ABlk.le_of_eq ?_) ?_; (focus ((first | fail | fail); done))) | fail) | fail)
  · obtain rfl : j = 0 := by have h : ¬ (j : Int) - 1 ≥ 0 := h; omega
    simp only [List.take_zero, List.reverse_nil, kidB] at he
    rw [← he] at hk
    conv => whnf
    exact hr _ _ rfl hk
def cRSound : AC := fun args K k => ∃ ns root v, args = [treeV ns root] ∧ Kt ns ∧ soundS ns root = v ∧ k (.ret (.p (.bool v))) K
theorem rsound_ok : COk 104 cRSound := by
  rintro args K k ⟨ns, root, v, rfl, kt, rfl, hk⟩
  rw [← sound4_eq] at hk
  have hlen := kt.len
  refine frame0P (gput_ok (beg_ok 4000) g0_ok) 19 rfl fun Q hr => ?_
  conv => whnf
  refine two_dec (fun h => ?_) (fun h1 => ?_)
  · have h : (ns.length : Int) < 1 := h
    rw [show sound4 ns root = false by simp only [sound4]; rw [decide_eq_true h]; rfl] at hk
    conv => whnf
    exact hr _ _ rfl hk
  have h1 : ¬ (ns.length : Int) < 1 := h1
  conv => whnf
  refine two_dec (fun h => ?_) (fun h2 => ?_)
  · have h : (ns.length : Int) > 4000 := h
    rw [show sound4 ns root = false by simp only [sound4]; rw [decide_eq_false h1, decide_eq_true h]; rfl] at hk
    conv => whnf
    exact hr _ _ rfl hk
  have h2 : ¬ (ns.length : Int) > 4000 := h2
  have hw : IntKind.i64.wrap ((ns.length : Int) - 1) = (ns.length : Int) - 1 := by rw [w64 ⟨by omega, by omega⟩]
  conv => whnf
  refine two_ne (fun h => ?_) (fun h3 => ?_)
  · have h : root ≠ (ns.length : Int) - 1 := by rw [← hw]; exact h
    rw [show sound4 ns root = false by simp only [sound4]; rw [decide_eq_false h1, decide_eq_false h2, bne_iff_ne.2 h]; rfl] at hk
    conv => whnf
    exact hr _ _ rfl hk
  have h3 : root = (ns.length : Int) - 1 := by rw [← hw]; exact h3
  have hs4 : sound4 ns root = (aheadS ns && begF ns ns.length ((ns.length : Int) - 1) == 0) := by
    simp only [sound4]; rw [decide_eq_false h1, decide_eq_false h2, h3, bne_self_eq_false]; rfl
  rw [hs4] at hk
  have hbad : ∀ i : Nat, i < ns.length → ∀ q ∈ (nd ns i).kids, (q < 0 ∨ q ≥ (i : Int)) → aheadS ns = false := fun i hi q hq h => by
    rw [← Bool.not_eq_true]
    intro ha
    have := ahead_of ha i hi q hq
    omega
  conv => whnf
  refine loop_up (ι := Nat) [1, 3] (fun i => [(4, intV i)]) (fun _ => []) (fun i => i ≤ ns.length ∧ ∀ j, j < i → ∀ q ∈ (nd ns j).kids, 0 ≤ q ∧ q < (j : Int)) (fun i => ns.length - i) 0 ⟨AV.le_refl _, trivial⟩ trivial ⟨Nat.zero_le _, fun j hj => by omega⟩ ?_
  rintro Y hle i ⟨hi, hdone⟩ ih
  conv => whnf
  refine two_dec (fun h => ?_) (fun h => ?_)
  · have h : i < ns.length := by have h : (i : Int) < (ns.length : Int) := h; omega
    have hw1 := wzz (i := i) (by omega)
    have hm := kt.many i
    conv => whnf
    refine loop_up (ι := Nat) [1, 3, 4] (fun j => [(5, intV j)]) (fun _ => []) (fun j => j ≤ (nd ns i).kids.length ∧ ∀ q ∈ (nd ns i).kids.take j, 0 ≤ q ∧ q < (i : Int)) (fun j => (nd ns i).kids.length - j) 0 ⟨AV.le_refl _, trivial⟩ trivial ⟨Nat.zero_le _, fun q hq => by simp at hq⟩ ?_
    rintro Z hlz j ⟨hj, hdz⟩ ihz
    conv => whnf
    refine ⟨⟨by omega, by omega, rfl⟩, ?_⟩
    conv => whnf
    refine two_dec (fun hjl => ?_) (fun hjl => ?_)
    · have hjl : j < (nd ns i).kids.length := by have h : (j : Int) < ((nd ns i).kids.length : Int) := hjl; omega
      have hjl' : (j : Int) < ((nd ns i).kids.length : Int) := by omega
      have hw2 := wzz (i := j) (by omega)
      have hqm := getD_mem hjl
      have htk : (nd ns i).kids.take (j + 1) = (nd ns i).kids.take j ++ [(nd ns i).kids.getD j 0] := by
        rw [List.take_succ_eq_append_getElem hjl, List.getD_eq_getElem?_getD, List.getElem?_eq_getElem hjl]; rfl
      conv => whnf
      repeat' (first | (refine Chk.mk ⟨by omega, by omega, rfl⟩ ?_; (conv => whnf)) | (refine Chk.mk ⟨by omega, hjl', rfl⟩ ?_; (conv => whnf)) | fail)
      refine two_dec (fun h5 => ?_) (fun h5 => ?_)
      · have h5 : (nd ns i).kids.getD j 0 < 0 := h5
        rw [hbad i h _ hqm (.inl h5), Bool.false_and] at hk
        conv => whnf
        exact hr _ _ rfl hk
      have h5 : ¬ (nd ns i).kids.getD j 0 < 0 := h5
      conv => whnf
      repeat' (first | (refine Chk.mk ⟨by omega, by omega, rfl⟩ ?_; (conv => whnf)) | (refine Chk.mk ⟨by omega, hjl', rfl⟩ ?_; (conv => whnf)) | fail)
      refine two_dec (fun h6 => ?_) (fun h6 => ?_)
      · have h6 : (nd ns i).kids.getD j 0 ≥ (i : Int) := h6
        rw [hbad i h _ hqm (.inr h6), Bool.false_and] at hk
        conv => whnf
        exact hr _ _ rfl hk
      have h6 : ¬ (nd ns i).kids.getD j 0 ≥ (i : Int) := h6
      conv => whnf
      refine hlz _ _ (Le.env ?_ ?_) (ihz (j + 1) (by omega) ⟨by omega, fun q hq => ?_⟩)
      · skip
        repeat' (first | exact trivial | ((conv => whnf); first | exact trivial | (refine And.intro (AV.le_refl _) ?_) | (refine And.intro (ABlk.le_refl _) ?_) | (refine And.intro (AV.le_of_eq ?_) ?_; (focus ((first | exact congrArg intV hw2 | fail); done))) | (refine And.intro (ABlk.le_of_eq ?_) ?_; (focus ((first | exact congrArg intV hw2 | fail); done))) | fail) | fail)
      · skip
        repeat' (first | exact trivial | ((conv => whnf); first | exact trivial | (refine And.intro (AV.le_refl _) ?_) | (refine And.intro (ABlk.le_refl _) ?_) | (refine And.intro (AV.le_of_eq ?_) ?_; (focus ((first | fail | fail); done))) | (refine And.intro (ABlk.le_of_eq ?_) ?_; (focus ((first | fail | fail); done))) | fail) | fail)
      · rw [htk] at hq
        rcases List.mem_append.1 hq with hq | hq
        · exact hdz q hq
        · simp only [List.mem_cons, List.not_mem_nil, or_false] at hq
          subst hq; omega
    · obtain rfl : j = (nd ns i).kids.length := by have h : ¬ (j : Int) < ((nd ns i).kids.length : Int) := hjl; omega
      rw [List.take_length] at hdz
      conv => whnf
      refine hle _ _ (Le.env ?_ ?_) (ih (i + 1) (by omega) ⟨by omega, fun j hj => ?_⟩)
      · skip
        repeat' (first | exact trivial | ((conv => whnf); first | exact trivial | (refine And.intro (AV.le_refl _) ?_) | (refine And.intro (ABlk.le_refl _) ?_) | (refine And.intro (AV.le_of_eq ?_) ?_; (focus ((first | exact congrArg intV hw1 | fail); done))) | (refine And.intro (ABlk.le_of_eq ?_) ?_; (focus ((first | exact congrArg intV hw1 | fail); done))) | fail) | fail)
      · skip
        repeat' (first | exact trivial | ((conv => whnf); first | exact trivial | (refine And.intro (AV.le_refl _) ?_) | (refine And.intro (ABlk.le_refl _) ?_) | (refine And.intro (AV.le_of_eq ?_) ?_; (focus ((first | fail | fail); done))) | (refine And.intro (ABlk.le_of_eq ?_) ?_; (focus ((first | fail | fail); done))) | fail) | fail)
      · by_cases e : j = i
        · subst e; exact hdz
        · exact hdone j (by omega)
  · obtain rfl : i = ns.length := by have h : ¬ (i : Int) < (ns.length : Int) := h; omega
    have ah : AheadT ns := hdone
    rw [ahead_to ah, Bool.true_and, show (ns.length : Int) - 1 = ((ns.length - 1 : Nat) : Int) by omega, begF_more ah ns.length 4000 (ns.length - 1) (by omega) (by omega) (by omega)] at hk
    conv => whnf
    refine ⟨ns, _, ((ns.length - 1 : Nat) : Int), _, rfl, by rw [hw]; omega, kt, ah, by omega, by omega, by omega, rfl, ?_⟩
    conv => whnf
    exact hr _ _ rfl hk
end Go.Proofs.YtojjkleplnijaaaGreatDoor

namespace Go.Proofs.YtojjkleplnijaaaGreatDoor
open Go.AE Go.Ru
set_option maxRecDepth 100000
set_option maxHeartbeats 1000000
def cRParents : AC := fun args K k => ∃ ns root, args = [treeV ns root] ∧ Kt ns ∧ soundS ns root = true ∧ k (.ret (.p (.sl 1 ns.length (rowF (parF ns root))))) K
theorem rparents_ok : COk 66 cRParents := by
  rintro args K k ⟨ns, root, rfl, kt, hs, hk⟩
  refine frame0W (gput_ok rsound_ok g0_ok) 19 rfl fun Q hr => ?_
  conv => whnf
  refine ⟨ns, root, true, rfl, kt, hs, ?_⟩
  · skip
    have st := std_of hs
    have hl := st.len
    have hp := st.pos
    have hrt := st.rt
    conv => whnf
    refine ⟨⟨by omega, by omega, by omega, ?_⟩, ?_⟩
    · show (8 : Int) * (ns.length : Int) ≤ 140737488355328
      omega
    conv => whnf
    refine ⟨⟨rfl, Nat.zero_add _, by omega, by omega, rfl⟩, ?_⟩
    conv => whnf
    refine ⟨⟨rfl, rfl⟩, ?_⟩
    conv => whnf
    refine loop_up (ι := PC) [1, 4] (fun c => [(5, intV c.i)]) (fun c => [(1, rowA ns.length c.f)]) (fun c => c.i ≤ ns.length ∧ parNs c.i (ns.drop c.i) c.f = parF ns root) (fun c => ns.length - c.i) ⟨0, setF (fun _ => 0) root.toNat (-1)⟩
      ⟨AV.le_refl _, trivial⟩ ⟨upLe1 rfl (rowA_set rfl (Nat.zero_add _) (fun _ _ => rfl)), trivial⟩ ⟨Nat.zero_le _, rfl⟩ ?_
    rintro Y hle ⟨i, f⟩ ⟨hi, he⟩ ih
    simp only at hi he
    conv => whnf
    refine two_dec (fun h => ?_) (fun h => ?_)
    · have h : i < ns.length := by have h : (i : Int) < (ns.length : Int) := h; omega
      have hw1 := wzz (i := i) (by omega)
      have hkm := st.many i h
      have hkk := st.kid i h
      rw [List.drop_eq_getElem_cons h] at he
      have e1 : ns.getD i default = ns[i] := by simp [h]
      rw [← e1] at he
      simp only [parNs] at he
      conv => whnf
      repeat' (first | (refine two_eq (fun h => ?_) (fun h => ?_) <;> (conv => whnf)) | (refine two_ne (fun h => ?_) (fun h => ?_) <;> (conv => whnf)) | (refine two_not (fun h => ?_) (fun h => ?_) <;> (conv => whnf)) | (refine two_dec (fun h => ?_) (fun h => ?_) <;> (conv => whnf)) | (refine two_intro (fun h => ?_) (fun h => ?_) <;> (conv => whnf)) | (refine Chk.mk ?_ ?_; (focus (((repeat' (refine And.intro ?_ ?_)) <;> (first | omega | rfl | (simp only [List.length_append, List.length_cons, List.length_nil]; omega) | fail)); done)); (conv => whnf)) | (refine And.intro ?_ ?_; (focus (((repeat' (refine And.intro ?_ ?_)) <;> (first | omega | rfl | (simp only [List.length_append, List.length_cons, List.length_nil]; omega) | fail)); done)); (conv => whnf)) | (refine Exists.intro _ (And.intro rfl ?_)) | (refine Exists.intro _ (Exists.intro _ (And.intro rfl ?_))) | (refine Exists.intro _ (Exists.intro _ (Exists.intro _ (And.intro rfl ?_)))) | fail)
      refine loop_up (ι := PC) [1, 4, 5] (fun c => [(6, intV c.i)]) (fun c => [(1, rowA ns.length c.f)]) (fun c => c.i ≤ (nd ns i).kids.length ∧ parKids i ((nd ns i).kids.drop c.i) c.f = parKids i (nd ns i).kids f) (fun c => (nd ns i).kids.length - c.i) ⟨0, f⟩
        ⟨AV.le_refl _, trivial⟩ ⟨upLe1 rfl (ABlk.le_refl _), trivial⟩ ⟨Nat.zero_le _, rfl⟩ ?_
      rintro Z hlz ⟨j, g⟩ ⟨hj, hg⟩ ihz
      simp only at hj hg
      conv => whnf
      refine ⟨⟨by omega, by omega, rfl⟩, ?_⟩
      conv => whnf
      refine two_dec (fun h2 => ?_) (fun h2 => ?_)
      · have h2 : j < (nd ns i).kids.length := by have h2 : (j : Int) < ((nd ns i).kids.length : Int) := h2; omega
        have hw2 := wzz (i := j) (by omega)
        rw [List.drop_eq_getElem_cons h2] at hg
        simp only [parKids] at hg
        have hm := hkk _ (List.getElem_mem h2)
        have e2 : (nd ns i).kids.getD j 0 = (nd ns i).kids[j] := by simp [h2]
        rw [← e2] at hg hm
        have hi0 : 0 ≤ (i : Int) := by omega
        have hil : (i : Int) < (ns.length : Int) := by omega
        have hj0 : 0 ≤ (j : Int) := by omega
        have hjl : (j : Int) < ((nd ns i).kids.length : Int) := by omega
        have hm0 : 0 ≤ (nd ns i).kids.getD j 0 := hm.1
        have hml : (nd ns i).kids.getD j 0 < (ns.length : Int) := by omega
        conv => whnf
        repeat' (first | (refine Chk.mk ⟨hi0, hil, rfl⟩ ?_; (conv => whnf)) | (refine Chk.mk ⟨hj0, hjl, rfl⟩ ?_; (conv => whnf)) | (refine Chk.mk ⟨rfl, Nat.zero_add _, hi0, hil, rfl⟩ ?_; (conv => whnf)) | (refine Chk.mk ⟨rfl, Nat.zero_add _, hm0, hml, rfl⟩ ?_; (conv => whnf)) | (refine Chk.mk ⟨rfl, rfl⟩ ?_; (conv => whnf)) | (refine And.intro ⟨hi0, hil, rfl⟩ ?_; (conv => whnf)) | (refine And.intro ⟨hj0, hjl, rfl⟩ ?_; (conv => whnf)) | (refine And.intro ⟨rfl, Nat.zero_add _, hi0, hil, rfl⟩ ?_; (conv => whnf)) | (refine And.intro ⟨rfl, Nat.zero_add _, hm0, hml, rfl⟩ ?_; (conv => whnf)) | (refine And.intro ⟨rfl, rfl⟩ ?_; (conv => whnf)) | fail)
        refine hlz _ _ (Le.cutEnv 2 rfl rfl ⟨rfl, rowU_cl (f := g) 2 rfl (fun _ _ => rfl), trivial⟩ ?_ ?_) (ihz ⟨j + 1, setF g ((nd ns i).kids.getD j 0).toNat i⟩ (by show _ - (j + 1) < _ - j; omega) ⟨h2, hg⟩)
        · skip
          repeat' (first | exact trivial | ((conv => whnf); first | exact trivial | (refine And.intro (AV.le_refl _) ?_) | (refine And.intro (ABlk.le_refl _) ?_) | (refine And.intro (AV.le_of_eq ?_) ?_; (focus ((first | exact congrArg intV hw2 | fail); done))) | (refine And.intro (ABlk.le_of_eq ?_) ?_; (focus ((first | exact congrArg intV hw2 | fail); done))) | fail) | fail)
        · (conv => whnf)
          refine ⟨ABlk.le_refl _, ?_⟩
          (conv => whnf)
          refine ⟨rowA_set rfl (Nat.zero_add _) (fun _ _ => rfl), ?_⟩
          repeat' (first | exact trivial | ((conv => whnf); first | exact trivial | (refine And.intro (AV.le_refl _) ?_) | (refine And.intro (ABlk.le_refl _) ?_) | (refine And.intro (AV.le_of_eq ?_) ?_; (focus ((first | fail | fail); done))) | (refine And.intro (ABlk.le_of_eq ?_) ?_; (focus ((first | fail | fail); done))) | fail) | fail)
      · obtain rfl : j = (nd ns i).kids.length := by have h2 : ¬ (j : Int) < ((nd ns i).kids.length : Int) := h2; omega
        rw [List.drop_length] at hg
        simp only [parKids] at hg
        conv => whnf
        refine hle _ _ (Le.cutEnv 2 rfl rfl ⟨rfl, rowA_cl _ _ _, trivial⟩ ?_ ?_) (ih ⟨i + 1, g⟩ (by show _ - (i + 1) < _ - i; omega) ⟨h, by rw [hg]; exact he⟩)
        · skip
          repeat' (first | exact trivial | ((conv => whnf); first | exact trivial | (refine And.intro (AV.le_refl _) ?_) | (refine And.intro (ABlk.le_refl _) ?_) | (refine And.intro (AV.le_of_eq ?_) ?_; (focus ((first | exact congrArg intV hw1 | fail); done))) | (refine And.intro (ABlk.le_of_eq ?_) ?_; (focus ((first | exact congrArg intV hw1 | fail); done))) | fail) | fail)
        · skip
          repeat' (first | exact trivial | ((conv => whnf); first | exact trivial | (refine And.intro (AV.le_refl _) ?_) | (refine And.intro (ABlk.le_refl _) ?_) | (refine And.intro (AV.le_of_eq ?_) ?_; (focus ((first | fail | fail); done))) | (refine And.intro (ABlk.le_of_eq ?_) ?_; (focus ((first | fail | fail); done))) | fail) | fail)
    · obtain rfl : i = ns.length := by have h : ¬ (i : Int) < (ns.length : Int) := h; omega
      rw [List.drop_length] at he
      simp only [parNs] at he
      subst he
      conv => whnf
      exact hr _ _ _ _ (Wk1.freeze (r := 1) rfl (rowF (parF ns root)) (fun _ _ => rfl)) rfl hk
def cRDepth : AC := fun args K k => ∃ ns root, args = [treeV ns root] ∧ Kt ns ∧ soundS ns root = true ∧ k (.ret (intV (depthS ns root))) K
def dpF (ns : List Nd) (j : Nat) : Int := (deepS ns 4000 (j : Int) : Nat)
def mxF (ns : List Nd) (l : List Int) : Nat := l.foldl (fun d k => max d (deepS ns 3999 k)) 0
theorem rdepth_ok : COk 105 cRDepth := by
  rintro args K k ⟨ns, root, rfl, kt, hs, hk⟩
  have st := std_of hs
  have hl := st.len
  have hp := st.pos
  have hrt := st.rt
  have hkd : ∀ j, j < ns.length → ∀ k ∈ (ns.getD j default).kids, 0 ≤ k ∧ k < (j : Int) := fun j hj q hq => by have := st.kid j hj q hq; omega
  have hdp : ∀ j, j < ns.length → dpF ns j = ((mxF ns (nd ns j).kids + 1 : Nat) : Int) := fun j hj => by
    simp only [dpF, mxF]; rfl
  have hres : depthS ns root = deepS ns 4000 root := by
    simp only [depthS, hs]
    exact deepS_more ns hkd ns.length 4000 root (by omega) (by omega) (by omega) hl
  rw [hres, show root = ((ns.length - 1 : Nat) : Int) by omega] at hk
  refine frame0P (gput_ok rsound_ok g0_ok) 19 rfl fun Q hr => ?_
  conv => whnf
  refine ⟨ns, root, true, rfl, kt, hs, ?_⟩
  conv => whnf
  refine ⟨⟨by omega, by omega, by omega, ?_⟩, ?_⟩
  · show (8 : Int) * (ns.length : Int) ≤ 140737488355328
    omega
  conv => whnf
  refine loop_up (ι := PC) [1, 4] (fun c => [(5, intV c.i)]) (fun c => [(1, rowA ns.length c.f)]) (fun c => c.i ≤ ns.length ∧ ∀ j, j < c.i → c.f j = dpF ns j) (fun c => ns.length - c.i) ⟨0, fun _ => 0⟩
    ⟨AV.le_refl _, trivial⟩ ⟨upLe1 rfl (ABlk.arr_eq rfl fun _ _ => rfl), trivial⟩ ⟨Nat.zero_le _, fun j hj => by simp only at hj; omega⟩ ?_
  rintro Y hle ⟨i, f⟩ ⟨hi, hf⟩ ih
  simp only at hi hf
  conv => whnf
  refine two_dec (fun h => ?_) (fun h => ?_)
  · have h : i < ns.length := by have h : (i : Int) < (ns.length : Int) := h; omega
    have hw1 := wzz (i := i) (by omega)
    have hkm := st.many i h
    have hkk := st.kid i h
    conv => whnf
    refine ⟨⟨rfl, Nat.zero_add _, by omega, by omega, rfl⟩, ?_⟩
    conv => whnf
    refine ⟨⟨rfl, rfl⟩, ?_⟩
    conv => whnf
    refine loop_up (ι := PC) [1, 4, 5] (fun c => [(6, intV c.i)]) (fun c => [(1, rowA ns.length c.f)]) (fun c => c.i ≤ (nd ns i).kids.length ∧ (∀ j, j < i → c.f j = dpF ns j) ∧ c.f i = ((mxF ns ((nd ns i).kids.take c.i) + 1 : Nat) : Int)) (fun c => (nd ns i).kids.length - c.i) ⟨0, setF f i 1⟩
      ⟨AV.le_refl _, trivial⟩ ⟨upLe1 rfl (rowA_set rfl (Nat.zero_add _) (fun _ _ => rfl)), trivial⟩ ⟨Nat.zero_le _, fun j hj => by simp only [setF]; rw [if_neg (by omega)]; exact hf j hj, by simp [setF, mxF]⟩ ?_
    rintro Z hlz ⟨j, g⟩ ⟨hj, hg, hgi⟩ ihz
    simp only at hj hg hgi
    conv => whnf
    refine ⟨⟨by omega, by omega, rfl⟩, ?_⟩
    conv => whnf
    refine two_dec (fun h2 => ?_) (fun h2 => ?_)
    · have h2 : j < (nd ns i).kids.length := by have h2 : (j : Int) < ((nd ns i).kids.length : Int) := h2; omega
      have h2' : (j : Int) < ((nd ns i).kids.length : Int) := by omega
      have hw2 := wzz (i := j) (by omega)
      have hm := hkk _ (getD_mem h2)
      have hi0 : 0 ≤ (i : Int) := by omega
      have hil : (i : Int) < (ns.length : Int) := by omega
      have hj0 : 0 ≤ (j : Int) := by omega
      have hjl : (j : Int) < ((nd ns i).kids.length : Int) := h2'
      have hm0 : 0 ≤ (nd ns i).kids.getD j 0 := hm.1
      have hml : (nd ns i).kids.getD j 0 < (ns.length : Int) := by omega
      obtain ⟨q, hq⟩ : ∃ q : Nat, (nd ns i).kids.getD j 0 = (q : Int) := ⟨((nd ns i).kids.getD j 0).toNat, by omega⟩
      have hgq : g q = dpF ns q := hg q (by omega)
      have hqd : dpF ns q = (deepS ns 3999 (q : Int) : Nat) := by
        simp only [dpF]; rw [deepS_more ns hkd 3999 4000 (q : Int) (by omega) (by omega) (by omega) (by omega)]
      have hq1 := deepS_le ns 3999 (q : Int)
      have hwq : IntKind.i64.wrap (1 + g ((nd ns i).kids.getD j 0).toNat) = 1 + (deepS ns 3999 (q : Int) : Nat) := by
        rw [hq, Int.toNat_natCast, hgq, hqd, w64 ⟨by omega, by omega⟩]
      have hmx : mxF ns ((nd ns i).kids.take (j + 1)) = max (mxF ns ((nd ns i).kids.take j)) (deepS ns 3999 (q : Int)) := by
        unfold mxF
        rw [List.take_succ_eq_append_getElem h2, List.foldl_append]
        have e1 : (nd ns i).kids[j] = (q : Int) := by rw [← hq]; simp [h2]
        rw [e1]; rfl
      conv => whnf
      repeat' (first | (refine Chk.mk ⟨hi0, hil, rfl⟩ ?_; (conv => whnf)) | (refine Chk.mk ⟨hj0, hjl, rfl⟩ ?_; (conv => whnf)) | (refine Chk.mk ⟨rfl, Nat.zero_add _, hi0, hil, rfl⟩ ?_; (conv => whnf)) | (refine Chk.mk ⟨rfl, Nat.zero_add _, hm0, hml, rfl⟩ ?_; (conv => whnf)) | (refine Chk.mk ⟨rfl, rfl⟩ ?_; (conv => whnf)) | (refine And.intro ⟨hi0, hil, rfl⟩ ?_; (conv => whnf)) | (refine And.intro ⟨hj0, hjl, rfl⟩ ?_; (conv => whnf)) | (refine And.intro ⟨rfl, Nat.zero_add _, hi0, hil, rfl⟩ ?_; (conv => whnf)) | (refine And.intro ⟨rfl, Nat.zero_add _, hm0, hml, rfl⟩ ?_; (conv => whnf)) | (refine And.intro ⟨rfl, rfl⟩ ?_; (conv => whnf)) | fail)
      have hval : (if IntKind.i64.wrap (1 + g (0 + ((nd ns i).kids.getD j 0).toNat)) > g (0 + i) then IntKind.i64.wrap (1 + g (0 + ((nd ns i).kids.getD j 0).toNat)) else g (0 + i)) = ((mxF ns ((nd ns i).kids.take (j + 1)) + 1 : Nat) : Int) := by
        rw [Nat.zero_add, Nat.zero_add, hwq, hgi, hmx]
        split <;> omega
      refine hlz _ _ (Le.cutEnv 2 rfl rfl ⟨rfl, rowU_cl (f := g) 2 rfl (fun _ _ => rfl), trivial⟩ ?_ ?_) (ihz ⟨j + 1, setF g i ((mxF ns ((nd ns i).kids.take (j + 1)) + 1 : Nat) : Int)⟩ (by show _ - (j + 1) < _ - j; omega) ⟨h2, fun x hx => ?_, ?_⟩)
      · skip
        repeat' (first | exact trivial | ((conv => whnf); first | exact trivial | (refine And.intro (AV.le_refl _) ?_) | (refine And.intro (ABlk.le_refl _) ?_) | (refine And.intro (AV.le_of_eq ?_) ?_; (focus ((first | exact congrArg intV hw2 | fail); done))) | (refine And.intro (ABlk.le_of_eq ?_) ?_; (focus ((first | exact congrArg intV hw2 | fail); done))) | fail) | fail)
      · (conv => whnf)
        refine ⟨ABlk.le_refl _, ?_⟩
        (conv => whnf)
        refine ⟨rowA_set (congrArg (fun x => [intV x]) hval) (Nat.zero_add _) (fun _ _ => rfl), ?_⟩
        repeat' (first | exact trivial | ((conv => whnf); first | exact trivial | (refine And.intro (AV.le_refl _) ?_) | (refine And.intro (ABlk.le_refl _) ?_) | (refine And.intro (AV.le_of_eq ?_) ?_; (focus ((first | fail | fail); done))) | (refine And.intro (ABlk.le_of_eq ?_) ?_; (focus ((first | fail | fail); done))) | fail) | fail)
      · have hx : x < i := hx
        simp only [setF]; rw [if_neg (by omega)]; exact hg x hx
      · simp [setF]
    · obtain rfl : j = (nd ns i).kids.length := by have h2 : ¬ (j : Int) < ((nd ns i).kids.length : Int) := h2; omega
      rw [List.take_length, ← hdp i h] at hgi
      conv => whnf
      refine hle _ _ (Le.cutEnv 2 rfl rfl ⟨rfl, rowA_cl _ _ _, trivial⟩ ?_ ?_) (ih ⟨i + 1, g⟩ (by show _ - (i + 1) < _ - i; omega) ⟨h, fun j hj => ?_⟩)
      · skip
        repeat' (first | exact trivial | ((conv => whnf); first | exact trivial | (refine And.intro (AV.le_refl _) ?_) | (refine And.intro (ABlk.le_refl _) ?_) | (refine And.intro (AV.le_of_eq ?_) ?_; (focus ((first | exact congrArg intV hw1 | fail); done))) | (refine And.intro (ABlk.le_of_eq ?_) ?_; (focus ((first | exact congrArg intV hw1 | fail); done))) | fail) | fail)
      · skip
        repeat' (first | exact trivial | ((conv => whnf); first | exact trivial | (refine And.intro (AV.le_refl _) ?_) | (refine And.intro (ABlk.le_refl _) ?_) | (refine And.intro (AV.le_of_eq ?_) ?_; (focus ((first | fail | fail); done))) | (refine And.intro (ABlk.le_of_eq ?_) ?_; (focus ((first | fail | fail); done))) | fail) | fail)
      · by_cases e : j = i
        · subst e; exact hgi
        · exact hg j (by simp only at hj; omega)
  · obtain rfl : i = ns.length := by have h : ¬ (i : Int) < (ns.length : Int) := h; omega
    have hv := hf (ns.length - 1) (by omega)
    simp only [dpF] at hv
    rw [← hv, show f (ns.length - 1) = f root.toNat from congrArg f (by omega), show f root.toNat = f (0 + root.toNat) by rw [Nat.zero_add]] at hk
    conv => whnf
    refine ⟨⟨rfl, Nat.zero_add _, by omega, by omega, rfl⟩, ?_⟩
    conv => whnf
    refine Chk.mk ⟨rfl, rfl⟩ ?_
    conv => whnf
    exact hr _ _ rfl hk
end Go.Proofs.YtojjkleplnijaaaGreatDoor

namespace Go.Proofs.YtojjkleplnijaaaGreatDoor
open Go.AE Go.Ru
set_option maxRecDepth 100000
set_option maxHeartbeats 4000000
def digB (c : UInt8) : Bool := decide (48 ≤ c.toNat) && decide (c.toNat ≤ 57)
def partB (c : UInt8) : Bool := digB c || (decide (97 ≤ c.toNat) && decide (c.toNat ≤ 122)) || (decide (65 ≤ c.toNat) && decide (c.toNat ≤ 90)) || decide (c.toNat = 95)
def cByteB (p : UInt8 → Bool) : AC := fun args K k => ∃ (c : UInt8) (n : Int), n = (c.toNat : Int) ∧ args = [.p (.int .u8 n)] ∧ k (.ret (.p (.bool (p c)))) K
theorem rdigit_ok : COk 223 (cByteB digB) := by
  rintro args K k ⟨c, n, hn, rfl, hk⟩
  refine frame0P g0_ok 19 rfl fun Q hr => ?_
  have e1 : decide (n ≥ 48) = decide (48 ≤ c.toNat) := by subst hn; rw [decide_eq_decide]; omega
  have e2 : decide (n ≤ 57) = decide (c.toNat ≤ 57) := by subst hn; rw [decide_eq_decide]; omega
  conv => whnf
  refine two_intro (fun h => ?_) (fun h => ?_)
  · have h' : decide (48 ≤ c.toNat) = true := by rw [← e1]; exact h
    simp only [digB, h', Bool.true_and, ← e2] at hk
    conv => whnf
    exact hr _ _ rfl hk
  · have h' : decide (48 ≤ c.toNat) = false := by rw [← e1]; exact h
    simp only [digB, h', Bool.false_and] at hk
    conv => whnf
    exact hr _ _ rfl hk
def gRd3 : AG := gput 223 (cByteB digB) g0
theorem gRd3_ok : GOk Tryz.prog gRd3 := gput_ok rdigit_ok g0_ok
theorem rpart_ok : COk 221 (cByteB partB) := by
  rintro args K k ⟨c, n, hn, rfl, hk⟩
  refine frame0P gRd3_ok 19 rfl fun Q hr => ?_
  conv => whnf
  refine ⟨c, n, hn, rfl, ?_⟩
  conv => whnf
  repeat' (first | (refine two_eq (fun h => ?_) (fun h => ?_) <;> (conv => whnf)) | (refine two_ne (fun h => ?_) (fun h => ?_) <;> (conv => whnf)) | (refine two_not (fun h => ?_) (fun h => ?_) <;> (conv => whnf)) | (refine two_dec (fun h => ?_) (fun h => ?_) <;> (conv => whnf)) | (refine two_intro (fun h => ?_) (fun h => ?_) <;> (conv => whnf)) | (refine Chk.mk ?_ ?_; (focus (((repeat' (refine And.intro ?_ ?_)) <;> (first | omega | rfl | (simp only [List.length_append, List.length_cons, List.length_nil]; omega) | fail)); done)); (conv => whnf)) | (refine And.intro ?_ ?_; (focus (((repeat' (refine And.intro ?_ ?_)) <;> (first | omega | rfl | (simp only [List.length_append, List.length_cons, List.length_nil]; omega) | fail)); done)); (conv => whnf)) | (refine Exists.intro _ (And.intro rfl ?_)) | (refine Exists.intro _ (Exists.intro _ (And.intro rfl ?_))) | (refine Exists.intro _ (Exists.intro _ (Exists.intro _ (And.intro rfl ?_)))) | fail)
  all_goals (refine hr _ _ rfl (ret_eq hk ?_); clear hr hk; refine congrArg (fun b => AV.p (.bool b)) ?_; rw [Bool.eq_iff_iff]; simp only [partB, Bool.or_eq_true, Bool.and_eq_true, decide_eq_true_eq, beq_iff_eq, iff_true, *]; try (first | omega | (simp; done) | (simp; omega)))
theorem wz3 {i : Nat} (h : i < 9223372036854775807) : IntKind.i64.wrap ((i : Int) + 1) = ((i + 1 : Nat) : Int) := by rw [w64 ⟨by omega, by omega⟩]; omega
theorem any_at {W : List Bs} {i : Nat} (hi : i < W.length) {l : Bs} (h : W.getD i [] = l) : W.any (· == l) = true := by
  rw [List.any_eq_true]
  refine ⟨W[i], List.getElem_mem hi, ?_⟩
  rw [List.getD_eq_getElem?_getD, List.getElem?_eq_getElem hi] at h
  simpa using h
theorem any_succ {W : List Bs} {i : Nat} (hi : i < W.length) {l : Bs} (ha : (W.take i).any (· == l) = false) (h : W.getD i [] ≠ l) : (W.take (i + 1)).any (· == l) = false := by
  rw [List.getD_eq_getElem?_getD, List.getElem?_eq_getElem hi] at h
  rw [List.take_succ_eq_append_getElem hi, List.any_append, ha]
  simpa using h
def cRKept : AC := fun args K k => ∃ l, args = [.p (.str l)] ∧ k (.ret (.p (.bool (keptP l)))) K
theorem rkept_ok : COk 222 cRKept := by
  rintro args K k ⟨l, rfl, hk⟩
  refine frame0P g0_ok 19 rfl fun Q hr => ?_
  rw [keptP_any] at hk
  conv => whnf
  refine loop_up (ι := Nat) [0, 3] (fun i => [(4, .p (.int .i64 i)), (2, .p (.bool false))]) (fun _ => [(0, .arr 9 1 0 20 fun i => [.p (.str (keptW.getD i []))])])
    (fun i => i ≤ 20 ∧ (keptW.take i).any (· == l) = false) (fun i => 20 - i) 0 ⟨AV.le_refl _, AV.le_refl _, trivial⟩ ⟨upLe1 rfl (ABlk.arr_eq rfl fun i hi => ?_), trivial⟩ ⟨by omega, rfl⟩ ?_
  · match i, hi with
    | 0, _ => rfl
    | 1, _ => rfl
    | 2, _ => rfl
    | 3, _ => rfl
    | 4, _ => rfl
    | 5, _ => rfl
    | 6, _ => rfl
    | 7, _ => rfl
    | 8, _ => rfl
    | 9, _ => rfl
    | 10, _ => rfl
    | 11, _ => rfl
    | 12, _ => rfl
    | 13, _ => rfl
    | 14, _ => rfl
    | 15, _ => rfl
    | 16, _ => rfl
    | 17, _ => rfl
    | 18, _ => rfl
    | 19, _ => rfl
    | n + 20, h => exact absurd h (by omega)
  intro Y hle i ⟨hi, ha⟩ ih
  conv => whnf
  repeat' (first | (refine two_eq (fun h => ?_) (fun h => ?_) <;> (conv => whnf)) | (refine two_ne (fun h => ?_) (fun h => ?_) <;> (conv => whnf)) | (refine two_not (fun h => ?_) (fun h => ?_) <;> (conv => whnf)) | (refine two_dec (fun h => ?_) (fun h => ?_) <;> (conv => whnf)) | (refine two_intro (fun h => ?_) (fun h => ?_) <;> (conv => whnf)) | (refine Chk.mk ?_ ?_; (focus (((repeat' (refine And.intro ?_ ?_)) <;> (first | omega | rfl | (simp only [List.length_append, List.length_cons, List.length_nil]; omega) | fail)); done)); (conv => whnf)) | (refine And.intro ?_ ?_; (focus (((repeat' (refine And.intro ?_ ?_)) <;> (first | omega | rfl | (simp only [List.length_append, List.length_cons, List.length_nil]; omega) | fail)); done)); (conv => whnf)) | (refine Exists.intro _ (And.intro rfl ?_)) | (refine Exists.intro _ (Exists.intro _ (And.intro rfl ?_))) | (refine Exists.intro _ (Exists.intro _ (Exists.intro _ (And.intro rfl ?_)))) | fail)
  · have hi2 : i < keptW.length := by show i < 20; omega
    have h : keptW.getD i [] = l := by rw [← ‹keptW.getD _ [] = l›]; congr 1; omega
    rw [any_at hi2 h] at hk
    exact hr _ _ rfl hk
  · have hi2 : i < keptW.length := by show i < 20; omega
    have h : keptW.getD i [] ≠ l := by intro e; apply ‹keptW.getD _ [] ≠ l›; rw [← e]; congr 1; omega
    refine hle _ _ (Le.env ?_ ?_) (ih (i + 1) (by omega) ⟨by omega, any_succ hi2 ha h⟩)
    · skip
      repeat' (first | exact trivial | ((conv => whnf); first | exact trivial | (refine And.intro (AV.le_refl _) ?_) | (refine And.intro (ABlk.le_refl _) ?_) | (refine And.intro (AV.le_of_eq ?_) ?_; (focus ((first | exact congrArg (fun x => AV.p (.int .i64 x)) (wz3 (by omega)) | fail); done))) | (refine And.intro (ABlk.le_of_eq ?_) ?_; (focus ((first | exact congrArg (fun x => AV.p (.int .i64 x)) (wz3 (by omega)) | fail); done))) | fail) | fail)
    · exact lesK.refl _
  · have h : i = keptW.length := by show i = 20; omega
    rw [h, List.take_length] at ha
    rw [ha] at hk
    exact hr _ _ rfl hk
theorem inB_dig (c : UInt8) : inB digitsT c = digB c := by
  have h : ∀ n < 256, inB digitsT (UInt8.ofNat n) = digB (UInt8.ofNat n) := by decide +kernel
  have := h c.toNat c.toNat_lt
  simpa using this
theorem inB_part (c : UInt8) : inB partsT c = partB c := by
  have h : ∀ n < 256, inB partsT (UInt8.ofNat n) = partB (UInt8.ofNat n) := by decide +kernel
  have := h c.toNat c.toNat_lt
  simpa using this
def gRi : AG := gput 222 cRKept (gput 221 (cByteB partB) gRd3)
theorem gRi_ok : GOk Tryz.prog gRi := gput_ok rkept_ok (gput_ok rpart_ok gRd3_ok)
def cRIdent : AC := fun args K k => ∃ l, args = [.p (.str l)] ∧ l.length < 1000000 ∧ k (.ret (.p (.bool (identP l)))) K
theorem identP_ref (l : Bs) : identP l = (l.all partB && (decide (l.length ≥ 1) && (decide (l.length ≤ 20) && (!digB (l.getD 0 0) && !keptP l)))) := by
  have hp : inB partsT = partB := funext inB_part
  simp only [identP, hp]
  cases l with
  | nil => rfl
  | cons a r =>
    have h1 : decide (Lib.indexByte digitsT ((a :: r).getD 0 0) < 0) = !digB ((a :: r).getD 0 0) := by
      rw [← inB_dig]; simp only [inB]
      by_cases hx : Lib.indexByte digitsT ((a :: r).getD 0 0) < 0
      · rw [decide_eq_true hx, decide_eq_false (by omega)]; rfl
      · rw [decide_eq_false hx, decide_eq_true (by omega)]; rfl
    have h2 : ((a :: r) == []) = false := rfl
    have h3 : decide ((a :: r).length ≥ 1) = true := by simp
    rw [h1, h2, h3]
    cases decide ((a :: r).length ≤ 20) <;> cases (a :: r).all partB <;> rfl
theorem rident_ok : COk 195 cRIdent := by
  rintro args K k ⟨l, rfl, hl, hk⟩
  refine frame0P gRi_ok 19 rfl fun Q hr => ?_
  rw [identP_ref] at hk
  conv => whnf
  refine loop_up (ι := Nat) [0] (fun i => [(3, .p (.int .i64 i)), (2, .p (.bool false))]) (fun _ => [])
    (fun i => i ≤ l.length ∧ (l.take i).all partB = true) (fun i => l.length - i) 0 ⟨AV.le_refl _, AV.le_refl _, trivial⟩ trivial ⟨by omega, rfl⟩ ?_
  intro Y hle i ⟨hi, ha⟩ ih
  conv => whnf
  repeat' (first | (refine two_eq (fun h => ?_) (fun h => ?_) <;> (conv => whnf)) | (refine two_ne (fun h => ?_) (fun h => ?_) <;> (conv => whnf)) | (refine two_not (fun h => ?_) (fun h => ?_) <;> (conv => whnf)) | (refine two_dec (fun h => ?_) (fun h => ?_) <;> (conv => whnf)) | (refine two_intro (fun h => ?_) (fun h => ?_) <;> (conv => whnf)) | (refine Chk.mk ?_ ?_; (focus (((repeat' (refine And.intro ?_ ?_)) <;> (first | omega | rfl | (simp only [List.length_append, List.length_cons, List.length_nil]; omega) | fail)); done)); (conv => whnf)) | (refine And.intro ?_ ?_; (focus (((repeat' (refine And.intro ?_ ?_)) <;> (first | omega | rfl | (simp only [List.length_append, List.length_cons, List.length_nil]; omega) | fail)); done)); (conv => whnf)) | (refine Exists.intro _ (And.intro rfl ?_)) | (refine Exists.intro _ (Exists.intro _ (And.intro rfl ?_))) | (refine Exists.intro _ (Exists.intro _ (Exists.intro _ (And.intro rfl ?_)))) | fail)
  · refine ⟨l.getD (Int.toNat i) 0, _, rfl, rfl, ?_⟩
    have hi3 : i < l.length := by omega
    have hg : l.getD (Int.toNat i) 0 = l[i] := by rw [Int.toNat_natCast, List.getD_eq_getElem?_getD, List.getElem?_eq_getElem hi3]; rfl
    rw [hg]
    conv => whnf
    refine two_intro (fun h2 => ?_) (fun h2 => ?_)
    · have h2 : partB l[i] = false := by simpa using h2
      have he : l.all partB = false := by rw [List.all_eq_false]; exact ⟨l[i], by simp, by simp [h2]⟩
      rw [he] at hk
      conv => whnf
      exact hr _ _ rfl hk
    · have h2 : partB l[i] = true := by simpa using h2
      conv => whnf
      refine hle _ _ (Le.env ?_ ?_) (ih (i + 1) (by omega) ⟨by omega, ?_⟩)
      · skip
        repeat' (first | exact trivial | ((conv => whnf); first | exact trivial | (refine And.intro (AV.le_refl _) ?_) | (refine And.intro (ABlk.le_refl _) ?_) | (refine And.intro (AV.le_of_eq ?_) ?_; (focus ((first | exact congrArg (fun x => AV.p (.int .i64 x)) (wz3 (by omega)) | fail); done))) | (refine And.intro (ABlk.le_of_eq ?_) ?_; (focus ((first | exact congrArg (fun x => AV.p (.int .i64 x)) (wz3 (by omega)) | fail); done))) | fail) | fail)
      · exact lesK.refl _
      · rw [List.take_succ_eq_append_getElem hi3, List.all_append, ha]; simp [h2]
  · skip
    obtain rfl : i = l.length := by omega
    rw [List.take_length] at ha
    rw [ha] at hk
    have h1 : decide (l.length ≥ 1) = true := decide_eq_true (by omega)
    have h2 : decide (l.length ≤ 20) = true := decide_eq_true (by omega)
    simp only [h1, h2, Bool.true_and] at hk
    refine ⟨l.getD (Int.toNat 0) 0, _, rfl, rfl, ?_⟩
    conv => whnf
    refine two_intro (fun h2 => ?_) (fun h2 => ?_)
    · have h2 : digB (l.getD 0 0) = false := by simpa using h2
      rw [h2] at hk
      conv => whnf
      exact hr _ _ rfl hk
    · have h2 : digB (l.getD 0 0) = true := by simpa using h2
      rw [h2] at hk
      conv => whnf
      exact hr _ _ rfl hk
  · skip
    obtain rfl : i = l.length := by omega
    rw [List.take_length] at ha
    rw [ha] at hk
    have h1 : decide (l.length ≥ 1) = true := decide_eq_true (by omega)
    have h2 : decide (l.length ≤ 20) = false := decide_eq_false (by omega)
    simp only [h1, h2, Bool.true_and, Bool.false_and] at hk
    exact hr _ _ rfl hk
  · skip
    obtain rfl : i = l.length := by omega
    rw [List.take_length] at ha
    rw [ha] at hk
    have h1 : decide (l.length ≥ 1) = false := decide_eq_false (by omega)
    simp only [h1, Bool.true_and, Bool.false_and] at hk
    exact hr _ _ rfl hk
end Go.Proofs.YtojjkleplnijaaaGreatDoor

namespace Go.Proofs.YtojjkleplnijaaaGreatDoor
open Go.AE Go.Ru
set_option maxRecDepth 100000
set_option maxHeartbeats 1000000
def strM (f : Bs → Option Nat) (κ : MK) : Option PV := match κ with
  | .s l => match f l with
    | some j => some (.int .i64 (j : Int))
    | none => none
  | .i _ _ => none
def isProcB (ns : List Nd) (o : Int) : Bool := decide (0 ≤ o) && (decide (o < ns.length) && (nd ns o.toNat).k == 3)
def locM (ns : List Nd) (root : Int) (κ : MK) : Option PV := match κ with
  | .i _ o => match isProcB ns o with
    | true => some (.mp .str (strM (locS ns root o)))
    | false => none
  | .s _ => none
def scC (ns : List Nd) (root : Int) : List PV := [.sl 5 ns.length (nodeF ns), .int .i64 root, .sl 1 ns.length (rowF (own ns root)), .mp .str (strM (globS ns)), .mp .str (strM (tprocS ns)), .mp (.int .i64) (locM ns root)]
def scV (ns : List Nd) (root : Int) : AV := .rop (scC ns root) 0
theorem strM_some {f : Bs → Option Nat} {l : Bs} {j : Nat} (h : f l = some j) : strM f (.s l) = some (.int .i64 (j : Int)) := by simp only [strM, h]
theorem strM_none {f : Bs → Option Nat} {l : Bs} (h : f l = none) : strM f (.s l) = none := by simp only [strM, h]
theorem locM_yes {ns : List Nd} {root o : Int} {q : IntKind} (h : isProcB ns o = true) : locM ns root (.i q o) = some (.mp .str (strM (locS ns root o))) := by simp only [locM, h]
theorem isProcB_own {ns : List Nd} {root : Int} (h : Std ns root) {i : Nat} (hi : i < ns.length) (ho : own ns root i ≠ -1) : isProcB ns (own ns root i) = true := by
  rcases own_range h hi with e | ⟨e1, e2, e3⟩
  · exact absurd e ho
  · simp only [isProcB, e3, beq_self_eq_true, Bool.and_true, Bool.and_eq_true, decide_eq_true_eq]; omega
def cMeans : AC := fun args K k => ∃ ns root i name, args = [scV ns root, .p (.int .i64 ((i : Nat) : Int)), .p (.str name)] ∧ Std ns root ∧ i < ns.length ∧ k (.ret (intV (meansS ns root i name))) K
theorem means_ok : COk 55 cMeans := by
  rintro args K k ⟨ns, root, i, name, rfl, st, hi, hk⟩
  refine frame0P g0_ok 19 rfl fun Q hr => ?_
  unfold meansS at hk
  conv => whnf
  refine ⟨⟨by omega, by omega, rfl⟩, ?_⟩
  conv => whnf
  refine two_eq (fun h => ?_) (fun h => ?_)
  · have h : own ns root i = -1 := h
    rw [h] at hk
    conv => whnf
    exact hr _ _ rfl hk
  have h : own ns root i ≠ -1 := h
  rw [show (own ns root i == -1) = false from beq_eq_false_iff_ne.2 h] at hk
  conv => whnf
  refine MGet.pv_some (locM_yes (isProcB_own st hi h)) ?_
  conv => whnf
  cases hl : locS ns root (own ns root i) name with
  | some d =>
    rw [hl] at hk
    refine MGet.pv_some (strM_some hl) ?_
    conv => whnf
    exact hr _ _ rfl hk
  | none =>
    rw [hl] at hk
    refine MGet.pv_none (strM_none hl) ?_
    conv => whnf
    cases hg : globS ns name with
    | some d =>
      rw [hg] at hk
      refine MGet.pv_some (strM_some hg) ?_
      conv => whnf
      exact hr _ _ rfl hk
    | none =>
      rw [hg] at hk
      refine MGet.pv_none (strM_none hg) ?_
      conv => whnf
      exact hr _ _ rfl hk
def cTProc : AC := fun args K k => ∃ ns root name, args = [scV ns root, .p (.str name)] ∧ k (.ret (intV (procI ns name))) K
theorem proc_ok' : COk 47 cTProc := by
  rintro args K k ⟨ns, root, name, rfl, hk⟩
  refine frame0P g0_ok 19 rfl fun Q hr => ?_
  unfold procI at hk
  conv => whnf
  cases hg : tprocS ns name with
  | some d =>
    rw [hg] at hk
    refine MGet.pv_some (strM_some hg) ?_
    conv => whnf
    exact hr _ _ rfl hk
  | none =>
    rw [hg] at hk
    refine MGet.pv_none (strM_none hg) ?_
    conv => whnf
    exact hr _ _ rfl hk
def gMe : AG := gput 55 cMeans g0
theorem gMe_ok : GOk Tryz.prog gMe := gput_ok means_ok g0_ok
def cKind : AC := fun args K k => ∃ ns root i name, args = [scV ns root, .p (.int .i64 ((i : Nat) : Int)), .p (.str name)] ∧ Std ns root ∧ i < ns.length ∧ k (.ret (intV (kindS ns root i name))) K
theorem kind_ok : COk 113 cKind := by
  rintro args K k ⟨ns, root, i, name, rfl, st, hi, hk⟩
  refine frame0P gMe_ok 19 rfl fun Q hr => ?_
  unfold kindS at hk
  conv => whnf
  refine ⟨ns, root, i, name, rfl, st, hi, ?_⟩
  conv => whnf
  have hm := means_range ns root i name
  generalize meansS ns root i name = d at hk hm
  refine two_ne (fun h => ?_) (fun h => ?_)
  · have h : d ≠ -1 := h
    rw [show (d != -1) = true from bne_iff_ne.2 h] at hk
    conv => whnf
    refine ⟨⟨by omega, by omega, rfl⟩, ?_⟩
    conv => whnf
    exact hr _ _ rfl hk
  · have h : d = -1 := h
    subst h
    conv => whnf
    exact hr _ _ rfl hk
def kiB (l : List Int) : ABlk := .arr 3 1 0 l.length (fun i => pvs (kidF l i))
theorem kiB_snoc (l : List Int) (x : Int) (f : Nat → List AV) (hf : f 0 = [intV x]) : (ABlk.arr 3 1 0 (l.length + 1) (catF l.length (fun i => pvs (kidF l i)) f)).le (kiB (l ++ [x])) := by
  refine ABlk.arr_eq (by simp) fun i hi => ?_
  by_cases h : i < l.length
  · rw [catF_lt h]
    simp [kidF, List.getD_eq_getElem?_getD, List.getElem?_append_left h]
  · obtain rfl : i = l.length := by omega
    rw [catF_ge (Nat.le_refl _), Nat.sub_self, hf]
    simp [kidF, List.getD_eq_getElem?_getD, pvs, intV]
theorem kiB_cl (l : List Int) (x : Int) (f : Nat → List AV) (n : Nat) (hf : f 0 = [intV x]) : (ABlk.arr 3 1 0 (l.length + 1) (catF l.length (fun i => pvs (kidF l i)) f)).cl n := fun i hi => by
  by_cases h : i < l.length
  · rw [catF_lt h]; rfl
  · obtain rfl : i = l.length := by omega
    rw [catF_ge (Nat.le_refl _), Nat.sub_self, hf]; rfl
structure KC where
  j : Nat
  l : List Int
def parsL (ns : List Nd) (ks : List Int) : List Int := (ks.filter fun q => (nd ns q.toNat).k == 4).map fun q => (nd ns q.toNat).n
def intsV (l : List Int) : AV := .p (.sl 1 l.length (kidF l))
def cParams : AC := fun args K k => ∃ ns root p, args = [scV ns root, .p (.int .i64 ((p : Nat) : Int))] ∧ Std ns root ∧ p < ns.length ∧ k (.ret (intsV (paramsS ns p))) K
theorem params_ok : COk 48 cParams := by
  rintro args K k ⟨ns, root, p, rfl, st, hp, hk⟩
  have hlen := st.len
  have hmany := st.many p hp
  have hkid := st.kid p hp
  refine frame0W g0_ok 19 rfl fun Q hr => ?_
  conv => whnf
  refine ⟨⟨by omega, by omega, rfl⟩, ?_⟩
  conv => whnf
  refine loop_nil (ι := KC) 3 1 (fun i => pvs (kidF [] i)) (fun c => ⟨[(0, scV ns root), (17, .p (.sl 1 (nd ns p).kids.length (kidF (nd ns p).kids))), (18, intV (nd ns p).kids.length), (19, intV c.j), (5, .slr 0 0 0 c.l.length)], [kiB c.l]⟩)
    (fun c => c.j ≤ (nd ns p).kids.length ∧ c.l.length ≤ c.j ∧ c.l ++ parsL ns ((nd ns p).kids.drop c.j) = paramsS ns p) (fun c => (nd ns p).kids.length - c.j) ⟨0, []⟩ []
    rfl ⟨.inl (AV.le_refl _), .inl (AV.le_refl _), .inl (AV.le_refl _), .inl (AV.le_refl _), .inr ⟨rfl, rfl⟩, trivial⟩ trivial rfl ⟨Nat.zero_le _, Nat.le_refl _, rfl⟩ ?_
  rintro Y hle ⟨j, l⟩ ⟨hj, hl, he⟩ ih
  simp only at hj hl he
  conv => whnf
  refine two_dec (fun h => ?_) (fun h => ?_)
  · have h : j < (nd ns p).kids.length := by have h : (j : Int) < ((nd ns p).kids.length : Int) := h; omega
    have hw1 := wzz (i := j) (by omega)
    rw [List.drop_eq_getElem_cons h] at he
    have e1 : (nd ns p).kids.getD j 0 = (nd ns p).kids[j] := by simp [h]
    have hm := hkid _ (List.getElem_mem h)
    rw [← e1] at he hm
    generalize hq : (nd ns p).kids.getD j 0 = q at he hm
    have hq' : (nd ns p).kids.getD (j : Int).toNat 0 = q := hq
    conv => whnf
    refine ⟨⟨by omega, by show (j : Int) < ((nd ns p).kids.length : Int); omega, rfl⟩, ?_⟩
    conv => whnf
    refine ⟨⟨by rw [hq']; omega, by rw [hq']; omega, rfl⟩, ?_⟩
    conv => whnf
    refine two_eq (fun h4 => ?_) (fun h4 => ?_)
    · have h4 : (nd ns ((nd ns p).kids.getD (j : Int).toNat 0).toNat).k = 4 := h4
      rw [hq'] at h4
      have he : (l ++ [(nd ns q.toNat).n]) ++ parsL ns ((nd ns p).kids.drop (j + 1)) = paramsS ns p := by
        rw [← he]; simp [parsL, h4]
      conv => whnf
      refine ⟨⟨rfl, rfl, rfl, allLt_ok ⟨trivial, rfl⟩⟩, ?_⟩
      conv => whnf
      refine ⟨⟨rfl, rfl, rfl, rfl, ?_, ?_⟩, ?_⟩
      · show (l.length + 1) * 8 ≤ 140737488355328
        omega
      · show l.length + 1 ≤ 9223372036854775807
        omega
      conv => whnf
      refine hle _ _ (Le.cutEnv 1 rfl rfl ⟨kiB_cl l _ _ 1 rfl, trivial⟩ ?_ ?_) (ih ⟨j + 1, l ++ [(nd ns q.toNat).n]⟩ (by show _ - (j + 1) < _ - j; omega) ⟨h, by simp; omega, he⟩)
      · skip
        repeat' (first | exact trivial | ((conv => whnf); first | exact trivial | (refine And.intro (AV.le_refl _) ?_) | (refine And.intro (ABlk.le_refl _) ?_) | (refine And.intro (AV.le_of_eq ?_) ?_; (focus ((first | exact congrArg intV hw1 | exact congrArg (fun n => AV.slr 0 0 0 n) (by simp) | fail); done))) | (refine And.intro (ABlk.le_of_eq ?_) ?_; (focus ((first | exact congrArg intV hw1 | exact congrArg (fun n => AV.slr 0 0 0 n) (by simp) | fail); done))) | fail) | fail)
      · (conv => whnf)
        refine ⟨kiB_snoc l _ _ (congrArg (fun q : Int => [intV (nd ns q.toNat).n]) hq'), ?_⟩
        trivial
    · have h4 : (nd ns ((nd ns p).kids.getD (j : Int).toNat 0).toNat).k ≠ 4 := h4
      rw [hq'] at h4
      have he : l ++ parsL ns ((nd ns p).kids.drop (j + 1)) = paramsS ns p := by
        rw [← he]; simp [parsL, h4]
      conv => whnf
      refine hle _ _ (Le.cutEnv 1 rfl rfl ⟨fun _ _ => rfl, trivial⟩ ?_ ?_) (ih ⟨j + 1, l⟩ (by show _ - (j + 1) < _ - j; omega) ⟨h, by show l.length ≤ j + 1; omega, he⟩)
      · skip
        repeat' (first | exact trivial | ((conv => whnf); first | exact trivial | (refine And.intro (AV.le_refl _) ?_) | (refine And.intro (ABlk.le_refl _) ?_) | (refine And.intro (AV.le_of_eq ?_) ?_; (focus ((first | exact congrArg intV hw1 | fail); done))) | (refine And.intro (ABlk.le_of_eq ?_) ?_; (focus ((first | exact congrArg intV hw1 | fail); done))) | fail) | fail)
      · skip
        repeat' (first | exact trivial | ((conv => whnf); first | exact trivial | (refine And.intro (AV.le_refl _) ?_) | (refine And.intro (ABlk.le_refl _) ?_) | (refine And.intro (AV.le_of_eq ?_) ?_; (focus ((first | fail | fail); done))) | (refine And.intro (ABlk.le_of_eq ?_) ?_; (focus ((first | fail | fail); done))) | fail) | fail)
  · obtain rfl : j = (nd ns p).kids.length := by have h : ¬ (j : Int) < ((nd ns p).kids.length : Int) := h; omega
    rw [List.drop_length] at he
    simp only [parsL, List.filter_nil, List.map_nil, List.append_nil] at he
    subst he
    conv => whnf
    exact hr _ _ _ _ (Wk1.freeze (r := 0) rfl (kidF (paramsS ns p)) (fun _ _ => rfl)) rfl hk
end Go.Proofs.YtojjkleplnijaaaGreatDoor

namespace Go.Proofs.YtojjkleplnijaaaGreatDoor
open Go.AE Go.Ru
set_option maxRecDepth 100000
set_option maxHeartbeats 1000000
def cKB (p : Int → Bool) : AC := fun args K k => ∃ x b, args = [intV x] ∧ p x = b ∧ k (.ret (.p (.bool b))) K
theorem rst_ok : COk 198 (cKB stB) := by
  rintro args K k ⟨x, b, rfl, rfl, hk⟩
  refine frame0P g0_ok 19 rfl fun Q hr => ?_
  conv => whnf
  repeat' (first | (refine two_eq (fun h => ?_) (fun h => ?_) <;> (conv => whnf)) | (refine two_ne (fun h => ?_) (fun h => ?_) <;> (conv => whnf)) | (refine two_not (fun h => ?_) (fun h => ?_) <;> (conv => whnf)) | (refine two_dec (fun h => ?_) (fun h => ?_) <;> (conv => whnf)) | (refine two_intro (fun h => ?_) (fun h => ?_) <;> (conv => whnf)) | (refine Chk.mk ?_ ?_; (focus (((repeat' (refine And.intro ?_ ?_)) <;> (first | omega | rfl | (simp only [List.length_append, List.length_cons, List.length_nil]; omega) | fail)); done)); (conv => whnf)) | (refine And.intro ?_ ?_; (focus (((repeat' (refine And.intro ?_ ?_)) <;> (first | omega | rfl | (simp only [List.length_append, List.length_cons, List.length_nil]; omega) | fail)); done)); (conv => whnf)) | (refine Exists.intro _ (And.intro rfl ?_)) | (refine Exists.intro _ (Exists.intro _ (And.intro rfl ?_))) | (refine Exists.intro _ (Exists.intro _ (Exists.intro _ (And.intro rfl ?_)))) | fail)
  all_goals exact hr _ _ rfl (ret_eq hk (by simp [stB, *]))
theorem rex_ok : COk 200 (cKB exB) := by
  rintro args K k ⟨x, b, rfl, rfl, hk⟩
  refine frame0P g0_ok 19 rfl fun Q hr => ?_
  conv => whnf
  repeat' (first | (refine two_eq (fun h => ?_) (fun h => ?_) <;> (conv => whnf)) | (refine two_ne (fun h => ?_) (fun h => ?_) <;> (conv => whnf)) | (refine two_not (fun h => ?_) (fun h => ?_) <;> (conv => whnf)) | (refine two_dec (fun h => ?_) (fun h => ?_) <;> (conv => whnf)) | (refine two_intro (fun h => ?_) (fun h => ?_) <;> (conv => whnf)) | (refine Chk.mk ?_ ?_; (focus (((repeat' (refine And.intro ?_ ?_)) <;> (first | omega | rfl | (simp only [List.length_append, List.length_cons, List.length_nil]; omega) | fail)); done)); (conv => whnf)) | (refine And.intro ?_ ?_; (focus (((repeat' (refine And.intro ?_ ?_)) <;> (first | omega | rfl | (simp only [List.length_append, List.length_cons, List.length_nil]; omega) | fail)); done)); (conv => whnf)) | (refine Exists.intro _ (And.intro rfl ?_)) | (refine Exists.intro _ (Exists.intro _ (And.intro rfl ?_))) | (refine Exists.intro _ (Exists.intro _ (Exists.intro _ (And.intro rfl ?_)))) | fail)
  all_goals exact hr _ _ rfl (ret_eq hk (by simp [exB, *]))
def cRSigned : AC := fun args K k => ∃ l, args = [.p (.str l)] ∧ k (.ret (.p (.bool (signW.any (· == l))))) K
theorem rsigned_ok : COk 196 cRSigned := by
  rintro args K k ⟨l, rfl, hk⟩
  refine frame0P g0_ok 19 rfl fun Q hr => ?_
  conv => whnf
  refine loop_up (ι := Nat) [0, 3] (fun i => [(4, .p (.int .i64 i)), (2, .p (.bool false))]) (fun _ => [(0, .arr 9 1 0 13 fun i => [.p (.str (signW.getD i []))])])
    (fun i => i ≤ 13 ∧ (signW.take i).any (· == l) = false) (fun i => 13 - i) 0 ⟨AV.le_refl _, AV.le_refl _, trivial⟩ ⟨upLe1 rfl (ABlk.arr_eq rfl fun i hi => ?_), trivial⟩ ⟨by omega, rfl⟩ ?_
  · match i, hi with
    | 0, _ => rfl
    | 1, _ => rfl
    | 2, _ => rfl
    | 3, _ => rfl
    | 4, _ => rfl
    | 5, _ => rfl
    | 6, _ => rfl
    | 7, _ => rfl
    | 8, _ => rfl
    | 9, _ => rfl
    | 10, _ => rfl
    | 11, _ => rfl
    | 12, _ => rfl
    | n + 13, h => exact absurd h (by omega)
  intro Y hle i ⟨hi, ha⟩ ih
  conv => whnf
  repeat' (first | (refine two_eq (fun h => ?_) (fun h => ?_) <;> (conv => whnf)) | (refine two_ne (fun h => ?_) (fun h => ?_) <;> (conv => whnf)) | (refine two_not (fun h => ?_) (fun h => ?_) <;> (conv => whnf)) | (refine two_dec (fun h => ?_) (fun h => ?_) <;> (conv => whnf)) | (refine two_intro (fun h => ?_) (fun h => ?_) <;> (conv => whnf)) | (refine Chk.mk ?_ ?_; (focus (((repeat' (refine And.intro ?_ ?_)) <;> (first | omega | rfl | (simp only [List.length_append, List.length_cons, List.length_nil]; omega) | fail)); done)); (conv => whnf)) | (refine And.intro ?_ ?_; (focus (((repeat' (refine And.intro ?_ ?_)) <;> (first | omega | rfl | (simp only [List.length_append, List.length_cons, List.length_nil]; omega) | fail)); done)); (conv => whnf)) | (refine Exists.intro _ (And.intro rfl ?_)) | (refine Exists.intro _ (Exists.intro _ (And.intro rfl ?_))) | (refine Exists.intro _ (Exists.intro _ (Exists.intro _ (And.intro rfl ?_)))) | fail)
  · have hi2 : i < signW.length := by show i < 13; omega
    have h : signW.getD i [] = l := by rw [← ‹signW.getD _ [] = l›]; congr 1; omega
    rw [any_at hi2 h] at hk
    exact hr _ _ rfl hk
  · have hi2 : i < signW.length := by show i < 13; omega
    have h : signW.getD i [] ≠ l := by intro e; apply ‹signW.getD _ [] ≠ l›; rw [← e]; congr 1; omega
    refine hle _ _ (Le.env ?_ ?_) (ih (i + 1) (by omega) ⟨by omega, any_succ hi2 ha h⟩)
    · skip
      repeat' (first | exact trivial | ((conv => whnf); first | exact trivial | (refine And.intro (AV.le_refl _) ?_) | (refine And.intro (ABlk.le_refl _) ?_) | (refine And.intro (AV.le_of_eq ?_) ?_; (focus ((first | exact congrArg (fun x => AV.p (.int .i64 x)) (wz3 (by omega)) | fail); done))) | (refine And.intro (ABlk.le_of_eq ?_) ?_; (focus ((first | exact congrArg (fun x => AV.p (.int .i64 x)) (wz3 (by omega)) | fail); done))) | fail) | fail)
    · exact lesK.refl _
  · have h : i = signW.length := by show i = 13; omega
    rw [h, List.take_length] at ha
    rw [ha] at hk
    exact hr _ _ rfl hk
def cRNum4 : AC := fun args K k => ∃ n b, args = [nodeV n] ∧ numberS n.k n.n = b ∧ k (.ret (.p (.bool b))) K
theorem rnumbers_ok : COk 151 cRNum4 := by
  rintro args K k ⟨n, b, rfl, rfl, hk⟩
  refine frame0P g0_ok 19 rfl fun Q hr => ?_
  conv => whnf
  repeat' (first | (refine two_eq (fun h => ?_) (fun h => ?_) <;> (conv => whnf)) | (refine two_ne (fun h => ?_) (fun h => ?_) <;> (conv => whnf)) | (refine two_not (fun h => ?_) (fun h => ?_) <;> (conv => whnf)) | (refine two_dec (fun h => ?_) (fun h => ?_) <;> (conv => whnf)) | (refine two_intro (fun h => ?_) (fun h => ?_) <;> (conv => whnf)) | (refine Chk.mk ?_ ?_; (focus (((repeat' (refine And.intro ?_ ?_)) <;> (first | omega | rfl | (simp only [List.length_append, List.length_cons, List.length_nil]; omega) | fail)); done)); (conv => whnf)) | (refine And.intro ?_ ?_; (focus (((repeat' (refine And.intro ?_ ?_)) <;> (first | omega | rfl | (simp only [List.length_append, List.length_cons, List.length_nil]; omega) | fail)); done)); (conv => whnf)) | (refine Exists.intro _ (And.intro rfl ?_)) | (refine Exists.intro _ (Exists.intro _ (And.intro rfl ?_))) | (refine Exists.intro _ (Exists.intro _ (Exists.intro _ (And.intro rfl ?_)))) | fail)
  all_goals exact hr _ _ rfl (ret_eq hk (by simp [numberS, *]))
def gQ4 : AG := gput 195 cRIdent (gput 196 cRSigned (gput 198 (cKB stB) (gput 200 (cKB exB) g0)))
theorem gQ4_ok : GOk Tryz.prog gQ4 := gput_ok rident_ok (gput_ok rsigned_ok (gput_ok rst_ok (gput_ok rex_ok g0_ok)))
def cRTx4 : AC := fun args K k => ∃ n b, args = [nodeV n] ∧ n.tx.length < 1000000 ∧ text4 n.k n.tx = b ∧ k (.ret (.p (.bool b))) K
theorem rtexts_ok : COk 150 cRTx4 := by
  rintro args K k ⟨n, b, rfl, hl, rfl, hk⟩
  refine frame0P gQ4_ok 19 rfl fun Q hr => ?_
  conv => whnf
  refine ⟨n.tx, rfl, hl, ?_⟩
  conv => whnf
  repeat' (first | (refine two_eq (fun h => ?_) (fun h => ?_) <;> (conv => whnf)) | (refine two_ne (fun h => ?_) (fun h => ?_) <;> (conv => whnf)) | (refine two_not (fun h => ?_) (fun h => ?_) <;> (conv => whnf)) | (refine two_dec (fun h => ?_) (fun h => ?_) <;> (conv => whnf)) | (refine two_intro (fun h => ?_) (fun h => ?_) <;> (conv => whnf)) | (refine Chk.mk ?_ ?_; (focus (((repeat' (refine And.intro ?_ ?_)) <;> (first | omega | rfl | (simp only [List.length_append, List.length_cons, List.length_nil]; omega) | fail)); done)); (conv => whnf)) | (refine And.intro ?_ ?_; (focus (((repeat' (refine And.intro ?_ ?_)) <;> (first | omega | rfl | (simp only [List.length_append, List.length_cons, List.length_nil]; omega) | fail)); done)); (conv => whnf)) | (refine ⟨n.tx, rfl, ?_⟩; (conv => whnf)) | fail)
  all_goals exact hr _ _ rfl (ret_eq hk (by simp [text4, *]))
def cRises : AC := fun args K k => ∃ l a b c v, args = [intsV l, intV a, intV b, intV c] ∧ List.length l < 1000000 ∧ rises4 l a b c = v ∧ k (.ret (.p (.bool v))) K
theorem head_in {a : Int} {l : List Int} {i : Nat} (hi : i < l.length) (h : l.getD i 0 = a) : headN a (l.drop i) = 1 + headN a (l.drop (i + 1)) := by
  unfold headN
  have e : l.getD i 0 = l[i] := by simp [hi]
  rw [List.drop_eq_getElem_cons hi, List.takeWhile_cons_of_pos (by rw [← e, h]; simp), List.length_cons]; omega
theorem head_out {a : Int} {l : List Int} {i : Nat} (h : l.getD i 0 ≠ a ∨ l.length ≤ i) : headN a (l.drop i) = 0 := by
  unfold headN
  by_cases hi : i < l.length
  · have h := h.resolve_right (by omega)
    have e : l.getD i 0 = l[i] := by simp [hi]
    rw [List.drop_eq_getElem_cons hi, List.takeWhile_cons_of_neg (by rw [← e]; simpa using h)]; rfl
  · rw [List.drop_of_length_le (by omega)]; rfl
theorem rises_ok : COk 197 cRises := by
  rintro args K k ⟨l, a, b, c, v, rfl, hl, rfl, hk⟩
  refine frame0P g0_ok 19 rfl fun Q hr => ?_
  conv => whnf
  refine loop_up (ι := Nat) [0, 1, 2, 3] (fun j => [(9, intV j)]) (fun _ => []) (fun j => j ≤ l.length ∧ headN a l = j + headN a (l.drop j)) (fun j => l.length - j) 0 ⟨AV.le_refl _, trivial⟩ trivial ⟨Nat.zero_le _, by simp⟩ ?_
  rintro Y hle i ⟨hi, he⟩ ih
  conv => whnf
  refine two_dec (fun h => ?_) (fun h => ?_)
  · have h : i < l.length := by have h : (i : Int) < (l.length : Int) := h; omega
    have h' : (i : Int) < (l.length : Int) := by omega
    have hw1 := wzz (i := i) (by omega)
    conv => whnf
    refine ⟨⟨by omega, h', rfl⟩, ?_⟩
    conv => whnf
    refine two_eq (fun h2 => ?_) (fun h2 => ?_)
    · have h2 : l.getD i 0 = a := h2
      conv => whnf
      refine hle _ _ (Le.env ?_ ?_) (ih (i + 1) (by omega) ⟨by omega, by have := head_in h h2; omega⟩)
      · skip
        repeat' (first | exact trivial | ((conv => whnf); first | exact trivial | (refine And.intro (AV.le_refl _) ?_) | (refine And.intro (ABlk.le_refl _) ?_) | (refine And.intro (AV.le_of_eq ?_) ?_; (focus ((first | exact congrArg intV hw1 | fail); done))) | (refine And.intro (ABlk.le_of_eq ?_) ?_; (focus ((first | exact congrArg intV hw1 | fail); done))) | fail) | fail)
      · skip
        repeat' (first | exact trivial | ((conv => whnf); first | exact trivial | (refine And.intro (AV.le_refl _) ?_) | (refine And.intro (ABlk.le_refl _) ?_) | (refine And.intro (AV.le_of_eq ?_) ?_; (focus ((first | fail | fail); done))) | (refine And.intro (ABlk.le_of_eq ?_) ?_; (focus ((first | fail | fail); done))) | fail) | fail)
    · have h2 : l.getD i 0 ≠ a := h2
      have hi0 : headN a l = i := by have := head_out (a := a) (l := l) (i := i) (.inl h2); omega
      conv => whnf
      refine loop_up (ι := Nat) [0, 1, 2, 3] (fun j => [(9, intV j)]) (fun _ => []) (fun j => headN a l ≤ j ∧ j ≤ l.length ∧ headN b (l.drop (headN a l)) = (j - headN a l) + headN b (l.drop j)) (fun j => l.length - j) i ⟨AV.le_refl _, trivial⟩ trivial ⟨by omega, hi, by rw [hi0]; omega⟩ ?_
      rintro Z hlz j ⟨hj0, hj, hez⟩ ihz
      conv => whnf
      refine two_dec (fun h5 => ?_) (fun h5 => ?_)
      · have h5 : j < l.length := by have h5 : (j : Int) < (l.length : Int) := h5; omega
        have h5' : (j : Int) < (l.length : Int) := by omega
        have hw2 := wzz (i := j) (by omega)
        conv => whnf
        refine ⟨⟨by omega, h5', rfl⟩, ?_⟩
        conv => whnf
        refine two_eq (fun h6 => ?_) (fun h6 => ?_)
        · have h6 : l.getD j 0 = b := h6
          conv => whnf
          refine hlz _ _ (Le.env ?_ ?_) (ihz (j + 1) (by omega) ⟨by omega, by omega, by have := head_in h5 h6; omega⟩)
          · skip
            repeat' (first | exact trivial | ((conv => whnf); first | exact trivial | (refine And.intro (AV.le_refl _) ?_) | (refine And.intro (ABlk.le_refl _) ?_) | (refine And.intro (AV.le_of_eq ?_) ?_; (focus ((first | exact congrArg intV hw2 | fail); done))) | (refine And.intro (ABlk.le_of_eq ?_) ?_; (focus ((first | exact congrArg intV hw2 | fail); done))) | fail) | fail)
          · skip
            repeat' (first | exact trivial | ((conv => whnf); first | exact trivial | (refine And.intro (AV.le_refl _) ?_) | (refine And.intro (ABlk.le_refl _) ?_) | (refine And.intro (AV.le_of_eq ?_) ?_; (focus ((first | fail | fail); done))) | (refine And.intro (ABlk.le_of_eq ?_) ?_; (focus ((first | fail | fail); done))) | fail) | fail)
        · have h6 : l.getD j 0 ≠ b := h6
          have e0 : headN b (l.drop (headN a l)) = j - headN a l := by have := head_out (a := b) (l := l) (i := j) (.inl h6); omega
          have ej : headN a l + headN b (l.drop (headN a l)) = j := by omega
          simp only [rises4, ej] at hk
          conv => whnf
          refine two_ne (fun h8 => ?_) (fun h8 => ?_)
          · have h8 : c ≠ 0 := h8
            rw [bne_iff_ne.2 h8] at hk
            have hk : k (.ret (.p (.bool ((j : Int) == (l.length : Int) - 1 && l.getD j 0 == c)))) K := hk
            have hwl : IntKind.i64.wrap ((l.length : Int) - 1) = (l.length : Int) - 1 := by rw [w64 ⟨by omega, by omega⟩]
            conv => whnf
            refine two_eq (fun h9 => ?_) (fun h9 => ?_)
            · have h9 : (j : Int) = (l.length : Int) - 1 := by rw [← hwl]; exact h9
              have hjl : (j : Int) < (l.length : Int) := by omega
              rw [beq_iff_eq.2 h9, Bool.true_and] at hk
              conv => whnf
              refine ⟨⟨by omega, hjl, rfl⟩, ?_⟩
              conv => whnf
              exact hr _ _ rfl hk
            · have h9 : (j : Int) ≠ (l.length : Int) - 1 := by rw [← hwl]; exact h9
              rw [beq_eq_false_iff_ne.2 h9, Bool.false_and] at hk
              conv => whnf
              exact hr _ _ rfl hk
          · have h8 : c = 0 := h8
            subst h8
            have hk : k (.ret (.p (.bool ((j : Int) == (l.length : Int))))) K := hk
            conv => whnf
            exact hr _ _ rfl hk
      · have h5 : l.length ≤ j := by have h5 : ¬ (j : Int) < (l.length : Int) := h5; omega
        have e0 : headN b (l.drop (headN a l)) = j - headN a l := by have := head_out (a := b) (l := l) (i := j) (.inr h5); omega
        have ej : headN a l + headN b (l.drop (headN a l)) = j := by omega
        simp only [rises4, ej] at hk
        conv => whnf
        refine two_ne (fun h8 => ?_) (fun h8 => ?_)
        · have h8 : c ≠ 0 := h8
          rw [bne_iff_ne.2 h8] at hk
          have hk : k (.ret (.p (.bool ((j : Int) == (l.length : Int) - 1 && l.getD j 0 == c)))) K := hk
          have hwl : IntKind.i64.wrap ((l.length : Int) - 1) = (l.length : Int) - 1 := by rw [w64 ⟨by omega, by omega⟩]
          conv => whnf
          refine two_eq (fun h9 => ?_) (fun h9 => ?_)
          · have h9 : (j : Int) = (l.length : Int) - 1 := by rw [← hwl]; exact h9
            have hjl : (j : Int) < (l.length : Int) := by omega
            rw [beq_iff_eq.2 h9, Bool.true_and] at hk
            conv => whnf
            refine ⟨⟨by omega, hjl, rfl⟩, ?_⟩
            conv => whnf
            exact hr _ _ rfl hk
          · have h9 : (j : Int) ≠ (l.length : Int) - 1 := by rw [← hwl]; exact h9
            rw [beq_eq_false_iff_ne.2 h9, Bool.false_and] at hk
            conv => whnf
            exact hr _ _ rfl hk
        · have h8 : c = 0 := h8
          subst h8
          have hk : k (.ret (.p (.bool ((j : Int) == (l.length : Int))))) K := hk
          conv => whnf
          exact hr _ _ rfl hk
  · have h : l.length ≤ i := by have h : ¬ (i : Int) < (l.length : Int) := h; omega
    have hi0 : headN a l = i := by have := head_out (a := a) (l := l) (i := i) (.inr h); omega
    conv => whnf
    refine loop_up (ι := Nat) [0, 1, 2, 3] (fun j => [(9, intV j)]) (fun _ => []) (fun j => headN a l ≤ j ∧ j ≤ l.length ∧ headN b (l.drop (headN a l)) = (j - headN a l) + headN b (l.drop j)) (fun j => l.length - j) i ⟨AV.le_refl _, trivial⟩ trivial ⟨by omega, hi, by rw [hi0]; omega⟩ ?_
    rintro Z hlz j ⟨hj0, hj, hez⟩ ihz
    conv => whnf
    refine two_dec (fun h5 => ?_) (fun h5 => ?_)
    · have h5 : j < l.length := by have h5 : (j : Int) < (l.length : Int) := h5; omega
      have h5' : (j : Int) < (l.length : Int) := by omega
      have hw2 := wzz (i := j) (by omega)
      conv => whnf
      refine ⟨⟨by omega, h5', rfl⟩, ?_⟩
      conv => whnf
      refine two_eq (fun h6 => ?_) (fun h6 => ?_)
      · have h6 : l.getD j 0 = b := h6
        conv => whnf
        refine hlz _ _ (Le.env ?_ ?_) (ihz (j + 1) (by omega) ⟨by omega, by omega, by have := head_in h5 h6; omega⟩)
        · skip
          repeat' (first | exact trivial | ((conv => whnf); first | exact trivial | (refine And.intro (AV.le_refl _) ?_) | (refine And.intro (ABlk.le_refl _) ?_) | (refine And.intro (AV.le_of_eq ?_) ?_; (focus ((first | exact congrArg intV hw2 | fail); done))) | (refine And.intro (ABlk.le_of_eq ?_) ?_; (focus ((first | exact congrArg intV hw2 | fail); done))) | fail) | fail)
        · skip
          repeat' (first | exact trivial | ((conv => whnf); first | exact trivial | (refine And.intro (AV.le_refl _) ?_) | (refine And.intro (ABlk.le_refl _) ?_) | (refine And.intro (AV.le_of_eq ?_) ?_; (focus ((first | fail | fail); done))) | (refine And.intro (ABlk.le_of_eq ?_) ?_; (focus ((first | fail | fail); done))) | fail) | fail)
      · have h6 : l.getD j 0 ≠ b := h6
        have e0 : headN b (l.drop (headN a l)) = j - headN a l := by have := head_out (a := b) (l := l) (i := j) (.inl h6); omega
        have ej : headN a l + headN b (l.drop (headN a l)) = j := by omega
        simp only [rises4, ej] at hk
        conv => whnf
        refine two_ne (fun h8 => ?_) (fun h8 => ?_)
        · have h8 : c ≠ 0 := h8
          rw [bne_iff_ne.2 h8] at hk
          have hk : k (.ret (.p (.bool ((j : Int) == (l.length : Int) - 1 && l.getD j 0 == c)))) K := hk
          have hwl : IntKind.i64.wrap ((l.length : Int) - 1) = (l.length : Int) - 1 := by rw [w64 ⟨by omega, by omega⟩]
          conv => whnf
          refine two_eq (fun h9 => ?_) (fun h9 => ?_)
          · have h9 : (j : Int) = (l.length : Int) - 1 := by rw [← hwl]; exact h9
            have hjl : (j : Int) < (l.length : Int) := by omega
            rw [beq_iff_eq.2 h9, Bool.true_and] at hk
            conv => whnf
            refine ⟨⟨by omega, hjl, rfl⟩, ?_⟩
            conv => whnf
            exact hr _ _ rfl hk
          · have h9 : (j : Int) ≠ (l.length : Int) - 1 := by rw [← hwl]; exact h9
            rw [beq_eq_false_iff_ne.2 h9, Bool.false_and] at hk
            conv => whnf
            exact hr _ _ rfl hk
        · have h8 : c = 0 := h8
          subst h8
          have hk : k (.ret (.p (.bool ((j : Int) == (l.length : Int))))) K := hk
          conv => whnf
          exact hr _ _ rfl hk
    · have h5 : l.length ≤ j := by have h5 : ¬ (j : Int) < (l.length : Int) := h5; omega
      have e0 : headN b (l.drop (headN a l)) = j - headN a l := by have := head_out (a := b) (l := l) (i := j) (.inr h5); omega
      have ej : headN a l + headN b (l.drop (headN a l)) = j := by omega
      simp only [rises4, ej] at hk
      conv => whnf
      refine two_ne (fun h8 => ?_) (fun h8 => ?_)
      · have h8 : c ≠ 0 := h8
        rw [bne_iff_ne.2 h8] at hk
        have hk : k (.ret (.p (.bool ((j : Int) == (l.length : Int) - 1 && l.getD j 0 == c)))) K := hk
        have hwl : IntKind.i64.wrap ((l.length : Int) - 1) = (l.length : Int) - 1 := by rw [w64 ⟨by omega, by omega⟩]
        conv => whnf
        refine two_eq (fun h9 => ?_) (fun h9 => ?_)
        · have h9 : (j : Int) = (l.length : Int) - 1 := by rw [← hwl]; exact h9
          have hjl : (j : Int) < (l.length : Int) := by omega
          rw [beq_iff_eq.2 h9, Bool.true_and] at hk
          conv => whnf
          refine ⟨⟨by omega, hjl, rfl⟩, ?_⟩
          conv => whnf
          exact hr _ _ rfl hk
        · have h9 : (j : Int) ≠ (l.length : Int) - 1 := by rw [← hwl]; exact h9
          rw [beq_eq_false_iff_ne.2 h9, Bool.false_and] at hk
          conv => whnf
          exact hr _ _ rfl hk
      · have h8 : c = 0 := h8
        subst h8
        have hk : k (.ret (.p (.bool ((j : Int) == (l.length : Int))))) K := hk
        conv => whnf
        exact hr _ _ rfl hk
def cRAll4 : AC := fun args K k => ∃ l n f b, args = [.p (.sl 1 n f)] ∧ n = List.length l ∧ (∀ i, i < n → f i = kidF l i) ∧ List.length l < 1000000 ∧ l.all exB = b ∧ k (.ret (.p (.bool b))) K
theorem rall4_ok : COk 199 cRAll4 := by
  rintro args K k ⟨l, n, f, b, rfl, rfl, hf, hl, rfl, hk⟩
  refine ACalls.pre (?_ : ACalls _ _ [intsV l] K k) (Wk.le ⟨AV.sl_le rfl fun i hi => (hf i hi).symm, trivial⟩ (lesK.refl K))
  refine frame0P (gput_ok rex_ok g0_ok) 19 rfl fun Q hr => ?_
  conv => whnf
  refine loop_up (ι := Nat) [0] (fun j => [(3, intV j)]) (fun _ => []) (fun j => j ≤ l.length ∧ (l.drop j).all exB = l.all exB) (fun j => l.length - j) 0 ⟨AV.le_refl _, trivial⟩ trivial ⟨Nat.zero_le _, by simp⟩ ?_
  rintro Y hle i ⟨hi, he⟩ ih
  conv => whnf
  refine two_dec (fun h => ?_) (fun h => ?_)
  · have h : i < l.length := by have h : (i : Int) < (l.length : Int) := h; omega
    have h' : (i : Int) < (l.length : Int) := by omega
    have hw1 := wzz (i := i) (by omega)
    have e1 : l.getD i 0 = l[i] := by simp [h]
    rw [List.drop_eq_getElem_cons h, List.all_cons, ← e1] at he
    conv => whnf
    refine ⟨⟨by omega, h', rfl⟩, ?_⟩
    conv => whnf
    cases hx : exB (l.getD i 0) with
    | false =>
      rw [hx, Bool.false_and] at he
      refine ⟨l.getD i 0, false, rfl, hx, ?_⟩
      rw [← he] at hk
      conv => whnf
      exact hr _ _ rfl hk
    | true =>
      rw [hx, Bool.true_and] at he
      refine ⟨l.getD i 0, true, rfl, hx, ?_⟩
      conv => whnf
      refine hle _ _ (Le.env ?_ ?_) (ih (i + 1) (by omega) ⟨by omega, he⟩)
      · skip
        repeat' (first | exact trivial | ((conv => whnf); first | exact trivial | (refine And.intro (AV.le_refl _) ?_) | (refine And.intro (ABlk.le_refl _) ?_) | (refine And.intro (AV.le_of_eq ?_) ?_; (focus ((first | exact congrArg intV hw1 | fail); done))) | (refine And.intro (ABlk.le_of_eq ?_) ?_; (focus ((first | exact congrArg intV hw1 | fail); done))) | fail) | fail)
      · skip
        repeat' (first | exact trivial | ((conv => whnf); first | exact trivial | (refine And.intro (AV.le_refl _) ?_) | (refine And.intro (ABlk.le_refl _) ?_) | (refine And.intro (AV.le_of_eq ?_) ?_; (focus ((first | fail | fail); done))) | (refine And.intro (ABlk.le_of_eq ?_) ?_; (focus ((first | fail | fail); done))) | fail) | fail)
  · obtain rfl : i = l.length := by have h : ¬ (i : Int) < (l.length : Int) := h; omega
    rw [List.drop_length, List.all_nil] at he
    rw [← he] at hk
    conv => whnf
    exact hr _ _ rfl hk
end Go.Proofs.YtojjkleplnijaaaGreatDoor

namespace Go.Proofs.YtojjkleplnijaaaGreatDoor
open Go.AE Go.Ru
set_option maxRecDepth 100000
set_option maxHeartbeats 1000000
theorem list_eq_len {a b : List Int} (h : a.length = b.length) (h' : ∀ i, i < a.length → a.getD i 0 = b.getD i 0) : a = b := by
  refine List.ext_getElem h fun i h1 h2 => ?_
  have := h' i h1
  simpa [h1, h2] using this
def cTEqI : AC := fun args K k => ∃ (a b : List Int) (f : Nat → List AV) (X : List ABlk), args = [intsV a, .slr 0 0 0 b.length] ∧ K = [.arr 3 1 0 b.length f] ++ X ∧ a.length < 1000000 ∧ (∀ i, i < b.length → f i = [intV (b.getD i 0)]) ∧
  k (.ret (.p (.bool (a == b)))) ([.arr 3 1 0 b.length f] ++ X)
theorem teqI_ok : COk 112 cTEqI := by
  rintro args K k ⟨a, b, f, X, rfl, rfl, ha, hf, hk⟩
  refine frameG (K0 := [.arr 3 1 0 b.length f]) g0_ok 19 rfl ⟨fun i hi => by rw [hf i hi]; rfl, trivial⟩ fun Q hr => ?_
  conv => whnf
  refine two_ne (fun h => ?_) (fun h => ?_)
  · have h : (a.length : Int) ≠ (b.length : Int) := h
    conv => whnf
    refine hr _ _ _ _ rfl rfl ⟨fun i hi => by rw [hf i hi]; rfl, trivial⟩ (AV.le_of_eq ?_) (lesK.refl _) hk
    have : a ≠ b := fun e => h (by rw [e])
    rw [beq_eq_false_iff_ne.2 this]
  have h : a.length = b.length := by have h : (a.length : Int) = (b.length : Int) := h; omega
  conv => whnf
  refine loop_up (ι := Nat) [0, 1, 12] (fun i => [(13, intV i)]) (fun _ => []) (fun i => i ≤ a.length ∧ ∀ j, j < i → a.getD j 0 = b.getD j 0) (fun i => a.length - i) 0 ⟨AV.le_refl _, trivial⟩ trivial ⟨Nat.zero_le _, fun j hj => absurd hj (Nat.not_lt_zero j)⟩ ?_
  rintro Y hle i ⟨hi, he⟩ ih
  conv => whnf
  refine two_dec (fun h2 => ?_) (fun h2 => ?_)
  · have h2 : i < a.length := by have h2 : (i : Int) < (a.length : Int) := h2; omega
    have hw1 := wzz (i := i) (by omega)
    conv => whnf
    refine ⟨⟨by omega, by omega, rfl⟩, ?_⟩
    conv => whnf
    refine ⟨⟨rfl, Nat.zero_add _, by omega, by omega, rfl⟩, ?_⟩
    conv => whnf
    refine ⟨⟨rfl, rfl⟩, ?_⟩
    have hf2 : f (0 + (i : Int).toNat) = [intV (b.getD i 0)] := by rw [Nat.zero_add]; exact hf i (by omega)
    rw [hf2]
    conv => whnf
    refine two_ne (fun h3 => ?_) (fun h3 => ?_)
    · have h3 : a.getD i 0 ≠ b.getD i 0 := h3
      conv => whnf
      refine hr _ _ _ _ rfl rfl ⟨fun i hi => by rw [hf i hi]; rfl, trivial⟩ (AV.le_of_eq ?_) (lesK.refl _) hk
      have : a ≠ b := fun e => h3 (by rw [e])
      rw [beq_eq_false_iff_ne.2 this]
    · have h3 : a.getD i 0 = b.getD i 0 := h3
      conv => whnf
      refine hle _ _ (Le.env ?_ ?_) (ih (i + 1) (by omega) ⟨by omega, fun j hj => ?_⟩)
      · skip
        repeat' (first | exact trivial | ((conv => whnf); first | exact trivial | (refine And.intro (AV.le_refl _) ?_) | (refine And.intro (ABlk.le_refl _) ?_) | (refine And.intro (AV.le_of_eq ?_) ?_; (focus ((first | exact congrArg intV hw1 | fail); done))) | (refine And.intro (ABlk.le_of_eq ?_) ?_; (focus ((first | exact congrArg intV hw1 | fail); done))) | fail) | fail)
      · skip
        repeat' (first | exact trivial | ((conv => whnf); first | exact trivial | (refine And.intro (AV.le_refl _) ?_) | (refine And.intro (ABlk.le_refl _) ?_) | (refine And.intro (AV.le_of_eq ?_) ?_; (focus ((first | fail | fail); done))) | (refine And.intro (ABlk.le_of_eq ?_) ?_; (focus ((first | fail | fail); done))) | fail) | fail)
      · by_cases e : j = i
        · subst e; exact h3
        · exact he j (by omega)
  · obtain rfl : i = a.length := by have h2 : ¬ (i : Int) < (a.length : Int) := h2; omega
    conv => whnf
    refine hr _ _ _ _ rfl rfl ⟨fun i hi => by rw [hf i hi]; rfl, trivial⟩ (AV.le_of_eq ?_) (lesK.refl _) hk
    rw [list_eq_len h he, beq_self_eq_true]
def gTPl : AG := gput 48 cParams (gput 112 cTEqI g0)
theorem gTPl_ok : GOk Tryz.prog gTPl := gput_ok params_ok (gput_ok teqI_ok g0_ok)
def cTPlain : AC := fun args K k => ∃ ns root p, args = [scV ns root, .p (.int .i64 ((p : Nat) : Int))] ∧ Std ns root ∧ p < ns.length ∧ k (.ret (.p (.bool (tplainS ns p)))) K
theorem params_le (ns : List Nd) (p : Nat) : (paramsS ns p).length ≤ (nd ns p).kids.length := by
  unfold paramsS; rw [List.length_map]; exact List.length_filter_le _ _
theorem tplain_ok : COk 57 cTPlain := by
  rintro args K k ⟨ns, root, p, rfl, st, hp, hk⟩
  have hm := st.many p hp
  have hl := st.len
  have hle := params_le ns p
  refine frame0P gTPl_ok 19 rfl fun Q hr => ?_
  unfold tplainS at hk
  conv => whnf
  refine ⟨ns, root, p, rfl, st, hp, ?_⟩
  conv => whnf
  refine ⟨paramsS ns p, [1], _, [], rfl, rfl, by omega, fun i hi => ?_, ?_⟩
  · obtain rfl : i = 0 := by simpa using hi
    rfl
  conv => whnf
  refine two_intro (fun h => ?_) (fun h => ?_)
  · rw [h] at hk
    conv => whnf
    refine ⟨⟨by omega, by omega, rfl⟩, ?_⟩
    conv => whnf
    exact hr _ _ rfl hk
  · rw [h] at hk
    conv => whnf
    exact hr _ _ rfl hk
def gEx2 : AG := gput 113 cKind g0
theorem gEx2_ok : GOk Tryz.prog gEx2 := gput_ok kind_ok g0_ok
def cTy : AC := fun args K k => ∃ ns root i, args = [scV ns root, .p (.int .i64 ((i : Nat) : Int))] ∧ Std ns root ∧ i < ns.length ∧ k (.ret (intV (tyS ns root i))) K
theorem ty_ok : COk 59 cTy := by
  rintro args K k ⟨ns, root, i, rfl, st, hi, hk⟩
  have hl := st.len
  refine frame0P gEx2_ok 19 rfl fun Q hr => ?_
  have e : nd ns i = ns.getD ((i : Int)).toNat default := rfl
  conv => whnf
  refine ⟨⟨by omega, by omega, rfl⟩, ?_⟩
  conv => whnf
  repeat' (first | (refine two_eq (fun h => ?_) (fun h => ?_) <;> (conv => whnf)) | (refine two_ne (fun h => ?_) (fun h => ?_) <;> (conv => whnf)) | (refine two_not (fun h => ?_) (fun h => ?_) <;> (conv => whnf)) | (refine two_dec (fun h => ?_) (fun h => ?_) <;> (conv => whnf)) | (refine two_intro (fun h => ?_) (fun h => ?_) <;> (conv => whnf)) | (refine ⟨ns, root, i, _, rfl, st, hi, ?_⟩; (conv => whnf)) | fail)
  all_goals refine hr _ _ rfl (ret_eq hk (congrArg intV ?_))
  all_goals clear hr hk
  all_goals unfold tyS arith
  all_goals rw [e]
  all_goals simp_all
end Go.Proofs.YtojjkleplnijaaaGreatDoor

namespace Go.Ru
def firstIx (p : Int → Bool) (i : Nat) : List Int → Int
  | [] => -1
  | q :: r => match p q with
    | true => (i : Int)
    | false => firstIx p (i + 1) r
theorem firstIx_any (p : Int → Bool) (i : Nat) (l : List Int) : decide (firstIx p i l ≥ 0) = l.any p := by
  induction l generalizing i with
  | nil => rfl
  | cons q r ih =>
    unfold firstIx
    rw [List.any_cons]
    cases h : p q with
    | true => simp
    | false => simp only [ih, Bool.false_or]
end Go.Ru
namespace Go.Proofs.YtojjkleplnijaaaGreatDoor
open Go.AE Go.Ru
set_option maxRecDepth 100000
set_option maxHeartbeats 1000000
def gTy : AG := gput 59 cTy g0
theorem gTy_ok : GOk Tryz.prog gTy := gput_ok ty_ok g0_ok
def InR (ns : List Nd) (q : Int) : Prop := 0 ≤ q ∧ q < (ns.length : Int)
def allK (ns : List Nd) (root kind : Int) : List ABlk := [.box 62 [scV ns root], .box 3 [intV kind]]
def cAll1 : AC := fun args K k => ∃ ns root kind q X, args = [intV q, .ptr 0 0 1 0 0, .ptr 1 0 1 0 0] ∧ K = allK ns root kind ++ X ∧ Std ns root ∧ InR ns q ∧ k (.ret (.p (.bool (tyS ns root q.toNat != kind)))) (allK ns root kind ++ X)
theorem all1_ok : COk 146 cAll1 := by
  rintro args K k ⟨ns, root, kind, q, X, rfl, rfl, st, ⟨h1, h2⟩, hk⟩
  obtain ⟨i, rfl⟩ : ∃ i : Nat, q = (i : Int) := ⟨q.toNat, by omega⟩
  refine frameG (K0 := allK ns root kind) gTy_ok 19 rfl ⟨rfl, rfl, trivial⟩ fun Q hr => ?_
  conv => whnf
  refine ⟨ns, root, i, rfl, st, by omega, ?_⟩
  conv => whnf
  repeat ((refine And.intro ?_ ?_); (focus ((conv => whnf); done)); (conv => whnf))
  exact hr _ _ _ _ rfl rfl ⟨rfl, rfl, trivial⟩ (AV.le_refl _) (lesK.refl _) hk
def gAl1 : AG := gput 146 cAll1 g0
theorem gAl1_ok : GOk Tryz.prog gAl1 := gput_ok all1_ok g0_ok
def cIdxA : AC := fun args K k => ∃ ns root kind l X, args = [intsV l, .fn 146 [] [.ptr 0 0 1 0 0, .ptr 1 0 1 0 0]] ∧ K = allK ns root kind ++ X ∧ Std ns root ∧ List.length l < 1000000 ∧ (∀ q ∈ l, InR ns q) ∧
  k (.ret (intV (firstIx (fun q => tyS ns root q.toNat != kind) 0 l))) (allK ns root kind ++ X)
theorem idxA_ok : COk 166 cIdxA := by
  rintro args K k ⟨ns, root, kind, l, X, rfl, rfl, st, hl, hq, hk⟩
  refine frameG (K0 := allK ns root kind) gAl1_ok 19 rfl ⟨rfl, rfl, trivial⟩ fun Q hr => ?_
  conv => whnf
  refine loop_up (ι := Nat) [0, 1, 7] (fun i => [(8, intV i)]) (fun _ => []) (fun i => i ≤ l.length ∧ firstIx (fun q => tyS ns root q.toNat != kind) i (l.drop i) = firstIx (fun q => tyS ns root q.toNat != kind) 0 l) (fun i => l.length - i) 0 ⟨AV.le_refl _, trivial⟩ trivial ⟨Nat.zero_le _, rfl⟩ ?_
  rintro Y hle i ⟨hi, he⟩ ih
  conv => whnf
  refine two_dec (fun h => ?_) (fun h => ?_)
  · have h : i < l.length := by have h : (i : Int) < (l.length : Int) := h; omega
    have hw1 := wzz (i := i) (by omega)
    rw [List.drop_eq_getElem_cons h] at he
    have e1 : l.getD i 0 = l[i] := by simp [h]
    have hm := hq _ (List.getElem_mem h)
    rw [← e1] at he hm
    conv => whnf
    refine ⟨⟨by omega, by omega, rfl⟩, ?_⟩
    conv => whnf
    refine ⟨ns, root, kind, l.getD i 0, [], rfl, rfl, st, hm, ?_⟩
    conv => whnf
    refine two_intro (fun h2 => ?_) (fun h2 => ?_)
    · simp only [firstIx, h2] at he
      conv => whnf
      exact hr _ _ _ _ rfl rfl ⟨rfl, rfl, trivial⟩ (AV.le_refl _) (lesK.refl _) (he ▸ hk)
    · simp only [firstIx, h2] at he
      conv => whnf
      refine hle _ _ (Le.env ?_ ?_) (ih (i + 1) (by omega) ⟨by omega, he⟩)
      · skip
        repeat' (first | exact trivial | ((conv => whnf); first | exact trivial | (refine And.intro (AV.le_refl _) ?_) | (refine And.intro (ABlk.le_refl _) ?_) | (refine And.intro (AV.le_of_eq ?_) ?_; (focus ((first | exact congrArg intV hw1 | fail); done))) | (refine And.intro (ABlk.le_of_eq ?_) ?_; (focus ((first | exact congrArg intV hw1 | fail); done))) | fail) | fail)
      · skip
        repeat' (first | exact trivial | ((conv => whnf); first | exact trivial | (refine And.intro (AV.le_refl _) ?_) | (refine And.intro (ABlk.le_refl _) ?_) | (refine And.intro (AV.le_of_eq ?_) ?_; (focus ((first | fail | fail); done))) | (refine And.intro (ABlk.le_of_eq ?_) ?_; (focus ((first | fail | fail); done))) | fail) | fail)
  · obtain rfl : i = l.length := by have h : ¬ (i : Int) < (l.length : Int) := h; omega
    rw [List.drop_length] at he
    rw [← he] at hk
    conv => whnf
    exact hr _ _ _ _ rfl rfl ⟨rfl, rfl, trivial⟩ (AV.le_refl _) (lesK.refl _) hk
def gAl : AG := gput 166 cIdxA g0
theorem gAl_ok : GOk Tryz.prog gAl := gput_ok idxA_ok g0_ok
def cAllS : AC := fun args K k => ∃ ns root kind l, args = [scV ns root, intsV l, intV kind] ∧ Std ns root ∧ List.length l < 1000000 ∧ (∀ q ∈ l, InR ns q) ∧ k (.ret (.p (.bool (allS ns root l kind)))) K
theorem allS_ok : COk 100 cAllS := by
  rintro args K k ⟨ns, root, kind, l, rfl, st, hl, hq, hk⟩
  refine frame0P gAl_ok 19 rfl fun Q hr => ?_
  conv => whnf
  refine ⟨ns, root, kind, l, [], rfl, rfl, st, hl, hq, ?_⟩
  conv => whnf
  refine hr _ _ rfl (ret_eq hk (congrArg (fun b => AV.p (.bool b)) ?_))
  show _ = !decide (firstIx (fun q => tyS ns root q.toNat != kind) 0 l ≥ 0)
  rw [firstIx_any, List.not_any_eq_all_not]
  unfold allS
  congr 1
  funext q
  simp only [bne, Bool.not_not]
def gOp : AG := gput 100 cAllS g0
theorem gOp_ok : GOk Tryz.prog gOp := gput_ok allS_ok g0_ok
def cOperands : AC := fun args K k => ∃ ns root n, args = [scV ns root, nodeV n] ∧ Std ns root ∧ n.kids.length < 1000000 ∧ (∀ q ∈ n.kids, InR ns q) ∧ k (.ret (.p (.bool (operandsS ns root n)))) K
theorem operands_ok : COk 102 cOperands := by
  rintro args K k ⟨ns, root, n, rfl, st, hl, hq, hk⟩
  refine frame0P gOp_ok 19 rfl fun Q hr => ?_
  conv => whnf
  repeat' (first | (refine two_eq (fun h => ?_) (fun h => ?_) <;> (conv => whnf)) | (refine two_ne (fun h => ?_) (fun h => ?_) <;> (conv => whnf)) | (refine two_not (fun h => ?_) (fun h => ?_) <;> (conv => whnf)) | (refine two_dec (fun h => ?_) (fun h => ?_) <;> (conv => whnf)) | (refine two_intro (fun h => ?_) (fun h => ?_) <;> (conv => whnf)) | (refine ⟨ns, root, _, n.kids, rfl, st, hl, hq, ?_⟩; (conv => whnf)) | fail)
  all_goals refine hr _ _ rfl (ret_eq hk (congrArg (fun b => AV.p (.bool b)) ?_))
  all_goals clear hr hk
  all_goals unfold operandsS
  all_goals simp_all
end Go.Proofs.YtojjkleplnijaaaGreatDoor

namespace Go.Ru
theorem kinds_get {ns : List Nd} {n : Nd} {j : Nat} (hj : j < n.kids.length) : (kindsS ns n)[j]? = some (nd ns (n.kids.getD j 0).toNat).k := by
  simp [kindsS, nd, List.getElem?_map, hj]
theorem kinds_mem {ns : List Nd} {n : Nd} {q : Int} (h : q ∈ n.kids) : (nd ns q.toNat).k ∈ kindsS ns n := List.mem_map.2 ⟨q, h, rfl⟩
theorem kinds_len (ns : List Nd) (n : Nd) : (kindsS ns n).length = n.kids.length := by simp [kindsS]
section
variable {ns : List Nd} {root : Int} (h : RightT ns root)
include h
theorem RightT.up {i : Nat} (hi : i < ns.length) (hr : (i : Int) ≠ root) : ∃ p, i < p ∧ p < ns.length ∧ (i : Int) ∈ (nd ns p).kids ∧ parF ns root i = (p : Int) := by
  have := h.rt
  exact h.toStd.par_up i (by omega)
theorem RightT.notroot {i : Nat} (_ : i < ns.length) (hk : (nd ns i).k ≠ 1) : (i : Int) ≠ root := fun e => by
  have := h.top
  rw [← e] at this
  exact hk (by simpa using this)
theorem RightT.decl {i : Nat} (hi : i < ns.length) (hk : (nd ns i).k = 4 ∨ (nd ns i).k = 5) : ∃ p, i < p ∧ p < ns.length ∧ (i : Int) ∈ (nd ns p).kids ∧ (nd ns p).k = 3 ∧ own ns root i = (p : Int) := by
  obtain ⟨p, h1, h2, h3, h4⟩ := h.up hi (h.notroot hi (by omega))
  have h5 := kid_kind (h.shape p h2) (kinds_mem h3)
  simp only [Int.toNat_natCast] at h5
  have h6 : (nd ns p).k = 3 := by
    rcases h5 with ⟨_, h5⟩ | ⟨h5, _⟩ | ⟨_, h5⟩ | ⟨_, _, h5⟩ | ⟨_, h5⟩ | ⟨_, h5⟩ | ⟨_, h5⟩
    · omega
    · exact h5
    · simp only [stB, Bool.and_eq_true, decide_eq_true_eq] at h5; omega
    · simp only [exB, Bool.and_eq_true, decide_eq_true_eq] at h5; omega
    · omega
    · omega
    · omega
  refine ⟨p, h1, h2, h3, h6, ?_⟩
  have h7 := own_kid h.toStd h2 h3 (by simp only [Int.toNat_natCast]; omega)
  simp only [Int.toNat_natCast] at h7
  rw [h7, own_eq h.toStd h2, if_pos h6]
theorem RightT.owned : ∀ (m i : Nat), ns.length - i ≤ m → i < ns.length → (nd ns i).k ≠ 1 → (nd ns i).k ≠ 2 → 0 ≤ own ns root i ∧ own ns root i < ns.length := by
  intro m
  induction m with
  | zero => intro i h1 h2; omega
  | succ m ih =>
    intro i h1 hi k1 k2
    rw [own_eq h.toStd hi]
    by_cases k3 : (nd ns i).k = 3
    · rw [if_pos k3]; omega
    rw [if_neg k3, if_neg (h.notroot hi k1)]
    obtain ⟨p, p1, p2, p3, p4⟩ := h.up hi (h.notroot hi k1)
    have h5 := kid_kind (h.shape p p2) (kinds_mem p3)
    simp only [Int.toNat_natCast] at h5
    rw [p4, Int.toNat_natCast]
    refine ih p (by omega) p2 ?_ ?_
    · omega
    · omega
theorem insT_in {i : Nat} (hi : i < ns.length) : insT ns root (i : Int) = true := by
  simp only [insT, h.ok, Bool.and_true, Bool.and_eq_true, decide_eq_true_eq]; omega
theorem ownerT_in {i : Nat} (hi : i < ns.length) : ownerT ns root (i : Int) = own ns root i := by
  unfold ownerT; rw [insT_in h hi]; simp
theorem lookupT_in {i : Nat} (hi : i < ns.length) (t : Bs) : lookupT ns root (i : Int) t = meansS ns root i t := by
  unfold lookupT; rw [insT_in h hi]; simp
theorem typeT_in {i : Nat} (hi : i < ns.length) : typeT ns root (i : Int) = tyS ns root i := by
  unfold typeT; rw [insT_in h hi]; simp
theorem owner_law {i : Nat} (hi : i < ns.length) :
    ((nd ns i).k = 3 → own ns root i = (i : Int)) ∧ ((i : Int) = root → own ns root i = -1) ∧ ((nd ns i).k ≠ 3 → (i : Int) ≠ root → own ns root i = ownerT ns root (parF ns root i)) := by
  have h1 := own_eq h.toStd hi
  refine ⟨fun e => by rw [h1, if_pos e], fun e => ?_, fun e e2 => ?_⟩
  · have : (nd ns i).k = 1 := by have := h.top; rw [← e] at this; simpa using this
    rw [h1, if_neg (by omega), if_pos e]
  · rw [h1, if_neg e, if_neg e2]
    obtain ⟨p, _, h2, _, h4⟩ := h.up hi e2
    rw [h4, ownerT_in h h2]; rfl
theorem owner_means {i : Nat} (hi : i < ns.length) (hk : (nd ns i).k = 4 ∨ (nd ns i).k = 5) :
    0 ≤ meansS ns root i (nd ns i).tx ∧ meansS ns root i (nd ns i).tx ≤ i ∧ (nd ns (meansS ns root i (nd ns i).tx).toNat).tx = (nd ns i).tx ∧ ownerT ns root (meansS ns root i (nd ns i).tx) = own ns root i := by
  obtain ⟨p, h1, h2, h3, h4, h5⟩ := h.decl hi hk
  obtain ⟨j, hj, hji⟩ := firstB_ex (p := locP ns root (own ns root i) (nd ns i).tx) hi (by
    simp only [locP, beq_self_eq_true, Bool.and_self, Bool.and_true, Bool.or_eq_true, beq_iff_eq]; exact hk)
  obtain ⟨g1, g2, _⟩ := firstB_some hj
  have e : meansS ns root i (nd ns i).tx = (j : Int) := by
    unfold meansS
    rw [show (own ns root i == -1) = false by rw [h5]; exact beq_eq_false_iff_ne.2 (by omega)]
    simp only [locS, hj]
  simp only [locP, Bool.and_eq_true, beq_iff_eq] at g2
  rw [e, ownerT_in h g1]
  exact ⟨by omega, by omega, g2.2.2, g2.2.1⟩
theorem owner_none {i : Nat} (_ : i < ns.length) (ho : own ns root i < 0) (t : Bs) : meansS ns root i t < 0 := by
  unfold meansS
  rcases own_range h.toStd ‹_› with e | ⟨e, _⟩
  · rw [e]; simp
  · omega
omit h in
theorem told_ok {b : Bool} (h : toldS b = 0) : b = true := by
  cases b with
  | true => rfl
  | false => simp [toldS] at h
omit h in
theorem named_ok {i : Nat} {fits : Int → Bool} (hc : tnamedS ns root i fits = 0) : 0 ≤ meansS ns root i (nd ns i).tx ∧ fits (nd ns (meansS ns root i (nd ns i).tx).toNat).n = true ∧ kindS ns root i (nd ns i).tx = (nd ns (meansS ns root i (nd ns i).tx).toNat).n := by
  unfold tnamedS at hc
  split at hc
  · cases hc
  rename_i hd
  have hk : kindS ns root i (nd ns i).tx = (nd ns (meansS ns root i (nd ns i).tx).toNat).n := by
    unfold kindS
    rw [show (meansS ns root i (nd ns i).tx != -1) = true by simpa using hd]
  rw [hk] at hc
  refine ⟨?_, told_ok hc, hk⟩
  rcases means_range ns root i (nd ns i).tx with e | ⟨e, _⟩
  · exact absurd e hd
  · exact e
omit h in
theorem wrong_none : ∀ (m j : Nat), wrongS ns root j m = none → ∀ i, j ≤ i → i < j + m → checkS ns root i = 0 := by
  intro m
  induction m with
  | zero => intro j _ i h1 h2; omega
  | succ m ih =>
    intro j hw i h1 h2
    simp only [wrongS] at hw
    split at hw
    · rename_i hc
      by_cases e : i = j
      · subst e; simpa using hc
      · exact ih (j + 1) hw i (by omega) (by omega)
    · cases hw
theorem mean_law {i : Nat} (hi : i < ns.length) (hall : ∀ i, i < ns.length → checkS ns root i = 0) :
    ((nd ns i).k = 22 → 0 ≤ meansS ns root i (nd ns i).tx ∧ tyS ns root i = (nd ns (meansS ns root i (nd ns i).tx).toNat).n) ∧
    ((nd ns i).k = 23 ∨ (nd ns i).k = 24 ∨ (nd ns i).k = 8 ∨ (nd ns i).k = 17 → 0 ≤ meansS ns root i (nd ns i).tx ∧ (nd ns (meansS ns root i (nd ns i).tx).toNat).n = 3) ∧
    ((nd ns i).k = 9 ∨ (nd ns i).k = 16 → 0 ≤ meansS ns root i (nd ns i).tx ∧ (nd ns (meansS ns root i (nd ns i).tx).toNat).n = 1) ∧
    ((nd ns i).k = 7 → 0 ≤ meansS ns root i (nd ns i).tx ∧ (nd ns (meansS ns root i (nd ns i).tx).toNat).n = tyS ns root ((nd ns i).kids.getD 0 0).toNat) ∧
    ((nd ns i).k = 25 → plainT ns root (procI ns (nd ns i).tx) = true) ∧
    ((nd ns i).k = 19 → ¬ (meansS ns root i (nd ns i).tx < 0 ∧ procI ns (nd ns i).tx < 0) ∧ (0 ≤ meansS ns root i (nd ns i).tx → (nd ns (meansS ns root i (nd ns i).tx).toNat).n = 4)) := by
  have hc := hall i hi
  refine ⟨fun hk => ?_, fun hk => ?_, fun hk => ?_, fun hk => ?_, fun hk => ?_, fun hk => ?_⟩
  · simp [checkS, hk] at hc
    obtain ⟨h1, _, h3⟩ := named_ok hc
    refine ⟨h1, ?_⟩
    rw [← h3]
    simp [tyS, hk]
  · rcases hk with hk | hk | hk | hk
    all_goals
      simp [checkS, hk] at hc
      obtain ⟨h1, h2, _⟩ := named_ok hc
      simp only [Bool.and_eq_true, beq_iff_eq] at h2
      first | exact ⟨h1, h2.1⟩ | exact ⟨h1, h2⟩
  · rcases hk with hk | hk
    all_goals
      simp [checkS, hk] at hc
      obtain ⟨h1, h2, _⟩ := named_ok hc
      simp only [beq_iff_eq] at h2
      exact ⟨h1, h2⟩
  · simp [checkS, hk] at hc
    obtain ⟨h1, h2, _⟩ := named_ok hc
    refine ⟨h1, ?_⟩
    simpa using h2
  · simp [checkS, hk] at hc
    rcases procI_range ns (nd ns i).tx with e | ⟨e1, e2, e3⟩
    · rw [if_pos e] at hc; cases hc
    · rw [if_neg (by omega)] at hc
      unfold plainT
      simp only [insT, h.ok, e3, told_ok hc, Bool.and_true, Bool.and_eq_true, decide_eq_true_eq, beq_self_eq_true, and_true]
      omega
  · obtain ⟨p, h1, h2, h3, _⟩ := h.up hi (h.notroot hi (by omega))
    have hks := kinds_mem (ns := ns) h3
    simp only [Int.toNat_natCast, hk] at hks
    have h5 := kid_kind (h.shape p h2) hks
    have h6 : (nd ns p).k = 13 := by
      rcases h5 with ⟨_, h5⟩ | ⟨_, h5⟩ | ⟨_, h5⟩ | ⟨_, _, h5⟩ | ⟨_, h5⟩ | ⟨_, h5⟩ | ⟨h5, _⟩
      · omega
      · omega
      · simp [stB] at h5
      · simp [exB] at h5
      · omega
      · omega
      · exact h5
    have hsh := h.shape p h2
    rw [h6] at hsh
    obtain ⟨a, ha, hb⟩ : ∃ a, kindsS ns (nd ns p) = 19 :: a ∧ ∀ x ∈ a, exB x = true := hsh
    have hfirst : (nd ns p).kids.getD 0 0 = (i : Int) := by
      obtain ⟨j, hj, hje⟩ := List.mem_iff_getElem.1 h3
      have hkj := kinds_get (ns := ns) hj
      rw [List.getD_eq_getElem?_getD, List.getElem?_eq_getElem hj, hje] at hkj
      simp only [Option.getD_some, Int.toNat_natCast, hk] at hkj
      cases j with
      | zero => rw [List.getD_eq_getElem?_getD, List.getElem?_eq_getElem hj, hje]; rfl
      | succ j =>
        rw [ha, List.getElem?_cons_succ] at hkj
        have := hb 19 (List.mem_of_getElem? hkj)
        simp [exB] at this
    have ho : own ns root i = own ns root p := by
      have := own_kid h.toStd h2 h3 (by simp only [Int.toNat_natCast]; omega)
      simpa using this
    have hm : ∀ t, meansS ns root i t = meansS ns root p t := fun t => by unfold meansS; rw [ho]
    have hcp := hall p h2
    simp [checkS, h6] at hcp
    unfold tcallS at hcp
    simp only [hfirst, Int.toNat_natCast] at hcp
    rw [hm]
    split at hcp
    · cases hcp
    rename_i hn
    split at hcp
    · rename_i hd
      have hp : procI ns (nd ns i).tx ≠ -1 := fun e => hn (.inl ⟨hd, e⟩)
      refine ⟨fun ⟨_, hq⟩ => ?_, fun hq => by omega⟩
      rcases procI_range ns (nd ns i).tx with e | ⟨e, _⟩ <;> omega
    · rename_i hd
      split at hcp
      · cases hcp
      · rename_i h4
        refine ⟨fun ⟨hq, _⟩ => ?_, fun _ => by omega⟩
        rcases means_range ns root p (nd ns i).tx with e | ⟨e, _⟩ <;> omega
omit h in
theorem main_text (hp : procI ns mainT ≠ -1) : (nd ns (procI ns mainT).toNat).tx = mainT := by
  rcases natO_range (p := procP ns mainT) (n := ns.length) with e | ⟨_, _, e⟩
  · exact absurd e hp
  · simp only [procP, Bool.and_eq_true, beq_iff_eq] at e
    exact e.2
end
theorem ck2 {ns : List Nd} {root : Int} {i : Nat} (h : (nd ns i).k = 2) : checkS ns root i = if twiceS ns root i (nd ns i) then 4 else 0 := by simp [checkS, h]
theorem ck3 {ns : List Nd} {root : Int} {i : Nat} (h : (nd ns i).k = 3) : checkS ns root i = if twiceS ns root i (nd ns i) then 4 else 0 := by simp [checkS, h]
theorem ck4 {ns : List Nd} {root : Int} {i : Nat} (h : (nd ns i).k = 4) : checkS ns root i = if twiceS ns root i (nd ns i) then 4 else 0 := by simp [checkS, h]
theorem ck5 {ns : List Nd} {root : Int} {i : Nat} (h : (nd ns i).k = 5) : checkS ns root i = if twiceS ns root i (nd ns i) then 4 else 0 := by simp [checkS, h]
theorem ck22 {ns : List Nd} {root : Int} {i : Nat} (h : (nd ns i).k = 22) : checkS ns root i = tnamedS ns root i fun _ => true := by simp [checkS, h]
theorem ck23 {ns : List Nd} {root : Int} {i : Nat} (h : (nd ns i).k = 23) : checkS ns root i = tnamedS ns root i fun k => k == 3 && allS ns root (nd ns i).kids 1 := by simp [checkS, h]
theorem ck8 {ns : List Nd} {root : Int} {i : Nat} (h : (nd ns i).k = 8) : checkS ns root i = tnamedS ns root i fun k => k == 3 && allS ns root (nd ns i).kids 1 := by simp [checkS, h]
theorem ck17 {ns : List Nd} {root : Int} {i : Nat} (h : (nd ns i).k = 17) : checkS ns root i = tnamedS ns root i fun k => k == 3 && allS ns root (nd ns i).kids 1 := by simp [checkS, h]
theorem ck24 {ns : List Nd} {root : Int} {i : Nat} (h : (nd ns i).k = 24) : checkS ns root i = tnamedS ns root i fun k => k == 3 := by simp [checkS, h]
theorem ck9 {ns : List Nd} {root : Int} {i : Nat} (h : (nd ns i).k = 9) : checkS ns root i = tnamedS ns root i fun k => k == 1 := by simp [checkS, h]
theorem ck16 {ns : List Nd} {root : Int} {i : Nat} (h : (nd ns i).k = 16) : checkS ns root i = tnamedS ns root i fun k => k == 1 := by simp [checkS, h]
theorem ck7 {ns : List Nd} {root : Int} {i : Nat} (h : (nd ns i).k = 7) : checkS ns root i = tnamedS ns root i fun k => k == tyS ns root ((nd ns i).kids.getD 0 0).toNat := by simp [checkS, h]
theorem ck25 {ns : List Nd} {root : Int} {i : Nat} (h : (nd ns i).k = 25) : checkS ns root i = if procI ns (nd ns i).tx = -1 then 3 else toldS (tplainS ns (procI ns (nd ns i).tx).toNat) := by simp [checkS, h]
theorem ck26 {ns : List Nd} {root : Int} {i : Nat} (h : (nd ns i).k = 26) : checkS ns root i = toldS (operandsS ns root (nd ns i)) := by simp [checkS, h]
theorem ck27 {ns : List Nd} {root : Int} {i : Nat} (h : (nd ns i).k = 27) : checkS ns root i = toldS (operandsS ns root (nd ns i)) := by simp [checkS, h]
theorem ck10 {ns : List Nd} {root : Int} {i : Nat} (h : (nd ns i).k = 10) : checkS ns root i = toldS (allS ns root (nd ns i).kids.tail 1) := by simp [checkS, h]
theorem ck15 {ns : List Nd} {root : Int} {i : Nat} (h : (nd ns i).k = 15) : checkS ns root i = toldS (allS ns root (nd ns i).kids 1) := by simp [checkS, h]
theorem ck11 {ns : List Nd} {root : Int} {i : Nat} (h : (nd ns i).k = 11) : checkS ns root i = toldS (allS ns root ((nd ns i).kids.take 1) 2) := by simp [checkS, h]
theorem ck12 {ns : List Nd} {root : Int} {i : Nat} (h : (nd ns i).k = 12) : checkS ns root i = toldS (allS ns root ((nd ns i).kids.take 1) 2) := by simp [checkS, h]
theorem ck13 {ns : List Nd} {root : Int} {i : Nat} (h : (nd ns i).k = 13) : checkS ns root i = tcallS ns root i (nd ns i) := by simp [checkS, h]
theorem ck14 {ns : List Nd} {root : Int} {i : Nat} (h : (nd ns i).k = 14) : checkS ns root i = toldS (((nd ns (own ns root i).toNat).n == 0) == ((nd ns i).kids.length == 0) && allS ns root (nd ns i).kids (nd ns (own ns root i).toNat).n) := by simp [checkS, h]
theorem ckD {ns : List Nd} {root : Int} {i : Nat} (h2 : (nd ns i).k ≠ 2) (h3 : (nd ns i).k ≠ 3) (h4 : (nd ns i).k ≠ 4) (h5 : (nd ns i).k ≠ 5) (h22 : (nd ns i).k ≠ 22) (h23 : (nd ns i).k ≠ 23) (h8 : (nd ns i).k ≠ 8) (h17 : (nd ns i).k ≠ 17) (h24 : (nd ns i).k ≠ 24) (h9 : (nd ns i).k ≠ 9) (h16 : (nd ns i).k ≠ 16) (h7 : (nd ns i).k ≠ 7) (h25 : (nd ns i).k ≠ 25) (h26 : (nd ns i).k ≠ 26) (h27 : (nd ns i).k ≠ 27) (h10 : (nd ns i).k ≠ 10) (h15 : (nd ns i).k ≠ 15) (h11 : (nd ns i).k ≠ 11) (h12 : (nd ns i).k ≠ 12) (h13 : (nd ns i).k ≠ 13) (h14 : (nd ns i).k ≠ 14) : checkS ns root i = 0 := by simp [checkS, h2, h3, h4, h5, h22, h23, h8, h17, h24, h9, h16, h7, h25, h26, h27, h10, h15, h11, h12, h13, h14]
end Go.Ru

namespace Go.Proofs.YtojjkleplnijaaaGreatDoor
open Go.AE Go.Ru
set_option maxRecDepth 100000
set_option maxHeartbeats 1000000
def cTwice : AC := fun args K k => ∃ ns root i, args = [scV ns root, .p (.int .i64 ((i : Nat) : Int)), nodeV (nd ns i)] ∧ RightT ns root ∧ i < ns.length ∧ k (.ret (.p (.bool (twiceS ns root i (nd ns i))))) K
theorem twice_ok : COk 96 cTwice := by
  rintro args K k ⟨ns, root, i, rfl, rt, hi, hk⟩
  have hl := rt.len
  refine frame0P g0_ok 19 rfl fun Q hr => ?_
  unfold twiceS at hk
  have loc : (nd ns i).k = 4 ∨ (nd ns i).k = 5 → isProcB ns (own ns root i) = true := fun h => by
    obtain ⟨p, _, _, _, _, h5⟩ := rt.decl hi h
    exact isProcB_own rt.toStd hi (by rw [h5]; omega)
  conv => whnf
  refine two_eq (fun h => ?_) (fun h => ?_)
  · have h : (nd ns i).k = 4 := h
    have loc := loc (.inl h)
    rw [if_pos (.inl h)] at hk
    conv => whnf
    refine ⟨⟨by omega, by omega, rfl⟩, ?_⟩
    conv => whnf
    refine MGet.pv_some (locM_yes loc) ?_
    conv => whnf
    cases hg : locS ns root (own ns root i) (nd ns i).tx with
    | some d =>
      rw [hg] at hk
      refine MGet.pv_some (strM_some hg) ?_
      conv => whnf
      exact hr _ _ rfl hk
    | none =>
      rw [hg] at hk
      refine MGet.pv_none (strM_none hg) ?_
      conv => whnf
      exact hr _ _ rfl hk
  have h : (nd ns i).k ≠ 4 := h
  conv => whnf
  refine two_eq (fun h5 => ?_) (fun h5 => ?_)
  · have h5 : (nd ns i).k = 5 := h5
    have loc := loc (.inr h5)
    rw [if_pos (.inr h5)] at hk
    conv => whnf
    refine ⟨⟨by omega, by omega, rfl⟩, ?_⟩
    conv => whnf
    refine MGet.pv_some (locM_yes loc) ?_
    conv => whnf
    cases hg : locS ns root (own ns root i) (nd ns i).tx with
    | some d =>
      rw [hg] at hk
      refine MGet.pv_some (strM_some hg) ?_
      conv => whnf
      exact hr _ _ rfl hk
    | none =>
      rw [hg] at hk
      refine MGet.pv_none (strM_none hg) ?_
      conv => whnf
      exact hr _ _ rfl hk
  have h5 : (nd ns i).k ≠ 5 := h5
  rw [if_neg (by omega)] at hk
  conv => whnf
  refine two_eq (fun h2 => ?_) (fun h2 => ?_)
  · have h2 : (nd ns i).k = 2 := h2
    rw [if_pos h2] at hk
    conv => whnf
    cases hg : globS ns (nd ns i).tx with
    | some d =>
      rw [hg] at hk
      refine MGet.pv_some (strM_some hg) ?_
      conv => whnf
      exact hr _ _ rfl hk
    | none =>
      rw [hg] at hk
      refine MGet.pv_none (strM_none hg) ?_
      conv => whnf
      exact hr _ _ rfl hk
  have h2 : (nd ns i).k ≠ 2 := h2
  rw [if_neg h2] at hk
  conv => whnf
  cases hg : globS ns (nd ns i).tx with
  | some d =>
    rw [hg] at hk
    refine MGet.pv_some (strM_some hg) ?_
    conv => whnf
    repeat' (first | (refine two_eq (fun h => ?_) (fun h => ?_) <;> (conv => whnf)) | (refine two_ne (fun h => ?_) (fun h => ?_) <;> (conv => whnf)) | (refine two_not (fun h => ?_) (fun h => ?_) <;> (conv => whnf)) | (refine two_dec (fun h => ?_) (fun h => ?_) <;> (conv => whnf)) | (refine two_intro (fun h => ?_) (fun h => ?_) <;> (conv => whnf)) | (refine Chk.mk ?_ ?_; (focus (((repeat' (refine And.intro ?_ ?_)) <;> (first | omega | rfl | (simp only [List.length_append, List.length_cons, List.length_nil]; omega) | fail)); done)); (conv => whnf)) | (refine And.intro ?_ ?_; (focus (((repeat' (refine And.intro ?_ ?_)) <;> (first | omega | rfl | (simp only [List.length_append, List.length_cons, List.length_nil]; omega) | fail)); done)); (conv => whnf)) | (refine Exists.intro _ (And.intro rfl ?_)) | (refine Exists.intro _ (Exists.intro _ (And.intro rfl ?_))) | (refine Exists.intro _ (Exists.intro _ (Exists.intro _ (And.intro rfl ?_)))) | fail)
    exact hr _ _ rfl hk
  | none =>
    rw [hg] at hk
    refine MGet.pv_none (strM_none hg) ?_
    conv => whnf
    cases hp : tprocS ns (nd ns i).tx with
    | some d =>
      rw [hp] at hk
      refine MGet.pv_some (strM_some hp) ?_
      conv => whnf
      exact hr _ _ rfl hk
    | none =>
      rw [hp] at hk
      refine MGet.pv_none (strM_none hp) ?_
      conv => whnf
      exact hr _ _ rfl hk
def cCall1 : AC := fun args K k => ∃ ns root q w X, args = [intV q, intV w, .ptr 0 0 1 0 0] ∧ K = [.box 62 [scV ns root]] ++ X ∧ Std ns root ∧ InR ns q ∧ k (.ret (.p (.bool (tyS ns root q.toNat == w)))) ([.box 62 [scV ns root]] ++ X)
theorem call1_ok : COk 148 cCall1 := by
  rintro args K k ⟨ns, root, q, w, X, rfl, rfl, st, ⟨h1, h2⟩, hk⟩
  obtain ⟨i, rfl⟩ : ∃ i : Nat, q = (i : Int) := ⟨q.toNat, by omega⟩
  refine frameG (K0 := [.box 62 [scV ns root]]) gTy_ok 19 rfl ⟨rfl, trivial⟩ fun Q hr => ?_
  conv => whnf
  refine ⟨ns, root, i, rfl, st, by omega, ?_⟩
  conv => whnf
  exact hr _ _ _ _ rfl rfl ⟨rfl, trivial⟩ (AV.le_refl _) (lesK.refl _) hk
def gC1 : AG := gput 148 cCall1 g0
theorem gC1_ok : GOk Tryz.prog gC1 := gput_ok call1_ok g0_ok
def nodeB (n : Nd) : ABlk := .box 61 [.p (.int .i64 n.k), .p (.int .i64 n.n), .p (.int .i64 n.at_), .p (.str n.tx), .p (.sl 1 n.kids.length (kidF n.kids))]
def cTEqF : AC := fun args K k => ∃ (ns : List Nd) (root : Int) (l w : List Int) (X : List ABlk) (wv : AV), args = [intsV l, wv, .fn 148 [] [.ptr 0 0 1 0 0]] ∧ Std ns root ∧ l.length < 1000000 ∧ (∀ q ∈ l, InR ns q) ∧ w.length < 1000000 ∧
  ((wv = intsV w ∧ K = [.box 62 [scV ns root]] ++ X) ∨
    ∃ n f, wv = .slr 2 0 0 w.length ∧ K = [.box 62 [scV ns root], nodeB n, .arr 3 1 0 w.length f] ++ X ∧ ∀ i, i < w.length → f i = [intV (w.getD i 0)]) ∧
  k (.ret (.p (.bool (fitS ns root l w)))) K
theorem fitS_len {ns : List Nd} {root : Int} : ∀ {l w : List Int}, l.length ≠ w.length → fitS ns root l w = false := by
  intro l
  induction l with
  | nil => intro w h; cases w with
    | nil => exact absurd rfl h
    | cons => rfl
  | cons q l ih => intro w h; cases w with
    | nil => rfl
    | cons x w =>
      simp only [fitS]
      rw [ih (by simpa using h), Bool.and_false]
theorem teqF_ok : COk 147 cTEqF := by
  rintro args K k ⟨ns, root, l, w, X, wv, rfl, st, hl, hq, hwl, hwv, hk⟩
  rcases hwv with ⟨rfl, rfl⟩ | ⟨n, f, rfl, rfl, hf⟩
  · refine frameG (K0 := [.box 62 [scV ns root]]) gC1_ok 19 rfl ⟨rfl, trivial⟩ fun Q hr => ?_
    conv => whnf
    refine two_ne (fun h => ?_) (fun h => ?_)
    · have h : (l.length : Int) ≠ (w.length : Int) := h
      rw [fitS_len (by omega)] at hk
      conv => whnf
      exact hr _ _ _ _ rfl rfl ⟨rfl, trivial⟩ (AV.le_refl _) (lesK.refl _) hk
    have h : l.length = w.length := by have h : (l.length : Int) = (w.length : Int) := h; omega
    conv => whnf
    refine loop_up (ι := Nat) [1, 2, 15, 16] (fun i => [(17, intV i)]) (fun _ => []) (fun i => i ≤ l.length ∧ fitS ns root (l.drop i) (w.drop i) = fitS ns root l w) (fun i => l.length - i) 0 ⟨AV.le_refl _, trivial⟩ trivial ⟨Nat.zero_le _, rfl⟩ ?_
    rintro Y hle i ⟨hi, he⟩ ih
    conv => whnf
    refine two_dec (fun h2 => ?_) (fun h2 => ?_)
    · have h2 : i < l.length := by have h2 : (i : Int) < (l.length : Int) := h2; omega
      have hw1 := wzz (i := i) (by omega)
      rw [List.drop_eq_getElem_cons h2, List.drop_eq_getElem_cons (by omega : i < w.length)] at he
      simp only [fitS] at he
      have e1 : l.getD i 0 = l[i] := by simp [h2]
      have e2 : w.getD i 0 = w[i]'(by omega) := by simp [show i < w.length by omega]
      have hm := hq _ (List.getElem_mem h2)
      rw [← e1] at he hm
      rw [← e2] at he
      conv => whnf
      refine ⟨⟨by omega, by omega, rfl⟩, ?_⟩
      conv => whnf
      refine ⟨⟨by omega, by omega, rfl⟩, ?_⟩; (conv => whnf)
      refine ⟨ns, root, l.getD i 0, w.getD i 0, [], rfl, rfl, st, hm, ?_⟩
      conv => whnf
      refine two_not (fun h3 => ?_) (fun h3 => ?_)
      · rw [h3, Bool.false_and] at he
        conv => whnf
        exact hr _ _ _ _ rfl rfl ⟨rfl, trivial⟩ (AV.le_refl _) (lesK.refl _) (he ▸ hk)
      · rw [h3, Bool.true_and] at he
        conv => whnf
        refine hle _ _ (Le.env ?_ ?_) (ih (i + 1) (by omega) ⟨by omega, he⟩)
        · skip
          repeat' (first | exact trivial | ((conv => whnf); first | exact trivial | (refine And.intro (AV.le_refl _) ?_) | (refine And.intro (ABlk.le_refl _) ?_) | (refine And.intro (AV.le_of_eq ?_) ?_; (focus ((first | exact congrArg intV hw1 | fail); done))) | (refine And.intro (ABlk.le_of_eq ?_) ?_; (focus ((first | exact congrArg intV hw1 | fail); done))) | fail) | fail)
        · skip
          repeat' (first | exact trivial | ((conv => whnf); first | exact trivial | (refine And.intro (AV.le_refl _) ?_) | (refine And.intro (ABlk.le_refl _) ?_) | (refine And.intro (AV.le_of_eq ?_) ?_; (focus ((first | fail | fail); done))) | (refine And.intro (ABlk.le_of_eq ?_) ?_; (focus ((first | fail | fail); done))) | fail) | fail)
    · obtain rfl : i = l.length := by have h2 : ¬ (i : Int) < (l.length : Int) := h2; omega
      rw [List.drop_length, h, List.drop_length] at he
      rw [← he] at hk
      conv => whnf
      exact hr _ _ _ _ rfl rfl ⟨rfl, trivial⟩ (AV.le_refl _) (lesK.refl _) hk
  · have hcl : (ABlk.arr 3 1 0 w.length f).cl 3 := fun i hi => by rw [hf i hi]; rfl
    refine frameG (K0 := [.box 62 [scV ns root], nodeB n, .arr 3 1 0 w.length f]) gC1_ok 19 rfl ⟨rfl, rfl, hcl, trivial⟩ fun Q hr => ?_
    conv => whnf
    refine two_ne (fun h => ?_) (fun h => ?_)
    · have h : (l.length : Int) ≠ (w.length : Int) := h
      rw [fitS_len (by omega)] at hk
      conv => whnf
      exact hr _ _ _ _ rfl rfl ⟨rfl, rfl, hcl, trivial⟩ (AV.le_refl _) (lesK.refl _) hk
    have h : l.length = w.length := by have h : (l.length : Int) = (w.length : Int) := h; omega
    conv => whnf
    refine loop_up (ι := Nat) [1, 2, 15, 16] (fun i => [(17, intV i)]) (fun _ => []) (fun i => i ≤ l.length ∧ fitS ns root (l.drop i) (w.drop i) = fitS ns root l w) (fun i => l.length - i) 0 ⟨AV.le_refl _, trivial⟩ trivial ⟨Nat.zero_le _, rfl⟩ ?_
    rintro Y hle i ⟨hi, he⟩ ih
    conv => whnf
    refine two_dec (fun h2 => ?_) (fun h2 => ?_)
    · have h2 : i < l.length := by have h2 : (i : Int) < (l.length : Int) := h2; omega
      have hw1 := wzz (i := i) (by omega)
      rw [List.drop_eq_getElem_cons h2, List.drop_eq_getElem_cons (by omega : i < w.length)] at he
      simp only [fitS] at he
      have e1 : l.getD i 0 = l[i] := by simp [h2]
      have e2 : w.getD i 0 = w[i]'(by omega) := by simp [show i < w.length by omega]
      have hm := hq _ (List.getElem_mem h2)
      rw [← e1] at he hm
      rw [← e2] at he
      conv => whnf
      refine ⟨⟨by omega, by omega, rfl⟩, ?_⟩
      conv => whnf
      refine ⟨⟨rfl, Nat.zero_add _, by omega, by omega, rfl⟩, ?_⟩; (conv => whnf); refine ⟨⟨rfl, rfl⟩, ?_⟩; rw [show f (0 + (i : Int).toNat) = [intV (w.getD i 0)] by rw [Nat.zero_add]; exact hf i (by omega)]; (conv => whnf)
      refine ⟨ns, root, l.getD i 0, w.getD i 0, _, rfl, rfl, st, hm, ?_⟩
      conv => whnf
      refine two_not (fun h3 => ?_) (fun h3 => ?_)
      · rw [h3, Bool.false_and] at he
        conv => whnf
        exact hr _ _ _ _ rfl rfl ⟨rfl, rfl, hcl, trivial⟩ (AV.le_refl _) (lesK.refl _) (he ▸ hk)
      · rw [h3, Bool.true_and] at he
        conv => whnf
        refine hle _ _ (Le.env ?_ ?_) (ih (i + 1) (by omega) ⟨by omega, he⟩)
        · skip
          repeat' (first | exact trivial | ((conv => whnf); first | exact trivial | (refine And.intro (AV.le_refl _) ?_) | (refine And.intro (ABlk.le_refl _) ?_) | (refine And.intro (AV.le_of_eq ?_) ?_; (focus ((first | exact congrArg intV hw1 | fail); done))) | (refine And.intro (ABlk.le_of_eq ?_) ?_; (focus ((first | exact congrArg intV hw1 | fail); done))) | fail) | fail)
        · skip
          repeat' (first | exact trivial | ((conv => whnf); first | exact trivial | (refine And.intro (AV.le_refl _) ?_) | (refine And.intro (ABlk.le_refl _) ?_) | (refine And.intro (AV.le_of_eq ?_) ?_; (focus ((first | fail | fail); done))) | (refine And.intro (ABlk.le_of_eq ?_) ?_; (focus ((first | fail | fail); done))) | fail) | fail)
    · obtain rfl : i = l.length := by have h2 : ¬ (i : Int) < (l.length : Int) := h2; omega
      rw [List.drop_length, h, List.drop_length] at he
      rw [← he] at hk
      conv => whnf
      exact hr _ _ _ _ rfl rfl ⟨rfl, rfl, hcl, trivial⟩ (AV.le_refl _) (lesK.refl _) hk
end Go.Proofs.YtojjkleplnijaaaGreatDoor

namespace Go.Proofs.YtojjkleplnijaaaGreatDoor
open Go.AE Go.Ru
set_option maxRecDepth 100000
set_option maxHeartbeats 1000000
def gCa : AG := gput 55 cMeans (gput 47 cTProc (gput 113 cKind (gput 48 cParams (gput 147 cTEqF g0))))
theorem gCa_ok : GOk Tryz.prog gCa := gput_ok means_ok (gput_ok proc_ok' (gput_ok kind_ok (gput_ok params_ok (gput_ok teqF_ok g0_ok))))
def cCallS : AC := fun args K k => ∃ ns root i n q0 r, args = [scV ns root, .p (.int .i64 ((i : Nat) : Int)), nodeV n] ∧ Std ns root ∧ i < ns.length ∧ n.kids = q0 :: r ∧ (∀ q ∈ n.kids, InR ns q) ∧ n.kids.length < 1000000 ∧ k (.ret (intV (tcallS ns root i n))) K
theorem callS_ok : COk 103 cCallS := by
  rintro args K k ⟨ns, root, i, ⟨nk, nn, na, tx, kids⟩, q0, r, rfl, st, hi, hkd, hq, hl, hk⟩
  simp only at hkd hq hl
  subst hkd
  have hq0 := hq q0 (List.mem_cons_self ..)
  obtain ⟨j0, rfl⟩ : ∃ j : Nat, q0 = (j : Int) := ⟨q0.toNat, by have := hq0.1; omega⟩
  have hj0 : j0 < ns.length := by have := hq0.2; omega
  refine frame0P gCa_ok 19 rfl fun Q hr => ?_
  unfold tcallS at hk
  simp only [List.getD_cons_zero, Int.toNat_natCast, List.tail_cons] at hk
  conv => whnf
  refine ⟨⟨by omega, by show (0 : Int) < ((r.length + 1 : Nat) : Int); omega, rfl⟩, ?_⟩
  conv => whnf
  refine ⟨⟨by show (0 : Int) ≤ (j0 : Int); omega, by show (j0 : Int) < _; omega, rfl⟩, ?_⟩
  conv => whnf
  refine ⟨ns, root, i, (nd ns j0).tx, rfl, st, hi, ?_⟩
  conv => whnf
  repeat ((refine And.intro ?_ ?_); (focus ((conv => whnf); done)); (conv => whnf))
  refine ⟨ns, root, (nd ns j0).tx, rfl, ?_⟩
  conv => whnf
  repeat ((refine And.intro ?_ ?_); (focus ((conv => whnf); done)); (conv => whnf))
  have hd := means_range ns root i (nd ns j0).tx
  have hp := procI_range ns (nd ns j0).tx
  generalize meansS ns root i (nd ns j0).tx = d at hk hd ⊢
  generalize procI ns (nd ns j0).tx = p at hk hp ⊢
  have fin : ∀ (b : Bool), (if (b : Bool) then (0 : Int) else 5) = toldS b := fun b => rfl
  refine two_eq (fun h1 => ?_) (fun h1 => ?_)
  · have h1 : d = -1 := h1
    subst h1
    conv => whnf
    refine two_eq (fun h2 => ?_) (fun h2 => ?_)
    · have h2 : p = -1 := h2
      rw [if_pos (.inl ⟨rfl, h2⟩)] at hk
      conv => whnf
      exact hr _ _ rfl hk
    have h2 : p ≠ -1 := h2
    obtain ⟨pp, rfl⟩ : ∃ m : Nat, p = (m : Int) := ⟨p.toNat, by omega⟩
    have hpp : pp < ns.length := by omega
    have hpl := params_le ns pp
    have hpm := st.many pp hpp
    have hln := st.len
    simp only [Int.toNat_natCast] at hk
    conv => whnf
    refine two_not (fun h3 => ?_) (fun h3 => ?_)
    · have h3 : (tx == []) = false := h3
      conv => whnf
      refine ⟨ns, root, i, tx, rfl, st, hi, ?_⟩
      conv => whnf
      refine two_eq (fun h4 => ?_) (fun h4 => ?_)
      · have h4 : meansS ns root i tx = -1 := h4
        rw [if_pos (.inr ⟨by simpa using h3, h4⟩)] at hk
        conv => whnf
        exact hr _ _ rfl hk
      have h4 : meansS ns root i tx ≠ -1 := h4
      rw [if_neg (by rintro (⟨_, h⟩ | ⟨h, h'⟩); exact h2 h; exact h4 h'), if_pos trivial] at hk
      conv => whnf
      refine ⟨⟨by omega, by omega, rfl⟩, ?_⟩
      conv => whnf
      refine ⟨ns, root, pp, rfl, st, hpp, ?_⟩
      conv => whnf
      repeat ((refine And.intro ?_ ?_); (focus ((conv => whnf); first | done | exact ⟨⟨by omega, by omega, rfl⟩, by conv => whnf⟩)); (conv => whnf))
      conv => whnf
      refine ⟨⟨by omega, by show (1 : Int) ≤ ((r.length + 1 : Nat) : Int); omega, Int.le_refl _, rfl⟩, ?_⟩
      conv => whnf
      refine ⟨ns, root, r, paramsS ns pp, _, _, rfl, st, by simp only [List.length_cons] at hl; omega, fun q h => hq q (List.mem_cons_of_mem _ h), by omega, .inl ⟨rfl, rfl⟩, ?_⟩
      conv => whnf
      repeat' (first | (refine two_eq (fun h => ?_) (fun h => ?_) <;> (conv => whnf)) | (refine two_ne (fun h => ?_) (fun h => ?_) <;> (conv => whnf)) | (refine two_not (fun h => ?_) (fun h => ?_) <;> (conv => whnf)) | (refine two_dec (fun h => ?_) (fun h => ?_) <;> (conv => whnf)) | (refine two_intro (fun h => ?_) (fun h => ?_) <;> (conv => whnf)) | (refine ⟨ns, root, i, tx, rfl, st, hi, ?_⟩; (conv => whnf)) | fail)
      all_goals refine hr _ _ rfl (ret_eq hk (congrArg intV ?_))
      all_goals clear hr hk
      all_goals (try simp only [show ∀ j, ns.getD j default = nd ns j from fun _ => rfl, Int.toNat_natCast] at *)
      all_goals simp_all [toldS]
    · have h3 : (tx == []) = true := h3
      rw [if_neg (by rintro (⟨_, h⟩ | ⟨h, h'⟩); exact h2 h; exact absurd (by simpa using h3) h), if_pos trivial] at hk
      conv => whnf
      refine ⟨⟨by omega, by omega, rfl⟩, ?_⟩
      conv => whnf
      refine ⟨ns, root, pp, rfl, st, hpp, ?_⟩
      conv => whnf
      repeat ((refine And.intro ?_ ?_); (focus ((conv => whnf); first | done | exact ⟨⟨by omega, by omega, rfl⟩, by conv => whnf⟩)); (conv => whnf))
      conv => whnf
      refine ⟨⟨by omega, by show (1 : Int) ≤ ((r.length + 1 : Nat) : Int); omega, Int.le_refl _, rfl⟩, ?_⟩
      conv => whnf
      refine ⟨ns, root, r, paramsS ns pp, _, _, rfl, st, by simp only [List.length_cons] at hl; omega, fun q h => hq q (List.mem_cons_of_mem _ h), by omega, .inl ⟨rfl, rfl⟩, ?_⟩
      conv => whnf
      repeat' (first | (refine two_eq (fun h => ?_) (fun h => ?_) <;> (conv => whnf)) | (refine two_ne (fun h => ?_) (fun h => ?_) <;> (conv => whnf)) | (refine two_not (fun h => ?_) (fun h => ?_) <;> (conv => whnf)) | (refine two_dec (fun h => ?_) (fun h => ?_) <;> (conv => whnf)) | (refine two_intro (fun h => ?_) (fun h => ?_) <;> (conv => whnf)) | (refine ⟨ns, root, i, tx, rfl, st, hi, ?_⟩; (conv => whnf)) | fail)
      all_goals refine hr _ _ rfl (ret_eq hk (congrArg intV ?_))
      all_goals clear hr hk
      all_goals (try simp only [show ∀ j, ns.getD j default = nd ns j from fun _ => rfl, Int.toNat_natCast] at *)
      all_goals simp_all [toldS]
  · have h1 : d ≠ -1 := h1
    obtain ⟨dd, rfl⟩ : ∃ m : Nat, d = (m : Int) := ⟨d.toNat, by omega⟩
    have hdd : dd < ns.length := by omega
    simp only [Int.toNat_natCast] at hk
    conv => whnf
    refine two_not (fun h3 => ?_) (fun h3 => ?_)
    · have h3 : (tx == []) = false := h3
      conv => whnf
      refine ⟨ns, root, i, tx, rfl, st, hi, ?_⟩
      conv => whnf
      refine two_eq (fun h4 => ?_) (fun h4 => ?_)
      · have h4 : meansS ns root i tx = -1 := h4
        rw [if_pos (.inr ⟨by simpa using h3, h4⟩)] at hk
        conv => whnf
        exact hr _ _ rfl hk
      have h4 : meansS ns root i tx ≠ -1 := h4
      rw [if_neg (by rintro (⟨h, _⟩ | ⟨h, h'⟩); exact h1 h; exact h4 h'), if_neg h1] at hk
      conv => whnf
      refine ⟨⟨by omega, by omega, rfl⟩, ?_⟩
      conv => whnf
      refine two_ne (fun h5 => ?_) (fun h5 => ?_)
      · have h5 : (nd ns dd).n ≠ 4 := h5
        rw [if_pos h5] at hk
        conv => whnf
        exact hr _ _ rfl hk
      have h5 : (nd ns dd).n = 4 := h5
      rw [if_neg (not_not_intro h5)] at hk
      conv => whnf
      conv => whnf
      refine ⟨⟨by omega, by show (1 : Int) ≤ ((r.length + 1 : Nat) : Int); omega, Int.le_refl _, rfl⟩, ?_⟩
      conv => whnf
      refine ⟨ns, root, r, [1], _, _, rfl, st, by simp only [List.length_cons] at hl; omega, fun q h => hq q (List.mem_cons_of_mem _ h), by simp, .inr ⟨⟨nk, nn, na, tx, (j0 : Int) :: r⟩, _, rfl, rfl, fun i hi => by obtain rfl : i = 0 := (by simpa using hi); rfl⟩, ?_⟩
      conv => whnf
      repeat' (first | (refine two_eq (fun h => ?_) (fun h => ?_) <;> (conv => whnf)) | (refine two_ne (fun h => ?_) (fun h => ?_) <;> (conv => whnf)) | (refine two_not (fun h => ?_) (fun h => ?_) <;> (conv => whnf)) | (refine two_dec (fun h => ?_) (fun h => ?_) <;> (conv => whnf)) | (refine two_intro (fun h => ?_) (fun h => ?_) <;> (conv => whnf)) | (refine ⟨ns, root, i, tx, rfl, st, hi, ?_⟩; (conv => whnf)) | fail)
      all_goals refine hr _ _ rfl (ret_eq hk (congrArg intV ?_))
      all_goals clear hr hk
      all_goals (try simp only [show ∀ j, ns.getD j default = nd ns j from fun _ => rfl, Int.toNat_natCast] at *)
      all_goals simp_all [toldS]
    · have h3 : (tx == []) = true := h3
      rw [if_neg (by rintro (⟨h, _⟩ | ⟨h, h'⟩); exact h1 h; exact absurd (by simpa using h3) h), if_neg h1] at hk
      conv => whnf
      refine ⟨⟨by omega, by omega, rfl⟩, ?_⟩
      conv => whnf
      refine two_ne (fun h5 => ?_) (fun h5 => ?_)
      · have h5 : (nd ns dd).n ≠ 4 := h5
        rw [if_pos h5] at hk
        conv => whnf
        exact hr _ _ rfl hk
      have h5 : (nd ns dd).n = 4 := h5
      rw [if_neg (not_not_intro h5)] at hk
      conv => whnf
      conv => whnf
      refine ⟨⟨by omega, by show (1 : Int) ≤ ((r.length + 1 : Nat) : Int); omega, Int.le_refl _, rfl⟩, ?_⟩
      conv => whnf
      refine ⟨ns, root, r, [1], _, _, rfl, st, by simp only [List.length_cons] at hl; omega, fun q h => hq q (List.mem_cons_of_mem _ h), by simp, .inr ⟨⟨nk, nn, na, tx, (j0 : Int) :: r⟩, _, rfl, rfl, fun i hi => by obtain rfl : i = 0 := (by simpa using hi); rfl⟩, ?_⟩
      conv => whnf
      repeat' (first | (refine two_eq (fun h => ?_) (fun h => ?_) <;> (conv => whnf)) | (refine two_ne (fun h => ?_) (fun h => ?_) <;> (conv => whnf)) | (refine two_not (fun h => ?_) (fun h => ?_) <;> (conv => whnf)) | (refine two_dec (fun h => ?_) (fun h => ?_) <;> (conv => whnf)) | (refine two_intro (fun h => ?_) (fun h => ?_) <;> (conv => whnf)) | (refine ⟨ns, root, i, tx, rfl, st, hi, ?_⟩; (conv => whnf)) | fail)
      all_goals refine hr _ _ rfl (ret_eq hk (congrArg intV ?_))
      all_goals clear hr hk
      all_goals (try simp only [show ∀ j, ns.getD j default = nd ns j from fun _ => rfl, Int.toNat_natCast] at *)
      all_goals simp_all [toldS]
end Go.Proofs.YtojjkleplnijaaaGreatDoor

namespace Go.Proofs.YtojjkleplnijaaaGreatDoor
open Go.AE Go.Ru
set_option maxRecDepth 100000
set_option maxHeartbeats 4000000
def cAllF : AC := fun args K k => ∃ ns root kind l n f, args = [scV ns root, .p (.sl 1 n f), intV kind] ∧ n = List.length l ∧ (∀ i, i < n → f i = kidF l i) ∧ Std ns root ∧ List.length l < 1000000 ∧ (∀ q ∈ l, InR ns q) ∧ k (.ret (.p (.bool (allS ns root l kind)))) K
theorem allF_ok : COk 100 cAllF := by
  rintro args K k ⟨ns, root, kind, l, n, f, rfl, rfl, hf, st, hl, hq, hk⟩
  exact ACalls.pre (allS_ok _ K k ⟨ns, root, kind, l, rfl, st, hl, hq, hk⟩) (Wk.le ⟨AV.le_refl _, AV.sl_le rfl fun i hi => (hf i hi).symm, AV.le_refl _, trivial⟩ (lesK.refl K))
def gCh : AG := gput 55 cMeans (gput 47 cTProc (gput 113 cKind (gput 57 cTPlain (gput 59 cTy (gput 100 cAllF (gput 102 cOperands (gput 96 cTwice (gput 103 cCallS g0))))))))
theorem gCh_ok : GOk Tryz.prog gCh := gput_ok means_ok (gput_ok proc_ok' (gput_ok kind_ok (gput_ok tplain_ok (gput_ok ty_ok (gput_ok allF_ok (gput_ok operands_ok (gput_ok twice_ok (gput_ok callS_ok g0_ok))))))))
def cCheckN : AC := fun args K k => ∃ ns root i, args = [scV ns root, .p (.int .i64 ((i : Nat) : Int))] ∧ RightT ns root ∧ i < ns.length ∧ k (.ret (intV (checkS ns root i))) K
theorem kids_cons {ns : List Nd} {root : Int} (rt : RightT ns root) {i : Nat} (hi : i < ns.length) (h : (nd ns i).k = 7 ∨ (nd ns i).k = 10 ∨ (nd ns i).k = 11 ∨ (nd ns i).k = 12 ∨ (nd ns i).k = 13) : ∃ q r, (nd ns i).kids = q :: r := by
  have hs := rt.shape i hi
  have hl := kinds_len ns (nd ns i)
  cases hk : (nd ns i).kids with
  | cons q r => exact ⟨q, r, rfl⟩
  | nil =>
    rw [hk] at hl
    have hn : kindsS ns (nd ns i) = [] := List.length_eq_zero_iff.1 hl
    rw [hn] at hs
    rcases h with h | h | h | h | h <;> rw [h] at hs <;> simp [ShapeOf] at hs
theorem checkN_ok : COk 46 cCheckN := by
  rintro args K k ⟨ns, root, i, rfl, rt, hi, hk⟩
  have st := rt.toStd
  have hlen := st.len
  have hmany := st.many i hi
  have hlk : (nd ns i).kids.length < 1000000 := by omega
  have hqk : ∀ q ∈ (nd ns i).kids, InR ns q := fun q hq => by have := st.kid i hi q hq; exact ⟨this.1, by have := this.2.1; omega⟩
  refine frame0P gCh_ok 19 rfl fun Q hr => ?_
  have hnd : ∀ j, ns.getD j default = nd ns j := fun _ => rfl
  conv => whnf
  refine ⟨⟨by omega, by omega, rfl⟩, ?_⟩
  have hc : (ns.getD ((i : Int)).toNat default).k = 7 ∨ (ns.getD ((i : Int)).toNat default).k = 10 ∨ (ns.getD ((i : Int)).toNat default).k = 11 ∨ (ns.getD ((i : Int)).toNat default).k = 12 ∨ (ns.getD ((i : Int)).toNat default).k = 13 → ∃ q r, (nd ns i).kids = q :: r := kids_cons rt hi
  have hcc : (ns.getD ((i : Int)).toNat default).k = 7 ∨ (ns.getD ((i : Int)).toNat default).k = 10 ∨ (ns.getD ((i : Int)).toNat default).k = 11 ∨ (ns.getD ((i : Int)).toNat default).k = 12 ∨ (ns.getD ((i : Int)).toNat default).k = 13 → (nd ns i).kids = (nd ns i).kids.getD 0 0 :: (nd ns i).kids.tail := fun h => by
    obtain ⟨q, r, e⟩ := hc h
    rw [e]; rfl
  have hpos : (ns.getD ((i : Int)).toNat default).k = 7 ∨ (ns.getD ((i : Int)).toNat default).k = 10 ∨ (ns.getD ((i : Int)).toNat default).k = 11 ∨ (ns.getD ((i : Int)).toNat default).k = 12 ∨ (ns.getD ((i : Int)).toNat default).k = 13 → 1 ≤ (ns.getD ((i : Int)).toNat default).kids.length := fun h => by
    obtain ⟨q, r, e⟩ := hc h
    show 1 ≤ (nd ns i).kids.length
    rw [e]; simp
  have hq0 : 1 ≤ (ns.getD ((i : Int)).toNat default).kids.length → 0 ≤ (ns.getD ((i : Int)).toNat default).kids.getD (Int.toNat 0) 0 ∧ (ns.getD ((i : Int)).toNat default).kids.getD (Int.toNat 0) 0 < ns.length := fun h => by
    have h : 0 < (nd ns i).kids.length := h
    show 0 ≤ (nd ns i).kids.getD 0 0 ∧ (nd ns i).kids.getD 0 0 < ns.length
    have := hqk ((nd ns i).kids.getD 0 0) (by simp [h])
    exact this
  have hown : (ns.getD ((i : Int)).toNat default).k = 14 → 0 ≤ own ns root ((i : Int)).toNat ∧ own ns root ((i : Int)).toNat < ns.length := fun h => by
    have h : (nd ns i).k = 14 := h
    exact rt.owned _ i (Nat.le_refl _) hi (by omega) (by omega)
  have htl : ∀ q ∈ (nd ns i).kids.tail, InR ns q := fun q hq => hqk q (List.mem_of_mem_tail hq)
  have htk : ∀ q ∈ (nd ns i).kids.take 1, InR ns q := fun q hq => hqk q (List.mem_of_mem_take hq)
  have eTl : (ns.getD ((i : Int)).toNat default).kids.length - 1 = (nd ns i).kids.tail.length := by rw [List.length_tail]; rfl
  have fTl : ∀ j, kidF (nd ns i).kids (j + 1) = kidF (nd ns i).kids.tail j := fun j => by simp [kidF, List.getD_eq_getElem?_getD]
  have eTk : 1 ≤ (ns.getD ((i : Int)).toNat default).kids.length → 1 = ((nd ns i).kids.take 1).length := fun h => by
    have h : 1 ≤ (nd ns i).kids.length := h
    rw [List.length_take]; omega
  have fTk : ∀ j, j < 1 → kidF (nd ns i).kids (j + 0) = kidF ((nd ns i).kids.take 1) j := fun j hj => by
    obtain rfl : j = 0 := by omega
    simp [kidF, List.getD_eq_getElem?_getD]
  conv => whnf
  repeat' (first | (refine two_eq (fun h => ?_) (fun h => ?_) <;> (conv => whnf)) | (refine two_ne (fun h => ?_) (fun h => ?_) <;> (conv => whnf)) | (refine two_not (fun h => ?_) (fun h => ?_) <;> (conv => whnf)) | (refine two_dec (fun h => ?_) (fun h => ?_) <;> (conv => whnf)) | (refine two_intro (fun h => ?_) (fun h => ?_) <;> (conv => whnf)) | (refine Chk.mk ?_ ?_; (focus (((repeat' (refine And.intro ?_ ?_)) <;> (first | omega | rfl | (simp only [List.length_append, List.length_cons, List.length_nil]; omega) | fail)); done)); (conv => whnf)) | (refine And.intro ?_ ?_; (focus (((repeat' (refine And.intro ?_ ?_)) <;> (first | omega | rfl | (simp only [List.length_append, List.length_cons, List.length_nil]; omega) | fail)); done)); (conv => whnf)) | (refine And.intro ?_ ?_; (focus ((conv => whnf); first | done | exact ⟨⟨by omega, by omega, rfl⟩, by conv => whnf⟩ | fail)); (conv => whnf)) | (refine ⟨ns, root, i, rfl, rt, hi, ?_⟩; (conv => whnf)) | (refine ⟨ns, root, i, _, rfl, st, hi, ?_⟩; (conv => whnf)) | (refine ⟨ns, root, _, (nd ns i).kids, _, _, rfl, rfl, fun _ _ => rfl, st, hlk, hqk, ?_⟩; (conv => whnf)) | (refine ⟨ns, root, nd ns i, rfl, st, hlk, hqk, ?_⟩; (conv => whnf)) | (refine ⟨ns, root, _, rfl, ?_⟩; (conv => whnf)) | fail)
  all_goals (try (
    refine hr _ _ rfl (ret_eq hk (congrArg intV ?_))
    clear hr hk hpos hq0 hc hcc hown
    (try simp only [hnd, Int.toNat_natCast] at *)
    clear hnd eTl fTl eTk fTk htl htk hqk hlk hmany hlen st rt
    (first | rw [ck2 (by assumption)] | rw [ck3 (by assumption)] | rw [ck4 (by assumption)] | rw [ck5 (by assumption)] | rw [ck22 (by assumption)] | rw [ck23 (by assumption)] | rw [ck8 (by assumption)] | rw [ck17 (by assumption)] | rw [ck24 (by assumption)] | rw [ck9 (by assumption)] | rw [ck16 (by assumption)] | rw [ck7 (by assumption)] | rw [ck25 (by assumption)] | rw [ck26 (by assumption)] | rw [ck27 (by assumption)] | rw [ck10 (by assumption)] | rw [ck15 (by assumption)] | rw [ck11 (by assumption)] | rw [ck12 (by assumption)] | rw [ck13 (by assumption)] | rw [ck14 (by assumption)] | rw [ckD (by assumption) (by assumption) (by assumption) (by assumption) (by assumption) (by assumption) (by assumption) (by assumption) (by assumption) (by assumption) (by assumption) (by assumption) (by assumption) (by assumption) (by assumption) (by assumption) (by assumption) (by assumption) (by assumption) (by assumption) (by assumption)] | fail) <;> (first | rfl | (simp_all [toldS, tnamedS]; done))))
  · have hp1 := hpos (.inl (by assumption))
    have hq := hq0 hp1
    have e : ((((nd ns i).kids.getD 0 0).toNat : Nat) : Int) = (nd ns i).kids.getD 0 0 := Int.toNat_of_nonneg hq.1
    refine ⟨ns, root, ((nd ns i).kids.getD 0 0).toNat, by rw [e]; rfl, st, by have h2 : (nd ns i).kids.getD 0 0 < ns.length := hq.2; omega, ?_⟩
    (conv => whnf)
    clear hpos hq0 hc hcc hown
    repeat' (first | (refine two_eq (fun h => ?_) (fun h => ?_) <;> (conv => whnf)) | (refine two_ne (fun h => ?_) (fun h => ?_) <;> (conv => whnf)) | (refine two_not (fun h => ?_) (fun h => ?_) <;> (conv => whnf)) | (refine two_dec (fun h => ?_) (fun h => ?_) <;> (conv => whnf)) | (refine two_intro (fun h => ?_) (fun h => ?_) <;> (conv => whnf)) | (refine Chk.mk ?_ ?_; (focus (((repeat' (refine And.intro ?_ ?_)) <;> (first | omega | rfl | (simp only [List.length_append, List.length_cons, List.length_nil]; omega) | fail)); done)); (conv => whnf)) | (refine And.intro ?_ ?_; (focus (((repeat' (refine And.intro ?_ ?_)) <;> (first | omega | rfl | (simp only [List.length_append, List.length_cons, List.length_nil]; omega) | fail)); done)); (conv => whnf)) | (refine And.intro ?_ ?_; (focus ((conv => whnf); first | done | exact ⟨⟨by omega, by omega, rfl⟩, by conv => whnf⟩ | fail)); (conv => whnf)) | (refine ⟨ns, root, i, rfl, rt, hi, ?_⟩; (conv => whnf)) | (refine ⟨ns, root, i, _, rfl, st, hi, ?_⟩; (conv => whnf)) | (refine ⟨ns, root, _, (nd ns i).kids, _, _, rfl, rfl, fun _ _ => rfl, st, hlk, hqk, ?_⟩; (conv => whnf)) | (refine ⟨ns, root, nd ns i, rfl, st, hlk, hqk, ?_⟩; (conv => whnf)) | (refine ⟨ns, root, _, rfl, ?_⟩; (conv => whnf)) | fail)
    all_goals refine hr _ _ rfl (ret_eq hk (congrArg intV ?_))
    all_goals clear hr hk
    all_goals (try simp only [hnd, Int.toNat_natCast] at *)
    all_goals clear hnd eTl fTl eTk fTk htl htk hqk hlk hmany hlen st rt
    all_goals (first | rw [ck2 (by assumption)] | rw [ck3 (by assumption)] | rw [ck4 (by assumption)] | rw [ck5 (by assumption)] | rw [ck22 (by assumption)] | rw [ck23 (by assumption)] | rw [ck8 (by assumption)] | rw [ck17 (by assumption)] | rw [ck24 (by assumption)] | rw [ck9 (by assumption)] | rw [ck16 (by assumption)] | rw [ck7 (by assumption)] | rw [ck25 (by assumption)] | rw [ck26 (by assumption)] | rw [ck27 (by assumption)] | rw [ck10 (by assumption)] | rw [ck15 (by assumption)] | rw [ck11 (by assumption)] | rw [ck12 (by assumption)] | rw [ck13 (by assumption)] | rw [ck14 (by assumption)] | rw [ckD (by assumption) (by assumption) (by assumption) (by assumption) (by assumption) (by assumption) (by assumption) (by assumption) (by assumption) (by assumption) (by assumption) (by assumption) (by assumption) (by assumption) (by assumption) (by assumption) (by assumption) (by assumption) (by assumption) (by assumption) (by assumption)] | fail)
    all_goals (first | rfl | (simp_all [toldS, tnamedS]; done))
  · have e1 := ((procI_range ns (ns.getD ((i : Int)).toNat default).tx).resolve_left (by assumption)).1
    have e2 := ((procI_range ns (ns.getD ((i : Int)).toNat default).tx).resolve_left (by assumption)).2.1
    have e1' : (((procI ns (nd ns i).tx).toNat : Nat) : Int) = procI ns (nd ns i).tx := Int.toNat_of_nonneg e1
    refine ⟨ns, root, (procI ns (nd ns i).tx).toNat, by rw [e1']; rfl, st, (Int.toNat_lt e1).2 e2, ?_⟩
    (conv => whnf)
    clear hpos hq0 hc hcc hown
    repeat' (first | (refine two_eq (fun h => ?_) (fun h => ?_) <;> (conv => whnf)) | (refine two_ne (fun h => ?_) (fun h => ?_) <;> (conv => whnf)) | (refine two_not (fun h => ?_) (fun h => ?_) <;> (conv => whnf)) | (refine two_dec (fun h => ?_) (fun h => ?_) <;> (conv => whnf)) | (refine two_intro (fun h => ?_) (fun h => ?_) <;> (conv => whnf)) | (refine Chk.mk ?_ ?_; (focus (((repeat' (refine And.intro ?_ ?_)) <;> (first | omega | rfl | (simp only [List.length_append, List.length_cons, List.length_nil]; omega) | fail)); done)); (conv => whnf)) | (refine And.intro ?_ ?_; (focus (((repeat' (refine And.intro ?_ ?_)) <;> (first | omega | rfl | (simp only [List.length_append, List.length_cons, List.length_nil]; omega) | fail)); done)); (conv => whnf)) | (refine And.intro ?_ ?_; (focus ((conv => whnf); first | done | exact ⟨⟨by omega, by omega, rfl⟩, by conv => whnf⟩ | fail)); (conv => whnf)) | (refine ⟨ns, root, i, rfl, rt, hi, ?_⟩; (conv => whnf)) | (refine ⟨ns, root, i, _, rfl, st, hi, ?_⟩; (conv => whnf)) | (refine ⟨ns, root, _, (nd ns i).kids, _, _, rfl, rfl, fun _ _ => rfl, st, hlk, hqk, ?_⟩; (conv => whnf)) | (refine ⟨ns, root, nd ns i, rfl, st, hlk, hqk, ?_⟩; (conv => whnf)) | (refine ⟨ns, root, _, rfl, ?_⟩; (conv => whnf)) | fail)
    all_goals refine hr _ _ rfl (ret_eq hk (congrArg intV ?_))
    all_goals clear hr hk
    all_goals (try simp only [hnd, Int.toNat_natCast] at *)
    all_goals clear hnd eTl fTl eTk fTk htl htk hqk hlk hmany hlen st rt
    all_goals (first | rw [ck2 (by assumption)] | rw [ck3 (by assumption)] | rw [ck4 (by assumption)] | rw [ck5 (by assumption)] | rw [ck22 (by assumption)] | rw [ck23 (by assumption)] | rw [ck8 (by assumption)] | rw [ck17 (by assumption)] | rw [ck24 (by assumption)] | rw [ck9 (by assumption)] | rw [ck16 (by assumption)] | rw [ck7 (by assumption)] | rw [ck25 (by assumption)] | rw [ck26 (by assumption)] | rw [ck27 (by assumption)] | rw [ck10 (by assumption)] | rw [ck15 (by assumption)] | rw [ck11 (by assumption)] | rw [ck12 (by assumption)] | rw [ck13 (by assumption)] | rw [ck14 (by assumption)] | rw [ckD (by assumption) (by assumption) (by assumption) (by assumption) (by assumption) (by assumption) (by assumption) (by assumption) (by assumption) (by assumption) (by assumption) (by assumption) (by assumption) (by assumption) (by assumption) (by assumption) (by assumption) (by assumption) (by assumption) (by assumption) (by assumption)] | fail)
    all_goals (first | rfl | (simp_all [toldS, tnamedS]; done))
  · have hp1 := hpos (.inr (.inl (by assumption)))
    refine ⟨⟨by decide, by show (1 : Int) ≤ (((ns.getD ((i : Int)).toNat default).kids.length : Nat) : Int); exact Int.ofNat_le.2 hp1, Int.le_refl _, rfl⟩, ?_⟩
    (conv => whnf)
    refine ⟨ns, root, _, (nd ns i).kids.tail, _, _, rfl, eTl, fun j _ => fTl j, st, by rw [List.length_tail]; exact Nat.lt_of_le_of_lt (Nat.sub_le _ _) hlk, htl, ?_⟩
    (conv => whnf)
    clear hpos hq0 hc hcc hown
    repeat' (first | (refine two_eq (fun h => ?_) (fun h => ?_) <;> (conv => whnf)) | (refine two_ne (fun h => ?_) (fun h => ?_) <;> (conv => whnf)) | (refine two_not (fun h => ?_) (fun h => ?_) <;> (conv => whnf)) | (refine two_dec (fun h => ?_) (fun h => ?_) <;> (conv => whnf)) | (refine two_intro (fun h => ?_) (fun h => ?_) <;> (conv => whnf)) | (refine Chk.mk ?_ ?_; (focus (((repeat' (refine And.intro ?_ ?_)) <;> (first | omega | rfl | (simp only [List.length_append, List.length_cons, List.length_nil]; omega) | fail)); done)); (conv => whnf)) | (refine And.intro ?_ ?_; (focus (((repeat' (refine And.intro ?_ ?_)) <;> (first | omega | rfl | (simp only [List.length_append, List.length_cons, List.length_nil]; omega) | fail)); done)); (conv => whnf)) | (refine And.intro ?_ ?_; (focus ((conv => whnf); first | done | exact ⟨⟨by omega, by omega, rfl⟩, by conv => whnf⟩ | fail)); (conv => whnf)) | (refine ⟨ns, root, i, rfl, rt, hi, ?_⟩; (conv => whnf)) | (refine ⟨ns, root, i, _, rfl, st, hi, ?_⟩; (conv => whnf)) | (refine ⟨ns, root, _, (nd ns i).kids, _, _, rfl, rfl, fun _ _ => rfl, st, hlk, hqk, ?_⟩; (conv => whnf)) | (refine ⟨ns, root, nd ns i, rfl, st, hlk, hqk, ?_⟩; (conv => whnf)) | (refine ⟨ns, root, _, rfl, ?_⟩; (conv => whnf)) | fail)
    all_goals refine hr _ _ rfl (ret_eq hk (congrArg intV ?_))
    all_goals clear hr hk
    all_goals (try simp only [hnd, Int.toNat_natCast] at *)
    all_goals clear hnd eTl fTl eTk fTk htl htk hqk hlk hmany hlen st rt
    all_goals (first | rw [ck2 (by assumption)] | rw [ck3 (by assumption)] | rw [ck4 (by assumption)] | rw [ck5 (by assumption)] | rw [ck22 (by assumption)] | rw [ck23 (by assumption)] | rw [ck8 (by assumption)] | rw [ck17 (by assumption)] | rw [ck24 (by assumption)] | rw [ck9 (by assumption)] | rw [ck16 (by assumption)] | rw [ck7 (by assumption)] | rw [ck25 (by assumption)] | rw [ck26 (by assumption)] | rw [ck27 (by assumption)] | rw [ck10 (by assumption)] | rw [ck15 (by assumption)] | rw [ck11 (by assumption)] | rw [ck12 (by assumption)] | rw [ck13 (by assumption)] | rw [ck14 (by assumption)] | rw [ckD (by assumption) (by assumption) (by assumption) (by assumption) (by assumption) (by assumption) (by assumption) (by assumption) (by assumption) (by assumption) (by assumption) (by assumption) (by assumption) (by assumption) (by assumption) (by assumption) (by assumption) (by assumption) (by assumption) (by assumption) (by assumption)] | fail)
    all_goals (first | rfl | (simp_all [toldS, tnamedS]; done))
  · have hp1 := hpos (.inr (.inr (.inl (by assumption))))
    refine ⟨⟨by decide, by decide, Int.ofNat_le.2 hp1, rfl⟩, ?_⟩
    (conv => whnf)
    refine ⟨ns, root, _, (nd ns i).kids.take 1, _, _, rfl, eTk hp1, fun j hj => fTk j hj, st, by rw [← eTk hp1]; decide, htk, ?_⟩
    (conv => whnf)
    clear hpos hq0 hc hcc hown
    repeat' (first | (refine two_eq (fun h => ?_) (fun h => ?_) <;> (conv => whnf)) | (refine two_ne (fun h => ?_) (fun h => ?_) <;> (conv => whnf)) | (refine two_not (fun h => ?_) (fun h => ?_) <;> (conv => whnf)) | (refine two_dec (fun h => ?_) (fun h => ?_) <;> (conv => whnf)) | (refine two_intro (fun h => ?_) (fun h => ?_) <;> (conv => whnf)) | (refine Chk.mk ?_ ?_; (focus (((repeat' (refine And.intro ?_ ?_)) <;> (first | omega | rfl | (simp only [List.length_append, List.length_cons, List.length_nil]; omega) | fail)); done)); (conv => whnf)) | (refine And.intro ?_ ?_; (focus (((repeat' (refine And.intro ?_ ?_)) <;> (first | omega | rfl | (simp only [List.length_append, List.length_cons, List.length_nil]; omega) | fail)); done)); (conv => whnf)) | (refine And.intro ?_ ?_; (focus ((conv => whnf); first | done | exact ⟨⟨by omega, by omega, rfl⟩, by conv => whnf⟩ | fail)); (conv => whnf)) | (refine ⟨ns, root, i, rfl, rt, hi, ?_⟩; (conv => whnf)) | (refine ⟨ns, root, i, _, rfl, st, hi, ?_⟩; (conv => whnf)) | (refine ⟨ns, root, _, (nd ns i).kids, _, _, rfl, rfl, fun _ _ => rfl, st, hlk, hqk, ?_⟩; (conv => whnf)) | (refine ⟨ns, root, nd ns i, rfl, st, hlk, hqk, ?_⟩; (conv => whnf)) | (refine ⟨ns, root, _, rfl, ?_⟩; (conv => whnf)) | fail)
    all_goals refine hr _ _ rfl (ret_eq hk (congrArg intV ?_))
    all_goals clear hr hk
    all_goals (try simp only [hnd, Int.toNat_natCast] at *)
    all_goals clear hnd eTl fTl eTk fTk htl htk hqk hlk hmany hlen st rt
    all_goals (first | rw [ck2 (by assumption)] | rw [ck3 (by assumption)] | rw [ck4 (by assumption)] | rw [ck5 (by assumption)] | rw [ck22 (by assumption)] | rw [ck23 (by assumption)] | rw [ck8 (by assumption)] | rw [ck17 (by assumption)] | rw [ck24 (by assumption)] | rw [ck9 (by assumption)] | rw [ck16 (by assumption)] | rw [ck7 (by assumption)] | rw [ck25 (by assumption)] | rw [ck26 (by assumption)] | rw [ck27 (by assumption)] | rw [ck10 (by assumption)] | rw [ck15 (by assumption)] | rw [ck11 (by assumption)] | rw [ck12 (by assumption)] | rw [ck13 (by assumption)] | rw [ck14 (by assumption)] | rw [ckD (by assumption) (by assumption) (by assumption) (by assumption) (by assumption) (by assumption) (by assumption) (by assumption) (by assumption) (by assumption) (by assumption) (by assumption) (by assumption) (by assumption) (by assumption) (by assumption) (by assumption) (by assumption) (by assumption) (by assumption) (by assumption)] | fail)
    all_goals (first | rfl | (simp_all [toldS, tnamedS]; done))
  · have hp1 := hpos (.inr (.inr (.inr (.inl (by assumption)))))
    refine ⟨⟨by decide, by decide, Int.ofNat_le.2 hp1, rfl⟩, ?_⟩
    (conv => whnf)
    refine ⟨ns, root, _, (nd ns i).kids.take 1, _, _, rfl, eTk hp1, fun j hj => fTk j hj, st, by rw [← eTk hp1]; decide, htk, ?_⟩
    (conv => whnf)
    clear hpos hq0 hc hcc hown
    repeat' (first | (refine two_eq (fun h => ?_) (fun h => ?_) <;> (conv => whnf)) | (refine two_ne (fun h => ?_) (fun h => ?_) <;> (conv => whnf)) | (refine two_not (fun h => ?_) (fun h => ?_) <;> (conv => whnf)) | (refine two_dec (fun h => ?_) (fun h => ?_) <;> (conv => whnf)) | (refine two_intro (fun h => ?_) (fun h => ?_) <;> (conv => whnf)) | (refine Chk.mk ?_ ?_; (focus (((repeat' (refine And.intro ?_ ?_)) <;> (first | omega | rfl | (simp only [List.length_append, List.length_cons, List.length_nil]; omega) | fail)); done)); (conv => whnf)) | (refine And.intro ?_ ?_; (focus (((repeat' (refine And.intro ?_ ?_)) <;> (first | omega | rfl | (simp only [List.length_append, List.length_cons, List.length_nil]; omega) | fail)); done)); (conv => whnf)) | (refine And.intro ?_ ?_; (focus ((conv => whnf); first | done | exact ⟨⟨by omega, by omega, rfl⟩, by conv => whnf⟩ | fail)); (conv => whnf)) | (refine ⟨ns, root, i, rfl, rt, hi, ?_⟩; (conv => whnf)) | (refine ⟨ns, root, i, _, rfl, st, hi, ?_⟩; (conv => whnf)) | (refine ⟨ns, root, _, (nd ns i).kids, _, _, rfl, rfl, fun _ _ => rfl, st, hlk, hqk, ?_⟩; (conv => whnf)) | (refine ⟨ns, root, nd ns i, rfl, st, hlk, hqk, ?_⟩; (conv => whnf)) | (refine ⟨ns, root, _, rfl, ?_⟩; (conv => whnf)) | fail)
    all_goals refine hr _ _ rfl (ret_eq hk (congrArg intV ?_))
    all_goals clear hr hk
    all_goals (try simp only [hnd, Int.toNat_natCast] at *)
    all_goals clear hnd eTl fTl eTk fTk htl htk hqk hlk hmany hlen st rt
    all_goals (first | rw [ck2 (by assumption)] | rw [ck3 (by assumption)] | rw [ck4 (by assumption)] | rw [ck5 (by assumption)] | rw [ck22 (by assumption)] | rw [ck23 (by assumption)] | rw [ck8 (by assumption)] | rw [ck17 (by assumption)] | rw [ck24 (by assumption)] | rw [ck9 (by assumption)] | rw [ck16 (by assumption)] | rw [ck7 (by assumption)] | rw [ck25 (by assumption)] | rw [ck26 (by assumption)] | rw [ck27 (by assumption)] | rw [ck10 (by assumption)] | rw [ck15 (by assumption)] | rw [ck11 (by assumption)] | rw [ck12 (by assumption)] | rw [ck13 (by assumption)] | rw [ck14 (by assumption)] | rw [ckD (by assumption) (by assumption) (by assumption) (by assumption) (by assumption) (by assumption) (by assumption) (by assumption) (by assumption) (by assumption) (by assumption) (by assumption) (by assumption) (by assumption) (by assumption) (by assumption) (by assumption) (by assumption) (by assumption) (by assumption) (by assumption)] | fail)
    all_goals (first | rfl | (simp_all [toldS, tnamedS]; done))
  · have e := hcc (.inr (.inr (.inr (.inr (by assumption)))))
    refine ⟨ns, root, i, nd ns i, _, _, rfl, st, hi, e, hqk, hlk, ?_⟩
    (conv => whnf)
    clear hpos hq0 hc hcc hown
    repeat' (first | (refine two_eq (fun h => ?_) (fun h => ?_) <;> (conv => whnf)) | (refine two_ne (fun h => ?_) (fun h => ?_) <;> (conv => whnf)) | (refine two_not (fun h => ?_) (fun h => ?_) <;> (conv => whnf)) | (refine two_dec (fun h => ?_) (fun h => ?_) <;> (conv => whnf)) | (refine two_intro (fun h => ?_) (fun h => ?_) <;> (conv => whnf)) | (refine Chk.mk ?_ ?_; (focus (((repeat' (refine And.intro ?_ ?_)) <;> (first | omega | rfl | (simp only [List.length_append, List.length_cons, List.length_nil]; omega) | fail)); done)); (conv => whnf)) | (refine And.intro ?_ ?_; (focus (((repeat' (refine And.intro ?_ ?_)) <;> (first | omega | rfl | (simp only [List.length_append, List.length_cons, List.length_nil]; omega) | fail)); done)); (conv => whnf)) | (refine And.intro ?_ ?_; (focus ((conv => whnf); first | done | exact ⟨⟨by omega, by omega, rfl⟩, by conv => whnf⟩ | fail)); (conv => whnf)) | (refine ⟨ns, root, i, rfl, rt, hi, ?_⟩; (conv => whnf)) | (refine ⟨ns, root, i, _, rfl, st, hi, ?_⟩; (conv => whnf)) | (refine ⟨ns, root, _, (nd ns i).kids, _, _, rfl, rfl, fun _ _ => rfl, st, hlk, hqk, ?_⟩; (conv => whnf)) | (refine ⟨ns, root, nd ns i, rfl, st, hlk, hqk, ?_⟩; (conv => whnf)) | (refine ⟨ns, root, _, rfl, ?_⟩; (conv => whnf)) | fail)
    all_goals refine hr _ _ rfl (ret_eq hk (congrArg intV ?_))
    all_goals clear hr hk
    all_goals (try simp only [hnd, Int.toNat_natCast] at *)
    all_goals clear hnd eTl fTl eTk fTk htl htk hqk hlk hmany hlen st rt
    all_goals (first | rw [ck2 (by assumption)] | rw [ck3 (by assumption)] | rw [ck4 (by assumption)] | rw [ck5 (by assumption)] | rw [ck22 (by assumption)] | rw [ck23 (by assumption)] | rw [ck8 (by assumption)] | rw [ck17 (by assumption)] | rw [ck24 (by assumption)] | rw [ck9 (by assumption)] | rw [ck16 (by assumption)] | rw [ck7 (by assumption)] | rw [ck25 (by assumption)] | rw [ck26 (by assumption)] | rw [ck27 (by assumption)] | rw [ck10 (by assumption)] | rw [ck15 (by assumption)] | rw [ck11 (by assumption)] | rw [ck12 (by assumption)] | rw [ck13 (by assumption)] | rw [ck14 (by assumption)] | rw [ckD (by assumption) (by assumption) (by assumption) (by assumption) (by assumption) (by assumption) (by assumption) (by assumption) (by assumption) (by assumption) (by assumption) (by assumption) (by assumption) (by assumption) (by assumption) (by assumption) (by assumption) (by assumption) (by assumption) (by assumption) (by assumption)] | fail)
    all_goals (first | rfl | (simp_all [toldS, tnamedS]; done))
  all_goals
    have hz : ∀ n : Nat, ((n : Int) == 0) = (n == 0) := fun n => by cases n <;> rfl
    refine hr _ _ rfl (ret_eq hk (congrArg intV ?_))
    clear hr hk hpos hq0 hc hcc hown
    simp only [hnd, Int.toNat_natCast, hz] at *
    clear hnd eTl fTl eTk fTk htl htk hqk hlk hmany hlen st rt hz
    rw [ck14 (by assumption)]
    simp_all [toldS]
end Go.Proofs.YtojjkleplnijaaaGreatDoor

namespace Go.AE
theorem fL_to {α : Type} {l : List α} {k : List α → Prop} (h : k l) : fL l k := (fL_eq l k).symm ▸ h
theorem fK_to {l : List ABlk} {k : List ABlk → Prop} (h : k l) : fK l k := (fK_eq l k).symm ▸ h
theorem fB_to {b : ABlk} {k : ABlk → Prop} (h : k b) : fB b k := (fB_eq b k).symm ▸ h
theorem nth_snoc {α : Type} (l : List α) (b : α) : nth (snoc l b) (len l) = some b := by
  induction l with
  | nil => rfl
  | cons a l ih => exact ih
theorem setN_snoc {α : Type} (l : List α) (b b' : α) : setN (snoc l b) (len l) b' = snoc l b' := by
  induction l with
  | nil => rfl
  | cons a l ih => simp only [snoc, len, setN]; rw [ih]
theorem nth_setsnoc {α : Type} (l : List α) (b b' : α) : nth (setN (snoc l b) (len l) b') (len l) = some b' := by rw [setN_snoc, nth_snoc]
theorem snoc_app {α : Type} (l : List α) (b : α) : snoc l b = l ++ [b] := by
  induction l with
  | nil => rfl
  | cons a l ih => simp only [snoc, ih, List.cons_append]
theorem len_snoc {α : Type} (l : List α) (b : α) : len (snoc l b) = len l + 1 := by rw [snoc_app, len_length, len_length]; simp
theorem len_setN {α : Type} (l : List α) (r : Nat) (b : α) : len (setN l r b) = len l := by
  induction l generalizing r with
  | nil => rfl
  | cons a l ih => cases r <;> simp [setN, len, ih]
theorem length_snoc {α : Type} (l : List α) (b : α) : (snoc l b).length = l.length + 1 := by rw [← len_length, len_snoc, len_length]
theorem length_setN {α : Type} (l : List α) (r : Nat) (b : α) : (setN l r b).length = l.length := by rw [← len_length, len_setN, len_length]
theorem lesK_eq {K K' : List ABlk} (h : K = K') : lesK K K' := h ▸ lesK.refl K
end Go.AE
namespace Go.Proofs.YtojjkleplnijaaaGreatDoor
open Go.AE Go.Ru
set_option maxRecDepth 100000
set_option maxHeartbeats 1000000
def strG (f : Bs → Option Nat) (κ : MK) : Option AV := match κ with
  | .s l => match f l with
    | some j => some (intV (j : Int))
    | none => none
  | .i _ _ => none
def insF (f : Bs → Option Nat) (name : Bs) (i : Nat) (l : Bs) : Option Nat := match f l with
  | some j => some j
  | none => if l = name then some i else none
theorem strG_ins {f : Bs → Option Nat} {name : Bs} {i : Nat} (h : f name = none) : insM (strG f) (.s name) (intV (i : Int)) = strG (insF f name i) := by
  funext κ
  cases κ with
  | i q n => simp [insM, strG]
  | s l =>
    by_cases e : l = name
    · subst e; simp [insM, strG, insF, h]
    · have : (MK.s l) ≠ MK.s name := fun h => e (by injection h)
      simp only [insM, this, if_false, strG, insF, e]
      cases f l <;> rfl
theorem insF_old {f : Bs → Option Nat} {name : Bs} {i j : Nat} (h : f name = some j) : insF f name i = f := by
  funext l
  unfold insF
  cases hl : f l with
  | some j => rfl
  | none =>
    by_cases e : l = name
    · subst e; rw [h] at hl; cases hl
    · simp [e]
def cFirst : AC := fun args K k => ∃ r name i f, args = [.mref r, .p (.str name), intV ((i : Nat) : Int)] ∧ nth K r = some (.mp .str (strG f) []) ∧ k (.ret (.tup [])) (setN K r (.mp .str (strG (insF f name i)) []))
theorem setN_same {α : Type} {l : List α} {r : Nat} {b : α} (h : nth l r = some b) : setN l r b = l := by
  induction l generalizing r with
  | nil => rfl
  | cons a l ih =>
    cases r with
    | zero => simp only [nth, Option.some.injEq] at h; subst h; rfl
    | succ r => simp only [setN, ih h]
theorem first_ok : COk 93 cFirst := by
  rintro args K k ⟨r, name, i, f, rfl, hg, hk⟩
  refine call_ok g0_ok 19 _ _ _ _ ?_
  conv => whnf
  ((first | refine fK_to ?_ | refine fL_to ?_ | refine fB_to ?_); (conv => whnf))
  rw [hg]
  conv => whnf
  refine ⟨fun a ha => ?_, fun hn => ?_⟩
  · cases hf : f name with
    | none => simp [strG, hf] at ha
    | some j =>
      have ha : a = intV (j : Int) := by simpa [strG, hf] using ha.symm
      subst ha
      rw [insF_old hf, setN_same hg] at hk
      conv => whnf
      ((first | refine fK_to ?_ | refine fL_to ?_ | refine fB_to ?_); (conv => whnf))
      exact hk
  · cases hf : f name with
    | some j => simp [strG, hf] at hn
    | none =>
      rw [← strG_ins hf] at hk
      conv => whnf
      rw [hg]
      conv => whnf
      ((first | refine fK_to ?_ | refine fL_to ?_ | refine fB_to ?_); (conv => whnf))
      ((first | refine fK_to ?_ | refine fL_to ?_ | refine fB_to ?_); (conv => whnf))
      exact hk
structure TLC where
  i : Nat
  f : Nat → Int
  l : Int → Option Nat
  X : List ABlk
def locG (l : Int → Option Nat) (κ : MK) : Option AV := match κ with
  | .i q o => if q = .i64 then (match l o with
    | some r => some (.mref (r + 6))
    | none => none) else none
  | .s _ => none
theorem locG_ins {l : Int → Option Nat} {o : Int} {r : Nat} : insM (locG l) (.i .i64 o) (.mref (r + 6)) = locG (fun o' => if o' = o then some r else l o') := by
  funext κ
  cases κ with
  | s l => simp [insM, locG]
  | i q o' =>
    unfold insM locG
    by_cases hq : q = .i64
    · subst hq
      by_cases ho : o' = o
      · subst ho; simp
      · have : (MK.i .i64 o') ≠ MK.i .i64 o := fun h => ho (by injection h)
        simp only [this, ho, if_false, if_true]
    · have : (MK.i q o') ≠ MK.i .i64 o := fun h => hq (by injection h)
      simp only [this, hq, if_false]
theorem nth_left {α : Type} {l m : List α} {r : Nat} {b : α} (h : nth l r = some b) : nth (l ++ m) r = some b := by
  induction l generalizing r with
  | nil => simp [nth] at h
  | cons a l ih =>
    cases r with
    | zero => exact h
    | succ r => exact ih h
theorem nth_right {α : Type} (l m : List α) (r : Nat) : nth (l ++ m) (l.length + r) = nth m r := by
  induction l with
  | nil => simp
  | cons a l ih => rw [List.length_cons, show l.length + 1 + r = (l.length + r) + 1 by omega]; exact ih
def clAll (X : List ABlk) : Prop := ∀ b ∈ X, ∀ n, b.cl n
structure LcOk (ns : List Nd) (root : Int) (g : Int → Bs → Option Nat) (c : TLC) : Prop where
  le : c.i ≤ ns.length
  ow : ∀ j, j < ns.length → c.f j = if c.i ≤ j then own ns root j else 0
  dom : ∀ o, (c.l o).isSome = (isProcB ns o && decide ((c.i : Int) ≤ o))
  at_ : ∀ o r, c.l o = some r → nth c.X r = some (.mp .str (strG (g o)) [])
  inj : ∀ o o' r, c.l o = some r → c.l o' = some r → o = o'
theorem LcOk.step {ns : List Nd} {root : Int} {g : Int → Bs → Option Nat} {i : Nat} {f : Nat → Int} {l : Int → Option Nat} {X Y : List ABlk} (h : LcOk ns root g ⟨i + 1, f, l, X⟩) (hk : (nd ns i).k ≠ 3) :
    LcOk ns root g ⟨i, setF f i (own ns root i), l, X ++ Y⟩ := by
  have hle := h.le
  simp only at hle
  refine ⟨by show i ≤ _; omega, fun j hj => ?_, fun o => ?_, fun o r ho => nth_left (h.at_ o r ho), h.inj⟩
  · have := h.ow j hj
    simp only [setF] at this ⊢
    by_cases e : j = i
    · subst e; simp
    · rw [if_neg e, this]
      by_cases h2 : i + 1 ≤ j
      · rw [if_pos h2, if_pos (by omega)]
      · rw [if_neg h2, if_neg (by omega)]
  · have := h.dom o
    simp only at this ⊢
    rw [this]
    by_cases e : o = (i : Int)
    · subst e
      have : isProcB ns (i : Int) = false := by simp [isProcB, hk]
      rw [this, Bool.false_and, Bool.false_and]
    · congr 1
      exact decide_eq_decide.2 (by omega)
theorem LcOk.stepP {ns : List Nd} {root : Int} {i : Nat} {f : Nat → Int} {l : Int → Option Nat} {X : List ABlk} {b : ABlk} (st : Std ns root) (h : LcOk ns root (fun _ _ => none) ⟨i + 1, f, l, X⟩) (hk : (nd ns i).k = 3) (hb : ∀ o r, l o = some r → r < X.length) :
    LcOk ns root (fun _ _ => none) ⟨i, setF f i (i : Int), fun o' => if o' = (i : Int) then some (X.length + 1) else l o', X ++ [b, .mp .str (strG fun _ => none) []]⟩ := by
  have hle := h.le
  simp only at hle
  refine ⟨by show i ≤ _; omega, fun j hj => ?_, fun o => ?_, fun o r ho => ?_, fun o o' r ho ho' => ?_⟩
  · have := h.ow j hj
    simp only [setF] at this ⊢
    by_cases e : j = i
    · subst e
      rw [if_pos rfl, if_pos (Nat.le_refl _), own_eq st (by omega), if_pos hk]
    · rw [if_neg e, this]
      by_cases h2 : i + 1 ≤ j
      · rw [if_pos h2, if_pos (by omega)]
      · rw [if_neg h2, if_neg (by omega)]
  · simp only
    by_cases e : o = (i : Int)
    · subst e
      have : isProcB ns (i : Int) = true := by simp [isProcB, hk]; omega
      simp [this]
    · rw [if_neg e]
      have := h.dom o
      simp only at this
      rw [this]
      congr 1
      exact decide_eq_decide.2 (by omega)
  · simp only at ho ⊢
    by_cases e : o = (i : Int)
    · rw [if_pos e] at ho
      injection ho with ho
      subst ho
      exact nth_right X _ 1
    · rw [if_neg e] at ho
      exact nth_left (h.at_ o r ho)
  · simp only at ho ho'
    by_cases e : o = (i : Int) <;> by_cases e' : o' = (i : Int)
    · rw [e, e']
    · rw [if_pos e] at ho; rw [if_neg e'] at ho'
      injection ho with ho
      have := hb _ _ ho'
      omega
    · rw [if_neg e] at ho; rw [if_pos e'] at ho'
      injection ho' with ho'
      have := hb _ _ ho
      omega
    · rw [if_neg e] at ho; rw [if_neg e'] at ho'
      exact h.inj o o' r ho ho'
def lrK (ns : List Nd) (root : Int) (gs ps : Bs → Option Nat) (c : TLC) : List ABlk :=
  [.box 24 [.p (.sl 5 ns.length (nodeF ns)), .p (.int .i64 root)], .mp .str (strG gs) [], .mp .str (strG ps) [], .mp (.int .i64) (locG c.l) [],
    .box 72 [.p (.sl 5 ns.length (nodeF ns)), .p (.int .i64 root), .slr 5 0 0 ns.length, .mref 1, .mref 2, .mref 3], rowA ns.length c.f] ++ c.X
theorem strG0 : ABlk.mp .str (fun _ => none) [] = .mp .str (strG fun _ => none) [] := by
  congr 1
  funext κ
  cases κ <;> rfl
theorem locG0 : ABlk.mp (.int .i64) (fun _ => none) [] = .mp (.int .i64) (locG fun _ => none) [] := by
  congr 1
  funext κ
  cases κ <;> simp [locG]
theorem glob_step {ns : List Nd} {j : Nat} (h : (nd ns j).k = 2) : (fun n => firstB (globP ns n) (j + 1)) = insF (fun n => firstB (globP ns n) j) (nd ns j).tx j := by
  funext n
  simp only [firstB, insF, globP, h, beq_self_eq_true, Bool.true_and]
  cases firstB (globP ns n) j with
  | some _ => rfl
  | none =>
    by_cases e : (nd ns j).tx = n
    · subst e; simp
    · rw [beq_eq_false_iff_ne.2 e, if_neg (fun h => e h.symm)]
theorem glob_same {ns : List Nd} {j : Nat} (h : (nd ns j).k ≠ 2) : (fun n => firstB (globP ns n) (j + 1)) = fun n => firstB (globP ns n) j := by
  funext n
  simp only [firstB, globP, beq_eq_false_iff_ne.2 h, Bool.false_and]
  cases firstB (globP ns n) j <;> rfl
theorem proc_step {ns : List Nd} {j : Nat} (h : (nd ns j).k = 3) : (fun n => firstB (procP ns n) (j + 1)) = insF (fun n => firstB (procP ns n) j) (nd ns j).tx j := by
  funext n
  simp only [firstB, insF, procP, h, beq_self_eq_true, Bool.true_and]
  cases firstB (procP ns n) j with
  | some _ => rfl
  | none =>
    by_cases e : (nd ns j).tx = n
    · subst e; simp
    · rw [beq_eq_false_iff_ne.2 e, if_neg (fun h => e h.symm)]
theorem proc_same {ns : List Nd} {j : Nat} (h : (nd ns j).k ≠ 3) : (fun n => firstB (procP ns n) (j + 1)) = fun n => firstB (procP ns n) j := by
  funext n
  simp only [firstB, procP, beq_eq_false_iff_ne.2 h, Bool.false_and]
  cases firstB (procP ns n) j <;> rfl
theorem loc_step {ns : List Nd} {root : Int} {j : Nat} (h : (nd ns j).k = 4 ∨ (nd ns j).k = 5) : (fun n => firstB (locP ns root (own ns root j) n) (j + 1)) = insF (fun n => firstB (locP ns root (own ns root j) n) j) (nd ns j).tx j := by
  funext n
  have h' : ((nd ns j).k == 4 || (nd ns j).k == 5) = true := by rcases h with h | h <;> simp [h]
  simp only [firstB, insF, locP, h', beq_self_eq_true, Bool.true_and]
  cases firstB (locP ns root (own ns root j) n) j with
  | some _ => rfl
  | none =>
    by_cases e : (nd ns j).tx = n
    · subst e; simp
    · rw [beq_eq_false_iff_ne.2 e, if_neg (fun h => e h.symm)]
theorem loc_same {ns : List Nd} {root o : Int} {j : Nat} (h : o ≠ own ns root j ∨ ((nd ns j).k ≠ 4 ∧ (nd ns j).k ≠ 5)) : (fun n => firstB (locP ns root o n) (j + 1)) = fun n => firstB (locP ns root o n) j := by
  funext n
  have : locP ns root o n j = false := by
    unfold locP
    rcases h with h | ⟨h, h'⟩
    · rw [beq_eq_false_iff_ne.2 (Ne.symm h), Bool.false_and, Bool.and_false]
    · rw [beq_eq_false_iff_ne.2 h, beq_eq_false_iff_ne.2 h', Bool.or_self, Bool.false_and]
  simp only [firstB, this]
  cases firstB (locP ns root o n) j <;> rfl
def stG (ns : List Nd) (j : Nat) (n : Bs) : Option Nat := firstB (globP ns n) j
def stP (ns : List Nd) (j : Nat) (n : Bs) : Option Nat := firstB (procP ns n) j
def stL (ns : List Nd) (root : Int) (j : Nat) (o : Int) (n : Bs) : Option Nat := firstB (locP ns root o n) j
structure L2 where
  j : Nat
  X : List ABlk
theorem LcOk.left {ns : List Nd} {root : Int} {g : Int → Bs → Option Nat} {i : Nat} {f : Nat → Int} {l : Int → Option Nat} {X Y : List ABlk} (h : LcOk ns root g ⟨i, f, l, X⟩) : LcOk ns root g ⟨i, f, l, X ++ Y⟩ :=
  ⟨h.le, h.ow, h.dom, fun o r ho => nth_left (h.at_ o r ho), h.inj⟩
theorem LcOk.same {ns : List Nd} {root : Int} {j : Nat} {f : Nat → Int} {l : Int → Option Nat} {X Y : List ABlk} (h : LcOk ns root (stL ns root j) ⟨0, f, l, X⟩) (hk : (nd ns j).k ≠ 4 ∧ (nd ns j).k ≠ 5) : LcOk ns root (stL ns root (j + 1)) ⟨0, f, l, X ++ Y⟩ :=
  ⟨h.le, h.ow, h.dom, fun o r ho => by rw [show stL ns root (j + 1) o = stL ns root j o from loc_same (.inr hk)]; exact nth_left (h.at_ o r ho), h.inj⟩
theorem nth_setN_eq {α : Type} {l : List α} {r : Nat} {b b' : α} (h : nth l r = some b) : nth (setN l r b') r = some b' := by
  induction l generalizing r with
  | nil => simp [nth] at h
  | cons a l ih =>
    cases r with
    | zero => rfl
    | succ r => exact ih h
theorem nth_setN_ne {α : Type} {l : List α} {r r' : Nat} {b : α} (h : r' ≠ r) : nth (setN l r b) r' = nth l r' := by
  induction l generalizing r r' with
  | nil => rfl
  | cons a l ih =>
    cases r with
    | zero => cases r' with
      | zero => exact absurd rfl h
      | succ r' => rfl
    | succ r => cases r' with
      | zero => rfl
      | succ r' => exact ih (by omega)
theorem LcOk.local {ns : List Nd} {root : Int} {j r : Nat} {f : Nat → Int} {l : Int → Option Nat} {X : List ABlk} (h : LcOk ns root (stL ns root j) ⟨0, f, l, X⟩) (hk : (nd ns j).k = 4 ∨ (nd ns j).k = 5) (hr : l (own ns root j) = some r) :
    LcOk ns root (stL ns root (j + 1)) ⟨0, f, l, setN X r (.mp .str (strG (insF (stL ns root j (own ns root j)) (nd ns j).tx j)) [])⟩ := by
  refine ⟨h.le, h.ow, h.dom, fun o r' ho => ?_, h.inj⟩
  by_cases e : o = own ns root j
  · subst e
    have : r' = r := by have := hr.symm.trans ho; injection this with this; exact this.symm
    subst this
    rw [show stL ns root (j + 1) (own ns root j) = insF (stL ns root j (own ns root j)) (nd ns j).tx j from loc_step hk]
    exact nth_setN_eq (h.at_ _ _ ho)
  · rw [show stL ns root (j + 1) o = stL ns root j o from loc_same (.inl e)]
    have : r' ≠ r := fun e2 => by subst e2; exact e (h.inj _ _ _ ho hr)
    rw [nth_setN_ne this]
    exact h.at_ _ _ ho
theorem fz_strG {K : List ABlk} {r : Nat} {f : Bs → Option Nat} (h : nth K r = some (.mp .str (strG f) [])) : Fz K (.mref r) (.mp .str (strM f)) := by
  refine .mp r .str (strG f) [] (strM f) h (fun κ hk => ?_) (fun κ a p hk ha hp => ?_)
  · cases κ with
    | i q n => simp [MK.kt] at hk
    | s l => simp only [strG, strM]; cases f l <;> simp
  · cases κ with
    | i q n => simp [MK.kt] at hk
    | s l =>
      simp only [strG] at ha
      simp only [strM] at hp
      cases hf : f l with
      | none => rw [hf] at ha; cases ha
      | some j =>
        rw [hf] at ha hp
        injection ha with ha
        injection hp with hp
        subst ha hp
        exact .p _
theorem lr_fz {ns : List Nd} {root : Int} {f : Nat → Int} {l : Int → Option Nat} {X : List ABlk} (st : Std ns root) (ok : LcOk ns root (stL ns root ns.length) ⟨0, f, l, X⟩) :
    FzV (lrK ns root (stG ns ns.length) (stP ns ns.length) ⟨0, f, l, X⟩) (.ptr 4 0 1 0 0) (scV ns root) := by
  refine .box 4 72 0 _ (scC ns root) rfl rfl fun j hj hj' => ?_
  rcases j with _ | _ | _ | _ | _ | _ | j
  · exact .p _
  · exact .p _
  · refine .sl 5 3 1 0 ns.length 0 ns.length _ _ rfl (Nat.zero_add _) (fun i hi => rfl) fun i hi j hj hj' => ?_
    obtain rfl : j = 0 := by simpa [rowF] using hj'
    have := ok.ow i hi
    simp only at this
    rw [if_pos (Nat.zero_le _)] at this
    show Fz _ (.p (.int .i64 (f (0 + i)))) (.int .i64 (own ns root i))
    rw [Nat.zero_add, this]
    exact .p _
  · exact fz_strG rfl
  · exact fz_strG rfl
  · refine .mp 3 (.int .i64) (locG l) [] (locM ns root) rfl (fun κ hk => ?_) (fun κ a p hk ha hp => ?_)
    · cases κ with
      | s l => simp [MK.kt] at hk
      | i q o =>
        have hq : q = .i64 := by simpa [MK.kt] using hk
        subst hq
        have := ok.dom o
        simp only at this
        simp only [locG, locM, if_true]
        cases hl : l o with
        | none =>
          rw [hl] at this
          cases hb : isProcB ns o with
          | false => simp
          | true =>
            have h0 : 0 ≤ o := by simp only [isProcB, Bool.and_eq_true, decide_eq_true_eq] at hb; exact hb.1
            simp [hb, h0] at this
        | some r =>
          rw [hl] at this
          cases hb : isProcB ns o with
          | true => simp
          | false => simp [hb] at this
    · cases κ with
      | s l => simp [MK.kt] at hk
      | i q o =>
        have hq : q = .i64 := by simpa [MK.kt] using hk
        subst hq
        simp only [locG, if_true] at ha
        simp only [locM] at hp
        cases hl : l o with
        | none => rw [hl] at ha; cases ha
        | some r =>
          rw [hl] at ha
          injection ha with ha
          subst ha
          cases hb : isProcB ns o with
          | false => rw [hb] at hp; cases hp
          | true =>
            rw [hb] at hp
            injection hp with hp
            subst hp
            exact fz_strG (ok.at_ o r hl)
  · simp at hj; omega
def gPar : AG := gput 92 cParents (gput 93 cFirst g0)
theorem gPar_ok : GOk Tryz.prog gPar := gput_ok parents_ok (gput_ok first_ok g0_ok)
def cLearn : AC := fun args K k => ∃ ns root, args = [treeV ns root] ∧ RightT ns root ∧ k (.ret (scV ns root)) K
theorem learn_ok : COk 45 cLearn := by
  rintro args K k ⟨ns, root, rfl, rt, hk⟩
  have st := rt.toStd
  have hlen := st.len
  have hpos := st.pos
  have hrt := st.rt
  have hsd : soundS ns root = true := by have := rt.ok; simp only [rightS, Bool.and_eq_true] at this; exact this.1.1.1
  refine frame0W gPar_ok 19 rfl fun Q hr => ?_
  conv => whnf
  refine ⟨ns, root, rfl, by omega, ?_⟩
  simp only [parV, hsd]
  conv => whnf
  refine ⟨⟨by omega, by omega, by omega, ?_⟩, ?_⟩
  · show (8 : Int) * (ns.length : Int) ≤ 140737488355328
    omega
  conv => whnf
  refine loop_by (ι := TLC) (fun c => ⟨[(1, .ptr 0 0 1 0 0), (2, .p .nilp), (3, .ptr 4 0 1 0 0), (4, .p (.sl 1 ns.length (rowF (parF ns root)))), (5, intV ((c.i : Int) - 1))], lrK ns root (fun _ => none) (fun _ => none) c⟩)
    (LcOk ns root (fun _ _ => none)) (fun c => c.i) ⟨ns.length, fun _ => 0, fun _ => none, []⟩ ⟨AV.le_refl _, AV.le_refl _, AV.le_refl _, AV.le_refl _, AV.le_of_eq (congrArg intV (by omega)), trivial⟩ ?_ ?_ ?_
  · (conv => whnf)
    refine ⟨ABlk.le_refl _, ?_⟩
    (conv => whnf)
    refine ⟨ABlk.le_of_eq strG0, ?_⟩
    (conv => whnf)
    refine ⟨ABlk.le_of_eq strG0, ?_⟩
    (conv => whnf)
    refine ⟨ABlk.le_of_eq locG0, ?_⟩
    (conv => whnf)
    refine ⟨ABlk.le_refl _, ?_⟩
    (conv => whnf)
    refine ⟨ABlk.arr_eq rfl fun _ _ => rfl, ?_⟩
    exact trivial
  · refine ⟨Nat.le_refl _, fun j hj => by rw [if_neg (by show ¬ ns.length ≤ j; omega)], fun o => ?_, fun o r h => (by cases h), fun o o' r h => (by cases h)⟩
    simp only [isProcB, Option.isSome_none]
    by_cases h : o < ns.length
    · rw [show decide ((ns.length : Int) ≤ o) = false from decide_eq_false (by omega), Bool.and_false]
    · rw [show decide (o < (ns.length : Int)) = false from decide_eq_false h, Bool.false_and, Bool.and_false, Bool.false_and]
  · rintro Y hle ⟨i, f, l, X⟩ ok ih
    simp only [lrK]
    conv => whnf
    refine two_dec (fun h => ?_) (fun h => ?_)
    · have h : 0 < i := by have h : (i : Int) - 1 ≥ 0 := h; omega
      obtain ⟨i, rfl⟩ : ∃ m, i = m + 1 := ⟨i - 1, by omega⟩
      have e0 : (((i + 1 : Nat) : Int) - 1) = (i : Int) := by omega
      have hi := ok.le
      simp only at hi
      have hw1 : IntKind.i64.wrap ((i : Int) - 1) = (i : Int) - 1 := w64 ⟨by omega, by omega⟩
      rw [e0]
      conv => whnf
      refine ⟨⟨by omega, by omega, rfl⟩, ?_⟩
      conv => whnf
      ((first | refine fK_to ?_ | refine fL_to ?_ | refine fB_to ?_); (conv => whnf))
      conv in (nth _ _) => tactic => exact nth_snoc (lrK ns root (fun _ => none) (fun _ => none) ⟨i + 1, f, l, X⟩) _
      conv => whnf
      ((first | refine fK_to ?_ | refine fL_to ?_ | refine fB_to ?_); (conv => whnf))
      conv in (nth _ _) => tactic => exact nth_setsnoc (lrK ns root (fun _ => none) (fun _ => none) ⟨i + 1, f, l, X⟩) _ _
      conv => whnf
      refine two_eq (fun h3 => ?_) (fun h3 => ?_)
      · have h3 : (nd ns i).k = 3 := h3
        conv => whnf
        refine ⟨⟨rfl, Nat.zero_add _, by omega, by omega, rfl⟩, ?_⟩
        conv => whnf
        refine ⟨⟨rfl, rfl⟩, ?_⟩
        conv => whnf
        ((first | refine fK_to ?_ | refine fL_to ?_ | refine fB_to ?_); (conv => whnf))
        ((first | refine fK_to ?_ | refine fL_to ?_ | refine fB_to ?_); (conv => whnf))
        ((first | refine fK_to ?_ | refine fL_to ?_ | refine fB_to ?_); (conv => whnf))
        refine hle _ _ (Le.env ?_ ?_) (ih ⟨i, setF f i (i : Int), fun o' => if o' = (i : Int) then some (X.length + 1) else l o', X ++ [nodeB (nd ns i), .mp .str (strG fun _ => none) []]⟩ (Nat.lt_succ_self i) (ok.stepP st h3 fun o r ho => nth_lt (ok.at_ o r ho)))
        · skip
          repeat' (first | exact trivial | ((conv => whnf); first | exact trivial | (refine And.intro (AV.le_refl _) ?_) | (refine And.intro (ABlk.le_refl _) ?_) | (refine And.intro (AV.le_of_eq ?_) ?_; (focus ((first | exact congrArg intV hw1 | fail); done))) | (refine And.intro (ABlk.le_of_eq ?_) ?_; (focus ((first | exact congrArg intV hw1 | fail); done))) | fail) | fail)
        · (conv => whnf)
          refine ⟨ABlk.le_refl _, ?_⟩
          (conv => whnf)
          refine ⟨ABlk.le_refl _, ?_⟩
          (conv => whnf)
          refine ⟨ABlk.le_refl _, ?_⟩
          (conv => whnf)
          refine ⟨ABlk.le_of_eq (congrArg (fun g => ABlk.mp (.int .i64) g []) (Eq.trans (congrArg (insM (locG l) (.i .i64 (i : Int))) (a₂ := AV.mref (X.length + 1 + 6)) ?_) locG_ins)), ?_⟩
          · (conv => lhs; whnf)
            refine congrArg AV.mref ?_
            dsimp only
            simp only [len_length, length_setN, length_snoc, List.append_eq, List.nil_append, List.length_cons, List.length_nil]
          (conv => whnf)
          refine ⟨ABlk.le_refl _, ?_⟩
          (conv => whnf)
          refine ⟨rowA_set rfl (Nat.zero_add _) (fun _ _ => rfl), ?_⟩
          refine lesK_eq ?_
          show snoc (setN (snoc X _) (len X) _) _ = X ++ _
          rw [setN_snoc, snoc_app, snoc_app, List.append_assoc, strG0]
          rfl
      · have h3 : (nd ns i).k ≠ 3 := h3
        conv => whnf
        refine two_eq (fun h4 => ?_) (fun h4 => ?_)
        · have h4 : (i : Int) = root := h4
          conv => whnf
          refine ⟨⟨rfl, Nat.zero_add _, by omega, by omega, rfl⟩, ?_⟩
          conv => whnf
          refine ⟨⟨rfl, rfl⟩, ?_⟩
          conv => whnf
          ((first | refine fK_to ?_ | refine fL_to ?_ | refine fB_to ?_); (conv => whnf))
          have ho : own ns root i = -1 := by rw [own_eq st (by omega), if_neg h3, if_pos h4]
          refine hle _ _ (Le.env ?_ ?_) (ih ⟨i, setF f i (own ns root i), l, X ++ [nodeB (nd ns i)]⟩ (Nat.lt_succ_self i) (ok.step h3))
          · skip
            repeat' (first | exact trivial | ((conv => whnf); first | exact trivial | (refine And.intro (AV.le_refl _) ?_) | (refine And.intro (ABlk.le_refl _) ?_) | (refine And.intro (AV.le_of_eq ?_) ?_; (focus ((first | exact congrArg intV hw1 | fail); done))) | (refine And.intro (ABlk.le_of_eq ?_) ?_; (focus ((first | exact congrArg intV hw1 | fail); done))) | fail) | fail)
          · rw [ho]
            (conv => whnf)
            refine ⟨ABlk.le_refl _, ?_⟩
            (conv => whnf)
            refine ⟨ABlk.le_refl _, ?_⟩
            (conv => whnf)
            refine ⟨ABlk.le_refl _, ?_⟩
            (conv => whnf)
            refine ⟨ABlk.le_refl _, ?_⟩
            (conv => whnf)
            refine ⟨ABlk.le_refl _, ?_⟩
            (conv => whnf)
            refine ⟨rowA_set (rfl) (Nat.zero_add _) (fun _ _ => rfl), ?_⟩
            exact lesK_eq ((setN_snoc X _ _).trans (snoc_app X _))
        · have h4 : (i : Int) ≠ root := h4
          obtain ⟨p, p1, p2, _, p4⟩ := st.par_up i (by omega)
          have p5 : parF ns root ((i : Int)).toNat = (p : Int) := p4
          have hf : f p = own ns root p := by
            have := ok.ow p p2
            simp only at this
            rw [this, if_pos (by omega)]
          have ho : own ns root i = own ns root p := by rw [own_eq st (by omega), if_neg h3, if_neg h4, p4]; rfl
          conv => whnf
          refine ⟨⟨by omega, by omega, rfl⟩, ?_⟩
          conv => whnf
          refine ⟨⟨rfl, Nat.zero_add _, by rw [p5]; omega, by rw [p5]; omega, rfl⟩, ?_⟩
          conv => whnf
          refine ⟨⟨rfl, rfl⟩, ?_⟩
          conv => whnf
          refine ⟨⟨rfl, Nat.zero_add _, by omega, by omega, rfl⟩, ?_⟩
          conv => whnf
          refine ⟨⟨rfl, rfl⟩, ?_⟩
          conv => whnf
          ((first | refine fK_to ?_ | refine fL_to ?_ | refine fB_to ?_); (conv => whnf))
          repeat ((refine And.intro ?_ ?_); (focus ((conv => whnf); done)); (conv => whnf))
          refine hle _ _ (Le.env ?_ ?_) (ih ⟨i, setF f i (own ns root i), l, X ++ [nodeB (nd ns i)]⟩ (Nat.lt_succ_self i) (ok.step h3))
          · skip
            repeat' (first | exact trivial | ((conv => whnf); first | exact trivial | (refine And.intro (AV.le_refl _) ?_) | (refine And.intro (ABlk.le_refl _) ?_) | (refine And.intro (AV.le_of_eq ?_) ?_; (focus ((first | exact congrArg intV hw1 | fail); done))) | (refine And.intro (ABlk.le_of_eq ?_) ?_; (focus ((first | exact congrArg intV hw1 | fail); done))) | fail) | fail)
          · rw [ho, ← hf]
            have e5 : (0 + (parF ns root ((i : Int)).toNat).toNat) = p := by rw [p5, Nat.zero_add, Int.toNat_natCast]
            (conv => whnf)
            refine ⟨ABlk.le_refl _, ?_⟩
            (conv => whnf)
            refine ⟨ABlk.le_refl _, ?_⟩
            (conv => whnf)
            refine ⟨ABlk.le_refl _, ?_⟩
            (conv => whnf)
            refine ⟨ABlk.le_refl _, ?_⟩
            (conv => whnf)
            refine ⟨ABlk.le_refl _, ?_⟩
            (conv => whnf)
            refine ⟨rowA_set (congrArg (fun q => [intV (f q)]) e5) (Nat.zero_add _) (fun _ _ => rfl), ?_⟩
            exact lesK_eq ((setN_snoc X _ _).trans (snoc_app X _))
    · have h : i = 0 := by have h : ¬ (i : Int) - 1 ≥ 0 := h; omega
      subst h
      conv => whnf
      ((first | refine fK_to ?_ | refine fL_to ?_ | refine fB_to ?_); (conv => whnf))
      refine loop_by (ι := L2) (fun c => ⟨[(2, .p .nilp), (3, .ptr 4 0 1 0 0), (7, .p (.fn 93)), (81, .p (.sl 5 ns.length (nodeF ns))), (82, intV ns.length), (83, intV c.j)], lrK ns root (stG ns c.j) (stP ns c.j) ⟨0, f, l, c.X⟩⟩)
        (fun c => c.j ≤ ns.length ∧ LcOk ns root (stL ns root c.j) ⟨0, f, l, c.X⟩) (fun c => ns.length - c.j) ⟨0, X⟩ ⟨AV.le_refl _, AV.le_refl _, AV.le_refl _, AV.le_refl _, AV.le_refl _, AV.le_refl _, trivial⟩ (lesK.refl _) ⟨Nat.zero_le _, ok⟩ ?_
      rintro Z hlz ⟨j, X⟩ ⟨hj, ok⟩ ihz
      simp only at hj ok
      simp only [lrK]
      conv => whnf
      refine two_dec (fun h2 => ?_) (fun h2 => ?_)
      · have h2 : j < ns.length := by have h2 : (j : Int) < (ns.length : Int) := h2; omega
        have hw2 := wzz (i := j) (by omega)
        conv => whnf
        refine ⟨⟨by omega, by omega, rfl⟩, ?_⟩
        conv => whnf
        ((first | refine fK_to ?_ | refine fL_to ?_ | refine fB_to ?_); (conv => whnf))
        conv in (nth _ _) => tactic => exact nth_snoc (lrK ns root (stG ns j) (stP ns j) ⟨0, f, l, X⟩) _
        conv => whnf
        ((first | refine fK_to ?_ | refine fL_to ?_ | refine fB_to ?_); (conv => whnf))
        conv in (nth _ _) => tactic => exact nth_setsnoc (lrK ns root (stG ns j) (stP ns j) ⟨0, f, l, X⟩) _ _
        conv => whnf
        refine two_eq (fun h3 => ?_) (fun h3 => ?_)
        · have h3 : (nd ns j).k = 2 := h3
          conv => whnf
          conv in (nth _ _) => tactic => exact nth_setsnoc (lrK ns root (stG ns j) (stP ns j) ⟨0, f, l, X⟩) _ _
          conv => whnf
          refine ⟨1, (nd ns j).tx, j, stG ns j, rfl, rfl, ?_⟩
          conv => whnf
          refine hlz _ _ (Le.env ?_ ?_) (ihz ⟨j + 1, X ++ [nodeB (nd ns j)]⟩ (by show _ - (j + 1) < _ - j; omega) ⟨h2, ok.same (by omega)⟩)
          · skip
            repeat' (first | exact trivial | ((conv => whnf); first | exact trivial | (refine And.intro (AV.le_refl _) ?_) | (refine And.intro (ABlk.le_refl _) ?_) | (refine And.intro (AV.le_of_eq ?_) ?_; (focus ((first | exact congrArg intV hw2 | fail); done))) | (refine And.intro (ABlk.le_of_eq ?_) ?_; (focus ((first | exact congrArg intV hw2 | fail); done))) | fail) | fail)
          · (conv => whnf)
            refine ⟨ABlk.le_refl _, ?_⟩
            (conv => whnf)
            refine ⟨ABlk.le_of_eq (congrArg (fun g => ABlk.mp .str (strG g) []) (glob_step h3).symm), ?_⟩
            (conv => whnf)
            refine ⟨ABlk.le_of_eq (congrArg (fun g => ABlk.mp .str (strG g) []) (proc_same (by omega)).symm), ?_⟩
            (conv => whnf)
            refine ⟨ABlk.le_refl _, ?_⟩
            (conv => whnf)
            refine ⟨ABlk.le_refl _, ?_⟩
            (conv => whnf)
            refine ⟨ABlk.le_refl _, ?_⟩
            exact lesK_eq ((setN_snoc X _ _).trans (snoc_app X _))
        have h3 : (nd ns j).k ≠ 2 := h3
        conv => whnf
        refine two_eq (fun h4 => ?_) (fun h4 => ?_)
        · have h4 : (nd ns j).k = 3 := h4
          conv => whnf
          conv in (nth _ _) => tactic => exact nth_setsnoc (lrK ns root (stG ns j) (stP ns j) ⟨0, f, l, X⟩) _ _
          conv => whnf
          refine ⟨2, (nd ns j).tx, j, stP ns j, rfl, rfl, ?_⟩
          conv => whnf
          refine hlz _ _ (Le.env ?_ ?_) (ihz ⟨j + 1, X ++ [nodeB (nd ns j)]⟩ (by show _ - (j + 1) < _ - j; omega) ⟨h2, ok.same (by omega)⟩)
          · skip
            repeat' (first | exact trivial | ((conv => whnf); first | exact trivial | (refine And.intro (AV.le_refl _) ?_) | (refine And.intro (ABlk.le_refl _) ?_) | (refine And.intro (AV.le_of_eq ?_) ?_; (focus ((first | exact congrArg intV hw2 | fail); done))) | (refine And.intro (ABlk.le_of_eq ?_) ?_; (focus ((first | exact congrArg intV hw2 | fail); done))) | fail) | fail)
          · (conv => whnf)
            refine ⟨ABlk.le_refl _, ?_⟩
            (conv => whnf)
            refine ⟨ABlk.le_of_eq (congrArg (fun g => ABlk.mp .str (strG g) []) (glob_same (by omega)).symm), ?_⟩
            (conv => whnf)
            refine ⟨ABlk.le_of_eq (congrArg (fun g => ABlk.mp .str (strG g) []) (proc_step h4).symm), ?_⟩
            (conv => whnf)
            refine ⟨ABlk.le_refl _, ?_⟩
            (conv => whnf)
            refine ⟨ABlk.le_refl _, ?_⟩
            (conv => whnf)
            refine ⟨ABlk.le_refl _, ?_⟩
            exact lesK_eq ((setN_snoc X _ _).trans (snoc_app X _))
        have h4 : (nd ns j).k ≠ 3 := h4
        conv => whnf
        refine two_eq (fun h5 => ?_) (fun h5 => ?_)
        · have h5 : (nd ns j).k = 4 := h5
          obtain ⟨p, p1, p2, p3, p4, p5⟩ := rt.decl h2 (.inl h5)
          have hfj : f (0 + ((j : Int)).toNat) = own ns root j := by
            have := ok.ow j h2
            simp only at this
            rw [Nat.zero_add, Int.toNat_natCast, this, if_pos (Nat.zero_le _)]
          have hip : isProcB ns (own ns root j) = true := isProcB_own st h2 (by rw [p5]; omega)
          obtain ⟨r, hlr⟩ : ∃ r, l (own ns root j) = some r := by
            have := ok.dom (own ns root j)
            simp only [hip, Bool.true_and] at this
            rw [decide_eq_true (by rw [p5]; exact Int.natCast_nonneg p)] at this
            exact Option.isSome_iff_exists.1 this
          conv => whnf
          refine ⟨⟨rfl, Nat.zero_add _, by omega, by omega, rfl⟩, ?_⟩
          conv => whnf
          refine ⟨⟨rfl, rfl⟩, ?_⟩
          conv => whnf
          refine MGet.of_some (a := .mref (r + 6)) (by rw [hfj]; simp [locG, hlr]) ?_
          conv => whnf
          conv in (nth _ _) => tactic => exact nth_setsnoc (lrK ns root (stG ns j) (stP ns j) ⟨0, f, l, X⟩) _ _
          conv => whnf
          refine ⟨r + 6, (nd ns j).tx, j, stL ns root j (own ns root j), rfl, ?_, ?_⟩
          · show nth (setN (snoc X _) (len X) _) r = _
            rw [setN_snoc, snoc_app]
            exact nth_left (ok.at_ _ _ hlr)
          conv => whnf
          refine hlz _ _ (Le.env ?_ ?_) (ihz ⟨j + 1, setN (X ++ [nodeB (nd ns j)]) r (.mp .str (strG (insF (stL ns root j (own ns root j)) (nd ns j).tx j)) [])⟩ (by show _ - (j + 1) < _ - j; omega) ⟨h2, ok.left.local (.inl h5) hlr⟩)
          · skip
            repeat' (first | exact trivial | ((conv => whnf); first | exact trivial | (refine And.intro (AV.le_refl _) ?_) | (refine And.intro (ABlk.le_refl _) ?_) | (refine And.intro (AV.le_of_eq ?_) ?_; (focus ((first | exact congrArg intV hw2 | fail); done))) | (refine And.intro (ABlk.le_of_eq ?_) ?_; (focus ((first | exact congrArg intV hw2 | fail); done))) | fail) | fail)
          · (conv => whnf)
            refine ⟨ABlk.le_refl _, ?_⟩
            (conv => whnf)
            refine ⟨ABlk.le_of_eq (congrArg (fun g => ABlk.mp .str (strG g) []) (glob_same (by omega)).symm), ?_⟩
            (conv => whnf)
            refine ⟨ABlk.le_of_eq (congrArg (fun g => ABlk.mp .str (strG g) []) (proc_same (by omega)).symm), ?_⟩
            (conv => whnf)
            refine ⟨ABlk.le_refl _, ?_⟩
            (conv => whnf)
            refine ⟨ABlk.le_refl _, ?_⟩
            (conv => whnf)
            refine ⟨ABlk.le_refl _, ?_⟩
            exact lesK_eq (congrArg (fun Y => setN Y r _) ((setN_snoc X _ _).trans (snoc_app X _)))
        have h5 : (nd ns j).k ≠ 4 := h5
        conv => whnf
        refine two_eq (fun h6 => ?_) (fun h6 => ?_)
        · have h6 : (nd ns j).k = 5 := h6
          obtain ⟨p, p1, p2, p3, p4, p5⟩ := rt.decl h2 (.inr h6)
          have hfj : f (0 + ((j : Int)).toNat) = own ns root j := by
            have := ok.ow j h2
            simp only at this
            rw [Nat.zero_add, Int.toNat_natCast, this, if_pos (Nat.zero_le _)]
          have hip : isProcB ns (own ns root j) = true := isProcB_own st h2 (by rw [p5]; omega)
          obtain ⟨r, hlr⟩ : ∃ r, l (own ns root j) = some r := by
            have := ok.dom (own ns root j)
            simp only [hip, Bool.true_and] at this
            rw [decide_eq_true (by rw [p5]; exact Int.natCast_nonneg p)] at this
            exact Option.isSome_iff_exists.1 this
          conv => whnf
          refine ⟨⟨rfl, Nat.zero_add _, by omega, by omega, rfl⟩, ?_⟩
          conv => whnf
          refine ⟨⟨rfl, rfl⟩, ?_⟩
          conv => whnf
          refine MGet.of_some (a := .mref (r + 6)) (by rw [hfj]; simp [locG, hlr]) ?_
          conv => whnf
          conv in (nth _ _) => tactic => exact nth_setsnoc (lrK ns root (stG ns j) (stP ns j) ⟨0, f, l, X⟩) _ _
          conv => whnf
          refine ⟨r + 6, (nd ns j).tx, j, stL ns root j (own ns root j), rfl, ?_, ?_⟩
          · show nth (setN (snoc X _) (len X) _) r = _
            rw [setN_snoc, snoc_app]
            exact nth_left (ok.at_ _ _ hlr)
          conv => whnf
          refine hlz _ _ (Le.env ?_ ?_) (ihz ⟨j + 1, setN (X ++ [nodeB (nd ns j)]) r (.mp .str (strG (insF (stL ns root j (own ns root j)) (nd ns j).tx j)) [])⟩ (by show _ - (j + 1) < _ - j; omega) ⟨h2, ok.left.local (.inr h6) hlr⟩)
          · skip
            repeat' (first | exact trivial | ((conv => whnf); first | exact trivial | (refine And.intro (AV.le_refl _) ?_) | (refine And.intro (ABlk.le_refl _) ?_) | (refine And.intro (AV.le_of_eq ?_) ?_; (focus ((first | exact congrArg intV hw2 | fail); done))) | (refine And.intro (ABlk.le_of_eq ?_) ?_; (focus ((first | exact congrArg intV hw2 | fail); done))) | fail) | fail)
          · (conv => whnf)
            refine ⟨ABlk.le_refl _, ?_⟩
            (conv => whnf)
            refine ⟨ABlk.le_of_eq (congrArg (fun g => ABlk.mp .str (strG g) []) (glob_same (by omega)).symm), ?_⟩
            (conv => whnf)
            refine ⟨ABlk.le_of_eq (congrArg (fun g => ABlk.mp .str (strG g) []) (proc_same (by omega)).symm), ?_⟩
            (conv => whnf)
            refine ⟨ABlk.le_refl _, ?_⟩
            (conv => whnf)
            refine ⟨ABlk.le_refl _, ?_⟩
            (conv => whnf)
            refine ⟨ABlk.le_refl _, ?_⟩
            exact lesK_eq (congrArg (fun Y => setN Y r _) ((setN_snoc X _ _).trans (snoc_app X _)))
        have h6 : (nd ns j).k ≠ 5 := h6
        conv => whnf
        refine hlz _ _ (Le.env ?_ ?_) (ihz ⟨j + 1, X ++ [nodeB (nd ns j)]⟩ (by show _ - (j + 1) < _ - j; omega) ⟨h2, ok.same (by omega)⟩)
        · skip
          repeat' (first | exact trivial | ((conv => whnf); first | exact trivial | (refine And.intro (AV.le_refl _) ?_) | (refine And.intro (ABlk.le_refl _) ?_) | (refine And.intro (AV.le_of_eq ?_) ?_; (focus ((first | exact congrArg intV hw2 | fail); done))) | (refine And.intro (ABlk.le_of_eq ?_) ?_; (focus ((first | exact congrArg intV hw2 | fail); done))) | fail) | fail)
        · (conv => whnf)
          refine ⟨ABlk.le_refl _, ?_⟩
          (conv => whnf)
          refine ⟨ABlk.le_of_eq (congrArg (fun g => ABlk.mp .str (strG g) []) (glob_same (by omega)).symm), ?_⟩
          (conv => whnf)
          refine ⟨ABlk.le_of_eq (congrArg (fun g => ABlk.mp .str (strG g) []) (proc_same (by omega)).symm), ?_⟩
          (conv => whnf)
          refine ⟨ABlk.le_refl _, ?_⟩
          (conv => whnf)
          refine ⟨ABlk.le_refl _, ?_⟩
          (conv => whnf)
          refine ⟨ABlk.le_refl _, ?_⟩
          exact lesK_eq ((setN_snoc X _ _).trans (snoc_app X _))
      · obtain rfl : j = ns.length := by have h2 : ¬ (j : Int) < (ns.length : Int) := h2; omega
        conv => whnf
        ((first | refine fK_to ?_ | refine fL_to ?_ | refine fB_to ?_); (conv => whnf))
        exact hr _ _ _ _ (Wk1.fzAll (lr_fz st ok)) rfl hk
end Go.Proofs.YtojjkleplnijaaaGreatDoor
