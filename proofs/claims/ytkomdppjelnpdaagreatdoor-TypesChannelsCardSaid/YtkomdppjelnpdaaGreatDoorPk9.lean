/-
  Rows of strings sorted and compacted, as the layer AE meets them. No statement of the seat is proved here.
  Types: the contract of Channels. No statement of the seat is proved here.
  The statement TypesChannels: the walk. No statement of the seat is proved here.
-/
import Derived.Sort.Walk0
import Derived.Test.YtkomdppjelnpdaaGreatDoorPk7
import Derived.Test.YtkomdppjelnpdaaGreatDoorPk8
set_option linter.unusedVariables false
set_option linter.unusedSimpArgs false
namespace Go.Ru
theorem bs_le_trans {a b c : Bs} (h1 : a ≤ b) (h2 : b ≤ c) : a ≤ c := List.le_trans h1 h2
theorem bs_le_total (a b : Bs) : a ≤ b ∨ b ≤ a := List.le_total a b
theorem bs_lt_trans {a b c : Bs} (h1 : a < b) (h2 : b < c) : a < c := List.lt_trans h1 h2
theorem bs_le_lt_or_eq {a b : Bs} (h : a ≤ b) : a < b ∨ a = b := by
  by_cases e : a = b
  · exact .inr e
  · exact .inl (Decidable.byContradiction fun hn => e (List.le_antisymm h hn))
theorem sortS_sorted (l : List Bs) : (sortS l).Pairwise fun x y => x < y ∨ x = y := by
  have := List.pairwise_mergeSort (le := fun x y : Bs => decide (x ≤ y)) (fun a b c h1 h2 => by simp only [decide_eq_true_eq] at *; exact bs_le_trans h1 h2) (fun a b => by simp only [Bool.or_eq_true, decide_eq_true_eq]; exact bs_le_total a b) l
  exact this.imp fun h => bs_le_lt_or_eq (by simpa using h)
def setS (l : List Bs) : List Bs := Lib.compact (sortS l)
theorem setS_mem {l : List Bs} {x : Bs} : x ∈ setS l ↔ x ∈ l := by rw [setS, compact_mem, sortS_mem]
theorem setS_rise (l : List Bs) : (setS l).Pairwise (· < ·) :=
  compact_rise (fun _ _ _ => bs_lt_trans) (sortS_sorted l)
theorem setS_len (l : List Bs) : (setS l).length ≤ l.length := by rw [← sortS_len l]; exact compact_len _
end Go.Ru
namespace Go.Proofs.YtkomdppjelnpdaaGreatDoor
open Go.AE Go.Ru Go.RowKit Go.Sort
set_option maxRecDepth 100000
def strV (s : Bs) : AV := .p (.str s)
def strsV (l : List Bs) : AV := .p (.sl 1 l.length fun i => [.str (l.getD i [])])
def cSortS : AC := fun args K k => (args = [.p .nils] ∧ k (.ret (.tup [])) K) ∨ ∃ r ver n zs f ty, args = [.slr r ver 0 n] ∧ nth K r = some (.arr ty 1 ver n f) ∧ List.length zs = n ∧ (∀ i, i < n → f i = [strV (zs.getD i [])]) ∧ n < 1000000 ∧
  k (.ret (.tup [])) (setN K r (.arr ty 1 ver n fun i => [strV ((sortS zs).getD i [])]))
theorem sortS_ok : COk 57 cSortS := by
  rintro args K k (⟨rfl, hk⟩ | ⟨r, ver, n, zs, f, ty, rfl, hr, hz, hf, hn, hk⟩)
  · refine ACalls.lib (ent rfl rfl) fun w m Args hS hV => ?_
    obtain ⟨u, rfl, h1⟩ := vl1 hV
    cases h1 with
    | p _ _ h => cases h with
      | nils => exact (Tryz.slices_Sort_string_none none 0 w).mono fun e w' ⟨h3, h4⟩ => ⟨_, _, h3, by rw [h4]; exact below_same w, .tup [] #[] rfl fun j hj => by simp at hj, hk⟩
  · refine ⟨ent rfl rfl, fun w m Args hS hV => ?_⟩
    obtain ⟨u, rfl, h1⟩ := vl1 hV
    have hb := hS.blk r
    rw [hp_nth hr] at hb
    have hrl := nth_lt hr
    cases h1 with
    | slr _ _ _ _ N sz cap hL hN =>
      have hl : (m.L r).isLive := by rw [hL]; trivial
      rcases hb with ⟨hb, _⟩ | ⟨cap', c, hL', h0, h00, h1, h2, h3⟩
      · rw [hL] at hb; cases hb
      rw [hL] at hL'
      injection hL' with _ e2 e3 e4
      subst e3 e4
      have hH := holds_ok encS_of hS hr hl zs.toArray (by simpa using hz) fun i hi => by rw [hf i hi, toArr_get (by omega) []]; rfl
      have hC := Tryz.slices_Sort_string (m.ρ r) 0 (cap - 0) zs w hH (hS.lt r hl) (by omega)
      rw [hz] at hC
      rw [Nat.zero_mul]
      refine hC.mono fun e w' ⟨he, q, os, hw'⟩ => ?_
      subst he
      obtain ⟨t1, s1⟩ := putRow_ok (g := fun x => PV.str x) encS_to (hS.ahead q) hr hl (sortS zs).toArray (by simp [sortS_len, hz])
      have hB := grow_below' (putRow (encStr) (Sort.ahead w q) (m.ρ r) 0 (sortS zs).toArray) os
      have hw2 : w' = Sort.grow (putRow (encStr) (Sort.ahead w q) (m.ρ r) 0 (sortS zs).toArray) os := hw'
      subst hw2
      have s2 := s1.below hB
      have t2 := Tr.below s1.Ilt hB
      have eK : setN K r (.arr ty 1 ver n fun i => [.p (.str (sortS zs).toArray[i]!)]) = setN K r (.arr ty 1 ver n fun i => [strV ((sortS zs).getD i [])]) := by
        congr 2
        funext i
        by_cases h : i < (sortS zs).length
        · rw [toArr_get h []]; rfl
        · rw [getElem!_neg _ i (by simpa using h), List.getD_eq_getElem?_getD, List.getElem?_eq_none (by omega)]; rfl
      rw [eK] at s2
      exact ⟨m, .tup [], _, ((Tr.ahead w m q).trans t1).trans t2, s2, .tup [] #[] rfl fun j hj => by simp at hj, hk⟩
    | slrNil _ _ hL =>
      rcases hb with ⟨hb, h0⟩ | ⟨cap', c, hL', _⟩
      · have hz0 : zs = [] := List.length_eq_zero_iff.1 hz
        refine (Tryz.slices_Sort_string_none none 0 w).mono fun e w' ⟨h3, h4⟩ => ?_
        subst h3 h4
        refine ⟨m, .tup [], _, Tr.refl _ m, hS.les ?_, .tup [] #[] rfl fun j hj => by simp at hj, hk⟩
        exact lesK_setN (lesK.refl _) _ _ fun b0 hb0 => by
          rw [hr] at hb0; injection hb0 with hb0; subst hb0
          exact ABlk.arr_eq rfl fun i hi => by omega
      · rw [hL] at hL'; cases hL'
    | slrOld _ _ _ _ ad c hold =>
      rcases hb with ⟨hb, h0⟩ | ⟨cap', c, hL', _⟩
      · rw [hb] at hold; simp [Inf.old] at hold
      · rw [hL'] at hold; simp [Inf.old] at hold
def cCompS : AC := fun args K k => (args = [.p .nils] ∧ k (.ret (.p .nils)) K) ∨ ∃ r ver n zs f ty, args = [.slr r ver 0 n] ∧ nth K r = some (.arr ty 1 ver n f) ∧ List.length zs = n ∧ (∀ i, i < n → f i = [strV (zs.getD i [])]) ∧ n < 1000000 ∧
  k (.ret (strsV (Lib.compact zs))) (setN K r .dead)
theorem compS_ok : COk 58 cCompS := by
  rintro args K k (⟨rfl, hk⟩ | ⟨r, ver, n, zs, f, ty, rfl, hr, hz, hf, hn, hk⟩)
  · refine ACalls.lib (ent rfl rfl) fun w m Args hS hV => ?_
    obtain ⟨u, rfl, h1⟩ := vl1 hV
    cases h1 with
    | p _ _ h => cases h with
      | nils => exact (Tryz.slices_Compact_string_empty none 0 w).mono fun e w' ⟨h3, h4⟩ => ⟨_, _, h3, by rw [h4]; exact below_same w, .p _ _ .nils, hk⟩
  · refine ⟨ent rfl rfl, fun w m Args hS hV => ?_⟩
    obtain ⟨u, rfl, h1⟩ := vl1 hV
    have hb := hS.blk r
    rw [hp_nth hr] at hb
    have hrl := nth_lt hr
    have hcl := compact_len zs
    cases h1 with
    | slr _ _ _ _ N sz cap hL hN =>
      have hl : (m.L r).isLive := by rw [hL]; trivial
      rcases hb with ⟨hb, _⟩ | ⟨cap', c, hL', h0, h00, h1, h2, h3⟩
      · rw [hL] at hb; cases hb
      rw [hL] at hL'
      injection hL' with _ e2 e3 e4
      subst e3 e4
      have hH := holds_ok encS_of hS hr hl zs.toArray (by simpa using hz) fun i hi => by rw [hf i hi, toArr_get (by omega) []]; rfl
      have hC := Tryz.slices_Compact_string (m.ρ r) 0 (cap - 0) zs w hH (by omega) (by omega)
      rw [hz] at hC
      rw [Nat.zero_mul]
      refine hC.mono fun e w' ⟨he, q, hw'⟩ => ?_
      subst he hw'
      have hdl : (Lib.compact zs ++ List.replicate (n - (Lib.compact zs).length) []).toArray.size = n := by simp; omega
      obtain ⟨t1, s1⟩ := putRow_ok (g := fun x => PV.str x) encS_to (hS.ahead q) hr hl _ hdl
      have t1 := (Tr.ahead w m q).trans t1
      obtain ⟨m', t2, s2, v2⟩ := freeze_sl s1 (r := r) (nth_setN_eq hr) (fun i => [PV.str (Lib.compact zs ++ List.replicate (n - (Lib.compact zs).length) []).toArray[i]!]) (fun _ _ => rfl)
      have e5 : setN (setN K r (.arr ty 1 ver n fun i => [AV.p (.str (Lib.compact zs ++ List.replicate (n - (Lib.compact zs).length) []).toArray[i]!)])) r .dead = setN K r .dead := setN_setN _ _ _ _
      rw [e5] at s2
      refine ⟨m', strsV (Lib.compact zs), _, t1.trans t2, s2, ?_, hk⟩
      by_cases hn0 : n = 0
      · have : Lib.compact zs = [] := List.length_eq_zero_iff.1 (by omega)
        rw [this]
        exact .p _ _ (.sl0 ..)
      · have hu : V (putRow (encStr) (Sort.ahead w q) (m.ρ r) 0 (Lib.compact zs ++ List.replicate (n - (Lib.compact zs).length) []).toArray) m (.slr r ver 0 n) (.slice (some ⟨m.ρ r, 0, none⟩) n (cap - 0)) := by
          have := V.slr (w := putRow (encStr) (Sort.ahead w q) (m.ρ r) 0 (Lib.compact zs ++ List.replicate (n - (Lib.compact zs).length) []).toArray) (m := m) r ver 0 n _ 1 cap hL hN
          rwa [Nat.zero_mul] at this
        cases v2 _ hu with
        | p _ _ h =>
          refine .p _ _ (VP.sl_take h (by omega) (by omega) fun i hi => ?_)
          rw [toArr_get (by simp; omega) [], List.getD_eq_getElem?_getD, List.getD_eq_getElem?_getD, List.getElem?_append_left hi]
    | slrNil _ _ hL =>
      rcases hb with ⟨hb, h0⟩ | ⟨cap', c, hL', _⟩
      · have hz0 : zs = [] := List.length_eq_zero_iff.1 hz
        subst hz0
        refine (Tryz.slices_Compact_string_empty none 0 w).mono fun e w' ⟨h3, h4⟩ => ?_
        subst h3 h4
        obtain ⟨m', t2, s2, v2⟩ := freeze_sl hS hr (fun _ => []) (fun i hi => by omega)
        exact ⟨m', strsV _, _, t2, s2, .p _ _ (.sl0 ..), hk⟩
      · rw [hL] at hL'; cases hL'
    | slrOld _ _ _ _ ad c hold =>
      rcases hb with ⟨hb, h0⟩ | ⟨cap', c, hL', _⟩
      · rw [hb] at hold; simp [Inf.old] at hold
      · rw [hL'] at hold; simp [Inf.old] at hold
end Go.Proofs.YtkomdppjelnpdaaGreatDoor

namespace Go.Ru
def chnL (ns : List Nd) : List Bs := (ns.filter fun n => n.k == 18).map (·.tx)
def chnS (ns : List Nd) (root : Int) : List Bs := if rightS ns root then setS (chnL ns) else []
theorem chnL_len (ns : List Nd) : (chnL ns).length ≤ ns.length := by
  simp only [chnL, List.length_map]; exact List.length_filter_le _ _
theorem chnS_len (ns : List Nd) (root : Int) : (chnS ns root).length ≤ ns.length := by
  unfold chnS
  split
  · exact Nat.le_trans (setS_len _) (chnL_len ns)
  · exact Nat.zero_le _
end Go.Ru
namespace Go.Proofs.YtkomdppjelnpdaaGreatDoor
open Go.AE Go.Ru
set_option maxRecDepth 100000
set_option maxHeartbeats 1000000
def strB (l : List Bs) : ABlk := .arr 9 1 0 l.length (fun i => pvs (strF l i))
theorem strB_snoc (l : List Bs) (x : Bs) (f : Nat → List AV) (hf : f 0 = [.p (.str x)]) : (ABlk.arr 9 1 0 (l.length + 1) (catF l.length (fun i => pvs (strF l i)) f)).le (strB (l ++ [x])) := by
  refine ABlk.arr_eq (by simp) fun i hi => ?_
  by_cases h : i < l.length
  · rw [catF_lt h]
    simp [strF, List.getD_eq_getElem?_getD, List.getElem?_append_left h]
  · obtain rfl : i = l.length := by omega
    rw [catF_ge (Nat.le_refl _), Nat.sub_self, hf]
    simp [strF, List.getD_eq_getElem?_getD, pvs]
theorem strB_cl (l : List Bs) (x : Bs) (f : Nat → List AV) (n : Nat) (hf : f 0 = [.p (.str x)]) : (ABlk.arr 9 1 0 (l.length + 1) (catF l.length (fun i => pvs (strF l i)) f)).cl n := fun i hi => by
  by_cases h : i < l.length
  · rw [catF_lt h]; rfl
  · obtain rfl : i = l.length := by omega
    rw [catF_ge (Nat.le_refl _), Nat.sub_self, hf]; rfl
structure CC where
  j : Nat
  l : List Bs
def gChn : AG := gput 12 eRight (gput 57 cSortS (gput 58 cCompS g0))
theorem gChn_ok : GOk Tryz.prog gChn := gput_ok eRight_ok (gput_ok sortS_ok (gput_ok compS_ok g0_ok))
def eChan : AC := fun args K k => ∃ ns root l, args = [treeV ns root] ∧ Tame ns ∧ chnS ns root = l ∧ k (.ret (strsV l)) K
theorem eChan_ok : COk 28 eChan := by
  rintro args K k ⟨ns, root, l, rfl, ta, hch, hk⟩
  subst hch
  have hlen := ta.len
  cases hrt : rightS ns root with
  | false =>
    refine frame0W gChn_ok 19 rfl fun Q hr => ?_
    have hk : k (.ret (strsV [])) K := by rw [chnS, hrt] at hk; exact hk
    conv => whnf
    refine ⟨ns, root, _, rfl, ta, hrt, ?_⟩
    conv => whnf
    exact hr _ _ (strsV []) _ (Wk1.le (AV.nils_le _ _) (lesK.refl _)) rfl hk
  | true =>
  have hk : k (.ret (strsV (setS (chnL ns)))) K := by rw [chnS, hrt] at hk; exact hk
  refine frame0W gChn_ok 19 rfl fun Q hr => ?_
  conv => whnf
  refine ⟨ns, root, _, rfl, ta, hrt, ?_⟩
  conv => whnf
  refine loop_nil (ι := CC) 9 1 (fun i => pvs (strF [] i)) (fun c => ⟨[(1, .ptr 0 0 1 0 0), (3, .slr 1 0 0 c.l.length), (10, .p (.sl 5 ns.length (nodeF ns))), (11, intV ns.length), (12, intV c.j)], [tbox ns root, strB c.l]⟩)
    (fun c => c.j ≤ ns.length ∧ c.l.length ≤ c.j ∧ c.l ++ chnL (ns.drop c.j) = chnL ns) (fun c => ns.length - c.j) ⟨0, []⟩ [tbox ns root]
    rfl ⟨.inl (AV.le_refl _), .inr ⟨rfl, rfl⟩, .inl (AV.le_refl _), .inl (AV.le_refl _), .inl (AV.le_refl _), trivial⟩ ⟨.inl (ABlk.le_refl _), trivial⟩ rfl ⟨Nat.zero_le _, Nat.le_refl _, rfl⟩ ?_
  rintro Y hle ⟨j, l⟩ ⟨hj, hl, he⟩ ih
  simp only at hj hl he
  conv => whnf
  refine two_dec (fun h => ?_) (fun h => ?_)
  · have h : j < ns.length := by have h : (j : Int) < (ns.length : Int) := h; omega
    have hw1 := wzz (i := j) (by omega)
    rw [List.drop_eq_getElem_cons h] at he
    have e1 : ns[j] = nd ns j := by simp [nd, h]
    rw [e1] at he
    conv => whnf
    refine ⟨⟨by omega, by omega, rfl⟩, ?_⟩
    conv => whnf
    refine two_eq (fun h4 => ?_) (fun h4 => ?_)
    · have h4 : (nd ns j).k = 18 := h4
      have he : (l ++ [(nd ns j).tx]) ++ chnL (ns.drop (j + 1)) = chnL ns := by
        rw [← he]; simp [chnL, h4]
      conv => whnf
      refine ⟨⟨rfl, rfl, rfl, allLt_ok ⟨trivial, rfl⟩⟩, ?_⟩
      conv => whnf
      refine ⟨⟨rfl, rfl, rfl, rfl, ?_, ?_⟩, ?_⟩
      · show (l.length + 1) * 16 ≤ 140737488355328
        omega
      · show l.length + 1 ≤ 9223372036854775807
        omega
      conv => whnf
      refine hle _ _ (Le.cutEnv 2 rfl rfl ⟨rfl, strB_cl l _ _ 2 rfl, trivial⟩ ?_ ?_) (ih ⟨j + 1, l ++ [(nd ns j).tx]⟩ (by show _ - (j + 1) < _ - j; omega) ⟨h, by simp; omega, he⟩)
      · skip
        repeat' (first | exact trivial | ((conv => whnf); first | exact trivial | (refine And.intro (AV.le_refl _) ?_) | (refine And.intro (ABlk.le_refl _) ?_) | (refine And.intro (AV.le_of_eq ?_) ?_; (focus ((first | exact congrArg intV hw1 | exact congrArg (fun n => AV.slr 1 0 0 n) (by simp) | fail); done))) | (refine And.intro (ABlk.le_of_eq ?_) ?_; (focus ((first | exact congrArg intV hw1 | exact congrArg (fun n => AV.slr 1 0 0 n) (by simp) | fail); done))) | fail) | fail)
      · (conv => whnf)
        refine ⟨ABlk.le_refl _, ?_⟩
        (conv => whnf)
        refine ⟨strB_snoc l _ _ rfl, ?_⟩
        trivial
    · have h4 : (nd ns j).k ≠ 18 := h4
      have he : l ++ chnL (ns.drop (j + 1)) = chnL ns := by
        rw [← he]; simp [chnL, h4]
      conv => whnf
      refine hle _ _ (Le.cutEnv 2 rfl rfl ⟨rfl, fun _ _ => rfl, trivial⟩ ?_ ?_) (ih ⟨j + 1, l⟩ (by show _ - (j + 1) < _ - j; omega) ⟨h, by show l.length ≤ j + 1; omega, he⟩)
      · skip
        repeat' (first | exact trivial | ((conv => whnf); first | exact trivial | (refine And.intro (AV.le_refl _) ?_) | (refine And.intro (ABlk.le_refl _) ?_) | (refine And.intro (AV.le_of_eq ?_) ?_; (focus ((first | exact congrArg intV hw1 | fail); done))) | (refine And.intro (ABlk.le_of_eq ?_) ?_; (focus ((first | exact congrArg intV hw1 | fail); done))) | fail) | fail)
      · skip
        repeat' (first | exact trivial | ((conv => whnf); first | exact trivial | (refine And.intro (AV.le_refl _) ?_) | (refine And.intro (ABlk.le_refl _) ?_) | (refine And.intro (AV.le_of_eq ?_) ?_; (focus ((first | fail | fail); done))) | (refine And.intro (ABlk.le_of_eq ?_) ?_; (focus ((first | fail | fail); done))) | fail) | fail)
  · obtain rfl : j = ns.length := by have h : ¬ (j : Int) < (ns.length : Int) := h; omega
    rw [List.drop_length] at he
    simp only [chnL, List.filter_nil, List.map_nil, List.append_nil] at he
    have he : l = chnL ns := he
    subst he
    have hcl := chnL_len ns
    conv => whnf
    refine .inr ⟨1, 0, (chnL ns).length, chnL ns, _, _, rfl, rfl, rfl, fun _ _ => rfl, by omega, ?_⟩
    conv => whnf
    refine .inr ⟨1, 0, (chnL ns).length, sortS (chnL ns), _, _, rfl, rfl, sortS_len _, fun _ _ => rfl, by omega, ?_⟩
    conv => whnf
    exact hr _ _ _ _ (Wk1.refl _ _ _) rfl hk
end Go.Proofs.YtkomdppjelnpdaaGreatDoor

namespace Go.Ru
theorem bs_not_leq {a b : Bs} (h : b < a) : (Op.bytesLess a b || a == b) = false := by
  rw [Go.Proofs.bytesLess_eq, Bool.or_eq_false_iff]
  refine ⟨decide_eq_false fun h2 => List.lt_irrefl a (bs_lt_trans h2 h), ?_⟩
  cases e : a == b with
  | false => rfl
  | true =>
    have e := eq_of_beq e
    subst e
    exact (List.lt_irrefl a h).elim
theorem riseS_get {l : List Bs} (h : l.Pairwise (· < ·)) {k : Nat} (hk : k + 1 < l.length) : l.getD k [] < l.getD (k + 1) [] := by
  have := List.pairwise_iff_getElem.1 h k (k + 1) (by omega) hk (by omega)
  simpa [List.getD_eq_getElem?_getD, List.getElem?_eq_getElem hk, List.getElem?_eq_getElem (show k < l.length by omega)] using this
def fdT (t : Bs) (l : List Bs) (k : Nat) : Bool := decide (t ∈ l.take k)
theorem fdT_succ {t : Bs} {l : List Bs} {k : Nat} (hk : k < l.length) : fdT t l (k + 1) = (fdT t l k || (l.getD k [] == t)) := by
  unfold fdT
  have e : l.getD k [] = l[k] := by simp [hk]
  rw [e, List.take_succ_eq_append_getElem hk]
  by_cases h1 : t ∈ l.take k
  · rw [decide_eq_true h1, Bool.true_or]; exact decide_eq_true (List.mem_append_left _ h1)
  · by_cases h2 : l[k] = t
    · rw [h2]; simp
    · have h3 : (l[k] == t) = false := by rw [beq_eq_false_iff_ne]; exact h2
      rw [h3]
      simp only [List.mem_append, List.mem_cons, List.not_mem_nil, or_false, h1, false_or, decide_false, Bool.or_false]
      exact decide_eq_false fun e => h2 e.symm
theorem fdT_all {t : Bs} {l : List Bs} (h : t ∈ l) : fdT t l l.length = true := by simp [fdT, h]
def chnN (ns : List Nd) (i : Nat) : Nat := (chnL (ns.take i)).length
theorem chnN_succ {ns : List Nd} {i : Nat} (hi : i < ns.length) : chnN ns (i + 1) = if (nd ns i).k = 18 then chnN ns i + 1 else chnN ns i := by
  unfold chnN chnL
  have e1 : ns[i] = nd ns i := by simp [nd, hi]
  rw [List.take_add_one, List.getElem?_eq_getElem hi, e1]
  by_cases h : (nd ns i).k = 18 <;> simp [h]
theorem chnN_le {ns : List Nd} {i : Nat} : chnN ns i ≤ i := Nat.le_trans (chnL_len _) (by simp; omega)
theorem chnN_all (ns : List Nd) : chnN ns ns.length = (chnL ns).length := by simp [chnN]
theorem chnL_mem {ns : List Nd} {i : Nat} (hi : i < ns.length) (h : (nd ns i).k = 18) : (nd ns i).tx ∈ chnL ns := by
  unfold chnL
  refine List.mem_map.2 ⟨nd ns i, List.mem_filter.2 ⟨?_, by simp [h]⟩, rfl⟩
  have e1 : ns[i] = nd ns i := by simp [nd, hi]
  rw [← e1]; exact List.getElem_mem hi
end Go.Ru
namespace Go.Proofs.YtkomdppjelnpdaaGreatDoor
open Go.AE Go.Ru
set_option maxRecDepth 100000
set_option maxHeartbeats 1000000
def ePlain : AC := fun args K k => ∃ ns root i v, args = [treeV ns root, intV i] ∧ Tame ns ∧ plainT ns root i = v ∧ k (.ret (.p (.bool v))) K
theorem ePlain_ok : COk 29 ePlain := by
  rintro args K k ⟨ns, root, i, v, h1, h2, rfl, h3⟩
  exact plainT_ok args K k ⟨ns, root, i, h1, h2, h3⟩
def gTc : AG := gput 10 cShown7 (gput 11 (eSmall 400) (gput 12 eRight (gput 28 eChan (gput 29 ePlain (gput 14 eOwner g0)))))
theorem gTc_ok : GOk Tryz.prog gTc := gput_ok shown7_ok (gput_ok eSmall7_ok (gput_ok eRight_ok (gput_ok eChan_ok (gput_ok ePlain_ok (gput_ok eOwner_ok g0_ok)))))
theorem channels_calls (ns : List Nd) (root : Int) (K : List ABlk) (k : AO → List ABlk → Prop) (hk : k (.ret (.p (.bool true))) K) : ACalls Tryz.prog 6 [treeV ns root] K k := by
  cases hs : smallS 400 ns with
  | false =>
    refine frame0P gTc_ok 19 rfl fun Q hr => ?_
    conv => whnf
    refine ⟨rfl, ?_⟩
    conv => whnf
    refine ⟨ns, root, _, rfl, hs, ?_⟩
    conv => whnf
    exact hr _ _ rfl hk
  | true =>
  have ta := small_tame (m := 400) (by decide) hs
  cases hrt : rightS ns root with
  | false =>
    refine frame0P gTc_ok 19 rfl fun Q hr => ?_
    conv => whnf
    refine ⟨rfl, ?_⟩
    conv => whnf
    refine ⟨ns, root, _, rfl, hs, ?_⟩
    conv => whnf
    refine ⟨ns, root, _, rfl, ta, hrt, ?_⟩
    conv => whnf
    exact hr _ _ rfl hk
  | true =>
  have rt := right_of hrt
  have hlen := rt.len
  have hpos := rt.pos
  obtain ⟨l, hcl⟩ : ∃ l, chnS ns root = l := ⟨_, rfl⟩
  have hll : l.length ≤ ns.length := hcl ▸ chnS_len ns root
  have hl : l = setS (chnL ns) := by rw [← hcl, chnS, hrt]; rfl
  have hrise : l.Pairwise (· < ·) := hl ▸ setS_rise _
  have hmem : ∀ i : Nat, i < ns.length → (nd ns i).k = 18 → (nd ns i).tx ∈ l := fun i h1 h2 => by rw [hl, setS_mem]; exact chnL_mem h1 h2
  have hfin : l.length ≤ chnN ns ns.length := by rw [hl, chnN_all]; exact setS_len _
  refine frame0P gTc_ok 19 rfl fun Q hr => ?_
  conv => whnf
  refine ⟨rfl, ?_⟩
  conv => whnf
  refine ⟨ns, root, _, rfl, hs, ?_⟩
  conv => whnf
  refine ⟨ns, root, _, rfl, ta, hrt, ?_⟩
  conv => whnf
  refine ⟨ns, root, l, rfl, ta, hcl, ?_⟩
  conv => whnf
  refine loop_up (ι := Nat) [1, 5] (fun i => [(6, intV i)]) (fun _ => []) (fun i => 1 ≤ i ∧ i ≤ l.length + 1) (fun i => l.length + 1 - i) 1 ⟨AV.le_refl _, trivial⟩ trivial ⟨Nat.le_refl _, Nat.succ_le_succ (Nat.zero_le _)⟩ ?_
  rintro Y hle i ⟨hi0, hi⟩ ih
  conv => whnf
  refine two_dec (fun h => ?_) (fun h => ?_)
  · have h : i < l.length := by have h : (i : Int) < (l.length : Int) := h; omega
    have hw1 := wzz (i := i) (by omega)
    have hil : (i : Int) < (l.length : Int) := by omega
    have hwk : IntKind.i64.wrap ((i : Int) - 1) = ((i - 1 : Nat) : Int) := by rw [w64 ⟨by omega, by omega⟩]; omega
    have hk0 : 0 ≤ IntKind.i64.wrap ((i : Int) - 1) := by rw [hwk]; omega
    have hk1 : IntKind.i64.wrap ((i : Int) - 1) < (l.length : Int) := by rw [hwk]; omega
    have hlt : (Op.bytesLess (l.getD i []) (l.getD (IntKind.i64.wrap ((i : Int) - 1)).toNat []) || (l.getD i [] == l.getD (IntKind.i64.wrap ((i : Int) - 1)).toNat [])) = false := by
      rw [hwk, Int.toNat_natCast]
      have := riseS_get hrise (k := i - 1) (by omega)
      rw [show i - 1 + 1 = i by omega] at this
      exact bs_not_leq this
    conv => whnf
    repeat' (first | (refine Chk.mk ⟨by omega, hil, rfl⟩ ?_; (conv => whnf)) | (refine Chk.mk ⟨hk0, hk1, rfl⟩ ?_; (conv => whnf)) | fail)
    refine two_false hlt ?_
    conv => whnf
    refine hle _ _ (Le.env ?_ ?_) (ih (i + 1) (by omega) ⟨by omega, by omega⟩)
    · skip
      repeat' (first | exact trivial | ((conv => whnf); first | exact trivial | (refine And.intro (AV.le_refl _) ?_) | (refine And.intro (ABlk.le_refl _) ?_) | (refine And.intro (AV.le_of_eq ?_) ?_; (focus ((first | exact congrArg intV hw1 | fail); done))) | (refine And.intro (ABlk.le_of_eq ?_) ?_; (focus ((first | exact congrArg intV hw1 | fail); done))) | fail) | fail)
    · skip
      repeat' (first | exact trivial | ((conv => whnf); first | exact trivial | (refine And.intro (AV.le_refl _) ?_) | (refine And.intro (ABlk.le_refl _) ?_) | (refine And.intro (AV.le_of_eq ?_) ?_; (focus ((first | fail | fail); done))) | (refine And.intro (ABlk.le_of_eq ?_) ?_; (focus ((first | fail | fail); done))) | fail) | fail)
  · conv => whnf
    refine loop_up (ι := Nat) [1, 5] (fun i => [(7, intV (chnN ns i)), (8, intV i)]) (fun _ => []) (fun i => i ≤ ns.length) (fun i => ns.length - i) 0 ⟨AV.le_refl _, AV.le_refl _, trivial⟩ trivial (Nat.zero_le _) ?_
    rintro Y hle i hi ih
    conv => whnf
    refine two_dec (fun h => ?_) (fun h => ?_)
    · have h : i < ns.length := by have h : (i : Int) < (ns.length : Int) := h; omega
      have hw1 := wzz (i := i) (by omega)
      have hsc := chnN_succ h
      have hcle := chnN_le (ns := ns) (i := i)
      obtain ⟨v, hv⟩ : ∃ v, plainT ns root (i : Int) = v := ⟨_, rfl⟩
      have hpl : v = true → (nd ns i).k = 3 ∧ (nd ns i).n = 1 ∧ ownerT ns root (i : Int) = (i : Int) := fun e => by
        subst e
        simp only [plainT, tplainS, Bool.and_eq_true, beq_iff_eq, Int.toNat_natCast] at hv
        refine ⟨hv.1.2, hv.2.2, ?_⟩
        rw [ownerT_in rt h]
        exact (owner_law rt h).1 hv.1.2
      conv => whnf
      refine ⟨⟨by omega, by omega, rfl⟩, ?_⟩
      conv => whnf
      refine two_eq (fun h4 => ?_) (fun h4 => ?_)
      · have h4 : (nd ns i).k = 18 := h4
        rw [if_pos h4] at hsc
        have hcn : IntKind.i64.wrap ((chnN ns i : Int) + 1) = (chnN ns (i + 1) : Int) := by rw [wzz (i := chnN ns i) (by omega), hsc]
        obtain ⟨t, ht⟩ : ∃ t, (nd ns i).tx = t := ⟨_, rfl⟩
        have htl : t ∈ l := ht ▸ hmem i h h4
        conv => whnf
        refine loop_up (ι := Nat) [1, 5, 7, 8] (fun j => [(9, .p (.bool (fdT t l j))), (10, intV j)]) (fun _ => []) (fun j => j ≤ l.length) (fun j => l.length - j) 0 ⟨AV.le_of_eq (congrArg (fun b => AV.p (.bool b)) (by simp [fdT])), AV.le_refl _, trivial⟩ trivial (Nat.zero_le _) ?_
        rintro Z hlz j hj ihz
        conv => whnf
        refine two_dec (fun hjl => ?_) (fun hjl => ?_)
        · have hjl : j < l.length := by have h : (j : Int) < (l.length : Int) := hjl; omega
          have hw2 := wzz (i := j) (by omega)
          have hjl' : (j : Int) < (l.length : Int) := by omega
          have hfs := fdT_succ (t := t) hjl
          conv => whnf
          refine two_intro (fun hf => ?_) (fun hf => ?_)
          · have hf : fdT t l j = true := hf
            have hb : true = fdT t l (j + 1) := by rw [hfs, hf]; rfl
            conv => whnf
            refine hlz _ _ (Le.env ?_ ?_) (ihz (j + 1) (by omega) (by omega))
            · skip
              repeat' (first | exact trivial | ((conv => whnf); first | exact trivial | (refine And.intro (AV.le_refl _) ?_) | (refine And.intro (ABlk.le_refl _) ?_) | (refine And.intro (AV.le_of_eq ?_) ?_; (focus ((first | exact congrArg intV hw2 | exact congrArg (fun b => AV.p (.bool b)) (hf.trans hb) | exact congrArg (fun b => AV.p (.bool b)) hb | fail); done))) | (refine And.intro (ABlk.le_of_eq ?_) ?_; (focus ((first | exact congrArg intV hw2 | exact congrArg (fun b => AV.p (.bool b)) (hf.trans hb) | exact congrArg (fun b => AV.p (.bool b)) hb | fail); done))) | fail) | fail)
            · skip
              repeat' (first | exact trivial | ((conv => whnf); first | exact trivial | (refine And.intro (AV.le_refl _) ?_) | (refine And.intro (ABlk.le_refl _) ?_) | (refine And.intro (AV.le_of_eq ?_) ?_; (focus ((first | fail | fail); done))) | (refine And.intro (ABlk.le_of_eq ?_) ?_; (focus ((first | fail | fail); done))) | fail) | fail)
          · have hf : fdT t l j = false := hf
            have hb : (l.getD j [] == (nd ns i).tx) = fdT t l (j + 1) := by rw [hfs, hf, ht]; rfl
            conv => whnf
            repeat' (first | (refine Chk.mk ⟨by omega, hjl', rfl⟩ ?_; (conv => whnf)) | (refine Chk.mk ⟨by omega, by omega, rfl⟩ ?_; (conv => whnf)) | fail)
            refine hlz _ _ (Le.env ?_ ?_) (ihz (j + 1) (by omega) (by omega))
            · skip
              repeat' (first | exact trivial | ((conv => whnf); first | exact trivial | (refine And.intro (AV.le_refl _) ?_) | (refine And.intro (ABlk.le_refl _) ?_) | (refine And.intro (AV.le_of_eq ?_) ?_; (focus ((first | exact congrArg intV hw2 | exact congrArg (fun b => AV.p (.bool b)) hb | fail); done))) | (refine And.intro (ABlk.le_of_eq ?_) ?_; (focus ((first | exact congrArg intV hw2 | exact congrArg (fun b => AV.p (.bool b)) hb | fail); done))) | fail) | fail)
            · skip
              repeat' (first | exact trivial | ((conv => whnf); first | exact trivial | (refine And.intro (AV.le_refl _) ?_) | (refine And.intro (ABlk.le_refl _) ?_) | (refine And.intro (AV.le_of_eq ?_) ?_; (focus ((first | fail | fail); done))) | (refine And.intro (ABlk.le_of_eq ?_) ?_; (focus ((first | fail | fail); done))) | fail) | fail)
        · obtain rfl : j = l.length := by have h : ¬ (j : Int) < (l.length : Int) := hjl; omega
          have hf := fdT_all htl
          rw [hf]
          conv => whnf
          refine ⟨ns, root, (i : Int), v, rfl, ta, hv, ?_⟩
          conv => whnf
          cases v with
          | false =>
            conv => whnf
            conv => whnf
            refine hle _ _ (Le.cutEnv 1 rfl rfl ⟨rfl, trivial⟩ ?_ ?_) (ih (i + 1) (by omega) (by omega))
            · skip
              repeat' (first | exact trivial | ((conv => whnf); first | exact trivial | (refine And.intro (AV.le_refl _) ?_) | (refine And.intro (ABlk.le_refl _) ?_) | (refine And.intro (AV.le_of_eq ?_) ?_; (focus ((first | exact congrArg intV hw1 | exact congrArg intV hcn | exact congrArg intV hcn.symm | fail); done))) | (refine And.intro (ABlk.le_of_eq ?_) ?_; (focus ((first | exact congrArg intV hw1 | exact congrArg intV hcn | exact congrArg intV hcn.symm | fail); done))) | fail) | fail)
            · skip
              repeat' (first | exact trivial | ((conv => whnf); first | exact trivial | (refine And.intro (AV.le_refl _) ?_) | (refine And.intro (ABlk.le_refl _) ?_) | (refine And.intro (AV.le_of_eq ?_) ?_; (focus ((first | fail | fail); done))) | (refine And.intro (ABlk.le_of_eq ?_) ?_; (focus ((first | fail | fail); done))) | fail) | fail)
          | true =>
            obtain ⟨p1, p2, p3⟩ := hpl rfl
            conv => whnf
            refine ⟨⟨by omega, by omega, rfl⟩, ?_⟩
            conv => whnf
            refine two_ne (fun h5 => absurd p1 h5) (fun _ => ?_)
            conv => whnf
            refine ⟨⟨by omega, by omega, rfl⟩, ?_⟩
            conv => whnf
            refine two_ne (fun h5 => absurd p2 h5) (fun _ => ?_)
            conv => whnf
            refine ⟨ns, root, (i : Int), (i : Int), rfl, ta, p3, ?_⟩
            conv => whnf
            refine two_ne (fun h5 => absurd rfl h5) (fun _ => ?_)
            conv => whnf
            refine hle _ _ (Le.cutEnv 1 rfl rfl ⟨rfl, trivial⟩ ?_ ?_) (ih (i + 1) (by omega) (by omega))
            · skip
              repeat' (first | exact trivial | ((conv => whnf); first | exact trivial | (refine And.intro (AV.le_refl _) ?_) | (refine And.intro (ABlk.le_refl _) ?_) | (refine And.intro (AV.le_of_eq ?_) ?_; (focus ((first | exact congrArg intV hw1 | exact congrArg intV hcn | exact congrArg intV hcn.symm | fail); done))) | (refine And.intro (ABlk.le_of_eq ?_) ?_; (focus ((first | exact congrArg intV hw1 | exact congrArg intV hcn | exact congrArg intV hcn.symm | fail); done))) | fail) | fail)
            · skip
              repeat' (first | exact trivial | ((conv => whnf); first | exact trivial | (refine And.intro (AV.le_refl _) ?_) | (refine And.intro (ABlk.le_refl _) ?_) | (refine And.intro (AV.le_of_eq ?_) ?_; (focus ((first | fail | fail); done))) | (refine And.intro (ABlk.le_of_eq ?_) ?_; (focus ((first | fail | fail); done))) | fail) | fail)
      · have h4 : (nd ns i).k ≠ 18 := h4
        rw [if_neg h4] at hsc
        have hcn : (chnN ns i : Int) = (chnN ns (i + 1) : Int) := by rw [hsc]
        conv => whnf
        refine ⟨ns, root, (i : Int), v, rfl, ta, hv, ?_⟩
        conv => whnf
        cases v with
        | false =>
          conv => whnf
          conv => whnf
          refine hle _ _ (Le.cutEnv 1 rfl rfl ⟨rfl, trivial⟩ ?_ ?_) (ih (i + 1) (by omega) (by omega))
          · skip
            repeat' (first | exact trivial | ((conv => whnf); first | exact trivial | (refine And.intro (AV.le_refl _) ?_) | (refine And.intro (ABlk.le_refl _) ?_) | (refine And.intro (AV.le_of_eq ?_) ?_; (focus ((first | exact congrArg intV hw1 | exact congrArg intV hcn | exact congrArg intV hcn.symm | fail); done))) | (refine And.intro (ABlk.le_of_eq ?_) ?_; (focus ((first | exact congrArg intV hw1 | exact congrArg intV hcn | exact congrArg intV hcn.symm | fail); done))) | fail) | fail)
          · skip
            repeat' (first | exact trivial | ((conv => whnf); first | exact trivial | (refine And.intro (AV.le_refl _) ?_) | (refine And.intro (ABlk.le_refl _) ?_) | (refine And.intro (AV.le_of_eq ?_) ?_; (focus ((first | fail | fail); done))) | (refine And.intro (ABlk.le_of_eq ?_) ?_; (focus ((first | fail | fail); done))) | fail) | fail)
        | true =>
          obtain ⟨p1, p2, p3⟩ := hpl rfl
          conv => whnf
          refine ⟨⟨by omega, by omega, rfl⟩, ?_⟩
          conv => whnf
          refine two_ne (fun h5 => absurd p1 h5) (fun _ => ?_)
          conv => whnf
          refine ⟨⟨by omega, by omega, rfl⟩, ?_⟩
          conv => whnf
          refine two_ne (fun h5 => absurd p2 h5) (fun _ => ?_)
          conv => whnf
          refine ⟨ns, root, (i : Int), (i : Int), rfl, ta, p3, ?_⟩
          conv => whnf
          refine two_ne (fun h5 => absurd rfl h5) (fun _ => ?_)
          conv => whnf
          refine hle _ _ (Le.cutEnv 1 rfl rfl ⟨rfl, trivial⟩ ?_ ?_) (ih (i + 1) (by omega) (by omega))
          · skip
            repeat' (first | exact trivial | ((conv => whnf); first | exact trivial | (refine And.intro (AV.le_refl _) ?_) | (refine And.intro (ABlk.le_refl _) ?_) | (refine And.intro (AV.le_of_eq ?_) ?_; (focus ((first | exact congrArg intV hw1 | exact congrArg intV hcn | exact congrArg intV hcn.symm | fail); done))) | (refine And.intro (ABlk.le_of_eq ?_) ?_; (focus ((first | exact congrArg intV hw1 | exact congrArg intV hcn | exact congrArg intV hcn.symm | fail); done))) | fail) | fail)
          · skip
            repeat' (first | exact trivial | ((conv => whnf); first | exact trivial | (refine And.intro (AV.le_refl _) ?_) | (refine And.intro (ABlk.le_refl _) ?_) | (refine And.intro (AV.le_of_eq ?_) ?_; (focus ((first | fail | fail); done))) | (refine And.intro (ABlk.le_of_eq ?_) ?_; (focus ((first | fail | fail); done))) | fail) | fail)
    · obtain rfl : i = ns.length := by have h : ¬ (i : Int) < (ns.length : Int) := h; omega
      conv => whnf
      have e : decide ((l.length : Int) ≤ (chnN ns ns.length : Int)) = true := decide_eq_true (by omega)
      first | exact hr _ _ rfl (by rw [e]; exact hk) | (rw [e]; exact hr _ _ rfl hk) | exact hr _ (.p (.bool true)) rfl hk
end Go.Proofs.YtkomdppjelnpdaaGreatDoor
