/-
  Rows of strings sorted and compacted, as the layer AE meets them. No statement of the seat is proved here.
  Types: the contract of Channels. No statement of the seat is proved here.
  The reference of layer 7, part 3: channels. No program in sight; no statement of the seat is proved here.
  The reference of layer 7, part 12: the contract of Channels. No statement of the seat is proved here.
  A small tree can be gone through. No statement of the seat is proved here.
  The statement TypesTell: the walk. No statement of the seat is proved here.
-/
import Derived.Sort.Walk0
import Derived.Test.YtojjkleplnijaaaGreatDoorPk5
import Derived.Test.YtojjkleplnijaaaGreatDoorPk7
set_option linter.unusedVariables false
set_option linter.unusedSimpArgs false
namespace Go.Ru
theorem bs_le_trans {a b c : Bs} (h1 : a ≤ b) (h2 : b ≤ c) : a ≤ c := List.le_trans h1 h2
theorem bs_le_total (a b : Bs) : a ≤ b ∨ b ≤ a := List.le_total a b
theorem bs_lt_trans {a b c : Bs} (h1 : a < b) (h2 : b < c) : a < c := List.lt_trans h1 h2
theorem bs_le_lt_or_eq {a b : Bs} (h : a ≤ b) : a < b ∨ a = b := by
  by_cases e : a = b
  · exact .inr e
  · exact .inl (Decidable.byContradiction fun hn => e (List.le_antisymm h hn))
theorem sortS_sorted (l : List Bs) : (sortS l).Pairwise fun x y => x < y ∨ x = y := by
  have := List.pairwise_mergeSort (le := fun x y : Bs => decide (x ≤ y)) (fun a b c h1 h2 => by simp only [decide_eq_true_eq] at *; exact bs_le_trans h1 h2) (fun a b => by simp only [Bool.or_eq_true, decide_eq_true_eq]; exact bs_le_total a b) l
  exact this.imp fun h => bs_le_lt_or_eq (by simpa using h)
def setS (l : List Bs) : List Bs := Lib.compact (sortS l)
theorem setS_mem {l : List Bs} {x : Bs} : x ∈ setS l ↔ x ∈ l := by rw [setS, compact_mem, sortS_mem]
theorem setS_rise (l : List Bs) : (setS l).Pairwise (· < ·) :=
  compact_rise (fun _ _ _ => bs_lt_trans) (sortS_sorted l)
theorem setS_len (l : List Bs) : (setS l).length ≤ l.length := by rw [← sortS_len l]; exact compact_len _
end Go.Ru
namespace Go.Proofs.YtojjkleplnijaaaGreatDoor
open Go.AE Go.Ru Go.RowKit Go.Sort
set_option maxRecDepth 100000
def strV (s : Bs) : AV := .p (.str s)
def strsV (l : List Bs) : AV := .p (.sl 1 l.length fun i => [.str (l.getD i [])])
def cSortS : AC := fun args K k => (args = [.p .nils] ∧ k (.ret (.tup [])) K) ∨ ∃ r ver n zs f ty, args = [.slr r ver 0 n] ∧ nth K r = some (.arr ty 1 ver n f) ∧ List.length zs = n ∧ (∀ i, i < n → f i = [strV (zs.getD i [])]) ∧ n < 1000000 ∧
  k (.ret (.tup [])) (setN K r (.arr ty 1 ver n fun i => [strV ((sortS zs).getD i [])]))
theorem sortS_ok : COk 61 cSortS := by
  rintro args K k (⟨rfl, hk⟩ | ⟨r, ver, n, zs, f, ty, rfl, hr, hz, hf, hn, hk⟩)
  · refine ACalls.lib (ent rfl rfl) fun w m Args hS hV => ?_
    obtain ⟨u, rfl, h1⟩ := vl1 hV
    cases h1 with
    | p _ _ h => cases h with
      | nils => exact (Tryz.slices_Sort_string_none none 0 w).mono fun e w' ⟨h3, h4⟩ => ⟨_, _, h3, by rw [h4]; exact below_same w, .tup [] #[] rfl fun j hj => by simp at hj, hk⟩
  · refine ⟨ent rfl rfl, fun w m Args hS hV => ?_⟩
    obtain ⟨u, rfl, h1⟩ := vl1 hV
    have hb := hS.blk r
    rw [hp_nth hr] at hb
    have hrl := nth_lt hr
    cases h1 with
    | slr _ _ _ _ N sz cap hL hN =>
      have hl : (m.L r).isLive := by rw [hL]; trivial
      rcases hb with ⟨hb, _⟩ | ⟨cap', c, hL', h0, h00, h1, h2, h3⟩
      · rw [hL] at hb; cases hb
      rw [hL] at hL'
      injection hL' with _ e2 e3 e4
      subst e3 e4
      have hH := holds_ok encS_of hS hr hl zs.toArray (by simpa using hz) fun i hi => by rw [hf i hi, toArr_get (by omega) []]; rfl
      have hC := Tryz.slices_Sort_string (m.ρ r) 0 (cap - 0) zs w hH (hS.lt r hl) (by omega)
      rw [hz] at hC
      rw [Nat.zero_mul]
      refine hC.mono fun e w' ⟨he, q, os, hw'⟩ => ?_
      subst he
      obtain ⟨t1, s1⟩ := putRow_ok (g := fun x => PV.str x) encS_to (hS.ahead q) hr hl (sortS zs).toArray (by simp [sortS_len, hz])
      have hB := grow_below' (putRow (encStr) (Sort.ahead w q) (m.ρ r) 0 (sortS zs).toArray) os
      have hw2 : w' = Sort.grow (putRow (encStr) (Sort.ahead w q) (m.ρ r) 0 (sortS zs).toArray) os := hw'
      subst hw2
      have s2 := s1.below hB
      have t2 := Tr.below s1.Ilt hB
      have eK : setN K r (.arr ty 1 ver n fun i => [.p (.str (sortS zs).toArray[i]!)]) = setN K r (.arr ty 1 ver n fun i => [strV ((sortS zs).getD i [])]) := by
        congr 2
        funext i
        by_cases h : i < (sortS zs).length
        · rw [toArr_get h []]; rfl
        · rw [getElem!_neg _ i (by simpa using h), List.getD_eq_getElem?_getD, List.getElem?_eq_none (by omega)]; rfl
      rw [eK] at s2
      exact ⟨m, .tup [], _, ((Tr.ahead w m q).trans t1).trans t2, s2, .tup [] #[] rfl fun j hj => by simp at hj, hk⟩
    | slrNil _ _ hL =>
      rcases hb with ⟨hb, h0⟩ | ⟨cap', c, hL', _⟩
      · have hz0 : zs = [] := List.length_eq_zero_iff.1 hz
        refine (Tryz.slices_Sort_string_none none 0 w).mono fun e w' ⟨h3, h4⟩ => ?_
        subst h3 h4
        refine ⟨m, .tup [], _, Tr.refl _ m, hS.les ?_, .tup [] #[] rfl fun j hj => by simp at hj, hk⟩
        exact lesK_setN (lesK.refl _) _ _ fun b0 hb0 => by
          rw [hr] at hb0; injection hb0 with hb0; subst hb0
          exact ABlk.arr_eq rfl fun i hi => by omega
      · rw [hL] at hL'; cases hL'
    | slrOld _ _ _ _ ad c hold =>
      rcases hb with ⟨hb, h0⟩ | ⟨cap', c, hL', _⟩
      · rw [hb] at hold; simp [Inf.old] at hold
      · rw [hL'] at hold; simp [Inf.old] at hold
def cCompS : AC := fun args K k => (args = [.p .nils] ∧ k (.ret (.p .nils)) K) ∨ ∃ r ver n zs f ty, args = [.slr r ver 0 n] ∧ nth K r = some (.arr ty 1 ver n f) ∧ List.length zs = n ∧ (∀ i, i < n → f i = [strV (zs.getD i [])]) ∧ n < 1000000 ∧
  k (.ret (strsV (Lib.compact zs))) (setN K r .dead)
theorem compS_ok : COk 62 cCompS := by
  rintro args K k (⟨rfl, hk⟩ | ⟨r, ver, n, zs, f, ty, rfl, hr, hz, hf, hn, hk⟩)
  · refine ACalls.lib (ent rfl rfl) fun w m Args hS hV => ?_
    obtain ⟨u, rfl, h1⟩ := vl1 hV
    cases h1 with
    | p _ _ h => cases h with
      | nils => exact (Tryz.slices_Compact_string_empty none 0 w).mono fun e w' ⟨h3, h4⟩ => ⟨_, _, h3, by rw [h4]; exact below_same w, .p _ _ .nils, hk⟩
  · refine ⟨ent rfl rfl, fun w m Args hS hV => ?_⟩
    obtain ⟨u, rfl, h1⟩ := vl1 hV
    have hb := hS.blk r
    rw [hp_nth hr] at hb
    have hrl := nth_lt hr
    have hcl := compact_len zs
    cases h1 with
    | slr _ _ _ _ N sz cap hL hN =>
      have hl : (m.L r).isLive := by rw [hL]; trivial
      rcases hb with ⟨hb, _⟩ | ⟨cap', c, hL', h0, h00, h1, h2, h3⟩
      · rw [hL] at hb; cases hb
      rw [hL] at hL'
      injection hL' with _ e2 e3 e4
      subst e3 e4
      have hH := holds_ok encS_of hS hr hl zs.toArray (by simpa using hz) fun i hi => by rw [hf i hi, toArr_get (by omega) []]; rfl
      have hC := Tryz.slices_Compact_string (m.ρ r) 0 (cap - 0) zs w hH (by omega) (by omega)
      rw [hz] at hC
      rw [Nat.zero_mul]
      refine hC.mono fun e w' ⟨he, q, hw'⟩ => ?_
      subst he hw'
      have hdl : (Lib.compact zs ++ List.replicate (n - (Lib.compact zs).length) []).toArray.size = n := by simp; omega
      obtain ⟨t1, s1⟩ := putRow_ok (g := fun x => PV.str x) encS_to (hS.ahead q) hr hl _ hdl
      have t1 := (Tr.ahead w m q).trans t1
      obtain ⟨m', t2, s2, v2⟩ := freeze_sl s1 (r := r) (nth_setN_eq hr) (fun i => [PV.str (Lib.compact zs ++ List.replicate (n - (Lib.compact zs).length) []).toArray[i]!]) (fun _ _ => rfl)
      have e5 : setN (setN K r (.arr ty 1 ver n fun i => [AV.p (.str (Lib.compact zs ++ List.replicate (n - (Lib.compact zs).length) []).toArray[i]!)])) r .dead = setN K r .dead := setN_setN _ _ _ _
      rw [e5] at s2
      refine ⟨m', strsV (Lib.compact zs), _, t1.trans t2, s2, ?_, hk⟩
      by_cases hn0 : n = 0
      · have : Lib.compact zs = [] := List.length_eq_zero_iff.1 (by omega)
        rw [this]
        exact .p _ _ (.sl0 ..)
      · have hu : V (putRow (encStr) (Sort.ahead w q) (m.ρ r) 0 (Lib.compact zs ++ List.replicate (n - (Lib.compact zs).length) []).toArray) m (.slr r ver 0 n) (.slice (some ⟨m.ρ r, 0, none⟩) n (cap - 0)) := by
          have := V.slr (w := putRow (encStr) (Sort.ahead w q) (m.ρ r) 0 (Lib.compact zs ++ List.replicate (n - (Lib.compact zs).length) []).toArray) (m := m) r ver 0 n _ 1 cap hL hN
          rwa [Nat.zero_mul] at this
        cases v2 _ hu with
        | p _ _ h =>
          refine .p _ _ (VP.sl_take h (by omega) (by omega) fun i hi => ?_)
          rw [toArr_get (by simp; omega) [], List.getD_eq_getElem?_getD, List.getD_eq_getElem?_getD, List.getElem?_append_left hi]
    | slrNil _ _ hL =>
      rcases hb with ⟨hb, h0⟩ | ⟨cap', c, hL', _⟩
      · have hz0 : zs = [] := List.length_eq_zero_iff.1 hz
        subst hz0
        refine (Tryz.slices_Compact_string_empty none 0 w).mono fun e w' ⟨h3, h4⟩ => ?_
        subst h3 h4
        obtain ⟨m', t2, s2, v2⟩ := freeze_sl hS hr (fun _ => []) (fun i hi => by omega)
        exact ⟨m', strsV _, _, t2, s2, .p _ _ (.sl0 ..), hk⟩
      · rw [hL] at hL'; cases hL'
    | slrOld _ _ _ _ ad c hold =>
      rcases hb with ⟨hb, h0⟩ | ⟨cap', c, hL', _⟩
      · rw [hb] at hold; simp [Inf.old] at hold
      · rw [hL'] at hold; simp [Inf.old] at hold
end Go.Proofs.YtojjkleplnijaaaGreatDoor

namespace Go.Ru
def chnL (ns : List Nd) : List Bs := (ns.filter fun n => n.k == 18).map (·.tx)
def chnS (ns : List Nd) (root : Int) : List Bs := if rightS ns root then setS (chnL ns) else []
theorem chnL_len (ns : List Nd) : (chnL ns).length ≤ ns.length := by
  simp only [chnL, List.length_map]; exact List.length_filter_le _ _
theorem chnS_len (ns : List Nd) (root : Int) : (chnS ns root).length ≤ ns.length := by
  unfold chnS
  split
  · exact Nat.le_trans (setS_len _) (chnL_len ns)
  · exact Nat.zero_le _
end Go.Ru
namespace Go.Proofs.YtojjkleplnijaaaGreatDoor
open Go.AE Go.Ru
set_option maxRecDepth 100000
set_option maxHeartbeats 1000000
def strB (l : List Bs) : ABlk := .arr 9 1 0 l.length (fun i => pvs (strF l i))
theorem strB_snoc (l : List Bs) (x : Bs) (f : Nat → List AV) (hf : f 0 = [.p (.str x)]) : (ABlk.arr 9 1 0 (l.length + 1) (catF l.length (fun i => pvs (strF l i)) f)).le (strB (l ++ [x])) := by
  refine ABlk.arr_eq (by simp) fun i hi => ?_
  by_cases h : i < l.length
  · rw [catF_lt h]
    simp [strF, List.getD_eq_getElem?_getD, List.getElem?_append_left h]
  · obtain rfl : i = l.length := by omega
    rw [catF_ge (Nat.le_refl _), Nat.sub_self, hf]
    simp [strF, List.getD_eq_getElem?_getD, pvs]
theorem strB_cl (l : List Bs) (x : Bs) (f : Nat → List AV) (n : Nat) (hf : f 0 = [.p (.str x)]) : (ABlk.arr 9 1 0 (l.length + 1) (catF l.length (fun i => pvs (strF l i)) f)).cl n := fun i hi => by
  by_cases h : i < l.length
  · rw [catF_lt h]; rfl
  · obtain rfl : i = l.length := by omega
    rw [catF_ge (Nat.le_refl _), Nat.sub_self, hf]; rfl
structure CC where
  j : Nat
  l : List Bs
def gChn : AG := gput 44 eRight (gput 61 cSortS (gput 62 cCompS g0))
theorem gChn_ok : GOk Tryz.prog gChn := gput_ok eRight_ok (gput_ok sortS_ok (gput_ok compS_ok g0_ok))
def eChan : AC := fun args K k => ∃ ns root l, args = [treeV ns root] ∧ Tame ns ∧ chnS ns root = l ∧ k (.ret (strsV l)) K
theorem eChan_ok : COk 24 eChan := by
  rintro args K k ⟨ns, root, l, rfl, ta, hch, hk⟩
  subst hch
  have hlen := ta.len
  cases hrt : rightS ns root with
  | false =>
    refine frame0W gChn_ok 19 rfl fun Q hr => ?_
    have hk : k (.ret (strsV [])) K := by rw [chnS, hrt] at hk; exact hk
    conv => whnf
    refine ⟨ns, root, _, rfl, ta, hrt, ?_⟩
    conv => whnf
    exact hr _ _ (strsV []) _ (Wk1.le (AV.nils_le _ _) (lesK.refl _)) rfl hk
  | true =>
  have hk : k (.ret (strsV (setS (chnL ns)))) K := by rw [chnS, hrt] at hk; exact hk
  refine frame0W gChn_ok 19 rfl fun Q hr => ?_
  conv => whnf
  refine ⟨ns, root, _, rfl, ta, hrt, ?_⟩
  conv => whnf
  refine loop_nil (ι := CC) 9 1 (fun i => pvs (strF [] i)) (fun c => ⟨[(1, .ptr 0 0 1 0 0), (3, .slr 1 0 0 c.l.length), (10, .p (.sl 5 ns.length (nodeF ns))), (11, intV ns.length), (12, intV c.j)], [tbox ns root, strB c.l]⟩)
    (fun c => c.j ≤ ns.length ∧ c.l.length ≤ c.j ∧ c.l ++ chnL (ns.drop c.j) = chnL ns) (fun c => ns.length - c.j) ⟨0, []⟩ [tbox ns root]
    rfl ⟨.inl (AV.le_refl _), .inr ⟨rfl, rfl⟩, .inl (AV.le_refl _), .inl (AV.le_refl _), .inl (AV.le_refl _), trivial⟩ ⟨.inl (ABlk.le_refl _), trivial⟩ rfl ⟨Nat.zero_le _, Nat.le_refl _, rfl⟩ ?_
  rintro Y hle ⟨j, l⟩ ⟨hj, hl, he⟩ ih
  simp only at hj hl he
  conv => whnf
  refine two_dec (fun h => ?_) (fun h => ?_)
  · have h : j < ns.length := by have h : (j : Int) < (ns.length : Int) := h; omega
    have hw1 := wzz (i := j) (by omega)
    rw [List.drop_eq_getElem_cons h] at he
    have e1 : ns[j] = nd ns j := by simp [nd, h]
    rw [e1] at he
    conv => whnf
    refine ⟨⟨by omega, by omega, rfl⟩, ?_⟩
    conv => whnf
    refine two_eq (fun h4 => ?_) (fun h4 => ?_)
    · have h4 : (nd ns j).k = 18 := h4
      have he : (l ++ [(nd ns j).tx]) ++ chnL (ns.drop (j + 1)) = chnL ns := by
        rw [← he]; simp [chnL, h4]
      conv => whnf
      refine ⟨⟨rfl, rfl, rfl, allLt_ok ⟨trivial, rfl⟩⟩, ?_⟩
      conv => whnf
      refine ⟨⟨rfl, rfl, rfl, rfl, ?_, ?_⟩, ?_⟩
      · show (l.length + 1) * 16 ≤ 140737488355328
        omega
      · show l.length + 1 ≤ 9223372036854775807
        omega
      conv => whnf
      refine hle _ _ (Le.cutEnv 2 rfl rfl ⟨rfl, strB_cl l _ _ 2 rfl, trivial⟩ ?_ ?_) (ih ⟨j + 1, l ++ [(nd ns j).tx]⟩ (by show _ - (j + 1) < _ - j; omega) ⟨h, by simp; omega, he⟩)
      · skip
        repeat' (first | exact trivial | ((conv => whnf); first | exact trivial | (refine And.intro (AV.le_refl _) ?_) | (refine And.intro (ABlk.le_refl _) ?_) | (refine And.intro (AV.le_of_eq ?_) ?_; (focus ((first | exact congrArg intV hw1 | exact congrArg (fun n => AV.slr 1 0 0 n) (by simp) | fail); done))) | (refine And.intro (ABlk.le_of_eq ?_) ?_; (focus ((first | exact congrArg intV hw1 | exact congrArg (fun n => AV.slr 1 0 0 n) (by simp) | fail); done))) | fail) | fail)
      · (conv => whnf)
        refine ⟨ABlk.le_refl _, ?_⟩
        (conv => whnf)
        refine ⟨strB_snoc l _ _ rfl, ?_⟩
        trivial
    · have h4 : (nd ns j).k ≠ 18 := h4
      have he : l ++ chnL (ns.drop (j + 1)) = chnL ns := by
        rw [← he]; simp [chnL, h4]
      conv => whnf
      refine hle _ _ (Le.cutEnv 2 rfl rfl ⟨rfl, fun _ _ => rfl, trivial⟩ ?_ ?_) (ih ⟨j + 1, l⟩ (by show _ - (j + 1) < _ - j; omega) ⟨h, by show l.length ≤ j + 1; omega, he⟩)
      · skip
        repeat' (first | exact trivial | ((conv => whnf); first | exact trivial | (refine And.intro (AV.le_refl _) ?_) | (refine And.intro (ABlk.le_refl _) ?_) | (refine And.intro (AV.le_of_eq ?_) ?_; (focus ((first | exact congrArg intV hw1 | fail); done))) | (refine And.intro (ABlk.le_of_eq ?_) ?_; (focus ((first | exact congrArg intV hw1 | fail); done))) | fail) | fail)
      · skip
        repeat' (first | exact trivial | ((conv => whnf); first | exact trivial | (refine And.intro (AV.le_refl _) ?_) | (refine And.intro (ABlk.le_refl _) ?_) | (refine And.intro (AV.le_of_eq ?_) ?_; (focus ((first | fail | fail); done))) | (refine And.intro (ABlk.le_of_eq ?_) ?_; (focus ((first | fail | fail); done))) | fail) | fail)
  · obtain rfl : j = ns.length := by have h : ¬ (j : Int) < (ns.length : Int) := h; omega
    rw [List.drop_length] at he
    simp only [chnL, List.filter_nil, List.map_nil, List.append_nil] at he
    have he : l = chnL ns := he
    subst he
    have hcl := chnL_len ns
    conv => whnf
    refine .inr ⟨1, 0, (chnL ns).length, chnL ns, _, _, rfl, rfl, rfl, fun _ _ => rfl, by omega, ?_⟩
    conv => whnf
    refine .inr ⟨1, 0, (chnL ns).length, sortS (chnL ns), _, _, rfl, rfl, sortS_len _, fun _ _ => rfl, by omega, ?_⟩
    conv => whnf
    exact hr _ _ _ _ (Wk1.refl _ _ _) rfl hk
end Go.Proofs.YtojjkleplnijaaaGreatDoor

namespace Go.Ru
def insS (s : Bs) : List Bs → List Bs
  | [] => [s]
  | x :: l => if x < s then x :: insS s l else s :: x :: l
def chn7 : List Nd → List Bs → List Bs
  | [], out => out
  | n :: r, out => if n.k ≠ 18 ∨ n.tx ∈ out then chn7 r out else chn7 r (insS n.tx out)
theorem insS_mem {s x : Bs} : ∀ {l : List Bs}, x ∈ insS s l ↔ x = s ∨ x ∈ l := by
  intro l
  induction l with
  | nil => simp [insS]
  | cons y l ih =>
    simp only [insS]
    split
    · simp only [List.mem_cons, ih]
      constructor
      · rintro (h | h | h)
        · exact .inr (.inl h)
        · exact .inl h
        · exact .inr (.inr h)
      · rintro (h | h | h)
        · exact .inr (.inl h)
        · exact .inl h
        · exact .inr (.inr h)
    · simp only [List.mem_cons]
theorem bs_lt_or {a b : Bs} (h : ¬ a < b) : b < a ∨ b = a := bs_le_lt_or_eq (a := b) (b := a) h
theorem insS_rise {s : Bs} : ∀ {l : List Bs}, l.Pairwise (· < ·) → s ∉ l → (insS s l).Pairwise (· < ·) := by
  intro l
  induction l with
  | nil => intro _ _; simp [insS]
  | cons y l ih =>
    intro h hs
    obtain ⟨h1, h2⟩ := List.pairwise_cons.1 h
    simp only [insS]
    split
    · rename_i hy
      refine List.pairwise_cons.2 ⟨fun z hz => ?_, ih h2 fun e => hs (List.mem_cons_of_mem _ e)⟩
      rcases insS_mem.1 hz with rfl | hz
      · exact hy
      · exact h1 z hz
    · rename_i hy
      have hsy : s < y := (bs_lt_or hy).resolve_right fun e => hs (e ▸ List.mem_cons_self ..)
      refine List.pairwise_cons.2 ⟨fun z hz => ?_, h⟩
      rcases List.mem_cons.1 hz with rfl | hz
      · exact hsy
      · exact bs_lt_trans hsy (h1 z hz)
theorem insS_split {s : Bs} : ∀ {l : List Bs} {k : Nat}, k ≤ l.length → (∀ j, j < k → l.getD j [] < s) → (k < l.length → ¬ l.getD k [] < s) → l.take k ++ (s :: l.drop k) = insS s l := by
  intro l
  induction l with
  | nil => intro k hk _ _; simp at hk; subst hk; rfl
  | cons y l ih =>
    intro k hk h1 h2
    cases k with
    | zero =>
      have := h2 (by simp)
      simp only [List.getD_cons_zero] at this
      simp [insS, this]
    | succ k =>
      have hy := h1 0 (by omega)
      simp only [List.getD_cons_zero] at hy
      simp only [insS, hy, if_true, List.take_succ_cons, List.drop_succ_cons, List.cons_append]
      rw [ih (by simpa using hk) (fun j hj => by simpa using h1 (j + 1) (by omega)) (fun hk => by simpa using h2 (by simpa using hk))]
theorem chn7_ok : ∀ (r : List Nd) (out : List Bs), out.Pairwise (· < ·) → (chn7 r out).Pairwise (· < ·) ∧ ∀ x, x ∈ chn7 r out ↔ x ∈ out ∨ x ∈ chnL r := by
  intro r
  induction r with
  | nil => intro out h; exact ⟨h, fun x => by simp [chn7, chnL]⟩
  | cons n r ih =>
    intro out h
    simp only [chn7]
    split
    · rename_i hc
      obtain ⟨h1, h2⟩ := ih out h
      refine ⟨h1, fun x => (h2 x).trans ?_⟩
      rcases hc with hc | hc
      · have : chnL (n :: r) = chnL r := by simp [chnL, hc]
        rw [this]
      · by_cases hk : n.k = 18
        · have : chnL (n :: r) = n.tx :: chnL r := by simp [chnL, hk]
          rw [this, List.mem_cons]
          constructor
          · rintro (h | h)
            · exact .inl h
            · exact .inr (.inr h)
          · rintro (h | h | h)
            · exact .inl h
            · subst h; exact .inl hc
            · exact .inr h
        · have : chnL (n :: r) = chnL r := by simp [chnL, hk]
          rw [this]
    · rename_i hc
      have hk : n.k = 18 := by
        by_cases e : n.k = 18
        · exact e
        · exact absurd (.inl e) hc
      have hm : n.tx ∉ out := fun e => hc (.inr e)
      obtain ⟨h1, h2⟩ := ih (insS n.tx out) (insS_rise h hm)
      refine ⟨h1, fun x => (h2 x).trans ?_⟩
      have : chnL (n :: r) = n.tx :: chnL r := by simp [chnL, hk]
      rw [this, List.mem_cons, insS_mem]
      constructor
      · rintro ((h | h) | h)
        · exact .inr (.inl h)
        · exact .inl h
        · exact .inr (.inr h)
      · rintro (h | h | h)
        · exact .inl (.inr h)
        · exact .inl (.inl h)
        · exact .inr h
theorem rise_uniq : ∀ {a b : List Bs}, a.Pairwise (· < ·) → b.Pairwise (· < ·) → (∀ x, x ∈ a ↔ x ∈ b) → a = b := by
  intro a
  induction a with
  | nil =>
    intro b _ _ h
    cases b with
    | nil => rfl
    | cons y b => exact absurd ((h y).2 (List.mem_cons_self ..)) (by simp)
  | cons x a ih =>
    intro b ha hb h
    cases b with
    | nil => exact absurd ((h x).1 (List.mem_cons_self ..)) (by simp)
    | cons y b =>
      obtain ⟨a1, a2⟩ := List.pairwise_cons.1 ha
      obtain ⟨b1, b2⟩ := List.pairwise_cons.1 hb
      have e : x = y := by
        rcases List.mem_cons.1 ((h x).1 (List.mem_cons_self ..)) with e | hx
        · exact e
        rcases List.mem_cons.1 ((h y).2 (List.mem_cons_self ..)) with e | hy
        · exact e.symm
        exact absurd (bs_lt_trans (b1 x hx) (a1 y hy)) (List.lt_irrefl y)
      subst e
      congr 1
      refine ih a2 b2 fun z => ⟨fun hz => ?_, fun hz => ?_⟩
      · rcases List.mem_cons.1 ((h z).1 (List.mem_cons_of_mem _ hz)) with e | hz'
        · subst e; exact absurd (a1 z hz) (List.lt_irrefl z)
        · exact hz'
      · rcases List.mem_cons.1 ((h z).2 (List.mem_cons_of_mem _ hz)) with e | hz'
        · subst e; exact absurd (b1 z hz) (List.lt_irrefl z)
        · exact hz'
theorem chn7_eq (ns : List Nd) : chn7 ns [] = setS (chnL ns) := by
  obtain ⟨h1, h2⟩ := chn7_ok ns [] List.Pairwise.nil
  exact rise_uniq h1 (setS_rise _) fun x => by rw [h2, setS_mem]; simp
end Go.Ru

namespace Go.AE
theorem Le.fz {kb : Nat} {t : List (Nat × AV)} {K : List ABlk} (d : Nat) {r ty sz ver n : Nat} {f : Nat → List AV} (hd : look t d = .slr r ver 0 n) (hr : nth K r = some (.arr ty sz ver n f)) (g : Nat → List PV) (hg : ∀ i, i < n → f i = pvs (g i)) :
    Le kb ⟨t, K⟩ ⟨(d, .p (.sl sz n g)) :: t, setN K r .dead⟩ := fun we me hk w m tmps hT hS hE => by
  obtain ⟨m', h1, h2, h3⟩ := freeze_sl hS hr g hg
  refine ⟨m', hT.trans h1, h2, fun d' => ?_, .tr h1 h2⟩
  have hE' := hE d'
  show V w m' (look ((d, .p (.sl sz n g)) :: t) d') _
  rw [look_cons]
  by_cases e : d = d'
  · subst e
    rw [if_pos rfl]
    refine h3 _ ?_
    rw [← hd]; exact hE'
  · rw [if_neg e]; exact hE'.mono h1
end Go.AE
namespace Go.Proofs.YtojjkleplnijaaaGreatDoor
open Go.AE Go.Ru
set_option maxRecDepth 100000
set_option maxHeartbeats 1000000
theorem ins_row {l : List Bs} {s : Bs} {k n0 : Nat} (hk : k ≤ l.length) (e0 : n0 = k) {f0 f1 f2 : Nat → List AV} (h0 : ∀ i, i < k → f0 i = pvs (strF l i)) (h1 : f1 0 = [.p (.str s)]) (h2 : ∀ i, f2 i = pvs (strF l (i + k))) :
    ∀ i, catF (n0 + 1) (catF n0 f0 f1) f2 i = pvs (strF (l.take k ++ (s :: l.drop k)) i) := fun i => by
  subst e0
  by_cases a : i < n0
  · rw [catF_lt (by omega), catF_lt a, h0 i a]
    congr 1
    simp only [strF]
    congr 2
    rw [List.getD_eq_getElem?_getD, List.getD_eq_getElem?_getD, List.getElem?_append_left (by rw [List.length_take]; omega), List.getElem?_take, if_pos a]
  · by_cases b : i = n0
    · subst b
      rw [catF_lt (by omega), catF_ge (Nat.le_refl _), Nat.sub_self, h1]
      show [AV.p (.str s)] = [AV.p (.str _)]
      rw [List.getD_eq_getElem?_getD, List.getElem?_append_right (by rw [List.length_take]; omega)]
      rw [List.length_take, Nat.min_eq_left hk, Nat.sub_self]; rfl
    · rw [catF_ge (by omega), h2 _]
      congr 1
      simp only [strF]
      congr 2
      rw [List.getD_eq_getElem?_getD, List.getD_eq_getElem?_getD, List.getElem?_append_right (by rw [List.length_take]; omega), List.length_take, Nat.min_eq_left hk]
      rw [show i - n0 = (i - (n0 + 1)) + 1 by omega, List.getElem?_cons_succ, List.getElem?_drop]
      congr 2; omega
theorem insS_len {s : Bs} : ∀ {l : List Bs}, (insS s l).length = l.length + 1 := by
  intro l
  induction l with
  | nil => rfl
  | cons x l ih =>
    simp only [insS]
    split
    · rw [List.length_cons, ih, List.length_cons]
    · rfl
def gRch : AG := gput 49 cRRight (gput 63 cRamong g0)
theorem gRch_ok : GOk Tryz.prog gRch := gput_ok rright_ok (gput_ok ramong_ok g0_ok)
def eRChan : AC := fun args K k => ∃ ns root l, args = [treeV ns root] ∧ Kt ns ∧ Tame ns ∧ chnS ns root = l ∧ k (.ret (strsP l)) K
theorem rChan_ok : COk 25 eRChan := by
  rintro args K k ⟨ns, root, l0, rfl, kt, ta, hch, hk⟩
  have hlen := ta.len
  unfold chnS at hch
  cases hrt : rightS ns root with
  | false =>
    refine frame0W gRch_ok 19 rfl fun Q hr => ?_
    rw [hrt] at hch
    obtain rfl : [] = l0 := hch
    conv => whnf
    refine ⟨ns, root, _, rfl, kt, ta, hrt, ?_⟩
    conv => whnf
    exact hr _ _ (strsP []) _ (Wk1.le (AV.nils_le _ _) (lesK.refl _)) rfl hk
  | true =>
  rw [hrt] at hch
  have hch : chn7 ns [] = l0 := (chn7_eq ns).trans hch
  refine frame0W gRch_ok 19 rfl fun Q hr => ?_
  conv => whnf
  refine ⟨ns, root, _, rfl, kt, ta, hrt, ?_⟩
  conv => whnf
  refine loop_up (ι := CC) [1] (fun c => [(4, strsP c.l), (5, intV c.j)]) (fun _ => []) (fun c => c.j ≤ ns.length ∧ c.l.length ≤ c.j ∧ chn7 (ns.drop c.j) c.l = l0) (fun c => ns.length - c.j) ⟨0, []⟩ ⟨AV.nils_le _ _, AV.le_refl _, trivial⟩ trivial ⟨Nat.zero_le _, Nat.le_refl _, hch⟩ ?_
  rintro Y hle ⟨j, l⟩ ⟨hj, hl, he⟩ ih
  simp only at hj hl he
  conv => whnf
  refine two_dec (fun h => ?_) (fun h => ?_)
  · have h : j < ns.length := by have h : (j : Int) < (ns.length : Int) := h; omega
    have hw1 := wzz (i := j) (by omega)
    rw [List.drop_eq_getElem_cons h] at he
    have e1 : ns[j] = nd ns j := by simp [nd, h]
    rw [e1] at he
    simp only [chn7] at he
    conv => whnf
    refine ⟨⟨by omega, by omega, rfl⟩, ?_⟩
    conv => whnf
    refine two_ne (fun h4 => ?_) (fun h4 => ?_)
    · have h4 : (nd ns j).k ≠ 18 := h4
      rw [if_pos (.inl h4)] at he
      conv => whnf
      refine hle _ _ (Le.cutEnv 1 rfl rfl ⟨rfl, trivial⟩ ?_ ?_) (ih ⟨j + 1, l⟩ (by show _ - (j + 1) < _ - j; omega) ⟨by show j + 1 ≤ _; omega, by show l.length ≤ j + 1; omega, he⟩)
      · skip
        repeat' (first | exact trivial | ((conv => whnf); first | exact trivial | (refine And.intro (AV.le_refl _) ?_) | (refine And.intro (ABlk.le_refl _) ?_) | (refine And.intro (AV.le_of_eq ?_) ?_; (focus ((first | exact congrArg intV hw1 | fail); done))) | (refine And.intro (ABlk.le_of_eq ?_) ?_; (focus ((first | exact congrArg intV hw1 | fail); done))) | fail) | fail)
      · skip
        repeat' (first | exact trivial | ((conv => whnf); first | exact trivial | (refine And.intro (AV.le_refl _) ?_) | (refine And.intro (ABlk.le_refl _) ?_) | (refine And.intro (AV.le_of_eq ?_) ?_; (focus ((first | fail | fail); done))) | (refine And.intro (ABlk.le_of_eq ?_) ?_; (focus ((first | fail | fail); done))) | fail) | fail)
    have h4 : (nd ns j).k = 18 := h4
    cases hm : l.any (· == (nd ns j).tx) with
    | true =>
      have hmem : (nd ns j).tx ∈ l := by simpa using hm
      rw [if_pos (.inr hmem)] at he
      conv => whnf
      refine ⟨l, _, _, rfl, by omega, hm, ?_⟩
      conv => whnf
      refine hle _ _ (Le.cutEnv 1 rfl rfl ⟨rfl, trivial⟩ ?_ ?_) (ih ⟨j + 1, l⟩ (by show _ - (j + 1) < _ - j; omega) ⟨by show j + 1 ≤ _; omega, by show l.length ≤ j + 1; omega, he⟩)
      · skip
        repeat' (first | exact trivial | ((conv => whnf); first | exact trivial | (refine And.intro (AV.le_refl _) ?_) | (refine And.intro (ABlk.le_refl _) ?_) | (refine And.intro (AV.le_of_eq ?_) ?_; (focus ((first | exact congrArg intV hw1 | fail); done))) | (refine And.intro (ABlk.le_of_eq ?_) ?_; (focus ((first | exact congrArg intV hw1 | fail); done))) | fail) | fail)
      · skip
        repeat' (first | exact trivial | ((conv => whnf); first | exact trivial | (refine And.intro (AV.le_refl _) ?_) | (refine And.intro (ABlk.le_refl _) ?_) | (refine And.intro (AV.le_of_eq ?_) ?_; (focus ((first | fail | fail); done))) | (refine And.intro (ABlk.le_of_eq ?_) ?_; (focus ((first | fail | fail); done))) | fail) | fail)
    | false =>
    have hmem : (nd ns j).tx ∉ l := fun e => by simp at hm; exact hm _ e rfl
    rw [if_neg (by rintro (e | e); exact e h4; exact hmem e)] at he
    conv => whnf
    refine ⟨l, _, _, rfl, by omega, hm, ?_⟩
    conv => whnf
    refine loop_up (ι := Nat) [1, 4, 5, 6] (fun i => [(7, intV i)]) (fun _ => []) (fun i => i ≤ l.length ∧ ∀ x, x < i → l.getD x [] < (nd ns j).tx) (fun i => l.length - i) 0 ⟨AV.le_refl _, trivial⟩ trivial ⟨Nat.zero_le _, fun x hx => absurd hx (Nat.not_lt_zero _)⟩ ?_
    rintro Z hlz i ⟨hi, hb⟩ ihz
    conv => whnf
    refine two_dec (fun h2 => ?_) (fun h2 => ?_)
    · have h2' : (i : Int) < (l.length : Int) := h2
      have h2 : i < l.length := by omega
      have hw2 := wzz (i := i) (by omega)
      cases h3 : Op.bytesLess (l.getD i []) (nd ns j).tx with
      | true =>
        have h3' : l.getD i [] < (nd ns j).tx := by rw [Go.Proofs.bytesLess_eq] at h3; exact of_decide_eq_true h3
        conv => whnf
        refine ⟨⟨by omega, h2', rfl⟩, ?_⟩
        conv => whnf
        refine two_true h3 ?_
        conv => whnf
        refine hlz _ _ (Le.env ?_ ?_) (ihz (i + 1) (by omega) ⟨by omega, fun x hx => ?_⟩)
        · skip
          repeat' (first | exact trivial | ((conv => whnf); first | exact trivial | (refine And.intro (AV.le_refl _) ?_) | (refine And.intro (ABlk.le_refl _) ?_) | (refine And.intro (AV.le_of_eq ?_) ?_; (focus ((first | exact congrArg intV hw2 | fail); done))) | (refine And.intro (ABlk.le_of_eq ?_) ?_; (focus ((first | exact congrArg intV hw2 | fail); done))) | fail) | fail)
        · skip
          repeat' (first | exact trivial | ((conv => whnf); first | exact trivial | (refine And.intro (AV.le_refl _) ?_) | (refine And.intro (ABlk.le_refl _) ?_) | (refine And.intro (AV.le_of_eq ?_) ?_; (focus ((first | fail | fail); done))) | (refine And.intro (ABlk.le_of_eq ?_) ?_; (focus ((first | fail | fail); done))) | fail) | fail)
        · rcases Nat.lt_succ_iff_lt_or_eq.1 hx with e | rfl
          · exact hb x e
          · exact h3'
      | false =>
        have h3' : ¬ l.getD i [] < (nd ns j).tx := by rw [Go.Proofs.bytesLess_eq] at h3; exact of_decide_eq_false h3
        conv => whnf
        refine ⟨⟨by omega, h2', rfl⟩, ?_⟩
        conv => whnf
        refine two_false h3 ?_
        have hin := insS_split hi hb fun _ => h3'
        have hii : (i : Int) ≤ (l.length : Int) := by omega
        have hlb : l.length ≤ 1000000 := by omega
        have hil := insS_len (s := (nd ns j).tx) (l := l)
        have hnl : 0 + i + 1 + (l.length - i) = (insS (nd ns j).tx l).length := by omega
        have hrow : ∀ {n : Nat} {f0 f1 f2 : Nat → List AV}, (∀ x, x < i → f0 x = pvs (strF l x)) → f1 0 = [.p (.str (nd ns j).tx)] → (∀ x, f2 x = pvs (strF l (x + i))) → ∀ x, x < n → catF (0 + i + 1) (catF (0 + i) f0 f1) f2 x = pvs (strF (insS (nd ns j).tx l) x) := fun a b c x _ => by rw [← hin]; exact ins_row hi (Nat.zero_add i) a b c x
        conv => whnf
        repeat' (first | (refine Chk.mk ⟨rfl, rfl, rfl, allLt_ok ⟨trivial, rfl⟩⟩ ?_; (conv => whnf)) | (refine Chk.mk ?_ ?_; (focus ((repeat' (refine And.intro ?_ ?_)) <;> (first | exact Int.natCast_nonneg _ | exact Int.le_refl _ | exact hii | exact fun _ _ => rfl | (simp only [Int.ofNat_eq_natCast, Int.toNat_natCast]; omega) | rfl)); done); (conv => whnf)) | (refine And.intro ?_ ?_ <;> (conv => whnf)) | fail)
        all_goals refine hle _ _ (Le.trans (Le.fz 4 rfl rfl (strF (insS (nd ns j).tx l)) (by exact hrow (fun _ _ => rfl) rfl (fun _ => rfl))) (Le.cutEnv 1 rfl rfl (by (conv => whnf); exact ⟨rfl, trivial⟩) ?_ ?_)) (ih ⟨j + 1, insS (nd ns j).tx l⟩ (by show _ - (j + 1) < _ - j; omega) ⟨by show j + 1 ≤ _; omega, by show (insS (nd ns j).tx l).length ≤ j + 1; omega, he⟩)
        · skip
          repeat' (first | exact trivial | ((conv => whnf); first | exact trivial | (refine And.intro (AV.le_refl _) ?_) | (refine And.intro (ABlk.le_refl _) ?_) | (refine And.intro (AV.le_of_eq ?_) ?_; (focus ((first | exact congrArg intV hw1 | exact congrArg (fun n => AV.p (.sl 1 n (strF (insS (nd ns j).tx l)))) hnl | fail); done))) | (refine And.intro (ABlk.le_of_eq ?_) ?_; (focus ((first | exact congrArg intV hw1 | exact congrArg (fun n => AV.p (.sl 1 n (strF (insS (nd ns j).tx l)))) hnl | fail); done))) | fail) | fail)
        · skip
          repeat' (first | exact trivial | ((conv => whnf); first | exact trivial | (refine And.intro (AV.le_refl _) ?_) | (refine And.intro (ABlk.le_refl _) ?_) | (refine And.intro (AV.le_of_eq ?_) ?_; (focus ((first | fail | fail); done))) | (refine And.intro (ABlk.le_of_eq ?_) ?_; (focus ((first | fail | fail); done))) | fail) | fail)
        · skip
          repeat' (first | exact trivial | ((conv => whnf); first | exact trivial | (refine And.intro (AV.le_refl _) ?_) | (refine And.intro (ABlk.le_refl _) ?_) | (refine And.intro (AV.le_of_eq ?_) ?_; (focus ((first | exact congrArg intV hw1 | exact congrArg (fun n => AV.p (.sl 1 n (strF (insS (nd ns j).tx l)))) hnl | fail); done))) | (refine And.intro (ABlk.le_of_eq ?_) ?_; (focus ((first | exact congrArg intV hw1 | exact congrArg (fun n => AV.p (.sl 1 n (strF (insS (nd ns j).tx l)))) hnl | fail); done))) | fail) | fail)
        · skip
          repeat' (first | exact trivial | ((conv => whnf); first | exact trivial | (refine And.intro (AV.le_refl _) ?_) | (refine And.intro (ABlk.le_refl _) ?_) | (refine And.intro (AV.le_of_eq ?_) ?_; (focus ((first | fail | fail); done))) | (refine And.intro (ABlk.le_of_eq ?_) ?_; (focus ((first | fail | fail); done))) | fail) | fail)
        · skip
          repeat' (first | exact trivial | ((conv => whnf); first | exact trivial | (refine And.intro (AV.le_refl _) ?_) | (refine And.intro (ABlk.le_refl _) ?_) | (refine And.intro (AV.le_of_eq ?_) ?_; (focus ((first | exact congrArg intV hw1 | exact congrArg (fun n => AV.p (.sl 1 n (strF (insS (nd ns j).tx l)))) hnl | fail); done))) | (refine And.intro (ABlk.le_of_eq ?_) ?_; (focus ((first | exact congrArg intV hw1 | exact congrArg (fun n => AV.p (.sl 1 n (strF (insS (nd ns j).tx l)))) hnl | fail); done))) | fail) | fail)
        · skip
          repeat' (first | exact trivial | ((conv => whnf); first | exact trivial | (refine And.intro (AV.le_refl _) ?_) | (refine And.intro (ABlk.le_refl _) ?_) | (refine And.intro (AV.le_of_eq ?_) ?_; (focus ((first | fail | fail); done))) | (refine And.intro (ABlk.le_of_eq ?_) ?_; (focus ((first | fail | fail); done))) | fail) | fail)
    · have h2' : ¬ (i : Int) < (l.length : Int) := h2
      have hin := insS_split hi hb fun h => absurd h (by omega)
      have hii : (i : Int) ≤ (l.length : Int) := by omega
      have hlb : l.length ≤ 1000000 := by omega
      have hil := insS_len (s := (nd ns j).tx) (l := l)
      have hnl : 0 + i + 1 + (l.length - i) = (insS (nd ns j).tx l).length := by omega
      have hrow : ∀ {n : Nat} {f0 f1 f2 : Nat → List AV}, (∀ x, x < i → f0 x = pvs (strF l x)) → f1 0 = [.p (.str (nd ns j).tx)] → (∀ x, f2 x = pvs (strF l (x + i))) → ∀ x, x < n → catF (0 + i + 1) (catF (0 + i) f0 f1) f2 x = pvs (strF (insS (nd ns j).tx l) x) := fun a b c x _ => by rw [← hin]; exact ins_row hi (Nat.zero_add i) a b c x
      conv => whnf
      repeat' (first | (refine Chk.mk ⟨rfl, rfl, rfl, allLt_ok ⟨trivial, rfl⟩⟩ ?_; (conv => whnf)) | (refine Chk.mk ?_ ?_; (focus ((repeat' (refine And.intro ?_ ?_)) <;> (first | exact Int.natCast_nonneg _ | exact Int.le_refl _ | exact hii | exact fun _ _ => rfl | (simp only [Int.ofNat_eq_natCast, Int.toNat_natCast]; omega) | rfl)); done); (conv => whnf)) | (refine And.intro ?_ ?_ <;> (conv => whnf)) | fail)
      all_goals refine hle _ _ (Le.trans (Le.fz 4 rfl rfl (strF (insS (nd ns j).tx l)) (by exact hrow (fun _ _ => rfl) rfl (fun _ => rfl))) (Le.cutEnv 1 rfl rfl (by (conv => whnf); exact ⟨rfl, trivial⟩) ?_ ?_)) (ih ⟨j + 1, insS (nd ns j).tx l⟩ (by show _ - (j + 1) < _ - j; omega) ⟨by show j + 1 ≤ _; omega, by show (insS (nd ns j).tx l).length ≤ j + 1; omega, he⟩)
      · skip
        repeat' (first | exact trivial | ((conv => whnf); first | exact trivial | (refine And.intro (AV.le_refl _) ?_) | (refine And.intro (ABlk.le_refl _) ?_) | (refine And.intro (AV.le_of_eq ?_) ?_; (focus ((first | exact congrArg intV hw1 | exact congrArg (fun n => AV.p (.sl 1 n (strF (insS (nd ns j).tx l)))) hnl | fail); done))) | (refine And.intro (ABlk.le_of_eq ?_) ?_; (focus ((first | exact congrArg intV hw1 | exact congrArg (fun n => AV.p (.sl 1 n (strF (insS (nd ns j).tx l)))) hnl | fail); done))) | fail) | fail)
      · skip
        repeat' (first | exact trivial | ((conv => whnf); first | exact trivial | (refine And.intro (AV.le_refl _) ?_) | (refine And.intro (ABlk.le_refl _) ?_) | (refine And.intro (AV.le_of_eq ?_) ?_; (focus ((first | fail | fail); done))) | (refine And.intro (ABlk.le_of_eq ?_) ?_; (focus ((first | fail | fail); done))) | fail) | fail)
      · skip
        repeat' (first | exact trivial | ((conv => whnf); first | exact trivial | (refine And.intro (AV.le_refl _) ?_) | (refine And.intro (ABlk.le_refl _) ?_) | (refine And.intro (AV.le_of_eq ?_) ?_; (focus ((first | exact congrArg intV hw1 | exact congrArg (fun n => AV.p (.sl 1 n (strF (insS (nd ns j).tx l)))) hnl | fail); done))) | (refine And.intro (ABlk.le_of_eq ?_) ?_; (focus ((first | exact congrArg intV hw1 | exact congrArg (fun n => AV.p (.sl 1 n (strF (insS (nd ns j).tx l)))) hnl | fail); done))) | fail) | fail)
      · skip
        repeat' (first | exact trivial | ((conv => whnf); first | exact trivial | (refine And.intro (AV.le_refl _) ?_) | (refine And.intro (ABlk.le_refl _) ?_) | (refine And.intro (AV.le_of_eq ?_) ?_; (focus ((first | fail | fail); done))) | (refine And.intro (ABlk.le_of_eq ?_) ?_; (focus ((first | fail | fail); done))) | fail) | fail)
      · skip
        repeat' (first | exact trivial | ((conv => whnf); first | exact trivial | (refine And.intro (AV.le_refl _) ?_) | (refine And.intro (ABlk.le_refl _) ?_) | (refine And.intro (AV.le_of_eq ?_) ?_; (focus ((first | exact congrArg intV hw1 | exact congrArg (fun n => AV.p (.sl 1 n (strF (insS (nd ns j).tx l)))) hnl | fail); done))) | (refine And.intro (ABlk.le_of_eq ?_) ?_; (focus ((first | exact congrArg intV hw1 | exact congrArg (fun n => AV.p (.sl 1 n (strF (insS (nd ns j).tx l)))) hnl | fail); done))) | fail) | fail)
      · skip
        repeat' (first | exact trivial | ((conv => whnf); first | exact trivial | (refine And.intro (AV.le_refl _) ?_) | (refine And.intro (ABlk.le_refl _) ?_) | (refine And.intro (AV.le_of_eq ?_) ?_; (focus ((first | fail | fail); done))) | (refine And.intro (ABlk.le_of_eq ?_) ?_; (focus ((first | fail | fail); done))) | fail) | fail)
  · obtain rfl : j = ns.length := by have h : ¬ (j : Int) < (ns.length : Int) := h; omega
    rw [List.drop_length] at he
    obtain rfl : l = l0 := he
    conv => whnf
    exact hr _ _ _ _ (Wk1.refl _ _ _) rfl hk
end Go.Proofs.YtojjkleplnijaaaGreatDoor

namespace Go.Proofs.YtojjkleplnijaaaGreatDoor
open Go.AE Go.Ru
theorem small_kt {m : Nat} {ns : List Nd} (hm : m < 1000000) (h : smallS m ns = true) : Kt ns := by
  simp only [smallS, Bool.and_eq_true, decide_eq_true_eq, List.all_eq_true] at h
  refine ⟨by omega, fun i => ?_⟩
  by_cases hi : i < ns.length
  · have := (h.2 ns[i] (List.getElem_mem hi)).1
    show (ns.getD i default).kids.length < 1000000
    rw [List.getD_eq_getElem?_getD, List.getElem?_eq_getElem hi]
    simp only [Option.getD_some]; omega
  · rw [show nd ns i = default by simp [nd, Nat.le_of_not_lt hi]]
    exact (by decide : (default : Nd).kids.length < 1000000)
end Go.Proofs.YtojjkleplnijaaaGreatDoor

namespace Go.Proofs.YtojjkleplnijaaaGreatDoor
open Go.AE Go.Ru
set_option maxRecDepth 100000
set_option maxHeartbeats 1000000
def fType : AC := fun args K k => ∃ ns root i v, args = [treeV ns root, intV i] ∧ Tame ns ∧ typeT ns root i = v ∧ k (.ret (intV v)) K
theorem fType_ok : COk 19 fType := by
  rintro args K k ⟨ns, root, i, v, h1, h2, rfl, h3⟩
  exact type_ok args K k ⟨ns, root, i, h1, h2, h3⟩
def fPlain : AC := fun args K k => ∃ ns root i v, args = [treeV ns root, intV i] ∧ Tame ns ∧ plainT ns root i = v ∧ k (.ret (.p (.bool v))) K
theorem fPlain_ok : COk 17 fPlain := by
  rintro args K k ⟨ns, root, i, v, h1, h2, rfl, h3⟩
  exact plainT_ok args K k ⟨ns, root, i, h1, h2, h3⟩
def fProc : AC := fun args K k => ∃ ns root name v, args = [treeV ns root, .p (.str name)] ∧ Tame ns ∧ procedureT ns root name = v ∧ k (.ret (intV v)) K
theorem fProc_ok : COk 15 fProc := by
  rintro args K k ⟨ns, root, name, v, h1, h2, rfl, h3⟩
  exact procedure_ok args K k ⟨ns, root, name, h1, h2, h3⟩
def fMain : AC := fun args K k => ∃ ns root v, args = [treeV ns root] ∧ Tame ns ∧ procedureT ns root mainT = v ∧ k (.ret (intV v)) K
theorem fMain_ok : COk 21 fMain := by
  rintro args K k ⟨ns, root, v, h1, h2, rfl, h3⟩
  exact main_ok args K k ⟨ns, root, h1, h2, h3⟩
def eSameT : AC := fun args K k => ∃ l, args = [strsV l, strsV l] ∧ List.length l < 1000000 ∧ k (.ret (.p (.bool true))) K
theorem sameT_ok : COk 23 eSameT := by
  rintro args K k ⟨l, rfl, hl, hk⟩
  refine frame0P g0_ok 19 rfl fun Q hr => ?_
  conv => whnf
  refine two_ne (fun h => absurd rfl h) (fun _ => ?_)
  conv => whnf
  refine loop_up (ι := Nat) [0, 1] (fun i => [(5, intV i)]) (fun _ => []) (fun i => i ≤ l.length) (fun i => l.length - i) 0 ⟨AV.le_refl _, trivial⟩ trivial (Nat.zero_le _) ?_
  rintro Y hle i hi ih
  conv => whnf
  refine two_dec (fun h => ?_) (fun h => ?_)
  · have h' : (i : Int) < (l.length : Int) := h
    have h : i < l.length := by omega
    have hw1 := wzz (i := i) (by omega)
    conv => whnf
    refine ⟨⟨by omega, h', rfl⟩, ?_⟩
    conv => whnf
    refine ⟨⟨by omega, h', rfl⟩, ?_⟩
    conv => whnf
    refine two_ne (fun h => absurd rfl h) (fun _ => ?_)
    conv => whnf
    refine hle _ _ (Le.env ?_ ?_) (ih (i + 1) (by omega) (by omega))
    · skip
      repeat' (first | exact trivial | ((conv => whnf); first | exact trivial | (refine And.intro (AV.le_refl _) ?_) | (refine And.intro (ABlk.le_refl _) ?_) | (refine And.intro (AV.le_of_eq ?_) ?_; (focus ((first | exact congrArg intV hw1 | fail); done))) | (refine And.intro (ABlk.le_of_eq ?_) ?_; (focus ((first | exact congrArg intV hw1 | fail); done))) | fail) | fail)
    · skip
      repeat' (first | exact trivial | ((conv => whnf); first | exact trivial | (refine And.intro (AV.le_refl _) ?_) | (refine And.intro (ABlk.le_refl _) ?_) | (refine And.intro (AV.le_of_eq ?_) ?_; (focus ((first | fail | fail); done))) | (refine And.intro (ABlk.le_of_eq ?_) ?_; (focus ((first | fail | fail); done))) | fail) | fail)
  · conv => whnf
    exact hr _ _ rfl hk
def gTt : AG := gput 7 cShown7 (gput 8 (eSmall 400) (gput 11 eOwner (gput 12 eROwner (gput 13 eLookup (gput 14 eRLookup
  (gput 15 fProc (gput 16 eRProc (gput 17 fPlain (gput 18 eRPlain (gput 19 fType (gput 20 eRType
  (gput 21 fMain (gput 22 eRMain (gput 24 eChan (gput 25 eRChan (gput 23 eSameT g0))))))))))))))))
theorem gTt_ok : GOk Tryz.prog gTt := gput_ok shown7_ok (gput_ok eSmall7_ok (gput_ok eOwner_ok (gput_ok rOwner_ok (gput_ok eLookup_ok (gput_ok rLookup_ok (gput_ok fProc_ok (gput_ok rProc_ok (gput_ok fPlain_ok (gput_ok rPlain_ok (gput_ok fType_ok (gput_ok rType_ok
  (gput_ok fMain_ok (gput_ok rMain_ok (gput_ok eChan_ok (gput_ok rChan_ok (gput_ok sameT_ok g0_ok))))))))))))))))
theorem tell_calls (ns : List Nd) (root n : Int) (name : Bs) (K : List ABlk) (k : AO → List ABlk → Prop) (hk : k (.ret (.p (.bool true))) K) : ACalls Tryz.prog 4 [treeV ns root, intV n, .p (.str name)] K k := by
  refine frame0P gTt_ok 19 rfl fun Q hr => ?_
  conv => whnf
  refine ⟨rfl, ?_⟩
  conv => whnf
  cases hs : smallS 400 ns with
  | false =>
    refine ⟨ns, root, _, rfl, hs, ?_⟩
    conv => whnf
    exact hr _ _ rfl hk
  | true =>
  have ta := small_tame (m := 400) (by decide) hs
  have kt := small_kt (m := 400) (by decide) hs
  refine ⟨ns, root, _, rfl, hs, ?_⟩
  conv => whnf
  refine two_dec (fun _ => ?_) (fun hn => ?_)
  · conv => whnf
    exact hr _ _ rfl hk
  obtain ⟨o, ho⟩ : ∃ o, ownerT ns root n = o := ⟨_, rfl⟩
  obtain ⟨d, hd⟩ : ∃ d, lookupT ns root n name = d := ⟨_, rfl⟩
  obtain ⟨p, hp⟩ : ∃ p, procedureT ns root name = p := ⟨_, rfl⟩
  obtain ⟨m, hm⟩ : ∃ m, procedureT ns root mainT = m := ⟨_, rfl⟩
  obtain ⟨ty, hty⟩ : ∃ ty, typeT ns root n = ty := ⟨_, rfl⟩
  obtain ⟨b, hb⟩ : ∃ b, plainT ns root n = b := ⟨_, rfl⟩
  obtain ⟨l, hl⟩ : ∃ l, chnS ns root = l := ⟨_, rfl⟩
  have hll := chnS_len ns root
  rw [hl] at hll
  have hlen := ta.len
  have fin : k (.ret (.p (.bool true))) K := hk
  conv => whnf
  repeat ((refine And.intro ?_ ?_); (focus ((conv => whnf); first | done | exact ⟨⟨by omega, by omega, rfl⟩, by conv => whnf⟩)); (conv => whnf))
  refine ⟨ns, root, n, o, rfl, ta, ho, ?_⟩
  conv => whnf
  repeat ((refine And.intro ?_ ?_); (focus ((conv => whnf); first | done | exact ⟨⟨by omega, by omega, rfl⟩, by conv => whnf⟩)); (conv => whnf))
  refine ⟨ns, root, n, o, rfl, kt, ta, ho, ?_⟩
  conv => whnf
  repeat ((refine And.intro ?_ ?_); (focus ((conv => whnf); first | done | exact ⟨⟨by omega, by omega, rfl⟩, by conv => whnf⟩)); (conv => whnf))
  refine two_eq (fun _ => ?_) (fun h => absurd rfl h)
  conv => whnf
  repeat ((refine And.intro ?_ ?_); (focus ((conv => whnf); first | done | exact ⟨⟨by omega, by omega, rfl⟩, by conv => whnf⟩)); (conv => whnf))
  refine ⟨ns, root, n, name, d, rfl, ta, hd, ?_⟩
  conv => whnf
  repeat ((refine And.intro ?_ ?_); (focus ((conv => whnf); first | done | exact ⟨⟨by omega, by omega, rfl⟩, by conv => whnf⟩)); (conv => whnf))
  refine ⟨ns, root, n, name, d, rfl, kt, ta, hd, ?_⟩
  conv => whnf
  repeat ((refine And.intro ?_ ?_); (focus ((conv => whnf); first | done | exact ⟨⟨by omega, by omega, rfl⟩, by conv => whnf⟩)); (conv => whnf))
  refine two_eq (fun _ => ?_) (fun h => absurd rfl h)
  conv => whnf
  repeat ((refine And.intro ?_ ?_); (focus ((conv => whnf); first | done | exact ⟨⟨by omega, by omega, rfl⟩, by conv => whnf⟩)); (conv => whnf))
  refine ⟨ns, root, name, p, rfl, ta, hp, ?_⟩
  conv => whnf
  repeat ((refine And.intro ?_ ?_); (focus ((conv => whnf); first | done | exact ⟨⟨by omega, by omega, rfl⟩, by conv => whnf⟩)); (conv => whnf))
  refine ⟨ns, root, name, p, rfl, kt, ta, hp, ?_⟩
  conv => whnf
  repeat ((refine And.intro ?_ ?_); (focus ((conv => whnf); first | done | exact ⟨⟨by omega, by omega, rfl⟩, by conv => whnf⟩)); (conv => whnf))
  refine two_eq (fun _ => ?_) (fun h => absurd rfl h)
  conv => whnf
  repeat ((refine And.intro ?_ ?_); (focus ((conv => whnf); first | done | exact ⟨⟨by omega, by omega, rfl⟩, by conv => whnf⟩)); (conv => whnf))
  refine ⟨ns, root, n, b, rfl, ta, hb, ?_⟩
  conv => whnf
  repeat ((refine And.intro ?_ ?_); (focus ((conv => whnf); first | done | exact ⟨⟨by omega, by omega, rfl⟩, by conv => whnf⟩)); (conv => whnf))
  refine ⟨ns, root, n, b, rfl, kt, ta, hb, ?_⟩
  conv => whnf
  repeat ((refine And.intro ?_ ?_); (focus ((conv => whnf); first | done | exact ⟨⟨by omega, by omega, rfl⟩, by conv => whnf⟩)); (conv => whnf))
  refine two_eq (fun _ => ?_) (fun h => absurd rfl h)
  conv => whnf
  repeat ((refine And.intro ?_ ?_); (focus ((conv => whnf); first | done | exact ⟨⟨by omega, by omega, rfl⟩, by conv => whnf⟩)); (conv => whnf))
  refine ⟨ns, root, n, ty, rfl, ta, hty, ?_⟩
  conv => whnf
  repeat ((refine And.intro ?_ ?_); (focus ((conv => whnf); first | done | exact ⟨⟨by omega, by omega, rfl⟩, by conv => whnf⟩)); (conv => whnf))
  refine ⟨ns, root, n, ty, rfl, kt, ta, hty, ?_⟩
  conv => whnf
  repeat ((refine And.intro ?_ ?_); (focus ((conv => whnf); first | done | exact ⟨⟨by omega, by omega, rfl⟩, by conv => whnf⟩)); (conv => whnf))
  refine two_eq (fun _ => ?_) (fun h => absurd rfl h)
  conv => whnf
  repeat ((refine And.intro ?_ ?_); (focus ((conv => whnf); first | done | exact ⟨⟨by omega, by omega, rfl⟩, by conv => whnf⟩)); (conv => whnf))
  refine ⟨ns, root, m, rfl, ta, hm, ?_⟩
  conv => whnf
  repeat ((refine And.intro ?_ ?_); (focus ((conv => whnf); first | done | exact ⟨⟨by omega, by omega, rfl⟩, by conv => whnf⟩)); (conv => whnf))
  refine ⟨ns, root, m, rfl, kt, ta, hm, ?_⟩
  conv => whnf
  repeat ((refine And.intro ?_ ?_); (focus ((conv => whnf); first | done | exact ⟨⟨by omega, by omega, rfl⟩, by conv => whnf⟩)); (conv => whnf))
  refine two_eq (fun _ => ?_) (fun h => absurd rfl h)
  conv => whnf
  repeat ((refine And.intro ?_ ?_); (focus ((conv => whnf); first | done | exact ⟨⟨by omega, by omega, rfl⟩, by conv => whnf⟩)); (conv => whnf))
  refine ⟨ns, root, l, rfl, ta, hl, ?_⟩
  conv => whnf
  repeat ((refine And.intro ?_ ?_); (focus ((conv => whnf); first | done | exact ⟨⟨by omega, by omega, rfl⟩, by conv => whnf⟩)); (conv => whnf))
  refine ⟨ns, root, l, rfl, kt, ta, hl, ?_⟩
  conv => whnf
  repeat ((refine And.intro ?_ ?_); (focus ((conv => whnf); first | done | exact ⟨⟨by omega, by omega, rfl⟩, by conv => whnf⟩)); (conv => whnf))
  refine ⟨l, rfl, by omega, ?_⟩
  conv => whnf
  repeat ((refine And.intro ?_ ?_); (focus ((conv => whnf); first | done | exact ⟨⟨by omega, by omega, rfl⟩, by conv => whnf⟩)); (conv => whnf))
  exact hr _ _ rfl hk
end Go.Proofs.YtojjkleplnijaaaGreatDoor
