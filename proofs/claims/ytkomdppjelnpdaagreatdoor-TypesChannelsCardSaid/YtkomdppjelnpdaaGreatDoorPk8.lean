/-
  Rows sorted, compacted, copied, as the layer AE meets them: by the shelf's contracts. No statement of the seat is proved here.
-/
import Derived.Test.YtkomdppjelnpdaaGreatDoorPk7
set_option linter.unusedVariables false
set_option linter.unusedSimpArgs false
namespace Go.AE
open Go.Sort
theorem mapBlock_put {w : World} {b : Nat} {f : Array Value → Array Value} {c : Array Value} {ty : TypeId} {fr : Nat × Nat} (h : w.heap[b]? = some (.cells c ty fr)) : mapBlock w b f = w.putObj b (.cells (f c) ty fr) := by
  unfold mapBlock World.putObj
  congr 1
  apply Array.ext_getElem?
  intro k
  simp only [Array.getElem?_modify, Array.getElem?_setIfInBounds]
  by_cases e : b = k
  · subst e
    have hb := (Array.getElem?_eq_some_iff.1 h).1
    simp only [if_true, h, Option.map_some, onCells, if_pos hb]
  · simp [e]
theorem putRow_ok {α : Type} [Inhabited α] {enc : α → Value} {g : α → PV} (hE : ∀ x w I, VP w I (g x) (enc x)) {w : World} {m : Mp} {K : List ABlk} (hS : St w m (hp K)) {r ty ver n : Nat} {f : Nat → List AV} (hr : nth K r = some (.arr ty 1 ver n f)) (hl : (m.L r).isLive) (d : Array α) (hd : d.size = n) :
    Tr w m (putRow enc w (m.ρ r) 0 d) m ∧ St (putRow enc w (m.ρ r) 0 d) m (hp (setN K r (.arr ty 1 ver n fun i => [.p (g d[i]!)]))) := by
  have hb := hS.blk r
  rw [hp_nth hr] at hb
  rcases hb with ⟨hb, _⟩ | ⟨cap, c, hL, h0, h00, h1, h2, h3⟩
  · rw [hb] at hl; exact hl.elim
  have e : putRow enc w (m.ρ r) 0 d = w.putObj (m.ρ r) (.cells (Sort.putCells enc 0 d c) ty (0, 0)) := mapBlock_put h1
  rw [e, ← upd_setN _ (nth_lt hr)]
  refine ⟨Tr.putObj hS r hl _, hS.putObj r hl _ _ ?_⟩
  refine .inr ⟨cap, Sort.putCells enc 0 d c, hL, h0, h00, World.putObj_heap_same (hS.lt r hl), by simp [Sort.putCells, h2], fun i hi => ⟨rfl, fun j hj => ?_⟩⟩
  have hj : j = 0 := by simpa using hj
  subst hj
  refine ⟨enc d[i]!, ?_, .p _ _ (hE _ _ _)⟩
  simp only [Sort.putCells, Array.getElem?_mapIdx, Nat.mul_one, Nat.add_zero]
  rw [Array.getElem?_eq_getElem (by omega), Option.map_some, if_pos ⟨Nat.zero_le _, by omega⟩, Nat.sub_zero]
theorem holds_ok {α : Type} [Inhabited α] {enc : α → Value} {g : α → PV} (hE : ∀ x w I u, VP w I (g x) u → u = enc x) {w : World} {m : Mp} {K : List ABlk} (hS : St w m (hp K)) {r ty ver n : Nat} {f : Nat → List AV} (hr : nth K r = some (.arr ty 1 ver n f)) (hl : (m.L r).isLive) (d : Array α) (hd : d.size = n)
    (hf : ∀ i, i < n → f i = [.p (g d[i]!)]) : Holds enc w (m.ρ r) 0 d := fun j hj => by
  have hb := hS.blk r
  rw [hp_nth hr] at hb
  rcases hb with ⟨hb, _⟩ | ⟨cap, c, hL, h0, h00, h1, h2, h3⟩
  · rw [hb] at hl; exact hl.elim
  obtain ⟨h4, h5⟩ := h3 j (by omega)
  obtain ⟨u, h6, h7⟩ := h5 0 (by omega)
  have e : (f j)[0]'(by omega) = .p (g d[j]!) := by
    have : (f j)[0]? = some (.p (g d[j]!)) := by rw [hf j (by omega)]; rfl
    rw [List.getElem?_eq_getElem (by omega)] at this
    exact Option.some.inj this
  rw [e] at h7
  cases h7 with
  | p _ _ h =>
    have := hE _ _ _ _ h
    subst this
    simp only [Nat.mul_one, Nat.add_zero] at h6
    constructor
    · simp [World.cell?, h1, h6]
    · simp [World.frozen?, h1]
theorem Tr.ahead (w : World) (m : Mp) (n : Nat) : Tr w m (Sort.ahead w n) m :=
  ⟨rfl, rfl, rfl, Nat.le_refl _, fun _ _ _ => rfl, fun _ h => h, fun _ _ => rfl, fun _ h => .inl h, fun _ => Inf.step_refl _ _ rfl, fun _ h => .inl ⟨h, rfl⟩⟩
theorem St.ahead {w : World} {m : Mp} {H : Nat → ABlk} (h : St w m H) (n : Nat) : St (Sort.ahead w n) m H :=
  ⟨h.inj, h.notI, h.lt, h.Ilt, Gl.mono (w := w) (w' := Sort.ahead w n) (fun _ h => h) (fun _ _ => rfl) h.gl, fun r => BlkOk.mono (w := w) (m := m) rfl (fun _ _ hv => hv.mono (Tr.ahead w m n)) (h.blk r)⟩
theorem grow_below' (w : World) (os : Array Obj) : RowKit.Below w.heap.size w (Sort.grow w os) :=
  ⟨rfl, rfl, rfl, by simp [Sort.grow], fun j hj => by simp [Sort.grow, Array.getElem?_append, hj]⟩
theorem own_ok {w w' : World} {m : Mp} {K : List ABlk} (hS : St w m (hp K)) (hB : RowKit.Below w.heap.size w w') {g : Nat} (hg : w.heap.size ≤ g) (hg' : g < w'.heap.size) {l : Inf} {b : ABlk} (hb : BlkOk w' (m.set (len K) g l) l g b) :
    Tr w m w' (m.set (len K) g l) ∧ St w' (m.set (len K) g l) (hp (snoc K b)) := by
  have hab := hS.absent (hp_len K)
  have hT : Tr w m w' (m.set (len K) g l) := by
    have h1 := Tr.below hS.Ilt hB
    refine ⟨h1.os, h1.tape, h1.output, h1.size, h1.out, fun _ h => h, h1.same, fun _ h => .inl h, fun k => ?_, fun k hk => ?_⟩
    · simp only [Mp.set]
      by_cases e : k = len K
      · subst e; rw [hab]; trivial
      · simp only [e, if_false]; exact Inf.step_refl _ _ trivial
    · simp only [Mp.set] at hk ⊢
      by_cases e : k = len K
      · simp only [e, if_true]; exact .inr hg
      · simp only [e, if_false] at hk ⊢; exact .inl ⟨hk, trivial⟩
  refine ⟨hT, ?_⟩
  rw [hp_snoc]
  refine ⟨fun r1 r2 h1 h2 e => ?_, fun r1 h1 => ?_, fun r1 h1 => ?_, fun b hb => ?_, hS.gl.mono hT.imm hT.same, fun r1 => ?_⟩
  · simp only [Mp.set] at h1 h2 e
    by_cases e1 : r1 = len K <;> by_cases e2 : r2 = len K
    · rw [e1, e2]
    · simp only [e1, e2, if_true, if_false] at h1 h2 e
      have := hS.lt r2 h2; omega
    · simp only [e1, e2, if_true, if_false] at h1 h2 e
      have := hS.lt r1 h1; omega
    · simp only [e1, e2, if_false] at h1 h2 e
      exact hS.inj r1 r2 h1 h2 e
  · simp only [Mp.set] at h1 ⊢
    by_cases e1 : r1 = len K
    · simp only [e1, if_true]; intro hI; have := hS.Ilt _ hI; omega
    · simp only [e1, if_false] at h1 ⊢; exact hS.notI r1 h1
  · simp only [Mp.set] at h1 ⊢
    by_cases e1 : r1 = len K
    · simp only [e1, if_true]; exact hg'
    · simp only [e1, if_false] at h1 ⊢; have := hS.lt r1 h1; have := hB.size; omega
  · have := hS.Ilt b hb; have := hB.size; omega
  · by_cases e1 : r1 = len K
    · simp only [Mp.set, upd, e1, if_true]; exact hb
    · have hk := hS.blk r1
      have e : BlkOk w' (m.set (len K) g l) (m.L r1) (m.ρ r1) (hp K r1) := by
        by_cases hl : (m.L r1).isLive
        · exact hk.mono (hB.block _ (hS.lt r1 hl)) (fun _ _ hv => hv.mono hT)
        · exact hk.nolive hl
      simp only [Mp.set, upd, e1, if_false]
      exact e
end Go.AE
namespace Go.Proofs.YtkomdppjelnpdaaGreatDoor
open Go.AE Go.Ru Go.RowKit Go.Sort
set_option maxRecDepth 100000
theorem setN_setN (l : List ABlk) (r : Nat) (b b' : ABlk) : setN (setN l r b) r b' = setN l r b' := by
  induction l generalizing r with
  | nil => rfl
  | cons a l ih => cases r with
    | zero => rfl
    | succ r => simp only [setN, ih]
theorem encI_of : ∀ (x : Int) (w : World) (I : Nat → Prop) (u : Value), VP w I (.int .i64 x) u → u = Value.int .i64 x := fun x w I u h => by cases h; rfl
theorem encI_to : ∀ (x : Int) (w : World) (I : Nat → Prop), VP w I (.int .i64 x) (Value.int .i64 x) := fun _ _ _ => .int ..
theorem encS_of : ∀ (x : Bs) (w : World) (I : Nat → Prop) (u : Value), VP w I (.str x) u → u = encStr x := fun x w I u h => by
  cases h with
  | str s l h => subst h; simp [encStr]
theorem encS_to : ∀ (x : Bs) (w : World) (I : Nat → Prop), VP w I (.str x) (encStr x) := fun x _ _ => .str _ _ (by simp)
theorem toArr_get {α : Type} [Inhabited α] {l : List α} {i : Nat} (h : i < l.length) (d : α) : l.toArray[i]! = l.getD i d := by
  rw [getElem!_pos l.toArray i (by simpa using h)]; simp [h]
def cSortI : AC := fun args K k => (args = [.p .nils] ∧ k (.ret (.tup [])) K) ∨ ∃ r ver n zs f ty, args = [.slr r ver 0 n] ∧ nth K r = some (.arr ty 1 ver n f) ∧ List.length zs = n ∧ (∀ i, i < n → f i = [intV (zs.getD i 0)]) ∧ n < 1000000 ∧
  k (.ret (.tup [])) (setN K r (.arr ty 1 ver n fun i => [intV ((sortI zs).getD i 0)]))
theorem sortI_ok : COk 61 cSortI := by
  rintro args K k (⟨rfl, hk⟩ | ⟨r, ver, n, zs, f, ty, rfl, hr, hz, hf, hn, hk⟩)
  · refine ACalls.lib (ent rfl rfl) fun w m Args hS hV => ?_
    obtain ⟨u, rfl, h1⟩ := vl1 hV
    cases h1 with
    | p _ _ h => cases h with
      | nils => exact (Tryz.slices_Sort_int_none none 0 w).mono fun e w' ⟨h3, h4⟩ => ⟨_, _, h3, by rw [h4]; exact below_same w, .tup [] #[] rfl fun j hj => by simp at hj, hk⟩
  · refine ⟨ent rfl rfl, fun w m Args hS hV => ?_⟩
    obtain ⟨u, rfl, h1⟩ := vl1 hV
    have hb := hS.blk r
    rw [hp_nth hr] at hb
    have hrl := nth_lt hr
    cases h1 with
    | slr _ _ _ _ N sz cap hL hN =>
      have hl : (m.L r).isLive := by rw [hL]; trivial
      rcases hb with ⟨hb, _⟩ | ⟨cap', c, hL', h0, h00, h1, h2, h3⟩
      · rw [hL] at hb; cases hb
      rw [hL] at hL'
      injection hL' with _ e2 e3 e4
      subst e3 e4
      have hH := holds_ok encI_of hS hr hl zs.toArray (by simpa using hz) fun i hi => by rw [hf i hi, toArr_get (by omega) 0]; rfl
      have hC := Tryz.slices_Sort_int (m.ρ r) 0 (cap - 0) zs w hH (hS.lt r hl) (by omega)
      rw [hz] at hC
      rw [Nat.zero_mul]
      refine hC.mono fun e w' ⟨he, q, os, hw'⟩ => ?_
      subst he
      obtain ⟨t1, s1⟩ := putRow_ok (g := fun x => PV.int .i64 x) encI_to (hS.ahead q) hr hl (sortI zs).toArray (by simp [sortI_len, hz])
      have hB := grow_below' (putRow (Value.int .i64) (Sort.ahead w q) (m.ρ r) 0 (sortI zs).toArray) os
      have hw2 : w' = Sort.grow (putRow (Value.int .i64) (Sort.ahead w q) (m.ρ r) 0 (sortI zs).toArray) os := hw'
      subst hw2
      have s2 := s1.below hB
      have t2 := Tr.below s1.Ilt hB
      have eK : setN K r (.arr ty 1 ver n fun i => [.p (.int .i64 (sortI zs).toArray[i]!)]) = setN K r (.arr ty 1 ver n fun i => [intV ((sortI zs).getD i 0)]) := by
        congr 2
        funext i
        by_cases h : i < (sortI zs).length
        · rw [toArr_get h 0]; rfl
        · rw [getElem!_neg _ i (by simpa using h), List.getD_eq_getElem?_getD, List.getElem?_eq_none (by omega)]; rfl
      rw [eK] at s2
      exact ⟨m, .tup [], _, ((Tr.ahead w m q).trans t1).trans t2, s2, .tup [] #[] rfl fun j hj => by simp at hj, hk⟩
    | slrNil _ _ hL =>
      rcases hb with ⟨hb, h0⟩ | ⟨cap', c, hL', _⟩
      · have hz0 : zs = [] := List.length_eq_zero_iff.1 hz
        refine (Tryz.slices_Sort_int_none none 0 w).mono fun e w' ⟨h3, h4⟩ => ?_
        subst h3 h4
        refine ⟨m, .tup [], _, Tr.refl _ m, hS.les ?_, .tup [] #[] rfl fun j hj => by simp at hj, hk⟩
        exact lesK_setN (lesK.refl _) _ _ fun b0 hb0 => by
          rw [hr] at hb0; injection hb0 with hb0; subst hb0
          exact ABlk.arr_eq rfl fun i hi => by omega
      · rw [hL] at hL'; cases hL'
    | slrOld _ _ _ _ ad c hold =>
      rcases hb with ⟨hb, h0⟩ | ⟨cap', c, hL', _⟩
      · rw [hb] at hold; simp [Inf.old] at hold
      · rw [hL'] at hold; simp [Inf.old] at hold
theorem VP.sl_take {w : World} {I : Nat → Prop} {sz n k : Nat} {g g' : Nat → List PV} {b c : Nat} (h : VP w I (.sl sz n g) (.slice (some ⟨b, 0, none⟩) n c)) (h0 : 0 < n) (hk : k ≤ n) (hg : ∀ i, i < k → g' i = g i) : VP w I (.sl sz k g') (.slice (some ⟨b, 0, none⟩) k c) := by
  cases h with
  | sl0 => omega
  | sl _ _ _ _ _ _ u hI hcap hc hv =>
    refine .sl sz k g' b 0 c u hI ⟨by omega, by omega⟩ (fun i hi j hj => hc i (by omega) j (by rw [← hg i hi]; exact hj)) (fun i hi => ?_)
    rw [hg i hi]; exact hv i (by omega)
def cCompI : AC := fun args K k => (args = [.p .nils] ∧ k (.ret (.p .nils)) K) ∨ ∃ r ver n zs f ty, args = [.slr r ver 0 n] ∧ nth K r = some (.arr ty 1 ver n f) ∧ List.length zs = n ∧ (∀ i, i < n → f i = [intV (zs.getD i 0)]) ∧ n < 1000000 ∧
  k (.ret (intsV (Lib.compact zs))) (setN K r .dead)
theorem compI_ok : COk 62 cCompI := by
  rintro args K k (⟨rfl, hk⟩ | ⟨r, ver, n, zs, f, ty, rfl, hr, hz, hf, hn, hk⟩)
  · refine ACalls.lib (ent rfl rfl) fun w m Args hS hV => ?_
    obtain ⟨u, rfl, h1⟩ := vl1 hV
    cases h1 with
    | p _ _ h => cases h with
      | nils => exact (Tryz.slices_Compact_int_empty none 0 w).mono fun e w' ⟨h3, h4⟩ => ⟨_, _, h3, by rw [h4]; exact below_same w, .p _ _ .nils, hk⟩
  · refine ⟨ent rfl rfl, fun w m Args hS hV => ?_⟩
    obtain ⟨u, rfl, h1⟩ := vl1 hV
    have hb := hS.blk r
    rw [hp_nth hr] at hb
    have hrl := nth_lt hr
    have hcl := compact_len zs
    cases h1 with
    | slr _ _ _ _ N sz cap hL hN =>
      have hl : (m.L r).isLive := by rw [hL]; trivial
      rcases hb with ⟨hb, _⟩ | ⟨cap', c, hL', h0, h00, h1, h2, h3⟩
      · rw [hL] at hb; cases hb
      rw [hL] at hL'
      injection hL' with _ e2 e3 e4
      subst e3 e4
      have hH := holds_ok encI_of hS hr hl zs.toArray (by simpa using hz) fun i hi => by rw [hf i hi, toArr_get (by omega) 0]; rfl
      have hC := Tryz.slices_Compact_int (m.ρ r) 0 (cap - 0) zs w hH (by omega) (by omega)
      rw [hz] at hC
      rw [Nat.zero_mul]
      refine hC.mono fun e w' ⟨he, q, hw'⟩ => ?_
      subst he hw'
      have hdl : (Lib.compact zs ++ List.replicate (n - (Lib.compact zs).length) 0).toArray.size = n := by simp; omega
      obtain ⟨t1, s1⟩ := putRow_ok (g := fun x => PV.int .i64 x) encI_to (hS.ahead q) hr hl _ hdl
      have t1 := (Tr.ahead w m q).trans t1
      obtain ⟨m', t2, s2, v2⟩ := freeze_sl s1 (r := r) (nth_setN_eq hr) (fun i => [PV.int .i64 (Lib.compact zs ++ List.replicate (n - (Lib.compact zs).length) 0).toArray[i]!]) (fun _ _ => rfl)
      have e5 : setN (setN K r (.arr ty 1 ver n fun i => [AV.p (.int .i64 (Lib.compact zs ++ List.replicate (n - (Lib.compact zs).length) 0).toArray[i]!)])) r .dead = setN K r .dead := setN_setN _ _ _ _
      rw [e5] at s2
      refine ⟨m', intsV (Lib.compact zs), _, t1.trans t2, s2, ?_, hk⟩
      by_cases hn0 : n = 0
      · have : Lib.compact zs = [] := List.length_eq_zero_iff.1 (by omega)
        rw [this]
        exact .p _ _ (.sl0 ..)
      · have hu : V (putRow (Value.int .i64) (Sort.ahead w q) (m.ρ r) 0 (Lib.compact zs ++ List.replicate (n - (Lib.compact zs).length) 0).toArray) m (.slr r ver 0 n) (.slice (some ⟨m.ρ r, 0, none⟩) n (cap - 0)) := by
          have := V.slr (w := putRow (Value.int .i64) (Sort.ahead w q) (m.ρ r) 0 (Lib.compact zs ++ List.replicate (n - (Lib.compact zs).length) 0).toArray) (m := m) r ver 0 n _ 1 cap hL hN
          rwa [Nat.zero_mul] at this
        cases v2 _ hu with
        | p _ _ h =>
          refine .p _ _ (VP.sl_take h (by omega) (by omega) fun i hi => ?_)
          rw [toArr_get (by simp; omega) 0, List.getD_eq_getElem?_getD, List.getElem?_append_left hi, ← List.getD_eq_getElem?_getD]
          rfl
    | slrNil _ _ hL =>
      rcases hb with ⟨hb, h0⟩ | ⟨cap', c, hL', _⟩
      · have hz0 : zs = [] := List.length_eq_zero_iff.1 hz
        subst hz0
        refine (Tryz.slices_Compact_int_empty none 0 w).mono fun e w' ⟨h3, h4⟩ => ?_
        subst h3 h4
        obtain ⟨m', t2, s2, v2⟩ := freeze_sl hS hr (fun _ => []) (fun i hi => by omega)
        exact ⟨m', intsV _, _, t2, s2, .p _ _ (.sl0 ..), hk⟩
      · rw [hL] at hL'; cases hL'
    | slrOld _ _ _ _ ad c hold =>
      rcases hb with ⟨hb, h0⟩ | ⟨cap', c, hL', _⟩
      · rw [hb] at hold; simp [Inf.old] at hold
      · rw [hL'] at hold; simp [Inf.old] at hold
def cClone : AC := fun args K k => ∃ zs, args = [.p (nxP zs)] ∧ List.length zs < 1000000 ∧ (zs = [] → k (.ret (.p .nils)) K) ∧ (zs ≠ [] → k (.ret (.slr (len K) 0 0 zs.length)) (snoc K (.arr 3 1 0 zs.length fun i => [intV (zs.getD i 0)])))
theorem clone_ok : COk 60 cClone := by
  rintro args K k ⟨zs, rfl, hn, hk0, hk1⟩
  cases zs with
  | nil =>
    refine ACalls.lib (ent rfl rfl) fun w m Args hS hV => ?_
    obtain ⟨u, rfl, h1⟩ := vl1 hV
    cases h1 with
    | p _ _ h => cases h with
      | nils => exact (Tryz.slices_Clone_int_nil 0 0 w).mono fun e w' ⟨h3, h4⟩ => ⟨_, _, h3, by rw [h4]; exact below_same w, .p _ _ .nils, hk0 rfl⟩
  | cons a l =>
    refine ⟨ent rfl rfl, fun w m Args hS hV => ?_⟩
    obtain ⟨u, rfl, h1⟩ := vl1 hV
    have hk := hk1 (by simp)
    cases h1 with
    | p _ _ h =>
      have h : VP w m.I (.sl 1 (l.length + 1) (kidF (a :: l))) u := h
      cases h with
      | sl _ _ _ b o c u hI hcap hc hv =>
        have hcell : ∀ j, j < (a :: l).length → w.cell? ⟨b, o + j, none⟩ = some (.int .i64 ((a :: l).getD j 0)) := fun j hj => by
          have h1 := hc j hj 0 (by simp [kidF])
          have h2 := encI_of _ _ _ _ (hv j hj 0 (by simp [kidF]))
          rw [Nat.mul_one, Nat.add_zero] at h1
          rw [h1, h2]
        refine (Tryz.slices_Clone_int b o (l.length + 1) c (a :: l) w (by simp) (by simp at hn; omega) hcell).mono fun e w' ⟨v', he, ho, hne, hB⟩ => ?_
        subst he
        obtain ⟨h1, h2⟩ := ho
        rcases h2 with ⟨h2, _⟩ | ⟨g, cap, cur, h2, h3, h4, h5, h6, h7, h8⟩
        · exact absurd h2 hne
        subst h2
        have hg' : g < w'.heap.size := (Array.getElem?_eq_some_iff.1 h4).1
        have hlen : l.length + 1 = (a :: l).length := rfl
        obtain ⟨t1, s1⟩ := own_ok (l := .live 0 (l.length + 1) 1 cap) (b := .arr 3 1 0 (l.length + 1) fun i => [intV ((a :: l).getD i 0)]) hS hB h3 hg' (.inr ⟨cap, cur, rfl, h5, h6, h4, h7, fun i hi => ⟨rfl, fun j hj => by
          have hj : j = 0 := by simpa using hj
          subst hj
          refine ⟨.int .i64 ((a :: l).getD i 0), ?_, .p _ _ (.int ..)⟩
          have := congrArg (fun L => L[i]?) h8
          simp only [List.getElem?_take, Nat.mul_one, if_pos hi, Nat.add_zero] at this ⊢
          rw [Array.getElem?_toList] at this
          rw [this, List.take_of_length_le (by simp), List.getElem?_map, List.getElem?_eq_getElem (by simpa using hi)]
          simp [List.getD_eq_getElem?_getD, List.getElem?_eq_getElem (show i < (a :: l).length by simpa using hi)]⟩⟩)
        refine ⟨_, .slr (len K) 0 0 (l.length + 1), _, t1, s1, ?_, hk⟩
        have := V.slr (w := w') (m := m.set (len K) g (.live 0 (l.length + 1) 1 cap)) (len K) 0 0 (l.length + 1) (l.length + 1) 1 cap (by simp [Mp.set]) (Nat.zero_add _)
        simpa [Mp.set] using this
end Go.Proofs.YtkomdppjelnpdaaGreatDoor
