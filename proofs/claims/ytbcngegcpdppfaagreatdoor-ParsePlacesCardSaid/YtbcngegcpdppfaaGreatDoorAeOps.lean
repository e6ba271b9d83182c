/-
  AE, part 3: the operations' abstract rules hold of the model's. Own metatheory over any program; no statement of the seat is proved here.
-/
import Derived.Test.YtbcngegcpdppfaaGreatDoorAeEval
namespace Go.AE

/-! ### small lists -/
theorem nth_eq {α : Type} (l : List α) (n : Nat) : nth l n = l[n]? := by
  induction l generalizing n with
  | nil => rfl
  | cons a l ih => cases n with
    | zero => rfl
    | succ n => simp [nth, ih]
theorem setN_eq {α : Type} (l : List α) (n : Nat) (v : α) : setN l n v = l.set n v := by
  induction l generalizing n with
  | nil => rfl
  | cons a l ih => cases n with
    | zero => rfl
    | succ n => simp [setN, ih]
theorem len_eq {α : Type} (l : List α) : len l = l.length := by
  induction l with
  | nil => rfl
  | cons a l ih => simp [len, ih]
theorem snoc_eq {α : Type} (l : List α) (b : α) : snoc l b = l ++ [b] := by
  induction l with
  | nil => rfl
  | cons a l ih => simp [snoc, ih]
theorem dropN_eq {α : Type} (l : List α) (n : Nat) : dropN l n = l.drop n := by
  induction n generalizing l with
  | zero => cases l <;> rfl
  | succ n ih => cases l with
    | nil => rfl
    | cons a l => simp [dropN, ih]
theorem takeN_eq {α : Type} (l : List α) (n : Nat) : takeN l n = l.take n := by
  induction n generalizing l with
  | zero => cases l <;> rfl
  | succ n ih => cases l with
    | nil => rfl
    | cons a l => simp [takeN, ih]
theorem catL_eq {α : Type} (l k : List α) : catL l k = l ++ k := by
  induction l with
  | nil => rfl
  | cons a l ih => simp [catL, ih]
theorem putCells_len {α : Type} (vs cs : List α) (off : Nat) : (putCells cs off vs).length = cs.length := by
  induction vs generalizing cs off with
  | nil => rfl
  | cons v vs ih => simp [putCells, ih, setN_eq]
theorem putCells_get {α : Type} (vs cs : List α) (off : Nat) (h : off + vs.length ≤ cs.length) (j : Nat) :
    (putCells cs off vs)[j]? = if off ≤ j ∧ j < off + vs.length then vs[j - off]? else cs[j]? := by
  induction vs generalizing cs off with
  | nil => simp only [putCells, List.length_nil, Nat.add_zero]; rw [if_neg (by omega)]
  | cons v vs ih =>
    simp only [List.length_cons] at h
    simp only [putCells, setN_eq, List.length_cons]
    rw [ih (cs.set off v) (off + 1) (by simp; omega)]
    by_cases h1 : off + 1 ≤ j ∧ j < off + 1 + vs.length
    · rw [if_pos h1, if_pos (by omega)]
      obtain ⟨d, rfl⟩ : ∃ d, j = off + 1 + d := ⟨j - (off + 1), by omega⟩
      rw [show off + 1 + d - (off + 1) = d by omega, show off + 1 + d - off = d + 1 by omega]
      simp
    · rw [if_neg h1, List.getElem?_set]
      by_cases h2 : off = j
      · subst h2; simp; omega
      · rw [if_neg h2]
        rw [if_neg (by omega)]
theorem putCells_in {α : Type} (vs cs : List α) (off : Nat) (h : off + vs.length ≤ cs.length) (j : Nat) (hj : off ≤ j ∧ j < off + vs.length) (hj' : j < (putCells cs off vs).length) :
    (putCells cs off vs)[j] = vs[j - off]'(by omega) := by
  have := putCells_get vs cs off h j
  rw [if_pos hj, List.getElem?_eq_getElem hj', List.getElem?_eq_getElem (by omega)] at this
  injection this
theorem putCells_out {α : Type} (vs cs : List α) (off : Nat) (h : off + vs.length ≤ cs.length) (j : Nat) (hj : ¬ (off ≤ j ∧ j < off + vs.length)) (hj' : j < (putCells cs off vs).length) :
    (putCells cs off vs)[j] = cs[j]'(by rw [putCells_len] at hj'; exact hj') := by
  have := putCells_get vs cs off h j
  have hj2 : j < cs.length := by rw [putCells_len] at hj'; exact hj'
  rw [if_neg hj, List.getElem?_eq_getElem hj', List.getElem?_eq_getElem hj2] at this
  injection this
theorem pvs_len (l : List PV) : (pvs l).length = l.length := by
  induction l with
  | nil => rfl
  | cons a l ih => simp [pvs, ih]
theorem pvs_get (l : List PV) (j : Nat) (hj : j < (pvs l).length) : (pvs l)[j] = .p (l[j]'(by rw [pvs_len] at hj; exact hj)) := by
  induction l generalizing j with
  | nil => simp [pvs] at hj
  | cons a l ih => cases j with
    | zero => rfl
    | succ j => simpa [pvs] using ih j (by simpa [pvs] using hj)
theorem ones_get {l : List AV} (h : ones l = true) (j : Nat) (hj : j < l.length) : l[j].one = true := by
  induction l generalizing j with
  | nil => simp at hj
  | cons a l ih =>
    simp only [ones, Bool.and_eq_true] at h
    cases j with
    | zero => exact h.1
    | succ j => exact ih h.2 j (by simpa using hj)
theorem ones_pvs (l : List PV) : ones (pvs l) = true := by
  induction l with
  | nil => rfl
  | cons a l ih => simp [pvs, ones, AV.one, ih]

theorem hp_set (K : List ABlk) (r : Nat) (b b0 : ABlk) (h : nth K r = some b0) : hp (setN K r b) = upd (hp K) r b := by
  rw [nth_eq] at h
  have hr := (List.getElem?_eq_some_iff.1 h).1
  funext k
  simp only [hp, upd, nth_eq, setN_eq, List.getElem?_set]
  by_cases e : k = r
  · subst e; simp [hr]
  · have e' : ¬ r = k := fun x => e x.symm
    simp only [e, e', if_false]
theorem hp_snoc (K : List ABlk) (b : ABlk) : hp (snoc K b) = upd (hp K) (len K) b := by
  funext k
  simp only [hp, upd, nth_eq, snoc_eq, len_eq, List.getElem?_append]
  by_cases e : k = K.length
  · subst e; simp
  · by_cases h : k < K.length
    · simp [e, h]
    · have : ¬ k < K.length := h
      simp only [this, if_false, e]
      rw [List.getElem?_eq_none (by simp; omega), List.getElem?_eq_none (by omega)]
theorem hp_len (K : List ABlk) : hp K (len K) = .absent := by
  simp [hp, nth_eq, len_eq]
theorem hp_nth {K : List ABlk} {r : Nat} {b : ABlk} (h : nth K r = some b) : hp K r = b := by simp [hp, h]

/-! ### values -/
def VL (w : World) (m : Mp) (l : List AV) (A : Array Value) : Prop := l.length = A.size ∧ ∀ j (hj : j < l.length) (hj' : j < A.size), V w m l[j] A[j]

theorem VL.nil (w : World) (m : Mp) : VL w m [] #[] := ⟨rfl, fun j hj => by simp at hj⟩

theorem VL.mono {w w' : World} {m m' : Mp} (t : Tr w m w' m') {l : List AV} {A : Array Value} (h : VL w m l A) : VL w' m' l A :=
  ⟨h.1, fun j hj hj' => (h.2 j hj hj').mono t⟩

theorem VL.append {w : World} {m : Mp} {l l' : List AV} {A A' : Array Value} (h : VL w m l A) (h' : VL w m l' A') : VL w m (l ++ l') (A ++ A') := by
  refine ⟨by simp [h.1, h'.1], fun j hj hj' => ?_⟩
  by_cases e : j < l.length
  · rw [List.getElem_append_left e, Array.getElem_append_left (by rw [← h.1]; exact e)]
    exact h.2 j e _
  · rw [List.getElem_append_right (by omega), Array.getElem_append_right (by rw [← h.1]; omega)]
    have := h'.2 (j - l.length) (by simp at hj; omega) (by rw [← h'.1]; simp at hj; omega)
    simpa [h.1] using this

/-- the cells of a value -/
theorem V.cells {w : World} {m : Mp} {a : AV} {u : Value} (h : V w m a u) (ha : a ≠ .junk) (ha' : ∀ l, a ≠ .tup l) : VL w m a.cells u.cells := by
  cases h with
  | agg cs A hA hv => exact ⟨hA, hv⟩
  | tup cs A hA hv => exact absurd rfl (ha' cs)
  | junk u => exact absurd rfl ha
  | yld r sz cap h => exact ⟨rfl, fun j hj hj' => by
      have : j = 0 := by simpa [AV.cells] using hj
      subst this; exact .yld r sz cap h⟩
  | yldOld r b h => exact ⟨rfl, fun j hj hj' => by
      have : j = 0 := by simpa [AV.cells] using hj
      subst this; exact .yldOld r b h⟩
  | p v u h =>
    have h1 := h.one
    have : u.cells = #[u] := by cases u <;> first | rfl | simp [Value.oneCell'] at h1
    rw [this]
    exact ⟨rfl, fun j hj hj' => by
      have : j = 0 := by simpa [AV.cells] using hj
      subst this; exact .p v u h⟩
  | ptr r ver n i off sz cap h hi => exact ⟨rfl, fun j hj hj' => by
      have : j = 0 := by simpa [AV.cells] using hj
      subst this; exact .ptr r ver n i off sz cap h hi⟩
  | ptrOld r ver n i off b o h => exact ⟨rfl, fun j hj hj' => by
      have : j = 0 := by simpa [AV.cells] using hj
      subst this; exact .ptrOld r ver n i off b o h⟩
  | slr r ver off n N sz cap h hn => exact ⟨rfl, fun j hj hj' => by
      have : j = 0 := by simpa [AV.cells] using hj
      subst this; exact .slr r ver off n N sz cap h hn⟩
  | slrNil r ver h => exact ⟨rfl, fun j hj hj' => by
      have : j = 0 := by simpa [AV.cells] using hj
      subst this; exact .slrNil r ver h⟩
  | slrOld r ver off n ad c h => exact ⟨rfl, fun j hj hj' => by
      have : j = 0 := by simpa [AV.cells] using hj
      subst this; exact .slrOld r ver off n ad c h⟩
  | rop cs off b o u hI hc hv => exact ⟨rfl, fun j hj hj' => by
      have : j = 0 := by simpa [AV.cells] using hj
      subst this; exact .rop cs off b o u hI hc hv⟩
  | fn f first cap A B hA hB h1 h2 => exact ⟨rfl, fun j hj hj' => by
      have : j = 0 := by simpa [AV.cells] using hj
      subst this; exact .fn f first cap A B hA hB h1 h2⟩
  | iface t v u h => exact ⟨rfl, fun j hj hj' => by
      have : j = 0 := by simpa [AV.cells] using hj
      subst this; exact .iface t v u h⟩

/-! ### types -/
def utOk (P : Program) : UT → TypeDesc → Prop
  | .int k, d => d = .int k
  | .bool, d => d = .bool
  | .string, d => d = .string
  | .slice e, d => d = .slice e
  | .ptr e, d => d = .pointer e
  | .struct fs, d => ∃ fields : Array Field, d = .struct fields ∧ fields.toList.map (fun f => (f.offset, f.type)) = fs ∧ ∀ f ∈ fields.toList, (P.info? f.type).isSome = true
  | .array n e, d => d = .array n e
  | .map k e, d => d = .map k e
  | .func, d => ∃ a b c, d = .func a b c
  | .iface, d => ∃ ms, d = .interface ms
  | .other, _ => True

def zOk (zs : List PV) (A : Array Value) : Prop := zs.length = A.size ∧ ∀ w I j (hj : j < zs.length) (hj' : j < A.size), VP w I zs[j] A[j]

def aggOf : TypeDesc → Bool
  | .struct _ | .array _ _ => true
  | _ => false

def zAgg : Value → Bool
  | .agg _ => true
  | _ => false

def TIok (P : Program) (t : Nat) (ti : TI) : Prop :=
  ∃ i d z, P.info? t = some i ∧ P.underlying t = some d ∧ i.size = ti.size ∧ i.bytes = ti.bytes ∧ utOk P ti.u d ∧ i.zero = some z ∧ zOk ti.zero z.cells ∧ ti.agg = aggOf d ∧ ti.agg = zAgg z

structure TabOk (P : Program) (T : Tab) : Prop where
  t : ∀ t ti, T.t.get t = some ti → TIok P t ti
  f : ∀ f fn, T.f.get f = some fn → P.funcs[f]? = some fn ∧ (fn.name == "runtime.NumGoroutine") = false

/-- what an operation comes to -/
def RunOk (P : Program) (w : World) (m : Mp) (s : Sem Value) (k : AV → List ABlk → Prop) : Prop :=
  ∃ u w' m' a K', s.run P w = .ok u w' ∧ Tr w m w' m' ∧ St w' m' (hp K') ∧ V w' m' a u ∧ k a K'

section
variable {P : Program} {T : Tab} {w : World} {m : Mp} {K : List ABlk} {k : AV → List ABlk → Prop}

theorem RunOk.same {s : Sem Value} {u : Value} {a : AV} (hS : St w m (hp K)) (hr : s.run P w = .ok u w) (hv : V w m a u) (hk : k a K) : RunOk P w m s k :=
  ⟨u, w, m, a, K, hr, Tr.refl w m, hS, hv, hk⟩

theorem isAgg_run {t : Nat} {d : TypeDesc} (h : P.underlying t = some d) (w : World) : (isAgg t).run P w = .ok (aggOf d) w := by
  unfold isAgg
  rw [Sem.run_bind, run_underlying h w]
  cases d <;> rfl

theorem addr_add (b o j : Nat) : (⟨b, o, none⟩ : Addr).add j = ⟨b, o + j, none⟩ := by unfold Addr.add; split <;> simp_all

/-- a value of a type read out of known cells -/
theorem part_load {t : Nat} {ti : TI} (hti : TIok P t ti) (b o0 : Nat) (cs : List AV) (hc : ∀ j (hj : j < cs.length), ∃ u, w.cell? ⟨b, o0 + j, none⟩ = some u ∧ V w m cs[j] u)
    (off : Nat) (q : AV → Prop) (h : part ti cs off q) : ∃ u a, (loadVar t ⟨b, o0 + off, none⟩).run P w = .ok u w ∧ V w m a u ∧ q a := by
  obtain ⟨i, d, z, hi, hu, hsz, _, _, _, _, hagg, _⟩ := hti
  unfold part at h
  unfold loadVar
  simp only [Sem.run_bind, isAgg_run hu, Result.andThen_ok]
  rw [← hagg]
  cases hA : ti.agg with
  | true =>
    rw [hA] at h
    simp only at h
    cases hb : Nat.ble (off + ti.size) (len cs) with
    | false => rw [hb] at h; exact h.elim
    | true =>
      rw [hb] at h
      simp only [fVL_eq, takeN_eq, dropN_eq] at h
      have hle : off + ti.size ≤ cs.length := by rw [len_eq] at hb; exact Nat.le_of_ble_eq_true hb
      have hcell : ∃ g : Nat → Value, ∀ j, j < ti.size → w.cell? ((⟨b, o0 + off, none⟩ : Addr).add j) = some (g j) ∧ ∀ hj : off + j < cs.length, V w m cs[off + j] (g j) := by
        refine ⟨fun j => (w.cell? ⟨b, o0 + (off + j), none⟩).getD undef, fun j hj => ?_⟩
        obtain ⟨u, h1, h2⟩ := hc (off + j) (by omega)
        rw [addr_add, show o0 + off + j = o0 + (off + j) by omega]
        exact ⟨by simp [h1], fun _ => by simpa [h1] using h2⟩
      obtain ⟨g, hg⟩ := hcell
      have hl := run_loadCells (P := P) w ⟨b, o0 + off, none⟩ ti.size g (fun j hj => (hg j hj).1)
      refine ⟨.agg ((List.range ti.size).map g).toArray, .agg ((cs.drop off).take ti.size), ?_, ?_, h⟩
      · simp [sizeOf, typeInfo, hi, hsz, hl]
      · refine .agg _ _ (by simp; omega) fun j hj hj' => ?_
        have hj2 : j < ti.size := by simp at hj'; exact hj'
        have := (hg j hj2).2 (by omega)
        simpa using this
  | false =>
    rw [hA] at h
    simp only at h
    rw [nth_eq] at h
    cases hn : cs[off]? with
    | none => rw [hn] at h; exact h.elim
    | some v =>
      rw [hn] at h
      simp only [fV_eq] at h
      obtain ⟨hlt, rfl⟩ := List.getElem?_eq_some_iff.1 hn
      obtain ⟨u, h1, h2⟩ := hc off hlt
      refine ⟨u, _, ?_, h2, h⟩
      simp [h1]

theorem opLoad_same (hT : TabOk P T) (hS : St w m (hp K)) {ty : Nat} {a : AV} {u : Value} (hv : V w m a u) (h : opLoad T K k ty a) :
    ∃ ad x b, u = .pointer (some ad) ∧ (loadVar ty ad).run P w = .ok x w ∧ V w m b x ∧ k b K := by
  unfold opLoad at h
  cases hg : T.t.get ty with
  | none => rw [hg] at h; exact h.elim
  | some ti =>
    rw [hg] at h
    have hti := hT.t ty ti hg
    cases hv with
    | rop cs off b o u hI hc hvp =>
      simp only at h
      obtain ⟨v, a', h1, h2, h3⟩ := part_load (P := P) (w := w) (m := m) hti b o (pvs cs) (fun j hj => by
        have hj' : j < cs.length := by rw [pvs_len] at hj; exact hj
        rw [pvs_get]
        exact ⟨u j, hc j hj', .p _ _ (hvp j hj')⟩) off _ h
      exact ⟨_, v, _, rfl, h1, h2, h3⟩
    | ptr r ver n i off sz cap hL hi =>
      simp only at h
      cases hn : nth K r with
      | none => rw [hn] at h; exact h.elim
      | some b =>
        rw [hn] at h
        have hb := hS.blk r
        rw [hp_nth hn] at hb
        cases b with
        | absent => exact h.elim
        | dead => exact h.elim
        | lp => exact h.elim
        | box bt cs =>
          simp only at h
          split at h
          · obtain ⟨hl, c, h1, h2, h3⟩ := hb
            obtain ⟨v, a', h4, h5, h6⟩ := part_load (P := P) (w := w) (m := m) hti (m.ρ r) 0 cs (fun j hj => by
              obtain ⟨x, hx, hx'⟩ := h3 j hj
              exact ⟨x, by rw [cell_of_row w _ _ c bt (0, 0) h1]; simpa using hx, hx'⟩) off _ h
            simp only [Nat.zero_mul, Nat.zero_add] at h4 ⊢
            exact ⟨_, v, _, rfl, h4, h5, h6⟩
          · exact h.elim
        | arr et sz' ver' n' f =>
          simp only at h
          obtain ⟨⟨rfl, rfl⟩, h⟩ := h
          rcases hb with ⟨hb, _⟩ | ⟨cap', c, hl, hcap, hmax, h1, h2, h3⟩
          · rw [hL] at hb; simp at hb
          rw [hL] at hl
          injection hl with _ _ e3 e4
          subst e3
          obtain ⟨v, a', h4, h5, h6⟩ := part_load (P := P) (w := w) (m := m) hti (m.ρ r) (i * sz) (f i) (fun j hj => by
            obtain ⟨x, hx, hx'⟩ := (h3 i hi).2 j hj
            exact ⟨x, by rw [cell_of_row w _ _ c et (0, 0) h1]; exact hx, hx'⟩) off _ h
          exact ⟨_, v, _, rfl, h4, h5, h6⟩
    | ptrOld r ver n i off b' o' hold =>
      exfalso
      simp only at h
      cases hn : nth K r with
      | none => rw [hn] at h; exact h.elim
      | some b =>
        rw [hn] at h
        have hb := hS.blk r
        rw [hp_nth hn] at hb
        cases b with
        | absent => exact h.elim
        | dead => exact h.elim
        | lp => exact h.elim
        | box bt cs =>
          simp only at h
          rw [hb.1] at hold
          split at h
          · simp [Inf.old] at hold
          · exact h.elim
        | arr et sz' ver' n' f =>
          obtain ⟨⟨rfl, rfl⟩, _⟩ := h
          rcases hb with ⟨hl, _⟩ | ⟨cap', c, hl, _⟩
          · rw [hl] at hold; simp [Inf.old] at hold
          rw [hl] at hold
          simp [Inf.old] at hold
    | p => exact h.elim
    | slr => exact h.elim
    | slrNil => exact h.elim
    | slrOld => exact h.elim
    | fn => exact h.elim
    | iface => exact h.elim
    | agg => exact h.elim
    | tup => exact h.elim
    | yld => exact h.elim
    | yldOld => exact h.elim
    | junk => exact h.elim

theorem opLoad_ok (hT : TabOk P T) (hS : St w m (hp K)) {ty : Nat} {a : AV} {u : Value} (hv : V w m a u) (h : opLoad T K k ty a) : RunOk P w m (Instr.loadAt ty u) k := by
  obtain ⟨ad, x, b, rfl, h1, h2, h3⟩ := opLoad_same hT hS hv h
  exact RunOk.same hS (u := x) (by simp [Instr.loadAt, Instr.sureAddr, h1]) h2 h3

/-- a row of cells, some of them written -/
def splice (c : Array Value) (o : Nat) (vs : List Value) : Array Value := (c.toList.take o ++ vs ++ c.toList.drop (o + vs.length)).toArray

theorem splice_get (c : Array Value) (o : Nat) (vs : List Value) (h : o + vs.length ≤ c.size) (j : Nat) :
    (splice c o vs)[j]? = if o ≤ j ∧ j < o + vs.length then vs[j - o]? else c[j]? := by
  have hl : c.toList.length = c.size := by simp
  simp only [splice, List.getElem?_toArray, List.getElem?_append, List.length_append, List.length_take, hl, List.getElem?_take, List.getElem?_drop]
  have hm : min o c.size = o := by omega
  rw [hm]
  by_cases h1 : j < o
  · rw [if_pos (by omega), if_pos h1, if_pos h1, if_neg (by omega)]; simp
  · by_cases h2 : j < o + vs.length
    · rw [if_pos h2, if_neg h1, if_pos ⟨by omega, h2⟩]
    · rw [if_neg h2, if_neg (by omega)]
      rw [show o + vs.length + (j - (o + vs.length)) = j by omega]; simp

theorem splice_size (c : Array Value) (o : Nat) (vs : List Value) (h : o + vs.length ≤ c.size) : (splice c o vs).size = c.size := by
  simp [splice]; omega

theorem updF_same (f : Nat → List AV) (i : Nat) (c : List AV) : updF f i c i = c := by simp [updF]
theorem updF_other (f : Nat → List AV) (i j : Nat) (c : List AV) (h : j ≠ i) : updF f i c j = f j := by
  have : Nat.beq j i = false := by cases e : Nat.beq j i with
    | true => exact absurd (Nat.eq_of_beq_eq_true e) h
    | false => rfl
  simp only [updF, this]

theorem VL.get? {w : World} {m : Mp} {l : List AV} {A : Array Value} (h : VL w m l A) (j : Nat) (hj : j < l.length) : ∃ u, A[j]? = some u ∧ V w m l[j] u :=
  ⟨A[j]'(by rw [← h.1]; exact hj), by simp [← h.1, hj], h.2 j hj _⟩

theorem one_not {a : AV} (h : ones a.cells = true) : a ≠ .junk ∧ ∀ l, a ≠ .tup l := by
  constructor
  · rintro rfl; simp [AV.cells, ones, AV.one] at h
  · rintro l rfl; simp [AV.cells, ones, AV.one] at h

theorem VL.ones {l : List AV} {A : Array Value} (h : VL w m l A) (h1 : ones l = true) : ∀ u ∈ A.toList, u.oneCell' = true := by
  intro u hu
  obtain ⟨j, hj, rfl⟩ := List.getElem_of_mem hu
  simp only [Array.length_toList] at hj
  have := (h.2 j (by rw [h.1]; exact hj) hj).one (ones_get h1 j _)
  simpa using this

/-- a store into a live row -/
theorem store_run {ty : Nat} {ti : TI} (hti : TIok P ty ti) {r : Nat} {c : Array Value} {bt : TypeId}
    (hc : w.heap[m.ρ r]? = some (.cells c bt (0, 0))) {v : AV} {x : Value} (hx : V w m v x) (hlen : v.cells.length = ti.size) (h1 : ones v.cells = true) (o : Nat) (ho : o + ti.size ≤ c.size) :
    (Instr.storeAt ty (.pointer (some ⟨m.ρ r, o, none⟩)) x).run P w = .ok () (w.setRow (m.ρ r) (splice c o x.cells.toList)) := by
  obtain ⟨i, d, z, hi, hu, hsz, _, _, _, _, hagg, _⟩ := hti
  have hcs := hx.cells (one_not h1).1 (one_not h1).2
  have hsize : x.cells.size = ti.size := by rw [← hcs.1, hlen]
  have hst := run_storeCells_at P (m.ρ r) o bt x.cells.toList 0 c w hc (by simp [hsize]; exact ho) (hcs.ones h1)
  simp only [Nat.add_zero] at hst
  simp only [Instr.storeAt, Instr.sureAddr, storeVar, sizeOf, typeInfo, hi, hsz, hsize, hst, splice, Sem.run_bind, Sem.run_pure, run_program, Result.andThen_ok, ne_eq, not_true_eq_false, if_false]

def RunOkU (P : Program) (w : World) (m : Mp) (s : Sem Unit) (k : AV → List ABlk → Prop) : Prop :=
  ∃ w' m' K', s.run P w = .ok () w' ∧ Tr w m w' m' ∧ St w' m' (hp K') ∧ k .junk K'

theorem opStore_ok (hT : TabOk P T) (hS : St w m (hp K)) {ty : Nat} {a v : AV} {u x : Value} (ha : V w m a u) (hx : V w m v x) (h : opStore T K k ty a v) : RunOkU P w m (Instr.storeAt ty u x) k := by
  unfold opStore at h
  cases hg : T.t.get ty with
  | none => rw [hg] at h; exact h.elim
  | some ti =>
    rw [hg] at h
    have hti := hT.t ty ti hg
    simp only at h
    split at h
    case h_2 => exact h.elim
    rename_i hlen h1
    have hlen' : v.cells.length = ti.size := by rw [len_eq] at hlen; exact Nat.eq_of_beq_eq_true hlen
    have hcs := hx.cells (one_not h1).1 (one_not h1).2
    have hxl : x.cells.toList.length = ti.size := by simp [← hcs.1, hlen']
    cases ha with
    | ptr r ver n i off sz cap hL hi =>
      simp only at h
      cases hn : nth K r with
      | none => rw [hn] at h; exact h.elim
      | some b =>
        rw [hn] at h
        have hb := hS.blk r
        rw [hp_nth hn] at hb
        have hlive : (m.L r).isLive := by rw [hL]; trivial
        cases b with
        | absent => exact h.elim
        | dead => exact h.elim
        | lp => exact h.elim
        | box bt cs =>
          simp only at h
          split at h
          case h_2 => exact h.elim
          cases hbl : Nat.ble (off + ti.size) (len cs) with
          | false => rw [hbl] at h; exact h.elim
          | true =>
            rw [hbl] at h
            simp only [fB_eq, fL_eq] at h
            have hle : off + ti.size ≤ cs.length := by rw [len_eq] at hbl; exact Nat.le_of_ble_eq_true hbl
            obtain ⟨hl, c, h2, h3, h4⟩ := hb
            have hrun := store_run hti h2 hx hlen' h1 off (by omega)
            refine ⟨_, m, _, by simpa only [Nat.zero_mul, Nat.zero_add] using hrun, Tr.setRow hS r hlive _, ?_, h⟩
            rw [hp_set K r _ _ hn]
            refine hS.setRow r hlive _ _ ⟨by rw [putCells_len]; exact hl, _, setRow_heap w _ c _ bt _ h2, ?_, fun j hj => ?_⟩
            · rw [splice_size c off _ (by omega), putCells_len]; exact h3
            · have hj0 := hj
              rw [putCells_len] at hj
              rw [splice_get c off _ (by omega)]
              have hT' := Tr.setRow hS r hlive (splice c off x.cells.toList)
              by_cases hin : off ≤ j ∧ j < off + ti.size
              · rw [hxl, if_pos hin]
                obtain ⟨y, hy1, hy2⟩ := hcs.get? (j - off) (by omega)
                refine ⟨y, by simpa using hy1, ?_⟩
                rw [putCells_in v.cells cs off (by omega) j (by omega) hj0]
                exact hy2.mono hT'
              · rw [hxl, if_neg hin]
                obtain ⟨y, hy1, hy2⟩ := h4 j hj
                refine ⟨y, hy1, ?_⟩
                rw [putCells_out v.cells cs off (by omega) j (by omega) hj0]
                exact hy2.mono hT'
        | arr et sz' ver' n' f =>
          simp only at h
          obtain ⟨⟨rfl, rfl⟩, h⟩ := h
          rcases hb with ⟨hb, _⟩ | ⟨cap', c, hl, hcap, hmax, h2, h3, h4⟩
          · rw [hL] at hb; simp at hb
          rw [hL] at hl
          injection hl with _ _ e3 e4
          subst e3
          subst e4
          cases hbl : Nat.ble (off + ti.size) sz with
          | false => rw [hbl] at h; exact h.elim
          | true =>
            rw [hbl] at h
            simp only [fL_eq] at h
            have hle : off + ti.size ≤ sz := Nat.le_of_ble_eq_true hbl
            have hroom : (i + 1) * sz ≤ cap * sz := Nat.mul_le_mul_right _ (by omega)
            have hmul : (i + 1) * sz = i * sz + sz := by rw [Nat.add_mul, Nat.one_mul]
            have hfit : i * sz + off + ti.size ≤ c.size := by rw [h3]; omega
            have hrun := store_run hti h2 hx hlen' h1 (i * sz + off) hfit
            refine ⟨_, m, _, hrun, Tr.setRow hS r hlive _, ?_, h⟩
            rw [hp_set K r _ _ hn]
            refine hS.setRow r hlive _ _ (.inr ⟨cap, _, hL, hcap, hmax, setRow_heap w _ c _ et _ h2, ?_, fun j hj => ?_⟩)
            · rw [splice_size c _ _ (by omega)]; exact h3
            · have hT' := Tr.setRow hS r hlive (splice c (i * sz + off) x.cells.toList)
              have hfi := (h4 i hi).1
              by_cases hji : j = i
              · subst hji
                rw [updF_same]
                refine ⟨by rw [putCells_len]; exact hfi, fun q hq => ?_⟩
                have hq' : q < (f j).length := by rwa [putCells_len] at hq
                rw [splice_get c _ _ (by omega), hxl]
                by_cases hin : off ≤ q ∧ q < off + ti.size
                · rw [if_pos (by omega)]
                  obtain ⟨y, hy1, hy2⟩ := hcs.get? (q - off) (by omega)
                  refine ⟨y, by rw [show j * sz + q - (j * sz + off) = q - off by omega]; simpa using hy1, ?_⟩
                  rw [putCells_in v.cells (f j) off (by omega) q (by omega) hq]
                  exact hy2.mono hT'
                · rw [if_neg (by omega)]
                  obtain ⟨y, hy1, hy2⟩ := (h4 j hj).2 q hq'
                  refine ⟨y, hy1, ?_⟩
                  rw [putCells_out v.cells (f j) off (by omega) q (by omega) hq]
                  exact hy2.mono hT'
              · have hfj := (h4 j hj).1
                rw [updF_other _ _ _ _ hji]
                refine ⟨hfj, fun q hq => ?_⟩
                rw [splice_get c _ _ (by omega), hxl]
                have hout : ¬ (i * sz + off ≤ j * sz + q ∧ j * sz + q < i * sz + off + ti.size) := by
                  intro ⟨ha, hb⟩
                  rcases Nat.lt_or_gt_of_ne hji with hlt | hgt
                  · have : (j + 1) * sz ≤ i * sz := Nat.mul_le_mul_right _ hlt
                    rw [Nat.add_mul, Nat.one_mul] at this
                    omega
                  · have : (i + 1) * sz ≤ j * sz := Nat.mul_le_mul_right _ hgt
                    omega
                rw [if_neg hout]
                obtain ⟨y, hy1, hy2⟩ := (h4 j hj).2 q hq
                exact ⟨y, hy1, hy2.mono hT'⟩
    | ptrOld r ver n i off b' o' hold =>
      exfalso
      simp only at h
      cases hn : nth K r with
      | none => rw [hn] at h; exact h.elim
      | some b =>
        rw [hn] at h
        have hb := hS.blk r
        rw [hp_nth hn] at hb
        cases b with
        | absent => exact h.elim
        | dead => exact h.elim
        | lp => exact h.elim
        | box bt cs =>
          simp only at h
          rw [hb.1] at hold
          split at h
          · simp [Inf.old] at hold
          · exact h.elim
        | arr et sz' ver' n' f =>
          obtain ⟨⟨rfl, rfl⟩, _⟩ := h
          rcases hb with ⟨hl, _⟩ | ⟨cap', c, hl, _⟩
          · rw [hl] at hold; simp [Inf.old] at hold
          rw [hl] at hold
          simp [Inf.old] at hold
    | p => exact h.elim
    | rop => exact h.elim
    | slr => exact h.elim
    | slrNil => exact h.elim
    | slrOld => exact h.elim
    | fn => exact h.elim
    | iface => exact h.elim
    | agg => exact h.elim
    | tup => exact h.elim
    | yld => exact h.elim
    | yldOld => exact h.elim
    | junk => exact h.elim

/-- a new variable -/
theorem alloc_box (hS : St w m (hp K)) (ty : TypeId) (c : Array Value) (cs : List AV) (hv : VL w m cs c) :
    ∃ m', Tr w m (w.alloc (.cells c ty)) m' ∧ St (w.alloc (.cells c ty)) m' (hp (snoc K (.box ty cs))) ∧ V (w.alloc (.cells c ty)) m' (.ptr (len K) 0 1 0 0) (.pointer (some ⟨w.heap.size, 0, none⟩)) := by
  have habs : m.L (len K) = .absent := hS.absent (hp_len K)
  have hT := Tr.alloc w m (.cells c ty) (len K) (.live 0 1 cs.length 1) habs hS.Ilt
  refine ⟨_, hT, ?_, ?_⟩
  · rw [hp_snoc]
    refine hS.alloc _ _ _ (hp_len K) _ ⟨rfl, c, heap_alloc_new w _, hv.1.symm, fun j hj => ?_⟩
    obtain ⟨u, h1, h2⟩ := hv.get? j hj
    exact ⟨u, h1, h2.mono hT⟩
  · have := V.ptr (w := w.alloc (.cells c ty)) (m := m.set (len K) w.heap.size (.live 0 1 cs.length 1)) (len K) 0 1 0 0 cs.length 1 (by simp [Mp.set]) (by omega)
    simpa [Mp.set] using this

theorem pvs_VL {zs : List PV} {A : Array Value} (h : zOk zs A) (w : World) (m : Mp) : VL w m (pvs zs) A :=
  ⟨by rw [pvs_len]; exact h.1, fun j hj hj' => by
    rw [pvs_get]
    exact .p _ _ (h.2 w m.I j (by rw [pvs_len] at hj; exact hj) hj')⟩

theorem opAlloc_ok (hT : TabOk P T) (hS : St w m (hp K)) {ty : Nat} (h : opAlloc T K k ty) : RunOk P w m (Instr.alloc ty true (.tuple #[])) k := by
  unfold opAlloc at h
  cases hg : T.t.get ty with
  | none => rw [hg] at h; exact h.elim
  | some ti =>
    rw [hg] at h
    simp only [fVL_eq, fL_eq] at h
    obtain ⟨i, d, z, hi, hu, hsz, _, _, hz, hzo, _⟩ := hT.t ty ti hg
    obtain ⟨m', h1, h2, h3⟩ := alloc_box hS ty z.cells _ (pvs_VL hzo w m)
    exact ⟨_, _, m', _, _, by simp [Instr.alloc, zeroValue, typeInfo, hi, hz, newVar, newRow], h1, h2, h3, h⟩

theorem opBox_ok (hS : St w m (hp K)) {ty : Nat} {v : AV} {x : Value} (hx : V w m v x) (h : opBox K k ty v) : RunOk P w m (Instr.box ty x) k := by
  have hne : v ≠ .junk ∧ ∀ l, v ≠ .tup l := by
    constructor
    · rintro rfl; exact h
    · rintro l rfl; exact h
  have h' : fVL v.cells fun cs => fL (snoc K (.box ty cs)) fun K' => k (.ptr (len K) 0 1 0 0) K' := by
    cases v <;> first | exact h | exact h.elim
  simp only [fVL_eq, fL_eq] at h'
  obtain ⟨m', h1, h2, h3⟩ := alloc_box hS ty x.cells _ (hx.cells hne.1 hne.2)
  exact ⟨_, _, m', _, _, by simp [Instr.box, newVar, newRow], h1, h2, h3, h'⟩
end

end Go.AE
