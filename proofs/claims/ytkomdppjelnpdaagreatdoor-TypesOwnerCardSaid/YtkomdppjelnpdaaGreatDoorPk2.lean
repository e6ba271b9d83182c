/-
  AE, part 3: the operations' abstract rules hold of the model's. Own metatheory over any program; no statement of the seat is proved here.
  AE, part 4: more of the operations' abstract rules hold of the model's. Own metatheory over any program; no statement of the seat is proved here.
  AE, part 5: the rest of the operations' abstract rules hold of the model's. Own metatheory over any program; no statement of the seat is proved here.
  AE, part 6: fields, indexes, append: the abstract rules hold of the model's. Own metatheory over any program; no statement of the seat is proved here.
  AE, part 3e: maps. Own metatheory over any program; no statement of the seat is proved here.
  AE, part 7: the abstract weakest precondition holds of the model's code and calls. Own metatheory over any program; no statement of the seat is proved here.
-/
import Derived.Laws.MakeOwn
import Derived.Deep.Upon
import Derived.Lib.ConvBytes
import Derived.Laws.AppendOwn
import Derived.Below
import Derived.Tactics
import Derived.Test.YtkomdppjelnpdaaGreatDoorPk1
namespace Go.AE

/-! ### small lists -/
theorem nth_eq {α : Type} (l : List α) (n : Nat) : nth l n = l[n]? := by
  induction l generalizing n with
  | nil => rfl
  | cons a l ih => cases n with
    | zero => rfl
    | succ n => simp [nth, ih]
theorem setN_eq {α : Type} (l : List α) (n : Nat) (v : α) : setN l n v = l.set n v := by
  induction l generalizing n with
  | nil => rfl
  | cons a l ih => cases n with
    | zero => rfl
    | succ n => simp [setN, ih]
theorem len_eq {α : Type} (l : List α) : len l = l.length := by
  induction l with
  | nil => rfl
  | cons a l ih => simp [len, ih]
theorem snoc_eq {α : Type} (l : List α) (b : α) : snoc l b = l ++ [b] := by
  induction l with
  | nil => rfl
  | cons a l ih => simp [snoc, ih]
theorem dropN_eq {α : Type} (l : List α) (n : Nat) : dropN l n = l.drop n := by
  induction n generalizing l with
  | zero => cases l <;> rfl
  | succ n ih => cases l with
    | nil => rfl
    | cons a l => simp [dropN, ih]
theorem takeN_eq {α : Type} (l : List α) (n : Nat) : takeN l n = l.take n := by
  induction n generalizing l with
  | zero => cases l <;> rfl
  | succ n ih => cases l with
    | nil => rfl
    | cons a l => simp [takeN, ih]
theorem catL_eq {α : Type} (l k : List α) : catL l k = l ++ k := by
  induction l with
  | nil => rfl
  | cons a l ih => simp [catL, ih]
theorem putCells_len {α : Type} (vs cs : List α) (off : Nat) : (putCells cs off vs).length = cs.length := by
  induction vs generalizing cs off with
  | nil => rfl
  | cons v vs ih => simp [putCells, ih, setN_eq]
theorem putCells_get {α : Type} (vs cs : List α) (off : Nat) (h : off + vs.length ≤ cs.length) (j : Nat) :
    (putCells cs off vs)[j]? = if off ≤ j ∧ j < off + vs.length then vs[j - off]? else cs[j]? := by
  induction vs generalizing cs off with
  | nil => simp only [putCells, List.length_nil, Nat.add_zero]; rw [if_neg (by omega)]
  | cons v vs ih =>
    simp only [List.length_cons] at h
    simp only [putCells, setN_eq, List.length_cons]
    rw [ih (cs.set off v) (off + 1) (by simp; omega)]
    by_cases h1 : off + 1 ≤ j ∧ j < off + 1 + vs.length
    · rw [if_pos h1, if_pos (by omega)]
      obtain ⟨d, rfl⟩ : ∃ d, j = off + 1 + d := ⟨j - (off + 1), by omega⟩
      rw [show off + 1 + d - (off + 1) = d by omega, show off + 1 + d - off = d + 1 by omega]
      simp
    · rw [if_neg h1, List.getElem?_set]
      by_cases h2 : off = j
      · subst h2; simp; omega
      · rw [if_neg h2]
        rw [if_neg (by omega)]
theorem putCells_in {α : Type} (vs cs : List α) (off : Nat) (h : off + vs.length ≤ cs.length) (j : Nat) (hj : off ≤ j ∧ j < off + vs.length) (hj' : j < (putCells cs off vs).length) :
    (putCells cs off vs)[j] = vs[j - off]'(by omega) := by
  have := putCells_get vs cs off h j
  rw [if_pos hj, List.getElem?_eq_getElem hj', List.getElem?_eq_getElem (by omega)] at this
  injection this
theorem putCells_out {α : Type} (vs cs : List α) (off : Nat) (h : off + vs.length ≤ cs.length) (j : Nat) (hj : ¬ (off ≤ j ∧ j < off + vs.length)) (hj' : j < (putCells cs off vs).length) :
    (putCells cs off vs)[j] = cs[j]'(by rw [putCells_len] at hj'; exact hj') := by
  have := putCells_get vs cs off h j
  have hj2 : j < cs.length := by rw [putCells_len] at hj'; exact hj'
  rw [if_neg hj, List.getElem?_eq_getElem hj', List.getElem?_eq_getElem hj2] at this
  injection this
theorem pvs_len (l : List PV) : (pvs l).length = l.length := by
  induction l with
  | nil => rfl
  | cons a l ih => simp [pvs, ih]
theorem pvs_get (l : List PV) (j : Nat) (hj : j < (pvs l).length) : (pvs l)[j] = .p (l[j]'(by rw [pvs_len] at hj; exact hj)) := by
  induction l generalizing j with
  | nil => simp [pvs] at hj
  | cons a l ih => cases j with
    | zero => rfl
    | succ j => simpa [pvs] using ih j (by simpa [pvs] using hj)
theorem ones_get {l : List AV} (h : ones l = true) (j : Nat) (hj : j < l.length) : l[j].one = true := by
  induction l generalizing j with
  | nil => simp at hj
  | cons a l ih =>
    simp only [ones, Bool.and_eq_true] at h
    cases j with
    | zero => exact h.1
    | succ j => exact ih h.2 j (by simpa using hj)
theorem ones_pvs (l : List PV) : ones (pvs l) = true := by
  induction l with
  | nil => rfl
  | cons a l ih => simp [pvs, ones, AV.one, ih]

theorem hp_set (K : List ABlk) (r : Nat) (b b0 : ABlk) (h : nth K r = some b0) : hp (setN K r b) = upd (hp K) r b := by
  rw [nth_eq] at h
  have hr := (List.getElem?_eq_some_iff.1 h).1
  funext k
  simp only [hp, upd, nth_eq, setN_eq, List.getElem?_set]
  by_cases e : k = r
  · subst e; simp [hr]
  · have e' : ¬ r = k := fun x => e x.symm
    simp only [e, e', if_false]
theorem hp_snoc (K : List ABlk) (b : ABlk) : hp (snoc K b) = upd (hp K) (len K) b := by
  funext k
  simp only [hp, upd, nth_eq, snoc_eq, len_eq, List.getElem?_append]
  by_cases e : k = K.length
  · subst e; simp
  · by_cases h : k < K.length
    · simp [e, h]
    · have : ¬ k < K.length := h
      simp only [this, if_false, e]
      rw [List.getElem?_eq_none (by simp; omega), List.getElem?_eq_none (by omega)]
theorem hp_len (K : List ABlk) : hp K (len K) = .absent := by
  simp [hp, nth_eq, len_eq]
theorem hp_nth {K : List ABlk} {r : Nat} {b : ABlk} (h : nth K r = some b) : hp K r = b := by simp [hp, h]

/-! ### values -/
def VL (w : World) (m : Mp) (l : List AV) (A : Array Value) : Prop := l.length = A.size ∧ ∀ j (hj : j < l.length) (hj' : j < A.size), V w m l[j] A[j]

theorem VL.nil (w : World) (m : Mp) : VL w m [] #[] := ⟨rfl, fun j hj => by simp at hj⟩

theorem VL.mono {w w' : World} {m m' : Mp} (t : Tr w m w' m') {l : List AV} {A : Array Value} (h : VL w m l A) : VL w' m' l A :=
  ⟨h.1, fun j hj hj' => (h.2 j hj hj').mono t⟩

theorem VL.append {w : World} {m : Mp} {l l' : List AV} {A A' : Array Value} (h : VL w m l A) (h' : VL w m l' A') : VL w m (l ++ l') (A ++ A') := by
  refine ⟨by simp [h.1, h'.1], fun j hj hj' => ?_⟩
  by_cases e : j < l.length
  · rw [List.getElem_append_left e, Array.getElem_append_left (by rw [← h.1]; exact e)]
    exact h.2 j e _
  · rw [List.getElem_append_right (by omega), Array.getElem_append_right (by rw [← h.1]; omega)]
    have := h'.2 (j - l.length) (by simp at hj; omega) (by rw [← h'.1]; simp at hj; omega)
    simpa [h.1] using this

/-- the cells of a value -/
theorem V.cells {w : World} {m : Mp} {a : AV} {u : Value} (h : V w m a u) (ha : a ≠ .junk) (ha' : ∀ l, a ≠ .tup l) : VL w m a.cells u.cells := by
  cases h with
  | agg cs A hA hv => exact ⟨hA, hv⟩
  | tup cs A hA hv => exact absurd rfl (ha' cs)
  | junk u => exact absurd rfl ha
  | yld r sz cap h => exact ⟨rfl, fun j hj hj' => by
      have : j = 0 := by simpa [AV.cells] using hj
      subst this; exact .yld r sz cap h⟩
  | yldOld r b h => exact ⟨rfl, fun j hj hj' => by
      have : j = 0 := by simpa [AV.cells] using hj
      subst this; exact .yldOld r b h⟩
  | mref r sz cap h => exact ⟨rfl, fun j hj hj' => by
      have : j = 0 := by simpa [AV.cells] using hj
      subst this; exact .mref r sz cap h⟩
  | mrefOld r b h => exact ⟨rfl, fun j hj hj' => by
      have : j = 0 := by simpa [AV.cells] using hj
      subst this; exact .mrefOld r b h⟩
  | p v u h =>
    have h1 := h.one
    have : u.cells = #[u] := by cases u <;> first | rfl | simp [Value.oneCell'] at h1
    rw [this]
    exact ⟨rfl, fun j hj hj' => by
      have : j = 0 := by simpa [AV.cells] using hj
      subst this; exact .p v u h⟩
  | ptr r ver n i off sz cap h hi => exact ⟨rfl, fun j hj hj' => by
      have : j = 0 := by simpa [AV.cells] using hj
      subst this; exact .ptr r ver n i off sz cap h hi⟩
  | ptrOld r ver n i off b o h => exact ⟨rfl, fun j hj hj' => by
      have : j = 0 := by simpa [AV.cells] using hj
      subst this; exact .ptrOld r ver n i off b o h⟩
  | slr r ver off n N sz cap h hn => exact ⟨rfl, fun j hj hj' => by
      have : j = 0 := by simpa [AV.cells] using hj
      subst this; exact .slr r ver off n N sz cap h hn⟩
  | slrNil r ver h => exact ⟨rfl, fun j hj hj' => by
      have : j = 0 := by simpa [AV.cells] using hj
      subst this; exact .slrNil r ver h⟩
  | slrOld r ver off n ad c h => exact ⟨rfl, fun j hj hj' => by
      have : j = 0 := by simpa [AV.cells] using hj
      subst this; exact .slrOld r ver off n ad c h⟩
  | rop cs off b o u hI hc hv => exact ⟨rfl, fun j hj hj' => by
      have : j = 0 := by simpa [AV.cells] using hj
      subst this; exact .rop cs off b o u hI hc hv⟩
  | fn f first cap A B hA hB h1 h2 => exact ⟨rfl, fun j hj hj' => by
      have : j = 0 := by simpa [AV.cells] using hj
      subst this; exact .fn f first cap A B hA hB h1 h2⟩
  | iface t v u h => exact ⟨rfl, fun j hj hj' => by
      have : j = 0 := by simpa [AV.cells] using hj
      subst this; exact .iface t v u h⟩

/-! ### types -/
def utOk (P : Program) : UT → TypeDesc → Prop
  | .int k, d => d = .int k
  | .bool, d => d = .bool
  | .string, d => d = .string
  | .slice e, d => d = .slice e
  | .ptr e, d => d = .pointer e
  | .struct fs, d => ∃ fields : Array Field, d = .struct fields ∧ fields.toList.map (fun f => (f.offset, f.type)) = fs ∧ ∀ f ∈ fields.toList, (P.info? f.type).isSome = true
  | .array n e, d => d = .array n e
  | .map k e, d => d = .map k e
  | .func, d => ∃ a b c, d = .func a b c
  | .iface, d => ∃ ms, d = .interface ms
  | .other, _ => True

def zOk (zs : List PV) (A : Array Value) : Prop := zs.length = A.size ∧ ∀ w I j (hj : j < zs.length) (hj' : j < A.size), VP w I zs[j] A[j]

def aggOf : TypeDesc → Bool
  | .struct _ | .array _ _ => true
  | _ => false

def zAgg : Value → Bool
  | .agg _ => true
  | _ => false

def TIok (P : Program) (t : Nat) (ti : TI) : Prop :=
  ∃ i d z, P.info? t = some i ∧ P.underlying t = some d ∧ i.size = ti.size ∧ i.bytes = ti.bytes ∧ utOk P ti.u d ∧ i.zero = some z ∧ zOk ti.zero z.cells ∧ ti.agg = aggOf d ∧ ti.agg = zAgg z

structure TabOk (P : Program) (T : Tab) : Prop where
  t : ∀ t ti, T.t.get t = some ti → TIok P t ti
  f : ∀ f fn, T.f.get f = some fn → P.funcs[f]? = some fn ∧ (fn.name == "runtime.NumGoroutine") = false

/-- what an operation comes to -/
def RunOk (P : Program) (w : World) (m : Mp) (s : Sem Value) (k : AV → List ABlk → Prop) : Prop :=
  ∃ u w' m' a K', s.run P w = .ok u w' ∧ Tr w m w' m' ∧ St w' m' (hp K') ∧ V w' m' a u ∧ k a K'

section
variable {P : Program} {T : Tab} {w : World} {m : Mp} {K : List ABlk} {k : AV → List ABlk → Prop}

theorem RunOk.same {s : Sem Value} {u : Value} {a : AV} (hS : St w m (hp K)) (hr : s.run P w = .ok u w) (hv : V w m a u) (hk : k a K) : RunOk P w m s k :=
  ⟨u, w, m, a, K, hr, Tr.refl w m, hS, hv, hk⟩

theorem isAgg_run {t : Nat} {d : TypeDesc} (h : P.underlying t = some d) (w : World) : (isAgg t).run P w = .ok (aggOf d) w := by
  unfold isAgg
  rw [Sem.run_bind, run_underlying h w]
  cases d <;> rfl

theorem addr_add (b o j : Nat) : (⟨b, o, none⟩ : Addr).add j = ⟨b, o + j, none⟩ := by unfold Addr.add; split <;> simp_all

/-- a value of a type read out of known cells -/
theorem part_load {t : Nat} {ti : TI} (hti : TIok P t ti) (b o0 : Nat) (cs : List AV) (hc : ∀ j (hj : j < cs.length), ∃ u, w.cell? ⟨b, o0 + j, none⟩ = some u ∧ V w m cs[j] u)
    (off : Nat) (q : AV → Prop) (h : part ti cs off q) : ∃ u a, (loadVar t ⟨b, o0 + off, none⟩).run P w = .ok u w ∧ V w m a u ∧ q a := by
  obtain ⟨i, d, z, hi, hu, hsz, _, _, _, _, hagg, _⟩ := hti
  unfold part at h
  unfold loadVar
  simp only [Sem.run_bind, isAgg_run hu, Result.andThen_ok]
  rw [← hagg]
  cases hA : ti.agg with
  | true =>
    rw [hA] at h
    simp only at h
    cases hb : Nat.ble (off + ti.size) (len cs) with
    | false => rw [hb] at h; exact h.elim
    | true =>
      rw [hb] at h
      simp only [fVL_eq, takeN_eq, dropN_eq] at h
      have hle : off + ti.size ≤ cs.length := by rw [len_eq] at hb; exact Nat.le_of_ble_eq_true hb
      have hcell : ∃ g : Nat → Value, ∀ j, j < ti.size → w.cell? ((⟨b, o0 + off, none⟩ : Addr).add j) = some (g j) ∧ ∀ hj : off + j < cs.length, V w m cs[off + j] (g j) := by
        refine ⟨fun j => (w.cell? ⟨b, o0 + (off + j), none⟩).getD undef, fun j hj => ?_⟩
        obtain ⟨u, h1, h2⟩ := hc (off + j) (by omega)
        rw [addr_add, show o0 + off + j = o0 + (off + j) by omega]
        exact ⟨by simp [h1], fun _ => by simpa [h1] using h2⟩
      obtain ⟨g, hg⟩ := hcell
      have hl := run_loadCells (P := P) w ⟨b, o0 + off, none⟩ ti.size g (fun j hj => (hg j hj).1)
      refine ⟨.agg ((List.range ti.size).map g).toArray, .agg ((cs.drop off).take ti.size), ?_, ?_, h⟩
      · simp [sizeOf, typeInfo, hi, hsz, hl]
      · refine .agg _ _ (by simp; omega) fun j hj hj' => ?_
        have hj2 : j < ti.size := by simp at hj'; exact hj'
        have := (hg j hj2).2 (by omega)
        simpa using this
  | false =>
    rw [hA] at h
    simp only at h
    rw [nth_eq] at h
    cases hn : cs[off]? with
    | none => rw [hn] at h; exact h.elim
    | some v =>
      rw [hn] at h
      simp only [fV_eq] at h
      obtain ⟨hlt, rfl⟩ := List.getElem?_eq_some_iff.1 hn
      obtain ⟨u, h1, h2⟩ := hc off hlt
      refine ⟨u, _, ?_, h2, h⟩
      simp [h1]

theorem opLoad_same (hT : TabOk P T) (hS : St w m (hp K)) {ty : Nat} {a : AV} {u : Value} (hv : V w m a u) (h : opLoad T K k ty a) :
    ∃ ad x b, u = .pointer (some ad) ∧ (loadVar ty ad).run P w = .ok x w ∧ V w m b x ∧ k b K := by
  unfold opLoad at h
  cases hg : T.t.get ty with
  | none => rw [hg] at h; exact h.elim
  | some ti =>
    rw [hg] at h
    have hti := hT.t ty ti hg
    cases hv with
    | rop cs off b o u hI hc hvp =>
      simp only at h
      obtain ⟨v, a', h1, h2, h3⟩ := part_load (P := P) (w := w) (m := m) hti b o (pvs cs) (fun j hj => by
        have hj' : j < cs.length := by rw [pvs_len] at hj; exact hj
        rw [pvs_get]
        exact ⟨u j, hc j hj', .p _ _ (hvp j hj')⟩) off _ h
      exact ⟨_, v, _, rfl, h1, h2, h3⟩
    | ptr r ver n i off sz cap hL hi =>
      simp only at h
      cases hn : nth K r with
      | none => rw [hn] at h; exact h.elim
      | some b =>
        rw [hn] at h
        have hb := hS.blk r
        rw [hp_nth hn] at hb
        cases b with
        | absent => exact h.elim
        | dead => exact h.elim
        | lp => exact h.elim
        | mp => exact h.elim
        | box bt cs =>
          simp only at h
          split at h
          · obtain ⟨hl, c, h1, h2, h3⟩ := hb
            obtain ⟨v, a', h4, h5, h6⟩ := part_load (P := P) (w := w) (m := m) hti (m.ρ r) 0 cs (fun j hj => by
              obtain ⟨x, hx, hx'⟩ := h3 j hj
              exact ⟨x, by rw [cell_of_row w _ _ c bt (0, 0) h1]; simpa using hx, hx'⟩) off _ h
            simp only [Nat.zero_mul, Nat.zero_add] at h4 ⊢
            exact ⟨_, v, _, rfl, h4, h5, h6⟩
          · exact h.elim
        | arr et sz' ver' n' f =>
          simp only at h
          obtain ⟨⟨rfl, rfl⟩, h⟩ := h
          rcases hb with ⟨hb, _⟩ | ⟨cap', c, hl, hcap, hmax, h1, h2, h3⟩
          · rw [hL] at hb; simp at hb
          rw [hL] at hl
          injection hl with _ _ e3 e4
          subst e3
          obtain ⟨v, a', h4, h5, h6⟩ := part_load (P := P) (w := w) (m := m) hti (m.ρ r) (i * sz) (f i) (fun j hj => by
            obtain ⟨x, hx, hx'⟩ := (h3 i hi).2 j hj
            exact ⟨x, by rw [cell_of_row w _ _ c et (0, 0) h1]; exact hx, hx'⟩) off _ h
          exact ⟨_, v, _, rfl, h4, h5, h6⟩
    | ptrOld r ver n i off b' o' hold =>
      exfalso
      simp only at h
      cases hn : nth K r with
      | none => rw [hn] at h; exact h.elim
      | some b =>
        rw [hn] at h
        have hb := hS.blk r
        rw [hp_nth hn] at hb
        cases b with
        | absent => exact h.elim
        | dead => exact h.elim
        | lp => exact h.elim
        | mp => exact h.elim
        | box bt cs =>
          simp only at h
          rw [hb.1] at hold
          split at h
          · simp [Inf.old] at hold
          · exact h.elim
        | arr et sz' ver' n' f =>
          obtain ⟨⟨rfl, rfl⟩, _⟩ := h
          rcases hb with ⟨hl, _⟩ | ⟨cap', c, hl, _⟩
          · rw [hl] at hold; simp [Inf.old] at hold
          rw [hl] at hold
          simp [Inf.old] at hold
    | p => exact h.elim
    | slr => exact h.elim
    | slrNil => exact h.elim
    | slrOld => exact h.elim
    | fn => exact h.elim
    | iface => exact h.elim
    | agg => exact h.elim
    | tup => exact h.elim
    | yld => exact h.elim
    | yldOld => exact h.elim
    | mref => exact h.elim
    | mrefOld => exact h.elim
    | junk => exact h.elim

theorem opLoad_ok (hT : TabOk P T) (hS : St w m (hp K)) {ty : Nat} {a : AV} {u : Value} (hv : V w m a u) (h : opLoad T K k ty a) : RunOk P w m (Instr.loadAt ty u) k := by
  obtain ⟨ad, x, b, rfl, h1, h2, h3⟩ := opLoad_same hT hS hv h
  exact RunOk.same hS (u := x) (by simp [Instr.loadAt, Instr.sureAddr, h1]) h2 h3

/-- a row of cells, some of them written -/
def splice (c : Array Value) (o : Nat) (vs : List Value) : Array Value := (c.toList.take o ++ vs ++ c.toList.drop (o + vs.length)).toArray

theorem splice_get (c : Array Value) (o : Nat) (vs : List Value) (h : o + vs.length ≤ c.size) (j : Nat) :
    (splice c o vs)[j]? = if o ≤ j ∧ j < o + vs.length then vs[j - o]? else c[j]? := by
  have hl : c.toList.length = c.size := by simp
  simp only [splice, List.getElem?_toArray, List.getElem?_append, List.length_append, List.length_take, hl, List.getElem?_take, List.getElem?_drop]
  have hm : min o c.size = o := by omega
  rw [hm]
  by_cases h1 : j < o
  · rw [if_pos (by omega), if_pos h1, if_pos h1, if_neg (by omega)]; simp
  · by_cases h2 : j < o + vs.length
    · rw [if_pos h2, if_neg h1, if_pos ⟨by omega, h2⟩]
    · rw [if_neg h2, if_neg (by omega)]
      rw [show o + vs.length + (j - (o + vs.length)) = j by omega]; simp

theorem splice_size (c : Array Value) (o : Nat) (vs : List Value) (h : o + vs.length ≤ c.size) : (splice c o vs).size = c.size := by
  simp [splice]; omega

theorem updF_same (f : Nat → List AV) (i : Nat) (c : List AV) : updF f i c i = c := by simp [updF]
theorem updF_other (f : Nat → List AV) (i j : Nat) (c : List AV) (h : j ≠ i) : updF f i c j = f j := by
  have : Nat.beq j i = false := by cases e : Nat.beq j i with
    | true => exact absurd (Nat.eq_of_beq_eq_true e) h
    | false => rfl
  simp only [updF, this]

theorem VL.get? {w : World} {m : Mp} {l : List AV} {A : Array Value} (h : VL w m l A) (j : Nat) (hj : j < l.length) : ∃ u, A[j]? = some u ∧ V w m l[j] u :=
  ⟨A[j]'(by rw [← h.1]; exact hj), by simp [← h.1, hj], h.2 j hj _⟩

theorem one_not {a : AV} (h : ones a.cells = true) : a ≠ .junk ∧ ∀ l, a ≠ .tup l := by
  constructor
  · rintro rfl; simp [AV.cells, ones, AV.one] at h
  · rintro l rfl; simp [AV.cells, ones, AV.one] at h

theorem VL.ones {l : List AV} {A : Array Value} (h : VL w m l A) (h1 : ones l = true) : ∀ u ∈ A.toList, u.oneCell' = true := by
  intro u hu
  obtain ⟨j, hj, rfl⟩ := List.getElem_of_mem hu
  simp only [Array.length_toList] at hj
  have := (h.2 j (by rw [h.1]; exact hj) hj).one (ones_get h1 j _)
  simpa using this

/-- a store into a live row -/
theorem store_run {ty : Nat} {ti : TI} (hti : TIok P ty ti) {r : Nat} {c : Array Value} {bt : TypeId}
    (hc : w.heap[m.ρ r]? = some (.cells c bt (0, 0))) {v : AV} {x : Value} (hx : V w m v x) (hlen : v.cells.length = ti.size) (h1 : ones v.cells = true) (o : Nat) (ho : o + ti.size ≤ c.size) :
    (Instr.storeAt ty (.pointer (some ⟨m.ρ r, o, none⟩)) x).run P w = .ok () (w.setRow (m.ρ r) (splice c o x.cells.toList)) := by
  obtain ⟨i, d, z, hi, hu, hsz, _, _, _, _, hagg, _⟩ := hti
  have hcs := hx.cells (one_not h1).1 (one_not h1).2
  have hsize : x.cells.size = ti.size := by rw [← hcs.1, hlen]
  have hst := run_storeCells_at P (m.ρ r) o bt x.cells.toList 0 c w hc (by simp [hsize]; exact ho) (hcs.ones h1)
  simp only [Nat.add_zero] at hst
  simp only [Instr.storeAt, Instr.sureAddr, storeVar, sizeOf, typeInfo, hi, hsz, hsize, hst, splice, Sem.run_bind, Sem.run_pure, run_program, Result.andThen_ok, ne_eq, not_true_eq_false, if_false]

def RunOkU (P : Program) (w : World) (m : Mp) (s : Sem Unit) (k : AV → List ABlk → Prop) : Prop :=
  ∃ w' m' K', s.run P w = .ok () w' ∧ Tr w m w' m' ∧ St w' m' (hp K') ∧ k .junk K'

theorem opStore_ok (hT : TabOk P T) (hS : St w m (hp K)) {ty : Nat} {a v : AV} {u x : Value} (ha : V w m a u) (hx : V w m v x) (h : opStore T K k ty a v) : RunOkU P w m (Instr.storeAt ty u x) k := by
  unfold opStore at h
  cases hg : T.t.get ty with
  | none => rw [hg] at h; exact h.elim
  | some ti =>
    rw [hg] at h
    have hti := hT.t ty ti hg
    simp only at h
    split at h
    case h_2 => exact h.elim
    rename_i hlen h1
    have hlen' : v.cells.length = ti.size := by rw [len_eq] at hlen; exact Nat.eq_of_beq_eq_true hlen
    have hcs := hx.cells (one_not h1).1 (one_not h1).2
    have hxl : x.cells.toList.length = ti.size := by simp [← hcs.1, hlen']
    cases ha with
    | ptr r ver n i off sz cap hL hi =>
      simp only at h
      cases hn : nth K r with
      | none => rw [hn] at h; exact h.elim
      | some b =>
        rw [hn] at h
        have hb := hS.blk r
        rw [hp_nth hn] at hb
        have hlive : (m.L r).isLive := by rw [hL]; trivial
        cases b with
        | absent => exact h.elim
        | dead => exact h.elim
        | lp => exact h.elim
        | mp => exact h.elim
        | box bt cs =>
          simp only at h
          split at h
          case h_2 => exact h.elim
          cases hbl : Nat.ble (off + ti.size) (len cs) with
          | false => rw [hbl] at h; exact h.elim
          | true =>
            rw [hbl] at h
            simp only [fB_eq, fL_eq] at h
            have hle : off + ti.size ≤ cs.length := by rw [len_eq] at hbl; exact Nat.le_of_ble_eq_true hbl
            obtain ⟨hl, c, h2, h3, h4⟩ := hb
            have hrun := store_run hti h2 hx hlen' h1 off (by omega)
            refine ⟨_, m, _, by simpa only [Nat.zero_mul, Nat.zero_add] using hrun, Tr.setRow hS r hlive _, ?_, h⟩
            rw [hp_set K r _ _ hn]
            refine hS.setRow r hlive _ _ ⟨by rw [putCells_len]; exact hl, _, setRow_heap w _ c _ bt _ h2, ?_, fun j hj => ?_⟩
            · rw [splice_size c off _ (by omega), putCells_len]; exact h3
            · have hj0 := hj
              rw [putCells_len] at hj
              rw [splice_get c off _ (by omega)]
              have hT' := Tr.setRow hS r hlive (splice c off x.cells.toList)
              by_cases hin : off ≤ j ∧ j < off + ti.size
              · rw [hxl, if_pos hin]
                obtain ⟨y, hy1, hy2⟩ := hcs.get? (j - off) (by omega)
                refine ⟨y, by simpa using hy1, ?_⟩
                rw [putCells_in v.cells cs off (by omega) j (by omega) hj0]
                exact hy2.mono hT'
              · rw [hxl, if_neg hin]
                obtain ⟨y, hy1, hy2⟩ := h4 j hj
                refine ⟨y, hy1, ?_⟩
                rw [putCells_out v.cells cs off (by omega) j (by omega) hj0]
                exact hy2.mono hT'
        | arr et sz' ver' n' f =>
          simp only at h
          obtain ⟨⟨rfl, rfl⟩, h⟩ := h
          rcases hb with ⟨hb, _⟩ | ⟨cap', c, hl, hcap, hmax, h2, h3, h4⟩
          · rw [hL] at hb; simp at hb
          rw [hL] at hl
          injection hl with _ _ e3 e4
          subst e3
          subst e4
          cases hbl : Nat.ble (off + ti.size) sz with
          | false => rw [hbl] at h; exact h.elim
          | true =>
            rw [hbl] at h
            simp only [fL_eq] at h
            have hle : off + ti.size ≤ sz := Nat.le_of_ble_eq_true hbl
            have hroom : (i + 1) * sz ≤ cap * sz := Nat.mul_le_mul_right _ (by omega)
            have hmul : (i + 1) * sz = i * sz + sz := by rw [Nat.add_mul, Nat.one_mul]
            have hfit : i * sz + off + ti.size ≤ c.size := by rw [h3]; omega
            have hrun := store_run hti h2 hx hlen' h1 (i * sz + off) hfit
            refine ⟨_, m, _, hrun, Tr.setRow hS r hlive _, ?_, h⟩
            rw [hp_set K r _ _ hn]
            refine hS.setRow r hlive _ _ (.inr ⟨cap, _, hL, hcap, hmax, setRow_heap w _ c _ et _ h2, ?_, fun j hj => ?_⟩)
            · rw [splice_size c _ _ (by omega)]; exact h3
            · have hT' := Tr.setRow hS r hlive (splice c (i * sz + off) x.cells.toList)
              have hfi := (h4 i hi).1
              by_cases hji : j = i
              · subst hji
                rw [updF_same]
                refine ⟨by rw [putCells_len]; exact hfi, fun q hq => ?_⟩
                have hq' : q < (f j).length := by rwa [putCells_len] at hq
                rw [splice_get c _ _ (by omega), hxl]
                by_cases hin : off ≤ q ∧ q < off + ti.size
                · rw [if_pos (by omega)]
                  obtain ⟨y, hy1, hy2⟩ := hcs.get? (q - off) (by omega)
                  refine ⟨y, by rw [show j * sz + q - (j * sz + off) = q - off by omega]; simpa using hy1, ?_⟩
                  rw [putCells_in v.cells (f j) off (by omega) q (by omega) hq]
                  exact hy2.mono hT'
                · rw [if_neg (by omega)]
                  obtain ⟨y, hy1, hy2⟩ := (h4 j hj).2 q hq'
                  refine ⟨y, hy1, ?_⟩
                  rw [putCells_out v.cells (f j) off (by omega) q (by omega) hq]
                  exact hy2.mono hT'
              · have hfj := (h4 j hj).1
                rw [updF_other _ _ _ _ hji]
                refine ⟨hfj, fun q hq => ?_⟩
                rw [splice_get c _ _ (by omega), hxl]
                have hout : ¬ (i * sz + off ≤ j * sz + q ∧ j * sz + q < i * sz + off + ti.size) := by
                  intro ⟨ha, hb⟩
                  rcases Nat.lt_or_gt_of_ne hji with hlt | hgt
                  · have : (j + 1) * sz ≤ i * sz := Nat.mul_le_mul_right _ hlt
                    rw [Nat.add_mul, Nat.one_mul] at this
                    omega
                  · have : (i + 1) * sz ≤ j * sz := Nat.mul_le_mul_right _ hgt
                    omega
                rw [if_neg hout]
                obtain ⟨y, hy1, hy2⟩ := (h4 j hj).2 q hq
                exact ⟨y, hy1, hy2.mono hT'⟩
    | ptrOld r ver n i off b' o' hold =>
      exfalso
      simp only at h
      cases hn : nth K r with
      | none => rw [hn] at h; exact h.elim
      | some b =>
        rw [hn] at h
        have hb := hS.blk r
        rw [hp_nth hn] at hb
        cases b with
        | absent => exact h.elim
        | dead => exact h.elim
        | lp => exact h.elim
        | mp => exact h.elim
        | box bt cs =>
          simp only at h
          rw [hb.1] at hold
          split at h
          · simp [Inf.old] at hold
          · exact h.elim
        | arr et sz' ver' n' f =>
          obtain ⟨⟨rfl, rfl⟩, _⟩ := h
          rcases hb with ⟨hl, _⟩ | ⟨cap', c, hl, _⟩
          · rw [hl] at hold; simp [Inf.old] at hold
          rw [hl] at hold
          simp [Inf.old] at hold
    | p => exact h.elim
    | rop => exact h.elim
    | slr => exact h.elim
    | slrNil => exact h.elim
    | slrOld => exact h.elim
    | fn => exact h.elim
    | iface => exact h.elim
    | agg => exact h.elim
    | tup => exact h.elim
    | yld => exact h.elim
    | yldOld => exact h.elim
    | mref => exact h.elim
    | mrefOld => exact h.elim
    | junk => exact h.elim

/-- a new variable -/
theorem alloc_box (hS : St w m (hp K)) (ty : TypeId) (c : Array Value) (cs : List AV) (hv : VL w m cs c) :
    ∃ m', Tr w m (w.alloc (.cells c ty)) m' ∧ St (w.alloc (.cells c ty)) m' (hp (snoc K (.box ty cs))) ∧ V (w.alloc (.cells c ty)) m' (.ptr (len K) 0 1 0 0) (.pointer (some ⟨w.heap.size, 0, none⟩)) := by
  have habs : m.L (len K) = .absent := hS.absent (hp_len K)
  have hT := Tr.alloc w m (.cells c ty) (len K) (.live 0 1 cs.length 1) habs hS.Ilt
  refine ⟨_, hT, ?_, ?_⟩
  · rw [hp_snoc]
    refine hS.alloc _ _ _ (hp_len K) _ ⟨rfl, c, heap_alloc_new w _, hv.1.symm, fun j hj => ?_⟩
    obtain ⟨u, h1, h2⟩ := hv.get? j hj
    exact ⟨u, h1, h2.mono hT⟩
  · have := V.ptr (w := w.alloc (.cells c ty)) (m := m.set (len K) w.heap.size (.live 0 1 cs.length 1)) (len K) 0 1 0 0 cs.length 1 (by simp [Mp.set]) (by omega)
    simpa [Mp.set] using this

theorem pvs_VL {zs : List PV} {A : Array Value} (h : zOk zs A) (w : World) (m : Mp) : VL w m (pvs zs) A :=
  ⟨by rw [pvs_len]; exact h.1, fun j hj hj' => by
    rw [pvs_get]
    exact .p _ _ (h.2 w m.I j (by rw [pvs_len] at hj; exact hj) hj')⟩

theorem opAlloc_ok (hT : TabOk P T) (hS : St w m (hp K)) {ty : Nat} (h : opAlloc T K k ty) : RunOk P w m (Instr.alloc ty true (.tuple #[])) k := by
  unfold opAlloc at h
  cases hg : T.t.get ty with
  | none => rw [hg] at h; exact h.elim
  | some ti =>
    rw [hg] at h
    simp only [fVL_eq, fL_eq] at h
    obtain ⟨i, d, z, hi, hu, hsz, _, _, hz, hzo, _⟩ := hT.t ty ti hg
    obtain ⟨m', h1, h2, h3⟩ := alloc_box hS ty z.cells _ (pvs_VL hzo w m)
    exact ⟨_, _, m', _, _, by simp [Instr.alloc, zeroValue, typeInfo, hi, hz, newVar, newRow], h1, h2, h3, h⟩

theorem opBox_ok (hS : St w m (hp K)) {ty : Nat} {v : AV} {x : Value} (hx : V w m v x) (h : opBox K k ty v) : RunOk P w m (Instr.box ty x) k := by
  have hne : v ≠ .junk ∧ ∀ l, v ≠ .tup l := by
    constructor
    · rintro rfl; exact h
    · rintro l rfl; exact h
  have h' : fVL v.cells fun cs => fL (snoc K (.box ty cs)) fun K' => k (.ptr (len K) 0 1 0 0) K' := by
    cases v <;> first | exact h | exact h.elim
  simp only [fVL_eq, fL_eq] at h'
  obtain ⟨m', h1, h2, h3⟩ := alloc_box hS ty x.cells _ (hx.cells hne.1 hne.2)
  exact ⟨_, _, m', _, _, by simp [Instr.box, newVar, newRow], h1, h2, h3, h'⟩
end

end Go.AE

namespace Go.AE
section
variable {P : Program} {T : Tab} {w : World} {m : Mp} {K : List ABlk} {k : AV → List ABlk → Prop}

/-! ### parts laid into a row -/
theorem foldl_put (l : List Value) (off i : Nat) (C : Array Value) :
    ((l.zipIdx i).foldl (fun cs (x : Value × Nat) => cs.setIfInBounds (off + x.2) x.1) C).toList = putCells C.toList (off + i) l := by
  induction l generalizing i C with
  | nil => rfl
  | cons a l ih =>
    simp only [List.zipIdx_cons, List.foldl_cons, putCells, setN_eq]
    rw [ih]
    simp [Nat.add_assoc]

theorem VL.put {cs vs : List AV} {C A : Array Value} (h : VL w m cs C) (h' : VL w m vs A) (off : Nat) (hle : off + vs.length ≤ cs.length) :
    VL w m (putCells cs off vs) (putCells C.toList off A.toList).toArray := by
  have h1 := h.1
  have h2 := h'.1
  refine ⟨by simp [putCells_len, h1], fun j hj hj' => ?_⟩
  have hj2 : j < (putCells C.toList off A.toList).length := by simpa using hj'
  have e : (putCells C.toList off A.toList).toArray[j] = (putCells C.toList off A.toList)[j] := by simp
  rw [e]
  by_cases hin : off ≤ j ∧ j < off + vs.length
  · rw [putCells_in vs cs off hle j hin hj, putCells_in A.toList C.toList off (by simp; omega) j (by simp; omega) hj2]
    simpa using h'.2 (j - off) (by omega) (by omega)
  · rw [putCells_out vs cs off hle j hin hj, putCells_out A.toList C.toList off (by simp; omega) j (by simp; omega) hj2]
    rw [putCells_len] at hj
    simpa using h.2 j hj (by omega)

def PL (w : World) (m : Mp) : List (Nat × AV) → List (Nat × Value) → Prop
  | [], [] => True
  | (i, a) :: l, (j, u) :: l' => i = j ∧ V w m a u ∧ PL w m l l'
  | _, _ => False

theorem fill_step {v : AV} {x : Value} (hx : V w m v x) (hne : v ≠ .junk ∧ ∀ l, v ≠ .tup l) {cs : List AV} {C : Array Value} (h : VL w m cs C) (off sz : Nat) (hl : v.cells.length = sz) (hle : off + sz ≤ cs.length) :
    ∃ C', (x.cells.zipIdx.foldl (fun cs (x : Value × Nat) => cs.setIfInBounds (off + x.2) x.1) C) = C' ∧ VL w m (putCells cs off v.cells) C' ∧ x.cells.size = sz ∧ off + x.cells.size ≤ C.size := by
  have hc := hx.cells hne.1 hne.2
  have h1 := h.1
  have h2 := hc.1
  refine ⟨_, rfl, ?_, by omega, by omega⟩
  have e : (x.cells.zipIdx.foldl (fun cs (x : Value × Nat) => cs.setIfInBounds (off + x.2) x.1) C) = (putCells C.toList off x.cells.toList).toArray := by
    apply Array.ext'
    rw [← Array.foldl_toList, Array.toList_zipIdx, foldl_put]
    simp
  rw [e]
  exact h.put hc off (by omega)

theorem fillS_ok (hT : TabOk P T) {fields : Array Field} {fs : List (Nat × Nat)} (hf : fields.toList.map (fun f => (f.offset, f.type)) = fs) (pl : Array (Nat × Nat))
    (hpl : pl = fields.map fun f => (f.offset, ((P.info? f.type).map (·.size)).getD 0)) :
    ∀ (parts : List (Nat × AV)) (parts' : List (Nat × Value)), PL w m parts parts' → ∀ (cs : List AV) (C : Array Value), VL w m cs C → ∀ r, fillS T.t fs cs parts = some r →
      ∃ C', Instr.fill (pl[·]?) C parts' = some C' ∧ VL w m r C'
  | [], [], _, cs, C, hC, r, h => by
    simp only [fillS] at h
    injection h with h
    subst h
    exact ⟨C, rfl, hC⟩
  | (i, v) :: parts, (i', x) :: parts', hP, cs, C, hC, r, h => by
    obtain ⟨rfl, hx, hP⟩ := hP
    simp only [fillS] at h
    cases hi : nth fs i with
    | none => rw [hi] at h; simp at h
    | some o =>
      obtain ⟨off, ft⟩ := o
      rw [hi] at h
      simp only at h
      cases hg : T.t.get ft with
      | none => rw [hg] at h; simp at h
      | some fi =>
        rw [hg] at h
        simp only at h
        split at h <;> first | (simp at h; done) | skip
        rename_i vv hle hne1 hne2 hl
        obtain ⟨info, d, z, hinfo, hu, hsz, _⟩ := hT.t ft fi hg
        have hle' := Nat.le_of_ble_eq_true hle
        rw [len_eq] at hle'
        have hl' := Nat.eq_of_beq_eq_true hl
        rw [len_eq] at hl'
        obtain ⟨C', hC', hV', hs1, hs2⟩ := fill_step hx ⟨hne1, fun l => hne2 l⟩ hC off fi.size hl' hle'
        have hpi : pl[i]? = some (off, fi.size) := by
          rw [nth_eq, ← hf] at hi
          simp only [List.getElem?_map, Array.getElem?_toList] at hi
          rw [hpl, Array.getElem?_map]
          cases hfi : fields[i]? with
          | none => rw [hfi] at hi; simp at hi
          | some f =>
            rw [hfi] at hi
            simp only [Option.map_some, Option.some.injEq, Prod.mk.injEq] at hi
            simp [hi.1, hi.2, hinfo, hsz]
        obtain ⟨C2, h2, h3⟩ := fillS_ok hT hf pl hpl parts parts' hP _ C' hV' r h
        refine ⟨C2, ?_, h3⟩
        simp only [Instr.fill, hpi, hs1]
        rw [if_neg (by simp; omega), hC']
        exact h2

theorem fillA_ok (sz : Nat) : ∀ (parts : List (Nat × AV)) (parts' : List (Nat × Value)), PL w m parts parts' → ∀ (cs : List AV) (C : Array Value), VL w m cs C → ∀ r, fillA sz cs parts = some r →
      ∃ C', Instr.fill (fun i => some (i * sz, sz)) C parts' = some C' ∧ VL w m r C'
  | [], [], _, cs, C, hC, r, h => by
    simp only [fillA] at h
    injection h with h
    subst h
    exact ⟨C, rfl, hC⟩
  | (i, v) :: parts, (i', x) :: parts', hP, cs, C, hC, r, h => by
    obtain ⟨rfl, hx, hP⟩ := hP
    simp only [fillA] at h
    split at h <;> first | (simp at h; done) | skip
    rename_i vv hle hne1 hne2 hl
    have hle' := Nat.le_of_ble_eq_true hle
    rw [len_eq] at hle'
    have hl' := Nat.eq_of_beq_eq_true hl
    rw [len_eq] at hl'
    obtain ⟨C', hC', hV', hs1, hs2⟩ := fill_step hx ⟨hne1, fun l => hne2 l⟩ hC (i * sz) sz hl' hle'
    obtain ⟨C2, h2, h3⟩ := fillA_ok sz parts parts' hP _ C' hV' r h
    refine ⟨C2, ?_, h3⟩
    simp only [Instr.fill, hs1]
    rw [if_neg (by simp; omega), hC']
    exact h2

theorem mapM_run {α β : Type} (f : α → Sem β) (g : α → β) (l : List α) (h : ∀ x ∈ l, ∀ w : World, (f x).run P w = .ok (g x) w) (w : World) : (l.mapM f).run P w = .ok (l.map g) w := by
  induction l with
  | nil => simp
  | cons a l ih =>
    simp only [List.mapM_cons, Sem.run_bind, h a (by simp), Result.andThen_ok, ih (fun x hx => h x (by simp [hx])), Sem.run_pure, List.map_cons]

theorem opBuild_ok (hT : TabOk P T) (hS : St w m (hp K)) {ty : Nat} {parts : List (Nat × AV)} {parts' : Array (Nat × Value)} (hP : PL w m parts parts'.toList) (h : opBuild T K k ty parts) :
    RunOk P w m (Instr.build ty parts') k := by
  unfold opBuild at h
  cases hg : T.t.get ty with
  | none => rw [hg] at h; exact h.elim
  | some ti =>
    rw [hg] at h
    obtain ⟨i, d, z, hi, hu, hsz, _, hut, hz, hzo, _⟩ := hT.t ty ti hg
    simp only at h
    cases hU : ti.u with
    | struct fs =>
      rw [hU] at h hut
      simp only at h
      cases hf : fillS T.t fs (pvs ti.zero) parts with
      | none => rw [hf] at h; exact h.elim
      | some cs =>
        rw [hf] at h
        simp only [fVL_eq] at h
        obtain ⟨fields, rfl, hfs, hinf⟩ := hut
        obtain ⟨C, hC, hV⟩ := fillS_ok (w := w) (m := m) hT hfs _ rfl parts parts'.toList hP _ _ (pvs_VL hzo w m) cs hf
        refine RunOk.same hS (u := .agg C) ?_ (.agg _ _ hV.1 hV.2) h
        have hm : (fields.mapM fun (f : Field) => (do pure (f.offset, ← sizeOf f.type) : Sem (Nat × Nat))).run P w = .ok (fields.map fun (f : Field) => (f.offset, ((P.info? f.type).map (·.size)).getD 0)) w := by
          rw [Array.mapM_eq_mapM_toList, Sem.run_map, mapM_run (P := P) _ (fun (f : Field) => (f.offset, ((P.info? f.type).map (·.size)).getD 0))]
          · exact congrArg (Result.ok · w) (by apply Array.ext'; simp)
          · intro f hf w
            have := hinf f hf
            cases hq : P.info? f.type with
            | none => rw [hq] at this; simp at this
            | some q => simp [sizeOf, typeInfo, hq]
        have hm' := hm
        simp only [Instr.build, zeroValue, typeInfo, hi, hz, Sem.run_bind, run_program, Sem.run_pure, Result.andThen_ok, run_underlying hu, hm', hC]
    | _ => rw [hU] at h; exact h.elim

theorem reps_len (z : List AV) (n : Nat) : (reps z n).length = n * z.length := by
  induction n with
  | zero => simp [reps]
  | succ n ih => simp [reps, catL_eq, ih, Nat.add_mul, Nat.add_comm]
theorem reps_get (z : List AV) (n j : Nat) (hj : j < (reps z n).length) (hz : 0 < z.length) : (reps z n)[j] = z[j % z.length]'(Nat.mod_lt _ hz) := by
  induction n generalizing j with
  | zero => simp [reps] at hj
  | succ n ih =>
    have hj' : j < (z ++ reps z n).length := by simpa [reps, catL_eq] using hj
    have e : (reps z (n + 1))[j] = (z ++ reps z n)[j] := by simp [reps, catL_eq]
    rw [e]
    by_cases h : j < z.length
    · rw [List.getElem_append_left h]
      congr 1
      exact (Nat.mod_eq_of_lt h).symm
    · rw [List.getElem_append_right (by omega), ih (j - z.length) (by simp at hj'; omega)]
      congr 1
      exact (Nat.mod_eq_sub_mod (by omega)).symm

theorem made_VL {zs : List PV} {A : Array Value} (h : zOk zs A) (w : World) (m : Mp) (n : Nat) (hz : 0 < zs.length) : VL w m (reps (pvs zs) n) ((Array.range (n * zs.length)).map (A[· % A.size]!)) := by
  refine ⟨by simp [reps_len, pvs_len], fun j hj hj' => ?_⟩
  have hz' : 0 < (pvs zs).length := by rw [pvs_len]; exact hz
  have hzA := h.1
  rw [reps_get _ _ _ hj hz']
  have hm : j % (pvs zs).length < (pvs zs).length := Nat.mod_lt _ hz'
  have hV := (pvs_VL h w m).2 (j % (pvs zs).length) hm (by rw [← h.1]; rw [pvs_len] at hm; rw [pvs_len]; exact hm)
  have e : ((Array.range (n * zs.length)).map (A[· % A.size]!))[j] = A[j % (pvs zs).length]'(by rw [← h.1]; rw [pvs_len] at hm; rw [pvs_len]; exact hm) := by
    simp only [Array.getElem_map, Array.getElem_range]
    have e2 : j % A.size = j % (pvs zs).length := by rw [pvs_len, hzA]
    rw [getElem!_pos A (j % A.size) (by rw [e2, ← hzA]; rw [pvs_len] at hm; rw [pvs_len]; exact hm)]
    simp only [e2]
  rw [e]
  exact hV

/-- a new array -/
theorem alloc_arr (hS : St w m (hp K)) (ty : TypeId) (sz n cap : Nat) (c : Array Value) (f : Nat → List AV) (hcap : n ≤ cap) (hmax : cap ≤ maxLen) (hc : c.size = cap * sz)
    (hf : ∀ i, i < n → (f i).length = sz ∧ ∀ j (hj : j < (f i).length), ∃ u, c[i * sz + j]? = some u ∧ V w m (f i)[j] u) :
    ∃ m', Tr w m (w.alloc (.cells c ty)) m' ∧ St (w.alloc (.cells c ty)) m' (hp (snoc K (.arr ty sz 0 n f))) ∧ V (w.alloc (.cells c ty)) m' (.slr (len K) 0 0 n) (.slice (some ⟨w.heap.size, 0, none⟩) n cap) := by
  have habs : m.L (len K) = .absent := hS.absent (hp_len K)
  have hT := Tr.alloc w m (.cells c ty) (len K) (.live 0 n sz cap) habs hS.Ilt
  refine ⟨_, hT, ?_, ?_⟩
  · rw [hp_snoc]
    refine hS.alloc _ _ _ (hp_len K) _ (.inr ⟨cap, c, rfl, hcap, hmax, heap_alloc_new w _, hc, fun i hi => ⟨(hf i hi).1, fun j hj => ?_⟩⟩)
    obtain ⟨u, h1, h2⟩ := (hf i hi).2 j hj
    exact ⟨u, h1, h2.mono hT⟩
  · have := V.slr (w := w.alloc (.cells c ty)) (m := m.set (len K) w.heap.size (.live 0 n sz cap)) (len K) 0 0 n n sz cap (by simp [Mp.set]) (by omega)
    simpa [Mp.set] using this

theorem opBuildSliceO_ok (hT : TabOk P T) (hS : St w m (hp K)) {ty n : Nat} {parts : List (Nat × AV)} {parts' : Array (Nat × Value)} (hP : PL w m parts parts'.toList) (h : opBuildSliceO T K k ty n parts) :
    RunOk P w m (Instr.buildSlice ty n parts') k := by
  unfold opBuildSliceO at h
  cases hg : T.t.get ty with
  | none => rw [hg] at h; exact h.elim
  | some ti =>
    rw [hg] at h
    obtain ⟨i, d, z, hi, hu, hsz, _, hut, hz, hzo, _⟩ := hT.t ty ti hg
    simp only at h
    cases hU : ti.u with
    | slice e =>
      rw [hU] at h hut
      simp only at h
      cases hge : T.t.get e with
      | none => rw [hge] at h; exact h.elim
      | some ei =>
        rw [hge] at h
        simp only at h
        split at h
        case h_2 => exact h.elim
        rename_i cs hb1 hb2 hb3 hfill
        simp only [fVL_eq, fL_eq] at h
        obtain ⟨i', d', z', hi', hu', hsz', _, _, hz', hzo', _⟩ := hT.t e ei hge
        simp only [utOk] at hut
        subst hut
        have hle : n * ei.size ≤ 16777216 := Nat.le_of_ble_eq_true hb1
        have hne : ei.size ≠ 0 := by intro h0; rw [h0] at hb2; simp at hb2
        have hzl : ei.zero.length = ei.size := by have := Nat.eq_of_beq_eq_true hb3; rwa [len_eq] at this
        have hmv := made_VL hzo' w m n (by omega)
        rw [hzl] at hmv
        obtain ⟨C, hC, hV⟩ := fillA_ok (w := w) (m := m) ei.size parts parts'.toList hP _ _ hmv cs hfill
        have hfl : cs.length = n * ei.size := by
          have e1 : C.size = n * ei.size := by
            have : ∀ (parts' : List (Nat × Value)) (A C : Array Value), Instr.fill (fun i => some (i * ei.size, ei.size)) A parts' = some C → C.size = A.size := by
              intro parts'
              induction parts' with
              | nil => intro A C h; simp only [Instr.fill] at h; injection h with h; rw [h]
              | cons p ps ih =>
                intro A C h
                obtain ⟨pi, pv⟩ := p
                simp only [Instr.fill] at h
                split at h
                · simp at h
                · have e2 := ih _ _ h
                  rw [e2, ← Array.foldl_toList, Array.toList_zipIdx]
                  have e3 := congrArg List.length (foldl_put pv.cells.toList (pi * ei.size) 0 A)
                  rw [putCells_len] at e3
                  simpa using e3
            rw [this _ _ _ hC]
            simp
          rw [hV.1, e1]
        by_cases hn0 : n = 0
        · subst hn0
          obtain ⟨m', h1, h2, h3⟩ := alloc_arr hS e ei.size 0 0 C (fun i => takeN (dropN cs (i * ei.size)) ei.size) (by omega) (by simp [maxLen]) (by rw [← hV.1, hfl]) (fun i hi => by omega)
          refine ⟨_, _, m', _, _, ?_, h1, h2, h3, h⟩
          have e0 : (Array.range (0 * ei.size)).map (z'.cells[· % z'.cells.size]!) = #[] := by simp
          rw [e0] at hC
          rw [← hsz'] at hC
          simp only [Instr.buildSlice, run_underlying hu, sizeOf, typeInfo, hi', newRow, Sem.run_bind, run_program, Sem.run_pure, Result.andThen_ok, Nat.zero_mul, if_true, Sem.run_ite]
          simp
          have e3 : Array.map (fun _ : Nat => (default : Value)) (Array.range 0) = #[] := Array.eq_empty_of_size_eq_zero (by simp)
          rw [e3, hC]
          simp
        · obtain ⟨m', h1, h2, h3⟩ := alloc_arr hS e ei.size n n C (fun i => takeN (dropN cs (i * ei.size)) ei.size) (by omega) (by
              have : n ≤ n * ei.size := Nat.le_mul_of_pos_right _ (by omega)
              simp only [maxLen]; omega) (by rw [← hV.1, hfl]) (fun q hq => by
            have hroom : (q + 1) * ei.size ≤ n * ei.size := Nat.mul_le_mul_right _ (by omega)
            rw [Nat.add_mul, Nat.one_mul] at hroom
            simp only [takeN_eq, dropN_eq]
            refine ⟨by simp; omega, fun j hj => ?_⟩
            have hj' : j < ei.size := by simp at hj; omega
            obtain ⟨u, hu1, hu2⟩ := hV.get? (q * ei.size + j) (by omega)
            exact ⟨u, hu1, by simpa using hu2⟩)
          refine ⟨_, _, m', _, _, ?_, h1, h2, h3, h⟩
          have hnz : ¬ n * ei.size = 0 := Nat.mul_ne_zero hn0 hne
          have hnle : ¬ 16777216 < n * ei.size := by omega
          simp [Instr.buildSlice, run_underlying hu, sizeOf, typeInfo, hi', hsz', zeroValue, hz', newRow, hnle]
          rw [if_neg hnz]
          simp [hC]
    | _ => rw [hU] at h; exact h.elim

theorem fillA_one (cs : List AV) (i : Nat) {v : AV} (hv : v.one = true) (l : List (Nat × AV)) : fillA 1 cs ((i, v) :: l) = match Nat.ble (i * 1 + 1) (len cs) with
    | true => fillA 1 (putCells cs (i * 1) [v]) l
    | false => none := by
  cases v <;> first | (simp [AV.one] at hv; done) | (simp only [fillA]; cases Nat.ble (i * 1 + 1) (len cs) <;> rfl)

theorem gath_fill (parts : List (Nat × AV)) : ∀ (pre : List AV) (q : List AV → Prop), gath parts pre.length q → ∃ l, q l ∧ ∀ rest : List AV, rest.length = l.length → fillA 1 (pre ++ rest) parts = some (pre ++ l) := by
  induction parts with
  | nil =>
    intro pre q h
    refine ⟨[], h, fun rest hr => ?_⟩
    cases rest with
    | nil => rfl
    | cons a r => simp at hr
  | cons x parts ih =>
    intro pre q h
    obtain ⟨i, v⟩ := x
    rw [gath_cons] at h
    cases hb : Nat.beq i pre.length with
    | false => rw [hb] at h; exact h.elim
    | true =>
      rw [hb] at h
      have := Nat.eq_of_beq_eq_true hb
      subst this
      cases hv : v.one with
      | false => rw [hv] at h; exact h.elim
      | true =>
        rw [hv] at h
        simp only [fV_eq] at h
        obtain ⟨l, h1, h2⟩ := ih (pre ++ [v]) (fun l => q (v :: l)) (by simpa using h)
        refine ⟨v :: l, h1, fun rest hr => ?_⟩
        cases rest with
        | nil => simp at hr
        | cons a rest =>
          have hbl : Nat.ble (pre.length + 1) (len (pre ++ a :: rest)) = true := by rw [len_eq]; simp
          have hs : setN (pre ++ a :: rest) pre.length v = pre ++ v :: rest := by rw [setN_eq]; simp
          have h3 := h2 rest (by simpa using hr)
          rw [fillA_one _ _ hv]
          simp only [Nat.mul_one, hbl, putCells, hs]
          simpa using h3

theorem opBuildSlice_old {ty n : Nat} {parts : List (Nat × AV)} (h : opBuildSlice T K k ty n parts) : opBuildSliceO T K k ty n parts := by
  unfold opBuildSlice at h
  cases hg : T.t.get ty with
  | none => rw [hg] at h; exact h.elim
  | some ti =>
    rw [hg] at h
    simp only at h
    cases hU : ti.u with
    | slice e =>
      rw [hU] at h
      simp only at h
      cases he : T.t.get e with
      | none => rw [he] at h; exact h.elim
      | some ei =>
        rw [he] at h
        simp only at h
        cases h1 : Nat.beq ei.size 1 with
        | false => rw [h1] at h; exact h
        | true =>
          rw [h1] at h
          have hs := Nat.eq_of_beq_eq_true h1
          simp only at h
          split at h
          case h_2 => exact h.elim
          rename_i hm hz
          obtain ⟨l, h2, h3⟩ := gath_fill parts [] _ h
          cases hl : Nat.beq (len l) n with
          | false => rw [hl] at h2; exact h2.elim
          | true =>
            rw [hl] at h2
            have hn := Nat.eq_of_beq_eq_true hl
            rw [len_eq] at hn
            have hzl : ei.zero.length = 1 := by have := Nat.eq_of_beq_eq_true hz; rwa [len_eq] at this
            have h4 := h3 (reps (pvs ei.zero) n) (by rw [reps_len, pvs_len, hzl, hn, Nat.mul_one])
            simp only [List.nil_append] at h4
            have h6 : Nat.beq 1 0 = false := rfl
            unfold opBuildSliceO
            simp only [hg, hU, he, hs, Nat.mul_one, hm, hz, h4, h6, fVL_eq]
            simp only [hs, Nat.mul_one] at h2
            exact h2
    | _ => rw [hU] at h; exact h.elim

theorem opBuildSlice_ok (hT : TabOk P T) (hS : St w m (hp K)) {ty n : Nat} {parts : List (Nat × AV)} {parts' : Array (Nat × Value)} (hP : PL w m parts parts'.toList) (h : opBuildSlice T K k ty n parts) :
    RunOk P w m (Instr.buildSlice ty n parts') k := opBuildSliceO_ok hT hS hP (opBuildSlice_old h)

theorem opMakeSlice_ok (hT : TabOk P T) (hS : St w m (hp K)) {ty : Nat} {l c : AV} {ul uc : Value} (hl : V w m l ul) (hc : V w m c uc) (h : opMakeSlice T K k ty l c) : RunOk P w m (Instr.makeSlice ty ul uc) k := by
  unfold opMakeSlice at h
  cases hg : T.t.get ty with
  | none => rw [hg] at h; exact h.elim
  | some ti =>
    rw [hg] at h
    obtain ⟨i, d, z, hi, hu, hsz, _, hut, hz, hzo, _⟩ := hT.t ty ti hg
    simp only at h
    cases hU : ti.u with
    | slice e =>
      rw [hU] at h hut
      simp only at h
      cases hge : T.t.get e with
      | none => rw [hge] at h; exact h.elim
      | some ei =>
        rw [hge] at h
        simp only at h
        cases hl with
        | p v u hv =>
          cases hv with
          | int q n =>
            simp only at h
            cases hc with
            | p v u hv =>
              cases hv with
              | int q' c =>
                simp only at h
                split at h
                case h_2 => exact h.elim
                rename_i hb2 hb3
                obtain ⟨⟨h0, hnc, h63, hby⟩, h⟩ := h
                simp only [fVL_eq, fL_eq] at h
                obtain ⟨i', d', z', hi', hu', hsz', hby', _, hz', hzo', _⟩ := hT.t e ei hge
                simp only [utOk] at hut
                subst hut
                have hne : ei.size ≠ 0 := by intro h0; rw [h0] at hb2; simp at hb2
                have hzl : ei.zero.length = ei.size := by have := Nat.eq_of_beq_eq_true hb3; rwa [len_eq] at this
                have hr := run_make (P := P) w ty e i' z' hu hi' hz' q q' n c h0 hnc (by rw [hby']; omega) h63
                obtain ⟨nn, rfl⟩ := Int.eq_ofNat_of_zero_le h0
                obtain ⟨cc, rfl⟩ := Int.eq_ofNat_of_zero_le (Int.le_trans h0 hnc)
                simp only [Int.toNat_natCast] at hr h
                have hmv := made_VL hzo' w m cc (by omega)
                rw [hzl] at hmv
                have hms : (Array.range (cc * ei.size)).map (z'.cells[· % z'.cells.size]!) = madeCells z'.cells (cc * ei.size) := rfl
                rw [hms] at hmv
                obtain ⟨m', h1, h2, h3⟩ := alloc_arr hS e ei.size nn cc (madeCells z'.cells (cc * ei.size)) (fun _ => pvs ei.zero) (by omega) (by simp only [maxLen]; omega) (by rw [size_madeCells]) (fun p hp => by
                  have hroom : (p + 1) * ei.size ≤ cc * ei.size := Nat.mul_le_mul_right _ (by omega)
                  rw [Nat.add_mul, Nat.one_mul] at hroom
                  refine ⟨by rw [pvs_len, hzl], fun j hj => ?_⟩
                  rw [pvs_len, hzl] at hj
                  have hlen : (reps (pvs ei.zero) cc).length = cc * ei.size := by rw [reps_len, pvs_len, hzl]
                  obtain ⟨u, hu1, hu2⟩ := hmv.get? (p * ei.size + j) (by omega)
                  refine ⟨u, hu1, ?_⟩
                  rw [reps_get _ _ _ _ (by rw [pvs_len]; omega)] at hu2
                  have e2 : (p * ei.size + j) % (pvs ei.zero).length = j := by
                    rw [pvs_len, hzl, Nat.mul_comm, Nat.mul_add_mod]
                    exact Nat.mod_eq_of_lt hj
                  simpa [e2] using hu2)
                refine ⟨_, _, m', _, _, by rw [hr, hsz'], h1, h2, h3, h⟩
              | _ => exact h.elim
            | _ => exact h.elim
          | _ => exact h.elim
        | _ => exact h.elim
    | _ => rw [hU] at h; exact h.elim
end
end Go.AE

namespace Go.AE
section
variable {P : Program} {T : Tab} {w : World} {m : Mp} {K : List ABlk} {k : AV → List ABlk → Prop}

theorem kInt (w : World) (m : Mp) (q : IntKind) (n : Int) : V w m (.p (.int q n)) (.int q n) := .p _ _ (.int q n)
theorem kBool (w : World) (m : Mp) (b : Bool) : V w m (.p (.bool b)) (.bool b) := .p _ _ (.bool b)
theorem kStr (w : World) (m : Mp) (s : ByteArray) : V w m (.p (.str s.data.toList)) (.string s) := .p _ _ (.str s _ rfl)

theorem opInt_ok (hS : St w m (hp K)) {op : BinOp} {q : IntKind} {a b : Int} {t : TypeId} (h : opInt K k op q a b) : RunOk P w m (binOp op t (.int q a) (.int q b)) k := by
  cases op with
  | add => exact RunOk.same hS (by simp [binOp, Op.intArith]) (kInt ..) h
  | sub => exact RunOk.same hS (by simp [binOp, Op.intArith]) (kInt ..) h
  | mul => exact RunOk.same hS (by simp [binOp, Op.intArith]) (kInt ..) h
  | quo =>
    obtain ⟨h0, h⟩ := h
    exact RunOk.same hS (by simp [binOp, Op.intDiv, h0]) (kInt ..) h
  | rem =>
    obtain ⟨h0, h⟩ := h
    exact RunOk.same hS (by simp [binOp, Op.intDiv, h0]) (kInt ..) h
  | eql => exact RunOk.same hS (by simp [binOp, Op.intCmp]) (kBool ..) h
  | neq => exact RunOk.same hS (by simp [binOp, Op.intCmp]) (kBool ..) h
  | lss => exact RunOk.same hS (by simp [binOp, Op.intCmp]) (kBool ..) h
  | leq => exact RunOk.same hS (by simp [binOp, Op.intCmp]) (kBool ..) h
  | gtr => exact RunOk.same hS (by simp [binOp, Op.intCmp]) (kBool ..) h
  | geq => exact RunOk.same hS (by simp [binOp, Op.intCmp]) (kBool ..) h
  | _ => exact h.elim

theorem toList_data (s : ByteArray) : s.toList = s.data.toList := by
  have : ∀ (i : Nat) (r : List UInt8), ByteArray.toList.loop s i r = r.reverse ++ s.data.toList.drop i := by
    intro i r
    induction hn : s.size - i generalizing i r with
    | zero =>
      unfold ByteArray.toList.loop
      rw [if_neg (by omega)]
      have : s.data.toList.drop i = [] := List.drop_eq_nil_of_le (by simp; have := s.size_data; omega)
      simp [this]
    | succ n ih =>
      unfold ByteArray.toList.loop
      have hi : i < s.size := by omega
      rw [if_pos hi, ih (i + 1) _ (by omega)]
      have hd : s.data.toList.drop i = s.get! i :: s.data.toList.drop (i + 1) := by
        rw [List.drop_eq_getElem_cons (by simp; exact hi)]
        congr 1
        simp only [ByteArray.get!, Array.getElem_toList]
        exact (getElem!_pos s.data i hi).symm
      rw [hd]
      simp
  have := this 0 []
  simpa [ByteArray.toList] using this

theorem opStr_ok (hS : St w m (hp K)) {op : BinOp} {a b : ByteArray} {t : TypeId} (h : opStr K k op a.data.toList b.data.toList) : RunOk P w m (binOp op t (.string a) (.string b)) k := by
  cases op with
  | add =>
    obtain ⟨h0, h⟩ := h
    simp only [Array.length_toList] at h0
    have h1 : ¬ ((a.size + b.size : Nat) : Int) > IntKind.i64.max := by
      have e : IntKind.i64.max = 9223372036854775807 := by decide
      have e1 : a.data.size = a.size := rfl
      have e2 : b.data.size = b.size := rfl
      rw [e]; omega
    refine RunOk.same hS (u := .string (a ++ b)) (by simp only [binOp, Op.stringOp, if_neg h1, Sem.run_pure]) ?_ h
    exact .p _ _ (.str _ _ (by simp))
  | eql => exact RunOk.same hS rfl (kBool ..) (by rw [toList_data, toList_data]; exact h)
  | neq => exact RunOk.same hS rfl (kBool ..) (by rw [toList_data, toList_data]; exact h)
  | lss => exact RunOk.same hS rfl (kBool ..) (by rw [toList_data, toList_data]; exact h)
  | leq => exact RunOk.same hS rfl (kBool ..) (by rw [toList_data, toList_data]; exact h)
  | gtr => exact RunOk.same hS rfl (kBool ..) (by rw [toList_data, toList_data]; exact h)
  | geq => exact RunOk.same hS rfl (kBool ..) (by rw [toList_data, toList_data]; exact h)
  | _ => exact h.elim

theorem equalIn_bool {t : TypeId} (hu : P.underlying t = some .bool) (d : Nat) (a b : Bool) (w : World) : (Op.equalIn (d + 1) t (.bool a) (.bool b)).run P w = .ok (a == b) w := by
  simp [Op.equalIn, run_underlying hu]

theorem opBin_ok (hT : TabOk P T) (hS : St w m (hp K)) {op : BinOp} {t : TypeId} {x y : AV} {u v : Value} (hx : V w m x u) (hy : V w m y v) (ox oy : Operand) (h : opBin T K k op t x y) :
    RunOk P w m (do eqGuard op t ox oy u v; binOp op t u v) k := by
  cases hx with
  | p x u hx =>
    cases hx with
    | int q a =>
      cases hy with
      | p y v hy =>
        cases hy with
        | int q' b =>
          simp only [opBin] at h
          split at h
          · rename_i e
            have e := of_decide_eq_true e
            subst e
            obtain ⟨u, w', m', a', K', h1, h2⟩ := opInt_ok (P := P) (t := t) hS h
            refine ⟨u, w', m', a', K', ?_, h2⟩
            rw [Sem.run_bind]
            have : (eqGuard op t ox oy (.int q a) (.int q b)).run P w = .ok () w := by unfold eqGuard; cases op <;> rfl
            rw [this]
            exact h1
          · exact h.elim
        | _ => exact h.elim
      | _ => exact h.elim
    | str s l hl =>
      cases hy with
      | p y v hy =>
        cases hy with
        | str s' l' hl' =>
          subst hl hl'
          obtain ⟨u, w', m', a', K', h1, h2⟩ := opStr_ok (P := P) (t := t) hS h
          refine ⟨u, w', m', a', K', ?_, h2⟩
          rw [Sem.run_bind]
          have : (eqGuard op t ox oy (.string s) (.string s')).run P w = .ok () w := by unfold eqGuard; cases op <;> rfl
          rw [this]
          exact h1
        | _ => exact h.elim
      | _ => exact h.elim
    | bool a =>
      cases hy with
      | p y v hy =>
        cases hy with
        | bool b =>
          simp only [opBin] at h
          cases hg : T.t.get t with
          | none => rw [hg] at h; exact h.elim
          | some ti =>
            rw [hg] at h
            obtain ⟨i, d, z, hi, hu, hsz, _, hut, _⟩ := hT.t t ti hg
            simp only at h
            cases hU : ti.u with
            | bool =>
              rw [hU] at h hut
              simp only [utOk] at hut
              subst hut
              have hgd : ∀ op, (eqGuard op t ox oy (.bool a) (.bool b)).run P w = .ok () w := by intro op; unfold eqGuard; cases op <;> rfl
              have heq : (Op.equal t (.bool a) (.bool b)).run P w = .ok (a == b) w := by
                exact equalIn_bool hu 9999 a b w
              cases op with
              | eql => exact RunOk.same hS (by rw [Sem.run_bind, hgd]; simp [binOp, heq]) (kBool ..) h
              | neq => exact RunOk.same hS (by rw [Sem.run_bind, hgd]; simp [binOp, heq]) (kBool ..) h
              | _ => exact h.elim
            | _ => rw [hU] at h; exact h.elim
        | _ => exact h.elim
      | _ => exact h.elim
    | _ => exact h.elim
  | _ => exact h.elim

theorem equalIn_ii {t : TypeId} {ms} (hu : P.underlying t = some (.interface ms)) (d : Nat) (w : World) : (Op.equalIn (d + 1) t .nilIface .nilIface).run P w = .ok true w := by
  simp [Op.equalIn, run_underlying hu]
theorem equalIn_iv {t : TypeId} {ms} (hu : P.underlying t = some (.interface ms)) (d : Nat) (t' : TypeId) (u : Value) (w : World) : (Op.equalIn (d + 1) t (.iface t' u) .nilIface).run P w = .ok false w := by
  simp [Op.equalIn, run_underlying hu]
theorem equalIn_pp {t e : TypeId} (hu : P.underlying t = some (.pointer e)) (d : Nat) (w : World) : (Op.equalIn (d + 1) t (.pointer none) (.pointer none)).run P w = .ok true w := by
  simp [Op.equalIn, run_underlying hu]
theorem equalIn_pv {t e : TypeId} (hu : P.underlying t = some (.pointer e)) (d : Nat) (a : Addr) (w : World) : (Op.equalIn (d + 1) t (.pointer (some a)) (.pointer none)).run P w = .ok false w := by
  simp [Op.equalIn, run_underlying hu]
theorem equalIn_ff {t : TypeId} {a b c} (hu : P.underlying t = some (.func a b c)) (d : Nat) (w : World) : (Op.equalIn (d + 1) t .nilFunc .nilFunc).run P w = .ok true w := by
  simp [Op.equalIn, run_underlying hu]
theorem equalIn_fv {t : TypeId} {a b c} (hu : P.underlying t = some (.func a b c)) (d : Nat) (f : Fn) (x y : Array Value) (w : World) : (Op.equalIn (d + 1) t (.func f x y) .nilFunc).run P w = .ok false w := by
  simp [Op.equalIn, run_underlying hu]
theorem nilC_val {y : Operand} {c : PV} (h : nilC y = some c) : (y = .const .nilIface ∧ c = .nili) ∨ (y = .const (.pointer none) ∧ c = .nilp) ∨ (y = .const .nilFunc ∧ c = .nilf) := by
  unfold nilC at h
  split at h <;> simp_all
theorem opNilCmp_ok (hT : TabOk P T) (hS : St w m (hp K)) {op : BinOp} {t : TypeId} {x : AV} {u v : Value} (hx : V w m x u) (ox oy : Operand) {c : PV} (hc : nilC oy = some c) (hv : oy = .const v) (h : opNilCmp T K k op t x c) :
    RunOk P w m (do eqGuard op t ox oy u v; binOp op t u v) k := by
  unfold opNilCmp at h
  cases hg : T.t.get t with
  | none => rw [hg] at h; exact h.elim
  | some ti =>
    rw [hg] at h
    obtain ⟨i, d, z, hi, hu, hsz, _, hut, _⟩ := hT.t t ti hg
    simp only at h
    cases hn : nilOf ti.u c x with
    | none => rw [hn] at h; exact h.elim
    | some b =>
      rw [hn] at h
      simp only at h
      have key : ∀ op, (op = .eql ∨ op = .neq) → (eqGuard op t ox oy u v).run P w = .ok () w ∧ (Op.equal t u v).run P w = .ok b w ∧ (binOp .eql t u v = (do pure (.bool (← Op.equal t u v)))) ∧ (binOp .neq t u v = (do pure (.bool (!(← Op.equal t u v))))) := by
        intro op hop
        subst hv
        unfold nilOf at hn
        cases hU : ti.u with
        | iface =>
          rw [hU] at hn hut
          obtain ⟨ms, rfl⟩ := hut
          rcases nilC_val hc with ⟨hv, rfl⟩ | ⟨_, rfl⟩ | ⟨_, rfl⟩
          · injection hv with hv
            subst hv
            simp only at hn
            cases hx with
            | p x u hx =>
              cases hx with
              | nili =>
                simp only [Option.some.injEq] at hn
                subst hn
                refine ⟨?_, equalIn_ii hu 9999 w, rfl, rfl⟩
                unfold eqGuard
                rcases hop with rfl | rfl <;> simp
              | _ => simp at hn
            | iface t' a u' hx =>
              simp only [Option.some.injEq] at hn
              subst hn
              refine ⟨?_, equalIn_iv hu 9999 _ _ w, rfl, rfl⟩
              unfold eqGuard
              rcases hop with rfl | rfl <;> rfl
            | _ => simp at hn
          · simp at hn
          · simp at hn
        | ptr e =>
          rw [hU] at hn hut
          simp only [utOk] at hut
          subst hut
          rcases nilC_val hc with ⟨_, rfl⟩ | ⟨hv, rfl⟩ | ⟨_, rfl⟩
          · simp at hn
          · injection hv with hv
            subst hv
            simp only at hn
            cases hx with
            | p x u hx =>
              cases hx with
              | nilp =>
                simp only [Option.some.injEq] at hn
                subst hn
                refine ⟨?_, equalIn_pp hu 9999 w, rfl, rfl⟩
                unfold eqGuard
                rcases hop with rfl | rfl <;> rfl
              | _ => simp at hn
            | ptr =>
              simp only [Option.some.injEq] at hn
              subst hn
              refine ⟨?_, equalIn_pv hu 9999 _ w, rfl, rfl⟩
              unfold eqGuard
              rcases hop with rfl | rfl <;> rfl
            | ptrOld =>
              simp only [Option.some.injEq] at hn
              subst hn
              refine ⟨?_, equalIn_pv hu 9999 _ w, rfl, rfl⟩
              unfold eqGuard
              rcases hop with rfl | rfl <;> rfl
            | rop =>
              simp only [Option.some.injEq] at hn
              subst hn
              refine ⟨?_, equalIn_pv hu 9999 _ w, rfl, rfl⟩
              unfold eqGuard
              rcases hop with rfl | rfl <;> rfl
            | _ => simp at hn
          · simp at hn
        | func =>
          rw [hU] at hn hut
          obtain ⟨a1, a2, a3, rfl⟩ := hut
          rcases nilC_val hc with ⟨_, rfl⟩ | ⟨_, rfl⟩ | ⟨hv, rfl⟩
          · simp at hn
          · simp at hn
          · injection hv with hv
            subst hv
            simp only at hn
            cases hx with
            | p x u hx =>
              cases hx with
              | nilf =>
                simp only [Option.some.injEq] at hn
                subst hn
                refine ⟨?_, equalIn_ff hu 9999 w, rfl, rfl⟩
                unfold eqGuard
                rcases hop with rfl | rfl <;> rfl
              | fn =>
                simp only [Option.some.injEq] at hn
                subst hn
                refine ⟨?_, equalIn_fv hu 9999 _ _ _ w, rfl, rfl⟩
                unfold eqGuard
                rcases hop with rfl | rfl <;> rfl
              | _ => simp at hn
            | fn =>
              simp only [Option.some.injEq] at hn
              subst hn
              refine ⟨?_, equalIn_fv hu 9999 _ _ _ w, rfl, rfl⟩
              unfold eqGuard
              rcases hop with rfl | rfl <;> rfl
            | _ => simp at hn
        | _ => rw [hU] at hn; simp at hn
      cases op with
      | eql =>
        obtain ⟨k1, k2, k3, _⟩ := key .eql (.inl rfl)
        exact RunOk.same hS (by rw [Sem.run_bind, k1]; simp [k3, k2]) (kBool ..) h
      | neq =>
        obtain ⟨k1, k2, _, k4⟩ := key .neq (.inr rfl)
        exact RunOk.same hS (by rw [Sem.run_bind, k1]; simp [k4, k2]) (kBool ..) h
      | _ => exact h.elim

theorem opUn_ok (hS : St w m (hp K)) {op : UnOp} {x : AV} {u : Value} (hx : V w m x u) (h : opUn K k op x) : RunOk P w m (Op.unary op u) k := by
  cases op with
  | not =>
    cases hx with
    | p x u hx =>
      cases hx with
      | bool b => exact RunOk.same hS rfl (kBool ..) h
      | _ => exact h.elim
    | _ => exact h.elim
  | neg =>
    cases hx with
    | p x u hx =>
      cases hx with
      | int q n => exact RunOk.same hS rfl (kInt ..) h
      | _ => exact h.elim
    | _ => exact h.elim
  | _ => exact h.elim

/-- a new block that nobody writes to -/
def Mp.addI (m : Mp) (g : Nat) : Mp := { m with I := fun b => m.I b ∨ b = g }
theorem Tr.addI {w w' : World} {m : Mp} {g : Nat} (hI : ∀ b, m.I b → b < w.heap.size) (h : RowKit.Below w.heap.size w w') (hg : w.heap.size ≤ g) : Tr w m w' (m.addI g) where
  os := h.os
  tape := h.tape
  output := h.output
  size := h.size
  out := fun b hb _ => h.block b hb
  imm := fun _ hb => .inl hb
  same := fun b hb => h.block b (hI b hb)
  newI := fun b hb => by
    rcases hb with hb | rfl
    · exact .inl hb
    · exact .inr (.inr hg)
  step := fun r => Inf.step_refl _ _ rfl
  newρ := fun r hr => .inl ⟨hr, rfl⟩
theorem St.addI {w w' : World} {m : Mp} {H : Nat → ABlk} {g : Nat} (hS : St w m H) (h : RowKit.Below w.heap.size w w') (hg : w.heap.size ≤ g) (hg' : g < w'.heap.size) : St w' (m.addI g) H := by
  have hT := Tr.addI hS.Ilt h hg
  refine ⟨hS.inj, fun r hr hI => ?_, fun r hr => Nat.lt_of_lt_of_le (hS.lt r hr) h.size, fun b hb => ?_, hS.gl.mono hT.imm hT.same, fun r => ?_⟩
  · rcases hI with hI | hI
    · exact hS.notI r hr hI
    · have := hS.lt r hr
      have hI : m.ρ r = g := hI
      omega
  · rcases hb with hb | rfl
    · exact Nat.lt_of_lt_of_le (hS.Ilt b hb) h.size
    · exact hg'
  · have hk := hS.blk r
    by_cases hl : (m.L r).isLive
    · exact hk.mono (h.block _ (hS.lt r hl)) (fun _ _ hv => hv.mono hT)
    · exact hk.nolive hl
/-- nothing that was there has turned -/
theorem Tr.below {w w' : World} {m : Mp} (hI : ∀ b, m.I b → b < w.heap.size) (h : RowKit.Below w.heap.size w w') : Tr w m w' m where
  os := h.os
  tape := h.tape
  output := h.output
  size := h.size
  out := fun b hb _ => h.block b hb
  imm := fun _ hb => hb
  same := fun b hb => h.block b (hI b hb)
  newI := fun b hb => .inl hb
  step := fun r => Inf.step_refl _ _ rfl
  newρ := fun r hr => .inl ⟨hr, rfl⟩
theorem St.below {w w' : World} {m : Mp} {H : Nat → ABlk} (hS : St w m H) (h : RowKit.Below w.heap.size w w') : St w' m H := by
  have hT := Tr.below hS.Ilt h
  refine ⟨hS.inj, hS.notI, fun r hr => Nat.lt_of_lt_of_le (hS.lt r hr) h.size, fun b hb => Nat.lt_of_lt_of_le (hS.Ilt b hb) h.size, hS.gl.mono hT.imm hT.same, fun r => ?_⟩
  have hk := hS.blk r
  by_cases hl : (m.L r).isLive
  · exact hk.mono (h.block _ (hS.lt r hl)) (fun _ _ hv => hv.mono hT)
  · exact hk.nolive hl

theorem bytesWorld_below (w : World) (e : TypeId) (s : ByteArray) : RowKit.Below w.heap.size w (Lib.bytesWorld w e s) :=
  ⟨rfl, rfl, rfl, by rw [Lib.bytesWorld_size]; omega, fun j hj => Lib.bytesWorld_at_old w e s j hj⟩

theorem opConv_ok (hT : TabOk P T) (hS : St w m (hp K)) {src dst : TypeId} {x : AV} {u : Value} (hx : V w m x u) (h : opConv T K k src dst x) : RunOk P w m (convert src dst u) k := by
  unfold opConv at h
  cases hg : T.t.get src with
  | none => rw [hg] at h; exact h.elim
  | some si =>
    rw [hg] at h
    simp only at h
    obtain ⟨i, d, z, hi, hu, hsz, _, hut, _⟩ := hT.t src si hg
    cases hg' : T.t.get dst with
    | none => rw [hg'] at h; exact h.elim
    | some di =>
      rw [hg'] at h
      simp only at h
      obtain ⟨i', d', z', hi', hu', hsz', _, hut', _⟩ := hT.t dst di hg'
      cases hU : di.u with
      | int q =>
        rw [hU] at h hut'
        simp only [utOk] at hut'
        subst hut'
        cases hx with
        | p x u hx =>
          cases hx with
          | int q' n =>
            refine RunOk.same hS ?_ (kInt ..) h
            simp only [convert, Sem.run_bind, run_underlying hu, run_underlying hu', Result.andThen_ok]
            cases d <;> rfl
          | _ => exact h.elim
        | _ => exact h.elim
      | string =>
        rw [hU] at h hut'
        simp only [utOk] at hut'
        subst hut'
        cases hx with
        | p x u hx =>
          cases hx with
          | str s l hl =>
            subst hl
            refine RunOk.same hS (u := .string s) ?_ (kStr ..) h
            simp only [convert, Sem.run_bind, run_underlying hu, run_underlying hu', Result.andThen_ok]
            cases d <;> rfl
          | _ => exact h.elim
        | _ => exact h.elim
      | slice e =>
        rw [hU] at h hut'
        simp only [utOk] at hut'
        subst hut'
        simp only at h
        cases hge : T.t.get e with
        | none => rw [hge] at h; exact h.elim
        | some ei =>
          rw [hge] at h
          simp only at h
          obtain ⟨ie, de, ze, hie, hue, _, _, hute, _⟩ := hT.t e ei hge
          split at h
          case h_2 => exact h.elim
          rename_i hU8
          rw [hU8] at hute
          simp only [utOk] at hute
          subst hute
          cases hx with
          | p x u hx =>
            cases hx with
            | str s l hl =>
              subst hl
              obtain ⟨hlen, h⟩ := h
              have hb := bytesWorld_below w e s
              have hlt : w.heap.size < (Lib.bytesWorld w e s).heap.size := by rw [Lib.bytesWorld_size]; omega
              refine ⟨_, _, m.addI w.heap.size, _, K, Lib.run_convert_string_bytes w src dst e s hu hu' hue, Tr.addI hS.Ilt hb (Nat.le_refl _), hS.addI hb (Nat.le_refl _) hlt, ?_, h⟩
              have hsz : s.data.toList.length = s.size := Array.length_toList
              have e0 : s.size = s.data.toList.length := hsz.symm
              rw [e0]
              refine .p _ _ (.sl 1 _ (byteF s.data.toList) w.heap.size 0 _ (fun i j => .int .u8 ((s.data.toList.getD i 0).toNat : Int)) (.inr rfl) ?_ (fun i hi j hj => ?_) (fun i hi j hj => ?_))
              · refine ⟨?_, by simpa [maxLen] using hlen⟩
                show _ ≤ grownCap w s.data.toList.length 0 e
                have := (grownCap_ge w s.data.toList.length 0 e)
                omega
              · have hj : j = 0 := by simp only [byteF, List.length_cons, List.length_nil] at hj; omega
                subst hj
                rw [Nat.zero_add, Nat.mul_one, Nat.add_zero]
                exact Lib.bytesWorld_cell w e s i (by omega)
              · have hj : j = 0 := by simp only [byteF, List.length_cons, List.length_nil] at hj; omega
                subst hj
                exact .int ..
            | _ => exact h.elim
          | _ => exact h.elim
      | _ => rw [hU] at h; exact h.elim

theorem opIface_ok (hT : TabOk P T) (hS : St w m (hp K)) {t : TypeId} {x : AV} {u : Value} (hx : V w m x u) (h : opIface T K k t x) : RunOk P w m (Instr.makeInterface t u) k := by
  unfold opIface at h
  cases hg : T.t.get t with
  | none => rw [hg] at h; exact h.elim
  | some ti =>
    rw [hg] at h
    simp only at h
    obtain ⟨i, d, z, hi, hu, hsz, _, hut, _⟩ := hT.t t ti hg
    have hk : k (.iface t x) K ∧ ∀ ms, d ≠ .interface ms := by
      cases hU : ti.u with
      | iface => rw [hU] at h; exact h.elim
      | other => rw [hU] at h; exact h.elim
      | struct fs =>
        rw [hU] at h hut
        obtain ⟨fields, rfl, _⟩ := hut
        exact ⟨h, fun ms e => by cases e⟩
      | func =>
        rw [hU] at h hut
        obtain ⟨a, b, c, rfl⟩ := hut
        exact ⟨h, fun ms e => by cases e⟩
      | _ =>
        rw [hU] at h hut
        simp only [utOk] at hut
        subst hut
        exact ⟨h, fun ms e => by cases e⟩
    refine RunOk.same hS (u := .iface t u) ?_ (.iface _ _ _ hx) hk.1
    simp only [Instr.makeInterface, Sem.run_bind, run_underlying hu, Result.andThen_ok]
    cases d <;> first | rfl | exact absurd rfl (hk.2 _)

/-- a bound of a slice expression -/
def bndOk (w : World) (m : Mp) : Option AV → Option Value → Prop
  | none, none => True
  | some a, some u => V w m a u
  | _, _ => False

theorem bnd_ok {o : Option AV} {o' : Option Value} (h : bndOk w m o o') {d : Nat} {l : Int} (hl : bnd d o = some l) : (o' = none ∧ l = (d : Int)) ∨ ∃ q, o' = some (.int q l) := by
  cases o with
  | none =>
    cases o' with
    | none => simp [bnd] at hl; exact .inl ⟨rfl, hl.symm⟩
    | some u => exact h.elim
  | some a =>
    cases o' with
    | none => exact h.elim
    | some u =>
      cases h with
      | p a u h =>
        cases h with
        | int q n => simp only [bnd, Option.some.injEq] at hl; subst hl; exact .inr ⟨q, rfl⟩
        | _ => simp [bnd] at hl
      | _ => simp [bnd] at hl

theorem sliceBounds_run (isSlice : Bool) (len cap : Nat) (hlc : len ≤ cap) {lo hi : Option AV} {lo' hi' : Option Value} (hlo : bndOk w m lo lo') (hhi : bndOk w m hi hi') {l h : Int}
    (hl : bnd 0 lo = some l) (hh : bnd len hi = some h) (h0 : 0 ≤ l) (h1 : l ≤ h) (h2 : h ≤ (len : Int)) : (Instr.sliceBounds isSlice len cap lo' hi' none).run P w = .ok (l.toNat, h.toNat, cap) w := by
  have hc : h ≤ (cap : Int) := by omega
  have e1 : ((h.toNat : Nat) : Int) = h := by omega
  rcases bnd_ok hlo hl with ⟨rfl, rfl⟩ | ⟨q, rfl⟩ <;> rcases bnd_ok hhi hh with ⟨rfl, rfl⟩ | ⟨q', rfl⟩
  · simp [Instr.sliceBounds]
  · simp [Instr.sliceBounds, Instr.sliceBound, asIntOf, hc, show 0 ≤ h by omega]
  · simp [Instr.sliceBounds, Instr.sliceBound, asIntOf, h0, h1]
  · simp [Instr.sliceBounds, Instr.sliceBound, asIntOf, hc, show 0 ≤ h by omega, h0, e1, h1]

theorem opSlice_ok (hT : TabOk P T) (hS : St w m (hp K)) {t : TypeId} {x : AV} {u : Value} (hx : V w m x u) {lo hi : Option AV} {lo' hi' : Option Value} (hlo : bndOk w m lo lo') (hhi : bndOk w m hi hi')
    (h : opSlice T K k t x lo hi) : RunOk P w m (Instr.sliceAt t u lo' hi' none) k := by
  unfold opSlice at h
  cases hg : T.t.get t with
  | none => rw [hg] at h; exact h.elim
  | some ti =>
    rw [hg] at h
    simp only at h
    obtain ⟨i, d, z, hi0, hu, hsz, _, hut, _⟩ := hT.t t ti hg
    cases hU : ti.u with
    | string =>
      rw [hU] at h hut
      simp only [utOk] at hut
      subst hut
      cases hx with
      | p x u hx =>
        cases hx with
        | str s l' hl' =>
          subst hl'
          simp only at h
          cases hl : bnd 0 lo with
          | none => rw [hl] at h; exact h.elim
          | some l =>
            rw [hl] at h
            simp only at h
            cases hh : bnd s.data.toList.length hi with
            | none => rw [hh] at h; exact h.elim
            | some hb =>
              rw [hh] at h
              simp only at h
              obtain ⟨⟨h0, h1, h2⟩, h⟩ := h
              have hsl : s.data.toList.length = s.size := by simp
              rw [hsl] at hh h2
              have hr := sliceBounds_run (P := P) false s.size s.size (Nat.le_refl _) hlo hhi hl hh h0 h1 h2
              refine RunOk.same hS (u := .string (s.extract l.toNat hb.toNat)) ?_ (.p _ _ (.str _ _ ?_)) h
              · simp [Instr.sliceAt, Instr.slice, run_underlying hu, hr]
              · simp [List.extract_eq_take_drop, List.drop_take]
        | _ => exact h.elim
      | _ => exact h.elim
    | slice e =>
      rw [hU] at h hut
      simp only [utOk] at hut
      subst hut
      simp only at h
      cases hge : T.t.get e with
      | none => rw [hge] at h; exact h.elim
      | some ei =>
        rw [hge] at h
        simp only at h
        obtain ⟨i', d', z', hie, hu', hsz', _⟩ := hT.t e ei hge
        cases hx with
        | p x u hx =>
          cases hx with
          | sl0 sz f a c =>
            simp only at h
            cases hl : bnd 0 lo with
            | none => rw [hl] at h; exact h.elim
            | some l =>
              rw [hl] at h
              simp only at h
              cases hh : bnd 0 hi with
              | none => rw [hh] at h; exact h.elim
              | some hb =>
                rw [hh] at h
                simp only at h
                obtain ⟨⟨h0, h1, h2, h3⟩, h⟩ := h
                have hr := sliceBounds_run (P := P) true 0 c (Nat.zero_le _) hlo hhi hl hh h0 h1 h2
                have e1 : hb.toNat - l.toNat = 0 := by omega
                rw [e1] at h
                refine RunOk.same hS (u := .slice (if c = l.toNat then a else a.map (·.add (l.toNat * i'.size))) (hb.toNat - l.toNat) (c - l.toNat)) ?_ ?_ h
                · simp [Instr.sliceAt, Instr.slice, run_underlying hu, hr, sizeOf, typeInfo, hie]
                · rw [e1]; exact .p _ _ (.sl0 ..)
          | sl sz n f b o c uu hI hcap hc hv =>
            simp only at h
            cases hl : bnd 0 lo with
            | none => rw [hl] at h; exact h.elim
            | some l =>
              rw [hl] at h
              simp only at h
              cases hh : bnd n hi with
              | none => rw [hh] at h; exact h.elim
              | some hb =>
                rw [hh] at h
                simp only at h
                obtain ⟨⟨h0, h1, h2, h3⟩, h⟩ := h
                have hr := sliceBounds_run (P := P) true n c hcap.1 hlo hhi hl hh h0 h1 h2
                refine RunOk.same hS (u := .slice (if c = l.toNat then some ⟨b, o, none⟩ else (some (⟨b, o, none⟩ : Addr)).map (·.add (l.toNat * i'.size))) (hb.toNat - l.toNat) (c - l.toNat)) ?_ ?_ h
                · simp [Instr.sliceAt, Instr.slice, run_underlying hu, hr, sizeOf, typeInfo, hie]
                · by_cases hz : hb.toNat - l.toNat = 0
                  · rw [hz]; exact .p _ _ (.sl0 ..)
                  · rw [if_neg (by omega)]
                    simp only [Option.map_some, addr_add, hsz', h3]
                    refine .p _ _ (.sl _ _ _ b (o + l.toNat * sz) _ (fun i j => uu (i + l.toNat) j) hI ⟨by have := hcap.1; omega, by have := hcap.2; omega⟩ (fun i hi j hj => ?_) (fun i hi j hj => hv (i + l.toNat) (by omega) j hj))
                    have := hc (i + l.toNat) (by omega) j hj
                    rw [Nat.add_mul] at this
                    rw [← this]
                    congr 2
                    omega
          | _ => exact h.elim
        | slr r ver off n N sz cap hL hn =>
          simp only at h
          cases hi with
          | some _ => exact h.elim
          | none =>
            simp only at h
            cases hl : bnd 0 lo with
            | none => rw [hl] at h; exact h.elim
            | some l =>
              rw [hl] at h
              simp only at h
              cases hn' : nth K r with
              | none => rw [hn'] at h; exact h.elim
              | some b =>
                rw [hn'] at h
                have hb := hS.blk r
                rw [hp_nth hn'] at hb
                cases b with
                | arr et sz' ver' n' f =>
                  simp only at h
                  obtain ⟨⟨rfl, hnn, h0, h1, h3⟩, h⟩ := h
                  rcases hb with ⟨hb, _⟩ | ⟨cap', c, hl', hcap, hmax, h2, h4, h5⟩
                  · rw [hL] at hb; simp at hb
                  rw [hL] at hl'
                  injection hl' with _ e2 e3 e4
                  subst e2 e3 e4
                  have hr := sliceBounds_run (P := P) (w := w) (m := m) true n (cap - off) (by omega) hlo hhi hl (h := (n : Int)) rfl h0 h1 (by omega)
                  have hrun : (Instr.sliceAt t (.slice (some ⟨m.ρ r, off * sz, none⟩) n (cap - off)) lo' hi' none).run P w =
                      .ok (.slice (if cap - off = l.toNat then some ⟨m.ρ r, off * sz, none⟩ else some ⟨m.ρ r, off * sz + l.toNat * sz, none⟩) (n - l.toNat) (cap - off - l.toNat)) w := by
                    simp [Instr.sliceAt, Instr.slice, run_underlying hu, hr, sizeOf, typeInfo, hie, hsz', h3, addr_add]
                  by_cases hlt : l < (n : Int)
                  · rw [show decide (l < (n : Int)) = true by simp [hlt]] at h
                    refine RunOk.same hS hrun ?_ h
                    rw [if_neg (by omega), show cap - off - l.toNat = cap - (off + l.toNat) by omega, ← Nat.add_mul]
                    exact .slr r ver _ _ N sz cap hL (by omega)
                  · rw [show decide (l < (n : Int)) = false by simp [hlt]] at h
                    refine RunOk.same hS hrun ?_ h
                    rw [show n - l.toNat = 0 by omega]
                    exact .p _ _ (.sl0 ..)
                | _ => exact h.elim
        | slrNil r ver hL =>
          simp only at h
          cases hi with
          | some _ => exact h.elim
          | none =>
            simp only at h
            cases hl : bnd 0 lo with
            | none => rw [hl] at h; exact h.elim
            | some l =>
              rw [hl] at h
              simp only at h
              cases hn' : nth K r with
              | none => rw [hn'] at h; exact h.elim
              | some b =>
                rw [hn'] at h
                cases b with
                | arr et sz' ver' n' f =>
                  simp only at h
                  obtain ⟨⟨rfl, hnn, h0, h1, h3⟩, h⟩ := h
                  obtain rfl : l = 0 := by omega
                  have hr := sliceBounds_run (P := P) (w := w) (m := m) true 0 0 (Nat.le_refl _) hlo hhi hl (h := 0) rfl (Int.le_refl _) (Int.le_refl _) (Int.le_refl _)
                  refine RunOk.same hS (u := .slice none 0 0) ?_ (.p _ _ (.sl0 ..)) h
                  simp [Instr.sliceAt, Instr.slice, run_underlying hu, hr, sizeOf, typeInfo, hie]
                | _ => exact h.elim
        | slrOld r ver off n ad' c' hold =>
          exfalso
          simp only at h
          cases hi with
          | some _ => exact h.elim
          | none =>
            simp only at h
            cases hl : bnd 0 lo with
            | none => rw [hl] at h; exact h.elim
            | some l =>
              rw [hl] at h
              simp only at h
              cases hn' : nth K r with
              | none => rw [hn'] at h; exact h.elim
              | some b =>
                rw [hn'] at h
                have hb := hS.blk r
                rw [hp_nth hn'] at hb
                cases b with
                | arr et sz' ver' n' f =>
                  simp only at h
                  obtain ⟨⟨rfl, rfl, _⟩, h⟩ := h
                  rcases hb with ⟨hl', _⟩ | ⟨cap', c, hl', _⟩
                  · rw [hl'] at hold; simp [Inf.old] at hold
                  rw [hl'] at hold
                  simp [Inf.old] at hold
                | _ => exact h.elim
        | _ => exact h.elim
    | _ => rw [hU] at h; exact h.elim

theorem opFieldAddr_ok (hT : TabOk P T) (hS : St w m (hp K)) {t : TypeId} {x : AV} {u : Value} (hx : V w m x u) {fi : Nat} (h : opFieldAddr T K k t x fi) : RunOk P w m (Instr.fieldAt t u fi) k := by
  unfold opFieldAddr at h
  cases hg : T.t.get t with
  | none => rw [hg] at h; exact h.elim
  | some ti =>
    rw [hg] at h
    simp only at h
    obtain ⟨i, d, z, hi0, hu, hsz, _, hut, _⟩ := hT.t t ti hg
    cases hU : ti.u with
    | struct fs =>
      rw [hU] at h hut
      simp only at h
      obtain ⟨fields, rfl, hfs, hinf⟩ := hut
      cases hn : nth fs fi with
      | none => rw [hn] at h; exact h.elim
      | some o =>
        obtain ⟨fo, ft⟩ := o
        rw [hn] at h
        simp only at h
        cases hg' : T.t.get ft with
        | none => rw [hg'] at h; exact h.elim
        | some fti =>
          rw [hg'] at h
          simp only at h
          obtain ⟨i', d', z', hi', hu', hsz', _⟩ := hT.t ft fti hg'
          split at h
          · exact h.elim
          rename_i hne
          have hne' : fti.size ≠ 0 := by intro e; rw [e] at hne; simp at hne
          rw [nth_eq, ← hfs] at hn
          simp only [List.getElem?_map, Array.getElem?_toList] at hn
          cases hff : fields[fi]? with
          | none => rw [hff] at hn; simp at hn
          | some f =>
            rw [hff] at hn
            simp only [Option.map_some, Option.some.injEq, Prod.mk.injEq] at hn
            obtain ⟨ho, hft⟩ := hn
            have hrun : ∀ a : Addr, (Instr.fieldAt t (.pointer (some a)) fi).run P w = .ok (.pointer (some (a.add fo))) w := by
              intro a
              simp [Instr.fieldAt, run_underlying hu, hff, Instr.sureAddr, fieldPlace, sizeOf, typeInfo, hft, hi', hsz', hne', ho]
            cases hx with
            | ptr r ver n i off sz cap hL hi =>
              refine RunOk.same hS (hrun _) ?_ h
              rw [addr_add, Nat.add_assoc]
              exact .ptr r ver n i (off + fo) sz cap hL hi
            | rop cs off b o uu hI hc hv =>
              refine RunOk.same hS (hrun _) ?_ h
              rw [addr_add, Nat.add_assoc]
              exact .rop cs (off + fo) b o uu hI hc hv
            | ptrOld r ver n i off b o hold =>
              refine RunOk.same hS (hrun _) ?_ h
              rw [addr_add]
              exact .ptrOld r ver n i (off + fo) b _ hold
            | _ => exact h.elim
    | _ => rw [hU] at h; exact h.elim
end
end Go.AE

namespace Go.AE
section
variable {P : Program} {T : Tab} {w : World} {m : Mp} {K : List ABlk} {k : AV → List ABlk → Prop}

/-- a part of an aggregate -/
theorem part_val {t : Nat} {ti : TI} (hti : TIok P t ti) {cs : List AV} {A : Array Value} (hc : VL w m cs A) (off : Nat) (q : AV → Prop) (h : part ti cs off q) :
    ∃ u a, (Go.part t A off).run P w = .ok u w ∧ V w m a u ∧ q a := by
  obtain ⟨i, d, z, hi, hu, hsz, _, _, _, _, hagg, _⟩ := hti
  unfold part at h
  unfold Go.part
  simp only [Sem.run_bind, isAgg_run hu, Result.andThen_ok]
  rw [← hagg]
  have hl := hc.1
  cases hA : ti.agg with
  | true =>
    rw [hA] at h
    simp only at h
    cases hb : Nat.ble (off + ti.size) (len cs) with
    | false => rw [hb] at h; exact h.elim
    | true =>
      rw [hb] at h
      simp only [fVL_eq, takeN_eq, dropN_eq] at h
      have hle : off + ti.size ≤ cs.length := by rw [len_eq] at hb; exact Nat.le_of_ble_eq_true hb
      refine ⟨.agg (A.extract off (off + ti.size)), .agg ((cs.drop off).take ti.size), ?_, ?_, h⟩
      · simp [sizeOf, typeInfo, hi, hsz]
      · refine .agg _ _ (by simp; omega) fun j hj hj' => ?_
        have hj2 : j < ti.size := by simp at hj; omega
        have := hc.2 (off + j) (by omega) (by omega)
        simpa using this
  | false =>
    rw [hA] at h
    simp only at h
    rw [nth_eq] at h
    cases hn : cs[off]? with
    | none => rw [hn] at h; exact h.elim
    | some v =>
      rw [hn] at h
      simp only [fV_eq] at h
      obtain ⟨hlt, rfl⟩ := List.getElem?_eq_some_iff.1 hn
      obtain ⟨u, h1, h2⟩ := hc.get? off hlt
      refine ⟨u, _, ?_, h2, h⟩
      simp [h1]

theorem opField_ok (hT : TabOk P T) (hS : St w m (hp K)) {t : TypeId} {x : AV} {u : Value} (hx : V w m x u) {fi : Nat} (h : opField T K k t x fi) : RunOk P w m (Instr.field t u fi) k := by
  unfold opField at h
  cases hg : T.t.get t with
  | none => rw [hg] at h; exact h.elim
  | some ti =>
    rw [hg] at h
    simp only at h
    obtain ⟨i, d, z, hi0, hu, hsz, _, hut, _⟩ := hT.t t ti hg
    cases hU : ti.u with
    | struct fs =>
      rw [hU] at h hut
      simp only at h
      obtain ⟨fields, rfl, hfs, hinf⟩ := hut
      cases hn : nth fs fi with
      | none => rw [hn] at h; exact h.elim
      | some o =>
        obtain ⟨fo, ft⟩ := o
        rw [hn] at h
        simp only at h
        cases hg' : T.t.get ft with
        | none => rw [hg'] at h; exact h.elim
        | some fti =>
          rw [hg'] at h
          simp only at h
          rw [nth_eq, ← hfs] at hn
          simp only [List.getElem?_map, Array.getElem?_toList] at hn
          cases hff : fields[fi]? with
          | none => rw [hff] at hn; simp at hn
          | some f =>
            rw [hff] at hn
            simp only [Option.map_some, Option.some.injEq, Prod.mk.injEq] at hn
            obtain ⟨ho, hft⟩ := hn
            cases hx with
            | agg cs A hA hv =>
              obtain ⟨u, a, h1, h2, h3⟩ := part_val (P := P) (hT.t ft fti hg') ⟨hA, hv⟩ fo _ h
              refine RunOk.same hS (u := u) ?_ h2 h3
              simp [Instr.field, run_underlying hu, hff, asAgg, hft, ho, h1]
            | _ => exact h.elim
    | _ => rw [hU] at h; exact h.elim

theorem opIndexAddr_ok (hT : TabOk P T) (hS : St w m (hp K)) {t : TypeId} {x y : AV} {u v : Value} (hx : V w m x u) (hy : V w m y v) (h : opIndexAddr T K k t x y) : RunOk P w m (Instr.indexAt t u v) k := by
  unfold opIndexAddr at h
  cases hg : T.t.get t with
  | none => rw [hg] at h; exact h.elim
  | some ti =>
    rw [hg] at h
    simp only at h
    obtain ⟨i, d, z, hi0, hu, hsz, _, hut, _⟩ := hT.t t ti hg
    cases hU : ti.u with
    | slice e =>
      rw [hU] at h hut
      simp only [utOk] at hut
      subst hut
      simp only at h
      cases hge : T.t.get e with
      | none => rw [hge] at h; exact h.elim
      | some ei =>
        rw [hge] at h
        simp only at h
        obtain ⟨i', d', z', hie, hu', hsz', _⟩ := hT.t e ei hge
        cases hy with
        | p y v hy =>
          cases hy with
          | int q ix =>
            simp only at h
            cases hx with
            | p x u hx =>
              cases hx with
              | sl sz n f b o c uu hI hcap hc hv =>
                simp only at h
                obtain ⟨⟨h0, h1, h2⟩, h⟩ := h
                simp only [fL_eq] at h
                refine RunOk.same hS (u := .pointer (some ⟨b, o + ix.toNat * sz, none⟩)) ?_ ?_ h
                · simp [Instr.indexAt, asIntOf, run_underlying hu, h0, h1, sizeOf, typeInfo, hie, hsz', h2, addr_add]
                · refine .rop (f ix.toNat) 0 b (o + ix.toNat * sz) (uu ix.toNat) hI (fun j hj => ?_) (fun j hj => hv ix.toNat (by omega) j hj)
                  have := hc ix.toNat (by omega) j hj
                  rw [← this, Nat.add_assoc]
              | sl0 =>
                simp only at h
                obtain ⟨⟨h0, h1, h2⟩, h⟩ := h
                omega
              | _ => exact h.elim
            | slr r ver off n N sz cap hL hn =>
              simp only at h
              cases hn' : nth K r with
              | none => rw [hn'] at h; exact h.elim
              | some b =>
                rw [hn'] at h
                have hb := hS.blk r
                rw [hp_nth hn'] at hb
                cases b with
                | arr et sz' ver' n' f =>
                  simp only at h
                  obtain ⟨⟨rfl, hnn, h0, h1, h3⟩, h⟩ := h
                  rcases hb with ⟨hb, _⟩ | ⟨cap', c, hl', hcap, hmax, h2, h4, h5⟩
                  · rw [hL] at hb; simp at hb
                  rw [hL] at hl'
                  injection hl' with _ e2 e3 e4
                  subst e2 e3 e4
                  refine RunOk.same hS (u := .pointer (some ⟨m.ρ r, (off + ix.toNat) * sz + 0, none⟩)) ?_ (.ptr r ver N (off + ix.toNat) 0 sz cap hL (by omega)) h
                  simp [Instr.indexAt, asIntOf, run_underlying hu, h0, h1, sizeOf, typeInfo, hie, hsz', h3, addr_add, Nat.add_mul]
                | _ => exact h.elim
            | slrNil r ver hL =>
              exfalso
              simp only at h
              cases hn' : nth K r with
              | none => rw [hn'] at h; exact h.elim
              | some b =>
                rw [hn'] at h
                cases b with
                | arr et sz' ver' n' f =>
                  obtain ⟨⟨_, _, h0, h1, _⟩, h⟩ := h
                  omega
                | _ => exact h.elim
            | slrOld r ver off n ad' c' hold =>
              exfalso
              simp only at h
              cases hn' : nth K r with
              | none => rw [hn'] at h; exact h.elim
              | some b =>
                rw [hn'] at h
                have hb := hS.blk r
                rw [hp_nth hn'] at hb
                cases b with
                | arr et sz' ver' n' f =>
                  simp only at h
                  obtain ⟨⟨rfl, rfl, _⟩, h⟩ := h
                  rcases hb with ⟨hl', _⟩ | ⟨cap', c, hl', _⟩
                  · rw [hl'] at hold; simp [Inf.old] at hold
                  rw [hl'] at hold
                  simp [Inf.old] at hold
                | _ => exact h.elim
            | _ => exact h.elim
          | _ => exact h.elim
        | _ => exact h.elim
    | _ => rw [hU] at h; exact h.elim

theorem opIndex_ok (hT : TabOk P T) (hS : St w m (hp K)) {t : TypeId} {x y : AV} {u v : Value} (hx : V w m x u) (hy : V w m y v) (h : opIndex T K k t x y) : RunOk P w m (Instr.index t u v) k := by
  unfold opIndex at h
  cases hg : T.t.get t with
  | none => rw [hg] at h; exact h.elim
  | some ti =>
    rw [hg] at h
    simp only at h
    obtain ⟨i, d, z, hi0, hu, hsz, _, hut, _⟩ := hT.t t ti hg
    cases hy with
    | p y v hy =>
      cases hy with
      | int q ix =>
        simp only at h
        cases hU : ti.u with
        | string =>
          rw [hU] at h hut
          simp only [utOk] at hut
          subst hut
          simp only at h
          cases hx with
          | p x u hx =>
            cases hx with
            | str s l hl =>
              subst hl
              obtain ⟨⟨h0, h1⟩, h⟩ := h
              simp only [Array.length_toList] at h1
              have hlt : ix.toNat < s.size := by have : s.data.size = s.size := rfl; omega
              refine RunOk.same hS (u := .int .u8 (byteAt s.data.toList ix.toNat)) ?_ (kInt ..) h
              have e : s[ix.toNat]? = some (s[ix.toNat]'hlt) := getElem?_pos s ix.toNat hlt
              have e2 : s.data.toList.getD ix.toNat 0 = s[ix.toNat]'hlt := by
                rw [List.getD_eq_getElem?_getD, List.getElem?_eq_getElem (by simpa using hlt)]
                simp only [Option.getD_some, Array.getElem_toList]
                rfl
              simp only [Instr.index, asIntOf, Sem.run_bind, Sem.run_pure, Result.andThen_ok, run_underlying hu, h0, if_true, e, byteAt, e2]
            | _ => exact h.elim
          | _ => exact h.elim
        | _ => rw [hU] at h; exact h.elim
      | _ => exact h.elim
    | _ => exact h.elim

theorem opExtract_ok (hS : St w m (hp K)) {x : AV} {u : Value} (hx : V w m x u) {i : Nat} (h : opExtract K k x i) : RunOk P w m (Instr.extract u i) k := by
  cases hx with
  | tup cs A hA hv =>
    simp only [opExtract, nth_eq] at h
    cases hn : cs[i]? with
    | none => rw [hn] at h; exact h.elim
    | some v =>
      rw [hn] at h
      simp only [fV_eq] at h
      obtain ⟨hlt, rfl⟩ := List.getElem?_eq_some_iff.1 hn
      obtain ⟨u, h1, h2⟩ := VL.get? ⟨hA, hv⟩ i hlt
      exact RunOk.same hS (u := u) (by simp [Instr.extract, h1]) h2 h
  | _ => exact h.elim

/-- what is appended -/
def NewsOk (w : World) (m : Mp) (sz : Nat) (u : Value) (n : Nat) (g : Nat → List AV) : Prop :=
  ∃ (a : Option Addr) (c : Nat) (nl : List Value), u = .slice a n c ∧ nl.length = n * sz ∧ (∀ j y, nl[j]? = some y → ∃ ad, a = some ad ∧ w.cell? (ad.add j) = some y) ∧ (∀ y ∈ nl, y.oneCell' = true) ∧
    ∀ i, i < n → (g i).length = sz ∧ ∀ j (hj : j < (g i).length), ∃ y, nl[i * sz + j]? = some y ∧ V w m (g i)[j] y

theorem NewsOk.mk' {sz : Nat} (hsz : 0 < sz) (b o n c : Nat) (g : Nat → List AV)
    (h : ∀ i, i < n → (g i).length = sz ∧ ∀ j (hj : j < (g i).length), ∃ y, w.cell? ⟨b, o + (i * sz + j), none⟩ = some y ∧ V w m (g i)[j] y ∧ y.oneCell' = true) : NewsOk w m sz (.slice (some ⟨b, o, none⟩) n c) n g := by
  have key : ∀ q, q < n * sz → ∃ y, w.cell? ⟨b, o + q, none⟩ = some y ∧ y.oneCell' = true := by
    intro q hq
    have h1 : q / sz < n := (Nat.div_lt_iff_lt_mul hsz).2 hq
    have h2 : q % sz < sz := Nat.mod_lt _ hsz
    obtain ⟨y, hy1, _, hy3⟩ := (h (q / sz) h1).2 (q % sz) (by rw [(h _ h1).1]; exact h2)
    refine ⟨y, ?_, hy3⟩
    rw [← hy1]
    congr 2
    have := Nat.div_add_mod q sz
    rw [Nat.mul_comm] at this
    omega
  refine ⟨_, c, (List.range (n * sz)).map fun q => (w.cell? ⟨b, o + q, none⟩).getD undef, rfl, by simp, fun j y hy => ?_, fun y hy => ?_, fun i hi => ⟨(h i hi).1, fun j hj => ?_⟩⟩
  · have hj : j < n * sz := by have := (List.getElem?_eq_some_iff.1 hy).1; simpa using this
    obtain ⟨y', h1, _⟩ := key j hj
    simp [hj, h1] at hy
    subst hy
    exact ⟨_, rfl, by rw [addr_add]; exact h1⟩
  · simp only [List.mem_map, List.mem_range] at hy
    obtain ⟨q, hq, rfl⟩ := hy
    obtain ⟨y', h1, h2⟩ := key q hq
    simpa [h1] using h2
  · have hroom : (i + 1) * sz ≤ n * sz := Nat.mul_le_mul_right _ (by omega)
    rw [Nat.add_mul, Nat.one_mul] at hroom
    obtain ⟨y, hy1, hy2, _⟩ := (h i hi).2 j hj
    rw [(h i hi).1] at hj
    exact ⟨y, by simp [show i * sz + j < n * sz by omega, hy1], hy2⟩

theorem news_ok (hS : St w m (hp K)) {sz : Nat} (hsz : 0 < sz) {x : AV} {u : Value} (hx : V w m x u) {q : Nat → (Nat → List AV) → Prop} (h : news K sz x q) : ∃ n g, NewsOk w m sz u n g ∧ q n g := by
  unfold news at h
  cases hx with
  | p x u hx =>
    cases hx with
    | nils => exact ⟨0, _, ⟨none, 0, [], rfl, by simp, by simp, by simp, fun i hi => by omega⟩, h⟩
    | sl0 sz' f a c => exact ⟨0, _, ⟨a, c, [], rfl, by simp, by simp, by simp, fun i hi => by omega⟩, h.k⟩
    | sl sz' n f b o c uu hI hcap hc hv =>
      obtain ⟨⟨rfl, hl⟩, h⟩ := h
      refine ⟨n, _, NewsOk.mk' hsz b o n c _ (fun i hi => ⟨by rw [pvs_len]; exact hl i hi, fun j hj => ?_⟩), h⟩
      have hj' : j < (f i).length := by rw [pvs_len] at hj; exact hj
      exact ⟨uu i j, hc i hi j hj', by rw [pvs_get]; exact .p _ _ (hv i hi j hj'), (hv i hi j hj').one⟩
    | _ => exact h.elim
  | slr r ver off n N sz' cap hL hn =>
    simp only at h
    cases hn' : nth K r with
    | none => rw [hn'] at h; exact h.elim
    | some b =>
      rw [hn'] at h
      have hb := hS.blk r
      rw [hp_nth hn'] at hb
      cases b with
      | arr et sz2 ver' n' f =>
        simp only at h
        obtain ⟨⟨rfl, hnn, rfl, hones⟩, h⟩ := h
        rcases hb with ⟨hb, _⟩ | ⟨cap', c, hl', hcap, hmax, h2, h4, h5⟩
        · rw [hL] at hb; simp at hb
        rw [hL] at hl'
        injection hl' with _ e2 e3 e4
        subst e2 e3 e4
        refine ⟨n, _, NewsOk.mk' hsz (m.ρ r) (off * sz') n _ _ (fun i hi => ⟨(h5 (i + off) (by omega)).1, fun j hj => ?_⟩), h⟩
        obtain ⟨y, hy1, hy2⟩ := (h5 (i + off) (by omega)).2 j hj
        refine ⟨y, ?_, hy2, hy2.one (ones_get (hones _ (by omega)) j hj)⟩
        rw [cell_of_row w _ _ c et (0, 0) h2, ← hy1, Nat.add_mul]
        congr 1
        omega
      | _ => exact h.elim
  | slrNil r ver hL =>
    simp only at h
    cases hn' : nth K r with
    | none => rw [hn'] at h; exact h.elim
    | some b =>
      rw [hn'] at h
      cases b with
      | arr et sz' ver' n' f => exact ⟨0, _, ⟨none, 0, [], rfl, by simp, by simp, by simp, fun i hi => by omega⟩, h.k⟩
      | _ => exact h.elim
  | slrOld r ver off n ad' c' hold =>
    exfalso
    simp only at h
    cases hn' : nth K r with
    | none => rw [hn'] at h; exact h.elim
    | some b =>
      rw [hn'] at h
      have hb := hS.blk r
      rw [hp_nth hn'] at hb
      cases b with
      | arr et sz' ver' n' f =>
        simp only at h
        obtain ⟨⟨rfl, rfl, _⟩, h⟩ := h
        rcases hb with ⟨hl', _⟩ | ⟨cap', c, hl', _⟩
        · rw [hl'] at hold; simp [Inf.old] at hold
        rw [hl'] at hold
        simp [Inf.old] at hold
      | _ => exact h.elim
  | _ => exact h.elim

/-- nothing is appended -/
theorem append_none {t tx ty e : TypeId} {i : TypeInfo} (ht : P.underlying t = some (.slice e)) (hi : P.info? e = some i) (base : Option Addr) (sLen sCap : Nat) (hle : sLen ≤ sCap) {e' : TypeId} (htx : P.underlying tx = some (.slice e')) (a : Option Addr) (c : Nat) :
    (Builtin.append_ #[t, tx] ty #[.slice base sLen sCap, .slice a 0 c]).run P w = .ok (.slice base sLen sCap) w := by
  cases base <;> cases a <;> simp [Builtin.append_, run_underlying ht, run_underlying htx, sizeOf, typeInfo, hi, Builtin.lenOf, hle, Builtin.firstCells, loadCells, loadCellsFrom, storeCells]

theorem catF_lt {n : Nat} {f g : Nat → List AV} {i : Nat} (h : i < n) : catF n f g i = f i := by
  unfold catF
  have : Nat.blt i n = true := by simpa using h
  rw [this]
theorem catF_ge {n : Nat} {f g : Nat → List AV} {i : Nat} (h : n ≤ i) : catF n f g i = g (i - n) := by
  unfold catF
  have : Nat.blt i n = false := by cases e : Nat.blt i n with
    | true => have := Nat.le_of_ble_eq_true e; omega
    | false => rfl
  rw [this]

theorem opAppend_ok (hT : TabOk P T) (hS : St w m (hp K)) {t : TypeId} {s x : AV} {u v : Value} (hs : V w m s u) (hx : V w m x v) {ty : TypeId} (h : opAppend T K k t s x) : RunOk P w m (Builtin.append_ #[t, t] ty #[u, v]) k := by
  unfold opAppend at h
  cases hg : T.t.get t with
  | none => rw [hg] at h; exact h.elim
  | some ti =>
    rw [hg] at h
    simp only at h
    obtain ⟨i, d, z, hi0, hu, hsz, _, hut, _⟩ := hT.t t ti hg
    cases hU : ti.u with
    | slice e =>
      rw [hU] at h hut
      simp only [utOk] at hut
      subst hut
      simp only at h
      cases hge : T.t.get e with
      | none => rw [hge] at h; exact h.elim
      | some ei =>
        rw [hge] at h
        simp only at h
        obtain ⟨i', d', z', hie, hu', hsz', hby', _, hz', hzo', _⟩ := hT.t e ei hge
        split at h
        case h_2 => exact h.elim
        rename_i hb2 hb3
        have hne : ei.size ≠ 0 := by intro h0; rw [h0] at hb2; simp at hb2
        have hzl : ei.zero.length = ei.size := by have := Nat.eq_of_beq_eq_true hb3; rwa [len_eq] at this
        have hzs : z'.cells.size = ei.size := by rw [← hzo'.1]; exact hzl
        obtain ⟨nm, g, hnews, h⟩ := news_ok hS (by omega) hx h
        obtain ⟨a, c, nl, rfl, hnl, hcells, hone, hg⟩ := hnews
        cases hs with
        | p s u hs =>
          cases hs with
          | nils =>
            simp only at h
            cases nm with
            | zero =>
              simp only at h
              exact RunOk.same hS (append_none hu hie none 0 0 (Nat.le_refl _) hu a c) (.p _ _ .nils) h
            | succ nm =>
              simp only at h
              obtain ⟨⟨hby, h63⟩, h⟩ := h
              simp only [fL_eq] at h
              have hpos : 0 < nl.length := by rw [hnl]; exact Nat.mul_pos (by omega) (by omega)
              obtain ⟨ad, rfl, _⟩ := hcells 0 nl[0] (List.getElem?_eq_getElem hpos)
              obtain ⟨v', w', hr, hown, hgrow, hnil, hat⟩ := run_append_own_at (P := P) w 0 t ty e i' z' ei.size ei.bytes hu hie hz' hsz' hby' hzs (by omega) (.slice none 0 0) 0 [] (World.ownsRow_nil w 0 e ei.size)
                ad (nm + 1) c nl hnl (fun j y hy => by obtain ⟨_, e1, e2⟩ := hcells j y hy; injection e1 with e1; rw [e1]; exact e2) hone (by simp only [maxLen]; omega) (by rw [Nat.zero_add]; exact hby) (Nat.zero_le _)
              simp only [Nat.zero_add, List.nil_append] at hown
              rcases hown.2 with ⟨_, h0⟩ | ⟨gb, cap, cur, rfl, _, hgh, hncap, hcapm, hcs, htake⟩
              · omega
              · rcases hat with hat | hat
                · simp [Value.ownBlock] at hat
                · simp [Value.ownBlock] at hat
                  subst hat
                  have hlt : w.heap.size < w'.heap.size := (Array.getElem?_eq_some_iff.1 hgh).1
                  have hgr : w.grownBy w' none := by simpa [Value.ownBlock] using hgrow
                  have hst : (m.L (len K)).step (.live 0 (nm + 1) ei.size cap) False := by rw [hS.absent (hp_len K)]; trivial
                  have hTr := Tr.fresh hS (len K) w.heap.size (.live 0 (nm + 1) ei.size cap) hst hgr (Nat.le_refl _)
                  refine ⟨_, w', _, _, _, hr, hTr, ?_, ?_, h⟩
                  · rw [hp_snoc]
                    refine hS.fresh _ _ _ hst hgr (Nat.le_refl _) hlt _ (.inr ⟨cap, cur, rfl, hncap, hcapm, hgh, hcs, fun q hq => ⟨(hg q hq).1, fun j hj => ?_⟩⟩)
                    obtain ⟨y, hy1, hy2⟩ := (hg q hq).2 j hj
                    refine ⟨y, ?_, hy2.mono hTr⟩
                    rw [← htake, List.getElem?_take] at hy1
                    split at hy1
                    · simpa using hy1
                    · simp at hy1
                  · have := V.slr (w := w') (m := m.set (len K) w.heap.size (.live 0 (nm + 1) ei.size cap)) (len K) 0 0 (nm + 1) (nm + 1) ei.size cap (by simp [Mp.set]) (by omega)
                    simpa [Mp.set] using this
          | _ => exact h.elim
        | slr r ver off n N sz cap hL hn =>
          simp only at h
          cases off with
          | succ _ => exact h.elim
          | zero =>
            simp only at h
            cases hn' : nth K r with
            | none => rw [hn'] at h; exact h.elim
            | some b =>
              rw [hn'] at h
              have hb := hS.blk r
              rw [hp_nth hn'] at hb
              have hlive : (m.L r).isLive := by rw [hL]; trivial
              cases b with
              | arr et sz2 ver' n' f =>
                simp only at h
                obtain ⟨⟨rfl, rfl, rfl, rfl, hby, h63⟩, h⟩ := h
                simp only [fL_eq] at h
                rcases hb with ⟨hb, _⟩ | ⟨cap', cc, hl', hcap, hmax, h2, h4, h5⟩
                · rw [hL] at hb; simp at hb
                obtain rfl : n = N := by omega
                have hl2 := hl'
                rw [hL] at hl2
                injection hl2 with _ _ e3 e4
                subst e3 e4
                simp only [Nat.zero_mul, Nat.sub_zero]
                by_cases hm0 : nm = 0
                · subst hm0
                  refine ⟨_, w, m, _, _, append_none hu hie _ _ _ hcap hu a c, Tr.refl w m, ?_, ?_, h⟩
                  · rw [hp_set K r _ _ hn']
                    refine ⟨hS.inj, hS.notI, hS.lt, hS.Ilt, hS.gl, fun q => ?_⟩
                    by_cases e : q = r
                    · subst e
                      simp only [upd, if_true]
                      refine .inr ⟨cap, cc, hL, by omega, hmax, h2, h4, fun j hj => ?_⟩
                      rw [catF_lt (by omega)]
                      exact h5 j (by omega)
                    · simp only [upd, e, if_false]; exact hS.blk q
                  · have := V.slr (w := w) r ver 0 n n ei.size cap hL (by omega)
                    simpa using this
                · have hpos : 0 < nl.length := by rw [hnl]; exact Nat.mul_pos (by omega) (by omega)
                  obtain ⟨ad, rfl, _⟩ := hcells 0 nl[0] (List.getElem?_eq_getElem hpos)
                  have hnc : n * ei.size ≤ cap * ei.size := Nat.mul_le_mul_right _ hcap
                  have hown0 : w.ownsRow 0 et ei.size (.slice (some ⟨m.ρ r, 0, none⟩) n cap) n (cc.toList.take (n * ei.size)) :=
                    ⟨by simp; omega, .inr ⟨m.ρ r, cap, cc, rfl, Nat.zero_le _, h2, hcap, hmax, h4, rfl⟩⟩
                  obtain ⟨v', w', hr, hown, hgrow, hnil, hat⟩ := run_append_own_at (P := P) w 0 t ty et i' z' ei.size ei.bytes hu hie hz' hsz' hby' hzs (by omega) _ n _ hown0
                    ad nm c nl hnl (fun j y hy => by obtain ⟨_, e1, e2⟩ := hcells j y hy; injection e1 with e1; rw [e1]; exact e2) hone (by simp only [maxLen]; omega) (by omega) (Nat.zero_le _)
                  rcases hown.2 with ⟨_, h0⟩ | ⟨gb, cap2, cur, rfl, _, hgh, hncap, hcapm, hcs, htake⟩
                  · omega
                  · have hgr : w.grownBy w' (some (m.ρ r)) := by simpa [Value.ownBlock] using hgrow
                    have hgb : gb = m.ρ r ∨ w.heap.size ≤ gb := by
                      rcases hat with hat | hat
                      · simp [Value.ownBlock] at hat; exact .inl hat
                      · simp [Value.ownBlock] at hat; exact .inr (by omega)
                    have hstep : (m.L r).step (.live ver (n + nm) ei.size cap2) (gb = m.ρ r) := by
                      rw [hL]
                      exact .inr (.inr ⟨_, _, _, _, rfl, by omega⟩)
                    have hlt : gb < w'.heap.size := (Array.getElem?_eq_some_iff.1 hgh).1
                    have hTr := Tr.grow hS r gb (.live ver (n + nm) ei.size cap2) hlive hgr hstep hgb
                    refine ⟨_, w', _, _, _, hr, hTr, ?_, ?_, h⟩
                    · rw [hp_set K r _ _ hn']
                      refine hS.grow r gb _ hlive hgr hstep hgb hlt _ (.inr ⟨cap2, cur, rfl, hncap, hcapm, hgh, hcs, fun q hq => ?_⟩)
                      have hroom : (q + 1) * ei.size ≤ (n + nm) * ei.size := Nat.mul_le_mul_right _ (by omega)
                      rw [Nat.add_mul, Nat.one_mul] at hroom
                      have hcell : ∀ j y, j < ei.size → (cc.toList.take (n * ei.size) ++ nl)[q * ei.size + j]? = some y → cur[q * ei.size + j]? = some y := by
                        intro j y hj hy
                        rw [← htake, List.getElem?_take, if_pos (by omega)] at hy
                        simpa using hy
                      have hlen0 : (cc.toList.take (n * ei.size)).length = n * ei.size := by simp; omega
                      by_cases hqn : q < n
                      · have hroom2 : (q + 1) * ei.size ≤ n * ei.size := Nat.mul_le_mul_right _ (by omega)
                        rw [Nat.add_mul, Nat.one_mul] at hroom2
                        rw [catF_lt hqn]
                        refine ⟨(h5 q hqn).1, fun j hj => ?_⟩
                        have hj' : j < ei.size := by rw [(h5 q hqn).1] at hj; exact hj
                        obtain ⟨y, hy1, hy2⟩ := (h5 q hqn).2 j hj
                        refine ⟨y, hcell j y hj' ?_, hy2.mono hTr⟩
                        rw [List.getElem?_append_left (by omega), List.getElem?_take, if_pos (by omega)]
                        simpa using hy1
                      · rw [catF_ge (by omega)]
                        have hg' := hg (q - n) (by omega)
                        refine ⟨hg'.1, fun j hj => ?_⟩
                        have hj' : j < ei.size := by rw [hg'.1] at hj; exact hj
                        obtain ⟨y, hy1, hy2⟩ := hg'.2 j hj
                        refine ⟨y, hcell j y hj' ?_, hy2.mono hTr⟩
                        have hmul : q * ei.size = n * ei.size + (q - n) * ei.size := by rw [← Nat.add_mul]; congr 1; omega
                        rw [List.getElem?_append_right (by omega), hlen0, show q * ei.size + j - n * ei.size = (q - n) * ei.size + j by omega]
                        exact hy1
                    · have := V.slr (w := w') (m := m.set r gb (.live ver (n + nm) ei.size cap2)) r ver 0 (n + nm) (n + nm) ei.size cap2 (by simp [Mp.set]) (by omega)
                      simpa [Mp.set] using this
              | _ => exact h.elim
        | slrNil r ver hL =>
          simp only at h
          cases hn' : nth K r with
          | none => rw [hn'] at h; exact h.elim
          | some b =>
            rw [hn'] at h
            have hb := hS.blk r
            rw [hp_nth hn'] at hb
            cases b with
            | arr et sz2 ver' n' f =>
              simp only at h
              obtain ⟨⟨rfl, rfl, rfl, rfl, hby, h63⟩, h⟩ := h
              simp only [fL_eq, Nat.zero_add] at h hby h63
              by_cases hm0 : nm = 0
              · subst hm0
                refine ⟨_, w, m, _, _, append_none hu hie none 0 0 (Nat.le_refl _) hu a c, Tr.refl w m, ?_, .slrNil r ver hL, h⟩
                rw [hp_set K r _ _ hn']
                refine ⟨hS.inj, hS.notI, hS.lt, hS.Ilt, hS.gl, fun q => ?_⟩
                by_cases e : q = r
                · subst e
                  simp only [upd, if_true]
                  exact .inl ⟨hL, rfl⟩
                · simp only [upd, e, if_false]; exact hS.blk q
              · have hpos : 0 < nl.length := by rw [hnl]; exact Nat.mul_pos (by omega) (by omega)
                obtain ⟨ad, rfl, _⟩ := hcells 0 nl[0] (List.getElem?_eq_getElem hpos)
                obtain ⟨v', w', hr, hown, hgrow, hnil, hat⟩ := run_append_own_at (P := P) w 0 t ty et i' z' ei.size ei.bytes hu hie hz' hsz' hby' hzs (by omega) (.slice none 0 0) 0 [] (World.ownsRow_nil w 0 et ei.size)
                  ad nm c nl hnl (fun j y hy => by obtain ⟨_, e1, e2⟩ := hcells j y hy; injection e1 with e1; rw [e1]; exact e2) hone (by simp only [maxLen]; omega) (by rw [Nat.zero_add]; exact hby) (Nat.zero_le _)
                simp only [Nat.zero_add, List.nil_append] at hown
                rcases hown.2 with ⟨_, h0⟩ | ⟨gb, cap, cur, rfl, _, hgh, hncap, hcapm, hcs, htake⟩
                · omega
                · rcases hat with hat | hat
                  · simp [Value.ownBlock] at hat
                  · simp [Value.ownBlock] at hat
                    subst hat
                    have hlt : w.heap.size < w'.heap.size := (Array.getElem?_eq_some_iff.1 hgh).1
                    have hgr : w.grownBy w' none := by simpa [Value.ownBlock] using hgrow
                    have hst : (m.L r).step (.live ver nm ei.size cap) False := by
                      rw [hL]
                      exact .inr (.inr ⟨_, _, _, _, rfl, by omega⟩)
                    have hTr := Tr.fresh hS r w.heap.size (.live ver nm ei.size cap) hst hgr (Nat.le_refl _)
                    refine ⟨_, w', _, _, _, hr, hTr, ?_, ?_, h⟩
                    · rw [hp_set K r _ _ hn']
                      refine hS.fresh _ _ _ hst hgr (Nat.le_refl _) hlt _ (.inr ⟨cap, cur, rfl, hncap, hcapm, hgh, hcs, fun q hq => ?_⟩)
                      rw [catF_ge (by omega), Nat.sub_zero]
                      refine ⟨(hg q hq).1, fun j hj => ?_⟩
                      obtain ⟨y, hy1, hy2⟩ := (hg q hq).2 j hj
                      refine ⟨y, ?_, hy2.mono hTr⟩
                      rw [← htake, List.getElem?_take] at hy1
                      split at hy1
                      · simpa using hy1
                      · simp at hy1
                    · have := V.slr (w := w') (m := m.set r w.heap.size (.live ver nm ei.size cap)) r ver 0 nm nm ei.size cap (by simp [Mp.set]) (by omega)
                      simpa [Mp.set] using this
            | _ => exact h.elim
        | slrOld r ver off n ad' c' hold =>
          exfalso
          simp only at h
          cases off with
          | succ _ => exact h.elim
          | zero =>
            simp only at h
            cases hn' : nth K r with
            | none => rw [hn'] at h; exact h.elim
            | some b =>
              rw [hn'] at h
              have hb := hS.blk r
              rw [hp_nth hn'] at hb
              cases b with
              | arr et sz' ver' n' f =>
                simp only at h
                obtain ⟨⟨rfl, rfl, _⟩, h⟩ := h
                rcases hb with ⟨hl', _⟩ | ⟨cap', c, hl', _⟩
                · rw [hl'] at hold; simp [Inf.old] at hold
                rw [hl'] at hold
                simp [Inf.old] at hold
              | _ => exact h.elim
        | _ => exact h.elim
    | _ => rw [hU] at h; exact h.elim

theorem opMaxMin_max (hS : St w m (hp K)) {x y : AV} {u v : Value} (hx : V w m x u) (hy : V w m y v) {ts : Array TypeId} {ty : TypeId} (h : opMaxMin K k true x y) : RunOk P w m (Builtin.max_ ts ty #[u, v]) k := by
  cases hx with
  | p x u hx =>
    cases hx with
    | int q a =>
      cases hy with
      | p y v hy =>
        cases hy with
        | int q' b => exact RunOk.same hS (by simp [Builtin.max_, Builtin.max2]) (kInt ..) h
        | _ => exact h.elim
      | _ => exact h.elim
    | _ => exact h.elim
  | _ => exact h.elim

theorem opMaxMin_min (hS : St w m (hp K)) {x y : AV} {u v : Value} (hx : V w m x u) (hy : V w m y v) {ts : Array TypeId} {ty : TypeId} (h : opMaxMin K k false x y) : RunOk P w m (Builtin.min_ ts ty #[u, v]) k := by
  cases hx with
  | p x u hx =>
    cases hx with
    | int q a =>
      cases hy with
      | p y v hy =>
        cases hy with
        | int q' b => exact RunOk.same hS (by simp [Builtin.min_, Builtin.min2]) (kInt ..) h
        | _ => exact h.elim
      | _ => exact h.elim
    | _ => exact h.elim
  | _ => exact h.elim

theorem opLen_ok (hT : TabOk P T) (hS : St w m (hp K)) {t : TypeId} {x : AV} {u : Value} (hx : V w m x u) {ty : TypeId} (h : opLen T K k t x) : RunOk P w m (Builtin.len_ #[t] ty #[u]) k := by
  unfold opLen at h
  cases hg : T.t.get t with
  | none => rw [hg] at h; exact h.elim
  | some ti =>
    rw [hg] at h
    simp only at h
    obtain ⟨i, d, z, hi0, hu, hsz, _, hut, _⟩ := hT.t t ti hg
    cases hU : ti.u with
    | string =>
      rw [hU] at h hut
      simp only [utOk] at hut
      subst hut
      cases hx with
      | p x u hx =>
        cases hx with
        | str s l hl =>
          subst hl
          simp only [Array.length_toList] at h
          exact RunOk.same hS (u := .int .i64 (s.data.size : Int)) (by simp only [Builtin.len_, List.getElem?_toArray, List.getElem?_cons_zero, Sem.run_bind, run_underlying hu, Result.andThen_ok, Sem.run_pure]; rfl) (kInt ..) h
        | _ => exact h.elim
      | _ => exact h.elim
    | slice e =>
      rw [hU] at h hut
      simp only [utOk] at hut
      subst hut
      have hr : ∀ (a : Option Addr) (n c : Nat), (Builtin.len_ #[t] ty #[.slice a n c]).run P w = .ok (.int .i64 (n : Int)) w := by
        intro a n c
        simp only [Builtin.len_, List.getElem?_toArray, List.getElem?_cons_zero, Sem.run_bind, run_underlying hu, Result.andThen_ok, Sem.run_pure]
        rfl
      cases hx with
      | p x u hx =>
        cases hx with
        | nils => exact RunOk.same hS (hr none 0 0) (kInt ..) h
        | sl0 => exact RunOk.same hS (hr _ _ _) (kInt ..) h
        | sl => exact RunOk.same hS (hr _ _ _) (kInt ..) h
        | _ => exact h.elim
      | slr => exact RunOk.same hS (hr _ _ _) (kInt ..) h
      | slrNil => exact RunOk.same hS (hr _ _ _) (kInt ..) h
      | slrOld => exact RunOk.same hS (hr _ _ _) (kInt ..) h
      | _ => exact h.elim
    | _ => rw [hU] at h; exact h.elim

theorem zeroV_ok {ty : Nat} {ti : TI} (hti : TIok P ty ti) {q : AV → Prop} (h : zeroV ti q) : ∃ z v, (zeroValue ty).run P w = .ok z w ∧ V w m v z ∧ q v := by
  obtain ⟨i, d, z, hi, hu, _, _, _, hz, hzo, _, ha⟩ := hti
  have hr : (zeroValue ty).run P w = .ok z w := by simp [zeroValue, typeInfo, hi, hz]
  have hV := pvs_VL hzo w m
  unfold zeroV at h
  cases hg : ti.agg with
  | true =>
    rw [hg] at h ha
    simp only [fVL_eq] at h
    cases z with
    | agg A => exact ⟨_, _, hr, .agg _ _ hV.1 hV.2, h⟩
    | _ => simp [zAgg] at ha
  | false =>
    rw [hg] at h ha
    simp only at h
    split at h
    case h_2 => exact h.elim
    rename_i x hx
    rw [fV_eq] at h
    have hc : z.cells = #[z] := by cases z <;> first | rfl | simp [zAgg] at ha
    rw [hx, hc] at hV
    exact ⟨_, _, hr, hV.2 0 (by simp [pvs]) (by simp), h⟩

theorem opAssert_ok (hT : TabOk P T) (hS : St w m (hp K)) {xt ty : Nat} {ok : Bool} {x : AV} {u : Value} (hx : V w m x u) (h : opAssert T K k ty ok x) : RunOk P w m (Instr.typeAssert u xt ty ok) k := by
  unfold opAssert at h
  cases ok with
  | false => exact h.elim
  | true =>
    simp only at h
    cases hg : T.t.get ty with
    | none => rw [hg] at h; exact h.elim
    | some ti =>
      rw [hg] at h
      simp only at h
      have hti := hT.t ty ti hg
      cases hpl : ti.u.plain with
      | false => rw [hpl] at h; exact h.elim
      | true =>
        rw [hpl] at h
        simp only at h
        have hud : ∃ d, (underlying ty).run P w = .ok d w ∧ ∀ l, d ≠ .interface l := by
          obtain ⟨i, d, z, hi, hu, _, _, hut, _⟩ := hti
          refine ⟨d, run_underlying hu w, fun l e => ?_⟩
          subst e
          cases hU : ti.u <;> rw [hU] at hut hpl <;> simp [utOk, UT.plain] at hut hpl
        obtain ⟨d, hd, hdi⟩ := hud
        have fails : ∀ (xx : Value), (xx = .nilIface ∨ ∃ t v, xx = .iface t v ∧ t ≠ ty) → zeroV ti (fun z => k (.tup [z, .p (.bool false)]) K) → RunOk P w m (Instr.typeAssert xx xt ty true) k := by
          intro xx hxx hz
          obtain ⟨z, v, hr, hv, hk⟩ := zeroV_ok (w := w) (m := m) hti hz
          refine RunOk.same hS (u := .tuple #[z, .bool false]) ?_ (.tup _ _ rfl fun j hj hj' => ?_) hk
          · rcases hxx with rfl | ⟨t, v, rfl, hne⟩
            · unfold Instr.typeAssert
              simp only [Sem.run_bind, hd, Result.andThen_ok]
              cases d <;> first | (exact absurd rfl (hdi _)) | simp [hr]
            · unfold Instr.typeAssert
              simp only [Sem.run_bind, hd, Result.andThen_ok]
              cases d <;> first | (exact absurd rfl (hdi _)) | simp [hr, hne]
          · match j, hj with
            | 0, _ => exact hv
            | 1, _ => exact .p _ _ (.bool false)
        cases hx with
        | p v u hv =>
          cases hv with
          | nili => exact fails _ (.inl rfl) h
          | _ => exact h.elim
        | iface t v u hv =>
          simp only at h
          cases hb : Nat.beq t ty with
          | false =>
            rw [hb] at h
            exact fails _ (.inr ⟨t, u, rfl, fun e => by subst e; simp at hb⟩) h
          | true =>
            rw [hb] at h
            simp only [fV_eq] at h
            have := Nat.eq_of_beq_eq_true hb
            subst this
            refine RunOk.same hS (u := .tuple #[u, .bool true]) ?_ (.tup _ _ rfl fun j hj hj' => ?_) h
            · unfold Instr.typeAssert
              simp only [Sem.run_bind, hd, Result.andThen_ok]
              cases d <;> first | (exact absurd rfl (hdi _)) | simp
            · match j, hj with
              | 0, _ => exact hv
              | 1, _ => exact .p _ _ (.bool true)
        | _ => exact h.elim
end
end Go.AE

namespace Go.AE
open Op

section
variable {P : Program} {T : Tab} {w : World} {m : Mp} {K : List ABlk} {k : AV → List ABlk → Prop}

theorem ktIs_eq {a b : KT} (h : ktIs a b = true) : a = b := by
  cases a <;> cases b <;> simp [ktIs] at h ⊢
  exact h

theorem keyOf_val {a : AV} {κ : MK} (h : keyOf a = some κ) {u : Value} (hv : V w m a u) : u = κ.val := by
  cases hv with
  | p v u hv =>
    cases hv with
    | int q n => simp only [keyOf, Option.some.injEq] at h; subst h; rfl
    | str s l hl => simp only [keyOf, Option.some.injEq] at h; subst h hl; exact (MK.val_str s).symm
    | _ => simp [keyOf] at h
  | _ => simp [keyOf] at h

theorem mapTy_ok (hT : TabOk P T) {ty : Nat} {q : KT → TI → Prop} (h : mapTy T ty q) : ∃ kty e kt ei, P.underlying ty = some (.map kty e) ∧ P.underlying kty = some kt.desc ∧ TIok P e ei ∧ q kt ei := by
  unfold mapTy at h
  cases hg : T.t.get ty with
  | none => rw [hg] at h; exact h.elim
  | some ti =>
    rw [hg] at h
    simp only at h
    obtain ⟨i, d, z, hi0, hu, hsz, _, hut, _⟩ := hT.t ty ti hg
    cases hU : ti.u with
    | map kty e =>
      rw [hU] at h hut
      simp only [utOk] at hut h
      subst hut
      cases hk : T.t.get kty with
      | none => rw [hk] at h; exact h.elim
      | some ki =>
        rw [hk] at h
        simp only at h
        obtain ⟨i2, d2, z2, hi2, hu2, hsz2, _, hut2, _⟩ := hT.t kty ki hk
        cases hkt : ki.u.kt with
        | none => rw [hkt] at h; exact h.elim
        | some kt =>
          rw [hkt] at h
          simp only at h
          cases he : T.t.get e with
          | none => rw [he] at h; exact h.elim
          | some ei =>
            rw [he] at h
            refine ⟨kty, e, kt, ei, hu, ?_, hT.t e ei he, h⟩
            rw [hu2]
            cases hU2 : ki.u <;> rw [hU2] at hkt hut2 <;> simp [UT.kt] at hkt <;> subst hkt <;> simp [utOk] at hut2 <;> subst hut2 <;> rfl
    | _ => rw [hU] at h; exact h.elim

theorem run_getMap {r : Nat} {es : Array MapEntry} {clock : Nat} (hb : w.heap[r]? = some (.map es clock)) : (getObj r).run P w = .ok (.map es clock) w := by simp [getObj, Sem.run, hb]
theorem run_setMap {r : Nat} {es : Array MapEntry} {clock : Nat} (o : Obj) (hb : w.heap[r]? = some (.map es clock)) : (setObj r o).run P w = .ok () (w.putObj r o) := by simp [setObj, Sem.run, hb, World.putObj]

theorem checkKey_run {kty : Nat} {kt : KT} (hu : P.underlying kty = some kt.desc) (b : Bool) (κ : MK) (hκ : κ.kt = kt) : (Instr.checkKey b 10000 kty κ.val).run P w = .ok () w := by
  unfold Instr.checkKey
  simp only [Sem.run_bind, run_underlying hu, Result.andThen_ok]
  subst hκ
  cases κ <;> rfl

theorem findKey_run {kty : Nat} {kt : KT} (hu : P.underlying kty = some kt.desc) {es : List MapEntry} {κ : MK} {r : Option (Nat × Value)} (h : Instr.findNow kt.desc κ.val es 0 = some r) : (Instr.findKey kty κ.val es).run P w = .ok r w := by
  unfold Instr.findKey
  simp only [Sem.run_bind, run_underlying hu, Result.andThen_ok, h, Sem.run_pure]

theorem opMakeMap_ok (hT : TabOk P T) (hS : St w m (hp K)) {ty : Nat} (h : opMakeMap T K k ty) : RunOk P w m (Instr.makeMap ty none) k := by
  obtain ⟨kty, e, kt, ei, hu, huk, hei, h⟩ := mapTy_ok hT h
  simp only [fL_eq] at h
  have habs : m.L (len K) = .absent := hS.absent (hp_len K)
  have hTr := Tr.alloc w m (.map #[] 0) (len K) (.live 0 1 1 1) habs hS.Ilt
  refine ⟨.map (some w.heap.size), w.alloc (.map #[] 0), _, _, _, by simp [Instr.makeMap], hTr, ?_, ?_, h⟩
  · rw [hp_snoc]
    refine hS.alloc _ _ _ (hp_len K) _ ⟨rfl, #[], 0, fun _ => none, heap_alloc_new w _, ⟨MapIs.empty kt, fun _ _ _ => rfl, fun _ _ _ h => by simp at h, fun _ _ h => by simp at h⟩⟩
  · have := V.mref (w := w.alloc (.map #[] 0)) (m := m.set (len K) w.heap.size (.live 0 1 1 1)) (len K) 1 1 (by simp [Mp.set])
    simpa [Mp.set] using this

/-- what a lookup comes to, of what a map holds -/
theorem lookup_run (hT : TabOk P T) (hS : St w m (hp K)) {ty kty e : Nat} {kt : KT} {ei : TI} (hu : P.underlying ty = some (.map kty e)) (huk : P.underlying kty = some kt.desc) (hei : TIok P e ei)
    {x : AV} {u : Value} (hx : V w m x u) {κ : MK} (hκ : κ.kt = kt) (ok : Bool) {q : (MK → Option AV) → Prop} (h : fnM K kt x q) :
    ∃ g : MK → Option AV, q g ∧
      (∀ a, g κ = some a → ∃ v, V w m a v ∧ (Instr.lookup ty u κ.val ok).run P w = .ok (if ok then .tuple #[v, .bool true] else v) w) ∧
      (g κ = none → ∀ z, (zeroValue e).run P w = .ok z w → (Instr.lookup ty u κ.val ok).run P w = .ok (if ok then .tuple #[z, .bool false] else z) w) := by
  have gen : ∀ (b : Nat) (es : Array MapEntry) (clock : Nat) (r : MK → Option (Nat × Value)), w.heap[b]? = some (.map es clock) → MapIs kt es.toList clock r → ∀ (g : MK → Option AV),
      (∀ κ, κ.kt = kt → g κ = none → r κ = none) → (∀ κ a, κ.kt = kt → g κ = some a → ∃ i u, r κ = some (i, u) ∧ V w m a u) → q g → ∃ g : MK → Option AV, q g ∧
      (∀ a, g κ = some a → ∃ v, V w m a v ∧ (Instr.lookup ty (.map (some b)) κ.val ok).run P w = .ok (if ok then .tuple #[v, .bool true] else v) w) ∧
      (g κ = none → ∀ z, (zeroValue e).run P w = .ok z w → (Instr.lookup ty (.map (some b)) κ.val ok).run P w = .ok (if ok then .tuple #[z, .bool false] else z) w) := by
    intro b es clock r ho hi g hno hyes hq
    refine ⟨g, hq, fun a ha => ?_, fun hn z hz => ?_⟩
    · obtain ⟨i, v, h1, h2⟩ := hyes κ a hκ ha
      refine ⟨v, h2, ?_⟩
      have hf := hi.find κ hκ
      rw [h1] at hf
      simp only [Instr.lookup, Sem.run_bind, run_underlying hu, Result.andThen_ok, run_getMap ho, checkKey_run huk _ κ hκ, findKey_run huk hf, Sem.run_pure]
    · have hf := hi.find κ hκ
      rw [hno κ hκ hn] at hf
      simp only [Instr.lookup, Sem.run_bind, run_underlying hu, Result.andThen_ok, run_getMap ho, checkKey_run huk _ κ hκ, findKey_run huk hf, Sem.run_pure, hz]
  unfold fnM at h
  cases hx with
  | p x u hx =>
    cases hx with
    | nilm =>
      refine ⟨_, h, fun a ha => by simp at ha, fun _ z hz => ?_⟩
      simp only [Instr.lookup, Sem.run_bind, run_underlying hu, Result.andThen_ok, checkKey_run huk _ κ hκ, findKey_run (es := []) huk (by rfl : Instr.findNow kt.desc κ.val [] 0 = some none), Sem.run_pure, hz]
    | mp kt' g b es clock r hI ho hr hn hs hv =>
      simp only at h
      cases hk : ktIs kt' kt with
      | false => rw [hk] at h; exact h.elim
      | true =>
        rw [hk] at h
        have := ktIs_eq hk
        subst this
        refine gen b es clock r ho hr _ (fun κ hκ h => hn κ hκ ?_) (fun κ a hκ h => ?_) h
        · cases hq : g κ <;> simp [hq] at h ⊢
        · cases hq : g κ with
          | none => simp [hq] at h
          | some p =>
            simp only [hq, Option.some.injEq] at h
            subst h
            cases hr' : r κ with
            | none => have := hs κ p hκ hq; rw [hr'] at this; simp at this
            | some x => obtain ⟨i, v⟩ := x; exact ⟨i, v, rfl, .p _ _ (hv κ p i v hκ hq hr')⟩
    | _ => exact h.elim
  | mref r sz cap hL =>
    simp only at h
    cases hn : nth K r with
    | none => rw [hn] at h; exact h.elim
    | some b =>
      rw [hn] at h
      have hb := hS.blk r
      rw [hp_nth hn] at hb
      cases b with
      | mp kt' g st =>
        simp only at h
        cases hk : ktIs kt' kt with
        | false => rw [hk] at h; exact h.elim
        | true =>
          rw [hk] at h
          have := ktIs_eq hk
          subst this
          obtain ⟨_, es, clock, r2, h1, h2⟩ := hb
          exact gen _ es clock r2 h1 h2.is g h2.no h2.yes h
      | _ => exact h.elim
  | mrefOld r b hold =>
    exfalso
    simp only at h
    cases hn : nth K r with
    | none => rw [hn] at h; exact h.elim
    | some b =>
      rw [hn] at h
      have hb := hS.blk r
      rw [hp_nth hn] at hb
      cases b with
      | mp kt' g st => rw [hb.1] at hold; simp [Inf.old] at hold
      | _ => exact h.elim
  | _ => exact h.elim

theorem opLookup_same (hT : TabOk P T) (hS : St w m (hp K)) {ty : Nat} {ok : Bool} {x key : AV} {u v : Value} (hx : V w m x u) (hk : V w m key v) (h : opLookup T K k ty ok x key) :
    ∃ y a, (Instr.lookup ty u v ok).run P w = .ok y w ∧ V w m a y ∧ k a K := by
  obtain ⟨kty, e, kt, ei, hu, huk, hei, h⟩ := mapTy_ok hT h
  try simp only at h
  cases hko : keyOf key with
  | none => rw [hko] at h; exact h.elim
  | some κ =>
    rw [hko] at h
    simp only at h
    cases hki : ktIs κ.kt kt with
    | false => rw [hki] at h; exact h.elim
    | true =>
      rw [hki] at h
      simp only at h
      have hκ := ktIs_eq hki
      have := keyOf_val hko hk
      subst this
      obtain ⟨g, hg, h1, h2⟩ := lookup_run hT hS hu huk hei hx hκ ok h
      have tup : ∀ {a : AV} {y : Value} (b : Bool), V w m a y → V w m (.tup [a, .p (.bool b)]) (.tuple #[y, .bool b]) := fun b hv => .tup _ _ rfl fun j hj hj' => by
        match j, hj with
        | 0, _ => exact hv
        | 1, _ => exact kBool ..
      cases hgk : g κ with
      | some a =>
        have h3 := hg.y a hgk
        obtain ⟨y, hv, hr⟩ := h1 a hgk
        cases ok with
        | true => exact ⟨_, _, hr, tup true hv, h3⟩
        | false => exact ⟨_, _, hr, hv, h3⟩
      | none =>
        obtain ⟨z, y, hz, hv, h3⟩ := zeroV_ok (w := w) (m := m) hei (hg.n hgk)
        have hr := h2 hgk z hz
        cases ok with
        | true => exact ⟨_, _, hr, tup false hv, h3⟩
        | false => exact ⟨_, _, hr, hv, h3⟩

theorem opLookup_ok (hT : TabOk P T) (hS : St w m (hp K)) {ty : Nat} {ok : Bool} {x key : AV} {u v : Value} (hx : V w m x u) (hk : V w m key v) (h : opLookup T K k ty ok x key) : RunOk P w m (Instr.lookup ty u v ok) k := by
  obtain ⟨y, a, hr, hv, hk⟩ := opLookup_same hT hS hx hk h
  exact RunOk.same hS hr hv hk

theorem insM_same (g : MK → Option AV) (κ : MK) (a : AV) : insM g κ a κ = some a := by simp [insM]

theorem MpOk.ins {V' : AV → Value → Prop} {kt : KT} {es : List MapEntry} {clock : Nat} {g : MK → Option AV} {st : List (MK × Nat)} {r : MK → Option (Nat × Value)} (h : MpOk V' kt es clock g st r)
    {κ : MK} (hκ : κ.kt = kt) {a : AV} {v : Value} (hv : V' a v) :
    (∀ i u, r κ = some (i, u) → MpOk V' kt (es.modify i fun e => { e with key := κ.val, val := v }) clock (insM g κ a) st (fun k => if k = κ then some (i, v) else r k)) ∧
    (r κ = none → MpOk V' kt (es ++ [{ key := κ.val, val := v, born := clock }]) (clock + 1) (insM g κ a) st (fun k => if k = κ then some (es.length, v) else r k)) := by
  have hno : ∀ κ' (x : Option (Nat × Value)), κ'.kt = kt → insM g κ a κ' = none → (if κ' = κ then x else r κ') = none := by
    intro κ' x h1 h2
    by_cases e : κ' = κ
    · simp [insM, e] at h2
    · simp only [insM, e, if_false] at h2 ⊢; exact h.no κ' h1 h2
  have hyes : ∀ κ' b j, κ'.kt = kt → insM g κ a κ' = some b → ∃ i u, (if κ' = κ then some (j, v) else r κ') = some (i, u) ∧ V' b u := by
    intro κ' b j h1 h2
    by_cases e : κ' = κ
    · simp only [insM, e, if_true, Option.some.injEq] at h2 ⊢
      subst h2
      exact ⟨_, _, rfl, hv⟩
    · simp only [insM, e, if_false] at h2 ⊢; exact h.yes κ' b h1 h2
  constructor
  · intro i u hr
    refine ⟨h.is.modify hκ hr v, fun κ' => hno κ' _, fun κ' b => hyes κ' b i, fun κ' n hm => ?_⟩
    obtain ⟨h1, j, x, e, h2, h3, h4⟩ := h.st κ' n hm
    refine ⟨h1, ?_⟩
    have hj : (es.modify i fun e => { e with key := κ.val, val := v })[j]? = some (if i = j then { e with key := κ.val, val := v } else e) := by
      rw [List.getElem?_modify, h3]; simp only [Option.map_eq_map, Option.map_some]
      try (split <;> rfl)
    by_cases e' : κ' = κ
    · subst e'
      rw [hr] at h2
      simp only [Option.some.injEq, Prod.mk.injEq] at h2
      obtain ⟨rfl, rfl⟩ := h2
      refine ⟨i, v, _, by simp, hj, ?_⟩
      split <;> exact h4
    · refine ⟨j, x, _, by simp [e', h2], hj, ?_⟩
      split <;> exact h4
  · intro hr
    refine ⟨h.is.push hκ hr v, fun κ' => hno κ' _, fun κ' b => hyes κ' b _, fun κ' n hm => ?_⟩
    obtain ⟨h1, j, x, e, h2, h3, h4⟩ := h.st κ' n hm
    have e' : κ' ≠ κ := by rintro rfl; rw [hr] at h2; simp at h2
    have hj : j < es.length := by
      rcases Nat.lt_or_ge j es.length with h | h
      · exact h
      · rw [List.getElem?_eq_none h] at h3; simp at h3
    exact ⟨h1, j, x, e, by simp [e', h2], by rw [List.getElem?_append_left hj]; exact h3, h4⟩

theorem keyThatStays_run (κ : MK) : (Instr.keyThatStays κ.val κ.val).run P w = .ok κ.val w := by
  have : Instr.sameBits 10000 κ.val κ.val = true := by
    cases κ <;> simp [Instr.sameBits, MK.val, bytes_eq]
  simp [Instr.keyThatStays, this]

theorem modify_key {es : Array MapEntry} {i : Nat} {e : MapEntry} {v : Value} (h : es.toList[i]? = some e) (hk : e.key = v) : (es.modify i fun e => { e with key := v }) = es := by
  apply Array.ext_getElem?
  intro j
  rw [Array.getElem?_modify]
  by_cases hij : i = j
  · subst hij
    rw [Array.getElem?_toList] at h
    rw [h]
    subst hk
    simp
  · simp [hij]

theorem opMapUpdate_ok (hT : TabOk P T) (hS : St w m (hp K)) {ty : Nat} {x key y : AV} {u v z : Value} (hx : V w m x u) (hk : V w m key v) (hy : V w m y z) (h : opMapUpdate T K k ty x key y) : RunOkU P w m (Instr.mapUpdate ty u v z) k := by
  obtain ⟨kty, e, kt, ei, hu, huk, hei, h⟩ := mapTy_ok hT h
  try simp only at h
  cases hko : keyOf key with
  | none => rw [hko] at h; exact h.elim
  | some κ =>
    rw [hko] at h
    simp only at h
    cases hki : ktIs κ.kt kt with
    | false => rw [hki] at h; exact h.elim
    | true =>
      rw [hki] at h
      simp only at h
      have hκ := ktIs_eq hki
      have := keyOf_val hko hk
      subst this
      cases hx with
      | mref r sz cap hL =>
        simp only at h
        cases hn : nth K r with
        | none => rw [hn] at h; exact h.elim
        | some b =>
          rw [hn] at h
          have hb := hS.blk r
          rw [hp_nth hn] at hb
          cases b with
          | mp kt' g st =>
            simp only at h
            cases hkk : ktIs kt' kt with
            | false => rw [hkk] at h; exact h.elim
            | true =>
              rw [hkk] at h
              have := ktIs_eq hkk
              subst this
              simp only [fL_eq] at h
              obtain ⟨hl, es, clock, r2, h1, h2⟩ := hb
              have hlive : (m.L r).isLive := by rw [hl]; trivial
              have hf := h2.is.find κ hκ
              have fin : ∀ (es' : Array MapEntry) (clock' : Nat) (r3 : MK → Option (Nat × Value)), MpOk (V w m) kt' es'.toList clock' (insM g κ y) st r3 →
                  (Instr.mapUpdate ty (.map (some (m.ρ r))) κ.val z).run P w = .ok () (w.putObj (m.ρ r) (.map es' clock')) → RunOkU P w m (Instr.mapUpdate ty (.map (some (m.ρ r))) κ.val z) k := by
                intro es' clock' r3 ho hr
                have hTr := Tr.putObj hS r hlive (.map es' clock')
                refine ⟨_, m, _, hr, hTr, ?_, h⟩
                rw [hp_set K r _ _ hn]
                refine hS.putObj r hlive _ _ ⟨hl, es', clock', r3, ?_, ho.mono fun _ _ _ _ hv => hv.mono hTr⟩
                simp [World.putObj, hS.lt r hlive]
              obtain ⟨hm, hpu⟩ := h2.ins hκ hy
              cases hr : r2 κ with
              | some iu =>
                obtain ⟨i, u'⟩ := iu
                rw [hr] at hf
                obtain ⟨e0, he0, hek, _⟩ := h2.is.at hκ hr
                have he0' : es[i]? = some e0 := by rw [← Array.getElem?_toList]; exact he0
                refine fin (es.modify i fun e => { e with key := κ.val, val := z }) clock _ (by rw [Array.toList_modify]; exact hm i u' hr) ?_
                simp only [Instr.mapUpdate, Sem.run_bind, run_underlying hu, Result.andThen_ok, run_getMap h1, checkKey_run huk _ κ hκ, findKey_run huk hf, he0', Option.map_some, Option.getD_some, hek, keyThatStays_run, run_setMap _ h1]
              | none =>
                rw [hr] at hf
                refine fin (es.push { key := κ.val, val := z, born := clock }) (clock + 1) _ (by rw [Array.toList_push]; exact hpu hr) ?_
                simp only [Instr.mapUpdate, Sem.run_bind, run_underlying hu, Result.andThen_ok, run_getMap h1, checkKey_run huk _ κ hκ, findKey_run huk hf, run_setMap _ h1]
          | _ => exact h.elim
      | mrefOld r b hold =>
        exfalso
        simp only at h
        cases hn : nth K r with
        | none => rw [hn] at h; exact h.elim
        | some b =>
          rw [hn] at h
          have hb := hS.blk r
          rw [hp_nth hn] at hb
          cases b with
          | mp kt' g st => rw [hb.1] at hold; simp [Inf.old] at hold
          | _ => exact h.elim
      | _ => exact h.elim

theorem opMapEntry_ok (hT : TabOk P T) (hS : St w m (hp K)) {ty : Nat} {x key : AV} {u v : Value} (hx : V w m x u) (hk : V w m key v) (h : opMapEntry T K k ty x key) : RunOk P w m (Instr.mapEntry ty u v) k := by
  obtain ⟨kty, e, kt, ei, hu, huk, hei, h⟩ := mapTy_ok hT h
  try simp only at h
  cases hko : keyOf key with
  | none => rw [hko] at h; exact h.elim
  | some κ =>
    rw [hko] at h
    simp only at h
    cases hki : ktIs κ.kt kt with
    | false => rw [hki] at h; exact h.elim
    | true =>
      rw [hki] at h
      simp only at h
      have hκ := ktIs_eq hki
      have := keyOf_val hko hk
      subst this
      cases hx with
      | mref r sz cap hL =>
        simp only at h
        cases hn : nth K r with
        | none => rw [hn] at h; exact h.elim
        | some b =>
          rw [hn] at h
          have hb := hS.blk r
          rw [hp_nth hn] at hb
          cases b with
          | mp kt' g st =>
            simp only at h
            cases hkk : ktIs kt' kt with
            | false => rw [hkk] at h; exact h.elim
            | true =>
              rw [hkk] at h
              have := ktIs_eq hkk
              subst this
              simp only [fL_eq] at h
              obtain ⟨hl, es, clock, r2, h1, h2⟩ := hb
              have hlive : (m.L r).isLive := by rw [hl]; trivial
              have hf := h2.is.find κ hκ
              have fin : ∀ (es' : Array MapEntry) (clock' : Nat) (r3 : MK → Option (Nat × Value)) (g' : MK → Option AV) (n : Nat) (a : AV) (y : Value), MpOk (V w m) kt' es'.toList clock' g' [(κ, n)] r3 → V w m a y →
                  (Instr.mapEntry ty (.map (some (m.ρ r))) κ.val).run P w = .ok (.tuple #[y, goInt n]) (w.putObj (m.ρ r) (.map es' clock')) → k (.tup [a, .p (.int .i64 n)]) (setN K r (.mp kt' g' [(κ, n)])) → RunOk P w m (Instr.mapEntry ty (.map (some (m.ρ r))) κ.val) k := by
                intro es' clock' r3 g' n a y ho hv hr hk
                have hTr := Tr.putObj hS r hlive (.map es' clock')
                refine ⟨_, _, m, _, _, hr, hTr, ?_, ?_, hk⟩
                · rw [hp_set K r _ _ hn]
                  refine hS.putObj r hlive _ _ ⟨hl, es', clock', r3, ?_, ho.mono fun _ _ _ _ hv => hv.mono hTr⟩
                  simp [World.putObj, hS.lt r hlive]
                · exact .tup _ _ rfl fun j hj hj' => by
                    match j, hj with
                    | 0, _ => exact hv.mono hTr
                    | 1, _ => exact kInt ..
              cases hr : r2 κ with
              | some iu =>
                obtain ⟨i, u'⟩ := iu
                rw [hr] at hf
                obtain ⟨e0, he0, hek, _⟩ := h2.is.at hκ hr
                have he0' : es[i]? = some e0 := by rw [← Array.getElem?_toList]; exact he0
                cases hgk : g κ with
                | none => have := h2.no κ hκ hgk; rw [hr] at this; simp at this
                | some a =>
                  obtain ⟨i', y, h3, h4⟩ := h2.yes κ a hκ hgk
                  rw [hr] at h3
                  simp only [Option.some.injEq, Prod.mk.injEq] at h3
                  obtain ⟨rfl, rfl⟩ := h3
                  refine fin es clock r2 g e0.born a u' ⟨h2.is, h2.no, h2.yes, fun κ' n hm => ?_⟩ h4 ?_ ((h e0.born).y a hgk)
                  · simp only [List.mem_singleton, Prod.mk.injEq] at hm
                    obtain ⟨rfl, rfl⟩ := hm
                    exact ⟨hκ, i, u', e0, hr, he0, rfl⟩
                  · simp only [Instr.mapEntry, Sem.run_bind, run_underlying hu, Result.andThen_ok, run_getMap h1, checkKey_run huk _ κ hκ, findKey_run huk hf, he0', Option.map_some, Option.getD_some, hek, keyThatStays_run, run_setMap _ h1, Sem.run_pure, modify_key he0 hek]
              | none =>
                rw [hr] at hf
                cases hgk : g κ with
                | some a => obtain ⟨i', y, h3, h4⟩ := h2.yes κ a hκ hgk; rw [hr] at h3; simp at h3
                | none =>
                  obtain ⟨z, y, hz, hv, h3⟩ := zeroV_ok (w := w) (m := m) hei ((h clock).n hgk)
                  have hpu := (h2.ins hκ hv).2 hr
                  have hmp : MpOk (V w m) kt' (es.toList ++ [{ key := κ.val, val := z, born := clock }]) (clock + 1) (insM g κ y) [(κ, clock)] (fun k => if k = κ then some (es.toList.length, z) else r2 k) := by
                    refine ⟨hpu.is, hpu.no, hpu.yes, fun κ' n hm => ?_⟩
                    simp only [List.mem_singleton, Prod.mk.injEq] at hm
                    obtain ⟨rfl, rfl⟩ := hm
                    exact ⟨hκ, es.toList.length, z, { key := κ'.val, val := z, born := n }, by simp, by simp, rfl⟩
                  refine fin (es.push { key := κ.val, val := z, born := clock }) (clock + 1) _ _ clock y z (by rw [Array.toList_push]; exact hmp) hv ?_ h3
                  · simp only [Instr.mapEntry, Sem.run_bind, run_underlying hu, Result.andThen_ok, run_getMap h1, checkKey_run huk _ κ hκ, findKey_run huk hf, hz, run_setMap _ h1, Sem.run_pure]
          | _ => exact h.elim
      | mrefOld r b hold =>
        exfalso
        simp only at h
        cases hn : nth K r with
        | none => rw [hn] at h; exact h.elim
        | some b =>
          rw [hn] at h
          have hb := hS.blk r
          rw [hp_nth hn] at hb
          cases b with
          | mp kt' g st => rw [hb.1] at hold; simp [Inf.old] at hold
          | _ => exact h.elim
      | _ => exact h.elim

theorem opEntryStore_ok (hS : St w m (hp K)) {ty : Nat} {x s y : AV} {u v z : Value} (hx : V w m x u) (hs : V w m s v) (hy : V w m y z) (h : opEntryStore K k x s y) : RunOkU P w m (Instr.entryStore ty u v z) k := by
  unfold opEntryStore at h
  cases hx with
  | mref r sz cap hL =>
    simp only at h
    cases hs with
    | p s v hs =>
      cases hs with
      | int q b =>
        simp only at h
        cases hn : nth K r with
        | none => rw [hn] at h; exact h.elim
        | some bl =>
          rw [hn] at h
          have hb := hS.blk r
          rw [hp_nth hn] at hb
          cases bl with
          | mp kt' g st =>
            split at h
            case h_2 => exact h.elim
            rename_i kt2 g2 κ n heq
            injection heq with heq
            injection heq with e1 e2 e3
            subst e1 e2 e3
            obtain ⟨rfl, h⟩ := h
            simp only [fL_eq] at h
            obtain ⟨hl, es, clock, r2, h1, h2⟩ := hb
            have hlive : (m.L r).isLive := by rw [hl]; trivial
            obtain ⟨hκ, i, x, e0, hr, he0, hbo⟩ := h2.st κ n (by simp)
            have hm := (h2.ins hκ hy).1 i x hr
            have he0' : es[i]? = some e0 := by rw [← Array.getElem?_toList]; exact he0
            obtain ⟨e1, he1, hek, _⟩ := h2.is.at hκ hr
            rw [he0] at he1
            injection he1 with he1
            subst he1
            have hfi : es.findIdx? (fun e => ((e.born : Int) == (n : Int))) = some i := by
              rw [Array.findIdx?_eq_some_iff_getElem]
              obtain ⟨hlt, hge⟩ := Array.getElem?_eq_some_iff.1 he0'
              refine ⟨hlt, by rw [hge, hbo]; simp, fun j hj hb => ?_⟩
              have hj' : es.toList[j]? = some es[j] := by simp [List.getElem?_eq_getElem, Nat.lt_trans hj hlt]
              have := h2.is.born j i es[j] e0 hj' he0 (by rw [hbo]; exact Int.ofNat.inj (by simpa using hb))
              omega
            have hTr := Tr.putObj hS r hlive (.map (es.modify i fun e => { e with key := κ.val, val := z }) clock)
            refine ⟨_, m, _, ?_, hTr, ?_, h⟩
            · have hsame : (es.modify i fun e => { e with val := z }) = es.modify i fun e => { e with key := κ.val, val := z } := by
                apply Array.ext_getElem?
                intro j
                rw [Array.getElem?_modify, Array.getElem?_modify]
                by_cases hij : i = j
                · subst hij
                  rw [he0']
                  simp [hek]
                · simp [hij]
              simp only [Instr.entryStore, Sem.run_bind, Result.andThen_ok, run_getMap h1, asInt, asIntOf, Sem.run_pure, hfi, run_setMap _ h1, hsame]
            · rw [hp_set K r _ _ hn]
              have hmp : MpOk (V w m) kt' (es.modify i fun e => { e with key := κ.val, val := z }).toList clock (insM g κ y) [] (fun k => if k = κ then some (i, z) else r2 k) := by
                rw [Array.toList_modify]; exact ⟨hm.is, hm.no, hm.yes, fun _ _ hm => by simp at hm⟩
              exact hS.putObj r hlive _ (.mp kt' (insM g κ y) []) ⟨hl, es.modify i fun e => { e with key := κ.val, val := z }, clock, _, by simp [World.putObj, hS.lt r hlive], hmp.mono fun _ _ _ _ hv => V.mono hTr hv⟩
          | _ => exact h.elim
      | _ => exact h.elim
    | _ => exact h.elim
  | mrefOld r b hold =>
    exfalso
    simp only at h
    cases hs with
    | p s v hs =>
      cases hs with
      | int q b =>
        simp only at h
        cases hn : nth K r with
        | none => rw [hn] at h; exact h.elim
        | some bl =>
          rw [hn] at h
          have hb := hS.blk r
          rw [hp_nth hn] at hb
          cases bl with
          | mp kt' g st => rw [hb.1] at hold; simp [Inf.old] at hold
          | _ => exact h.elim
      | _ => exact h.elim
    | _ => exact h.elim
  | _ => exact h.elim
end
end Go.AE

namespace Go.AE
section
variable {P : Program} {T : Tab}

/-! ### frames -/
theorem EnvOk.ev {w : World} {m : Mp} {t : List (Nat × AV)} {a : Act} (h : EnvOk w m t a.tmps) (o : Operand) : V w m (ev t o) (a.eval o) := by
  cases o with
  | tmp i => exact h i
  | func f => exact .p _ _ (.fn f)
  | global g => exact .junk _
  | const v =>
    simp only [AE.ev, Act.eval]
    unfold ofConst
    split
    · exact .p _ _ (.int ..)
    · exact .p _ _ (.bool ..)
    · exact .p _ _ (.str _ _ rfl)
    · exact .p _ _ .nilp
    · exact .p _ _ .nils
    · exact .p _ _ .nilf
    · exact .p _ _ .nili
    · exact .p _ _ .nilm
    · exact .junk _

theorem EnvOk.mono {w w' : World} {m m' : Mp} (t : Tr w m w' m') {e : List (Nat × AV)} {tmps : Array Value} (h : EnvOk w m e tmps) : EnvOk w' m' e tmps := fun d => (h d).mono t

theorem EnvOk.evs {w : World} {m : Mp} {t : List (Nat × AV)} {a : Act} (h : EnvOk w m t a.tmps) (l : List Operand) : VL w m (evs t l) (l.map a.eval).toArray := by
  induction l with
  | nil => exact VL.nil w m
  | cons x l ih =>
    refine ⟨by have := ih.1; simp [AE.evs] at this ⊢; exact this, fun j hj hj' => ?_⟩
    cases j with
    | zero => simpa [AE.evs] using h.ev x
    | succ j =>
      have hj2 : j < (AE.evs t l).length := by simpa [AE.evs] using hj
      have := ih.2 j hj2 (by simpa using hj')
      simpa [AE.evs] using this

theorem EnvOk.parts {w : World} {m : Mp} {t : List (Nat × AV)} {a : Act} (h : EnvOk w m t a.tmps) (l : List (Nat × Operand)) : PL w m (partsOf t l) (l.map fun (i, x) => (i, a.eval x)) := by
  induction l with
  | nil => trivial
  | cons x l ih => exact ⟨rfl, h.ev x.2, ih⟩

theorem EnvOk.opt {w : World} {m : Mp} {t : List (Nat × AV)} {a : Act} (h : EnvOk w m t a.tmps) (o : Option Operand) : bndOk w m (optEv t o) (o.map a.eval) := by
  cases o with
  | none => trivial
  | some x => exact h.ev x

theorem look_cons (t : List (Nat × AV)) (d : Nat) (v : AV) (i : Nat) : look ((d, v) :: t) i = if d = i then v else look t i := by
  simp only [look]
  by_cases h : d = i
  · subst h; simp
  · rw [if_neg h]
    have : Nat.beq d i = false := by cases e : Nat.beq d i with
      | true => exact absurd (Nat.eq_of_beq_eq_true e) h
      | false => rfl
    rw [this]

theorem EnvOk.set {w : World} {m : Mp} {t : List (Nat × AV)} {tmps : Array Value} (h : EnvOk w m t tmps) {d : Nat} (hd : d < tmps.size) {v : AV} {u : Value} (hv : V w m v u) : EnvOk w m ((d, v) :: t) (tmps.setIfInBounds d u) := by
  intro i
  rw [look_cons]
  by_cases e : d = i
  · subst e
    rw [if_pos rfl]
    simpa [Array.getD, hd] using hv
  · rw [if_neg e]
    have : (tmps.setIfInBounds d u).getD i undef = tmps.getD i undef := by
      simp only [Array.getD_eq_getD_getElem?, Array.getElem?_setIfInBounds]
      rw [if_neg e]
    rw [this]
    exact h i

theorem EnvOk.put {w : World} {m : Mp} {t : List (Nat × AV)} {a : Act} (h : EnvOk w m t a.tmps) {d : Option Nat} (hd : ∀ x, d = some x → x < a.tmps.size) {v : AV} {u : Value} (hv : V w m v u) : EnvOk w m (put t d v) (a.put d u).tmps := by
  cases d with
  | none => exact h
  | some d => exact h.set (hd d rfl) hv

theorem EnvOk.know {w : World} {m : Mp} {t : List (Nat × AV)} {tmps : Array Value} (h : EnvOk w m t tmps) {d : Nat} {b : Bool} (hd : look t d = .p (.bool b)) : EnvOk w m (know t d b) tmps := by
  intro i
  simp only [AE.know]
  rw [look_cons]
  by_cases e : d = i
  · subst e
    rw [if_pos rfl]
    have := h d
    rwa [hd] at this
  · rw [if_neg e]; exact h i

theorem EnvOk.bool {w : World} {m : Mp} {t : List (Nat × AV)} {tmps : Array Value} (h : EnvOk w m t tmps) {d : Nat} {b : Bool} (hd : look t d = .p (.bool b)) : tmps[d]? = some (.bool b) := by
  have hv := h d
  rw [hd] at hv
  have e : tmps.getD d undef = .bool b := by
    cases hv with
    | p v u hv =>
      generalize tmps.getD d undef = x at hv
      cases hv
      rfl
  rw [Array.getD_eq_getD_getElem?] at e
  cases hx : tmps[d]? with
  | none => rw [hx] at e; simp [undef] at e
  | some y => rw [hx] at e; simp at e; rw [e]

/-! ### calls -/
def Post (we : World) (me : Mp) (k : AO → List ABlk → Prop) : Ending → World → Prop
  | .returned u, w' => ∃ m' a K', Tr we me w' m' ∧ St w' m' (hp K') ∧ V w' m' a u ∧ k (.ret a) K'
  | .panicked ch, w' => ∃ m' a u K', ch = [{ v := u, recovered := false }] ∧ Tr we me w' m' ∧ St w' m' (hp K') ∧ V w' m' a u ∧ k (.pan a) K'
  | .outgrown, _ => False

/-- a function that can be entered -/
def Ent (P : Program) (f : FuncId) : Prop := ∃ fn, P.funcs[f]? = some fn ∧ (fn.name == "runtime.NumGoroutine") = false ∧ fn.body.isSome = true

/-- the abstract contract of a call -/
def ACalls (P : Program) (f : FuncId) (args : List AV) (K : List ABlk) (k : AO → List ABlk → Prop) : Prop :=
  Ent P f ∧ ∀ w m Args, St w m (hp K) → VL w m args Args → Calls P f Args w (Post w m k)

/-- a fence that lets everything in, about a frame of whatever make -/
def FW (ro : Option Nat) : Fence := { Fence.wide with round := ro }
theorem FW.calls {ro : Option Nat} {n : Nat} {f : FuncId} {args : Array Value} {w : World} {R : Ending → World → Prop} (h : Calls P f args w R) : CallsIn (FW ro) n P f args w R :=
  (callsIn_wide (n := n)).2 h
theorem FW.depth {ro : Option Nat} {n : Nat} : (FW ro).depth.isSome = true → 1 ≤ n := fun h => by simp [FW, Fence.wide] at h

/-- the abstract contract of a round -/
def ARound (P : Program) (r : Nat) (args : List AV) (K : List ABlk) (k : AO → List ABlk → Prop) : Prop :=
  ∀ w m Args u, St w m (hp K) → VL w m args Args → V w m (.yld r) u → ∃ l f tmps assign body, u = .func (.yield l) #[] #[] ∧
    (Instr.yield l Args).run P w = .ok (.round l f tmps assign body) w ∧ ∀ n, RoundIn (FW none) n P l f tmps assign body w (Post w m k)

def CallOk (P : Program) (call : ACall) : Prop := ∀ f args K k, call f args K k →
  (Nat.blt f 1000000000 = true → ACalls P f args K k) ∧ (Nat.blt f 1000000000 = false → ARound P (Nat.sub f 1000000000) args K k)

theorem callF_ok {call : ACall} (hcall : CallOk P call) {f : FuncId} {args : List AV} {K : List ABlk} {k : AO → List ABlk → Prop} (h : callF call f args K k) : ACalls P f args K k := by
  unfold callF at h
  split at h
  · rename_i hb; exact (hcall _ _ _ _ h).1 hb
  · exact h.elim

theorem callFunc_run {f : FuncId} (h : Ent P f) (args : Array Value) (w : World) : (callFunc f args).run P w = .ok (.enter f args) w := by
  obtain ⟨fn, h1, h2, h3⟩ := h
  have h4 : fn.body.isNone = false := by cases hb : fn.body <;> simp_all
  simp only [callFunc, Sem.run_bind, run_program, Result.andThen_ok, h1, h2, h4, Bool.false_eq_true, if_false, Sem.run_pure]

/-! ### one operation -/
theorem exec_val {s : Sem Value} {w w' : World} {u : Value} (h : s.run P w = .ok u w') : (do pure (Next.value (← s)) : Sem Next).run P w = .ok (.value u) w' := by
  simp [h]

variable {call : ACall} {w : World} {m : Mp} {K : List ABlk} {k kp : AV → List ABlk → Prop} {next : Act → World → Prop} {Q : Exit → Act → World → Prop} {a : Act} {t : List (Nat × AV)} {ro : Option Nat} {nn : Nat}

theorem upon_val {o : Oper} {s : Sem Value} (hk : ∀ w' m' v K' u, Tr w m w' m' → St w' m' (hp K') → V w' m' v u → k v K' → next (a.put o.dst u) w') (h : RunOk P w m s k) :
    o.uponIn (FW ro) nn P a next Q ((do pure (Next.value (← s)) : Sem Next).run P w) := by
  obtain ⟨u, w', m', v, K', hr, h1, h2, h3, h4⟩ := h
  rw [exec_val hr]
  exact hk w' m' v K' u h1 h2 h3 h4

theorem aop_ok (hT : TabOk P T) (hcall : CallOk P call) {o : Oper} (hS : St w m (hp K)) (hE : EnvOk w m t a.tmps)
    (hk : ∀ w' m' v K' u, Tr w m w' m' → St w' m' (hp K') → V w' m' v u → k v K' → next (a.put o.dst u) w')
    (hpn : ∀ w' m' v K' u, Tr w m w' m' → St w' m' (hp K') → V w' m' v u → kp v K' → Q (.panic [{ v := u, recovered := false }]) a w')
    (h : aop T call o t K k kp) : o.uponIn (FW ro) nn P a next Q ((execOp a.eval o).run P w) := by
  unfold aop at h
  unfold execOp
  cases hop : o.op with
  | move x =>
    rw [hop] at h
    simp only [fV_eq] at h
    exact hk w m _ K _ (Tr.refl w m) hS (hE.ev x) h
  | assign x =>
    rw [hop] at h
    simp only [fV_eq] at h
    exact hk w m _ K _ (Tr.refl w m) hS (hE.ev x) h
  | pick c x y =>
    rw [hop] at h
    simp only at h
    have hc := hE.ev c
    split at h
    case h_2 => exact h.elim
    rename_i q hq
    rw [hq] at hc
    cases hc with
    | p v u hv =>
      cases hvv : a.eval c with
      | bool b =>
        rw [hvv] at hv
        cases hv
        simp only [asBool, hvv]
        cases q with
        | true => simp only [two, fV_eq] at h; exact hk w m _ K _ (Tr.refl w m) hS (hE.ev x) h
        | false => simp only [two, fV_eq] at h; exact hk w m _ K _ (Tr.refl w m) hS (hE.ev y) h
      | _ => rw [hvv] at hv; cases hv
  | alloc e => rw [hop] at h; exact upon_val hk (opAlloc_ok hT hS h)
  | box e x => rw [hop] at h; exact upon_val hk (opBox_ok hS (hE.ev x) h)
  | build ty ps => rw [hop] at h; exact upon_val hk (opBuild_ok hT hS (by simpa using hE.parts ps.toList) h)
  | buildSlice ty n ps => rw [hop] at h; exact upon_val hk (opBuildSlice_ok hT hS (by simpa using hE.parts ps.toList) h)
  | load ty x => rw [hop] at h; exact upon_val hk (opLoad_ok hT hS (hE.ev x) h)
  | store ty x y =>
    rw [hop] at h
    obtain ⟨w', m', K', hr, h1, h2, h3⟩ := opStore_ok hT hS (hE.ev x) (hE.ev y) h
    have : (do Instr.storeAt ty (a.eval x) (a.eval y); pure Next.skip : Sem Next).run P w = .ok .skip w' := by simp [hr]
    simp only [this]
    exact hk w' m' .junk K' undef h1 h2 (.junk _) h3
  | makeMap ty r =>
    rw [hop] at h
    cases r with
    | none => exact upon_val hk (opMakeMap_ok hT hS h)
    | some _ => exact h.elim
  | lookup ty x y ok => rw [hop] at h; exact upon_val hk (opLookup_ok hT hS (hE.ev x) (hE.ev y) h)
  | mapEntry ty x y => rw [hop] at h; exact upon_val hk (opMapEntry_ok hT hS (hE.ev x) (hE.ev y) h)
  | mapUpdate ty x y z =>
    rw [hop] at h
    obtain ⟨w', m', K', hr, h1, h2, h3⟩ := opMapUpdate_ok hT hS (hE.ev x) (hE.ev y) (hE.ev z) h
    have : (do Instr.mapUpdate ty (a.eval x) (a.eval y) (a.eval z); pure Next.skip : Sem Next).run P w = .ok .skip w' := by simp [hr]
    simp only [this]
    exact hk w' m' .junk K' undef h1 h2 (.junk _) h3
  | insert ty x y z =>
    rw [hop] at h
    obtain ⟨w', m', K', hr, h1, h2, h3⟩ := opMapUpdate_ok hT hS (hE.ev x) (hE.ev y) (hE.ev z) h
    have : (do Instr.mapUpdate ty (a.eval x) (a.eval y) (a.eval z); pure Next.skip : Sem Next).run P w = .ok .skip w' := by simp [hr]
    simp only [this]
    exact hk w' m' .junk K' undef h1 h2 (.junk _) h3
  | entryStore ty x y z =>
    rw [hop] at h
    obtain ⟨w', m', K', hr, h1, h2, h3⟩ := opEntryStore_ok (ty := ty) hS (hE.ev x) (hE.ev y) (hE.ev z) h
    have : (do Instr.entryStore ty (a.eval x) (a.eval y) (a.eval z); pure Next.skip : Sem Next).run P w = .ok .skip w' := by rw [Sem.run_bind, hr]; rfl
    simp only [this]
    exact hk w' m' .junk K' undef h1 h2 (.junk _) h3
  | nilCheck x =>
    rw [hop] at h
    simp only at h
    have hx := hE.ev x
    simp only
    generalize ev t x = ax at h hx
    generalize a.eval x = ux at hx
    cases hx with
    | p v u hv =>
      cases hv with
      | fn f => exact hk w m _ K _ (Tr.refl w m) hS (.p _ _ (.fn f)) h
      | _ => exact h.elim
    | ptr r ver n i off sz cap hL hi => exact hk w m _ K _ (Tr.refl w m) hS (.ptr r ver n i off sz cap hL hi) h
    | ptrOld r ver n i off b o' hold => exact hk w m _ K _ (Tr.refl w m) hS (.ptrOld r ver n i off b o' hold) h
    | rop cs off b o' u hI hc hv => exact hk w m _ K _ (Tr.refl w m) hS (.rop cs off b o' u hI hc hv) h
    | fn f first cap A B hA hB h1 h2 => exact hk w m _ K _ (Tr.refl w m) hS (.fn f first cap A B hA hB h1 h2) h
    | iface ty v u hv => exact hk w m _ K _ (Tr.refl w m) hS (.iface ty v u hv) h
    | _ => exact h.elim
  | binOp op ty x y yt =>
    rw [hop] at h
    simp only at h
    cases hc : nilC y with
    | none => rw [hc] at h; exact upon_val hk (opBin_ok hT hS (hE.ev x) (hE.ev y) x y h)
    | some c =>
      rw [hc] at h
      have hy : ∃ v, y = .const v := by
        rcases nilC_val hc with ⟨rfl, _⟩ | ⟨rfl, _⟩ | ⟨rfl, _⟩ <;> exact ⟨_, rfl⟩
      obtain ⟨v, rfl⟩ := hy
      exact upon_val hk (opNilCmp_ok hT hS (hE.ev x) x (.const v) hc rfl h)
  | unOp op ty x => rw [hop] at h; exact upon_val hk (opUn_ok hS (hE.ev x) h)
  | convert s d x => rw [hop] at h; exact upon_val hk (opConv_ok hT hS (hE.ev x) h)
  | makeInterface ty x => rw [hop] at h; exact upon_val hk (opIface_ok hT hS (hE.ev x) h)
  | makeFunc fn x y =>
    rw [hop] at h
    cases fn with
    | func f =>
      simp only [fVL_eq] at h
      have h1 := hE.evs x.toList
      have h2 := hE.evs y.toList
      have e1 : (x.toList.map a.eval).toArray = x.map a.eval := by apply Array.ext'; simp
      have e2 : (y.toList.map a.eval).toArray = y.map a.eval := by apply Array.ext'; simp
      rw [e1] at h1
      rw [e2] at h2
      exact hk w m _ K _ (Tr.refl w m) hS (.fn f _ _ _ _ h1.1 h2.1 h1.2 h2.2) h
    | _ => exact h.elim
  | makeSlice ty l c => rw [hop] at h; exact upon_val hk (opMakeSlice_ok hT hS (hE.ev l) (hE.ev c) h)
  | slice ty x lo hi mx =>
    rw [hop] at h
    cases mx with
    | none => exact upon_val hk (opSlice_ok hT hS (hE.ev x) (hE.opt lo) (hE.opt hi) h)
    | some _ => exact h.elim
  | fieldAddr ty x i => rw [hop] at h; exact upon_val hk (opFieldAddr_ok hT hS (hE.ev x) h)
  | field ty x i => rw [hop] at h; exact upon_val hk (opField_ok hT hS (hE.ev x) h)
  | indexAddr ty x i => rw [hop] at h; exact upon_val hk (opIndexAddr_ok hT hS (hE.ev x) (hE.ev i) h)
  | index ty x i => rw [hop] at h; exact upon_val hk (opIndex_ok hT hS (hE.ev x) (hE.ev i) h)
  | extract x i => rw [hop] at h; exact upon_val hk (opExtract_ok hS (hE.ev x) h)
  | typeAssert x xt ty ok => rw [hop] at h; exact upon_val hk (opAssert_ok hT hS (hE.ev x) h)
  | panic x =>
    rw [hop] at h
    simp only at h
    have hx := hE.ev x
    split at h
    case h_2 => exact h.elim
    rename_i ty v hq
    rw [hq] at hx
    generalize hux : a.eval x = ux at hx
    cases hx with
    | iface ty v u hv =>
      have : (do pure (Next.value (← Instr.panic (a.eval x))) : Sem Next).run P w = .halt (.panic (.iface ty u)) w := by simp [Instr.panic, hux]
      simp only [this]
      exact hpn w m _ K _ (Tr.refl w m) hS (.iface ty v u hv) h
  | call c =>
    rw [hop] at h
    simp only at h ⊢
    cases hc : c.callee with
    | invoke r n => rw [hc] at h; exact h.elim
    | builtin b =>
      rw [hc] at h
      simp only at h
      have hres : (resolve a.eval c o.type).run P w = .ok { target := .builtin b c.argTypes o.type (c.args.map fun | .const _ => true | _ => false), args := c.args.map a.eval } w := by
        simp only [resolve, hc]; rfl
      cases b with
      | len =>
        simp only at h
        split at h
        case h_2 => exact h.elim
        rename_i x hx
        split at h
        case h_2 => exact h.elim
        rename_i ty hty
        have hargs : c.args = #[x] := by apply Array.ext'; simpa using hx
        have htys : c.argTypes = #[ty] := by apply Array.ext'; simpa using hty
        have hr := opLen_ok (ty := o.type) hT hS (hE.ev x) h
        have e : (do let d ← resolve a.eval c o.type; invoke d.target d.args : Sem Next).run P w = (do pure (Next.value (← Builtin.len_ #[ty] o.type #[a.eval x])) : Sem Next).run P w := by
          rw [Sem.run_bind, hres]
          simp [invoke, builtin, hargs, htys]
        rw [e]
        exact upon_val hk hr
      | append =>
        simp only at h
        split at h
        case h_2 => exact h.elim
        rename_i s x hx
        split at h
        case h_2 => exact h.elim
        rename_i ty ty' hty
        split at h
        case h_2 => exact h.elim
        rename_i hb
        have := Nat.eq_of_beq_eq_true hb
        subst this
        have hargs : c.args = #[s, x] := by apply Array.ext'; simpa using hx
        have htys : c.argTypes = #[ty, ty] := by apply Array.ext'; simpa using hty
        have hr := opAppend_ok (ty := o.type) hT hS (hE.ev s) (hE.ev x) h
        have e : (do let d ← resolve a.eval c o.type; invoke d.target d.args : Sem Next).run P w = (do pure (Next.value (← Builtin.append_ #[ty, ty] o.type #[a.eval s, a.eval x])) : Sem Next).run P w := by
          rw [Sem.run_bind, hres]
          simp [invoke, builtin, hargs, htys]
        rw [e]
        exact upon_val hk hr
      | max =>
        simp only at h
        split at h
        case h_2 => exact h.elim
        rename_i s x hx
        have hargs : c.args = #[s, x] := by apply Array.ext'; simpa using hx
        have hr := opMaxMin_max (P := P) (ts := c.argTypes) (ty := o.type) hS (hE.ev s) (hE.ev x) h
        have e : (do let d ← resolve a.eval c o.type; invoke d.target d.args : Sem Next).run P w = (do pure (Next.value (← Builtin.max_ c.argTypes o.type #[a.eval s, a.eval x])) : Sem Next).run P w := by
          rw [Sem.run_bind, hres]
          simp [invoke, builtin, hargs]
        rw [e]
        exact upon_val hk hr
      | min =>
        simp only at h
        split at h
        case h_2 => exact h.elim
        rename_i s x hx
        have hargs : c.args = #[s, x] := by apply Array.ext'; simpa using hx
        have hr := opMaxMin_min (P := P) (ts := c.argTypes) (ty := o.type) hS (hE.ev s) (hE.ev x) h
        have e : (do let d ← resolve a.eval c o.type; invoke d.target d.args : Sem Next).run P w = (do pure (Next.value (← Builtin.min_ c.argTypes o.type #[a.eval s, a.eval x])) : Sem Next).run P w := by
          rw [Sem.run_bind, hres]
          simp [invoke, builtin, hargs]
        rw [e]
        exact upon_val hk hr
      | _ => exact h.elim
    | value f =>
      rw [hc] at h
      simp only [fVL_eq] at h
      have hf := hE.ev f
      have hargs := hE.evs c.args.toList
      have e1 : (c.args.toList.map a.eval).toArray = c.args.map a.eval := by apply Array.ext'; simp
      rw [e1] at hargs
      have key : ∀ g (args : List AV) (Args : Array Value), VL w m args Args → (callF call g args K fun out K' => match out with
          | .ret v => fV v fun v => k v K'
          | .pan v => kp v K') → o.uponIn (FW ro) nn P a next Q (.ok (.enter g Args) w) := by
        intro g args Args hA hcl
        obtain ⟨_, hcalls⟩ := callF_ok hcall hcl
        rw [Oper.uponIn_enter]
        refine ⟨FW.depth, FW.calls ((hcalls w m Args hS hA).mono fun e w' hR => ?_)⟩
        cases e with
        | returned v =>
          obtain ⟨m', av, K', h1, h2, h3, h4⟩ := hR
          simp only [fV_eq] at h4
          exact hk w' m' av K' v h1 h2 h3 h4
        | panicked ch =>
          obtain ⟨m', av, u, K', rfl, h1, h2, h3, h4⟩ := hR
          exact hpn w' m' av K' u h1 h2 h3 h4
        | outgrown => exact hR.elim
      have entr : ∀ g (args : List AV), (callF call g args K fun out K' => match out with
          | .ret v => fV v fun v => k v K'
          | .pan v => kp v K') → Ent P g := fun g args hcl => (callF_ok hcall hcl).1
      generalize haf : a.eval f = uf at hf
      generalize ev t f = af at h hf
      have yl : ∀ r, V w m (.yld r) uf → (call (Nat.add 1000000000 r) (evs t c.args.toList) K fun out K' => match out with
          | .ret v => fV v fun v => k v K'
          | .pan v => kp v K') → o.uponIn (FW ro) nn P a next Q ((do let d ← resolve a.eval c o.type; invoke d.target d.args : Sem Next).run P w) := by
        intro r hv hcl
        have hnb : Nat.blt (Nat.add 1000000000 r) 1000000000 = false := by
          cases hb : Nat.blt (Nat.add 1000000000 r) 1000000000 with
          | true => have := Nat.le_of_ble_eq_true hb; simp only [Nat.add_eq, Nat.succ_eq_add_one] at this; omega
          | false => rfl
        have har := (hcall _ _ _ _ hcl).2 hnb
        have hsub : Nat.sub (Nat.add 1000000000 r) 1000000000 = r := by simp
        rw [hsub] at har
        obtain ⟨l, f', tmps, assign, body, hu, hy, hro⟩ := har w m _ uf hS hargs hv
        subst hu
        have e : (do let d ← resolve a.eval c o.type; invoke d.target d.args : Sem Next).run P w = .ok (.round l f' tmps assign body) w := by
          simp [resolve, hc, haf, Deferred.ofValue, invoke, hy]
        rw [e, Oper.uponIn_round]
        refine ⟨FW.depth, RoundIn.mono (hro (nn - 1)) fun e w' hR => ?_⟩
        cases e with
        | returned v =>
          obtain ⟨m', av, K', h1, h2, h3, h4⟩ := hR
          simp only [fV_eq] at h4
          exact hk w' m' av K' v h1 h2 h3 h4
        | panicked ch =>
          obtain ⟨m', av, u, K', rfl, h1, h2, h3, h4⟩ := hR
          exact hpn w' m' av K' u h1 h2 h3 h4
        | outgrown => exact hR.elim
      cases hf with
      | p v u hv =>
        cases hv with
        | fn g =>
          simp only [aCallV] at h
          have e : (do let d ← resolve a.eval c o.type; invoke d.target d.args : Sem Next).run P w = .ok (.enter g (c.args.map a.eval)) w := by
            simp [resolve, hc, haf, Deferred.ofValue, invoke, callFunc_run (entr _ _ h)]
          rw [e]
          exact key g _ _ hargs h
        | _ => exact h.elim
      | fn g first cap A B hA hB h1 h2 =>
        simp only [aCallV, fVL_eq, catL_eq] at h
        have e : (do let d ← resolve a.eval c o.type; invoke d.target d.args : Sem Next).run P w = .ok (.enter g (A ++ c.args.map a.eval ++ B)) w := by
          simp [resolve, hc, haf, Deferred.ofValue, invoke, callFunc_run (entr _ _ h)]
        rw [e]
        exact key g _ _ ((VL.append ⟨hA, h1⟩ hargs).append ⟨hB, h2⟩) h
      | yld r sz cap hL => exact yl r (.yld r sz cap hL) h
      | yldOld r b hL => exact yl r (.yldOld r b hL) h
      | _ => exact h.elim
  | _ => rw [hop] at h; exact h.elim

/-! ### regions -/
variable {we : World} {me : Mp} {N kb : Nat} {D0 : List Deferred} {bm : Bool}

/-- the calls that a frame has put off: those that it began with, and marks of loops over functions, with nothing behind them -/
inductive Mk (bm : Bool) (we : World) (D0 : List Deferred) (w : World) (m : Mp) : List Deferred → Prop where
  | base : Mk bm we D0 w m D0
  | mark (hb : bm = true) (D : Nat) (ds : List Deferred) (h1 : we.heap.size ≤ D) (h2 : w.heap[D]? = some (.deferred (some []))) (h3 : ¬ m.I D) (h4 : ∀ r, (m.L r).isLive → m.ρ r ≠ D)
      (h5 : ∀ d ∈ ds, d.target ≠ .collected D) (h : Mk bm we D0 w m ds) : Mk bm we D0 w m ({ target := .collected D, args := #[] } :: ds)

theorem Mk.mono {w w' : World} {m m' : Mp} (t : Tr w m w' m') {ds : List Deferred} (h : Mk bm we D0 w m ds) : Mk bm we D0 w' m' ds := by
  induction h with
  | base => exact .base
  | mark hb D ds h1 h2 h3 h4 h5 _ ih =>
    have hlt : D < w.heap.size := (Array.getElem?_eq_some_iff.1 h2).1
    refine .mark hb D ds h1 ((t.out D hlt h4).trans h2) (fun hI => ?_) (fun r hr e => ?_) h5 ih
    · rcases t.newI D hI with h | ⟨r, hr, e⟩ | h
      · exact h3 h
      · exact h4 r hr e
      · omega
    · rcases t.newρ r hr with ⟨hr', e'⟩ | h
      · exact h4 r hr' (e' ▸ e)
      · omega

theorem Mk.sub {w : World} {m m' : Mp} (t : m.Sub m') {ds : List Deferred} (h : Mk bm we D0 w m ds) : Mk bm we D0 w m' ds := by
  induction h with
  | base => exact .base
  | mark hb D ds h1 h2 h3 h4 h5 _ ih =>
    refine .mark hb D ds h1 h2 (fun hI => ?_) (fun r hr e => ?_) h5 ih
    · rcases t.1 D hI with h | ⟨r, hr, e⟩
      · exact h3 h
      · exact h4 r hr e
    · exact h4 r (t.2 r hr).1 ((t.2 r hr).2 ▸ e)

/-- what stands behind a piece of code -/
def Rel (bm : Bool) (N : Nat) (we : World) (me : Mp) (D0 : List Deferred) (Q : Ex → AS → Prop) : Exit → Act → World → Prop
  | .normal, a, w => a.tmps.size = N ∧ ∃ m s, Mk bm we D0 w m a.defers ∧ Tr we me w m ∧ St w m (hp s.K) ∧ EnvOk w m s.t a.tmps ∧ Q .norm s
  | .exit n, a, w => a.tmps.size = N ∧ ∃ m s, Mk bm we D0 w m a.defers ∧ Tr we me w m ∧ St w m (hp s.K) ∧ EnvOk w m s.t a.tmps ∧ Q (.exit n) s
  | .ret, a, w => a.tmps.size = N ∧ ∃ m s, Mk bm we D0 w m a.defers ∧ Tr we me w m ∧ St w m (hp s.K) ∧ EnvOk w m s.t a.tmps ∧ Q .ret s
  | .panic ch, a, w => a.tmps.size = N ∧ ∃ m s v u, Mk bm we D0 w m a.defers ∧ ch = [{ v := u, recovered := false }] ∧ Tr we me w m ∧ St w m (hp s.K) ∧ EnvOk w m s.t a.tmps ∧ V w m v u ∧ Q (.pan v) s
  | .goto _, _, _ => False
  | .outgrown, _, _ => False

theorem Rel.mono {Q Q' : Ex → AS → Prop} (h : ∀ e s, Q e s → Q' e s) : ∀ e a w, Rel bm N we me D0 Q e a w → Rel bm N we me D0 Q' e a w
  | .normal, _, _, ⟨h1, m, s, h2, a, b, c, d⟩ => ⟨h1, m, s, h2, a, b, c, h _ _ d⟩
  | .exit _, _, _, ⟨h1, m, s, h2, a, b, c, d⟩ => ⟨h1, m, s, h2, a, b, c, h _ _ d⟩
  | .ret, _, _, ⟨h1, m, s, h2, a, b, c, d⟩ => ⟨h1, m, s, h2, a, b, c, h _ _ d⟩
  | .panic _, _, _, ⟨h1, m, s, v, u, h2, a, b, c, d, f, e⟩ => ⟨h1, m, s, v, u, h2, a, b, c, d, f, h _ _ e⟩
  | .goto _, _, _, h => h
  | .outgrown, _, _, h => h

theorem put_size (a : Act) (d : Option Nat) (u : Value) : (a.put d u).tmps.size = a.tmps.size := by
  cases d <;> simp [Act.put]
theorem put_defers (a : Act) (d : Option Nat) (u : Value) : (a.put d u).defers = a.defers := by
  cases d <;> rfl

theorem aop_semAt {o : Oper} {h' : List (Nat × AV)} (h : aop T call o h' K k kp) : Oper.semAt ro a.eval o = execOp a.eval o :=
  Oper.semAt_eq ro a.eval o fun c hc => by unfold aop at h; rw [hc] at h; exact h

theorem aops_ok (hT : TabOk P T) (hcall : CallOk P call) {ops : Array Oper} {Q : Ex → AS → Prop} (l : List Oper) : ∀ (t : List (Nat × AV)) (K : List ABlk), aops T call N ops.toList l t K Q →
    ∀ (w : World) (m : Mp) (a : Act), Tr we me w m → St w m (hp K) → EnvOk w m t a.tmps → a.tmps.size = N → Mk bm we D0 w m a.defers → wpListIn (FW ro) nn P ops (Rel bm N we me D0 Q) l a w := by
  induction l with
  | nil => intro t K h w m a hTr hS hE hN hd; exact ⟨hN, m, ⟨t, K⟩, hd, hTr, hS, hE, h⟩
  | cons o rest ih =>
    intro t K h w m a hTr hS hE hN hd
    rw [aops_cons] at h
    have hbd : (∀ x, o.dst = some x → x < a.tmps.size) ∧ want ops.toList t o.guard
        (fun t => aop T call o t K (fun v K' => aops T call N ops.toList rest (put t o.dst v) K' Q) (fun v K' => Q (.pan v) ⟨t, K'⟩))
        (fun t => aops T call N ops.toList rest (put t o.dst (.tup [])) K Q) := by
      unfold bound at h
      cases hd' : o.dst with
      | none => rw [hd'] at h; exact ⟨fun x hx => by simp at hx, h⟩
      | some d =>
        rw [hd'] at h
        simp only at h
        cases hb : Nat.blt d N with
        | false => rw [hb] at h; exact h.elim
        | true =>
          rw [hb] at h
          refine ⟨fun x hx => ?_, h⟩
          injection hx with hx
          subst hx
          rw [hN]
          exact Nat.le_of_ble_eq_true hb
    obtain ⟨hb, h⟩ := hbd
    have yes : ∀ t, EnvOk w m t a.tmps → aop T call o t K (fun v K' => aops T call N ops.toList rest (put t o.dst v) K' Q) (fun v K' => Q (.pan v) ⟨t, K'⟩) → Region.wanted o (yielded ops a.tmps) = true →
        wpListIn (FW ro) nn P ops (Rel bm N we me D0 Q) (o :: rest) a w := by
      intro t hE h hw
      unfold wpListIn
      rw [if_pos hw]
      refine ⟨fun _ _ => trivial, ?_⟩
      rw [aop_semAt h]
      refine aop_ok hT hcall hS hE (fun w' m' v K' u h1 h2 h3 h4 => ?_) (fun w' m' v K' u h1 h2 h3 h4 => ?_) h
      · exact ih _ _ h4 w' m' _ (hTr.trans h1) h2 ((hE.mono h1).put hb h3) (by rw [put_size]; exact hN) (by rw [put_defers]; exact hd.mono h1)
      · exact ⟨hN, m', ⟨t, K'⟩, v, u, hd.mono h1, rfl, hTr.trans h1, h2, hE.mono h1, h3, h4⟩
    have no : ∀ t, EnvOk w m t a.tmps → aops T call N ops.toList rest (put t o.dst (.tup [])) K Q → Region.wanted o (yielded ops a.tmps) = false → wpListIn (FW ro) nn P ops (Rel bm N we me D0 Q) (o :: rest) a w := by
      intro t hE h hw
      unfold wpListIn
      rw [if_neg (by simp [hw])]
      exact ⟨fun _ _ => trivial, ih _ _ h w m _ hTr hS (hE.put hb (.tup [] #[] rfl fun j hj => by simp at hj)) (by rw [put_size]; exact hN) (by rw [put_defers]; exact hd)⟩
    unfold want at h
    cases hg : o.guard with
    | none =>
      rw [hg] at h
      exact yes t hE h (by simp [Region.wanted, hg])
    | some g =>
      obtain ⟨j, wn⟩ := g
      rw [hg] at h
      simp only at h
      cases hj : nth ops.toList j with
      | none => rw [hj] at h; exact h.elim
      | some oj =>
        rw [hj] at h
        simp only at h
        cases hdj : oj.dst with
        | none => rw [hdj] at h; exact h.elim
        | some d =>
          rw [hdj] at h
          simp only at h
          split at h
          case h_3 => exact h.elim
          case h_2 =>
            rename_i hb'
            refine no _ hE h ?_
            have h1 : ops[j]? = some oj := by rw [nth_eq] at hj; simpa using hj
            have hu := hE d
            rw [hb'] at hu
            have hu2 : a.tmps.getD d undef = .tuple #[] := by
              generalize a.tmps.getD d undef = u at hu
              cases hu with
              | tup _ A hA _ =>
                have : A = #[] := by apply Array.eq_empty_of_size_eq_zero; simpa using hA.symm
                rw [this]
            have hy : yielded ops a.tmps j = none := by
              simp only [yielded, h1, Option.bind_some, hdj]
              rw [Array.getD_eq_getD_getElem?] at hu2
              cases h3 : a.tmps[d]? with
              | none => rfl
              | some u => rw [h3] at hu2; simp at hu2; rw [hu2]
            simp [Region.wanted, hg, hy]
          rename_i b hb'
          have hy : yielded ops a.tmps j = some b := by
            have h1 : ops[j]? = some oj := by rw [nth_eq] at hj; simpa using hj
            simp only [yielded, h1, Option.bind_some, hdj, hE.bool hb']
          have hE' := hE.know hb'
          have hw : Region.wanted o (yielded ops a.tmps) = (b == wn) := by
            simp only [Region.wanted, hg, hy]
            cases b <;> cases wn <;> rfl
          cases wn with
          | true =>
            cases b with
            | true => exact yes _ hE' h (by rw [hw]; rfl)
            | false => exact no _ hE' h (by rw [hw]; rfl)
          | false =>
            cases b with
            | true => exact no _ hE' h (by rw [hw]; rfl)
            | false => exact yes _ hE' h (by rw [hw]; rfl)

end
end Go.AE
