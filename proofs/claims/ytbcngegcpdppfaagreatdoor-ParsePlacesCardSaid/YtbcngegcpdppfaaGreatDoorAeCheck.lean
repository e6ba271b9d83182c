/-
  AE, part 8: tables are checked by the kernel. Own metatheory over any program; no statement of the seat is proved here.
-/
import Derived.Test.YtbcngegcpdppfaaGreatDoorAeCode
import Derived.KernelRfl
namespace Go.AE

def zB : PV → Value → Bool
  | .int k n, .int k' n' => decide (k = k') && decide (n = n')
  | .bool b, .bool b' => b == b'
  | .str l, .string s => l == s.data.toList
  | .nilp, .pointer none => true
  | .nils, .slice none 0 0 => true
  | .nilf, .nilFunc => true
  | .nili, .nilIface => true
  | .nilm, .map none => true
  | _, _ => false

theorem zB_ok {v : PV} {u : Value} (h : zB v u = true) (w : World) (I : Nat → Prop) : VP w I v u := by
  unfold zB at h
  split at h
  · simp only [Bool.and_eq_true, decide_eq_true_eq] at h; obtain ⟨rfl, rfl⟩ := h; exact .int ..
  · simp only [beq_iff_eq] at h; subst h; exact .bool ..
  · simp only [beq_iff_eq] at h; subst h; exact .str _ _ rfl
  · exact .nilp
  · exact .nils
  · exact .nilf
  · exact .nili
  · exact .nilm
  · simp at h

def zLB : List PV → List Value → Bool
  | [], [] => true
  | v :: l, u :: l' => zB v u && zLB l l'
  | _, _ => false

theorem zLB_ok {l : List PV} {l' : List Value} (h : zLB l l' = true) : l.length = l'.length ∧ ∀ w I j (hj : j < l.length) (hj' : j < l'.length), VP w I l[j] l'[j] := by
  induction l generalizing l' with
  | nil => cases l' with
    | nil => exact ⟨rfl, fun w I j hj => by simp at hj⟩
    | cons u l' => simp [zLB] at h
  | cons v l ih => cases l' with
    | nil => simp [zLB] at h
    | cons u l' =>
      simp only [zLB, Bool.and_eq_true] at h
      obtain ⟨h1, h2⟩ := ih h.2
      refine ⟨by simp [h1], fun w I j hj hj' => ?_⟩
      cases j with
      | zero => exact zB_ok h.1 w I
      | succ j => simpa using h2 w I j (by simpa using hj) (by simpa using hj')

def fsB (P : Program) : List Field → List (Nat × Nat) → Bool
  | [], [] => true
  | f :: l, (o, t) :: l' => Nat.beq f.offset o && Nat.beq f.type t && (P.info? f.type).isSome && fsB P l l'
  | _, _ => false

theorem fsB_ok {P : Program} {l : List Field} {l' : List (Nat × Nat)} (h : fsB P l l' = true) : l.map (fun f => (f.offset, f.type)) = l' ∧ ∀ f ∈ l, (P.info? f.type).isSome = true := by
  induction l generalizing l' with
  | nil => cases l' with
    | nil => exact ⟨rfl, by simp⟩
    | cons u l' => simp [fsB] at h
  | cons f l ih => cases l' with
    | nil => simp [fsB] at h
    | cons u l' =>
      obtain ⟨o, t⟩ := u
      simp only [fsB, Bool.and_eq_true] at h
      obtain ⟨⟨⟨h1, h2⟩, h3⟩, h4⟩ := h
      obtain ⟨h5, h6⟩ := ih h4
      refine ⟨?_, fun g hg => ?_⟩
      · rw [List.map_cons, h5, Nat.eq_of_beq_eq_true h1, Nat.eq_of_beq_eq_true h2]
      · cases List.mem_cons.1 hg with
        | inl e => rw [e]; exact h3
        | inr e => exact h6 g e

def utB (P : Program) : UT → TypeDesc → Bool
  | .int k, .int k' => decide (k = k')
  | .bool, .bool => true
  | .string, .string => true
  | .slice e, .slice e' => Nat.beq e e'
  | .ptr e, .pointer e' => Nat.beq e e'
  | .struct fs, .struct fields => fsB P fields.toList fs
  | .array n e, .array n' e' => Nat.beq n n' && Nat.beq e e'
  | .map k e, .map k' e' => Nat.beq k k' && Nat.beq e e'
  | .func, .func _ _ _ => true
  | .iface, .interface _ => true
  | .other, _ => true
  | _, _ => false

theorem utB_ok {P : Program} {u : UT} {d : TypeDesc} (h : utB P u d = true) : utOk P u d := by
  unfold utB at h
  split at h
  · simp only [decide_eq_true_eq] at h; subst h; rfl
  · rfl
  · rfl
  · have := Nat.eq_of_beq_eq_true h; subst this; rfl
  · have := Nat.eq_of_beq_eq_true h; subst this; rfl
  · exact ⟨_, rfl, fsB_ok h⟩
  · simp only [Bool.and_eq_true] at h
    have h1 := Nat.eq_of_beq_eq_true h.1
    have h2 := Nat.eq_of_beq_eq_true h.2
    subst h1 h2; rfl
  · simp only [Bool.and_eq_true] at h
    have h1 := Nat.eq_of_beq_eq_true h.1
    have h2 := Nat.eq_of_beq_eq_true h.2
    subst h1 h2; rfl
  · exact ⟨_, _, _, rfl⟩
  · exact ⟨_, rfl⟩
  · trivial
  · simp at h

def tiB (P : Program) (t : Nat) (ti : TI) : Bool :=
  match P.info? t with
  | none => false
  | some i => match P.underlying t with
    | none => false
    | some d => match i.zero with
      | none => false
      | some z => Nat.beq i.size ti.size && Nat.beq i.bytes ti.bytes && utB P ti.u d && zLB ti.zero z.cells.toList && (ti.agg == aggOf d) && (ti.agg == zAgg z)

theorem tiB_ok {P : Program} {t : Nat} {ti : TI} (h : tiB P t ti = true) : TIok P t ti := by
  unfold tiB at h
  cases hi : P.info? t with
  | none => rw [hi] at h; simp at h
  | some i =>
    rw [hi] at h
    simp only at h
    cases hu : P.underlying t with
    | none => rw [hu] at h; simp at h
    | some d =>
      rw [hu] at h
      simp only at h
      cases hz : i.zero with
      | none => rw [hz] at h; simp at h
      | some z =>
        rw [hz] at h
        simp only [Bool.and_eq_true, beq_iff_eq] at h
        obtain ⟨⟨⟨⟨⟨h1, h2⟩, h3⟩, h4⟩, h5⟩, h5'⟩ := h
        obtain ⟨h6, h7⟩ := zLB_ok h4
        exact ⟨i, d, z, hi, hu, Nat.eq_of_beq_eq_true h1, Nat.eq_of_beq_eq_true h2, utB_ok h3, hz, ⟨by simpa using h6, fun w I j hj hj' => by have := h7 w I j hj (by simpa using hj'); rwa [Array.getElem_toList] at this⟩, h5, h5'⟩

def TT.all {α : Type} (p : Nat → α → Bool) : TT α → Bool
  | .leaf => true
  | .node l k v r => l.all p && p k v && r.all p

theorem TT.all_get {α : Type} {p : Nat → α → Bool} {t : TT α} (h : t.all p = true) {k : Nat} {v : α} (hg : t.get k = some v) : p k v = true := by
  induction t with
  | leaf => simp [TT.get] at hg
  | node l k' v' r ihl ihr =>
    simp only [TT.all, Bool.and_eq_true] at h
    simp only [TT.get] at hg
    split at hg
    · rename_i e
      have := Nat.eq_of_beq_eq_true e
      subst this
      injection hg with hg
      subst hg
      exact h.1.2
    · split at hg
      · exact ihl h.1.1 hg
      · exact ihr h.2 hg

def FAll (P : Program) : TT Func → Prop
  | .leaf => True
  | .node l k v r => FAll P l ∧ P.funcs[k]? = some v ∧ FAll P r

theorem FAll.get {P : Program} {t : TT Func} (h : FAll P t) {k : Nat} {v : Func} (hg : t.get k = some v) : P.funcs[k]? = some v := by
  induction t with
  | leaf => simp [TT.get] at hg
  | node l k' v' r ihl ihr =>
    obtain ⟨h1, h2, h3⟩ := h
    simp only [TT.get] at hg
    split at hg
    · rename_i e
      have := Nat.eq_of_beq_eq_true e
      subst this
      injection hg with hg
      subst hg
      exact h2
    · split at hg
      · exact ihl h1 hg
      · exact ihr h3 hg

theorem TabOk.of {P : Program} {T : Tab} (h1 : T.t.all (tiB P) = true) (h2 : FAll P T.f) (h3 : T.f.all (fun _ fn => !(fn.name == "runtime.NumGoroutine")) = true) : TabOk P T :=
  ⟨fun _ _ hg => tiB_ok (TT.all_get h1 hg), fun _ _ hg => ⟨h2.get hg, by have := TT.all_get h3 hg; simpa using this⟩⟩

end Go.AE
