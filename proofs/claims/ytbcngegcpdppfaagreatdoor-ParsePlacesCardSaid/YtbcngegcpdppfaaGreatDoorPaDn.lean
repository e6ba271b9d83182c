/-
  Parser, part 3: tokens are only taken, and few nodes are put for each: in plain Lean. No statement of the seat is proved here.
-/
import Derived.Test.YtbcngegcpdppfaaGreatDoorPaSpec
namespace Go.Ru

theorem bind_ok {α β : Type} {r : R α} {f : α → PS → R β} {b : β} {s' : PS} (h : r.bind f = .ok b s') : ∃ a s, r = .ok a s ∧ f a s = .ok b s' := by
  cases r with
  | ok a s => exact ⟨a, s, rfl, h⟩
  | bad a e => simp [R.bind] at h

/-- whatever is answered, of the state behind it something holds -/
def Okk {α : Type} (r : R α) (p : PS → Prop) : Prop := ∀ a s, r = .ok a s → p s
theorem Okk.bind {α β : Type} {r : R α} {f : α → PS → R β} {p q : PS → Prop} (h : Okk r p) (h' : ∀ a s, p s → Okk (f a s) q) : Okk (r.bind f) q := fun b s' hb => by
  obtain ⟨a, s, h1, h2⟩ := bind_ok hb
  exact h' a s (h a s h1) b s' h2
theorem Okk.imp {α : Type} {r : R α} {p q : PS → Prop} (h : Okk r p) (h' : ∀ s, p s → q s) : Okk r q := fun a s hr => h' s (h a s hr)
theorem Okk.pure {α : Type} {a : α} {s : PS} {p : PS → Prop} (h : p s) : Okk (.ok a s) p := fun b s' hb => by
  injection hb with _ h2
  exact h2 ▸ h
theorem Okk.bad {α : Type} {a e : Int} {p : PS → Prop} : Okk (.bad a e : R α) p := fun b s' hb => by simp at hb

/-- so much less than there was -/
def Lw (s0 : PS) (c k : Nat) (s : PS) : Prop := s.ns.length + 4 * s.ts.length + c ≤ s0.ns.length + 4 * s0.ts.length ∧ s.ts.length + k ≤ s0.ts.length

theorem isS_pos {w : Bs} {ts : List Tok} (h : isS w ts = true) : 0 < ts.length := by
  cases ts with
  | nil => simp [isS] at h
  | cons t r => simp

theorem drop_le (s : PS) (h : 0 < s.ts.length) : Lw s 4 1 (dropS s) := by
  simp only [Lw, dropS, List.length_tail]; omega
theorem want_le (e : Int) (w : Bs) (s : PS) : Okk (wantS e w s) (Lw s 4 1) := by
  unfold wantS
  split
  · rename_i h; exact .pure (drop_le s (isS_pos h))
  · exact .bad
theorem ident_le (e : Int) (s : PS) : Okk (identS e s) (Lw s 4 1) := by
  unfold identS
  split
  · exact .bad
  · rename_i t r h
    split
    · refine .pure ?_
      simp only [Lw, h, List.length_cons]; omega
    · exact .bad
theorem put_len (n : Nd) (s : PS) : Okk (putS n s) (fun s' => s'.ns.length = s.ns.length + 1 ∧ s'.ts.length = s.ts.length) := by
  unfold putS
  exact .pure (by simp)
/-- a node put behind all this -/
theorem put_le {n : Nd} {s0 s : PS} {c k : Nat} (h : Lw s0 (c + 1) k s) : Okk (putS n s) (Lw s0 c k) := (put_len n s).imp fun s' h' => by
  simp only [Lw] at h ⊢; omega
theorem Lw.trans {s0 s1 s2 : PS} {c k c' k' : Nat} (h : Lw s0 c k s1) (h' : Lw s1 c' k' s2) : Lw s0 (c + c') (k + k') s2 := by
  simp only [Lw] at h h' ⊢; omega
theorem Lw.weak {s0 s1 : PS} {c k c' k' : Nat} (h : Lw s0 c k s1) (hc : c' ≤ c) (hk : k' ≤ k) : Lw s0 c' k' s1 := by
  simp only [Lw] at h ⊢; omega
theorem Lw.refl (s : PS) : Lw s 0 0 s := by simp [Lw]

def Dm {α : Type} (c k : Nat) (m : M α) : Prop := ∀ s, Okk (m s) (Lw s c k)

theorem within_le {α : Type} (e : Int) (d : Nat) (op cl : Bs) {what : M α} {c k : Nat} (h : Dm c k what) (s : PS) : Okk (withinS e d op cl what s) (Lw s (c + 4) (k + 1)) := by
  unfold withinS
  split
  · exact .bad
  · rename_i hw
    have hp := isS_pos hw
    split
    · exact .bad
    · refine Okk.bind (h _) fun a s1 h1 => ?_
      have h2 : Lw s (c + 4) (k + 1) s1 := by
        simp only [Lw, List.length_tail] at h1 ⊢; omega
      split
      · exact .pure h2
      · refine Okk.bind (want_le _ _ _) fun _ s3 h3 => .pure ?_
        simp only [Lw] at h2 h3 ⊢; omega

theorem rowLoop_le (l : List Bs) {opnd : M Int} (h : Dm 0 0 opnd) : ∀ n x s, Okk (rowLoop l opnd n x s) (Lw s 0 0) := by
  intro n
  induction n with
  | zero => exact fun x s => .pure (Lw.refl s)
  | succ n ih =>
    intro x s
    unfold rowLoop
    split
    · exact .pure (Lw.refl s)
    · rename_i t r ht
      split
      · exact .pure (Lw.refl s)
      · refine Okk.bind (h _) fun y s1 h1 => ?_
        have h2 : Lw s 4 1 s1 := by simp only [Lw, ht, List.length_cons] at h1 ⊢; omega
        refine Okk.bind (put_le (c := 3) h2) fun x s3 h3 => (ih x s3).imp fun s4 h4 => ?_
        exact (h3.trans h4).weak (by omega) (by omega)

theorem expr_le {una : M Int} (h : Dm 3 1 una) : ∀ j, Dm 3 1 (exprS una j) := by
  intro j
  induction j with
  | zero => exact h
  | succ j ih =>
    intro s
    unfold exprS
    refine Okk.bind (ih s) fun x s1 h1 => (rowLoop_le _ (fun s => (ih s).imp fun s' h' => h'.weak (by omega) (by omega)) _ x s1).imp fun s2 h2 => ?_
    exact h1.trans h2

theorem prim_le (e : Int) (d : Nat) {inner : M Int} (h : Dm 0 0 inner) : Dm 3 1 (primS e d inner) := by
  intro s
  unfold primS
  split
  · exact .bad
  · rename_i t r ht
    have hs : Lw s 4 1 ⟨r, s.ns, s.mo⟩ := by simp only [Lw, ht, List.length_cons]; omega
    split
    · exact put_le hs
    · split
      · refine Okk.bind (within_le e d [91] [93] h _) fun x s1 h1 => put_le ((hs.trans h1).weak (by omega) (by omega))
      · exact put_le hs
    · split
      · exact put_le hs
      · split
        · exact put_le hs
        · split
          · exact Okk.bind (ident_le e _) fun t' s1 h1 => put_le ((hs.trans h1).weak (by omega) (by omega))
          · split
            · exact Okk.bind (ident_le e _) fun t' s1 h1 => put_le ((hs.trans h1).weak (by omega) (by omega))
            · split
              · exact (within_le e d [40] [41] h s).imp fun s1 h1 => h1.weak (by omega) (by omega)
              · exact .bad

theorem unaB_le (e : Int) (d : Nat) {una inner : M Int} (h1 : Dm 0 0 una) (h2 : Dm 0 0 inner) : Dm 3 1 (unaB e d una inner) := by
  intro s
  unfold unaB
  split
  · exact .bad
  · split
    · exact Okk.bind (within_le e d _ _ h1 s) fun x s1 h => put_le (h.weak (by omega) (by omega))
    · exact prim_le e d h2 s
theorem una_le (e : Int) : ∀ d, Dm 3 1 (unaS e d) := by
  intro d
  induction d with
  | zero => exact unaB_le e 0 (fun s => .bad) (fun s => .bad)
  | succ d ih =>
    exact unaB_le e (d + 1) (fun s => (ih s).imp fun s' h => h.weak (by omega) (by omega)) (fun s => (expr_le ih 5 s).imp fun s' h => h.weak (by omega) (by omega))
theorem ex_le (e : Int) (d : Nat) : Dm 3 1 (exS e d) := expr_le (una_le e d) 5
theorem Dm.weak {α : Type} {c k c' k' : Nat} {m : M α} (h : Dm c k m) (hc : c' ≤ c) (hk : k' ≤ k) : Dm c' k' m := fun s => (h s).imp fun _ h => h.weak hc hk
theorem in_le (e : Int) (d : Nat) : Dm 3 1 (inS e d) := by
  cases d with
  | zero => exact fun s => .bad
  | succ d => exact ex_le e d
theorem index_le (e : Int) (d : Nat) : Dm 7 2 (indexS e d) := within_le e d _ _ (in_le e d)

theorem comma_le {α : Type} {one : List α → M (List α)} (h : ∀ l, Dm 0 0 (one l)) : ∀ n l, Dm 0 0 (commaL one n l) := by
  intro n
  induction n with
  | zero => exact fun l s => .pure (Lw.refl s)
  | succ n ih =>
    intro l s
    unfold commaL
    split
    · rename_i hw
      refine Okk.bind (h l (dropS s)) fun l' s1 h1 => (ih l' s1).imp fun s2 h2 => ?_
      exact (((drop_le s (isS_pos hw)).trans h1).trans h2).weak (by omega) (by omega)
    · exact .pure (Lw.refl s)
theorem list_le {α : Type} {one : List α → M (List α)} (h : ∀ l, Dm 0 0 (one l)) (l : List α) : Dm 0 0 (listS one l) := by
  intro s
  unfold listS
  split
  · exact .pure (Lw.refl s)
  · exact Okk.bind (h l s) fun l' s1 h1 => (comma_le h _ l' s1).imp fun s2 h2 => (h1.trans h2).weak (by omega) (by omega)
theorem one_le {m : M Int} {c k : Nat} (h : Dm c k m) (l : List Int) : Dm c k (oneS m l) := fun s => Okk.bind (h s) fun _ _ h1 => .pure h1

theorem call_le (e : Int) (d : Nat) (a : Int) (tx : Bs) : Dm 6 2 (callS e d a tx) := by
  intro s
  unfold callS
  refine Okk.bind (ident_le e s) fun t s1 h1 => Okk.bind (put_le (c := 3) h1) fun x s2 h2 => ?_
  refine Okk.bind (within_le e d _ _ (list_le (fun l => one_le ((in_le e d).weak (by omega) (by omega)) l) [x]) s2) fun l s3 h3 => put_le ((h2.trans h3).weak (by omega) (by omega))
theorem chan_le (e : Int) : Dm 3 1 (chanS e) := fun s => Okk.bind (ident_le e s) fun _ _ h => put_le h

theorem named_le (e : Int) (d : Nat) : Dm 3 1 (namedS e d) := by
  intro s
  unfold namedS
  refine Okk.bind (ident_le e s) fun t s1 h1 => ?_
  split
  · exact Okk.bind (index_le e d s1) fun x s2 h2 => Okk.bind (want_le e _ s2) fun _ s3 h3 => Okk.bind (ex_le e d s3) fun y s4 h4 =>
      put_le ((((h1.trans h2).trans h3).trans h4).weak (by omega) (by omega))
  · refine Okk.bind (want_le e _ s1) fun _ s2 h2 => ?_
    have h12 := h1.trans h2
    split
    · rename_i hw
      exact Okk.bind (chan_le e _) fun x s3 h3 => put_le (((h12.trans (drop_le _ (isS_pos hw))).trans h3).weak (by omega) (by omega))
    · split
      · rename_i hw
        exact (call_le e d _ _ _).imp fun s3 h3 => ((h12.trans (drop_le _ (isS_pos hw))).trans h3).weak (by omega) (by omega)
      · split
        · rename_i hw
          exact Okk.bind (ex_le e d _) fun x s3 h3 => put_le (((h12.trans (drop_le _ (isS_pos hw))).trans h3).weak (by omega) (by omega))
        · exact Okk.bind (ex_le e d _) fun x s3 h3 => put_le ((h12.trans h3).weak (by omega) (by omega))

theorem plain_le (e : Int) (d : Nat) : Dm 3 1 (plainS e d) := by
  intro s
  unfold plainS
  simp only
  split
  · rename_i hw
    exact Okk.bind (chan_le e _) fun c s1 h1 => Okk.bind (ex_le e d s1) fun x s2 h2 => put_le ((((drop_le s (isS_pos hw)).trans h1).trans h2).weak (by omega) (by omega))
  · split
    · rename_i hw
      exact (call_le e d _ _ _).imp fun s1 h1 => ((drop_le s (isS_pos hw)).trans h1).weak (by omega) (by omega)
    · split
      · rename_i hw
        exact Okk.bind (ex_le e d _) fun x s1 h1 => put_le (((drop_le s (isS_pos hw)).trans h1).weak (by omega) (by omega))
      · split
        · rename_i hw
          split
          · exact put_le (drop_le s (isS_pos hw))
          · exact Okk.bind (ex_le e d _) fun x s1 h1 => put_le (((drop_le s (isS_pos hw)).trans h1).weak (by omega) (by omega))
        · exact named_le e d s

theorem stmtsL_le {stmt : M Int} (h : Dm 0 0 stmt) : ∀ n l, Dm 0 0 (stmtsL stmt n l) := by
  intro n
  induction n with
  | zero => exact fun l s => .bad
  | succ n ih =>
    intro l s
    unfold stmtsL
    split
    · exact .pure (Lw.refl s)
    · exact Okk.bind (h s) fun x s1 h1 => (ih _ s1).imp fun s2 h2 => (h1.trans h2).weak (by omega) (by omega)
theorem stmts_le {stmt : M Int} (h : Dm 0 0 stmt) (l : List Int) : Dm 0 0 (stmtsS stmt l) := fun s => stmtsL_le h _ l s
theorem block_le (e : Int) (d : Nat) {stmt : M Int} (h : Dm 0 0 stmt) : Dm 3 1 (blockB e d stmt) := by
  intro s
  unfold blockB
  simp only
  exact Okk.bind (within_le e d _ _ (stmts_le h []) s) fun l s1 h1 => put_le (h1.weak (by omega) (by omega))

theorem stmtB_le (e : Int) (d : Nat) {stmt : M Int} (h : Dm 0 0 stmt) : Dm 3 1 (stmtB e d stmt) := by
  intro s
  unfold stmtB
  simp only
  split
  · rename_i hw
    refine Okk.bind (ex_le e d _) fun x s1 h1 => Okk.bind (block_le e d h s1) fun a s2 h2 => ?_
    have h3 := ((drop_le s (isS_pos hw)).trans h1).trans h2
    split
    · rename_i hw2
      exact Okk.bind (block_le e d h _) fun b s3 h4 => put_le (((h3.trans (drop_le s2 (isS_pos hw2))).trans h4).weak (by omega) (by omega))
    · exact Okk.bind (put_le (c := 9) (k := 3) (h3.weak (by omega) (by omega))) fun b s3 h4 => put_le (h4.weak (by omega) (by omega))
  · split
    · rename_i hw
      exact Okk.bind (ex_le e d _) fun x s1 h1 => Okk.bind (block_le e d h s1) fun a s2 h2 => put_le ((((drop_le s (isS_pos hw)).trans h1).trans h2).weak (by omega) (by omega))
    · split
      · rename_i hw
        exact Okk.bind (block_le e d h _) fun a s1 h1 => Okk.bind (want_le e _ s1) fun _ s2 h2 => Okk.bind (ident_le e s2) fun t s3 h3 => Okk.bind (block_le e d h s3) fun b s4 h4 =>
          put_le ((((((drop_le s (isS_pos hw)).trans h1).trans h2).trans h3).trans h4).weak (by omega) (by omega))
      · exact Okk.bind (plain_le e d s) fun x s1 h1 => Okk.bind (want_le e _ s1) fun _ s2 h2 => .pure ((h1.trans h2).weak (by omega) (by omega))
theorem stmt_le (e : Int) : ∀ d, Dm 3 1 (stmtS e d) := by
  intro d
  induction d with
  | zero => exact stmtB_le e 0 (fun s => .bad)
  | succ d ih => exact stmtB_le e (d + 1) (ih.weak (by omega) (by omega))
theorem inStmt_le (e : Int) (d : Nat) : Dm 3 1 (inStmtS e d) := by
  cases d with
  | zero => exact fun s => .bad
  | succ d => exact stmt_le e d

theorem types_pos {ts : List Tok} (h : typesS ts ≠ 0) : 0 < ts.length := by
  cases ts with
  | nil => simp [typesS, isS] at h
  | cons t r => simp
theorem typed_le (e k a : Int) (tx : Bs) : Dm 3 1 (typedS e k a tx) := by
  intro s
  unfold typedS
  split
  · exact .bad
  · rename_i h
    exact put_le (drop_le s (types_pos (by simpa using h)))
theorem varsL_le (e kind : Int) : ∀ n l, Dm 0 0 (varsL e kind n l) := by
  intro n
  induction n with
  | zero => exact fun l s => .pure (Lw.refl s)
  | succ n ih =>
    intro l s
    unfold varsL
    split
    · exact .pure (Lw.refl s)
    · rename_i hw
      exact Okk.bind (ident_le e _) fun t s1 h1 => Okk.bind (typed_le e kind _ _ s1) fun x s2 h2 => Okk.bind (want_le e _ s2) fun _ s3 h3 => (ih _ s3).imp fun s4 h4 =>
        (((((drop_le s (isS_pos hw)).trans h1).trans h2).trans h3).trans h4).weak (by omega) (by omega)
theorem vars_le (e kind : Int) : Dm 0 0 (varsS e kind) := fun s => varsL_le e kind _ [] s
theorem body_le (e : Int) (d : Nat) : Dm 3 1 (bodyS e d) := by
  intro s
  unfold bodyS
  simp only
  refine Okk.bind (within_le (c := 0) (k := 0) e d _ _ (fun s => ?_) s) fun p s1 h1 => Okk.bind (put_le (c := 3) (k := 1) (h1.weak (by omega) (by omega))) fun b s2 h2 => .pure h2
  exact Okk.bind (vars_le e 5 s) fun vs s1 h1 => Okk.bind (stmts_le ((inStmt_le e d).weak (by omega) (by omega)) [] s1) fun l s2 h2 => .pure ((h1.trans h2).weak (by omega) (by omega))
theorem param_le (e : Int) : Dm 7 2 (paramS e) := fun s => Okk.bind (ident_le e s) fun t s1 h1 => (typed_le e 4 _ _ s1).imp fun s2 h2 => h1.trans h2
theorem proc_le (e : Int) (d : Nat) : Dm 3 1 (procS e d) := by
  intro s
  unfold procS
  simp only
  refine Okk.bind (want_le e _ s) fun _ s1 h1 => Okk.bind (ident_le e s1) fun t s2 h2 => Okk.bind (within_le (c := 0) (k := 0) e d _ _ (list_le (fun l => (one_le (param_le e) l).weak (by omega) (by omega)) []) s2) fun ps s3 h3 => ?_
  have h4 := (h1.trans h2).trans h3
  have h5 : Lw s3 0 0 (match decide (typesS s3.ts > 0) with
    | true => dropS s3
    | false => s3) := by
    split
    · rename_i h
      have h : typesS s3.ts > 0 := by simpa using h
      exact (drop_le s3 (types_pos (by omega))).weak (by omega) (by omega)
    · exact Lw.refl s3
  exact Okk.bind (body_le e d _) fun p s5 h6 => put_le (((h4.trans h5).trans h6).weak (by omega) (by omega))
theorem procsL_le (e : Int) (d : Nat) : ∀ n l, Dm 0 0 (procsL e d n l) := by
  intro n
  induction n with
  | zero => exact fun l s => .pure (Lw.refl s)
  | succ n ih =>
    intro l s
    unfold procsL
    split
    · exact .pure (Lw.refl s)
    · exact Okk.bind (proc_le e d s) fun x s1 h1 => (ih _ s1).imp fun s2 h2 => (h1.trans h2).weak (by omega) (by omega)

/-! ### how many places are answered -/
theorem varsL_len (e kind : Int) : ∀ n l s l' s', varsL e kind n l s = .ok l' s' → l'.length + s'.ts.length ≤ l.length + s.ts.length := by
  intro n
  induction n with
  | zero => intro l s l' s' h; simp only [varsL, R.ok.injEq] at h; obtain ⟨rfl, rfl⟩ := h; exact Nat.le_refl _
  | succ n ih =>
    intro l s l' s' h
    unfold varsL at h
    split at h
    · simp only [R.ok.injEq] at h; obtain ⟨rfl, rfl⟩ := h; exact Nat.le_refl _
    · rename_i hw
      obtain ⟨t, s1, h1, h⟩ := bind_ok h
      obtain ⟨x, s2, h2, h⟩ := bind_ok h
      obtain ⟨_, s3, h3, h⟩ := bind_ok h
      have := ih _ _ _ _ h
      have l1 := (ident_le e _ _ _ h1).2
      have l2 := (typed_le e kind _ _ _ _ _ h2).2
      have l3 := (want_le e _ _ _ _ h3).2
      have l0 := (drop_le s (isS_pos hw)).2
      simp only [List.length_append, List.length_cons, List.length_nil] at this
      omega
theorem body_len (e : Int) (d : Nat) (s : PS) (p : List Int × Int) (s' : PS) (h : bodyS e d s = .ok p s') : p.1.length ≤ s.ts.length := by
  unfold bodyS at h
  simp only at h
  obtain ⟨p1, s1, h1, h⟩ := bind_ok h
  obtain ⟨b, s2, h2, h⟩ := bind_ok h
  simp only [R.ok.injEq] at h
  obtain ⟨rfl, -⟩ := h
  unfold withinS at h1
  split at h1
  · simp at h1
  · split at h1
    · simp at h1
    · obtain ⟨q, s3, h3, h1⟩ := bind_ok h1
      obtain ⟨vs, s4, h4, h3⟩ := bind_ok h3
      obtain ⟨l, s5, h5, h3⟩ := bind_ok h3
      simp only [R.ok.injEq] at h3
      obtain ⟨rfl, rfl⟩ := h3
      have h6 := varsL_len e 5 _ _ _ _ _ h4
      simp only [List.length_nil, List.length_tail] at h6
      have h7 : p1.1 = vs := by
        simp only at h1
        obtain ⟨_, s6, _, h1⟩ := bind_ok h1
        simp only [R.ok.injEq] at h1
        rw [← h1.1]
      simp only
      rw [h7]; omega
end Go.Ru
