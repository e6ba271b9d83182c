/-
  Parser, in plain Lean: where it goes wrong: at the beginning of what was left of the tokens; by which codes. No program in sight; no statement of the seat is proved here.
-/
import Derived.Test.YtbcngegcpdppfaaGreatDoorPaDn
namespace Go.Ru

/-- nothing is put back; what is wrong is wrong at the head of a rest -/
structure Wr {α : Type} (e : Int) (s0 : PS) (r : R α) : Prop where
  ok : ∀ a s, r = .ok a s → s.ts <:+ s0.ts
  bad : ∀ a er, r = .bad a er → (er = 2 ∨ er = 6) ∧ ∃ t, t <:+ s0.ts ∧ a = hd e t
def Wm {α : Type} (e : Int) (m : M α) : Prop := ∀ s, Wr e s (m s)

theorem Wr.pure {α : Type} {e : Int} {s0 s : PS} {a : α} (h : s.ts <:+ s0.ts) : Wr e s0 (.ok a s) := ⟨fun b s' hb => by injection hb with _ h2; exact h2 ▸ h, fun _ _ hb => by cases hb⟩
theorem Wr.here {α : Type} {e : Int} {s0 : PS} {er : Int} (h : er = 2 ∨ er = 6) : Wr (α := α) e s0 (.bad (hd e s0.ts) er) :=
  ⟨fun _ _ hb => (by cases hb), fun a er' hb => by injection hb with h1 h2; subst h1 h2; exact ⟨h, _, List.suffix_rfl, rfl⟩⟩
theorem Wr.weak {α : Type} {e : Int} {s0 s1 : PS} {r : R α} (h : Wr e s1 r) (hs : s1.ts <:+ s0.ts) : Wr e s0 r :=
  ⟨fun a s hr => (h.ok a s hr).trans hs, fun a er hr => let ⟨h1, t, h2, h3⟩ := h.bad a er hr; ⟨h1, t, h2.trans hs, h3⟩⟩
theorem Wr.bind {α β : Type} {e : Int} {s0 : PS} {r : R α} {f : α → PS → R β} (h : Wr e s0 r) (h' : ∀ a s1, r = .ok a s1 → Wr e s1 (f a s1)) : Wr e s0 (r.bind f) := by
  cases r with
  | ok a s1 => exact (h' a s1 rfl).weak (h.ok a s1 rfl)
  | bad a er => exact ⟨fun _ _ hb => (by cases hb), fun a' er' hb => by injection hb with h1 h2; subst h1 h2; exact h.bad _ _ rfl⟩
theorem want_wr (e : Int) (w : Bs) : Wm e (wantS e w) := fun s => by
  unfold wantS
  split
  · exact .pure (List.tail_suffix _)
  · exact .here (.inl rfl)
theorem ident_wr (e : Int) : Wm e (identS e) := fun s => by
  unfold identS
  split
  · rename_i h
    have := Wr.here (α := Tok) (e := e) (s0 := s) (er := 2) (.inl rfl)
    rw [h] at this; exact this
  · rename_i t r h
    split
    · exact .pure (by rw [h]; exact List.suffix_cons _ _)
    · have := Wr.here (α := Tok) (e := e) (s0 := s) (er := 2) (.inl rfl)
      rw [h] at this; exact this
theorem put_wr (e : Int) (n : Nd) : Wm e (putS n) := fun s => .pure List.suffix_rfl
theorem drop_sfx (s : PS) : (dropS s).ts <:+ s.ts := List.tail_suffix _
theorem within_wr {α : Type} (e : Int) (d : Nat) (op cl : Bs) {what : M α} (h : ∀ d', d = d' + 1 → Wm e what) : Wm e (withinS e d op cl what) := fun s => by
  unfold withinS
  split
  · exact .here (.inl rfl)
  · cases d with
    | zero => exact .here (.inr rfl)
    | succ d =>
      refine Wr.bind ((h d rfl _).weak (s0 := s) (List.tail_suffix _)) fun a s1 _ => ?_
      split
      · exact .pure List.suffix_rfl
      · exact Wr.bind (want_wr e _ s1) fun _ s2 _ => .pure List.suffix_rfl
theorem rowLoop_wr (e : Int) (l : List Bs) {opnd : M Int} (h : Wm e opnd) : ∀ n x, Wm e (rowLoop l opnd n x) := by
  intro n
  induction n with
  | zero => exact fun x s => .pure List.suffix_rfl
  | succ n ih =>
    intro x s
    unfold rowLoop
    split
    · exact .pure List.suffix_rfl
    · rename_i t r ht
      split
      · exact .pure List.suffix_rfl
      · exact Wr.bind ((h _).weak (s0 := s) (by rw [ht]; exact List.suffix_cons _ _)) fun y s1 _ => Wr.bind (put_wr e _ s1) fun x s2 _ => ih x s2
theorem expr_wr {e : Int} {una : M Int} (h : Wm e una) : ∀ j, Wm e (exprS una j) := by
  intro j
  induction j with
  | zero => exact h
  | succ j ih =>
    intro s
    unfold exprS
    exact Wr.bind (ih s) fun x s1 _ => rowLoop_wr e _ ih _ x s1
theorem prim_wr (e : Int) (d : Nat) {inner : M Int} (h : ∀ d', d = d' + 1 → Wm e inner) : Wm e (primS e d inner) := fun s => by
  unfold primS
  split
  · rename_i hn
    have := Wr.here (α := Int) (e := e) (s0 := s) (er := 2) (.inl rfl)
    rw [hn] at this; exact this
  · rename_i t r ht
    have hs : (⟨r, s.ns, s.mo⟩ : PS).ts <:+ s.ts := by rw [ht]; exact List.suffix_cons _ _
    split
    · exact (put_wr e _ _).weak hs
    · split
      · exact Wr.weak (Wr.bind (within_wr e d [91] [93] h _) fun x s1 _ => put_wr e _ s1) hs
      · exact (put_wr e _ _).weak hs
    · split
      · exact (put_wr e _ _).weak hs
      · split
        · exact (put_wr e _ _).weak hs
        · split
          · exact Wr.weak (Wr.bind (ident_wr e _) fun t' s1 _ => put_wr e _ s1) hs
          · split
            · exact Wr.weak (Wr.bind (ident_wr e _) fun t' s1 _ => put_wr e _ s1) hs
            · split
              · exact within_wr e d [40] [41] h s
              · have := Wr.here (α := Int) (e := e) (s0 := s) (er := 2) (.inl rfl)
                rw [ht] at this; exact this
theorem unaB_wr (e : Int) (d : Nat) {una inner : M Int} (h1 : ∀ d', d = d' + 1 → Wm e una) (h2 : ∀ d', d = d' + 1 → Wm e inner) : Wm e (unaB e d una inner) := fun s => by
  unfold unaB
  split
  · rename_i hn
    have := Wr.here (α := Int) (e := e) (s0 := s) (er := 2) (.inl rfl)
    rw [hn] at this; exact this
  · split
    · exact Wr.bind (within_wr e d _ _ h1 s) fun x s1 _ => put_wr e _ s1
    · exact prim_wr e d h2 s
theorem una_wr (e : Int) : ∀ d, Wm e (unaS e d) := by
  intro d
  induction d with
  | zero => exact unaB_wr e 0 (fun d' h => by omega) (fun d' h => by omega)
  | succ d ih => exact unaB_wr e (d + 1) (fun _ _ => ih) (fun _ _ => expr_wr ih 5)
theorem ex_wr (e : Int) (d : Nat) : Wm e (exS e d) := expr_wr (una_wr e d) 5
theorem in_wr (e : Int) (d : Nat) : ∀ d', d = d' + 1 → Wm e (inS e d) := fun d' h => by subst h; exact ex_wr e d'
theorem index_wr (e : Int) (d : Nat) : Wm e (indexS e d) := within_wr e d _ _ (in_wr e d)
theorem comma_wr {α : Type} {e : Int} {one : List α → M (List α)} (h : ∀ l, Wm e (one l)) : ∀ n l, Wm e (commaL one n l) := by
  intro n
  induction n with
  | zero => exact fun l s => .pure List.suffix_rfl
  | succ n ih =>
    intro l s
    unfold commaL
    split
    · exact Wr.bind ((h l _).weak (drop_sfx s)) fun l' s1 _ => ih l' s1
    · exact .pure List.suffix_rfl
theorem list_wr {α : Type} {e : Int} {one : List α → M (List α)} (h : ∀ l, Wm e (one l)) (l : List α) : Wm e (listS one l) := fun s => by
  unfold listS
  split
  · exact .pure List.suffix_rfl
  · exact Wr.bind (h l s) fun l' s1 _ => comma_wr h _ l' s1
theorem one_wr {e : Int} {m : M Int} (h : Wm e m) (l : List Int) : Wm e (oneS m l) := fun s => Wr.bind (h s) fun _ _ _ => .pure List.suffix_rfl
theorem call_wr (e : Int) (d : Nat) (a : Int) (tx : Bs) : Wm e (callS e d a tx) := fun s => by
  unfold callS
  exact Wr.bind (ident_wr e s) fun t s1 _ => Wr.bind (put_wr e _ s1) fun x s2 _ => Wr.bind (within_wr e d _ _ (fun d' h => list_wr (fun l => one_wr (in_wr e d d' h) l) [x]) s2) fun l s3 _ => put_wr e _ s3
theorem chan_wr (e : Int) : Wm e (chanS e) := fun s => Wr.bind (ident_wr e s) fun _ s1 _ => put_wr e _ s1
theorem named_wr (e : Int) (d : Nat) : Wm e (namedS e d) := fun s => by
  unfold namedS
  refine Wr.bind (ident_wr e s) fun t s1 _ => ?_
  split
  · exact Wr.bind (index_wr e d s1) fun x s2 _ => Wr.bind (want_wr e _ s2) fun _ s3 _ => Wr.bind (ex_wr e d s3) fun y s4 _ => put_wr e _ s4
  · refine Wr.bind (want_wr e _ s1) fun _ s2 _ => ?_
    split
    · exact Wr.bind ((chan_wr e _).weak (drop_sfx s2)) fun x s3 _ => put_wr e _ s3
    · split
      · exact (call_wr e d _ _ _).weak (drop_sfx s2)
      · split
        · exact Wr.bind ((ex_wr e d _).weak (drop_sfx s2)) fun x s3 _ => put_wr e _ s3
        · exact Wr.bind (ex_wr e d _) fun x s3 _ => put_wr e _ s3
theorem plain_wr (e : Int) (d : Nat) : Wm e (plainS e d) := fun s => by
  unfold plainS
  simp only
  split
  · exact Wr.bind ((chan_wr e _).weak (drop_sfx s)) fun c s1 _ => Wr.bind (ex_wr e d s1) fun x s2 _ => put_wr e _ s2
  · split
    · exact (call_wr e d _ _ _).weak (drop_sfx s)
    · split
      · exact Wr.bind ((ex_wr e d _).weak (drop_sfx s)) fun x s1 _ => put_wr e _ s1
      · split
        · split
          · exact (put_wr e _ _).weak (drop_sfx s)
          · exact Wr.bind ((ex_wr e d _).weak (drop_sfx s)) fun x s1 _ => put_wr e _ s1
        · exact named_wr e d s
theorem stmtsL_wr {e : Int} {stmt : M Int} (h : Wm e stmt) (hd : Dm 0 1 stmt) : ∀ n l s, s.ts.length < n → Wr e s (stmtsL stmt n l s) := by
  intro n
  induction n with
  | zero => intro l s hn; omega
  | succ n ih =>
    intro l s hn
    unfold stmtsL
    split
    · exact .pure List.suffix_rfl
    · refine Wr.bind (h s) fun x s1 h1 => ih _ s1 ?_
      have := (hd s x s1 h1).2
      omega
theorem stmts_wr {e : Int} {stmt : M Int} (h : Wm e stmt) (hd : Dm 0 1 stmt) (l : List Int) : Wm e (stmtsS stmt l) := fun s => stmtsL_wr h hd _ l s (Nat.lt_succ_self _)
theorem block_wr (e : Int) (d : Nat) {stmt : M Int} (h : ∀ d', d = d' + 1 → Wm e stmt ∧ Dm 0 1 stmt) : Wm e (blockB e d stmt) := fun s => by
  unfold blockB
  simp only
  exact Wr.bind (within_wr e d _ _ (fun d' hd => stmts_wr (h d' hd).1 (h d' hd).2 []) s) fun l s1 _ => put_wr e _ s1
theorem stmtB_wr (e : Int) (d : Nat) {stmt : M Int} (h : ∀ d', d = d' + 1 → Wm e stmt ∧ Dm 0 1 stmt) : Wm e (stmtB e d stmt) := fun s => by
  unfold stmtB
  simp only
  split
  · refine Wr.bind ((ex_wr e d _).weak (drop_sfx s)) fun x s1 _ => Wr.bind (block_wr e d h s1) fun a s2 _ => ?_
    split
    · exact Wr.bind ((block_wr e d h _).weak (drop_sfx s2)) fun b s3 _ => put_wr e _ s3
    · exact Wr.bind (put_wr e _ s2) fun b s3 _ => put_wr e _ s3
  · split
    · exact Wr.bind ((ex_wr e d _).weak (drop_sfx s)) fun x s1 _ => Wr.bind (block_wr e d h s1) fun a s2 _ => put_wr e _ s2
    · split
      · exact Wr.bind ((block_wr e d h _).weak (drop_sfx s)) fun a s1 _ => Wr.bind (want_wr e _ s1) fun _ s2 _ => Wr.bind (ident_wr e s2) fun t s3 _ => Wr.bind (block_wr e d h s3) fun b s4 _ => put_wr e _ s4
      · exact Wr.bind (plain_wr e d s) fun x s1 _ => Wr.bind (want_wr e _ s1) fun _ s2 _ => .pure List.suffix_rfl
theorem stmt_wr (e : Int) : ∀ d, Wm e (stmtS e d) := by
  intro d
  induction d with
  | zero => exact stmtB_wr e 0 (fun d' h => by omega)
  | succ d ih => exact stmtB_wr e (d + 1) (fun _ _ => ⟨ih, (stmt_le e d).weak (by omega) (by omega)⟩)
theorem typed_wr (e k a : Int) (tx : Bs) : Wm e (typedS e k a tx) := fun s => by
  unfold typedS
  split
  · exact .here (.inl rfl)
  · exact (put_wr e _ _).weak (drop_sfx s)
theorem varsL_wr (e kind : Int) : ∀ n l, Wm e (varsL e kind n l) := by
  intro n
  induction n with
  | zero => exact fun l s => .pure List.suffix_rfl
  | succ n ih =>
    intro l s
    unfold varsL
    split
    · exact .pure List.suffix_rfl
    · exact Wr.bind ((ident_wr e _).weak (drop_sfx s)) fun t s1 _ => Wr.bind (typed_wr e kind _ _ s1) fun x s2 _ => Wr.bind (want_wr e _ s2) fun _ s3 _ => ih _ s3
theorem vars_wr (e kind : Int) : Wm e (varsS e kind) := fun s => varsL_wr e kind _ [] s
theorem body_wr (e : Int) (d : Nat) : Wm e (bodyS e d) := fun s => by
  unfold bodyS
  simp only
  refine Wr.bind (within_wr e d _ _ (fun d' hd s => ?_) s) fun p s1 _ => Wr.bind (put_wr e _ s1) fun b s2 _ => .pure List.suffix_rfl
  subst hd
  exact Wr.bind (vars_wr e 5 s) fun vs s1 _ => Wr.bind (stmts_wr (stmt_wr e d') ((stmt_le e d').weak (by omega) (by omega)) [] s1) fun l s2 _ => .pure List.suffix_rfl
theorem param_wr (e : Int) : Wm e (paramS e) := fun s => Wr.bind (ident_wr e s) fun t s1 _ => typed_wr e 4 _ _ s1
theorem proc_wr (e : Int) (d : Nat) : Wm e (procS e d) := fun s => by
  unfold procS
  simp only
  refine Wr.bind (want_wr e _ s) fun _ s1 _ => Wr.bind (ident_wr e s1) fun t s2 _ => Wr.bind (within_wr e d _ _ (fun d' hd => list_wr (fun l => one_wr (param_wr e) l) []) s2) fun ps s3 _ => ?_
  refine Wr.bind ((body_wr e d _).weak (s0 := s3) ?_) fun p s5 _ => put_wr e _ s5
  split
  · exact drop_sfx s3
  · exact List.suffix_rfl
theorem procsL_wr (e : Int) (d : Nat) : ∀ n l, Wm e (procsL e d n l) := by
  intro n
  induction n with
  | zero => exact fun l s => .pure List.suffix_rfl
  | succ n ih =>
    intro l s
    unfold procsL
    split
    · exact .pure List.suffix_rfl
    · exact Wr.bind (proc_wr e d s) fun x s1 _ => ih _ s1
theorem program_wr (e : Int) : Wm e (programS e) := fun s => by
  unfold programS
  exact Wr.bind (vars_wr e 2 s) fun l s1 _ => Wr.bind (procsL_wr e 40 _ l s1) fun l2 s2 _ => put_wr e _ s2
end Go.Ru
