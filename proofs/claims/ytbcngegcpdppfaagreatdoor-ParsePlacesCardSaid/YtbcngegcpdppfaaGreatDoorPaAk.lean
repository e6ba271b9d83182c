/-
  Parser, part 6: all expressions; answers handed on step by step. No statement of the seat is proved here.
-/
import Derived.Test.YtbcngegcpdppfaaGreatDoorPaRow
namespace Go.Proofs.YtbcngegcpdppfaaGreatDoor
open Go.AE Go.Ru
set_option maxRecDepth 100000
set_option pp.maxSteps 1000

theorem exJ_zero (D : Nat) : COk 66 (cExJ D 0) := by
  rintro args K k ⟨d, j, e, ts, ns, mo, op, kk, X, -, -, -, -, -, hj, -⟩
  omega
theorem all_ok (D : Nat) : COk 110 (cUna D) ∧ COk 66 (cExJ D 6) ∧ COk 132 (cPrim D) := by
  have hx : ∀ D, COk 110 (cUna D) → COk 66 (cExJ D 6) := fun D hU =>
    expr_step hU (expr_step hU (expr_step hU (expr_step hU (expr_step hU (expr_step hU (exJ_zero D))))))
  induction D with
  | zero =>
    have h0 : COk 110 (cUna 0) := by
      rintro args K k ⟨d, e, ts, ns, mo, op, X, -, -, -, h, -⟩
      omega
    exact ⟨h0, hx 0 h0, prim_ok (hx 0 h0)⟩
  | succ D ih =>
    have h1 := una_step ih.2.2 ih.1
    exact ⟨h1, hx _ h1, prim_ok (hx _ h1)⟩

/-! ### answers handed on -/
theorem bindA {α β γ : Type} (r : R α) (f : α → PS → R β) (g : β → PS → R γ) : (r.bind f).bind g = r.bind fun a s => (f a s).bind g := by cases r <;> rfl
theorem bindO {α β : Type} (a : α) (s : PS) (f : α → PS → R β) : (R.ok a s).bind f = f a s := rfl
theorem bindB {α β : Type} (a e : Int) (f : α → PS → R β) : (R.bad a e : R α).bind f = .bad a e := rfl
def AK {α : Type} (r : R α) (ok : α → PS → Prop) (bad : Int → Int → Prop) : Prop := match r with
  | .ok a s => ok a s
  | .bad a e => bad a e
theorem After.ak {α : Type} {e : Int} {r : R α} {val : α → AV} {op : Int} {X : List ABlk} {k : AO → List ABlk → Prop} (h : After e r val op X k) :
    AK r (fun a s => k (.ret (val a)) (encP e s.ts s.ns op s.mo ++ X)) (fun a er => k (.pan (wrongV a er)) (deads 2 ++ X)) := by
  cases hr : r with
  | ok a s => exact h.ok _ _ _ _ hr
  | bad a e => exact h.bad _ _ hr
/-- one step: what is called, then the rest -/
theorem AK.step {α β : Type} {r : R α} {f : α → PS → R β} {ok : β → PS → Prop} {bad : Int → Int → Prop} (h : AK (r.bind f) ok bad) {e : Int} {val : α → AV} {op : Int} {X : List ABlk} {k : AO → List ABlk → Prop}
    {p : PS → Prop} (hp : Okk r p)
    (h1 : ∀ a ts' ns' mo', p ⟨ts', ns', mo'⟩ → AK (f a ⟨ts', ns', mo'⟩) ok bad → k (.ret (val a)) (encP e ts' ns' op mo' ++ X))
    (h2 : ∀ a er, bad a er → k (.pan (wrongV a er)) (deads 2 ++ X)) : After e r val op X k := by
  cases r with
  | ok a s => exact ⟨fun a' ts' ns' mo' hr => by injection hr with e1 e2; subst e1; subst e2; exact h1 _ _ _ _ (hp _ _ rfl) h, fun _ _ hr => by simp at hr⟩
  | bad a er => exact ⟨fun _ _ _ _ hr => by simp at hr, fun a' e' hr => by injection hr with e1 e2; subst e1; subst e2; exact h2 _ _ h⟩
theorem AK.stepv {α β : Type} {r : R α} {f : α → PS → R β} {ok : β → PS → Prop} {bad : Int → Int → Prop} (h : AK (r.bind f) ok bad) {e : Int} {val : α → AV} {op : Int} {X : List ABlk} {k : AO → List ABlk → Prop}
    {p : α → PS → Prop} (hp : ∀ a s, r = .ok a s → p a s)
    (h1 : ∀ a ts' ns' mo', p a ⟨ts', ns', mo'⟩ → AK (f a ⟨ts', ns', mo'⟩) ok bad → k (.ret (val a)) (encP e ts' ns' op mo' ++ X))
    (h2 : ∀ a er, bad a er → k (.pan (wrongV a er)) (deads 2 ++ X)) : After e r val op X k := by
  cases r with
  | ok a s => exact ⟨fun a' ts' ns' mo' hr => by injection hr with e1 e2; subst e1; subst e2; exact h1 _ _ _ _ (hp _ _ rfl) h, fun _ _ hr => by simp at hr⟩
  | bad a er => exact ⟨fun _ _ _ _ hr => by simp at hr, fun a' e' hr => by injection hr with e1 e2; subst e1; subst e2; exact h2 _ _ h⟩
theorem AK.last {β : Type} {r : R β} {ok : β → PS → Prop} {bad : Int → Int → Prop} (h : AK r ok bad) {e : Int} {val : β → AV} {op : Int} {X : List ABlk} {k : AO → List ABlk → Prop}
    (h1 : ∀ a ts' ns' mo', ok a ⟨ts', ns', mo'⟩ → k (.ret (val a)) (encP e ts' ns' op mo' ++ X))
    (h2 : ∀ a er, bad a er → k (.pan (wrongV a er)) (deads 2 ++ X)) : After e r val op X k := by
  cases r with
  | ok a s => exact ⟨fun a' ts' ns' mo' hr => by injection hr with e1 e2; subst e1; subst e2; exact h1 _ _ _ _ h, fun _ _ hr => by simp at hr⟩
  | bad a er => exact ⟨fun _ _ _ _ hr => by simp at hr, fun a' e' hr => by injection hr with e1 e2; subst e1; subst e2; exact h2 _ _ h⟩
/-- skip -/
theorem AK.within {α β : Type} {e : Int} {d : Nat} {op cl : Bs} {what : M α} {ts : List Tok} {ns : List Nd} {mo : Int} {f : α → PS → R β} {ok : β → PS → Prop} {bad : Int → Int → Prop}
    (h : AK ((withinS e (d + 1) op cl what ⟨ts, ns, mo⟩).bind f) ok bad) (hw : isS op ts = true) (hc : cl ≠ []) :
    AK ((what ⟨ts.tail, ns, moreS (d + 1) mo⟩).bind fun a s => (wantS e cl s).bind fun _ s => f a s) ok bad := by
  simp only [withinS, hw] at h
  generalize what ⟨ts.tail, ns, moreS (d + 1) mo⟩ = r at h ⊢
  cases r with
  | bad a e => exact h
  | ok a s =>
    simp only [R.bind] at h ⊢
    cases cl with
    | nil => exact absurd rfl hc
    | cons c l =>
      generalize wantS e (c :: l) s = r at h ⊢
      cases r <;> exact h
theorem AK.within_no {α β : Type} {e : Int} {d : Nat} {op cl : Bs} {what : M α} {ts : List Tok} {ns : List Nd} {mo : Int} {f : α → PS → R β} {ok : β → PS → Prop} {bad : Int → Int → Prop}
    (h : AK ((withinS e d op cl what ⟨ts, ns, mo⟩).bind f) ok bad) (hw : isS op ts = false) : bad (hd e ts) 2 := by
  simp only [withinS, hw] at h; exact h
theorem AK.within_deep {α β : Type} {e : Int} {op cl : Bs} {what : M α} {ts : List Tok} {ns : List Nd} {mo : Int} {f : α → PS → R β} {ok : β → PS → Prop} {bad : Int → Int → Prop}
    (h : AK ((withinS e 0 op cl what ⟨ts, ns, mo⟩).bind f) ok bad) (hw : isS op ts = true) : bad (hd e ts) 6 := by
  simp only [withinS, hw] at h; exact h
theorem AK.want {β : Type} {e : Int} {w : Bs} {s : PS} {f : Unit → PS → R β} {ok : β → PS → Prop} {bad : Int → Int → Prop} (h : AK ((wantS e w s).bind f) ok bad) (hw : isS w s.ts = true) : AK (f () (dropS s)) ok bad := by
  simp only [wantS, hw] at h; exact h
theorem AK.want_no {β : Type} {e : Int} {w : Bs} {s : PS} {f : Unit → PS → R β} {ok : β → PS → Prop} {bad : Int → Int → Prop} (h : AK ((wantS e w s).bind f) ok bad) (hw : isS w s.ts = false) : bad (hd e s.ts) 2 := by
  simp only [wantS, hw] at h; exact h

/-- an expression, so much may yet be opened -/
def cEx : AC := fun args K k => ∃ d : Nat, ∃ e ts ns mo op X, args = [pp, .p (.int .i64 0)] ∧ K = encP e ts ns op mo ++ X ∧ op = 40 - (d : Int) ∧ Fine d ts ns ∧ After e (exS e d ⟨ts, ns, mo⟩) intV op X k
theorem ex_ok : COk 66 cEx := by
  rintro args K k ⟨d, e, ts, ns, mo, op, X, rfl, rfl, ho, hf, hk⟩
  have := hf.1
  exact (all_ok 41).2.1 _ _ _ ⟨d, 5, e, ts, ns, mo, op, 0, X, rfl, rfl, ho, rfl, by omega, by omega, by omega, hf, hk⟩
/-- an expression in brackets -/
theorem idx_ok' : COk 156 (cIndex 41) := index_ok (all_ok 41).2.1

/-- a state that is small enough, with some room -/
structure Fin (d c : Nat) (ts : List Tok) (ns : List Nd) : Prop where
  d : d ≤ 40
  s : ns.length + 4 * ts.length + c ≤ 900000
theorem Fine.fin {d : Nat} {ts : List Tok} {ns : List Nd} (h : Fine d ts ns) : Fin d 0 ts ns := ⟨h.1, h.2⟩
theorem Fin.fine {d c : Nat} {ts : List Tok} {ns : List Nd} (h : Fin d c ts ns) : Fine d ts ns := ⟨h.1, by have := h.2; omega⟩
theorem Fin.sz {d c : Nat} {ts : List Tok} {ns : List Nd} (h : Fin d c ts ns) : ns.length < 1000000 := by have := h.2; omega
theorem Fin.st {d c c' k : Nat} {ts ts' : List Tok} {ns ns' : List Nd} {mo mo' : Int} (h : Fin d c ts ns) (hl : Lw ⟨ts, ns, mo⟩ c' k ⟨ts', ns', mo'⟩) : Fin d (c + c') ts' ns' :=
  ⟨h.1, by have := h.2; have := hl.1; simp only at this; omega⟩
theorem Fin.pt {d c : Nat} {ts : List Tok} {ns : List Nd} {n : Nd} (h : Fin d (c + 1) ts ns) : Fin d c ts (ns ++ [n]) := ⟨h.1, by have := h.2; simp only [List.length_append, List.length_cons, List.length_nil]; omega⟩
theorem Fin.opn {d c : Nat} {ts : List Tok} {ns : List Nd} {w : Bs} (h : Fin (d + 1) c ts ns) (hw : isS w ts = true) : Fin d (c + 4) ts.tail ns :=
  ⟨by have := h.1; omega, by have := h.2; have := isS_pos hw; simp only [List.length_tail]; omega⟩
theorem Fin.sk {d c : Nat} {ts : List Tok} {ns : List Nd} {w : Bs} (h : Fin d c ts ns) (hw : isS w ts = true) : Fin d (c + 4) ts.tail ns :=
  ⟨h.1, by have := h.2; have := isS_pos hw; simp only [List.length_tail]; omega⟩
theorem Fin.lo {d c c' : Nat} {ts : List Tok} {ns : List Nd} (h : Fin d c ts ns) (hc : c' ≤ c) : Fin d c' ts ns := ⟨h.1, by have := h.2; omega⟩
end Go.Proofs.YtbcngegcpdppfaaGreatDoor
