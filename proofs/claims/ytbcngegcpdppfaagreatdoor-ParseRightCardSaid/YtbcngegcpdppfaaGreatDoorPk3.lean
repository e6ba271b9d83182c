/-
  AE, part 9: rules for contracts: weakening, framing, loops. Own metatheory over any program; no statement of the seat is proved here.
  AE, part 10: a nil slice as a row of nothing that may grow; results said in weaker words. Own metatheory over any program; no statement of the seat is proved here.
  DERIVED: THE SHELF's CONTRACTS AT THIS DUMP, IN PLAIN WORDS (tools/lay-plain.mjs out of 'TryzShelf.lean', which tools/lay-shelf.mjs wrote): THE SAME DECLARATIONS UNDER THE SAME NAMES: 'import', 'namespace', 'open', 'def', 'theorem' AND NOTHING ELSE: no command of the shelf's: FOR A HAND-IN. Each laying: the table of numbers ('.._ren') and one theorem, a field a fact of the dump's own or the kernel's comparison; each contract: ONE APPLICATION.
  Library functions as the layer AE meets them: by the shelf's contracts. No statement of the seat is proved here.
  Parser, part 1: what the parser computes, in plain Lean: tokens as a list, nodes as a list, depth as a number that sinks. No program in sight; no statement of the seat is proved here.
-/
import Derived.Shelf.Strings.Builder1
import Derived.Shelf.Strings.Builder2
import Derived.Shelf.Strings.OnBuilder
import Derived.Shelf.Small.Strs
import Derived.Shelf.Strings.BuilderF
import Derived.Shelf.Strings.BuilderK
import Derived.Shelf.Strconv.Atoi
import Derived.Shelf.Strconv.Itoa0
import Derived.Shelf.Strconv.Itoa1
import Derived.Shelf.LaysM
import Derived.Shelf.Strconv.Itoa2
import Derived.Shelf.Strconv.Itoa3
import Derived.Shelf.Strconv.AtoiErrFast
import Derived.Shelf.Strconv.ParseIntEmpty
import Derived.Shelf.Strconv.AtoiFail
import Derived.Shelf.Strconv.Clone
import Derived.Shelf.Strconv.SyntaxError
import Derived.Shelf.LaysC
import Derived.Shelf.Strconv.ToError
import Derived.Shelf.Strconv.Lower
import Derived.Shelf.Strconv.ParseUint10
import Derived.Shelf.Strconv.ParseUint10Empty
import Derived.Shelf.Strconv.ParseUint10Any
import Derived.Shelf.Strconv.ParseInt10
import Derived.Shelf.Strconv.AtoiLong
import Derived.Shelf.Strconv.AtoiInnerAll
import Derived.Shelf.Strconv.RangeError
import Derived.Shelf.Strconv.ToErrorRange
import Derived.Shelf.Strconv.AtoiAll
import Derived.Shelf.Strings.Search1
import Derived.Shelf.Strings.Search2
import Derived.Shelf.Strings.Search3
import Derived.Shelf.Strings.Shaped
import Derived.Test.YtbcngegcpdppfaaGreatDoorProg
import Derived.Test.YtbcngegcpdppfaaGreatDoorChecked
import Derived.Test.YtbcngegcpdppfaaGreatDoorPk1
import Derived.Test.YtbcngegcpdppfaaGreatDoorPk2
namespace Go.AE
section
variable {P : Program} {T : Tab}

/-! ### values told elsewhere -/
theorem V.agree {w : World} {m m' : Mp} {n : Nat} (hI : ∀ b, m.I b → m'.I b) (hρ : ∀ r, r < n → m'.ρ r = m.ρ r) (hL : ∀ r, r < n → m'.L r = m.L r)
    {a : AV} {u : Value} (h : V w m a u) (hc : a.cl n = true) : V w m' a u := by
  induction h with
  | p v u h => exact .p v u (h.mono hI (fun _ _ => rfl))
  | ptr r ver i j off sz cap h hi =>
    have hr : r < n := by simpa [AV.cl] using hc
    rw [← hρ r hr]
    exact .ptr (m := m') r ver i j off sz cap (by rw [hL r hr, h]) hi
  | ptrOld r ver i j off b o h =>
    have hr : r < n := by simpa [AV.cl] using hc
    exact .ptrOld (m := m') r ver i j off b o (by rw [hL r hr]; exact h)
  | slr r ver off k N sz cap h hn =>
    have hr : r < n := by simpa [AV.cl] using hc
    rw [← hρ r hr]
    exact .slr (m := m') r ver off k N sz cap (by rw [hL r hr, h]) hn
  | slrNil r ver h =>
    have hr : r < n := by simpa [AV.cl] using hc
    exact .slrNil (m := m') r ver (by rw [hL r hr, h])
  | slrOld r ver off k ad c h =>
    have hr : r < n := by simpa [AV.cl] using hc
    exact .slrOld (m := m') r ver off k ad c (by rw [hL r hr]; exact h)
  | rop cs off b o u hb h1 h2 => exact .rop (m := m') cs off b o u (hI _ hb) h1 (fun j hj => (h2 j hj).mono hI (fun _ _ => rfl))
  | fn f first cap A B hA hB h1 h2 ih1 ih2 =>
    simp only [AV.cl, Bool.and_eq_true] at hc
    exact .fn f first cap A B hA hB (fun j hj hj' => ih1 j hj hj' (AV.cls_get hc.1 j hj)) (fun j hj hj' => ih2 j hj hj' (AV.cls_get hc.2 j hj))
  | iface t v u h ih => exact .iface t v u (ih hc)
  | agg cs A hA h ih => exact .agg cs A hA (fun j hj hj' => ih j hj hj' (AV.cls_get hc j hj))
  | tup cs A hA h ih => exact .tup cs A hA (fun j hj hj' => ih j hj hj' (AV.cls_get hc j hj))
  | yld r sz cap h =>
    have hr : r < n := by simpa [AV.cl] using hc
    rw [← hρ r hr]
    exact .yld (m := m') r sz cap (by rw [hL r hr, h])
  | yldOld r b h =>
    have hr : r < n := by simpa [AV.cl] using hc
    exact .yldOld (m := m') r b (by rw [hL r hr]; exact h)
  | junk u => exact .junk u

theorem BlkOk.agree {w : World} {m m' : Mp} {n : Nat} (hI : ∀ b, m.I b → m'.I b) (hρ : ∀ r, r < n → m'.ρ r = m.ρ r) (hL : ∀ r, r < n → m'.L r = m.L r)
    {l : Inf} {g : Nat} {b : ABlk} (h : BlkOk w m l g b) (hc : b.cl n) : BlkOk w m' l g b := by
  cases b with
  | absent => exact h
  | dead => exact h
  | box ty cs =>
    obtain ⟨hl, c, h1, h2, h3⟩ := h
    exact ⟨hl, c, h1, h2, fun j hj => let ⟨u, a, b⟩ := h3 j hj; ⟨u, a, b.agree hI hρ hL (AV.cls_get hc j hj)⟩⟩
  | arr ty sz ver k f =>
    rcases h with h | ⟨cap, c, hl, h0, h00, h1, h2, h3⟩
    · exact .inl h
    exact .inr ⟨cap, c, hl, h0, h00, h1, h2, fun i hi => ⟨(h3 i hi).1, fun j hj => let ⟨u, a, b⟩ := (h3 i hi).2 j hj; ⟨u, a, b.agree hI hρ hL (AV.cls_get (hc i hi) j hj)⟩⟩⟩
  | lp s env N ps asg bd =>
    obtain ⟨hl, p, fn, tmps, D, h1, h2, h3, h4⟩ := h
    exact ⟨hl, p, fn, tmps, D, h1, h2, h3, fun d => (h4 d).agree hI hρ hL (clE_look hc d)⟩

/-! ### small lists -/
theorem hp_append (K X : List ABlk) (r : Nat) : hp (K ++ X) r = if r < K.length then hp K r else hp X (r - K.length) := by
  induction K generalizing r with
  | nil => simp
  | cons b K ih =>
    cases r with
    | zero => simp [hp, nth]
    | succ r =>
      have := ih r
      simp only [hp, nth, List.cons_append, List.length_cons] at this ⊢
      rw [this]
      by_cases h : r < K.length
      · rw [if_pos h, if_pos (by omega)]
      · rw [if_neg h, if_neg (by omega)]
        congr 2; omega

theorem hp_ge (K : List ABlk) (r : Nat) (h : K.length ≤ r) : hp K r = .absent := by
  have := hp_append K [] r
  rw [List.append_nil, if_neg (by omega)] at this
  rw [this]; rfl

theorem hp_takeN (K : List ABlk) (n r : Nat) : hp (takeN K n) r = if r < n then hp K r else .absent := by
  induction K generalizing n r with
  | nil => cases n <;> simp [takeN, hp, nth]
  | cons b K ih =>
    cases n with
    | zero => simp [takeN, hp, nth]
    | succ n =>
      cases r with
      | zero => simp [takeN, hp, nth]
      | succ r =>
        have := ih n r
        simp only [hp, takeN, nth] at this ⊢
        rw [this]
        by_cases h : r < n
        · rw [if_pos h, if_pos (by omega)]
        · rw [if_neg h, if_neg (by omega)]

theorem takeN_zero {α : Type} (l : List α) : takeN l 0 = [] := by cases l <;> rfl
theorem len_length {α : Type} (l : List α) : len l = l.length := by
  induction l with
  | nil => rfl
  | cons a l ih => simp [len, ih]

theorem takeN_length {α : Type} (l : List α) (n : Nat) (h : n ≤ l.length) : (takeN l n).length = n := by
  induction l generalizing n with
  | nil => simp at h; subst h; rfl
  | cons a l ih =>
    cases n with
    | zero => rfl
    | succ n => simp only [takeN, List.length_cons]; rw [ih n (by simpa using h)]

theorem St.ge {w : World} {m : Mp} {K : List ABlk} (h : St w m (hp K)) (r : Nat) (hr : K.length ≤ r) : m.L r = .absent := h.absent (hp_ge K r hr)

/-! ### contracts -/
theorem ACalls.mono {f : FuncId} {args : List AV} {K : List ABlk} {k k' : AO → List ABlk → Prop} (h : ACalls P f args K k) (hk : ∀ ao K', k ao K' → k' ao K') : ACalls P f args K k' := by
  refine ⟨h.1, fun w m Args hS hV => (h.2 w m Args hS hV).mono fun e w' he => ?_⟩
  cases e with
  | returned u => obtain ⟨m', a, K', h1, h2, h3, h4⟩ := he; exact ⟨m', a, K', h1, h2, h3, hk _ _ h4⟩
  | panicked ch => obtain ⟨m', a, u, K', h0, h1, h2, h3, h4⟩ := he; exact ⟨m', a, u, K', h0, h1, h2, h3, hk _ _ h4⟩
  | outgrown => exact he.elim

/-- arguments and a heap, said in weaker words -/
def Wk (bs : List AV) (K : List ABlk) (bs' : List AV) (K' : List ABlk) : Prop :=
  ∀ w m Args, St w m (hp K) → VL w m bs Args → ∃ m', Tr w m w m' ∧ St w m' (hp K') ∧ VL w m' bs' Args
/-- a value and a heap, said in weaker words; references behind the first n were not there -/
def Wk1 (n : Nat) (a : AV) (K : List ABlk) (a' : AV) (K' : List ABlk) : Prop :=
  ∀ w m u we me, Tr we me w m → (∀ r, n ≤ r → me.L r = .absent) → St w m (hp K) → V w m a u → ∃ m', Tr we me w m' ∧ St w m' (hp K') ∧ V w m' a' u

theorem ACalls.pre {f : FuncId} {args args' : List AV} {K K' : List ABlk} {k : AO → List ABlk → Prop} (h : ACalls P f args' K' k) (hw : Wk args K args' K') : ACalls P f args K k := by
  refine ⟨h.1, fun w m Args hS hV => ?_⟩
  obtain ⟨m', hT, hS', hV'⟩ := hw w m Args hS hV
  refine (h.2 w m' Args hS' hV').mono fun e w' he => ?_
  cases e with
  | returned u => obtain ⟨m2, a, K2, h1, h2, h3, h4⟩ := he; exact ⟨m2, a, K2, hT.trans h1, h2, h3, h4⟩
  | panicked ch => obtain ⟨m2, a, u, K2, h0, h1, h2, h3, h4⟩ := he; exact ⟨m2, a, u, K2, h0, hT.trans h1, h2, h3, h4⟩
  | outgrown => exact he.elim

def AO.val : AO → AV
  | .ret v => v
  | .pan v => v
def AO.with (a : AV) : AO → AO
  | .ret _ => .ret a
  | .pan _ => .pan a

theorem ACalls.post {f : FuncId} {args : List AV} {K : List ABlk} {k k' : AO → List ABlk → Prop} (h : ACalls P f args K k)
    (hk : ∀ ao K1, k ao K1 → ∃ a' K2, Wk1 K.length ao.val K1 a' K2 ∧ k' (ao.with a') K2) : ACalls P f args K k' := by
  refine ⟨h.1, fun w m Args hS hV => (h.2 w m Args hS hV).mono fun e w' he => ?_⟩
  cases e with
  | returned u =>
    obtain ⟨m', a, K', h1, h2, h3, h4⟩ := he
    obtain ⟨a', K2, hw, hk2⟩ := hk _ _ h4
    obtain ⟨m2, h5, h6, h7⟩ := hw _ _ _ _ _ h1 (fun r hr => hS.ge r hr) h2 h3
    exact ⟨m2, a', K2, h5, h6, h7, hk2⟩
  | panicked ch =>
    obtain ⟨m', a, u, K', h0, h1, h2, h3, h4⟩ := he
    obtain ⟨a', K2, hw, hk2⟩ := hk _ _ h4
    obtain ⟨m2, h5, h6, h7⟩ := hw _ _ _ _ _ h1 (fun r hr => hS.ge r hr) h2 h3
    exact ⟨m2, a', u, K2, h0, h5, h6, h7, hk2⟩
  | outgrown => exact he.elim

def deads : Nat → List ABlk
  | 0 => []
  | n + 1 => .dead :: deads n
theorem deads_length (n : Nat) : (deads n).length = n := by
  induction n with
  | zero => rfl
  | succ n ih => simp [deads, ih]
theorem hp_deads (n r : Nat) (h : r < n) : hp (deads n) r = .dead := by
  induction n generalizing r with
  | zero => omega
  | succ n ih =>
    cases r with
    | zero => rfl
    | succ r => exact ih r (by omega)

/-- what a contract over n blocks must answer, so that others may lie behind them -/
def frameK (n : Nat) (k : AO → List ABlk → Prop) : AO → List ABlk → Prop
  | .ret a, K => a.cl n = true ∧ n ≤ K.length ∧ (∀ r, r < n → (hp K r).cl n) ∧ k (.ret a) (takeN K n)
  | .pan a, _ => a.cl 0 = true ∧ k (.pan a) (deads n)

/-- the map of a framed call -/
def Mp.glue (n : Nat) (m m' : Mp) (L : Nat → Inf) : Mp := ⟨fun r => if r < n then m'.ρ r else m.ρ r, m'.I, fun r => if r < n then L r else m.L r⟩

theorem glue_ok {n : Nat} {w w' : World} {m m' : Mp} {K0 K1 X : List ABlk} {L : Nat → Inf} (hn : K0.length = n) (hn1 : K1.length = n) (hS : St w m (hp (K0 ++ X)))
    (hT : Tr w (m.cut n) w' m') {H : Nat → ABlk} (hS' : St w' m' H)
    (hL : ∀ r, r < n → (L r).isLive → L r = m'.L r)
    (hstep : ∀ r, r < n → (m.L r).step (L r) (m'.ρ r = m.ρ r))
    (hblk : ∀ r, r < n → BlkOk w' (m.glue n m' L) (L r) (m'.ρ r) (hp K1 r)) :
    Tr w m w' (m.glue n m' L) ∧ St w' (m.glue n m' L) (hp (K1 ++ X)) := by
  have hcl : ∀ r, r < n → (m.cut n).L r = m.L r := fun r hr => by simp [Mp.cut, hr]
  have hcg : ∀ r, ¬ r < n → (m.cut n).L r = .absent := fun r hr => by simp [Mp.cut, hr]
  have hlt : ∀ r, ((m.cut n).L r).isLive → r < n ∧ (m.L r).isLive := fun r h => by
    by_cases hr : r < n
    · rw [hcl r hr] at h; exact ⟨hr, h⟩
    · rw [hcg r hr] at h; exact h.elim
  have hsep : ∀ r r', r < n → ((L r).isLive) → ¬ r' < n → (m.L r').isLive → m'.ρ r ≠ m.ρ r' := fun r r' hr hl hr' hl' e => by
    have hl2 : (m'.L r).isLive := hL r hr hl ▸ hl
    rcases hT.newρ r hl2 with ⟨h1, h2⟩ | h1
    · have h3 := (hlt r h1).2
      have : m.ρ r = m.ρ r' := by rw [← e]; exact h2.symm
      exact hr' (hS.inj r r' h3 hl' this ▸ hr)
    · have := hS.lt r' hl'; omega
  have hTr : Tr w m w' (m.glue n m' L) := {
    os := hT.os
    tape := hT.tape
    output := hT.output
    size := hT.size
    out := fun b hb hr => hT.out b hb fun r hl => hr r (hlt r hl).2
    imm := fun b hb => hT.imm b hb
    same := fun b hb => hT.same b hb
    newI := fun b hb => by
      rcases hT.newI b hb with h | ⟨r, h1, h2⟩ | h
      · exact .inl h
      · exact .inr (.inl ⟨r, (hlt r h1).2, h2⟩)
      · exact .inr (.inr h)
    step := fun r => by
      by_cases hr : r < n
      · simp only [Mp.glue, hr, if_true]; exact hstep r hr
      · simp only [Mp.glue, hr, if_false]; exact Inf.step_refl _ _ trivial
    newρ := fun r hl => by
      by_cases hr : r < n
      · simp only [Mp.glue, hr, if_true] at hl ⊢
        rcases hT.newρ r (hL r hr hl ▸ hl) with ⟨h1, h2⟩ | h1
        · exact .inl ⟨(hlt r h1).2, h2⟩
        · exact .inr h1
      · simp only [Mp.glue, hr, if_false] at hl ⊢; exact .inl ⟨hl, trivial⟩ }
  refine ⟨hTr, ?_, ?_, ?_, hS'.Ilt, hS'.gl, ?_⟩
  · intro r r' h1 h2 e
    by_cases hr : r < n <;> by_cases hr' : r' < n <;> simp only [Mp.glue, hr, hr', if_true, if_false] at h1 h2 e
    · exact hS'.inj r r' (hL r hr h1 ▸ h1) (hL r' hr' h2 ▸ h2) e
    · exact absurd e (hsep r r' hr h1 hr' h2)
    · exact absurd e.symm (hsep r' r hr' h2 hr h1)
    · exact hS.inj r r' h1 h2 e
  · intro r h1 hI
    by_cases hr : r < n <;> simp only [Mp.glue, hr, if_true, if_false] at h1 hI
    · exact hS'.notI r (hL r hr h1 ▸ h1) hI
    · rcases hT.newI _ hI with h | ⟨r0, h2, h3⟩ | h
      · exact hS.notI r h1 h
      · have h4 := hlt r0 h2
        exact hr (hS.inj r0 r h4.2 h1 h3 ▸ h4.1)
      · have := hS.lt r h1; omega
  · intro r h1
    by_cases hr : r < n <;> simp only [Mp.glue, hr, if_true, if_false] at h1 ⊢
    · exact hS'.lt r (hL r hr h1 ▸ h1)
    · have := hS.lt r h1; have := hT.size; omega
  · intro r
    rw [hp_append, hn1]
    by_cases hr : r < n
    · have := hblk r hr
      rw [if_pos hr]
      have e1 : (m.glue n m' L).L r = L r := by simp [Mp.glue, hr]
      have e2 : (m.glue n m' L).ρ r = m'.ρ r := by simp [Mp.glue, hr]
      rw [e1, e2]; exact this
    · rw [if_neg hr]
      have e1 : (m.glue n m' L).L r = m.L r := by simp [Mp.glue, hr]
      have e2 : (m.glue n m' L).ρ r = m.ρ r := by simp [Mp.glue, hr]
      rw [e1, e2]
      have hb := hS.blk r
      rw [hp_append, hn, if_neg hr] at hb
      by_cases hl : (m.L r).isLive
      · refine hb.mono (hT.out _ (hS.lt r hl) fun r0 h0 e => ?_) (fun _ _ hv => hv.mono hTr)
        have h4 := hlt r0 h0
        exact hr (hS.inj r0 r h4.2 hl e ▸ h4.1)
      · exact hb.nolive hl

theorem ACalls.frame {f : FuncId} {args : List AV} {K0 X : List ABlk} {k : AO → List ABlk → Prop} (hc : AV.cls K0.length args = true) (hb : ∀ r, r < K0.length → (hp K0 r).cl K0.length)
    (h : ACalls P f args K0 (frameK K0.length k)) : ACalls P f args (K0 ++ X) (fun ao K => ∃ K1, K = K1 ++ X ∧ k ao K1) := by
  refine ⟨h.1, fun w m Args hS hV => ?_⟩
  have hH : (fun r => if r < K0.length then hp (K0 ++ X) r else .absent) = hp K0 := by
    funext r
    by_cases hr : r < K0.length
    · rw [if_pos hr, hp_append, if_pos hr]
    · rw [if_neg hr, hp_ge _ _ (by omega)]
  have hS0 : St w (m.cut K0.length) (hp K0) := by
    have := hS.cut K0.length (fun r hr => by rw [hp_append, if_pos hr]; exact hb r hr)
    rwa [hH] at this
  have hV0 : VL w (m.cut K0.length) args Args := ⟨hV.1, fun j hj hj' => (hV.2 j hj hj').cut _ (AV.cls_get hc j hj)⟩
  refine (h.2 w (m.cut K0.length) Args hS0 hV0).mono fun e w' he => ?_
  cases e with
  | returned u =>
    obtain ⟨m', a, K', h1, h2, h3, h4, h5, h6, h7⟩ := he
    have hagI : ∀ b, m'.I b → (m.glue K0.length m' m'.L).I b := fun b hb => hb
    have hagρ : ∀ r, r < K0.length → (m.glue K0.length m' m'.L).ρ r = m'.ρ r := fun r hr => by simp [Mp.glue, hr]
    have hagL : ∀ r, r < K0.length → (m.glue K0.length m' m'.L).L r = m'.L r := fun r hr => by simp [Mp.glue, hr]
    have hg := glue_ok (n := K0.length) (K1 := takeN K' K0.length) (L := m'.L) rfl (takeN_length _ _ h5) hS h1 h2 (fun r _ _ => rfl)
      (fun r hr => by have := h1.step r; simpa [Mp.cut, hr] using this)
      (fun r hr => by rw [hp_takeN, if_pos hr]; exact (h2.blk r).agree hagI hagρ hagL (h6 r hr))
    exact ⟨_, a, takeN K' K0.length ++ X, hg.1, hg.2, h3.agree hagI hagρ hagL h4, _, rfl, h7⟩
  | panicked ch =>
    obtain ⟨m', a, u, K', h0, h1, h2, h3, h4, h7⟩ := he
    have hg := glue_ok (n := K0.length) (K1 := deads K0.length) (L := fun _ => .dead) rfl (deads_length _) hS h1 h2 (fun r _ hl => hl.elim)
      (fun r hr => by
        cases hL : m.L r with
        | absent => trivial
        | dead => rfl
        | nil => exact .inl rfl
        | live => exact .inl rfl)
      (fun r hr => by rw [hp_deads _ _ hr]; rfl)
    exact ⟨_, a, u, deads K0.length ++ X, h0, hg.1, hg.2, h3.agree (n := 0) (m := m') (m' := m.glue K0.length m' fun _ => .dead) (fun b hb => hb) (fun r hr => by omega) (fun r hr => by omega) h4, _, rfl, h7⟩
  | outgrown => exact he.elim

/-! ### weaker words -/
/-- a value weaker than another -/
def AV.le (a b : AV) : Prop := ∀ w m u, V w m a u → V w m b u
theorem AV.le_refl (a : AV) : a.le a := fun _ _ _ h => h
theorem AV.le_junk (a : AV) : a.le .junk := fun _ _ u _ => .junk u
theorem AV.le_of_eq {a b : AV} (h : a = b) : a.le b := h ▸ AV.le_refl a
theorem AV.nils_le (sz : Nat) (f : Nat → List PV) : (AV.p .nils).le (.p (.sl sz 0 f)) := fun w m u h => by
  cases h with
  | p _ _ h => cases h; exact .p _ _ (.sl0 sz f none 0)
theorem AV.sl_le {sz n n' : Nat} {f f' : Nat → List PV} (hn : n' = n) (h : ∀ i, i < n → f' i = f i) : (AV.p (.sl sz n f)).le (.p (.sl sz n' f')) := fun w m u hv => by
  subst hn
  cases hv with
  | p _ _ hv =>
    cases hv with
    | sl0 _ _ a c => exact .p _ _ (.sl0 sz f' a c)
    | sl _ _ _ b o c u hI hcap hc hv =>
      refine .p _ _ (.sl sz n' f' b o c u hI hcap (fun i hi j hj => ?_) (fun i hi => ?_))
      · exact hc i hi j (by rw [← h i hi]; exact hj)
      · rw [h i hi]; exact hv i hi

def lesL : List AV → List AV → Prop
  | [], [] => True
  | a :: l, b :: l' => a.le b ∧ lesL l l'
  | _, _ => False
theorem lesL.get {l l' : List AV} (h : lesL l l') : l.length = l'.length ∧ ∀ j (hj : j < l.length) (hj' : j < l'.length), l[j].le l'[j] := by
  induction l generalizing l' with
  | nil => cases l' with
    | nil => exact ⟨rfl, fun j hj => by simp at hj⟩
    | cons b l' => exact h.elim
  | cons a l ih => cases l' with
    | nil => exact h.elim
    | cons b l' =>
      obtain ⟨h1, h2⟩ := ih h.2
      refine ⟨by simp [h1], fun j hj hj' => ?_⟩
      cases j with
      | zero => exact h.1
      | succ j => exact h2 j (by simpa using hj) (by simpa using hj')
theorem lesL.refl (l : List AV) : lesL l l := by
  induction l with
  | nil => trivial
  | cons a l ih => exact ⟨AV.le_refl a, ih⟩

/-- a block weaker than another -/
def ABlk.le (b b' : ABlk) : Prop := ∀ w m l g, BlkOk w m l g b → BlkOk w m l g b'
theorem ABlk.le_refl (b : ABlk) : b.le b := fun _ _ _ _ h => h
theorem ABlk.le_of_eq {a b : ABlk} (h : a = b) : a.le b := h ▸ ABlk.le_refl a
theorem ABlk.box_le {ty : TypeId} {cs cs' : List AV} (h : lesL cs cs') : (ABlk.box ty cs).le (.box ty cs') := fun w m l g hb => by
  obtain ⟨h1, h2⟩ := h.get
  obtain ⟨hl, c, hc, hs, hv⟩ := hb
  refine ⟨by rw [← h1]; exact hl, c, hc, by rw [hs, h1], fun j hj => ?_⟩
  obtain ⟨u, hu, hv⟩ := hv j (by omega)
  exact ⟨u, hu, h2 j (by omega) hj _ _ _ hv⟩
theorem ABlk.arr_le {ty : TypeId} {sz ver n n' : Nat} {f f' : Nat → List AV} (hn : n' = n) (h : ∀ i, i < n → lesL (f i) (f' i)) : (ABlk.arr ty sz ver n f).le (.arr ty sz ver n' f') := fun w m l g hb => by
  subst hn
  rcases hb with hb | ⟨cap, c, hl, h0, h00, hc, hs, hv⟩
  · exact .inl hb
  refine .inr ⟨cap, c, hl, h0, h00, hc, hs, fun i hi => ?_⟩
  obtain ⟨h1, h2⟩ := (h i hi).get
  obtain ⟨h3, h4⟩ := hv i hi
  refine ⟨by omega, fun j hj => ?_⟩
  obtain ⟨u, hu, hv⟩ := h4 j (by omega)
  exact ⟨u, hu, h2 j (by omega) hj _ _ _ hv⟩
theorem ABlk.arr_eq {ty : TypeId} {sz ver n n' : Nat} {f f' : Nat → List AV} (hn : n' = n) (h : ∀ i, i < n → f i = f' i) : (ABlk.arr ty sz ver n f).le (.arr ty sz ver n' f') :=
  ABlk.arr_le hn fun i hi => h i hi ▸ lesL.refl _

def lesK : List ABlk → List ABlk → Prop
  | [], [] => True
  | a :: l, b :: l' => a.le b ∧ lesK l l'
  | _, _ => False
theorem lesK.refl (l : List ABlk) : lesK l l := by
  induction l with
  | nil => trivial
  | cons a l ih => exact ⟨ABlk.le_refl a, ih⟩
theorem lesK.hp {K K' : List ABlk} (h : lesK K K') (r : Nat) : (hp K r).le (hp K' r) := by
  induction K generalizing K' r with
  | nil => cases K' with
    | nil => exact ABlk.le_refl _
    | cons b l' => exact h.elim
  | cons a l ih => cases K' with
    | nil => exact h.elim
    | cons b l' =>
      cases r with
      | zero => exact h.1
      | succ r => exact ih h.2 r

theorem lesK.head {K L : List ABlk} {n : Nat} (h : lesK (takeN K n) L) : lesK K (L ++ dropN K n) := by
  induction n generalizing K L with
  | zero =>
    have e : takeN K 0 = [] := by cases K <;> rfl
    rw [e] at h
    cases L with
    | nil =>
      have e : dropN K 0 = K := by cases K <;> rfl
      rw [e]; exact lesK.refl _
    | cons => exact h.elim
  | succ n ih =>
    cases K with
    | nil =>
      cases L with
      | nil => trivial
      | cons => exact h.elim
    | cons b K =>
      cases L with
      | nil => exact h.elim
      | cons c L => exact ⟨h.1, ih h.2⟩

theorem St.les {w : World} {m : Mp} {K K' : List ABlk} (hS : St w m (hp K)) (h : lesK K K') : St w m (hp K') :=
  ⟨hS.inj, hS.notI, hS.lt, hS.Ilt, hS.gl, fun r => h.hp r _ _ _ _ (hS.blk r)⟩

/-! ### what is known of a frame, in weaker words -/
theorem Le.refl (kb : Nat) (s : AS) : Le kb s s := fun _ _ _ _ m _ hT hS hE => ⟨m, hT, hS, hE, .refl m⟩
theorem Le.trans {kb : Nat} {s s' s'' : AS} (h : Le kb s s') (h' : Le kb s' s'') : Le kb s s'' := fun we me hk w m tmps hT hS hE => by
  obtain ⟨m', h1, h2, h3, h4⟩ := h we me hk w m tmps hT hS hE
  obtain ⟨m2, k1, k2, k3, k4⟩ := h' we me hk w m' tmps h1 h2 h3
  exact ⟨m2, k1, k2, k3, h4.trans k4⟩

def subE (t : List (Nat × AV)) : List (Nat × AV) → Prop
  | [] => True
  | (d, v) :: r => (look t d).le v ∧ subE t r
theorem subE.look {t t' : List (Nat × AV)} (h : subE t t') (d : Nat) : (look t d).le (look t' d) := by
  induction t' with
  | nil => exact AV.le_junk _
  | cons x r ih =>
    obtain ⟨j, v⟩ := x
    rw [look_cons]
    by_cases e : j = d
    · subst e; rw [if_pos rfl]; exact h.1
    · rw [if_neg e]; exact ih h.2
theorem Le.env {kb : Nat} {t t' : List (Nat × AV)} {K K' : List ABlk} (h : subE t t') (hK : lesK K K') : Le kb ⟨t, K⟩ ⟨t', K'⟩ := fun _ _ _ _ m _ hT hS hE =>
  ⟨m, hT, hS.les hK, fun d => h.look d _ _ _ (hE d), .refl m⟩

theorem clE.look {n : Nat} {t : List (Nat × AV)} (h : clE n t = true) (d : Nat) : (look t d).cl n = true := clE_look h d
def clK (n : Nat) : List ABlk → Prop
  | [] => True
  | b :: r => b.cl n ∧ clK n r
theorem clK.hp {n : Nat} {K : List ABlk} (h : clK n K) (r : Nat) : (hp K r).cl n := by
  induction K generalizing r with
  | nil => exact trivial
  | cons b K ih =>
    cases r with
    | zero => exact h.1
    | succ r => exact ih h.2 r

theorem cut_St {w : World} {m : Mp} {K : List ABlk} {n : Nat} (hS : St w m (hp K)) (h : clK n (takeN K n)) : St w (m.cut n) (hp (takeN K n)) := by
  have hcl : ∀ r, r < n → (hp K r).cl n := fun r hr => by
    have := clK.hp h r
    rwa [hp_takeN, if_pos hr] at this
  have := hS.cut n hcl
  have e : (fun r => if r < n then hp K r else .absent) = hp (takeN K n) := by
    funext r; rw [hp_takeN]
  rwa [e] at this

theorem Le.cut {kb n : Nat} {t : List (Nat × AV)} {K : List ABlk} (hn : Nat.ble kb n = true) (ht : clE n t = true) (hK : clK n (takeN K n)) : Le kb ⟨t, K⟩ ⟨t, takeN K n⟩ := fun _ _ hk _ m _ hT hS hE =>
  ⟨m.cut n, hT.cut n (fun r hr => hk r (Nat.le_trans (Nat.le_of_ble_eq_true hn) hr)), cut_St hS hK, fun d => (hE d).cut n (clE.look ht d), .cut m n⟩

/-- a result, behind it what is needed no more is forgotten -/
theorem Wk1.cut {n : Nat} {a : AV} {K : List ABlk} (k : Nat) (hn : n ≤ k) (ha : a.cl k = true) (hK : clK k (takeN K k)) : Wk1 n a K a (takeN K k) := fun _ m _ _ _ hT hk hS hV =>
  ⟨m.cut k, hT.cut k (fun r hr => hk r (by omega)), cut_St hS hK, hV.cut k ha⟩
theorem Wk1.refl (n : Nat) (a : AV) (K : List ABlk) : Wk1 n a K a K := fun _ m _ _ _ hT _ hS hV => ⟨m, hT, hS, hV⟩
theorem Wk1.trans {n : Nat} {a a' a'' : AV} {K K' K'' : List ABlk} (h : Wk1 n a K a' K') (h' : Wk1 n a' K' a'' K'') : Wk1 n a K a'' K'' := fun w m u we me hT hk hS hV => by
  obtain ⟨m', h1, h2, h3⟩ := h w m u we me hT hk hS hV
  exact h' w m' u we me h1 hk h2 h3
theorem Wk1.le {n : Nat} {a a' : AV} {K K' : List ABlk} (h : a.le a') (hK : lesK K K') : Wk1 n a K a' K' := fun _ m _ _ _ hT _ hS hV => ⟨m, hT, hS.les hK, h _ _ _ hV⟩
theorem Wk.refl (bs : List AV) (K : List ABlk) : Wk bs K bs K := fun w m _ hS hV => ⟨m, Tr.refl w m, hS, hV⟩
theorem Wk.trans {a a' a'' : List AV} {K K' K'' : List ABlk} (h : Wk a K a' K') (h' : Wk a' K' a'' K'') : Wk a K a'' K'' := fun w m us hS hV => by
  obtain ⟨m', h1, h2, h3⟩ := h w m us hS hV
  obtain ⟨m2, h4, h5, h6⟩ := h' w m' us h2 h3
  exact ⟨m2, h1.trans h4, h5, h6⟩
theorem Wk.le {bs bs' : List AV} {K K' : List ABlk} (h : lesL bs bs') (hK : lesK K K') : Wk bs K bs' K' := fun w m us hS hV =>
  ⟨m, Tr.refl w m, hS.les hK, by
    obtain ⟨h1, h2⟩ := h.get
    exact ⟨h1 ▸ hV.1, fun j hj hj' => h2 j (by omega) hj _ _ _ (hV.2 j (by omega) hj')⟩⟩

/-! ### nobody writes there any more -/
theorem upd_setN {K : List ABlk} {r : Nat} (b : ABlk) (hr : r < K.length) : upd (hp K) r b = hp (setN K r b) := by
  induction K generalizing r with
  | nil => simp at hr
  | cons c K ih =>
    funext j
    cases r with
    | zero => cases j <;> simp [upd, hp, setN, nth]
    | succ r =>
      cases j with
      | zero => simp [upd, hp, setN, nth]
      | succ j =>
        have := congrFun (ih (r := r) (by simpa using hr)) j
        simp only [upd, hp, setN, nth] at this ⊢
        rw [← this]
        simp

theorem nth_lt {α : Type} {l : List α} {r : Nat} {b : α} (h : nth l r = some b) : r < l.length := by
  induction l generalizing r with
  | nil => simp [nth] at h
  | cons a l ih =>
    cases r with
    | zero => simp
    | succ r => simp only [nth] at h; have := ih h; simp; omega

def Mp.kill (m : Mp) (r : Nat) : Mp := { m with L := fun k => if k = r then .dead else m.L k }
theorem Tr.kill {w : World} {m : Mp} {r v : Nat} (hr : m.L r = .nil v) : Tr w m w (m.kill r) where
  os := rfl
  tape := rfl
  output := rfl
  size := Nat.le_refl _
  out := fun _ _ _ => rfl
  imm := fun _ h => h
  same := fun _ _ => rfl
  newI := fun _ h => .inl h
  step := fun k => by
    simp only [Mp.kill]
    by_cases hk : k = r
    · subst hk; simp only [if_true]; rw [hr]; exact .inl rfl
    · simp only [hk, if_false]; exact Inf.step_refl _ _ trivial
  newρ := fun k hk => by
    simp only [Mp.kill] at hk ⊢
    by_cases hk' : k = r
    · subst hk'; simp [Inf.isLive] at hk
    · simp only [hk', if_false] at hk; exact .inl ⟨hk, trivial⟩

/-- a row that is frozen, and a slice of it -/
theorem freeze_sl {w : World} {m : Mp} {K : List ABlk} {r ty sz ver n : Nat} {f : Nat → List AV} (hS : St w m (hp K)) (hr : nth K r = some (.arr ty sz ver n f)) (g : Nat → List PV) (hg : ∀ i, i < n → f i = pvs (g i)) :
    ∃ m', Tr w m w m' ∧ St w m' (hp (setN K r .dead)) ∧ (∀ u, V w m (.slr r ver 0 n) u → V w m' (.p (.sl sz n g)) u) := by
  have hrl := nth_lt hr
  have hb := hS.blk r
  have e : hp K r = .arr ty sz ver n f := by simp [hp, hr]
  rw [e] at hb
  rcases hb with ⟨hL, h0⟩ | ⟨cap, c, hL, hn, hm, hc, hs, hv⟩
  · -- a nil slice
    subst h0
    have hT := Tr.kill (w := w) hL
    refine ⟨m.kill r, hT, ?_, fun u hu => ?_⟩
    · rw [← upd_setN _ hrl]
      have hlive : ∀ k, ((m.kill r).L k).isLive → (m.L k).isLive := fun k hk => by
        simp only [Mp.kill] at hk
        by_cases e : k = r
        · simp [e, Inf.isLive] at hk
        · simpa [e] using hk
      refine ⟨fun r1 r2 h1 h2 e => hS.inj r1 r2 (hlive _ h1) (hlive _ h2) e, fun r1 h1 => hS.notI r1 (hlive _ h1), fun r1 h1 => hS.lt r1 (hlive _ h1), hS.Ilt, hS.gl, fun k => ?_⟩
      by_cases hk : k = r
      · subst hk; simp [upd, Mp.kill, BlkOk]
      · have hk2 := (hS.blk k).mono (w' := w) (m' := m.kill r) rfl (fun a u hv => hv.mono hT)
        simp only [upd, Mp.kill, hk, if_false]
        exact hk2
    · cases hu with
      | slr _ _ _ _ N sz' cap h _ => rw [hL] at h; simp at h
      | slrNil _ _ h => exact .p _ _ (.sl0 sz g none 0)
      | slrOld _ _ _ _ ad c h => exact .p _ _ (.sl0 sz g ad c)
  · have hl : (m.L r).isLive := by rw [hL]; trivial
    have hcell : ∀ i, i < n → ∀ j, j < (g i).length → ∃ u, c[i * sz + j]? = some u ∧ VP w m.I ((g i).getD j .nilp) u := fun i hi j hj => by
      obtain ⟨h1, h2⟩ := hv i hi
      have e2 := hg i hi
      have hlen : (f i).length = (g i).length := by rw [e2, pvs_len]
      obtain ⟨u, hu, hvu⟩ := h2 j (by omega)
      refine ⟨u, hu, ?_⟩
      have e3 : (f i)[j]'(by omega) = .p ((g i)[j]) := by
        have : (f i)[j]? = some (.p ((g i)[j])) := by rw [e2, List.getElem?_eq_getElem (by rw [pvs_len]; exact hj), pvs_get]
        rw [List.getElem?_eq_getElem (by omega)] at this
        exact Option.some.inj this
      rw [e3] at hvu
      cases hvu with
      | p _ _ h => rw [List.getD_eq_getElem?_getD, List.getElem?_eq_getElem hj]; exact h
    refine ⟨m.freeze r, Tr.freeze r hl, ?_, fun u hu => ?_⟩
    · rw [← upd_setN _ hrl]; exact hS.freeze r hl
    · cases hu with
      | slr _ _ _ _ N sz' cap' h hN =>
        rw [hL] at h
        simp only [Inf.live.injEq] at h
        obtain ⟨-, -, rfl, rfl⟩ := h
        refine .p _ _ ?_
        rw [Nat.zero_mul, Nat.sub_zero]
        have hcs : ∀ i, i < n → ∀ j, j < (g i).length → w.cell? ⟨m.ρ r, 0 + (i * sz + j), none⟩ = some (c.getD (i * sz + j) undef) := fun i hi j hj => by
          obtain ⟨u, hu, _⟩ := hcell i hi j hj
          simp [World.cell?, hc, hu, Array.getD_eq_getD_getElem?]
        refine .sl sz n g (m.ρ r) 0 cap (fun i j => c.getD (i * sz + j) undef) (.inr rfl) ⟨hn, Nat.le_trans hn hm⟩ hcs fun i hi j hj => ?_
        obtain ⟨u, hu, hvu⟩ := hcell i hi j hj
        have e4 : c.getD (i * sz + j) undef = u := by rw [Array.getD_eq_getD_getElem?, hu]; rfl
        rw [List.getD_eq_getElem?_getD, List.getElem?_eq_getElem hj] at hvu
        show VP w (m.freeze r).I _ _
        rw [e4]
        exact hvu.mono (fun _ hb => .inl hb) (fun _ _ => rfl)
      | slrNil _ _ h => rw [hL] at h; simp at h
      | slrOld _ _ _ _ ad c' h => rw [hL] at h; simp [Inf.old] at h

theorem Wk1.freeze {N : Nat} {K : List ABlk} {r ty sz ver n : Nat} {f : Nat → List AV} (hr : nth K r = some (.arr ty sz ver n f)) (g : Nat → List PV) (hg : ∀ i, i < n → f i = pvs (g i)) :
    Wk1 N (.slr r ver 0 n) K (.p (.sl sz n g)) (setN K r .dead) := fun w m u we me hT _ hS hV => by
  obtain ⟨m', h1, h2, h3⟩ := freeze_sl hS hr g hg
  exact ⟨m', hT.trans h1, h2, h3 u hV⟩

/-- of each number below n -/
def allLt (p : Nat → Prop) : Nat → Prop
  | 0 => True
  | n + 1 => allLt p n ∧ p n
theorem allLt_ok {p : Nat → Prop} {n : Nat} (h : allLt p n) : ∀ i, i < n → p i := by
  induction n with
  | zero => intro i hi; omega
  | succ n ih =>
    intro i hi
    by_cases e : i = n
    · subst e; exact h.2
    · exact ih h.1 i (by omega)

/-! ### loops -/
theorem LoopW.by {kb : Nat} {F : AS → (Ex → AS → Prop) → Prop} {Q : Ex → AS → Prop} {ι : Type} (st : ι → AS) (Pre : ι → Prop) (μ : ι → Nat)
    (h : ∀ (X : AS → Prop), (∀ s s', Le kb s s' → X s' → X s) → ∀ i, Pre i → (∀ j, μ j < μ i → Pre j → X (st j)) → F (st i) (fun e s' => match e with | .norm => X s' | e => Q e s'))
    (i : ι) (hi : Pre i) : LoopW kb F (st i) Q := ⟨fun X hF hL => by
  have : ∀ n i, μ i < n → Pre i → X (st i) := by
    intro n
    induction n with
    | zero => intro i h; omega
    | succ n ih => exact fun i hn hp => hF _ (h X hL i hp fun j hj hpj => ih j (by omega) hpj)
  exact this _ i (Nat.lt_succ_self _) hi⟩
theorem LoopW.le {kb : Nat} {F : AS → (Ex → AS → Prop) → Prop} {Q : Ex → AS → Prop} {s s' : AS} (h : Le kb s s') (hl : LoopW kb F s' Q) : LoopW kb F s Q :=
  ⟨fun X hF hL => hL _ _ h (hl.out X hF hL)⟩
theorem Le.cutEnv {kb : Nat} (n : Nat) {t t' : List (Nat × AV)} {K K' : List ABlk} (hn : Nat.ble kb n = true) (ht : clE n t' = true) (hK : clK n (takeN K n)) (h : subE t t') (hK' : lesK (takeN K n) K') : Le kb ⟨t, K⟩ ⟨t', K'⟩ := by
  refine Le.trans (Le.env h (lesK.refl K)) (Le.trans (Le.cut hn ht hK) ?_)
  exact fun _ _ _ _ m _ hT hS hE => ⟨m, hT, hS.les hK', hE, .refl m⟩
theorem loop_by {kb : Nat} {F : AS → (Ex → AS → Prop) → Prop} {Q : Ex → AS → Prop} {t : List (Nat × AV)} {K : List ABlk} {ι : Type} (st : ι → AS) (Pre : ι → Prop) (μ : ι → Nat) (i : ι)
    (hs : subE t (st i).t) (hK : lesK K (st i).K) (hi : Pre i)
    (h : ∀ (X : AS → Prop), (∀ s s', Le kb s s' → X s' → X s) → ∀ i, Pre i → (∀ j, μ j < μ i → Pre j → X (st j)) → F (st i) (fun e s' => match e with | .norm => X s' | e => Q e s')) :
    LoopW kb F ⟨t, K⟩ Q := LoopW.le (Le.env hs hK) (LoopW.by st Pre μ h i hi)
end
end Go.AE

namespace Go.AE
section
variable {P : Program} {T : Tab}

/-- a value in weaker words, or nil as a row of nothing -/
def nsw (r : Nat) (a b : AV) : Prop := a.le b ∨ (a = .p .nils ∧ b = .slr r 0 0 0)
def nswL (r : Nat) : List AV → List AV → Prop
  | [], [] => True
  | a :: l, b :: l' => nsw r a b ∧ nswL r l l'
  | _, _ => False
def nswB (r : Nat) (b b' : ABlk) : Prop := b.le b' ∨ ∃ ty cs cs', b = .box ty cs ∧ b' = .box ty cs' ∧ nswL r cs cs'
def nswK (r : Nat) : List ABlk → List ABlk → Prop
  | [], [] => True
  | a :: l, b :: l' => nswB r a b ∧ nswK r l l'
  | _, _ => False
def nswE (r : Nat) (t : List (Nat × AV)) : List (Nat × AV) → Prop
  | [] => True
  | (d, v) :: l => nsw r (look t d) v ∧ nswE r t l

theorem nsw.v {r : Nat} {a b : AV} (h : nsw r a b) {w : World} {m : Mp} {u : Value} (hr : m.L r = .nil 0) (hv : V w m a u) : V w m b u := by
  rcases h with h | ⟨rfl, rfl⟩
  · exact h _ _ _ hv
  · cases hv with
    | p _ _ h => cases h; exact .slrNil r 0 hr
theorem nswL.get {r : Nat} {l l' : List AV} (h : nswL r l l') : l.length = l'.length ∧ ∀ j (hj : j < l.length) (hj' : j < l'.length), nsw r l[j] l'[j] := by
  induction l generalizing l' with
  | nil => cases l' with
    | nil => exact ⟨rfl, fun j hj => by simp at hj⟩
    | cons b l' => exact h.elim
  | cons a l ih => cases l' with
    | nil => exact h.elim
    | cons b l' =>
      obtain ⟨h1, h2⟩ := ih h.2
      refine ⟨by simp [h1], fun j hj hj' => ?_⟩
      cases j with
      | zero => exact h.1
      | succ j => exact h2 j (by simpa using hj) (by simpa using hj')
theorem nswB.ok {r : Nat} {b b' : ABlk} (h : nswB r b b') {w : World} {m : Mp} {l : Inf} {g : Nat} (hr : m.L r = .nil 0) (hb : BlkOk w m l g b) : BlkOk w m l g b' := by
  rcases h with h | ⟨ty, cs, cs', rfl, rfl, h⟩
  · exact h _ _ _ _ hb
  · obtain ⟨h1, h2⟩ := h.get
    obtain ⟨hl, c, hc, hs, hv⟩ := hb
    refine ⟨by rw [← h1]; exact hl, c, hc, by rw [hs, h1], fun j hj => ?_⟩
    obtain ⟨u, hu, hv⟩ := hv j (by omega)
    exact ⟨u, hu, (h2 j (by omega) hj).v hr hv⟩
theorem nswK.length {r : Nat} {K K' : List ABlk} (h : nswK r K K') : K.length = K'.length := by
  induction K generalizing K' with
  | nil => cases K' with
    | nil => rfl
    | cons b l' => exact h.elim
  | cons a l ih => cases K' with
    | nil => exact h.elim
    | cons b l' => simp [ih h.2]
theorem nswK.hp {r : Nat} {K K' : List ABlk} (h : nswK r K K') (j : Nat) : nswB r (hp K j) (hp K' j) := by
  induction K generalizing K' j with
  | nil => cases K' with
    | nil => exact .inl (ABlk.le_refl _)
    | cons b l' => exact h.elim
  | cons a l ih => cases K' with
    | nil => exact h.elim
    | cons b l' =>
      cases j with
      | zero => exact h.1
      | succ j => exact ih h.2 j
theorem nswK.refl (r : Nat) (K : List ABlk) : nswK r K K := by
  induction K with
  | nil => trivial
  | cons b K ih => exact ⟨.inl (ABlk.le_refl b), ih⟩
theorem nswE.look {r : Nat} {t t' : List (Nat × AV)} (h : nswE r t t') (d : Nat) : nsw r (look t d) (look t' d) := by
  induction t' with
  | nil => exact .inl (AV.le_junk _)
  | cons x l ih =>
    obtain ⟨j, v⟩ := x
    rw [look_cons]
    by_cases e : j = d
    · subst e; rw [if_pos rfl]; exact h.1
    · rw [if_neg e]; exact ih h.2

theorem Tr.nil {w : World} {m : Mp} {r : Nat} (hr : m.L r = .absent) : Tr w m w (m.set r 0 (.nil 0)) where
  os := rfl
  tape := rfl
  output := rfl
  size := Nat.le_refl _
  out := fun _ _ _ => rfl
  imm := fun _ h => h
  same := fun _ _ => rfl
  newI := fun _ h => .inl h
  step := fun k => by
    simp only [Mp.set]
    by_cases hk : k = r
    · subst hk; rw [hr]; trivial
    · simp only [hk, if_false]; exact Inf.step_refl _ _ trivial
  newρ := fun k hk => by
    simp only [Mp.set] at hk ⊢
    by_cases hk' : k = r
    · subst hk'; simp [Inf.isLive] at hk
    · simp only [hk', if_false] at hk ⊢; exact .inl ⟨hk, trivial⟩

theorem nil_core {w : World} {m : Mp} {K K' : List ABlk} (ty sz : Nat) (f : Nat → List AV) (hS : St w m (hp K)) (hK : nswK K.length K K') :
    ∃ m', Tr w m w m' ∧ St w m' (hp (K' ++ [.arr ty sz 0 0 f])) ∧ m'.L K.length = .nil 0 := by
  have ha : m.L K.length = .absent := hS.ge _ (Nat.le_refl _)
  have hT2 := Tr.nil (w := w) ha
  have hr : (m.set K.length 0 (.nil 0)).L K.length = .nil 0 := by simp [Mp.set]
  have hlive : ∀ k, ((m.set K.length 0 (.nil 0)).L k).isLive → k ≠ K.length ∧ (m.L k).isLive := fun k hk => by
    simp only [Mp.set] at hk
    by_cases e : k = K.length
    · simp [e, Inf.isLive] at hk
    · exact ⟨e, by simpa [e] using hk⟩
  have hρ : ∀ k, k ≠ K.length → (m.set K.length 0 (.nil 0)).ρ k = m.ρ k := fun k hk => by simp [Mp.set, hk]
  refine ⟨_, hT2, ⟨fun r1 r2 h1 h2 e => ?_, fun r1 h1 => ?_, fun r1 h1 => ?_, hS.Ilt, hS.gl, fun j => ?_⟩, hr⟩
  · rw [hρ _ (hlive _ h1).1, hρ _ (hlive _ h2).1] at e
    exact hS.inj r1 r2 (hlive _ h1).2 (hlive _ h2).2 e
  · rw [hρ _ (hlive _ h1).1]; exact hS.notI r1 (hlive _ h1).2
  · rw [hρ _ (hlive _ h1).1]; exact hS.lt r1 (hlive _ h1).2
  · rw [hp_append, ← hK.length]
    by_cases e : j < K.length
    · rw [if_pos e]
      have hb := (hS.blk j).mono (w' := w) (m' := m.set K.length 0 (.nil 0)) rfl (fun a u hv => hv.mono hT2)
      have hL : (m.set K.length 0 (.nil 0)).L j = m.L j := by simp [Mp.set, show j ≠ K.length by omega]
      rw [hL, hρ _ (show j ≠ K.length by omega)]
      exact (hK.hp j).ok hr hb
    · rw [if_neg e]
      by_cases e2 : j = K.length
      · subst e2
        rw [hr, Nat.sub_self]
        exact .inl ⟨rfl, rfl⟩
      · have : hp [ABlk.arr ty sz 0 0 f] (j - K.length) = .absent := hp_ge _ _ (by simp; omega)
        rw [this]
        show (m.set K.length 0 (.nil 0)).L j = .absent
        have := hS.ge j (by omega)
        simpa [Mp.set, e2] using this

theorem Le.nilRow {kb : Nat} {t t' : List (Nat × AV)} {K K' : List ABlk} (ty sz : Nat) (f : Nat → List AV) (_ : Nat.ble kb K.length = true) (ht : nswE K.length t t') (hK : nswK K.length K K') :
    Le kb ⟨t, K⟩ ⟨t', K' ++ [.arr ty sz 0 0 f]⟩ := fun we me hk w m tmps hT hS hE => by
  obtain ⟨m', h1, h2, h3⟩ := nil_core ty sz f hS hK
  exact ⟨m', hT.trans h1, h2, fun d => (ht.look d).v h3 ((hE d).mono h1), .tr h1 h2⟩

/-- behind a call: a nil slice is a row of nothing -/
theorem ACalls.nil {f : FuncId} {args : List AV} {K : List ABlk} {k : AO → List ABlk → Prop}
    (h : ACalls P f args K (fun ao K1 => ∃ ty sz g K2, nswK K1.length K1 K2 ∧ k ao (K2 ++ [.arr ty sz 0 0 g]))) : ACalls P f args K k := by
  refine h.post fun ao K1 ⟨ty, sz, g, K2, h1, h2⟩ => ⟨ao.val, K2 ++ [.arr ty sz 0 0 g], fun w m u we me hT hk hS hV => ?_, by cases ao <;> exact h2⟩
  obtain ⟨m', h3, h4, _⟩ := nil_core ty sz g hS h1
  exact ⟨m', hT.trans h3, h4, hV.mono h3⟩

theorem loop_nil {kb : Nat} {F : AS → (Ex → AS → Prop) → Prop} {Q : Ex → AS → Prop} {t : List (Nat × AV)} {K : List ABlk} {ι : Type} (ty sz : Nat) (f : Nat → List AV) (st : ι → AS) (Pre : ι → Prop) (μ : ι → Nat) (i : ι) (K1 : List ABlk)
    (hkb : Nat.ble kb K.length = true) (hs : nswE K.length t (st i).t) (hK : nswK K.length K K1) (hK1 : (st i).K = K1 ++ [.arr ty sz 0 0 f]) (hi : Pre i)
    (h : ∀ (X : AS → Prop), (∀ s s', Le kb s s' → X s' → X s) → ∀ i, Pre i → (∀ j, μ j < μ i → Pre j → X (st j)) → F (st i) (fun e s' => match e with | .norm => X s' | e => Q e s')) :
    LoopW kb F ⟨t, K⟩ Q := by
  refine LoopW.le (Le.nilRow ty sz f hkb hs hK) ?_
  have := LoopW.by (kb := kb) (F := F) (Q := Q) st Pre μ h i hi
  have e : st i = ⟨(st i).t, K1 ++ [.arr ty sz 0 0 f]⟩ := by
    cases hst : st i
    rw [hst] at hK1
    simp only at hK1
    rw [hK1]
  rwa [e] at this

/-- a loop, ahead of which what lies behind n blocks is forgotten -/
theorem loop_cut {kb : Nat} {F : AS → (Ex → AS → Prop) → Prop} {Q : Ex → AS → Prop} {t : List (Nat × AV)} {K : List ABlk} {ι : Type} (n : Nat) (st : ι → AS) (Pre : ι → Prop) (μ : ι → Nat) (i : ι)
    (hn : Nat.ble kb n = true) (ht : clE n (st i).t = true) (hs : subE t (st i).t) (hK : clK n (takeN K n)) (hK' : lesK (takeN K n) (st i).K) (hi : Pre i)
    (h : ∀ (X : AS → Prop), (∀ s s', Le kb s s' → X s' → X s) → ∀ i, Pre i → (∀ j, μ j < μ i → Pre j → X (st j)) → F (st i) (fun e s' => match e with | .norm => X s' | e => Q e s')) :
    LoopW kb F ⟨t, K⟩ Q := LoopW.le (Le.cutEnv (t' := (st i).t) (K' := (st i).K) n hn ht hK hs hK') (LoopW.by st Pre μ h i hi)

/-- a value that tells more, as one that tells less: rows that nobody writes to are frozen -/
theorem Wk1.tup_freeze1 {N : Nat} {K : List ABlk} {r ty sz ver n : Nat} {f : Nat → List AV} {l : List AV} (hr : nth K r = some (.arr ty sz ver n f)) (g : Nat → List PV) (hg : ∀ i, i < n → f i = pvs (g i)) :
    Wk1 N (.tup (.slr r ver 0 n :: l)) K (.tup (.p (.sl sz n g) :: l)) (setN K r .dead) := fun w m u we me hT _ hS hV => by
  obtain ⟨m', h1, h2, h3⟩ := freeze_sl hS hr g hg
  refine ⟨m', hT.trans h1, h2, ?_⟩
  cases hV with
  | tup _ A hA hv =>
    refine .tup _ A hA fun j hj hj' => ?_
    cases j with
    | zero => exact h3 _ (hv 0 (by simp) hj')
    | succ j => exact (hv (j + 1) (by simpa using hj) hj').mono h1
theorem AV.tup_le {l l' : List AV} (h : lesL l l') : (AV.tup l).le (.tup l') := fun w m u hV => by
  obtain ⟨h1, h2⟩ := h.get
  cases hV with
  | tup _ A hA hv => exact .tup _ A (by rw [← h1]; exact hA) fun j hj hj' => h2 j (by omega) hj _ _ _ (hv j (by omega) hj')
end
end Go.AE

namespace Go.Proofs
open Go.Shelf
def Tryz.lays169_ren : Go.Shelf.Ren := ⟨fun | 169 => 77 | n => n, fun | 70 => 96 | 9 => 9 | 0 => 0 | 72 => 99 | 37 => 97 | 127 => 119 | 3 => 3 | 5 => 5 | n => n, fun | n => n⟩
theorem Tryz.lays169 : Go.Proofs.Lays.n169 Tryz.prog Tryz.lays169_ren := {
  mixed := by kernel_rfl
  f169 := Tryz.func77.trans (congrArg some (by kernel_rfl))
  t0 := Tryz.underlying0
  a0 := Tryz.isAgg0
  z0 := Tryz.sizeOf0
  v0 := Tryz.zeroValue0
  t3 := Tryz.underlying3
  a3 := Tryz.isAgg3
  z3 := Tryz.sizeOf3
  v3 := Tryz.zeroValue3
  t9 := Tryz.underlying9
  a9 := Tryz.isAgg9
  z9 := Tryz.sizeOf9
  v9 := Tryz.zeroValue9
  t37 := Tryz.underlying97
  a37 := Tryz.isAgg97
  z37 := Tryz.sizeOf97
  v37 := Tryz.zeroValue97
  t70 := Tryz.underlying96
  a70 := Tryz.isAgg96
  z70 := Tryz.sizeOf96
  v70 := Tryz.zeroValue96
  t72 := Tryz.underlying99
  a72 := Tryz.isAgg99
  z72 := Tryz.sizeOf99
  v72 := Tryz.zeroValue99
  t127 := Tryz.underlying119
  a127 := Tryz.isAgg119
  z127 := Tryz.sizeOf119
  v127 := Tryz.zeroValue119 }
theorem Tryz.Builder_Extra_169 : Builder.Extra Tryz.prog Tryz.lays169_ren := {
  sizeBuilder := by kernel_rfl
  liesBuilder := by kernel_rfl
  t5 := Tryz.underlying5
  a5 := Tryz.isAgg5
  z5 := Tryz.sizeOf5
  v5 := Tryz.zeroValue5
  infoByte := by kernel_rfl
  cellsByte := by kernel_rfl
  sizeByte := by kernel_rfl
  neB5 := by decide }
open Go.RowKit in
theorem Tryz.Builder_String (B b : Nat) (l : List UInt8) (w : World) (h : Lib.IsBuilder 99 5 B b (Lib.byteCells l) w) (h0 : l ≠ []) :
    Calls Tryz.prog 77 #[.pointer (some ⟨b, 0, none⟩)] w fun e w' => e = .returned (.string ⟨l.toArray⟩) ∧ Below B w w' := Any.Builder_String Tryz.lays169 Tryz.Builder_Extra_169 B b l w h h0
open Go.RowKit in
theorem Tryz.Builder_String_empty (B b : Nat) (w : World) (h : Lib.IsBuilder 99 5 B b [] w) (hBw : B ≤ w.heap.size) :
    Calls Tryz.prog 77 #[.pointer (some ⟨b, 0, none⟩)] w fun e w' => e = .returned (.string ⟨#[]⟩) ∧ Below B w w' := Any.Builder_String_empty Tryz.lays169 Tryz.Builder_Extra_169 B b w h hBw
open Go.RowKit in
theorem Tryz.Builder_String_any (B b : Nat) (l : List UInt8) (w : World) (h : Lib.IsBuilder 99 5 B b (Lib.byteCells l) w) (hBw : B ≤ w.heap.size) :
    Calls Tryz.prog 77 #[.pointer (some ⟨b, 0, none⟩)] w fun e w' => e = .returned (.string ⟨l.toArray⟩) ∧ Below B w w' := Any.Builder_String_any Tryz.lays169 Tryz.Builder_Extra_169 B b l w h hBw
def Tryz.lays241_ren : Go.Shelf.Ren := ⟨fun | 241 => 115 | 277 => 136 | n => n, fun | 70 => 96 | 3 => 3 | 0 => 0 | 72 => 99 | 37 => 97 | 5 => 5 | n => n, fun | n => n⟩
theorem Tryz.lays241 : Go.Proofs.Lays.n241 Tryz.prog Tryz.lays241_ren := {
  mixed := by kernel_rfl
  f241 := Tryz.func115.trans (congrArg some (by kernel_rfl))
  f277 := Tryz.func136.trans (congrArg some (by kernel_rfl))
  t0 := Tryz.underlying0
  a0 := Tryz.isAgg0
  z0 := Tryz.sizeOf0
  v0 := Tryz.zeroValue0
  t3 := Tryz.underlying3
  a3 := Tryz.isAgg3
  z3 := Tryz.sizeOf3
  v3 := Tryz.zeroValue3
  t37 := Tryz.underlying97
  a37 := Tryz.isAgg97
  z37 := Tryz.sizeOf97
  v37 := Tryz.zeroValue97
  t70 := Tryz.underlying96
  a70 := Tryz.isAgg96
  z70 := Tryz.sizeOf96
  v70 := Tryz.zeroValue96
  t72 := Tryz.underlying99
  a72 := Tryz.isAgg99
  z72 := Tryz.sizeOf99
  v72 := Tryz.zeroValue99 }
theorem Tryz.Builder_Extra_241 : Builder.Extra Tryz.prog Tryz.lays241_ren := {
  sizeBuilder := by kernel_rfl
  liesBuilder := by kernel_rfl
  t5 := Tryz.underlying5
  a5 := Tryz.isAgg5
  z5 := Tryz.sizeOf5
  v5 := Tryz.zeroValue5
  infoByte := by kernel_rfl
  cellsByte := by kernel_rfl
  sizeByte := by kernel_rfl
  neB5 := by decide }
open Go.RowKit in
theorem Tryz.Builder_grow_fresh (B b n : Nat) (w : World) (hB : B ≤ b) (hbk : w.heap[b]? = some (.cells #[.pointer (some ⟨b, 0, none⟩), .slice none 0 0] 99 (0, 0))) (hBw : B ≤ w.heap.size) (hn : n ≤ 281474976710656) :
    Calls Tryz.prog 115 #[.pointer (some ⟨b, 0, none⟩), .int .i64 n] w fun e w' => e = .returned (.tuple #[]) ∧ (Lib.BuilderAt 99 5 B b (.pointer (some ⟨b, 0, none⟩)) [] w' ∧ Below B w w') := Any.Builder_grow_fresh Tryz.lays241 Tryz.Builder_Extra_241 B b n w hB hbk hBw hn
def Tryz.lays165_ren : Go.Shelf.Ren := ⟨fun | 165 => 75 | 240 => 114 | 241 => 115 | 276 => 135 | 277 => 136 | n => n, fun | 70 => 96 | 3 => 3 | 0 => 0 | 4 => 4 | 9 => 9 | 20 => 20 | 72 => 99 | 37 => 97 | 164 => 131 | 5 => 5 | n => n, fun | n => n⟩
theorem Tryz.lays165 : Go.Proofs.Lays.n165 Tryz.prog Tryz.lays165_ren := {
  mixed := by kernel_rfl
  f165 := Tryz.func75.trans (congrArg some (by kernel_rfl))
  f240 := Tryz.func114.trans (congrArg some (by kernel_rfl))
  f241 := Tryz.func115.trans (congrArg some (by kernel_rfl))
  f276 := Tryz.func135.trans (congrArg some (by kernel_rfl))
  f277 := Tryz.func136.trans (congrArg some (by kernel_rfl))
  t0 := Tryz.underlying0
  a0 := Tryz.isAgg0
  z0 := Tryz.sizeOf0
  v0 := Tryz.zeroValue0
  t3 := Tryz.underlying3
  a3 := Tryz.isAgg3
  z3 := Tryz.sizeOf3
  v3 := Tryz.zeroValue3
  t4 := Tryz.underlying4
  a4 := Tryz.isAgg4
  z4 := Tryz.sizeOf4
  v4 := Tryz.zeroValue4
  t9 := Tryz.underlying9
  a9 := Tryz.isAgg9
  z9 := Tryz.sizeOf9
  v9 := Tryz.zeroValue9
  t20 := Tryz.underlying20
  a20 := Tryz.isAgg20
  z20 := Tryz.sizeOf20
  v20 := Tryz.zeroValue20
  t37 := Tryz.underlying97
  a37 := Tryz.isAgg97
  z37 := Tryz.sizeOf97
  v37 := Tryz.zeroValue97
  t70 := Tryz.underlying96
  a70 := Tryz.isAgg96
  z70 := Tryz.sizeOf96
  v70 := Tryz.zeroValue96
  t72 := Tryz.underlying99
  a72 := Tryz.isAgg99
  z72 := Tryz.sizeOf99
  v72 := Tryz.zeroValue99
  t164 := Tryz.underlying131
  a164 := Tryz.isAgg131
  z164 := Tryz.sizeOf131
  v164 := Tryz.zeroValue131 }
theorem Tryz.Builder_Extra_165 : Builder.Extra Tryz.prog Tryz.lays165_ren := {
  sizeBuilder := by kernel_rfl
  liesBuilder := by kernel_rfl
  t5 := Tryz.underlying5
  a5 := Tryz.isAgg5
  z5 := Tryz.sizeOf5
  v5 := Tryz.zeroValue5
  infoByte := by kernel_rfl
  cellsByte := by kernel_rfl
  sizeByte := by kernel_rfl
  neB5 := by decide }
open Go.RowKit in
theorem Tryz.Builder_Grow_fresh (B b n : Nat) (w : World) (hB : B ≤ b) (hbk : w.heap[b]? = some (.cells #[.pointer none, .slice none 0 0] 99 (0, 0))) (hBw : B ≤ w.heap.size) (hn : n ≤ 281474976710656) :
    Calls Tryz.prog 75 #[.pointer (some ⟨b, 0, none⟩), .int .i64 n] w fun e w' => e = .returned (.tuple #[]) ∧ (Lib.BuilderAt 99 5 B b (.pointer (some ⟨b, 0, none⟩)) [] w' ∧ Below B w w') := Any.Builder_Grow_fresh Tryz.lays165 Tryz.Builder_Extra_165 B b n w hB hbk hBw hn
def Tryz.lays156_ren : Go.Shelf.Ren := ⟨fun | 156 => 43 | 165 => 75 | 166 => 76 | 169 => 77 | 240 => 114 | 241 => 115 | 276 => 135 | 277 => 136 | n => n, fun | 31 => 37 | 9 => 9 | 3 => 3 | 4 => 4 | 0 => 0 | 20 => 20 | 72 => 99 | 76 => 86 | 70 => 96 | 37 => 97 | 75 => 85 | 127 => 119 | 164 => 131 | 5 => 5 | 80 => 101 | n => n, fun | n => n⟩
theorem Tryz.lays156 : Go.Proofs.Lays.n156 Tryz.prog Tryz.lays156_ren := {
  mixed := by kernel_rfl
  f156 := Tryz.func43.trans (congrArg some (by kernel_rfl))
  f165 := Tryz.func75.trans (congrArg some (by kernel_rfl))
  f166 := Tryz.func76.trans (congrArg some (by kernel_rfl))
  f169 := Tryz.func77.trans (congrArg some (by kernel_rfl))
  f240 := Tryz.func114.trans (congrArg some (by kernel_rfl))
  f241 := Tryz.func115.trans (congrArg some (by kernel_rfl))
  f276 := Tryz.func135.trans (congrArg some (by kernel_rfl))
  f277 := Tryz.func136.trans (congrArg some (by kernel_rfl))
  t0 := Tryz.underlying0
  a0 := Tryz.isAgg0
  z0 := Tryz.sizeOf0
  v0 := Tryz.zeroValue0
  t3 := Tryz.underlying3
  a3 := Tryz.isAgg3
  z3 := Tryz.sizeOf3
  v3 := Tryz.zeroValue3
  t4 := Tryz.underlying4
  a4 := Tryz.isAgg4
  z4 := Tryz.sizeOf4
  v4 := Tryz.zeroValue4
  t9 := Tryz.underlying9
  a9 := Tryz.isAgg9
  z9 := Tryz.sizeOf9
  v9 := Tryz.zeroValue9
  t20 := Tryz.underlying20
  a20 := Tryz.isAgg20
  z20 := Tryz.sizeOf20
  v20 := Tryz.zeroValue20
  t31 := Tryz.underlying37
  a31 := Tryz.isAgg37
  z31 := Tryz.sizeOf37
  v31 := Tryz.zeroValue37
  t37 := Tryz.underlying97
  a37 := Tryz.isAgg97
  z37 := Tryz.sizeOf97
  v37 := Tryz.zeroValue97
  t70 := Tryz.underlying96
  a70 := Tryz.isAgg96
  z70 := Tryz.sizeOf96
  v70 := Tryz.zeroValue96
  t72 := Tryz.underlying99
  a72 := Tryz.isAgg99
  z72 := Tryz.sizeOf99
  v72 := Tryz.zeroValue99
  t75 := Tryz.underlying85
  a75 := Tryz.isAgg85
  z75 := Tryz.sizeOf85
  v75 := Tryz.zeroValue85
  t76 := Tryz.underlying86
  a76 := Tryz.isAgg86
  z76 := Tryz.sizeOf86
  v76 := Tryz.zeroValue86
  t127 := Tryz.underlying119
  a127 := Tryz.isAgg119
  z127 := Tryz.sizeOf119
  v127 := Tryz.zeroValue119
  t164 := Tryz.underlying131
  a164 := Tryz.isAgg131
  z164 := Tryz.sizeOf131
  v164 := Tryz.zeroValue131 }
theorem Tryz.Builder_Extra_156 : Builder.Extra Tryz.prog Tryz.lays156_ren := {
  sizeBuilder := by kernel_rfl
  liesBuilder := by kernel_rfl
  t5 := Tryz.underlying5
  a5 := Tryz.isAgg5
  z5 := Tryz.sizeOf5
  v5 := Tryz.zeroValue5
  infoByte := by kernel_rfl
  cellsByte := by kernel_rfl
  sizeByte := by kernel_rfl
  neB5 := by decide }
open Go.RowKit in
theorem Tryz.strings_Join_none (a : Option Addr) (c : Nat) (sep : ByteArray) (w : World) :
    Calls Tryz.prog 43 #[.slice a 0 c, .string sep] w fun e w' => e = .returned (.string ⟨#[]⟩) ∧ w' = w := Any.strings_Join_none Tryz.lays156 Tryz.Builder_Extra_156 a c sep w
open Go.RowKit in
theorem Tryz.strings_Join (bk o c : Nat) (xs : List ByteArray) (sep : ByteArray) (w : World) (hcells : ∀ (j : Nat) x, xs[j]? = some x → w.cell? ⟨bk, o + j, none⟩ = some (.string x)) (hbk : bk < w.heap.size) (hN : xs.length ≤ 140737488355328) (hcap : xs.length ≤ c) (hlen : (Lib.join (xs.map (·.data.toList)) sep.data.toList).length ≤ 140737488355328) :
    Calls Tryz.prog 43 #[.slice (some ⟨bk, o, none⟩) xs.length c, .string sep] w fun e w' => e = .returned (.string ⟨(Lib.join (xs.map (·.data.toList)) sep.data.toList).toArray⟩) ∧ Below w.heap.size w w' := Any.strings_Join Tryz.lays156 Tryz.Builder_Extra_156 bk o c xs sep w hcells hbk hN hcap hlen
def Tryz.lays137_ren : Go.Shelf.Ren := ⟨fun | 137 => 28 | 217 => 60 | 266 => 104 | n => n, fun | 9 => 9 | 5 => 5 | 3 => 3 | n => n, fun | n => n⟩
theorem Tryz.lays137 : Go.Proofs.Lays.n137 Tryz.prog Tryz.lays137_ren := {
  mixed := by kernel_rfl
  f137 := Tryz.func28.trans (congrArg some (by kernel_rfl))
  f217 := Tryz.func60.trans (congrArg some (by kernel_rfl))
  f266 := Tryz.func104.trans (congrArg some (by kernel_rfl))
  t3 := Tryz.underlying3
  a3 := Tryz.isAgg3
  z3 := Tryz.sizeOf3
  v3 := Tryz.zeroValue3
  t5 := Tryz.underlying5
  a5 := Tryz.isAgg5
  z5 := Tryz.sizeOf5
  v5 := Tryz.zeroValue5
  t9 := Tryz.underlying9
  a9 := Tryz.isAgg9
  z9 := Tryz.sizeOf9
  v9 := Tryz.zeroValue9 }
open Go.RowKit in
theorem Tryz.strings_IndexByte (s : ByteArray) (c : Int) (w : World) :
    Calls Tryz.prog 28 #[.string s, .int .u8 c] w fun e w' => e = .returned (.int .i64 (Lib.indexByte s.data.toList c.toNat.toUInt8)) ∧ w' = w := Any.strings_IndexByte Tryz.lays137 s c w
open Go.RowKit in
theorem Tryz.Builder_String_f (B b : Nat) (l : List UInt8) (w : World) (h : Lib.IsBuilderF 99 5 B b (Lib.byteCells l) w) (h0 : l ≠ []) :
    Calls Tryz.prog 77 #[.pointer (some ⟨b, 0, none⟩)] w fun e w' => e = .returned (.string ⟨l.toArray⟩) ∧ (Lib.IsBuilderF 99 5 B b (Lib.byteCells l) w' ∧ Below B w w') := Any.Builder_String_f Tryz.lays169 Tryz.Builder_Extra_169 B b l w h h0
open Go.RowKit in
theorem Tryz.Builder_String_empty_f (B b : Nat) (w : World) (h : Lib.IsBuilderF 99 5 B b [] w) (hBw : B ≤ w.heap.size) :
    Calls Tryz.prog 77 #[.pointer (some ⟨b, 0, none⟩)] w fun e w' => e = .returned (.string ⟨#[]⟩) ∧ (Lib.IsBuilderF 99 5 B b [] w' ∧ Below B w w') := Any.Builder_String_empty_f Tryz.lays169 Tryz.Builder_Extra_169 B b w h hBw
open Go.RowKit in
theorem Tryz.Builder_String_any_f (B b : Nat) (l : List UInt8) (w : World) (h : Lib.IsBuilderF 99 5 B b (Lib.byteCells l) w) (hBw : B ≤ w.heap.size) :
    Calls Tryz.prog 77 #[.pointer (some ⟨b, 0, none⟩)] w fun e w' => e = .returned (.string ⟨l.toArray⟩) ∧ (Lib.IsBuilderF 99 5 B b (Lib.byteCells l) w' ∧ Below B w w') := Any.Builder_String_any_f Tryz.lays169 Tryz.Builder_Extra_169 B b l w h hBw
open Go.RowKit in
theorem Tryz.Builder_String_k (B b : Nat) (l : List UInt8) (w : World) (h : Lib.IsBuilderF 99 5 B b (Lib.byteCells l) w) (h0 : l ≠ []) :
    Calls Tryz.prog 77 #[.pointer (some ⟨b, 0, none⟩)] w fun e w' => e = .returned (.string ⟨l.toArray⟩) ∧ (Lib.IsBuilderF 99 5 B b (Lib.byteCells l) w' ∧ Below B w w' ∧ Lib.OthersKept 5 (some b) w w') := Any.Builder_String_k Tryz.lays169 Tryz.Builder_Extra_169 B b l w h h0
open Go.RowKit in
theorem Tryz.Builder_String_empty_k (B b : Nat) (w : World) (h : Lib.IsBuilderF 99 5 B b [] w) (hBw : B ≤ w.heap.size) :
    Calls Tryz.prog 77 #[.pointer (some ⟨b, 0, none⟩)] w fun e w' => e = .returned (.string ⟨#[]⟩) ∧ (Lib.IsBuilderF 99 5 B b [] w' ∧ Below B w w' ∧ Lib.OthersKept 5 (some b) w w') := Any.Builder_String_empty_k Tryz.lays169 Tryz.Builder_Extra_169 B b w h hBw
open Go.RowKit in
theorem Tryz.Builder_String_any_k (B b : Nat) (l : List UInt8) (w : World) (h : Lib.IsBuilderF 99 5 B b (Lib.byteCells l) w) (hBw : B ≤ w.heap.size) :
    Calls Tryz.prog 77 #[.pointer (some ⟨b, 0, none⟩)] w fun e w' => e = .returned (.string ⟨l.toArray⟩) ∧ (Lib.IsBuilderF 99 5 B b (Lib.byteCells l) w' ∧ Below B w w' ∧ Lib.OthersKept 5 (some b) w w') := Any.Builder_String_any_k Tryz.lays169 Tryz.Builder_Extra_169 B b l w h hBw
def Tryz.lays244_ren : Go.Shelf.Ren := ⟨fun | 244 => 105 | 247 => 123 | 287 => 144 | 321 => 166 | 322 => 167 | n => n, fun | 9 => 9 | 3 => 3 | 75 => 85 | 4 => 4 | 5 => 5 | 167 => 122 | 37 => 97 | 0 => 0 | 85 => 123 | 2 => 2 | 53 => 136 | 175 => 137 | 46 => 139 | 21 => 21 | 80 => 101 | n => n, fun | n => n⟩
theorem Tryz.lays244 : Go.Proofs.Lays.n244 Tryz.prog Tryz.lays244_ren := {
  mixed := by kernel_rfl
  f244 := Tryz.func105.trans (congrArg some (by kernel_rfl))
  f247 := Tryz.func123.trans (congrArg some (by kernel_rfl))
  f287 := Tryz.func144.trans (congrArg some (by kernel_rfl))
  f321 := Tryz.func166.trans (congrArg some (by kernel_rfl))
  f322 := Tryz.func167.trans (congrArg some (by kernel_rfl))
  t0 := Tryz.underlying0
  a0 := Tryz.isAgg0
  z0 := Tryz.sizeOf0
  v0 := Tryz.zeroValue0
  t2 := Tryz.underlying2
  a2 := Tryz.isAgg2
  z2 := Tryz.sizeOf2
  v2 := Tryz.zeroValue2
  t3 := Tryz.underlying3
  a3 := Tryz.isAgg3
  z3 := Tryz.sizeOf3
  v3 := Tryz.zeroValue3
  t4 := Tryz.underlying4
  a4 := Tryz.isAgg4
  z4 := Tryz.sizeOf4
  v4 := Tryz.zeroValue4
  t5 := Tryz.underlying5
  a5 := Tryz.isAgg5
  z5 := Tryz.sizeOf5
  v5 := Tryz.zeroValue5
  t9 := Tryz.underlying9
  a9 := Tryz.isAgg9
  z9 := Tryz.sizeOf9
  v9 := Tryz.zeroValue9
  t21 := Tryz.underlying21
  a21 := Tryz.isAgg21
  z21 := Tryz.sizeOf21
  v21 := Tryz.zeroValue21
  t37 := Tryz.underlying97
  a37 := Tryz.isAgg97
  z37 := Tryz.sizeOf97
  v37 := Tryz.zeroValue97
  t46 := Tryz.underlying139
  a46 := Tryz.isAgg139
  z46 := Tryz.sizeOf139
  v46 := Tryz.zeroValue139
  t53 := Tryz.underlying136
  a53 := Tryz.isAgg136
  z53 := Tryz.sizeOf136
  v53 := Tryz.zeroValue136
  t75 := Tryz.underlying85
  a75 := Tryz.isAgg85
  z75 := Tryz.sizeOf85
  v75 := Tryz.zeroValue85
  t85 := Tryz.underlying123
  a85 := Tryz.isAgg123
  z85 := Tryz.sizeOf123
  v85 := Tryz.zeroValue123
  t167 := Tryz.underlying122
  a167 := Tryz.isAgg122
  z167 := Tryz.sizeOf122
  v167 := Tryz.zeroValue122
  t175 := Tryz.underlying137
  a175 := Tryz.isAgg137
  z175 := Tryz.sizeOf137
  v175 := Tryz.zeroValue137 }
open Go.RowKit in
theorem Tryz.internal_strconv_Atoi (s : ByteArray) (n : Int) (hl : s.size ≤ 18) (h : Lib.atoi s.data.toList = some n) (w : World) :
    Calls Tryz.prog 105 #[.string s] w fun e w' => e = .returned (.tuple #[.int .i64 n, .nilIface]) ∧ ∃ t, w' = Lib.bytesWorld w 5 t := Any.internal_strconv_Atoi Tryz.lays244 s n hl h w
def Tryz.lays172_ren : Go.Shelf.Ren := ⟨fun | 172 => 61 | 244 => 105 | 245 => 106 | 247 => 123 | 279 => 124 | 280 => 125 | 281 => 126 | 282 => 127 | 287 => 144 | 316 => 145 | 171 => 64 | 205 => 146 | 321 => 166 | 322 => 167 | 243 => 108 | 246 => 130 | 283 => 148 | 284 => 149 | 285 => 150 | 286 => 151 | 129 => 169 | 317 => 168 | 318 => 170 | 319 => 171 | 320 => 172 | 337 => 179 | 338 => 180 | n => n, fun | 9 => 9 | 3 => 3 | 75 => 85 | 76 => 86 | 4 => 4 | 5 => 5 | 167 => 122 | 37 => 97 | 0 => 0 | 85 => 123 | 2 => 2 | 168 => 125 | 53 => 136 | 175 => 137 | 46 => 139 | 210 => 141 | 127 => 119 | 145 => 154 | 143 => 152 | 21 => 21 | 171 => 144 | 173 => 147 | 212 => 156 | 51 => 157 | 20 => 20 | 213 => 158 | 232 => 164 | 233 => 165 | 80 => 101 | n => n, fun | 15 => 1 | 16 => 2 | 17 => 3 | 18 => 4 | 19 => 5 | n => n⟩
theorem Tryz.lays172 : Go.Proofs.Lays.n172 Tryz.prog Tryz.lays172_ren := {
  mixed := by kernel_rfl
  f129 := Tryz.func169.trans (congrArg some (by kernel_rfl))
  f171 := Tryz.func64.trans (congrArg some (by kernel_rfl))
  f172 := Tryz.func61.trans (congrArg some (by kernel_rfl))
  f205 := Tryz.func146.trans (congrArg some (by kernel_rfl))
  f243 := Tryz.func108.trans (congrArg some (by kernel_rfl))
  f244 := Tryz.func105.trans (congrArg some (by kernel_rfl))
  f245 := Tryz.func106.trans (congrArg some (by kernel_rfl))
  f246 := Tryz.func130.trans (congrArg some (by kernel_rfl))
  f247 := Tryz.func123.trans (congrArg some (by kernel_rfl))
  f279 := Tryz.func124.trans (congrArg some (by kernel_rfl))
  f280 := Tryz.func125.trans (congrArg some (by kernel_rfl))
  f281 := Tryz.func126.trans (congrArg some (by kernel_rfl))
  f282 := Tryz.func127.trans (congrArg some (by kernel_rfl))
  f283 := Tryz.func148.trans (congrArg some (by kernel_rfl))
  f284 := Tryz.func149.trans (congrArg some (by kernel_rfl))
  f285 := Tryz.func150.trans (congrArg some (by kernel_rfl))
  f286 := Tryz.func151.trans (congrArg some (by kernel_rfl))
  f287 := Tryz.func144.trans (congrArg some (by kernel_rfl))
  f316 := Tryz.func145.trans (congrArg some (by kernel_rfl))
  f317 := Tryz.func168.trans (congrArg some (by kernel_rfl))
  f318 := Tryz.func170.trans (congrArg some (by kernel_rfl))
  f319 := Tryz.func171.trans (congrArg some (by kernel_rfl))
  f320 := Tryz.func172.trans (congrArg some (by kernel_rfl))
  f321 := Tryz.func166.trans (congrArg some (by kernel_rfl))
  f322 := Tryz.func167.trans (congrArg some (by kernel_rfl))
  f337 := Tryz.func179.trans (congrArg some (by kernel_rfl))
  f338 := Tryz.func180.trans (congrArg some (by kernel_rfl))
  t0 := Tryz.underlying0
  a0 := Tryz.isAgg0
  z0 := Tryz.sizeOf0
  v0 := Tryz.zeroValue0
  t2 := Tryz.underlying2
  a2 := Tryz.isAgg2
  z2 := Tryz.sizeOf2
  v2 := Tryz.zeroValue2
  t3 := Tryz.underlying3
  a3 := Tryz.isAgg3
  z3 := Tryz.sizeOf3
  v3 := Tryz.zeroValue3
  t4 := Tryz.underlying4
  a4 := Tryz.isAgg4
  z4 := Tryz.sizeOf4
  v4 := Tryz.zeroValue4
  t5 := Tryz.underlying5
  a5 := Tryz.isAgg5
  z5 := Tryz.sizeOf5
  v5 := Tryz.zeroValue5
  t9 := Tryz.underlying9
  a9 := Tryz.isAgg9
  z9 := Tryz.sizeOf9
  v9 := Tryz.zeroValue9
  t20 := Tryz.underlying20
  a20 := Tryz.isAgg20
  z20 := Tryz.sizeOf20
  v20 := Tryz.zeroValue20
  t21 := Tryz.underlying21
  a21 := Tryz.isAgg21
  z21 := Tryz.sizeOf21
  v21 := Tryz.zeroValue21
  t37 := Tryz.underlying97
  a37 := Tryz.isAgg97
  z37 := Tryz.sizeOf97
  v37 := Tryz.zeroValue97
  t46 := Tryz.underlying139
  a46 := Tryz.isAgg139
  z46 := Tryz.sizeOf139
  v46 := Tryz.zeroValue139
  t51 := Tryz.underlying157
  a51 := Tryz.isAgg157
  z51 := Tryz.sizeOf157
  v51 := Tryz.zeroValue157
  t53 := Tryz.underlying136
  a53 := Tryz.isAgg136
  z53 := Tryz.sizeOf136
  v53 := Tryz.zeroValue136
  t75 := Tryz.underlying85
  a75 := Tryz.isAgg85
  z75 := Tryz.sizeOf85
  v75 := Tryz.zeroValue85
  t76 := Tryz.underlying86
  a76 := Tryz.isAgg86
  z76 := Tryz.sizeOf86
  v76 := Tryz.zeroValue86
  t85 := Tryz.underlying123
  a85 := Tryz.isAgg123
  z85 := Tryz.sizeOf123
  v85 := Tryz.zeroValue123
  t127 := Tryz.underlying119
  a127 := Tryz.isAgg119
  z127 := Tryz.sizeOf119
  v127 := Tryz.zeroValue119
  t143 := Tryz.underlying152
  a143 := Tryz.isAgg152
  z143 := Tryz.sizeOf152
  v143 := Tryz.zeroValue152
  t145 := Tryz.underlying154
  a145 := Tryz.isAgg154
  z145 := Tryz.sizeOf154
  v145 := Tryz.zeroValue154
  t167 := Tryz.underlying122
  a167 := Tryz.isAgg122
  z167 := Tryz.sizeOf122
  v167 := Tryz.zeroValue122
  t168 := Tryz.underlying125
  a168 := Tryz.isAgg125
  z168 := Tryz.sizeOf125
  v168 := Tryz.zeroValue125
  t171 := Tryz.underlying144
  a171 := Tryz.isAgg144
  z171 := Tryz.sizeOf144
  v171 := Tryz.zeroValue144
  t173 := Tryz.underlying147
  a173 := Tryz.isAgg147
  z173 := Tryz.sizeOf147
  v173 := Tryz.zeroValue147
  t175 := Tryz.underlying137
  a175 := Tryz.isAgg137
  z175 := Tryz.sizeOf137
  v175 := Tryz.zeroValue137
  t210 := Tryz.underlying141
  a210 := Tryz.isAgg141
  z210 := Tryz.sizeOf141
  v210 := Tryz.zeroValue141
  t212 := Tryz.underlying156
  a212 := Tryz.isAgg156
  z212 := Tryz.sizeOf156
  v212 := Tryz.zeroValue156
  t213 := Tryz.underlying158
  a213 := Tryz.isAgg158
  z213 := Tryz.sizeOf158
  t232 := Tryz.underlying164
  a232 := Tryz.isAgg164
  z232 := Tryz.sizeOf164
  v232 := Tryz.zeroValue164
  t233 := Tryz.underlying165
  a233 := Tryz.isAgg165
  z233 := Tryz.sizeOf165
  v233 := Tryz.zeroValue165
  g15 := by kernel_rfl
  g16 := by kernel_rfl
  g17 := by kernel_rfl
  g18 := by kernel_rfl
  g19 := by kernel_rfl }
open Go.RowKit in
theorem Tryz.strconv_Atoi (s : ByteArray) (n : Int) (hl : s.size ≤ 18) (h : Lib.atoi s.data.toList = some n) (w : World) :
    Calls Tryz.prog 61 #[.string s] w fun e w' => e = .returned (.tuple #[.int .i64 n, .nilIface]) ∧ ∃ t, w' = Lib.bytesWorld w 5 t := Any.strconv_Atoi Tryz.lays172 s n hl h w
def Tryz.lays129_ren : Go.Shelf.Ren := ⟨fun | 129 => 169 | n => n, fun | 53 => 136 | 3 => 3 | 4 => 4 | 46 => 139 | 5 => 5 | 9 => 9 | n => n, fun | n => n⟩
theorem Tryz.lays129 : Go.Proofs.Lays.n129 Tryz.prog Tryz.lays129_ren := {
  mixed := by kernel_rfl
  f129 := Tryz.func169.trans (congrArg some (by kernel_rfl))
  t3 := Tryz.underlying3
  a3 := Tryz.isAgg3
  z3 := Tryz.sizeOf3
  v3 := Tryz.zeroValue3
  t4 := Tryz.underlying4
  a4 := Tryz.isAgg4
  z4 := Tryz.sizeOf4
  v4 := Tryz.zeroValue4
  t5 := Tryz.underlying5
  a5 := Tryz.isAgg5
  z5 := Tryz.sizeOf5
  v5 := Tryz.zeroValue5
  t9 := Tryz.underlying9
  a9 := Tryz.isAgg9
  z9 := Tryz.sizeOf9
  v9 := Tryz.zeroValue9
  t46 := Tryz.underlying139
  a46 := Tryz.isAgg139
  z46 := Tryz.sizeOf139
  v46 := Tryz.zeroValue139
  t53 := Tryz.underlying136
  a53 := Tryz.isAgg136
  z53 := Tryz.sizeOf136
  v53 := Tryz.zeroValue136 }
theorem Tryz.bits_Len64 (x : Int) (w : World) (h0 : 0 ≤ x) (h1 : x ≤ 18446744073709551615) :
    Calls Tryz.prog 169 #[.int .u64 x] w fun e w' => e = .returned (.int .i64 (Lib.bitLen x.toNat)) ∧ w' = w := Any.bits_Len64 Tryz.lays129 x w h0 h1
def Tryz.lays317_ren : Go.Shelf.Ren := ⟨fun | 317 => 168 | n => n, fun | 3 => 3 | 46 => 139 | n => n, fun | n => n⟩
theorem Tryz.lays317 : Go.Proofs.Lays.n317 Tryz.prog Tryz.lays317_ren := {
  mixed := by kernel_rfl
  f317 := Tryz.func168.trans (congrArg some (by kernel_rfl))
  t3 := Tryz.underlying3
  a3 := Tryz.isAgg3
  z3 := Tryz.sizeOf3
  v3 := Tryz.zeroValue3
  t46 := Tryz.underlying139
  a46 := Tryz.isAgg139
  z46 := Tryz.sizeOf139
  v46 := Tryz.zeroValue139 }
open Go.Lib in
theorem Tryz.internal_strconv_log10Pow2 (x : Nat) (h : x ≤ 64) (w : World) :
    Calls Tryz.prog 168 #[.int .i64 x] w fun e w' => e = .returned (.int .i64 (Lib.l10 x)) ∧ w' = w := Any.internal_strconv_log10Pow2 Tryz.lays317 x h w
def Tryz.lays318_ren : Go.Shelf.Ren := ⟨fun | 318 => 170 | n => n, fun | 3 => 3 | 4 => 4 | n => n, fun | n => n⟩
theorem Tryz.lays318 : Go.Proofs.Lays.n318 Tryz.prog Tryz.lays318_ren := {
  mixed := by kernel_rfl
  f318 := Tryz.func170.trans (congrArg some (by kernel_rfl))
  t3 := Tryz.underlying3
  a3 := Tryz.isAgg3
  z3 := Tryz.sizeOf3
  v3 := Tryz.zeroValue3
  t4 := Tryz.underlying4
  a4 := Tryz.isAgg4
  z4 := Tryz.sizeOf4
  v4 := Tryz.zeroValue4 }
open Go.Lib in
theorem Tryz.internal_strconv_bool2_int (b : Bool) (w : World) :
    Calls Tryz.prog 170 #[.bool b] w fun e w' => e = .returned (.int .i64 (if b then 1 else 0)) ∧ w' = w := Any.internal_strconv_bool2_int Tryz.lays318 b w
def Tryz.lays283_ren : Go.Shelf.Ren := ⟨fun | 283 => 148 | n => n, fun | 3 => 3 | 9 => 9 | 4 => 4 | n => n, fun | n => n⟩
theorem Tryz.lays283 : Go.Proofs.Lays.n283 Tryz.prog Tryz.lays283_ren := {
  mixed := by kernel_rfl
  f283 := Tryz.func148.trans (congrArg some (by kernel_rfl))
  t3 := Tryz.underlying3
  a3 := Tryz.isAgg3
  z3 := Tryz.sizeOf3
  v3 := Tryz.zeroValue3
  t4 := Tryz.underlying4
  a4 := Tryz.isAgg4
  z4 := Tryz.sizeOf4
  v4 := Tryz.zeroValue4
  t9 := Tryz.underlying9
  a9 := Tryz.isAgg9
  z9 := Tryz.sizeOf9
  v9 := Tryz.zeroValue9 }
open Go.Lib in
theorem Tryz.internal_strconv_small (i : Nat) (h : i < 100) (w : World) :
    Calls Tryz.prog 148 #[.int .i64 i] w fun e w' => e = .returned (.string ⟨(Lib.decDigits i).toArray⟩) ∧ w' = w := Any.internal_strconv_small Tryz.lays283 i h w
def Tryz.laysM284_ren : Go.Shelf.Ren := ⟨fun | 284 => 149 | 129 => 169 | 317 => 168 | 318 => 170 | n => n, fun | 53 => 136 | 3 => 3 | 212 => 156 | 0 => 0 | 4 => 4 | 46 => 139 | 5 => 5 | 9 => 9 | n => n, fun | 17 => 3 | n => n⟩
theorem Tryz.laysM284 : Go.Proofs.LaysM.n284 Tryz.prog Tryz.laysM284_ren := {
  mixed := by kernel_rfl
  f129 := Tryz.func169.trans (congrArg some (by kernel_rfl))
  f284 := Tryz.func149.trans (congrArg some (by kernel_rfl))
  f317 := Tryz.func168.trans (congrArg some (by kernel_rfl))
  f318 := Tryz.func170.trans (congrArg some (by kernel_rfl))
  t0 := Tryz.underlying0
  a0 := Tryz.isAgg0
  z0 := Tryz.sizeOf0
  v0 := Tryz.zeroValue0
  t3 := Tryz.underlying3
  a3 := Tryz.isAgg3
  z3 := Tryz.sizeOf3
  v3 := Tryz.zeroValue3
  t4 := Tryz.underlying4
  a4 := Tryz.isAgg4
  z4 := Tryz.sizeOf4
  v4 := Tryz.zeroValue4
  t5 := Tryz.underlying5
  a5 := Tryz.isAgg5
  z5 := Tryz.sizeOf5
  v5 := Tryz.zeroValue5
  t9 := Tryz.underlying9
  a9 := Tryz.isAgg9
  z9 := Tryz.sizeOf9
  v9 := Tryz.zeroValue9
  t46 := Tryz.underlying139
  a46 := Tryz.isAgg139
  z46 := Tryz.sizeOf139
  v46 := Tryz.zeroValue139
  t53 := Tryz.underlying136
  a53 := Tryz.isAgg136
  z53 := Tryz.sizeOf136
  v53 := Tryz.zeroValue136
  t212 := Tryz.underlying156
  a212 := Tryz.isAgg156
  z212 := Tryz.sizeOf156
  v212 := Tryz.zeroValue156
  g17 := by kernel_rfl
  i0 := by kernel_rfl
  i3 := by kernel_rfl
  i4 := by kernel_rfl
  i5 := by kernel_rfl
  i9 := by kernel_rfl
  i46 := by kernel_rfl
  i53 := by kernel_rfl
  i212 := by kernel_rfl
  m17 := by kernel_rfl }
open Go.Lib in
theorem Tryz.internal_strconv_numDigits (u : Nat) (h1 : 1 ≤ u) (h2 : u < 18446744073709551616) (w : World) (htab : Lib.TabIs Tryz.prog w "internal/strconv.uint64pow10" .u64 Lib.pow10Tab) :
    Calls Tryz.prog 149 #[.int .u64 u] w fun e w' => e = .returned (.int .i64 (Lib.nDigits u)) ∧ w' = w := Any.internal_strconv_numDigits Tryz.laysM284 u h1 h2 w htab
def Tryz.lays285_ren : Go.Shelf.Ren := ⟨fun | 285 => 150 | n => n, fun | 37 => 97 | 53 => 136 | 3 => 3 | 4 => 4 | 51 => 157 | 9 => 9 | 5 => 5 | 0 => 0 | n => n, fun | n => n⟩
theorem Tryz.lays285 : Go.Proofs.Lays.n285 Tryz.prog Tryz.lays285_ren := {
  mixed := by kernel_rfl
  f285 := Tryz.func150.trans (congrArg some (by kernel_rfl))
  t0 := Tryz.underlying0
  a0 := Tryz.isAgg0
  z0 := Tryz.sizeOf0
  v0 := Tryz.zeroValue0
  t3 := Tryz.underlying3
  a3 := Tryz.isAgg3
  z3 := Tryz.sizeOf3
  v3 := Tryz.zeroValue3
  t4 := Tryz.underlying4
  a4 := Tryz.isAgg4
  z4 := Tryz.sizeOf4
  v4 := Tryz.zeroValue4
  t5 := Tryz.underlying5
  a5 := Tryz.isAgg5
  z5 := Tryz.sizeOf5
  v5 := Tryz.zeroValue5
  t9 := Tryz.underlying9
  a9 := Tryz.isAgg9
  z9 := Tryz.sizeOf9
  v9 := Tryz.zeroValue9
  t37 := Tryz.underlying97
  a37 := Tryz.isAgg97
  z37 := Tryz.sizeOf97
  v37 := Tryz.zeroValue97
  t51 := Tryz.underlying157
  a51 := Tryz.isAgg157
  z51 := Tryz.sizeOf157
  v51 := Tryz.zeroValue157
  t53 := Tryz.underlying136
  a53 := Tryz.isAgg136
  z53 := Tryz.sizeOf136
  v53 := Tryz.zeroValue136 }
open Go.RowKit Go.Sort Go.Lib in
theorem Tryz.internal_strconv_formatBase10 (blk off cap : Nat) (u : Nat) (d : Array UInt8) (w : World) (hH : Holds (fun (b : UInt8) => Value.int .u8 (b.toNat : Int)) w blk off d) (hu : u < 10 ^ d.size) (hu64 : u < 18446744073709551616) (hsz : d.size < 4611686018427387904) :
    Calls Tryz.prog 150 #[.slice (some ⟨blk, off, none⟩) d.size cap, .int .u64 u] w fun e w' =>
      e = .returned (.tuple #[]) ∧ ∃ (n v' : Nat) (dk : Array UInt8), w' = (putRow (fun (b : UInt8) => Value.int .u8 (b.toNat : Int)) w blk off dk).drewN n ∧ FmtInv d.size u 0 v' dk := Any.internal_strconv_formatBase10 Tryz.lays285 blk off cap u d w hH hu hu64 hsz
def Tryz.laysM246_ren : Go.Shelf.Ren := ⟨fun | 246 => 130 | 283 => 148 | 284 => 149 | 285 => 150 | 286 => 151 | 129 => 169 | 317 => 168 | 318 => 170 | 319 => 171 | 320 => 172 | 337 => 179 | 338 => 180 | n => n, fun | 2 => 2 | 3 => 3 | 9 => 9 | 4 => 4 | 171 => 144 | 0 => 0 | 53 => 136 | 37 => 97 | 5 => 5 | 173 => 147 | 212 => 156 | 51 => 157 | 20 => 20 | 213 => 158 | 46 => 139 | 232 => 164 | 233 => 165 | n => n, fun | 17 => 3 | 18 => 4 | 19 => 5 | n => n⟩
theorem Tryz.laysM246 : Go.Proofs.LaysM.n246 Tryz.prog Tryz.laysM246_ren := {
  mixed := by kernel_rfl
  f129 := Tryz.func169.trans (congrArg some (by kernel_rfl))
  f246 := Tryz.func130.trans (congrArg some (by kernel_rfl))
  f283 := Tryz.func148.trans (congrArg some (by kernel_rfl))
  f284 := Tryz.func149.trans (congrArg some (by kernel_rfl))
  f285 := Tryz.func150.trans (congrArg some (by kernel_rfl))
  f286 := Tryz.func151.trans (congrArg some (by kernel_rfl))
  f317 := Tryz.func168.trans (congrArg some (by kernel_rfl))
  f318 := Tryz.func170.trans (congrArg some (by kernel_rfl))
  f319 := Tryz.func171.trans (congrArg some (by kernel_rfl))
  f320 := Tryz.func172.trans (congrArg some (by kernel_rfl))
  f337 := Tryz.func179.trans (congrArg some (by kernel_rfl))
  f338 := Tryz.func180.trans (congrArg some (by kernel_rfl))
  t0 := Tryz.underlying0
  a0 := Tryz.isAgg0
  z0 := Tryz.sizeOf0
  v0 := Tryz.zeroValue0
  t2 := Tryz.underlying2
  a2 := Tryz.isAgg2
  z2 := Tryz.sizeOf2
  v2 := Tryz.zeroValue2
  t3 := Tryz.underlying3
  a3 := Tryz.isAgg3
  z3 := Tryz.sizeOf3
  v3 := Tryz.zeroValue3
  t4 := Tryz.underlying4
  a4 := Tryz.isAgg4
  z4 := Tryz.sizeOf4
  v4 := Tryz.zeroValue4
  t5 := Tryz.underlying5
  a5 := Tryz.isAgg5
  z5 := Tryz.sizeOf5
  v5 := Tryz.zeroValue5
  t9 := Tryz.underlying9
  a9 := Tryz.isAgg9
  z9 := Tryz.sizeOf9
  v9 := Tryz.zeroValue9
  t20 := Tryz.underlying20
  a20 := Tryz.isAgg20
  z20 := Tryz.sizeOf20
  v20 := Tryz.zeroValue20
  t37 := Tryz.underlying97
  a37 := Tryz.isAgg97
  z37 := Tryz.sizeOf97
  v37 := Tryz.zeroValue97
  t46 := Tryz.underlying139
  a46 := Tryz.isAgg139
  z46 := Tryz.sizeOf139
  v46 := Tryz.zeroValue139
  t51 := Tryz.underlying157
  a51 := Tryz.isAgg157
  z51 := Tryz.sizeOf157
  v51 := Tryz.zeroValue157
  t53 := Tryz.underlying136
  a53 := Tryz.isAgg136
  z53 := Tryz.sizeOf136
  v53 := Tryz.zeroValue136
  t171 := Tryz.underlying144
  a171 := Tryz.isAgg144
  z171 := Tryz.sizeOf144
  v171 := Tryz.zeroValue144
  t173 := Tryz.underlying147
  a173 := Tryz.isAgg147
  z173 := Tryz.sizeOf147
  v173 := Tryz.zeroValue147
  t212 := Tryz.underlying156
  a212 := Tryz.isAgg156
  z212 := Tryz.sizeOf156
  v212 := Tryz.zeroValue156
  t213 := Tryz.underlying158
  a213 := Tryz.isAgg158
  z213 := Tryz.sizeOf158
  t232 := Tryz.underlying164
  a232 := Tryz.isAgg164
  z232 := Tryz.sizeOf164
  v232 := Tryz.zeroValue164
  t233 := Tryz.underlying165
  a233 := Tryz.isAgg165
  z233 := Tryz.sizeOf165
  v233 := Tryz.zeroValue165
  g17 := by kernel_rfl
  g18 := by kernel_rfl
  g19 := by kernel_rfl
  i0 := by kernel_rfl
  i2 := by kernel_rfl
  i3 := by kernel_rfl
  i4 := by kernel_rfl
  i5 := by kernel_rfl
  i9 := by kernel_rfl
  i20 := by kernel_rfl
  i37 := by kernel_rfl
  i46 := by kernel_rfl
  i51 := by kernel_rfl
  i53 := by kernel_rfl
  i171 := by kernel_rfl
  i173 := by kernel_rfl
  i212 := by kernel_rfl
  i232 := by kernel_rfl
  i233 := by kernel_rfl
  m17 := by kernel_rfl
  m18 := by kernel_rfl
  m19 := by kernel_rfl }
open Go.RowKit Go.Sort Go.Lib in
theorem Tryz.internal_strconv_FormatInt_10 (n : Int) (h0 : -9223372036854775808 ≤ n) (h1 : n ≤ 9223372036854775807) (w : World) (htab : Lib.TabIs Tryz.prog w "internal/strconv.uint64pow10" .u64 Lib.pow10Tab) :
    Calls Tryz.prog 130 #[.int .i64 n, .int .i64 10] w fun e w' => e = .returned (.string ⟨(Lib.itoa n).toArray⟩) ∧ ∃ k os, w' = grow (w.drewN k) os := Any.internal_strconv_FormatInt_10 Tryz.laysM246 n h0 h1 w htab
def Tryz.lays246_ren : Go.Shelf.Ren := ⟨fun | 246 => 130 | 283 => 148 | 284 => 149 | 285 => 150 | 286 => 151 | 129 => 169 | 317 => 168 | 318 => 170 | 319 => 171 | 320 => 172 | 337 => 179 | 338 => 180 | n => n, fun | 2 => 2 | 3 => 3 | 9 => 9 | 4 => 4 | 171 => 144 | 0 => 0 | 53 => 136 | 37 => 97 | 5 => 5 | 173 => 147 | 212 => 156 | 51 => 157 | 20 => 20 | 213 => 158 | 46 => 139 | 232 => 164 | 233 => 165 | n => n, fun | 17 => 3 | 18 => 4 | 19 => 5 | n => n⟩
theorem Tryz.lays246 : Go.Proofs.Lays.n246 Tryz.prog Tryz.lays246_ren := {
  mixed := by kernel_rfl
  f129 := Tryz.func169.trans (congrArg some (by kernel_rfl))
  f246 := Tryz.func130.trans (congrArg some (by kernel_rfl))
  f283 := Tryz.func148.trans (congrArg some (by kernel_rfl))
  f284 := Tryz.func149.trans (congrArg some (by kernel_rfl))
  f285 := Tryz.func150.trans (congrArg some (by kernel_rfl))
  f286 := Tryz.func151.trans (congrArg some (by kernel_rfl))
  f317 := Tryz.func168.trans (congrArg some (by kernel_rfl))
  f318 := Tryz.func170.trans (congrArg some (by kernel_rfl))
  f319 := Tryz.func171.trans (congrArg some (by kernel_rfl))
  f320 := Tryz.func172.trans (congrArg some (by kernel_rfl))
  f337 := Tryz.func179.trans (congrArg some (by kernel_rfl))
  f338 := Tryz.func180.trans (congrArg some (by kernel_rfl))
  t0 := Tryz.underlying0
  a0 := Tryz.isAgg0
  z0 := Tryz.sizeOf0
  v0 := Tryz.zeroValue0
  t2 := Tryz.underlying2
  a2 := Tryz.isAgg2
  z2 := Tryz.sizeOf2
  v2 := Tryz.zeroValue2
  t3 := Tryz.underlying3
  a3 := Tryz.isAgg3
  z3 := Tryz.sizeOf3
  v3 := Tryz.zeroValue3
  t4 := Tryz.underlying4
  a4 := Tryz.isAgg4
  z4 := Tryz.sizeOf4
  v4 := Tryz.zeroValue4
  t5 := Tryz.underlying5
  a5 := Tryz.isAgg5
  z5 := Tryz.sizeOf5
  v5 := Tryz.zeroValue5
  t9 := Tryz.underlying9
  a9 := Tryz.isAgg9
  z9 := Tryz.sizeOf9
  v9 := Tryz.zeroValue9
  t20 := Tryz.underlying20
  a20 := Tryz.isAgg20
  z20 := Tryz.sizeOf20
  v20 := Tryz.zeroValue20
  t37 := Tryz.underlying97
  a37 := Tryz.isAgg97
  z37 := Tryz.sizeOf97
  v37 := Tryz.zeroValue97
  t46 := Tryz.underlying139
  a46 := Tryz.isAgg139
  z46 := Tryz.sizeOf139
  v46 := Tryz.zeroValue139
  t51 := Tryz.underlying157
  a51 := Tryz.isAgg157
  z51 := Tryz.sizeOf157
  v51 := Tryz.zeroValue157
  t53 := Tryz.underlying136
  a53 := Tryz.isAgg136
  z53 := Tryz.sizeOf136
  v53 := Tryz.zeroValue136
  t171 := Tryz.underlying144
  a171 := Tryz.isAgg144
  z171 := Tryz.sizeOf144
  v171 := Tryz.zeroValue144
  t173 := Tryz.underlying147
  a173 := Tryz.isAgg147
  z173 := Tryz.sizeOf147
  v173 := Tryz.zeroValue147
  t212 := Tryz.underlying156
  a212 := Tryz.isAgg156
  z212 := Tryz.sizeOf156
  v212 := Tryz.zeroValue156
  t213 := Tryz.underlying158
  a213 := Tryz.isAgg158
  z213 := Tryz.sizeOf158
  t232 := Tryz.underlying164
  a232 := Tryz.isAgg164
  z232 := Tryz.sizeOf164
  v232 := Tryz.zeroValue164
  t233 := Tryz.underlying165
  a233 := Tryz.isAgg165
  z233 := Tryz.sizeOf165
  v233 := Tryz.zeroValue165
  g17 := by kernel_rfl
  g18 := by kernel_rfl
  g19 := by kernel_rfl }
open Go.RowKit Go.Sort Go.Lib in
theorem Tryz.internal_strconv_FormatInt_10_small (i : Nat) (hi : i < 100) (w : World) :
    Calls Tryz.prog 130 #[.int .i64 i, .int .i64 10] w fun e w' => e = .returned (.string ⟨(Lib.decDigits i).toArray⟩) ∧ w' = w := Any.internal_strconv_FormatInt_10_small Tryz.lays246 i hi w
def Tryz.laysM243_ren : Go.Shelf.Ren := ⟨fun | 243 => 108 | 246 => 130 | 283 => 148 | 284 => 149 | 285 => 150 | 286 => 151 | 129 => 169 | 317 => 168 | 318 => 170 | 319 => 171 | 320 => 172 | 337 => 179 | 338 => 180 | n => n, fun | 3 => 3 | 9 => 9 | 2 => 2 | 4 => 4 | 171 => 144 | 0 => 0 | 53 => 136 | 37 => 97 | 5 => 5 | 173 => 147 | 212 => 156 | 51 => 157 | 20 => 20 | 213 => 158 | 46 => 139 | 232 => 164 | 233 => 165 | n => n, fun | 17 => 3 | 18 => 4 | 19 => 5 | n => n⟩
theorem Tryz.laysM243 : Go.Proofs.LaysM.n243 Tryz.prog Tryz.laysM243_ren := {
  mixed := by kernel_rfl
  f129 := Tryz.func169.trans (congrArg some (by kernel_rfl))
  f243 := Tryz.func108.trans (congrArg some (by kernel_rfl))
  f246 := Tryz.func130.trans (congrArg some (by kernel_rfl))
  f283 := Tryz.func148.trans (congrArg some (by kernel_rfl))
  f284 := Tryz.func149.trans (congrArg some (by kernel_rfl))
  f285 := Tryz.func150.trans (congrArg some (by kernel_rfl))
  f286 := Tryz.func151.trans (congrArg some (by kernel_rfl))
  f317 := Tryz.func168.trans (congrArg some (by kernel_rfl))
  f318 := Tryz.func170.trans (congrArg some (by kernel_rfl))
  f319 := Tryz.func171.trans (congrArg some (by kernel_rfl))
  f320 := Tryz.func172.trans (congrArg some (by kernel_rfl))
  f337 := Tryz.func179.trans (congrArg some (by kernel_rfl))
  f338 := Tryz.func180.trans (congrArg some (by kernel_rfl))
  t0 := Tryz.underlying0
  a0 := Tryz.isAgg0
  z0 := Tryz.sizeOf0
  v0 := Tryz.zeroValue0
  t2 := Tryz.underlying2
  a2 := Tryz.isAgg2
  z2 := Tryz.sizeOf2
  v2 := Tryz.zeroValue2
  t3 := Tryz.underlying3
  a3 := Tryz.isAgg3
  z3 := Tryz.sizeOf3
  v3 := Tryz.zeroValue3
  t4 := Tryz.underlying4
  a4 := Tryz.isAgg4
  z4 := Tryz.sizeOf4
  v4 := Tryz.zeroValue4
  t5 := Tryz.underlying5
  a5 := Tryz.isAgg5
  z5 := Tryz.sizeOf5
  v5 := Tryz.zeroValue5
  t9 := Tryz.underlying9
  a9 := Tryz.isAgg9
  z9 := Tryz.sizeOf9
  v9 := Tryz.zeroValue9
  t20 := Tryz.underlying20
  a20 := Tryz.isAgg20
  z20 := Tryz.sizeOf20
  v20 := Tryz.zeroValue20
  t37 := Tryz.underlying97
  a37 := Tryz.isAgg97
  z37 := Tryz.sizeOf97
  v37 := Tryz.zeroValue97
  t46 := Tryz.underlying139
  a46 := Tryz.isAgg139
  z46 := Tryz.sizeOf139
  v46 := Tryz.zeroValue139
  t51 := Tryz.underlying157
  a51 := Tryz.isAgg157
  z51 := Tryz.sizeOf157
  v51 := Tryz.zeroValue157
  t53 := Tryz.underlying136
  a53 := Tryz.isAgg136
  z53 := Tryz.sizeOf136
  v53 := Tryz.zeroValue136
  t171 := Tryz.underlying144
  a171 := Tryz.isAgg144
  z171 := Tryz.sizeOf144
  v171 := Tryz.zeroValue144
  t173 := Tryz.underlying147
  a173 := Tryz.isAgg147
  z173 := Tryz.sizeOf147
  v173 := Tryz.zeroValue147
  t212 := Tryz.underlying156
  a212 := Tryz.isAgg156
  z212 := Tryz.sizeOf156
  v212 := Tryz.zeroValue156
  t213 := Tryz.underlying158
  a213 := Tryz.isAgg158
  z213 := Tryz.sizeOf158
  t232 := Tryz.underlying164
  a232 := Tryz.isAgg164
  z232 := Tryz.sizeOf164
  v232 := Tryz.zeroValue164
  t233 := Tryz.underlying165
  a233 := Tryz.isAgg165
  z233 := Tryz.sizeOf165
  v233 := Tryz.zeroValue165
  g17 := by kernel_rfl
  g18 := by kernel_rfl
  g19 := by kernel_rfl
  i0 := by kernel_rfl
  i2 := by kernel_rfl
  i3 := by kernel_rfl
  i4 := by kernel_rfl
  i5 := by kernel_rfl
  i9 := by kernel_rfl
  i20 := by kernel_rfl
  i37 := by kernel_rfl
  i46 := by kernel_rfl
  i51 := by kernel_rfl
  i53 := by kernel_rfl
  i171 := by kernel_rfl
  i173 := by kernel_rfl
  i212 := by kernel_rfl
  i232 := by kernel_rfl
  i233 := by kernel_rfl
  m17 := by kernel_rfl
  m18 := by kernel_rfl
  m19 := by kernel_rfl }
open Go.RowKit Go.Sort Go.Lib in
theorem Tryz.internal_strconv_Itoa (n : Int) (h0 : -9223372036854775808 ≤ n) (h1 : n ≤ 9223372036854775807) (w : World) (htab : Lib.TabIs Tryz.prog w "internal/strconv.uint64pow10" .u64 Lib.pow10Tab) :
    Calls Tryz.prog 108 #[.int .i64 n] w fun e w' => e = .returned (.string ⟨(Lib.itoa n).toArray⟩) ∧ ∃ k os, w' = grow (w.drewN k) os := Any.internal_strconv_Itoa Tryz.laysM243 n h0 h1 w htab
def Tryz.lays243_ren : Go.Shelf.Ren := ⟨fun | 243 => 108 | 246 => 130 | 283 => 148 | 284 => 149 | 285 => 150 | 286 => 151 | 129 => 169 | 317 => 168 | 318 => 170 | 319 => 171 | 320 => 172 | 337 => 179 | 338 => 180 | n => n, fun | 3 => 3 | 9 => 9 | 2 => 2 | 4 => 4 | 171 => 144 | 0 => 0 | 53 => 136 | 37 => 97 | 5 => 5 | 173 => 147 | 212 => 156 | 51 => 157 | 20 => 20 | 213 => 158 | 46 => 139 | 232 => 164 | 233 => 165 | n => n, fun | 17 => 3 | 18 => 4 | 19 => 5 | n => n⟩
theorem Tryz.lays243 : Go.Proofs.Lays.n243 Tryz.prog Tryz.lays243_ren := {
  mixed := by kernel_rfl
  f129 := Tryz.func169.trans (congrArg some (by kernel_rfl))
  f243 := Tryz.func108.trans (congrArg some (by kernel_rfl))
  f246 := Tryz.func130.trans (congrArg some (by kernel_rfl))
  f283 := Tryz.func148.trans (congrArg some (by kernel_rfl))
  f284 := Tryz.func149.trans (congrArg some (by kernel_rfl))
  f285 := Tryz.func150.trans (congrArg some (by kernel_rfl))
  f286 := Tryz.func151.trans (congrArg some (by kernel_rfl))
  f317 := Tryz.func168.trans (congrArg some (by kernel_rfl))
  f318 := Tryz.func170.trans (congrArg some (by kernel_rfl))
  f319 := Tryz.func171.trans (congrArg some (by kernel_rfl))
  f320 := Tryz.func172.trans (congrArg some (by kernel_rfl))
  f337 := Tryz.func179.trans (congrArg some (by kernel_rfl))
  f338 := Tryz.func180.trans (congrArg some (by kernel_rfl))
  t0 := Tryz.underlying0
  a0 := Tryz.isAgg0
  z0 := Tryz.sizeOf0
  v0 := Tryz.zeroValue0
  t2 := Tryz.underlying2
  a2 := Tryz.isAgg2
  z2 := Tryz.sizeOf2
  v2 := Tryz.zeroValue2
  t3 := Tryz.underlying3
  a3 := Tryz.isAgg3
  z3 := Tryz.sizeOf3
  v3 := Tryz.zeroValue3
  t4 := Tryz.underlying4
  a4 := Tryz.isAgg4
  z4 := Tryz.sizeOf4
  v4 := Tryz.zeroValue4
  t5 := Tryz.underlying5
  a5 := Tryz.isAgg5
  z5 := Tryz.sizeOf5
  v5 := Tryz.zeroValue5
  t9 := Tryz.underlying9
  a9 := Tryz.isAgg9
  z9 := Tryz.sizeOf9
  v9 := Tryz.zeroValue9
  t20 := Tryz.underlying20
  a20 := Tryz.isAgg20
  z20 := Tryz.sizeOf20
  v20 := Tryz.zeroValue20
  t37 := Tryz.underlying97
  a37 := Tryz.isAgg97
  z37 := Tryz.sizeOf97
  v37 := Tryz.zeroValue97
  t46 := Tryz.underlying139
  a46 := Tryz.isAgg139
  z46 := Tryz.sizeOf139
  v46 := Tryz.zeroValue139
  t51 := Tryz.underlying157
  a51 := Tryz.isAgg157
  z51 := Tryz.sizeOf157
  v51 := Tryz.zeroValue157
  t53 := Tryz.underlying136
  a53 := Tryz.isAgg136
  z53 := Tryz.sizeOf136
  v53 := Tryz.zeroValue136
  t171 := Tryz.underlying144
  a171 := Tryz.isAgg144
  z171 := Tryz.sizeOf144
  v171 := Tryz.zeroValue144
  t173 := Tryz.underlying147
  a173 := Tryz.isAgg147
  z173 := Tryz.sizeOf147
  v173 := Tryz.zeroValue147
  t212 := Tryz.underlying156
  a212 := Tryz.isAgg156
  z212 := Tryz.sizeOf156
  v212 := Tryz.zeroValue156
  t213 := Tryz.underlying158
  a213 := Tryz.isAgg158
  z213 := Tryz.sizeOf158
  t232 := Tryz.underlying164
  a232 := Tryz.isAgg164
  z232 := Tryz.sizeOf164
  v232 := Tryz.zeroValue164
  t233 := Tryz.underlying165
  a233 := Tryz.isAgg165
  z233 := Tryz.sizeOf165
  v233 := Tryz.zeroValue165
  g17 := by kernel_rfl
  g18 := by kernel_rfl
  g19 := by kernel_rfl }
open Go.RowKit Go.Sort Go.Lib in
theorem Tryz.internal_strconv_Itoa_small (i : Nat) (hi : i < 100) (w : World) :
    Calls Tryz.prog 108 #[.int .i64 i] w fun e w' => e = .returned (.string ⟨(Lib.decDigits i).toArray⟩) ∧ w' = w := Any.internal_strconv_Itoa_small Tryz.lays243 i hi w
def Tryz.laysM171_ren : Go.Shelf.Ren := ⟨fun | 171 => 64 | 243 => 108 | 246 => 130 | 283 => 148 | 284 => 149 | 285 => 150 | 286 => 151 | 129 => 169 | 317 => 168 | 318 => 170 | 319 => 171 | 320 => 172 | 337 => 179 | 338 => 180 | n => n, fun | 3 => 3 | 9 => 9 | 2 => 2 | 4 => 4 | 171 => 144 | 0 => 0 | 53 => 136 | 37 => 97 | 5 => 5 | 173 => 147 | 212 => 156 | 51 => 157 | 20 => 20 | 213 => 158 | 46 => 139 | 232 => 164 | 233 => 165 | n => n, fun | 17 => 3 | 18 => 4 | 19 => 5 | n => n⟩
theorem Tryz.laysM171 : Go.Proofs.LaysM.n171 Tryz.prog Tryz.laysM171_ren := {
  mixed := by kernel_rfl
  f129 := Tryz.func169.trans (congrArg some (by kernel_rfl))
  f171 := Tryz.func64.trans (congrArg some (by kernel_rfl))
  f243 := Tryz.func108.trans (congrArg some (by kernel_rfl))
  f246 := Tryz.func130.trans (congrArg some (by kernel_rfl))
  f283 := Tryz.func148.trans (congrArg some (by kernel_rfl))
  f284 := Tryz.func149.trans (congrArg some (by kernel_rfl))
  f285 := Tryz.func150.trans (congrArg some (by kernel_rfl))
  f286 := Tryz.func151.trans (congrArg some (by kernel_rfl))
  f317 := Tryz.func168.trans (congrArg some (by kernel_rfl))
  f318 := Tryz.func170.trans (congrArg some (by kernel_rfl))
  f319 := Tryz.func171.trans (congrArg some (by kernel_rfl))
  f320 := Tryz.func172.trans (congrArg some (by kernel_rfl))
  f337 := Tryz.func179.trans (congrArg some (by kernel_rfl))
  f338 := Tryz.func180.trans (congrArg some (by kernel_rfl))
  t0 := Tryz.underlying0
  a0 := Tryz.isAgg0
  z0 := Tryz.sizeOf0
  v0 := Tryz.zeroValue0
  t2 := Tryz.underlying2
  a2 := Tryz.isAgg2
  z2 := Tryz.sizeOf2
  v2 := Tryz.zeroValue2
  t3 := Tryz.underlying3
  a3 := Tryz.isAgg3
  z3 := Tryz.sizeOf3
  v3 := Tryz.zeroValue3
  t4 := Tryz.underlying4
  a4 := Tryz.isAgg4
  z4 := Tryz.sizeOf4
  v4 := Tryz.zeroValue4
  t5 := Tryz.underlying5
  a5 := Tryz.isAgg5
  z5 := Tryz.sizeOf5
  v5 := Tryz.zeroValue5
  t9 := Tryz.underlying9
  a9 := Tryz.isAgg9
  z9 := Tryz.sizeOf9
  v9 := Tryz.zeroValue9
  t20 := Tryz.underlying20
  a20 := Tryz.isAgg20
  z20 := Tryz.sizeOf20
  v20 := Tryz.zeroValue20
  t37 := Tryz.underlying97
  a37 := Tryz.isAgg97
  z37 := Tryz.sizeOf97
  v37 := Tryz.zeroValue97
  t46 := Tryz.underlying139
  a46 := Tryz.isAgg139
  z46 := Tryz.sizeOf139
  v46 := Tryz.zeroValue139
  t51 := Tryz.underlying157
  a51 := Tryz.isAgg157
  z51 := Tryz.sizeOf157
  v51 := Tryz.zeroValue157
  t53 := Tryz.underlying136
  a53 := Tryz.isAgg136
  z53 := Tryz.sizeOf136
  v53 := Tryz.zeroValue136
  t171 := Tryz.underlying144
  a171 := Tryz.isAgg144
  z171 := Tryz.sizeOf144
  v171 := Tryz.zeroValue144
  t173 := Tryz.underlying147
  a173 := Tryz.isAgg147
  z173 := Tryz.sizeOf147
  v173 := Tryz.zeroValue147
  t212 := Tryz.underlying156
  a212 := Tryz.isAgg156
  z212 := Tryz.sizeOf156
  v212 := Tryz.zeroValue156
  t213 := Tryz.underlying158
  a213 := Tryz.isAgg158
  z213 := Tryz.sizeOf158
  t232 := Tryz.underlying164
  a232 := Tryz.isAgg164
  z232 := Tryz.sizeOf164
  v232 := Tryz.zeroValue164
  t233 := Tryz.underlying165
  a233 := Tryz.isAgg165
  z233 := Tryz.sizeOf165
  v233 := Tryz.zeroValue165
  g17 := by kernel_rfl
  g18 := by kernel_rfl
  g19 := by kernel_rfl
  i0 := by kernel_rfl
  i2 := by kernel_rfl
  i3 := by kernel_rfl
  i4 := by kernel_rfl
  i5 := by kernel_rfl
  i9 := by kernel_rfl
  i20 := by kernel_rfl
  i37 := by kernel_rfl
  i46 := by kernel_rfl
  i51 := by kernel_rfl
  i53 := by kernel_rfl
  i171 := by kernel_rfl
  i173 := by kernel_rfl
  i212 := by kernel_rfl
  i232 := by kernel_rfl
  i233 := by kernel_rfl
  m17 := by kernel_rfl
  m18 := by kernel_rfl
  m19 := by kernel_rfl }
open Go.RowKit Go.Sort Go.Lib in
theorem Tryz.strconv_Itoa (n : Int) (h0 : -9223372036854775808 ≤ n) (h1 : n ≤ 9223372036854775807) (w : World) (htab : Lib.TabIs Tryz.prog w "internal/strconv.uint64pow10" .u64 Lib.pow10Tab) :
    Calls Tryz.prog 64 #[.int .i64 n] w fun e w' => e = .returned (.string ⟨(Lib.itoa n).toArray⟩) ∧ ∃ k os, w' = grow (w.drewN k) os := Any.strconv_Itoa Tryz.laysM171 n h0 h1 w htab
def Tryz.lays171_ren : Go.Shelf.Ren := ⟨fun | 171 => 64 | 243 => 108 | 246 => 130 | 283 => 148 | 284 => 149 | 285 => 150 | 286 => 151 | 129 => 169 | 317 => 168 | 318 => 170 | 319 => 171 | 320 => 172 | 337 => 179 | 338 => 180 | n => n, fun | 3 => 3 | 9 => 9 | 2 => 2 | 4 => 4 | 171 => 144 | 0 => 0 | 53 => 136 | 37 => 97 | 5 => 5 | 173 => 147 | 212 => 156 | 51 => 157 | 20 => 20 | 213 => 158 | 46 => 139 | 232 => 164 | 233 => 165 | n => n, fun | 17 => 3 | 18 => 4 | 19 => 5 | n => n⟩
theorem Tryz.lays171 : Go.Proofs.Lays.n171 Tryz.prog Tryz.lays171_ren := {
  mixed := by kernel_rfl
  f129 := Tryz.func169.trans (congrArg some (by kernel_rfl))
  f171 := Tryz.func64.trans (congrArg some (by kernel_rfl))
  f243 := Tryz.func108.trans (congrArg some (by kernel_rfl))
  f246 := Tryz.func130.trans (congrArg some (by kernel_rfl))
  f283 := Tryz.func148.trans (congrArg some (by kernel_rfl))
  f284 := Tryz.func149.trans (congrArg some (by kernel_rfl))
  f285 := Tryz.func150.trans (congrArg some (by kernel_rfl))
  f286 := Tryz.func151.trans (congrArg some (by kernel_rfl))
  f317 := Tryz.func168.trans (congrArg some (by kernel_rfl))
  f318 := Tryz.func170.trans (congrArg some (by kernel_rfl))
  f319 := Tryz.func171.trans (congrArg some (by kernel_rfl))
  f320 := Tryz.func172.trans (congrArg some (by kernel_rfl))
  f337 := Tryz.func179.trans (congrArg some (by kernel_rfl))
  f338 := Tryz.func180.trans (congrArg some (by kernel_rfl))
  t0 := Tryz.underlying0
  a0 := Tryz.isAgg0
  z0 := Tryz.sizeOf0
  v0 := Tryz.zeroValue0
  t2 := Tryz.underlying2
  a2 := Tryz.isAgg2
  z2 := Tryz.sizeOf2
  v2 := Tryz.zeroValue2
  t3 := Tryz.underlying3
  a3 := Tryz.isAgg3
  z3 := Tryz.sizeOf3
  v3 := Tryz.zeroValue3
  t4 := Tryz.underlying4
  a4 := Tryz.isAgg4
  z4 := Tryz.sizeOf4
  v4 := Tryz.zeroValue4
  t5 := Tryz.underlying5
  a5 := Tryz.isAgg5
  z5 := Tryz.sizeOf5
  v5 := Tryz.zeroValue5
  t9 := Tryz.underlying9
  a9 := Tryz.isAgg9
  z9 := Tryz.sizeOf9
  v9 := Tryz.zeroValue9
  t20 := Tryz.underlying20
  a20 := Tryz.isAgg20
  z20 := Tryz.sizeOf20
  v20 := Tryz.zeroValue20
  t37 := Tryz.underlying97
  a37 := Tryz.isAgg97
  z37 := Tryz.sizeOf97
  v37 := Tryz.zeroValue97
  t46 := Tryz.underlying139
  a46 := Tryz.isAgg139
  z46 := Tryz.sizeOf139
  v46 := Tryz.zeroValue139
  t51 := Tryz.underlying157
  a51 := Tryz.isAgg157
  z51 := Tryz.sizeOf157
  v51 := Tryz.zeroValue157
  t53 := Tryz.underlying136
  a53 := Tryz.isAgg136
  z53 := Tryz.sizeOf136
  v53 := Tryz.zeroValue136
  t171 := Tryz.underlying144
  a171 := Tryz.isAgg144
  z171 := Tryz.sizeOf144
  v171 := Tryz.zeroValue144
  t173 := Tryz.underlying147
  a173 := Tryz.isAgg147
  z173 := Tryz.sizeOf147
  v173 := Tryz.zeroValue147
  t212 := Tryz.underlying156
  a212 := Tryz.isAgg156
  z212 := Tryz.sizeOf156
  v212 := Tryz.zeroValue156
  t213 := Tryz.underlying158
  a213 := Tryz.isAgg158
  z213 := Tryz.sizeOf158
  t232 := Tryz.underlying164
  a232 := Tryz.isAgg164
  z232 := Tryz.sizeOf164
  v232 := Tryz.zeroValue164
  t233 := Tryz.underlying165
  a233 := Tryz.isAgg165
  z233 := Tryz.sizeOf165
  v233 := Tryz.zeroValue165
  g17 := by kernel_rfl
  g18 := by kernel_rfl
  g19 := by kernel_rfl }
open Go.RowKit Go.Sort Go.Lib in
theorem Tryz.strconv_Itoa_small (i : Nat) (hi : i < 100) (w : World) :
    Calls Tryz.prog 64 #[.int .i64 i] w fun e w' => e = .returned (.string ⟨(Lib.decDigits i).toArray⟩) ∧ w' = w := Any.strconv_Itoa_small Tryz.lays171 i hi w
open Go.RowKit in
theorem Tryz.internal_strconv_Atoi_err (s : ByteArray) (hl0 : 1 ≤ s.size) (hl : s.size ≤ 18) (h : Lib.atoi s.data.toList = none) (w : World) :
    Calls Tryz.prog 105 #[.string s] w fun e w' => e = .returned (.tuple #[.int .i64 0, (.iface 122 (.int .i64 2))]) ∧ (w' = w ∨ ∃ t, w' = Lib.bytesWorld w 5 t) := Any.internal_strconv_Atoi_err Tryz.lays244 s hl0 hl h w
def Tryz.lays247_ren : Go.Shelf.Ren := ⟨fun | 247 => 123 | 287 => 144 | 321 => 166 | 322 => 167 | n => n, fun | 9 => 9 | 3 => 3 | 2 => 2 | 75 => 85 | 4 => 4 | 167 => 122 | 5 => 5 | 53 => 136 | 175 => 137 | 46 => 139 | 37 => 97 | 0 => 0 | 21 => 21 | 80 => 101 | n => n, fun | n => n⟩
theorem Tryz.lays247 : Go.Proofs.Lays.n247 Tryz.prog Tryz.lays247_ren := {
  mixed := by kernel_rfl
  f247 := Tryz.func123.trans (congrArg some (by kernel_rfl))
  f287 := Tryz.func144.trans (congrArg some (by kernel_rfl))
  f321 := Tryz.func166.trans (congrArg some (by kernel_rfl))
  f322 := Tryz.func167.trans (congrArg some (by kernel_rfl))
  t0 := Tryz.underlying0
  a0 := Tryz.isAgg0
  z0 := Tryz.sizeOf0
  v0 := Tryz.zeroValue0
  t2 := Tryz.underlying2
  a2 := Tryz.isAgg2
  z2 := Tryz.sizeOf2
  v2 := Tryz.zeroValue2
  t3 := Tryz.underlying3
  a3 := Tryz.isAgg3
  z3 := Tryz.sizeOf3
  v3 := Tryz.zeroValue3
  t4 := Tryz.underlying4
  a4 := Tryz.isAgg4
  z4 := Tryz.sizeOf4
  v4 := Tryz.zeroValue4
  t5 := Tryz.underlying5
  a5 := Tryz.isAgg5
  z5 := Tryz.sizeOf5
  v5 := Tryz.zeroValue5
  t9 := Tryz.underlying9
  a9 := Tryz.isAgg9
  z9 := Tryz.sizeOf9
  v9 := Tryz.zeroValue9
  t21 := Tryz.underlying21
  a21 := Tryz.isAgg21
  z21 := Tryz.sizeOf21
  v21 := Tryz.zeroValue21
  t37 := Tryz.underlying97
  a37 := Tryz.isAgg97
  z37 := Tryz.sizeOf97
  v37 := Tryz.zeroValue97
  t46 := Tryz.underlying139
  a46 := Tryz.isAgg139
  z46 := Tryz.sizeOf139
  v46 := Tryz.zeroValue139
  t53 := Tryz.underlying136
  a53 := Tryz.isAgg136
  z53 := Tryz.sizeOf136
  v53 := Tryz.zeroValue136
  t75 := Tryz.underlying85
  a75 := Tryz.isAgg85
  z75 := Tryz.sizeOf85
  v75 := Tryz.zeroValue85
  t167 := Tryz.underlying122
  a167 := Tryz.isAgg122
  z167 := Tryz.sizeOf122
  v167 := Tryz.zeroValue122
  t175 := Tryz.underlying137
  a175 := Tryz.isAgg137
  z175 := Tryz.sizeOf137
  v175 := Tryz.zeroValue137 }
open Go.RowKit in
theorem Tryz.internal_strconv_ParseInt_empty (base bits : Int) (w : World) :
    Calls Tryz.prog 123 #[.string ⟨#[]⟩, .int .i64 base, .int .i64 bits] w fun e w' => e = .returned (.tuple #[.int .i64 0, (.iface 122 (.int .i64 2))]) ∧ w' = w := Any.internal_strconv_ParseInt_empty Tryz.lays247 base bits w
open Go.RowKit in
theorem Tryz.internal_strconv_Atoi_empty (w : World) :
    Calls Tryz.prog 105 #[.string ⟨#[]⟩] w fun e w' => e = .returned (.tuple #[.int .i64 0, (.iface 122 (.int .i64 2))]) ∧ w' = w := Any.internal_strconv_Atoi_empty Tryz.lays244 w
open Go.RowKit in
theorem Tryz.internal_strconv_Atoi_fail (s : ByteArray) (hl : s.size ≤ 18) (h : Lib.atoi s.data.toList = none) (w : World) :
    Calls Tryz.prog 105 #[.string s] w fun e w' => e = .returned (.tuple #[.int .i64 0, (.iface 122 (.int .i64 2))]) ∧ (w' = w ∨ ∃ t, w' = Lib.bytesWorld w 5 t) := Any.internal_strconv_Atoi_fail Tryz.lays244 s hl h w
def Tryz.laysM316_ren : Go.Shelf.Ren := ⟨fun | 316 => 145 | n => n, fun | 9 => 9 | 3 => 3 | 4 => 4 | 37 => 97 | 0 => 0 | 127 => 119 | 5 => 5 | n => n, fun | n => n⟩
theorem Tryz.laysM316 : Go.Proofs.LaysM.n316 Tryz.prog Tryz.laysM316_ren := {
  mixed := by kernel_rfl
  f316 := Tryz.func145.trans (congrArg some (by kernel_rfl))
  t0 := Tryz.underlying0
  a0 := Tryz.isAgg0
  z0 := Tryz.sizeOf0
  v0 := Tryz.zeroValue0
  t3 := Tryz.underlying3
  a3 := Tryz.isAgg3
  z3 := Tryz.sizeOf3
  v3 := Tryz.zeroValue3
  t4 := Tryz.underlying4
  a4 := Tryz.isAgg4
  z4 := Tryz.sizeOf4
  v4 := Tryz.zeroValue4
  t9 := Tryz.underlying9
  a9 := Tryz.isAgg9
  z9 := Tryz.sizeOf9
  v9 := Tryz.zeroValue9
  t37 := Tryz.underlying97
  a37 := Tryz.isAgg97
  z37 := Tryz.sizeOf97
  v37 := Tryz.zeroValue97
  t127 := Tryz.underlying119
  a127 := Tryz.isAgg119
  z127 := Tryz.sizeOf119
  v127 := Tryz.zeroValue119
  t5 := Tryz.underlying5
  a5 := Tryz.isAgg5
  z5 := Tryz.sizeOf5
  v5 := Tryz.zeroValue5
  i0 := by kernel_rfl
  i3 := by kernel_rfl
  i4 := by kernel_rfl
  i5 := by kernel_rfl
  i9 := by kernel_rfl
  i37 := by kernel_rfl
  i127 := by kernel_rfl }
open Go.RowKit in
theorem Tryz.stringslite_Clone (s : ByteArray) (w : World) (hlim : s.size ≤ 281474976710656) :
    Calls Tryz.prog 145 #[.string s] w fun e w' => e = .returned (.string s) ∧ Below w.heap.size w w' := Any.stringslite_Clone Tryz.laysM316 s w hlim
def Tryz.laysM279_ren : Go.Shelf.Ren := ⟨fun | 279 => 124 | 316 => 145 | n => n, fun | 9 => 9 | 168 => 125 | 75 => 85 | 210 => 141 | 3 => 3 | 4 => 4 | 37 => 97 | 0 => 0 | 127 => 119 | 80 => 101 | 5 => 5 | n => n, fun | 15 => 1 | n => n⟩
theorem Tryz.laysM279 : Go.Proofs.LaysM.n279 Tryz.prog Tryz.laysM279_ren := {
  mixed := by kernel_rfl
  f279 := Tryz.func124.trans (congrArg some (by kernel_rfl))
  f316 := Tryz.func145.trans (congrArg some (by kernel_rfl))
  t0 := Tryz.underlying0
  a0 := Tryz.isAgg0
  z0 := Tryz.sizeOf0
  v0 := Tryz.zeroValue0
  t3 := Tryz.underlying3
  a3 := Tryz.isAgg3
  z3 := Tryz.sizeOf3
  v3 := Tryz.zeroValue3
  t4 := Tryz.underlying4
  a4 := Tryz.isAgg4
  z4 := Tryz.sizeOf4
  v4 := Tryz.zeroValue4
  t9 := Tryz.underlying9
  a9 := Tryz.isAgg9
  z9 := Tryz.sizeOf9
  v9 := Tryz.zeroValue9
  t37 := Tryz.underlying97
  a37 := Tryz.isAgg97
  z37 := Tryz.sizeOf97
  v37 := Tryz.zeroValue97
  t75 := Tryz.underlying85
  a75 := Tryz.isAgg85
  z75 := Tryz.sizeOf85
  v75 := Tryz.zeroValue85
  t127 := Tryz.underlying119
  a127 := Tryz.isAgg119
  z127 := Tryz.sizeOf119
  v127 := Tryz.zeroValue119
  t168 := Tryz.underlying125
  a168 := Tryz.isAgg125
  z168 := Tryz.sizeOf125
  v168 := Tryz.zeroValue125
  t210 := Tryz.underlying141
  a210 := Tryz.isAgg141
  z210 := Tryz.sizeOf141
  v210 := Tryz.zeroValue141
  g15 := by kernel_rfl
  t5 := Tryz.underlying5
  a5 := Tryz.isAgg5
  z5 := Tryz.sizeOf5
  v5 := Tryz.zeroValue5
  t80 := Tryz.underlying101
  a80 := Tryz.isAgg101
  z80 := Tryz.sizeOf101
  v80 := Tryz.zeroValue101
  i0 := by kernel_rfl
  i3 := by kernel_rfl
  i4 := by kernel_rfl
  i5 := by kernel_rfl
  i9 := by kernel_rfl
  i37 := by kernel_rfl
  i75 := by kernel_rfl
  i80 := by kernel_rfl
  i127 := by kernel_rfl
  i168 := by kernel_rfl
  i210 := by kernel_rfl
  m15 := by kernel_rfl }
open Go.RowKit in
theorem Tryz.strconv_syntaxError (fn s : ByteArray) (ev : Value) (w : World) (hlim : s.size ≤ 281474976710656) (hv : w.cell? ⟨1, 0, none⟩ = some ev) (hev : ev = .nilIface ∨ ∃ te pe, ev = .iface te pe) :
    Calls Tryz.prog 124 #[.string fn, .string s] w fun e w' => ∃ N, e = .returned (.pointer (some ⟨N, 0, none⟩)) ∧ w.heap.size ≤ N ∧ w'.heap[N]? = some (.cells #[.string fn, .string s, ev] 141 (0, 0)) ∧ Below w.heap.size w w' := Any.strconv_syntaxError Tryz.laysM279 fn s ev w hlim hv hev
def Tryz.laysC245_ren : Go.Shelf.Ren := ⟨fun | 245 => 106 | 279 => 124 | 280 => 125 | 281 => 126 | 282 => 127 | 316 => 145 | 171 => 64 | 205 => 146 | 243 => 108 | 246 => 130 | 283 => 148 | 284 => 149 | 285 => 150 | 286 => 151 | 129 => 169 | 317 => 168 | 318 => 170 | 319 => 171 | 320 => 172 | 337 => 179 | 338 => 180 | n => n, fun | 9 => 9 | 3 => 3 | 75 => 85 | 167 => 122 | 4 => 4 | 168 => 125 | 210 => 141 | 37 => 97 | 0 => 0 | 127 => 119 | 145 => 154 | 143 => 152 | 2 => 2 | 171 => 144 | 53 => 136 | 5 => 5 | 173 => 147 | 212 => 156 | 51 => 157 | 20 => 20 | 213 => 158 | 46 => 139 | 232 => 164 | 233 => 165 | 80 => 101 | n => n, fun | 15 => 1 | 16 => 2 | 17 => 3 | 18 => 4 | 19 => 5 | n => n⟩
theorem Tryz.laysC245 : Go.Proofs.LaysC.n245 Tryz.prog Tryz.laysC245_ren := {
  mixed := by kernel_rfl
  f129 := Tryz.func169.trans (congrArg some (by kernel_rfl))
  f171 := Tryz.func64.trans (congrArg some (by kernel_rfl))
  f205 := Tryz.func146.trans (congrArg some (by kernel_rfl))
  f243 := Tryz.func108.trans (congrArg some (by kernel_rfl))
  f245 := Tryz.func106.trans (congrArg some (by kernel_rfl))
  f246 := Tryz.func130.trans (congrArg some (by kernel_rfl))
  f279 := Tryz.func124.trans (congrArg some (by kernel_rfl))
  f280 := Tryz.func125.trans (congrArg some (by kernel_rfl))
  f281 := Tryz.func126.trans (congrArg some (by kernel_rfl))
  f282 := Tryz.func127.trans (congrArg some (by kernel_rfl))
  f283 := Tryz.func148.trans (congrArg some (by kernel_rfl))
  f284 := Tryz.func149.trans (congrArg some (by kernel_rfl))
  f285 := Tryz.func150.trans (congrArg some (by kernel_rfl))
  f286 := Tryz.func151.trans (congrArg some (by kernel_rfl))
  f316 := Tryz.func145.trans (congrArg some (by kernel_rfl))
  f317 := Tryz.func168.trans (congrArg some (by kernel_rfl))
  f318 := Tryz.func170.trans (congrArg some (by kernel_rfl))
  f319 := Tryz.func171.trans (congrArg some (by kernel_rfl))
  f320 := Tryz.func172.trans (congrArg some (by kernel_rfl))
  f337 := Tryz.func179.trans (congrArg some (by kernel_rfl))
  f338 := Tryz.func180.trans (congrArg some (by kernel_rfl))
  t0 := Tryz.underlying0
  a0 := Tryz.isAgg0
  z0 := Tryz.sizeOf0
  v0 := Tryz.zeroValue0
  t2 := Tryz.underlying2
  a2 := Tryz.isAgg2
  z2 := Tryz.sizeOf2
  v2 := Tryz.zeroValue2
  t3 := Tryz.underlying3
  a3 := Tryz.isAgg3
  z3 := Tryz.sizeOf3
  v3 := Tryz.zeroValue3
  t4 := Tryz.underlying4
  a4 := Tryz.isAgg4
  z4 := Tryz.sizeOf4
  v4 := Tryz.zeroValue4
  t5 := Tryz.underlying5
  a5 := Tryz.isAgg5
  z5 := Tryz.sizeOf5
  v5 := Tryz.zeroValue5
  t9 := Tryz.underlying9
  a9 := Tryz.isAgg9
  z9 := Tryz.sizeOf9
  v9 := Tryz.zeroValue9
  t20 := Tryz.underlying20
  a20 := Tryz.isAgg20
  z20 := Tryz.sizeOf20
  v20 := Tryz.zeroValue20
  t37 := Tryz.underlying97
  a37 := Tryz.isAgg97
  z37 := Tryz.sizeOf97
  v37 := Tryz.zeroValue97
  t46 := Tryz.underlying139
  a46 := Tryz.isAgg139
  z46 := Tryz.sizeOf139
  v46 := Tryz.zeroValue139
  t51 := Tryz.underlying157
  a51 := Tryz.isAgg157
  z51 := Tryz.sizeOf157
  v51 := Tryz.zeroValue157
  t53 := Tryz.underlying136
  a53 := Tryz.isAgg136
  z53 := Tryz.sizeOf136
  v53 := Tryz.zeroValue136
  t75 := Tryz.underlying85
  a75 := Tryz.isAgg85
  z75 := Tryz.sizeOf85
  v75 := Tryz.zeroValue85
  t127 := Tryz.underlying119
  a127 := Tryz.isAgg119
  z127 := Tryz.sizeOf119
  v127 := Tryz.zeroValue119
  t143 := Tryz.underlying152
  a143 := Tryz.isAgg152
  z143 := Tryz.sizeOf152
  v143 := Tryz.zeroValue152
  t145 := Tryz.underlying154
  a145 := Tryz.isAgg154
  z145 := Tryz.sizeOf154
  v145 := Tryz.zeroValue154
  t167 := Tryz.underlying122
  a167 := Tryz.isAgg122
  z167 := Tryz.sizeOf122
  v167 := Tryz.zeroValue122
  t168 := Tryz.underlying125
  a168 := Tryz.isAgg125
  z168 := Tryz.sizeOf125
  v168 := Tryz.zeroValue125
  t171 := Tryz.underlying144
  a171 := Tryz.isAgg144
  z171 := Tryz.sizeOf144
  v171 := Tryz.zeroValue144
  t173 := Tryz.underlying147
  a173 := Tryz.isAgg147
  z173 := Tryz.sizeOf147
  v173 := Tryz.zeroValue147
  t210 := Tryz.underlying141
  a210 := Tryz.isAgg141
  z210 := Tryz.sizeOf141
  v210 := Tryz.zeroValue141
  t212 := Tryz.underlying156
  a212 := Tryz.isAgg156
  z212 := Tryz.sizeOf156
  v212 := Tryz.zeroValue156
  t213 := Tryz.underlying158
  a213 := Tryz.isAgg158
  z213 := Tryz.sizeOf158
  t232 := Tryz.underlying164
  a232 := Tryz.isAgg164
  z232 := Tryz.sizeOf164
  v232 := Tryz.zeroValue164
  t233 := Tryz.underlying165
  a233 := Tryz.isAgg165
  z233 := Tryz.sizeOf165
  v233 := Tryz.zeroValue165
  g15 := by kernel_rfl
  g16 := by kernel_rfl
  g17 := by kernel_rfl
  g18 := by kernel_rfl
  g19 := by kernel_rfl
  t80 := Tryz.underlying101
  a80 := Tryz.isAgg101
  z80 := Tryz.sizeOf101
  v80 := Tryz.zeroValue101
  i0 := by kernel_rfl
  i2 := by kernel_rfl
  i3 := by kernel_rfl
  i4 := by kernel_rfl
  i5 := by kernel_rfl
  i9 := by kernel_rfl
  i20 := by kernel_rfl
  i37 := by kernel_rfl
  i46 := by kernel_rfl
  i51 := by kernel_rfl
  i53 := by kernel_rfl
  i75 := by kernel_rfl
  i80 := by kernel_rfl
  i127 := by kernel_rfl
  i143 := by kernel_rfl
  i145 := by kernel_rfl
  i167 := by kernel_rfl
  i168 := by kernel_rfl
  i171 := by kernel_rfl
  i173 := by kernel_rfl
  i210 := by kernel_rfl
  i212 := by kernel_rfl
  i232 := by kernel_rfl
  i233 := by kernel_rfl
  m15 := by kernel_rfl
  m16 := by kernel_rfl
  m17 := by kernel_rfl
  m18 := by kernel_rfl
  m19 := by kernel_rfl
  c0 := by kernel_rfl
  c2 := by kernel_rfl
  c3 := by kernel_rfl
  c4 := by kernel_rfl
  c5 := by kernel_rfl
  c9 := by kernel_rfl
  c20 := by kernel_rfl
  c37 := by kernel_rfl
  c46 := by kernel_rfl
  c51 := by kernel_rfl
  c53 := by kernel_rfl
  c75 := by kernel_rfl
  c80 := by kernel_rfl
  c127 := by kernel_rfl
  c143 := by kernel_rfl
  c145 := by kernel_rfl
  c167 := by kernel_rfl
  c168 := by kernel_rfl
  c171 := by kernel_rfl
  c173 := by kernel_rfl
  c210 := by kernel_rfl
  c212 := by kernel_rfl
  c213 := by kernel_rfl
  c232 := by kernel_rfl
  c233 := by kernel_rfl }
open Go.RowKit in
theorem Tryz.strconv_toError_syntax (fn s : ByteArray) (base bits : Int) (ev : Value) (w : World) (hlim : s.size ≤ 281474976710656) (hv : w.cell? ⟨1, 0, none⟩ = some ev) (hev : ev = .nilIface ∨ ∃ te pe, ev = .iface te pe) :
    Calls Tryz.prog 106 #[.string fn, .string s, .int .i64 base, .int .i64 bits, .iface 122 (.int .i64 2)] w fun e w' => ∃ N, e = .returned (.iface 125 (.pointer (some ⟨N, 0, none⟩))) ∧ w.heap.size ≤ N ∧ w'.heap[N]? = some (.cells #[.string fn, .string s, ev] 141 (0, 0)) ∧ Below w.heap.size w w' := Any.strconv_toError_syntax Tryz.laysC245 fn s base bits ev w hlim hv hev
def Tryz.lays321_ren : Go.Shelf.Ren := ⟨fun | 321 => 166 | n => n, fun | 5 => 5 | n => n, fun | n => n⟩
theorem Tryz.lays321 : Go.Proofs.Lays.n321 Tryz.prog Tryz.lays321_ren := {
  mixed := by kernel_rfl
  f321 := Tryz.func166.trans (congrArg some (by kernel_rfl))
  t5 := Tryz.underlying5
  a5 := Tryz.isAgg5
  z5 := Tryz.sizeOf5
  v5 := Tryz.zeroValue5 }
open Go.RowKit in
theorem Tryz.internal_strconv_lower (c : Int) (w : World) :
    Calls Tryz.prog 166 #[.int .u8 c] w fun e w' => e = .returned (.int .u8 (bits .or .u8 c 32)) ∧ w' = w := Any.internal_strconv_lower Tryz.lays321 c w
def Tryz.lays287_ren : Go.Shelf.Ren := ⟨fun | 287 => 144 | 321 => 166 | 322 => 167 | n => n, fun | 9 => 9 | 3 => 3 | 53 => 136 | 75 => 85 | 4 => 4 | 167 => 122 | 5 => 5 | 46 => 139 | 37 => 97 | 0 => 0 | 21 => 21 | 80 => 101 | n => n, fun | n => n⟩
theorem Tryz.lays287 : Go.Proofs.Lays.n287 Tryz.prog Tryz.lays287_ren := {
  mixed := by kernel_rfl
  f287 := Tryz.func144.trans (congrArg some (by kernel_rfl))
  f321 := Tryz.func166.trans (congrArg some (by kernel_rfl))
  f322 := Tryz.func167.trans (congrArg some (by kernel_rfl))
  t0 := Tryz.underlying0
  a0 := Tryz.isAgg0
  z0 := Tryz.sizeOf0
  v0 := Tryz.zeroValue0
  t3 := Tryz.underlying3
  a3 := Tryz.isAgg3
  z3 := Tryz.sizeOf3
  v3 := Tryz.zeroValue3
  t4 := Tryz.underlying4
  a4 := Tryz.isAgg4
  z4 := Tryz.sizeOf4
  v4 := Tryz.zeroValue4
  t5 := Tryz.underlying5
  a5 := Tryz.isAgg5
  z5 := Tryz.sizeOf5
  v5 := Tryz.zeroValue5
  t9 := Tryz.underlying9
  a9 := Tryz.isAgg9
  z9 := Tryz.sizeOf9
  v9 := Tryz.zeroValue9
  t21 := Tryz.underlying21
  a21 := Tryz.isAgg21
  z21 := Tryz.sizeOf21
  v21 := Tryz.zeroValue21
  t37 := Tryz.underlying97
  a37 := Tryz.isAgg97
  z37 := Tryz.sizeOf97
  v37 := Tryz.zeroValue97
  t46 := Tryz.underlying139
  a46 := Tryz.isAgg139
  z46 := Tryz.sizeOf139
  v46 := Tryz.zeroValue139
  t53 := Tryz.underlying136
  a53 := Tryz.isAgg136
  z53 := Tryz.sizeOf136
  v53 := Tryz.zeroValue136
  t75 := Tryz.underlying85
  a75 := Tryz.isAgg85
  z75 := Tryz.sizeOf85
  v75 := Tryz.zeroValue85
  t167 := Tryz.underlying122
  a167 := Tryz.isAgg122
  z167 := Tryz.sizeOf122
  v167 := Tryz.zeroValue122 }
open Go.RowKit in
theorem Tryz.internal_strconv_ParseUint_10 (t : ByteArray) (hne : t.size ≠ 0) (hmax : t.size ≤ 9223372036854775806) (w : World) :
    Calls Tryz.prog 144 #[.string t, .int .i64 10, .int .i64 0] w fun e w' => e = .returned (Lib.uintTuple 122 (Lib.parseUint10 0 t.data.toList)) ∧ w' = Lib.bytesWorld w 5 t := Any.internal_strconv_ParseUint_10 Tryz.lays287 t hne hmax w
open Go.RowKit in
theorem Tryz.internal_strconv_ParseUint_10_any (t : ByteArray) (hmax : t.size ≤ 9223372036854775806) (w : World) :
    Calls Tryz.prog 144 #[.string t, .int .i64 10, .int .i64 0] w fun e w' => e = .returned (Lib.uintTuple 122 (Lib.parseMag t.data.toList)) ∧ (w' = w ∨ w' = Lib.bytesWorld w 5 t) := Any.internal_strconv_ParseUint_10_any Tryz.lays287 t hmax w
def Tryz.laysC247_ren : Go.Shelf.Ren := ⟨fun | 247 => 123 | 287 => 144 | 321 => 166 | 322 => 167 | n => n, fun | 9 => 9 | 3 => 3 | 2 => 2 | 75 => 85 | 4 => 4 | 167 => 122 | 5 => 5 | 53 => 136 | 175 => 137 | 46 => 139 | 37 => 97 | 0 => 0 | 21 => 21 | 80 => 101 | n => n, fun | n => n⟩
theorem Tryz.laysC247 : Go.Proofs.LaysC.n247 Tryz.prog Tryz.laysC247_ren := {
  mixed := by kernel_rfl
  f247 := Tryz.func123.trans (congrArg some (by kernel_rfl))
  f287 := Tryz.func144.trans (congrArg some (by kernel_rfl))
  f321 := Tryz.func166.trans (congrArg some (by kernel_rfl))
  f322 := Tryz.func167.trans (congrArg some (by kernel_rfl))
  t0 := Tryz.underlying0
  a0 := Tryz.isAgg0
  z0 := Tryz.sizeOf0
  v0 := Tryz.zeroValue0
  t2 := Tryz.underlying2
  a2 := Tryz.isAgg2
  z2 := Tryz.sizeOf2
  v2 := Tryz.zeroValue2
  t3 := Tryz.underlying3
  a3 := Tryz.isAgg3
  z3 := Tryz.sizeOf3
  v3 := Tryz.zeroValue3
  t4 := Tryz.underlying4
  a4 := Tryz.isAgg4
  z4 := Tryz.sizeOf4
  v4 := Tryz.zeroValue4
  t5 := Tryz.underlying5
  a5 := Tryz.isAgg5
  z5 := Tryz.sizeOf5
  v5 := Tryz.zeroValue5
  t9 := Tryz.underlying9
  a9 := Tryz.isAgg9
  z9 := Tryz.sizeOf9
  v9 := Tryz.zeroValue9
  t21 := Tryz.underlying21
  a21 := Tryz.isAgg21
  z21 := Tryz.sizeOf21
  v21 := Tryz.zeroValue21
  t37 := Tryz.underlying97
  a37 := Tryz.isAgg97
  z37 := Tryz.sizeOf97
  v37 := Tryz.zeroValue97
  t46 := Tryz.underlying139
  a46 := Tryz.isAgg139
  z46 := Tryz.sizeOf139
  v46 := Tryz.zeroValue139
  t53 := Tryz.underlying136
  a53 := Tryz.isAgg136
  z53 := Tryz.sizeOf136
  v53 := Tryz.zeroValue136
  t75 := Tryz.underlying85
  a75 := Tryz.isAgg85
  z75 := Tryz.sizeOf85
  v75 := Tryz.zeroValue85
  t167 := Tryz.underlying122
  a167 := Tryz.isAgg122
  z167 := Tryz.sizeOf122
  v167 := Tryz.zeroValue122
  t175 := Tryz.underlying137
  a175 := Tryz.isAgg137
  z175 := Tryz.sizeOf137
  v175 := Tryz.zeroValue137
  t80 := Tryz.underlying101
  a80 := Tryz.isAgg101
  z80 := Tryz.sizeOf101
  v80 := Tryz.zeroValue101
  i0 := by kernel_rfl
  i2 := by kernel_rfl
  i3 := by kernel_rfl
  i4 := by kernel_rfl
  i5 := by kernel_rfl
  i9 := by kernel_rfl
  i21 := by kernel_rfl
  i37 := by kernel_rfl
  i46 := by kernel_rfl
  i53 := by kernel_rfl
  i75 := by kernel_rfl
  i80 := by kernel_rfl
  i167 := by kernel_rfl
  i175 := by kernel_rfl
  c0 := by kernel_rfl
  c2 := by kernel_rfl
  c3 := by kernel_rfl
  c4 := by kernel_rfl
  c5 := by kernel_rfl
  c9 := by kernel_rfl
  c21 := by kernel_rfl
  c37 := by kernel_rfl
  c46 := by kernel_rfl
  c53 := by kernel_rfl
  c75 := by kernel_rfl
  c80 := by kernel_rfl
  c167 := by kernel_rfl
  c175 := by kernel_rfl }
open Go.RowKit in
theorem Tryz.internal_strconv_ParseInt_10 (s : ByteArray) (hne : s.size ≠ 0) (hmax : s.size ≤ 9223372036854775806) (w : World) :
    Calls Tryz.prog 123 #[.string s, .int .i64 10, .int .i64 0] w fun e w' => e = .returned (Lib.intTuple 122 (Lib.atoiSat s.data.toList) (Lib.atoiAll s.data.toList)) ∧ (w' = w ∨ ∃ t, w' = Lib.bytesWorld w 5 t) := Any.internal_strconv_ParseInt_10 Tryz.laysC247 s hne hmax w
def Tryz.laysC244_ren : Go.Shelf.Ren := ⟨fun | 244 => 105 | 247 => 123 | 287 => 144 | 321 => 166 | 322 => 167 | n => n, fun | 9 => 9 | 3 => 3 | 75 => 85 | 4 => 4 | 5 => 5 | 167 => 122 | 37 => 97 | 0 => 0 | 85 => 123 | 2 => 2 | 53 => 136 | 175 => 137 | 46 => 139 | 21 => 21 | 80 => 101 | n => n, fun | n => n⟩
theorem Tryz.laysC244 : Go.Proofs.LaysC.n244 Tryz.prog Tryz.laysC244_ren := {
  mixed := by kernel_rfl
  f244 := Tryz.func105.trans (congrArg some (by kernel_rfl))
  f247 := Tryz.func123.trans (congrArg some (by kernel_rfl))
  f287 := Tryz.func144.trans (congrArg some (by kernel_rfl))
  f321 := Tryz.func166.trans (congrArg some (by kernel_rfl))
  f322 := Tryz.func167.trans (congrArg some (by kernel_rfl))
  t0 := Tryz.underlying0
  a0 := Tryz.isAgg0
  z0 := Tryz.sizeOf0
  v0 := Tryz.zeroValue0
  t2 := Tryz.underlying2
  a2 := Tryz.isAgg2
  z2 := Tryz.sizeOf2
  v2 := Tryz.zeroValue2
  t3 := Tryz.underlying3
  a3 := Tryz.isAgg3
  z3 := Tryz.sizeOf3
  v3 := Tryz.zeroValue3
  t4 := Tryz.underlying4
  a4 := Tryz.isAgg4
  z4 := Tryz.sizeOf4
  v4 := Tryz.zeroValue4
  t5 := Tryz.underlying5
  a5 := Tryz.isAgg5
  z5 := Tryz.sizeOf5
  v5 := Tryz.zeroValue5
  t9 := Tryz.underlying9
  a9 := Tryz.isAgg9
  z9 := Tryz.sizeOf9
  v9 := Tryz.zeroValue9
  t21 := Tryz.underlying21
  a21 := Tryz.isAgg21
  z21 := Tryz.sizeOf21
  v21 := Tryz.zeroValue21
  t37 := Tryz.underlying97
  a37 := Tryz.isAgg97
  z37 := Tryz.sizeOf97
  v37 := Tryz.zeroValue97
  t46 := Tryz.underlying139
  a46 := Tryz.isAgg139
  z46 := Tryz.sizeOf139
  v46 := Tryz.zeroValue139
  t53 := Tryz.underlying136
  a53 := Tryz.isAgg136
  z53 := Tryz.sizeOf136
  v53 := Tryz.zeroValue136
  t75 := Tryz.underlying85
  a75 := Tryz.isAgg85
  z75 := Tryz.sizeOf85
  v75 := Tryz.zeroValue85
  t85 := Tryz.underlying123
  a85 := Tryz.isAgg123
  z85 := Tryz.sizeOf123
  v85 := Tryz.zeroValue123
  t167 := Tryz.underlying122
  a167 := Tryz.isAgg122
  z167 := Tryz.sizeOf122
  v167 := Tryz.zeroValue122
  t175 := Tryz.underlying137
  a175 := Tryz.isAgg137
  z175 := Tryz.sizeOf137
  v175 := Tryz.zeroValue137
  t80 := Tryz.underlying101
  a80 := Tryz.isAgg101
  z80 := Tryz.sizeOf101
  v80 := Tryz.zeroValue101
  i0 := by kernel_rfl
  i2 := by kernel_rfl
  i3 := by kernel_rfl
  i4 := by kernel_rfl
  i5 := by kernel_rfl
  i9 := by kernel_rfl
  i21 := by kernel_rfl
  i37 := by kernel_rfl
  i46 := by kernel_rfl
  i53 := by kernel_rfl
  i75 := by kernel_rfl
  i80 := by kernel_rfl
  i85 := by kernel_rfl
  i167 := by kernel_rfl
  i175 := by kernel_rfl
  c0 := by kernel_rfl
  c2 := by kernel_rfl
  c3 := by kernel_rfl
  c4 := by kernel_rfl
  c5 := by kernel_rfl
  c9 := by kernel_rfl
  c21 := by kernel_rfl
  c37 := by kernel_rfl
  c46 := by kernel_rfl
  c53 := by kernel_rfl
  c75 := by kernel_rfl
  c80 := by kernel_rfl
  c85 := by kernel_rfl
  c167 := by kernel_rfl
  c175 := by kernel_rfl }
open Go.RowKit in
theorem Tryz.internal_strconv_Atoi_long (s : ByteArray) (h19 : 19 ≤ s.size) (hmax : s.size ≤ 9223372036854775806) (w : World) :
    Calls Tryz.prog 105 #[.string s] w fun e w' => e = .returned (Lib.intTuple 122 (Lib.atoiSat s.data.toList) (Lib.atoiAll s.data.toList)) ∧ (w' = w ∨ ∃ t, w' = Lib.bytesWorld w 5 t) := Any.internal_strconv_Atoi_long Tryz.laysC244 s h19 hmax w
open Go.RowKit in
theorem Tryz.internal_strconv_Atoi_all (s : ByteArray) (hmax : s.size ≤ 9223372036854775806) (w : World) :
    Calls Tryz.prog 105 #[.string s] w fun e w' => e = .returned (Lib.intTuple 122 (Lib.atoiSat s.data.toList) (Lib.atoiAll s.data.toList)) ∧ (w' = w ∨ ∃ t, w' = Lib.bytesWorld w 5 t) := Any.internal_strconv_Atoi_all Tryz.laysC244 s hmax w
def Tryz.laysM280_ren : Go.Shelf.Ren := ⟨fun | 280 => 125 | 316 => 145 | n => n, fun | 9 => 9 | 168 => 125 | 75 => 85 | 210 => 141 | 3 => 3 | 4 => 4 | 37 => 97 | 0 => 0 | 127 => 119 | 80 => 101 | 5 => 5 | n => n, fun | 16 => 2 | n => n⟩
theorem Tryz.laysM280 : Go.Proofs.LaysM.n280 Tryz.prog Tryz.laysM280_ren := {
  mixed := by kernel_rfl
  f280 := Tryz.func125.trans (congrArg some (by kernel_rfl))
  f316 := Tryz.func145.trans (congrArg some (by kernel_rfl))
  t0 := Tryz.underlying0
  a0 := Tryz.isAgg0
  z0 := Tryz.sizeOf0
  v0 := Tryz.zeroValue0
  t3 := Tryz.underlying3
  a3 := Tryz.isAgg3
  z3 := Tryz.sizeOf3
  v3 := Tryz.zeroValue3
  t4 := Tryz.underlying4
  a4 := Tryz.isAgg4
  z4 := Tryz.sizeOf4
  v4 := Tryz.zeroValue4
  t9 := Tryz.underlying9
  a9 := Tryz.isAgg9
  z9 := Tryz.sizeOf9
  v9 := Tryz.zeroValue9
  t37 := Tryz.underlying97
  a37 := Tryz.isAgg97
  z37 := Tryz.sizeOf97
  v37 := Tryz.zeroValue97
  t75 := Tryz.underlying85
  a75 := Tryz.isAgg85
  z75 := Tryz.sizeOf85
  v75 := Tryz.zeroValue85
  t127 := Tryz.underlying119
  a127 := Tryz.isAgg119
  z127 := Tryz.sizeOf119
  v127 := Tryz.zeroValue119
  t168 := Tryz.underlying125
  a168 := Tryz.isAgg125
  z168 := Tryz.sizeOf125
  v168 := Tryz.zeroValue125
  t210 := Tryz.underlying141
  a210 := Tryz.isAgg141
  z210 := Tryz.sizeOf141
  v210 := Tryz.zeroValue141
  g16 := by kernel_rfl
  t5 := Tryz.underlying5
  a5 := Tryz.isAgg5
  z5 := Tryz.sizeOf5
  v5 := Tryz.zeroValue5
  t80 := Tryz.underlying101
  a80 := Tryz.isAgg101
  z80 := Tryz.sizeOf101
  v80 := Tryz.zeroValue101
  i0 := by kernel_rfl
  i3 := by kernel_rfl
  i4 := by kernel_rfl
  i5 := by kernel_rfl
  i9 := by kernel_rfl
  i37 := by kernel_rfl
  i75 := by kernel_rfl
  i80 := by kernel_rfl
  i127 := by kernel_rfl
  i168 := by kernel_rfl
  i210 := by kernel_rfl
  m16 := by kernel_rfl }
open Go.RowKit in
theorem Tryz.strconv_rangeError (fn s : ByteArray) (ev : Value) (w : World) (hlim : s.size ≤ 281474976710656) (hv : w.cell? ⟨2, 0, none⟩ = some ev) (hev : ev = .nilIface ∨ ∃ te pe, ev = .iface te pe) :
    Calls Tryz.prog 125 #[.string fn, .string s] w fun e w' => ∃ N, e = .returned (.pointer (some ⟨N, 0, none⟩)) ∧ w.heap.size ≤ N ∧ w'.heap[N]? = some (.cells #[.string fn, .string s, ev] 141 (0, 0)) ∧ Below w.heap.size w w' := Any.strconv_rangeError Tryz.laysM280 fn s ev w hlim hv hev
open Go.RowKit in
theorem Tryz.strconv_toError_range (fn s : ByteArray) (base bits : Int) (ev : Value) (w : World) (hlim : s.size ≤ 281474976710656) (hv : w.cell? ⟨2, 0, none⟩ = some ev) (hev : ev = .nilIface ∨ ∃ te pe, ev = .iface te pe) :
    Calls Tryz.prog 106 #[.string fn, .string s, .int .i64 base, .int .i64 bits, .iface 122 (.int .i64 1)] w fun e w' => ∃ N, e = .returned (.iface 125 (.pointer (some ⟨N, 0, none⟩))) ∧ w.heap.size ≤ N ∧ w'.heap[N]? = some (.cells #[.string fn, .string s, ev] 141 (0, 0)) ∧ Below w.heap.size w w' := Any.strconv_toError_range Tryz.laysC245 fn s base bits ev w hlim hv hev
def Tryz.laysC172_ren : Go.Shelf.Ren := ⟨fun | 172 => 61 | 244 => 105 | 245 => 106 | 247 => 123 | 279 => 124 | 280 => 125 | 281 => 126 | 282 => 127 | 287 => 144 | 316 => 145 | 171 => 64 | 205 => 146 | 321 => 166 | 322 => 167 | 243 => 108 | 246 => 130 | 283 => 148 | 284 => 149 | 285 => 150 | 286 => 151 | 129 => 169 | 317 => 168 | 318 => 170 | 319 => 171 | 320 => 172 | 337 => 179 | 338 => 180 | n => n, fun | 9 => 9 | 3 => 3 | 75 => 85 | 76 => 86 | 4 => 4 | 5 => 5 | 167 => 122 | 37 => 97 | 0 => 0 | 85 => 123 | 2 => 2 | 168 => 125 | 53 => 136 | 175 => 137 | 46 => 139 | 210 => 141 | 127 => 119 | 145 => 154 | 143 => 152 | 21 => 21 | 171 => 144 | 173 => 147 | 212 => 156 | 51 => 157 | 20 => 20 | 213 => 158 | 232 => 164 | 233 => 165 | 80 => 101 | n => n, fun | 15 => 1 | 16 => 2 | 17 => 3 | 18 => 4 | 19 => 5 | n => n⟩
theorem Tryz.laysC172 : Go.Proofs.LaysC.n172 Tryz.prog Tryz.laysC172_ren := {
  mixed := by kernel_rfl
  f129 := Tryz.func169.trans (congrArg some (by kernel_rfl))
  f171 := Tryz.func64.trans (congrArg some (by kernel_rfl))
  f172 := Tryz.func61.trans (congrArg some (by kernel_rfl))
  f205 := Tryz.func146.trans (congrArg some (by kernel_rfl))
  f243 := Tryz.func108.trans (congrArg some (by kernel_rfl))
  f244 := Tryz.func105.trans (congrArg some (by kernel_rfl))
  f245 := Tryz.func106.trans (congrArg some (by kernel_rfl))
  f246 := Tryz.func130.trans (congrArg some (by kernel_rfl))
  f247 := Tryz.func123.trans (congrArg some (by kernel_rfl))
  f279 := Tryz.func124.trans (congrArg some (by kernel_rfl))
  f280 := Tryz.func125.trans (congrArg some (by kernel_rfl))
  f281 := Tryz.func126.trans (congrArg some (by kernel_rfl))
  f282 := Tryz.func127.trans (congrArg some (by kernel_rfl))
  f283 := Tryz.func148.trans (congrArg some (by kernel_rfl))
  f284 := Tryz.func149.trans (congrArg some (by kernel_rfl))
  f285 := Tryz.func150.trans (congrArg some (by kernel_rfl))
  f286 := Tryz.func151.trans (congrArg some (by kernel_rfl))
  f287 := Tryz.func144.trans (congrArg some (by kernel_rfl))
  f316 := Tryz.func145.trans (congrArg some (by kernel_rfl))
  f317 := Tryz.func168.trans (congrArg some (by kernel_rfl))
  f318 := Tryz.func170.trans (congrArg some (by kernel_rfl))
  f319 := Tryz.func171.trans (congrArg some (by kernel_rfl))
  f320 := Tryz.func172.trans (congrArg some (by kernel_rfl))
  f321 := Tryz.func166.trans (congrArg some (by kernel_rfl))
  f322 := Tryz.func167.trans (congrArg some (by kernel_rfl))
  f337 := Tryz.func179.trans (congrArg some (by kernel_rfl))
  f338 := Tryz.func180.trans (congrArg some (by kernel_rfl))
  t0 := Tryz.underlying0
  a0 := Tryz.isAgg0
  z0 := Tryz.sizeOf0
  v0 := Tryz.zeroValue0
  t2 := Tryz.underlying2
  a2 := Tryz.isAgg2
  z2 := Tryz.sizeOf2
  v2 := Tryz.zeroValue2
  t3 := Tryz.underlying3
  a3 := Tryz.isAgg3
  z3 := Tryz.sizeOf3
  v3 := Tryz.zeroValue3
  t4 := Tryz.underlying4
  a4 := Tryz.isAgg4
  z4 := Tryz.sizeOf4
  v4 := Tryz.zeroValue4
  t5 := Tryz.underlying5
  a5 := Tryz.isAgg5
  z5 := Tryz.sizeOf5
  v5 := Tryz.zeroValue5
  t9 := Tryz.underlying9
  a9 := Tryz.isAgg9
  z9 := Tryz.sizeOf9
  v9 := Tryz.zeroValue9
  t20 := Tryz.underlying20
  a20 := Tryz.isAgg20
  z20 := Tryz.sizeOf20
  v20 := Tryz.zeroValue20
  t21 := Tryz.underlying21
  a21 := Tryz.isAgg21
  z21 := Tryz.sizeOf21
  v21 := Tryz.zeroValue21
  t37 := Tryz.underlying97
  a37 := Tryz.isAgg97
  z37 := Tryz.sizeOf97
  v37 := Tryz.zeroValue97
  t46 := Tryz.underlying139
  a46 := Tryz.isAgg139
  z46 := Tryz.sizeOf139
  v46 := Tryz.zeroValue139
  t51 := Tryz.underlying157
  a51 := Tryz.isAgg157
  z51 := Tryz.sizeOf157
  v51 := Tryz.zeroValue157
  t53 := Tryz.underlying136
  a53 := Tryz.isAgg136
  z53 := Tryz.sizeOf136
  v53 := Tryz.zeroValue136
  t75 := Tryz.underlying85
  a75 := Tryz.isAgg85
  z75 := Tryz.sizeOf85
  v75 := Tryz.zeroValue85
  t76 := Tryz.underlying86
  a76 := Tryz.isAgg86
  z76 := Tryz.sizeOf86
  v76 := Tryz.zeroValue86
  t85 := Tryz.underlying123
  a85 := Tryz.isAgg123
  z85 := Tryz.sizeOf123
  v85 := Tryz.zeroValue123
  t127 := Tryz.underlying119
  a127 := Tryz.isAgg119
  z127 := Tryz.sizeOf119
  v127 := Tryz.zeroValue119
  t143 := Tryz.underlying152
  a143 := Tryz.isAgg152
  z143 := Tryz.sizeOf152
  v143 := Tryz.zeroValue152
  t145 := Tryz.underlying154
  a145 := Tryz.isAgg154
  z145 := Tryz.sizeOf154
  v145 := Tryz.zeroValue154
  t167 := Tryz.underlying122
  a167 := Tryz.isAgg122
  z167 := Tryz.sizeOf122
  v167 := Tryz.zeroValue122
  t168 := Tryz.underlying125
  a168 := Tryz.isAgg125
  z168 := Tryz.sizeOf125
  v168 := Tryz.zeroValue125
  t171 := Tryz.underlying144
  a171 := Tryz.isAgg144
  z171 := Tryz.sizeOf144
  v171 := Tryz.zeroValue144
  t173 := Tryz.underlying147
  a173 := Tryz.isAgg147
  z173 := Tryz.sizeOf147
  v173 := Tryz.zeroValue147
  t175 := Tryz.underlying137
  a175 := Tryz.isAgg137
  z175 := Tryz.sizeOf137
  v175 := Tryz.zeroValue137
  t210 := Tryz.underlying141
  a210 := Tryz.isAgg141
  z210 := Tryz.sizeOf141
  v210 := Tryz.zeroValue141
  t212 := Tryz.underlying156
  a212 := Tryz.isAgg156
  z212 := Tryz.sizeOf156
  v212 := Tryz.zeroValue156
  t213 := Tryz.underlying158
  a213 := Tryz.isAgg158
  z213 := Tryz.sizeOf158
  t232 := Tryz.underlying164
  a232 := Tryz.isAgg164
  z232 := Tryz.sizeOf164
  v232 := Tryz.zeroValue164
  t233 := Tryz.underlying165
  a233 := Tryz.isAgg165
  z233 := Tryz.sizeOf165
  v233 := Tryz.zeroValue165
  g15 := by kernel_rfl
  g16 := by kernel_rfl
  g17 := by kernel_rfl
  g18 := by kernel_rfl
  g19 := by kernel_rfl
  t80 := Tryz.underlying101
  a80 := Tryz.isAgg101
  z80 := Tryz.sizeOf101
  v80 := Tryz.zeroValue101
  i0 := by kernel_rfl
  i2 := by kernel_rfl
  i3 := by kernel_rfl
  i4 := by kernel_rfl
  i5 := by kernel_rfl
  i9 := by kernel_rfl
  i20 := by kernel_rfl
  i21 := by kernel_rfl
  i37 := by kernel_rfl
  i46 := by kernel_rfl
  i51 := by kernel_rfl
  i53 := by kernel_rfl
  i75 := by kernel_rfl
  i76 := by kernel_rfl
  i80 := by kernel_rfl
  i85 := by kernel_rfl
  i127 := by kernel_rfl
  i143 := by kernel_rfl
  i145 := by kernel_rfl
  i167 := by kernel_rfl
  i168 := by kernel_rfl
  i171 := by kernel_rfl
  i173 := by kernel_rfl
  i175 := by kernel_rfl
  i210 := by kernel_rfl
  i212 := by kernel_rfl
  i232 := by kernel_rfl
  i233 := by kernel_rfl
  m15 := by kernel_rfl
  m16 := by kernel_rfl
  m17 := by kernel_rfl
  m18 := by kernel_rfl
  m19 := by kernel_rfl
  c0 := by kernel_rfl
  c2 := by kernel_rfl
  c3 := by kernel_rfl
  c4 := by kernel_rfl
  c5 := by kernel_rfl
  c9 := by kernel_rfl
  c20 := by kernel_rfl
  c21 := by kernel_rfl
  c37 := by kernel_rfl
  c46 := by kernel_rfl
  c51 := by kernel_rfl
  c53 := by kernel_rfl
  c75 := by kernel_rfl
  c76 := by kernel_rfl
  c80 := by kernel_rfl
  c85 := by kernel_rfl
  c127 := by kernel_rfl
  c143 := by kernel_rfl
  c145 := by kernel_rfl
  c167 := by kernel_rfl
  c168 := by kernel_rfl
  c171 := by kernel_rfl
  c173 := by kernel_rfl
  c175 := by kernel_rfl
  c210 := by kernel_rfl
  c212 := by kernel_rfl
  c213 := by kernel_rfl
  c232 := by kernel_rfl
  c233 := by kernel_rfl }
open Go.RowKit in
theorem Tryz.strconv_Atoi_ok (s : ByteArray) (hmax : s.size ≤ 9223372036854775806) (v : Int) (h : Lib.atoiAll s.data.toList = .ok v) (w : World) :
    Calls Tryz.prog 61 #[.string s] w fun e w' => e = .returned (.tuple #[.int .i64 v, .nilIface]) ∧ (w' = w ∨ ∃ t, w' = Lib.bytesWorld w 5 t) := Any.strconv_Atoi_ok Tryz.laysC172 s hmax v h w
open Go.RowKit in
theorem Tryz.strconv_Atoi_syntax (s : ByteArray) (hlim : s.size ≤ 281474976710656) (h : (∀ v, Lib.atoiAll s.data.toList ≠ .ok v) ∧ Lib.atoiAll s.data.toList ≠ .range) (ev : Value) (w : World) (hv : w.cell? ⟨1, 0, none⟩ = some ev) (hev : ev = .nilIface ∨ ∃ te pe, ev = .iface te pe) :
    Calls Tryz.prog 61 #[.string s] w fun e w' => ∃ N, e = .returned (.tuple #[.int .i64 (0), .iface 125 (.pointer (some ⟨N, 0, none⟩))]) ∧ w.heap.size ≤ N ∧ w'.heap[N]? = some (.cells #[.string ⟨#[65, 116, 111, 105]⟩, .string s, ev] 141 (0, 0)) ∧ Below w.heap.size w w' := Any.strconv_Atoi_syntax Tryz.laysC172 s hlim (by cases hx : Lib.atoiAll s.data.toList <;> simp_all) ev w hv hev
open Go.RowKit in
theorem Tryz.strconv_Atoi_range (s : ByteArray) (hlim : s.size ≤ 281474976710656) (h : Lib.atoiAll s.data.toList = .range) (ev : Value) (w : World) (hv : w.cell? ⟨2, 0, none⟩ = some ev) (hev : ev = .nilIface ∨ ∃ te pe, ev = .iface te pe) :
    Calls Tryz.prog 61 #[.string s] w fun e w' => ∃ N, e = .returned (.tuple #[.int .i64 (Lib.atoiSat s.data.toList), .iface 125 (.pointer (some ⟨N, 0, none⟩))]) ∧ w.heap.size ≤ N ∧ w'.heap[N]? = some (.cells #[.string ⟨#[65, 116, 111, 105]⟩, .string s, ev] 141 (0, 0)) ∧ Below w.heap.size w w' := Any.strconv_Atoi_range Tryz.laysC172 s hlim h ev w hv hev
def Tryz.lays217_ren : Go.Shelf.Ren := ⟨fun | 217 => 60 | 266 => 104 | n => n, fun | 9 => 9 | 5 => 5 | 3 => 3 | n => n, fun | n => n⟩
theorem Tryz.lays217 : Go.Proofs.Lays.n217 Tryz.prog Tryz.lays217_ren := {
  mixed := by kernel_rfl
  f217 := Tryz.func60.trans (congrArg some (by kernel_rfl))
  f266 := Tryz.func104.trans (congrArg some (by kernel_rfl))
  t3 := Tryz.underlying3
  a3 := Tryz.isAgg3
  z3 := Tryz.sizeOf3
  v3 := Tryz.zeroValue3
  t5 := Tryz.underlying5
  a5 := Tryz.isAgg5
  z5 := Tryz.sizeOf5
  v5 := Tryz.zeroValue5
  t9 := Tryz.underlying9
  a9 := Tryz.isAgg9
  z9 := Tryz.sizeOf9
  v9 := Tryz.zeroValue9 }
open Go.RowKit Go.Lib in
theorem Tryz.stringslite_IndexByte (s : ByteArray) (c : Int) (w : World) :
    Calls Tryz.prog 60 #[.string s, .int .u8 c] w fun e w' => e = .returned (.int .i64 (Lib.indexByte s.data.toList c.toNat.toUInt8)) ∧ w' = w := Any.stringslite_IndexByte Tryz.lays217 s c w
def Tryz.lays224_ren : Go.Shelf.Ren := ⟨fun | 224 => 153 | n => n, fun | 3 => 3 | n => n, fun | n => n⟩
theorem Tryz.lays224 : Go.Proofs.Lays.n224 Tryz.prog Tryz.lays224_ren := {
  mixed := by kernel_rfl
  f224 := Tryz.func153.trans (congrArg some (by kernel_rfl))
  t3 := Tryz.underlying3
  a3 := Tryz.isAgg3
  z3 := Tryz.sizeOf3
  v3 := Tryz.zeroValue3 }
open Go.RowKit Go.Lib in
theorem Tryz.bytealg_Cutover (n : Int) (h0 : 0 ≤ n) (h1 : n < 4611686018427387904) (w : World) :
    Calls Tryz.prog 153 #[.int .i64 n] w fun e w' => e = .returned (.int .i64 ((n + 16) / 8)) ∧ w' = w := Any.bytealg_Cutover Tryz.lays224 n h0 h1 w
def Tryz.lays314_ren : Go.Shelf.Ren := ⟨fun | 314 => 173 | n => n, fun | 9 => 9 | 51 => 157 | 3 => 3 | 4 => 4 | 5 => 5 | 46 => 139 | n => n, fun | n => n⟩
theorem Tryz.lays314 : Go.Proofs.Lays.n314 Tryz.prog Tryz.lays314_ren := {
  mixed := by kernel_rfl
  f314 := Tryz.func173.trans (congrArg some (by kernel_rfl))
  t3 := Tryz.underlying3
  a3 := Tryz.isAgg3
  z3 := Tryz.sizeOf3
  v3 := Tryz.zeroValue3
  t4 := Tryz.underlying4
  a4 := Tryz.isAgg4
  z4 := Tryz.sizeOf4
  v4 := Tryz.zeroValue4
  t5 := Tryz.underlying5
  a5 := Tryz.isAgg5
  z5 := Tryz.sizeOf5
  v5 := Tryz.zeroValue5
  t9 := Tryz.underlying9
  a9 := Tryz.isAgg9
  z9 := Tryz.sizeOf9
  v9 := Tryz.zeroValue9
  t46 := Tryz.underlying139
  a46 := Tryz.isAgg139
  z46 := Tryz.sizeOf139
  v46 := Tryz.zeroValue139
  t51 := Tryz.underlying157
  a51 := Tryz.isAgg157
  z51 := Tryz.sizeOf157
  v51 := Tryz.zeroValue157 }
open Go.RowKit Go.Lib in
theorem Tryz.bytealg_hashStr (sep : ByteArray) (hs : sep.size < 4294967281) (w : World) :
    Calls Tryz.prog 173 #[.string sep] w fun e w' => e = .returned (.tuple #[.int .u32 (RK.H sep.data.toList % 4294967296), .int .u32 (16777619 ^ sep.size % 4294967296)]) ∧ w' = w := Any.bytealg_hashStr Tryz.lays314 sep hs w
def Tryz.lays267_ren : Go.Shelf.Ren := ⟨fun | 267 => 154 | 314 => 173 | n => n, fun | 9 => 9 | 3 => 3 | 146 => 160 | 51 => 157 | 4 => 4 | 5 => 5 | 46 => 139 | n => n, fun | n => n⟩
theorem Tryz.lays267 : Go.Proofs.Lays.n267 Tryz.prog Tryz.lays267_ren := {
  mixed := by kernel_rfl
  f267 := Tryz.func154.trans (congrArg some (by kernel_rfl))
  f314 := Tryz.func173.trans (congrArg some (by kernel_rfl))
  t3 := Tryz.underlying3
  a3 := Tryz.isAgg3
  z3 := Tryz.sizeOf3
  v3 := Tryz.zeroValue3
  t4 := Tryz.underlying4
  a4 := Tryz.isAgg4
  z4 := Tryz.sizeOf4
  v4 := Tryz.zeroValue4
  t5 := Tryz.underlying5
  a5 := Tryz.isAgg5
  z5 := Tryz.sizeOf5
  v5 := Tryz.zeroValue5
  t9 := Tryz.underlying9
  a9 := Tryz.isAgg9
  z9 := Tryz.sizeOf9
  v9 := Tryz.zeroValue9
  t46 := Tryz.underlying139
  a46 := Tryz.isAgg139
  z46 := Tryz.sizeOf139
  v46 := Tryz.zeroValue139
  t51 := Tryz.underlying157
  a51 := Tryz.isAgg157
  z51 := Tryz.sizeOf157
  v51 := Tryz.zeroValue157
  t146 := Tryz.underlying160
  a146 := Tryz.isAgg160
  z146 := Tryz.sizeOf160
  v146 := Tryz.zeroValue160 }
open Go.RowKit Go.Lib in
theorem Tryz.bytealg_IndexRabinKarp (s sep : ByteArray) (h1 : 1 ≤ sep.size) (h2 : sep.size ≤ s.size) (hs : s.size < 4294967281) (w : World) :
    Calls Tryz.prog 154 #[.string s, .string sep] w fun e w' => e = .returned (.int .i64 (Lib.index s.data.toList sep.data.toList)) ∧ w' = w := Any.bytealg_IndexRabinKarp Tryz.lays267 s sep h1 h2 hs w
def Tryz.lays219_ren : Go.Shelf.Ren := ⟨fun | 219 => 131 | 217 => 60 | 225 => 152 | 224 => 153 | 267 => 154 | 266 => 104 | 314 => 173 | n => n, fun | 9 => 9 | 3 => 3 | 4 => 4 | 5 => 5 | 46 => 139 | 146 => 160 | 51 => 157 | n => n, fun | 1 => 0 | n => n⟩
theorem Tryz.lays219 : Go.Proofs.Lays.n219 Tryz.prog Tryz.lays219_ren := {
  mixed := by kernel_rfl
  f217 := Tryz.func60.trans (congrArg some (by kernel_rfl))
  f219 := Tryz.func131.trans (congrArg some (by kernel_rfl))
  f224 := Tryz.func153.trans (congrArg some (by kernel_rfl))
  f225 := Tryz.func152.trans (congrArg some (by kernel_rfl))
  f266 := Tryz.func104.trans (congrArg some (by kernel_rfl))
  f267 := Tryz.func154.trans (congrArg some (by kernel_rfl))
  f314 := Tryz.func173.trans (congrArg some (by kernel_rfl))
  t3 := Tryz.underlying3
  a3 := Tryz.isAgg3
  z3 := Tryz.sizeOf3
  v3 := Tryz.zeroValue3
  t4 := Tryz.underlying4
  a4 := Tryz.isAgg4
  z4 := Tryz.sizeOf4
  v4 := Tryz.zeroValue4
  t5 := Tryz.underlying5
  a5 := Tryz.isAgg5
  z5 := Tryz.sizeOf5
  v5 := Tryz.zeroValue5
  t9 := Tryz.underlying9
  a9 := Tryz.isAgg9
  z9 := Tryz.sizeOf9
  v9 := Tryz.zeroValue9
  t46 := Tryz.underlying139
  a46 := Tryz.isAgg139
  z46 := Tryz.sizeOf139
  v46 := Tryz.zeroValue139
  t51 := Tryz.underlying157
  a51 := Tryz.isAgg157
  z51 := Tryz.sizeOf157
  v51 := Tryz.zeroValue157
  t146 := Tryz.underlying160
  a146 := Tryz.isAgg160
  z146 := Tryz.sizeOf160
  v146 := Tryz.zeroValue160
  g1 := by kernel_rfl }
open Go.RowKit Go.Lib in
theorem Tryz.stringslite_Index_one (s : ByteArray) (c : UInt8) (w : World) :
    Calls Tryz.prog 131 #[.string s, .string ⟨#[c]⟩] w fun e w' => e = .returned (.int .i64 (Lib.indexByte s.data.toList c)) ∧ w' = w := Any.stringslite_Index_one Tryz.lays219 s c w
open Go.RowKit Go.Lib in
theorem Tryz.stringslite_Index (s sub : ByteArray) (m : Int) (w : World) (hs : s.size < 4294967281) (hm : w.cell? ⟨0, 0, none⟩ = some (.int .i64 m)) :
    Calls Tryz.prog 131 #[.string s, .string sub] w fun e w' => e = .returned (.int .i64 (Lib.index s.data.toList sub.data.toList)) ∧ w' = w := Any.stringslite_Index Tryz.lays219 s sub m w hs hm
def Tryz.lays143_ren : Go.Shelf.Ren := ⟨fun | 143 => 109 | 219 => 131 | 217 => 60 | 225 => 152 | 224 => 153 | 267 => 154 | 266 => 104 | 314 => 173 | n => n, fun | 9 => 9 | 3 => 3 | 4 => 4 | 5 => 5 | 46 => 139 | 146 => 160 | 51 => 157 | n => n, fun | 1 => 0 | n => n⟩
theorem Tryz.lays143 : Go.Proofs.Lays.n143 Tryz.prog Tryz.lays143_ren := {
  mixed := by kernel_rfl
  f143 := Tryz.func109.trans (congrArg some (by kernel_rfl))
  f217 := Tryz.func60.trans (congrArg some (by kernel_rfl))
  f219 := Tryz.func131.trans (congrArg some (by kernel_rfl))
  f224 := Tryz.func153.trans (congrArg some (by kernel_rfl))
  f225 := Tryz.func152.trans (congrArg some (by kernel_rfl))
  f266 := Tryz.func104.trans (congrArg some (by kernel_rfl))
  f267 := Tryz.func154.trans (congrArg some (by kernel_rfl))
  f314 := Tryz.func173.trans (congrArg some (by kernel_rfl))
  t3 := Tryz.underlying3
  a3 := Tryz.isAgg3
  z3 := Tryz.sizeOf3
  v3 := Tryz.zeroValue3
  t4 := Tryz.underlying4
  a4 := Tryz.isAgg4
  z4 := Tryz.sizeOf4
  v4 := Tryz.zeroValue4
  t5 := Tryz.underlying5
  a5 := Tryz.isAgg5
  z5 := Tryz.sizeOf5
  v5 := Tryz.zeroValue5
  t9 := Tryz.underlying9
  a9 := Tryz.isAgg9
  z9 := Tryz.sizeOf9
  v9 := Tryz.zeroValue9
  t46 := Tryz.underlying139
  a46 := Tryz.isAgg139
  z46 := Tryz.sizeOf139
  v46 := Tryz.zeroValue139
  t51 := Tryz.underlying157
  a51 := Tryz.isAgg157
  z51 := Tryz.sizeOf157
  v51 := Tryz.zeroValue157
  t146 := Tryz.underlying160
  a146 := Tryz.isAgg160
  z146 := Tryz.sizeOf160
  v146 := Tryz.zeroValue160
  g1 := by kernel_rfl }
open Go.RowKit Go.Lib in
theorem Tryz.strings_Index_one (s : ByteArray) (c : UInt8) (w : World) :
    Calls Tryz.prog 109 #[.string s, .string ⟨#[c]⟩] w fun e w' => e = .returned (.int .i64 (Lib.indexByte s.data.toList c)) ∧ w' = w := Any.strings_Index_one Tryz.lays143 s c w
open Go.RowKit Go.Lib in
theorem Tryz.strings_Index (s sub : ByteArray) (m : Int) (w : World) (hs : s.size < 4294967281) (hm : w.cell? ⟨0, 0, none⟩ = some (.int .i64 m)) :
    Calls Tryz.prog 109 #[.string s, .string sub] w fun e w' => e = .returned (.int .i64 (Lib.index s.data.toList sub.data.toList)) ∧ w' = w := Any.strings_Index Tryz.lays143 s sub m w hs hm
def Tryz.lays144_ren : Go.Shelf.Ren := ⟨fun | 144 => 65 | 143 => 109 | 219 => 131 | 217 => 60 | 225 => 152 | 224 => 153 | 267 => 154 | 266 => 104 | 314 => 173 | n => n, fun | 9 => 9 | 4 => 4 | 3 => 3 | 5 => 5 | 46 => 139 | 146 => 160 | 51 => 157 | n => n, fun | 1 => 0 | n => n⟩
theorem Tryz.lays144 : Go.Proofs.Lays.n144 Tryz.prog Tryz.lays144_ren := {
  mixed := by kernel_rfl
  f143 := Tryz.func109.trans (congrArg some (by kernel_rfl))
  f144 := Tryz.func65.trans (congrArg some (by kernel_rfl))
  f217 := Tryz.func60.trans (congrArg some (by kernel_rfl))
  f219 := Tryz.func131.trans (congrArg some (by kernel_rfl))
  f224 := Tryz.func153.trans (congrArg some (by kernel_rfl))
  f225 := Tryz.func152.trans (congrArg some (by kernel_rfl))
  f266 := Tryz.func104.trans (congrArg some (by kernel_rfl))
  f267 := Tryz.func154.trans (congrArg some (by kernel_rfl))
  f314 := Tryz.func173.trans (congrArg some (by kernel_rfl))
  t3 := Tryz.underlying3
  a3 := Tryz.isAgg3
  z3 := Tryz.sizeOf3
  v3 := Tryz.zeroValue3
  t4 := Tryz.underlying4
  a4 := Tryz.isAgg4
  z4 := Tryz.sizeOf4
  v4 := Tryz.zeroValue4
  t5 := Tryz.underlying5
  a5 := Tryz.isAgg5
  z5 := Tryz.sizeOf5
  v5 := Tryz.zeroValue5
  t9 := Tryz.underlying9
  a9 := Tryz.isAgg9
  z9 := Tryz.sizeOf9
  v9 := Tryz.zeroValue9
  t46 := Tryz.underlying139
  a46 := Tryz.isAgg139
  z46 := Tryz.sizeOf139
  v46 := Tryz.zeroValue139
  t51 := Tryz.underlying157
  a51 := Tryz.isAgg157
  z51 := Tryz.sizeOf157
  v51 := Tryz.zeroValue157
  t146 := Tryz.underlying160
  a146 := Tryz.isAgg160
  z146 := Tryz.sizeOf160
  v146 := Tryz.zeroValue160
  g1 := by kernel_rfl }
open Go.RowKit Go.Lib in
theorem Tryz.strings_Contains_one (s : ByteArray) (c : UInt8) (w : World) :
    Calls Tryz.prog 65 #[.string s, .string ⟨#[c]⟩] w fun e w' => e = .returned (.bool (decide (0 ≤ Lib.indexByte s.data.toList c))) ∧ w' = w := Any.strings_Contains_one Tryz.lays144 s c w
open Go.RowKit Go.Lib in
theorem Tryz.strings_Contains (s sub : ByteArray) (m : Int) (w : World) (hs : s.size < 4294967281) (hm : w.cell? ⟨0, 0, none⟩ = some (.int .i64 m)) :
    Calls Tryz.prog 65 #[.string s, .string sub] w fun e w' => e = .returned (.bool (Lib.contains s.data.toList sub.data.toList)) ∧ w' = w := Any.strings_Contains Tryz.lays144 s sub m w hs hm
def Tryz.laysM219_ren : Go.Shelf.Ren := ⟨fun | 219 => 131 | 217 => 60 | 225 => 152 | 224 => 153 | 267 => 154 | 266 => 104 | 314 => 173 | n => n, fun | 9 => 9 | 3 => 3 | 4 => 4 | 5 => 5 | 46 => 139 | 146 => 160 | 51 => 157 | n => n, fun | 1 => 0 | n => n⟩
theorem Tryz.laysM219 : Go.Proofs.LaysM.n219 Tryz.prog Tryz.laysM219_ren := {
  mixed := by kernel_rfl
  f217 := Tryz.func60.trans (congrArg some (by kernel_rfl))
  f219 := Tryz.func131.trans (congrArg some (by kernel_rfl))
  f224 := Tryz.func153.trans (congrArg some (by kernel_rfl))
  f225 := Tryz.func152.trans (congrArg some (by kernel_rfl))
  f266 := Tryz.func104.trans (congrArg some (by kernel_rfl))
  f267 := Tryz.func154.trans (congrArg some (by kernel_rfl))
  f314 := Tryz.func173.trans (congrArg some (by kernel_rfl))
  t3 := Tryz.underlying3
  a3 := Tryz.isAgg3
  z3 := Tryz.sizeOf3
  v3 := Tryz.zeroValue3
  t4 := Tryz.underlying4
  a4 := Tryz.isAgg4
  z4 := Tryz.sizeOf4
  v4 := Tryz.zeroValue4
  t5 := Tryz.underlying5
  a5 := Tryz.isAgg5
  z5 := Tryz.sizeOf5
  v5 := Tryz.zeroValue5
  t9 := Tryz.underlying9
  a9 := Tryz.isAgg9
  z9 := Tryz.sizeOf9
  v9 := Tryz.zeroValue9
  t46 := Tryz.underlying139
  a46 := Tryz.isAgg139
  z46 := Tryz.sizeOf139
  v46 := Tryz.zeroValue139
  t51 := Tryz.underlying157
  a51 := Tryz.isAgg157
  z51 := Tryz.sizeOf157
  v51 := Tryz.zeroValue157
  t146 := Tryz.underlying160
  a146 := Tryz.isAgg160
  z146 := Tryz.sizeOf160
  v146 := Tryz.zeroValue160
  g1 := by kernel_rfl
  i3 := by kernel_rfl
  i4 := by kernel_rfl
  i5 := by kernel_rfl
  i9 := by kernel_rfl
  i46 := by kernel_rfl
  i51 := by kernel_rfl
  i146 := by kernel_rfl
  m1 := by kernel_rfl
  s1_3 := fun w h => Go.Proofs.cell_of_shapedOpen_int (zero := #[.int .i64 0]) (t := 3) h (of_decide_eq_true (by kernel_rfl)) (by kernel_rfl) rfl (by kernel_rfl) (by kernel_rfl) Tryz.underlying3 }
open Go.RowKit Go.Lib in
theorem Tryz.stringslite_Index_shaped (s sub : ByteArray) (w : World) (h : w.ShapedOpen Tryz.prog) (hs : s.size < 4294967281) :
    Calls Tryz.prog 131 #[.string s, .string sub] w fun e w' => e = .returned (.int .i64 (Lib.index s.data.toList sub.data.toList)) ∧ w' = w := Any.stringslite_Index_shaped Tryz.laysM219 s sub w h hs
def Tryz.laysM143_ren : Go.Shelf.Ren := ⟨fun | 143 => 109 | 219 => 131 | 217 => 60 | 225 => 152 | 224 => 153 | 267 => 154 | 266 => 104 | 314 => 173 | n => n, fun | 9 => 9 | 3 => 3 | 4 => 4 | 5 => 5 | 46 => 139 | 146 => 160 | 51 => 157 | n => n, fun | 1 => 0 | n => n⟩
theorem Tryz.laysM143 : Go.Proofs.LaysM.n143 Tryz.prog Tryz.laysM143_ren := {
  mixed := by kernel_rfl
  f143 := Tryz.func109.trans (congrArg some (by kernel_rfl))
  f217 := Tryz.func60.trans (congrArg some (by kernel_rfl))
  f219 := Tryz.func131.trans (congrArg some (by kernel_rfl))
  f224 := Tryz.func153.trans (congrArg some (by kernel_rfl))
  f225 := Tryz.func152.trans (congrArg some (by kernel_rfl))
  f266 := Tryz.func104.trans (congrArg some (by kernel_rfl))
  f267 := Tryz.func154.trans (congrArg some (by kernel_rfl))
  f314 := Tryz.func173.trans (congrArg some (by kernel_rfl))
  t3 := Tryz.underlying3
  a3 := Tryz.isAgg3
  z3 := Tryz.sizeOf3
  v3 := Tryz.zeroValue3
  t4 := Tryz.underlying4
  a4 := Tryz.isAgg4
  z4 := Tryz.sizeOf4
  v4 := Tryz.zeroValue4
  t5 := Tryz.underlying5
  a5 := Tryz.isAgg5
  z5 := Tryz.sizeOf5
  v5 := Tryz.zeroValue5
  t9 := Tryz.underlying9
  a9 := Tryz.isAgg9
  z9 := Tryz.sizeOf9
  v9 := Tryz.zeroValue9
  t46 := Tryz.underlying139
  a46 := Tryz.isAgg139
  z46 := Tryz.sizeOf139
  v46 := Tryz.zeroValue139
  t51 := Tryz.underlying157
  a51 := Tryz.isAgg157
  z51 := Tryz.sizeOf157
  v51 := Tryz.zeroValue157
  t146 := Tryz.underlying160
  a146 := Tryz.isAgg160
  z146 := Tryz.sizeOf160
  v146 := Tryz.zeroValue160
  g1 := by kernel_rfl
  i3 := by kernel_rfl
  i4 := by kernel_rfl
  i5 := by kernel_rfl
  i9 := by kernel_rfl
  i46 := by kernel_rfl
  i51 := by kernel_rfl
  i146 := by kernel_rfl
  m1 := by kernel_rfl
  s1_3 := fun w h => Go.Proofs.cell_of_shapedOpen_int (zero := #[.int .i64 0]) (t := 3) h (of_decide_eq_true (by kernel_rfl)) (by kernel_rfl) rfl (by kernel_rfl) (by kernel_rfl) Tryz.underlying3 }
open Go.RowKit Go.Lib in
theorem Tryz.strings_Index_shaped (s sub : ByteArray) (w : World) (h : w.ShapedOpen Tryz.prog) (hs : s.size < 4294967281) :
    Calls Tryz.prog 109 #[.string s, .string sub] w fun e w' => e = .returned (.int .i64 (Lib.index s.data.toList sub.data.toList)) ∧ w' = w := Any.strings_Index_shaped Tryz.laysM143 s sub w h hs
def Tryz.laysM144_ren : Go.Shelf.Ren := ⟨fun | 144 => 65 | 143 => 109 | 219 => 131 | 217 => 60 | 225 => 152 | 224 => 153 | 267 => 154 | 266 => 104 | 314 => 173 | n => n, fun | 9 => 9 | 4 => 4 | 3 => 3 | 5 => 5 | 46 => 139 | 146 => 160 | 51 => 157 | n => n, fun | 1 => 0 | n => n⟩
theorem Tryz.laysM144 : Go.Proofs.LaysM.n144 Tryz.prog Tryz.laysM144_ren := {
  mixed := by kernel_rfl
  f143 := Tryz.func109.trans (congrArg some (by kernel_rfl))
  f144 := Tryz.func65.trans (congrArg some (by kernel_rfl))
  f217 := Tryz.func60.trans (congrArg some (by kernel_rfl))
  f219 := Tryz.func131.trans (congrArg some (by kernel_rfl))
  f224 := Tryz.func153.trans (congrArg some (by kernel_rfl))
  f225 := Tryz.func152.trans (congrArg some (by kernel_rfl))
  f266 := Tryz.func104.trans (congrArg some (by kernel_rfl))
  f267 := Tryz.func154.trans (congrArg some (by kernel_rfl))
  f314 := Tryz.func173.trans (congrArg some (by kernel_rfl))
  t3 := Tryz.underlying3
  a3 := Tryz.isAgg3
  z3 := Tryz.sizeOf3
  v3 := Tryz.zeroValue3
  t4 := Tryz.underlying4
  a4 := Tryz.isAgg4
  z4 := Tryz.sizeOf4
  v4 := Tryz.zeroValue4
  t5 := Tryz.underlying5
  a5 := Tryz.isAgg5
  z5 := Tryz.sizeOf5
  v5 := Tryz.zeroValue5
  t9 := Tryz.underlying9
  a9 := Tryz.isAgg9
  z9 := Tryz.sizeOf9
  v9 := Tryz.zeroValue9
  t46 := Tryz.underlying139
  a46 := Tryz.isAgg139
  z46 := Tryz.sizeOf139
  v46 := Tryz.zeroValue139
  t51 := Tryz.underlying157
  a51 := Tryz.isAgg157
  z51 := Tryz.sizeOf157
  v51 := Tryz.zeroValue157
  t146 := Tryz.underlying160
  a146 := Tryz.isAgg160
  z146 := Tryz.sizeOf160
  v146 := Tryz.zeroValue160
  g1 := by kernel_rfl
  i3 := by kernel_rfl
  i4 := by kernel_rfl
  i5 := by kernel_rfl
  i9 := by kernel_rfl
  i46 := by kernel_rfl
  i51 := by kernel_rfl
  i146 := by kernel_rfl
  m1 := by kernel_rfl
  s1_3 := fun w h => Go.Proofs.cell_of_shapedOpen_int (zero := #[.int .i64 0]) (t := 3) h (of_decide_eq_true (by kernel_rfl)) (by kernel_rfl) rfl (by kernel_rfl) (by kernel_rfl) Tryz.underlying3 }
open Go.RowKit Go.Lib in
theorem Tryz.strings_Contains_shaped (s sub : ByteArray) (w : World) (h : w.ShapedOpen Tryz.prog) (hs : s.size < 4294967281) :
    Calls Tryz.prog 65 #[.string s, .string sub] w fun e w' => e = .returned (.bool (Lib.contains s.data.toList sub.data.toList)) ∧ w' = w := Any.strings_Contains_shaped Tryz.laysM144 s sub w h hs
end Go.Proofs

namespace Go.Proofs.YtbcngegcpdppfaaGreatDoor
open Go.AE Go.RowKit
set_option maxRecDepth 100000

theorem w64 {n : Int} (h : -9223372036854775808 ≤ n ∧ n ≤ 9223372036854775807) : IntKind.i64.wrap n = n := by rw [IntKind.wrap_i64]; omega

/-! ### contracts laid over functions -/
abbrev AC := List AV → List ABlk → (AO → List ABlk → Prop) → Prop
def gput (f : FuncId) (c : AC) (G : AG) : AG := fun g => match Nat.beq g f with
  | true => some c
  | false => G g
def g0 : AG := fun _ => none
def COk (f : FuncId) (c : AC) : Prop := ∀ args K k, c args K k → ACalls Tryz.prog f args K k
theorem g0_ok : GOk Tryz.prog g0 := fun f g h => by simp [g0] at h
theorem gput_ok {f : FuncId} {c : AC} {G : AG} (hc : COk f c) (hG : GOk Tryz.prog G) : GOk Tryz.prog (gput f c G) := fun h g hg => by
  unfold gput at hg
  split at hg
  · rename_i e
    have := Nat.eq_of_beq_eq_true e
    subst this
    injection hg with hg
    subst hg
    exact hc
  · exact hG h g hg

theorem call_ok {G : AG} (hG : GOk Tryz.prog G) (n : Nat) (f : FuncId) (args : List AV) (K : List ABlk) (k : AO → List ABlk → Prop) (h : acall1 T0 G n f args K k) : ACalls Tryz.prog f args K k :=
  acall1_ok tabOk (Checked.mixed Tryz.checked) hG n f args K k h

/-- a contract in the kit's words, which turns nothing that was there -/
theorem ACalls.lib {f : FuncId} {args : List AV} {K : List ABlk} {k : AO → List ABlk → Prop} (he : Ent Tryz.prog f)
    (h : ∀ w m Args, St w m (hp K) → VL w m args Args → Calls Tryz.prog f Args w fun e w' => ∃ v u, e = .returned u ∧ Below w.heap.size w w' ∧ V w' m v u ∧ k (.ret v) K) : ACalls Tryz.prog f args K k :=
  ⟨he, fun w m Args hS hV => (h w m Args hS hV).mono fun e w' ⟨v, u, h1, h2, h3, h4⟩ => by
    subst h1
    exact ⟨m, v, K, Tr.below hS.Ilt h2, hS.below h2, h3, h4⟩⟩
theorem ent {f : FuncId} {fn : Func} (h : Tf.get f = some fn) (hb : fn.body.isSome = true) : Ent Tryz.prog f := by
  obtain ⟨h1, h2⟩ := tabOk.f f fn h
  exact ⟨fn, h1, h2, hb⟩

theorem vl1 {w : World} {m : Mp} {a : AV} {A : Array Value} (h : VL w m [a] A) : ∃ u, A = #[u] ∧ V w m a u := by
  obtain ⟨h1, h2⟩ := h
  have hs : A.size = 1 := h1.symm
  refine ⟨A[0], ?_, h2 0 (by simp) (by omega)⟩
  apply Array.ext
  · simp [hs]
  · intro i hi hi'
    have : i = 0 := by simp at hi'; omega
    subst this; rfl
theorem vl2 {w : World} {m : Mp} {a b : AV} {A : Array Value} (h : VL w m [a, b] A) : ∃ u v, A = #[u, v] ∧ V w m a u ∧ V w m b v := by
  obtain ⟨h1, h2⟩ := h
  have hs : A.size = 2 := h1.symm
  refine ⟨A[0], A[1], ?_, h2 0 (by simp) (by omega), h2 1 (by simp) (by omega)⟩
  apply Array.ext
  · simp [hs]
  · intro i hi hi'
    have : i = 0 ∨ i = 1 := by simp at hi'; omega
    rcases this with rfl | rfl <;> rfl
theorem v_str {w : World} {m : Mp} {l : List UInt8} {u : Value} (h : V w m (.p (.str l)) u) : ∃ s : ByteArray, u = .string s ∧ s.data.toList = l := by
  cases h with
  | p _ _ h => cases h with
    | str s l hl => exact ⟨s, rfl, hl⟩
theorem v_int {w : World} {m : Mp} {q : IntKind} {n : Int} {u : Value} (h : V w m (.p (.int q n)) u) : u = .int q n := by
  cases h with
  | p _ _ h => cases h; rfl
theorem size_of {s : ByteArray} {l : List UInt8} (h : s.data.toList = l) : s.size = l.length := by
  subst h; exact Array.length_toList.symm
theorem below_same (w : World) : Below w.heap.size w w := Below.refl _ _

def cIndexByte : AC := fun args K k => ∃ l c, args = [.p (.str l), .p (.int .u8 c)] ∧ k (.ret (.p (.int .i64 (Lib.indexByte l c.toNat.toUInt8)))) K
theorem indexByte_ok : COk 28 cIndexByte := by
  rintro args K k ⟨l, c, rfl, hk⟩
  refine ACalls.lib (ent rfl rfl) fun w m Args hS hV => ?_
  obtain ⟨u, v, rfl, h1, h2⟩ := vl2 hV
  obtain ⟨s, rfl, rfl⟩ := v_str h1
  obtain rfl := v_int h2
  exact (Tryz.strings_IndexByte s c w).mono fun e w' ⟨h3, h4⟩ => ⟨_, _, h3, by rw [h4]; exact below_same w, .p _ _ (.int ..), hk⟩

def cContains : AC := fun args K k => ∃ a b, args = [.p (.str a), .p (.str b)] ∧ a.length < 4294967281 ∧ k (.ret (.p (.bool (Lib.contains a b)))) K
theorem contains_ok : COk 65 cContains := by
  rintro args K k ⟨a, b, rfl, hl, hk⟩
  refine ACalls.lib (ent rfl rfl) fun w m Args hS hV => ?_
  obtain ⟨u, v, rfl, h1, h2⟩ := vl2 hV
  obtain ⟨s, rfl, rfl⟩ := v_str h1
  obtain ⟨t, rfl, rfl⟩ := v_str h2
  obtain ⟨n, hn⟩ := hS.gl.facts.maxLen
  exact (Tryz.strings_Contains s t n w (by rw [size_of rfl]; exact hl) hn).mono fun e w' ⟨h3, h4⟩ => ⟨_, _, h3, by rw [h4]; exact below_same w, .p _ _ (.bool ..), hk⟩

/-- the number, and whether there was none -/
def atoiV : Lib.NumEnd Int → List UInt8 → AV
  | .ok v, _ => .tup [.p (.int .i64 v), .p .nili]
  | .range, l => .tup [.p (.int .i64 (Lib.atoiSat l)), .iface 125 .junk]
  | _, _ => .tup [.p (.int .i64 0), .iface 125 .junk]
def cAtoi : AC := fun args K k => ∃ l, args = [.p (.str l)] ∧ l.length < 1000000 ∧ k (.ret (atoiV (Lib.atoiAll l) l)) K
theorem tup2 {w : World} {m : Mp} {a b : AV} {u v : Value} (h1 : V w m a u) (h2 : V w m b v) : V w m (.tup [a, b]) (.tuple #[u, v]) :=
  .tup _ _ rfl fun j hj hj' => by
    rcases j with _ | _ | j
    · exact h1
    · exact h2
    · simp at hj; omega
theorem atoi_ok : COk 61 cAtoi := by
  rintro args K k ⟨l, rfl, hl, hk⟩
  refine ACalls.lib (ent rfl rfl) fun w m Args hS hV => ?_
  obtain ⟨u, rfl, h1⟩ := vl1 hV
  obtain ⟨s, rfl, rfl⟩ := v_str h1
  have hs := size_of (s := s) rfl
  cases ha : Lib.atoiAll s.data.toList with
  | ok v =>
    rw [ha] at hk
    refine (Tryz.strconv_Atoi_ok s (by omega) v ha w).mono fun e w' ⟨h3, h4⟩ => ⟨_, _, h3, ?_, tup2 (.p _ _ (.int ..)) (.p _ _ .nili), hk⟩
    rcases h4 with rfl | ⟨t, rfl⟩
    · exact below_same _
    · exact bytesWorld_below _ _ _
  | range =>
    rw [ha] at hk
    obtain ⟨ev, h5, h6⟩ := hS.gl.facts.errRange
    exact (Tryz.strconv_Atoi_range s (by omega) ha ev w h5 h6).mono fun e w' ⟨N, h3, _, _, h4⟩ => ⟨_, _, h3, h4, tup2 (.p _ _ (.int ..)) (.iface _ _ _ (.junk _)), hk⟩
  | _ =>
    rw [ha] at hk
    obtain ⟨ev, h5, h6⟩ := hS.gl.facts.errSyntax
    exact (Tryz.strconv_Atoi_syntax s (by omega) ⟨fun v e => (by rw [ha] at e; cases e), fun e => (by rw [ha] at e; cases e)⟩ ev w h5 h6).mono fun e w' ⟨N, h3, _, _, h4⟩ => ⟨_, _, h3, h4, tup2 (.p _ _ (.int ..)) (.iface _ _ _ (.junk _)), hk⟩

theorem grow_below (w : World) (n : Nat) (os : Array Obj) : Below w.heap.size w (Sort.grow (w.drewN n) os) :=
  ⟨rfl, rfl, rfl, by simp [Sort.grow], fun j hj => by simp [Sort.grow, Array.getElem?_append, hj]⟩
def cItoa : AC := fun args K k => ∃ n, args = [.p (.int .i64 n)] ∧ -9223372036854775808 ≤ n ∧ n ≤ 9223372036854775807 ∧ k (.ret (.p (.str (Lib.itoa n)))) K
theorem itoa_ok : COk 64 cItoa := by
  rintro args K k ⟨n, rfl, h0, h1, hk⟩
  refine ACalls.lib (ent rfl rfl) fun w m Args hS hV => ?_
  obtain ⟨u, rfl, h2⟩ := vl1 hV
  obtain rfl := v_int h2
  exact (Tryz.strconv_Itoa n h0 h1 w hS.gl.facts.pow10).mono fun e w' ⟨h3, j, os, h4⟩ => ⟨_, _, h3, by rw [h4]; exact grow_below w j os, .p _ _ (.str _ _ rfl), hk⟩
end Go.Proofs.YtbcngegcpdppfaaGreatDoor

namespace Go.Ru

abbrev Bs := List UInt8

/-- kinds of tokens, but for the one at the end -/
inductive TK where
  | name
  | number
  | sign
  | word
deriving DecidableEq

def TK.code : TK → Int
  | .name => 1
  | .number => 2
  | .sign => 3
  | .word => 4

structure Tok where
  k : TK
  n : Int
  at_ : Int
  tx : Bs

structure Nd where
  k : Int
  n : Int
  at_ : Int
  tx : Bs
  kids : List Int

instance : Inhabited Nd := ⟨⟨0, 0, 0, [], []⟩⟩

/-- a parser: tokens that are left, nodes that were put, how much was open at most -/
structure PS where
  ts : List Tok
  ns : List Nd
  mo : Int

/-- an answer, or what is wrong, and where -/
inductive R (α : Type) where
  | ok (a : α) (s : PS)
  | bad (at_ err : Int)

def R.bind {α β : Type} (r : R α) (f : α → PS → R β) : R β :=
  match r with
  | .ok a s => f a s
  | .bad a e => .bad a e

abbrev M (α : Type) := PS → R α

/-- where the next token begins; e: where the text ends -/
def hd (e : Int) : List Tok → Int
  | [] => e
  | t :: _ => t.at_

/-- is the next token that word or sign? -/
def isS (w : Bs) : List Tok → Bool
  | [] => false
  | t :: _ => match t.k with
    | .word => t.tx == w
    | .sign => t.tx == w
    | _ => false

def dropS (s : PS) : PS := ⟨s.ts.tail, s.ns, s.mo⟩

def wantS (e : Int) (w : Bs) (s : PS) : R Unit :=
  match isS w s.ts with
  | true => .ok () (dropS s)
  | false => .bad (hd e s.ts) 2

def identS (e : Int) (s : PS) : R Tok :=
  match s.ts with
  | [] => .bad e 2
  | t :: r => match t.k with
    | .name => .ok t ⟨r, s.ns, s.mo⟩
    | _ => .bad t.at_ 2

def putS (n : Nd) (s : PS) : R Int := .ok (s.ns.length : Int) ⟨s.ts, s.ns ++ [n], s.mo⟩

def moreS (d : Nat) (mo : Int) : Int := if (41 : Int) - d > mo then 41 - d else mo

/-- something between a token that opens and one that closes; d: how much more may be opened -/
def withinS {α : Type} (e : Int) (d : Nat) (op cl : Bs) (what : M α) (s : PS) : R α :=
  match isS op s.ts with
  | false => .bad (hd e s.ts) 2
  | true => match d with
    | 0 => .bad (hd e s.ts) 6
    | _ + 1 => (what ⟨s.ts.tail, s.ns, moreS d s.mo⟩).bind fun a s => match cl with
      | [] => .ok a s
      | _ => (wantS e cl s).bind fun _ s => .ok a s

/-- signs of a row, by how many rows bind more -/
def rowS : Nat → List Bs
  | 0 => [[42], [47], [37]]
  | 1 => [[43], [45]]
  | 2 => [[61, 61], [33, 61], [60], [60, 61], [62], [62, 61]]
  | 3 => [[38, 38]]
  | _ => [[124, 124]]

def anyS (l : List Bs) (ts : List Tok) : Bool := l.any fun w => isS w ts

/-- operands with signs between -/
def rowLoop (l : List Bs) (opnd : M Int) : Nat → Int → M Int
  | 0, x, s => .ok x s
  | n + 1, x, s => match s.ts with
    | [] => .ok x s
    | t :: r => match anyS l (t :: r) with
      | false => .ok x s
      | true => (opnd ⟨r, s.ns, s.mo⟩).bind fun y s => (putS ⟨27, 0, t.at_, t.tx, [x, y]⟩ s).bind fun x s => rowLoop l opnd n x s

def exprS (una : M Int) : Nat → M Int
  | 0, s => una s
  | j + 1, s => (exprS una j s).bind fun x s => rowLoop (rowS j) (exprS una j) s.ts.length x s

def primS (e : Int) (d : Nat) (inner : M Int) (s : PS) : R Int :=
  match s.ts with
  | [] => .bad e 2
  | t :: r => match t.k with
    | .number => putS ⟨20, t.n, t.at_, [], []⟩ ⟨r, s.ns, s.mo⟩
    | .name => match isS [91] r with
      | true => (withinS e d [91] [93] inner ⟨r, s.ns, s.mo⟩).bind fun x s => putS ⟨23, 0, t.at_, t.tx, [x]⟩ s
      | false => putS ⟨22, 0, t.at_, t.tx, []⟩ ⟨r, s.ns, s.mo⟩
    | _ => match t.tx == [116, 114, 117, 101] with
      | true => putS ⟨21, 1, t.at_, [], []⟩ ⟨r, s.ns, s.mo⟩
      | false => match t.tx == [102, 97, 108, 115, 101] with
        | true => putS ⟨21, 0, t.at_, [], []⟩ ⟨r, s.ns, s.mo⟩
        | false => match t.tx == [108, 101, 110] with
          | true => (identS e ⟨r, s.ns, s.mo⟩).bind fun t' s => putS ⟨24, 0, t.at_, t'.tx, []⟩ s
          | false => match t.tx == [38] with
            | true => (identS e ⟨r, s.ns, s.mo⟩).bind fun t' s => putS ⟨25, 0, t.at_, t'.tx, []⟩ s
            | false => match t.tx == [40] with
              | true => withinS e d [40] [41] inner s
              | false => .bad t.at_ 2

def unaB (e : Int) (d : Nat) (una inner : M Int) (s : PS) : R Int :=
  match s.ts with
  | [] => .bad e 2
  | t :: r => match isS [45] (t :: r) || isS [33] (t :: r) with
    | true => (withinS e d t.tx [] una s).bind fun x s => putS ⟨26, 0, t.at_, t.tx, [x]⟩ s
    | false => primS e d inner s

/-- unary, with d that may yet be opened -/
def unaS (e : Int) : Nat → M Int
  | 0 => unaB e 0 (fun _ => .bad 0 0) (fun _ => .bad 0 0)
  | d + 1 => unaB e (d + 1) (unaS e d) (exprS (unaS e d) 5)

def exS (e : Int) (d : Nat) : M Int := exprS (unaS e d) 5
/-- an expression one deeper -/
def inS (e : Int) : Nat → M Int
  | 0 => fun _ => .bad 0 0
  | d + 1 => exS e d

def indexS (e : Int) (d : Nat) : M Int := withinS e d [91] [93] (inS e d)

/-- what stands behind commas -/
def commaL {α : Type} (one : List α → M (List α)) : Nat → List α → M (List α)
  | 0, l, s => .ok l s
  | n + 1, l, s => match isS [44] s.ts with
    | true => (one l (dropS s)).bind fun l s => commaL one n l s
    | false => .ok l s
def listS {α : Type} (one : List α → M (List α)) (l : List α) (s : PS) : R (List α) :=
  match isS [41] s.ts with
  | true => .ok l s
  | false => (one l s).bind fun l s => commaL one s.ts.length l s

/-- one more of a list -/
def oneS (m : M Int) (l : List Int) : M (List Int) := fun s => (m s).bind fun x s => .ok (l ++ [x]) s

def callS (e : Int) (d : Nat) (at_ : Int) (tx : Bs) (s : PS) : R Int :=
  (identS e s).bind fun t s => (putS ⟨19, 0, t.at_, t.tx, []⟩ s).bind fun x s =>
    (withinS e d [40] [41] (listS (oneS (inS e d)) [x]) s).bind fun l s => putS ⟨13, 0, at_, tx, l⟩ s

def chanS (e : Int) (s : PS) : R Int := (identS e s).bind fun t s => putS ⟨18, 0, t.at_, t.tx, []⟩ s

def namedS (e : Int) (d : Nat) (s : PS) : R Int :=
  (identS e s).bind fun t s => match isS [91] s.ts with
    | true => (indexS e d s).bind fun x s => (wantS e [61] s).bind fun _ s => (exS e d s).bind fun y s => putS ⟨8, 0, t.at_, t.tx, [x, y]⟩ s
    | false => (wantS e [61] s).bind fun _ s => match isS [105, 110] s.ts with
      | true => (chanS e (dropS s)).bind fun x s => putS ⟨9, 0, t.at_, t.tx, [x]⟩ s
      | false => match isS [99, 97, 108, 108] s.ts with
        | true => callS e d t.at_ t.tx (dropS s)
        | false => match isS [110, 101, 119] s.ts with
          | true => (exS e d (dropS s)).bind fun x s => putS ⟨17, 0, t.at_, t.tx, [x]⟩ s
          | false => (exS e d s).bind fun x s => putS ⟨7, 0, t.at_, t.tx, [x]⟩ s

def plainS (e : Int) (d : Nat) (s : PS) : R Int :=
  let at_ := hd e s.ts
  match isS [111, 117, 116] s.ts with
  | true => (chanS e (dropS s)).bind fun c s => (exS e d s).bind fun x s => putS ⟨10, 0, at_, [], [c, x]⟩ s
  | false => match isS [99, 97, 108, 108] s.ts with
    | true => callS e d at_ [] (dropS s)
    | false => match isS [116, 104, 114, 111, 119] s.ts with
      | true => (exS e d (dropS s)).bind fun x s => putS ⟨15, 0, at_, [], [x]⟩ s
      | false => match isS [114, 101, 116, 117, 114, 110] s.ts with
        | true => match isS [59] s.ts.tail with
          | true => putS ⟨14, 0, at_, [], []⟩ (dropS s)
          | false => (exS e d (dropS s)).bind fun x s => putS ⟨14, 0, at_, [], [x]⟩ s
        | false => namedS e d s

/-- statements up to a bracket -/
def stmtsL (stmt : M Int) : Nat → List Int → M (List Int)
  | 0, _, _ => .bad 0 0
  | n + 1, l, s => match isS [125] s.ts with
    | true => .ok l s
    | false => (stmt s).bind fun x s => stmtsL stmt n (l ++ [x]) s
def stmtsS (stmt : M Int) (l : List Int) (s : PS) : R (List Int) := stmtsL stmt (s.ts.length + 1) l s

def blockB (e : Int) (d : Nat) (stmt : M Int) (s : PS) : R Int :=
  let at_ := hd e s.ts
  (withinS e d [123] [125] (stmtsS stmt []) s).bind fun l s => putS ⟨6, 0, at_, [], l⟩ s

def stmtB (e : Int) (d : Nat) (stmt : M Int) (s : PS) : R Int :=
  let at_ := hd e s.ts
  match isS [105, 102] s.ts with
  | true => (exS e d (dropS s)).bind fun x s => (blockB e d stmt s).bind fun a s => match isS [101, 108, 115, 101] s.ts with
    | true => (blockB e d stmt (dropS s)).bind fun b s => putS ⟨11, 0, at_, [], [x, a, b]⟩ s
    | false => (putS ⟨6, 0, at_, [], []⟩ s).bind fun b s => putS ⟨11, 0, at_, [], [x, a, b]⟩ s
  | false => match isS [119, 104, 105, 108, 101] s.ts with
    | true => (exS e d (dropS s)).bind fun x s => (blockB e d stmt s).bind fun a s => putS ⟨12, 0, at_, [], [x, a]⟩ s
    | false => match isS [116, 114, 121] s.ts with
      | true => (blockB e d stmt (dropS s)).bind fun a s => (wantS e [99, 97, 116, 99, 104] s).bind fun _ s => (identS e s).bind fun t s =>
          (blockB e d stmt s).bind fun b s => putS ⟨16, 0, at_, t.tx, [a, b]⟩ s
      | false => (plainS e d s).bind fun x s => (wantS e [59] s).bind fun _ s => .ok x s

def stmtS (e : Int) : Nat → M Int
  | 0 => stmtB e 0 (fun _ => .bad 0 0)
  | d + 1 => stmtB e (d + 1) (stmtS e d)
/-- a statement one deeper -/
def inStmtS (e : Int) : Nat → M Int
  | 0 => fun _ => .bad 0 0
  | d + 1 => stmtS e d

def typesS (ts : List Tok) : Int :=
  match isS [105, 110, 116] ts with
  | true => 1
  | false => match isS [98, 111, 111, 108] ts with
    | true => 2
    | false => match isS [97, 114, 114] ts with
      | true => 3
      | false => match isS [102, 117, 110] ts with
        | true => 4
        | false => 0

def typedS (e : Int) (k at_ : Int) (tx : Bs) (s : PS) : R Int :=
  match typesS s.ts == 0 with
  | true => .bad (hd e s.ts) 2
  | false => putS ⟨k, typesS s.ts, at_, tx, []⟩ (dropS s)

def varsL (e : Int) (kind : Int) : Nat → List Int → M (List Int)
  | 0, l, s => .ok l s
  | n + 1, l, s => match isS [118, 97, 114] s.ts with
    | false => .ok l s
    | true => (identS e (dropS s)).bind fun t s' => (typedS e kind (hd e s.ts) t.tx s').bind fun x s => (wantS e [59] s).bind fun _ s => varsL e kind n (l ++ [x]) s
def varsS (e : Int) (kind : Int) (s : PS) : R (List Int) := varsL e kind s.ts.length [] s

/-- a body with declarations: their places, and the block's -/
def bodyS (e : Int) (d : Nat) (s : PS) : R (List Int × Int) :=
  let at_ := hd e s.ts
  (withinS e d [123] [125] (fun s => (varsS e 5 s).bind fun vs s => (stmtsS (inStmtS e d) [] s).bind fun l s => .ok (vs, l) s) s).bind fun p s =>
    (putS ⟨6, 0, at_, [], p.2⟩ s).bind fun b s => .ok (p.1, b) s

def paramS (e : Int) : M Int := fun s => (identS e s).bind fun t s => typedS e 4 t.at_ t.tx s

def procS (e : Int) (d : Nat) (s : PS) : R Int :=
  let at_ := hd e s.ts
  (wantS e [112, 114, 111, 99] s).bind fun _ s => (identS e s).bind fun t s =>
    (withinS e d [40] [41] (listS (oneS (paramS e)) []) s).bind fun ps s =>
      let k := typesS s.ts
      (bodyS e d (match decide (k > 0) with
        | true => dropS s
        | false => s)).bind fun p s => putS ⟨3, k, at_, t.tx, ps ++ p.1 ++ [p.2]⟩ s

def procsL (e : Int) (d : Nat) : Nat → List Int → M (List Int)
  | 0, l, s => .ok l s
  | n + 1, l, s => match s.ts with
    | [] => .ok l s
    | _ :: _ => (procS e d s).bind fun x s => procsL e d n (l ++ [x]) s

def programS (e : Int) (s : PS) : R Int :=
  (varsS e 2 s).bind fun l s => (procsL e 40 s.ts.length l s).bind fun l s => putS ⟨1, 0, 0, [], l⟩ s

/-! ### how much is left, and how much is put -/
def wt (s : PS) : Nat := s.ns.length + 4 * s.ts.length
/-- nothing is given back -/
def Dn {α : Type} (m : M α) : Prop := ∀ s a s', m s = .ok a s' → wt s' ≤ wt s ∧ s'.ts.length ≤ s.ts.length
/-- something is taken -/
def Dn1 {α : Type} (m : M α) : Prop := ∀ s a s', m s = .ok a s' → wt s' ≤ wt s ∧ s'.ts.length < s.ts.length

end Go.Ru
