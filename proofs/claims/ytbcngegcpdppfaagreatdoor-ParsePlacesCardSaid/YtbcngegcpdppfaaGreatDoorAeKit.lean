/-
  AE, part 9: rules for contracts: weakening, framing, loops. Own metatheory over any program; no statement of the seat is proved here.
-/
import Derived.Test.YtbcngegcpdppfaaGreatDoorAeCheck
namespace Go.AE
section
variable {P : Program} {T : Tab}

/-! ### values told elsewhere -/
theorem V.agree {w : World} {m m' : Mp} {n : Nat} (hI : ∀ b, m.I b → m'.I b) (hρ : ∀ r, r < n → m'.ρ r = m.ρ r) (hL : ∀ r, r < n → m'.L r = m.L r)
    {a : AV} {u : Value} (h : V w m a u) (hc : a.cl n = true) : V w m' a u := by
  induction h with
  | p v u h => exact .p v u (h.mono hI (fun _ _ => rfl))
  | ptr r ver i j off sz cap h hi =>
    have hr : r < n := by simpa [AV.cl] using hc
    rw [← hρ r hr]
    exact .ptr (m := m') r ver i j off sz cap (by rw [hL r hr, h]) hi
  | ptrOld r ver i j off b o h =>
    have hr : r < n := by simpa [AV.cl] using hc
    exact .ptrOld (m := m') r ver i j off b o (by rw [hL r hr]; exact h)
  | slr r ver off k N sz cap h hn =>
    have hr : r < n := by simpa [AV.cl] using hc
    rw [← hρ r hr]
    exact .slr (m := m') r ver off k N sz cap (by rw [hL r hr, h]) hn
  | slrNil r ver h =>
    have hr : r < n := by simpa [AV.cl] using hc
    exact .slrNil (m := m') r ver (by rw [hL r hr, h])
  | slrOld r ver off k ad c h =>
    have hr : r < n := by simpa [AV.cl] using hc
    exact .slrOld (m := m') r ver off k ad c (by rw [hL r hr]; exact h)
  | rop cs off b o u hb h1 h2 => exact .rop (m := m') cs off b o u (hI _ hb) h1 (fun j hj => (h2 j hj).mono hI (fun _ _ => rfl))
  | fn f first cap A B hA hB h1 h2 ih1 ih2 =>
    simp only [AV.cl, Bool.and_eq_true] at hc
    exact .fn f first cap A B hA hB (fun j hj hj' => ih1 j hj hj' (AV.cls_get hc.1 j hj)) (fun j hj hj' => ih2 j hj hj' (AV.cls_get hc.2 j hj))
  | iface t v u h ih => exact .iface t v u (ih hc)
  | agg cs A hA h ih => exact .agg cs A hA (fun j hj hj' => ih j hj hj' (AV.cls_get hc j hj))
  | tup cs A hA h ih => exact .tup cs A hA (fun j hj hj' => ih j hj hj' (AV.cls_get hc j hj))
  | yld r sz cap h =>
    have hr : r < n := by simpa [AV.cl] using hc
    rw [← hρ r hr]
    exact .yld (m := m') r sz cap (by rw [hL r hr, h])
  | yldOld r b h =>
    have hr : r < n := by simpa [AV.cl] using hc
    exact .yldOld (m := m') r b (by rw [hL r hr]; exact h)
  | junk u => exact .junk u

theorem BlkOk.agree {w : World} {m m' : Mp} {n : Nat} (hI : ∀ b, m.I b → m'.I b) (hρ : ∀ r, r < n → m'.ρ r = m.ρ r) (hL : ∀ r, r < n → m'.L r = m.L r)
    {l : Inf} {g : Nat} {b : ABlk} (h : BlkOk w m l g b) (hc : b.cl n) : BlkOk w m' l g b := by
  cases b with
  | absent => exact h
  | dead => exact h
  | box ty cs =>
    obtain ⟨hl, c, h1, h2, h3⟩ := h
    exact ⟨hl, c, h1, h2, fun j hj => let ⟨u, a, b⟩ := h3 j hj; ⟨u, a, b.agree hI hρ hL (AV.cls_get hc j hj)⟩⟩
  | arr ty sz ver k f =>
    rcases h with h | ⟨cap, c, hl, h0, h00, h1, h2, h3⟩
    · exact .inl h
    exact .inr ⟨cap, c, hl, h0, h00, h1, h2, fun i hi => ⟨(h3 i hi).1, fun j hj => let ⟨u, a, b⟩ := (h3 i hi).2 j hj; ⟨u, a, b.agree hI hρ hL (AV.cls_get (hc i hi) j hj)⟩⟩⟩
  | lp s env N ps asg bd =>
    obtain ⟨hl, p, fn, tmps, D, h1, h2, h3, h4⟩ := h
    exact ⟨hl, p, fn, tmps, D, h1, h2, h3, fun d => (h4 d).agree hI hρ hL (clE_look hc d)⟩

/-! ### small lists -/
theorem hp_append (K X : List ABlk) (r : Nat) : hp (K ++ X) r = if r < K.length then hp K r else hp X (r - K.length) := by
  induction K generalizing r with
  | nil => simp
  | cons b K ih =>
    cases r with
    | zero => simp [hp, nth]
    | succ r =>
      have := ih r
      simp only [hp, nth, List.cons_append, List.length_cons] at this ⊢
      rw [this]
      by_cases h : r < K.length
      · rw [if_pos h, if_pos (by omega)]
      · rw [if_neg h, if_neg (by omega)]
        congr 2; omega

theorem hp_ge (K : List ABlk) (r : Nat) (h : K.length ≤ r) : hp K r = .absent := by
  have := hp_append K [] r
  rw [List.append_nil, if_neg (by omega)] at this
  rw [this]; rfl

theorem hp_takeN (K : List ABlk) (n r : Nat) : hp (takeN K n) r = if r < n then hp K r else .absent := by
  induction K generalizing n r with
  | nil => cases n <;> simp [takeN, hp, nth]
  | cons b K ih =>
    cases n with
    | zero => simp [takeN, hp, nth]
    | succ n =>
      cases r with
      | zero => simp [takeN, hp, nth]
      | succ r =>
        have := ih n r
        simp only [hp, takeN, nth] at this ⊢
        rw [this]
        by_cases h : r < n
        · rw [if_pos h, if_pos (by omega)]
        · rw [if_neg h, if_neg (by omega)]

theorem takeN_zero {α : Type} (l : List α) : takeN l 0 = [] := by cases l <;> rfl
theorem len_length {α : Type} (l : List α) : len l = l.length := by
  induction l with
  | nil => rfl
  | cons a l ih => simp [len, ih]

theorem takeN_length {α : Type} (l : List α) (n : Nat) (h : n ≤ l.length) : (takeN l n).length = n := by
  induction l generalizing n with
  | nil => simp at h; subst h; rfl
  | cons a l ih =>
    cases n with
    | zero => rfl
    | succ n => simp only [takeN, List.length_cons]; rw [ih n (by simpa using h)]

theorem St.ge {w : World} {m : Mp} {K : List ABlk} (h : St w m (hp K)) (r : Nat) (hr : K.length ≤ r) : m.L r = .absent := h.absent (hp_ge K r hr)

/-! ### contracts -/
theorem ACalls.mono {f : FuncId} {args : List AV} {K : List ABlk} {k k' : AO → List ABlk → Prop} (h : ACalls P f args K k) (hk : ∀ ao K', k ao K' → k' ao K') : ACalls P f args K k' := by
  refine ⟨h.1, fun w m Args hS hV => (h.2 w m Args hS hV).mono fun e w' he => ?_⟩
  cases e with
  | returned u => obtain ⟨m', a, K', h1, h2, h3, h4⟩ := he; exact ⟨m', a, K', h1, h2, h3, hk _ _ h4⟩
  | panicked ch => obtain ⟨m', a, u, K', h0, h1, h2, h3, h4⟩ := he; exact ⟨m', a, u, K', h0, h1, h2, h3, hk _ _ h4⟩
  | outgrown => exact he.elim

/-- arguments and a heap, said in weaker words -/
def Wk (bs : List AV) (K : List ABlk) (bs' : List AV) (K' : List ABlk) : Prop :=
  ∀ w m Args, St w m (hp K) → VL w m bs Args → ∃ m', Tr w m w m' ∧ St w m' (hp K') ∧ VL w m' bs' Args
/-- a value and a heap, said in weaker words; references behind the first n were not there -/
def Wk1 (n : Nat) (a : AV) (K : List ABlk) (a' : AV) (K' : List ABlk) : Prop :=
  ∀ w m u we me, Tr we me w m → (∀ r, n ≤ r → me.L r = .absent) → St w m (hp K) → V w m a u → ∃ m', Tr we me w m' ∧ St w m' (hp K') ∧ V w m' a' u

theorem ACalls.pre {f : FuncId} {args args' : List AV} {K K' : List ABlk} {k : AO → List ABlk → Prop} (h : ACalls P f args' K' k) (hw : Wk args K args' K') : ACalls P f args K k := by
  refine ⟨h.1, fun w m Args hS hV => ?_⟩
  obtain ⟨m', hT, hS', hV'⟩ := hw w m Args hS hV
  refine (h.2 w m' Args hS' hV').mono fun e w' he => ?_
  cases e with
  | returned u => obtain ⟨m2, a, K2, h1, h2, h3, h4⟩ := he; exact ⟨m2, a, K2, hT.trans h1, h2, h3, h4⟩
  | panicked ch => obtain ⟨m2, a, u, K2, h0, h1, h2, h3, h4⟩ := he; exact ⟨m2, a, u, K2, h0, hT.trans h1, h2, h3, h4⟩
  | outgrown => exact he.elim

def AO.val : AO → AV
  | .ret v => v
  | .pan v => v
def AO.with (a : AV) : AO → AO
  | .ret _ => .ret a
  | .pan _ => .pan a

theorem ACalls.post {f : FuncId} {args : List AV} {K : List ABlk} {k k' : AO → List ABlk → Prop} (h : ACalls P f args K k)
    (hk : ∀ ao K1, k ao K1 → ∃ a' K2, Wk1 K.length ao.val K1 a' K2 ∧ k' (ao.with a') K2) : ACalls P f args K k' := by
  refine ⟨h.1, fun w m Args hS hV => (h.2 w m Args hS hV).mono fun e w' he => ?_⟩
  cases e with
  | returned u =>
    obtain ⟨m', a, K', h1, h2, h3, h4⟩ := he
    obtain ⟨a', K2, hw, hk2⟩ := hk _ _ h4
    obtain ⟨m2, h5, h6, h7⟩ := hw _ _ _ _ _ h1 (fun r hr => hS.ge r hr) h2 h3
    exact ⟨m2, a', K2, h5, h6, h7, hk2⟩
  | panicked ch =>
    obtain ⟨m', a, u, K', h0, h1, h2, h3, h4⟩ := he
    obtain ⟨a', K2, hw, hk2⟩ := hk _ _ h4
    obtain ⟨m2, h5, h6, h7⟩ := hw _ _ _ _ _ h1 (fun r hr => hS.ge r hr) h2 h3
    exact ⟨m2, a', u, K2, h0, h5, h6, h7, hk2⟩
  | outgrown => exact he.elim

def deads : Nat → List ABlk
  | 0 => []
  | n + 1 => .dead :: deads n
theorem deads_length (n : Nat) : (deads n).length = n := by
  induction n with
  | zero => rfl
  | succ n ih => simp [deads, ih]
theorem hp_deads (n r : Nat) (h : r < n) : hp (deads n) r = .dead := by
  induction n generalizing r with
  | zero => omega
  | succ n ih =>
    cases r with
    | zero => rfl
    | succ r => exact ih r (by omega)

/-- what a contract over n blocks must answer, so that others may lie behind them -/
def frameK (n : Nat) (k : AO → List ABlk → Prop) : AO → List ABlk → Prop
  | .ret a, K => a.cl n = true ∧ n ≤ K.length ∧ (∀ r, r < n → (hp K r).cl n) ∧ k (.ret a) (takeN K n)
  | .pan a, _ => a.cl 0 = true ∧ k (.pan a) (deads n)

/-- the map of a framed call -/
def Mp.glue (n : Nat) (m m' : Mp) (L : Nat → Inf) : Mp := ⟨fun r => if r < n then m'.ρ r else m.ρ r, m'.I, fun r => if r < n then L r else m.L r⟩

theorem glue_ok {n : Nat} {w w' : World} {m m' : Mp} {K0 K1 X : List ABlk} {L : Nat → Inf} (hn : K0.length = n) (hn1 : K1.length = n) (hS : St w m (hp (K0 ++ X)))
    (hT : Tr w (m.cut n) w' m') {H : Nat → ABlk} (hS' : St w' m' H)
    (hL : ∀ r, r < n → (L r).isLive → L r = m'.L r)
    (hstep : ∀ r, r < n → (m.L r).step (L r) (m'.ρ r = m.ρ r))
    (hblk : ∀ r, r < n → BlkOk w' (m.glue n m' L) (L r) (m'.ρ r) (hp K1 r)) :
    Tr w m w' (m.glue n m' L) ∧ St w' (m.glue n m' L) (hp (K1 ++ X)) := by
  have hcl : ∀ r, r < n → (m.cut n).L r = m.L r := fun r hr => by simp [Mp.cut, hr]
  have hcg : ∀ r, ¬ r < n → (m.cut n).L r = .absent := fun r hr => by simp [Mp.cut, hr]
  have hlt : ∀ r, ((m.cut n).L r).isLive → r < n ∧ (m.L r).isLive := fun r h => by
    by_cases hr : r < n
    · rw [hcl r hr] at h; exact ⟨hr, h⟩
    · rw [hcg r hr] at h; exact h.elim
  have hsep : ∀ r r', r < n → ((L r).isLive) → ¬ r' < n → (m.L r').isLive → m'.ρ r ≠ m.ρ r' := fun r r' hr hl hr' hl' e => by
    have hl2 : (m'.L r).isLive := hL r hr hl ▸ hl
    rcases hT.newρ r hl2 with ⟨h1, h2⟩ | h1
    · have h3 := (hlt r h1).2
      have : m.ρ r = m.ρ r' := by rw [← e]; exact h2.symm
      exact hr' (hS.inj r r' h3 hl' this ▸ hr)
    · have := hS.lt r' hl'; omega
  have hTr : Tr w m w' (m.glue n m' L) := {
    os := hT.os
    tape := hT.tape
    output := hT.output
    size := hT.size
    out := fun b hb hr => hT.out b hb fun r hl => hr r (hlt r hl).2
    imm := fun b hb => hT.imm b hb
    same := fun b hb => hT.same b hb
    newI := fun b hb => by
      rcases hT.newI b hb with h | ⟨r, h1, h2⟩ | h
      · exact .inl h
      · exact .inr (.inl ⟨r, (hlt r h1).2, h2⟩)
      · exact .inr (.inr h)
    step := fun r => by
      by_cases hr : r < n
      · simp only [Mp.glue, hr, if_true]; exact hstep r hr
      · simp only [Mp.glue, hr, if_false]; exact Inf.step_refl _ _ trivial
    newρ := fun r hl => by
      by_cases hr : r < n
      · simp only [Mp.glue, hr, if_true] at hl ⊢
        rcases hT.newρ r (hL r hr hl ▸ hl) with ⟨h1, h2⟩ | h1
        · exact .inl ⟨(hlt r h1).2, h2⟩
        · exact .inr h1
      · simp only [Mp.glue, hr, if_false] at hl ⊢; exact .inl ⟨hl, trivial⟩ }
  refine ⟨hTr, ?_, ?_, ?_, hS'.Ilt, hS'.gl, ?_⟩
  · intro r r' h1 h2 e
    by_cases hr : r < n <;> by_cases hr' : r' < n <;> simp only [Mp.glue, hr, hr', if_true, if_false] at h1 h2 e
    · exact hS'.inj r r' (hL r hr h1 ▸ h1) (hL r' hr' h2 ▸ h2) e
    · exact absurd e (hsep r r' hr h1 hr' h2)
    · exact absurd e.symm (hsep r' r hr' h2 hr h1)
    · exact hS.inj r r' h1 h2 e
  · intro r h1 hI
    by_cases hr : r < n <;> simp only [Mp.glue, hr, if_true, if_false] at h1 hI
    · exact hS'.notI r (hL r hr h1 ▸ h1) hI
    · rcases hT.newI _ hI with h | ⟨r0, h2, h3⟩ | h
      · exact hS.notI r h1 h
      · have h4 := hlt r0 h2
        exact hr (hS.inj r0 r h4.2 h1 h3 ▸ h4.1)
      · have := hS.lt r h1; omega
  · intro r h1
    by_cases hr : r < n <;> simp only [Mp.glue, hr, if_true, if_false] at h1 ⊢
    · exact hS'.lt r (hL r hr h1 ▸ h1)
    · have := hS.lt r h1; have := hT.size; omega
  · intro r
    rw [hp_append, hn1]
    by_cases hr : r < n
    · have := hblk r hr
      rw [if_pos hr]
      have e1 : (m.glue n m' L).L r = L r := by simp [Mp.glue, hr]
      have e2 : (m.glue n m' L).ρ r = m'.ρ r := by simp [Mp.glue, hr]
      rw [e1, e2]; exact this
    · rw [if_neg hr]
      have e1 : (m.glue n m' L).L r = m.L r := by simp [Mp.glue, hr]
      have e2 : (m.glue n m' L).ρ r = m.ρ r := by simp [Mp.glue, hr]
      rw [e1, e2]
      have hb := hS.blk r
      rw [hp_append, hn, if_neg hr] at hb
      by_cases hl : (m.L r).isLive
      · refine hb.mono (hT.out _ (hS.lt r hl) fun r0 h0 e => ?_) (fun _ _ hv => hv.mono hTr)
        have h4 := hlt r0 h0
        exact hr (hS.inj r0 r h4.2 hl e ▸ h4.1)
      · exact hb.nolive hl

theorem ACalls.frame {f : FuncId} {args : List AV} {K0 X : List ABlk} {k : AO → List ABlk → Prop} (hc : AV.cls K0.length args = true) (hb : ∀ r, r < K0.length → (hp K0 r).cl K0.length)
    (h : ACalls P f args K0 (frameK K0.length k)) : ACalls P f args (K0 ++ X) (fun ao K => ∃ K1, K = K1 ++ X ∧ k ao K1) := by
  refine ⟨h.1, fun w m Args hS hV => ?_⟩
  have hH : (fun r => if r < K0.length then hp (K0 ++ X) r else .absent) = hp K0 := by
    funext r
    by_cases hr : r < K0.length
    · rw [if_pos hr, hp_append, if_pos hr]
    · rw [if_neg hr, hp_ge _ _ (by omega)]
  have hS0 : St w (m.cut K0.length) (hp K0) := by
    have := hS.cut K0.length (fun r hr => by rw [hp_append, if_pos hr]; exact hb r hr)
    rwa [hH] at this
  have hV0 : VL w (m.cut K0.length) args Args := ⟨hV.1, fun j hj hj' => (hV.2 j hj hj').cut _ (AV.cls_get hc j hj)⟩
  refine (h.2 w (m.cut K0.length) Args hS0 hV0).mono fun e w' he => ?_
  cases e with
  | returned u =>
    obtain ⟨m', a, K', h1, h2, h3, h4, h5, h6, h7⟩ := he
    have hagI : ∀ b, m'.I b → (m.glue K0.length m' m'.L).I b := fun b hb => hb
    have hagρ : ∀ r, r < K0.length → (m.glue K0.length m' m'.L).ρ r = m'.ρ r := fun r hr => by simp [Mp.glue, hr]
    have hagL : ∀ r, r < K0.length → (m.glue K0.length m' m'.L).L r = m'.L r := fun r hr => by simp [Mp.glue, hr]
    have hg := glue_ok (n := K0.length) (K1 := takeN K' K0.length) (L := m'.L) rfl (takeN_length _ _ h5) hS h1 h2 (fun r _ _ => rfl)
      (fun r hr => by have := h1.step r; simpa [Mp.cut, hr] using this)
      (fun r hr => by rw [hp_takeN, if_pos hr]; exact (h2.blk r).agree hagI hagρ hagL (h6 r hr))
    exact ⟨_, a, takeN K' K0.length ++ X, hg.1, hg.2, h3.agree hagI hagρ hagL h4, _, rfl, h7⟩
  | panicked ch =>
    obtain ⟨m', a, u, K', h0, h1, h2, h3, h4, h7⟩ := he
    have hg := glue_ok (n := K0.length) (K1 := deads K0.length) (L := fun _ => .dead) rfl (deads_length _) hS h1 h2 (fun r _ hl => hl.elim)
      (fun r hr => by
        cases hL : m.L r with
        | absent => trivial
        | dead => rfl
        | nil => exact .inl rfl
        | live => exact .inl rfl)
      (fun r hr => by rw [hp_deads _ _ hr]; rfl)
    exact ⟨_, a, u, deads K0.length ++ X, h0, hg.1, hg.2, h3.agree (n := 0) (m := m') (m' := m.glue K0.length m' fun _ => .dead) (fun b hb => hb) (fun r hr => by omega) (fun r hr => by omega) h4, _, rfl, h7⟩
  | outgrown => exact he.elim

/-! ### weaker words -/
/-- a value weaker than another -/
def AV.le (a b : AV) : Prop := ∀ w m u, V w m a u → V w m b u
theorem AV.le_refl (a : AV) : a.le a := fun _ _ _ h => h
theorem AV.le_junk (a : AV) : a.le .junk := fun _ _ u _ => .junk u
theorem AV.le_of_eq {a b : AV} (h : a = b) : a.le b := h ▸ AV.le_refl a
theorem AV.nils_le (sz : Nat) (f : Nat → List PV) : (AV.p .nils).le (.p (.sl sz 0 f)) := fun w m u h => by
  cases h with
  | p _ _ h => cases h; exact .p _ _ (.sl0 sz f none 0)
theorem AV.sl_le {sz n n' : Nat} {f f' : Nat → List PV} (hn : n' = n) (h : ∀ i, i < n → f' i = f i) : (AV.p (.sl sz n f)).le (.p (.sl sz n' f')) := fun w m u hv => by
  subst hn
  cases hv with
  | p _ _ hv =>
    cases hv with
    | sl0 _ _ a c => exact .p _ _ (.sl0 sz f' a c)
    | sl _ _ _ b o c u hI hcap hc hv =>
      refine .p _ _ (.sl sz n' f' b o c u hI hcap (fun i hi j hj => ?_) (fun i hi => ?_))
      · exact hc i hi j (by rw [← h i hi]; exact hj)
      · rw [h i hi]; exact hv i hi

def lesL : List AV → List AV → Prop
  | [], [] => True
  | a :: l, b :: l' => a.le b ∧ lesL l l'
  | _, _ => False
theorem lesL.get {l l' : List AV} (h : lesL l l') : l.length = l'.length ∧ ∀ j (hj : j < l.length) (hj' : j < l'.length), l[j].le l'[j] := by
  induction l generalizing l' with
  | nil => cases l' with
    | nil => exact ⟨rfl, fun j hj => by simp at hj⟩
    | cons b l' => exact h.elim
  | cons a l ih => cases l' with
    | nil => exact h.elim
    | cons b l' =>
      obtain ⟨h1, h2⟩ := ih h.2
      refine ⟨by simp [h1], fun j hj hj' => ?_⟩
      cases j with
      | zero => exact h.1
      | succ j => exact h2 j (by simpa using hj) (by simpa using hj')
theorem lesL.refl (l : List AV) : lesL l l := by
  induction l with
  | nil => trivial
  | cons a l ih => exact ⟨AV.le_refl a, ih⟩

/-- a block weaker than another -/
def ABlk.le (b b' : ABlk) : Prop := ∀ w m l g, BlkOk w m l g b → BlkOk w m l g b'
theorem ABlk.le_refl (b : ABlk) : b.le b := fun _ _ _ _ h => h
theorem ABlk.le_of_eq {a b : ABlk} (h : a = b) : a.le b := h ▸ ABlk.le_refl a
theorem ABlk.box_le {ty : TypeId} {cs cs' : List AV} (h : lesL cs cs') : (ABlk.box ty cs).le (.box ty cs') := fun w m l g hb => by
  obtain ⟨h1, h2⟩ := h.get
  obtain ⟨hl, c, hc, hs, hv⟩ := hb
  refine ⟨by rw [← h1]; exact hl, c, hc, by rw [hs, h1], fun j hj => ?_⟩
  obtain ⟨u, hu, hv⟩ := hv j (by omega)
  exact ⟨u, hu, h2 j (by omega) hj _ _ _ hv⟩
theorem ABlk.arr_le {ty : TypeId} {sz ver n n' : Nat} {f f' : Nat → List AV} (hn : n' = n) (h : ∀ i, i < n → lesL (f i) (f' i)) : (ABlk.arr ty sz ver n f).le (.arr ty sz ver n' f') := fun w m l g hb => by
  subst hn
  rcases hb with hb | ⟨cap, c, hl, h0, h00, hc, hs, hv⟩
  · exact .inl hb
  refine .inr ⟨cap, c, hl, h0, h00, hc, hs, fun i hi => ?_⟩
  obtain ⟨h1, h2⟩ := (h i hi).get
  obtain ⟨h3, h4⟩ := hv i hi
  refine ⟨by omega, fun j hj => ?_⟩
  obtain ⟨u, hu, hv⟩ := h4 j (by omega)
  exact ⟨u, hu, h2 j (by omega) hj _ _ _ hv⟩
theorem ABlk.arr_eq {ty : TypeId} {sz ver n n' : Nat} {f f' : Nat → List AV} (hn : n' = n) (h : ∀ i, i < n → f i = f' i) : (ABlk.arr ty sz ver n f).le (.arr ty sz ver n' f') :=
  ABlk.arr_le hn fun i hi => h i hi ▸ lesL.refl _

def lesK : List ABlk → List ABlk → Prop
  | [], [] => True
  | a :: l, b :: l' => a.le b ∧ lesK l l'
  | _, _ => False
theorem lesK.refl (l : List ABlk) : lesK l l := by
  induction l with
  | nil => trivial
  | cons a l ih => exact ⟨ABlk.le_refl a, ih⟩
theorem lesK.hp {K K' : List ABlk} (h : lesK K K') (r : Nat) : (hp K r).le (hp K' r) := by
  induction K generalizing K' r with
  | nil => cases K' with
    | nil => exact ABlk.le_refl _
    | cons b l' => exact h.elim
  | cons a l ih => cases K' with
    | nil => exact h.elim
    | cons b l' =>
      cases r with
      | zero => exact h.1
      | succ r => exact ih h.2 r

theorem lesK.head {K L : List ABlk} {n : Nat} (h : lesK (takeN K n) L) : lesK K (L ++ dropN K n) := by
  induction n generalizing K L with
  | zero =>
    have e : takeN K 0 = [] := by cases K <;> rfl
    rw [e] at h
    cases L with
    | nil =>
      have e : dropN K 0 = K := by cases K <;> rfl
      rw [e]; exact lesK.refl _
    | cons => exact h.elim
  | succ n ih =>
    cases K with
    | nil =>
      cases L with
      | nil => trivial
      | cons => exact h.elim
    | cons b K =>
      cases L with
      | nil => exact h.elim
      | cons c L => exact ⟨h.1, ih h.2⟩

theorem St.les {w : World} {m : Mp} {K K' : List ABlk} (hS : St w m (hp K)) (h : lesK K K') : St w m (hp K') :=
  ⟨hS.inj, hS.notI, hS.lt, hS.Ilt, hS.gl, fun r => h.hp r _ _ _ _ (hS.blk r)⟩

/-! ### what is known of a frame, in weaker words -/
theorem Le.refl (kb : Nat) (s : AS) : Le kb s s := fun _ _ _ _ m _ hT hS hE => ⟨m, hT, hS, hE, .refl m⟩
theorem Le.trans {kb : Nat} {s s' s'' : AS} (h : Le kb s s') (h' : Le kb s' s'') : Le kb s s'' := fun we me hk w m tmps hT hS hE => by
  obtain ⟨m', h1, h2, h3, h4⟩ := h we me hk w m tmps hT hS hE
  obtain ⟨m2, k1, k2, k3, k4⟩ := h' we me hk w m' tmps h1 h2 h3
  exact ⟨m2, k1, k2, k3, h4.trans k4⟩

def subE (t : List (Nat × AV)) : List (Nat × AV) → Prop
  | [] => True
  | (d, v) :: r => (look t d).le v ∧ subE t r
theorem subE.look {t t' : List (Nat × AV)} (h : subE t t') (d : Nat) : (look t d).le (look t' d) := by
  induction t' with
  | nil => exact AV.le_junk _
  | cons x r ih =>
    obtain ⟨j, v⟩ := x
    rw [look_cons]
    by_cases e : j = d
    · subst e; rw [if_pos rfl]; exact h.1
    · rw [if_neg e]; exact ih h.2
theorem Le.env {kb : Nat} {t t' : List (Nat × AV)} {K K' : List ABlk} (h : subE t t') (hK : lesK K K') : Le kb ⟨t, K⟩ ⟨t', K'⟩ := fun _ _ _ _ m _ hT hS hE =>
  ⟨m, hT, hS.les hK, fun d => h.look d _ _ _ (hE d), .refl m⟩

theorem clE.look {n : Nat} {t : List (Nat × AV)} (h : clE n t = true) (d : Nat) : (look t d).cl n = true := clE_look h d
def clK (n : Nat) : List ABlk → Prop
  | [] => True
  | b :: r => b.cl n ∧ clK n r
theorem clK.hp {n : Nat} {K : List ABlk} (h : clK n K) (r : Nat) : (hp K r).cl n := by
  induction K generalizing r with
  | nil => exact trivial
  | cons b K ih =>
    cases r with
    | zero => exact h.1
    | succ r => exact ih h.2 r

theorem cut_St {w : World} {m : Mp} {K : List ABlk} {n : Nat} (hS : St w m (hp K)) (h : clK n (takeN K n)) : St w (m.cut n) (hp (takeN K n)) := by
  have hcl : ∀ r, r < n → (hp K r).cl n := fun r hr => by
    have := clK.hp h r
    rwa [hp_takeN, if_pos hr] at this
  have := hS.cut n hcl
  have e : (fun r => if r < n then hp K r else .absent) = hp (takeN K n) := by
    funext r; rw [hp_takeN]
  rwa [e] at this

theorem Le.cut {kb n : Nat} {t : List (Nat × AV)} {K : List ABlk} (hn : Nat.ble kb n = true) (ht : clE n t = true) (hK : clK n (takeN K n)) : Le kb ⟨t, K⟩ ⟨t, takeN K n⟩ := fun _ _ hk _ m _ hT hS hE =>
  ⟨m.cut n, hT.cut n (fun r hr => hk r (Nat.le_trans (Nat.le_of_ble_eq_true hn) hr)), cut_St hS hK, fun d => (hE d).cut n (clE.look ht d), .cut m n⟩

/-- a result, behind it what is needed no more is forgotten -/
theorem Wk1.cut {n : Nat} {a : AV} {K : List ABlk} (k : Nat) (hn : n ≤ k) (ha : a.cl k = true) (hK : clK k (takeN K k)) : Wk1 n a K a (takeN K k) := fun _ m _ _ _ hT hk hS hV =>
  ⟨m.cut k, hT.cut k (fun r hr => hk r (by omega)), cut_St hS hK, hV.cut k ha⟩
theorem Wk1.refl (n : Nat) (a : AV) (K : List ABlk) : Wk1 n a K a K := fun _ m _ _ _ hT _ hS hV => ⟨m, hT, hS, hV⟩
theorem Wk1.trans {n : Nat} {a a' a'' : AV} {K K' K'' : List ABlk} (h : Wk1 n a K a' K') (h' : Wk1 n a' K' a'' K'') : Wk1 n a K a'' K'' := fun w m u we me hT hk hS hV => by
  obtain ⟨m', h1, h2, h3⟩ := h w m u we me hT hk hS hV
  exact h' w m' u we me h1 hk h2 h3
theorem Wk1.le {n : Nat} {a a' : AV} {K K' : List ABlk} (h : a.le a') (hK : lesK K K') : Wk1 n a K a' K' := fun _ m _ _ _ hT _ hS hV => ⟨m, hT, hS.les hK, h _ _ _ hV⟩
theorem Wk.refl (bs : List AV) (K : List ABlk) : Wk bs K bs K := fun w m _ hS hV => ⟨m, Tr.refl w m, hS, hV⟩
theorem Wk.trans {a a' a'' : List AV} {K K' K'' : List ABlk} (h : Wk a K a' K') (h' : Wk a' K' a'' K'') : Wk a K a'' K'' := fun w m us hS hV => by
  obtain ⟨m', h1, h2, h3⟩ := h w m us hS hV
  obtain ⟨m2, h4, h5, h6⟩ := h' w m' us h2 h3
  exact ⟨m2, h1.trans h4, h5, h6⟩
theorem Wk.le {bs bs' : List AV} {K K' : List ABlk} (h : lesL bs bs') (hK : lesK K K') : Wk bs K bs' K' := fun w m us hS hV =>
  ⟨m, Tr.refl w m, hS.les hK, by
    obtain ⟨h1, h2⟩ := h.get
    exact ⟨h1 ▸ hV.1, fun j hj hj' => h2 j (by omega) hj _ _ _ (hV.2 j (by omega) hj')⟩⟩

/-! ### nobody writes there any more -/
theorem upd_setN {K : List ABlk} {r : Nat} (b : ABlk) (hr : r < K.length) : upd (hp K) r b = hp (setN K r b) := by
  induction K generalizing r with
  | nil => simp at hr
  | cons c K ih =>
    funext j
    cases r with
    | zero => cases j <;> simp [upd, hp, setN, nth]
    | succ r =>
      cases j with
      | zero => simp [upd, hp, setN, nth]
      | succ j =>
        have := congrFun (ih (r := r) (by simpa using hr)) j
        simp only [upd, hp, setN, nth] at this ⊢
        rw [← this]
        simp

theorem nth_lt {α : Type} {l : List α} {r : Nat} {b : α} (h : nth l r = some b) : r < l.length := by
  induction l generalizing r with
  | nil => simp [nth] at h
  | cons a l ih =>
    cases r with
    | zero => simp
    | succ r => simp only [nth] at h; have := ih h; simp; omega

def Mp.kill (m : Mp) (r : Nat) : Mp := { m with L := fun k => if k = r then .dead else m.L k }
theorem Tr.kill {w : World} {m : Mp} {r v : Nat} (hr : m.L r = .nil v) : Tr w m w (m.kill r) where
  os := rfl
  tape := rfl
  output := rfl
  size := Nat.le_refl _
  out := fun _ _ _ => rfl
  imm := fun _ h => h
  same := fun _ _ => rfl
  newI := fun _ h => .inl h
  step := fun k => by
    simp only [Mp.kill]
    by_cases hk : k = r
    · subst hk; simp only [if_true]; rw [hr]; exact .inl rfl
    · simp only [hk, if_false]; exact Inf.step_refl _ _ trivial
  newρ := fun k hk => by
    simp only [Mp.kill] at hk ⊢
    by_cases hk' : k = r
    · subst hk'; simp [Inf.isLive] at hk
    · simp only [hk', if_false] at hk; exact .inl ⟨hk, trivial⟩

/-- a row that is frozen, and a slice of it -/
theorem freeze_sl {w : World} {m : Mp} {K : List ABlk} {r ty sz ver n : Nat} {f : Nat → List AV} (hS : St w m (hp K)) (hr : nth K r = some (.arr ty sz ver n f)) (g : Nat → List PV) (hg : ∀ i, i < n → f i = pvs (g i)) :
    ∃ m', Tr w m w m' ∧ St w m' (hp (setN K r .dead)) ∧ (∀ u, V w m (.slr r ver 0 n) u → V w m' (.p (.sl sz n g)) u) := by
  have hrl := nth_lt hr
  have hb := hS.blk r
  have e : hp K r = .arr ty sz ver n f := by simp [hp, hr]
  rw [e] at hb
  rcases hb with ⟨hL, h0⟩ | ⟨cap, c, hL, hn, hm, hc, hs, hv⟩
  · -- a nil slice
    subst h0
    have hT := Tr.kill (w := w) hL
    refine ⟨m.kill r, hT, ?_, fun u hu => ?_⟩
    · rw [← upd_setN _ hrl]
      have hlive : ∀ k, ((m.kill r).L k).isLive → (m.L k).isLive := fun k hk => by
        simp only [Mp.kill] at hk
        by_cases e : k = r
        · simp [e, Inf.isLive] at hk
        · simpa [e] using hk
      refine ⟨fun r1 r2 h1 h2 e => hS.inj r1 r2 (hlive _ h1) (hlive _ h2) e, fun r1 h1 => hS.notI r1 (hlive _ h1), fun r1 h1 => hS.lt r1 (hlive _ h1), hS.Ilt, hS.gl, fun k => ?_⟩
      by_cases hk : k = r
      · subst hk; simp [upd, Mp.kill, BlkOk]
      · have hk2 := (hS.blk k).mono (w' := w) (m' := m.kill r) rfl (fun a u hv => hv.mono hT)
        simp only [upd, Mp.kill, hk, if_false]
        exact hk2
    · cases hu with
      | slr _ _ _ _ N sz' cap h _ => rw [hL] at h; simp at h
      | slrNil _ _ h => exact .p _ _ (.sl0 sz g none 0)
      | slrOld _ _ _ _ ad c h => exact .p _ _ (.sl0 sz g ad c)
  · have hl : (m.L r).isLive := by rw [hL]; trivial
    have hcell : ∀ i, i < n → ∀ j, j < (g i).length → ∃ u, c[i * sz + j]? = some u ∧ VP w m.I ((g i).getD j .nilp) u := fun i hi j hj => by
      obtain ⟨h1, h2⟩ := hv i hi
      have e2 := hg i hi
      have hlen : (f i).length = (g i).length := by rw [e2, pvs_len]
      obtain ⟨u, hu, hvu⟩ := h2 j (by omega)
      refine ⟨u, hu, ?_⟩
      have e3 : (f i)[j]'(by omega) = .p ((g i)[j]) := by
        have : (f i)[j]? = some (.p ((g i)[j])) := by rw [e2, List.getElem?_eq_getElem (by rw [pvs_len]; exact hj), pvs_get]
        rw [List.getElem?_eq_getElem (by omega)] at this
        exact Option.some.inj this
      rw [e3] at hvu
      cases hvu with
      | p _ _ h => rw [List.getD_eq_getElem?_getD, List.getElem?_eq_getElem hj]; exact h
    refine ⟨m.freeze r, Tr.freeze r hl, ?_, fun u hu => ?_⟩
    · rw [← upd_setN _ hrl]; exact hS.freeze r hl
    · cases hu with
      | slr _ _ _ _ N sz' cap' h hN =>
        rw [hL] at h
        simp only [Inf.live.injEq] at h
        obtain ⟨-, -, rfl, rfl⟩ := h
        refine .p _ _ ?_
        rw [Nat.zero_mul, Nat.sub_zero]
        have hcs : ∀ i, i < n → ∀ j, j < (g i).length → w.cell? ⟨m.ρ r, 0 + (i * sz + j), none⟩ = some (c.getD (i * sz + j) undef) := fun i hi j hj => by
          obtain ⟨u, hu, _⟩ := hcell i hi j hj
          simp [World.cell?, hc, hu, Array.getD_eq_getD_getElem?]
        refine .sl sz n g (m.ρ r) 0 cap (fun i j => c.getD (i * sz + j) undef) (.inr rfl) ⟨hn, Nat.le_trans hn hm⟩ hcs fun i hi j hj => ?_
        obtain ⟨u, hu, hvu⟩ := hcell i hi j hj
        have e4 : c.getD (i * sz + j) undef = u := by rw [Array.getD_eq_getD_getElem?, hu]; rfl
        rw [List.getD_eq_getElem?_getD, List.getElem?_eq_getElem hj] at hvu
        show VP w (m.freeze r).I _ _
        rw [e4]
        exact hvu.mono (fun _ hb => .inl hb) (fun _ _ => rfl)
      | slrNil _ _ h => rw [hL] at h; simp at h
      | slrOld _ _ _ _ ad c' h => rw [hL] at h; simp [Inf.old] at h

theorem Wk1.freeze {N : Nat} {K : List ABlk} {r ty sz ver n : Nat} {f : Nat → List AV} (hr : nth K r = some (.arr ty sz ver n f)) (g : Nat → List PV) (hg : ∀ i, i < n → f i = pvs (g i)) :
    Wk1 N (.slr r ver 0 n) K (.p (.sl sz n g)) (setN K r .dead) := fun w m u we me hT _ hS hV => by
  obtain ⟨m', h1, h2, h3⟩ := freeze_sl hS hr g hg
  exact ⟨m', hT.trans h1, h2, h3 u hV⟩

/-- of each number below n -/
def allLt (p : Nat → Prop) : Nat → Prop
  | 0 => True
  | n + 1 => allLt p n ∧ p n
theorem allLt_ok {p : Nat → Prop} {n : Nat} (h : allLt p n) : ∀ i, i < n → p i := by
  induction n with
  | zero => intro i hi; omega
  | succ n ih =>
    intro i hi
    by_cases e : i = n
    · subst e; exact h.2
    · exact ih h.1 i (by omega)

/-! ### loops -/
theorem LoopW.by {kb : Nat} {F : AS → (Ex → AS → Prop) → Prop} {Q : Ex → AS → Prop} {ι : Type} (st : ι → AS) (Pre : ι → Prop) (μ : ι → Nat)
    (h : ∀ (X : AS → Prop), (∀ s s', Le kb s s' → X s' → X s) → ∀ i, Pre i → (∀ j, μ j < μ i → Pre j → X (st j)) → F (st i) (fun e s' => match e with | .norm => X s' | e => Q e s'))
    (i : ι) (hi : Pre i) : LoopW kb F (st i) Q := ⟨fun X hF hL => by
  have : ∀ n i, μ i < n → Pre i → X (st i) := by
    intro n
    induction n with
    | zero => intro i h; omega
    | succ n ih => exact fun i hn hp => hF _ (h X hL i hp fun j hj hpj => ih j (by omega) hpj)
  exact this _ i (Nat.lt_succ_self _) hi⟩
theorem LoopW.le {kb : Nat} {F : AS → (Ex → AS → Prop) → Prop} {Q : Ex → AS → Prop} {s s' : AS} (h : Le kb s s') (hl : LoopW kb F s' Q) : LoopW kb F s Q :=
  ⟨fun X hF hL => hL _ _ h (hl.out X hF hL)⟩
theorem Le.cutEnv {kb : Nat} (n : Nat) {t t' : List (Nat × AV)} {K K' : List ABlk} (hn : Nat.ble kb n = true) (ht : clE n t' = true) (hK : clK n (takeN K n)) (h : subE t t') (hK' : lesK (takeN K n) K') : Le kb ⟨t, K⟩ ⟨t', K'⟩ := by
  refine Le.trans (Le.env h (lesK.refl K)) (Le.trans (Le.cut hn ht hK) ?_)
  exact fun _ _ _ _ m _ hT hS hE => ⟨m, hT, hS.les hK', hE, .refl m⟩
theorem loop_by {kb : Nat} {F : AS → (Ex → AS → Prop) → Prop} {Q : Ex → AS → Prop} {t : List (Nat × AV)} {K : List ABlk} {ι : Type} (st : ι → AS) (Pre : ι → Prop) (μ : ι → Nat) (i : ι)
    (hs : subE t (st i).t) (hK : lesK K (st i).K) (hi : Pre i)
    (h : ∀ (X : AS → Prop), (∀ s s', Le kb s s' → X s' → X s) → ∀ i, Pre i → (∀ j, μ j < μ i → Pre j → X (st j)) → F (st i) (fun e s' => match e with | .norm => X s' | e => Q e s')) :
    LoopW kb F ⟨t, K⟩ Q := LoopW.le (Le.env hs hK) (LoopW.by st Pre μ h i hi)
end
end Go.AE
