/-
  AE, part 10: a nil slice as a row of nothing that may grow; results said in weaker words. Own metatheory over any program; no statement of the seat is proved here.
-/
import Derived.Test.YtbcngegcpdppfaaGreatDoorAeKit
namespace Go.AE
section
variable {P : Program} {T : Tab}

/-- a value in weaker words, or nil as a row of nothing -/
def nsw (r : Nat) (a b : AV) : Prop := a.le b ∨ (a = .p .nils ∧ b = .slr r 0 0 0)
def nswL (r : Nat) : List AV → List AV → Prop
  | [], [] => True
  | a :: l, b :: l' => nsw r a b ∧ nswL r l l'
  | _, _ => False
def nswB (r : Nat) (b b' : ABlk) : Prop := b.le b' ∨ ∃ ty cs cs', b = .box ty cs ∧ b' = .box ty cs' ∧ nswL r cs cs'
def nswK (r : Nat) : List ABlk → List ABlk → Prop
  | [], [] => True
  | a :: l, b :: l' => nswB r a b ∧ nswK r l l'
  | _, _ => False
def nswE (r : Nat) (t : List (Nat × AV)) : List (Nat × AV) → Prop
  | [] => True
  | (d, v) :: l => nsw r (look t d) v ∧ nswE r t l

theorem nsw.v {r : Nat} {a b : AV} (h : nsw r a b) {w : World} {m : Mp} {u : Value} (hr : m.L r = .nil 0) (hv : V w m a u) : V w m b u := by
  rcases h with h | ⟨rfl, rfl⟩
  · exact h _ _ _ hv
  · cases hv with
    | p _ _ h => cases h; exact .slrNil r 0 hr
theorem nswL.get {r : Nat} {l l' : List AV} (h : nswL r l l') : l.length = l'.length ∧ ∀ j (hj : j < l.length) (hj' : j < l'.length), nsw r l[j] l'[j] := by
  induction l generalizing l' with
  | nil => cases l' with
    | nil => exact ⟨rfl, fun j hj => by simp at hj⟩
    | cons b l' => exact h.elim
  | cons a l ih => cases l' with
    | nil => exact h.elim
    | cons b l' =>
      obtain ⟨h1, h2⟩ := ih h.2
      refine ⟨by simp [h1], fun j hj hj' => ?_⟩
      cases j with
      | zero => exact h.1
      | succ j => exact h2 j (by simpa using hj) (by simpa using hj')
theorem nswB.ok {r : Nat} {b b' : ABlk} (h : nswB r b b') {w : World} {m : Mp} {l : Inf} {g : Nat} (hr : m.L r = .nil 0) (hb : BlkOk w m l g b) : BlkOk w m l g b' := by
  rcases h with h | ⟨ty, cs, cs', rfl, rfl, h⟩
  · exact h _ _ _ _ hb
  · obtain ⟨h1, h2⟩ := h.get
    obtain ⟨hl, c, hc, hs, hv⟩ := hb
    refine ⟨by rw [← h1]; exact hl, c, hc, by rw [hs, h1], fun j hj => ?_⟩
    obtain ⟨u, hu, hv⟩ := hv j (by omega)
    exact ⟨u, hu, (h2 j (by omega) hj).v hr hv⟩
theorem nswK.length {r : Nat} {K K' : List ABlk} (h : nswK r K K') : K.length = K'.length := by
  induction K generalizing K' with
  | nil => cases K' with
    | nil => rfl
    | cons b l' => exact h.elim
  | cons a l ih => cases K' with
    | nil => exact h.elim
    | cons b l' => simp [ih h.2]
theorem nswK.hp {r : Nat} {K K' : List ABlk} (h : nswK r K K') (j : Nat) : nswB r (hp K j) (hp K' j) := by
  induction K generalizing K' j with
  | nil => cases K' with
    | nil => exact .inl (ABlk.le_refl _)
    | cons b l' => exact h.elim
  | cons a l ih => cases K' with
    | nil => exact h.elim
    | cons b l' =>
      cases j with
      | zero => exact h.1
      | succ j => exact ih h.2 j
theorem nswK.refl (r : Nat) (K : List ABlk) : nswK r K K := by
  induction K with
  | nil => trivial
  | cons b K ih => exact ⟨.inl (ABlk.le_refl b), ih⟩
theorem nswE.look {r : Nat} {t t' : List (Nat × AV)} (h : nswE r t t') (d : Nat) : nsw r (look t d) (look t' d) := by
  induction t' with
  | nil => exact .inl (AV.le_junk _)
  | cons x l ih =>
    obtain ⟨j, v⟩ := x
    rw [look_cons]
    by_cases e : j = d
    · subst e; rw [if_pos rfl]; exact h.1
    · rw [if_neg e]; exact ih h.2

theorem Tr.nil {w : World} {m : Mp} {r : Nat} (hr : m.L r = .absent) : Tr w m w (m.set r 0 (.nil 0)) where
  os := rfl
  tape := rfl
  output := rfl
  size := Nat.le_refl _
  out := fun _ _ _ => rfl
  imm := fun _ h => h
  same := fun _ _ => rfl
  newI := fun _ h => .inl h
  step := fun k => by
    simp only [Mp.set]
    by_cases hk : k = r
    · subst hk; rw [hr]; trivial
    · simp only [hk, if_false]; exact Inf.step_refl _ _ trivial
  newρ := fun k hk => by
    simp only [Mp.set] at hk ⊢
    by_cases hk' : k = r
    · subst hk'; simp [Inf.isLive] at hk
    · simp only [hk', if_false] at hk ⊢; exact .inl ⟨hk, trivial⟩

theorem nil_core {w : World} {m : Mp} {K K' : List ABlk} (ty sz : Nat) (f : Nat → List AV) (hS : St w m (hp K)) (hK : nswK K.length K K') :
    ∃ m', Tr w m w m' ∧ St w m' (hp (K' ++ [.arr ty sz 0 0 f])) ∧ m'.L K.length = .nil 0 := by
  have ha : m.L K.length = .absent := hS.ge _ (Nat.le_refl _)
  have hT2 := Tr.nil (w := w) ha
  have hr : (m.set K.length 0 (.nil 0)).L K.length = .nil 0 := by simp [Mp.set]
  have hlive : ∀ k, ((m.set K.length 0 (.nil 0)).L k).isLive → k ≠ K.length ∧ (m.L k).isLive := fun k hk => by
    simp only [Mp.set] at hk
    by_cases e : k = K.length
    · simp [e, Inf.isLive] at hk
    · exact ⟨e, by simpa [e] using hk⟩
  have hρ : ∀ k, k ≠ K.length → (m.set K.length 0 (.nil 0)).ρ k = m.ρ k := fun k hk => by simp [Mp.set, hk]
  refine ⟨_, hT2, ⟨fun r1 r2 h1 h2 e => ?_, fun r1 h1 => ?_, fun r1 h1 => ?_, hS.Ilt, hS.gl, fun j => ?_⟩, hr⟩
  · rw [hρ _ (hlive _ h1).1, hρ _ (hlive _ h2).1] at e
    exact hS.inj r1 r2 (hlive _ h1).2 (hlive _ h2).2 e
  · rw [hρ _ (hlive _ h1).1]; exact hS.notI r1 (hlive _ h1).2
  · rw [hρ _ (hlive _ h1).1]; exact hS.lt r1 (hlive _ h1).2
  · rw [hp_append, ← hK.length]
    by_cases e : j < K.length
    · rw [if_pos e]
      have hb := (hS.blk j).mono (w' := w) (m' := m.set K.length 0 (.nil 0)) rfl (fun a u hv => hv.mono hT2)
      have hL : (m.set K.length 0 (.nil 0)).L j = m.L j := by simp [Mp.set, show j ≠ K.length by omega]
      rw [hL, hρ _ (show j ≠ K.length by omega)]
      exact (hK.hp j).ok hr hb
    · rw [if_neg e]
      by_cases e2 : j = K.length
      · subst e2
        rw [hr, Nat.sub_self]
        exact .inl ⟨rfl, rfl⟩
      · have : hp [ABlk.arr ty sz 0 0 f] (j - K.length) = .absent := hp_ge _ _ (by simp; omega)
        rw [this]
        show (m.set K.length 0 (.nil 0)).L j = .absent
        have := hS.ge j (by omega)
        simpa [Mp.set, e2] using this

theorem Le.nilRow {kb : Nat} {t t' : List (Nat × AV)} {K K' : List ABlk} (ty sz : Nat) (f : Nat → List AV) (_ : Nat.ble kb K.length = true) (ht : nswE K.length t t') (hK : nswK K.length K K') :
    Le kb ⟨t, K⟩ ⟨t', K' ++ [.arr ty sz 0 0 f]⟩ := fun we me hk w m tmps hT hS hE => by
  obtain ⟨m', h1, h2, h3⟩ := nil_core ty sz f hS hK
  exact ⟨m', hT.trans h1, h2, fun d => (ht.look d).v h3 ((hE d).mono h1), .tr h1 h2⟩

/-- behind a call: a nil slice is a row of nothing -/
theorem ACalls.nil {f : FuncId} {args : List AV} {K : List ABlk} {k : AO → List ABlk → Prop}
    (h : ACalls P f args K (fun ao K1 => ∃ ty sz g K2, nswK K1.length K1 K2 ∧ k ao (K2 ++ [.arr ty sz 0 0 g]))) : ACalls P f args K k := by
  refine h.post fun ao K1 ⟨ty, sz, g, K2, h1, h2⟩ => ⟨ao.val, K2 ++ [.arr ty sz 0 0 g], fun w m u we me hT hk hS hV => ?_, by cases ao <;> exact h2⟩
  obtain ⟨m', h3, h4, _⟩ := nil_core ty sz g hS h1
  exact ⟨m', hT.trans h3, h4, hV.mono h3⟩

theorem loop_nil {kb : Nat} {F : AS → (Ex → AS → Prop) → Prop} {Q : Ex → AS → Prop} {t : List (Nat × AV)} {K : List ABlk} {ι : Type} (ty sz : Nat) (f : Nat → List AV) (st : ι → AS) (Pre : ι → Prop) (μ : ι → Nat) (i : ι) (K1 : List ABlk)
    (hkb : Nat.ble kb K.length = true) (hs : nswE K.length t (st i).t) (hK : nswK K.length K K1) (hK1 : (st i).K = K1 ++ [.arr ty sz 0 0 f]) (hi : Pre i)
    (h : ∀ (X : AS → Prop), (∀ s s', Le kb s s' → X s' → X s) → ∀ i, Pre i → (∀ j, μ j < μ i → Pre j → X (st j)) → F (st i) (fun e s' => match e with | .norm => X s' | e => Q e s')) :
    LoopW kb F ⟨t, K⟩ Q := by
  refine LoopW.le (Le.nilRow ty sz f hkb hs hK) ?_
  have := LoopW.by (kb := kb) (F := F) (Q := Q) st Pre μ h i hi
  have e : st i = ⟨(st i).t, K1 ++ [.arr ty sz 0 0 f]⟩ := by
    cases hst : st i
    rw [hst] at hK1
    simp only at hK1
    rw [hK1]
  rwa [e] at this

/-- a loop, ahead of which what lies behind n blocks is forgotten -/
theorem loop_cut {kb : Nat} {F : AS → (Ex → AS → Prop) → Prop} {Q : Ex → AS → Prop} {t : List (Nat × AV)} {K : List ABlk} {ι : Type} (n : Nat) (st : ι → AS) (Pre : ι → Prop) (μ : ι → Nat) (i : ι)
    (hn : Nat.ble kb n = true) (ht : clE n (st i).t = true) (hs : subE t (st i).t) (hK : clK n (takeN K n)) (hK' : lesK (takeN K n) (st i).K) (hi : Pre i)
    (h : ∀ (X : AS → Prop), (∀ s s', Le kb s s' → X s' → X s) → ∀ i, Pre i → (∀ j, μ j < μ i → Pre j → X (st j)) → F (st i) (fun e s' => match e with | .norm => X s' | e => Q e s')) :
    LoopW kb F ⟨t, K⟩ Q := LoopW.le (Le.cutEnv (t' := (st i).t) (K' := (st i).K) n hn ht hK hs hK') (LoopW.by st Pre μ h i hi)

/-- a value that tells more, as one that tells less: rows that nobody writes to are frozen -/
theorem Wk1.tup_freeze1 {N : Nat} {K : List ABlk} {r ty sz ver n : Nat} {f : Nat → List AV} {l : List AV} (hr : nth K r = some (.arr ty sz ver n f)) (g : Nat → List PV) (hg : ∀ i, i < n → f i = pvs (g i)) :
    Wk1 N (.tup (.slr r ver 0 n :: l)) K (.tup (.p (.sl sz n g) :: l)) (setN K r .dead) := fun w m u we me hT _ hS hV => by
  obtain ⟨m', h1, h2, h3⟩ := freeze_sl hS hr g hg
  refine ⟨m', hT.trans h1, h2, ?_⟩
  cases hV with
  | tup _ A hA hv =>
    refine .tup _ A hA fun j hj hj' => ?_
    cases j with
    | zero => exact h3 _ (hv 0 (by simp) hj')
    | succ j => exact (hv (j + 1) (by simpa using hj) hj').mono h1
theorem AV.tup_le {l l' : List AV} (h : lesL l l') : (AV.tup l).le (.tup l') := fun w m u hV => by
  obtain ⟨h1, h2⟩ := h.get
  cases hV with
  | tup _ A hA hv => exact .tup _ A (by rw [← h1]; exact hA) fun j hj hj' => h2 j (by omega) hj _ _ _ (hv j (by omega) hj')
end
end Go.AE
