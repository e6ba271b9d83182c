/-
  AE, part 7c: the abstract weakest precondition holds of the model's code and calls. Own metatheory over any program; no statement of the seat is proved here.
-/
import Derived.Test.YtbcngegcpdppfaaGreatDoorAeDraw
namespace Go.AE
section
variable {P : Program} {T : Tab} {call : ACall} {we : World} {me : Mp} {N kb : Nat} {D0 : List Deferred} {bm : Bool} {ro : Option Nat} {nn : Nat}

/-! ### code -/
theorem FW.room (n : Nat) : (FW ro).room n := fun _ h => by simp [FW, Fence.wide] at h
/-- a loop, at the head of its round -/
def AtHead (P : Program) (ro : Option Nat) (c : Code) (Q : Exit → Act → World → Prop) (a : Act) (w : World) : Prop :=
  ∀ (b : Frame) (k : List Item) (cs : List Frame), b.roundOf = ro → ∃ e a' w', Q e a' w' ∧ ArrivesIn (Machine.fenced P (FW ro)) P (lone (b.atR a (.code c :: .inLoop c :: k)) cs w) b k cs e a' w'

theorem AtHead.step {c : Code} {Q : Exit → Act → World → Prop} {a : Act} {w : World} (h : c.wpIn (FW ro) nn P (fun e a' w' => match e with | .normal => AtHead P ro c Q a' w' | e => Q e a' w') a w) : AtHead P ro c Q a w := by
  intro b k cs hro
  obtain ⟨e, a₁, w₁, hq, harr⟩ := h b (.inLoop c :: k) cs hro trivial (FW.room _)
  cases e with
  | normal =>
    obtain ⟨e₂, a₂, w₂, hq₂, harr₂⟩ := hq b k cs hro
    exact ⟨e₂, a₂, w₂, hq₂, .of_steps (StepsIn.trans harr (.one (fenced_calm (n := 0) trivial (FW.room _) rfl) stepR_inLoop)) harr₂⟩
  | exit id => exact ⟨_, a₁, w₁, hq, .pass (x := .inLoop c) rfl (fun _ _ => .inl (by simp)) harr⟩
  | goto l => exact ⟨_, a₁, w₁, hq, .pass (x := .inLoop c) rfl (fun _ _ => .inl (by simp)) harr⟩
  | ret => exact ⟨_, a₁, w₁, hq, .pass (x := .inLoop c) rfl (fun _ _ => .inl (by simp)) harr⟩
  | panic ch => exact ⟨_, a₁, w₁, hq, .pass (x := .inLoop c) rfl (fun _ _ => .inl (by simp)) harr⟩
  | outgrown => exact ⟨_, a₁, w₁, hq, .pass (x := .inLoop c) rfl (fun _ _ => .inl (by simp)) harr⟩

theorem AtHead.loop {c : Code} {Q : Exit → Act → World → Prop} {a : Act} {w : World} (h : AtHead P ro c Q a w) : (Code.loop c).wpIn (FW ro) nn P Q a w := by
  intro b k cs hro hb hr
  obtain ⟨e, a', w', hq, harr⟩ := h b k cs hro
  exact ⟨e, a', w', hq, .of_steps (.one (fenced_calm hb hr rfl) stepR_loop) harr⟩

theorem mem_cons (l : List Nat) (a n : Nat) : mem (a :: l) n = (Nat.beq a n || mem l n) := by
  simp only [mem]
  cases Nat.beq a n <;> rfl

theorem fE_ok {t : List (Nat × AV)} {seen : List Nat} {k : List (Nat × AV) → Prop} (h : fE seen t k) : ∃ t', k t' ∧ ∀ d, mem seen d = false → look t' d = look t d := by
  induction t generalizing seen k with
  | nil => exact ⟨[], h, fun _ _ => rfl⟩
  | cons x r ih =>
    obtain ⟨d, v⟩ := x
    rw [fE_cons] at h
    split at h
    · rename_i hm
      obtain ⟨t', h1, h2⟩ := ih h
      refine ⟨t', h1, fun j hj => ?_⟩
      rw [look_cons, h2 j hj]
      by_cases e : d = j
      · subst e; rw [hm] at hj; simp at hj
      · rw [if_neg e]
    · rw [fV_eq] at h
      obtain ⟨t', h1, h2⟩ := ih h
      refine ⟨_, h1, fun j hj => ?_⟩
      rw [look_cons, look_cons]
      by_cases e : d = j
      · rw [if_pos e, if_pos e]
      · rw [if_neg e, if_neg e]
        refine h2 j ?_
        rw [mem_cons, hj, Bool.or_false]
        exact Bool.eq_false_iff.2 fun hb => e (Nat.eq_of_beq_eq_true hb)

/-- a block that nobody owns -/
theorem Tr.allocN {w : World} {m : Mp} (hI : ∀ b, m.I b → b < w.heap.size) (o : Obj) : Tr w m (w.alloc o) m where
  os := rfl
  tape := rfl
  output := rfl
  size := by simp
  out := fun b hb _ => heap_alloc w o b hb
  imm := fun _ h => h
  same := fun b hb => heap_alloc w o b (hI b hb)
  newI := fun _ h => .inl h
  step := fun _ => Inf.step_refl _ _ rfl
  newρ := fun _ hr => .inl ⟨hr, rfl⟩
theorem St.allocN {w : World} {m : Mp} {H : Nat → ABlk} (h : St w m H) (o : Obj) : St (w.alloc o) m H := by
  have hT := Tr.allocN h.Ilt o
  refine ⟨h.inj, h.notI, fun r hr => by have := h.lt r hr; simp; omega, fun b hb => by have := h.Ilt b hb; simp; omega, h.gl.mono hT.imm hT.same, fun r => ?_⟩
  by_cases hl : (m.L r).isLive
  · exact (h.blk r).mono (heap_alloc w o _ (h.lt r hl)) (fun _ _ hv => hv.mono hT)
  · exact (h.blk r).nolive hl

theorem Mk.lt {w : World} {m : Mp} (hD0 : ∀ d ∈ D0, ∀ D, d.target ≠ .collected D) {ds : List Deferred} (h : Mk bm we D0 w m ds) : ∀ d ∈ ds, ∀ D, d.target = .collected D → D < w.heap.size := by
  induction h with
  | base => exact fun d hd D e => absurd e (hD0 d hd D)
  | mark hb D ds h1 h2 h3 h4 h5 _ ih =>
    intro d hd D' e
    rcases List.mem_cons.1 hd with rfl | hd
    · injection e with e
      subst e
      exact (Array.getElem?_eq_some_iff.1 h2).1
    · exact ih d hd D' e

/-- a loop's record stands where it stood -/
theorem lp_stands {w w' : World} {m m' : Mp} (t : Tr w m w' m') {r : Nat} (h : m.L r = .live 0 1 1 1) (h' : m'.L r = .live 0 1 1 1) : m'.ρ r = m.ρ r := by
  have hs := t.step r
  rw [h, h'] at hs
  simp only [Inf.step] at hs
  rcases hs with hs | ⟨_, he⟩ | ⟨v', n', sz', cap', hs, hlt⟩
  · cases hs
  · exact he
  · simp only [Inf.live.injEq] at hs; omega

/-- behind the function that was ranged over -/
theorem endRF_ok {s : AS} {Q : Ex → AS → Prop} {w w2 : World} {m m2 : Mp} {a : Act} {l D : Nat} {e : Ending} {w' : World} (hT12 : Tr w m w2 m2) (hL2 : m2.L (len s.K) = .live 0 1 1 1) (hρ2 : m2.ρ (len s.K) = l)
    (hTr : Tr we me w m) (hE : EnvOk w m s.t a.tmps) (hN : a.tmps.size = N) (hMk2 : Mk bm we D0 w2 m2 ({ target := .collected D, args := #[] } :: a.defers))
    (hR : Post w2 m2 (endRF s Q (len s.K)) e w') : rangePost (FW ro) nn P l (Rel bm N we me D0 Q) { a with defers := [{ target := .collected D, args := #[] }] ++ a.defers } e w' := by
  cases e with
  | returned v =>
    obtain ⟨m', av, K', h1, h2, h3, h4⟩ := hR
    simp only [endRF] at h4
    split at h4
    case h_2 => exact h4.elim
    rename_i st env' N' ps' as' bd' hnth
    rw [fL_eq] at h4
    have hb := h2.blk (len s.K)
    rw [hp_nth hnth] at hb
    obtain ⟨hl, p, fn', tmps', D, hh, hp', hsz', hV'⟩ := hb
    have hρ' : m'.ρ (len s.K) = l := (lp_stands h1 hL2 hl).trans hρ2
    have hlive : (m'.L (len s.K)).isLive := by rw [hl]; trivial
    obtain ⟨o, ho⟩ : ∃ o : Obj, o = .loop { state := .exhausted, pending := p, fn := fn', tmps := tmps', params := ps', assign := as', body := bd', defers := D } := ⟨_, rfl⟩
    have hT3 := Tr.putObj h2 (len s.K) hlive o
    have hS3 := h2.putObj (len s.K) hlive o (.lp .over env' N' ps' as' bd') ⟨hl, p, fn', tmps', D, by rw [World.putObj_heap_same (h2.lt _ hlive), ho]; rfl, trivial, hsz', fun d => (hV' d).mono hT3⟩
    rw [← hp_set K' (len s.K) _ _ hnth, hρ'] at hS3
    rw [hρ'] at hT3
    have hrun : st.state ≠ .busy → (Instr.endLoop l).run P w' = .ok p (w'.putObj l o) := fun hst => by
      rw [ho]; rw [hρ'] at hh; exact run_endLoop hh hst
    have hTT : Tr we me (w'.putObj l o) m' := (hTr.trans hT12).trans (h1.trans hT3)
    have hEE : EnvOk (w'.putObj l o) m' s.t a.tmps := (hE.mono hT12).mono (h1.trans hT3)
    have hMM := hMk2.mono (h1.trans hT3)
    cases st with
    | ready =>
      have hp'' : p = none := hp'
      subst hp''
      exact ⟨none, _, hrun (by simp [LSt.state]), hN, m', ⟨s.t, _⟩, hMM, hTT, hS3, hEE, h4⟩
    | ret =>
      have hp'' : p = some .ret := hp'
      subst hp''
      exact ⟨some .ret, _, hrun (by simp [LSt.state]), wpIn_ret ⟨hN, m', ⟨s.t, _⟩, hMM, hTT, hS3, hEE, h4⟩⟩
    | exit n =>
      have hp'' : p = some (.exit n) := hp'
      subst hp''
      exact ⟨some (.exit n), _, hrun (by simp [LSt.state]), wpIn_exit ⟨hN, m', ⟨s.t, _⟩, hMM, hTT, hS3, hEE, h4⟩⟩
    | busy => exact h4.elim
    | over => exact h4.elim
  | panicked ch =>
    obtain ⟨m', av, u, K', rfl, h1, h2, h3, h4⟩ := hR
    exact ⟨hN, m', ⟨s.t, K'⟩, av, u, hMk2.mono h1, rfl, (hTr.trans hT12).trans h1, h2, (hE.mono hT12).mono h1, h3, h4⟩
  | outgrown => exact hR.elim

theorem rangeF_ok (hT : TabOk P T) (hcall : CallOk P call) (hmix : P.follows .mixedOrders = true) (hD0 : ∀ d ∈ D0, ∀ D, d.target ≠ .collected D) (hro : ro = none) (hbm : bm = true)
    (g : Operand) (ps : Array Tmp) (assign body : Code) (s : AS) (Q : Ex → AS → Prop) {x y : AW} (h : wRangeF call N g ps assign body x y s Q)
    (w : World) (m : Mp) (a : Act) (hTr : Tr we me w m) (hS : St w m (hp s.K)) (hE : EnvOk w m s.t a.tmps) (hN : a.tmps.size = N) (hd : Mk bm we D0 w m a.defers) :
    (Code.rangeFunc g ps assign body).wpIn (FW ro) nn P (Rel bm N we me D0 Q) a w := by
  subst hro
  unfold wRangeF at h
  split at h
  case h_1 => exact h.elim
  obtain ⟨env, henv, hE'⟩ := fE_ok h
  rw [fN_eq, fL_eq] at henv
  refine wpIn_rangeFunc ?_
  intro fn _
  obtain ⟨rec, hrec⟩ : ∃ rec : Loop, rec = { state := .ready, pending := none, fn, tmps := a.tmps, params := ps, assign, body, defers := w.heap.size } := ⟨_, rfl⟩
  have hT1 := Tr.allocN hS.Ilt (.deferred (some []))
  have hS1 := hS.allocN (.deferred (some []))
  have hr0 : hp s.K (len s.K) = .absent := by
    simp only [hp, nth_eq]
    rw [List.getElem?_eq_none (by rw [len_eq]; exact Nat.le_refl _)]
  have hL0 : m.L (len s.K) = .absent := hS.absent hr0
  have hT2 := Tr.alloc (w.alloc (.deferred (some []))) m (.loop rec) (len s.K) (.live 0 1 1 1) hL0 hS1.Ilt
  have hT12 := hT1.trans hT2
  have hlp : BlkOk ((w.alloc (.deferred (some []))).alloc (.loop rec)) (m.set (len s.K) (w.alloc (.deferred (some []))).heap.size (.live 0 1 1 1)) (.live 0 1 1 1) (w.alloc (.deferred (some []))).heap.size
      (.lp .ready env N ps assign body) :=
    ⟨rfl, none, fn, a.tmps, w.heap.size, by rw [World.alloc_heap_new, hrec]; rfl, rfl, hN, fun d => by rw [hE' d rfl]; exact (hE d).mono hT12⟩
  have hS2 := hS1.alloc (.loop rec) (len s.K) (.live 0 1 1 1) hr0 _ hlp
  rw [← hp_snoc] at hS2
  have hsz : (w.alloc (.deferred (some []))).heap.size = w.heap.size + 1 := by simp
  rw [hsz] at hS2 hT2 hT12
  obtain ⟨w2, hw2⟩ : ∃ w2, (w.alloc (.deferred (some []))).alloc (.loop rec) = w2 := ⟨_, rfl⟩
  obtain ⟨m2, hm2⟩ : ∃ m2, m.set (len s.K) (w.heap.size + 1) (.live 0 1 1 1) = m2 := ⟨_, rfl⟩
  rw [hw2, hm2] at hS2 hT12
  have hL2 : m2.L (len s.K) = .live 0 1 1 1 := by rw [← hm2]; simp [Mp.set]
  have hρ2 : m2.ρ (len s.K) = w.heap.size + 1 := by rw [← hm2]; simp [Mp.set]
  have hD2 : w2.heap[w.heap.size]? = some (.deferred (some [])) := by
    rw [← hw2]
    exact (heap_alloc _ _ _ (by simp)).trans (World.alloc_heap_new w _)
  have hMk2 : Mk bm we D0 w2 m2 ({ target := .collected w.heap.size, args := #[] } :: a.defers) := by
    refine .mark hbm _ _ hTr.size hD2 (fun hI => ?_) (fun r hr e => ?_) (fun d hd' e => ?_) (hd.mono hT12)
    · rw [← hm2] at hI; have := hS.Ilt _ hI; omega
    · rw [← hm2] at hr e
      simp only [Mp.set] at hr e
      by_cases er : r = len s.K
      · simp [er] at e
      · simp only [er, if_false] at hr e; have := hS.lt r hr; omega
    · have := hd.lt hD0 d hd' _ e; omega
  have hyl : V w2 m2 (.yld (len s.K)) (.func (.yield (w.heap.size + 1)) #[] #[]) := by rw [← hρ2]; exact .yld _ _ _ hL2
  -- the call
  have key : ∀ (f : FuncId) (A B : Array Value) (args : List AV), a.eval g = .func (.func f) A B → VL w2 m2 args (A ++ #[.func (.yield (w.heap.size + 1)) #[] #[]] ++ B) →
      callF call f args (snoc s.K (.lp .ready env N ps assign body)) (endRF s Q (len s.K)) →
      ∃ (l : Nat) (mark : List Deferred) (w₁ : World) (d : Deferred) (w₁' : World) (f : FuncId) (args : Array Value) (w₂ : World),
      (Instr.enterLoop fn a.tmps ps assign body (FW none).round).run P w = .ok (l, mark) w₁ ∧
      (resolve a.eval (rangeCall g l) 0).run P w₁ = .ok d w₁' ∧
      (∀ f', Target.leads P w₁' d.target d.args = some f' → (FW none).fn f') ∧
      (invoke d.target d.args).run P w₁' = .ok (.enter f args) w₂ ∧
      ((FW none).depth.isSome = true → 1 ≤ nn) ∧
      CallsIn (FW none) (nn - 1) P f args w₂ (rangePost (FW none) nn P l (Rel bm N we me D0 Q) { a with defers := mark ++ a.defers }) := by
    intro f A B args hg hV hc
    have hent := (callF_ok hcall hc).1
    have hcalls := (callF_ok hcall hc).2 w2 m2 _ hS2 hV
    have hpost : ∀ e w', Post w2 m2 (endRF s Q (len s.K)) e w' → rangePost (FW none) nn P (w.heap.size + 1) (Rel bm N we me D0 Q) { a with defers := [{ target := .collected w.heap.size, args := #[] }] ++ a.defers } e w' := by
      intro e w' hR
      exact endRF_ok hT12 hL2 hρ2 hTr hE hN hMk2 hR
    have hcc : CallsIn (FW none) (nn - 1) P f (A ++ #[.func (.yield (w.heap.size + 1)) #[] #[]] ++ B) w2 (rangePost (FW none) nn P (w.heap.size + 1) (Rel bm N we me D0 Q) { a with defers := [{ target := .collected w.heap.size, args := #[] }] ++ a.defers }) :=
      FW.calls (hcalls.mono hpost)
    have h1 : (Instr.enterLoop fn a.tmps ps assign body (FW none).round).run P w = .ok (w.heap.size + 1, [{ target := .collected w.heap.size, args := #[] }]) w2 := by
      rw [← hw2, hrec]; exact run_enterLoop_outer _ _ _ _ _
    have h2 : (resolve a.eval (rangeCall g (w.heap.size + 1)) 0).run P w2 = .ok { target := .fn (.func f) B, args := A ++ #[.func (.yield (w.heap.size + 1)) #[] #[]] } w2 := by
      simp only [resolve, hg]
      simp [go_sem]
    have h3 : (invoke (.fn (.func f) B) (A ++ #[.func (.yield (w.heap.size + 1)) #[] #[]])).run P w2 = .ok (.enter f (A ++ #[.func (.yield (w.heap.size + 1)) #[] #[]] ++ B)) w2 := by
      simp [invoke, callFunc_run hent]
    exact ⟨_, _, w2, _, w2, f, _, w2, h1, h2, fun _ _ => trivial, h3, FW.depth, hcc⟩
  have hg := (hE.ev g).mono hT12
  generalize hgv : a.eval g = ug at hg
  generalize ev s.t g = ag at henv hg
  cases hg with
  | fn f first cap A B hA hB h1 h2 =>
    simp only [fVL_eq, catL_eq] at henv
    refine key f A B _ hgv ?_ henv
    have hc : VL w2 m2 [.yld (len s.K)] #[.func (.yield (w.heap.size + 1)) #[] #[]] := ⟨rfl, fun j hj hj' => by
      have : j = 0 := by simpa using hj
      subst this; exact hyl⟩
    have := (VL.append ⟨hA, h1⟩ hc).append ⟨hB, h2⟩
    simpa using this
  | p v u hv =>
    cases hv with
    | fn f =>
      refine key f #[] #[] _ hgv ?_ henv
      exact ⟨rfl, fun j hj hj' => by
        have : j = 0 := by simpa using hj
        subst this; exact hyl⟩
    | _ => exact henv.elim
  | _ => exact henv.elim

theorem awp_ok (hT : TabOk P T) (hcall : CallOk P call) (hmix : P.follows .mixedOrders = true) (hkb : ∀ r, kb ≤ r → me.L r = .absent) (hD0 : ∀ d ∈ D0, ∀ D, d.target ≠ .collected D) (c : Code) : ∀ (s : AS) (Q : Ex → AS → Prop), awp T call kb N c s Q →
    ∀ (w : World) (m : Mp) (a : Act), Tr we me w m → St w m (hp s.K) → EnvOk w m s.t a.tmps → a.tmps.size = N → Mk bm we D0 w m a.defers → ((ro = none ∧ bm = true) ∨ noRF c = true) → c.wpIn (FW ro) nn P (Rel bm N we me D0 Q) a w := by
  induction c with
  | skip => intro s Q h w m a hTr hS hE hN hd hrf; exact wpIn_skip ⟨hN, m, s, hd, hTr, hS, hE, h⟩
  | ret => intro s Q h w m a hTr hS hE hN hd hrf; exact wpIn_ret ⟨hN, m, s, hd, hTr, hS, hE, h⟩
  | exit n => intro s Q h w m a hTr hS hE hN hd hrf; exact wpIn_exit ⟨hN, m, s, hd, hTr, hS, hE, h⟩
  | region id ops draw =>
    intro s Q h w m a hTr hS hE hN hd hrf
    cases draw with
    | true =>
      replace h : wRegion T call N id ops true s Q := h
      simp only [wRegion] at h
      split at h
      case h_2 => exact h.elim
      rename_i hB
      exact adraw_ok hT hcall hmix hB h w m a hTr hS hE hN hd
    | false => exact wpIn_region_list (aops_ok hT hcall ops.toList _ _ h w m a hTr hS hE hN hd)
  | seq x y ihx ihy =>
    intro s Q h w m a hTr hS hE hN hd hrf
    replace h : awp T call kb N x s (wSeqK (awp T call kb N y) Q) := h
    refine wpIn_seq (wpIn_mono (ihx s _ h w m a hTr hS hE hN hd (hrf.imp id fun h => by simp only [noRF, Bool.and_eq_true] at h; exact h.1)) (fun e a' w' hR => ?_))
    cases e with
    | normal =>
      obtain ⟨h1, m', s', h2, h3, h4, h5, h6⟩ := hR
      exact ihy s' Q h6 w' m' a' h3 h4 h5 h1 h2 (hrf.imp id fun h => by simp only [noRF, Bool.and_eq_true] at h; exact h.2)
    | exit n => exact hR
    | ret => exact hR
    | panic ch => exact hR
    | goto l => exact hR
    | outgrown => exact hR
  | cond cc x y ihx ihy =>
    intro s Q h w m a hTr hS hE hN hd hrf
    cases cc with
    | tmp i =>
      replace h : wCond (.tmp i) x y (awp T call kb N x) (awp T call kb N y) s Q := h
      simp only [wCond] at h
      split at h
      case h_2 => exact h.elim
      rename_i q hq
      have hb := hE.bool hq
      have hev : a.eval (.tmp i) = .bool q := by simp [Act.eval, Array.getD_eq_getD_getElem?, hb]
      have hE' := hE.know hq
      refine wpIn_cond hev ?_
      cases q with
      | true => exact ihx _ Q h w m a hTr hS hE' hN hd (hrf.imp id fun h => by simp only [noRF, Bool.and_eq_true] at h; exact h.1)
      | false => exact ihy _ Q h w m a hTr hS hE' hN hd (hrf.imp id fun h => by simp only [noRF, Bool.and_eq_true] at h; exact h.2)
    | const v =>
      replace h : wCond (.const v) x y (awp T call kb N x) (awp T call kb N y) s Q := h
      simp only [wCond] at h
      split at h
      · rename_i x i hx; cases hx
      · rename_i q hq
        injection hq with hq
        subst hq
        refine wpIn_cond (t := q) rfl ?_
        cases q with
        | true => exact ihx _ Q h w m a hTr hS hE hN hd (hrf.imp id fun h => by simp only [noRF, Bool.and_eq_true] at h; exact h.1)
        | false => exact ihy _ Q h w m a hTr hS hE hN hd (hrf.imp id fun h => by simp only [noRF, Bool.and_eq_true] at h; exact h.2)
      · exact h.elim
    | global g => exact h.elim
    | func f => exact h.elim
  | block id x ih =>
    intro s Q h w m a hTr hS hE hN hd hrf
    refine wpIn_block (wpIn_mono (ih s _ h w m a hTr hS hE hN hd hrf) (fun e a' w' hR => ?_))
    cases e with
    | exit n =>
      obtain ⟨h1, m', s', h2, h3, h4, h5, h6⟩ := hR
      simp only [Exit.inBlock]
      simp only [contB] at h6
      by_cases e : n = id
      · subst e
        rw [if_pos rfl]
        rw [show Nat.beq n n = true by simp] at h6
        exact ⟨h1, m', s', h2, h3, h4, h5, h6⟩
      · rw [if_neg e]
        rw [show Nat.beq n id = false by cases e' : Nat.beq n id with
          | true => exact absurd (Nat.eq_of_beq_eq_true e') e
          | false => rfl] at h6
        exact ⟨h1, m', s', h2, h3, h4, h5, h6⟩
    | normal => exact hR
    | ret => exact hR
    | panic ch => exact hR
    | goto l => exact hR
    | outgrown => exact hR
  | loop x ih =>
    intro s Q h w m a hTr hS hE hN hd hrf
    replace h : wLoop kb x (awp T call kb N x) s Q := h
    unfold wLoop at h
    obtain ⟨t', ht, hE'⟩ := fE_ok h
    rw [fK_eq] at ht
    replace hE : EnvOk w m t' a.tmps := fun d => by rw [hE' d rfl]; exact hE d
    refine AtHead.loop ?_
    refine ht.out (fun s => ∀ (w : World) (m : Mp) (a : Act), Tr we me w m → St w m (hp s.K) → EnvOk w m s.t a.tmps → a.tmps.size = N → Mk bm we D0 w m a.defers → AtHead P ro x (Rel bm N we me D0 Q) a w) ?_ ?_ w m a hTr hS hE hN hd
    · intro s hs w m a hTr hS hE hN hd
      refine AtHead.step (nn := nn) (wpIn_mono (ih s _ hs w m a hTr hS hE hN hd hrf) (fun e a' w' hR => ?_))
      cases e with
      | normal =>
        obtain ⟨h1, m', s', h2, h3, h4, h5, h6⟩ := hR
        exact h6 w' m' a' h3 h4 h5 h1 h2
      | exit n => exact hR
      | ret => exact hR
      | panic ch => exact hR
      | goto l => exact hR
      | outgrown => exact hR
    · intro s s' hle hs w m a hTr hS hE hN hd
      obtain ⟨m', h1, h2, h3, h4⟩ := hle we me hkb w m a.tmps hTr hS hE
      exact hs w m' a h1 h2 h3 hN (hd.sub h4)
  | rangeFunc g ps assign body _ _ =>
    intro s Q h w m a hTr hS hE hN hd hrf
    obtain ⟨hro, hbm⟩ := hrf.resolve_right (by simp [noRF])
    exact rangeF_ok (x := awp T call kb N assign) (y := awp T call kb N body) hT hcall hmix hD0 hro hbm g ps assign body s Q h w m a hTr hS hE hN hd
  | scope => intro s Q h; exact h.elim
  | label => intro s Q h; exact h.elim
  | goto => intro s Q h; exact h.elim
  | refuse => intro s Q h; exact h.elim

/-! ### rounds -/
theorem bindPs_ok {w : World} {m : Mp} : ∀ (ps : List Nat) (args : List AV) (Args : List Value) (env : List (Nat × AV)) (tmps : Array Value) (t : List (Nat × AV)), bindPs N ps args env = some t → args.length = Args.length →
    (∀ j (hj : j < args.length) (hj' : j < Args.length), V w m args[j] Args[j]) → EnvOk w m env tmps → tmps.size = N →
    EnvOk w m t ((ps.zip Args).foldl (fun tmps (t, a) => tmps.setIfInBounds t a) tmps) ∧ ((ps.zip Args).foldl (fun tmps (t, a) => tmps.setIfInBounds t a) tmps).size = N ∧ Args.length = ps.length := by
  intro ps
  induction ps with
  | nil =>
    intro args Args env tmps t h hl hv hE hN
    cases args with
    | nil =>
      simp only [bindPs, Option.some.injEq] at h
      subst h
      exact ⟨by simpa using hE, by simpa using hN, by simpa using hl.symm⟩
    | cons a args => simp [bindPs] at h
  | cons p ps ih =>
    intro args Args env tmps t h hl hv hE hN
    cases args with
    | nil => simp [bindPs] at h
    | cons a args =>
      cases Args with
      | nil => simp at hl
      | cons u Args =>
        simp only [bindPs] at h
        split at h
        case h_2 => simp at h
        rename_i hb
        have hp := Nat.le_of_ble_eq_true hb
        have hv0 : V w m a u := hv 0 (by simp) (by simp)
        obtain ⟨h1, h2, h3⟩ := ih args Args _ (tmps.setIfInBounds p u) t h (by simpa using hl) (fun j hj hj' => hv (j + 1) (by simp; omega) (by simp; omega)) (hE.set (by omega) hv0) (by simpa using hN)
        exact ⟨by simpa using h1, by simpa using h2, by simp [h3]⟩

theorem around_ok (hT : TabOk P T) (hcall : CallOk P call) (hmix : P.follows .mixedOrders = true) {r : Nat} {args : List AV} {K : List ABlk} {k : AO → List ABlk → Prop} (h : around T call r args K k) : ARound P r args K k := by
  intro w m Args u hS hA hu
  unfold around rd2 at h
  split at h
  case h_2 => exact h.elim
  rename_i st env N' ps assign body hnth
  cases st with
  | ready =>
    simp only at h
    split at h
    case h_2 => exact h.elim
    rename_i t hbind
    split at h
    case h_2 => exact h.elim
    rename_i hrf
    simp only [Bool.and_eq_true] at hrf
    rw [fK_eq] at h
    have hb := hS.blk r
    rw [hp_nth hnth] at hb
    obtain ⟨hl, p, fn, tmps, D, hh, hp', hsz, hV⟩ := hb
    have hp'' : p = none := hp'
    subst hp''
    have hlive : (m.L r).isLive := by rw [hl]; trivial
    have hue : u = .func (.yield (m.ρ r)) #[] #[] := by
      cases hu with
      | yld => rfl
      | yldOld _ b ho => rw [hl] at ho; simp [Inf.old] at ho
    obtain ⟨hE1, hN1, hlen⟩ := bindPs_ok ps.toList args Args.toList env tmps t hbind (by simpa using hA.1) (fun j hj hj' => by simpa using hA.2 j hj (by simpa using hj')) (fun d => hV d) hsz
    have hfold : (ps.zip Args).foldl (fun tmps (t, a) => tmps.setIfInBounds t a) tmps = (ps.toList.zip Args.toList).foldl (fun tmps (t, a) => tmps.setIfInBounds t a) tmps := by
      rw [← Array.foldl_toList, Array.toList_zip]
    rw [← hfold] at hE1 hN1
    refine ⟨m.ρ r, fn, _, assign, body, hue, run_yield hh (by simpa using hlen), fun n => roundIn_of_wpIn trivial ?_⟩
    have hkb : ∀ r, len K ≤ r → m.L r = .absent := fun r hr => hS.absent (by
      simp only [hp, nth_eq]
      rw [len_eq] at hr
      rw [List.getElem?_eq_none hr])
    refine wpIn_mono (awp_ok (ro := some (m.ρ r)) (bm := true) (D0 := []) (we := w) (me := m) hT hcall hmix hkb (fun d hd => by simp at hd) assign _ _ h w m { tmps := (ps.zip Args).foldl (fun tmps (t, a) => tmps.setIfInBounds t a) tmps, defers := [] } (Tr.refl w m) hS hE1 hN1 .base (.inr hrf.1)) ?_
    intro e a1 w1 hR
    cases e with
    | normal =>
      obtain ⟨hN2, m1, s1, hM1, hT1, hS1, hE2, hQ⟩ := hR
      simp only [aroundB, rd2] at hQ
      split at hQ
      case h_2 => exact hQ.elim
      rename_i st1 env1 N1 ps1 as1 bd1 hnth1
      cases st1 with
      | ready =>
        simp only [fL_eq] at hQ
        have hb1 := hS1.blk r
        rw [hp_nth hnth1] at hb1
        obtain ⟨hl1, p1, fn1, tmps1, D1, hh1, hp1, hsz1, hV1⟩ := hb1
        have hlive1 : (m1.L r).isLive := by rw [hl1]; trivial
        have hρ1 : m1.ρ r = m.ρ r := lp_stands hT1 hl hl1
        have hp1' : p1 = none := hp1
        subst hp1'
        obtain ⟨o, ho⟩ : ∃ o : Obj, o = .loop { state := .busy, pending := none, fn := fn1, tmps := tmps1, params := ps1, assign := as1, body := bd1, defers := D1 } := ⟨_, rfl⟩
        have hT3 := Tr.putObj hS1 r hlive1 o
        have hS3 := hS1.putObj r hlive1 o (.lp .busy env1 N1 ps1 as1 bd1) ⟨hl1, none, fn1, tmps1, D1, by rw [World.putObj_heap_same (hS1.lt _ hlive1), ho]; rfl, rfl, hsz1, fun d => (hV1 d).mono hT3⟩
        rw [← hp_set s1.K r _ _ hnth1] at hS3
        refine ⟨_, run_beginRound (by rw [← hρ1]; exact hh1) rfl, ?_⟩
        show Code.wpIn (FW (some (m.ρ r))) n P body _ a1 (w1.putObj (m.ρ r) (.loop { state := .busy, pending := none, fn := fn1, tmps := tmps1, params := ps1, assign := as1, body := bd1, defers := D1 }))
        rw [← ho, ← hρ1]
        refine wpIn_mono (awp_ok (ro := some (m1.ρ r)) (bm := true) (D0 := []) (we := w) (me := m) hT hcall hmix hkb (fun d hd => by simp at hd) body _ _ hQ (w1.putObj (m1.ρ r) o) m1 a1 (hT1.trans hT3) hS3 (hE2.mono hT3) hN2 (hM1.mono hT3) (.inr hrf.2)) ?_
        -- the round's end
        have fin : ∀ (jump : Option Code) (st' : LSt) (w4 : World) (m4 : Mp) (s4 : AS) (env4 : List (Nat × AV)) (N4 : Nat) (ps4 : Array Tmp) (as4 bd4 : Code), Tr w m w4 m4 → St w4 m4 (hp s4.K) → nth s4.K r = some (.lp LSt.busy env4 N4 ps4 as4 bd4) ∨ (∃ st, nth s4.K r = some (.lp st env4 N4 ps4 as4 bd4)) →
            st'.state = (if jump.isNone then .ready else .done) → st'.pends jump →
            k (.ret (.p (.bool jump.isNone))) (setN s4.K r (.lp st' env4 N4 ps4 as4 bd4)) →
            ∃ v w5, (Instr.endRound (m1.ρ r) jump).run P w4 = .ok v w5 ∧ Post w m k (.returned v) w5 := by
          intro jump st' w4 m4 s4 env4 N4 ps4 as4 bd4 hT4 hS4 hn4 hst hpd hk
          obtain ⟨st4, hn4⟩ : ∃ st, nth s4.K r = some (.lp st env4 N4 ps4 as4 bd4) := by
            rcases hn4 with h | h
            · exact ⟨_, h⟩
            · exact h
          have hb4 := hS4.blk r
          rw [hp_nth hn4] at hb4
          obtain ⟨hl4, p4, fn4, tmps4, D4, hh4, hp4, hsz4, hV4⟩ := hb4
          have hlive4 : (m4.L r).isLive := by rw [hl4]; trivial
          have hρ4 : m4.ρ r = m1.ρ r := (lp_stands hT4 hl hl4).trans hρ1.symm
          obtain ⟨o4, ho4⟩ : ∃ o : Obj, o = .loop { state := (if jump.isNone then .ready else .done), pending := jump, fn := fn4, tmps := tmps4, params := ps4, assign := as4, body := bd4, defers := D4 } := ⟨_, rfl⟩
          have hT5 := Tr.putObj hS4 r hlive4 o4
          have hS5 := hS4.putObj r hlive4 o4 (.lp st' env4 N4 ps4 as4 bd4) ⟨hl4, jump, fn4, tmps4, D4, by rw [World.putObj_heap_same (hS4.lt _ hlive4), ho4, hst], hpd, hsz4, fun d => (hV4 d).mono hT5⟩
          rw [← hp_set s4.K r _ _ hn4] at hS5
          refine ⟨_, _, run_endRound jump (by rw [← hρ4]; exact hh4), ?_⟩
          rw [hρ4, ho4] at hT5 hS5
          exact ⟨m4, _, _, hT4.trans hT5, hS5, .p _ _ (.bool _), hk⟩
        intro e a2 w2 hR2
        cases e with
        | normal =>
          obtain ⟨_, m4, s4, _, hT4, hS4, _, hQ4⟩ := hR2
          simp only [aroundE, rd2, fL_eq, fK_eq] at hQ4
          split at hQ4
          case h_2 => exact hQ4.elim
          rename_i hn4
          exact fin none .ready w2 m4 s4 _ _ _ _ _ hT4 hS4 (.inr ⟨_, hn4⟩) rfl rfl hQ4
        | ret =>
          obtain ⟨_, m4, s4, _, hT4, hS4, _, hQ4⟩ := hR2
          simp only [aroundE, rd2, fL_eq, fK_eq] at hQ4
          split at hQ4
          case h_2 => exact hQ4.elim
          rename_i hn4
          exact fin (some .ret) .ret w2 m4 s4 _ _ _ _ _ hT4 hS4 (.inr ⟨_, hn4⟩) rfl rfl hQ4
        | exit id =>
          obtain ⟨_, m4, s4, _, hT4, hS4, _, hQ4⟩ := hR2
          simp only [aroundE, rd2, fL_eq, fK_eq] at hQ4
          split at hQ4
          case h_2 => exact hQ4.elim
          rename_i hn4
          exact fin (some (.exit id)) (.exit id) w2 m4 s4 _ _ _ _ _ hT4 hS4 (.inr ⟨_, hn4⟩) rfl rfl hQ4
        | panic ch => obtain ⟨_, _, _, _, _, _, _, _, _, _, _, hQ4⟩ := hR2; exact hQ4.elim
        | goto l => exact hR2.elim
        | outgrown => exact hR2.elim
      | _ => exact hQ.elim
    | exit n => obtain ⟨_, _, _, _, _, _, _, hQ⟩ := hR; exact hQ.elim
    | ret => obtain ⟨_, _, _, _, _, _, _, hQ⟩ := hR; exact hQ.elim
    | panic ch => obtain ⟨_, _, _, _, _, _, _, _, _, _, _, hQ⟩ := hR; exact hQ.elim
    | goto l => exact hR.elim
    | outgrown => exact hR.elim
  | _ => exact h.elim

/-! ### results, bodies, calls -/
/-- one result -/
def resOf (tmps : Array Value) : ResultVar → Sem Value
  | .tmp t => pure (tmps.getD t undef)
  | .cell a t => do loadVar t (← asAddr (tmps.getD a undef))

theorem ares1_ok (hT : TabOk P T) {w : World} {m : Mp} {t : List (Nat × AV)} {K : List ABlk} {a : Act} (hS : St w m (hp K)) (hE : EnvOk w m t a.tmps) {r : ResultVar} {q : AV → Prop} (h : ares1 T t K r q) :
    ∃ u v, (resOf a.tmps r).run P w = .ok u w ∧ V w m v u ∧ q v := by
  cases r with
  | tmp i =>
    simp only [ares1, fV_eq] at h
    exact ⟨_, _, rfl, hE i, h⟩
  | cell i ty =>
    simp only [ares1] at h
    obtain ⟨ad, x, b, e, h1, h2, h3⟩ := opLoad_same (k := fun v _ => q v) hT hS (hE i) h
    exact ⟨x, b, by simp [resOf, e, asAddr, h1], h2, h3⟩

theorem aresL_ok (hT : TabOk P T) {w : World} {m : Mp} {t : List (Nat × AV)} {K : List ABlk} {a : Act} (hS : St w m (hp K)) (hE : EnvOk w m t a.tmps) (l : List ResultVar) : ∀ (q : List AV → Prop), aresL T t K q l →
    ∃ (us : List Value) (vs : List AV), (l.mapM (resOf a.tmps)).run P w = .ok us w ∧ VL w m vs us.toArray ∧ q vs := by
  induction l with
  | nil => intro q h; exact ⟨[], [], rfl, VL.nil w m, h⟩
  | cons r l ih =>
    intro q h
    rw [aresL_cons] at h
    obtain ⟨u, v, h1, h2, h3⟩ := ares1_ok hT hS hE h
    obtain ⟨us, vs, h4, h5, h6⟩ := ih _ h3
    refine ⟨u :: us, v :: vs, ?_, ?_, h6⟩
    · rw [List.mapM_cons, Sem.run_bind, h1]
      simp only [Result.andThen_ok, Sem.run_bind, h4, Sem.run_pure]
    · refine ⟨by have := h5.1; simpa using this, fun j hj hj' => ?_⟩
      cases j with
      | zero => exact h2
      | succ j =>
        have := h5.2 j (by simpa using hj) (by simpa using hj')
        simpa using this

theorem ares_ok (hT : TabOk P T) {w : World} {m : Mp} {s : AS} {a : Act} (hS : St w m (hp s.K)) (hE : EnvOk w m s.t a.tmps) {fn : Func} {q : AV → Prop} (h : ares T fn s q) :
    ∃ u v, (results fn a.tmps).run P w = .ok u w ∧ V w m v u ∧ q v := by
  unfold ares at h
  obtain ⟨us, vs, h1, h2, h3⟩ := aresL_ok hT hS hE fn.results.toList _ h
  have hm : (fn.results.mapM (resOf a.tmps)).run P w = .ok us.toArray w := by
    rw [Array.mapM_eq_mapM_toList, Sem.run_map, h1]
    rfl
  have hl := h2.1
  have hr : (results fn a.tmps).run P w = .ok (if h : us.toArray.size = 1 then us.toArray[0] else .tuple us.toArray) w := by
    have e : results fn a.tmps = (do let vs ← fn.results.mapM (resOf a.tmps); pure (if h : vs.size = 1 then vs[0] else .tuple vs)) := by
      unfold results
      congr 1
    rw [e, Sem.run_bind, hm]
    rfl
  match vs, h2, hl, h3 with
  | [v], h2, hl, h3 =>
    have h1' : us.toArray.size = 1 := by simpa using hl.symm
    rw [dif_pos h1'] at hr
    exact ⟨_, v, hr, h2.2 0 (by simp) (by omega), h3⟩
  | [], h2, hl, h3 =>
    have h1' : ¬ us.toArray.size = 1 := by simp at hl; simp [← hl]
    rw [dif_neg h1'] at hr
    exact ⟨_, _, hr, .tup _ _ h2.1 h2.2, h3⟩
  | v :: v' :: vs, h2, hl, h3 =>
    have h1' : ¬ us.toArray.size = 1 := by simp at hl; simp [← hl]
    rw [dif_neg h1'] at hr
    exact ⟨_, _, hr, .tup _ _ h2.1 h2.2, h3⟩

theorem look_frame0 (l : List AV) (i d : Nat) : look (frame0 i l) d = if h : i ≤ d ∧ d < i + l.length then l[d - i]'(by omega) else .junk := by
  induction l generalizing i with
  | nil => simp only [frame0, look, List.length_nil, Nat.add_zero]; rw [dif_neg (by omega)]
  | cons a l ih =>
    simp only [frame0]
    rw [look_cons]
    by_cases e : i = d
    · subst e; rw [if_pos rfl, dif_pos (by simp)]; simp
    · rw [if_neg e, ih]
      by_cases h : i + 1 ≤ d ∧ d < i + 1 + l.length
      · rw [dif_pos h, dif_pos (by simp; omega)]
        simp only [show d - i = (d - (i + 1)) + 1 by omega, List.getElem_cons_succ]
      · rw [dif_neg h, dif_neg (by simp; omega)]

theorem EnvOk.frame {w : World} {m : Mp} {args : List AV} {Args : Array Value} (h : VL w m args Args) (n : Nat) : EnvOk w m (frame0 0 args) (Args ++ Array.replicate n undef) := by
  intro d
  rw [look_frame0]
  by_cases hd : d < args.length
  · rw [dif_pos (by omega)]
    have hd' : d < Args.size := by rw [← h.1]; exact hd
    have e : (Args ++ Array.replicate n undef).getD d undef = Args[d] := by
      rw [Array.getD_eq_getD_getElem?, Array.getElem?_append_left hd']
      simp [hd']
    rw [e]
    simpa using h.2 d hd hd'
  · rw [dif_neg (by omega)]
    exact .junk _

/-- a mark taken in -/
theorem take_mark {w : World} {m : Mp} {H : Nat → ABlk} {D : Nat} {ds : List Deferred} (hI : ∀ b, me.I b → b < we.heap.size) (h1 : Tr we me w m) (h2 : St w m H) 
    (h : Mk bm we D0 w m ds) (hW : we.heap.size ≤ D) (hI' : ¬ m.I D) (hO : ∀ r, (m.L r).isLive → m.ρ r ≠ D) (h5 : ∀ d ∈ ds, d.target ≠ .collected D) :
    Tr we me (w.putObj D (.deferred none)) m ∧ St (w.putObj D (.deferred none)) m H ∧ Mk bm we D0 (w.putObj D (.deferred none)) m ds := by
  refine ⟨h1.aside D hW hI _, h2.aside D hI' hO _, ?_⟩
  induction h with
  | base => exact .base
  | mark hb D' ds k1 k2 k3 k4 k5 _ ih =>
    refine .mark hb D' ds k1 ((World.putObj_heap_other (fun e => ?_)).trans k2) k3 k4 k5 (ih fun d hd => h5 d (List.mem_cons_of_mem _ hd))
    exact h5 _ (List.mem_cons_self ..) (by rw [e])

theorem leaves_marks {fn : Func} {tmps : Array Value} {R : Ending → World → Prop} {m : Mp} {H : Nat → ABlk} {u : FrameMode} (hu : u ≠ .run) (hI : ∀ b, me.I b → b < we.heap.size) : ∀ (ds : List Deferred) (w : World),
    Tr we me w m → St w m H → Mk bm we [] w m ds → (∀ w', Tr we me w' m → St w' m H → (∀ a u, V w m a u → V w' m a u) → LeavesIn (FW none) 0 P fn tmps R [] u w') → LeavesInM (FW none) 0 P fn tmps R ds u w := by
  intro ds
  induction ds with
  | nil => intro w h1 h2 _ h; exact h w h1 h2 (fun _ _ h => h)
  | cons d ds ih =>
    intro w h1 h2 hd h
    cases hd with
    | mark hb D ds k1 k2 k3 k4 k5 k6 =>
      obtain ⟨h3, h4, h5⟩ := take_mark hI h1 h2 k6 k1 k3 k4 k5
      refine ⟨hu, .inl ⟨D, _, rfl, run_takeDeferred k2, ih _ h3 h4 h5 fun w' e1 e2 e3 => h w' e1 e2 fun a u hv => e3 a u (hv.aside D k3 _)⟩⟩

theorem abody_ok (hT : TabOk P T) (hcall : CallOk P call) (hmix : P.follows .mixedOrders = true) {f : FuncId} {fn : Func} (hf : P.funcs[f]? = some fn) (hn : (fn.name == "runtime.NumGoroutine") = false) {args : List AV} {K : List ABlk} {k : AO → List ABlk → Prop}
    (h : abody T call fn args K k) : ACalls P f args K k := by
  unfold abody at h
  cases hb : fn.body with
  | none => rw [hb] at h; exact h.elim
  | some c =>
    rw [hb] at h
    simp only at h
    cases hl : Nat.ble (len args) fn.ntmps with
    | false => rw [hl] at h; exact h.elim
    | true =>
      rw [hl] at h
      have hle : args.length ≤ fn.ntmps := by have := Nat.le_of_ble_eq_true hl; rwa [len_eq] at this
      refine ⟨⟨fn, hf, hn, by rw [hb]; rfl⟩, fun w m Args hS hA => (callsIn_wide (n := 0)).1 (callsIn_of_wp_marks hf hb trivial ?_)⟩
      have hkb : ∀ r, len K ≤ r → m.L r = .absent := fun r hr => hS.absent (by
        simp only [hp, nth_eq]
        rw [len_eq] at hr
        rw [List.getElem?_eq_none hr])
      simp only [fK_eq, fV_eq] at h
      refine wpIn_mono (awp_ok (ro := none) (bm := true) (D0 := []) (we := w) (me := m) hT hcall hmix hkb (fun d hd => by simp at hd) c _ _ h w m _ (Tr.refl w m) hS (EnvOk.frame hA _) (by simp; have := hA.1; omega) .base (.inl ⟨rfl, rfl⟩)) (fun e a w' hR => ?_)
      cases e with
      | normal =>
        obtain ⟨_, m', s', hd, h1, h2, h3, h4⟩ := hR
        refine leaves_marks (by simp) hS.Ilt a.defers w' h1 h2 hd fun w2 e1 e2 e3 => ?_
        obtain ⟨u, v, h5, h6, h7⟩ := ares_ok (s := s') (a := a) hT e2 (fun d => e3 _ _ (h3 d)) h4
        exact ⟨u, h5, m', v, s'.K, e1, e2, h6, h7⟩
      | ret =>
        obtain ⟨_, m', s', hd, h1, h2, h3, h4⟩ := hR
        refine leaves_marks (by simp) hS.Ilt a.defers w' h1 h2 hd fun w2 e1 e2 e3 => ?_
        obtain ⟨u, v, h5, h6, h7⟩ := ares_ok (s := s') (a := a) hT e2 (fun d => e3 _ _ (h3 d)) h4
        exact ⟨u, h5, m', v, s'.K, e1, e2, h6, h7⟩
      | panic ch =>
        obtain ⟨_, m', s', v, u, hd, rfl, h1, h2, h3, h4, h5⟩ := hR
        exact leaves_marks (by simp) hS.Ilt a.defers w' h1 h2 hd fun w2 e1 e2 e3 => ⟨m', v, u, s'.K, rfl, e1, e2, e3 _ _ h4, h5⟩
      | exit n => obtain ⟨_, _, _, _, _, _, _, h⟩ := hR; exact h.elim
      | goto l => exact hR
      | outgrown => exact hR.elim

/-- the functions with a contract of their own -/
abbrev AG := FuncId → Option (List AV → List ABlk → (AO → List ABlk → Prop) → Prop)
def GOk (P : Program) (G : AG) : Prop := ∀ f g, G f = some g → ∀ args K k, g args K k → ACalls P f args K k

theorem acall_ok (hT : TabOk P T) (hmix : P.follows .mixedOrders = true) {G : AG} (hG : GOk P G) (n : Nat) : CallOk P (acall T G n) := by
  induction n with
  | zero => intro f args K k h; exact h.elim
  | succ n ih =>
    intro f args K k h
    rw [acall_succ] at h
    unfold acallS at h
    cases hb : Nat.blt f 1000000000 with
    | false =>
      rw [hb] at h
      exact ⟨fun e => by simp at e, fun _ => around_ok hT ih hmix h⟩
    | true =>
      rw [hb] at h
      refine ⟨fun _ => ?_, fun e => by simp at e⟩
      simp only at h
      cases hg : G f with
      | some g => rw [hg] at h; exact hG f g hg args K k h
      | none =>
        rw [hg] at h
        simp only at h
        cases hf : T.f.get f with
        | none => rw [hf] at h; exact h.elim
        | some fn =>
          rw [hf] at h
          obtain ⟨h1, h2⟩ := hT.f f fn hf
          exact abody_ok hT ih hmix h1 h2 h
/-- a call whose body is walked, whatever contract its function has -/
def acall1 (T : Tab) (G : AG) (n : Nat) : ACall := fun f args K k => match T.f.get f with
  | some fn => abody T (acall T G n) fn args K k
  | none => False
theorem acall1_ok (hT : TabOk P T) (hmix : P.follows .mixedOrders = true) {G : AG} (hG : GOk P G) (n : Nat) (f : FuncId) (args : List AV) (K : List ABlk) (k : AO → List ABlk → Prop) (h : acall1 T G n f args K k) : ACalls P f args K k := by
  unfold acall1 at h
  cases hf : T.f.get f with
  | none => rw [hf] at h; exact h.elim
  | some fn =>
    rw [hf] at h
    obtain ⟨h1, h2⟩ := hT.f f fn hf
    exact abody_ok hT (acall_ok hT hmix hG n) hmix h1 h2 h
end
end Go.AE
