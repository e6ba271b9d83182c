/-
  AE, part 7: the abstract weakest precondition holds of the model's code and calls. Own metatheory over any program; no statement of the seat is proved here.
-/
import Derived.Test.YtbcngegcpdppfaaGreatDoorAeOps4
import Derived.Tactics
namespace Go.AE
section
variable {P : Program} {T : Tab}

/-! ### frames -/
theorem EnvOk.ev {w : World} {m : Mp} {t : List (Nat × AV)} {a : Act} (h : EnvOk w m t a.tmps) (o : Operand) : V w m (ev t o) (a.eval o) := by
  cases o with
  | tmp i => exact h i
  | func f => exact .p _ _ (.fn f)
  | global g => exact .junk _
  | const v =>
    simp only [AE.ev, Act.eval]
    unfold ofConst
    split
    · exact .p _ _ (.int ..)
    · exact .p _ _ (.bool ..)
    · exact .p _ _ (.str _ _ rfl)
    · exact .p _ _ .nilp
    · exact .p _ _ .nils
    · exact .p _ _ .nilf
    · exact .p _ _ .nili
    · exact .p _ _ .nilm
    · exact .junk _

theorem EnvOk.mono {w w' : World} {m m' : Mp} (t : Tr w m w' m') {e : List (Nat × AV)} {tmps : Array Value} (h : EnvOk w m e tmps) : EnvOk w' m' e tmps := fun d => (h d).mono t

theorem EnvOk.evs {w : World} {m : Mp} {t : List (Nat × AV)} {a : Act} (h : EnvOk w m t a.tmps) (l : List Operand) : VL w m (evs t l) (l.map a.eval).toArray := by
  induction l with
  | nil => exact VL.nil w m
  | cons x l ih =>
    refine ⟨by have := ih.1; simp [AE.evs] at this ⊢; exact this, fun j hj hj' => ?_⟩
    cases j with
    | zero => simpa [AE.evs] using h.ev x
    | succ j =>
      have hj2 : j < (AE.evs t l).length := by simpa [AE.evs] using hj
      have := ih.2 j hj2 (by simpa using hj')
      simpa [AE.evs] using this

theorem EnvOk.parts {w : World} {m : Mp} {t : List (Nat × AV)} {a : Act} (h : EnvOk w m t a.tmps) (l : List (Nat × Operand)) : PL w m (partsOf t l) (l.map fun (i, x) => (i, a.eval x)) := by
  induction l with
  | nil => trivial
  | cons x l ih => exact ⟨rfl, h.ev x.2, ih⟩

theorem EnvOk.opt {w : World} {m : Mp} {t : List (Nat × AV)} {a : Act} (h : EnvOk w m t a.tmps) (o : Option Operand) : bndOk w m (optEv t o) (o.map a.eval) := by
  cases o with
  | none => trivial
  | some x => exact h.ev x

theorem look_cons (t : List (Nat × AV)) (d : Nat) (v : AV) (i : Nat) : look ((d, v) :: t) i = if d = i then v else look t i := by
  simp only [look]
  by_cases h : d = i
  · subst h; simp
  · rw [if_neg h]
    have : Nat.beq d i = false := by cases e : Nat.beq d i with
      | true => exact absurd (Nat.eq_of_beq_eq_true e) h
      | false => rfl
    rw [this]

theorem EnvOk.set {w : World} {m : Mp} {t : List (Nat × AV)} {tmps : Array Value} (h : EnvOk w m t tmps) {d : Nat} (hd : d < tmps.size) {v : AV} {u : Value} (hv : V w m v u) : EnvOk w m ((d, v) :: t) (tmps.setIfInBounds d u) := by
  intro i
  rw [look_cons]
  by_cases e : d = i
  · subst e
    rw [if_pos rfl]
    simpa [Array.getD, hd] using hv
  · rw [if_neg e]
    have : (tmps.setIfInBounds d u).getD i undef = tmps.getD i undef := by
      simp only [Array.getD_eq_getD_getElem?, Array.getElem?_setIfInBounds]
      rw [if_neg e]
    rw [this]
    exact h i

theorem EnvOk.put {w : World} {m : Mp} {t : List (Nat × AV)} {a : Act} (h : EnvOk w m t a.tmps) {d : Option Nat} (hd : ∀ x, d = some x → x < a.tmps.size) {v : AV} {u : Value} (hv : V w m v u) : EnvOk w m (put t d v) (a.put d u).tmps := by
  cases d with
  | none => exact h
  | some d => exact h.set (hd d rfl) hv

theorem EnvOk.know {w : World} {m : Mp} {t : List (Nat × AV)} {tmps : Array Value} (h : EnvOk w m t tmps) {d : Nat} {b : Bool} (hd : look t d = .p (.bool b)) : EnvOk w m (know t d b) tmps := by
  intro i
  simp only [AE.know]
  rw [look_cons]
  by_cases e : d = i
  · subst e
    rw [if_pos rfl]
    have := h d
    rwa [hd] at this
  · rw [if_neg e]; exact h i

theorem EnvOk.bool {w : World} {m : Mp} {t : List (Nat × AV)} {tmps : Array Value} (h : EnvOk w m t tmps) {d : Nat} {b : Bool} (hd : look t d = .p (.bool b)) : tmps[d]? = some (.bool b) := by
  have hv := h d
  rw [hd] at hv
  have e : tmps.getD d undef = .bool b := by
    cases hv with
    | p v u hv =>
      generalize tmps.getD d undef = x at hv
      cases hv
      rfl
  rw [Array.getD_eq_getD_getElem?] at e
  cases hx : tmps[d]? with
  | none => rw [hx] at e; simp [undef] at e
  | some y => rw [hx] at e; simp at e; rw [e]

/-! ### calls -/
def Post (we : World) (me : Mp) (k : AO → List ABlk → Prop) : Ending → World → Prop
  | .returned u, w' => ∃ m' a K', Tr we me w' m' ∧ St w' m' (hp K') ∧ V w' m' a u ∧ k (.ret a) K'
  | .panicked ch, w' => ∃ m' a u K', ch = [{ v := u, recovered := false }] ∧ Tr we me w' m' ∧ St w' m' (hp K') ∧ V w' m' a u ∧ k (.pan a) K'
  | .outgrown, _ => False

/-- a function that can be entered -/
def Ent (P : Program) (f : FuncId) : Prop := ∃ fn, P.funcs[f]? = some fn ∧ (fn.name == "runtime.NumGoroutine") = false ∧ fn.body.isSome = true

/-- the abstract contract of a call -/
def ACalls (P : Program) (f : FuncId) (args : List AV) (K : List ABlk) (k : AO → List ABlk → Prop) : Prop :=
  Ent P f ∧ ∀ w m Args, St w m (hp K) → VL w m args Args → Calls P f Args w (Post w m k)

/-- a fence that lets everything in, about a frame of whatever make -/
def FW (ro : Option Nat) : Fence := { Fence.wide with round := ro }
theorem FW.calls {ro : Option Nat} {n : Nat} {f : FuncId} {args : Array Value} {w : World} {R : Ending → World → Prop} (h : Calls P f args w R) : CallsIn (FW ro) n P f args w R :=
  (callsIn_wide (n := n)).2 h
theorem FW.depth {ro : Option Nat} {n : Nat} : (FW ro).depth.isSome = true → 1 ≤ n := fun h => by simp [FW, Fence.wide] at h

/-- the abstract contract of a round -/
def ARound (P : Program) (r : Nat) (args : List AV) (K : List ABlk) (k : AO → List ABlk → Prop) : Prop :=
  ∀ w m Args u, St w m (hp K) → VL w m args Args → V w m (.yld r) u → ∃ l f tmps assign body, u = .func (.yield l) #[] #[] ∧
    (Instr.yield l Args).run P w = .ok (.round l f tmps assign body) w ∧ ∀ n, RoundIn (FW none) n P l f tmps assign body w (Post w m k)

def CallOk (P : Program) (call : ACall) : Prop := ∀ f args K k, call f args K k →
  (Nat.blt f 1000000000 = true → ACalls P f args K k) ∧ (Nat.blt f 1000000000 = false → ARound P (Nat.sub f 1000000000) args K k)

theorem callF_ok {call : ACall} (hcall : CallOk P call) {f : FuncId} {args : List AV} {K : List ABlk} {k : AO → List ABlk → Prop} (h : callF call f args K k) : ACalls P f args K k := by
  unfold callF at h
  split at h
  · rename_i hb; exact (hcall _ _ _ _ h).1 hb
  · exact h.elim

theorem callFunc_run {f : FuncId} (h : Ent P f) (args : Array Value) (w : World) : (callFunc f args).run P w = .ok (.enter f args) w := by
  obtain ⟨fn, h1, h2, h3⟩ := h
  have h4 : fn.body.isNone = false := by cases hb : fn.body <;> simp_all
  simp only [callFunc, Sem.run_bind, run_program, Result.andThen_ok, h1, h2, h4, Bool.false_eq_true, if_false, Sem.run_pure]

/-! ### one operation -/
theorem exec_val {s : Sem Value} {w w' : World} {u : Value} (h : s.run P w = .ok u w') : (do pure (Next.value (← s)) : Sem Next).run P w = .ok (.value u) w' := by
  simp [h]

variable {call : ACall} {w : World} {m : Mp} {K : List ABlk} {k kp : AV → List ABlk → Prop} {next : Act → World → Prop} {Q : Exit → Act → World → Prop} {a : Act} {t : List (Nat × AV)} {ro : Option Nat} {nn : Nat}

theorem upon_val {o : Oper} {s : Sem Value} (hk : ∀ w' m' v K' u, Tr w m w' m' → St w' m' (hp K') → V w' m' v u → k v K' → next (a.put o.dst u) w') (h : RunOk P w m s k) :
    o.uponIn (FW ro) nn P a next Q ((do pure (Next.value (← s)) : Sem Next).run P w) := by
  obtain ⟨u, w', m', v, K', hr, h1, h2, h3, h4⟩ := h
  rw [exec_val hr]
  exact hk w' m' v K' u h1 h2 h3 h4

theorem aop_ok (hT : TabOk P T) (hcall : CallOk P call) {o : Oper} (hS : St w m (hp K)) (hE : EnvOk w m t a.tmps)
    (hk : ∀ w' m' v K' u, Tr w m w' m' → St w' m' (hp K') → V w' m' v u → k v K' → next (a.put o.dst u) w')
    (hpn : ∀ w' m' v K' u, Tr w m w' m' → St w' m' (hp K') → V w' m' v u → kp v K' → Q (.panic [{ v := u, recovered := false }]) a w')
    (h : aop T call o t K k kp) : o.uponIn (FW ro) nn P a next Q ((execOp a.eval o).run P w) := by
  unfold aop at h
  unfold execOp
  cases hop : o.op with
  | move x =>
    rw [hop] at h
    simp only [fV_eq] at h
    exact hk w m _ K _ (Tr.refl w m) hS (hE.ev x) h
  | assign x =>
    rw [hop] at h
    simp only [fV_eq] at h
    exact hk w m _ K _ (Tr.refl w m) hS (hE.ev x) h
  | pick c x y =>
    rw [hop] at h
    simp only at h
    have hc := hE.ev c
    split at h
    case h_2 => exact h.elim
    rename_i q hq
    rw [hq] at hc
    cases hc with
    | p v u hv =>
      cases hvv : a.eval c with
      | bool b =>
        rw [hvv] at hv
        cases hv
        simp only [asBool, hvv]
        cases q with
        | true => simp only [two, fV_eq] at h; exact hk w m _ K _ (Tr.refl w m) hS (hE.ev x) h
        | false => simp only [two, fV_eq] at h; exact hk w m _ K _ (Tr.refl w m) hS (hE.ev y) h
      | _ => rw [hvv] at hv; cases hv
  | alloc e => rw [hop] at h; exact upon_val hk (opAlloc_ok hT hS h)
  | box e x => rw [hop] at h; exact upon_val hk (opBox_ok hS (hE.ev x) h)
  | build ty ps => rw [hop] at h; exact upon_val hk (opBuild_ok hT hS (by simpa using hE.parts ps.toList) h)
  | buildSlice ty n ps => rw [hop] at h; exact upon_val hk (opBuildSlice_ok hT hS (by simpa using hE.parts ps.toList) h)
  | load ty x => rw [hop] at h; exact upon_val hk (opLoad_ok hT hS (hE.ev x) h)
  | store ty x y =>
    rw [hop] at h
    obtain ⟨w', m', K', hr, h1, h2, h3⟩ := opStore_ok hT hS (hE.ev x) (hE.ev y) h
    have : (do Instr.storeAt ty (a.eval x) (a.eval y); pure Next.skip : Sem Next).run P w = .ok .skip w' := by simp [hr]
    simp only [this]
    exact hk w' m' .junk K' undef h1 h2 (.junk _) h3
  | nilCheck x =>
    rw [hop] at h
    simp only at h
    have hx := hE.ev x
    simp only
    generalize ev t x = ax at h hx
    generalize a.eval x = ux at hx
    cases hx with
    | p v u hv =>
      cases hv with
      | fn f => exact hk w m _ K _ (Tr.refl w m) hS (.p _ _ (.fn f)) h
      | _ => exact h.elim
    | ptr r ver n i off sz cap hL hi => exact hk w m _ K _ (Tr.refl w m) hS (.ptr r ver n i off sz cap hL hi) h
    | ptrOld r ver n i off b o' hold => exact hk w m _ K _ (Tr.refl w m) hS (.ptrOld r ver n i off b o' hold) h
    | rop cs off b o' u hI hc hv => exact hk w m _ K _ (Tr.refl w m) hS (.rop cs off b o' u hI hc hv) h
    | fn f first cap A B hA hB h1 h2 => exact hk w m _ K _ (Tr.refl w m) hS (.fn f first cap A B hA hB h1 h2) h
    | iface ty v u hv => exact hk w m _ K _ (Tr.refl w m) hS (.iface ty v u hv) h
    | _ => exact h.elim
  | binOp op ty x y yt =>
    rw [hop] at h
    simp only at h
    cases hc : nilC y with
    | none => rw [hc] at h; exact upon_val hk (opBin_ok hT hS (hE.ev x) (hE.ev y) x y h)
    | some c =>
      rw [hc] at h
      have hy : ∃ v, y = .const v := by
        rcases nilC_val hc with ⟨rfl, _⟩ | ⟨rfl, _⟩ | ⟨rfl, _⟩ <;> exact ⟨_, rfl⟩
      obtain ⟨v, rfl⟩ := hy
      exact upon_val hk (opNilCmp_ok hT hS (hE.ev x) x (.const v) hc rfl h)
  | unOp op ty x => rw [hop] at h; exact upon_val hk (opUn_ok hS (hE.ev x) h)
  | convert s d x => rw [hop] at h; exact upon_val hk (opConv_ok hT hS (hE.ev x) h)
  | makeInterface ty x => rw [hop] at h; exact upon_val hk (opIface_ok hT hS (hE.ev x) h)
  | makeFunc fn x y =>
    rw [hop] at h
    cases fn with
    | func f =>
      simp only [fVL_eq] at h
      have h1 := hE.evs x.toList
      have h2 := hE.evs y.toList
      have e1 : (x.toList.map a.eval).toArray = x.map a.eval := by apply Array.ext'; simp
      have e2 : (y.toList.map a.eval).toArray = y.map a.eval := by apply Array.ext'; simp
      rw [e1] at h1
      rw [e2] at h2
      exact hk w m _ K _ (Tr.refl w m) hS (.fn f _ _ _ _ h1.1 h2.1 h1.2 h2.2) h
    | _ => exact h.elim
  | makeSlice ty l c => rw [hop] at h; exact upon_val hk (opMakeSlice_ok hT hS (hE.ev l) (hE.ev c) h)
  | slice ty x lo hi mx =>
    rw [hop] at h
    cases mx with
    | none => exact upon_val hk (opSlice_ok hT hS (hE.ev x) (hE.opt lo) (hE.opt hi) h)
    | some _ => exact h.elim
  | fieldAddr ty x i => rw [hop] at h; exact upon_val hk (opFieldAddr_ok hT hS (hE.ev x) h)
  | field ty x i => rw [hop] at h; exact upon_val hk (opField_ok hT hS (hE.ev x) h)
  | indexAddr ty x i => rw [hop] at h; exact upon_val hk (opIndexAddr_ok hT hS (hE.ev x) (hE.ev i) h)
  | index ty x i => rw [hop] at h; exact upon_val hk (opIndex_ok hT hS (hE.ev x) (hE.ev i) h)
  | extract x i => rw [hop] at h; exact upon_val hk (opExtract_ok hS (hE.ev x) h)
  | typeAssert x xt ty ok => rw [hop] at h; exact upon_val hk (opAssert_ok hT hS (hE.ev x) h)
  | panic x =>
    rw [hop] at h
    simp only at h
    have hx := hE.ev x
    split at h
    case h_2 => exact h.elim
    rename_i ty v hq
    rw [hq] at hx
    generalize hux : a.eval x = ux at hx
    cases hx with
    | iface ty v u hv =>
      have : (do pure (Next.value (← Instr.panic (a.eval x))) : Sem Next).run P w = .halt (.panic (.iface ty u)) w := by simp [Instr.panic, hux]
      simp only [this]
      exact hpn w m _ K _ (Tr.refl w m) hS (.iface ty v u hv) h
  | call c =>
    rw [hop] at h
    simp only at h ⊢
    cases hc : c.callee with
    | invoke r n => rw [hc] at h; exact h.elim
    | builtin b =>
      rw [hc] at h
      simp only at h
      have hres : (resolve a.eval c o.type).run P w = .ok { target := .builtin b c.argTypes o.type (c.args.map fun | .const _ => true | _ => false), args := c.args.map a.eval } w := by
        simp only [resolve, hc]; rfl
      cases b with
      | len =>
        simp only at h
        split at h
        case h_2 => exact h.elim
        rename_i x hx
        split at h
        case h_2 => exact h.elim
        rename_i ty hty
        have hargs : c.args = #[x] := by apply Array.ext'; simpa using hx
        have htys : c.argTypes = #[ty] := by apply Array.ext'; simpa using hty
        have hr := opLen_ok (ty := o.type) hT hS (hE.ev x) h
        have e : (do let d ← resolve a.eval c o.type; invoke d.target d.args : Sem Next).run P w = (do pure (Next.value (← Builtin.len_ #[ty] o.type #[a.eval x])) : Sem Next).run P w := by
          rw [Sem.run_bind, hres]
          simp [invoke, builtin, hargs, htys]
        rw [e]
        exact upon_val hk hr
      | append =>
        simp only at h
        split at h
        case h_2 => exact h.elim
        rename_i s x hx
        split at h
        case h_2 => exact h.elim
        rename_i ty ty' hty
        split at h
        case h_2 => exact h.elim
        rename_i hb
        have := Nat.eq_of_beq_eq_true hb
        subst this
        have hargs : c.args = #[s, x] := by apply Array.ext'; simpa using hx
        have htys : c.argTypes = #[ty, ty] := by apply Array.ext'; simpa using hty
        have hr := opAppend_ok (ty := o.type) hT hS (hE.ev s) (hE.ev x) h
        have e : (do let d ← resolve a.eval c o.type; invoke d.target d.args : Sem Next).run P w = (do pure (Next.value (← Builtin.append_ #[ty, ty] o.type #[a.eval s, a.eval x])) : Sem Next).run P w := by
          rw [Sem.run_bind, hres]
          simp [invoke, builtin, hargs, htys]
        rw [e]
        exact upon_val hk hr
      | max =>
        simp only at h
        split at h
        case h_2 => exact h.elim
        rename_i s x hx
        have hargs : c.args = #[s, x] := by apply Array.ext'; simpa using hx
        have hr := opMaxMin_max (P := P) (ts := c.argTypes) (ty := o.type) hS (hE.ev s) (hE.ev x) h
        have e : (do let d ← resolve a.eval c o.type; invoke d.target d.args : Sem Next).run P w = (do pure (Next.value (← Builtin.max_ c.argTypes o.type #[a.eval s, a.eval x])) : Sem Next).run P w := by
          rw [Sem.run_bind, hres]
          simp [invoke, builtin, hargs]
        rw [e]
        exact upon_val hk hr
      | min =>
        simp only at h
        split at h
        case h_2 => exact h.elim
        rename_i s x hx
        have hargs : c.args = #[s, x] := by apply Array.ext'; simpa using hx
        have hr := opMaxMin_min (P := P) (ts := c.argTypes) (ty := o.type) hS (hE.ev s) (hE.ev x) h
        have e : (do let d ← resolve a.eval c o.type; invoke d.target d.args : Sem Next).run P w = (do pure (Next.value (← Builtin.min_ c.argTypes o.type #[a.eval s, a.eval x])) : Sem Next).run P w := by
          rw [Sem.run_bind, hres]
          simp [invoke, builtin, hargs]
        rw [e]
        exact upon_val hk hr
      | _ => exact h.elim
    | value f =>
      rw [hc] at h
      simp only [fVL_eq] at h
      have hf := hE.ev f
      have hargs := hE.evs c.args.toList
      have e1 : (c.args.toList.map a.eval).toArray = c.args.map a.eval := by apply Array.ext'; simp
      rw [e1] at hargs
      have key : ∀ g (args : List AV) (Args : Array Value), VL w m args Args → (callF call g args K fun out K' => match out with
          | .ret v => fV v fun v => k v K'
          | .pan v => kp v K') → o.uponIn (FW ro) nn P a next Q (.ok (.enter g Args) w) := by
        intro g args Args hA hcl
        obtain ⟨_, hcalls⟩ := callF_ok hcall hcl
        rw [Oper.uponIn_enter]
        refine ⟨FW.depth, FW.calls ((hcalls w m Args hS hA).mono fun e w' hR => ?_)⟩
        cases e with
        | returned v =>
          obtain ⟨m', av, K', h1, h2, h3, h4⟩ := hR
          simp only [fV_eq] at h4
          exact hk w' m' av K' v h1 h2 h3 h4
        | panicked ch =>
          obtain ⟨m', av, u, K', rfl, h1, h2, h3, h4⟩ := hR
          exact hpn w' m' av K' u h1 h2 h3 h4
        | outgrown => exact hR.elim
      have entr : ∀ g (args : List AV), (callF call g args K fun out K' => match out with
          | .ret v => fV v fun v => k v K'
          | .pan v => kp v K') → Ent P g := fun g args hcl => (callF_ok hcall hcl).1
      generalize haf : a.eval f = uf at hf
      generalize ev t f = af at h hf
      have yl : ∀ r, V w m (.yld r) uf → (call (Nat.add 1000000000 r) (evs t c.args.toList) K fun out K' => match out with
          | .ret v => fV v fun v => k v K'
          | .pan v => kp v K') → o.uponIn (FW ro) nn P a next Q ((do let d ← resolve a.eval c o.type; invoke d.target d.args : Sem Next).run P w) := by
        intro r hv hcl
        have hnb : Nat.blt (Nat.add 1000000000 r) 1000000000 = false := by
          cases hb : Nat.blt (Nat.add 1000000000 r) 1000000000 with
          | true => have := Nat.le_of_ble_eq_true hb; simp only [Nat.add_eq, Nat.succ_eq_add_one] at this; omega
          | false => rfl
        have har := (hcall _ _ _ _ hcl).2 hnb
        have hsub : Nat.sub (Nat.add 1000000000 r) 1000000000 = r := by simp
        rw [hsub] at har
        obtain ⟨l, f', tmps, assign, body, hu, hy, hro⟩ := har w m _ uf hS hargs hv
        subst hu
        have e : (do let d ← resolve a.eval c o.type; invoke d.target d.args : Sem Next).run P w = .ok (.round l f' tmps assign body) w := by
          simp [resolve, hc, haf, Deferred.ofValue, invoke, hy]
        rw [e, Oper.uponIn_round]
        refine ⟨FW.depth, RoundIn.mono (hro (nn - 1)) fun e w' hR => ?_⟩
        cases e with
        | returned v =>
          obtain ⟨m', av, K', h1, h2, h3, h4⟩ := hR
          simp only [fV_eq] at h4
          exact hk w' m' av K' v h1 h2 h3 h4
        | panicked ch =>
          obtain ⟨m', av, u, K', rfl, h1, h2, h3, h4⟩ := hR
          exact hpn w' m' av K' u h1 h2 h3 h4
        | outgrown => exact hR.elim
      cases hf with
      | p v u hv =>
        cases hv with
        | fn g =>
          simp only [aCallV] at h
          have e : (do let d ← resolve a.eval c o.type; invoke d.target d.args : Sem Next).run P w = .ok (.enter g (c.args.map a.eval)) w := by
            simp [resolve, hc, haf, Deferred.ofValue, invoke, callFunc_run (entr _ _ h)]
          rw [e]
          exact key g _ _ hargs h
        | _ => exact h.elim
      | fn g first cap A B hA hB h1 h2 =>
        simp only [aCallV, fVL_eq, catL_eq] at h
        have e : (do let d ← resolve a.eval c o.type; invoke d.target d.args : Sem Next).run P w = .ok (.enter g (A ++ c.args.map a.eval ++ B)) w := by
          simp [resolve, hc, haf, Deferred.ofValue, invoke, callFunc_run (entr _ _ h)]
        rw [e]
        exact key g _ _ ((VL.append ⟨hA, h1⟩ hargs).append ⟨hB, h2⟩) h
      | yld r sz cap hL => exact yl r (.yld r sz cap hL) h
      | yldOld r b hL => exact yl r (.yldOld r b hL) h
      | _ => exact h.elim
  | _ => rw [hop] at h; exact h.elim

/-! ### regions -/
variable {we : World} {me : Mp} {N kb : Nat} {D0 : List Deferred} {bm : Bool}

/-- the calls that a frame has put off: those that it began with, and marks of loops over functions, with nothing behind them -/
inductive Mk (bm : Bool) (we : World) (D0 : List Deferred) (w : World) (m : Mp) : List Deferred → Prop where
  | base : Mk bm we D0 w m D0
  | mark (hb : bm = true) (D : Nat) (ds : List Deferred) (h1 : we.heap.size ≤ D) (h2 : w.heap[D]? = some (.deferred (some []))) (h3 : ¬ m.I D) (h4 : ∀ r, (m.L r).isLive → m.ρ r ≠ D)
      (h5 : ∀ d ∈ ds, d.target ≠ .collected D) (h : Mk bm we D0 w m ds) : Mk bm we D0 w m ({ target := .collected D, args := #[] } :: ds)

theorem Mk.mono {w w' : World} {m m' : Mp} (t : Tr w m w' m') {ds : List Deferred} (h : Mk bm we D0 w m ds) : Mk bm we D0 w' m' ds := by
  induction h with
  | base => exact .base
  | mark hb D ds h1 h2 h3 h4 h5 _ ih =>
    have hlt : D < w.heap.size := (Array.getElem?_eq_some_iff.1 h2).1
    refine .mark hb D ds h1 ((t.out D hlt h4).trans h2) (fun hI => ?_) (fun r hr e => ?_) h5 ih
    · rcases t.newI D hI with h | ⟨r, hr, e⟩ | h
      · exact h3 h
      · exact h4 r hr e
      · omega
    · rcases t.newρ r hr with ⟨hr', e'⟩ | h
      · exact h4 r hr' (e' ▸ e)
      · omega

theorem Mk.sub {w : World} {m m' : Mp} (t : m.Sub m') {ds : List Deferred} (h : Mk bm we D0 w m ds) : Mk bm we D0 w m' ds := by
  induction h with
  | base => exact .base
  | mark hb D ds h1 h2 h3 h4 h5 _ ih =>
    refine .mark hb D ds h1 h2 (fun hI => ?_) (fun r hr e => ?_) h5 ih
    · rcases t.1 D hI with h | ⟨r, hr, e⟩
      · exact h3 h
      · exact h4 r hr e
    · exact h4 r (t.2 r hr).1 ((t.2 r hr).2 ▸ e)

/-- what stands behind a piece of code -/
def Rel (bm : Bool) (N : Nat) (we : World) (me : Mp) (D0 : List Deferred) (Q : Ex → AS → Prop) : Exit → Act → World → Prop
  | .normal, a, w => a.tmps.size = N ∧ ∃ m s, Mk bm we D0 w m a.defers ∧ Tr we me w m ∧ St w m (hp s.K) ∧ EnvOk w m s.t a.tmps ∧ Q .norm s
  | .exit n, a, w => a.tmps.size = N ∧ ∃ m s, Mk bm we D0 w m a.defers ∧ Tr we me w m ∧ St w m (hp s.K) ∧ EnvOk w m s.t a.tmps ∧ Q (.exit n) s
  | .ret, a, w => a.tmps.size = N ∧ ∃ m s, Mk bm we D0 w m a.defers ∧ Tr we me w m ∧ St w m (hp s.K) ∧ EnvOk w m s.t a.tmps ∧ Q .ret s
  | .panic ch, a, w => a.tmps.size = N ∧ ∃ m s v u, Mk bm we D0 w m a.defers ∧ ch = [{ v := u, recovered := false }] ∧ Tr we me w m ∧ St w m (hp s.K) ∧ EnvOk w m s.t a.tmps ∧ V w m v u ∧ Q (.pan v) s
  | .goto _, _, _ => False
  | .outgrown, _, _ => False

theorem Rel.mono {Q Q' : Ex → AS → Prop} (h : ∀ e s, Q e s → Q' e s) : ∀ e a w, Rel bm N we me D0 Q e a w → Rel bm N we me D0 Q' e a w
  | .normal, _, _, ⟨h1, m, s, h2, a, b, c, d⟩ => ⟨h1, m, s, h2, a, b, c, h _ _ d⟩
  | .exit _, _, _, ⟨h1, m, s, h2, a, b, c, d⟩ => ⟨h1, m, s, h2, a, b, c, h _ _ d⟩
  | .ret, _, _, ⟨h1, m, s, h2, a, b, c, d⟩ => ⟨h1, m, s, h2, a, b, c, h _ _ d⟩
  | .panic _, _, _, ⟨h1, m, s, v, u, h2, a, b, c, d, f, e⟩ => ⟨h1, m, s, v, u, h2, a, b, c, d, f, h _ _ e⟩
  | .goto _, _, _, h => h
  | .outgrown, _, _, h => h

theorem put_size (a : Act) (d : Option Nat) (u : Value) : (a.put d u).tmps.size = a.tmps.size := by
  cases d <;> simp [Act.put]
theorem put_defers (a : Act) (d : Option Nat) (u : Value) : (a.put d u).defers = a.defers := by
  cases d <;> rfl

theorem aop_semAt {o : Oper} {h' : List (Nat × AV)} (h : aop T call o h' K k kp) : Oper.semAt ro a.eval o = execOp a.eval o :=
  Oper.semAt_eq ro a.eval o fun c hc => by unfold aop at h; rw [hc] at h; exact h

theorem aops_ok (hT : TabOk P T) (hcall : CallOk P call) {ops : Array Oper} {Q : Ex → AS → Prop} (l : List Oper) : ∀ (t : List (Nat × AV)) (K : List ABlk), aops T call N ops.toList l t K Q →
    ∀ (w : World) (m : Mp) (a : Act), Tr we me w m → St w m (hp K) → EnvOk w m t a.tmps → a.tmps.size = N → Mk bm we D0 w m a.defers → wpListIn (FW ro) nn P ops (Rel bm N we me D0 Q) l a w := by
  induction l with
  | nil => intro t K h w m a hTr hS hE hN hd; exact ⟨hN, m, ⟨t, K⟩, hd, hTr, hS, hE, h⟩
  | cons o rest ih =>
    intro t K h w m a hTr hS hE hN hd
    rw [aops_cons] at h
    have hbd : (∀ x, o.dst = some x → x < a.tmps.size) ∧ want ops.toList t o.guard
        (fun t => aop T call o t K (fun v K' => aops T call N ops.toList rest (put t o.dst v) K' Q) (fun v K' => Q (.pan v) ⟨t, K'⟩))
        (fun t => aops T call N ops.toList rest (put t o.dst .junk) K Q) := by
      unfold bound at h
      cases hd' : o.dst with
      | none => rw [hd'] at h; exact ⟨fun x hx => by simp at hx, h⟩
      | some d =>
        rw [hd'] at h
        simp only at h
        cases hb : Nat.blt d N with
        | false => rw [hb] at h; exact h.elim
        | true =>
          rw [hb] at h
          refine ⟨fun x hx => ?_, h⟩
          injection hx with hx
          subst hx
          rw [hN]
          exact Nat.le_of_ble_eq_true hb
    obtain ⟨hb, h⟩ := hbd
    have yes : ∀ t, EnvOk w m t a.tmps → aop T call o t K (fun v K' => aops T call N ops.toList rest (put t o.dst v) K' Q) (fun v K' => Q (.pan v) ⟨t, K'⟩) → Region.wanted o (yielded ops a.tmps) = true →
        wpListIn (FW ro) nn P ops (Rel bm N we me D0 Q) (o :: rest) a w := by
      intro t hE h hw
      unfold wpListIn
      rw [if_pos hw]
      refine ⟨fun _ _ => trivial, ?_⟩
      rw [aop_semAt h]
      refine aop_ok hT hcall hS hE (fun w' m' v K' u h1 h2 h3 h4 => ?_) (fun w' m' v K' u h1 h2 h3 h4 => ?_) h
      · exact ih _ _ h4 w' m' _ (hTr.trans h1) h2 ((hE.mono h1).put hb h3) (by rw [put_size]; exact hN) (by rw [put_defers]; exact hd.mono h1)
      · exact ⟨hN, m', ⟨t, K'⟩, v, u, hd.mono h1, rfl, hTr.trans h1, h2, hE.mono h1, h3, h4⟩
    have no : ∀ t, EnvOk w m t a.tmps → aops T call N ops.toList rest (put t o.dst .junk) K Q → Region.wanted o (yielded ops a.tmps) = false → wpListIn (FW ro) nn P ops (Rel bm N we me D0 Q) (o :: rest) a w := by
      intro t hE h hw
      unfold wpListIn
      rw [if_neg (by simp [hw])]
      exact ⟨fun _ _ => trivial, ih _ _ h w m _ hTr hS (hE.put hb (.junk _)) (by rw [put_size]; exact hN) (by rw [put_defers]; exact hd)⟩
    unfold want at h
    cases hg : o.guard with
    | none =>
      rw [hg] at h
      exact yes t hE h (by simp [Region.wanted, hg])
    | some g =>
      obtain ⟨j, wn⟩ := g
      rw [hg] at h
      simp only at h
      cases hj : nth ops.toList j with
      | none => rw [hj] at h; exact h.elim
      | some oj =>
        rw [hj] at h
        simp only at h
        cases hdj : oj.dst with
        | none => rw [hdj] at h; exact h.elim
        | some d =>
          rw [hdj] at h
          simp only at h
          split at h
          case h_2 => exact h.elim
          rename_i b hb'
          have hy : yielded ops a.tmps j = some b := by
            have h1 : ops[j]? = some oj := by rw [nth_eq] at hj; simpa using hj
            simp only [yielded, h1, Option.bind_some, hdj, hE.bool hb']
          have hE' := hE.know hb'
          have hw : Region.wanted o (yielded ops a.tmps) = (b == wn) := by
            simp only [Region.wanted, hg, hy]
            cases b <;> cases wn <;> rfl
          cases wn with
          | true =>
            cases b with
            | true => exact yes _ hE' h (by rw [hw]; rfl)
            | false => exact no _ hE' h (by rw [hw]; rfl)
          | false =>
            cases b with
            | true => exact no _ hE' h (by rw [hw]; rfl)
            | false => exact yes _ hE' h (by rw [hw]; rfl)

end
end Go.AE
