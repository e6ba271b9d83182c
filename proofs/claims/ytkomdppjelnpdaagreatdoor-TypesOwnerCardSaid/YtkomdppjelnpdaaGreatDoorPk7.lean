/-
  Parser, part 14: programs. No statement of the seat is proved here.
  AE, part 7d: a function that puts one call off, of a function literal that asks recover first. Own metatheory over any program; no statement of the seat is proved here.
  Parser, part 15: read. No statement of the seat is proved here.
  The statements of chapter 7: small and shown. No statement of the seat is proved here.
  Types, part 12: contracts whose answers are told by equations (so that no great goal need be rewritten). No statement of the seat is proved here.
  The statement TypesOwner: the walk. No statement of the seat is proved here.
-/
import Derived.RecoverIn
import Derived.KernelRfl
import Derived.Test.YtkomdppjelnpdaaGreatDoorPk1
import Derived.Test.YtkomdppjelnpdaaGreatDoorPk2
import Derived.Test.YtkomdppjelnpdaaGreatDoorPk3
import Derived.Test.YtkomdppjelnpdaaGreatDoorPk4
import Derived.Test.YtkomdppjelnpdaaGreatDoorPk5
import Derived.Test.YtkomdppjelnpdaaGreatDoorPk6
namespace Go.Proofs.YtkomdppjelnpdaaGreatDoor
open Go.AE Go.Ru
set_option maxRecDepth 100000
set_option pp.maxSteps 2000

def g15 : AG := gput 96 cProc g14
theorem g15_ok : GOk Tryz.prog g15 := gput_ok proc_ok g14_ok

/-- declarations, their places in a row that may grow -/
def cVarsM : AC := fun args K k => ∃ d : Nat, ∃ e ts ns mo op kind, args = [pp, .p (.int .i64 kind)] ∧ K = encP e ts ns op mo ∧ Fine d ts ns ∧
  AK (varsS e kind ⟨ts, ns, mo⟩) (fun l s => k (.ret (.slr 2 0 0 l.length)) (encP e s.ts s.ns op s.mo ++ [kidA l])) (fun a er => ∀ K', k (.pan (wrongV a er)) K')
theorem varsM_ok : COk 95 cVarsM := by
  rintro args K k ⟨d, e, ts, ns, mo, op, kind, rfl, rfl, hf, hk⟩
  refine call_ok g12_ok 19 _ _ _ _ ?_
  have hf := hf.fin
  unfold varsS at hk
  conv => whnf
  refine loop_nil (ι := LC) 3 1 (fun i => pvs (kidF [] i)) (fun i => ⟨[(0, pp), (1, .p (.int .i64 kind)), (5, .slr 2 0 0 i.l.length)], encP e i.ts i.ns op i.mo ++ [kidA i.l]⟩)
      (fun i => i.ts.length ≤ i.n ∧ i.n ≤ 900001 ∧ i.l.length + i.ts.length ≤ 900000 ∧ Fin d 0 i.ts i.ns ∧ AK (varsL e kind i.n i.l ⟨i.ts, i.ns, i.mo⟩)
        (fun l s => k (.ret (.slr 2 0 0 l.length)) (encP e s.ts s.ns op s.mo ++ [kidA l])) (fun a er => ∀ K', k (.pan (wrongV a er)) K'))
      (fun i => i.n) ⟨ts, ns, mo, [], ts.length⟩ (encP e ts ns op mo)
      rfl ⟨.inl (AV.le_refl _), .inl (AV.le_refl _), .inr ⟨rfl, rfl⟩, trivial⟩ (nswK.refl _ _) rfl
      ⟨Nat.le_refl _, ?_, ?_, hf, hk⟩ ?_
  · have := hf.s; show ts.length ≤ 900001; omega
  · have := hf.s; show 0 + ts.length ≤ 900000; omega
  clear hk hf
  rintro Y hle ⟨ts, ns, mo, l, n⟩ ⟨hn, hn2, hln, hf, hk⟩ ih
  simp only at hn hn2 hln hf hk
  conv => whnf
  refine ⟨_, _, _, _, _, _, _, rfl, rfl, ?_⟩
  conv => whnf
  refine two_intro (fun h => ?_) (fun h => ?_)
  · have h : isS [118, 97, 114] ts = true := h
    cases n with
    | zero => have := isS_pos h; simp only at this; omega
    | succ n =>
    obtain ⟨t0, ts, rfl⟩ : ∃ t r, ts = t :: r := by
      cases ts with
      | nil => simp [isS] at h
      | cons t r => exact ⟨t, r, rfl⟩
    simp only [varsL, h, bindA, dropS] at hk
    conv => whnf
    refine ⟨_, _, _, _, _, _, _, rfl, rfl, ?_⟩
    conv => whnf
    have hf : Fin d 4 ts ns := ⟨hf.1, by have := hf.2; simp only [List.length_cons] at this; omega⟩
    refine ⟨_, _, _, _, _, _, rfl, rfl, hk.step (ident_le _ _) (fun t ts2 ns2 mo2 hl hk => ?_) (fun a er hb => by (conv => whnf); exact hb _)⟩
    have hf := hf.st hl
    have hl1 := hl.2
    conv => whnf
    refine ⟨d, _, _, _, _, _, _, _, _, _, rfl, rfl, hf.fine, hk.step (typed_le _ _ _ _ _) (fun x ts3 ns3 mo3 hl hk => ?_) (fun a er hb => by (conv => whnf); exact hb _)⟩
    have hf := hf.st hl
    have hl2 := hl.2
    conv => whnf
    refine ⟨⟨rfl, rfl, rfl, allLt_ok ⟨trivial, rfl⟩⟩, ?_⟩
    conv => whnf
    refine ⟨⟨rfl, rfl, rfl, rfl, ?_, ?_⟩, ?_⟩
    · show (l.length + 1) * 8 ≤ 140737488355328
      omega
    · show l.length + 1 ≤ 9223372036854775807
      omega
    conv => whnf
    refine ⟨_, _, _, _, _, _, _, rfl, rfl, hk.step (want_le _ _ _) (fun _ ts4 ns4 mo4 hl hk => ?_) (fun a er hb => by (conv => whnf); exact hb _)⟩
    have hf := hf.st hl
    have hl3 := hl.2
    conv => whnf
    simp only [List.length_cons, List.tail_cons] at hl1 hl2 hl3 hn hln
    refine hle _ _ (Le.cutEnv 3 rfl rfl ⟨rfl, fun _ _ => rfl, ?_, trivial⟩ ?_ ?_) (ih ⟨ts4, ns4, mo4, l ++ [x], n⟩ (by simp only; omega) ⟨?_, ?_, ?_, hf.lo (by omega), hk⟩)
    · exact kid_cl l x _ 3 rfl
    · exact ⟨AV.le_refl _, AV.le_refl _, AV.le_of_eq (show AV.slr 2 0 0 (l.length + 1) = AV.slr 2 0 0 (l ++ [x]).length by simp), trivial⟩
    · exact ⟨ABlk.le_refl _, ABlk.le_refl _, kidA_snoc l x _ rfl, trivial⟩
    · simp only; omega
    · simp only; omega
    · simp only [List.length_append, List.length_cons, List.length_nil]; omega
  · have h : isS [118, 97, 114] ts = false := h
    have hk : k (.ret (.slr 2 0 0 l.length)) (encP e ts ns op mo ++ [kidA l]) := by
      cases n with
      | zero => exact hk
      | succ n => simp only [varsL, h] at hk; exact hk
    conv => whnf
    exact hk

def g16 : AG := gput 95 cVarsM g15
theorem g16_ok : GOk Tryz.prog g16 := gput_ok varsM_ok g15_ok

theorem AK.vstep {α β : Type} {r : R α} {f : α → PS → R β} {ok : β → PS → Prop} {bad : Int → Int → Prop} (h : AK (r.bind f) ok bad) {ok' : α → PS → Prop} {bad' : Int → Int → Prop} {p : α → PS → Prop} (hp : ∀ a s, r = .ok a s → p a s)
    (h1 : ∀ a ts ns mo, p a ⟨ts, ns, mo⟩ → AK (f a ⟨ts, ns, mo⟩) ok bad → ok' a ⟨ts, ns, mo⟩) (h2 : ∀ a er, bad a er → bad' a er) : AK r ok' bad' := by
  cases r with
  | ok a s => exact h1 _ _ _ _ (hp _ _ rfl) h
  | bad a er => exact h2 _ _ h

def cProgram : AC := fun args K k => ∃ e ts ns mo X, args = [pp] ∧ K = encP e ts ns 0 mo ++ X ∧ Fine 40 ts ns ∧
  After e (programS e ⟨ts, ns, mo⟩) intV 0 X k
theorem varsS_len (e kind : Int) (s : PS) : ∀ l s', varsS e kind s = .ok l s' → Lw s 0 0 s' ∧ l.length + s'.ts.length ≤ s.ts.length := fun l s' h =>
  ⟨vars_le e kind s l s' h, by have := varsL_len e kind _ _ _ _ _ h; simpa using this⟩
theorem program_ok : COk 66 cProgram := by
  rintro args K k ⟨e, ts, ns, mo, X, rfl, rfl, hf, hk⟩
  refine frameP g16_ok 19 rfl fun Q hr hp => ?_
  have hk := hk.ak
  have hf := hf.fin
  unfold programS at hk
  conv => whnf
  refine ⟨40, _, _, _, _, _, _, rfl, rfl, hf.fine, hk.vstep (varsS_len _ _ _) (fun vs ts2 ns2 mo2 hl hk => ?_) (fun a er hb K' => by (conv => whnf); show fK K' _; rw [fK_eq]; exact hp _ _ rfl hb)⟩
  have hln := hl.2
  have hf0 := hf.s
  have hf := hf.st hl.1
  simp only at hln
  conv => whnf
  refine loop_by (ι := LC) (fun i => ⟨[(0, pp), (3, .slr 2 0 0 i.l.length)], encP e i.ts i.ns 0 i.mo ++ [kidA i.l]⟩)
      (fun i => i.ts.length ≤ i.n ∧ i.n ≤ 900001 ∧ i.l.length + i.ts.length ≤ 900000 ∧ Fin 40 0 i.ts i.ns ∧ AK ((procsL e 40 i.n i.l ⟨i.ts, i.ns, i.mo⟩).bind fun l s => putS ⟨1, 0, 0, [], l⟩ s)
        (fun a s => k (.ret (intV a)) (encP e s.ts s.ns 0 s.mo ++ X)) (fun a er => k (.pan (wrongV a er)) (deads 2 ++ X)))
      (fun i => i.n) ⟨ts2, ns2, mo2, vs, ts2.length⟩ ⟨AV.le_refl _, AV.le_refl _, trivial⟩ (lesK.refl _)
      ⟨Nat.le_refl _, ?_, ?_, hf, hk⟩ ?_
  · have := hf.s; show ts2.length ≤ 900001; omega
  · show vs.length + ts2.length ≤ 900000; omega
  clear hk hf hln hl hf0
  rintro Y hle ⟨ts, ns, mo, l, n⟩ ⟨hn, hn2, hln, hf, hk⟩ ih
  simp only at hn hn2 hln hf hk
  conv => whnf
  refine ⟨by simp <;> omega, ?_⟩
  conv => whnf
  rw [enc_hd]
  conv => whnf
  refine two_intro (fun h => ?_) (fun h => ?_)
  · have h : (hdK ts != 5) = true := h
    cases n with
    | zero =>
      cases ts with
      | nil => simp [hdK] at h
      | cons t r => simp at hn
    | succ n =>
    obtain ⟨t, r, rfl⟩ : ∃ t r, ts = t :: r := by
      cases ts with
      | nil => simp [hdK] at h
      | cons t r => exact ⟨t, r, rfl⟩
    simp only [procsL, bindA] at hk
    conv => whnf
    refine ⟨40, _, _, _, _, _, _, rfl, rfl, rfl, hf.fine, hk.step (proc_le _ _ _) (fun x ts3 ns3 mo3 hl hk => ?_) (fun a er hb => by ((conv => whnf); exact hp _ _ rfl hb))⟩
    have hf := hf.st hl
    have hl2 := hl.2
    simp only [List.length_cons] at hl2 hn hln
    conv => whnf
    refine ⟨⟨rfl, rfl, rfl, allLt_ok ⟨trivial, rfl⟩⟩, ?_⟩
    conv => whnf
    refine ⟨⟨rfl, rfl, rfl, rfl, ?_, ?_⟩, ?_⟩
    · show (l.length + 1) * 8 ≤ 140737488355328
      omega
    · show l.length + 1 ≤ 9223372036854775807
      omega
    conv => whnf
    refine hle _ _ (Le.cutEnv 3 rfl rfl ⟨rfl, fun _ _ => rfl, ?_, trivial⟩ ?_ ?_) (ih ⟨ts3, ns3, mo3, l ++ [x], n⟩ (by simp only; omega) ⟨?_, ?_, ?_, hf.lo (by omega), hk⟩)
    · exact kid_cl l x _ 3 rfl
    · exact ⟨AV.le_refl _, AV.le_of_eq (show AV.slr 2 0 0 (l.length + 1) = AV.slr 2 0 0 (l ++ [x]).length by simp), trivial⟩
    · exact ⟨ABlk.le_refl _, ABlk.le_refl _, kidA_snoc l x _ rfl, trivial⟩
    · simp only; omega
    · simp only; omega
    · simp only [List.length_append, List.length_cons, List.length_nil]; omega
  · have h : (hdK ts != 5) = false := h
    obtain rfl : ts = [] := by
      cases ts with
      | nil => rfl
      | cons t r =>
        obtain ⟨tk, _, _, _⟩ := t
        cases tk <;> simp [hdK, TK.code] at h
    replace hk : AK (putS ⟨1, 0, 0, [], l⟩ ⟨[], ns, mo⟩) (fun a s => k (.ret (intV a)) (encP e s.ts s.ns 0 s.mo ++ X)) (fun a er => k (.pan (wrongV a er)) (deads 2 ++ X)) := by
      cases n <;> exact hk
    conv => whnf
    refine ⟨l, _, _, _, _, _, _, _, _, _, _, _, rfl, rfl, PutK.slr hf.sz rfl rfl rfl (fun _ _ => rfl) ?_⟩
    conv => whnf
    exact hr _ _ _ _ _ _ rfl rfl hk
end Go.Proofs.YtkomdppjelnpdaaGreatDoor

namespace Go.AE

def plainOp : Op → Bool
  | .move _ | .assign _ | .alloc _ | .store _ _ _ | .load _ _ | .extract _ _ | .typeAssert _ _ _ _ | .fieldAddr _ _ _ => true
  | _ => false
def plainL : List Oper → Bool
  | [] => true
  | o :: r => plainOp o.op && o.guard.isNone && plainL r
def isRec : Op → Bool
  | .call c => match c.callee with
    | .builtin .recover => true
    | _ => false
  | _ => false
def deferOf (o : Oper) : Option Nat := match o.op with
  | .defer c => match c.callee with
    | .value (.tmp d) => match c.args.toList with
      | [] => match o.dst with
        | none => match o.guard with
          | none => some d
          | some _ => none
        | some _ => none
      | _ => none
    | _ => none
  | _ => none

/-- the call that was put off -/
noncomputable def recE (T : Tab) (fn : Func) (k : List ABlk → Prop) (e : Ex) (s : AS) : Prop := match e with
  | .norm => ares T fn s fun _ => fK s.K k
  | .ret => ares T fn s fun _ => fK s.K k
  | _ => False
noncomputable def recM (T : Tab) (call : ACall) (fn : Func) (kb : Nat) (y : Code) (k : List ABlk → Prop) (e : Ex) (s : AS) : Prop := match e with
  | .norm => awp T call kb fn.ntmps y s (recE T fn k)
  | _ => False
noncomputable def recW (T : Tab) (call : ACall) (fn : Func) (caps : List AV) (K : List ABlk) (rv : AV) (k : List ABlk → Prop) : Prop :=
  match fn.body with
  | some (.seq (.region _ ops false) y) => match ops.toList with
    | o0 :: os => match isRec o0.op, o0.dst, o0.guard with
      | true, some d, none => match plainL os && Nat.ble (len caps) fn.ntmps && Nat.blt d fn.ntmps && noRF y with
        | true => fV rv fun rv => aops T call fn.ntmps ops.toList os ((d, rv) :: frame0 0 caps) K (recM T call fn (len K) y k)
        | false => False
      | _, _, _ => False
    | [] => False
  | _ => False

/-- behind the body -/
noncomputable def bEnd (T : Tab) (fn : Func) (k : AO → List ABlk → Prop) (e : Ex) (s : AS) : Prop := match e with
  | .norm => ares T fn s fun v => fK s.K fun K => k (.ret v) K
  | .ret => ares T fn s fun v => fK s.K fun K => k (.ret v) K
  | .pan v => fV v fun v => fK s.K fun K => k (.pan v) K
  | .exit _ => False
noncomputable def dRes (T : Tab) (fn : Func) (k : AO → List ABlk → Prop) (t : List (Nat × AV)) (K : List ABlk) : Prop := ares T fn ⟨t, K⟩ fun v => fK K fun K => k (.ret v) K
noncomputable def dEnd (T : Tab) (call : ACall) (fn gf : Func) (caps : List AV) (k : AO → List ABlk → Prop) (e : Ex) (s : AS) : Prop := match e with
  | .norm => recW T call gf caps s.K (.p .nili) (dRes T fn k s.t)
  | .ret => recW T call gf caps s.K (.p .nili) (dRes T fn k s.t)
  | .pan v => recW T call gf caps s.K v (dRes T fn k s.t)
  | .exit _ => False
noncomputable def dMid (T : Tab) (call : ACall) (fn : Func) (o1 : Oper) (d : Nat) (y : Code) (k : AO → List ABlk → Prop) (s : AS) : Prop :=
  bound fn.ntmps o1.dst <| aop T call o1 s.t s.K (fun v K' => match look (put s.t o1.dst v) d with
    | .fn g first caps => match first with
      | [] => match T.f.get g with
        | some gf => match gf.body.isSome with
          | true => awp T call (len K') fn.ntmps y ⟨put s.t o1.dst v, K'⟩ (dEnd T call fn gf caps k)
          | false => False
        | none => False
      | _ => False
    | _ => False) (fun _ _ => False)
noncomputable def abodyD (T : Tab) (call : ACall) (fn : Func) (args : List AV) (K : List ABlk) (k : AO → List ABlk → Prop) : Prop :=
  match fn.body with
  | some (.seq c1 (.seq c2 (.seq c3 (.seq (.region _ ops false) y)))) => match ops.toList with
    | [o1, o2] => match deferOf o2, o1.guard with
      | some d, none => match Nat.ble (len args) fn.ntmps && noRF c1 && noRF c2 && noRF c3 && noRF y with
        | true => fK K fun K => awp T call (len K) fn.ntmps c1 ⟨frame0 0 args, K⟩ (wSeqK (fun s Q => awp T call (len K) fn.ntmps c2 s (wSeqK (fun s Q => awp T call (len K) fn.ntmps c3 s (wSeqK (fun s _ => dMid T call fn o1 d y k s) Q)) Q)) (bEnd T fn k))
        | false => False
      | _, _ => False
    | _ => False
  | _ => False

section
variable {P : Program} {T : Tab} {call : ACall} {we : World} {me : Mp} {N kb : Nat} {D0 : List Deferred} {bm : Bool} {ro : Option Nat} {nn : Nat}

def isPl : Result Next → Bool
  | .ok (.value _) _ => true
  | .ok .skip _ => true
  | .halt _ _ => true
  | _ => false
theorem isPl_val (s : Sem Value) (w : World) : isPl ((do pure (Next.value (← s)) : Sem Next).run P w) = true := by
  cases h : s.run P w <;> simp [h, isPl]
theorem isPl_skip (s : Sem Unit) (w : World) : isPl ((do s; pure Next.skip : Sem Next).run P w) = true := by
  cases h : s.run P w <;> simp [h, isPl]
theorem exec_plain {o : Oper} (hp : plainOp o.op = true) (ρ : Operand → Value) (w : World) : isPl ((execOp ρ o).run P w) = true := by
  unfold execOp
  cases hop : o.op <;> rw [hop] at hp <;> first | (simp [plainOp] at hp; done) | exact isPl_val _ _ | exact isPl_skip _ _ | rfl

/-- quiet operations behind recover -/
theorem aopsS_ok (hT : TabOk P T) (hcall : CallOk P call) {ops : Array Oper} {Q : Ex → AS → Prop} {cs : List Frame} (l : List Oper) : ∀ (i : Nat) (t : List (Nat × AV)) (K : List ABlk), (∀ j, l[j]? = ops[i + j]?) → plainL l = true →
    aops T call N ops.toList l t K Q → ∀ (w : World) (m : Mp) (a : Act), Tr we me w m → St w m (hp K) → EnvOk w m t a.tmps → a.tmps.size = N → Mk bm we D0 w m a.defers →
    wpOpsSIn (FW none) nn P ops (fun e a cs' w' => cs' = cs ∧ Rel bm N we me D0 Q e a w') (List.range' i l.length) a cs w := by
  induction l with
  | nil => intro i t K _ _ h w m a hTr hS hE hN hd; exact ⟨rfl, hN, m, ⟨t, K⟩, hd, hTr, hS, hE, h⟩
  | cons o rest ih =>
    intro i t K hl hp h w m a hTr hS hE hN hd
    simp only [plainL, Bool.and_eq_true] at hp
    obtain ⟨⟨hp1, hg⟩, hp2⟩ := hp
    have hg : o.guard = none := by simpa using hg
    rw [aops_cons] at h
    simp only [want, hg] at h
    obtain ⟨hb, h⟩ := bound_ok h
    have h0 : ops[i]? = some o := by simpa using (hl 0).symm
    simp only [List.length_cons, List.range'_succ, wpOpsSIn, h0]
    refine ⟨fun _ _ => trivial, ?_⟩
    rw [if_pos (by simp [Region.wanted, hg])]
    have hu := aop_ok (ro := none) (nn := nn) (next := fun a w => wpOpsSIn (FW none) nn P ops (fun e a cs' w' => cs' = cs ∧ Rel bm N we me D0 Q e a w') (List.range' (i + 1) rest.length) a cs w)
      (Q := fun e a w => cs = cs ∧ Rel bm N we me D0 Q e a w) hT hcall hS hE (fun w' m' v K' u h1 h2 h3 h4 => ih (i + 1) _ _ (fun j => by have := hl (j + 1); simpa [Nat.add_assoc, Nat.add_comm 1 j] using this) hp2 h4 w' m' _ (hTr.trans h1) h2
        ((hE.mono h1).put (fun x hx => by rw [hN]; exact hb x hx) h3) (by rw [put_size]; exact hN) (by rw [put_defers]; exact hd.mono h1))
      (fun w' m' v K' u h1 h2 h3 h4 => ⟨rfl, hN, m', ⟨t, K'⟩, v, u, hd.mono h1, rfl, hTr.trans h1, h2, hE.mono h1, h3, h4⟩) h
    have hpl := exec_plain (P := P) hp1 a.eval w
    generalize (execOp a.eval o).run P w = r at hpl hu ⊢
    cases r with
    | ok x w' => cases x <;> first | exact hu | simp [isPl] at hpl
    | halt x w' => cases x <;> first | exact ⟨trivial, hu.2⟩ | exact hu.elim

theorem wpOpsSIn_mono {ops : Array Oper} {Q Q' : Exit → Act → List Frame → World → Prop} {l : List Nat} {a : Act} {cs : List Frame} {w : World} (h : wpOpsSIn (FW none) nn P ops Q l a cs w) (hq : ∀ e a cs w, Q e a cs w → Q' e a cs w) : wpOpsSIn (FW none) nn P ops Q' l a cs w := by
  induction l generalizing a cs w with
  | nil => exact hq _ _ _ _ h
  | cons i rest ih =>
    simp only [wpOpsSIn] at h ⊢
    cases ho : ops[i]? with
    | none => rw [ho] at h; exact ih h
    | some o =>
      rw [ho] at h
      simp only at h ⊢
      refine ⟨h.1, ?_⟩
      have h := h.2
      split at h
      · rename_i hw
        rw [if_pos hw]
        generalize (execOp a.eval o).run P w = r at h ⊢
        cases r with
        | ok x w' =>
          cases x with
          | recover =>
            simp only at h ⊢
            cases hrd : recoverD cs with
            | none => rw [hrd] at h; exact ih h
            | some x => rw [hrd] at h; exact ih h
          | value v => exact ih h
          | skip => exact ih h
          | _ => exact h.elim
        | halt x w' => cases x <;> first | exact hq _ _ _ _ h | exact h.elim
      · rename_i hw
        rw [if_neg hw]
        exact ih h

theorem ares_nores (hT : TabOk P T) {w : World} {m : Mp} {s : AS} {a : Act} (hS : St w m (hp s.K)) (hE : EnvOk w m s.t a.tmps) {fn : Func} {q : Prop} (h : ares T fn s fun _ => q) : (∃ u, (results fn a.tmps).run P w = .ok u w) ∧ q := by
  obtain ⟨u, v, h1, _, h3⟩ := ares_ok hT hS hE h
  exact ⟨⟨u, h1⟩, h3⟩

theorem recW_ok (hT : TabOk P T) (hcall : CallOk P call) (hmix : P.follows .mixedOrders = true) {g : FuncId} {fn : Func} (hf : P.funcs[g]? = some fn) {caps : List AV} {K : List ABlk} {rv : AV} {k : List ABlk → Prop} (h : recW T call fn caps K rv k)
    {w : World} {m : Mp} {U : Array Value} {u : FrameMode} (hS : St w m (hp K)) (hU : VL w m caps U)
    (hrec : ∀ (c₀ : Frame) cs, c₀.mode = u → ∃ x u', V w m rv x ∧ settle u' = .returning ∧ (recoverD (c₀ :: cs) = some (x, { c₀ with mode := u' } :: cs) ∨ (recoverD (c₀ :: cs) = none ∧ x = .nilIface ∧ u' = u))) :
    CallsDIn (FW none) nn P g U u w (fun e u' w' => (∃ v, e = .returned v) ∧ settle u' = .returning ∧ ∃ m' K', Tr w m w' m' ∧ St w' m' (hp K') ∧ k K') := by
  unfold recW at h
  split at h
  case h_2 => exact h.elim
  rename_i id ops y hb
  split at h
  case h_2 => exact h.elim
  rename_i o0 os hops
  split at h
  case h_2 => exact h.elim
  rename_i d hr0 hd0 hg0
  split at h
  case h_2 => exact h.elim
  rename_i hchk
  simp only [Bool.and_eq_true] at hchk
  obtain ⟨⟨⟨hpl, hle⟩, hdlt⟩, hrf⟩ := hchk
  have hle : caps.length ≤ fn.ntmps := by have := Nat.le_of_ble_eq_true hle; rwa [len_eq] at this
  have hdlt : d < fn.ntmps := Nat.le_of_ble_eq_true hdlt
  rw [fV_eq] at h
  have hkb : ∀ r, len K ≤ r → m.L r = .absent := fun r hr => hS.absent (by
    simp only [hp, nth_eq]
    rw [len_eq] at hr
    rw [List.getElem?_eq_none hr])
  refine callsDIn_of_wpSIn hf hb trivial fun c₀ cs hu => ?_
  obtain ⟨x, u', hx, hset, hrd⟩ := hrec c₀ cs hu
  refine wpSIn_seq (wpSIn_region ?_)
  have hsz : ops.size = os.length + 1 := by rw [← Array.length_toList, hops]; rfl
  have hr : List.range ops.size = 0 :: List.range' 1 os.length := by
    rw [hsz, List.range_eq_range', List.range'_succ]
  rw [hr]
  have h0 : ops[0]? = some o0 := by rw [← Array.getElem?_toList, hops]; rfl
  simp only [wpOpsSIn, h0]
  refine ⟨fun _ _ => trivial, ?_⟩
  rw [if_pos (by simp [Region.wanted, hg0])]
  have hexec : (execOp (Act.eval { tmps := U ++ Array.replicate (fn.ntmps - U.size) undef, defers := [] }) o0).run P w = .ok .recover w := by
    unfold isRec at hr0
    split at hr0
    case h_2 => simp at hr0
    rename_i c hop
    split at hr0
    case h_2 => simp at hr0
    rename_i hc
    unfold execOp
    simp only [hop, resolve, hc]
    simp [go_sem, invoke, builtin]
  rw [hexec]
  have hN : (U ++ Array.replicate (fn.ntmps - U.size) undef).size = fn.ntmps := by simp; have := hU.1; omega
  have hE0 : EnvOk w m ((d, rv) :: frame0 0 caps) ((U ++ Array.replicate (fn.ntmps - U.size) undef).setIfInBounds d x) := (EnvOk.frame hU _).set (by rw [hN]; exact hdlt) hx
  -- what stands behind the first operation
  have key : wpOpsSIn (FW none) nn P ops (Exit.thenS (y.wpSIn (FW none) nn P (bodyPostS P fn c₀ cs fun e u' w' => (∃ v, e = .returned v) ∧ settle u' = .returning ∧ ∃ m' K', Tr w m w' m' ∧ St w' m' (hp K') ∧ k K'))
      (bodyPostS P fn c₀ cs fun e u' w' => (∃ v, e = .returned v) ∧ settle u' = .returning ∧ ∃ m' K', Tr w m w' m' ∧ St w' m' (hp K') ∧ k K')) (List.range' 1 os.length)
      { tmps := (U ++ Array.replicate (fn.ntmps - U.size) undef).setIfInBounds d x, defers := [] } ({ c₀ with mode := u' } :: cs) w := by
    refine wpOpsSIn_mono (aopsS_ok (bm := false) (D0 := []) (we := w) (me := m) (cs := { c₀ with mode := u' } :: cs) hT hcall os 1 _ K (fun j => ?_) hpl h w m _ (Tr.refl w m) hS hE0 (by simpa using hN) .base) ?_
    · rw [← Array.getElem?_toList, hops, Nat.add_comm]; rfl
    rintro e a1 cs1 w1 ⟨rfl, hR⟩
    cases e with
    | normal =>
      obtain ⟨hN1, m1, s1, hd1, hT1, hS1, hE1, hQ⟩ := hR
      refine wpSIn_of_wpIn rfl (wpIn_mono (awp_ok (ro := none) (bm := false) (D0 := []) (we := w) (me := m) hT hcall hmix hkb (fun d hd => by simp at hd) y _ _ hQ w1 m1 a1 hT1 hS1 hE1 hN1 hd1 (.inr hrf)) fun e a2 w2 hR2 => ?_)
      have fin : ∀ (m2 : Mp) (s2 : AS), Mk false w [] w2 m2 a2.defers → Tr w m w2 m2 → St w2 m2 (hp s2.K) → EnvOk w2 m2 s2.t a2.tmps → (ares T fn s2 fun _ => fK s2.K k) →
          a2.defers = [] ∧ ∃ u1, ({ c₀ with mode := u' } :: cs : List Frame) = { c₀ with mode := u1 } :: cs ∧ ∃ v, (results fn a2.tmps).run P w2 = .ok v w2 ∧ ((∃ v', Ending.returned v = .returned v') ∧ settle u1 = .returning ∧ ∃ m' K', Tr w m w2 m' ∧ St w2 m' (hp K') ∧ k K') := by
        intro m2 s2 hd2 hT2 hS2 hE2 hQ2
        obtain ⟨⟨v, hv⟩, hk⟩ := ares_nores (a := a2) hT hS2 hE2 hQ2
        rw [fK_eq] at hk
        refine ⟨?_, u', rfl, v, hv, ⟨v, rfl⟩, hset, m2, s2.K, hT2, hS2, hk⟩
        generalize a2.defers = ds at hd2
        cases hd2 with
        | base => rfl
        | mark hb => simp at hb
      cases e with
      | normal => obtain ⟨_, m2, s2, hd2, hT2, hS2, hE2, hQ2⟩ := hR2; exact fin m2 s2 hd2 hT2 hS2 hE2 hQ2
      | ret => obtain ⟨_, m2, s2, hd2, hT2, hS2, hE2, hQ2⟩ := hR2; exact fin m2 s2 hd2 hT2 hS2 hE2 hQ2
      | exit n => obtain ⟨_, _, _, _, _, _, _, hQ2⟩ := hR2; exact hQ2.elim
      | panic ch => obtain ⟨_, _, _, _, _, _, _, _, _, _, _, hQ2⟩ := hR2; exact hQ2.elim
      | goto l => exact hR2.elim
      | outgrown => exact hR2.elim
    | exit n => obtain ⟨_, _, _, _, _, _, _, hQ2⟩ := hR; exact hQ2.elim
    | ret => obtain ⟨_, _, _, _, _, _, _, hQ2⟩ := hR; exact hQ2.elim
    | panic ch => obtain ⟨_, _, _, _, _, _, _, _, _, _, _, hQ2⟩ := hR; exact hQ2.elim
    | goto l => exact hR.elim
    | outgrown => exact hR.elim
  rcases hrd with hrd | ⟨hrd, rfl, rfl⟩
  · simp only [hrd, hd0, Act.put]
    exact key
  · simp only [hrd, hd0, Act.put]
    subst hu
    exact key

theorem mk_false {w : World} {m : Mp} {ds : List Deferred} (h : Mk false we D0 w m ds) : ds = D0 := by
  cases h with
  | base => rfl
  | mark hb => simp at hb

/-- behind a body that put nothing off -/
theorem bEnd_ok (hT : TabOk P T) {fn : Func} {k : AO → List ABlk → Prop} {e : Exit} {a : Act} {w : World} (h : Rel false N we me [] (bEnd T fn k) e a w) : bodyPostM (FW none) nn P fn (Post we me k) e a w := by
  cases e with
  | normal =>
    obtain ⟨_, m', s', hd, h1, h2, h3, h4⟩ := h
    obtain ⟨u, v, h5, h6, h7⟩ := ares_ok (s := s') (a := a) hT h2 h3 h4
    rw [fK_eq] at h7
    show LeavesInM (FW none) nn P fn a.tmps _ a.defers .returning w
    rw [mk_false hd]
    exact ⟨u, h5, m', v, s'.K, h1, h2, h6, h7⟩
  | ret =>
    obtain ⟨_, m', s', hd, h1, h2, h3, h4⟩ := h
    obtain ⟨u, v, h5, h6, h7⟩ := ares_ok (s := s') (a := a) hT h2 h3 h4
    rw [fK_eq] at h7
    show LeavesInM (FW none) nn P fn a.tmps _ a.defers .returning w
    rw [mk_false hd]
    exact ⟨u, h5, m', v, s'.K, h1, h2, h6, h7⟩
  | panic ch =>
    obtain ⟨_, m', s', v, u, hd, rfl, h1, h2, h3, h4, h5⟩ := h
    simp only [bEnd, fV_eq, fK_eq] at h5
    show LeavesInM (FW none) nn P fn a.tmps _ a.defers (.panicking _) w
    rw [mk_false hd]
    exact ⟨m', v, u, s'.K, rfl, h1, h2, h4, h5⟩
  | exit n => obtain ⟨_, _, _, _, _, _, _, h⟩ := h; exact h.elim
  | goto l => exact h
  | outgrown => exact h.elim

theorem dRes_ok (hT : TabOk P T) {fn : Func} {k : AO → List ABlk → Prop} {t : List (Nat × AV)} {K : List ABlk} {tmps : Array Value} {w : World} {m : Mp} (h : dRes T fn k t K) (hTr : Tr we me w m) (hS : St w m (hp K)) (hE : EnvOk w m t tmps) :
    LeavesInM (FW none) nn P fn tmps (Post we me k) [] .returning w := by
  unfold dRes at h
  obtain ⟨u, v, h5, h6, h7⟩ := ares_ok (s := ⟨t, K⟩) (a := { tmps := tmps, defers := [] }) hT hS hE h
  rw [fK_eq] at h7
  exact ⟨u, h5, m, v, K, hTr, hS, h6, h7⟩

theorem dEnd_ok (hT : TabOk P T) (hcall : CallOk P call) (hmix : P.follows .mixedOrders = true) {fn gf : Func} {g : FuncId} (hent : Ent P g) (hg : P.funcs[g]? = some gf) {caps : List AV} {U : Array Value} {k : AO → List ABlk → Prop} {w1 : World} {m1 : Mp}
    (hT1 : Tr we me w1 m1) (hU : VL w1 m1 caps U) {e : Exit} {a : Act} {w : World} (h : Rel false N w1 m1 [{ target := .fn (.func g) U, args := #[] }] (dEnd T call fn gf caps k) e a w) :
    bodyPostM (FW none) nn P fn (Post we me k) e a w := by
  have core : ∀ (u : FrameMode) (m' : Mp) (s' : AS) (rv : AV), u ≠ .run → Mk false w1 [{ target := .fn (.func g) U, args := #[] }] w m' a.defers → Tr w1 m1 w m' → St w m' (hp s'.K) → EnvOk w m' s'.t a.tmps →
      recW T call gf caps s'.K rv (dRes T fn k s'.t) →
      (∀ (c₀ : Frame) cs, c₀.mode = u → ∃ x u', V w m' rv x ∧ settle u' = .returning ∧ (recoverD (c₀ :: cs) = some (x, { c₀ with mode := u' } :: cs) ∨ (recoverD (c₀ :: cs) = none ∧ x = .nilIface ∧ u' = u))) →
      LeavesInM (FW none) nn P fn a.tmps (Post we me k) a.defers u w := by
    intro u m' s' rv hu hd h1 h2 h3 h4 hrec
    rw [mk_false hd]
    refine ⟨hu, .inr ⟨FW.depth, .func g, U, g, U, rfl, ?_, fun _ _ => trivial, ?_⟩⟩
    · simp [invoke, callFunc_run hent]
    · refine CallsDIn.mono (recW_ok hT hcall hmix hg h4 h2 ⟨hU.1, fun j hj hj' => (hU.2 j hj hj').mono h1⟩ hrec) ?_
      rintro e u' w' ⟨⟨v, rfl⟩, hset, m2, K2, h5, h6, h7⟩
      show LeavesInM (FW none) nn P fn a.tmps (Post we me k) [] (settle u') w'
      rw [hset]
      exact dRes_ok hT h7 (hT1.trans (h1.trans h5)) h6 (h3.mono h5)
  have ret : ∀ (m' : Mp) (c₀ : Frame) (cs : List Frame), c₀.mode = .returning → ∃ x u', V w m' (.p .nili) x ∧ settle u' = .returning ∧ (recoverD (c₀ :: cs) = some (x, { c₀ with mode := u' } :: cs) ∨ (recoverD (c₀ :: cs) = none ∧ x = .nilIface ∧ u' = .returning)) :=
    fun m' c₀ cs hc => ⟨.nilIface, .returning, .p _ _ .nili, rfl, .inr ⟨by simp [recoverD, hc], rfl, rfl⟩⟩
  cases e with
  | normal =>
    obtain ⟨_, m', s', hd, h1, h2, h3, h4⟩ := h
    exact core .returning m' s' _ (by simp) hd h1 h2 h3 h4 (ret m')
  | ret =>
    obtain ⟨_, m', s', hd, h1, h2, h3, h4⟩ := h
    exact core .returning m' s' _ (by simp) hd h1 h2 h3 h4 (ret m')
  | panic ch =>
    obtain ⟨_, m', s', v, u, hd, rfl, h1, h2, h3, h4, h5⟩ := h
    exact core (.panicking [{ v := u, recovered := false }]) m' s' v (by simp) hd h1 h2 h3 h5 fun c₀ cs hc => ⟨u, .panicking [{ v := u, recovered := true }], h4, rfl, .inl (by simp [recoverD, hc])⟩
  | exit n => obtain ⟨_, _, _, _, _, _, _, h⟩ := h; exact h.elim
  | goto l => exact h
  | outgrown => exact h.elim

theorem defer_exec {o : Oper} {d : Nat} (h : deferOf o = some d) {ρ : Operand → Value} {g : FuncId} {B : Array Value} (hv : ρ (.tmp d) = .func (.func g) #[] B) (w : World) :
    o.dst = none ∧ o.guard = none ∧ (execOp ρ o).run P w = .ok (.defer { target := .fn (.func g) B, args := #[] }) w := by
  unfold deferOf at h
  split at h
  case h_2 => simp at h
  rename_i c hop
  split at h
  case h_2 => simp at h
  rename_i x hc
  split at h
  case h_2 => simp at h
  rename_i hargs
  split at h
  case h_2 => simp at h
  rename_i hdst
  split at h
  case h_2 => simp at h
  rename_i hg
  simp only [Option.some.injEq] at h
  subst h
  have hargs : c.args = #[] := by apply Array.ext'; simpa using hargs
  refine ⟨hdst, hg, ?_⟩
  unfold execOp
  simp only [hop]
  simp [resolve, hc, hv, hargs, Deferred.ofValue]

theorem abodyD_ok (hT : TabOk P T) (hcall : CallOk P call) (hmix : P.follows .mixedOrders = true) {f : FuncId} {fn : Func} (hf : P.funcs[f]? = some fn) (hn : (fn.name == "runtime.NumGoroutine") = false) {args : List AV} {K : List ABlk} {k : AO → List ABlk → Prop}
    (h : abodyD T call fn args K k) : ACalls P f args K k := by
  unfold abodyD at h
  split at h
  case h_2 => exact h.elim
  rename_i c1 c2 c3 id ops y hb
  split at h
  case h_2 => exact h.elim
  rename_i o1 o2 hops
  split at h
  case h_2 => exact h.elim
  rename_i d hdo hg1
  split at h
  case h_2 => exact h.elim
  rename_i hchk
  simp only [Bool.and_eq_true] at hchk
  obtain ⟨⟨⟨⟨hle, hn1⟩, hn2⟩, hn3⟩, hn4⟩ := hchk
  have hle : args.length ≤ fn.ntmps := by have := Nat.le_of_ble_eq_true hle; rwa [len_eq] at this
  refine ⟨⟨fn, hf, hn, by rw [hb]; rfl⟩, fun w m Args hS hA => (callsIn_wide (n := 0)).1 (callsIn_of_wp_marks hf hb trivial ?_)⟩
  show Code.wpIn (FW none) 0 P _ (bodyPostM (FW none) 0 P fn (Post w m k)) _ w
  rw [fK_eq] at h
  have hkb : ∀ r, len K ≤ r → m.L r = .absent := fun r hr => hS.absent (by
    simp only [hp, nth_eq]
    rw [len_eq] at hr
    rw [List.getElem?_eq_none hr])
  have hD0 : ∀ d ∈ ([] : List Deferred), ∀ D, d.target ≠ .collected D := fun d hd => by simp at hd
  refine wpIn_seq (wpIn_mono (awp_ok (ro := none) (bm := false) (D0 := []) (we := w) (me := m) hT hcall hmix hkb hD0 c1 _ _ h w m _ (Tr.refl w m) hS (EnvOk.frame hA _) (by simp; have := hA.1; omega) .base (.inr hn1)) fun e a1 w1 hR => ?_)
  cases e with
  | exit n => exact bEnd_ok (nn := 0) (e := .exit n) (N := fn.ntmps) hT (show Rel false fn.ntmps w m [] (bEnd T fn k) (.exit n) a1 w1 from hR)
  | ret => exact bEnd_ok (nn := 0) (e := .ret) (N := fn.ntmps) hT (show Rel false fn.ntmps w m [] (bEnd T fn k) .ret a1 w1 from hR)
  | panic ch => exact bEnd_ok (nn := 0) (e := .panic ch) (N := fn.ntmps) hT (show Rel false fn.ntmps w m [] (bEnd T fn k) (.panic ch) a1 w1 from hR)
  | goto l => exact hR.elim
  | outgrown => exact hR.elim
  | normal =>
  obtain ⟨hN1, m1, s1, hd1, hT1, hS1, hE1, h1⟩ := hR
  refine wpIn_seq (wpIn_mono (awp_ok (ro := none) (bm := false) (D0 := []) (we := w) (me := m) hT hcall hmix hkb hD0 c2 _ _ h1 w1 m1 a1 hT1 hS1 hE1 hN1 hd1 (.inr hn2)) fun e a2 w2 hR => ?_)
  cases e with
  | exit n => exact bEnd_ok (nn := 0) (e := .exit n) (N := fn.ntmps) hT (show Rel false fn.ntmps w m [] (bEnd T fn k) (.exit n) a2 w2 from hR)
  | ret => exact bEnd_ok (nn := 0) (e := .ret) (N := fn.ntmps) hT (show Rel false fn.ntmps w m [] (bEnd T fn k) .ret a2 w2 from hR)
  | panic ch => exact bEnd_ok (nn := 0) (e := .panic ch) (N := fn.ntmps) hT (show Rel false fn.ntmps w m [] (bEnd T fn k) (.panic ch) a2 w2 from hR)
  | goto l => exact hR.elim
  | outgrown => exact hR.elim
  | normal =>
  obtain ⟨hN2, m2, s2, hd2, hT2, hS2, hE2, h2⟩ := hR
  refine wpIn_seq (wpIn_mono (awp_ok (ro := none) (bm := false) (D0 := []) (we := w) (me := m) hT hcall hmix hkb hD0 c3 _ _ h2 w2 m2 a2 hT2 hS2 hE2 hN2 hd2 (.inr hn3)) fun e a3 w3 hR => ?_)
  cases e with
  | exit n => exact bEnd_ok (nn := 0) (e := .exit n) (N := fn.ntmps) hT (show Rel false fn.ntmps w m [] (bEnd T fn k) (.exit n) a3 w3 from hR)
  | ret => exact bEnd_ok (nn := 0) (e := .ret) (N := fn.ntmps) hT (show Rel false fn.ntmps w m [] (bEnd T fn k) .ret a3 w3 from hR)
  | panic ch => exact bEnd_ok (nn := 0) (e := .panic ch) (N := fn.ntmps) hT (show Rel false fn.ntmps w m [] (bEnd T fn k) (.panic ch) a3 w3 from hR)
  | goto l => exact hR.elim
  | outgrown => exact hR.elim
  | normal =>
  obtain ⟨hN3, m3, s3, hd3, hT3, hS3, hE3, h3⟩ := hR
  simp only [wSeqK, dMid] at h3
  obtain ⟨hb1, h3⟩ := bound_ok h3
  refine wpIn_seq (wpIn_region_list ?_)
  rw [hops]
  unfold wpListIn
  rw [if_pos (by simp [Region.wanted, hg1])]
  refine ⟨fun _ _ => trivial, ?_⟩
  rw [show (FW none).round = none from rfl, Oper.semAt_none]
  refine aop_ok (ro := none) hT hcall hS3 hE3 (fun w4 m4 v K4 u hT4 hS4 hV4 h4 => ?_) (fun w' m' v K' u _ _ _ h4 => h4.elim) h3
  have hE4 := (hE3.mono hT4).put (a := a3) (d := o1.dst) (fun x hx => by rw [hN3]; exact hb1 x hx) hV4
  have hvd := hE4 d
  split at h4
  case h_2 => exact h4.elim
  rename_i g first caps hlk
  split at h4
  case h_2 => exact h4.elim
  split at h4
  case h_2 => exact h4.elim
  rename_i gf hgf
  split at h4
  case h_2 => exact h4.elim
  rename_i hbody
  obtain ⟨hg2, hg3⟩ := hT.f g gf hgf
  rw [hlk] at hvd
  generalize hud : (a3.put o1.dst u).tmps.getD d undef = ud at hvd
  cases hvd with
  | fn _ _ _ A B hA' hB h1 h2' =>
  have hA0 : A = #[] := by
    have : A.size = 0 := by simpa using hA'.symm
    exact Array.eq_empty_of_size_eq_zero this
  subst hA0
  have hev : (a3.put o1.dst u).eval (.tmp d) = .func (.func g) #[] B := hud
  obtain ⟨hx1, hx2, hx3⟩ := defer_exec (P := P) hdo hev w4
  unfold wpListIn
  rw [if_pos (by simp [Region.wanted, hx2])]
  refine ⟨fun _ _ => trivial, ?_⟩
  rw [show (FW none).round = none from rfl, Oper.semAt_none, hx3, Oper.uponIn_defer, hx1]
  show Code.wpIn _ _ _ y _ { a3.put o1.dst u with defers := _ } w4
  have hda : (a3.put o1.dst u).defers = [] := by rw [put_defers]; exact mk_false hd3
  rw [hda]
  have hkb4 : ∀ r, len K4 ≤ r → m4.L r = .absent := fun r hr => hS4.absent (by
    simp only [hp, nth_eq]
    rw [len_eq] at hr
    rw [List.getElem?_eq_none hr])
  have hent : Ent P g := ⟨gf, hg2, hg3, hbody⟩
  refine wpIn_mono (awp_ok (ro := none) (bm := false) (D0 := [{ target := .fn (.func g) B, args := #[] }]) (we := w4) (me := m4) hT hcall hmix hkb4 (fun d hd D => by
    simp only [List.mem_singleton] at hd; subst hd; simp) y _ _ h4 w4 m4 _ (Tr.refl w4 m4) hS4 hE4 (by rw [put_size]; exact hN3) .base (.inr hn4)) fun e a' w' hR => dEnd_ok hT hcall hmix hent hg2 (hT3.trans hT4) ⟨hB, h2'⟩ hR
end
end Go.AE

namespace Go.Proofs.YtkomdppjelnpdaaGreatDoor
open Go.AE Go.Ru
set_option maxRecDepth 100000
set_option pp.maxSteps 3000

/-- what reads something: of a parser's state that stands first -/
def cStd (S : Int → PS → R Int) : AC := fun args K k => ∃ e ts ns mo X, args = [pp] ∧ K = encP e ts ns 0 mo ++ X ∧ Fine 40 ts ns ∧ After e (S e ⟨ts, ns, mo⟩) intV 0 X k
def pbW (e : Int) (ts : List Tok) (nv : AV) (mo : Int) : ABlk := .box 120 [.p (.sl 4 (ts.length + 1) (encs e ts)), nv, intV 0, intV mo]
/-- of one that stands fifth, and has no nodes yet -/
def cWhat (S : Int → PS → R Int) : AC := fun args K k => ∃ (e : Int) (ts : List Tok) (y0 y1 y2 y3 : ABlk), args = [.ptr 4 0 1 0 0] ∧ K = [y0, y1, y2, y3, pbW e ts (.p .nils) 0] ∧ Fine 40 ts [] ∧
  (∀ a ts' ns' mo', S e ⟨ts, [], 0⟩ = .ok a ⟨ts', ns', mo'⟩ → k (.ret (intV a)) [y0, y1, y2, y3, pbW e ts' (.p (.sl 5 ns'.length (nodeF ns'))) mo', .dead]) ∧
  (∀ a er, S e ⟨ts, [], 0⟩ = .bad a er → k (.pan (wrongV a er)) [y0, y1, y2, y3, .dead, .dead])

theorem ups_pvs (n : Nat) (l : List PV) : AV.ups n (pvs l) = pvs l := by
  induction l with
  | nil => rfl
  | cons a l ih => simp [pvs, AV.ups, AV.up, ih]

theorem what_ok {f : FuncId} {S : Int → PS → R Int} (h0 : COk f (cStd S)) : COk f (cWhat S) := by
  rintro args K k ⟨e, ts, y0, y1, y2, y3, rfl, rfl, hf, hk1, hk2⟩
  refine ACalls.post (k := fun ao K1 => (∃ a ts' ns' mo', S e ⟨ts, [], 0⟩ = .ok a ⟨ts', ns', mo'⟩ ∧ ao = .ret (intV a) ∧ K1 = [y0, y1, y2, y3] ++ upsB 4 (encP e ts' ns' 0 mo')) ∨
    (∃ a er, S e ⟨ts, [], 0⟩ = .bad a er ∧ ao = .pan (wrongV a er) ∧ K1 = [y0, y1, y2, y3, .dead, .dead])) ?_ ?_
  · refine ACalls.nilPre (K' := [y0, y1, y2, y3, pbW e ts (.slr 5 0 0 0) 0]) 30 5 (fun i => pvs (nodeF [] i)) ⟨.inl (ABlk.le_refl _), .inl (ABlk.le_refl _), .inl (ABlk.le_refl _), .inl (ABlk.le_refl _), .inr ⟨_, _, _, rfl, rfl, .inl (AV.le_refl _), .inr ⟨rfl, rfl⟩, .inl (AV.le_refl _), .inl (AV.le_refl _), trivial⟩, trivial⟩ ?_
    refine ACalls.shift (n := 4) (Y := [y0, y1, y2, y3]) (K1 := [pbW e ts (.slr 5 0 0 0) 0, .arr 30 5 0 0 (fun i => pvs (nodeF [] i))]) rfl ⟨trivial, trivial, trivial⟩ ?_
    refine ACalls.pre (args' := [pp]) (K' := encP e ts [] 0 0 ++ []) ?_ (fun w m Args hS hV => ⟨m, Tr.refl w m, hS.les ?_, hV⟩)
    · refine h0 _ _ _ ⟨e, ts, [], 0, [], rfl, rfl, hf, ⟨fun a ts' ns' mo' hr => ?_, fun a er hr => ?_⟩⟩
      · exact ⟨⟨trivial, trivial, trivial⟩, .inl ⟨a, ts', ns', mo', hr, rfl, rfl⟩⟩
      · exact ⟨⟨trivial, trivial, trivial⟩, .inr ⟨a, er, hr, rfl, rfl⟩⟩
    · exact ⟨ABlk.le_refl _, ABlk.arr_eq rfl fun i hi => by simp at hi, trivial⟩
  · rintro ao K1 (⟨a, ts', ns', mo', hr, rfl, rfl⟩ | ⟨a, er, hr, rfl, rfl⟩)
    · refine ⟨intV a, _, Wk1.fz (r := 5) (ty := 30) (sz := 5) (n := ns'.length) (f := fun i => AV.ups 4 (pvs (nodeF ns' i))) (nodeF ns') rfl (fun i _ => ups_pvs _ _) ?_ (AV.le_refl _), hk1 a ts' ns' mo' hr⟩
      exact ⟨.inl (ABlk.le_refl _), .inl (ABlk.le_refl _), .inl (ABlk.le_refl _), .inl (ABlk.le_refl _), .inr ⟨_, _, _, rfl, rfl, .inl (AV.le_refl _), .inr ⟨rfl, rfl⟩, .inl (AV.le_refl _), .inl (AV.le_refl _), trivial⟩, .inl (ABlk.le_refl _), trivial⟩
    · exact ⟨_, _, Wk1.refl _ _ _, hk2 a er hr⟩

/-! ### what reading answers -/
inductive RR where
  | bad (at_ err : Int)
  | ok (ns : List Nd) (root mo : Int)
def readS (S : Int → PS → R Int) (s : Bs) : RR :=
  if s.length > 20000 then .bad 0 7 else match cutT s with
  | .bad a => .bad a 2
  | .ok ts => match S s.length ⟨ts, [], 0⟩ with
    | .bad a er => .bad a er
    | .ok root s' => match s'.ts with
      | t :: _ => .bad t.at_ 2
      | [] => if 4000 < s'.ns.length then .bad 0 8 else if 40 < depthS s'.ns root then .bad 0 6 else .ok s'.ns root s'.mo
def readV : RR → AV
  | .bad a er => .tup [.agg [.p .nils, intV 0], intV 0, intV a, intV er]
  | .ok ns root mo => .tup [treeV ns root, intV mo, intV 0, intV 0]

theorem runS_le (l r : Bs) : runS l r ≤ r.length := by
  unfold runS
  exact (List.takeWhile_sublist _).length_le
theorem cutS_len : ∀ (n : Nat) (r : Bs) (i : Nat) (l : List Tok), cutS n r i = .ok l → l.length ≤ r.length := by
  intro n
  induction n with
  | zero => intro r i l h; simp only [cutS, CR.ok.injEq] at h; subst h; exact Nat.zero_le _
  | succ n ih =>
    intro r i l h
    cases r with
    | nil => simp only [cutS, CR.ok.injEq] at h; subst h; exact Nat.zero_le _
    | cons c r' =>
      simp only [cutS] at h
      split at h
      · have := ih _ _ _ h
        simp only [List.length_drop] at this; omega
      split at h
      · have := ih _ _ _ h
        have h2 := (List.dropWhile_sublist (fun c => !(c == (10 : UInt8))) (l := c :: r')).length_le
        omega
      split at h
      · rename_i hp
        split at h
        · cases h
        · rename_i k v hw
          cases hc : cutS n ((c :: r').drop (runS partsT (c :: r'))) (i + runS partsT (c :: r')) with
          | bad a => rw [hc] at h; simp [CR.cons] at h
          | ok l' =>
            rw [hc] at h
            simp only [CR.cons, CR.ok.injEq] at h
            subst h
            have := ih _ _ _ hc
            simp only [List.length_drop, List.length_cons] at this ⊢; omega
      · split at h
        · cases h
        · rename_i m hm
          cases hc : cutS n ((c :: r').drop (m + 1)) (i + (m + 1)) with
          | bad a => rw [hc] at h; simp [CR.cons] at h
          | ok l' =>
            rw [hc] at h
            simp only [CR.cons, CR.ok.injEq] at h
            subst h
            have := ih _ _ _ hc
            simp only [List.length_drop, List.length_cons] at this ⊢; omega

/-! ### read -/
theorem call_okD {G : AG} (hG : GOk Tryz.prog G) (n : Nat) {f : FuncId} {fn : Func} (hf : T0.f.get f = some fn) {args : List AV} {K : List ABlk} {k : AO → List ABlk → Prop} (h : abodyD T0 (acall T0 G n) fn args K k) : ACalls Tryz.prog f args K k := by
  obtain ⟨h1, h2⟩ := tabOk.f f fn hf
  exact abodyD_ok tabOk (acall_ok tabOk (Checked.mixed Tryz.checked) hG n) (Checked.mixed Tryz.checked) h1 h2 h
theorem frame0D {G : AG} (hG : GOk Tryz.prog G) (n : Nat) {f : FuncId} {fn : Func} (hf : T0.f.get f = some fn) {args : List AV} {X : List ABlk} {k : AO → List ABlk → Prop} (hcl : AV.cls 0 args = true)
    (h : ∀ Q : AO → List ABlk → Prop, (∀ v K', v.cl 0 = true → k (.ret v) X → Q (.ret v) K') → abodyD T0 (acall T0 G n) fn args [] Q) : ACalls Tryz.prog f args X k := by
  refine (ACalls.frame (K0 := []) (X := X) (k := fun ao K1 => k ao (K1 ++ X)) hcl (fun r h => by simp at h) (call_okD hG n hf (h _ ?_))).mono fun ao K ⟨K1, h1, h2⟩ => by subst h1; exact h2
  intro v K' h1 h2
  refine ⟨h1, by simp, fun r hr => by simp at hr, ?_⟩
  show k (.ret v) (takeN K' 0 ++ X)
  rw [takeN_zero]; exact h2

def gRd (f : FuncId) (S : Int → PS → R Int) : AG := gput 92 cCutT (gput f (cWhat S) (gput 22 cDepth g0))
theorem gRd_ok {f : FuncId} {S : Int → PS → R Int} (h0 : COk f (cStd S)) : GOk Tryz.prog (gRd f S) := gput_ok cutT_ok (gput_ok (what_ok h0) (gput_ok depth_ok g0_ok))
def cRead (f : FuncId) (S : Int → PS → R Int) : AC := fun args K k => ∃ s, args = [.p (.str s), .p (.fn f)] ∧ s.length < 1000000 ∧ k (.ret (readV (readS S s))) K
theorem readP_ok (S : Int → PS → R Int) (hS : ∀ e ts a s', List.length ts ≤ 20000 → S e ⟨ts, [], 0⟩ = .ok a s' → s'.ns.length < 1000000) (h0 : COk 66 (cStd S)) :
    COk 65 (cRead 66 S) := by
    rintro args K k ⟨s, rfl, hs, hk⟩
    refine frame0D (gRd_ok h0) 19 rfl rfl fun Q hr => ?_
    conv => whnf
    refine ⟨s, rfl, hs, fun h => ?_, fun h => ?_⟩
    · have e : readS S s = .bad 0 7 := by unfold readS; rw [if_pos h]
      rw [e] at hk
      conv => whnf
      repeat ((refine And.intro ?_ ?_); (focus ((conv => whnf); done)); (conv => whnf))
      exact hr _ _ rfl hk
    unfold readS at hk
    rw [if_neg (by omega)] at hk
    cases hc : cutT s with
    | bad a =>
      rw [hc] at hk
      conv => whnf
      repeat ((refine And.intro ?_ ?_); (focus ((conv => whnf); done)); (conv => whnf))
      exact hr _ _ rfl hk
    | ok ts =>
      rw [hc] at hk
      have hln : ts.length ≤ s.length := cutS_len _ _ _ _ hc
      simp only at hk
      conv => whnf
      refine ⟨s.length, ts, _, _, _, _, rfl, rfl, ⟨Nat.le_refl _, by simp only [List.length_nil]; omega⟩, fun a ts2 ns2 mo2 hp => ?_, fun a er hp => ?_⟩
      · have hns := hS _ _ _ _ (by omega) hp
        rw [hp] at hk
        simp only at hk hns
        cases ts2 with
        | cons t r =>
          obtain ⟨tk, tn, ta, tx⟩ := t
          cases tk <;>
          · conv => whnf
            refine ⟨by simp <;> omega, ?_⟩
            conv => whnf
            refine ⟨by simp <;> omega, ?_⟩
            conv => whnf
            repeat ((refine And.intro ?_ ?_); (focus ((conv => whnf); done)); (conv => whnf))
            exact hr _ _ rfl hk
        | nil =>
          conv => whnf
          refine ⟨by simp, ?_⟩
          conv => whnf
          have hd1 : decide ((ns2.length : Int) > 4000) = decide (4000 < ns2.length) := by
            by_cases h : 4000 < ns2.length
            · rw [decide_eq_true h, decide_eq_true (by omega)]
            · rw [decide_eq_false h, decide_eq_false (by omega)]
          refine two_intro (fun h1 => ?_) (fun h1 => ?_)
          · have h1 := of_decide_eq_true (hd1 ▸ h1)
            rw [if_pos h1] at hk
            conv => whnf
            repeat ((refine And.intro ?_ ?_); (focus ((conv => whnf); done)); (conv => whnf))
            exact hr _ _ rfl hk
          have h1 := of_decide_eq_false (hd1 ▸ h1)
          rw [if_neg h1] at hk
          conv => whnf
          refine ⟨ns2, a, rfl, hns, ?_⟩
          conv => whnf
          have hd2 : decide (((depthS ns2 a : Nat) : Int) > 40) = decide (40 < depthS ns2 a) := by
            by_cases h : 40 < depthS ns2 a
            · rw [decide_eq_true h, decide_eq_true (by omega)]
            · rw [decide_eq_false h, decide_eq_false (by omega)]
          refine two_intro (fun h2 => ?_) (fun h2 => ?_)
          · have h2 := of_decide_eq_true (hd2 ▸ h2)
            rw [if_pos h2] at hk
            conv => whnf
            repeat ((refine And.intro ?_ ?_); (focus ((conv => whnf); done)); (conv => whnf))
            exact hr _ _ rfl hk
          have h2 := of_decide_eq_false (hd2 ▸ h2)
          rw [if_neg h2] at hk
          conv => whnf
          repeat ((refine And.intro ?_ ?_); (focus ((conv => whnf); done)); (conv => whnf))
          exact hr _ _ rfl hk
      · rw [hp] at hk
        simp only at hk
        conv => whnf
        repeat ((refine And.intro ?_ ?_); (focus ((conv => whnf); done)); (conv => whnf))
        exact hr _ _ rfl hk
theorem programS_len (e : Int) (ts : List Tok) (a : Int) (s' : PS) (hl : ts.length ≤ 20000) (h : programS e ⟨ts, [], 0⟩ = .ok a s') : s'.ns.length < 1000000 := by
  have : Okk (programS e ⟨ts, [], 0⟩) (fun s' => s'.ns.length < 1000000) := by
    unfold programS
    refine Okk.bind (vars_le e 2 ⟨ts, [], 0⟩) fun l s1 h1 => Okk.bind (procsL_le e 40 _ l s1) fun l2 s2 h2 => (put_len _ s2).imp fun s3 h3 => ?_
    simp only [Lw, List.length_nil] at h1 h2 h3
    omega
  exact this a s' h

/-! ### Program -/
abbrev proS (s : Bs) : RR := readS programS s
def gPr : AG := gput 65 (cRead 66 programS) g0
theorem gPr_ok : GOk Tryz.prog gPr := gput_ok (readP_ok programS programS_len program_ok) g0_ok
def topV : RR → AV
  | .bad a er => .tup [.agg [.p .nils, intV 0], intV a, intV er]
  | .ok ns root _ => .tup [treeV ns root, intV 0, intV 0]
def cTop (S : Bs → RR) : AC := fun args K k => ∃ s, args = [.p (.str s)] ∧ s.length < 1000000 ∧ k (.ret (topV (S s))) K
theorem Program_ok : COk 35 (cTop proS) := by
  rintro args K k ⟨s, rfl, hs, hk⟩
  refine frame0P gPr_ok 19 rfl fun Q hr => ?_
  conv => whnf
  refine ⟨s, rfl, hs, ?_⟩
  cases h : readS programS s with
  | bad a er =>
    rw [show proS s = _ from h] at hk
    conv => whnf
    exact hr _ _ rfl hk
  | ok ns root mo =>
    rw [show proS s = _ from h] at hk
    conv => whnf
    exact hr _ _ rfl hk
def RR.err : RR → Int
  | .bad _ er => er
  | .ok _ _ _ => 0
def RR.most : RR → Int
  | .bad _ _ => 0
  | .ok _ _ mo => mo
def RR.place : RR → Int
  | .bad a _ => a
  | .ok _ _ _ => 0
def RR.tree : RR → AV
  | .bad _ _ => .agg [.p .nils, intV 0]
  | .ok ns root _ => treeV ns root
theorem readV_eq (r : RR) : readV r = .tup [r.tree, intV r.most, intV r.place, intV r.err] := by cases r <;> rfl
end Go.Proofs.YtkomdppjelnpdaaGreatDoor

namespace Go.Ru
/-- can a tree be gone through? -/
def smallS (m : Nat) (ns : List Nd) : Bool := decide (ns.length ≤ m) && ns.all fun n => decide (n.kids.length ≤ m) && decide (n.tx.length ≤ 200)
end Go.Ru
namespace Go.Proofs.YtkomdppjelnpdaaGreatDoor
open Go.AE Go.Ru
set_option maxRecDepth 100000
set_option pp.maxSteps 4000
set_option maxHeartbeats 1000000

theorem small_tame {m : Nat} {ns : List Nd} (hm : m < 1000000) (h : smallS m ns = true) : Tame ns := by
  simp only [smallS, Bool.and_eq_true, decide_eq_true_eq, List.all_eq_true] at h
  refine ⟨by omega, fun i => ?_⟩
  by_cases hi : i < ns.length
  · have := (h.2 ns[i] (List.getElem_mem hi)).2
    rw [List.getD_eq_getElem?_getD, List.getElem?_eq_getElem hi]
    simp only [Option.getD_some]; omega
  · rw [List.getD_eq_getElem?_getD, List.getElem?_eq_none (by omega)]
    exact Nat.lt_of_le_of_lt (Nat.zero_le _) (by decide : 0 < 1000000)
def cSmall (m : Nat) : AC := fun args K k => ∃ ns root, args = [treeV ns root] ∧ k (.ret (.p (.bool (smallS m ns)))) K
theorem small7_ok : COk 11 (cSmall 400) := by
  rintro args K k ⟨ns, root, rfl, hk⟩
  refine frame0P g0_ok 19 rfl fun Q hr => ?_
  conv => whnf
  refine two_dec (fun h => ?_) (fun h => ?_)
  · have h : ¬ ns.length ≤ 400 := by have h : (ns.length : Int) > 400 := h; omega
    rw [show smallS 400 ns = false by simp [smallS, h]] at hk
    conv => whnf
    exact hr _ _ rfl hk
  have h : ns.length ≤ 400 := by have h : ¬ (ns.length : Int) > 400 := h; omega
  conv => whnf
  refine loop_up (ι := Nat) [1] (fun i => [(3, intV i)]) (fun _ => []) (fun i => i ≤ ns.length ∧ (ns.drop i).all (fun n => decide (n.kids.length ≤ 400) && decide (n.tx.length ≤ 200)) = smallS 400 ns) (fun i => ns.length - i) 0 ⟨AV.le_refl _, trivial⟩ trivial ⟨Nat.zero_le _, by simp [smallS, h]⟩ ?_
  rintro Y hle i ⟨hi, he⟩ ih
  conv => whnf
  refine two_dec (fun h2 => ?_) (fun h2 => ?_)
  · have h2 : i < ns.length := by have h2 : (i : Int) < (ns.length : Int) := h2; omega
    have hw1 := wzz (i := i) (by omega)
    rw [List.drop_eq_getElem_cons h2, List.all_cons] at he
    have e1 : ns[i] = nd ns i := by simp [nd, h2]
    rw [e1] at he
    conv => whnf
    refine ⟨⟨by omega, by omega, rfl⟩, ?_⟩
    conv => whnf
    refine two_dec (fun h3 => ?_) (fun h3 => ?_)
    · have h3 : ¬ (nd ns i).kids.length ≤ 400 := by have h3 : ((nd ns i).kids.length : Int) > 400 := h3; omega
      rw [decide_eq_false h3, Bool.false_and, Bool.false_and] at he
      rw [← he] at hk
      conv => whnf
      exact hr _ _ rfl hk
    have h3 : (nd ns i).kids.length ≤ 400 := by have h3 : ¬ ((nd ns i).kids.length : Int) > 400 := h3; omega
    rw [decide_eq_true h3, Bool.true_and] at he
    conv => whnf
    refine ⟨⟨by omega, by omega, rfl⟩, ?_⟩
    conv => whnf
    refine two_dec (fun h4 => ?_) (fun h4 => ?_)
    · have h4 : ¬ (nd ns i).tx.length ≤ 200 := by have h4 : ((nd ns i).tx.length : Int) > 200 := h4; omega
      rw [decide_eq_false h4, Bool.false_and] at he
      rw [← he] at hk
      conv => whnf
      exact hr _ _ rfl hk
    have h4 : (nd ns i).tx.length ≤ 200 := by have h4 : ¬ ((nd ns i).tx.length : Int) > 200 := h4; omega
    rw [decide_eq_true h4, Bool.true_and] at he
    conv => whnf
    refine hle _ _ (Le.env ?_ ?_) (ih (i + 1) (by omega) ⟨by omega, he⟩)
    · skip
      repeat' (first | exact trivial | ((conv => whnf); first | exact trivial | (refine And.intro (AV.le_refl _) ?_) | (refine And.intro (ABlk.le_refl _) ?_) | (refine And.intro (AV.le_of_eq ?_) ?_; (focus ((first | exact congrArg intV hw1 | fail); done))) | (refine And.intro (ABlk.le_of_eq ?_) ?_; (focus ((first | exact congrArg intV hw1 | fail); done))) | fail) | fail)
    · skip
      repeat' (first | exact trivial | ((conv => whnf); first | exact trivial | (refine And.intro (AV.le_refl _) ?_) | (refine And.intro (ABlk.le_refl _) ?_) | (refine And.intro (AV.le_of_eq ?_) ?_; (focus ((first | fail | fail); done))) | (refine And.intro (ABlk.le_of_eq ?_) ?_; (focus ((first | fail | fail); done))) | fail) | fail)
  · obtain rfl : i = ns.length := by have h2 : ¬ (i : Int) < (ns.length : Int) := h2; omega
    rw [List.drop_length, List.all_nil] at he
    rw [← he] at hk
    conv => whnf
    exact hr _ _ rfl hk

def pr1 : List Nd := [⟨5, 1, 14, [120], []⟩, ⟨21, 1, 29, [], []⟩, ⟨7, 0, 25, [120], [1]⟩, ⟨6, 0, 12, [], [2]⟩, ⟨3, 0, 0, [109, 97, 105, 110], [0, 3]⟩, ⟨1, 0, 0, [], [4]⟩]
def pr2 : List Nd := [⟨6, 0, 9, [], []⟩, ⟨3, 0, 0, [102], [0]⟩, ⟨1, 0, 0, [], [1]⟩]
def pr3 : List Nd := [⟨20, 1, 18, [], []⟩, ⟨7, 0, 14, [121], [0]⟩, ⟨6, 0, 12, [], [1]⟩, ⟨3, 0, 0, [109, 97, 105, 110], [2]⟩, ⟨1, 0, 0, [], [3]⟩]
theorem pr1_eq : proS [112, 114, 111, 99, 32, 109, 97, 105, 110, 40, 41, 32, 123, 32, 118, 97, 114, 32, 120, 32, 105, 110, 116, 59, 32, 120, 32, 61, 32, 116, 114, 117, 101, 59, 32, 125] = .ok pr1 5 1 := by kernel_rfl
theorem pr2_eq : proS [112, 114, 111, 99, 32, 102, 40, 41, 32, 123, 32, 125] = .ok pr2 2 1 := by kernel_rfl
theorem pr3_eq : proS [112, 114, 111, 99, 32, 109, 97, 105, 110, 40, 41, 32, 123, 32, 121, 32, 61, 32, 49, 59, 32, 125] = .ok pr3 4 1 := by kernel_rfl
theorem ck1_eq : checkTree pr1 5 = (2, 5) := by kernel_rfl
theorem ck2_eq : checkTree pr2 2 = (2, 11) := by kernel_rfl
theorem ck3_eq : checkTree pr3 4 = (1, 3) := by kernel_rfl
theorem pr1_tame : Tame pr1 := small_tame (m := 400) (by decide) (by kernel_rfl)
theorem pr2_tame : Tame pr2 := small_tame (m := 400) (by decide) (by kernel_rfl)
theorem pr3_tame : Tame pr3 := small_tame (m := 400) (by decide) (by kernel_rfl)

def gS7 : AG := gput 35 (cTop proS) (gput 36 cCheck g0)
theorem gS7_ok : GOk Tryz.prog gS7 := gput_ok Program_ok (gput_ok check_ok g0_ok)
def cShown7 : AC := fun args K k => args = [] ∧ k (.ret (.p (.bool true))) K
theorem shown7_ok : COk 10 cShown7 := by
  rintro args K k ⟨rfl, hk⟩
  refine frame0P gS7_ok 19 rfl fun Q hr => ?_
  conv => whnf
  refine ⟨_, rfl, by decide, ?_⟩
  rw [pr1_eq]
  conv => whnf
  refine ⟨_, rfl, by decide, ?_⟩
  rw [pr2_eq]
  conv => whnf
  refine ⟨_, rfl, by decide, ?_⟩
  rw [pr3_eq]
  conv => whnf
  refine ⟨pr1, 5, rfl, pr1_tame, ?_⟩
  rw [ck1_eq]
  conv => whnf
  refine ⟨pr2, 2, rfl, pr2_tame, ?_⟩
  rw [ck2_eq]
  conv => whnf
  refine ⟨pr3, 4, rfl, pr3_tame, ?_⟩
  rw [ck3_eq]
  conv => whnf
  repeat
    (refine ⟨⟨by decide, by decide, rfl⟩, ?_⟩
     conv => whnf)
  exact hr _ _ rfl hk
end Go.Proofs.YtkomdppjelnpdaaGreatDoor

namespace Go.Proofs.YtkomdppjelnpdaaGreatDoor
open Go.AE Go.Ru
set_option maxRecDepth 100000

def eOwner : AC := fun args K k => ∃ ns root i v, args = [treeV ns root, intV i] ∧ Tame ns ∧ ownerT ns root i = v ∧ k (.ret (intV v)) K
theorem eOwner_ok : COk 14 eOwner := by
  rintro args K k ⟨ns, root, i, v, h1, h2, rfl, h3⟩
  exact owner_ok args K k ⟨ns, root, i, h1, h2, h3⟩
def eLookup : AC := fun args K k => ∃ ns root i name v, args = [treeV ns root, intV i, .p (.str name)] ∧ Tame ns ∧ lookupT ns root i name = v ∧ k (.ret (intV v)) K
theorem eLookup_ok : COk 15 eLookup := by
  rintro args K k ⟨ns, root, i, name, v, h1, h2, rfl, h3⟩
  exact lookup_ok args K k ⟨ns, root, i, name, h1, h2, h3⟩
def eRight : AC := fun args K k => ∃ ns root v, args = [treeV ns root] ∧ Tame ns ∧ rightS ns root = v ∧ k (.ret (.p (.bool v))) K
theorem eRight_ok : COk 12 eRight := by
  rintro args K k ⟨ns, root, v, h1, h2, rfl, h3⟩
  exact right_ok args K k ⟨ns, root, h1, h2.len, h2.tx, h3⟩
def eParents : AC := fun args K k => ∃ ns root, args = [treeV ns root] ∧ List.length ns < 1000000 ∧ soundS ns root = true ∧ k (.ret (.p (.sl 1 ns.length (rowF (parF ns root))))) K
theorem eParents_ok : COk 13 eParents := by
  rintro args K k ⟨ns, root, h1, h2, hs, h3⟩
  exact parents_ok args K k ⟨ns, root, h1, h2, by simp only [parV, hs]; exact h3⟩
def eSmall (m : Nat) : AC := fun args K k => ∃ ns root v, args = [treeV ns root] ∧ smallS m ns = v ∧ k (.ret (.p (.bool v))) K
theorem eSmall7_ok : COk 11 (eSmall 400) := by
  rintro args K k ⟨ns, root, v, h1, rfl, h3⟩
  exact small7_ok args K k ⟨ns, root, h1, h3⟩
def eCheck : AC := fun args K k => ∃ ns root a e, args = [treeV ns root] ∧ Tame ns ∧ checkTree ns root = (a, e) ∧ k (.ret (.tup [intV a, intV e])) K
theorem eCheck_ok : COk 36 eCheck := by
  rintro args K k ⟨ns, root, a, e, h1, h2, h3, h4⟩
  exact check_ok args K k ⟨ns, root, h1, h2, by rw [h3]; exact h4⟩
theorem right_sound {ns : List Nd} {root : Int} (h : rightS ns root = true) : soundS ns root = true := by
  simp only [rightS, Bool.and_eq_true] at h; exact h.1.1.1
end Go.Proofs.YtkomdppjelnpdaaGreatDoor

namespace Go.Proofs.YtkomdppjelnpdaaGreatDoor
open Go.AE Go.Ru
set_option maxRecDepth 100000
set_option pp.maxSteps 4000
set_option maxHeartbeats 1000000

def gOw : AG := gput 10 cShown7 (gput 11 (eSmall 400) (gput 12 eRight (gput 13 eParents (gput 14 eOwner (gput 15 eLookup g0)))))
theorem gOw_ok : GOk Tryz.prog gOw := gput_ok shown7_ok (gput_ok eSmall7_ok (gput_ok eRight_ok (gput_ok eParents_ok (gput_ok eOwner_ok (gput_ok eLookup_ok g0_ok)))))
theorem owner_calls (ns : List Nd) (root : Int) (K : List ABlk) (k : AO → List ABlk → Prop) (hk : k (.ret (.p (.bool true))) K) : ACalls Tryz.prog 3 [treeV ns root] K k := by
  cases hs : smallS 400 ns with
  | false =>
    refine frame0P gOw_ok 19 rfl fun Q hr => ?_
    conv => whnf
    refine ⟨rfl, ?_⟩
    conv => whnf
    refine ⟨ns, root, _, rfl, hs, ?_⟩
    conv => whnf
    exact hr _ _ rfl hk
  | true =>
  have ta := small_tame (m := 400) (by decide) hs
  cases hrt : rightS ns root with
  | false =>
    refine frame0P gOw_ok 19 rfl fun Q hr => ?_
    conv => whnf
    refine ⟨rfl, ?_⟩
    conv => whnf
    refine ⟨ns, root, _, rfl, hs, ?_⟩
    conv => whnf
    refine ⟨ns, root, _, rfl, ta, hrt, ?_⟩
    conv => whnf
    exact hr _ _ rfl hk
  | true =>
  have rt := right_of hrt
  have hsd := right_sound hrt
  have hlen := rt.len
  have hpos := rt.pos
  refine frame0P gOw_ok 19 rfl fun Q hr => ?_
  conv => whnf
  refine ⟨rfl, ?_⟩
  conv => whnf
  refine ⟨ns, root, _, rfl, hs, ?_⟩
  conv => whnf
  refine ⟨ns, root, _, rfl, ta, hrt, ?_⟩
  conv => whnf
  refine ⟨ns, root, rfl, ta.len, hsd, ?_⟩
  conv => whnf
  refine loop_up (ι := Nat) [1, 5] (fun i => [(6, intV i)]) (fun _ => []) (fun i => i ≤ ns.length) (fun i => ns.length - i) 0 ⟨AV.le_refl _, trivial⟩ trivial (Nat.zero_le _) ?_
  rintro Y hle i hi ih
  conv => whnf
  refine two_dec (fun h => ?_) (fun h => ?_)
  · have h : i < ns.length := by have h : (i : Int) < (ns.length : Int) := h; omega
    have hw1 := wzz (i := i) (by omega)
    have hlaw := owner_law rt h
    have how := ownerT_in rt h
    have hlk := lookupT_in rt h (nd ns i).tx
    have hnone : own ns root i < 0 → meansS ns root i (nd ns i).tx < 0 := fun h8 => owner_none rt h h8 (nd ns i).tx
    have hdecl : (nd ns i).k = 4 ∨ (nd ns i).k = 5 → 0 ≤ meansS ns root i (nd ns i).tx ∧ meansS ns root i (nd ns i).tx ≤ (i : Int) ∧ meansS ns root i (nd ns i).tx < ns.length ∧
        (((nd ns (meansS ns root i (nd ns i).tx).toNat).tx == (nd ns i).tx) = false → False) ∧ ownerT ns root (meansS ns root i (nd ns i).tx) = own ns root i := fun hk => by
      have hm := owner_means rt h hk
      refine ⟨hm.1, hm.2.1, by have := hm.2.1; omega, fun h6 => ?_, hm.2.2.2⟩
      rw [hm.2.2.1] at h6
      simp at h6
    generalize own ns root i = o at hlaw how hnone hdecl
    generalize meansS ns root i (nd ns i).tx = d at hlk hnone hdecl
    have hpin : (nd ns i).k ≠ 3 → (i : Int) ≠ root → ∃ v, ownerT ns root (parF ns root i) = v ∧ o = v := fun h3 h4 => ⟨_, rfl, hlaw.2.2 h3 h4⟩
    conv => whnf
    refine ⟨⟨by omega, by omega, rfl⟩, ?_⟩
    conv => whnf
    refine ⟨ns, root, (i : Int), o, rfl, ta, how, ?_⟩
    conv => whnf
    refine two_eq (fun h3 => ?_) (fun h3 => ?_)
    · have h3 : (nd ns i).k = 3 := h3
      have hnr : (i : Int) ≠ root := rt.notroot h (by omega)
      conv => whnf
      refine two_ne (fun h4 => absurd (hlaw.1 h3) h4) (fun _ => ?_)
      conv => whnf
      refine two_eq (fun h4 => absurd h4 hnr) (fun _ => ?_)
      conv => whnf
      refine two_ne (fun h5 => absurd h3 h5) (fun _ => ?_)
      conv => whnf
      refine ⟨ns, root, (i : Int), (nd ns i).tx, d, rfl, ta, hlk, ?_⟩
      conv => whnf
      refine two_eq (fun h4 => ?_) (fun h4 => ?_)
      · have h4 : (nd ns i).k = 4 := h4
        have hm := hdecl (.inl h4)
        conv => whnf
        refine two_dec (fun h6 => absurd hm.1 (Int.not_le.2 h6)) (fun _ => ?_)
        conv => whnf
        refine two_dec (fun h6 => absurd hm.2.1 (Int.not_le.2 h6)) (fun _ => ?_)
        conv => whnf
        refine ⟨⟨hm.1, hm.2.2.1, rfl⟩, ?_⟩
        conv => whnf
        refine two_not (fun h6 => (hm.2.2.2.1 h6).elim) (fun _ => ?_)
        conv => whnf
        refine ⟨ns, root, d, _, rfl, ta, hm.2.2.2.2, ?_⟩
        conv => whnf
        repeat ((refine And.intro ?_ ?_); (focus ((conv => whnf); first | done | exact ⟨⟨hm.1, hm.2.2.1, rfl⟩, by conv => whnf⟩)); (conv => whnf))
        refine two_ne (fun h6 => absurd rfl h6) (fun _ => ?_)
        conv => whnf
        refine two_dec (fun h8 => ?_) (fun h8 => ?_)
        · have h8 : o < 0 := h8
          conv => whnf
          refine two_dec (fun h10 => absurd (hnone h8) (Int.not_lt.2 h10)) (fun _ => ?_)
          conv => whnf
          refine hle _ _ (Le.cutEnv 1 rfl rfl ⟨rfl, trivial⟩ ?_ ?_) (ih (i + 1) (by omega) (by omega))
          · skip
            repeat' (first | exact trivial | ((conv => whnf); first | exact trivial | (refine And.intro (AV.le_refl _) ?_) | (refine And.intro (ABlk.le_refl _) ?_) | (refine And.intro (AV.le_of_eq ?_) ?_; (focus ((first | exact congrArg intV hw1 | fail); done))) | (refine And.intro (ABlk.le_of_eq ?_) ?_; (focus ((first | exact congrArg intV hw1 | fail); done))) | fail) | fail)
          · skip
            repeat' (first | exact trivial | ((conv => whnf); first | exact trivial | (refine And.intro (AV.le_refl _) ?_) | (refine And.intro (ABlk.le_refl _) ?_) | (refine And.intro (AV.le_of_eq ?_) ?_; (focus ((first | fail | fail); done))) | (refine And.intro (ABlk.le_of_eq ?_) ?_; (focus ((first | fail | fail); done))) | fail) | fail)
        · conv => whnf
          refine hle _ _ (Le.cutEnv 1 rfl rfl ⟨rfl, trivial⟩ ?_ ?_) (ih (i + 1) (by omega) (by omega))
          · skip
            repeat' (first | exact trivial | ((conv => whnf); first | exact trivial | (refine And.intro (AV.le_refl _) ?_) | (refine And.intro (ABlk.le_refl _) ?_) | (refine And.intro (AV.le_of_eq ?_) ?_; (focus ((first | exact congrArg intV hw1 | fail); done))) | (refine And.intro (ABlk.le_of_eq ?_) ?_; (focus ((first | exact congrArg intV hw1 | fail); done))) | fail) | fail)
          · skip
            repeat' (first | exact trivial | ((conv => whnf); first | exact trivial | (refine And.intro (AV.le_refl _) ?_) | (refine And.intro (ABlk.le_refl _) ?_) | (refine And.intro (AV.le_of_eq ?_) ?_; (focus ((first | fail | fail); done))) | (refine And.intro (ABlk.le_of_eq ?_) ?_; (focus ((first | fail | fail); done))) | fail) | fail)
      have h4 : (nd ns i).k ≠ 4 := h4
      conv => whnf
      refine two_eq (fun h5 => ?_) (fun h5 => ?_)
      · have h5 : (nd ns i).k = 5 := h5
        have hm := hdecl (.inr h5)
        conv => whnf
        refine two_dec (fun h6 => absurd hm.1 (Int.not_le.2 h6)) (fun _ => ?_)
        conv => whnf
        refine two_dec (fun h6 => absurd hm.2.1 (Int.not_le.2 h6)) (fun _ => ?_)
        conv => whnf
        refine ⟨⟨hm.1, hm.2.2.1, rfl⟩, ?_⟩
        conv => whnf
        refine two_not (fun h6 => (hm.2.2.2.1 h6).elim) (fun _ => ?_)
        conv => whnf
        refine ⟨ns, root, d, _, rfl, ta, hm.2.2.2.2, ?_⟩
        conv => whnf
        repeat ((refine And.intro ?_ ?_); (focus ((conv => whnf); first | done | exact ⟨⟨hm.1, hm.2.2.1, rfl⟩, by conv => whnf⟩)); (conv => whnf))
        refine two_ne (fun h6 => absurd rfl h6) (fun _ => ?_)
        conv => whnf
        refine two_dec (fun h8 => ?_) (fun h8 => ?_)
        · have h8 : o < 0 := h8
          conv => whnf
          refine two_dec (fun h10 => absurd (hnone h8) (Int.not_lt.2 h10)) (fun _ => ?_)
          conv => whnf
          refine hle _ _ (Le.cutEnv 1 rfl rfl ⟨rfl, trivial⟩ ?_ ?_) (ih (i + 1) (by omega) (by omega))
          · skip
            repeat' (first | exact trivial | ((conv => whnf); first | exact trivial | (refine And.intro (AV.le_refl _) ?_) | (refine And.intro (ABlk.le_refl _) ?_) | (refine And.intro (AV.le_of_eq ?_) ?_; (focus ((first | exact congrArg intV hw1 | fail); done))) | (refine And.intro (ABlk.le_of_eq ?_) ?_; (focus ((first | exact congrArg intV hw1 | fail); done))) | fail) | fail)
          · skip
            repeat' (first | exact trivial | ((conv => whnf); first | exact trivial | (refine And.intro (AV.le_refl _) ?_) | (refine And.intro (ABlk.le_refl _) ?_) | (refine And.intro (AV.le_of_eq ?_) ?_; (focus ((first | fail | fail); done))) | (refine And.intro (ABlk.le_of_eq ?_) ?_; (focus ((first | fail | fail); done))) | fail) | fail)
        · conv => whnf
          refine hle _ _ (Le.cutEnv 1 rfl rfl ⟨rfl, trivial⟩ ?_ ?_) (ih (i + 1) (by omega) (by omega))
          · skip
            repeat' (first | exact trivial | ((conv => whnf); first | exact trivial | (refine And.intro (AV.le_refl _) ?_) | (refine And.intro (ABlk.le_refl _) ?_) | (refine And.intro (AV.le_of_eq ?_) ?_; (focus ((first | exact congrArg intV hw1 | fail); done))) | (refine And.intro (ABlk.le_of_eq ?_) ?_; (focus ((first | exact congrArg intV hw1 | fail); done))) | fail) | fail)
          · skip
            repeat' (first | exact trivial | ((conv => whnf); first | exact trivial | (refine And.intro (AV.le_refl _) ?_) | (refine And.intro (ABlk.le_refl _) ?_) | (refine And.intro (AV.le_of_eq ?_) ?_; (focus ((first | fail | fail); done))) | (refine And.intro (ABlk.le_of_eq ?_) ?_; (focus ((first | fail | fail); done))) | fail) | fail)
      have h5 : (nd ns i).k ≠ 5 := h5
      conv => whnf
      refine two_dec (fun h8 => ?_) (fun h8 => ?_)
      · have h8 : o < 0 := h8
        conv => whnf
        refine two_dec (fun h10 => absurd (hnone h8) (Int.not_lt.2 h10)) (fun _ => ?_)
        conv => whnf
        refine hle _ _ (Le.cutEnv 1 rfl rfl ⟨rfl, trivial⟩ ?_ ?_) (ih (i + 1) (by omega) (by omega))
        · skip
          repeat' (first | exact trivial | ((conv => whnf); first | exact trivial | (refine And.intro (AV.le_refl _) ?_) | (refine And.intro (ABlk.le_refl _) ?_) | (refine And.intro (AV.le_of_eq ?_) ?_; (focus ((first | exact congrArg intV hw1 | fail); done))) | (refine And.intro (ABlk.le_of_eq ?_) ?_; (focus ((first | exact congrArg intV hw1 | fail); done))) | fail) | fail)
        · skip
          repeat' (first | exact trivial | ((conv => whnf); first | exact trivial | (refine And.intro (AV.le_refl _) ?_) | (refine And.intro (ABlk.le_refl _) ?_) | (refine And.intro (AV.le_of_eq ?_) ?_; (focus ((first | fail | fail); done))) | (refine And.intro (ABlk.le_of_eq ?_) ?_; (focus ((first | fail | fail); done))) | fail) | fail)
      · conv => whnf
        refine hle _ _ (Le.cutEnv 1 rfl rfl ⟨rfl, trivial⟩ ?_ ?_) (ih (i + 1) (by omega) (by omega))
        · skip
          repeat' (first | exact trivial | ((conv => whnf); first | exact trivial | (refine And.intro (AV.le_refl _) ?_) | (refine And.intro (ABlk.le_refl _) ?_) | (refine And.intro (AV.le_of_eq ?_) ?_; (focus ((first | exact congrArg intV hw1 | fail); done))) | (refine And.intro (ABlk.le_of_eq ?_) ?_; (focus ((first | exact congrArg intV hw1 | fail); done))) | fail) | fail)
        · skip
          repeat' (first | exact trivial | ((conv => whnf); first | exact trivial | (refine And.intro (AV.le_refl _) ?_) | (refine And.intro (ABlk.le_refl _) ?_) | (refine And.intro (AV.le_of_eq ?_) ?_; (focus ((first | fail | fail); done))) | (refine And.intro (ABlk.le_of_eq ?_) ?_; (focus ((first | fail | fail); done))) | fail) | fail)
    have h3 : (nd ns i).k ≠ 3 := h3
    conv => whnf
    refine two_eq (fun h4 => ?_) (fun h4 => ?_)
    · have h4 : (i : Int) = root := h4
      conv => whnf
      refine two_ne (fun h5 => absurd (hlaw.2.1 h4) h5) (fun _ => ?_)
      conv => whnf
      refine two_ne (fun _ => ?_) (fun h5 => absurd h5 h3)
      conv => whnf
      refine two_ne (fun h5 => absurd h4 h5) (fun _ => ?_)
      conv => whnf
      refine ⟨ns, root, (i : Int), (nd ns i).tx, d, rfl, ta, hlk, ?_⟩
      conv => whnf
      refine two_eq (fun h4 => ?_) (fun h4 => ?_)
      · have h4 : (nd ns i).k = 4 := h4
        have hm := hdecl (.inl h4)
        conv => whnf
        refine two_dec (fun h6 => absurd hm.1 (Int.not_le.2 h6)) (fun _ => ?_)
        conv => whnf
        refine two_dec (fun h6 => absurd hm.2.1 (Int.not_le.2 h6)) (fun _ => ?_)
        conv => whnf
        refine ⟨⟨hm.1, hm.2.2.1, rfl⟩, ?_⟩
        conv => whnf
        refine two_not (fun h6 => (hm.2.2.2.1 h6).elim) (fun _ => ?_)
        conv => whnf
        refine ⟨ns, root, d, _, rfl, ta, hm.2.2.2.2, ?_⟩
        conv => whnf
        repeat ((refine And.intro ?_ ?_); (focus ((conv => whnf); first | done | exact ⟨⟨hm.1, hm.2.2.1, rfl⟩, by conv => whnf⟩)); (conv => whnf))
        refine two_ne (fun h6 => absurd rfl h6) (fun _ => ?_)
        conv => whnf
        refine two_dec (fun h8 => ?_) (fun h8 => ?_)
        · have h8 : o < 0 := h8
          conv => whnf
          refine two_dec (fun h10 => absurd (hnone h8) (Int.not_lt.2 h10)) (fun _ => ?_)
          conv => whnf
          refine hle _ _ (Le.cutEnv 1 rfl rfl ⟨rfl, trivial⟩ ?_ ?_) (ih (i + 1) (by omega) (by omega))
          · skip
            repeat' (first | exact trivial | ((conv => whnf); first | exact trivial | (refine And.intro (AV.le_refl _) ?_) | (refine And.intro (ABlk.le_refl _) ?_) | (refine And.intro (AV.le_of_eq ?_) ?_; (focus ((first | exact congrArg intV hw1 | fail); done))) | (refine And.intro (ABlk.le_of_eq ?_) ?_; (focus ((first | exact congrArg intV hw1 | fail); done))) | fail) | fail)
          · skip
            repeat' (first | exact trivial | ((conv => whnf); first | exact trivial | (refine And.intro (AV.le_refl _) ?_) | (refine And.intro (ABlk.le_refl _) ?_) | (refine And.intro (AV.le_of_eq ?_) ?_; (focus ((first | fail | fail); done))) | (refine And.intro (ABlk.le_of_eq ?_) ?_; (focus ((first | fail | fail); done))) | fail) | fail)
        · conv => whnf
          refine hle _ _ (Le.cutEnv 1 rfl rfl ⟨rfl, trivial⟩ ?_ ?_) (ih (i + 1) (by omega) (by omega))
          · skip
            repeat' (first | exact trivial | ((conv => whnf); first | exact trivial | (refine And.intro (AV.le_refl _) ?_) | (refine And.intro (ABlk.le_refl _) ?_) | (refine And.intro (AV.le_of_eq ?_) ?_; (focus ((first | exact congrArg intV hw1 | fail); done))) | (refine And.intro (ABlk.le_of_eq ?_) ?_; (focus ((first | exact congrArg intV hw1 | fail); done))) | fail) | fail)
          · skip
            repeat' (first | exact trivial | ((conv => whnf); first | exact trivial | (refine And.intro (AV.le_refl _) ?_) | (refine And.intro (ABlk.le_refl _) ?_) | (refine And.intro (AV.le_of_eq ?_) ?_; (focus ((first | fail | fail); done))) | (refine And.intro (ABlk.le_of_eq ?_) ?_; (focus ((first | fail | fail); done))) | fail) | fail)
      have h4 : (nd ns i).k ≠ 4 := h4
      conv => whnf
      refine two_eq (fun h5 => ?_) (fun h5 => ?_)
      · have h5 : (nd ns i).k = 5 := h5
        have hm := hdecl (.inr h5)
        conv => whnf
        refine two_dec (fun h6 => absurd hm.1 (Int.not_le.2 h6)) (fun _ => ?_)
        conv => whnf
        refine two_dec (fun h6 => absurd hm.2.1 (Int.not_le.2 h6)) (fun _ => ?_)
        conv => whnf
        refine ⟨⟨hm.1, hm.2.2.1, rfl⟩, ?_⟩
        conv => whnf
        refine two_not (fun h6 => (hm.2.2.2.1 h6).elim) (fun _ => ?_)
        conv => whnf
        refine ⟨ns, root, d, _, rfl, ta, hm.2.2.2.2, ?_⟩
        conv => whnf
        repeat ((refine And.intro ?_ ?_); (focus ((conv => whnf); first | done | exact ⟨⟨hm.1, hm.2.2.1, rfl⟩, by conv => whnf⟩)); (conv => whnf))
        refine two_ne (fun h6 => absurd rfl h6) (fun _ => ?_)
        conv => whnf
        refine two_dec (fun h8 => ?_) (fun h8 => ?_)
        · have h8 : o < 0 := h8
          conv => whnf
          refine two_dec (fun h10 => absurd (hnone h8) (Int.not_lt.2 h10)) (fun _ => ?_)
          conv => whnf
          refine hle _ _ (Le.cutEnv 1 rfl rfl ⟨rfl, trivial⟩ ?_ ?_) (ih (i + 1) (by omega) (by omega))
          · skip
            repeat' (first | exact trivial | ((conv => whnf); first | exact trivial | (refine And.intro (AV.le_refl _) ?_) | (refine And.intro (ABlk.le_refl _) ?_) | (refine And.intro (AV.le_of_eq ?_) ?_; (focus ((first | exact congrArg intV hw1 | fail); done))) | (refine And.intro (ABlk.le_of_eq ?_) ?_; (focus ((first | exact congrArg intV hw1 | fail); done))) | fail) | fail)
          · skip
            repeat' (first | exact trivial | ((conv => whnf); first | exact trivial | (refine And.intro (AV.le_refl _) ?_) | (refine And.intro (ABlk.le_refl _) ?_) | (refine And.intro (AV.le_of_eq ?_) ?_; (focus ((first | fail | fail); done))) | (refine And.intro (ABlk.le_of_eq ?_) ?_; (focus ((first | fail | fail); done))) | fail) | fail)
        · conv => whnf
          refine hle _ _ (Le.cutEnv 1 rfl rfl ⟨rfl, trivial⟩ ?_ ?_) (ih (i + 1) (by omega) (by omega))
          · skip
            repeat' (first | exact trivial | ((conv => whnf); first | exact trivial | (refine And.intro (AV.le_refl _) ?_) | (refine And.intro (ABlk.le_refl _) ?_) | (refine And.intro (AV.le_of_eq ?_) ?_; (focus ((first | exact congrArg intV hw1 | fail); done))) | (refine And.intro (ABlk.le_of_eq ?_) ?_; (focus ((first | exact congrArg intV hw1 | fail); done))) | fail) | fail)
          · skip
            repeat' (first | exact trivial | ((conv => whnf); first | exact trivial | (refine And.intro (AV.le_refl _) ?_) | (refine And.intro (ABlk.le_refl _) ?_) | (refine And.intro (AV.le_of_eq ?_) ?_; (focus ((first | fail | fail); done))) | (refine And.intro (ABlk.le_of_eq ?_) ?_; (focus ((first | fail | fail); done))) | fail) | fail)
      have h5 : (nd ns i).k ≠ 5 := h5
      conv => whnf
      refine two_dec (fun h8 => ?_) (fun h8 => ?_)
      · have h8 : o < 0 := h8
        conv => whnf
        refine two_dec (fun h10 => absurd (hnone h8) (Int.not_lt.2 h10)) (fun _ => ?_)
        conv => whnf
        refine hle _ _ (Le.cutEnv 1 rfl rfl ⟨rfl, trivial⟩ ?_ ?_) (ih (i + 1) (by omega) (by omega))
        · skip
          repeat' (first | exact trivial | ((conv => whnf); first | exact trivial | (refine And.intro (AV.le_refl _) ?_) | (refine And.intro (ABlk.le_refl _) ?_) | (refine And.intro (AV.le_of_eq ?_) ?_; (focus ((first | exact congrArg intV hw1 | fail); done))) | (refine And.intro (ABlk.le_of_eq ?_) ?_; (focus ((first | exact congrArg intV hw1 | fail); done))) | fail) | fail)
        · skip
          repeat' (first | exact trivial | ((conv => whnf); first | exact trivial | (refine And.intro (AV.le_refl _) ?_) | (refine And.intro (ABlk.le_refl _) ?_) | (refine And.intro (AV.le_of_eq ?_) ?_; (focus ((first | fail | fail); done))) | (refine And.intro (ABlk.le_of_eq ?_) ?_; (focus ((first | fail | fail); done))) | fail) | fail)
      · conv => whnf
        refine hle _ _ (Le.cutEnv 1 rfl rfl ⟨rfl, trivial⟩ ?_ ?_) (ih (i + 1) (by omega) (by omega))
        · skip
          repeat' (first | exact trivial | ((conv => whnf); first | exact trivial | (refine And.intro (AV.le_refl _) ?_) | (refine And.intro (ABlk.le_refl _) ?_) | (refine And.intro (AV.le_of_eq ?_) ?_; (focus ((first | exact congrArg intV hw1 | fail); done))) | (refine And.intro (ABlk.le_of_eq ?_) ?_; (focus ((first | exact congrArg intV hw1 | fail); done))) | fail) | fail)
        · skip
          repeat' (first | exact trivial | ((conv => whnf); first | exact trivial | (refine And.intro (AV.le_refl _) ?_) | (refine And.intro (ABlk.le_refl _) ?_) | (refine And.intro (AV.le_of_eq ?_) ?_; (focus ((first | fail | fail); done))) | (refine And.intro (ABlk.le_of_eq ?_) ?_; (focus ((first | fail | fail); done))) | fail) | fail)
    have h4 : (i : Int) ≠ root := h4
    conv => whnf
    refine two_ne (fun _ => ?_) (fun h5 => absurd h5 h3)
    conv => whnf
    refine two_ne (fun _ => ?_) (fun h5 => absurd h5 h4)
    conv => whnf
    refine ⟨⟨by omega, by omega, rfl⟩, ?_⟩
    conv => whnf
    refine ⟨ns, root, parF ns root i, o, rfl, ta, (hlaw.2.2 h3 h4).symm, ?_⟩
    conv => whnf
    repeat ((refine And.intro ?_ ?_); (focus ((conv => whnf); first | done | exact ⟨⟨by omega, by omega, rfl⟩, by conv => whnf⟩)); (conv => whnf))
    refine two_ne (fun h5 => absurd rfl h5) (fun _ => ?_)
    conv => whnf
    refine ⟨ns, root, (i : Int), (nd ns i).tx, d, rfl, ta, hlk, ?_⟩
    conv => whnf
    refine two_eq (fun h4 => ?_) (fun h4 => ?_)
    · have h4 : (nd ns i).k = 4 := h4
      have hm := hdecl (.inl h4)
      conv => whnf
      refine two_dec (fun h6 => absurd hm.1 (Int.not_le.2 h6)) (fun _ => ?_)
      conv => whnf
      refine two_dec (fun h6 => absurd hm.2.1 (Int.not_le.2 h6)) (fun _ => ?_)
      conv => whnf
      refine ⟨⟨hm.1, hm.2.2.1, rfl⟩, ?_⟩
      conv => whnf
      refine two_not (fun h6 => (hm.2.2.2.1 h6).elim) (fun _ => ?_)
      conv => whnf
      refine ⟨ns, root, d, _, rfl, ta, hm.2.2.2.2, ?_⟩
      conv => whnf
      repeat ((refine And.intro ?_ ?_); (focus ((conv => whnf); first | done | exact ⟨⟨hm.1, hm.2.2.1, rfl⟩, by conv => whnf⟩)); (conv => whnf))
      refine two_ne (fun h6 => absurd rfl h6) (fun _ => ?_)
      conv => whnf
      refine two_dec (fun h8 => ?_) (fun h8 => ?_)
      · have h8 : o < 0 := h8
        conv => whnf
        refine two_dec (fun h10 => absurd (hnone h8) (Int.not_lt.2 h10)) (fun _ => ?_)
        conv => whnf
        refine hle _ _ (Le.cutEnv 1 rfl rfl ⟨rfl, trivial⟩ ?_ ?_) (ih (i + 1) (by omega) (by omega))
        · skip
          repeat' (first | exact trivial | ((conv => whnf); first | exact trivial | (refine And.intro (AV.le_refl _) ?_) | (refine And.intro (ABlk.le_refl _) ?_) | (refine And.intro (AV.le_of_eq ?_) ?_; (focus ((first | exact congrArg intV hw1 | fail); done))) | (refine And.intro (ABlk.le_of_eq ?_) ?_; (focus ((first | exact congrArg intV hw1 | fail); done))) | fail) | fail)
        · skip
          repeat' (first | exact trivial | ((conv => whnf); first | exact trivial | (refine And.intro (AV.le_refl _) ?_) | (refine And.intro (ABlk.le_refl _) ?_) | (refine And.intro (AV.le_of_eq ?_) ?_; (focus ((first | fail | fail); done))) | (refine And.intro (ABlk.le_of_eq ?_) ?_; (focus ((first | fail | fail); done))) | fail) | fail)
      · conv => whnf
        refine hle _ _ (Le.cutEnv 1 rfl rfl ⟨rfl, trivial⟩ ?_ ?_) (ih (i + 1) (by omega) (by omega))
        · skip
          repeat' (first | exact trivial | ((conv => whnf); first | exact trivial | (refine And.intro (AV.le_refl _) ?_) | (refine And.intro (ABlk.le_refl _) ?_) | (refine And.intro (AV.le_of_eq ?_) ?_; (focus ((first | exact congrArg intV hw1 | fail); done))) | (refine And.intro (ABlk.le_of_eq ?_) ?_; (focus ((first | exact congrArg intV hw1 | fail); done))) | fail) | fail)
        · skip
          repeat' (first | exact trivial | ((conv => whnf); first | exact trivial | (refine And.intro (AV.le_refl _) ?_) | (refine And.intro (ABlk.le_refl _) ?_) | (refine And.intro (AV.le_of_eq ?_) ?_; (focus ((first | fail | fail); done))) | (refine And.intro (ABlk.le_of_eq ?_) ?_; (focus ((first | fail | fail); done))) | fail) | fail)
    have h4 : (nd ns i).k ≠ 4 := h4
    conv => whnf
    refine two_eq (fun h5 => ?_) (fun h5 => ?_)
    · have h5 : (nd ns i).k = 5 := h5
      have hm := hdecl (.inr h5)
      conv => whnf
      refine two_dec (fun h6 => absurd hm.1 (Int.not_le.2 h6)) (fun _ => ?_)
      conv => whnf
      refine two_dec (fun h6 => absurd hm.2.1 (Int.not_le.2 h6)) (fun _ => ?_)
      conv => whnf
      refine ⟨⟨hm.1, hm.2.2.1, rfl⟩, ?_⟩
      conv => whnf
      refine two_not (fun h6 => (hm.2.2.2.1 h6).elim) (fun _ => ?_)
      conv => whnf
      refine ⟨ns, root, d, _, rfl, ta, hm.2.2.2.2, ?_⟩
      conv => whnf
      repeat ((refine And.intro ?_ ?_); (focus ((conv => whnf); first | done | exact ⟨⟨hm.1, hm.2.2.1, rfl⟩, by conv => whnf⟩)); (conv => whnf))
      refine two_ne (fun h6 => absurd rfl h6) (fun _ => ?_)
      conv => whnf
      refine two_dec (fun h8 => ?_) (fun h8 => ?_)
      · have h8 : o < 0 := h8
        conv => whnf
        refine two_dec (fun h10 => absurd (hnone h8) (Int.not_lt.2 h10)) (fun _ => ?_)
        conv => whnf
        refine hle _ _ (Le.cutEnv 1 rfl rfl ⟨rfl, trivial⟩ ?_ ?_) (ih (i + 1) (by omega) (by omega))
        · skip
          repeat' (first | exact trivial | ((conv => whnf); first | exact trivial | (refine And.intro (AV.le_refl _) ?_) | (refine And.intro (ABlk.le_refl _) ?_) | (refine And.intro (AV.le_of_eq ?_) ?_; (focus ((first | exact congrArg intV hw1 | fail); done))) | (refine And.intro (ABlk.le_of_eq ?_) ?_; (focus ((first | exact congrArg intV hw1 | fail); done))) | fail) | fail)
        · skip
          repeat' (first | exact trivial | ((conv => whnf); first | exact trivial | (refine And.intro (AV.le_refl _) ?_) | (refine And.intro (ABlk.le_refl _) ?_) | (refine And.intro (AV.le_of_eq ?_) ?_; (focus ((first | fail | fail); done))) | (refine And.intro (ABlk.le_of_eq ?_) ?_; (focus ((first | fail | fail); done))) | fail) | fail)
      · conv => whnf
        refine hle _ _ (Le.cutEnv 1 rfl rfl ⟨rfl, trivial⟩ ?_ ?_) (ih (i + 1) (by omega) (by omega))
        · skip
          repeat' (first | exact trivial | ((conv => whnf); first | exact trivial | (refine And.intro (AV.le_refl _) ?_) | (refine And.intro (ABlk.le_refl _) ?_) | (refine And.intro (AV.le_of_eq ?_) ?_; (focus ((first | exact congrArg intV hw1 | fail); done))) | (refine And.intro (ABlk.le_of_eq ?_) ?_; (focus ((first | exact congrArg intV hw1 | fail); done))) | fail) | fail)
        · skip
          repeat' (first | exact trivial | ((conv => whnf); first | exact trivial | (refine And.intro (AV.le_refl _) ?_) | (refine And.intro (ABlk.le_refl _) ?_) | (refine And.intro (AV.le_of_eq ?_) ?_; (focus ((first | fail | fail); done))) | (refine And.intro (ABlk.le_of_eq ?_) ?_; (focus ((first | fail | fail); done))) | fail) | fail)
    have h5 : (nd ns i).k ≠ 5 := h5
    conv => whnf
    refine two_dec (fun h8 => ?_) (fun h8 => ?_)
    · have h8 : o < 0 := h8
      conv => whnf
      refine two_dec (fun h10 => absurd (hnone h8) (Int.not_lt.2 h10)) (fun _ => ?_)
      conv => whnf
      refine hle _ _ (Le.cutEnv 1 rfl rfl ⟨rfl, trivial⟩ ?_ ?_) (ih (i + 1) (by omega) (by omega))
      · skip
        repeat' (first | exact trivial | ((conv => whnf); first | exact trivial | (refine And.intro (AV.le_refl _) ?_) | (refine And.intro (ABlk.le_refl _) ?_) | (refine And.intro (AV.le_of_eq ?_) ?_; (focus ((first | exact congrArg intV hw1 | fail); done))) | (refine And.intro (ABlk.le_of_eq ?_) ?_; (focus ((first | exact congrArg intV hw1 | fail); done))) | fail) | fail)
      · skip
        repeat' (first | exact trivial | ((conv => whnf); first | exact trivial | (refine And.intro (AV.le_refl _) ?_) | (refine And.intro (ABlk.le_refl _) ?_) | (refine And.intro (AV.le_of_eq ?_) ?_; (focus ((first | fail | fail); done))) | (refine And.intro (ABlk.le_of_eq ?_) ?_; (focus ((first | fail | fail); done))) | fail) | fail)
    · conv => whnf
      refine hle _ _ (Le.cutEnv 1 rfl rfl ⟨rfl, trivial⟩ ?_ ?_) (ih (i + 1) (by omega) (by omega))
      · skip
        repeat' (first | exact trivial | ((conv => whnf); first | exact trivial | (refine And.intro (AV.le_refl _) ?_) | (refine And.intro (ABlk.le_refl _) ?_) | (refine And.intro (AV.le_of_eq ?_) ?_; (focus ((first | exact congrArg intV hw1 | fail); done))) | (refine And.intro (ABlk.le_of_eq ?_) ?_; (focus ((first | exact congrArg intV hw1 | fail); done))) | fail) | fail)
      · skip
        repeat' (first | exact trivial | ((conv => whnf); first | exact trivial | (refine And.intro (AV.le_refl _) ?_) | (refine And.intro (ABlk.le_refl _) ?_) | (refine And.intro (AV.le_of_eq ?_) ?_; (focus ((first | fail | fail); done))) | (refine And.intro (ABlk.le_of_eq ?_) ?_; (focus ((first | fail | fail); done))) | fail) | fail)
  · conv => whnf
    refine ⟨ns, root, -1, -1, rfl, ta, by simp [ownerT, insT], ?_⟩
    conv => whnf
    refine ⟨ns, root, (ns.length : Int), -1, rfl, ta, by simp [ownerT, insT], ?_⟩
    conv => whnf
    exact hr _ _ rfl hk
end Go.Proofs.YtkomdppjelnpdaaGreatDoor
