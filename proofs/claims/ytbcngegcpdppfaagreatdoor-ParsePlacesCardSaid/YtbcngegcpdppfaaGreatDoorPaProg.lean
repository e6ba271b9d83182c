/-
  Parser, part 14: programs. No statement of the seat is proved here.
-/
import Derived.Test.YtbcngegcpdppfaaGreatDoorPaProc
namespace Go.Proofs.YtbcngegcpdppfaaGreatDoor
open Go.AE Go.Ru
set_option maxRecDepth 100000
set_option pp.maxSteps 2000

def g15 : AG := gput 47 cProc g14
theorem g15_ok : GOk Tryz.prog g15 := gput_ok proc_ok g14_ok

/-- declarations, their places in a row that may grow -/
def cVarsM : AC := fun args K k => ∃ d : Nat, ∃ e ts ns mo op kind, args = [pp, .p (.int .i64 kind)] ∧ K = encP e ts ns op mo ∧ Fine d ts ns ∧
  AK (varsS e kind ⟨ts, ns, mo⟩) (fun l s => k (.ret (.slr 2 0 0 l.length)) (encP e s.ts s.ns op s.mo ++ [kidA l])) (fun a er => ∀ K', k (.pan (wrongV a er)) K')
theorem varsM_ok : COk 46 cVarsM := by
  rintro args K k ⟨d, e, ts, ns, mo, op, kind, rfl, rfl, hf, hk⟩
  refine call_ok g12_ok 19 _ _ _ _ ?_
  have hf := hf.fin
  unfold varsS at hk
  conv => whnf
  refine loop_nil (ι := LC) 3 1 (fun i => pvs (kidF [] i)) (fun i => ⟨[(0, pp), (1, .p (.int .i64 kind)), (5, .slr 2 0 0 i.l.length)], encP e i.ts i.ns op i.mo ++ [kidA i.l]⟩)
      (fun i => i.ts.length ≤ i.n ∧ i.n ≤ 900001 ∧ i.l.length + i.ts.length ≤ 900000 ∧ Fin d 0 i.ts i.ns ∧ AK (varsL e kind i.n i.l ⟨i.ts, i.ns, i.mo⟩)
        (fun l s => k (.ret (.slr 2 0 0 l.length)) (encP e s.ts s.ns op s.mo ++ [kidA l])) (fun a er => ∀ K', k (.pan (wrongV a er)) K'))
      (fun i => i.n) ⟨ts, ns, mo, [], ts.length⟩ (encP e ts ns op mo)
      rfl ⟨.inl (AV.le_refl _), .inl (AV.le_refl _), .inr ⟨rfl, rfl⟩, trivial⟩ (nswK.refl _ _) rfl
      ⟨Nat.le_refl _, ?_, ?_, hf, hk⟩ ?_
  · have := hf.s; show ts.length ≤ 900001; omega
  · have := hf.s; show 0 + ts.length ≤ 900000; omega
  clear hk hf
  rintro Y hle ⟨ts, ns, mo, l, n⟩ ⟨hn, hn2, hln, hf, hk⟩ ih
  simp only at hn hn2 hln hf hk
  conv => whnf
  refine ⟨_, _, _, _, _, _, _, rfl, rfl, ?_⟩
  conv => whnf
  refine two_intro (fun h => ?_) (fun h => ?_)
  · have h : isS [118, 97, 114] ts = true := h
    cases n with
    | zero => have := isS_pos h; simp only at this; omega
    | succ n =>
    obtain ⟨t0, ts, rfl⟩ : ∃ t r, ts = t :: r := by
      cases ts with
      | nil => simp [isS] at h
      | cons t r => exact ⟨t, r, rfl⟩
    simp only [varsL, h, bindA, dropS] at hk
    conv => whnf
    refine ⟨_, _, _, _, _, _, _, rfl, rfl, ?_⟩
    conv => whnf
    have hf : Fin d 4 ts ns := ⟨hf.1, by have := hf.2; simp only [List.length_cons] at this; omega⟩
    refine ⟨_, _, _, _, _, _, rfl, rfl, hk.step (ident_le _ _) (fun t ts2 ns2 mo2 hl hk => ?_) (fun a er hb => by (conv => whnf); exact hb _)⟩
    have hf := hf.st hl
    have hl1 := hl.2
    conv => whnf
    refine ⟨d, _, _, _, _, _, _, _, _, _, rfl, rfl, hf.fine, hk.step (typed_le _ _ _ _ _) (fun x ts3 ns3 mo3 hl hk => ?_) (fun a er hb => by (conv => whnf); exact hb _)⟩
    have hf := hf.st hl
    have hl2 := hl.2
    conv => whnf
    refine ⟨⟨rfl, rfl, rfl, allLt_ok ⟨trivial, rfl⟩⟩, ?_⟩
    conv => whnf
    refine ⟨⟨rfl, rfl, rfl, rfl, ?_, ?_⟩, ?_⟩
    · show (l.length + 1) * 8 ≤ 140737488355328
      omega
    · show l.length + 1 ≤ 9223372036854775807
      omega
    conv => whnf
    refine ⟨_, _, _, _, _, _, _, rfl, rfl, hk.step (want_le _ _ _) (fun _ ts4 ns4 mo4 hl hk => ?_) (fun a er hb => by (conv => whnf); exact hb _)⟩
    have hf := hf.st hl
    have hl3 := hl.2
    conv => whnf
    simp only [List.length_cons, List.tail_cons] at hl1 hl2 hl3 hn hln
    refine hle _ _ (Le.cutEnv 3 rfl rfl ⟨rfl, fun _ _ => rfl, ?_, trivial⟩ ?_ ?_) (ih ⟨ts4, ns4, mo4, l ++ [x], n⟩ (by simp only; omega) ⟨?_, ?_, ?_, hf.lo (by omega), hk⟩)
    · exact kid_cl l x _ 3 rfl
    · exact ⟨AV.le_refl _, AV.le_refl _, AV.le_of_eq (show AV.slr 2 0 0 (l.length + 1) = AV.slr 2 0 0 (l ++ [x]).length by simp), trivial⟩
    · exact ⟨ABlk.le_refl _, ABlk.le_refl _, kidA_snoc l x _ rfl, trivial⟩
    · simp only; omega
    · simp only; omega
    · simp only [List.length_append, List.length_cons, List.length_nil]; omega
  · have h : isS [118, 97, 114] ts = false := h
    have hk : k (.ret (.slr 2 0 0 l.length)) (encP e ts ns op mo ++ [kidA l]) := by
      cases n with
      | zero => exact hk
      | succ n => simp only [varsL, h] at hk; exact hk
    conv => whnf
    exact hk

def g16 : AG := gput 46 cVarsM g15
theorem g16_ok : GOk Tryz.prog g16 := gput_ok varsM_ok g15_ok

theorem AK.vstep {α β : Type} {r : R α} {f : α → PS → R β} {ok : β → PS → Prop} {bad : Int → Int → Prop} (h : AK (r.bind f) ok bad) {ok' : α → PS → Prop} {bad' : Int → Int → Prop} {p : α → PS → Prop} (hp : ∀ a s, r = .ok a s → p a s)
    (h1 : ∀ a ts ns mo, p a ⟨ts, ns, mo⟩ → AK (f a ⟨ts, ns, mo⟩) ok bad → ok' a ⟨ts, ns, mo⟩) (h2 : ∀ a er, bad a er → bad' a er) : AK r ok' bad' := by
  cases r with
  | ok a s => exact h1 _ _ _ _ (hp _ _ rfl) h
  | bad a er => exact h2 _ _ h

def cProgram : AC := fun args K k => ∃ e ts ns mo X, args = [pp] ∧ K = encP e ts ns 0 mo ++ X ∧ Fine 40 ts ns ∧
  After e (programS e ⟨ts, ns, mo⟩) intV 0 X k
theorem varsS_len (e kind : Int) (s : PS) : ∀ l s', varsS e kind s = .ok l s' → Lw s 0 0 s' ∧ l.length + s'.ts.length ≤ s.ts.length := fun l s' h =>
  ⟨vars_le e kind s l s' h, by have := varsL_len e kind _ _ _ _ _ h; simpa using this⟩
theorem program_ok : COk 22 cProgram := by
  rintro args K k ⟨e, ts, ns, mo, X, rfl, rfl, hf, hk⟩
  refine frameP g16_ok 19 rfl fun Q hr hp => ?_
  have hk := hk.ak
  have hf := hf.fin
  unfold programS at hk
  conv => whnf
  refine ⟨40, _, _, _, _, _, _, rfl, rfl, hf.fine, hk.vstep (varsS_len _ _ _) (fun vs ts2 ns2 mo2 hl hk => ?_) (fun a er hb K' => by (conv => whnf); show fK K' _; rw [fK_eq]; exact hp _ _ rfl hb)⟩
  have hln := hl.2
  have hf0 := hf.s
  have hf := hf.st hl.1
  simp only at hln
  conv => whnf
  refine loop_by (ι := LC) (fun i => ⟨[(0, pp), (3, .slr 2 0 0 i.l.length)], encP e i.ts i.ns 0 i.mo ++ [kidA i.l]⟩)
      (fun i => i.ts.length ≤ i.n ∧ i.n ≤ 900001 ∧ i.l.length + i.ts.length ≤ 900000 ∧ Fin 40 0 i.ts i.ns ∧ AK ((procsL e 40 i.n i.l ⟨i.ts, i.ns, i.mo⟩).bind fun l s => putS ⟨1, 0, 0, [], l⟩ s)
        (fun a s => k (.ret (intV a)) (encP e s.ts s.ns 0 s.mo ++ X)) (fun a er => k (.pan (wrongV a er)) (deads 2 ++ X)))
      (fun i => i.n) ⟨ts2, ns2, mo2, vs, ts2.length⟩ ⟨AV.le_refl _, AV.le_refl _, trivial⟩ (lesK.refl _)
      ⟨Nat.le_refl _, ?_, ?_, hf, hk⟩ ?_
  · have := hf.s; show ts2.length ≤ 900001; omega
  · show vs.length + ts2.length ≤ 900000; omega
  clear hk hf hln hl hf0
  rintro Y hle ⟨ts, ns, mo, l, n⟩ ⟨hn, hn2, hln, hf, hk⟩ ih
  simp only at hn hn2 hln hf hk
  conv => whnf
  refine ⟨by simp <;> omega, ?_⟩
  conv => whnf
  rw [enc_hd]
  conv => whnf
  refine two_intro (fun h => ?_) (fun h => ?_)
  · have h : (hdK ts != 5) = true := h
    cases n with
    | zero =>
      cases ts with
      | nil => simp [hdK] at h
      | cons t r => simp at hn
    | succ n =>
    obtain ⟨t, r, rfl⟩ : ∃ t r, ts = t :: r := by
      cases ts with
      | nil => simp [hdK] at h
      | cons t r => exact ⟨t, r, rfl⟩
    simp only [procsL, bindA] at hk
    conv => whnf
    refine ⟨40, _, _, _, _, _, _, rfl, rfl, rfl, hf.fine, hk.step (proc_le _ _ _) (fun x ts3 ns3 mo3 hl hk => ?_) (fun a er hb => by ((conv => whnf); exact hp _ _ rfl hb))⟩
    have hf := hf.st hl
    have hl2 := hl.2
    simp only [List.length_cons] at hl2 hn hln
    conv => whnf
    refine ⟨⟨rfl, rfl, rfl, allLt_ok ⟨trivial, rfl⟩⟩, ?_⟩
    conv => whnf
    refine ⟨⟨rfl, rfl, rfl, rfl, ?_, ?_⟩, ?_⟩
    · show (l.length + 1) * 8 ≤ 140737488355328
      omega
    · show l.length + 1 ≤ 9223372036854775807
      omega
    conv => whnf
    refine hle _ _ (Le.cutEnv 3 rfl rfl ⟨rfl, fun _ _ => rfl, ?_, trivial⟩ ?_ ?_) (ih ⟨ts3, ns3, mo3, l ++ [x], n⟩ (by simp only; omega) ⟨?_, ?_, ?_, hf.lo (by omega), hk⟩)
    · exact kid_cl l x _ 3 rfl
    · exact ⟨AV.le_refl _, AV.le_of_eq (show AV.slr 2 0 0 (l.length + 1) = AV.slr 2 0 0 (l ++ [x]).length by simp), trivial⟩
    · exact ⟨ABlk.le_refl _, ABlk.le_refl _, kidA_snoc l x _ rfl, trivial⟩
    · simp only; omega
    · simp only; omega
    · simp only [List.length_append, List.length_cons, List.length_nil]; omega
  · have h : (hdK ts != 5) = false := h
    obtain rfl : ts = [] := by
      cases ts with
      | nil => rfl
      | cons t r =>
        obtain ⟨tk, _, _, _⟩ := t
        cases tk <;> simp [hdK, TK.code] at h
    replace hk : AK (putS ⟨1, 0, 0, [], l⟩ ⟨[], ns, mo⟩) (fun a s => k (.ret (intV a)) (encP e s.ts s.ns 0 s.mo ++ X)) (fun a er => k (.pan (wrongV a er)) (deads 2 ++ X)) := by
      cases n <;> exact hk
    conv => whnf
    refine ⟨l, _, _, _, _, _, _, _, _, _, _, _, rfl, rfl, PutK.slr hf.sz rfl rfl rfl (fun _ _ => rfl) ?_⟩
    conv => whnf
    exact hr _ _ _ _ _ _ rfl rfl hk
end Go.Proofs.YtbcngegcpdppfaaGreatDoor
