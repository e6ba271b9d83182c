/-
  Parser, part 11: declarations, procedures. No statement of the seat is proved here.
-/
import Derived.Test.YtbcngegcpdppfaaGreatDoorPaStep
namespace Go.Proofs.YtbcngegcpdppfaaGreatDoor
open Go.AE Go.Ru
set_option maxRecDepth 100000
set_option pp.maxSteps 2000

/-- a call on a parser's state, whose answer is said in weaker words -/
theorem frameW {G : AG} (hG : GOk Tryz.prog G) (n : Nat) {f : FuncId} {args : List AV} {e : Int} {ts : List Tok} {ns : List Nd} {op mo : Int} {X : List ABlk} {k : AO → List ABlk → Prop} (hcl : AV.cls 2 args = true)
    (h : ∀ Q : AO → List ABlk → Prop,
      (∀ v K' v' K2 ts' ns' op' mo', Wk1 2 v K' v' K2 → v'.cl 2 = true → takeN K2 2 = encP e ts' ns' op' mo' → k (.ret v') (encP e ts' ns' op' mo' ++ X) → Q (.ret v) K') →
      (∀ v K', v.cl 0 = true → k (.pan v) (deads 2 ++ X) → Q (.pan v) K') → acall1 T0 G n f args (encP e ts ns op mo) Q) :
    ACalls Tryz.prog f args (encP e ts ns op mo ++ X) k := by
  refine (ACalls.frame (K0 := encP e ts ns op mo) (k := fun ao K1 => k ao (K1 ++ X)) hcl (fun r _ => encP_cl e ts ns op mo r)
    (ACalls.post (k := fun ao K1 => ∃ v' K2, Wk1 2 ao.val K1 v' K2 ∧ frameK 2 (fun ao K1 => k ao (K1 ++ X)) (ao.with v') K2) (call_ok hG n f args _ _ (h _ ?_ ?_)) ?_)).mono ?_
  · intro v K' v' K2 ts' ns' op' mo' hw h1 h3 h4
    have hl : 2 ≤ K2.length := by
      have := congrArg List.length h3
      match K2, h3 with
      | [], h3 => simp [takeN, encP] at h3
      | [_], h3 => simp [takeN, encP] at h3
      | _ :: _ :: _, _ => simp
    refine ⟨v', K2, hw, h1, hl, fun r hr => ?_, ?_⟩
    · have := encP_cl e ts' ns' op' mo' r
      rw [← h3, hp_takeN, if_pos hr] at this; exact this
    · show k (.ret v') (takeN K2 2 ++ X)
      rw [h3]; exact h4
  · intro v K' h1 h2; exact ⟨v, K', Wk1.refl _ _ _, h1, h2⟩
  · rintro (v | v) K1 ⟨v', K2, h1, h2⟩
    · exact ⟨v', K2, h1, h2⟩
    · exact ⟨v', K2, h1, h2⟩
  · rintro ao K ⟨K1, rfl, h⟩; exact h

def g12 : AG := gput 119 (cStmt 41) (gput 81 cTyped g11)
theorem g12_ok : GOk Tryz.prog g12 := gput_ok (stmt_ok 41) (gput_ok typed_ok g11_ok)

def kidV (l : List Int) : AV := .p (.sl 1 l.length (kidF l))
def cVars : AC := fun args K k => ∃ d : Nat, ∃ e ts ns mo op kind X, args = [pp, .p (.int .i64 kind)] ∧ K = encP e ts ns op mo ++ X ∧ Fine d ts ns ∧
  After e (varsS e kind ⟨ts, ns, mo⟩) kidV op X k
theorem vars_ok : COk 46 cVars := by
  rintro args K k ⟨d, e, ts, ns, mo, op, kind, X, rfl, rfl, hf, hk⟩
  refine frameW g12_ok 19 rfl fun Q hr hp => ?_
  have hk := hk.ak
  have hf := hf.fin
  unfold varsS at hk
  conv => whnf
  refine loop_nil (ι := LC) 3 1 (fun i => pvs (kidF [] i)) (fun i => ⟨[(0, pp), (1, .p (.int .i64 kind)), (5, .slr 2 0 0 i.l.length)], encP e i.ts i.ns op i.mo ++ [kidA i.l]⟩)
      (fun i => i.ts.length ≤ i.n ∧ i.n ≤ 900001 ∧ i.l.length + i.ts.length ≤ 900000 ∧ Fin d 0 i.ts i.ns ∧ AK (varsL e kind i.n i.l ⟨i.ts, i.ns, i.mo⟩)
        (fun a s => k (.ret (kidV a)) (encP e s.ts s.ns op s.mo ++ X)) (fun a er => k (.pan (wrongV a er)) (deads 2 ++ X)))
      (fun i => i.n) ⟨ts, ns, mo, [], ts.length⟩ (encP e ts ns op mo)
      rfl ⟨.inl (AV.le_refl _), .inl (AV.le_refl _), .inr ⟨rfl, rfl⟩, trivial⟩ (nswK.refl _ _) rfl
      ⟨Nat.le_refl _, ?_, ?_, hf, hk⟩ ?_
  · have := hf.s; show ts.length ≤ 900001; omega
  · have := hf.s; show 0 + ts.length ≤ 900000; omega
  clear hk hf
  rintro Y hle ⟨ts, ns, mo, l, n⟩ ⟨hn, hn2, hln, hf, hk⟩ ih
  simp only at hn hn2 hln hf hk
  conv => whnf
  refine ⟨_, _, _, _, _, _, _, rfl, rfl, ?_⟩
  conv => whnf
  refine two_intro (fun h => ?_) (fun h => ?_)
  · have h : isS [118, 97, 114] ts = true := h
    cases n with
    | zero => have := isS_pos h; simp only at this; omega
    | succ n =>
    obtain ⟨t0, ts, rfl⟩ : ∃ t r, ts = t :: r := by
      cases ts with
      | nil => simp [isS] at h
      | cons t r => exact ⟨t, r, rfl⟩
    simp only [varsL, h, bindA, dropS] at hk
    conv => whnf
    refine ⟨_, _, _, _, _, _, _, rfl, rfl, ?_⟩
    conv => whnf
    have hf : Fin d 4 ts ns := ⟨hf.1, by have := hf.2; simp only [List.length_cons] at this; omega⟩
    refine ⟨_, _, _, _, _, _, rfl, rfl, hk.step (ident_le _ _) (fun t ts2 ns2 mo2 hl hk => ?_) (fun a er hb => by ((conv => whnf); exact hp _ _ rfl hb))⟩
    have hf := hf.st hl
    have hl1 := hl.2
    conv => whnf
    refine ⟨d, _, _, _, _, _, _, _, _, _, rfl, rfl, hf.fine, hk.step (typed_le _ _ _ _ _) (fun x ts3 ns3 mo3 hl hk => ?_) (fun a er hb => by ((conv => whnf); exact hp _ _ rfl hb))⟩
    have hf := hf.st hl
    have hl2 := hl.2
    conv => whnf
    refine ⟨⟨rfl, rfl, rfl, allLt_ok ⟨trivial, rfl⟩⟩, ?_⟩
    conv => whnf
    refine ⟨⟨rfl, rfl, rfl, rfl, ?_, ?_⟩, ?_⟩
    · show (l.length + 1) * 8 ≤ 140737488355328
      omega
    · show l.length + 1 ≤ 9223372036854775807
      omega
    conv => whnf
    refine ⟨_, _, _, _, _, _, _, rfl, rfl, hk.step (want_le _ _ _) (fun _ ts4 ns4 mo4 hl hk => ?_) (fun a er hb => by ((conv => whnf); exact hp _ _ rfl hb))⟩
    have hf := hf.st hl
    have hl3 := hl.2
    conv => whnf
    simp only [List.length_cons, List.tail_cons] at hl1 hl2 hl3 hn hln
    refine hle _ _ (Le.cutEnv 3 rfl rfl ⟨rfl, fun _ _ => rfl, ?_, trivial⟩ ?_ ?_) (ih ⟨ts4, ns4, mo4, l ++ [x], n⟩ (by simp only; omega) ⟨?_, ?_, ?_, hf.lo (by omega), hk⟩)
    · exact kid_cl l x _ 3 rfl
    · exact ⟨AV.le_refl _, AV.le_refl _, AV.le_of_eq (show AV.slr 2 0 0 (l.length + 1) = AV.slr 2 0 0 (l ++ [x]).length by simp), trivial⟩
    · exact ⟨ABlk.le_refl _, ABlk.le_refl _, kidA_snoc l x _ rfl, trivial⟩
    · simp only; omega
    · simp only; omega
    · simp only [List.length_append, List.length_cons, List.length_nil]; omega
  · have h : isS [118, 97, 114] ts = false := h
    have hk : k (.ret (kidV l)) (encP e ts ns op mo ++ X) := by
      cases n with
      | zero => exact hk
      | succ n => simp only [varsL, h] at hk; exact hk
    conv => whnf
    exact hr _ _ _ _ _ _ _ _ (Wk1.freeze (r := 2) rfl (kidF l) (fun _ _ => rfl)) rfl rfl hk
end Go.Proofs.YtbcngegcpdppfaaGreatDoor
