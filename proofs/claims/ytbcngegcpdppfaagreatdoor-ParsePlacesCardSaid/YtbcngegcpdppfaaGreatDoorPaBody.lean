/-
  Parser, part 12: bodies of procedures. No statement of the seat is proved here.
-/
import Derived.Test.YtbcngegcpdppfaaGreatDoorPaVars
namespace Go.Proofs.YtbcngegcpdppfaaGreatDoor
open Go.AE Go.Ru
set_option maxRecDepth 100000
set_option pp.maxSteps 2000

def g13 : AG := gput 46 cVars g12
theorem g13_ok : GOk Tryz.prog g13 := gput_ok vars_ok g12_ok

/-- a block with declarations at its head -/
def cBody : AC := fun args K k => ∃ d : Nat, ∃ e ts ns mo op X, args = [pp, .p (.bool true)] ∧ K = encP e ts ns op mo ++ X ∧ op = 40 - (d : Int) ∧ Fine d ts ns ∧
  After e (bodyS e d ⟨ts, ns, mo⟩) (fun a => .tup [kidV a.1, intV a.2]) op X k
theorem body_ok : COk 88 cBody := by
  rintro args K k ⟨d, e, ts, ns, mo, op, X, rfl, rfl, ho, hf, hk⟩
  refine frameP g13_ok 19 rfl fun Q hr hp => ?_
  have hk := hk.ak
  have hf := hf.fin
  unfold bodyS at hk
  simp only at hk
  conv => whnf
  refine ⟨by simp <;> omega, ?_⟩
  conv => whnf
  rw [enc_hd]
  conv => whnf
  cases hw : isS [123] ts with
  | false =>
    have hb := hk.within_no hw
    refine ⟨_, _, _, _, _, _, _, rfl, rfl, ?_⟩
    conv => whnf
    refine two_false hw ?_
    conv => whnf
    refine ⟨_, _, _, _, _, _, _, rfl, rfl, ⟨fun a ts' ns' mo' h => by simp [wantS, hw] at h, fun a er h => ?_⟩⟩
    simp only [wantS, hw, R.bad.injEq] at h
    obtain ⟨rfl, rfl⟩ := h
    ((conv => whnf); exact hp _ _ rfl hb)
  | true =>
    refine ⟨_, _, _, _, _, _, _, rfl, rfl, ?_⟩
    conv => whnf
    refine two_true hw ?_
    conv => whnf
    cases d with
    | zero =>
      have hb := hk.within_deep hw
      refine two_true (by simp [ho]) ?_
      conv => whnf
      refine ⟨_, _, _, _, _, _, _, rfl, rfl, ?_⟩
      ((conv => whnf); exact hp _ _ rfl hb)
    | succ d =>
    refine two_false (by simp [ho]; omega) ?_
    conv => whnf
    refine ⟨_, _, _, _, _, _, _, rfl, rfl, ⟨fun a ts' ns' mo' h => ?_, fun a er h => by simp [wantS, hw] at h⟩⟩
    simp only [wantS, hw, dropS, R.ok.injEq, PS.mk.injEq] at h
    obtain ⟨-, rfl, rfl, rfl⟩ := h
    have hd2 : d < 1000 := by have := hf.1; omega
    have hk := hk.within hw (by simp)
    rw [← in_mo ho hd2] at hk
    have hf := hf.opn hw
    conv => whnf
    simp only [bindA] at hk
    refine ⟨d, _, _, _, _, _, _, _, rfl, rfl, hf.fine, hk.step (vars_le _ _ _) (fun vs ts2 ns2 mo2 hl hk => ?_) (fun a er hb => by ((conv => whnf); exact hp _ _ rfl hb))⟩
    have hf := hf.st hl
    have hl0 := hl.2
    have hd40 : d < 41 := by have := hf.d; omega
    simp only at hl0
    conv => whnf
    refine loop_nil (ι := LC) 3 1 (fun i => pvs (kidF [] i)) (fun i => ⟨[(1, .ptr 2 0 1 0 0), (3, .ptr 6 0 1 0 0)],
        encP e i.ts i.ns (IntKind.i64.wrap (op + 1)) i.mo ++ [.box 52 [pp], .box 4 [.p (.bool true)], .box 41 [.p (.int .i64 6), .p (.int .i64 0), .p (.int .i64 (Ru.hd e ts)), .p (.str []), .p .nils], .box 39 [kidV vs], .box 39 [.slr 7 0 0 i.l.length], kidA i.l]⟩)
      (fun i => i.ts.length < i.n ∧ i.n ≤ 900001 ∧ i.l.length + i.ts.length ≤ 900000 ∧ Fin d 3 i.ts i.ns ∧ AK ((stmtsL (stmtS e d) i.n i.l ⟨i.ts, i.ns, i.mo⟩).bind fun l s => (wantS e [125] s).bind fun _ s => (putS ⟨6, 0, Ru.hd e ts, [], l⟩ s).bind fun b s => .ok (vs, b) s)
        (fun a s => k (.ret (.tup [kidV a.1, intV a.2])) (encP e s.ts s.ns op s.mo ++ X)) (fun a er => k (.pan (wrongV a er)) (deads 2 ++ X)))
      (fun i => i.n) ⟨ts2, ns2, mo2, [], ts2.length + 1⟩
      (encP e ts2 ns2 (IntKind.i64.wrap (op + 1)) mo2 ++ [.box 52 [pp], .box 4 [.p (.bool true)], .box 41 [.p (.int .i64 6), .p (.int .i64 0), .p (.int .i64 (Ru.hd e ts)), .p (.str []), .p .nils], .box 39 [kidV vs], .box 39 [.slr 7 0 0 0]])
      rfl ⟨.inl (AV.le_refl _), .inl (AV.le_refl _), trivial⟩
      ?_ rfl
      ⟨Nat.lt_succ_self _, ?_, ?_, hf.lo (by omega), hk⟩ ?_
    · exact ⟨.inl (ABlk.le_refl _), .inl (ABlk.le_refl _), .inl (ABlk.le_refl _), .inl (ABlk.le_refl _), .inl (ABlk.le_refl _), .inl (ABlk.le_refl _), .inr ⟨_, _, _, rfl, rfl, .inr ⟨rfl, rfl⟩, trivial⟩, trivial⟩
    · have := hf.s; show ts2.length + 1 ≤ 900001; omega
    · have := hf.s; show 0 + ts2.length ≤ 900000; omega
    clear hk hf hl0 hl
    rintro Y hle ⟨ts, ns, mo, l, n⟩ ⟨hn, hn2, hln, hf, hk⟩ ih
    simp only at hn hn2 hln hf hk
    cases n with
    | zero => omega
    | succ n =>
    conv => whnf
    refine ⟨_, _, _, _, _, _, _, rfl, rfl, ?_⟩
    conv => whnf
    refine two_intro (fun h => ?_) (fun h => ?_)
    · have h : isS [125] ts = false := nt h
      simp only [stmtsL, h, bindA] at hk
      conv => whnf
      refine ⟨d, _, _, _, _, _, _, rfl, rfl, in_op ho hd2, by omega, hf.fine, hk.step (stmt_le _ _ _) (fun x ts2 ns2 mo2 hl hk => ?_) (fun a er hb => by ((conv => whnf); exact hp _ _ rfl hb))⟩
      have hf := hf.st hl
      conv => whnf
      refine ⟨by conv => whnf, ?_⟩
      conv => whnf
      refine ⟨by conv => whnf, ?_⟩
      conv => whnf
      refine ⟨⟨rfl, rfl, rfl, allLt_ok ⟨trivial, rfl⟩⟩, ?_⟩
      conv => whnf
      refine ⟨⟨rfl, rfl, rfl, rfl, ?_, ?_⟩, ?_⟩
      · show (l.length + 1) * 8 ≤ 140737488355328
        omega
      · show l.length + 1 ≤ 9223372036854775807
        omega
      conv => whnf
      have hl2 := hl.2
      simp only at hl2
      refine hle _ _ (Le.cutEnv 8 rfl rfl ⟨rfl, fun _ _ => rfl, rfl, rfl, rfl, rfl, rfl, ?_, trivial⟩ ?_ ?_) (ih ⟨ts2, ns2, mo2, l ++ [x], n⟩ (by simp only; omega) ⟨?_, ?_, ?_, hf.lo (by omega), hk⟩)
      · exact kid_cl l x _ 8 rfl
      · exact ⟨AV.le_refl _, AV.le_refl _, trivial⟩
      · exact ⟨ABlk.le_refl _, ABlk.le_refl _, ABlk.le_refl _, ABlk.le_refl _, ABlk.le_refl _, ABlk.le_refl _, ABlk.le_of_eq (by simp), kidA_snoc l x _ rfl, trivial⟩
      · simp only; omega
      · simp only; omega
      · simp only [List.length_append, List.length_cons, List.length_nil]; omega
    · have h : isS [125] ts = true := nf h
      simp only [stmtsL, h, bindO] at hk
      conv => whnf
      refine ⟨_, _, _, _, _, _, _, rfl, rfl, hk.step (want_le _ _ _) (fun _ ts ns mo hl hk => ?_) (fun a er hb => by ((conv => whnf); exact hp _ _ rfl hb))⟩
      have hf := hf.st hl
      conv => whnf
      refine ⟨l, _, _, _, _, _, _, _, _, _, _, _, rfl, rfl, PutK.slr hf.sz rfl rfl rfl (fun _ _ => rfl) ?_⟩
      conv => whnf
      refine ⟨by conv => whnf, ?_⟩
      conv => whnf
      rw [out_op ho hd2]
      exact hr _ _ _ _ _ _ rfl rfl hk
end Go.Proofs.YtbcngegcpdppfaaGreatDoor
