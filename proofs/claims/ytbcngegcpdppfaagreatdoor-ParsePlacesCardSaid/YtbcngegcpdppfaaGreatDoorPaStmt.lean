/-
  Parser, part 7: the contracts of the functions that read statements. No statement of the seat is proved here.
-/
import Derived.Test.YtbcngegcpdppfaaGreatDoorPaAk
import Derived.Test.YtbcngegcpdppfaaGreatDoorAeKit2
namespace Go.Proofs.YtbcngegcpdppfaaGreatDoor
open Go.AE Go.Ru
set_option maxRecDepth 100000
set_option pp.maxSteps 2000

def cChan : AC := fun args K k => ∃ d : Nat, ∃ e ts ns mo op X, args = [pp] ∧ K = encP e ts ns op mo ++ X ∧ Fine d ts ns ∧ After e (chanS e ⟨ts, ns, mo⟩) intV op X k
theorem chan_ok : COk 157 cChan := by
  rintro args K k ⟨d, e, ts, ns, mo, op, X, rfl, rfl, hf, hk⟩
  refine frameP g7_ok 9 rfl fun Q hr hp => ?_
  have hk := hk.ak
  have hf := hf.fin
  unfold chanS at hk
  conv => whnf
  refine ⟨_, _, _, _, _, _, rfl, rfl, hk.step (ident_le _ _) (fun t ts ns mo hl hk => ?_) (fun a er hb => by ((conv => whnf); exact hp _ _ rfl hb))⟩
  have hf := hf.st hl
  conv => whnf
  refine ⟨[], _, _, _, _, _, _, _, _, _, _, _, rfl, rfl, PutK.nils hf.sz ?_⟩
  conv => whnf
  exact hr _ _ _ _ _ _ rfl rfl hk

def g8 : AG := gput 66 cEx (gput 156 (cIndex 41) (gput 157 cChan g7))
theorem g8_ok : GOk Tryz.prog g8 := gput_ok ex_ok (gput_ok idx_ok' (gput_ok chan_ok g7_ok))

/-- a list that is read, and what is left -/
structure LC where
  ts : List Tok
  ns : List Nd
  mo : Int
  l : List Int
  n : Nat

def kidA (l : List Int) : ABlk := .arr 3 1 0 l.length fun i => pvs (kidF l i)
theorem kidA_snoc (l : List Int) (x : Int) (f : Nat → List AV) (hf : f 0 = [intV x]) : (ABlk.arr 3 1 0 (l.length + 1) (catF l.length (fun i => pvs (kidF l i)) f)).le (kidA (l ++ [x])) := by
  refine ABlk.arr_eq (by simp) fun i hi => ?_
  by_cases h : i < l.length
  · rw [catF_lt h]
    simp [kidF, List.getD_eq_getElem?_getD, List.getElem?_append_left h]
  · obtain rfl : i = l.length := by omega
    rw [catF_ge (Nat.le_refl _), Nat.sub_self, hf]
    simp [kidF, List.getD_eq_getElem?_getD, pvs, intV]
theorem kid_cl (l : List Int) (x : Int) (f : Nat → List AV) (n : Nat) (hf : f 0 = [intV x]) : (ABlk.arr 3 1 0 (l.length + 1) (catF l.length (fun i => pvs (kidF l i)) f)).cl n := fun i hi => by
  by_cases h : i < l.length
  · rw [catF_lt h]; rfl
  · obtain rfl : i = l.length := by omega
    rw [catF_ge (Nat.le_refl _), Nat.sub_self, hf]; rfl

def cCall : AC := fun args K k => ∃ d : Nat, ∃ e ts ns mo op kd at_ tx X, args = [pp, .agg [.p (.int .i64 kd), .p (.int .i64 0), .p (.int .i64 at_), .p (.str tx), .p .nils]] ∧ K = encP e ts ns op mo ++ X ∧ op = 40 - (d : Int) ∧ Fine d ts ns ∧
  After e (callS e d at_ tx ⟨ts, ns, mo⟩) intV op X k
theorem call_ok2 : COk 158 cCall := by
  rintro args K k ⟨d, e, ts, ns, mo, op, kd, at_, tx, X, rfl, rfl, ho, hf, hk⟩
  refine frameP g8_ok 19 rfl fun Q hr hp => ?_
  have hk := hk.ak
  have hf := hf.fin
  unfold callS at hk
  conv => whnf
  refine ⟨_, _, _, _, _, _, rfl, rfl, hk.step (ident_le _ _) (fun t ts ns mo hl hk => ?_) (fun a er hb => by ((conv => whnf); exact hp _ _ rfl hb))⟩
  have hf := hf.st hl
  conv => whnf
  refine ⟨[], _, _, _, _, _, _, _, _, _, _, _, rfl, rfl, PutK.nils hf.sz ?_⟩
  conv => whnf
  replace hk : AK ((withinS e d [40] [41] (listS (oneS (inS e d)) [(ns.length : Int)]) ⟨ts, ns ++ [⟨19, 0, t.at_, t.tx, []⟩], mo⟩).bind fun l s => putS ⟨13, 0, at_, tx, l⟩ s) _ _ := hk
  have hf := hf.pt (n := ⟨19, 0, t.at_, t.tx, []⟩)
  generalize ns ++ [⟨19, 0, t.at_, t.tx, []⟩] = ns at hk hf
  cases hw : isS [40] ts with
  | false =>
    have hb := hk.within_no hw
    refine ⟨_, _, _, _, _, _, _, rfl, rfl, ?_⟩
    conv => whnf
    refine two_false hw ?_
    conv => whnf
    refine ⟨_, _, _, _, _, _, _, rfl, rfl, ⟨fun a ts' ns' mo' h => by simp [wantS, hw] at h, fun a er h => ?_⟩⟩
    simp only [wantS, hw, R.bad.injEq] at h
    obtain ⟨rfl, rfl⟩ := h
    ((conv => whnf); exact hp _ _ rfl hb)
  | true =>
    refine ⟨_, _, _, _, _, _, _, rfl, rfl, ?_⟩
    conv => whnf
    refine two_true hw ?_
    conv => whnf
    cases d with
    | zero =>
      have hb := hk.within_deep hw
      refine two_true (by simp [ho]) ?_
      conv => whnf
      refine ⟨_, _, _, _, _, _, _, rfl, rfl, ?_⟩
      ((conv => whnf); exact hp _ _ rfl hb)
    | succ d =>
    refine two_false (by simp [ho]; omega) ?_
    conv => whnf
    refine ⟨_, _, _, _, _, _, _, rfl, rfl, ⟨fun a ts' ns' mo' h => ?_, fun a er h => by simp [wantS, hw] at h⟩⟩
    simp only [wantS, hw, dropS, R.ok.injEq, PS.mk.injEq] at h
    obtain ⟨-, rfl, rfl, rfl⟩ := h
    have hd2 : d < 1000 := by have := hf.1; omega
    have hk := hk.within hw (by simp)
    rw [← in_mo ho hd2] at hk
    have hf := hf.opn hw
    conv => whnf
    refine ⟨_, _, _, _, _, _, _, rfl, rfl, ?_⟩
    conv => whnf
    refine two_intro (fun h2 => ?_) (fun h2 => ?_)
    · have h2 : isS [41] ts.tail = true := h2
      simp only [listS, h2, bindO] at hk
      conv => whnf
      refine ⟨_, _, _, _, _, _, _, rfl, rfl, hk.step (want_le _ _ _) (fun t ts ns mo hl hk => ?_) (fun a er hb => by ((conv => whnf); exact hp _ _ rfl hb))⟩
      have hf := hf.st hl
      conv => whnf
      refine ⟨[_], _, _, _, _, _, _, _, _, _, _, _, rfl, rfl, PutK.slr hf.sz rfl rfl rfl (allLt_ok ⟨trivial, rfl⟩) ?_⟩
      conv => whnf
      rw [out_op ho hd2]
      exact hr _ _ _ _ _ _ rfl rfl hk
    · have h2 : isS [41] ts.tail = false := h2
      simp only [listS, h2, oneS, bindA, bindO] at hk
      conv => whnf
      refine ⟨d, _, _, _, _, _, _, rfl, rfl, in_op ho hd2, hf.fine, hk.step (ex_le _ _ _) (fun x ts ns mo hl hk => ?_) (fun a er hb => by ((conv => whnf); exact hp _ _ rfl hb))⟩
      have hf := hf.st hl
      conv => whnf
      refine ⟨by conv => whnf, ?_⟩
      conv => whnf
      refine ⟨by conv => whnf, ?_⟩
      conv => whnf
      refine ⟨⟨rfl, rfl, rfl, allLt_ok ⟨trivial, rfl⟩⟩, ?_⟩
      conv => whnf
      refine ⟨⟨rfl, rfl, rfl, rfl, by decide, by decide⟩, ?_⟩
      conv => whnf
      refine loop_cut (ι := LC) 7 (fun i => ⟨[(0, pp), (1, .fn 176 [] [.ptr 6 0 1 0 0, .ptr 2 0 1 0 0])],
          encP e i.ts i.ns (IntKind.i64.wrap (op + 1)) i.mo ++ [.box 52 [pp], .box 41 [.p (.int .i64 kd), .p (.int .i64 0), .p (.int .i64 at_), .p (.str tx), .p .nils], .box 46 [.p (.int .i64 t.k.code), .p (.int .i64 t.n), .p (.int .i64 t.at_), .p (.str t.tx)], kidA i.l, .box 39 [.slr 5 0 0 i.l.length]]⟩)
        (fun i => i.ts.length ≤ i.n ∧ i.n ≤ 900000 ∧ i.l.length + i.ts.length ≤ 900000 ∧ Fin d 3 i.ts i.ns ∧ AK ((commaL (oneS (inS e (d + 1))) i.n i.l ⟨i.ts, i.ns, i.mo⟩).bind fun l s => (wantS e [41] s).bind fun _ s => putS ⟨13, 0, at_, tx, l⟩ s)
          (fun a s => k (.ret (intV a)) (encP e s.ts s.ns op s.mo ++ X)) (fun a er => k (.pan (wrongV a er)) (deads 2 ++ X)))
        (fun i => i.n) ⟨ts, ns, mo, [_, _], ts.length⟩ rfl rfl ⟨AV.le_refl _, AV.le_refl _, trivial⟩ ⟨rfl, fun _ _ => rfl, rfl, rfl, rfl, allLt_ok ⟨⟨trivial, rfl⟩, rfl⟩, rfl, trivial⟩ ⟨ABlk.le_refl _, ABlk.le_refl _, ABlk.le_refl _, ABlk.le_refl _, ABlk.le_refl _, ABlk.arr_eq rfl (allLt_ok ⟨⟨trivial, rfl⟩, rfl⟩), ABlk.le_refl _, trivial⟩
        ⟨Nat.le_refl _, ?_, ?_, hf.lo (by omega), hk⟩ ?_
      · have := hf.s; show ts.length ≤ 900000; omega
      · have := hf.s; show 2 + ts.length ≤ 900000; omega
      clear hk hf hl
      rintro Y hle ⟨ts, ns, mo, l, n⟩ ⟨hn, hn2, hln, hf, hk⟩ ih
      simp only at hn hn2 hln hf hk
      conv => whnf
      refine ⟨_, _, _, _, _, _, _, rfl, rfl, ⟨fun h => ?_, fun h => ?_⟩⟩
      · cases n with
        | zero => have := isS_pos h; simp only at this; omega
        | succ n =>
        have h : isS [44] ts = true := h
        simp only [commaL, h, oneS, bindA, bindO, dropS] at hk
        conv => whnf
        refine ⟨d, _, _, _, _, _, _, rfl, rfl, in_op ho hd2, (hf.sk h).fine, hk.step (ex_le _ _ _) (fun x ts2 ns2 mo2 hl hk => ?_) (fun a er hb => by ((conv => whnf); exact hp _ _ rfl hb))⟩
        have hf := (hf.sk h).st hl
        have hpos := isS_pos h
        conv => whnf
        refine ⟨by conv => whnf, ?_⟩
        conv => whnf
        refine ⟨by conv => whnf, ?_⟩
        conv => whnf
        refine ⟨⟨rfl, rfl, rfl, allLt_ok ⟨trivial, rfl⟩⟩, ?_⟩
        conv => whnf
        refine ⟨⟨rfl, rfl, rfl, rfl, ?_, ?_⟩, ?_⟩
        · show (l.length + 1) * 8 ≤ 140737488355328
          omega
        · show l.length + 1 ≤ 9223372036854775807
          omega
        conv => whnf
        have hl2 := hl.2
        simp only [List.length_tail] at hl2
        refine hle _ _ (Le.cutEnv 7 rfl rfl ⟨rfl, fun _ _ => rfl, rfl, rfl, rfl, ?_, rfl, trivial⟩ ?_ ?_) (ih ⟨ts2, ns2, mo2, l ++ [x], n⟩ (by simp only; omega) ⟨?_, ?_, ?_, hf.lo (by omega), hk⟩)
        · exact kid_cl l x _ 7 rfl
        · exact ⟨AV.le_refl _, AV.le_refl _, trivial⟩
        · exact ⟨ABlk.le_refl _, ABlk.le_refl _, ABlk.le_refl _, ABlk.le_refl _, ABlk.le_refl _, kidA_snoc l x _ rfl, ABlk.le_of_eq (by simp), trivial⟩
        · simp only; omega
        · simp only; omega
        · simp only [List.length_append, List.length_cons, List.length_nil]; omega
      · have h : isS [44] ts = false := h
        have hk : AK ((wantS e [41] ⟨ts, ns, mo⟩).bind fun _ s => putS ⟨13, 0, at_, tx, l⟩ s) (fun a s => k (.ret (intV a)) (encP e s.ts s.ns op s.mo ++ X)) (fun a er => k (.pan (wrongV a er)) (deads 2 ++ X)) := by
          cases n with
          | zero => exact hk
          | succ n => simp only [commaL, h, bindO] at hk; exact hk
        conv => whnf
        refine ⟨_, _, _, _, _, _, _, rfl, rfl, hk.step (want_le _ _ _) (fun _ ts ns mo hl hk => ?_) (fun a er hb => by ((conv => whnf); exact hp _ _ rfl hb))⟩
        have hf := hf.st hl
        conv => whnf
        refine ⟨l, _, _, _, _, _, _, _, _, _, _, _, rfl, rfl, PutK.slr hf.sz rfl rfl rfl (fun _ _ => rfl) ?_⟩
        conv => whnf
        rw [out_op ho hd2]
        exact hr _ _ _ _ _ _ rfl rfl hk
end Go.Proofs.YtbcngegcpdppfaaGreatDoor
