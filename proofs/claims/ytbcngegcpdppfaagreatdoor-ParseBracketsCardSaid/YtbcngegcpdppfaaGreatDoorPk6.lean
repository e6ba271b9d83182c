/-
  Parser, part 7: the contracts of the functions that read statements. No statement of the seat is proved here.
  Parser, part 8: the contracts of the functions that read statements that end with a sign. No statement of the seat is proved here.
  Parser, part 9: the contracts of the functions that read statements and blocks, by depth. No statement of the seat is proved here.
  Parser, part 10: all statements by depth; declarations. No statement of the seat is proved here.
  Parser, part 11: declarations, procedures. No statement of the seat is proved here.
  Parser, part 12: bodies of procedures. No statement of the seat is proved here.
  Parser, part 13: procedures, programs. No statement of the seat is proved here.
  Parser, part 14: programs. No statement of the seat is proved here.
  AE, part 7d: a function that puts one call off, of a function literal that asks recover first. Own metatheory over any program; no statement of the seat is proved here.
  Parser, part 15: read. No statement of the seat is proved here.
  The statements' head: shown of runnellaw5. No statement of the seat is proved here.
  The statement ParsePlaces: what the program computes. No statement of the seat is proved here.
  The contract of token.Join. No statement of the seat is proved here.
  The statement ParseRight: what the program computes. No statement of the seat is proved here.
  Parser, in plain Lean: where it goes wrong: at the beginning of what was left of the tokens; by which codes. No program in sight; no statement of the seat is proved here.
  The statement ParsePlaces: the plain law, and the two joined.
  The statement ParseRight: the plain law, and the two joined.
  The statement ParseBlanks: what the program computes, the plain law, and the two joined.
-/
import Derived.RecoverIn
import Derived.KernelRfl
import Derived.Test.YtbcngegcpdppfaaGreatDoorPk1
import Derived.Test.YtbcngegcpdppfaaGreatDoorPk2
import Derived.Test.YtbcngegcpdppfaaGreatDoorPk3
import Derived.Test.YtbcngegcpdppfaaGreatDoorPk4
import Derived.Test.YtbcngegcpdppfaaGreatDoorPk5
namespace Go.Proofs.YtbcngegcpdppfaaGreatDoor
open Go.AE Go.Ru
set_option maxRecDepth 100000
set_option pp.maxSteps 2000

def cChan : AC := fun args K k => ∃ d : Nat, ∃ e ts ns mo op X, args = [pp] ∧ K = encP e ts ns op mo ++ X ∧ Fine d ts ns ∧ After e (chanS e ⟨ts, ns, mo⟩) intV op X k
theorem chan_ok : COk 157 cChan := by
  rintro args K k ⟨d, e, ts, ns, mo, op, X, rfl, rfl, hf, hk⟩
  refine frameP g7_ok 9 rfl fun Q hr hp => ?_
  have hk := hk.ak
  have hf := hf.fin
  unfold chanS at hk
  conv => whnf
  refine ⟨_, _, _, _, _, _, rfl, rfl, hk.step (ident_le _ _) (fun t ts ns mo hl hk => ?_) (fun a er hb => by ((conv => whnf); exact hp _ _ rfl hb))⟩
  have hf := hf.st hl
  conv => whnf
  refine ⟨[], _, _, _, _, _, _, _, _, _, _, _, rfl, rfl, PutK.nils hf.sz ?_⟩
  conv => whnf
  exact hr _ _ _ _ _ _ rfl rfl hk

def g8 : AG := gput 66 cEx (gput 156 (cIndex 41) (gput 157 cChan g7))
theorem g8_ok : GOk Tryz.prog g8 := gput_ok ex_ok (gput_ok idx_ok' (gput_ok chan_ok g7_ok))

/-- a list that is read, and what is left -/
structure LC where
  ts : List Tok
  ns : List Nd
  mo : Int
  l : List Int
  n : Nat

def kidA (l : List Int) : ABlk := .arr 3 1 0 l.length fun i => pvs (kidF l i)
theorem kidA_snoc (l : List Int) (x : Int) (f : Nat → List AV) (hf : f 0 = [intV x]) : (ABlk.arr 3 1 0 (l.length + 1) (catF l.length (fun i => pvs (kidF l i)) f)).le (kidA (l ++ [x])) := by
  refine ABlk.arr_eq (by simp) fun i hi => ?_
  by_cases h : i < l.length
  · rw [catF_lt h]
    simp [kidF, List.getD_eq_getElem?_getD, List.getElem?_append_left h]
  · obtain rfl : i = l.length := by omega
    rw [catF_ge (Nat.le_refl _), Nat.sub_self, hf]
    simp [kidF, List.getD_eq_getElem?_getD, pvs, intV]
theorem kid_cl (l : List Int) (x : Int) (f : Nat → List AV) (n : Nat) (hf : f 0 = [intV x]) : (ABlk.arr 3 1 0 (l.length + 1) (catF l.length (fun i => pvs (kidF l i)) f)).cl n := fun i hi => by
  by_cases h : i < l.length
  · rw [catF_lt h]; rfl
  · obtain rfl : i = l.length := by omega
    rw [catF_ge (Nat.le_refl _), Nat.sub_self, hf]; rfl

def cCall : AC := fun args K k => ∃ d : Nat, ∃ e ts ns mo op kd at_ tx X, args = [pp, .agg [.p (.int .i64 kd), .p (.int .i64 0), .p (.int .i64 at_), .p (.str tx), .p .nils]] ∧ K = encP e ts ns op mo ++ X ∧ op = 40 - (d : Int) ∧ Fine d ts ns ∧
  After e (callS e d at_ tx ⟨ts, ns, mo⟩) intV op X k
theorem call_ok2 : COk 158 cCall := by
  rintro args K k ⟨d, e, ts, ns, mo, op, kd, at_, tx, X, rfl, rfl, ho, hf, hk⟩
  refine frameP g8_ok 19 rfl fun Q hr hp => ?_
  have hk := hk.ak
  have hf := hf.fin
  unfold callS at hk
  conv => whnf
  refine ⟨_, _, _, _, _, _, rfl, rfl, hk.step (ident_le _ _) (fun t ts ns mo hl hk => ?_) (fun a er hb => by ((conv => whnf); exact hp _ _ rfl hb))⟩
  have hf := hf.st hl
  conv => whnf
  refine ⟨[], _, _, _, _, _, _, _, _, _, _, _, rfl, rfl, PutK.nils hf.sz ?_⟩
  conv => whnf
  replace hk : AK ((withinS e d [40] [41] (listS (oneS (inS e d)) [(ns.length : Int)]) ⟨ts, ns ++ [⟨19, 0, t.at_, t.tx, []⟩], mo⟩).bind fun l s => putS ⟨13, 0, at_, tx, l⟩ s) _ _ := hk
  have hf := hf.pt (n := ⟨19, 0, t.at_, t.tx, []⟩)
  generalize ns ++ [⟨19, 0, t.at_, t.tx, []⟩] = ns at hk hf
  cases hw : isS [40] ts with
  | false =>
    have hb := hk.within_no hw
    refine ⟨_, _, _, _, _, _, _, rfl, rfl, ?_⟩
    conv => whnf
    refine two_false hw ?_
    conv => whnf
    refine ⟨_, _, _, _, _, _, _, rfl, rfl, ⟨fun a ts' ns' mo' h => by simp [wantS, hw] at h, fun a er h => ?_⟩⟩
    simp only [wantS, hw, R.bad.injEq] at h
    obtain ⟨rfl, rfl⟩ := h
    ((conv => whnf); exact hp _ _ rfl hb)
  | true =>
    refine ⟨_, _, _, _, _, _, _, rfl, rfl, ?_⟩
    conv => whnf
    refine two_true hw ?_
    conv => whnf
    cases d with
    | zero =>
      have hb := hk.within_deep hw
      refine two_true (by simp [ho]) ?_
      conv => whnf
      refine ⟨_, _, _, _, _, _, _, rfl, rfl, ?_⟩
      ((conv => whnf); exact hp _ _ rfl hb)
    | succ d =>
    refine two_false (by simp [ho]; omega) ?_
    conv => whnf
    refine ⟨_, _, _, _, _, _, _, rfl, rfl, ⟨fun a ts' ns' mo' h => ?_, fun a er h => by simp [wantS, hw] at h⟩⟩
    simp only [wantS, hw, dropS, R.ok.injEq, PS.mk.injEq] at h
    obtain ⟨-, rfl, rfl, rfl⟩ := h
    have hd2 : d < 1000 := by have := hf.1; omega
    have hk := hk.within hw (by simp)
    rw [← in_mo ho hd2] at hk
    have hf := hf.opn hw
    conv => whnf
    refine ⟨_, _, _, _, _, _, _, rfl, rfl, ?_⟩
    conv => whnf
    refine two_intro (fun h2 => ?_) (fun h2 => ?_)
    · have h2 : isS [41] ts.tail = true := h2
      simp only [listS, h2, bindO] at hk
      conv => whnf
      refine ⟨_, _, _, _, _, _, _, rfl, rfl, hk.step (want_le _ _ _) (fun t ts ns mo hl hk => ?_) (fun a er hb => by ((conv => whnf); exact hp _ _ rfl hb))⟩
      have hf := hf.st hl
      conv => whnf
      refine ⟨[_], _, _, _, _, _, _, _, _, _, _, _, rfl, rfl, PutK.slr hf.sz rfl rfl rfl (allLt_ok ⟨trivial, rfl⟩) ?_⟩
      conv => whnf
      rw [out_op ho hd2]
      exact hr _ _ _ _ _ _ rfl rfl hk
    · have h2 : isS [41] ts.tail = false := h2
      simp only [listS, h2, oneS, bindA, bindO] at hk
      conv => whnf
      refine ⟨d, _, _, _, _, _, _, rfl, rfl, in_op ho hd2, hf.fine, hk.step (ex_le _ _ _) (fun x ts ns mo hl hk => ?_) (fun a er hb => by ((conv => whnf); exact hp _ _ rfl hb))⟩
      have hf := hf.st hl
      conv => whnf
      refine ⟨by conv => whnf, ?_⟩
      conv => whnf
      refine ⟨by conv => whnf, ?_⟩
      conv => whnf
      refine ⟨⟨rfl, rfl, rfl, allLt_ok ⟨trivial, rfl⟩⟩, ?_⟩
      conv => whnf
      refine ⟨⟨rfl, rfl, rfl, rfl, by decide, by decide⟩, ?_⟩
      conv => whnf
      refine loop_cut (ι := LC) 7 (fun i => ⟨[(0, pp), (1, .fn 176 [] [.ptr 6 0 1 0 0, .ptr 2 0 1 0 0])],
          encP e i.ts i.ns (IntKind.i64.wrap (op + 1)) i.mo ++ [.box 52 [pp], .box 41 [.p (.int .i64 kd), .p (.int .i64 0), .p (.int .i64 at_), .p (.str tx), .p .nils], .box 46 [.p (.int .i64 t.k.code), .p (.int .i64 t.n), .p (.int .i64 t.at_), .p (.str t.tx)], kidA i.l, .box 39 [.slr 5 0 0 i.l.length]]⟩)
        (fun i => i.ts.length ≤ i.n ∧ i.n ≤ 900000 ∧ i.l.length + i.ts.length ≤ 900000 ∧ Fin d 3 i.ts i.ns ∧ AK ((commaL (oneS (inS e (d + 1))) i.n i.l ⟨i.ts, i.ns, i.mo⟩).bind fun l s => (wantS e [41] s).bind fun _ s => putS ⟨13, 0, at_, tx, l⟩ s)
          (fun a s => k (.ret (intV a)) (encP e s.ts s.ns op s.mo ++ X)) (fun a er => k (.pan (wrongV a er)) (deads 2 ++ X)))
        (fun i => i.n) ⟨ts, ns, mo, [_, _], ts.length⟩ rfl rfl ⟨AV.le_refl _, AV.le_refl _, trivial⟩ ⟨rfl, fun _ _ => rfl, rfl, rfl, rfl, allLt_ok ⟨⟨trivial, rfl⟩, rfl⟩, rfl, trivial⟩ ⟨ABlk.le_refl _, ABlk.le_refl _, ABlk.le_refl _, ABlk.le_refl _, ABlk.le_refl _, ABlk.arr_eq rfl (allLt_ok ⟨⟨trivial, rfl⟩, rfl⟩), ABlk.le_refl _, trivial⟩
        ⟨Nat.le_refl _, ?_, ?_, hf.lo (by omega), hk⟩ ?_
      · have := hf.s; show ts.length ≤ 900000; omega
      · have := hf.s; show 2 + ts.length ≤ 900000; omega
      clear hk hf hl
      rintro Y hle ⟨ts, ns, mo, l, n⟩ ⟨hn, hn2, hln, hf, hk⟩ ih
      simp only at hn hn2 hln hf hk
      conv => whnf
      refine ⟨_, _, _, _, _, _, _, rfl, rfl, ⟨fun h => ?_, fun h => ?_⟩⟩
      · cases n with
        | zero => have := isS_pos h; simp only at this; omega
        | succ n =>
        have h : isS [44] ts = true := h
        simp only [commaL, h, oneS, bindA, bindO, dropS] at hk
        conv => whnf
        refine ⟨d, _, _, _, _, _, _, rfl, rfl, in_op ho hd2, (hf.sk h).fine, hk.step (ex_le _ _ _) (fun x ts2 ns2 mo2 hl hk => ?_) (fun a er hb => by ((conv => whnf); exact hp _ _ rfl hb))⟩
        have hf := (hf.sk h).st hl
        have hpos := isS_pos h
        conv => whnf
        refine ⟨by conv => whnf, ?_⟩
        conv => whnf
        refine ⟨by conv => whnf, ?_⟩
        conv => whnf
        refine ⟨⟨rfl, rfl, rfl, allLt_ok ⟨trivial, rfl⟩⟩, ?_⟩
        conv => whnf
        refine ⟨⟨rfl, rfl, rfl, rfl, ?_, ?_⟩, ?_⟩
        · show (l.length + 1) * 8 ≤ 140737488355328
          omega
        · show l.length + 1 ≤ 9223372036854775807
          omega
        conv => whnf
        have hl2 := hl.2
        simp only [List.length_tail] at hl2
        refine hle _ _ (Le.cutEnv 7 rfl rfl ⟨rfl, fun _ _ => rfl, rfl, rfl, rfl, ?_, rfl, trivial⟩ ?_ ?_) (ih ⟨ts2, ns2, mo2, l ++ [x], n⟩ (by simp only; omega) ⟨?_, ?_, ?_, hf.lo (by omega), hk⟩)
        · exact kid_cl l x _ 7 rfl
        · exact ⟨AV.le_refl _, AV.le_refl _, trivial⟩
        · exact ⟨ABlk.le_refl _, ABlk.le_refl _, ABlk.le_refl _, ABlk.le_refl _, ABlk.le_refl _, kidA_snoc l x _ rfl, ABlk.le_of_eq (by simp), trivial⟩
        · simp only; omega
        · simp only; omega
        · simp only [List.length_append, List.length_cons, List.length_nil]; omega
      · have h : isS [44] ts = false := h
        have hk : AK ((wantS e [41] ⟨ts, ns, mo⟩).bind fun _ s => putS ⟨13, 0, at_, tx, l⟩ s) (fun a s => k (.ret (intV a)) (encP e s.ts s.ns op s.mo ++ X)) (fun a er => k (.pan (wrongV a er)) (deads 2 ++ X)) := by
          cases n with
          | zero => exact hk
          | succ n => simp only [commaL, h, bindO] at hk; exact hk
        conv => whnf
        refine ⟨_, _, _, _, _, _, _, rfl, rfl, hk.step (want_le _ _ _) (fun _ ts ns mo hl hk => ?_) (fun a er hb => by ((conv => whnf); exact hp _ _ rfl hb))⟩
        have hf := hf.st hl
        conv => whnf
        refine ⟨l, _, _, _, _, _, _, _, _, _, _, _, rfl, rfl, PutK.slr hf.sz rfl rfl rfl (fun _ _ => rfl) ?_⟩
        conv => whnf
        rw [out_op ho hd2]
        exact hr _ _ _ _ _ _ rfl rfl hk
end Go.Proofs.YtbcngegcpdppfaaGreatDoor

namespace Go.Proofs.YtbcngegcpdppfaaGreatDoor
open Go.AE Go.Ru
set_option maxRecDepth 100000
set_option pp.maxSteps 2000

def g9 : AG := gput 158 cCall g8
theorem g9_ok : GOk Tryz.prog g9 := gput_ok call_ok2 g8_ok

def cNamed : AC := fun args K k => ∃ d : Nat, ∃ e ts ns mo op X, args = [pp] ∧ K = encP e ts ns op mo ++ X ∧ op = 40 - (d : Int) ∧ Fine d ts ns ∧
  After e (namedS e d ⟨ts, ns, mo⟩) intV op X k
theorem named_ok : COk 159 cNamed := by
  rintro args K k ⟨d, e, ts, ns, mo, op, X, rfl, rfl, ho, hf, hk⟩
  refine frameP g9_ok 19 rfl fun Q hr hp => ?_
  have hk := hk.ak
  have hf := hf.fin
  have hd := hf.d
  unfold namedS at hk
  conv => whnf
  refine ⟨_, _, _, _, _, _, rfl, rfl, hk.step (ident_le _ _) (fun t ts ns mo hl hk => ?_) (fun a er hb => by ((conv => whnf); exact hp _ _ rfl hb))⟩
  have hf := hf.st hl
  conv => whnf
  refine ⟨_, _, _, _, _, _, _, rfl, rfl, ?_⟩
  conv => whnf
  refine two_intro (fun h => ?_) (fun h => ?_)
  · have h : isS [91] ts = true := h
    simp only [h] at hk
    conv => whnf
    refine ⟨d, _, _, _, _, _, _, rfl, rfl, ho, by omega, hf.fine, hk.step (index_le _ _ _) (fun x ts ns mo hl hk => ?_) (fun a er hb => by ((conv => whnf); exact hp _ _ rfl hb))⟩
    have hf := hf.st hl
    conv => whnf
    refine ⟨_, _, _, _, _, _, _, rfl, rfl, hk.step (want_le _ _ _) (fun _ ts ns mo hl hk => ?_) (fun a er hb => by ((conv => whnf); exact hp _ _ rfl hb))⟩
    have hf := hf.st hl
    conv => whnf
    refine ⟨d, _, _, _, _, _, _, rfl, rfl, ho, hf.fine, hk.step (ex_le _ _ _) (fun y ts ns mo hl hk => ?_) (fun a er hb => by ((conv => whnf); exact hp _ _ rfl hb))⟩
    have hf := hf.st hl
    conv => whnf
    refine ⟨[x, y], _, _, _, _, _, _, _, _, _, _, _, rfl, rfl, PutK.slr hf.sz rfl rfl rfl (allLt_ok ⟨⟨trivial, rfl⟩, rfl⟩) ?_⟩
    conv => whnf
    exact hr _ _ _ _ _ _ rfl rfl hk
  · have h : isS [91] ts = false := h
    simp only [h] at hk
    conv => whnf
    refine ⟨_, _, _, _, _, _, _, rfl, rfl, hk.step (want_le _ _ _) (fun _ ts ns mo hl hk => ?_) (fun a er hb => by ((conv => whnf); exact hp _ _ rfl hb))⟩
    have hf := hf.st hl
    conv => whnf
    refine ⟨_, _, _, _, _, _, _, rfl, rfl, ⟨fun h => ?_, fun h => ?_⟩⟩
    · have h : isS [105, 110] ts = true := h
      simp only [h, dropS] at hk
      conv => whnf
      refine ⟨d, _, _, _, _, _, _, rfl, rfl, (hf.sk h).fine, hk.step (chan_le _ _) (fun x ts2 ns2 mo2 hl hk => ?_) (fun a er hb => by ((conv => whnf); exact hp _ _ rfl hb))⟩
      have hf := (hf.sk h).st hl
      conv => whnf
      refine ⟨[x], _, _, _, _, _, _, _, _, _, _, _, rfl, rfl, PutK.slr hf.sz rfl rfl rfl (allLt_ok ⟨trivial, rfl⟩) ?_⟩
      conv => whnf
      exact hr _ _ _ _ _ _ rfl rfl hk
    have h : isS [105, 110] ts = false := h
    simp only [h] at hk
    conv => whnf
    refine ⟨_, _, _, _, _, _, _, rfl, rfl, ⟨fun h => ?_, fun h => ?_⟩⟩
    · have h : isS [99, 97, 108, 108] ts = true := h
      simp only [h, dropS] at hk
      conv => whnf
      refine ⟨d, _, _, _, _, _, _, _, _, _, rfl, rfl, ho, (hf.sk h).fine, hk.last (fun x ts2 ns2 mo2 hk => ?_) (fun a er hb => by ((conv => whnf); exact hp _ _ rfl hb))⟩
      conv => whnf
      exact hr _ _ _ _ _ _ rfl rfl hk
    have h : isS [99, 97, 108, 108] ts = false := h
    simp only [h] at hk
    conv => whnf
    refine ⟨_, _, _, _, _, _, _, rfl, rfl, ⟨fun h => ?_, fun h => ?_⟩⟩
    · have h : isS [110, 101, 119] ts = true := h
      simp only [h, dropS] at hk
      conv => whnf
      refine ⟨d, _, _, _, _, _, _, rfl, rfl, ho, (hf.sk h).fine, hk.step (ex_le _ _ _) (fun x ts2 ns2 mo2 hl hk => ?_) (fun a er hb => by ((conv => whnf); exact hp _ _ rfl hb))⟩
      have hf := (hf.sk h).st hl
      conv => whnf
      refine ⟨[x], _, _, _, _, _, _, _, _, _, _, _, rfl, rfl, PutK.slr hf.sz rfl rfl rfl (allLt_ok ⟨trivial, rfl⟩) ?_⟩
      conv => whnf
      exact hr _ _ _ _ _ _ rfl rfl hk
    have h : isS [110, 101, 119] ts = false := h
    simp only [h] at hk
    conv => whnf
    refine ⟨d, _, _, _, _, _, _, rfl, rfl, ho, hf.fine, hk.step (ex_le _ _ _) (fun x ts2 ns2 mo2 hl hk => ?_) (fun a er hb => by ((conv => whnf); exact hp _ _ rfl hb))⟩
    have hf := hf.st hl
    conv => whnf
    refine ⟨[x], _, _, _, _, _, _, _, _, _, _, _, rfl, rfl, PutK.slr hf.sz rfl rfl rfl (allLt_ok ⟨trivial, rfl⟩) ?_⟩
    conv => whnf
    exact hr _ _ _ _ _ _ rfl rfl hk

def g10 : AG := gput 159 cNamed g9
theorem g10_ok : GOk Tryz.prog g10 := gput_ok named_ok g9_ok

def cPlain : AC := fun args K k => ∃ d : Nat, ∃ e ts ns mo op X, args = [pp] ∧ K = encP e ts ns op mo ++ X ∧ op = 40 - (d : Int) ∧ Fine d ts ns ∧
  After e (plainS e d ⟨ts, ns, mo⟩) intV op X k
def hdK : List Tok → Int
  | [] => 5
  | t :: _ => t.k.code
def hdN : List Tok → Int
  | [] => 0
  | t :: _ => t.n
def hdT : List Tok → Bs
  | [] => []
  | t :: _ => t.tx
theorem enc_hd (e : Int) (ts : List Tok) : encs e ts (Int.toNat 0) = [.int .i64 (hdK ts), .int .i64 (hdN ts), .int .i64 (hd e ts), .str (hdT ts)] := by cases ts <;> rfl
theorem plain_ok : COk 138 cPlain := by
  rintro args K k ⟨d, e, ts, ns, mo, op, X, rfl, rfl, ho, hf, hk⟩
  refine frameP g10_ok 19 rfl fun Q hr hp => ?_
  have hk := hk.ak
  have hf := hf.fin
  have hd := hf.d
  unfold plainS at hk
  simp only at hk
  conv => whnf
  refine ⟨by simp <;> omega, ?_⟩
  conv => whnf
  rw [enc_hd]
  conv => whnf
  refine ⟨_, _, _, _, _, _, _, rfl, rfl, ⟨fun h => ?_, fun h => ?_⟩⟩
  · have h : isS [111, 117, 116] ts = true := h
    simp only [h, dropS] at hk
    conv => whnf
    refine ⟨d, _, _, _, _, _, _, rfl, rfl, (hf.sk h).fine, hk.step (chan_le _ _) (fun c ts2 ns2 mo2 hl hk => ?_) (fun a er hb => by ((conv => whnf); exact hp _ _ rfl hb))⟩
    have hf := (hf.sk h).st hl
    conv => whnf
    refine ⟨d, _, _, _, _, _, _, rfl, rfl, ho, hf.fine, hk.step (ex_le _ _ _) (fun x ts3 ns3 mo3 hl hk => ?_) (fun a er hb => by ((conv => whnf); exact hp _ _ rfl hb))⟩
    have hf := hf.st hl
    conv => whnf
    refine ⟨[c, x], _, _, _, _, _, _, _, _, _, _, _, rfl, rfl, PutK.slr hf.sz rfl rfl rfl (allLt_ok ⟨⟨trivial, rfl⟩, rfl⟩) ?_⟩
    conv => whnf
    exact hr _ _ _ _ _ _ rfl rfl hk
  have h : isS [111, 117, 116] ts = false := h
  simp only [h] at hk
  conv => whnf
  refine ⟨_, _, _, _, _, _, _, rfl, rfl, ⟨fun h => ?_, fun h => ?_⟩⟩
  · have h : isS [99, 97, 108, 108] ts = true := h
    simp only [h, dropS] at hk
    conv => whnf
    refine ⟨d, _, _, _, _, _, _, _, _, _, rfl, rfl, ho, (hf.sk h).fine, hk.last (fun x ts2 ns2 mo2 hk => ?_) (fun a er hb => by ((conv => whnf); exact hp _ _ rfl hb))⟩
    conv => whnf
    exact hr _ _ _ _ _ _ rfl rfl hk
  have h : isS [99, 97, 108, 108] ts = false := h
  simp only [h] at hk
  conv => whnf
  refine ⟨_, _, _, _, _, _, _, rfl, rfl, ⟨fun h => ?_, fun h => ?_⟩⟩
  · have h : isS [116, 104, 114, 111, 119] ts = true := h
    simp only [h, dropS] at hk
    conv => whnf
    refine ⟨d, _, _, _, _, _, _, rfl, rfl, ho, (hf.sk h).fine, hk.step (ex_le _ _ _) (fun x ts2 ns2 mo2 hl hk => ?_) (fun a er hb => by ((conv => whnf); exact hp _ _ rfl hb))⟩
    have hf := (hf.sk h).st hl
    conv => whnf
    refine ⟨[x], _, _, _, _, _, _, _, _, _, _, _, rfl, rfl, PutK.slr hf.sz rfl rfl rfl (allLt_ok ⟨trivial, rfl⟩) ?_⟩
    conv => whnf
    exact hr _ _ _ _ _ _ rfl rfl hk
  have h : isS [116, 104, 114, 111, 119] ts = false := h
  simp only [h] at hk
  conv => whnf
  refine ⟨_, _, _, _, _, _, _, rfl, rfl, ⟨fun h => ?_, fun h => ?_⟩⟩
  · have h : isS [114, 101, 116, 117, 114, 110] ts = true := h
    simp only [h, dropS] at hk
    have hf := hf.sk h
    conv => whnf
    refine ⟨_, _, _, _, _, _, _, rfl, rfl, ?_⟩
    conv => whnf
    refine two_intro (fun h => ?_) (fun h => ?_)
    · have h : isS [59] ts.tail = true := h
      simp only [h] at hk
      conv => whnf
      refine ⟨[], _, _, _, _, _, _, _, _, _, _, _, rfl, rfl, PutK.nils hf.sz ?_⟩
      conv => whnf
      exact hr _ _ _ _ _ _ rfl rfl hk
    · have h : isS [59] ts.tail = false := h
      simp only [h] at hk
      conv => whnf
      refine ⟨d, _, _, _, _, _, _, rfl, rfl, ho, hf.fine, hk.step (ex_le _ _ _) (fun x ts2 ns2 mo2 hl hk => ?_) (fun a er hb => by ((conv => whnf); exact hp _ _ rfl hb))⟩
      have hf := hf.st hl
      conv => whnf
      refine ⟨[x], _, _, _, _, _, _, _, _, _, _, _, rfl, rfl, PutK.slr hf.sz rfl rfl rfl (allLt_ok ⟨trivial, rfl⟩) ?_⟩
      conv => whnf
      exact hr _ _ _ _ _ _ rfl rfl hk
  have h : isS [114, 101, 116, 117, 114, 110] ts = false := h
  simp only [h] at hk
  conv => whnf
  refine ⟨d, _, _, _, _, _, _, rfl, rfl, ho, hf.fine, hk.last (fun x ts2 ns2 mo2 hk => ?_) (fun a er hb => by ((conv => whnf); exact hp _ _ rfl hb))⟩
  conv => whnf
  exact hr _ _ _ _ _ _ rfl rfl hk
end Go.Proofs.YtbcngegcpdppfaaGreatDoor

namespace Go.Proofs.YtbcngegcpdppfaaGreatDoor
open Go.AE Go.Ru
set_option maxRecDepth 100000
set_option pp.maxSteps 2000

def g11 : AG := gput 138 cPlain g10
theorem g11_ok : GOk Tryz.prog g11 := gput_ok plain_ok g10_ok

def cStmt (D : Nat) : AC := fun args K k => ∃ d : Nat, ∃ e ts ns mo op X, args = [pp] ∧ K = encP e ts ns op mo ++ X ∧ op = 40 - (d : Int) ∧ d < D ∧ Fine d ts ns ∧ After e (stmtS e d ⟨ts, ns, mo⟩) intV op X k
def cBlock (D : Nat) : AC := fun args K k => ∃ d : Nat, ∃ e ts ns mo op X, args = [pp] ∧ K = encP e ts ns op mo ++ X ∧ op = 40 - (d : Int) ∧ d ≤ D ∧ Fine d ts ns ∧ After e (blockB e d (inStmtS e d) ⟨ts, ns, mo⟩) intV op X k

theorem block_ok {D : Nat} (hS : COk 119 (cStmt D)) : COk 137 (cBlock D) := by
  rintro args K k ⟨d, e, ts, ns, mo, op, X, rfl, rfl, ho, hd, hf, hk⟩
  refine frameP (G := gput 119 (cStmt D) g11) (gput_ok hS g11_ok) 19 rfl fun Q hr hp => ?_
  have hk := hk.ak
  have hf := hf.fin
  unfold blockB at hk
  simp only at hk
  conv => whnf
  refine ⟨by simp <;> omega, ?_⟩
  conv => whnf
  rw [enc_hd]
  conv => whnf
  cases hw : isS [123] ts with
  | false =>
    have hb := hk.within_no hw
    refine ⟨_, _, _, _, _, _, _, rfl, rfl, ?_⟩
    conv => whnf
    refine two_false hw ?_
    conv => whnf
    refine ⟨_, _, _, _, _, _, _, rfl, rfl, ⟨fun a ts' ns' mo' h => by simp [wantS, hw] at h, fun a er h => ?_⟩⟩
    simp only [wantS, hw, R.bad.injEq] at h
    obtain ⟨rfl, rfl⟩ := h
    ((conv => whnf); exact hp _ _ rfl hb)
  | true =>
    refine ⟨_, _, _, _, _, _, _, rfl, rfl, ?_⟩
    conv => whnf
    refine two_true hw ?_
    conv => whnf
    cases d with
    | zero =>
      have hb := hk.within_deep hw
      refine two_true (by simp [ho]) ?_
      conv => whnf
      refine ⟨_, _, _, _, _, _, _, rfl, rfl, ?_⟩
      ((conv => whnf); exact hp _ _ rfl hb)
    | succ d =>
    refine two_false (by simp [ho]; omega) ?_
    conv => whnf
    refine ⟨_, _, _, _, _, _, _, rfl, rfl, ⟨fun a ts' ns' mo' h => ?_, fun a er h => by simp [wantS, hw] at h⟩⟩
    simp only [wantS, hw, dropS, R.ok.injEq, PS.mk.injEq] at h
    obtain ⟨-, rfl, rfl, rfl⟩ := h
    have hd2 : d < 1000 := by have := hf.1; omega
    have hk := hk.within hw (by simp)
    rw [← in_mo ho hd2] at hk
    have hf := hf.opn hw
    conv => whnf
    refine loop_nil (ι := LC) 3 1 (fun i => pvs (kidF [] i)) (fun i => ⟨[(1, .ptr 2 0 1 0 0), (3, .ptr 6 0 1 0 0)],
        encP e i.ts i.ns (IntKind.i64.wrap (op + 1)) i.mo ++ [.box 52 [pp], .box 4 [.p (.bool false)], .box 41 [.p (.int .i64 6), .p (.int .i64 0), .p (.int .i64 (Ru.hd e ts)), .p (.str []), .p .nils], .box 39 [.p .nils], .box 39 [.slr 7 0 0 i.l.length], kidA i.l]⟩)
      (fun i => i.ts.length < i.n ∧ i.n ≤ 900001 ∧ i.l.length + i.ts.length ≤ 900000 ∧ Fin d 3 i.ts i.ns ∧ AK ((stmtsL (stmtS e d) i.n i.l ⟨i.ts, i.ns, i.mo⟩).bind fun l s => (wantS e [125] s).bind fun _ s => putS ⟨6, 0, Ru.hd e ts, [], l⟩ s)
        (fun a s => k (.ret (intV a)) (encP e s.ts s.ns op s.mo ++ X)) (fun a er => k (.pan (wrongV a er)) (deads 2 ++ X)))
      (fun i => i.n) ⟨ts.tail, ns, (if IntKind.i64.wrap (op + 1) > mo then IntKind.i64.wrap (op + 1) else mo), [], ts.tail.length + 1⟩
      (encP e ts.tail ns (IntKind.i64.wrap (op + 1)) (if IntKind.i64.wrap (op + 1) > mo then IntKind.i64.wrap (op + 1) else mo) ++ [.box 52 [pp], .box 4 [.p (.bool false)], .box 41 [.p (.int .i64 6), .p (.int .i64 0), .p (.int .i64 (Ru.hd e ts)), .p (.str []), .p .nils], .box 39 [.p .nils], .box 39 [.slr 7 0 0 0]])
      rfl ⟨.inl (AV.le_refl _), .inl (AV.le_refl _), trivial⟩
      ?_ rfl
      ⟨Nat.lt_succ_self _, ?_, ?_, hf.lo (by omega), hk⟩ ?_
    · exact ⟨.inl (ABlk.le_refl _), .inl (ABlk.le_refl _), .inl (ABlk.le_refl _), .inl (ABlk.le_refl _), .inl (ABlk.le_refl _), .inl (ABlk.le_refl _), .inr ⟨_, _, _, rfl, rfl, .inr ⟨rfl, rfl⟩, trivial⟩, trivial⟩
    · have := hf.s; show ts.tail.length + 1 ≤ 900001; omega
    · have := hf.s; show 0 + ts.tail.length ≤ 900000; omega
    clear hk hf
    rintro Y hle ⟨ts, ns, mo, l, n⟩ ⟨hn, hn2, hln, hf, hk⟩ ih
    simp only at hn hn2 hln hf hk
    cases n with
    | zero => omega
    | succ n =>
    conv => whnf
    refine ⟨_, _, _, _, _, _, _, rfl, rfl, ?_⟩
    conv => whnf
    refine two_intro (fun h => ?_) (fun h => ?_)
    · have h : isS [125] ts = false := nt h
      simp only [stmtsL, h, bindA] at hk
      conv => whnf
      refine ⟨d, _, _, _, _, _, _, rfl, rfl, in_op ho hd2, by omega, hf.fine, hk.step (stmt_le _ _ _) (fun x ts2 ns2 mo2 hl hk => ?_) (fun a er hb => by ((conv => whnf); exact hp _ _ rfl hb))⟩
      have hf := hf.st hl
      conv => whnf
      refine ⟨by conv => whnf, ?_⟩
      conv => whnf
      refine ⟨by conv => whnf, ?_⟩
      conv => whnf
      refine ⟨⟨rfl, rfl, rfl, allLt_ok ⟨trivial, rfl⟩⟩, ?_⟩
      conv => whnf
      refine ⟨⟨rfl, rfl, rfl, rfl, ?_, ?_⟩, ?_⟩
      · show (l.length + 1) * 8 ≤ 140737488355328
        omega
      · show l.length + 1 ≤ 9223372036854775807
        omega
      conv => whnf
      have hl2 := hl.2
      simp only at hl2
      refine hle _ _ (Le.cutEnv 8 rfl rfl ⟨rfl, fun _ _ => rfl, rfl, rfl, rfl, rfl, rfl, ?_, trivial⟩ ?_ ?_) (ih ⟨ts2, ns2, mo2, l ++ [x], n⟩ (by simp only; omega) ⟨?_, ?_, ?_, hf.lo (by omega), hk⟩)
      · exact kid_cl l x _ 8 rfl
      · exact ⟨AV.le_refl _, AV.le_refl _, trivial⟩
      · exact ⟨ABlk.le_refl _, ABlk.le_refl _, ABlk.le_refl _, ABlk.le_refl _, ABlk.le_refl _, ABlk.le_refl _, ABlk.le_of_eq (by simp), kidA_snoc l x _ rfl, trivial⟩
      · simp only; omega
      · simp only; omega
      · simp only [List.length_append, List.length_cons, List.length_nil]; omega
    · have h : isS [125] ts = true := nf h
      simp only [stmtsL, h, bindO] at hk
      conv => whnf
      refine ⟨_, _, _, _, _, _, _, rfl, rfl, hk.step (want_le _ _ _) (fun _ ts ns mo hl hk => ?_) (fun a er hb => by ((conv => whnf); exact hp _ _ rfl hb))⟩
      have hf := hf.st hl
      conv => whnf
      refine ⟨l, _, _, _, _, _, _, _, _, _, _, _, rfl, rfl, PutK.slr hf.sz rfl rfl rfl (fun _ _ => rfl) ?_⟩
      conv => whnf
      refine ⟨by conv => whnf, ?_⟩
      conv => whnf
      rw [out_op ho hd2]
      exact hr _ _ _ _ _ _ rfl rfl hk
end Go.Proofs.YtbcngegcpdppfaaGreatDoor

namespace Go.Proofs.YtbcngegcpdppfaaGreatDoor
open Go.AE Go.Ru
set_option maxRecDepth 100000
set_option pp.maxSteps 2000

theorem stmtS_eq (e : Int) (d : Nat) (s : PS) : stmtS e d s = stmtB e d (inStmtS e d) s := by cases d <;> rfl
theorem blk_le (e : Int) (d : Nat) : Dm 3 1 (blockB e d (inStmtS e d)) := block_le e d ((inStmt_le e d).weak (by omega) (by omega))

theorem stmt_step {D : Nat} (hB : COk 137 (cBlock D)) : COk 119 (cStmt (D + 1)) := by
  rintro args K k ⟨d, e, ts, ns, mo, op, X, rfl, rfl, ho, hd, hf, hk⟩
  refine frameP (G := gput 137 (cBlock D) g11) (gput_ok hB g11_ok) 19 rfl fun Q hr hp => ?_
  rw [stmtS_eq] at hk
  have hk := hk.ak
  have hf := hf.fin
  unfold stmtB at hk
  simp only at hk
  conv => whnf
  refine ⟨by simp <;> omega, ?_⟩
  conv => whnf
  rw [enc_hd]
  conv => whnf
  refine ⟨_, _, _, _, _, _, _, rfl, rfl, ⟨fun h => ?_, fun h => ?_⟩⟩
  · have h : isS [105, 102] ts = true := h
    simp only [h, dropS] at hk
    conv => whnf
    refine ⟨d, _, _, _, _, _, _, rfl, rfl, ho, (hf.sk h).fine, hk.step (ex_le _ _ _) (fun x ts2 ns2 mo2 hl hk => ?_) (fun a er hb => by ((conv => whnf); exact hp _ _ rfl hb))⟩
    have hf := (hf.sk h).st hl
    conv => whnf
    refine ⟨d, _, _, _, _, _, _, rfl, rfl, ho, by omega, hf.fine, hk.step (blk_le _ _ _) (fun a ts3 ns3 mo3 hl hk => ?_) (fun a er hb => by ((conv => whnf); exact hp _ _ rfl hb))⟩
    have hf := hf.st hl
    conv => whnf
    refine ⟨_, _, _, _, _, _, _, rfl, rfl, ⟨fun h => ?_, fun h => ?_⟩⟩
    · have h : isS [101, 108, 115, 101] ts3 = true := h
      simp only [h] at hk
      conv => whnf
      refine ⟨d, _, _, _, _, _, _, rfl, rfl, ho, by omega, (hf.sk h).fine, hk.step (blk_le _ _ _) (fun b ts4 ns4 mo4 hl hk => ?_) (fun a er hb => by ((conv => whnf); exact hp _ _ rfl hb))⟩
      have hf := (hf.sk h).st hl
      conv => whnf
      refine ⟨[x, a, b], _, _, _, _, _, _, _, _, _, _, _, rfl, rfl, PutK.slr hf.sz rfl rfl rfl (allLt_ok ⟨⟨⟨trivial, rfl⟩, rfl⟩, rfl⟩) ?_⟩
      conv => whnf
      exact hr _ _ _ _ _ _ rfl rfl hk
    · have h : isS [101, 108, 115, 101] ts3 = false := h
      simp only [h] at hk
      conv => whnf
      refine ⟨[], _, _, _, _, _, _, _, _, _, _, _, rfl, rfl, PutK.nils hf.sz ?_⟩
      have hf := hf.pt (n := ⟨6, 0, Ru.hd e ts, [], []⟩)
      conv => whnf
      refine ⟨[x, a, ns3.length], _, _, _, _, _, _, _, _, _, _, _, rfl, rfl, PutK.slr hf.sz rfl rfl rfl (allLt_ok ⟨⟨⟨trivial, rfl⟩, rfl⟩, rfl⟩) ?_⟩
      conv => whnf
      exact hr _ _ _ _ _ _ rfl rfl hk
  have h : isS [105, 102] ts = false := h
  simp only [h] at hk
  conv => whnf
  refine ⟨_, _, _, _, _, _, _, rfl, rfl, ⟨fun h => ?_, fun h => ?_⟩⟩
  · have h : isS [119, 104, 105, 108, 101] ts = true := h
    simp only [h, dropS] at hk
    conv => whnf
    refine ⟨d, _, _, _, _, _, _, rfl, rfl, ho, (hf.sk h).fine, hk.step (ex_le _ _ _) (fun x ts2 ns2 mo2 hl hk => ?_) (fun a er hb => by ((conv => whnf); exact hp _ _ rfl hb))⟩
    have hf := (hf.sk h).st hl
    conv => whnf
    refine ⟨d, _, _, _, _, _, _, rfl, rfl, ho, by omega, hf.fine, hk.step (blk_le _ _ _) (fun a ts3 ns3 mo3 hl hk => ?_) (fun a er hb => by ((conv => whnf); exact hp _ _ rfl hb))⟩
    have hf := hf.st hl
    conv => whnf
    refine ⟨[x, a], _, _, _, _, _, _, _, _, _, _, _, rfl, rfl, PutK.slr hf.sz rfl rfl rfl (allLt_ok ⟨⟨trivial, rfl⟩, rfl⟩) ?_⟩
    conv => whnf
    exact hr _ _ _ _ _ _ rfl rfl hk
  have h : isS [119, 104, 105, 108, 101] ts = false := h
  simp only [h] at hk
  conv => whnf
  refine ⟨_, _, _, _, _, _, _, rfl, rfl, ⟨fun h => ?_, fun h => ?_⟩⟩
  · have h : isS [116, 114, 121] ts = true := h
    simp only [h, dropS] at hk
    conv => whnf
    refine ⟨d, _, _, _, _, _, _, rfl, rfl, ho, by omega, (hf.sk h).fine, hk.step (blk_le _ _ _) (fun a ts2 ns2 mo2 hl hk => ?_) (fun a er hb => by ((conv => whnf); exact hp _ _ rfl hb))⟩
    have hf := (hf.sk h).st hl
    conv => whnf
    refine ⟨_, _, _, _, _, _, _, rfl, rfl, hk.step (want_le _ _ _) (fun _ ts3 ns3 mo3 hl hk => ?_) (fun a er hb => by ((conv => whnf); exact hp _ _ rfl hb))⟩
    have hf := hf.st hl
    conv => whnf
    refine ⟨_, _, _, _, _, _, rfl, rfl, hk.step (ident_le _ _) (fun t ts4 ns4 mo4 hl hk => ?_) (fun a er hb => by ((conv => whnf); exact hp _ _ rfl hb))⟩
    have hf := hf.st hl
    conv => whnf
    refine ⟨d, _, _, _, _, _, _, rfl, rfl, ho, by omega, hf.fine, hk.step (blk_le _ _ _) (fun b ts5 ns5 mo5 hl hk => ?_) (fun a er hb => by ((conv => whnf); exact hp _ _ rfl hb))⟩
    have hf := hf.st hl
    conv => whnf
    refine ⟨[a, b], _, _, _, _, _, _, _, _, _, _, _, rfl, rfl, PutK.slr hf.sz rfl rfl rfl (allLt_ok ⟨⟨trivial, rfl⟩, rfl⟩) ?_⟩
    conv => whnf
    exact hr _ _ _ _ _ _ rfl rfl hk
  have h : isS [116, 114, 121] ts = false := h
  simp only [h] at hk
  conv => whnf
  refine ⟨d, _, _, _, _, _, _, rfl, rfl, ho, hf.fine, hk.step (plain_le _ _ _) (fun x ts2 ns2 mo2 hl hk => ?_) (fun a er hb => by ((conv => whnf); exact hp _ _ rfl hb))⟩
  have hf := hf.st hl
  conv => whnf
  refine ⟨_, _, _, _, _, _, _, rfl, rfl, hk.step (want_le _ _ _) (fun _ ts3 ns3 mo3 hl hk => ?_) (fun a er hb => by ((conv => whnf); exact hp _ _ rfl hb))⟩
  conv => whnf
  exact hr _ _ _ _ _ _ rfl rfl hk

theorem stmt_ok (D : Nat) : COk 119 (cStmt D) := by
  induction D with
  | zero =>
    rintro args K k ⟨d, e, ts, ns, mo, op, X, -, -, -, h, -⟩
    omega
  | succ D ih => exact stmt_step (block_ok ih)

def cTyped : AC := fun args K k => ∃ d : Nat, ∃ e ts ns mo op kd at_ tx X, args = [pp, .agg [.p (.int .i64 kd), .p (.int .i64 0), .p (.int .i64 at_), .p (.str tx), .p .nils]] ∧ K = encP e ts ns op mo ++ X ∧ Fine d ts ns ∧
  After e (typedS e kd at_ tx ⟨ts, ns, mo⟩) intV op X k
theorem typed_ok : COk 81 cTyped := by
  rintro args K k ⟨d, e, ts, ns, mo, op, kd, at_, tx, X, rfl, rfl, hf, hk⟩
  refine frameP g7_ok 19 rfl fun Q hr hp => ?_
  have hk := hk.ak
  have hf := hf.fin
  unfold typedS at hk
  conv => whnf
  refine ⟨_, _, _, _, _, _, rfl, rfl, ?_⟩
  conv => whnf
  refine two_intro (fun h => ?_) (fun h => ?_)
  · have h : (typesS ts == 0) = true := h
    simp only [h] at hk
    have hb := hk
    conv => whnf
    refine ⟨_, _, _, _, _, _, _, rfl, rfl, ?_⟩
    ((conv => whnf); exact hp _ _ rfl hb)
  · have h : (typesS ts == 0) = false := h
    simp only [h] at hk
    obtain ⟨t, r, rfl⟩ : ∃ t r, ts = t :: r := by
      cases ts with
      | nil => simp [typesS, isS] at h
      | cons t r => exact ⟨t, r, rfl⟩
    conv => whnf
    refine ⟨_, _, _, _, _, _, _, rfl, rfl, ?_⟩
    conv => whnf
    refine ⟨[], _, _, _, _, _, _, _, _, _, _, _, rfl, rfl, PutK.nils hf.sz ?_⟩
    conv => whnf
    exact hr _ _ _ _ _ _ rfl rfl hk
end Go.Proofs.YtbcngegcpdppfaaGreatDoor

namespace Go.Proofs.YtbcngegcpdppfaaGreatDoor
open Go.AE Go.Ru
set_option maxRecDepth 100000
set_option pp.maxSteps 2000

/-- a call on a parser's state, whose answer is said in weaker words -/
theorem frameW {G : AG} (hG : GOk Tryz.prog G) (n : Nat) {f : FuncId} {args : List AV} {e : Int} {ts : List Tok} {ns : List Nd} {op mo : Int} {X : List ABlk} {k : AO → List ABlk → Prop} (hcl : AV.cls 2 args = true)
    (h : ∀ Q : AO → List ABlk → Prop,
      (∀ v K' v' K2 ts' ns' op' mo', Wk1 2 v K' v' K2 → v'.cl 2 = true → takeN K2 2 = encP e ts' ns' op' mo' → k (.ret v') (encP e ts' ns' op' mo' ++ X) → Q (.ret v) K') →
      (∀ v K', v.cl 0 = true → k (.pan v) (deads 2 ++ X) → Q (.pan v) K') → acall1 T0 G n f args (encP e ts ns op mo) Q) :
    ACalls Tryz.prog f args (encP e ts ns op mo ++ X) k := by
  refine (ACalls.frame (K0 := encP e ts ns op mo) (k := fun ao K1 => k ao (K1 ++ X)) hcl (fun r _ => encP_cl e ts ns op mo r)
    (ACalls.post (k := fun ao K1 => ∃ v' K2, Wk1 2 ao.val K1 v' K2 ∧ frameK 2 (fun ao K1 => k ao (K1 ++ X)) (ao.with v') K2) (call_ok hG n f args _ _ (h _ ?_ ?_)) ?_)).mono ?_
  · intro v K' v' K2 ts' ns' op' mo' hw h1 h3 h4
    have hl : 2 ≤ K2.length := by
      have := congrArg List.length h3
      match K2, h3 with
      | [], h3 => simp [takeN, encP] at h3
      | [_], h3 => simp [takeN, encP] at h3
      | _ :: _ :: _, _ => simp
    refine ⟨v', K2, hw, h1, hl, fun r hr => ?_, ?_⟩
    · have := encP_cl e ts' ns' op' mo' r
      rw [← h3, hp_takeN, if_pos hr] at this; exact this
    · show k (.ret v') (takeN K2 2 ++ X)
      rw [h3]; exact h4
  · intro v K' h1 h2; exact ⟨v, K', Wk1.refl _ _ _, h1, h2⟩
  · rintro (v | v) K1 ⟨v', K2, h1, h2⟩
    · exact ⟨v', K2, h1, h2⟩
    · exact ⟨v', K2, h1, h2⟩
  · rintro ao K ⟨K1, rfl, h⟩; exact h

def g12 : AG := gput 119 (cStmt 41) (gput 81 cTyped g11)
theorem g12_ok : GOk Tryz.prog g12 := gput_ok (stmt_ok 41) (gput_ok typed_ok g11_ok)

def kidV (l : List Int) : AV := .p (.sl 1 l.length (kidF l))
def cVars : AC := fun args K k => ∃ d : Nat, ∃ e ts ns mo op kind X, args = [pp, .p (.int .i64 kind)] ∧ K = encP e ts ns op mo ++ X ∧ Fine d ts ns ∧
  After e (varsS e kind ⟨ts, ns, mo⟩) kidV op X k
theorem vars_ok : COk 46 cVars := by
  rintro args K k ⟨d, e, ts, ns, mo, op, kind, X, rfl, rfl, hf, hk⟩
  refine frameW g12_ok 19 rfl fun Q hr hp => ?_
  have hk := hk.ak
  have hf := hf.fin
  unfold varsS at hk
  conv => whnf
  refine loop_nil (ι := LC) 3 1 (fun i => pvs (kidF [] i)) (fun i => ⟨[(0, pp), (1, .p (.int .i64 kind)), (5, .slr 2 0 0 i.l.length)], encP e i.ts i.ns op i.mo ++ [kidA i.l]⟩)
      (fun i => i.ts.length ≤ i.n ∧ i.n ≤ 900001 ∧ i.l.length + i.ts.length ≤ 900000 ∧ Fin d 0 i.ts i.ns ∧ AK (varsL e kind i.n i.l ⟨i.ts, i.ns, i.mo⟩)
        (fun a s => k (.ret (kidV a)) (encP e s.ts s.ns op s.mo ++ X)) (fun a er => k (.pan (wrongV a er)) (deads 2 ++ X)))
      (fun i => i.n) ⟨ts, ns, mo, [], ts.length⟩ (encP e ts ns op mo)
      rfl ⟨.inl (AV.le_refl _), .inl (AV.le_refl _), .inr ⟨rfl, rfl⟩, trivial⟩ (nswK.refl _ _) rfl
      ⟨Nat.le_refl _, ?_, ?_, hf, hk⟩ ?_
  · have := hf.s; show ts.length ≤ 900001; omega
  · have := hf.s; show 0 + ts.length ≤ 900000; omega
  clear hk hf
  rintro Y hle ⟨ts, ns, mo, l, n⟩ ⟨hn, hn2, hln, hf, hk⟩ ih
  simp only at hn hn2 hln hf hk
  conv => whnf
  refine ⟨_, _, _, _, _, _, _, rfl, rfl, ?_⟩
  conv => whnf
  refine two_intro (fun h => ?_) (fun h => ?_)
  · have h : isS [118, 97, 114] ts = true := h
    cases n with
    | zero => have := isS_pos h; simp only at this; omega
    | succ n =>
    obtain ⟨t0, ts, rfl⟩ : ∃ t r, ts = t :: r := by
      cases ts with
      | nil => simp [isS] at h
      | cons t r => exact ⟨t, r, rfl⟩
    simp only [varsL, h, bindA, dropS] at hk
    conv => whnf
    refine ⟨_, _, _, _, _, _, _, rfl, rfl, ?_⟩
    conv => whnf
    have hf : Fin d 4 ts ns := ⟨hf.1, by have := hf.2; simp only [List.length_cons] at this; omega⟩
    refine ⟨_, _, _, _, _, _, rfl, rfl, hk.step (ident_le _ _) (fun t ts2 ns2 mo2 hl hk => ?_) (fun a er hb => by ((conv => whnf); exact hp _ _ rfl hb))⟩
    have hf := hf.st hl
    have hl1 := hl.2
    conv => whnf
    refine ⟨d, _, _, _, _, _, _, _, _, _, rfl, rfl, hf.fine, hk.step (typed_le _ _ _ _ _) (fun x ts3 ns3 mo3 hl hk => ?_) (fun a er hb => by ((conv => whnf); exact hp _ _ rfl hb))⟩
    have hf := hf.st hl
    have hl2 := hl.2
    conv => whnf
    refine ⟨⟨rfl, rfl, rfl, allLt_ok ⟨trivial, rfl⟩⟩, ?_⟩
    conv => whnf
    refine ⟨⟨rfl, rfl, rfl, rfl, ?_, ?_⟩, ?_⟩
    · show (l.length + 1) * 8 ≤ 140737488355328
      omega
    · show l.length + 1 ≤ 9223372036854775807
      omega
    conv => whnf
    refine ⟨_, _, _, _, _, _, _, rfl, rfl, hk.step (want_le _ _ _) (fun _ ts4 ns4 mo4 hl hk => ?_) (fun a er hb => by ((conv => whnf); exact hp _ _ rfl hb))⟩
    have hf := hf.st hl
    have hl3 := hl.2
    conv => whnf
    simp only [List.length_cons, List.tail_cons] at hl1 hl2 hl3 hn hln
    refine hle _ _ (Le.cutEnv 3 rfl rfl ⟨rfl, fun _ _ => rfl, ?_, trivial⟩ ?_ ?_) (ih ⟨ts4, ns4, mo4, l ++ [x], n⟩ (by simp only; omega) ⟨?_, ?_, ?_, hf.lo (by omega), hk⟩)
    · exact kid_cl l x _ 3 rfl
    · exact ⟨AV.le_refl _, AV.le_refl _, AV.le_of_eq (show AV.slr 2 0 0 (l.length + 1) = AV.slr 2 0 0 (l ++ [x]).length by simp), trivial⟩
    · exact ⟨ABlk.le_refl _, ABlk.le_refl _, kidA_snoc l x _ rfl, trivial⟩
    · simp only; omega
    · simp only; omega
    · simp only [List.length_append, List.length_cons, List.length_nil]; omega
  · have h : isS [118, 97, 114] ts = false := h
    have hk : k (.ret (kidV l)) (encP e ts ns op mo ++ X) := by
      cases n with
      | zero => exact hk
      | succ n => simp only [varsL, h] at hk; exact hk
    conv => whnf
    exact hr _ _ _ _ _ _ _ _ (Wk1.freeze (r := 2) rfl (kidF l) (fun _ _ => rfl)) rfl rfl hk
end Go.Proofs.YtbcngegcpdppfaaGreatDoor

namespace Go.Proofs.YtbcngegcpdppfaaGreatDoor
open Go.AE Go.Ru
set_option maxRecDepth 100000
set_option pp.maxSteps 2000

def g13 : AG := gput 46 cVars g12
theorem g13_ok : GOk Tryz.prog g13 := gput_ok vars_ok g12_ok

/-- a block with declarations at its head -/
def cBody : AC := fun args K k => ∃ d : Nat, ∃ e ts ns mo op X, args = [pp, .p (.bool true)] ∧ K = encP e ts ns op mo ++ X ∧ op = 40 - (d : Int) ∧ Fine d ts ns ∧
  After e (bodyS e d ⟨ts, ns, mo⟩) (fun a => .tup [kidV a.1, intV a.2]) op X k
theorem body_ok : COk 88 cBody := by
  rintro args K k ⟨d, e, ts, ns, mo, op, X, rfl, rfl, ho, hf, hk⟩
  refine frameP g13_ok 19 rfl fun Q hr hp => ?_
  have hk := hk.ak
  have hf := hf.fin
  unfold bodyS at hk
  simp only at hk
  conv => whnf
  refine ⟨by simp <;> omega, ?_⟩
  conv => whnf
  rw [enc_hd]
  conv => whnf
  cases hw : isS [123] ts with
  | false =>
    have hb := hk.within_no hw
    refine ⟨_, _, _, _, _, _, _, rfl, rfl, ?_⟩
    conv => whnf
    refine two_false hw ?_
    conv => whnf
    refine ⟨_, _, _, _, _, _, _, rfl, rfl, ⟨fun a ts' ns' mo' h => by simp [wantS, hw] at h, fun a er h => ?_⟩⟩
    simp only [wantS, hw, R.bad.injEq] at h
    obtain ⟨rfl, rfl⟩ := h
    ((conv => whnf); exact hp _ _ rfl hb)
  | true =>
    refine ⟨_, _, _, _, _, _, _, rfl, rfl, ?_⟩
    conv => whnf
    refine two_true hw ?_
    conv => whnf
    cases d with
    | zero =>
      have hb := hk.within_deep hw
      refine two_true (by simp [ho]) ?_
      conv => whnf
      refine ⟨_, _, _, _, _, _, _, rfl, rfl, ?_⟩
      ((conv => whnf); exact hp _ _ rfl hb)
    | succ d =>
    refine two_false (by simp [ho]; omega) ?_
    conv => whnf
    refine ⟨_, _, _, _, _, _, _, rfl, rfl, ⟨fun a ts' ns' mo' h => ?_, fun a er h => by simp [wantS, hw] at h⟩⟩
    simp only [wantS, hw, dropS, R.ok.injEq, PS.mk.injEq] at h
    obtain ⟨-, rfl, rfl, rfl⟩ := h
    have hd2 : d < 1000 := by have := hf.1; omega
    have hk := hk.within hw (by simp)
    rw [← in_mo ho hd2] at hk
    have hf := hf.opn hw
    conv => whnf
    simp only [bindA] at hk
    refine ⟨d, _, _, _, _, _, _, _, rfl, rfl, hf.fine, hk.step (vars_le _ _ _) (fun vs ts2 ns2 mo2 hl hk => ?_) (fun a er hb => by ((conv => whnf); exact hp _ _ rfl hb))⟩
    have hf := hf.st hl
    have hl0 := hl.2
    have hd40 : d < 41 := by have := hf.d; omega
    simp only at hl0
    conv => whnf
    refine loop_nil (ι := LC) 3 1 (fun i => pvs (kidF [] i)) (fun i => ⟨[(1, .ptr 2 0 1 0 0), (3, .ptr 6 0 1 0 0)],
        encP e i.ts i.ns (IntKind.i64.wrap (op + 1)) i.mo ++ [.box 52 [pp], .box 4 [.p (.bool true)], .box 41 [.p (.int .i64 6), .p (.int .i64 0), .p (.int .i64 (Ru.hd e ts)), .p (.str []), .p .nils], .box 39 [kidV vs], .box 39 [.slr 7 0 0 i.l.length], kidA i.l]⟩)
      (fun i => i.ts.length < i.n ∧ i.n ≤ 900001 ∧ i.l.length + i.ts.length ≤ 900000 ∧ Fin d 3 i.ts i.ns ∧ AK ((stmtsL (stmtS e d) i.n i.l ⟨i.ts, i.ns, i.mo⟩).bind fun l s => (wantS e [125] s).bind fun _ s => (putS ⟨6, 0, Ru.hd e ts, [], l⟩ s).bind fun b s => .ok (vs, b) s)
        (fun a s => k (.ret (.tup [kidV a.1, intV a.2])) (encP e s.ts s.ns op s.mo ++ X)) (fun a er => k (.pan (wrongV a er)) (deads 2 ++ X)))
      (fun i => i.n) ⟨ts2, ns2, mo2, [], ts2.length + 1⟩
      (encP e ts2 ns2 (IntKind.i64.wrap (op + 1)) mo2 ++ [.box 52 [pp], .box 4 [.p (.bool true)], .box 41 [.p (.int .i64 6), .p (.int .i64 0), .p (.int .i64 (Ru.hd e ts)), .p (.str []), .p .nils], .box 39 [kidV vs], .box 39 [.slr 7 0 0 0]])
      rfl ⟨.inl (AV.le_refl _), .inl (AV.le_refl _), trivial⟩
      ?_ rfl
      ⟨Nat.lt_succ_self _, ?_, ?_, hf.lo (by omega), hk⟩ ?_
    · exact ⟨.inl (ABlk.le_refl _), .inl (ABlk.le_refl _), .inl (ABlk.le_refl _), .inl (ABlk.le_refl _), .inl (ABlk.le_refl _), .inl (ABlk.le_refl _), .inr ⟨_, _, _, rfl, rfl, .inr ⟨rfl, rfl⟩, trivial⟩, trivial⟩
    · have := hf.s; show ts2.length + 1 ≤ 900001; omega
    · have := hf.s; show 0 + ts2.length ≤ 900000; omega
    clear hk hf hl0 hl
    rintro Y hle ⟨ts, ns, mo, l, n⟩ ⟨hn, hn2, hln, hf, hk⟩ ih
    simp only at hn hn2 hln hf hk
    cases n with
    | zero => omega
    | succ n =>
    conv => whnf
    refine ⟨_, _, _, _, _, _, _, rfl, rfl, ?_⟩
    conv => whnf
    refine two_intro (fun h => ?_) (fun h => ?_)
    · have h : isS [125] ts = false := nt h
      simp only [stmtsL, h, bindA] at hk
      conv => whnf
      refine ⟨d, _, _, _, _, _, _, rfl, rfl, in_op ho hd2, by omega, hf.fine, hk.step (stmt_le _ _ _) (fun x ts2 ns2 mo2 hl hk => ?_) (fun a er hb => by ((conv => whnf); exact hp _ _ rfl hb))⟩
      have hf := hf.st hl
      conv => whnf
      refine ⟨by conv => whnf, ?_⟩
      conv => whnf
      refine ⟨by conv => whnf, ?_⟩
      conv => whnf
      refine ⟨⟨rfl, rfl, rfl, allLt_ok ⟨trivial, rfl⟩⟩, ?_⟩
      conv => whnf
      refine ⟨⟨rfl, rfl, rfl, rfl, ?_, ?_⟩, ?_⟩
      · show (l.length + 1) * 8 ≤ 140737488355328
        omega
      · show l.length + 1 ≤ 9223372036854775807
        omega
      conv => whnf
      have hl2 := hl.2
      simp only at hl2
      refine hle _ _ (Le.cutEnv 8 rfl rfl ⟨rfl, fun _ _ => rfl, rfl, rfl, rfl, rfl, rfl, ?_, trivial⟩ ?_ ?_) (ih ⟨ts2, ns2, mo2, l ++ [x], n⟩ (by simp only; omega) ⟨?_, ?_, ?_, hf.lo (by omega), hk⟩)
      · exact kid_cl l x _ 8 rfl
      · exact ⟨AV.le_refl _, AV.le_refl _, trivial⟩
      · exact ⟨ABlk.le_refl _, ABlk.le_refl _, ABlk.le_refl _, ABlk.le_refl _, ABlk.le_refl _, ABlk.le_refl _, ABlk.le_of_eq (by simp), kidA_snoc l x _ rfl, trivial⟩
      · simp only; omega
      · simp only; omega
      · simp only [List.length_append, List.length_cons, List.length_nil]; omega
    · have h : isS [125] ts = true := nf h
      simp only [stmtsL, h, bindO] at hk
      conv => whnf
      refine ⟨_, _, _, _, _, _, _, rfl, rfl, hk.step (want_le _ _ _) (fun _ ts ns mo hl hk => ?_) (fun a er hb => by ((conv => whnf); exact hp _ _ rfl hb))⟩
      have hf := hf.st hl
      conv => whnf
      refine ⟨l, _, _, _, _, _, _, _, _, _, _, _, rfl, rfl, PutK.slr hf.sz rfl rfl rfl (fun _ _ => rfl) ?_⟩
      conv => whnf
      refine ⟨by conv => whnf, ?_⟩
      conv => whnf
      rw [out_op ho hd2]
      exact hr _ _ _ _ _ _ rfl rfl hk
end Go.Proofs.YtbcngegcpdppfaaGreatDoor

namespace Go.Proofs.YtbcngegcpdppfaaGreatDoor
open Go.AE Go.Ru
set_option maxRecDepth 100000
set_option pp.maxSteps 2000

def g14 : AG := gput 88 cBody g13
theorem g14_ok : GOk Tryz.prog g14 := gput_ok body_ok g13_ok

def cProc : AC := fun args K k => ∃ d : Nat, ∃ e ts ns mo op X, args = [pp] ∧ K = encP e ts ns op mo ++ X ∧ op = 40 - (d : Int) ∧ Fine d ts ns ∧
  After e (procS e d ⟨ts, ns, mo⟩) intV op X k
theorem kid_app (l vs : List Int) (b : Int) (f : Nat → List AV) (hf : f 0 = [intV b]) : ∀ i, i < l.length + vs.length + 1 →
    catF (l.length + vs.length) (catF l.length (fun i => pvs (kidF l i)) (fun i => pvs (kidF vs i))) f i = [intV ((l ++ vs ++ [b]).getD i 0)] := fun i hi => by
  by_cases h : i < l.length + vs.length
  · rw [catF_lt h]
    by_cases h2 : i < l.length
    · rw [catF_lt h2]
      have : (l ++ vs ++ [b])[i]? = l[i]? := by rw [List.append_assoc, List.getElem?_append_left h2]
      simp only [kidF, List.getD_eq_getElem?_getD, this, pvs, intV]
    · rw [catF_ge (by omega)]
      have : (l ++ vs ++ [b])[i]? = vs[i - l.length]? := by
        rw [List.getElem?_append_left (by simp; omega), List.getElem?_append_right (by omega)]
      simp only [kidF, List.getD_eq_getElem?_getD, this, pvs, intV]
  · obtain rfl : i = l.length + vs.length := by omega
    rw [catF_ge (Nat.le_refl _), Nat.sub_self, hf]
    have : (l ++ vs ++ [b])[l.length + vs.length]? = some b := by
      rw [List.getElem?_append_right (by simp)]; simp
    simp only [List.getD_eq_getElem?_getD, this, Option.getD_some]
/-- is the next token that one? Behind it a nil slice is a row of nothing. -/
def cIsN : AC := fun args K k => cIs args K k ∨ cIs args K (fun ao K1 => ∃ ty sz g K2, nswK K1.length K1 K2 ∧ k ao (K2 ++ [.arr ty sz 0 0 g]))
theorem isN_ok : COk 78 cIsN := by
  rintro args K k (h | h)
  · exact is_ok _ _ _ h
  · exact (is_ok _ _ _ h).nil
theorem proc_ok : COk 47 cProc := by
  rintro args K k ⟨d, e, ts0, ns, mo, op, X, rfl, rfl, ho, hf, hk⟩
  refine frameP (G := gput 78 cIsN g14) (gput_ok isN_ok g14_ok) 19 rfl fun Q hr hp => ?_
  have hk := hk.ak
  have hf := hf.fin
  have hd0 := hf.d
  unfold procS at hk
  simp only at hk
  conv => whnf
  refine ⟨by simp <;> omega, ?_⟩
  conv => whnf
  rw [enc_hd]
  conv => whnf
  refine ⟨_, _, _, _, _, _, _, rfl, rfl, hk.step (want_le _ _ _) (fun _ ts2 ns2 mo2 hl hk => ?_) (fun a er hb => by ((conv => whnf); exact hp _ _ rfl hb))⟩
  have hf := hf.st hl
  conv => whnf
  refine ⟨_, _, _, _, _, _, rfl, rfl, hk.step (ident_le _ _) (fun t ts ns mo hl hk => ?_) (fun a er hb => by ((conv => whnf); exact hp _ _ rfl hb))⟩
  have hf := hf.st hl
  conv => whnf
  refine .inl ?_
  cases hw : isS [40] ts with
  | false =>
    have hb := hk.within_no hw
    refine ⟨_, _, _, _, _, _, _, rfl, rfl, ?_⟩
    conv => whnf
    refine two_false hw ?_
    conv => whnf
    refine ⟨_, _, _, _, _, _, _, rfl, rfl, ⟨fun a ts' ns' mo' h => by simp [wantS, hw] at h, fun a er h => ?_⟩⟩
    simp only [wantS, hw, R.bad.injEq] at h
    obtain ⟨rfl, rfl⟩ := h
    ((conv => whnf); exact hp _ _ rfl hb)
  | true =>
    refine ⟨_, _, _, _, _, _, _, rfl, rfl, ?_⟩
    conv => whnf
    refine two_true hw ?_
    conv => whnf
    cases d with
    | zero =>
      have hb := hk.within_deep hw
      refine two_true (by simp [ho]) ?_
      conv => whnf
      refine ⟨_, _, _, _, _, _, _, rfl, rfl, ?_⟩
      ((conv => whnf); exact hp _ _ rfl hb)
    | succ d =>
    refine two_false (by simp [ho]; omega) ?_
    conv => whnf
    refine ⟨_, _, _, _, _, _, _, rfl, rfl, ⟨fun a ts' ns' mo' h => ?_, fun a er h => by simp [wantS, hw] at h⟩⟩
    simp only [wantS, hw, dropS, R.ok.injEq, PS.mk.injEq] at h
    obtain ⟨-, rfl, rfl, rfl⟩ := h
    have hd2 : d < 1000 := by have := hf.1; omega
    have hk := hk.within hw (by simp)
    rw [← in_mo ho hd2] at hk
    have hf := hf.opn hw
    conv => whnf
    refine .inr ⟨_, _, _, _, _, _, _, rfl, rfl, 3, 1, fun i => pvs (kidF [] i), encP e ts.tail ns (IntKind.i64.wrap (op + 1)) (if IntKind.i64.wrap (op + 1) > mo then IntKind.i64.wrap (op + 1) else mo) ++ [.box 52 [pp], .box 41 [.p (.int .i64 3), .p (.int .i64 0), .p (.int .i64 (hd e ts0)), .p (.str t.tx), .p .nils], .box 39 [.slr 5 0 0 0]], ?_, ?_⟩
    · exact ⟨.inl (ABlk.le_refl _), .inl (ABlk.le_refl _), .inl (ABlk.le_refl _), .inl (ABlk.le_refl _), .inr ⟨_, _, _, rfl, rfl, .inr ⟨rfl, rfl⟩, trivial⟩, trivial⟩
    conv => whnf
    refine two_intro (fun h2 => ?_) (fun h2 => ?_)
    · have h2 : isS [41] ts.tail = true := h2
      simp only [listS, h2, bindO] at hk
      conv => whnf
      refine ⟨_, _, _, _, _, _, _, rfl, rfl, hk.step (want_le _ _ _) (fun _ ts ns mo hl hk => ?_) (fun a er hb => by ((conv => whnf); exact hp _ _ rfl hb))⟩
      have hf := hf.st hl
      conv => whnf
      have hln0 : ([] : List Int).length ≤ 900000 := by simp
      refine ⟨_, _, _, _, _, _, rfl, rfl, ?_⟩
      conv => whnf
      refine two_intro (fun h3 => ?_) (fun h3 => ?_)
      · obtain ⟨t2, ts, rfl⟩ : ∃ t r, ts = t :: r := by
          cases ts with
          | nil => simp [typesS, isS] at h3
          | cons t r => exact ⟨t, r, rfl⟩
        have h3 : decide (typesS (t2 :: ts) > 0) = true := h3
        simp only [h3, dropS] at hk
        conv => whnf
        refine ⟨_, _, _, _, _, _, _, rfl, rfl, ?_⟩
        conv => whnf
        rw [out_op ho hd2]
        have hf : Fin d 7 ts ns := ⟨hf.1, by have := hf.2; simp only [List.length_cons] at this; omega⟩
        refine ⟨d + 1, _, _, _, _, _, _, rfl, rfl, ho, ⟨hd0, by have := hf.2; omega⟩, hk.stepv (p := fun p s => Lw _ 3 1 s ∧ p.1.length ≤ _) (fun p s h => ⟨body_le _ _ _ _ _ h, body_len _ _ _ _ _ h⟩) (fun p ts ns mo hl hk => ?_) (fun a er hb => by ((conv => whnf); exact hp _ _ rfl hb))⟩
        have hpl := hl.2
        have hl := hl.1
        have hpb : p.1.length ≤ 900000 := by have := hf.2; simp only [List.tail_cons] at hpl; omega
        have hf := hf.st hl
        conv => whnf
        have hlen : (([] : List Int)).length ≤ 900000 := hln0
        refine ⟨?_, ?_⟩
        · conv => whnf
          refine ⟨⟨rfl, fun _ _ => rfl⟩, ?_⟩
          conv => whnf
          refine ⟨⟨rfl, rfl, rfl, rfl, ?_, ?_⟩, ?_⟩
          · show ((([] : List Int)).length + p.1.length) * 8 ≤ 140737488355328
            omega
          · show (([] : List Int)).length + p.1.length ≤ 9223372036854775807
            omega
          conv => whnf
          repeat ((refine And.intro ?_ ?_); (focus ((conv => whnf); done)); (conv => whnf))
          refine ⟨⟨rfl, rfl, rfl, allLt_ok ⟨trivial, rfl⟩⟩, ?_⟩
          conv => whnf
          refine ⟨⟨rfl, rfl, rfl, rfl, ?_, ?_⟩, ?_⟩
          · show ((([] : List Int)).length + p.1.length + 1) * 8 ≤ 140737488355328
            omega
          · show (([] : List Int)).length + p.1.length + 1 ≤ 9223372036854775807
            omega
          conv => whnf
          repeat ((refine And.intro ?_ ?_); (focus ((conv => whnf); done)); (conv => whnf))
          refine ⟨([] : List Int) ++ p.1 ++ [p.2], _, _, _, _, _, _, _, _, _, _, _, rfl, rfl, PutK.slr hf.sz rfl rfl ?_ ?_ ?_⟩
          · show (([] : List Int) ++ p.1 ++ [p.2]).length = (([] : List Int)).length + p.1.length + 1
            simp only [List.length_append, List.length_cons, List.length_nil]
          · exact kid_app (([] : List Int)) p.1 p.2 _ rfl
          conv => whnf
          repeat ((refine And.intro ?_ ?_); (focus ((conv => whnf); done)); (conv => whnf))
          exact hr _ _ _ _ _ _ rfl rfl hk
        · conv => whnf
          repeat ((refine And.intro ?_ ?_); (focus ((conv => whnf); done)); (conv => whnf))
          refine ⟨⟨rfl, fun _ _ => rfl⟩, ?_⟩
          conv => whnf
          refine ⟨⟨rfl, rfl, rfl, rfl, ?_, ?_⟩, ?_⟩
          · show ((([] : List Int)).length + p.1.length) * 8 ≤ 140737488355328
            omega
          · show (([] : List Int)).length + p.1.length ≤ 9223372036854775807
            omega
          conv => whnf
          repeat ((refine And.intro ?_ ?_); (focus ((conv => whnf); done)); (conv => whnf))
          refine ⟨⟨rfl, rfl, rfl, allLt_ok ⟨trivial, rfl⟩⟩, ?_⟩
          conv => whnf
          refine ⟨⟨rfl, rfl, rfl, rfl, ?_, ?_⟩, ?_⟩
          · show ((([] : List Int)).length + p.1.length + 1) * 8 ≤ 140737488355328
            omega
          · show (([] : List Int)).length + p.1.length + 1 ≤ 9223372036854775807
            omega
          conv => whnf
          repeat ((refine And.intro ?_ ?_); (focus ((conv => whnf); done)); (conv => whnf))
          refine ⟨([] : List Int) ++ p.1 ++ [p.2], _, _, _, _, _, _, _, _, _, _, _, rfl, rfl, PutK.slr hf.sz rfl rfl ?_ ?_ ?_⟩
          · show (([] : List Int) ++ p.1 ++ [p.2]).length = (([] : List Int)).length + p.1.length + 1
            simp only [List.length_append, List.length_cons, List.length_nil]
          · exact kid_app (([] : List Int)) p.1 p.2 _ rfl
          conv => whnf
          repeat ((refine And.intro ?_ ?_); (focus ((conv => whnf); done)); (conv => whnf))
          exact hr _ _ _ _ _ _ rfl rfl hk
      · have h3 : decide (typesS ts > 0) = false := h3
        simp only [h3] at hk
        conv => whnf
        rw [out_op ho hd2]
        have hf : Fin d 7 ts ns := hf.lo (by omega)
        refine ⟨d + 1, _, _, _, _, _, _, rfl, rfl, ho, ⟨hd0, by have := hf.2; omega⟩, hk.stepv (p := fun p s => Lw _ 3 1 s ∧ p.1.length ≤ _) (fun p s h => ⟨body_le _ _ _ _ _ h, body_len _ _ _ _ _ h⟩) (fun p ts ns mo hl hk => ?_) (fun a er hb => by ((conv => whnf); exact hp _ _ rfl hb))⟩
        have hpl := hl.2
        have hl := hl.1
        have hpb : p.1.length ≤ 900000 := by have := hf.2; simp only [List.tail_cons] at hpl; omega
        have hf := hf.st hl
        conv => whnf
        have hlen : (([] : List Int)).length ≤ 900000 := hln0
        refine ⟨?_, ?_⟩
        · conv => whnf
          refine ⟨⟨rfl, fun _ _ => rfl⟩, ?_⟩
          conv => whnf
          refine ⟨⟨rfl, rfl, rfl, rfl, ?_, ?_⟩, ?_⟩
          · show ((([] : List Int)).length + p.1.length) * 8 ≤ 140737488355328
            omega
          · show (([] : List Int)).length + p.1.length ≤ 9223372036854775807
            omega
          conv => whnf
          repeat ((refine And.intro ?_ ?_); (focus ((conv => whnf); done)); (conv => whnf))
          refine ⟨⟨rfl, rfl, rfl, allLt_ok ⟨trivial, rfl⟩⟩, ?_⟩
          conv => whnf
          refine ⟨⟨rfl, rfl, rfl, rfl, ?_, ?_⟩, ?_⟩
          · show ((([] : List Int)).length + p.1.length + 1) * 8 ≤ 140737488355328
            omega
          · show (([] : List Int)).length + p.1.length + 1 ≤ 9223372036854775807
            omega
          conv => whnf
          repeat ((refine And.intro ?_ ?_); (focus ((conv => whnf); done)); (conv => whnf))
          refine ⟨([] : List Int) ++ p.1 ++ [p.2], _, _, _, _, _, _, _, _, _, _, _, rfl, rfl, PutK.slr hf.sz rfl rfl ?_ ?_ ?_⟩
          · show (([] : List Int) ++ p.1 ++ [p.2]).length = (([] : List Int)).length + p.1.length + 1
            simp only [List.length_append, List.length_cons, List.length_nil]
          · exact kid_app (([] : List Int)) p.1 p.2 _ rfl
          conv => whnf
          repeat ((refine And.intro ?_ ?_); (focus ((conv => whnf); done)); (conv => whnf))
          exact hr _ _ _ _ _ _ rfl rfl hk
        · conv => whnf
          repeat ((refine And.intro ?_ ?_); (focus ((conv => whnf); done)); (conv => whnf))
          refine ⟨⟨rfl, fun _ _ => rfl⟩, ?_⟩
          conv => whnf
          refine ⟨⟨rfl, rfl, rfl, rfl, ?_, ?_⟩, ?_⟩
          · show ((([] : List Int)).length + p.1.length) * 8 ≤ 140737488355328
            omega
          · show (([] : List Int)).length + p.1.length ≤ 9223372036854775807
            omega
          conv => whnf
          repeat ((refine And.intro ?_ ?_); (focus ((conv => whnf); done)); (conv => whnf))
          refine ⟨⟨rfl, rfl, rfl, allLt_ok ⟨trivial, rfl⟩⟩, ?_⟩
          conv => whnf
          refine ⟨⟨rfl, rfl, rfl, rfl, ?_, ?_⟩, ?_⟩
          · show ((([] : List Int)).length + p.1.length + 1) * 8 ≤ 140737488355328
            omega
          · show (([] : List Int)).length + p.1.length + 1 ≤ 9223372036854775807
            omega
          conv => whnf
          repeat ((refine And.intro ?_ ?_); (focus ((conv => whnf); done)); (conv => whnf))
          refine ⟨([] : List Int) ++ p.1 ++ [p.2], _, _, _, _, _, _, _, _, _, _, _, rfl, rfl, PutK.slr hf.sz rfl rfl ?_ ?_ ?_⟩
          · show (([] : List Int) ++ p.1 ++ [p.2]).length = (([] : List Int)).length + p.1.length + 1
            simp only [List.length_append, List.length_cons, List.length_nil]
          · exact kid_app (([] : List Int)) p.1 p.2 _ rfl
          conv => whnf
          repeat ((refine And.intro ?_ ?_); (focus ((conv => whnf); done)); (conv => whnf))
          exact hr _ _ _ _ _ _ rfl rfl hk
    · have h2 : isS [41] ts.tail = false := h2
      simp only [listS, h2, oneS, paramS, bindA, bindO] at hk
      conv => whnf
      refine ⟨_, _, _, _, _, _, rfl, rfl, hk.step (ident_le _ _) (fun t1 ts2 ns2 mo2 hl hk => ?_) (fun a er hb => by ((conv => whnf); exact hp _ _ rfl hb))⟩
      have hf := hf.st hl
      conv => whnf
      refine ⟨d, _, _, _, _, _, _, _, _, _, rfl, rfl, hf.fine, hk.step (typed_le _ _ _ _ _) (fun x ts3 ns3 mo3 hl hk => ?_) (fun a er hb => by ((conv => whnf); exact hp _ _ rfl hb))⟩
      have hf := hf.st hl
      conv => whnf
      repeat ((refine And.intro ?_ ?_); (focus ((conv => whnf); done)); (conv => whnf))
      refine ⟨⟨rfl, rfl, rfl, allLt_ok ⟨trivial, rfl⟩⟩, ?_⟩
      conv => whnf
      refine ⟨⟨rfl, rfl, rfl, rfl, by decide, by decide⟩, ?_⟩
      conv => whnf
      refine loop_cut (ι := LC) 6 (fun i => ⟨[(0, pp), (1, .fn 86 [] [.ptr 2 0 1 0 0, .ptr 4 0 1 0 0])],
          encP e i.ts i.ns (IntKind.i64.wrap (op + 1)) i.mo ++ [.box 52 [pp], .box 41 [.p (.int .i64 3), .p (.int .i64 0), .p (.int .i64 (hd e ts0)), .p (.str t.tx), .p .nils], .box 39 [.slr 5 0 0 i.l.length], kidA i.l]⟩)
        (fun i => i.ts.length ≤ i.n ∧ i.n ≤ 900000 ∧ i.l.length + i.ts.length ≤ 900000 ∧ Fin d 7 i.ts i.ns ∧ AK ((commaL (oneS (paramS e)) i.n i.l ⟨i.ts, i.ns, i.mo⟩).bind fun l s => (wantS e [41] s).bind fun _ s => (bodyS e (d + 1)
              (match decide (typesS s.ts > 0) with
                | true => dropS s
                | false => s)).bind fun p s_1 => putS ⟨3, typesS s.ts, hd e ts0, t.tx, l ++ p.1 ++ [p.2]⟩ s_1)
          (fun a s => k (.ret (intV a)) (encP e s.ts s.ns op s.mo ++ X)) (fun a er => k (.pan (wrongV a er)) (deads 2 ++ X)))
        (fun i => i.n) ⟨ts3, ns3, mo3, [x], ts3.length⟩ rfl rfl ⟨AV.le_refl _, AV.le_refl _, trivial⟩ ⟨rfl, fun _ _ => rfl, rfl, rfl, rfl, ?_, trivial⟩ ⟨ABlk.le_refl _, ABlk.le_refl _, ABlk.le_refl _, ABlk.le_refl _, ABlk.le_refl _, ?_, trivial⟩
        ⟨Nat.le_refl _, ?_, ?_, hf.lo (by omega), hk⟩ ?_
      · exact kid_cl [] x _ 6 rfl
      · exact kidA_snoc [] x _ rfl
      · have := hf.s; show ts3.length ≤ 900000; omega
      · have := hf.s; show 1 + ts3.length ≤ 900000; omega
      clear hk hf hl
      rintro Y hle ⟨ts, ns, mo, l, n⟩ ⟨hn, hn2, hln, hf, hk⟩ ih
      simp only at hn hn2 hln hf hk
      conv => whnf
      refine ⟨_, _, _, _, _, _, _, rfl, rfl, ⟨fun h => ?_, fun h => ?_⟩⟩
      · cases n with
        | zero => have := isS_pos h; simp only at this; omega
        | succ n =>
        have h : isS [44] ts = true := h
        simp only [commaL, h, oneS, paramS, bindA, bindO, dropS] at hk
        have hf := hf.sk h
        have hpos := isS_pos h
        conv => whnf
        refine ⟨_, _, _, _, _, _, rfl, rfl, hk.step (ident_le _ _) (fun t2 ts2 ns2 mo2 hl hk => ?_) (fun a er hb => by ((conv => whnf); exact hp _ _ rfl hb))⟩
        have hf := hf.st hl
        have hl2 := hl.2
        conv => whnf
        refine ⟨d, _, _, _, _, _, _, _, _, _, rfl, rfl, hf.fine, hk.step (typed_le _ _ _ _ _) (fun x ts3 ns3 mo3 hl hk => ?_) (fun a er hb => by ((conv => whnf); exact hp _ _ rfl hb))⟩
        have hf := hf.st hl
        have hl3 := hl.2
        conv => whnf
        repeat ((refine And.intro ?_ ?_); (focus ((conv => whnf); done)); (conv => whnf))
        refine ⟨⟨rfl, rfl, rfl, allLt_ok ⟨trivial, rfl⟩⟩, ?_⟩
        conv => whnf
        refine ⟨⟨rfl, rfl, rfl, rfl, ?_, ?_⟩, ?_⟩
        · show (l.length + 1) * 8 ≤ 140737488355328
          omega
        · show l.length + 1 ≤ 9223372036854775807
          omega
        conv => whnf
        simp only [List.length_tail] at hl2 hl3
        refine hle _ _ (Le.cutEnv 6 rfl rfl ⟨rfl, fun _ _ => rfl, rfl, rfl, rfl, ?_, trivial⟩ ?_ ?_) (ih ⟨ts3, ns3, mo3, l ++ [x], n⟩ (by simp only; omega) ⟨?_, ?_, ?_, hf.lo (by omega), hk⟩)
        · exact kid_cl l x _ 6 rfl
        · exact ⟨AV.le_refl _, AV.le_refl _, trivial⟩
        · exact ⟨ABlk.le_refl _, ABlk.le_refl _, ABlk.le_refl _, ABlk.le_refl _, ABlk.le_of_eq (by simp), kidA_snoc l x _ rfl, trivial⟩
        · simp only; omega
        · simp only; omega
        · simp only [List.length_append, List.length_cons, List.length_nil]; omega
      · have h : isS [44] ts = false := h
        replace hk : AK ((wantS e [41] ⟨ts, ns, mo⟩).bind fun _ s => (bodyS e (d + 1)
              (match decide (typesS s.ts > 0) with
                | true => dropS s
                | false => s)).bind fun p s_1 => putS ⟨3, typesS s.ts, hd e ts0, t.tx, l ++ p.1 ++ [p.2]⟩ s_1)
          (fun a s => k (.ret (intV a)) (encP e s.ts s.ns op s.mo ++ X)) (fun a er => k (.pan (wrongV a er)) (deads 2 ++ X)) := by
          cases n with
          | zero => exact hk
          | succ n => simp only [commaL, h, bindO] at hk; exact hk
        have hln0 : l.length ≤ 900000 := by omega
        conv => whnf
        refine ⟨_, _, _, _, _, _, _, rfl, rfl, hk.step (want_le _ _ _) (fun _ ts ns mo hl hk => ?_) (fun a er hb => by ((conv => whnf); exact hp _ _ rfl hb))⟩
        have hf := hf.st hl
        conv => whnf
        refine ⟨_, _, _, _, _, _, rfl, rfl, ?_⟩
        conv => whnf
        refine two_intro (fun h3 => ?_) (fun h3 => ?_)
        · obtain ⟨t2, ts, rfl⟩ : ∃ t r, ts = t :: r := by
            cases ts with
            | nil => simp [typesS, isS] at h3
            | cons t r => exact ⟨t, r, rfl⟩
          have h3 : decide (typesS (t2 :: ts) > 0) = true := h3
          simp only [h3, dropS] at hk
          conv => whnf
          refine ⟨_, _, _, _, _, _, _, rfl, rfl, ?_⟩
          conv => whnf
          rw [out_op ho hd2]
          have hf : Fin d 7 ts ns := ⟨hf.1, by have := hf.2; simp only [List.length_cons] at this; omega⟩
          refine ⟨d + 1, _, _, _, _, _, _, rfl, rfl, ho, ⟨hd0, by have := hf.2; omega⟩, hk.stepv (p := fun p s => Lw _ 3 1 s ∧ p.1.length ≤ _) (fun p s h => ⟨body_le _ _ _ _ _ h, body_len _ _ _ _ _ h⟩) (fun p ts ns mo hl hk => ?_) (fun a er hb => by ((conv => whnf); exact hp _ _ rfl hb))⟩
          have hpl := hl.2
          have hl := hl.1
          have hpb : p.1.length ≤ 900000 := by have := hf.2; simp only [List.tail_cons] at hpl; omega
          have hf := hf.st hl
          conv => whnf
          have hlen : (l).length ≤ 900000 := hln0
          refine ⟨?_, ?_⟩
          · conv => whnf
            refine ⟨⟨rfl, fun _ _ => rfl⟩, ?_⟩
            conv => whnf
            refine ⟨⟨rfl, rfl, rfl, rfl, ?_, ?_⟩, ?_⟩
            · show ((l).length + p.1.length) * 8 ≤ 140737488355328
              omega
            · show (l).length + p.1.length ≤ 9223372036854775807
              omega
            conv => whnf
            repeat ((refine And.intro ?_ ?_); (focus ((conv => whnf); done)); (conv => whnf))
            refine ⟨⟨rfl, rfl, rfl, allLt_ok ⟨trivial, rfl⟩⟩, ?_⟩
            conv => whnf
            refine ⟨⟨rfl, rfl, rfl, rfl, ?_, ?_⟩, ?_⟩
            · show ((l).length + p.1.length + 1) * 8 ≤ 140737488355328
              omega
            · show (l).length + p.1.length + 1 ≤ 9223372036854775807
              omega
            conv => whnf
            repeat ((refine And.intro ?_ ?_); (focus ((conv => whnf); done)); (conv => whnf))
            refine ⟨l ++ p.1 ++ [p.2], _, _, _, _, _, _, _, _, _, _, _, rfl, rfl, PutK.slr hf.sz rfl rfl ?_ ?_ ?_⟩
            · show (l ++ p.1 ++ [p.2]).length = (l).length + p.1.length + 1
              simp only [List.length_append, List.length_cons, List.length_nil]
            · exact kid_app (l) p.1 p.2 _ rfl
            conv => whnf
            repeat ((refine And.intro ?_ ?_); (focus ((conv => whnf); done)); (conv => whnf))
            exact hr _ _ _ _ _ _ rfl rfl hk
          · conv => whnf
            repeat ((refine And.intro ?_ ?_); (focus ((conv => whnf); done)); (conv => whnf))
            refine ⟨⟨rfl, fun _ _ => rfl⟩, ?_⟩
            conv => whnf
            refine ⟨⟨rfl, rfl, rfl, rfl, ?_, ?_⟩, ?_⟩
            · show ((l).length + p.1.length) * 8 ≤ 140737488355328
              omega
            · show (l).length + p.1.length ≤ 9223372036854775807
              omega
            conv => whnf
            repeat ((refine And.intro ?_ ?_); (focus ((conv => whnf); done)); (conv => whnf))
            refine ⟨⟨rfl, rfl, rfl, allLt_ok ⟨trivial, rfl⟩⟩, ?_⟩
            conv => whnf
            refine ⟨⟨rfl, rfl, rfl, rfl, ?_, ?_⟩, ?_⟩
            · show ((l).length + p.1.length + 1) * 8 ≤ 140737488355328
              omega
            · show (l).length + p.1.length + 1 ≤ 9223372036854775807
              omega
            conv => whnf
            repeat ((refine And.intro ?_ ?_); (focus ((conv => whnf); done)); (conv => whnf))
            refine ⟨l ++ p.1 ++ [p.2], _, _, _, _, _, _, _, _, _, _, _, rfl, rfl, PutK.slr hf.sz rfl rfl ?_ ?_ ?_⟩
            · show (l ++ p.1 ++ [p.2]).length = (l).length + p.1.length + 1
              simp only [List.length_append, List.length_cons, List.length_nil]
            · exact kid_app (l) p.1 p.2 _ rfl
            conv => whnf
            repeat ((refine And.intro ?_ ?_); (focus ((conv => whnf); done)); (conv => whnf))
            exact hr _ _ _ _ _ _ rfl rfl hk
        · have h3 : decide (typesS ts > 0) = false := h3
          simp only [h3] at hk
          conv => whnf
          rw [out_op ho hd2]
          have hf : Fin d 7 ts ns := hf.lo (by omega)
          refine ⟨d + 1, _, _, _, _, _, _, rfl, rfl, ho, ⟨hd0, by have := hf.2; omega⟩, hk.stepv (p := fun p s => Lw _ 3 1 s ∧ p.1.length ≤ _) (fun p s h => ⟨body_le _ _ _ _ _ h, body_len _ _ _ _ _ h⟩) (fun p ts ns mo hl hk => ?_) (fun a er hb => by ((conv => whnf); exact hp _ _ rfl hb))⟩
          have hpl := hl.2
          have hl := hl.1
          have hpb : p.1.length ≤ 900000 := by have := hf.2; simp only [List.tail_cons] at hpl; omega
          have hf := hf.st hl
          conv => whnf
          have hlen : (l).length ≤ 900000 := hln0
          refine ⟨?_, ?_⟩
          · conv => whnf
            refine ⟨⟨rfl, fun _ _ => rfl⟩, ?_⟩
            conv => whnf
            refine ⟨⟨rfl, rfl, rfl, rfl, ?_, ?_⟩, ?_⟩
            · show ((l).length + p.1.length) * 8 ≤ 140737488355328
              omega
            · show (l).length + p.1.length ≤ 9223372036854775807
              omega
            conv => whnf
            repeat ((refine And.intro ?_ ?_); (focus ((conv => whnf); done)); (conv => whnf))
            refine ⟨⟨rfl, rfl, rfl, allLt_ok ⟨trivial, rfl⟩⟩, ?_⟩
            conv => whnf
            refine ⟨⟨rfl, rfl, rfl, rfl, ?_, ?_⟩, ?_⟩
            · show ((l).length + p.1.length + 1) * 8 ≤ 140737488355328
              omega
            · show (l).length + p.1.length + 1 ≤ 9223372036854775807
              omega
            conv => whnf
            repeat ((refine And.intro ?_ ?_); (focus ((conv => whnf); done)); (conv => whnf))
            refine ⟨l ++ p.1 ++ [p.2], _, _, _, _, _, _, _, _, _, _, _, rfl, rfl, PutK.slr hf.sz rfl rfl ?_ ?_ ?_⟩
            · show (l ++ p.1 ++ [p.2]).length = (l).length + p.1.length + 1
              simp only [List.length_append, List.length_cons, List.length_nil]
            · exact kid_app (l) p.1 p.2 _ rfl
            conv => whnf
            repeat ((refine And.intro ?_ ?_); (focus ((conv => whnf); done)); (conv => whnf))
            exact hr _ _ _ _ _ _ rfl rfl hk
          · conv => whnf
            repeat ((refine And.intro ?_ ?_); (focus ((conv => whnf); done)); (conv => whnf))
            refine ⟨⟨rfl, fun _ _ => rfl⟩, ?_⟩
            conv => whnf
            refine ⟨⟨rfl, rfl, rfl, rfl, ?_, ?_⟩, ?_⟩
            · show ((l).length + p.1.length) * 8 ≤ 140737488355328
              omega
            · show (l).length + p.1.length ≤ 9223372036854775807
              omega
            conv => whnf
            repeat ((refine And.intro ?_ ?_); (focus ((conv => whnf); done)); (conv => whnf))
            refine ⟨⟨rfl, rfl, rfl, allLt_ok ⟨trivial, rfl⟩⟩, ?_⟩
            conv => whnf
            refine ⟨⟨rfl, rfl, rfl, rfl, ?_, ?_⟩, ?_⟩
            · show ((l).length + p.1.length + 1) * 8 ≤ 140737488355328
              omega
            · show (l).length + p.1.length + 1 ≤ 9223372036854775807
              omega
            conv => whnf
            repeat ((refine And.intro ?_ ?_); (focus ((conv => whnf); done)); (conv => whnf))
            refine ⟨l ++ p.1 ++ [p.2], _, _, _, _, _, _, _, _, _, _, _, rfl, rfl, PutK.slr hf.sz rfl rfl ?_ ?_ ?_⟩
            · show (l ++ p.1 ++ [p.2]).length = (l).length + p.1.length + 1
              simp only [List.length_append, List.length_cons, List.length_nil]
            · exact kid_app (l) p.1 p.2 _ rfl
            conv => whnf
            repeat ((refine And.intro ?_ ?_); (focus ((conv => whnf); done)); (conv => whnf))
            exact hr _ _ _ _ _ _ rfl rfl hk
end Go.Proofs.YtbcngegcpdppfaaGreatDoor

namespace Go.Proofs.YtbcngegcpdppfaaGreatDoor
open Go.AE Go.Ru
set_option maxRecDepth 100000
set_option pp.maxSteps 2000

def g15 : AG := gput 47 cProc g14
theorem g15_ok : GOk Tryz.prog g15 := gput_ok proc_ok g14_ok

/-- declarations, their places in a row that may grow -/
def cVarsM : AC := fun args K k => ∃ d : Nat, ∃ e ts ns mo op kind, args = [pp, .p (.int .i64 kind)] ∧ K = encP e ts ns op mo ∧ Fine d ts ns ∧
  AK (varsS e kind ⟨ts, ns, mo⟩) (fun l s => k (.ret (.slr 2 0 0 l.length)) (encP e s.ts s.ns op s.mo ++ [kidA l])) (fun a er => ∀ K', k (.pan (wrongV a er)) K')
theorem varsM_ok : COk 46 cVarsM := by
  rintro args K k ⟨d, e, ts, ns, mo, op, kind, rfl, rfl, hf, hk⟩
  refine call_ok g12_ok 19 _ _ _ _ ?_
  have hf := hf.fin
  unfold varsS at hk
  conv => whnf
  refine loop_nil (ι := LC) 3 1 (fun i => pvs (kidF [] i)) (fun i => ⟨[(0, pp), (1, .p (.int .i64 kind)), (5, .slr 2 0 0 i.l.length)], encP e i.ts i.ns op i.mo ++ [kidA i.l]⟩)
      (fun i => i.ts.length ≤ i.n ∧ i.n ≤ 900001 ∧ i.l.length + i.ts.length ≤ 900000 ∧ Fin d 0 i.ts i.ns ∧ AK (varsL e kind i.n i.l ⟨i.ts, i.ns, i.mo⟩)
        (fun l s => k (.ret (.slr 2 0 0 l.length)) (encP e s.ts s.ns op s.mo ++ [kidA l])) (fun a er => ∀ K', k (.pan (wrongV a er)) K'))
      (fun i => i.n) ⟨ts, ns, mo, [], ts.length⟩ (encP e ts ns op mo)
      rfl ⟨.inl (AV.le_refl _), .inl (AV.le_refl _), .inr ⟨rfl, rfl⟩, trivial⟩ (nswK.refl _ _) rfl
      ⟨Nat.le_refl _, ?_, ?_, hf, hk⟩ ?_
  · have := hf.s; show ts.length ≤ 900001; omega
  · have := hf.s; show 0 + ts.length ≤ 900000; omega
  clear hk hf
  rintro Y hle ⟨ts, ns, mo, l, n⟩ ⟨hn, hn2, hln, hf, hk⟩ ih
  simp only at hn hn2 hln hf hk
  conv => whnf
  refine ⟨_, _, _, _, _, _, _, rfl, rfl, ?_⟩
  conv => whnf
  refine two_intro (fun h => ?_) (fun h => ?_)
  · have h : isS [118, 97, 114] ts = true := h
    cases n with
    | zero => have := isS_pos h; simp only at this; omega
    | succ n =>
    obtain ⟨t0, ts, rfl⟩ : ∃ t r, ts = t :: r := by
      cases ts with
      | nil => simp [isS] at h
      | cons t r => exact ⟨t, r, rfl⟩
    simp only [varsL, h, bindA, dropS] at hk
    conv => whnf
    refine ⟨_, _, _, _, _, _, _, rfl, rfl, ?_⟩
    conv => whnf
    have hf : Fin d 4 ts ns := ⟨hf.1, by have := hf.2; simp only [List.length_cons] at this; omega⟩
    refine ⟨_, _, _, _, _, _, rfl, rfl, hk.step (ident_le _ _) (fun t ts2 ns2 mo2 hl hk => ?_) (fun a er hb => by (conv => whnf); exact hb _)⟩
    have hf := hf.st hl
    have hl1 := hl.2
    conv => whnf
    refine ⟨d, _, _, _, _, _, _, _, _, _, rfl, rfl, hf.fine, hk.step (typed_le _ _ _ _ _) (fun x ts3 ns3 mo3 hl hk => ?_) (fun a er hb => by (conv => whnf); exact hb _)⟩
    have hf := hf.st hl
    have hl2 := hl.2
    conv => whnf
    refine ⟨⟨rfl, rfl, rfl, allLt_ok ⟨trivial, rfl⟩⟩, ?_⟩
    conv => whnf
    refine ⟨⟨rfl, rfl, rfl, rfl, ?_, ?_⟩, ?_⟩
    · show (l.length + 1) * 8 ≤ 140737488355328
      omega
    · show l.length + 1 ≤ 9223372036854775807
      omega
    conv => whnf
    refine ⟨_, _, _, _, _, _, _, rfl, rfl, hk.step (want_le _ _ _) (fun _ ts4 ns4 mo4 hl hk => ?_) (fun a er hb => by (conv => whnf); exact hb _)⟩
    have hf := hf.st hl
    have hl3 := hl.2
    conv => whnf
    simp only [List.length_cons, List.tail_cons] at hl1 hl2 hl3 hn hln
    refine hle _ _ (Le.cutEnv 3 rfl rfl ⟨rfl, fun _ _ => rfl, ?_, trivial⟩ ?_ ?_) (ih ⟨ts4, ns4, mo4, l ++ [x], n⟩ (by simp only; omega) ⟨?_, ?_, ?_, hf.lo (by omega), hk⟩)
    · exact kid_cl l x _ 3 rfl
    · exact ⟨AV.le_refl _, AV.le_refl _, AV.le_of_eq (show AV.slr 2 0 0 (l.length + 1) = AV.slr 2 0 0 (l ++ [x]).length by simp), trivial⟩
    · exact ⟨ABlk.le_refl _, ABlk.le_refl _, kidA_snoc l x _ rfl, trivial⟩
    · simp only; omega
    · simp only; omega
    · simp only [List.length_append, List.length_cons, List.length_nil]; omega
  · have h : isS [118, 97, 114] ts = false := h
    have hk : k (.ret (.slr 2 0 0 l.length)) (encP e ts ns op mo ++ [kidA l]) := by
      cases n with
      | zero => exact hk
      | succ n => simp only [varsL, h] at hk; exact hk
    conv => whnf
    exact hk

def g16 : AG := gput 46 cVarsM g15
theorem g16_ok : GOk Tryz.prog g16 := gput_ok varsM_ok g15_ok

theorem AK.vstep {α β : Type} {r : R α} {f : α → PS → R β} {ok : β → PS → Prop} {bad : Int → Int → Prop} (h : AK (r.bind f) ok bad) {ok' : α → PS → Prop} {bad' : Int → Int → Prop} {p : α → PS → Prop} (hp : ∀ a s, r = .ok a s → p a s)
    (h1 : ∀ a ts ns mo, p a ⟨ts, ns, mo⟩ → AK (f a ⟨ts, ns, mo⟩) ok bad → ok' a ⟨ts, ns, mo⟩) (h2 : ∀ a er, bad a er → bad' a er) : AK r ok' bad' := by
  cases r with
  | ok a s => exact h1 _ _ _ _ (hp _ _ rfl) h
  | bad a er => exact h2 _ _ h

def cProgram : AC := fun args K k => ∃ e ts ns mo X, args = [pp] ∧ K = encP e ts ns 0 mo ++ X ∧ Fine 40 ts ns ∧
  After e (programS e ⟨ts, ns, mo⟩) intV 0 X k
theorem varsS_len (e kind : Int) (s : PS) : ∀ l s', varsS e kind s = .ok l s' → Lw s 0 0 s' ∧ l.length + s'.ts.length ≤ s.ts.length := fun l s' h =>
  ⟨vars_le e kind s l s' h, by have := varsL_len e kind _ _ _ _ _ h; simpa using this⟩
theorem program_ok : COk 22 cProgram := by
  rintro args K k ⟨e, ts, ns, mo, X, rfl, rfl, hf, hk⟩
  refine frameP g16_ok 19 rfl fun Q hr hp => ?_
  have hk := hk.ak
  have hf := hf.fin
  unfold programS at hk
  conv => whnf
  refine ⟨40, _, _, _, _, _, _, rfl, rfl, hf.fine, hk.vstep (varsS_len _ _ _) (fun vs ts2 ns2 mo2 hl hk => ?_) (fun a er hb K' => by (conv => whnf); show fK K' _; rw [fK_eq]; exact hp _ _ rfl hb)⟩
  have hln := hl.2
  have hf0 := hf.s
  have hf := hf.st hl.1
  simp only at hln
  conv => whnf
  refine loop_by (ι := LC) (fun i => ⟨[(0, pp), (3, .slr 2 0 0 i.l.length)], encP e i.ts i.ns 0 i.mo ++ [kidA i.l]⟩)
      (fun i => i.ts.length ≤ i.n ∧ i.n ≤ 900001 ∧ i.l.length + i.ts.length ≤ 900000 ∧ Fin 40 0 i.ts i.ns ∧ AK ((procsL e 40 i.n i.l ⟨i.ts, i.ns, i.mo⟩).bind fun l s => putS ⟨1, 0, 0, [], l⟩ s)
        (fun a s => k (.ret (intV a)) (encP e s.ts s.ns 0 s.mo ++ X)) (fun a er => k (.pan (wrongV a er)) (deads 2 ++ X)))
      (fun i => i.n) ⟨ts2, ns2, mo2, vs, ts2.length⟩ ⟨AV.le_refl _, AV.le_refl _, trivial⟩ (lesK.refl _)
      ⟨Nat.le_refl _, ?_, ?_, hf, hk⟩ ?_
  · have := hf.s; show ts2.length ≤ 900001; omega
  · show vs.length + ts2.length ≤ 900000; omega
  clear hk hf hln hl hf0
  rintro Y hle ⟨ts, ns, mo, l, n⟩ ⟨hn, hn2, hln, hf, hk⟩ ih
  simp only at hn hn2 hln hf hk
  conv => whnf
  refine ⟨by simp <;> omega, ?_⟩
  conv => whnf
  rw [enc_hd]
  conv => whnf
  refine two_intro (fun h => ?_) (fun h => ?_)
  · have h : (hdK ts != 5) = true := h
    cases n with
    | zero =>
      cases ts with
      | nil => simp [hdK] at h
      | cons t r => simp at hn
    | succ n =>
    obtain ⟨t, r, rfl⟩ : ∃ t r, ts = t :: r := by
      cases ts with
      | nil => simp [hdK] at h
      | cons t r => exact ⟨t, r, rfl⟩
    simp only [procsL, bindA] at hk
    conv => whnf
    refine ⟨40, _, _, _, _, _, _, rfl, rfl, rfl, hf.fine, hk.step (proc_le _ _ _) (fun x ts3 ns3 mo3 hl hk => ?_) (fun a er hb => by ((conv => whnf); exact hp _ _ rfl hb))⟩
    have hf := hf.st hl
    have hl2 := hl.2
    simp only [List.length_cons] at hl2 hn hln
    conv => whnf
    refine ⟨⟨rfl, rfl, rfl, allLt_ok ⟨trivial, rfl⟩⟩, ?_⟩
    conv => whnf
    refine ⟨⟨rfl, rfl, rfl, rfl, ?_, ?_⟩, ?_⟩
    · show (l.length + 1) * 8 ≤ 140737488355328
      omega
    · show l.length + 1 ≤ 9223372036854775807
      omega
    conv => whnf
    refine hle _ _ (Le.cutEnv 3 rfl rfl ⟨rfl, fun _ _ => rfl, ?_, trivial⟩ ?_ ?_) (ih ⟨ts3, ns3, mo3, l ++ [x], n⟩ (by simp only; omega) ⟨?_, ?_, ?_, hf.lo (by omega), hk⟩)
    · exact kid_cl l x _ 3 rfl
    · exact ⟨AV.le_refl _, AV.le_of_eq (show AV.slr 2 0 0 (l.length + 1) = AV.slr 2 0 0 (l ++ [x]).length by simp), trivial⟩
    · exact ⟨ABlk.le_refl _, ABlk.le_refl _, kidA_snoc l x _ rfl, trivial⟩
    · simp only; omega
    · simp only; omega
    · simp only [List.length_append, List.length_cons, List.length_nil]; omega
  · have h : (hdK ts != 5) = false := h
    obtain rfl : ts = [] := by
      cases ts with
      | nil => rfl
      | cons t r =>
        obtain ⟨tk, _, _, _⟩ := t
        cases tk <;> simp [hdK, TK.code] at h
    replace hk : AK (putS ⟨1, 0, 0, [], l⟩ ⟨[], ns, mo⟩) (fun a s => k (.ret (intV a)) (encP e s.ts s.ns 0 s.mo ++ X)) (fun a er => k (.pan (wrongV a er)) (deads 2 ++ X)) := by
      cases n <;> exact hk
    conv => whnf
    refine ⟨l, _, _, _, _, _, _, _, _, _, _, _, rfl, rfl, PutK.slr hf.sz rfl rfl rfl (fun _ _ => rfl) ?_⟩
    conv => whnf
    exact hr _ _ _ _ _ _ rfl rfl hk
end Go.Proofs.YtbcngegcpdppfaaGreatDoor

namespace Go.AE

def plainOp : Op → Bool
  | .move _ | .assign _ | .alloc _ | .store _ _ _ | .load _ _ | .extract _ _ | .typeAssert _ _ _ _ | .fieldAddr _ _ _ => true
  | _ => false
def plainL : List Oper → Bool
  | [] => true
  | o :: r => plainOp o.op && o.guard.isNone && plainL r
def isRec : Op → Bool
  | .call c => match c.callee with
    | .builtin .recover => true
    | _ => false
  | _ => false
def deferOf (o : Oper) : Option Nat := match o.op with
  | .defer c => match c.callee with
    | .value (.tmp d) => match c.args.toList with
      | [] => match o.dst with
        | none => match o.guard with
          | none => some d
          | some _ => none
        | some _ => none
      | _ => none
    | _ => none
  | _ => none

/-- the call that was put off -/
noncomputable def recE (T : Tab) (fn : Func) (k : List ABlk → Prop) (e : Ex) (s : AS) : Prop := match e with
  | .norm => ares T fn s fun _ => fK s.K k
  | .ret => ares T fn s fun _ => fK s.K k
  | _ => False
noncomputable def recM (T : Tab) (call : ACall) (fn : Func) (kb : Nat) (y : Code) (k : List ABlk → Prop) (e : Ex) (s : AS) : Prop := match e with
  | .norm => awp T call kb fn.ntmps y s (recE T fn k)
  | _ => False
noncomputable def recW (T : Tab) (call : ACall) (fn : Func) (caps : List AV) (K : List ABlk) (rv : AV) (k : List ABlk → Prop) : Prop :=
  match fn.body with
  | some (.seq (.region _ ops false) y) => match ops.toList with
    | o0 :: os => match isRec o0.op, o0.dst, o0.guard with
      | true, some d, none => match plainL os && Nat.ble (len caps) fn.ntmps && Nat.blt d fn.ntmps && noRF y with
        | true => fV rv fun rv => aops T call fn.ntmps ops.toList os ((d, rv) :: frame0 0 caps) K (recM T call fn (len K) y k)
        | false => False
      | _, _, _ => False
    | [] => False
  | _ => False

/-- behind the body -/
noncomputable def bEnd (T : Tab) (fn : Func) (k : AO → List ABlk → Prop) (e : Ex) (s : AS) : Prop := match e with
  | .norm => ares T fn s fun v => fK s.K fun K => k (.ret v) K
  | .ret => ares T fn s fun v => fK s.K fun K => k (.ret v) K
  | .pan v => fV v fun v => fK s.K fun K => k (.pan v) K
  | .exit _ => False
noncomputable def dRes (T : Tab) (fn : Func) (k : AO → List ABlk → Prop) (t : List (Nat × AV)) (K : List ABlk) : Prop := ares T fn ⟨t, K⟩ fun v => fK K fun K => k (.ret v) K
noncomputable def dEnd (T : Tab) (call : ACall) (fn gf : Func) (caps : List AV) (k : AO → List ABlk → Prop) (e : Ex) (s : AS) : Prop := match e with
  | .norm => recW T call gf caps s.K (.p .nili) (dRes T fn k s.t)
  | .ret => recW T call gf caps s.K (.p .nili) (dRes T fn k s.t)
  | .pan v => recW T call gf caps s.K v (dRes T fn k s.t)
  | .exit _ => False
noncomputable def dMid (T : Tab) (call : ACall) (fn : Func) (o1 : Oper) (d : Nat) (y : Code) (k : AO → List ABlk → Prop) (s : AS) : Prop :=
  bound fn.ntmps o1.dst <| aop T call o1 s.t s.K (fun v K' => match look (put s.t o1.dst v) d with
    | .fn g first caps => match first with
      | [] => match T.f.get g with
        | some gf => match gf.body.isSome with
          | true => awp T call (len K') fn.ntmps y ⟨put s.t o1.dst v, K'⟩ (dEnd T call fn gf caps k)
          | false => False
        | none => False
      | _ => False
    | _ => False) (fun _ _ => False)
noncomputable def abodyD (T : Tab) (call : ACall) (fn : Func) (args : List AV) (K : List ABlk) (k : AO → List ABlk → Prop) : Prop :=
  match fn.body with
  | some (.seq c1 (.seq c2 (.seq c3 (.seq (.region _ ops false) y)))) => match ops.toList with
    | [o1, o2] => match deferOf o2, o1.guard with
      | some d, none => match Nat.ble (len args) fn.ntmps && noRF c1 && noRF c2 && noRF c3 && noRF y with
        | true => fK K fun K => awp T call (len K) fn.ntmps c1 ⟨frame0 0 args, K⟩ (wSeqK (fun s Q => awp T call (len K) fn.ntmps c2 s (wSeqK (fun s Q => awp T call (len K) fn.ntmps c3 s (wSeqK (fun s _ => dMid T call fn o1 d y k s) Q)) Q)) (bEnd T fn k))
        | false => False
      | _, _ => False
    | _ => False
  | _ => False

section
variable {P : Program} {T : Tab} {call : ACall} {we : World} {me : Mp} {N kb : Nat} {D0 : List Deferred} {bm : Bool} {ro : Option Nat} {nn : Nat}

def isPl : Result Next → Bool
  | .ok (.value _) _ => true
  | .ok .skip _ => true
  | .halt _ _ => true
  | _ => false
theorem isPl_val (s : Sem Value) (w : World) : isPl ((do pure (Next.value (← s)) : Sem Next).run P w) = true := by
  cases h : s.run P w <;> simp [h, isPl]
theorem isPl_skip (s : Sem Unit) (w : World) : isPl ((do s; pure Next.skip : Sem Next).run P w) = true := by
  cases h : s.run P w <;> simp [h, isPl]
theorem exec_plain {o : Oper} (hp : plainOp o.op = true) (ρ : Operand → Value) (w : World) : isPl ((execOp ρ o).run P w) = true := by
  unfold execOp
  cases hop : o.op <;> rw [hop] at hp <;> first | (simp [plainOp] at hp; done) | exact isPl_val _ _ | exact isPl_skip _ _ | rfl

/-- quiet operations behind recover -/
theorem aopsS_ok (hT : TabOk P T) (hcall : CallOk P call) {ops : Array Oper} {Q : Ex → AS → Prop} {cs : List Frame} (l : List Oper) : ∀ (i : Nat) (t : List (Nat × AV)) (K : List ABlk), (∀ j, l[j]? = ops[i + j]?) → plainL l = true →
    aops T call N ops.toList l t K Q → ∀ (w : World) (m : Mp) (a : Act), Tr we me w m → St w m (hp K) → EnvOk w m t a.tmps → a.tmps.size = N → Mk bm we D0 w m a.defers →
    wpOpsSIn (FW none) nn P ops (fun e a cs' w' => cs' = cs ∧ Rel bm N we me D0 Q e a w') (List.range' i l.length) a cs w := by
  induction l with
  | nil => intro i t K _ _ h w m a hTr hS hE hN hd; exact ⟨rfl, hN, m, ⟨t, K⟩, hd, hTr, hS, hE, h⟩
  | cons o rest ih =>
    intro i t K hl hp h w m a hTr hS hE hN hd
    simp only [plainL, Bool.and_eq_true] at hp
    obtain ⟨⟨hp1, hg⟩, hp2⟩ := hp
    have hg : o.guard = none := by simpa using hg
    rw [aops_cons] at h
    simp only [want, hg] at h
    obtain ⟨hb, h⟩ := bound_ok h
    have h0 : ops[i]? = some o := by simpa using (hl 0).symm
    simp only [List.length_cons, List.range'_succ, wpOpsSIn, h0]
    refine ⟨fun _ _ => trivial, ?_⟩
    rw [if_pos (by simp [Region.wanted, hg])]
    have hu := aop_ok (ro := none) (nn := nn) (next := fun a w => wpOpsSIn (FW none) nn P ops (fun e a cs' w' => cs' = cs ∧ Rel bm N we me D0 Q e a w') (List.range' (i + 1) rest.length) a cs w)
      (Q := fun e a w => cs = cs ∧ Rel bm N we me D0 Q e a w) hT hcall hS hE (fun w' m' v K' u h1 h2 h3 h4 => ih (i + 1) _ _ (fun j => by have := hl (j + 1); simpa [Nat.add_assoc, Nat.add_comm 1 j] using this) hp2 h4 w' m' _ (hTr.trans h1) h2
        ((hE.mono h1).put (fun x hx => by rw [hN]; exact hb x hx) h3) (by rw [put_size]; exact hN) (by rw [put_defers]; exact hd.mono h1))
      (fun w' m' v K' u h1 h2 h3 h4 => ⟨rfl, hN, m', ⟨t, K'⟩, v, u, hd.mono h1, rfl, hTr.trans h1, h2, hE.mono h1, h3, h4⟩) h
    have hpl := exec_plain (P := P) hp1 a.eval w
    generalize (execOp a.eval o).run P w = r at hpl hu ⊢
    cases r with
    | ok x w' => cases x <;> first | exact hu | simp [isPl] at hpl
    | halt x w' => cases x <;> first | exact ⟨trivial, hu.2⟩ | exact hu.elim

theorem wpOpsSIn_mono {ops : Array Oper} {Q Q' : Exit → Act → List Frame → World → Prop} {l : List Nat} {a : Act} {cs : List Frame} {w : World} (h : wpOpsSIn (FW none) nn P ops Q l a cs w) (hq : ∀ e a cs w, Q e a cs w → Q' e a cs w) : wpOpsSIn (FW none) nn P ops Q' l a cs w := by
  induction l generalizing a cs w with
  | nil => exact hq _ _ _ _ h
  | cons i rest ih =>
    simp only [wpOpsSIn] at h ⊢
    cases ho : ops[i]? with
    | none => rw [ho] at h; exact ih h
    | some o =>
      rw [ho] at h
      simp only at h ⊢
      refine ⟨h.1, ?_⟩
      have h := h.2
      split at h
      · rename_i hw
        rw [if_pos hw]
        generalize (execOp a.eval o).run P w = r at h ⊢
        cases r with
        | ok x w' =>
          cases x with
          | recover =>
            simp only at h ⊢
            cases hrd : recoverD cs with
            | none => rw [hrd] at h; exact ih h
            | some x => rw [hrd] at h; exact ih h
          | value v => exact ih h
          | skip => exact ih h
          | _ => exact h.elim
        | halt x w' => cases x <;> first | exact hq _ _ _ _ h | exact h.elim
      · rename_i hw
        rw [if_neg hw]
        exact ih h

theorem ares_nores (hT : TabOk P T) {w : World} {m : Mp} {s : AS} {a : Act} (hS : St w m (hp s.K)) (hE : EnvOk w m s.t a.tmps) {fn : Func} {q : Prop} (h : ares T fn s fun _ => q) : (∃ u, (results fn a.tmps).run P w = .ok u w) ∧ q := by
  obtain ⟨u, v, h1, _, h3⟩ := ares_ok hT hS hE h
  exact ⟨⟨u, h1⟩, h3⟩

theorem recW_ok (hT : TabOk P T) (hcall : CallOk P call) (hmix : P.follows .mixedOrders = true) {g : FuncId} {fn : Func} (hf : P.funcs[g]? = some fn) {caps : List AV} {K : List ABlk} {rv : AV} {k : List ABlk → Prop} (h : recW T call fn caps K rv k)
    {w : World} {m : Mp} {U : Array Value} {u : FrameMode} (hS : St w m (hp K)) (hU : VL w m caps U)
    (hrec : ∀ (c₀ : Frame) cs, c₀.mode = u → ∃ x u', V w m rv x ∧ settle u' = .returning ∧ (recoverD (c₀ :: cs) = some (x, { c₀ with mode := u' } :: cs) ∨ (recoverD (c₀ :: cs) = none ∧ x = .nilIface ∧ u' = u))) :
    CallsDIn (FW none) nn P g U u w (fun e u' w' => (∃ v, e = .returned v) ∧ settle u' = .returning ∧ ∃ m' K', Tr w m w' m' ∧ St w' m' (hp K') ∧ k K') := by
  unfold recW at h
  split at h
  case h_2 => exact h.elim
  rename_i id ops y hb
  split at h
  case h_2 => exact h.elim
  rename_i o0 os hops
  split at h
  case h_2 => exact h.elim
  rename_i d hr0 hd0 hg0
  split at h
  case h_2 => exact h.elim
  rename_i hchk
  simp only [Bool.and_eq_true] at hchk
  obtain ⟨⟨⟨hpl, hle⟩, hdlt⟩, hrf⟩ := hchk
  have hle : caps.length ≤ fn.ntmps := by have := Nat.le_of_ble_eq_true hle; rwa [len_eq] at this
  have hdlt : d < fn.ntmps := Nat.le_of_ble_eq_true hdlt
  rw [fV_eq] at h
  have hkb : ∀ r, len K ≤ r → m.L r = .absent := fun r hr => hS.absent (by
    simp only [hp, nth_eq]
    rw [len_eq] at hr
    rw [List.getElem?_eq_none hr])
  refine callsDIn_of_wpSIn hf hb trivial fun c₀ cs hu => ?_
  obtain ⟨x, u', hx, hset, hrd⟩ := hrec c₀ cs hu
  refine wpSIn_seq (wpSIn_region ?_)
  have hsz : ops.size = os.length + 1 := by rw [← Array.length_toList, hops]; rfl
  have hr : List.range ops.size = 0 :: List.range' 1 os.length := by
    rw [hsz, List.range_eq_range', List.range'_succ]
  rw [hr]
  have h0 : ops[0]? = some o0 := by rw [← Array.getElem?_toList, hops]; rfl
  simp only [wpOpsSIn, h0]
  refine ⟨fun _ _ => trivial, ?_⟩
  rw [if_pos (by simp [Region.wanted, hg0])]
  have hexec : (execOp (Act.eval { tmps := U ++ Array.replicate (fn.ntmps - U.size) undef, defers := [] }) o0).run P w = .ok .recover w := by
    unfold isRec at hr0
    split at hr0
    case h_2 => simp at hr0
    rename_i c hop
    split at hr0
    case h_2 => simp at hr0
    rename_i hc
    unfold execOp
    simp only [hop, resolve, hc]
    simp [go_sem, invoke, builtin]
  rw [hexec]
  have hN : (U ++ Array.replicate (fn.ntmps - U.size) undef).size = fn.ntmps := by simp; have := hU.1; omega
  have hE0 : EnvOk w m ((d, rv) :: frame0 0 caps) ((U ++ Array.replicate (fn.ntmps - U.size) undef).setIfInBounds d x) := (EnvOk.frame hU _).set (by rw [hN]; exact hdlt) hx
  -- what stands behind the first operation
  have key : wpOpsSIn (FW none) nn P ops (Exit.thenS (y.wpSIn (FW none) nn P (bodyPostS P fn c₀ cs fun e u' w' => (∃ v, e = .returned v) ∧ settle u' = .returning ∧ ∃ m' K', Tr w m w' m' ∧ St w' m' (hp K') ∧ k K'))
      (bodyPostS P fn c₀ cs fun e u' w' => (∃ v, e = .returned v) ∧ settle u' = .returning ∧ ∃ m' K', Tr w m w' m' ∧ St w' m' (hp K') ∧ k K')) (List.range' 1 os.length)
      { tmps := (U ++ Array.replicate (fn.ntmps - U.size) undef).setIfInBounds d x, defers := [] } ({ c₀ with mode := u' } :: cs) w := by
    refine wpOpsSIn_mono (aopsS_ok (bm := false) (D0 := []) (we := w) (me := m) (cs := { c₀ with mode := u' } :: cs) hT hcall os 1 _ K (fun j => ?_) hpl h w m _ (Tr.refl w m) hS hE0 (by simpa using hN) .base) ?_
    · rw [← Array.getElem?_toList, hops, Nat.add_comm]; rfl
    rintro e a1 cs1 w1 ⟨rfl, hR⟩
    cases e with
    | normal =>
      obtain ⟨hN1, m1, s1, hd1, hT1, hS1, hE1, hQ⟩ := hR
      refine wpSIn_of_wpIn rfl (wpIn_mono (awp_ok (ro := none) (bm := false) (D0 := []) (we := w) (me := m) hT hcall hmix hkb (fun d hd => by simp at hd) y _ _ hQ w1 m1 a1 hT1 hS1 hE1 hN1 hd1 (.inr hrf)) fun e a2 w2 hR2 => ?_)
      have fin : ∀ (m2 : Mp) (s2 : AS), Mk false w [] w2 m2 a2.defers → Tr w m w2 m2 → St w2 m2 (hp s2.K) → EnvOk w2 m2 s2.t a2.tmps → (ares T fn s2 fun _ => fK s2.K k) →
          a2.defers = [] ∧ ∃ u1, ({ c₀ with mode := u' } :: cs : List Frame) = { c₀ with mode := u1 } :: cs ∧ ∃ v, (results fn a2.tmps).run P w2 = .ok v w2 ∧ ((∃ v', Ending.returned v = .returned v') ∧ settle u1 = .returning ∧ ∃ m' K', Tr w m w2 m' ∧ St w2 m' (hp K') ∧ k K') := by
        intro m2 s2 hd2 hT2 hS2 hE2 hQ2
        obtain ⟨⟨v, hv⟩, hk⟩ := ares_nores (a := a2) hT hS2 hE2 hQ2
        rw [fK_eq] at hk
        refine ⟨?_, u', rfl, v, hv, ⟨v, rfl⟩, hset, m2, s2.K, hT2, hS2, hk⟩
        generalize a2.defers = ds at hd2
        cases hd2 with
        | base => rfl
        | mark hb => simp at hb
      cases e with
      | normal => obtain ⟨_, m2, s2, hd2, hT2, hS2, hE2, hQ2⟩ := hR2; exact fin m2 s2 hd2 hT2 hS2 hE2 hQ2
      | ret => obtain ⟨_, m2, s2, hd2, hT2, hS2, hE2, hQ2⟩ := hR2; exact fin m2 s2 hd2 hT2 hS2 hE2 hQ2
      | exit n => obtain ⟨_, _, _, _, _, _, _, hQ2⟩ := hR2; exact hQ2.elim
      | panic ch => obtain ⟨_, _, _, _, _, _, _, _, _, _, _, hQ2⟩ := hR2; exact hQ2.elim
      | goto l => exact hR2.elim
      | outgrown => exact hR2.elim
    | exit n => obtain ⟨_, _, _, _, _, _, _, hQ2⟩ := hR; exact hQ2.elim
    | ret => obtain ⟨_, _, _, _, _, _, _, hQ2⟩ := hR; exact hQ2.elim
    | panic ch => obtain ⟨_, _, _, _, _, _, _, _, _, _, _, hQ2⟩ := hR; exact hQ2.elim
    | goto l => exact hR.elim
    | outgrown => exact hR.elim
  rcases hrd with hrd | ⟨hrd, rfl, rfl⟩
  · simp only [hrd, hd0, Act.put]
    exact key
  · simp only [hrd, hd0, Act.put]
    subst hu
    exact key

theorem mk_false {w : World} {m : Mp} {ds : List Deferred} (h : Mk false we D0 w m ds) : ds = D0 := by
  cases h with
  | base => rfl
  | mark hb => simp at hb

/-- behind a body that put nothing off -/
theorem bEnd_ok (hT : TabOk P T) {fn : Func} {k : AO → List ABlk → Prop} {e : Exit} {a : Act} {w : World} (h : Rel false N we me [] (bEnd T fn k) e a w) : bodyPostM (FW none) nn P fn (Post we me k) e a w := by
  cases e with
  | normal =>
    obtain ⟨_, m', s', hd, h1, h2, h3, h4⟩ := h
    obtain ⟨u, v, h5, h6, h7⟩ := ares_ok (s := s') (a := a) hT h2 h3 h4
    rw [fK_eq] at h7
    show LeavesInM (FW none) nn P fn a.tmps _ a.defers .returning w
    rw [mk_false hd]
    exact ⟨u, h5, m', v, s'.K, h1, h2, h6, h7⟩
  | ret =>
    obtain ⟨_, m', s', hd, h1, h2, h3, h4⟩ := h
    obtain ⟨u, v, h5, h6, h7⟩ := ares_ok (s := s') (a := a) hT h2 h3 h4
    rw [fK_eq] at h7
    show LeavesInM (FW none) nn P fn a.tmps _ a.defers .returning w
    rw [mk_false hd]
    exact ⟨u, h5, m', v, s'.K, h1, h2, h6, h7⟩
  | panic ch =>
    obtain ⟨_, m', s', v, u, hd, rfl, h1, h2, h3, h4, h5⟩ := h
    simp only [bEnd, fV_eq, fK_eq] at h5
    show LeavesInM (FW none) nn P fn a.tmps _ a.defers (.panicking _) w
    rw [mk_false hd]
    exact ⟨m', v, u, s'.K, rfl, h1, h2, h4, h5⟩
  | exit n => obtain ⟨_, _, _, _, _, _, _, h⟩ := h; exact h.elim
  | goto l => exact h
  | outgrown => exact h.elim

theorem dRes_ok (hT : TabOk P T) {fn : Func} {k : AO → List ABlk → Prop} {t : List (Nat × AV)} {K : List ABlk} {tmps : Array Value} {w : World} {m : Mp} (h : dRes T fn k t K) (hTr : Tr we me w m) (hS : St w m (hp K)) (hE : EnvOk w m t tmps) :
    LeavesInM (FW none) nn P fn tmps (Post we me k) [] .returning w := by
  unfold dRes at h
  obtain ⟨u, v, h5, h6, h7⟩ := ares_ok (s := ⟨t, K⟩) (a := { tmps := tmps, defers := [] }) hT hS hE h
  rw [fK_eq] at h7
  exact ⟨u, h5, m, v, K, hTr, hS, h6, h7⟩

theorem dEnd_ok (hT : TabOk P T) (hcall : CallOk P call) (hmix : P.follows .mixedOrders = true) {fn gf : Func} {g : FuncId} (hent : Ent P g) (hg : P.funcs[g]? = some gf) {caps : List AV} {U : Array Value} {k : AO → List ABlk → Prop} {w1 : World} {m1 : Mp}
    (hT1 : Tr we me w1 m1) (hU : VL w1 m1 caps U) {e : Exit} {a : Act} {w : World} (h : Rel false N w1 m1 [{ target := .fn (.func g) U, args := #[] }] (dEnd T call fn gf caps k) e a w) :
    bodyPostM (FW none) nn P fn (Post we me k) e a w := by
  have core : ∀ (u : FrameMode) (m' : Mp) (s' : AS) (rv : AV), u ≠ .run → Mk false w1 [{ target := .fn (.func g) U, args := #[] }] w m' a.defers → Tr w1 m1 w m' → St w m' (hp s'.K) → EnvOk w m' s'.t a.tmps →
      recW T call gf caps s'.K rv (dRes T fn k s'.t) →
      (∀ (c₀ : Frame) cs, c₀.mode = u → ∃ x u', V w m' rv x ∧ settle u' = .returning ∧ (recoverD (c₀ :: cs) = some (x, { c₀ with mode := u' } :: cs) ∨ (recoverD (c₀ :: cs) = none ∧ x = .nilIface ∧ u' = u))) →
      LeavesInM (FW none) nn P fn a.tmps (Post we me k) a.defers u w := by
    intro u m' s' rv hu hd h1 h2 h3 h4 hrec
    rw [mk_false hd]
    refine ⟨hu, .inr ⟨FW.depth, .func g, U, g, U, rfl, ?_, fun _ _ => trivial, ?_⟩⟩
    · simp [invoke, callFunc_run hent]
    · refine CallsDIn.mono (recW_ok hT hcall hmix hg h4 h2 ⟨hU.1, fun j hj hj' => (hU.2 j hj hj').mono h1⟩ hrec) ?_
      rintro e u' w' ⟨⟨v, rfl⟩, hset, m2, K2, h5, h6, h7⟩
      show LeavesInM (FW none) nn P fn a.tmps (Post we me k) [] (settle u') w'
      rw [hset]
      exact dRes_ok hT h7 (hT1.trans (h1.trans h5)) h6 (h3.mono h5)
  have ret : ∀ (m' : Mp) (c₀ : Frame) (cs : List Frame), c₀.mode = .returning → ∃ x u', V w m' (.p .nili) x ∧ settle u' = .returning ∧ (recoverD (c₀ :: cs) = some (x, { c₀ with mode := u' } :: cs) ∨ (recoverD (c₀ :: cs) = none ∧ x = .nilIface ∧ u' = .returning)) :=
    fun m' c₀ cs hc => ⟨.nilIface, .returning, .p _ _ .nili, rfl, .inr ⟨by simp [recoverD, hc], rfl, rfl⟩⟩
  cases e with
  | normal =>
    obtain ⟨_, m', s', hd, h1, h2, h3, h4⟩ := h
    exact core .returning m' s' _ (by simp) hd h1 h2 h3 h4 (ret m')
  | ret =>
    obtain ⟨_, m', s', hd, h1, h2, h3, h4⟩ := h
    exact core .returning m' s' _ (by simp) hd h1 h2 h3 h4 (ret m')
  | panic ch =>
    obtain ⟨_, m', s', v, u, hd, rfl, h1, h2, h3, h4, h5⟩ := h
    exact core (.panicking [{ v := u, recovered := false }]) m' s' v (by simp) hd h1 h2 h3 h5 fun c₀ cs hc => ⟨u, .panicking [{ v := u, recovered := true }], h4, rfl, .inl (by simp [recoverD, hc])⟩
  | exit n => obtain ⟨_, _, _, _, _, _, _, h⟩ := h; exact h.elim
  | goto l => exact h
  | outgrown => exact h.elim

theorem defer_exec {o : Oper} {d : Nat} (h : deferOf o = some d) {ρ : Operand → Value} {g : FuncId} {B : Array Value} (hv : ρ (.tmp d) = .func (.func g) #[] B) (w : World) :
    o.dst = none ∧ o.guard = none ∧ (execOp ρ o).run P w = .ok (.defer { target := .fn (.func g) B, args := #[] }) w := by
  unfold deferOf at h
  split at h
  case h_2 => simp at h
  rename_i c hop
  split at h
  case h_2 => simp at h
  rename_i x hc
  split at h
  case h_2 => simp at h
  rename_i hargs
  split at h
  case h_2 => simp at h
  rename_i hdst
  split at h
  case h_2 => simp at h
  rename_i hg
  simp only [Option.some.injEq] at h
  subst h
  have hargs : c.args = #[] := by apply Array.ext'; simpa using hargs
  refine ⟨hdst, hg, ?_⟩
  unfold execOp
  simp only [hop]
  simp [resolve, hc, hv, hargs, Deferred.ofValue]

theorem abodyD_ok (hT : TabOk P T) (hcall : CallOk P call) (hmix : P.follows .mixedOrders = true) {f : FuncId} {fn : Func} (hf : P.funcs[f]? = some fn) (hn : (fn.name == "runtime.NumGoroutine") = false) {args : List AV} {K : List ABlk} {k : AO → List ABlk → Prop}
    (h : abodyD T call fn args K k) : ACalls P f args K k := by
  unfold abodyD at h
  split at h
  case h_2 => exact h.elim
  rename_i c1 c2 c3 id ops y hb
  split at h
  case h_2 => exact h.elim
  rename_i o1 o2 hops
  split at h
  case h_2 => exact h.elim
  rename_i d hdo hg1
  split at h
  case h_2 => exact h.elim
  rename_i hchk
  simp only [Bool.and_eq_true] at hchk
  obtain ⟨⟨⟨⟨hle, hn1⟩, hn2⟩, hn3⟩, hn4⟩ := hchk
  have hle : args.length ≤ fn.ntmps := by have := Nat.le_of_ble_eq_true hle; rwa [len_eq] at this
  refine ⟨⟨fn, hf, hn, by rw [hb]; rfl⟩, fun w m Args hS hA => (callsIn_wide (n := 0)).1 (callsIn_of_wp_marks hf hb trivial ?_)⟩
  show Code.wpIn (FW none) 0 P _ (bodyPostM (FW none) 0 P fn (Post w m k)) _ w
  rw [fK_eq] at h
  have hkb : ∀ r, len K ≤ r → m.L r = .absent := fun r hr => hS.absent (by
    simp only [hp, nth_eq]
    rw [len_eq] at hr
    rw [List.getElem?_eq_none hr])
  have hD0 : ∀ d ∈ ([] : List Deferred), ∀ D, d.target ≠ .collected D := fun d hd => by simp at hd
  refine wpIn_seq (wpIn_mono (awp_ok (ro := none) (bm := false) (D0 := []) (we := w) (me := m) hT hcall hmix hkb hD0 c1 _ _ h w m _ (Tr.refl w m) hS (EnvOk.frame hA _) (by simp; have := hA.1; omega) .base (.inr hn1)) fun e a1 w1 hR => ?_)
  cases e with
  | exit n => exact bEnd_ok (nn := 0) (e := .exit n) (N := fn.ntmps) hT (show Rel false fn.ntmps w m [] (bEnd T fn k) (.exit n) a1 w1 from hR)
  | ret => exact bEnd_ok (nn := 0) (e := .ret) (N := fn.ntmps) hT (show Rel false fn.ntmps w m [] (bEnd T fn k) .ret a1 w1 from hR)
  | panic ch => exact bEnd_ok (nn := 0) (e := .panic ch) (N := fn.ntmps) hT (show Rel false fn.ntmps w m [] (bEnd T fn k) (.panic ch) a1 w1 from hR)
  | goto l => exact hR.elim
  | outgrown => exact hR.elim
  | normal =>
  obtain ⟨hN1, m1, s1, hd1, hT1, hS1, hE1, h1⟩ := hR
  refine wpIn_seq (wpIn_mono (awp_ok (ro := none) (bm := false) (D0 := []) (we := w) (me := m) hT hcall hmix hkb hD0 c2 _ _ h1 w1 m1 a1 hT1 hS1 hE1 hN1 hd1 (.inr hn2)) fun e a2 w2 hR => ?_)
  cases e with
  | exit n => exact bEnd_ok (nn := 0) (e := .exit n) (N := fn.ntmps) hT (show Rel false fn.ntmps w m [] (bEnd T fn k) (.exit n) a2 w2 from hR)
  | ret => exact bEnd_ok (nn := 0) (e := .ret) (N := fn.ntmps) hT (show Rel false fn.ntmps w m [] (bEnd T fn k) .ret a2 w2 from hR)
  | panic ch => exact bEnd_ok (nn := 0) (e := .panic ch) (N := fn.ntmps) hT (show Rel false fn.ntmps w m [] (bEnd T fn k) (.panic ch) a2 w2 from hR)
  | goto l => exact hR.elim
  | outgrown => exact hR.elim
  | normal =>
  obtain ⟨hN2, m2, s2, hd2, hT2, hS2, hE2, h2⟩ := hR
  refine wpIn_seq (wpIn_mono (awp_ok (ro := none) (bm := false) (D0 := []) (we := w) (me := m) hT hcall hmix hkb hD0 c3 _ _ h2 w2 m2 a2 hT2 hS2 hE2 hN2 hd2 (.inr hn3)) fun e a3 w3 hR => ?_)
  cases e with
  | exit n => exact bEnd_ok (nn := 0) (e := .exit n) (N := fn.ntmps) hT (show Rel false fn.ntmps w m [] (bEnd T fn k) (.exit n) a3 w3 from hR)
  | ret => exact bEnd_ok (nn := 0) (e := .ret) (N := fn.ntmps) hT (show Rel false fn.ntmps w m [] (bEnd T fn k) .ret a3 w3 from hR)
  | panic ch => exact bEnd_ok (nn := 0) (e := .panic ch) (N := fn.ntmps) hT (show Rel false fn.ntmps w m [] (bEnd T fn k) (.panic ch) a3 w3 from hR)
  | goto l => exact hR.elim
  | outgrown => exact hR.elim
  | normal =>
  obtain ⟨hN3, m3, s3, hd3, hT3, hS3, hE3, h3⟩ := hR
  simp only [wSeqK, dMid] at h3
  obtain ⟨hb1, h3⟩ := bound_ok h3
  refine wpIn_seq (wpIn_region_list ?_)
  rw [hops]
  unfold wpListIn
  rw [if_pos (by simp [Region.wanted, hg1])]
  refine ⟨fun _ _ => trivial, ?_⟩
  rw [show (FW none).round = none from rfl, Oper.semAt_none]
  refine aop_ok (ro := none) hT hcall hS3 hE3 (fun w4 m4 v K4 u hT4 hS4 hV4 h4 => ?_) (fun w' m' v K' u _ _ _ h4 => h4.elim) h3
  have hE4 := (hE3.mono hT4).put (a := a3) (d := o1.dst) (fun x hx => by rw [hN3]; exact hb1 x hx) hV4
  have hvd := hE4 d
  split at h4
  case h_2 => exact h4.elim
  rename_i g first caps hlk
  split at h4
  case h_2 => exact h4.elim
  split at h4
  case h_2 => exact h4.elim
  rename_i gf hgf
  split at h4
  case h_2 => exact h4.elim
  rename_i hbody
  obtain ⟨hg2, hg3⟩ := hT.f g gf hgf
  rw [hlk] at hvd
  generalize hud : (a3.put o1.dst u).tmps.getD d undef = ud at hvd
  cases hvd with
  | fn _ _ _ A B hA' hB h1 h2' =>
  have hA0 : A = #[] := by
    have : A.size = 0 := by simpa using hA'.symm
    exact Array.eq_empty_of_size_eq_zero this
  subst hA0
  have hev : (a3.put o1.dst u).eval (.tmp d) = .func (.func g) #[] B := hud
  obtain ⟨hx1, hx2, hx3⟩ := defer_exec (P := P) hdo hev w4
  unfold wpListIn
  rw [if_pos (by simp [Region.wanted, hx2])]
  refine ⟨fun _ _ => trivial, ?_⟩
  rw [show (FW none).round = none from rfl, Oper.semAt_none, hx3, Oper.uponIn_defer, hx1]
  show Code.wpIn _ _ _ y _ { a3.put o1.dst u with defers := _ } w4
  have hda : (a3.put o1.dst u).defers = [] := by rw [put_defers]; exact mk_false hd3
  rw [hda]
  have hkb4 : ∀ r, len K4 ≤ r → m4.L r = .absent := fun r hr => hS4.absent (by
    simp only [hp, nth_eq]
    rw [len_eq] at hr
    rw [List.getElem?_eq_none hr])
  have hent : Ent P g := ⟨gf, hg2, hg3, hbody⟩
  refine wpIn_mono (awp_ok (ro := none) (bm := false) (D0 := [{ target := .fn (.func g) B, args := #[] }]) (we := w4) (me := m4) hT hcall hmix hkb4 (fun d hd D => by
    simp only [List.mem_singleton] at hd; subst hd; simp) y _ _ h4 w4 m4 _ (Tr.refl w4 m4) hS4 hE4 (by rw [put_size]; exact hN3) .base (.inr hn4)) fun e a' w' hR => dEnd_ok hT hcall hmix hent hg2 (hT3.trans hT4) ⟨hB, h2'⟩ hR
end
end Go.AE

namespace Go.Proofs.YtbcngegcpdppfaaGreatDoor
open Go.AE Go.Ru
set_option maxRecDepth 100000
set_option pp.maxSteps 3000

/-- what reads something: of a parser's state that stands first -/
def cStd (S : Int → PS → R Int) : AC := fun args K k => ∃ e ts ns mo X, args = [pp] ∧ K = encP e ts ns 0 mo ++ X ∧ Fine 40 ts ns ∧ After e (S e ⟨ts, ns, mo⟩) intV 0 X k
def pbW (e : Int) (ts : List Tok) (nv : AV) (mo : Int) : ABlk := .box 74 [.p (.sl 4 (ts.length + 1) (encs e ts)), nv, intV 0, intV mo]
/-- of one that stands fifth, and has no nodes yet -/
def cWhat (S : Int → PS → R Int) : AC := fun args K k => ∃ (e : Int) (ts : List Tok) (y0 y1 y2 y3 : ABlk), args = [.ptr 4 0 1 0 0] ∧ K = [y0, y1, y2, y3, pbW e ts (.p .nils) 0] ∧ Fine 40 ts [] ∧
  (∀ a ts' ns' mo', S e ⟨ts, [], 0⟩ = .ok a ⟨ts', ns', mo'⟩ → k (.ret (intV a)) [y0, y1, y2, y3, pbW e ts' (.p (.sl 5 ns'.length (nodeF ns'))) mo', .dead]) ∧
  (∀ a er, S e ⟨ts, [], 0⟩ = .bad a er → k (.pan (wrongV a er)) [y0, y1, y2, y3, .dead, .dead])

theorem ups_pvs (n : Nat) (l : List PV) : AV.ups n (pvs l) = pvs l := by
  induction l with
  | nil => rfl
  | cons a l ih => simp [pvs, AV.ups, AV.up, ih]

theorem what_ok {f : FuncId} {S : Int → PS → R Int} (h0 : COk f (cStd S)) : COk f (cWhat S) := by
  rintro args K k ⟨e, ts, y0, y1, y2, y3, rfl, rfl, hf, hk1, hk2⟩
  refine ACalls.post (k := fun ao K1 => (∃ a ts' ns' mo', S e ⟨ts, [], 0⟩ = .ok a ⟨ts', ns', mo'⟩ ∧ ao = .ret (intV a) ∧ K1 = [y0, y1, y2, y3] ++ upsB 4 (encP e ts' ns' 0 mo')) ∨
    (∃ a er, S e ⟨ts, [], 0⟩ = .bad a er ∧ ao = .pan (wrongV a er) ∧ K1 = [y0, y1, y2, y3, .dead, .dead])) ?_ ?_
  · refine ACalls.nilPre (K' := [y0, y1, y2, y3, pbW e ts (.slr 5 0 0 0) 0]) 41 5 (fun i => pvs (nodeF [] i)) ⟨.inl (ABlk.le_refl _), .inl (ABlk.le_refl _), .inl (ABlk.le_refl _), .inl (ABlk.le_refl _), .inr ⟨_, _, _, rfl, rfl, .inl (AV.le_refl _), .inr ⟨rfl, rfl⟩, .inl (AV.le_refl _), .inl (AV.le_refl _), trivial⟩, trivial⟩ ?_
    refine ACalls.shift (n := 4) (Y := [y0, y1, y2, y3]) (K1 := [pbW e ts (.slr 5 0 0 0) 0, .arr 41 5 0 0 (fun i => pvs (nodeF [] i))]) rfl ⟨trivial, trivial, trivial⟩ ?_
    refine ACalls.pre (args' := [pp]) (K' := encP e ts [] 0 0 ++ []) ?_ (fun w m Args hS hV => ⟨m, Tr.refl w m, hS.les ?_, hV⟩)
    · refine h0 _ _ _ ⟨e, ts, [], 0, [], rfl, rfl, hf, ⟨fun a ts' ns' mo' hr => ?_, fun a er hr => ?_⟩⟩
      · exact ⟨⟨trivial, trivial, trivial⟩, .inl ⟨a, ts', ns', mo', hr, rfl, rfl⟩⟩
      · exact ⟨⟨trivial, trivial, trivial⟩, .inr ⟨a, er, hr, rfl, rfl⟩⟩
    · exact ⟨ABlk.le_refl _, ABlk.arr_eq rfl fun i hi => by simp at hi, trivial⟩
  · rintro ao K1 (⟨a, ts', ns', mo', hr, rfl, rfl⟩ | ⟨a, er, hr, rfl, rfl⟩)
    · refine ⟨intV a, _, Wk1.fz (r := 5) (ty := 41) (sz := 5) (n := ns'.length) (f := fun i => AV.ups 4 (pvs (nodeF ns' i))) (nodeF ns') rfl (fun i _ => ups_pvs _ _) ?_ (AV.le_refl _), hk1 a ts' ns' mo' hr⟩
      exact ⟨.inl (ABlk.le_refl _), .inl (ABlk.le_refl _), .inl (ABlk.le_refl _), .inl (ABlk.le_refl _), .inr ⟨_, _, _, rfl, rfl, .inl (AV.le_refl _), .inr ⟨rfl, rfl⟩, .inl (AV.le_refl _), .inl (AV.le_refl _), trivial⟩, .inl (ABlk.le_refl _), trivial⟩
    · exact ⟨_, _, Wk1.refl _ _ _, hk2 a er hr⟩

/-! ### what reading answers -/
inductive RR where
  | bad (at_ err : Int)
  | ok (ns : List Nd) (root mo : Int)
def readS (S : Int → PS → R Int) (s : Bs) : RR :=
  if s.length > 20000 then .bad 0 7 else match cutT s with
  | .bad a => .bad a 2
  | .ok ts => match S s.length ⟨ts, [], 0⟩ with
    | .bad a er => .bad a er
    | .ok root s' => match s'.ts with
      | t :: _ => .bad t.at_ 2
      | [] => if 4000 < s'.ns.length then .bad 0 8 else if 40 < depthS s'.ns root then .bad 0 6 else .ok s'.ns root s'.mo
def readV : RR → AV
  | .bad a er => .tup [.agg [.p .nils, intV 0], intV 0, intV a, intV er]
  | .ok ns root mo => .tup [treeV ns root, intV mo, intV 0, intV 0]

theorem runS_le (l r : Bs) : runS l r ≤ r.length := by
  unfold runS
  exact (List.takeWhile_sublist _).length_le
theorem cutS_len : ∀ (n : Nat) (r : Bs) (i : Nat) (l : List Tok), cutS n r i = .ok l → l.length ≤ r.length := by
  intro n
  induction n with
  | zero => intro r i l h; simp only [cutS, CR.ok.injEq] at h; subst h; exact Nat.zero_le _
  | succ n ih =>
    intro r i l h
    cases r with
    | nil => simp only [cutS, CR.ok.injEq] at h; subst h; exact Nat.zero_le _
    | cons c r' =>
      simp only [cutS] at h
      split at h
      · have := ih _ _ _ h
        simp only [List.length_drop] at this; omega
      split at h
      · have := ih _ _ _ h
        have h2 := (List.dropWhile_sublist (fun c => !(c == (10 : UInt8))) (l := c :: r')).length_le
        omega
      split at h
      · rename_i hp
        split at h
        · cases h
        · rename_i k v hw
          cases hc : cutS n ((c :: r').drop (runS partsT (c :: r'))) (i + runS partsT (c :: r')) with
          | bad a => rw [hc] at h; simp [CR.cons] at h
          | ok l' =>
            rw [hc] at h
            simp only [CR.cons, CR.ok.injEq] at h
            subst h
            have := ih _ _ _ hc
            simp only [List.length_drop, List.length_cons] at this ⊢; omega
      · split at h
        · cases h
        · rename_i m hm
          cases hc : cutS n ((c :: r').drop (m + 1)) (i + (m + 1)) with
          | bad a => rw [hc] at h; simp [CR.cons] at h
          | ok l' =>
            rw [hc] at h
            simp only [CR.cons, CR.ok.injEq] at h
            subst h
            have := ih _ _ _ hc
            simp only [List.length_drop, List.length_cons] at this ⊢; omega

/-! ### read -/
theorem call_okD {G : AG} (hG : GOk Tryz.prog G) (n : Nat) {f : FuncId} {fn : Func} (hf : T0.f.get f = some fn) {args : List AV} {K : List ABlk} {k : AO → List ABlk → Prop} (h : abodyD T0 (acall T0 G n) fn args K k) : ACalls Tryz.prog f args K k := by
  obtain ⟨h1, h2⟩ := tabOk.f f fn hf
  exact abodyD_ok tabOk (acall_ok tabOk (Checked.mixed Tryz.checked) hG n) (Checked.mixed Tryz.checked) h1 h2 h
theorem frame0D {G : AG} (hG : GOk Tryz.prog G) (n : Nat) {f : FuncId} {fn : Func} (hf : T0.f.get f = some fn) {args : List AV} {X : List ABlk} {k : AO → List ABlk → Prop} (hcl : AV.cls 0 args = true)
    (h : ∀ Q : AO → List ABlk → Prop, (∀ v K', v.cl 0 = true → k (.ret v) X → Q (.ret v) K') → abodyD T0 (acall T0 G n) fn args [] Q) : ACalls Tryz.prog f args X k := by
  refine (ACalls.frame (K0 := []) (X := X) (k := fun ao K1 => k ao (K1 ++ X)) hcl (fun r h => by simp at h) (call_okD hG n hf (h _ ?_))).mono fun ao K ⟨K1, h1, h2⟩ => by subst h1; exact h2
  intro v K' h1 h2
  refine ⟨h1, by simp, fun r hr => by simp at hr, ?_⟩
  show k (.ret v) (takeN K' 0 ++ X)
  rw [takeN_zero]; exact h2

def gRd (f : FuncId) (S : Int → PS → R Int) : AG := gput 12 cCutT (gput f (cWhat S) (gput 16 cDepth g0))
theorem gRd_ok {f : FuncId} {S : Int → PS → R Int} (h0 : COk f (cStd S)) : GOk Tryz.prog (gRd f S) := gput_ok cutT_ok (gput_ok (what_ok h0) (gput_ok depth_ok g0_ok))
def cRead (f : FuncId) (S : Int → PS → R Int) : AC := fun args K k => ∃ s, args = [.p (.str s), .p (.fn f)] ∧ s.length < 1000000 ∧ k (.ret (readV (readS S s))) K
theorem readP_ok (S : Int → PS → R Int) (hS : ∀ e ts a s', List.length ts ≤ 20000 → S e ⟨ts, [], 0⟩ = .ok a s' → s'.ns.length < 1000000) (h0 : COk 22 (cStd S)) :
    COk 21 (cRead 22 S) := by
    rintro args K k ⟨s, rfl, hs, hk⟩
    refine frame0D (gRd_ok h0) 19 rfl rfl fun Q hr => ?_
    conv => whnf
    refine ⟨s, rfl, hs, fun h => ?_, fun h => ?_⟩
    · have e : readS S s = .bad 0 7 := by unfold readS; rw [if_pos h]
      rw [e] at hk
      conv => whnf
      repeat ((refine And.intro ?_ ?_); (focus ((conv => whnf); done)); (conv => whnf))
      exact hr _ _ rfl hk
    unfold readS at hk
    rw [if_neg (by omega)] at hk
    cases hc : cutT s with
    | bad a =>
      rw [hc] at hk
      conv => whnf
      repeat ((refine And.intro ?_ ?_); (focus ((conv => whnf); done)); (conv => whnf))
      exact hr _ _ rfl hk
    | ok ts =>
      rw [hc] at hk
      have hln : ts.length ≤ s.length := cutS_len _ _ _ _ hc
      simp only at hk
      conv => whnf
      refine ⟨s.length, ts, _, _, _, _, rfl, rfl, ⟨Nat.le_refl _, by simp only [List.length_nil]; omega⟩, fun a ts2 ns2 mo2 hp => ?_, fun a er hp => ?_⟩
      · have hns := hS _ _ _ _ (by omega) hp
        rw [hp] at hk
        simp only at hk hns
        cases ts2 with
        | cons t r =>
          obtain ⟨tk, tn, ta, tx⟩ := t
          cases tk <;>
          · conv => whnf
            refine ⟨by simp <;> omega, ?_⟩
            conv => whnf
            refine ⟨by simp <;> omega, ?_⟩
            conv => whnf
            repeat ((refine And.intro ?_ ?_); (focus ((conv => whnf); done)); (conv => whnf))
            exact hr _ _ rfl hk
        | nil =>
          conv => whnf
          refine ⟨by simp, ?_⟩
          conv => whnf
          have hd1 : decide ((ns2.length : Int) > 4000) = decide (4000 < ns2.length) := by
            by_cases h : 4000 < ns2.length
            · rw [decide_eq_true h, decide_eq_true (by omega)]
            · rw [decide_eq_false h, decide_eq_false (by omega)]
          refine two_intro (fun h1 => ?_) (fun h1 => ?_)
          · have h1 := of_decide_eq_true (hd1 ▸ h1)
            rw [if_pos h1] at hk
            conv => whnf
            repeat ((refine And.intro ?_ ?_); (focus ((conv => whnf); done)); (conv => whnf))
            exact hr _ _ rfl hk
          have h1 := of_decide_eq_false (hd1 ▸ h1)
          rw [if_neg h1] at hk
          conv => whnf
          refine ⟨ns2, a, rfl, hns, ?_⟩
          conv => whnf
          have hd2 : decide (((depthS ns2 a : Nat) : Int) > 40) = decide (40 < depthS ns2 a) := by
            by_cases h : 40 < depthS ns2 a
            · rw [decide_eq_true h, decide_eq_true (by omega)]
            · rw [decide_eq_false h, decide_eq_false (by omega)]
          refine two_intro (fun h2 => ?_) (fun h2 => ?_)
          · have h2 := of_decide_eq_true (hd2 ▸ h2)
            rw [if_pos h2] at hk
            conv => whnf
            repeat ((refine And.intro ?_ ?_); (focus ((conv => whnf); done)); (conv => whnf))
            exact hr _ _ rfl hk
          have h2 := of_decide_eq_false (hd2 ▸ h2)
          rw [if_neg h2] at hk
          conv => whnf
          repeat ((refine And.intro ?_ ?_); (focus ((conv => whnf); done)); (conv => whnf))
          exact hr _ _ rfl hk
      · rw [hp] at hk
        simp only at hk
        conv => whnf
        repeat ((refine And.intro ?_ ?_); (focus ((conv => whnf); done)); (conv => whnf))
        exact hr _ _ rfl hk
theorem readE_ok (S : Int → PS → R Int) (hS : ∀ e ts a s', List.length ts ≤ 20000 → S e ⟨ts, [], 0⟩ = .ok a s' → s'.ns.length < 1000000) (h0 : COk 31 (cStd S)) :
    COk 21 (cRead 31 S) := by
    rintro args K k ⟨s, rfl, hs, hk⟩
    refine frame0D (gRd_ok h0) 19 rfl rfl fun Q hr => ?_
    conv => whnf
    refine ⟨s, rfl, hs, fun h => ?_, fun h => ?_⟩
    · have e : readS S s = .bad 0 7 := by unfold readS; rw [if_pos h]
      rw [e] at hk
      conv => whnf
      repeat ((refine And.intro ?_ ?_); (focus ((conv => whnf); done)); (conv => whnf))
      exact hr _ _ rfl hk
    unfold readS at hk
    rw [if_neg (by omega)] at hk
    cases hc : cutT s with
    | bad a =>
      rw [hc] at hk
      conv => whnf
      repeat ((refine And.intro ?_ ?_); (focus ((conv => whnf); done)); (conv => whnf))
      exact hr _ _ rfl hk
    | ok ts =>
      rw [hc] at hk
      have hln : ts.length ≤ s.length := cutS_len _ _ _ _ hc
      simp only at hk
      conv => whnf
      refine ⟨s.length, ts, _, _, _, _, rfl, rfl, ⟨Nat.le_refl _, by simp only [List.length_nil]; omega⟩, fun a ts2 ns2 mo2 hp => ?_, fun a er hp => ?_⟩
      · have hns := hS _ _ _ _ (by omega) hp
        rw [hp] at hk
        simp only at hk hns
        cases ts2 with
        | cons t r =>
          obtain ⟨tk, tn, ta, tx⟩ := t
          cases tk <;>
          · conv => whnf
            refine ⟨by simp <;> omega, ?_⟩
            conv => whnf
            refine ⟨by simp <;> omega, ?_⟩
            conv => whnf
            repeat ((refine And.intro ?_ ?_); (focus ((conv => whnf); done)); (conv => whnf))
            exact hr _ _ rfl hk
        | nil =>
          conv => whnf
          refine ⟨by simp, ?_⟩
          conv => whnf
          have hd1 : decide ((ns2.length : Int) > 4000) = decide (4000 < ns2.length) := by
            by_cases h : 4000 < ns2.length
            · rw [decide_eq_true h, decide_eq_true (by omega)]
            · rw [decide_eq_false h, decide_eq_false (by omega)]
          refine two_intro (fun h1 => ?_) (fun h1 => ?_)
          · have h1 := of_decide_eq_true (hd1 ▸ h1)
            rw [if_pos h1] at hk
            conv => whnf
            repeat ((refine And.intro ?_ ?_); (focus ((conv => whnf); done)); (conv => whnf))
            exact hr _ _ rfl hk
          have h1 := of_decide_eq_false (hd1 ▸ h1)
          rw [if_neg h1] at hk
          conv => whnf
          refine ⟨ns2, a, rfl, hns, ?_⟩
          conv => whnf
          have hd2 : decide (((depthS ns2 a : Nat) : Int) > 40) = decide (40 < depthS ns2 a) := by
            by_cases h : 40 < depthS ns2 a
            · rw [decide_eq_true h, decide_eq_true (by omega)]
            · rw [decide_eq_false h, decide_eq_false (by omega)]
          refine two_intro (fun h2 => ?_) (fun h2 => ?_)
          · have h2 := of_decide_eq_true (hd2 ▸ h2)
            rw [if_pos h2] at hk
            conv => whnf
            repeat ((refine And.intro ?_ ?_); (focus ((conv => whnf); done)); (conv => whnf))
            exact hr _ _ rfl hk
          have h2 := of_decide_eq_false (hd2 ▸ h2)
          rw [if_neg h2] at hk
          conv => whnf
          repeat ((refine And.intro ?_ ?_); (focus ((conv => whnf); done)); (conv => whnf))
          exact hr _ _ rfl hk
      · rw [hp] at hk
        simp only at hk
        conv => whnf
        repeat ((refine And.intro ?_ ?_); (focus ((conv => whnf); done)); (conv => whnf))
        exact hr _ _ rfl hk

/-! ### an expression alone -/
def gEx : AG := gput 66 cEx g0
theorem gEx_ok : GOk Tryz.prog gEx := gput_ok ex_ok g0_ok
theorem expression_ok : COk 31 (cStd fun e => exS e 40) := by
  rintro args K k ⟨e, ts, ns, mo, X, rfl, rfl, hf, hk⟩
  refine frameP gEx_ok 19 rfl fun Q hr hp => ?_
  conv => whnf
  refine ⟨40, e, ts, ns, mo, _, _, rfl, rfl, rfl, hf, ⟨fun a ts' ns' mo' hr' => ?_, fun a er hr' => ?_⟩⟩
  · conv => whnf
    exact hr _ _ ts' ns' 0 mo' rfl rfl (hk.ok a ts' ns' mo' hr')
  · conv => whnf
    exact hp _ _ rfl (hk.bad a er hr')

theorem programS_len (e : Int) (ts : List Tok) (a : Int) (s' : PS) (hl : ts.length ≤ 20000) (h : programS e ⟨ts, [], 0⟩ = .ok a s') : s'.ns.length < 1000000 := by
  have : Okk (programS e ⟨ts, [], 0⟩) (fun s' => s'.ns.length < 1000000) := by
    unfold programS
    refine Okk.bind (vars_le e 2 ⟨ts, [], 0⟩) fun l s1 h1 => Okk.bind (procsL_le e 40 _ l s1) fun l2 s2 h2 => (put_len _ s2).imp fun s3 h3 => ?_
    simp only [Lw, List.length_nil] at h1 h2 h3
    omega
  exact this a s' h
theorem exS_len (e : Int) (ts : List Tok) (a : Int) (s' : PS) (hl : ts.length ≤ 20000) (h : exS e 40 ⟨ts, [], 0⟩ = .ok a s') : s'.ns.length < 1000000 := by
  have := ex_le e 40 ⟨ts, [], 0⟩ a s' h
  simp only [Lw, List.length_nil] at this
  omega

/-! ### Program, Expr, Nest -/
abbrev proS (s : Bs) : RR := readS programS s
abbrev exprRS (s : Bs) : RR := readS (fun e => exS e 40) s
def cReadB : AC := fun args K k => cRead 22 programS args K k ∨ cRead 31 (fun e => exS e 40) args K k
theorem readB_ok : COk 21 cReadB := by
  rintro args K k (h | h)
  · exact readP_ok programS programS_len program_ok args K k h
  · exact readE_ok (fun e => exS e 40) exS_len expression_ok args K k h
def gB : AG := gput 21 cReadB g0
theorem gB_ok : GOk Tryz.prog gB := gput_ok readB_ok g0_ok
def topV : RR → AV
  | .bad a er => .tup [.agg [.p .nils, intV 0], intV a, intV er]
  | .ok ns root _ => .tup [treeV ns root, intV 0, intV 0]
def cTop (S : Bs → RR) : AC := fun args K k => ∃ s, args = [.p (.str s)] ∧ s.length < 1000000 ∧ k (.ret (topV (S s))) K
theorem Program_ok : COk 9 (cTop proS) := by
  rintro args K k ⟨s, rfl, hs, hk⟩
  refine frame0P gB_ok 19 rfl fun Q hr => ?_
  conv => whnf
  refine .inl ⟨s, rfl, hs, ?_⟩
  cases h : readS programS s with
  | bad a er =>
    rw [show proS s = _ from h] at hk
    conv => whnf
    exact hr _ _ rfl hk
  | ok ns root mo =>
    rw [show proS s = _ from h] at hk
    conv => whnf
    exact hr _ _ rfl hk
theorem Expr_ok : COk 13 (cTop exprRS) := by
  rintro args K k ⟨s, rfl, hs, hk⟩
  refine frame0P gB_ok 19 rfl fun Q hr => ?_
  conv => whnf
  refine .inr ⟨s, rfl, hs, ?_⟩
  cases h : readS (fun e => exS e 40) s with
  | bad a er =>
    rw [show exprRS s = _ from h] at hk
    conv => whnf
    exact hr _ _ rfl hk
  | ok ns root mo =>
    rw [show exprRS s = _ from h] at hk
    conv => whnf
    exact hr _ _ rfl hk
def RR.err : RR → Int
  | .bad _ er => er
  | .ok _ _ _ => 0
def RR.most : RR → Int
  | .bad _ _ => 0
  | .ok _ _ mo => mo
def RR.place : RR → Int
  | .bad a _ => a
  | .ok _ _ _ => 0
def RR.tree : RR → AV
  | .bad _ _ => .agg [.p .nils, intV 0]
  | .ok ns root _ => treeV ns root
theorem readV_eq (r : RR) : readV r = .tup [r.tree, intV r.most, intV r.place, intV r.err] := by cases r <;> rfl
def nestS (s : Bs) : Int := if (proS s).err == 0 then (proS s).most else if (exprRS s).err == 0 then (exprRS s).most else -1
def cNest : AC := fun args K k => ∃ s, args = [.p (.str s)] ∧ s.length < 1000000 ∧ k (.ret (intV (nestS s))) K
theorem Nest_ok : COk 14 cNest := by
  rintro args K k ⟨s, rfl, hs, hk⟩
  refine frame0P gB_ok 19 rfl fun Q hr => ?_
  unfold nestS at hk
  conv => whnf
  refine .inl ⟨s, rfl, hs, ?_⟩
  have hp : readS programS s = proS s := rfl
  have he : readS (fun e => exS e 40) s = exprRS s := rfl
  rw [hp]
  generalize proS s = p at hk
  generalize exprRS s = x at hk he
  cases p with
  | ok ns root mo =>
    conv => whnf
    exact hr _ _ rfl hk
  | bad a er =>
    conv => whnf
    refine two_intro (fun h => ?_) (fun h => ?_)
    · rw [show (RR.bad a er).err = er from rfl, show (er == 0) = true from h] at hk
      conv => whnf
      exact hr _ _ rfl hk
    · rw [show (RR.bad a er).err = er from rfl, show (er == 0) = false from h] at hk
      conv => whnf
      refine .inr ⟨s, rfl, hs, ?_⟩
      rw [he]
      cases x with
      | ok ns root mo =>
        conv => whnf
        exact hr _ _ rfl hk
      | bad a2 er2 =>
        conv => whnf
        refine two_intro (fun h2 => ?_) (fun h2 => ?_)
        · rw [show (RR.bad a2 er2).err = er2 from rfl, show (er2 == 0) = true from h2] at hk
          conv => whnf
          exact hr _ _ rfl hk
        · rw [show (RR.bad a2 er2).err = er2 from rfl, show (er2 == 0) = false from h2] at hk
          conv => whnf
          exact hr _ _ rfl hk
end Go.Proofs.YtbcngegcpdppfaaGreatDoor

namespace Go.Proofs.YtbcngegcpdppfaaGreatDoor
open Go.AE Go.Ru
set_option maxRecDepth 100000
set_option pp.maxSteps 3000

theorem sh1 : exprRS [49, 43, 50, 42, 120] = .ok [⟨20, 1, 0, [], []⟩, ⟨20, 2, 2, [], []⟩, ⟨22, 0, 4, [120], []⟩, ⟨27, 0, 3, [42], [1, 2]⟩, ⟨27, 0, 1, [43], [0, 3]⟩] 4 0 := by
  kernel_rfl
theorem sh2 : exprRS [40, 49] = .bad 2 2 := by kernel_rfl
theorem sh3 : exprRS [49, 32, 50] = .bad 2 2 := by kernel_rfl
theorem sh4 : proS [112, 114, 111, 99, 32, 102, 40, 41, 32, 123, 32, 120, 32, 61, 32, 59, 32, 125] = .bad 15 2 := by kernel_rfl

def gS : AG := gput 9 (cTop proS) (gput 13 (cTop exprRS) g0)
theorem gS_ok : GOk Tryz.prog gS := gput_ok Program_ok (gput_ok Expr_ok g0_ok)
def cShown : AC := fun args K k => args = [] ∧ k (.ret (.p (.bool true))) K
theorem shown_ok : COk 8 cShown := by
  rintro args K k ⟨rfl, hk⟩
  refine frame0P gS_ok 19 rfl fun Q hr => ?_
  conv => whnf
  refine ⟨[49, 43, 50, 42, 120], rfl, by decide, ?_⟩
  rw [sh1]
  conv => whnf
  refine ⟨[40, 49], rfl, by decide, ?_⟩
  rw [sh2]
  conv => whnf
  refine ⟨[49, 32, 50], rfl, by decide, ?_⟩
  rw [sh3]
  conv => whnf
  refine ⟨_, rfl, by decide, ?_⟩
  rw [sh4]
  conv => whnf
  repeat
    (refine ⟨⟨by decide, by decide, rfl⟩, ?_⟩
     conv => whnf)
  exact hr _ _ rfl hk
end Go.Proofs.YtbcngegcpdppfaaGreatDoor

namespace Go.Proofs.YtbcngegcpdppfaaGreatDoor
open Go.AE Go.Ru
set_option maxRecDepth 100000
set_option pp.maxSteps 3000

/-- where tokens begin, the one at the end too -/
def atsS (e : Int) (ts : List Tok) : List Int := ts.map (·.at_) ++ [e]
def toldS (e : Int) (ts : List Tok) (n er : Int) : Bool := if er == 0 || er == 8 then n == 0 else (atsS e ts).any (· == n) || (er == 6 && n == 0)
theorem encs_ats (e : Int) (ts : List Tok) (i : Nat) : ∃ kk nn tx, encs e ts i = [.int .i64 kk, .int .i64 nn, .int .i64 ((atsS e ts).getD i e), .str tx] := by
  induction ts generalizing i with
  | nil => exact ⟨5, 0, [], by cases i <;> simp [encs, atsS]⟩
  | cons t r ih =>
    cases i with
    | zero => exact ⟨_, _, _, rfl⟩
    | succ i =>
      obtain ⟨a, b, c, h⟩ := ih i
      exact ⟨a, b, c, by simpa [encs, atsS] using h⟩
theorem ats_len (e : Int) (ts : List Tok) : (atsS e ts).length = ts.length + 1 := by simp [atsS]

def cTold : AC := fun args K k => ∃ (e : Int) (ts : List Tok) (n er : Int), args = [.p (.sl 4 (ts.length + 1) (encs e ts)), .p (.int .i64 n), .p (.int .i64 er)] ∧ ts.length < 1000000 ∧ k (.ret (.p (.bool (toldS e ts n er)))) K
theorem told_ok : COk 15 cTold := by
  rintro args K k ⟨e, ts, n, er, rfl, hts, hk⟩
  refine frame0P g0_ok 19 rfl fun Q hr => ?_
  unfold toldS at hk
  have hret : (er == 0 || er == 8) = true → k (.ret (.p (.bool (n == 0)))) K := fun h => by rwa [if_pos h] at hk
  have hgo : (er == 0 || er == 8) = false → k (.ret (.p (.bool ((atsS e ts).any (· == n) || (er == 6 && n == 0))))) K := fun h => by rwa [if_neg (by simp [h])] at hk
  conv => whnf
  refine two_intro (fun h => ?_) (fun h => ?_)
  · conv => whnf
    exact hr _ _ rfl (hret (by rw [h]; rfl))
  conv => whnf
  refine two_intro (fun h2 => ?_) (fun h2 => ?_)
  · conv => whnf
    exact hr _ _ rfl (hret (by rw [h2]; simp))
  have hgo := hgo (by rw [h, h2]; rfl)
  clear hk hret
  conv => whnf
  refine loop_by (ι := Nat) (fun i => ⟨[(0, .p (.sl 4 (ts.length + 1) (encs e ts))), (1, .p (.int .i64 n)), (2, .p (.int .i64 er)), (7, .p (.int .i64 i))], []⟩)
    (fun i => i ≤ ts.length + 1 ∧ ∀ j, j < i → (atsS e ts).getD j e ≠ n) (fun i => ts.length + 1 - i) 0 ⟨AV.le_refl _, AV.le_refl _, AV.le_refl _, AV.le_refl _, trivial⟩ (lesK.refl _) ⟨Nat.zero_le _, fun j hj => by omega⟩ ?_
  intro Y hle i ⟨hi, hno⟩ ih
  have hd1 : decide ((i : Int) < ((ts.length + 1 : Nat) : Int)) = decide (i < ts.length + 1) := by
    by_cases h : i < ts.length + 1
    · rw [decide_eq_true h, decide_eq_true (by omega)]
    · rw [decide_eq_false h, decide_eq_false (by omega)]
  conv => whnf
  refine two_intro (fun h3 => ?_) (fun h3 => ?_)
  · have h3 := of_decide_eq_true (hd1 ▸ h3)
    obtain ⟨kk, nn, tx, henc⟩ := encs_ats e ts i
    conv => whnf
    refine ⟨⟨by omega, by omega, rfl⟩, ?_⟩
    rw [show encs e ts (Int.toNat (i : Int)) = _ from henc]
    conv => whnf
    refine two_intro (fun h4 => ?_) (fun h4 => ?_)
    · have h4 : ((atsS e ts).getD i e == n) = true := h4
      have hany : (atsS e ts).any (· == n) = true := by
        rw [List.any_eq_true]
        have hlt : i < (atsS e ts).length := by rw [ats_len]; exact h3
        exact ⟨(atsS e ts)[i], List.getElem_mem hlt, by rw [List.getD_eq_getElem?_getD, List.getElem?_eq_getElem hlt] at h4; exact h4⟩
      rw [hany] at hgo
      conv => whnf
      exact hr _ _ rfl hgo
    · have h4 : ((atsS e ts).getD i e == n) = false := h4
      conv => whnf
      refine hle _ _ (Le.cutEnv 0 rfl rfl trivial ?e1 ?e2) (ih (i + 1) (by omega) ⟨by omega, fun j hj => ?_⟩)
      case e1 =>
        (conv => whnf)
        refine ⟨AV.le_refl _, ?_⟩
        (conv => whnf)
        refine ⟨AV.le_refl _, ?_⟩
        (conv => whnf)
        refine ⟨AV.le_refl _, ?_⟩
        (conv => whnf)
        refine ⟨AV.le_of_eq (congrArg (fun x => AV.p (.int .i64 x)) (show IntKind.i64.wrap ((i : Int) + 1) = ((i + 1 : Nat) : Int) by rw [w64 ⟨by omega, by omega⟩]; omega)), ?_⟩
        (conv => whnf)
        exact trivial
      case e2 =>
        (conv => whnf)
        exact trivial
      · by_cases e' : j = i
        · subst e'; exact beq_eq_false_iff_ne.1 h4
        · exact hno j (by omega)
  · have h3 := of_decide_eq_false (hd1 ▸ h3)
    have hany : (atsS e ts).any (· == n) = false := by
      rw [List.any_eq_false]
      intro x hx
      obtain ⟨j, hj, rfl⟩ := List.getElem_of_mem hx
      have := hno j (by rw [ats_len] at hj; omega)
      rw [List.getD_eq_getElem?_getD, List.getElem?_eq_getElem hj] at this
      simpa using this
    rw [hany, Bool.false_or] at hgo
    conv => whnf
    refine two_intro (fun h4 => ?_) (fun h4 => ?_)
    · rw [show (er == 6) = true from h4, Bool.true_and] at hgo
      conv => whnf
      exact hr _ _ rfl hgo
    · rw [show (er == 6) = false from h4, Bool.false_and] at hgo
      conv => whnf
      exact hr _ _ rfl hgo

def gPl : AG := gput 8 cShown (gput 12 cCutT (gput 9 (cTop proS) (gput 13 (cTop exprRS) (gput 14 cNest (gput 15 cTold g0)))))
theorem gPl_ok : GOk Tryz.prog gPl := gput_ok shown_ok (gput_ok cutT_ok (gput_ok Program_ok (gput_ok Expr_ok (gput_ok Nest_ok (gput_ok told_ok g0_ok)))))
/-- the plain law -/
def PlacesLaw (s : Bs) : Prop := ∀ ts, s.length ≤ 20000 → cutT s = .ok ts → ((proS s).err == 0 && (exprRS s).err == 0) = false ∧ toldS s.length ts (proS s).place (proS s).err = true ∧ toldS s.length ts (exprRS s).place (exprRS s).err = true
def cPlaces : AC := fun args K k => ∃ s, args = [.p (.str s)] ∧ PlacesLaw s ∧ k (.ret (.p (.bool true))) K
theorem places_ok : COk 4 cPlaces := by
  rintro args K k ⟨s, rfl, hlaw, hk⟩
  refine frame0P gPl_ok 19 rfl fun Q hr => ?_
  conv => whnf
  refine ⟨rfl, ?_⟩
  have hd1 : decide ((s.length : Int) > 1500) = decide (1500 < s.length) := by
    by_cases h : 1500 < s.length
    · rw [decide_eq_true h, decide_eq_true (by omega)]
    · rw [decide_eq_false h, decide_eq_false (by omega)]
  conv => whnf
  refine two_intro (fun h => ?_) (fun h => ?_)
  · conv => whnf
    exact hr _ _ rfl hk
  have h := of_decide_eq_false (hd1 ▸ h)
  conv => whnf
  refine ⟨s, rfl, by omega, fun h2 => by omega, fun _ => ?_⟩
  cases hc : cutT s with
  | bad a =>
    have hp : proS s = .bad a 2 := by
      show readS programS s = _
      unfold readS; rw [if_neg (by omega), hc]
    have hx : exprRS s = .bad a 2 := by
      show readS _ s = _
      unfold readS; rw [if_neg (by omega), hc]
    have hn : nestS s = -1 := by unfold nestS; rw [hp, hx]; rfl
    conv => whnf
    refine ⟨s, rfl, by omega, ?_⟩
    rw [hp]
    conv => whnf
    refine ⟨s, rfl, by omega, ?_⟩
    rw [hx]
    have haa : ((a : Int) == (a : Int)) = true := by simp
    conv => whnf
    refine two_true haa ?_
    conv => whnf
    refine two_true haa ?_
    conv => whnf
    refine ⟨s, rfl, by omega, ?_⟩
    rw [hn]
    conv => whnf
    exact hr _ _ rfl hk
  | ok ts =>
    obtain ⟨h1, h2, h3⟩ := hlaw ts (by omega) hc
    have hln : ts.length ≤ s.length := cutS_len _ _ _ _ hc
    conv => whnf
    refine ⟨s, rfl, by omega, ?_⟩
    cases hp : proS s with
    | ok ns root mo =>
      rw [hp] at h1 h2
      conv => whnf
      refine ⟨s, rfl, by omega, ?_⟩
      cases hx : exprRS s with
      | ok ns2 root2 mo2 => rw [hx] at h1; simp [RR.err] at h1
      | bad a2 er2 =>
        rw [hx] at h1 h3
        have he2 : (er2 == 0) = false := by simpa [RR.err] using h1
        conv => whnf
        refine two_false he2 ?_
        conv => whnf
        refine ⟨s.length, ts, _, _, rfl, by omega, ?_⟩
        rw [show toldS s.length ts 0 0 = true from h2]
        conv => whnf
        refine ⟨s.length, ts, _, _, rfl, by omega, ?_⟩
        rw [show toldS s.length ts a2 er2 = true from h3]
        conv => whnf
        exact hr _ _ rfl hk
    | bad a1 er1 =>
      rw [hp] at h1 h2
      conv => whnf
      refine ⟨s, rfl, by omega, ?_⟩
      cases hx : exprRS s with
      | ok ns2 root2 mo2 =>
        rw [hx] at h1 h3
        have he1 : (er1 == 0) = false := by simpa [RR.err] using h1
        conv => whnf
        refine two_false he1 ?_
        conv => whnf
        refine ⟨s.length, ts, _, _, rfl, by omega, ?_⟩
        rw [show toldS s.length ts a1 er1 = true from h2]
        conv => whnf
        refine ⟨s.length, ts, _, _, rfl, by omega, ?_⟩
        rw [show toldS s.length ts 0 0 = true from h3]
        conv => whnf
        exact hr _ _ rfl hk
      | bad a2 er2 =>
        rw [hx] at h1 h3
        conv => whnf
        refine two_intro (fun he1 => ?_) (fun he1 => ?_)
        · have he1 : (er1 == 0) = true := he1
          have he2 : (er2 == 0) = false := by simpa [RR.err, beq_iff_eq.1 he1] using h1
          conv => whnf
          refine two_false he2 ?_
          conv => whnf
          refine ⟨s.length, ts, _, _, rfl, by omega, ?_⟩
          rw [show toldS s.length ts a1 er1 = true from h2]
          conv => whnf
          refine ⟨s.length, ts, _, _, rfl, by omega, ?_⟩
          rw [show toldS s.length ts a2 er2 = true from h3]
          conv => whnf
          exact hr _ _ rfl hk
        · conv => whnf
          refine ⟨s.length, ts, _, _, rfl, by omega, ?_⟩
          rw [show toldS s.length ts a1 er1 = true from h2]
          conv => whnf
          refine ⟨s.length, ts, _, _, rfl, by omega, ?_⟩
          rw [show toldS s.length ts a2 er2 = true from h3]
          conv => whnf
          exact hr _ _ rfl hk
end Go.Proofs.YtbcngegcpdppfaaGreatDoor

namespace Go.Proofs.YtbcngegcpdppfaaGreatDoor
open Go.AE Go.Ru
set_option maxRecDepth 100000
set_option pp.maxSteps 4000
set_option maxHeartbeats 1000000

def strA (l : List Bs) : ABlk := .arr 9 1 0 l.length (fun i => pvs (strF l i))
def cJoinR : AC := fun args K k => ∃ (l : List Bs) (sep : Bs), args = [.slr 0 0 0 l.length, .p (.str sep)] ∧ K = [strA l] ∧ l.length < 1000000 ∧ (Lib.join l sep).length < 100000000 ∧ k (.ret (.p (.str (Lib.join l sep)))) [.dead]
theorem joinR_ok : COk 43 cJoinR := by
  rintro args K k ⟨l, sep, rfl, rfl, hl, hj, hk⟩
  refine (joinL_ok [.p (.sl 1 l.length (strF l)), .p (.str sep)] [.dead] k ⟨l, sep, rfl, hl, hj, hk⟩).pre fun w m Args hS hV => ?_
  have hn : nth [strA l] 0 = some (.arr 9 1 0 l.length (fun i => pvs (strF l i))) := rfl
  obtain ⟨m', h3, h4, h5⟩ := freeze_sl hS hn (strF l) (fun _ _ => rfl)
  refine ⟨m', h3, h4, hV.1, fun i hi hi' => ?_⟩
  rcases i with _ | _ | i
  · exact h5 _ (hV.2 0 hi hi')
  · exact (hV.2 1 hi hi').mono h3
  · simp at hi; omega
theorem join_eq : ∀ l : List Bs, Lib.join l [32] = joinB l := by
  intro l
  unfold Lib.join
  induction l with
  | nil => rfl
  | cons a r ih =>
    cases r with
    | nil => simp [List.intercalate, joinB]
    | cons b r => simp only [joinB]; rw [← ih]; simp [List.intercalate]
theorem strA_snoc (l : List Bs) (x : Bs) (f : Nat → List AV) (hf : f 0 = [.p (.str x)]) : (ABlk.arr 9 1 0 (l.length + 1) (catF l.length (fun i => pvs (strF l i)) f)).le (strA (l ++ [x])) := by
  refine ABlk.arr_eq (by simp) fun i hi => ?_
  by_cases h : i < l.length
  · rw [catF_lt h]
    simp [strF, List.getD_eq_getElem?_getD, List.getElem?_append_left h]
  · obtain rfl : i = l.length := by omega
    rw [catF_ge (Nat.le_refl _), Nat.sub_self, hf]
    simp [strF, List.getD_eq_getElem?_getD, pvs]
theorem str_cl (l : List Bs) (x : Bs) (f : Nat → List AV) (n : Nat) (hf : f 0 = [.p (.str x)]) : (ABlk.arr 9 1 0 (l.length + 1) (catF l.length (fun i => pvs (strF l i)) f)).cl n := fun i hi => by
  by_cases h : i < l.length
  · rw [catF_lt h]; rfl
  · obtain rfl : i = l.length := by omega
    rw [catF_ge (Nat.le_refl _), Nat.sub_self, hf]; rfl
def gJo : AG := gput 43 cJoinR g0
theorem gJo_ok : GOk Tryz.prog gJo := gput_ok joinR_ok g0_ok
def cJoinT : AC := fun args K k => ∃ (e : Int) (ts : List Tok), args = [.p (.sl 4 (ts.length + 1) (encs e ts))] ∧ ts.length < 100000 ∧ (joinB (ts.map (·.tx))).length < 100000000 ∧ k (.ret (.p (.str (joinB (ts.map (·.tx)))))) K
theorem joinT_ok : COk 20 cJoinT := by
  rintro args K k ⟨e, ts, rfl, hl, hj, hk⟩
  refine frame0P gJo_ok 19 rfl fun Q hr => ?_
  conv => whnf
  refine loop_nil (ι := Nat) 9 1 (fun j => pvs (strF [] j)) (fun i => ⟨[(3, .slr 0 0 0 ((ts.take i).map (·.tx)).length), (6, .p (.sl 4 (ts.length + 1) (encs e ts))), (7, intV ((ts.length + 1 : Nat) : Int)), (8, intV i)], [strA ((ts.take i).map (·.tx))]⟩)
    (fun i => i ≤ ts.length + 1) (fun i => ts.length + 1 - i) 0 [] rfl ⟨.inr ⟨rfl, rfl⟩, .inl (AV.le_refl _), .inl (AV.le_refl _), .inl (AV.le_refl _), trivial⟩ trivial rfl (Nat.zero_le _) ?_
  rintro Y hle i hi ih
  conv => whnf
  refine two_dec (fun h => ?_) (fun h => ?_)
  · have h : i < ts.length + 1 := by omega
    have hw1 := wz (i := i) (by omega)
    conv => whnf
    refine ⟨⟨by omega, by omega, rfl⟩, ?_⟩
    by_cases h2 : i < ts.length
    · have e1 : encs e ts (i : Int).toNat = encTok ts[i] := by
        rw [Int.toNat_natCast, encs_lt e ts i h2, tokF]
        simp [h2]
      have hk5 : (ts[i]).k.code ≠ 5 := by cases (ts[i]).k <;> decide
      rw [e1]
      conv => whnf
      refine two_ne (fun h3 => ?_) (fun h3 => absurd h3 hk5)
      have hsn : (ts.take (i + 1)).map (·.tx) = (ts.take i).map (·.tx) ++ [(ts[i]).tx] := by rw [List.take_succ_eq_append_getElem h2, List.map_append]; rfl
      have hlen : ((ts.take i).map (·.tx)).length = i := by simp; omega
      generalize hL : (ts.take i).map (·.tx) = L at hsn hlen ⊢
      conv => whnf
      refine ⟨⟨rfl, rfl, rfl, allLt_ok ⟨trivial, rfl⟩⟩, ?_⟩
      conv => whnf
      refine ⟨⟨rfl, rfl, rfl, rfl, ?_, ?_⟩, ?_⟩
      · show (L.length + 1) * 16 ≤ 140737488355328
        omega
      · show L.length + 1 ≤ 9223372036854775807
        omega
      conv => whnf
      refine hle _ _ (Le.cutEnv 1 rfl rfl ⟨str_cl L (ts[i]).tx _ 1 rfl, trivial⟩ ?_ ?_) (ih (i + 1) (by omega) (by omega))
      · skip
        repeat' (first | exact trivial | ((conv => whnf); first | exact trivial | (refine And.intro (AV.le_refl _) ?_) | (refine And.intro (ABlk.le_refl _) ?_) | (refine And.intro (AV.le_of_eq ?_) ?_; (focus ((first | exact congrArg intV hw1 | exact congrArg (fun n => AV.slr 0 0 0 n) (by rw [hsn]; simp) | fail); done))) | (refine And.intro (ABlk.le_of_eq ?_) ?_; (focus ((first | exact congrArg intV hw1 | exact congrArg (fun n => AV.slr 0 0 0 n) (by rw [hsn]; simp) | fail); done))) | fail) | fail)
      · (conv => whnf)
        refine ⟨?_, trivial⟩
        rw [hsn]
        exact strA_snoc L (ts[i]).tx _ rfl
    · obtain rfl : i = ts.length := by omega
      rw [Int.toNat_natCast, encs_at]
      conv => whnf
      refine hle _ _ (Le.cutEnv 1 rfl rfl ⟨fun i hi => rfl, trivial⟩ ?_ ?_) (ih (ts.length + 1) (by omega) (by omega))
      · skip
        repeat' (first | exact trivial | ((conv => whnf); first | exact trivial | (refine And.intro (AV.le_refl _) ?_) | (refine And.intro (ABlk.le_refl _) ?_) | (refine And.intro (AV.le_of_eq ?_) ?_; (focus ((first | exact congrArg intV hw1 | exact congrArg (fun n => AV.slr 0 0 0 n) (by simp) | fail); done))) | (refine And.intro (ABlk.le_of_eq ?_) ?_; (focus ((first | exact congrArg intV hw1 | exact congrArg (fun n => AV.slr 0 0 0 n) (by simp) | fail); done))) | fail) | fail)
      · (conv => whnf)
        refine ⟨ABlk.le_of_eq ?_, trivial⟩
        rw [List.take_of_length_le (Nat.le_refl _), List.take_of_length_le (Nat.le_succ _)]
  · obtain rfl : i = ts.length + 1 := by omega
    have hL : (ts.take (ts.length + 1)).map (·.tx) = ts.map (·.tx) := by rw [List.take_of_length_le (by omega)]
    rw [hL]
    rw [← join_eq] at hk hj
    conv => whnf
    refine ⟨ts.map (·.tx), [32], rfl, rfl, by simp; omega, hj, ?_⟩
    conv => whnf
    exact hr _ _ rfl hk
end Go.Proofs.YtbcngegcpdppfaaGreatDoor

namespace Go.Proofs.YtbcngegcpdppfaaGreatDoor
open Go.AE Go.Ru
set_option maxRecDepth 100000
set_option pp.maxSteps 4000
set_option maxHeartbeats 1000000

/-- the plain law -/
def RightLaw (s : Bs) : Prop := match proS s with
  | .ok ns root _ => rightS ns root = true ∧ (∀ i, (ns.getD i default).tx.length < 1000000) ∧ ∀ ts, cutT s = .ok ts → ∀ i, i + 1 < ns.length → (atsS s.length ts).any (· == (ns.getD i default).at_) = true
  | .bad a er => er ≠ 0 ∧ 0 ≤ a ∧ a ≤ s.length
def gPr : AG := gput 8 cShown (gput 12 cCutT (gput 9 (cTop proS) (gput 19 cRight g0)))
theorem gPr_ok : GOk Tryz.prog gPr := gput_ok shown_ok (gput_ok cutT_ok (gput_ok Program_ok (gput_ok right_ok g0_ok)))
def cPRight : AC := fun args K k => ∃ s, args = [.p (.str s)] ∧ RightLaw s ∧ k (.ret (.p (.bool true))) K
structure KB where
  j : Nat
  b : Bool
theorem pright_ok : COk 6 cPRight := by
  rintro args K k ⟨s, rfl, hlaw, hk⟩
  refine frame0P gPr_ok 19 rfl fun Q hr => ?_
  conv => whnf
  refine ⟨rfl, ?_⟩
  conv => whnf
  refine two_dec (fun h => ?_) (fun h => ?_)
  · conv => whnf
    exact hr _ _ rfl hk
  have h : s.length ≤ 1500 := by omega
  conv => whnf
  refine ⟨s, rfl, by omega, ?_⟩
  unfold RightLaw at hlaw
  cases hp : proS s with
  | bad a er =>
    rw [hp] at hlaw
    obtain ⟨h1, h2, h3⟩ := hlaw
    conv => whnf
    refine two_ne (fun he => ?_) (fun he => absurd he h1)
    conv => whnf
    repeat' (first | (refine two_eq (fun h => ?_) (fun h => ?_) <;> (conv => whnf)) | (refine two_ne (fun h => ?_) (fun h => ?_) <;> (conv => whnf)) | (refine two_not (fun h => ?_) (fun h => ?_) <;> (conv => whnf)) | (refine two_dec (fun h => ?_) (fun h => ?_) <;> (conv => whnf)) | (refine two_intro (fun h => ?_) (fun h => ?_) <;> (conv => whnf)) | (refine Chk.mk ?_ ?_; (focus (((repeat' (refine And.intro ?_ ?_)) <;> (first | omega | rfl | (simp only [List.length_append, List.length_cons, List.length_nil]; omega) | fail)); done)); (conv => whnf)) | (refine And.intro ?_ ?_; (focus (((repeat' (refine And.intro ?_ ?_)) <;> (first | omega | rfl | (simp only [List.length_append, List.length_cons, List.length_nil]; omega) | fail)); done)); (conv => whnf)) | (refine Exists.intro _ (And.intro rfl ?_)) | (refine Exists.intro _ (Exists.intro _ (And.intro rfl ?_))) | (refine Exists.intro _ (Exists.intro _ (Exists.intro _ (And.intro rfl ?_)))) | fail)
    · exact hr _ _ rfl (ret_eq hk (congrArg (fun b => AV.p (.bool b)) (decide_eq_true h3).symm))
    · omega
  | ok ns root mo =>
    rw [hp] at hlaw
    obtain ⟨h1, h2, h3⟩ := hlaw
    have hso : soundS ns root = true := by
      simp only [rightS, Bool.and_eq_true] at h1; exact h1.1.1.1
    obtain ⟨hn0, hn, hroot, _⟩ := soundS_ok hso
    conv => whnf
    refine ⟨ns, root, rfl, by omega, h2, ?_⟩
    rw [h1]
    conv => whnf
    refine ⟨s, rfl, by omega, fun h2 => by omega, fun _ => ?_⟩
    cases hc : cutT s with
    | bad a =>
      exfalso
      have : proS s = .bad a 2 := by
        show readS programS s = _
        unfold readS; rw [if_neg (by omega), hc]
      rw [this] at hp; cases hp
    | ok ts =>
      have h3 := h3 ts hc
      have hln : ts.length ≤ s.length := cutS_len _ _ _ _ hc
      conv => whnf
      have hle1 : ∀ i : Nat, IntKind.i64.wrap ((ns.length : Int) - 1) = (ns.length : Int) - 1 := fun i => by rw [w64 ⟨by omega, by omega⟩]
      have hle1 := hle1 0
      refine loop_up (ι := Nat) [4, 7] (fun i => [(10, intV i)]) (fun _ => []) (fun i => i + 1 ≤ ns.length) (fun i => ns.length - i) 0 ⟨AV.le_refl _, trivial⟩ trivial (by omega) ?_
      rintro Y hle i hi ih
      have hw1 : IntKind.i64.wrap ((i : Int) + 1) = ((i + 1 : Nat) : Int) := by rw [w64 ⟨by omega, by omega⟩]; omega
      conv => whnf
      refine two_dec (fun h => ?_) (fun h => ?_)
      · have h : i + 1 < ns.length := by omega
        have h3 := h3 i h
        conv => whnf
        refine loop_up (ι := KB) [4, 7, 10] (fun c => [(11, .p (.bool c.b)), (12, intV c.j)]) (fun _ => []) (fun c => c.j ≤ ts.length + 1 ∧ c.b = ((atsS s.length ts).take c.j).any (· == (ns.getD i default).at_)) (fun c => ts.length + 1 - c.j) ⟨0, false⟩ ⟨AV.le_refl _, AV.le_refl _, trivial⟩ trivial ⟨Nat.zero_le _, rfl⟩ ?_
        rintro Z hlz ⟨j, b⟩ ⟨hj, hb⟩ ihz
        simp only at hj hb
        have hwj : IntKind.i64.wrap ((j : Int) + 1) = ((j + 1 : Nat) : Int) := by rw [w64 ⟨by omega, by omega⟩]; omega
        conv => whnf
        refine two_dec (fun h4 => ?_) (fun h4 => ?_)
        · have h4 : j < ts.length + 1 := by have h4 : (j : Int) < ((ts.length + 1 : Nat) : Int) := h4; omega
          obtain ⟨kk, nn, tx, henc⟩ := encs_ats s.length ts j
          have hlt : j < (atsS (s.length : Int) ts).length := by rw [ats_len]; exact h4
          have hsnoc : ((atsS (s.length : Int) ts).take (j + 1)).any (· == (ns.getD i default).at_) = (b || (atsS (s.length : Int) ts).getD j s.length == (ns.getD i default).at_) := by
            rw [List.take_succ_eq_append_getElem hlt, List.any_append, ← hb]
            simp [hlt]
          conv => whnf
          refine two_intro (fun hb1 => ?_) (fun hb1 => ?_)
          · have hb1 : b = true := hb1
            conv => whnf
            refine hlz _ _ (Le.env ?_ ?_) (ihz ⟨j + 1, true⟩ (by show ts.length + 1 - (j + 1) < ts.length + 1 - j; omega) ⟨h4, ?_⟩)
            · skip
              repeat' (first | exact trivial | ((conv => whnf); first | exact trivial | (refine And.intro (AV.le_refl _) ?_) | (refine And.intro (ABlk.le_refl _) ?_) | (refine And.intro (AV.le_of_eq ?_) ?_; (focus ((first | exact congrArg intV hwj | fail); done))) | (refine And.intro (ABlk.le_of_eq ?_) ?_; (focus ((first | exact congrArg intV hwj | fail); done))) | fail) | fail)
            · skip
              repeat' (first | exact trivial | ((conv => whnf); first | exact trivial | (refine And.intro (AV.le_refl _) ?_) | (refine And.intro (ABlk.le_refl _) ?_) | (refine And.intro (AV.le_of_eq ?_) ?_; (focus ((first | fail | fail); done))) | (refine And.intro (ABlk.le_of_eq ?_) ?_; (focus ((first | fail | fail); done))) | fail) | fail)
            · show true = _
              rw [hsnoc, hb1]; rfl
          · have hb1 : b = false := hb1
            conv => whnf
            refine ⟨⟨by omega, by omega, rfl⟩, ?_⟩
            rw [show encs s.length ts (Int.toNat (j : Int)) = _ from henc]
            conv => whnf
            refine ⟨⟨by omega, by omega, rfl⟩, ?_⟩
            conv => whnf
            refine hlz _ _ (Le.env ?_ ?_) (ihz ⟨j + 1, (atsS (s.length : Int) ts).getD j s.length == (ns.getD i default).at_⟩ (by show ts.length + 1 - (j + 1) < ts.length + 1 - j; omega) ⟨h4, ?_⟩)
            · skip
              repeat' (first | exact trivial | ((conv => whnf); first | exact trivial | (refine And.intro (AV.le_refl _) ?_) | (refine And.intro (ABlk.le_refl _) ?_) | (refine And.intro (AV.le_of_eq ?_) ?_; (focus ((first | exact congrArg intV hwj | fail); done))) | (refine And.intro (ABlk.le_of_eq ?_) ?_; (focus ((first | exact congrArg intV hwj | fail); done))) | fail) | fail)
            · skip
              repeat' (first | exact trivial | ((conv => whnf); first | exact trivial | (refine And.intro (AV.le_refl _) ?_) | (refine And.intro (ABlk.le_refl _) ?_) | (refine And.intro (AV.le_of_eq ?_) ?_; (focus ((first | fail | fail); done))) | (refine And.intro (ABlk.le_of_eq ?_) ?_; (focus ((first | fail | fail); done))) | fail) | fail)
            · show (_ == _) = _
              rw [hsnoc, hb1]; rfl
        · have h4 : (atsS (s.length : Int) ts).length ≤ j := by have h4 : ¬ (j : Int) < ((ts.length + 1 : Nat) : Int) := h4; rw [ats_len]; omega
          rw [List.take_of_length_le h4, h3] at hb
          subst hb
          conv => whnf
          refine hle _ _ (Le.env ?_ ?_) (ih (i + 1) (by omega) (by omega))
          · skip
            repeat' (first | exact trivial | ((conv => whnf); first | exact trivial | (refine And.intro (AV.le_refl _) ?_) | (refine And.intro (ABlk.le_refl _) ?_) | (refine And.intro (AV.le_of_eq ?_) ?_; (focus ((first | exact congrArg intV hw1 | fail); done))) | (refine And.intro (ABlk.le_of_eq ?_) ?_; (focus ((first | exact congrArg intV hw1 | fail); done))) | fail) | fail)
          · skip
            repeat' (first | exact trivial | ((conv => whnf); first | exact trivial | (refine And.intro (AV.le_refl _) ?_) | (refine And.intro (ABlk.le_refl _) ?_) | (refine And.intro (AV.le_of_eq ?_) ?_; (focus ((first | fail | fail); done))) | (refine And.intro (ABlk.le_of_eq ?_) ?_; (focus ((first | fail | fail); done))) | fail) | fail)
      · conv => whnf
        exact hr _ _ rfl hk
end Go.Proofs.YtbcngegcpdppfaaGreatDoor

namespace Go.Ru

/-- nothing is put back; what is wrong is wrong at the head of a rest -/
structure Wr {α : Type} (e : Int) (s0 : PS) (r : R α) : Prop where
  ok : ∀ a s, r = .ok a s → s.ts <:+ s0.ts
  bad : ∀ a er, r = .bad a er → (er = 2 ∨ er = 6) ∧ ∃ t, t <:+ s0.ts ∧ a = hd e t
def Wm {α : Type} (e : Int) (m : M α) : Prop := ∀ s, Wr e s (m s)

theorem Wr.pure {α : Type} {e : Int} {s0 s : PS} {a : α} (h : s.ts <:+ s0.ts) : Wr e s0 (.ok a s) := ⟨fun b s' hb => by injection hb with _ h2; exact h2 ▸ h, fun _ _ hb => by cases hb⟩
theorem Wr.here {α : Type} {e : Int} {s0 : PS} {er : Int} (h : er = 2 ∨ er = 6) : Wr (α := α) e s0 (.bad (hd e s0.ts) er) :=
  ⟨fun _ _ hb => (by cases hb), fun a er' hb => by injection hb with h1 h2; subst h1 h2; exact ⟨h, _, List.suffix_rfl, rfl⟩⟩
theorem Wr.weak {α : Type} {e : Int} {s0 s1 : PS} {r : R α} (h : Wr e s1 r) (hs : s1.ts <:+ s0.ts) : Wr e s0 r :=
  ⟨fun a s hr => (h.ok a s hr).trans hs, fun a er hr => let ⟨h1, t, h2, h3⟩ := h.bad a er hr; ⟨h1, t, h2.trans hs, h3⟩⟩
theorem Wr.bind {α β : Type} {e : Int} {s0 : PS} {r : R α} {f : α → PS → R β} (h : Wr e s0 r) (h' : ∀ a s1, r = .ok a s1 → Wr e s1 (f a s1)) : Wr e s0 (r.bind f) := by
  cases r with
  | ok a s1 => exact (h' a s1 rfl).weak (h.ok a s1 rfl)
  | bad a er => exact ⟨fun _ _ hb => (by cases hb), fun a' er' hb => by injection hb with h1 h2; subst h1 h2; exact h.bad _ _ rfl⟩
theorem want_wr (e : Int) (w : Bs) : Wm e (wantS e w) := fun s => by
  unfold wantS
  split
  · exact .pure (List.tail_suffix _)
  · exact .here (.inl rfl)
theorem ident_wr (e : Int) : Wm e (identS e) := fun s => by
  unfold identS
  split
  · rename_i h
    have := Wr.here (α := Tok) (e := e) (s0 := s) (er := 2) (.inl rfl)
    rw [h] at this; exact this
  · rename_i t r h
    split
    · exact .pure (by rw [h]; exact List.suffix_cons _ _)
    · have := Wr.here (α := Tok) (e := e) (s0 := s) (er := 2) (.inl rfl)
      rw [h] at this; exact this
theorem put_wr (e : Int) (n : Nd) : Wm e (putS n) := fun s => .pure List.suffix_rfl
theorem drop_sfx (s : PS) : (dropS s).ts <:+ s.ts := List.tail_suffix _
theorem within_wr {α : Type} (e : Int) (d : Nat) (op cl : Bs) {what : M α} (h : ∀ d', d = d' + 1 → Wm e what) : Wm e (withinS e d op cl what) := fun s => by
  unfold withinS
  split
  · exact .here (.inl rfl)
  · cases d with
    | zero => exact .here (.inr rfl)
    | succ d =>
      refine Wr.bind ((h d rfl _).weak (s0 := s) (List.tail_suffix _)) fun a s1 _ => ?_
      split
      · exact .pure List.suffix_rfl
      · exact Wr.bind (want_wr e _ s1) fun _ s2 _ => .pure List.suffix_rfl
theorem rowLoop_wr (e : Int) (l : List Bs) {opnd : M Int} (h : Wm e opnd) : ∀ n x, Wm e (rowLoop l opnd n x) := by
  intro n
  induction n with
  | zero => exact fun x s => .pure List.suffix_rfl
  | succ n ih =>
    intro x s
    unfold rowLoop
    split
    · exact .pure List.suffix_rfl
    · rename_i t r ht
      split
      · exact .pure List.suffix_rfl
      · exact Wr.bind ((h _).weak (s0 := s) (by rw [ht]; exact List.suffix_cons _ _)) fun y s1 _ => Wr.bind (put_wr e _ s1) fun x s2 _ => ih x s2
theorem expr_wr {e : Int} {una : M Int} (h : Wm e una) : ∀ j, Wm e (exprS una j) := by
  intro j
  induction j with
  | zero => exact h
  | succ j ih =>
    intro s
    unfold exprS
    exact Wr.bind (ih s) fun x s1 _ => rowLoop_wr e _ ih _ x s1
theorem prim_wr (e : Int) (d : Nat) {inner : M Int} (h : ∀ d', d = d' + 1 → Wm e inner) : Wm e (primS e d inner) := fun s => by
  unfold primS
  split
  · rename_i hn
    have := Wr.here (α := Int) (e := e) (s0 := s) (er := 2) (.inl rfl)
    rw [hn] at this; exact this
  · rename_i t r ht
    have hs : (⟨r, s.ns, s.mo⟩ : PS).ts <:+ s.ts := by rw [ht]; exact List.suffix_cons _ _
    split
    · exact (put_wr e _ _).weak hs
    · split
      · exact Wr.weak (Wr.bind (within_wr e d [91] [93] h _) fun x s1 _ => put_wr e _ s1) hs
      · exact (put_wr e _ _).weak hs
    · split
      · exact (put_wr e _ _).weak hs
      · split
        · exact (put_wr e _ _).weak hs
        · split
          · exact Wr.weak (Wr.bind (ident_wr e _) fun t' s1 _ => put_wr e _ s1) hs
          · split
            · exact Wr.weak (Wr.bind (ident_wr e _) fun t' s1 _ => put_wr e _ s1) hs
            · split
              · exact within_wr e d [40] [41] h s
              · have := Wr.here (α := Int) (e := e) (s0 := s) (er := 2) (.inl rfl)
                rw [ht] at this; exact this
theorem unaB_wr (e : Int) (d : Nat) {una inner : M Int} (h1 : ∀ d', d = d' + 1 → Wm e una) (h2 : ∀ d', d = d' + 1 → Wm e inner) : Wm e (unaB e d una inner) := fun s => by
  unfold unaB
  split
  · rename_i hn
    have := Wr.here (α := Int) (e := e) (s0 := s) (er := 2) (.inl rfl)
    rw [hn] at this; exact this
  · split
    · exact Wr.bind (within_wr e d _ _ h1 s) fun x s1 _ => put_wr e _ s1
    · exact prim_wr e d h2 s
theorem una_wr (e : Int) : ∀ d, Wm e (unaS e d) := by
  intro d
  induction d with
  | zero => exact unaB_wr e 0 (fun d' h => by omega) (fun d' h => by omega)
  | succ d ih => exact unaB_wr e (d + 1) (fun _ _ => ih) (fun _ _ => expr_wr ih 5)
theorem ex_wr (e : Int) (d : Nat) : Wm e (exS e d) := expr_wr (una_wr e d) 5
theorem in_wr (e : Int) (d : Nat) : ∀ d', d = d' + 1 → Wm e (inS e d) := fun d' h => by subst h; exact ex_wr e d'
theorem index_wr (e : Int) (d : Nat) : Wm e (indexS e d) := within_wr e d _ _ (in_wr e d)
theorem comma_wr {α : Type} {e : Int} {one : List α → M (List α)} (h : ∀ l, Wm e (one l)) : ∀ n l, Wm e (commaL one n l) := by
  intro n
  induction n with
  | zero => exact fun l s => .pure List.suffix_rfl
  | succ n ih =>
    intro l s
    unfold commaL
    split
    · exact Wr.bind ((h l _).weak (drop_sfx s)) fun l' s1 _ => ih l' s1
    · exact .pure List.suffix_rfl
theorem list_wr {α : Type} {e : Int} {one : List α → M (List α)} (h : ∀ l, Wm e (one l)) (l : List α) : Wm e (listS one l) := fun s => by
  unfold listS
  split
  · exact .pure List.suffix_rfl
  · exact Wr.bind (h l s) fun l' s1 _ => comma_wr h _ l' s1
theorem one_wr {e : Int} {m : M Int} (h : Wm e m) (l : List Int) : Wm e (oneS m l) := fun s => Wr.bind (h s) fun _ _ _ => .pure List.suffix_rfl
theorem call_wr (e : Int) (d : Nat) (a : Int) (tx : Bs) : Wm e (callS e d a tx) := fun s => by
  unfold callS
  exact Wr.bind (ident_wr e s) fun t s1 _ => Wr.bind (put_wr e _ s1) fun x s2 _ => Wr.bind (within_wr e d _ _ (fun d' h => list_wr (fun l => one_wr (in_wr e d d' h) l) [x]) s2) fun l s3 _ => put_wr e _ s3
theorem chan_wr (e : Int) : Wm e (chanS e) := fun s => Wr.bind (ident_wr e s) fun _ s1 _ => put_wr e _ s1
theorem named_wr (e : Int) (d : Nat) : Wm e (namedS e d) := fun s => by
  unfold namedS
  refine Wr.bind (ident_wr e s) fun t s1 _ => ?_
  split
  · exact Wr.bind (index_wr e d s1) fun x s2 _ => Wr.bind (want_wr e _ s2) fun _ s3 _ => Wr.bind (ex_wr e d s3) fun y s4 _ => put_wr e _ s4
  · refine Wr.bind (want_wr e _ s1) fun _ s2 _ => ?_
    split
    · exact Wr.bind ((chan_wr e _).weak (drop_sfx s2)) fun x s3 _ => put_wr e _ s3
    · split
      · exact (call_wr e d _ _ _).weak (drop_sfx s2)
      · split
        · exact Wr.bind ((ex_wr e d _).weak (drop_sfx s2)) fun x s3 _ => put_wr e _ s3
        · exact Wr.bind (ex_wr e d _) fun x s3 _ => put_wr e _ s3
theorem plain_wr (e : Int) (d : Nat) : Wm e (plainS e d) := fun s => by
  unfold plainS
  simp only
  split
  · exact Wr.bind ((chan_wr e _).weak (drop_sfx s)) fun c s1 _ => Wr.bind (ex_wr e d s1) fun x s2 _ => put_wr e _ s2
  · split
    · exact (call_wr e d _ _ _).weak (drop_sfx s)
    · split
      · exact Wr.bind ((ex_wr e d _).weak (drop_sfx s)) fun x s1 _ => put_wr e _ s1
      · split
        · split
          · exact (put_wr e _ _).weak (drop_sfx s)
          · exact Wr.bind ((ex_wr e d _).weak (drop_sfx s)) fun x s1 _ => put_wr e _ s1
        · exact named_wr e d s
theorem stmtsL_wr {e : Int} {stmt : M Int} (h : Wm e stmt) (hd : Dm 0 1 stmt) : ∀ n l s, s.ts.length < n → Wr e s (stmtsL stmt n l s) := by
  intro n
  induction n with
  | zero => intro l s hn; omega
  | succ n ih =>
    intro l s hn
    unfold stmtsL
    split
    · exact .pure List.suffix_rfl
    · refine Wr.bind (h s) fun x s1 h1 => ih _ s1 ?_
      have := (hd s x s1 h1).2
      omega
theorem stmts_wr {e : Int} {stmt : M Int} (h : Wm e stmt) (hd : Dm 0 1 stmt) (l : List Int) : Wm e (stmtsS stmt l) := fun s => stmtsL_wr h hd _ l s (Nat.lt_succ_self _)
theorem block_wr (e : Int) (d : Nat) {stmt : M Int} (h : ∀ d', d = d' + 1 → Wm e stmt ∧ Dm 0 1 stmt) : Wm e (blockB e d stmt) := fun s => by
  unfold blockB
  simp only
  exact Wr.bind (within_wr e d _ _ (fun d' hd => stmts_wr (h d' hd).1 (h d' hd).2 []) s) fun l s1 _ => put_wr e _ s1
theorem stmtB_wr (e : Int) (d : Nat) {stmt : M Int} (h : ∀ d', d = d' + 1 → Wm e stmt ∧ Dm 0 1 stmt) : Wm e (stmtB e d stmt) := fun s => by
  unfold stmtB
  simp only
  split
  · refine Wr.bind ((ex_wr e d _).weak (drop_sfx s)) fun x s1 _ => Wr.bind (block_wr e d h s1) fun a s2 _ => ?_
    split
    · exact Wr.bind ((block_wr e d h _).weak (drop_sfx s2)) fun b s3 _ => put_wr e _ s3
    · exact Wr.bind (put_wr e _ s2) fun b s3 _ => put_wr e _ s3
  · split
    · exact Wr.bind ((ex_wr e d _).weak (drop_sfx s)) fun x s1 _ => Wr.bind (block_wr e d h s1) fun a s2 _ => put_wr e _ s2
    · split
      · exact Wr.bind ((block_wr e d h _).weak (drop_sfx s)) fun a s1 _ => Wr.bind (want_wr e _ s1) fun _ s2 _ => Wr.bind (ident_wr e s2) fun t s3 _ => Wr.bind (block_wr e d h s3) fun b s4 _ => put_wr e _ s4
      · exact Wr.bind (plain_wr e d s) fun x s1 _ => Wr.bind (want_wr e _ s1) fun _ s2 _ => .pure List.suffix_rfl
theorem stmt_wr (e : Int) : ∀ d, Wm e (stmtS e d) := by
  intro d
  induction d with
  | zero => exact stmtB_wr e 0 (fun d' h => by omega)
  | succ d ih => exact stmtB_wr e (d + 1) (fun _ _ => ⟨ih, (stmt_le e d).weak (by omega) (by omega)⟩)
theorem typed_wr (e k a : Int) (tx : Bs) : Wm e (typedS e k a tx) := fun s => by
  unfold typedS
  split
  · exact .here (.inl rfl)
  · exact (put_wr e _ _).weak (drop_sfx s)
theorem varsL_wr (e kind : Int) : ∀ n l, Wm e (varsL e kind n l) := by
  intro n
  induction n with
  | zero => exact fun l s => .pure List.suffix_rfl
  | succ n ih =>
    intro l s
    unfold varsL
    split
    · exact .pure List.suffix_rfl
    · exact Wr.bind ((ident_wr e _).weak (drop_sfx s)) fun t s1 _ => Wr.bind (typed_wr e kind _ _ s1) fun x s2 _ => Wr.bind (want_wr e _ s2) fun _ s3 _ => ih _ s3
theorem vars_wr (e kind : Int) : Wm e (varsS e kind) := fun s => varsL_wr e kind _ [] s
theorem body_wr (e : Int) (d : Nat) : Wm e (bodyS e d) := fun s => by
  unfold bodyS
  simp only
  refine Wr.bind (within_wr e d _ _ (fun d' hd s => ?_) s) fun p s1 _ => Wr.bind (put_wr e _ s1) fun b s2 _ => .pure List.suffix_rfl
  subst hd
  exact Wr.bind (vars_wr e 5 s) fun vs s1 _ => Wr.bind (stmts_wr (stmt_wr e d') ((stmt_le e d').weak (by omega) (by omega)) [] s1) fun l s2 _ => .pure List.suffix_rfl
theorem param_wr (e : Int) : Wm e (paramS e) := fun s => Wr.bind (ident_wr e s) fun t s1 _ => typed_wr e 4 _ _ s1
theorem proc_wr (e : Int) (d : Nat) : Wm e (procS e d) := fun s => by
  unfold procS
  simp only
  refine Wr.bind (want_wr e _ s) fun _ s1 _ => Wr.bind (ident_wr e s1) fun t s2 _ => Wr.bind (within_wr e d _ _ (fun d' hd => list_wr (fun l => one_wr (param_wr e) l) []) s2) fun ps s3 _ => ?_
  refine Wr.bind ((body_wr e d _).weak (s0 := s3) ?_) fun p s5 _ => put_wr e _ s5
  split
  · exact drop_sfx s3
  · exact List.suffix_rfl
theorem procsL_wr (e : Int) (d : Nat) : ∀ n l, Wm e (procsL e d n l) := by
  intro n
  induction n with
  | zero => exact fun l s => .pure List.suffix_rfl
  | succ n ih =>
    intro l s
    unfold procsL
    split
    · exact .pure List.suffix_rfl
    · exact Wr.bind (proc_wr e d s) fun x s1 _ => ih _ s1
theorem program_wr (e : Int) : Wm e (programS e) := fun s => by
  unfold programS
  exact Wr.bind (vars_wr e 2 s) fun l s1 _ => Wr.bind (procsL_wr e 40 _ l s1) fun l2 s2 _ => put_wr e _ s2
end Go.Ru

namespace Go.Proofs.YtbcngegcpdppfaaGreatDoor
open Go.AE Go.Ru

theorem isS_cases {w : Bs} {t : Tok} {r : List Tok} (h : isS w (t :: r) = true) : (t.k = .word ∨ t.k = .sign) ∧ t.tx = w := by
  obtain ⟨tk, tn, ta, tx⟩ := t
  cases tk <;> simp [isS] at h ⊢ <;> exact h
theorem una_first {e : Int} {d : Nat} {una inner : M Int} {s : PS} {a : Int} {s' : PS} (h : unaB e d una inner s = .ok a s') : s.ts ≠ [] ∧ isS [118, 97, 114] s.ts = false ∧ isS [112, 114, 111, 99] s.ts = false := by
  obtain ⟨ts, ns, mo⟩ := s
  cases ts with
  | nil => simp [unaB] at h
  | cons t r =>
    refine ⟨by simp, ?_, ?_⟩
    · cases hb : isS [118, 97, 114] (t :: r) with
      | false => rfl
      | true =>
        obtain ⟨hk, hx⟩ := isS_cases hb
        obtain ⟨tk, tn, ta, tx⟩ := t
        simp only at hk hx
        subst hx
        rcases hk with rfl | rfl <;> simp [unaB, primS, isS] at h
    · cases hb : isS [112, 114, 111, 99] (t :: r) with
      | false => rfl
      | true =>
        obtain ⟨hk, hx⟩ := isS_cases hb
        obtain ⟨tk, tn, ta, tx⟩ := t
        simp only at hk hx
        subst hx
        rcases hk with rfl | rfl <;> simp [unaB, primS, isS] at h
theorem expr_una {una : M Int} : ∀ (j : Nat) (s : PS) (a : Int) (s' : PS), exprS una j s = .ok a s' → ∃ a1 s1, una s = .ok a1 s1 := by
  intro j
  induction j with
  | zero => exact fun s a s' h => ⟨a, s', h⟩
  | succ j ih =>
    intro s a s' h
    unfold exprS at h
    obtain ⟨x, s1, h1, _⟩ := bind_ok h
    exact ih s x s1 h1
theorem ex_first {e : Int} {d : Nat} {s : PS} {a : Int} {s' : PS} (h : exS e d s = .ok a s') : s.ts ≠ [] ∧ isS [118, 97, 114] s.ts = false ∧ isS [112, 114, 111, 99] s.ts = false := by
  obtain ⟨a1, s1, h1⟩ := expr_una 5 s a s' h
  cases d with
  | zero => exact una_first (show unaB e 0 _ _ s = .ok a1 s1 from h1)
  | succ d => exact una_first (show unaB e (d + 1) _ _ s = .ok a1 s1 from h1)
theorem program_first {e : Int} {s : PS} {a : Int} {s' : PS} (h : programS e s = .ok a s') : s.ts = [] ∨ isS [118, 97, 114] s.ts = true ∨ isS [112, 114, 111, 99] s.ts = true := by
  obtain ⟨ts, ns, mo⟩ := s
  cases ts with
  | nil => exact .inl rfl
  | cons t r =>
    refine .inr ?_
    cases hv : isS [118, 97, 114] (t :: r) with
    | true => exact .inl rfl
    | false =>
      refine .inr ?_
      unfold programS at h
      obtain ⟨l, s1, h1, h⟩ := bind_ok h
      obtain ⟨l2, s2, h2, h⟩ := bind_ok h
      unfold varsS at h1
      simp only [List.length_cons, varsL, hv] at h1
      simp only [R.ok.injEq] at h1
      obtain ⟨rfl, rfl⟩ := h1
      simp only [List.length_cons, procsL] at h2
      obtain ⟨x, s3, h3, h2⟩ := bind_ok h2
      unfold procS at h3
      simp only at h3
      obtain ⟨_, s4, h4, h3⟩ := bind_ok h3
      unfold wantS at h4
      split at h4
      · assumption
      · simp at h4

theorem hd_mem {e : Int} {t ts : List Tok} (h : t <:+ ts) : (atsS e ts).any (· == hd e t) = true := by
  rw [List.any_eq_true]
  cases t with
  | nil => exact ⟨e, by simp [atsS], by simp [hd]⟩
  | cons x r => exact ⟨x.at_, by
      simp only [atsS, List.mem_append, List.mem_map]
      exact .inl ⟨x, h.subset (List.mem_cons_self ..), rfl⟩, by simp [hd]⟩
theorem read_told {S : Int → PS → R Int} {s : Bs} (hS : Wm s.length (S s.length)) (hl : s.length ≤ 20000) {ts : List Tok} (hc : cutT s = .ok ts) :
    toldS s.length ts (readS S s).place (readS S s).err = true ∧ ((readS S s).err = 0 → ∃ root s', S s.length ⟨ts, [], 0⟩ = .ok root s') := by
  unfold readS
  rw [if_neg (by omega), hc]
  simp only
  have hw := hS ⟨ts, [], 0⟩
  cases hp : S s.length ⟨ts, [], 0⟩ with
  | bad a er =>
    obtain ⟨h1, t, h2, h3⟩ := hw.bad a er hp
    have hm := hd_mem (e := s.length) h2
    rw [← h3] at hm
    simp only [RR.place, RR.err, toldS]
    rcases h1 with rfl | rfl
    · exact ⟨by simp [hm], fun h => by omega⟩
    · exact ⟨by simp [hm], fun h => by omega⟩
  | ok root s' =>
    have hs := hw.ok root s' hp
    simp only
    split
    · rename_i t r ht
      rw [ht] at hs
      have hm := hd_mem (e := s.length) hs
      simp only [hd] at hm
      exact ⟨by simp [RR.place, RR.err, toldS, hm], fun _ => ⟨root, s', rfl⟩⟩
    · split
      · exact ⟨by simp [RR.place, RR.err, toldS], fun _ => ⟨root, s', rfl⟩⟩
      · split
        · exact ⟨by simp [RR.place, RR.err, toldS], fun _ => ⟨root, s', rfl⟩⟩
        · exact ⟨by simp [RR.place, RR.err, toldS], fun _ => ⟨root, s', rfl⟩⟩

theorem placesLaw (s : Bs) : PlacesLaw s := by
  intro ts hl hc
  obtain ⟨h1, h2⟩ := read_told (S := programS) (program_wr _) hl hc
  obtain ⟨h3, h4⟩ := read_told (S := fun e => exS e 40) (ex_wr _ 40) hl hc
  refine ⟨?_, h1, h3⟩
  cases hb : ((proS s).err == 0 && (exprRS s).err == 0) with
  | false => rfl
  | true =>
    simp only [Bool.and_eq_true, beq_iff_eq] at hb
    obtain ⟨r1, s1, e1⟩ := h2 hb.1
    obtain ⟨r2, s2, e2⟩ := h4 hb.2
    obtain ⟨n1, n2, n3⟩ := ex_first e2
    rcases program_first e1 with h | h | h
    · exact absurd h n1
    · rw [n2] at h; cases h
    · rw [n3] at h; cases h

theorem places_calls (s : Bs) (K : List ABlk) (k : AO → List ABlk → Prop) (hk : k (.ret (.p (.bool true))) K) : ACalls Tryz.prog 4 [.p (.str s)] K k :=
  places_ok _ _ _ ⟨s, rfl, placesLaw s, hk⟩
end Go.Proofs.YtbcngegcpdppfaaGreatDoor

namespace Go.Proofs.YtbcngegcpdppfaaGreatDoor
open Go.AE Go.Ru

theorem rightLaw (s : Bs) : RightLaw s := by
  by_cases hs : s.length ≤ 20000
  case neg =>
    have hp : proS s = .bad 0 7 := by
      show readS programS s = _
      unfold readS; rw [if_pos (by omega)]
    unfold RightLaw
    rw [hp]
    exact ⟨by omega, by omega, by omega⟩
  unfold RightLaw
  have hcut := cut_at s.length s 0
  cases hp : proS s with
  | bad a er =>
    have hp' : readS programS s = .bad a er := hp
    unfold readS at hp'
    rw [if_neg (by omega)] at hp'
    split at hp'
    · rename_i b hc
      injection hp' with h1 h2
      have := hcut.2 b hc
      subst h1 h2
      refine ⟨by omega, by omega, by omega⟩
    · rename_i ts hc
      have hat : ∀ x, (atsS s.length ts).any (· == x) = true → 0 ≤ x ∧ x ≤ s.length := fun x hx => by
        obtain ⟨y, hy, e⟩ := List.any_eq_true.1 hx
        rw [← beq_iff_eq.1 e]
        simp only [atsS, List.mem_append, List.mem_map, List.mem_singleton] at hy
        rcases hy with ⟨t, ht, rfl⟩ | rfl
        · have := hcut.1 ts hc t ht
          have h1 := this.lo; have h2 := this.hi; omega
        · omega
      have hw := program_wr s.length ⟨ts, [], 0⟩
      split at hp'
      · rename_i a' er' hb
        injection hp' with h1 h2
        subst h1 h2
        obtain ⟨h3, t, h4, h5⟩ := hw.bad _ _ hb
        have := hat a' (h5 ▸ hd_mem (e := s.length) h4)
        exact ⟨by omega, this.1, this.2⟩
      · rename_i root s' hok
        split at hp'
        · rename_i t r ht
          injection hp' with h1 h2
          have h3 := hw.ok _ _ hok
          have := hat t.at_ (by have := hd_mem (e := s.length) h3; rw [ht] at this; exact this)
          subst h1 h2
          exact ⟨by omega, this.1, this.2⟩
        · split at hp'
          · injection hp' with h1 h2; subst h1 h2; exact ⟨by omega, by omega, by omega⟩
          · split at hp'
            · injection hp' with h1 h2; subst h1 h2; exact ⟨by omega, by omega, by omega⟩
            · cases hp'
  | ok ns root mo =>
    have hp' : readS programS s = .ok ns root mo := hp
    unfold readS at hp'
    rw [if_neg (by omega)] at hp'
    split at hp'
    · cases hp'
    · rename_i ts hc
      split at hp'
      · cases hp'
      · rename_i root' s' hok
        split at hp'
        · cases hp'
        · split at hp'
          · cases hp'
          · rename_i hmany
            split at hp'
            · cases hp'
            · rename_i hdeep
              injection hp' with h1 h2 h3
              subst h1 h2 h3
              have hgood : Go.Ru.Good (fun x => (atsS s.length ts).any (· == x) = true) s.length ⟨ts, [], 0⟩ [] := by
                refine ⟨⟨⟨[], rfl, rfl⟩, fun x hx => (by cases hx), fun i hi => (by simp at hi)⟩, fun i hi => (by simp at hi), fun t ht => ?_, ?_⟩
                · have h := hcut.1 ts hc t ht
                  refine ⟨?_, h.name, h.num, by have := h.len; omega⟩
                  exact List.any_eq_true.2 ⟨t.at_, by simp only [atsS, List.mem_append, List.mem_map]; exact .inl ⟨t, ht, rfl⟩, by simp⟩
                · exact List.any_eq_true.2 ⟨_, by simp [atsS], beq_self_eq_true _⟩
              obtain ⟨hgs, hga⟩ := program_g (e := s.length) _ hgood root' s' hok
              obtain ⟨⟨l, hl, hch⟩, hkind, hnode⟩ := hgs
              have hlen := sizes_len hl
              obtain ⟨hr1, hr2, hr3⟩ := hkind (root', 1) (by simp)
              simp only at hr1 hr2 hr3
              obtain ⟨hc1, hc2, hc3, hc4⟩ := hch
              have hc1 : root' = (l.length : Int) - 1 := hc1
              have hc4 : root' - (l.getD root'.toNat 0 : Nat) = -1 := hc4
              have hsound : soundS s'.ns root' = true := by
                have e1 : (s'.ns.length == 0) = false := beq_eq_false_iff_ne.2 (by omega)
                have e2 : decide (4000 < s'.ns.length) = false := decide_eq_false (by omega)
                have e3 : (root' != (s'.ns.length : Int) - 1) = false := by rw [bne_eq_false_iff_eq]; omega
                have e4 : (l.getD root'.toNat 0 == s'.ns.length) = true := beq_iff_eq.2 (by omega)
                simp only [soundS, hl, e1, e2, e3, e4, Bool.or_self, Bool.not_false, Bool.true_and]
              have hmany' := soundS_many hsound
              refine ⟨?_, fun i => ?_, fun ts2 hc2 i hi => ?_⟩
              · simp only [rightS, hsound, hr3, show depthS s'.ns root' ≤ 40 by omega, decide_true, Bool.true_and, beq_self_eq_true]
                rw [List.all_eq_true]
                intro n hn
                obtain ⟨i, hi, rfl⟩ := List.getElem_of_mem hn
                have e1 : s'.ns.getD i default = s'.ns[i] := by simp [hi]
                obtain ⟨hsh, _⟩ := hnode i hi
                have hk := hmany' i hi
                rw [e1] at hsh hk
                obtain ⟨a1, a2, a3, a4, a5⟩ := hsh (by simp only [kindsS, List.length_map]; omega)
                simp only [nodeOkS, decide_eq_true a1, decide_eq_true a2, a3, a4, a5, Bool.and_self]
              · by_cases hi : i < s'.ns.length
                · exact (hnode i hi).2
                · rw [getD_lt hi]; decide
              · rw [hc2] at hc; injection hc with hc; subst hc
                exact hga i hi

theorem pright_calls (s : Bs) (K : List ABlk) (k : AO → List ABlk → Prop) (hk : k (.ret (.p (.bool true))) K) : ACalls Tryz.prog 6 [.p (.str s)] K k := by
  exact pright_ok _ _ _ ⟨s, rfl, rightLaw s, hk⟩
end Go.Proofs.YtbcngegcpdppfaaGreatDoor

namespace Go.Proofs.YtbcngegcpdppfaaGreatDoor
open Go.AE Go.Ru
set_option maxRecDepth 100000
set_option pp.maxSteps 4000
set_option maxHeartbeats 1000000

/-- answers alike, but for places -/
def RRE : RR → RR → Prop
  | .bad _ er, .bad _ er' => er = er'
  | .ok ns root _, .ok ns' root' _ => root = root' ∧ ns.map nkey = ns'.map nkey
  | _, _ => False
theorem read_e {e : Int} (S S' : Int → PS → R Int) (s s' : Bs) (hs : s.length ≤ 20000) (hs' : s'.length ≤ 20000) (hS : ME (S s.length) (S' s'.length)) {ts ts' : List Tok} (hc : cutT s = .ok ts) (hc' : cutT s' = .ok ts') (ht : TsE ts ts') : RRE (readS S s) (readS S' s') := by
  unfold readS
  rw [if_neg (by omega), if_neg (by omega), hc, hc']
  have h := hS ⟨ts, [], 0⟩ ⟨ts', [], 0⟩ ⟨ht, rfl, rfl⟩
  simp only
  cases h1 : S s.length ⟨ts, [], 0⟩ with
  | bad a er =>
    cases h2 : S' s'.length ⟨ts', [], 0⟩ with
    | bad a' er' => rw [h1, h2] at h; exact h
    | ok => rw [h1, h2] at h; exact h.elim
  | ok root s1 =>
    cases h2 : S' s'.length ⟨ts', [], 0⟩ with
    | bad a' er' => rw [h1, h2] at h; exact h.elim
    | ok root' s1' =>
      rw [h1, h2] at h
      obtain ⟨rfl, h3⟩ := h
      have h4 := h3.ts
      have hl : s1.ns.length = s1'.ns.length := by have := congrArg List.length h3.ns; simpa using this
      simp only
      cases h5 : s1.ts with
      | nil =>
        rw [h5] at h4
        rw [h4.nil]
        simp only [hl, depth_e h3.ns]
        split
        · rfl
        · split
          · rfl
          · exact ⟨rfl, h3.ns⟩
      | cons t r =>
        rw [h5] at h4
        obtain ⟨t', r', h6, _⟩ := h4.cons
        rw [h6]; rfl
def BlanksLaw (s : Bs) : Prop := (∀ a, cutT s = .bad a → proS s = .bad a 2) ∧ ∀ ts, cutT s = .ok ts → ts.length ≤ s.length ∧ (joinB (ts.map (·.tx))).length ≤ 2 * s.length ∧ RRE (proS s) (proS (joinB (ts.map (·.tx)))) ∧ RRE (proS s) (proS (35 :: 32 :: 120 :: 10 :: s))
theorem blanksLaw (s : Bs) (hs : s.length ≤ 1500) : BlanksLaw s := by
  refine ⟨fun a hc => ?_, fun ts hc => ?_⟩
  · show readS programS s = _
    unfold readS; rw [if_neg (by omega), hc]
  · obtain ⟨h1, h2⟩ := cut_clean _ _ _ _ hc
    have h3 := cutS_len _ _ _ _ hc
    have h4 := joinB_len (ts.map (·.tx))
    simp only [List.map_map, List.length_map] at h4
    have h5 : (joinB (ts.map (·.tx))).length ≤ 2 * s.length := by
      have : (List.map (List.length ∘ fun x : Tok => x.tx) ts).sum = (List.map (fun t : Tok => t.tx.length) ts).sum := rfl
      omega
    obtain ⟨l, h6, h7⟩ := cut_join ts _ 0 h1 (Nat.le_refl _)
    refine ⟨h3, h5, read_e (e := 0) programS programS s _ (by omega) (by omega) program_e hc h6 h7, ?_⟩
    have h8 := cut_comment s
    rw [hc] at h8
    cases h9 : cutT (35 :: 32 :: 120 :: 10 :: s) with
    | bad a => rw [h9] at h8; exact h8.elim
    | ok l' =>
      rw [h9] at h8
      exact read_e (e := 0) programS programS s _ (by omega) (by simp; omega) program_e hc h9 h8
def gBl : AG := gput 8 cShown (gput 12 cCutT (gput 9 (cTop proS) (gput 17 cSame (gput 20 cJoinT g0))))
theorem gBl_ok : GOk Tryz.prog gBl := gput_ok shown_ok (gput_ok cutT_ok (gput_ok Program_ok (gput_ok same_ok (gput_ok joinT_ok g0_ok))))
def cBlanks : AC := fun args K k => ∃ s, args = [.p (.str s)] ∧ k (.ret (.p (.bool true))) K
theorem pro_len {s : Bs} {ns : List Nd} {root mo : Int} (h : proS s = .ok ns root mo) : ns.length ≤ 4000 := by
  have h : readS programS s = .ok ns root mo := h
  unfold readS at h
  split at h
  · cases h
  · split at h
    · cases h
    · split at h
      · cases h
      · split at h
        · cases h
        · split at h
          · cases h
          · split at h
            · cases h
            · injection h with h1 h2 h3; subst h1; omega
theorem sameS_t {a b : List Nd} {r : Int} (h : a.map nkey = b.map nkey) : sameS a r b r = true := by simp [sameS, h]
theorem blanks_ok : COk 7 cBlanks := by
  rintro args K k ⟨s, rfl, hk⟩
  refine frame0P gBl_ok 19 rfl fun Q hr => ?_
  conv => whnf
  refine ⟨rfl, ?_⟩
  conv => whnf
  refine two_dec (fun h => ?_) (fun h => ?_)
  · conv => whnf
    exact hr _ _ rfl hk
  have h : s.length ≤ 1500 := by omega
  obtain ⟨hl1, hl2⟩ := blanksLaw s h
  conv => whnf
  refine ⟨s, rfl, by omega, ?_⟩
  cases hc : cutT s with
  | bad a =>
    rw [hl1 a hc]
    conv => whnf
    refine ⟨s, rfl, by omega, fun h2 => by omega, fun _ => ?_⟩
    rw [hc]
    conv => whnf
    exact hr _ _ rfl hk
  | ok ts =>
    obtain ⟨h1, h2, h3, h4⟩ := hl2 ts hc
    have hj : (35 :: 32 :: 120 :: 10 :: s).length = s.length + 4 := rfl
    cases hp : proS s with
    | bad a er =>
      rw [hp] at h3 h4
      conv => whnf
      refine ⟨s, rfl, by omega, fun h2 => by omega, fun _ => ?_⟩
      rw [hc]
      conv => whnf
      refine ⟨s.length, ts, rfl, by omega, by omega, ?_⟩
      conv => whnf
      refine ⟨joinB (ts.map (·.tx)), rfl, by omega, ?_⟩
      cases hp2 : proS (joinB (ts.map (·.tx))) with
      | ok => rw [hp2] at h3; exact h3.elim
      | bad a2 er2 =>
        rw [hp2] at h3
        obtain rfl : er = er2 := h3
        conv => whnf
        refine ⟨by simp only [List.length_cons, List.length_nil]; omega, ?_⟩
        conv => whnf
        refine ⟨35 :: 32 :: 120 :: 10 :: s, rfl, by omega, ?_⟩
        cases hp3 : proS (35 :: 32 :: 120 :: 10 :: s) with
        | ok => rw [hp3] at h4; exact h4.elim
        | bad a3 er3 =>
          rw [hp3] at h4
          obtain rfl : er = er3 := h4
          conv => whnf
          refine two_eq (fun _ => ?_) (fun h => absurd rfl h)
          conv => whnf
          refine ⟨_, _, [], [], 0, 0, rfl, .inr ⟨rfl, rfl, rfl⟩, .inr ⟨rfl, rfl, rfl⟩, by simp, ?_⟩
          rw [sameS_t rfl]
          conv => whnf
          refine two_eq (fun _ => ?_) (fun h => absurd rfl h)
          conv => whnf
          refine ⟨_, _, [], [], 0, 0, rfl, .inr ⟨rfl, rfl, rfl⟩, .inr ⟨rfl, rfl, rfl⟩, by simp, ?_⟩
          rw [sameS_t rfl]
          conv => whnf
          exact hr _ _ rfl hk
    | ok ns root mo =>
      have hn := pro_len hp
      rw [hp] at h3 h4
      conv => whnf
      refine ⟨s, rfl, by omega, fun h2 => by omega, fun _ => ?_⟩
      rw [hc]
      conv => whnf
      refine ⟨s.length, ts, rfl, by omega, by omega, ?_⟩
      conv => whnf
      refine ⟨joinB (ts.map (·.tx)), rfl, by omega, ?_⟩
      cases hp2 : proS (joinB (ts.map (·.tx))) with
      | bad => rw [hp2] at h3; exact h3.elim
      | ok ns2 root2 mo2 =>
        rw [hp2] at h3
        obtain ⟨rfl, h3⟩ : root = root2 ∧ _ := h3
        conv => whnf
        refine ⟨by simp only [List.length_cons, List.length_nil]; omega, ?_⟩
        conv => whnf
        refine ⟨35 :: 32 :: 120 :: 10 :: s, rfl, by omega, ?_⟩
        cases hp3 : proS (35 :: 32 :: 120 :: 10 :: s) with
        | bad => rw [hp3] at h4; exact h4.elim
        | ok ns3 root3 mo3 =>
          rw [hp3] at h4
          obtain ⟨rfl, h4⟩ : root = root3 ∧ _ := h4
          conv => whnf
          refine ⟨_, _, ns, ns2, root, root, rfl, .inl rfl, .inl rfl, by omega, ?_⟩
          rw [sameS_t h3]
          conv => whnf
          refine ⟨_, _, ns, ns3, root, root, rfl, .inl rfl, .inl rfl, by omega, ?_⟩
          rw [sameS_t h4]
          conv => whnf
          exact hr _ _ rfl hk
theorem blanks_calls (s : Bs) (K : List ABlk) (k : AO → List ABlk → Prop) (hk : k (.ret (.p (.bool true))) K) : ACalls Tryz.prog 7 [.p (.str s)] K k :=
  blanks_ok _ _ _ ⟨s, rfl, hk⟩
end Go.Proofs.YtbcngegcpdppfaaGreatDoor
