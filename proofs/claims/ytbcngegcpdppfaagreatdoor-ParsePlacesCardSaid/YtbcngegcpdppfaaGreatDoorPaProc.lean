/-
  Parser, part 13: procedures, programs. No statement of the seat is proved here.
-/
import Derived.Test.YtbcngegcpdppfaaGreatDoorPaBody
namespace Go.Proofs.YtbcngegcpdppfaaGreatDoor
open Go.AE Go.Ru
set_option maxRecDepth 100000
set_option pp.maxSteps 2000

def g14 : AG := gput 88 cBody g13
theorem g14_ok : GOk Tryz.prog g14 := gput_ok body_ok g13_ok

def cProc : AC := fun args K k => ∃ d : Nat, ∃ e ts ns mo op X, args = [pp] ∧ K = encP e ts ns op mo ++ X ∧ op = 40 - (d : Int) ∧ Fine d ts ns ∧
  After e (procS e d ⟨ts, ns, mo⟩) intV op X k
theorem kid_app (l vs : List Int) (b : Int) (f : Nat → List AV) (hf : f 0 = [intV b]) : ∀ i, i < l.length + vs.length + 1 →
    catF (l.length + vs.length) (catF l.length (fun i => pvs (kidF l i)) (fun i => pvs (kidF vs i))) f i = [intV ((l ++ vs ++ [b]).getD i 0)] := fun i hi => by
  by_cases h : i < l.length + vs.length
  · rw [catF_lt h]
    by_cases h2 : i < l.length
    · rw [catF_lt h2]
      have : (l ++ vs ++ [b])[i]? = l[i]? := by rw [List.append_assoc, List.getElem?_append_left h2]
      simp only [kidF, List.getD_eq_getElem?_getD, this, pvs, intV]
    · rw [catF_ge (by omega)]
      have : (l ++ vs ++ [b])[i]? = vs[i - l.length]? := by
        rw [List.getElem?_append_left (by simp; omega), List.getElem?_append_right (by omega)]
      simp only [kidF, List.getD_eq_getElem?_getD, this, pvs, intV]
  · obtain rfl : i = l.length + vs.length := by omega
    rw [catF_ge (Nat.le_refl _), Nat.sub_self, hf]
    have : (l ++ vs ++ [b])[l.length + vs.length]? = some b := by
      rw [List.getElem?_append_right (by simp)]; simp
    simp only [List.getD_eq_getElem?_getD, this, Option.getD_some]
/-- is the next token that one? Behind it a nil slice is a row of nothing. -/
def cIsN : AC := fun args K k => cIs args K k ∨ cIs args K (fun ao K1 => ∃ ty sz g K2, nswK K1.length K1 K2 ∧ k ao (K2 ++ [.arr ty sz 0 0 g]))
theorem isN_ok : COk 78 cIsN := by
  rintro args K k (h | h)
  · exact is_ok _ _ _ h
  · exact (is_ok _ _ _ h).nil
theorem proc_ok : COk 47 cProc := by
  rintro args K k ⟨d, e, ts0, ns, mo, op, X, rfl, rfl, ho, hf, hk⟩
  refine frameP (G := gput 78 cIsN g14) (gput_ok isN_ok g14_ok) 19 rfl fun Q hr hp => ?_
  have hk := hk.ak
  have hf := hf.fin
  have hd0 := hf.d
  unfold procS at hk
  simp only at hk
  conv => whnf
  refine ⟨by simp <;> omega, ?_⟩
  conv => whnf
  rw [enc_hd]
  conv => whnf
  refine ⟨_, _, _, _, _, _, _, rfl, rfl, hk.step (want_le _ _ _) (fun _ ts2 ns2 mo2 hl hk => ?_) (fun a er hb => by ((conv => whnf); exact hp _ _ rfl hb))⟩
  have hf := hf.st hl
  conv => whnf
  refine ⟨_, _, _, _, _, _, rfl, rfl, hk.step (ident_le _ _) (fun t ts ns mo hl hk => ?_) (fun a er hb => by ((conv => whnf); exact hp _ _ rfl hb))⟩
  have hf := hf.st hl
  conv => whnf
  refine .inl ?_
  cases hw : isS [40] ts with
  | false =>
    have hb := hk.within_no hw
    refine ⟨_, _, _, _, _, _, _, rfl, rfl, ?_⟩
    conv => whnf
    refine two_false hw ?_
    conv => whnf
    refine ⟨_, _, _, _, _, _, _, rfl, rfl, ⟨fun a ts' ns' mo' h => by simp [wantS, hw] at h, fun a er h => ?_⟩⟩
    simp only [wantS, hw, R.bad.injEq] at h
    obtain ⟨rfl, rfl⟩ := h
    ((conv => whnf); exact hp _ _ rfl hb)
  | true =>
    refine ⟨_, _, _, _, _, _, _, rfl, rfl, ?_⟩
    conv => whnf
    refine two_true hw ?_
    conv => whnf
    cases d with
    | zero =>
      have hb := hk.within_deep hw
      refine two_true (by simp [ho]) ?_
      conv => whnf
      refine ⟨_, _, _, _, _, _, _, rfl, rfl, ?_⟩
      ((conv => whnf); exact hp _ _ rfl hb)
    | succ d =>
    refine two_false (by simp [ho]; omega) ?_
    conv => whnf
    refine ⟨_, _, _, _, _, _, _, rfl, rfl, ⟨fun a ts' ns' mo' h => ?_, fun a er h => by simp [wantS, hw] at h⟩⟩
    simp only [wantS, hw, dropS, R.ok.injEq, PS.mk.injEq] at h
    obtain ⟨-, rfl, rfl, rfl⟩ := h
    have hd2 : d < 1000 := by have := hf.1; omega
    have hk := hk.within hw (by simp)
    rw [← in_mo ho hd2] at hk
    have hf := hf.opn hw
    conv => whnf
    refine .inr ⟨_, _, _, _, _, _, _, rfl, rfl, 3, 1, fun i => pvs (kidF [] i), encP e ts.tail ns (IntKind.i64.wrap (op + 1)) (if IntKind.i64.wrap (op + 1) > mo then IntKind.i64.wrap (op + 1) else mo) ++ [.box 52 [pp], .box 41 [.p (.int .i64 3), .p (.int .i64 0), .p (.int .i64 (hd e ts0)), .p (.str t.tx), .p .nils], .box 39 [.slr 5 0 0 0]], ?_, ?_⟩
    · exact ⟨.inl (ABlk.le_refl _), .inl (ABlk.le_refl _), .inl (ABlk.le_refl _), .inl (ABlk.le_refl _), .inr ⟨_, _, _, rfl, rfl, .inr ⟨rfl, rfl⟩, trivial⟩, trivial⟩
    conv => whnf
    refine two_intro (fun h2 => ?_) (fun h2 => ?_)
    · have h2 : isS [41] ts.tail = true := h2
      simp only [listS, h2, bindO] at hk
      conv => whnf
      refine ⟨_, _, _, _, _, _, _, rfl, rfl, hk.step (want_le _ _ _) (fun _ ts ns mo hl hk => ?_) (fun a er hb => by ((conv => whnf); exact hp _ _ rfl hb))⟩
      have hf := hf.st hl
      conv => whnf
      have hln0 : ([] : List Int).length ≤ 900000 := by simp
      refine ⟨_, _, _, _, _, _, rfl, rfl, ?_⟩
      conv => whnf
      refine two_intro (fun h3 => ?_) (fun h3 => ?_)
      · obtain ⟨t2, ts, rfl⟩ : ∃ t r, ts = t :: r := by
          cases ts with
          | nil => simp [typesS, isS] at h3
          | cons t r => exact ⟨t, r, rfl⟩
        have h3 : decide (typesS (t2 :: ts) > 0) = true := h3
        simp only [h3, dropS] at hk
        conv => whnf
        refine ⟨_, _, _, _, _, _, _, rfl, rfl, ?_⟩
        conv => whnf
        rw [out_op ho hd2]
        have hf : Fin d 7 ts ns := ⟨hf.1, by have := hf.2; simp only [List.length_cons] at this; omega⟩
        refine ⟨d + 1, _, _, _, _, _, _, rfl, rfl, ho, ⟨hd0, by have := hf.2; omega⟩, hk.stepv (p := fun p s => Lw _ 3 1 s ∧ p.1.length ≤ _) (fun p s h => ⟨body_le _ _ _ _ _ h, body_len _ _ _ _ _ h⟩) (fun p ts ns mo hl hk => ?_) (fun a er hb => by ((conv => whnf); exact hp _ _ rfl hb))⟩
        have hpl := hl.2
        have hl := hl.1
        have hpb : p.1.length ≤ 900000 := by have := hf.2; simp only [List.tail_cons] at hpl; omega
        have hf := hf.st hl
        conv => whnf
        have hlen : (([] : List Int)).length ≤ 900000 := hln0
        refine ⟨?_, ?_⟩
        · conv => whnf
          refine ⟨⟨rfl, fun _ _ => rfl⟩, ?_⟩
          conv => whnf
          refine ⟨⟨rfl, rfl, rfl, rfl, ?_, ?_⟩, ?_⟩
          · show ((([] : List Int)).length + p.1.length) * 8 ≤ 140737488355328
            omega
          · show (([] : List Int)).length + p.1.length ≤ 9223372036854775807
            omega
          conv => whnf
          repeat ((refine And.intro ?_ ?_); (focus ((conv => whnf); done)); (conv => whnf))
          refine ⟨⟨rfl, rfl, rfl, allLt_ok ⟨trivial, rfl⟩⟩, ?_⟩
          conv => whnf
          refine ⟨⟨rfl, rfl, rfl, rfl, ?_, ?_⟩, ?_⟩
          · show ((([] : List Int)).length + p.1.length + 1) * 8 ≤ 140737488355328
            omega
          · show (([] : List Int)).length + p.1.length + 1 ≤ 9223372036854775807
            omega
          conv => whnf
          repeat ((refine And.intro ?_ ?_); (focus ((conv => whnf); done)); (conv => whnf))
          refine ⟨([] : List Int) ++ p.1 ++ [p.2], _, _, _, _, _, _, _, _, _, _, _, rfl, rfl, PutK.slr hf.sz rfl rfl ?_ ?_ ?_⟩
          · show (([] : List Int) ++ p.1 ++ [p.2]).length = (([] : List Int)).length + p.1.length + 1
            simp only [List.length_append, List.length_cons, List.length_nil]
          · exact kid_app (([] : List Int)) p.1 p.2 _ rfl
          conv => whnf
          repeat ((refine And.intro ?_ ?_); (focus ((conv => whnf); done)); (conv => whnf))
          exact hr _ _ _ _ _ _ rfl rfl hk
        · conv => whnf
          repeat ((refine And.intro ?_ ?_); (focus ((conv => whnf); done)); (conv => whnf))
          refine ⟨⟨rfl, fun _ _ => rfl⟩, ?_⟩
          conv => whnf
          refine ⟨⟨rfl, rfl, rfl, rfl, ?_, ?_⟩, ?_⟩
          · show ((([] : List Int)).length + p.1.length) * 8 ≤ 140737488355328
            omega
          · show (([] : List Int)).length + p.1.length ≤ 9223372036854775807
            omega
          conv => whnf
          repeat ((refine And.intro ?_ ?_); (focus ((conv => whnf); done)); (conv => whnf))
          refine ⟨⟨rfl, rfl, rfl, allLt_ok ⟨trivial, rfl⟩⟩, ?_⟩
          conv => whnf
          refine ⟨⟨rfl, rfl, rfl, rfl, ?_, ?_⟩, ?_⟩
          · show ((([] : List Int)).length + p.1.length + 1) * 8 ≤ 140737488355328
            omega
          · show (([] : List Int)).length + p.1.length + 1 ≤ 9223372036854775807
            omega
          conv => whnf
          repeat ((refine And.intro ?_ ?_); (focus ((conv => whnf); done)); (conv => whnf))
          refine ⟨([] : List Int) ++ p.1 ++ [p.2], _, _, _, _, _, _, _, _, _, _, _, rfl, rfl, PutK.slr hf.sz rfl rfl ?_ ?_ ?_⟩
          · show (([] : List Int) ++ p.1 ++ [p.2]).length = (([] : List Int)).length + p.1.length + 1
            simp only [List.length_append, List.length_cons, List.length_nil]
          · exact kid_app (([] : List Int)) p.1 p.2 _ rfl
          conv => whnf
          repeat ((refine And.intro ?_ ?_); (focus ((conv => whnf); done)); (conv => whnf))
          exact hr _ _ _ _ _ _ rfl rfl hk
      · have h3 : decide (typesS ts > 0) = false := h3
        simp only [h3] at hk
        conv => whnf
        rw [out_op ho hd2]
        have hf : Fin d 7 ts ns := hf.lo (by omega)
        refine ⟨d + 1, _, _, _, _, _, _, rfl, rfl, ho, ⟨hd0, by have := hf.2; omega⟩, hk.stepv (p := fun p s => Lw _ 3 1 s ∧ p.1.length ≤ _) (fun p s h => ⟨body_le _ _ _ _ _ h, body_len _ _ _ _ _ h⟩) (fun p ts ns mo hl hk => ?_) (fun a er hb => by ((conv => whnf); exact hp _ _ rfl hb))⟩
        have hpl := hl.2
        have hl := hl.1
        have hpb : p.1.length ≤ 900000 := by have := hf.2; simp only [List.tail_cons] at hpl; omega
        have hf := hf.st hl
        conv => whnf
        have hlen : (([] : List Int)).length ≤ 900000 := hln0
        refine ⟨?_, ?_⟩
        · conv => whnf
          refine ⟨⟨rfl, fun _ _ => rfl⟩, ?_⟩
          conv => whnf
          refine ⟨⟨rfl, rfl, rfl, rfl, ?_, ?_⟩, ?_⟩
          · show ((([] : List Int)).length + p.1.length) * 8 ≤ 140737488355328
            omega
          · show (([] : List Int)).length + p.1.length ≤ 9223372036854775807
            omega
          conv => whnf
          repeat ((refine And.intro ?_ ?_); (focus ((conv => whnf); done)); (conv => whnf))
          refine ⟨⟨rfl, rfl, rfl, allLt_ok ⟨trivial, rfl⟩⟩, ?_⟩
          conv => whnf
          refine ⟨⟨rfl, rfl, rfl, rfl, ?_, ?_⟩, ?_⟩
          · show ((([] : List Int)).length + p.1.length + 1) * 8 ≤ 140737488355328
            omega
          · show (([] : List Int)).length + p.1.length + 1 ≤ 9223372036854775807
            omega
          conv => whnf
          repeat ((refine And.intro ?_ ?_); (focus ((conv => whnf); done)); (conv => whnf))
          refine ⟨([] : List Int) ++ p.1 ++ [p.2], _, _, _, _, _, _, _, _, _, _, _, rfl, rfl, PutK.slr hf.sz rfl rfl ?_ ?_ ?_⟩
          · show (([] : List Int) ++ p.1 ++ [p.2]).length = (([] : List Int)).length + p.1.length + 1
            simp only [List.length_append, List.length_cons, List.length_nil]
          · exact kid_app (([] : List Int)) p.1 p.2 _ rfl
          conv => whnf
          repeat ((refine And.intro ?_ ?_); (focus ((conv => whnf); done)); (conv => whnf))
          exact hr _ _ _ _ _ _ rfl rfl hk
        · conv => whnf
          repeat ((refine And.intro ?_ ?_); (focus ((conv => whnf); done)); (conv => whnf))
          refine ⟨⟨rfl, fun _ _ => rfl⟩, ?_⟩
          conv => whnf
          refine ⟨⟨rfl, rfl, rfl, rfl, ?_, ?_⟩, ?_⟩
          · show ((([] : List Int)).length + p.1.length) * 8 ≤ 140737488355328
            omega
          · show (([] : List Int)).length + p.1.length ≤ 9223372036854775807
            omega
          conv => whnf
          repeat ((refine And.intro ?_ ?_); (focus ((conv => whnf); done)); (conv => whnf))
          refine ⟨⟨rfl, rfl, rfl, allLt_ok ⟨trivial, rfl⟩⟩, ?_⟩
          conv => whnf
          refine ⟨⟨rfl, rfl, rfl, rfl, ?_, ?_⟩, ?_⟩
          · show ((([] : List Int)).length + p.1.length + 1) * 8 ≤ 140737488355328
            omega
          · show (([] : List Int)).length + p.1.length + 1 ≤ 9223372036854775807
            omega
          conv => whnf
          repeat ((refine And.intro ?_ ?_); (focus ((conv => whnf); done)); (conv => whnf))
          refine ⟨([] : List Int) ++ p.1 ++ [p.2], _, _, _, _, _, _, _, _, _, _, _, rfl, rfl, PutK.slr hf.sz rfl rfl ?_ ?_ ?_⟩
          · show (([] : List Int) ++ p.1 ++ [p.2]).length = (([] : List Int)).length + p.1.length + 1
            simp only [List.length_append, List.length_cons, List.length_nil]
          · exact kid_app (([] : List Int)) p.1 p.2 _ rfl
          conv => whnf
          repeat ((refine And.intro ?_ ?_); (focus ((conv => whnf); done)); (conv => whnf))
          exact hr _ _ _ _ _ _ rfl rfl hk
    · have h2 : isS [41] ts.tail = false := h2
      simp only [listS, h2, oneS, paramS, bindA, bindO] at hk
      conv => whnf
      refine ⟨_, _, _, _, _, _, rfl, rfl, hk.step (ident_le _ _) (fun t1 ts2 ns2 mo2 hl hk => ?_) (fun a er hb => by ((conv => whnf); exact hp _ _ rfl hb))⟩
      have hf := hf.st hl
      conv => whnf
      refine ⟨d, _, _, _, _, _, _, _, _, _, rfl, rfl, hf.fine, hk.step (typed_le _ _ _ _ _) (fun x ts3 ns3 mo3 hl hk => ?_) (fun a er hb => by ((conv => whnf); exact hp _ _ rfl hb))⟩
      have hf := hf.st hl
      conv => whnf
      repeat ((refine And.intro ?_ ?_); (focus ((conv => whnf); done)); (conv => whnf))
      refine ⟨⟨rfl, rfl, rfl, allLt_ok ⟨trivial, rfl⟩⟩, ?_⟩
      conv => whnf
      refine ⟨⟨rfl, rfl, rfl, rfl, by decide, by decide⟩, ?_⟩
      conv => whnf
      refine loop_cut (ι := LC) 6 (fun i => ⟨[(0, pp), (1, .fn 86 [] [.ptr 2 0 1 0 0, .ptr 4 0 1 0 0])],
          encP e i.ts i.ns (IntKind.i64.wrap (op + 1)) i.mo ++ [.box 52 [pp], .box 41 [.p (.int .i64 3), .p (.int .i64 0), .p (.int .i64 (hd e ts0)), .p (.str t.tx), .p .nils], .box 39 [.slr 5 0 0 i.l.length], kidA i.l]⟩)
        (fun i => i.ts.length ≤ i.n ∧ i.n ≤ 900000 ∧ i.l.length + i.ts.length ≤ 900000 ∧ Fin d 7 i.ts i.ns ∧ AK ((commaL (oneS (paramS e)) i.n i.l ⟨i.ts, i.ns, i.mo⟩).bind fun l s => (wantS e [41] s).bind fun _ s => (bodyS e (d + 1)
              (match decide (typesS s.ts > 0) with
                | true => dropS s
                | false => s)).bind fun p s_1 => putS ⟨3, typesS s.ts, hd e ts0, t.tx, l ++ p.1 ++ [p.2]⟩ s_1)
          (fun a s => k (.ret (intV a)) (encP e s.ts s.ns op s.mo ++ X)) (fun a er => k (.pan (wrongV a er)) (deads 2 ++ X)))
        (fun i => i.n) ⟨ts3, ns3, mo3, [x], ts3.length⟩ rfl rfl ⟨AV.le_refl _, AV.le_refl _, trivial⟩ ⟨rfl, fun _ _ => rfl, rfl, rfl, rfl, ?_, trivial⟩ ⟨ABlk.le_refl _, ABlk.le_refl _, ABlk.le_refl _, ABlk.le_refl _, ABlk.le_refl _, ?_, trivial⟩
        ⟨Nat.le_refl _, ?_, ?_, hf.lo (by omega), hk⟩ ?_
      · exact kid_cl [] x _ 6 rfl
      · exact kidA_snoc [] x _ rfl
      · have := hf.s; show ts3.length ≤ 900000; omega
      · have := hf.s; show 1 + ts3.length ≤ 900000; omega
      clear hk hf hl
      rintro Y hle ⟨ts, ns, mo, l, n⟩ ⟨hn, hn2, hln, hf, hk⟩ ih
      simp only at hn hn2 hln hf hk
      conv => whnf
      refine ⟨_, _, _, _, _, _, _, rfl, rfl, ⟨fun h => ?_, fun h => ?_⟩⟩
      · cases n with
        | zero => have := isS_pos h; simp only at this; omega
        | succ n =>
        have h : isS [44] ts = true := h
        simp only [commaL, h, oneS, paramS, bindA, bindO, dropS] at hk
        have hf := hf.sk h
        have hpos := isS_pos h
        conv => whnf
        refine ⟨_, _, _, _, _, _, rfl, rfl, hk.step (ident_le _ _) (fun t2 ts2 ns2 mo2 hl hk => ?_) (fun a er hb => by ((conv => whnf); exact hp _ _ rfl hb))⟩
        have hf := hf.st hl
        have hl2 := hl.2
        conv => whnf
        refine ⟨d, _, _, _, _, _, _, _, _, _, rfl, rfl, hf.fine, hk.step (typed_le _ _ _ _ _) (fun x ts3 ns3 mo3 hl hk => ?_) (fun a er hb => by ((conv => whnf); exact hp _ _ rfl hb))⟩
        have hf := hf.st hl
        have hl3 := hl.2
        conv => whnf
        repeat ((refine And.intro ?_ ?_); (focus ((conv => whnf); done)); (conv => whnf))
        refine ⟨⟨rfl, rfl, rfl, allLt_ok ⟨trivial, rfl⟩⟩, ?_⟩
        conv => whnf
        refine ⟨⟨rfl, rfl, rfl, rfl, ?_, ?_⟩, ?_⟩
        · show (l.length + 1) * 8 ≤ 140737488355328
          omega
        · show l.length + 1 ≤ 9223372036854775807
          omega
        conv => whnf
        simp only [List.length_tail] at hl2 hl3
        refine hle _ _ (Le.cutEnv 6 rfl rfl ⟨rfl, fun _ _ => rfl, rfl, rfl, rfl, ?_, trivial⟩ ?_ ?_) (ih ⟨ts3, ns3, mo3, l ++ [x], n⟩ (by simp only; omega) ⟨?_, ?_, ?_, hf.lo (by omega), hk⟩)
        · exact kid_cl l x _ 6 rfl
        · exact ⟨AV.le_refl _, AV.le_refl _, trivial⟩
        · exact ⟨ABlk.le_refl _, ABlk.le_refl _, ABlk.le_refl _, ABlk.le_refl _, ABlk.le_of_eq (by simp), kidA_snoc l x _ rfl, trivial⟩
        · simp only; omega
        · simp only; omega
        · simp only [List.length_append, List.length_cons, List.length_nil]; omega
      · have h : isS [44] ts = false := h
        replace hk : AK ((wantS e [41] ⟨ts, ns, mo⟩).bind fun _ s => (bodyS e (d + 1)
              (match decide (typesS s.ts > 0) with
                | true => dropS s
                | false => s)).bind fun p s_1 => putS ⟨3, typesS s.ts, hd e ts0, t.tx, l ++ p.1 ++ [p.2]⟩ s_1)
          (fun a s => k (.ret (intV a)) (encP e s.ts s.ns op s.mo ++ X)) (fun a er => k (.pan (wrongV a er)) (deads 2 ++ X)) := by
          cases n with
          | zero => exact hk
          | succ n => simp only [commaL, h, bindO] at hk; exact hk
        have hln0 : l.length ≤ 900000 := by omega
        conv => whnf
        refine ⟨_, _, _, _, _, _, _, rfl, rfl, hk.step (want_le _ _ _) (fun _ ts ns mo hl hk => ?_) (fun a er hb => by ((conv => whnf); exact hp _ _ rfl hb))⟩
        have hf := hf.st hl
        conv => whnf
        refine ⟨_, _, _, _, _, _, rfl, rfl, ?_⟩
        conv => whnf
        refine two_intro (fun h3 => ?_) (fun h3 => ?_)
        · obtain ⟨t2, ts, rfl⟩ : ∃ t r, ts = t :: r := by
            cases ts with
            | nil => simp [typesS, isS] at h3
            | cons t r => exact ⟨t, r, rfl⟩
          have h3 : decide (typesS (t2 :: ts) > 0) = true := h3
          simp only [h3, dropS] at hk
          conv => whnf
          refine ⟨_, _, _, _, _, _, _, rfl, rfl, ?_⟩
          conv => whnf
          rw [out_op ho hd2]
          have hf : Fin d 7 ts ns := ⟨hf.1, by have := hf.2; simp only [List.length_cons] at this; omega⟩
          refine ⟨d + 1, _, _, _, _, _, _, rfl, rfl, ho, ⟨hd0, by have := hf.2; omega⟩, hk.stepv (p := fun p s => Lw _ 3 1 s ∧ p.1.length ≤ _) (fun p s h => ⟨body_le _ _ _ _ _ h, body_len _ _ _ _ _ h⟩) (fun p ts ns mo hl hk => ?_) (fun a er hb => by ((conv => whnf); exact hp _ _ rfl hb))⟩
          have hpl := hl.2
          have hl := hl.1
          have hpb : p.1.length ≤ 900000 := by have := hf.2; simp only [List.tail_cons] at hpl; omega
          have hf := hf.st hl
          conv => whnf
          have hlen : (l).length ≤ 900000 := hln0
          refine ⟨?_, ?_⟩
          · conv => whnf
            refine ⟨⟨rfl, fun _ _ => rfl⟩, ?_⟩
            conv => whnf
            refine ⟨⟨rfl, rfl, rfl, rfl, ?_, ?_⟩, ?_⟩
            · show ((l).length + p.1.length) * 8 ≤ 140737488355328
              omega
            · show (l).length + p.1.length ≤ 9223372036854775807
              omega
            conv => whnf
            repeat ((refine And.intro ?_ ?_); (focus ((conv => whnf); done)); (conv => whnf))
            refine ⟨⟨rfl, rfl, rfl, allLt_ok ⟨trivial, rfl⟩⟩, ?_⟩
            conv => whnf
            refine ⟨⟨rfl, rfl, rfl, rfl, ?_, ?_⟩, ?_⟩
            · show ((l).length + p.1.length + 1) * 8 ≤ 140737488355328
              omega
            · show (l).length + p.1.length + 1 ≤ 9223372036854775807
              omega
            conv => whnf
            repeat ((refine And.intro ?_ ?_); (focus ((conv => whnf); done)); (conv => whnf))
            refine ⟨l ++ p.1 ++ [p.2], _, _, _, _, _, _, _, _, _, _, _, rfl, rfl, PutK.slr hf.sz rfl rfl ?_ ?_ ?_⟩
            · show (l ++ p.1 ++ [p.2]).length = (l).length + p.1.length + 1
              simp only [List.length_append, List.length_cons, List.length_nil]
            · exact kid_app (l) p.1 p.2 _ rfl
            conv => whnf
            repeat ((refine And.intro ?_ ?_); (focus ((conv => whnf); done)); (conv => whnf))
            exact hr _ _ _ _ _ _ rfl rfl hk
          · conv => whnf
            repeat ((refine And.intro ?_ ?_); (focus ((conv => whnf); done)); (conv => whnf))
            refine ⟨⟨rfl, fun _ _ => rfl⟩, ?_⟩
            conv => whnf
            refine ⟨⟨rfl, rfl, rfl, rfl, ?_, ?_⟩, ?_⟩
            · show ((l).length + p.1.length) * 8 ≤ 140737488355328
              omega
            · show (l).length + p.1.length ≤ 9223372036854775807
              omega
            conv => whnf
            repeat ((refine And.intro ?_ ?_); (focus ((conv => whnf); done)); (conv => whnf))
            refine ⟨⟨rfl, rfl, rfl, allLt_ok ⟨trivial, rfl⟩⟩, ?_⟩
            conv => whnf
            refine ⟨⟨rfl, rfl, rfl, rfl, ?_, ?_⟩, ?_⟩
            · show ((l).length + p.1.length + 1) * 8 ≤ 140737488355328
              omega
            · show (l).length + p.1.length + 1 ≤ 9223372036854775807
              omega
            conv => whnf
            repeat ((refine And.intro ?_ ?_); (focus ((conv => whnf); done)); (conv => whnf))
            refine ⟨l ++ p.1 ++ [p.2], _, _, _, _, _, _, _, _, _, _, _, rfl, rfl, PutK.slr hf.sz rfl rfl ?_ ?_ ?_⟩
            · show (l ++ p.1 ++ [p.2]).length = (l).length + p.1.length + 1
              simp only [List.length_append, List.length_cons, List.length_nil]
            · exact kid_app (l) p.1 p.2 _ rfl
            conv => whnf
            repeat ((refine And.intro ?_ ?_); (focus ((conv => whnf); done)); (conv => whnf))
            exact hr _ _ _ _ _ _ rfl rfl hk
        · have h3 : decide (typesS ts > 0) = false := h3
          simp only [h3] at hk
          conv => whnf
          rw [out_op ho hd2]
          have hf : Fin d 7 ts ns := hf.lo (by omega)
          refine ⟨d + 1, _, _, _, _, _, _, rfl, rfl, ho, ⟨hd0, by have := hf.2; omega⟩, hk.stepv (p := fun p s => Lw _ 3 1 s ∧ p.1.length ≤ _) (fun p s h => ⟨body_le _ _ _ _ _ h, body_len _ _ _ _ _ h⟩) (fun p ts ns mo hl hk => ?_) (fun a er hb => by ((conv => whnf); exact hp _ _ rfl hb))⟩
          have hpl := hl.2
          have hl := hl.1
          have hpb : p.1.length ≤ 900000 := by have := hf.2; simp only [List.tail_cons] at hpl; omega
          have hf := hf.st hl
          conv => whnf
          have hlen : (l).length ≤ 900000 := hln0
          refine ⟨?_, ?_⟩
          · conv => whnf
            refine ⟨⟨rfl, fun _ _ => rfl⟩, ?_⟩
            conv => whnf
            refine ⟨⟨rfl, rfl, rfl, rfl, ?_, ?_⟩, ?_⟩
            · show ((l).length + p.1.length) * 8 ≤ 140737488355328
              omega
            · show (l).length + p.1.length ≤ 9223372036854775807
              omega
            conv => whnf
            repeat ((refine And.intro ?_ ?_); (focus ((conv => whnf); done)); (conv => whnf))
            refine ⟨⟨rfl, rfl, rfl, allLt_ok ⟨trivial, rfl⟩⟩, ?_⟩
            conv => whnf
            refine ⟨⟨rfl, rfl, rfl, rfl, ?_, ?_⟩, ?_⟩
            · show ((l).length + p.1.length + 1) * 8 ≤ 140737488355328
              omega
            · show (l).length + p.1.length + 1 ≤ 9223372036854775807
              omega
            conv => whnf
            repeat ((refine And.intro ?_ ?_); (focus ((conv => whnf); done)); (conv => whnf))
            refine ⟨l ++ p.1 ++ [p.2], _, _, _, _, _, _, _, _, _, _, _, rfl, rfl, PutK.slr hf.sz rfl rfl ?_ ?_ ?_⟩
            · show (l ++ p.1 ++ [p.2]).length = (l).length + p.1.length + 1
              simp only [List.length_append, List.length_cons, List.length_nil]
            · exact kid_app (l) p.1 p.2 _ rfl
            conv => whnf
            repeat ((refine And.intro ?_ ?_); (focus ((conv => whnf); done)); (conv => whnf))
            exact hr _ _ _ _ _ _ rfl rfl hk
          · conv => whnf
            repeat ((refine And.intro ?_ ?_); (focus ((conv => whnf); done)); (conv => whnf))
            refine ⟨⟨rfl, fun _ _ => rfl⟩, ?_⟩
            conv => whnf
            refine ⟨⟨rfl, rfl, rfl, rfl, ?_, ?_⟩, ?_⟩
            · show ((l).length + p.1.length) * 8 ≤ 140737488355328
              omega
            · show (l).length + p.1.length ≤ 9223372036854775807
              omega
            conv => whnf
            repeat ((refine And.intro ?_ ?_); (focus ((conv => whnf); done)); (conv => whnf))
            refine ⟨⟨rfl, rfl, rfl, allLt_ok ⟨trivial, rfl⟩⟩, ?_⟩
            conv => whnf
            refine ⟨⟨rfl, rfl, rfl, rfl, ?_, ?_⟩, ?_⟩
            · show ((l).length + p.1.length + 1) * 8 ≤ 140737488355328
              omega
            · show (l).length + p.1.length + 1 ≤ 9223372036854775807
              omega
            conv => whnf
            repeat ((refine And.intro ?_ ?_); (focus ((conv => whnf); done)); (conv => whnf))
            refine ⟨l ++ p.1 ++ [p.2], _, _, _, _, _, _, _, _, _, _, _, rfl, rfl, PutK.slr hf.sz rfl rfl ?_ ?_ ?_⟩
            · show (l ++ p.1 ++ [p.2]).length = (l).length + p.1.length + 1
              simp only [List.length_append, List.length_cons, List.length_nil]
            · exact kid_app (l) p.1 p.2 _ rfl
            conv => whnf
            repeat ((refine And.intro ?_ ?_); (focus ((conv => whnf); done)); (conv => whnf))
            exact hr _ _ _ _ _ _ rfl rfl hk
end Go.Proofs.YtbcngegcpdppfaaGreatDoor
