/-
  Parser, part 12: bodies of procedures. No statement of the seat is proved here.
  Parser, part 13: procedures, programs. No statement of the seat is proved here.
  Parser, part 14: programs. No statement of the seat is proved here.
  AE, part 7d: a function that puts one call off, of a function literal that asks recover first. Own metatheory over any program; no statement of the seat is proved here.
  Parser, part 15: read. No statement of the seat is proved here.
  The statements of chapter 7: small and shown. No statement of the seat is proved here.
  Types, part 12: contracts whose answers are told by equations (so that no great goal need be rewritten). No statement of the seat is proved here.
  Flow, part 4: the contracts of raises, Raises. No statement of the seat is proved here.
  Flow, part 2: how statements are laid: plain laws. No program in sight; no statement of the seat is proved here.
  Flow, part 5: the contracts of block, stmt. No statement of the seat is proved here.
  Sorted rows, each element once: plain laws. No program in sight; no statement of the seat is proved here.
  Contracts of the library that the Shelf lacks. Laid by a program of the kit; no statement of the seat is proved here.
-/
import Derived.RecoverIn
import Derived.KernelRfl
import Derived.Lib.SlicesCompact
import Derived.Shelf.Small.Bits
import Derived.Shelf.Small.Strs
import Derived.Shelf.Strconv.Atoi
import Derived.Shelf.Strconv.Itoa0
import Derived.Shelf.Strconv.Itoa1
import Derived.Shelf.LaysM
import Derived.Shelf.Strconv.Itoa2
import Derived.Shelf.Strconv.Itoa3
import Derived.Shelf.Strconv.AtoiErrFast
import Derived.Shelf.Strconv.ParseIntEmpty
import Derived.Shelf.Strconv.AtoiFail
import Derived.Shelf.Strconv.Clone
import Derived.Shelf.Strconv.SyntaxError
import Derived.Shelf.LaysC
import Derived.Shelf.Strconv.ToError
import Derived.Shelf.Strconv.Lower
import Derived.Shelf.Strconv.ParseUint10
import Derived.Shelf.Strconv.ParseUint10Empty
import Derived.Shelf.Strconv.ParseUint10Any
import Derived.Shelf.Strconv.ParseInt10
import Derived.Shelf.Strconv.AtoiLong
import Derived.Shelf.Strconv.AtoiInnerAll
import Derived.Shelf.Strconv.RangeError
import Derived.Shelf.Strconv.ToErrorRange
import Derived.Shelf.Strconv.AtoiAll
import Derived.Shelf.Strings.Search1
import Derived.Shelf.Strings.Search2
import Derived.Shelf.Strings.Search3
import Derived.Shelf.Strings.Shaped
import Derived.Shelf.Sort.Plain
import Derived.Ground.Names2Prog
import Derived.Shelf.Slices.Clone
import Derived.Shelf.Slices.CompactI
import Derived.Shelf.Slices.CompactS
import Derived.Shelf.Slices.SearchI
import Derived.Shelf.Slices.Cells
import Derived.Shelf.Slices.In.SortNone
import Derived.Ground.SlgnProg
import Derived.Shelf.SlicesE.Clone
import Derived.Test.YtkomdppjelnpdaaGreatDoorProg
import Derived.Test.YtkomdppjelnpdaaGreatDoorPk1
import Derived.Test.YtkomdppjelnpdaaGreatDoorPk3
import Derived.Test.YtkomdppjelnpdaaGreatDoorPk4
import Derived.Test.YtkomdppjelnpdaaGreatDoorPk5
import Derived.Test.YtkomdppjelnpdaaGreatDoorPk6
set_option linter.unusedVariables false
set_option linter.unusedSimpArgs false
namespace Go.Proofs.YtkomdppjelnpdaaGreatDoor
open Go.AE Go.Ru
set_option maxRecDepth 100000
def g13 : AG := gput 95 cVars g12
theorem g13_ok : GOk Tryz.prog g13 := gput_ok vars_ok g12_ok
def cBody : AC := fun args K k => ∃ d : Nat, ∃ e ts ns mo op X, args = [pp, .p (.bool true)] ∧ K = encP e ts ns op mo ++ X ∧ op = 40 - (d : Int) ∧ Fine d ts ns ∧
  After e (bodyS e d ⟨ts, ns, mo⟩) (fun a => .tup [kidV a.1, intV a.2]) op X k
theorem body_ok : COk 149 cBody := by
  rintro args K k ⟨d, e, ts, ns, mo, op, X, rfl, rfl, ho, hf, hk⟩
  refine frameP g13_ok 19 rfl fun Q hr hp => ?_
  have hk := hk.ak
  have hf := hf.fin
  unfold bodyS at hk
  simp only at hk
  conv => whnf
  refine ⟨by simp <;> omega, ?_⟩
  conv => whnf
  rw [enc_hd]
  conv => whnf
  cases hw : isS [123] ts with
  | false =>
    have hb := hk.within_no hw
    refine ⟨_, _, _, _, _, _, _, rfl, rfl, ?_⟩
    conv => whnf
    refine two_false hw ?_
    conv => whnf
    refine ⟨_, _, _, _, _, _, _, rfl, rfl, ⟨fun a ts' ns' mo' h => by simp [wantS, hw] at h, fun a er h => ?_⟩⟩
    simp only [wantS, hw, R.bad.injEq] at h
    obtain ⟨rfl, rfl⟩ := h
    ((conv => whnf); exact hp _ _ rfl hb)
  | true =>
    refine ⟨_, _, _, _, _, _, _, rfl, rfl, ?_⟩
    conv => whnf
    refine two_true hw ?_
    conv => whnf
    cases d with
    | zero =>
      have hb := hk.within_deep hw
      refine two_true (by simp [ho]) ?_
      conv => whnf
      refine ⟨_, _, _, _, _, _, _, rfl, rfl, ?_⟩
      ((conv => whnf); exact hp _ _ rfl hb)
    | succ d =>
    refine two_false (by simp [ho]; omega) ?_
    conv => whnf
    refine ⟨_, _, _, _, _, _, _, rfl, rfl, ⟨fun a ts' ns' mo' h => ?_, fun a er h => by simp [wantS, hw] at h⟩⟩
    simp only [wantS, hw, dropS, R.ok.injEq, PS.mk.injEq] at h
    obtain ⟨-, rfl, rfl, rfl⟩ := h
    have hd2 : d < 1000 := by have := hf.1; omega
    have hk := hk.within hw (by simp)
    rw [← in_mo ho hd2] at hk
    have hf := hf.opn hw
    conv => whnf
    simp only [bindA] at hk
    refine ⟨d, _, _, _, _, _, _, _, rfl, rfl, hf.fine, hk.step (vars_le _ _ _) (fun vs ts2 ns2 mo2 hl hk => ?_) (fun a er hb => by ((conv => whnf); exact hp _ _ rfl hb))⟩
    have hf := hf.st hl
    have hl0 := hl.2
    have hd40 : d < 41 := by have := hf.d; omega
    simp only at hl0
    conv => whnf
    refine loop_nil (ι := LC) 3 1 (fun i => pvs (kidF [] i)) (fun i => ⟨[(1, .ptr 2 0 1 0 0), (3, .ptr 6 0 1 0 0)],
        encP e i.ts i.ns (IntKind.i64.wrap (op + 1)) i.mo ++ [.box 93 [pp], .box 4 [.p (.bool true)], .box 30 [.p (.int .i64 6), .p (.int .i64 0), .p (.int .i64 (Ru.hd e ts)), .p (.str []), .p .nils], .box 27 [kidV vs], .box 27 [.slr 7 0 0 i.l.length], kidA i.l]⟩)
      (fun i => i.ts.length < i.n ∧ i.n ≤ 900001 ∧ i.l.length + i.ts.length ≤ 900000 ∧ Fin d 3 i.ts i.ns ∧ AK ((stmtsL (stmtS e d) i.n i.l ⟨i.ts, i.ns, i.mo⟩).bind fun l s => (wantS e [125] s).bind fun _ s => (putS ⟨6, 0, Ru.hd e ts, [], l⟩ s).bind fun b s => .ok (vs, b) s)
        (fun a s => k (.ret (.tup [kidV a.1, intV a.2])) (encP e s.ts s.ns op s.mo ++ X)) (fun a er => k (.pan (wrongV a er)) (deads 2 ++ X)))
      (fun i => i.n) ⟨ts2, ns2, mo2, [], ts2.length + 1⟩
      (encP e ts2 ns2 (IntKind.i64.wrap (op + 1)) mo2 ++ [.box 93 [pp], .box 4 [.p (.bool true)], .box 30 [.p (.int .i64 6), .p (.int .i64 0), .p (.int .i64 (Ru.hd e ts)), .p (.str []), .p .nils], .box 27 [kidV vs], .box 27 [.slr 7 0 0 0]])
      rfl ⟨.inl (AV.le_refl _), .inl (AV.le_refl _), trivial⟩
      ?_ rfl
      ⟨Nat.lt_succ_self _, ?_, ?_, hf.lo (by omega), hk⟩ ?_
    · exact ⟨.inl (ABlk.le_refl _), .inl (ABlk.le_refl _), .inl (ABlk.le_refl _), .inl (ABlk.le_refl _), .inl (ABlk.le_refl _), .inl (ABlk.le_refl _), .inr ⟨_, _, _, rfl, rfl, .inr ⟨rfl, rfl⟩, trivial⟩, trivial⟩
    · have := hf.s; show ts2.length + 1 ≤ 900001; omega
    · have := hf.s; show 0 + ts2.length ≤ 900000; omega
    clear hk hf hl0 hl
    rintro Y hle ⟨ts, ns, mo, l, n⟩ ⟨hn, hn2, hln, hf, hk⟩ ih
    simp only at hn hn2 hln hf hk
    cases n with
    | zero => omega
    | succ n =>
    conv => whnf
    refine ⟨_, _, _, _, _, _, _, rfl, rfl, ?_⟩
    conv => whnf
    refine two_intro (fun h => ?_) (fun h => ?_)
    · have h : isS [125] ts = false := nt h
      simp only [stmtsL, h, bindA] at hk
      conv => whnf
      refine ⟨d, _, _, _, _, _, _, rfl, rfl, in_op ho hd2, by omega, hf.fine, hk.step (stmt_le _ _ _) (fun x ts2 ns2 mo2 hl hk => ?_) (fun a er hb => by ((conv => whnf); exact hp _ _ rfl hb))⟩
      have hf := hf.st hl
      conv => whnf
      refine ⟨by conv => whnf, ?_⟩
      conv => whnf
      refine ⟨by conv => whnf, ?_⟩
      conv => whnf
      refine ⟨⟨rfl, rfl, rfl, allLt_ok ⟨trivial, rfl⟩⟩, ?_⟩
      conv => whnf
      refine ⟨⟨rfl, rfl, rfl, rfl, ?_, ?_⟩, ?_⟩
      · show (l.length + 1) * 8 ≤ 140737488355328
        omega
      · show l.length + 1 ≤ 9223372036854775807
        omega
      conv => whnf
      have hl2 := hl.2
      simp only at hl2
      refine hle _ _ (Le.cutEnv 8 rfl rfl ⟨rfl, fun _ _ => rfl, rfl, rfl, rfl, rfl, rfl, ?_, trivial⟩ ?_ ?_) (ih ⟨ts2, ns2, mo2, l ++ [x], n⟩ (by simp only; omega) ⟨?_, ?_, ?_, hf.lo (by omega), hk⟩)
      · exact kid_cl l x _ 8 rfl
      · exact ⟨AV.le_refl _, AV.le_refl _, trivial⟩
      · exact ⟨ABlk.le_refl _, ABlk.le_refl _, ABlk.le_refl _, ABlk.le_refl _, ABlk.le_refl _, ABlk.le_refl _, ABlk.le_of_eq (by simp), kidA_snoc l x _ rfl, trivial⟩
      · simp only; omega
      · simp only; omega
      · simp only [List.length_append, List.length_cons, List.length_nil]; omega
    · have h : isS [125] ts = true := nf h
      simp only [stmtsL, h, bindO] at hk
      conv => whnf
      refine ⟨_, _, _, _, _, _, _, rfl, rfl, hk.step (want_le _ _ _) (fun _ ts ns mo hl hk => ?_) (fun a er hb => by ((conv => whnf); exact hp _ _ rfl hb))⟩
      have hf := hf.st hl
      conv => whnf
      refine ⟨l, _, _, _, _, _, _, _, _, _, _, _, rfl, rfl, PutK.slr hf.sz rfl rfl rfl (fun _ _ => rfl) ?_⟩
      conv => whnf
      refine ⟨by conv => whnf, ?_⟩
      conv => whnf
      rw [out_op ho hd2]
      exact hr _ _ _ _ _ _ rfl rfl hk
end Go.Proofs.YtkomdppjelnpdaaGreatDoor

namespace Go.Proofs.YtkomdppjelnpdaaGreatDoor
open Go.AE Go.Ru
set_option maxRecDepth 100000
def g14 : AG := gput 149 cBody g13
theorem g14_ok : GOk Tryz.prog g14 := gput_ok body_ok g13_ok
def cProc : AC := fun args K k => ∃ d : Nat, ∃ e ts ns mo op X, args = [pp] ∧ K = encP e ts ns op mo ++ X ∧ op = 40 - (d : Int) ∧ Fine d ts ns ∧
  After e (procS e d ⟨ts, ns, mo⟩) intV op X k
theorem kid_app (l vs : List Int) (b : Int) (f : Nat → List AV) (hf : f 0 = [intV b]) : ∀ i, i < l.length + vs.length + 1 →
    catF (l.length + vs.length) (catF l.length (fun i => pvs (kidF l i)) (fun i => pvs (kidF vs i))) f i = [intV ((l ++ vs ++ [b]).getD i 0)] := fun i hi => by
  by_cases h : i < l.length + vs.length
  · rw [catF_lt h]
    by_cases h2 : i < l.length
    · rw [catF_lt h2]
      have : (l ++ vs ++ [b])[i]? = l[i]? := by rw [List.append_assoc, List.getElem?_append_left h2]
      simp only [kidF, List.getD_eq_getElem?_getD, this, pvs, intV]
    · rw [catF_ge (by omega)]
      have : (l ++ vs ++ [b])[i]? = vs[i - l.length]? := by
        rw [List.getElem?_append_left (by simp; omega), List.getElem?_append_right (by omega)]
      simp only [kidF, List.getD_eq_getElem?_getD, this, pvs, intV]
  · obtain rfl : i = l.length + vs.length := by omega
    rw [catF_ge (Nat.le_refl _), Nat.sub_self, hf]
    have : (l ++ vs ++ [b])[l.length + vs.length]? = some b := by
      rw [List.getElem?_append_right (by simp)]; simp
    simp only [List.getD_eq_getElem?_getD, this, Option.getD_some]
def cIsN : AC := fun args K k => cIs args K k ∨ cIs args K (fun ao K1 => ∃ ty sz g K2, nswK K1.length K1 K2 ∧ k ao (K2 ++ [.arr ty sz 0 0 g]))
theorem isN_ok : COk 139 cIsN := by
  rintro args K k (h | h)
  · exact is_ok _ _ _ h
  · exact (is_ok _ _ _ h).nil
theorem proc_ok : COk 96 cProc := by
  rintro args K k ⟨d, e, ts0, ns, mo, op, X, rfl, rfl, ho, hf, hk⟩
  refine frameP (G := gput 139 cIsN g14) (gput_ok isN_ok g14_ok) 19 rfl fun Q hr hp => ?_
  have hk := hk.ak
  have hf := hf.fin
  have hd0 := hf.d
  unfold procS at hk
  simp only at hk
  conv => whnf
  refine ⟨by simp <;> omega, ?_⟩
  conv => whnf
  rw [enc_hd]
  conv => whnf
  refine ⟨_, _, _, _, _, _, _, rfl, rfl, hk.step (want_le _ _ _) (fun _ ts2 ns2 mo2 hl hk => ?_) (fun a er hb => by ((conv => whnf); exact hp _ _ rfl hb))⟩
  have hf := hf.st hl
  conv => whnf
  refine ⟨_, _, _, _, _, _, rfl, rfl, hk.step (ident_le _ _) (fun t ts ns mo hl hk => ?_) (fun a er hb => by ((conv => whnf); exact hp _ _ rfl hb))⟩
  have hf := hf.st hl
  conv => whnf
  refine .inl ?_
  cases hw : isS [40] ts with
  | false =>
    have hb := hk.within_no hw
    refine ⟨_, _, _, _, _, _, _, rfl, rfl, ?_⟩
    conv => whnf
    refine two_false hw ?_
    conv => whnf
    refine ⟨_, _, _, _, _, _, _, rfl, rfl, ⟨fun a ts' ns' mo' h => by simp [wantS, hw] at h, fun a er h => ?_⟩⟩
    simp only [wantS, hw, R.bad.injEq] at h
    obtain ⟨rfl, rfl⟩ := h
    ((conv => whnf); exact hp _ _ rfl hb)
  | true =>
    refine ⟨_, _, _, _, _, _, _, rfl, rfl, ?_⟩
    conv => whnf
    refine two_true hw ?_
    conv => whnf
    cases d with
    | zero =>
      have hb := hk.within_deep hw
      refine two_true (by simp [ho]) ?_
      conv => whnf
      refine ⟨_, _, _, _, _, _, _, rfl, rfl, ?_⟩
      ((conv => whnf); exact hp _ _ rfl hb)
    | succ d =>
    refine two_false (by simp [ho]; omega) ?_
    conv => whnf
    refine ⟨_, _, _, _, _, _, _, rfl, rfl, ⟨fun a ts' ns' mo' h => ?_, fun a er h => by simp [wantS, hw] at h⟩⟩
    simp only [wantS, hw, dropS, R.ok.injEq, PS.mk.injEq] at h
    obtain ⟨-, rfl, rfl, rfl⟩ := h
    have hd2 : d < 1000 := by have := hf.1; omega
    have hk := hk.within hw (by simp)
    rw [← in_mo ho hd2] at hk
    have hf := hf.opn hw
    conv => whnf
    refine .inr ⟨_, _, _, _, _, _, _, rfl, rfl, 3, 1, fun i => pvs (kidF [] i), encP e ts.tail ns (IntKind.i64.wrap (op + 1)) (if IntKind.i64.wrap (op + 1) > mo then IntKind.i64.wrap (op + 1) else mo) ++ [.box 93 [pp], .box 30 [.p (.int .i64 3), .p (.int .i64 0), .p (.int .i64 (hd e ts0)), .p (.str t.tx), .p .nils], .box 27 [.slr 5 0 0 0]], ?_, ?_⟩
    · exact ⟨.inl (ABlk.le_refl _), .inl (ABlk.le_refl _), .inl (ABlk.le_refl _), .inl (ABlk.le_refl _), .inr ⟨_, _, _, rfl, rfl, .inr ⟨rfl, rfl⟩, trivial⟩, trivial⟩
    conv => whnf
    refine two_intro (fun h2 => ?_) (fun h2 => ?_)
    · have h2 : isS [41] ts.tail = true := h2
      simp only [listS, h2, bindO] at hk
      conv => whnf
      refine ⟨_, _, _, _, _, _, _, rfl, rfl, hk.step (want_le _ _ _) (fun _ ts ns mo hl hk => ?_) (fun a er hb => by ((conv => whnf); exact hp _ _ rfl hb))⟩
      have hf := hf.st hl
      conv => whnf
      have hln0 : ([] : List Int).length ≤ 900000 := by simp
      refine ⟨_, _, _, _, _, _, rfl, rfl, ?_⟩
      conv => whnf
      refine two_intro (fun h3 => ?_) (fun h3 => ?_)
      · obtain ⟨t2, ts, rfl⟩ : ∃ t r, ts = t :: r := by
          cases ts with
          | nil => simp [typesS, isS] at h3
          | cons t r => exact ⟨t, r, rfl⟩
        have h3 : decide (typesS (t2 :: ts) > 0) = true := h3
        simp only [h3, dropS] at hk
        conv => whnf
        refine ⟨_, _, _, _, _, _, _, rfl, rfl, ?_⟩
        conv => whnf
        rw [out_op ho hd2]
        have hf : Fin d 7 ts ns := ⟨hf.1, by have := hf.2; simp only [List.length_cons] at this; omega⟩
        refine ⟨d + 1, _, _, _, _, _, _, rfl, rfl, ho, ⟨hd0, by have := hf.2; omega⟩, hk.stepv (p := fun p s => Lw _ 3 1 s ∧ p.1.length ≤ _) (fun p s h => ⟨body_le _ _ _ _ _ h, body_len _ _ _ _ _ h⟩) (fun p ts ns mo hl hk => ?_) (fun a er hb => by ((conv => whnf); exact hp _ _ rfl hb))⟩
        have hpl := hl.2
        have hl := hl.1
        have hpb : p.1.length ≤ 900000 := by have := hf.2; simp only [List.tail_cons] at hpl; omega
        have hf := hf.st hl
        conv => whnf
        have hlen : (([] : List Int)).length ≤ 900000 := hln0
        refine ⟨?_, ?_⟩
        · conv => whnf
          refine ⟨⟨rfl, fun _ _ => rfl⟩, ?_⟩
          conv => whnf
          refine ⟨⟨rfl, rfl, rfl, rfl, ?_, ?_⟩, ?_⟩
          · show ((([] : List Int)).length + p.1.length) * 8 ≤ 140737488355328
            omega
          · show (([] : List Int)).length + p.1.length ≤ 9223372036854775807
            omega
          conv => whnf
          repeat ((refine And.intro ?_ ?_); (focus ((conv => whnf); done)); (conv => whnf))
          refine ⟨⟨rfl, rfl, rfl, allLt_ok ⟨trivial, rfl⟩⟩, ?_⟩
          conv => whnf
          refine ⟨⟨rfl, rfl, rfl, rfl, ?_, ?_⟩, ?_⟩
          · show ((([] : List Int)).length + p.1.length + 1) * 8 ≤ 140737488355328
            omega
          · show (([] : List Int)).length + p.1.length + 1 ≤ 9223372036854775807
            omega
          conv => whnf
          repeat ((refine And.intro ?_ ?_); (focus ((conv => whnf); done)); (conv => whnf))
          refine ⟨([] : List Int) ++ p.1 ++ [p.2], _, _, _, _, _, _, _, _, _, _, _, rfl, rfl, PutK.slr hf.sz rfl rfl ?_ ?_ ?_⟩
          · show (([] : List Int) ++ p.1 ++ [p.2]).length = (([] : List Int)).length + p.1.length + 1
            simp only [List.length_append, List.length_cons, List.length_nil]
          · exact kid_app (([] : List Int)) p.1 p.2 _ rfl
          conv => whnf
          repeat ((refine And.intro ?_ ?_); (focus ((conv => whnf); done)); (conv => whnf))
          exact hr _ _ _ _ _ _ rfl rfl hk
        · conv => whnf
          repeat ((refine And.intro ?_ ?_); (focus ((conv => whnf); done)); (conv => whnf))
          refine ⟨⟨rfl, fun _ _ => rfl⟩, ?_⟩
          conv => whnf
          refine ⟨⟨rfl, rfl, rfl, rfl, ?_, ?_⟩, ?_⟩
          · show ((([] : List Int)).length + p.1.length) * 8 ≤ 140737488355328
            omega
          · show (([] : List Int)).length + p.1.length ≤ 9223372036854775807
            omega
          conv => whnf
          repeat ((refine And.intro ?_ ?_); (focus ((conv => whnf); done)); (conv => whnf))
          refine ⟨⟨rfl, rfl, rfl, allLt_ok ⟨trivial, rfl⟩⟩, ?_⟩
          conv => whnf
          refine ⟨⟨rfl, rfl, rfl, rfl, ?_, ?_⟩, ?_⟩
          · show ((([] : List Int)).length + p.1.length + 1) * 8 ≤ 140737488355328
            omega
          · show (([] : List Int)).length + p.1.length + 1 ≤ 9223372036854775807
            omega
          conv => whnf
          repeat ((refine And.intro ?_ ?_); (focus ((conv => whnf); done)); (conv => whnf))
          refine ⟨([] : List Int) ++ p.1 ++ [p.2], _, _, _, _, _, _, _, _, _, _, _, rfl, rfl, PutK.slr hf.sz rfl rfl ?_ ?_ ?_⟩
          · show (([] : List Int) ++ p.1 ++ [p.2]).length = (([] : List Int)).length + p.1.length + 1
            simp only [List.length_append, List.length_cons, List.length_nil]
          · exact kid_app (([] : List Int)) p.1 p.2 _ rfl
          conv => whnf
          repeat ((refine And.intro ?_ ?_); (focus ((conv => whnf); done)); (conv => whnf))
          exact hr _ _ _ _ _ _ rfl rfl hk
      · have h3 : decide (typesS ts > 0) = false := h3
        simp only [h3] at hk
        conv => whnf
        rw [out_op ho hd2]
        have hf : Fin d 7 ts ns := hf.lo (by omega)
        refine ⟨d + 1, _, _, _, _, _, _, rfl, rfl, ho, ⟨hd0, by have := hf.2; omega⟩, hk.stepv (p := fun p s => Lw _ 3 1 s ∧ p.1.length ≤ _) (fun p s h => ⟨body_le _ _ _ _ _ h, body_len _ _ _ _ _ h⟩) (fun p ts ns mo hl hk => ?_) (fun a er hb => by ((conv => whnf); exact hp _ _ rfl hb))⟩
        have hpl := hl.2
        have hl := hl.1
        have hpb : p.1.length ≤ 900000 := by have := hf.2; simp only [List.tail_cons] at hpl; omega
        have hf := hf.st hl
        conv => whnf
        have hlen : (([] : List Int)).length ≤ 900000 := hln0
        refine ⟨?_, ?_⟩
        · conv => whnf
          refine ⟨⟨rfl, fun _ _ => rfl⟩, ?_⟩
          conv => whnf
          refine ⟨⟨rfl, rfl, rfl, rfl, ?_, ?_⟩, ?_⟩
          · show ((([] : List Int)).length + p.1.length) * 8 ≤ 140737488355328
            omega
          · show (([] : List Int)).length + p.1.length ≤ 9223372036854775807
            omega
          conv => whnf
          repeat ((refine And.intro ?_ ?_); (focus ((conv => whnf); done)); (conv => whnf))
          refine ⟨⟨rfl, rfl, rfl, allLt_ok ⟨trivial, rfl⟩⟩, ?_⟩
          conv => whnf
          refine ⟨⟨rfl, rfl, rfl, rfl, ?_, ?_⟩, ?_⟩
          · show ((([] : List Int)).length + p.1.length + 1) * 8 ≤ 140737488355328
            omega
          · show (([] : List Int)).length + p.1.length + 1 ≤ 9223372036854775807
            omega
          conv => whnf
          repeat ((refine And.intro ?_ ?_); (focus ((conv => whnf); done)); (conv => whnf))
          refine ⟨([] : List Int) ++ p.1 ++ [p.2], _, _, _, _, _, _, _, _, _, _, _, rfl, rfl, PutK.slr hf.sz rfl rfl ?_ ?_ ?_⟩
          · show (([] : List Int) ++ p.1 ++ [p.2]).length = (([] : List Int)).length + p.1.length + 1
            simp only [List.length_append, List.length_cons, List.length_nil]
          · exact kid_app (([] : List Int)) p.1 p.2 _ rfl
          conv => whnf
          repeat ((refine And.intro ?_ ?_); (focus ((conv => whnf); done)); (conv => whnf))
          exact hr _ _ _ _ _ _ rfl rfl hk
        · conv => whnf
          repeat ((refine And.intro ?_ ?_); (focus ((conv => whnf); done)); (conv => whnf))
          refine ⟨⟨rfl, fun _ _ => rfl⟩, ?_⟩
          conv => whnf
          refine ⟨⟨rfl, rfl, rfl, rfl, ?_, ?_⟩, ?_⟩
          · show ((([] : List Int)).length + p.1.length) * 8 ≤ 140737488355328
            omega
          · show (([] : List Int)).length + p.1.length ≤ 9223372036854775807
            omega
          conv => whnf
          repeat ((refine And.intro ?_ ?_); (focus ((conv => whnf); done)); (conv => whnf))
          refine ⟨⟨rfl, rfl, rfl, allLt_ok ⟨trivial, rfl⟩⟩, ?_⟩
          conv => whnf
          refine ⟨⟨rfl, rfl, rfl, rfl, ?_, ?_⟩, ?_⟩
          · show ((([] : List Int)).length + p.1.length + 1) * 8 ≤ 140737488355328
            omega
          · show (([] : List Int)).length + p.1.length + 1 ≤ 9223372036854775807
            omega
          conv => whnf
          repeat ((refine And.intro ?_ ?_); (focus ((conv => whnf); done)); (conv => whnf))
          refine ⟨([] : List Int) ++ p.1 ++ [p.2], _, _, _, _, _, _, _, _, _, _, _, rfl, rfl, PutK.slr hf.sz rfl rfl ?_ ?_ ?_⟩
          · show (([] : List Int) ++ p.1 ++ [p.2]).length = (([] : List Int)).length + p.1.length + 1
            simp only [List.length_append, List.length_cons, List.length_nil]
          · exact kid_app (([] : List Int)) p.1 p.2 _ rfl
          conv => whnf
          repeat ((refine And.intro ?_ ?_); (focus ((conv => whnf); done)); (conv => whnf))
          exact hr _ _ _ _ _ _ rfl rfl hk
    · have h2 : isS [41] ts.tail = false := h2
      simp only [listS, h2, oneS, paramS, bindA, bindO] at hk
      conv => whnf
      refine ⟨_, _, _, _, _, _, rfl, rfl, hk.step (ident_le _ _) (fun t1 ts2 ns2 mo2 hl hk => ?_) (fun a er hb => by ((conv => whnf); exact hp _ _ rfl hb))⟩
      have hf := hf.st hl
      conv => whnf
      refine ⟨d, _, _, _, _, _, _, _, _, _, rfl, rfl, hf.fine, hk.step (typed_le _ _ _ _ _) (fun x ts3 ns3 mo3 hl hk => ?_) (fun a er hb => by ((conv => whnf); exact hp _ _ rfl hb))⟩
      have hf := hf.st hl
      conv => whnf
      repeat ((refine And.intro ?_ ?_); (focus ((conv => whnf); done)); (conv => whnf))
      refine ⟨⟨rfl, rfl, rfl, allLt_ok ⟨trivial, rfl⟩⟩, ?_⟩
      conv => whnf
      refine ⟨⟨rfl, rfl, rfl, rfl, by decide, by decide⟩, ?_⟩
      conv => whnf
      refine loop_cut (ι := LC) 6 (fun i => ⟨[(0, pp), (1, .fn 147 [] [.ptr 2 0 1 0 0, .ptr 4 0 1 0 0])],
          encP e i.ts i.ns (IntKind.i64.wrap (op + 1)) i.mo ++ [.box 93 [pp], .box 30 [.p (.int .i64 3), .p (.int .i64 0), .p (.int .i64 (hd e ts0)), .p (.str t.tx), .p .nils], .box 27 [.slr 5 0 0 i.l.length], kidA i.l]⟩)
        (fun i => i.ts.length ≤ i.n ∧ i.n ≤ 900000 ∧ i.l.length + i.ts.length ≤ 900000 ∧ Fin d 7 i.ts i.ns ∧ AK ((commaL (oneS (paramS e)) i.n i.l ⟨i.ts, i.ns, i.mo⟩).bind fun l s => (wantS e [41] s).bind fun _ s => (bodyS e (d + 1)
              (match decide (typesS s.ts > 0) with
                | true => dropS s
                | false => s)).bind fun p s_1 => putS ⟨3, typesS s.ts, hd e ts0, t.tx, l ++ p.1 ++ [p.2]⟩ s_1)
          (fun a s => k (.ret (intV a)) (encP e s.ts s.ns op s.mo ++ X)) (fun a er => k (.pan (wrongV a er)) (deads 2 ++ X)))
        (fun i => i.n) ⟨ts3, ns3, mo3, [x], ts3.length⟩ rfl rfl ⟨AV.le_refl _, AV.le_refl _, trivial⟩ ⟨rfl, fun _ _ => rfl, rfl, rfl, rfl, ?_, trivial⟩ ⟨ABlk.le_refl _, ABlk.le_refl _, ABlk.le_refl _, ABlk.le_refl _, ABlk.le_refl _, ?_, trivial⟩
        ⟨Nat.le_refl _, ?_, ?_, hf.lo (by omega), hk⟩ ?_
      · exact kid_cl [] x _ 6 rfl
      · exact kidA_snoc [] x _ rfl
      · have := hf.s; show ts3.length ≤ 900000; omega
      · have := hf.s; show 1 + ts3.length ≤ 900000; omega
      clear hk hf hl
      rintro Y hle ⟨ts, ns, mo, l, n⟩ ⟨hn, hn2, hln, hf, hk⟩ ih
      simp only at hn hn2 hln hf hk
      conv => whnf
      refine ⟨_, _, _, _, _, _, _, rfl, rfl, ⟨fun h => ?_, fun h => ?_⟩⟩
      · cases n with
        | zero => have := isS_pos h; simp only at this; omega
        | succ n =>
        have h : isS [44] ts = true := h
        simp only [commaL, h, oneS, paramS, bindA, bindO, dropS] at hk
        have hf := hf.sk h
        have hpos := isS_pos h
        conv => whnf
        refine ⟨_, _, _, _, _, _, rfl, rfl, hk.step (ident_le _ _) (fun t2 ts2 ns2 mo2 hl hk => ?_) (fun a er hb => by ((conv => whnf); exact hp _ _ rfl hb))⟩
        have hf := hf.st hl
        have hl2 := hl.2
        conv => whnf
        refine ⟨d, _, _, _, _, _, _, _, _, _, rfl, rfl, hf.fine, hk.step (typed_le _ _ _ _ _) (fun x ts3 ns3 mo3 hl hk => ?_) (fun a er hb => by ((conv => whnf); exact hp _ _ rfl hb))⟩
        have hf := hf.st hl
        have hl3 := hl.2
        conv => whnf
        repeat ((refine And.intro ?_ ?_); (focus ((conv => whnf); done)); (conv => whnf))
        refine ⟨⟨rfl, rfl, rfl, allLt_ok ⟨trivial, rfl⟩⟩, ?_⟩
        conv => whnf
        refine ⟨⟨rfl, rfl, rfl, rfl, ?_, ?_⟩, ?_⟩
        · show (l.length + 1) * 8 ≤ 140737488355328
          omega
        · show l.length + 1 ≤ 9223372036854775807
          omega
        conv => whnf
        simp only [List.length_tail] at hl2 hl3
        refine hle _ _ (Le.cutEnv 6 rfl rfl ⟨rfl, fun _ _ => rfl, rfl, rfl, rfl, ?_, trivial⟩ ?_ ?_) (ih ⟨ts3, ns3, mo3, l ++ [x], n⟩ (by simp only; omega) ⟨?_, ?_, ?_, hf.lo (by omega), hk⟩)
        · exact kid_cl l x _ 6 rfl
        · exact ⟨AV.le_refl _, AV.le_refl _, trivial⟩
        · exact ⟨ABlk.le_refl _, ABlk.le_refl _, ABlk.le_refl _, ABlk.le_refl _, ABlk.le_of_eq (by simp), kidA_snoc l x _ rfl, trivial⟩
        · simp only; omega
        · simp only; omega
        · simp only [List.length_append, List.length_cons, List.length_nil]; omega
      · have h : isS [44] ts = false := h
        replace hk : AK ((wantS e [41] ⟨ts, ns, mo⟩).bind fun _ s => (bodyS e (d + 1)
              (match decide (typesS s.ts > 0) with
                | true => dropS s
                | false => s)).bind fun p s_1 => putS ⟨3, typesS s.ts, hd e ts0, t.tx, l ++ p.1 ++ [p.2]⟩ s_1)
          (fun a s => k (.ret (intV a)) (encP e s.ts s.ns op s.mo ++ X)) (fun a er => k (.pan (wrongV a er)) (deads 2 ++ X)) := by
          cases n with
          | zero => exact hk
          | succ n => simp only [commaL, h, bindO] at hk; exact hk
        have hln0 : l.length ≤ 900000 := by omega
        conv => whnf
        refine ⟨_, _, _, _, _, _, _, rfl, rfl, hk.step (want_le _ _ _) (fun _ ts ns mo hl hk => ?_) (fun a er hb => by ((conv => whnf); exact hp _ _ rfl hb))⟩
        have hf := hf.st hl
        conv => whnf
        refine ⟨_, _, _, _, _, _, rfl, rfl, ?_⟩
        conv => whnf
        refine two_intro (fun h3 => ?_) (fun h3 => ?_)
        · obtain ⟨t2, ts, rfl⟩ : ∃ t r, ts = t :: r := by
            cases ts with
            | nil => simp [typesS, isS] at h3
            | cons t r => exact ⟨t, r, rfl⟩
          have h3 : decide (typesS (t2 :: ts) > 0) = true := h3
          simp only [h3, dropS] at hk
          conv => whnf
          refine ⟨_, _, _, _, _, _, _, rfl, rfl, ?_⟩
          conv => whnf
          rw [out_op ho hd2]
          have hf : Fin d 7 ts ns := ⟨hf.1, by have := hf.2; simp only [List.length_cons] at this; omega⟩
          refine ⟨d + 1, _, _, _, _, _, _, rfl, rfl, ho, ⟨hd0, by have := hf.2; omega⟩, hk.stepv (p := fun p s => Lw _ 3 1 s ∧ p.1.length ≤ _) (fun p s h => ⟨body_le _ _ _ _ _ h, body_len _ _ _ _ _ h⟩) (fun p ts ns mo hl hk => ?_) (fun a er hb => by ((conv => whnf); exact hp _ _ rfl hb))⟩
          have hpl := hl.2
          have hl := hl.1
          have hpb : p.1.length ≤ 900000 := by have := hf.2; simp only [List.tail_cons] at hpl; omega
          have hf := hf.st hl
          conv => whnf
          have hlen : (l).length ≤ 900000 := hln0
          refine ⟨?_, ?_⟩
          · conv => whnf
            refine ⟨⟨rfl, fun _ _ => rfl⟩, ?_⟩
            conv => whnf
            refine ⟨⟨rfl, rfl, rfl, rfl, ?_, ?_⟩, ?_⟩
            · show ((l).length + p.1.length) * 8 ≤ 140737488355328
              omega
            · show (l).length + p.1.length ≤ 9223372036854775807
              omega
            conv => whnf
            repeat ((refine And.intro ?_ ?_); (focus ((conv => whnf); done)); (conv => whnf))
            refine ⟨⟨rfl, rfl, rfl, allLt_ok ⟨trivial, rfl⟩⟩, ?_⟩
            conv => whnf
            refine ⟨⟨rfl, rfl, rfl, rfl, ?_, ?_⟩, ?_⟩
            · show ((l).length + p.1.length + 1) * 8 ≤ 140737488355328
              omega
            · show (l).length + p.1.length + 1 ≤ 9223372036854775807
              omega
            conv => whnf
            repeat ((refine And.intro ?_ ?_); (focus ((conv => whnf); done)); (conv => whnf))
            refine ⟨l ++ p.1 ++ [p.2], _, _, _, _, _, _, _, _, _, _, _, rfl, rfl, PutK.slr hf.sz rfl rfl ?_ ?_ ?_⟩
            · show (l ++ p.1 ++ [p.2]).length = (l).length + p.1.length + 1
              simp only [List.length_append, List.length_cons, List.length_nil]
            · exact kid_app (l) p.1 p.2 _ rfl
            conv => whnf
            repeat ((refine And.intro ?_ ?_); (focus ((conv => whnf); done)); (conv => whnf))
            exact hr _ _ _ _ _ _ rfl rfl hk
          · conv => whnf
            repeat ((refine And.intro ?_ ?_); (focus ((conv => whnf); done)); (conv => whnf))
            refine ⟨⟨rfl, fun _ _ => rfl⟩, ?_⟩
            conv => whnf
            refine ⟨⟨rfl, rfl, rfl, rfl, ?_, ?_⟩, ?_⟩
            · show ((l).length + p.1.length) * 8 ≤ 140737488355328
              omega
            · show (l).length + p.1.length ≤ 9223372036854775807
              omega
            conv => whnf
            repeat ((refine And.intro ?_ ?_); (focus ((conv => whnf); done)); (conv => whnf))
            refine ⟨⟨rfl, rfl, rfl, allLt_ok ⟨trivial, rfl⟩⟩, ?_⟩
            conv => whnf
            refine ⟨⟨rfl, rfl, rfl, rfl, ?_, ?_⟩, ?_⟩
            · show ((l).length + p.1.length + 1) * 8 ≤ 140737488355328
              omega
            · show (l).length + p.1.length + 1 ≤ 9223372036854775807
              omega
            conv => whnf
            repeat ((refine And.intro ?_ ?_); (focus ((conv => whnf); done)); (conv => whnf))
            refine ⟨l ++ p.1 ++ [p.2], _, _, _, _, _, _, _, _, _, _, _, rfl, rfl, PutK.slr hf.sz rfl rfl ?_ ?_ ?_⟩
            · show (l ++ p.1 ++ [p.2]).length = (l).length + p.1.length + 1
              simp only [List.length_append, List.length_cons, List.length_nil]
            · exact kid_app (l) p.1 p.2 _ rfl
            conv => whnf
            repeat ((refine And.intro ?_ ?_); (focus ((conv => whnf); done)); (conv => whnf))
            exact hr _ _ _ _ _ _ rfl rfl hk
        · have h3 : decide (typesS ts > 0) = false := h3
          simp only [h3] at hk
          conv => whnf
          rw [out_op ho hd2]
          have hf : Fin d 7 ts ns := hf.lo (by omega)
          refine ⟨d + 1, _, _, _, _, _, _, rfl, rfl, ho, ⟨hd0, by have := hf.2; omega⟩, hk.stepv (p := fun p s => Lw _ 3 1 s ∧ p.1.length ≤ _) (fun p s h => ⟨body_le _ _ _ _ _ h, body_len _ _ _ _ _ h⟩) (fun p ts ns mo hl hk => ?_) (fun a er hb => by ((conv => whnf); exact hp _ _ rfl hb))⟩
          have hpl := hl.2
          have hl := hl.1
          have hpb : p.1.length ≤ 900000 := by have := hf.2; simp only [List.tail_cons] at hpl; omega
          have hf := hf.st hl
          conv => whnf
          have hlen : (l).length ≤ 900000 := hln0
          refine ⟨?_, ?_⟩
          · conv => whnf
            refine ⟨⟨rfl, fun _ _ => rfl⟩, ?_⟩
            conv => whnf
            refine ⟨⟨rfl, rfl, rfl, rfl, ?_, ?_⟩, ?_⟩
            · show ((l).length + p.1.length) * 8 ≤ 140737488355328
              omega
            · show (l).length + p.1.length ≤ 9223372036854775807
              omega
            conv => whnf
            repeat ((refine And.intro ?_ ?_); (focus ((conv => whnf); done)); (conv => whnf))
            refine ⟨⟨rfl, rfl, rfl, allLt_ok ⟨trivial, rfl⟩⟩, ?_⟩
            conv => whnf
            refine ⟨⟨rfl, rfl, rfl, rfl, ?_, ?_⟩, ?_⟩
            · show ((l).length + p.1.length + 1) * 8 ≤ 140737488355328
              omega
            · show (l).length + p.1.length + 1 ≤ 9223372036854775807
              omega
            conv => whnf
            repeat ((refine And.intro ?_ ?_); (focus ((conv => whnf); done)); (conv => whnf))
            refine ⟨l ++ p.1 ++ [p.2], _, _, _, _, _, _, _, _, _, _, _, rfl, rfl, PutK.slr hf.sz rfl rfl ?_ ?_ ?_⟩
            · show (l ++ p.1 ++ [p.2]).length = (l).length + p.1.length + 1
              simp only [List.length_append, List.length_cons, List.length_nil]
            · exact kid_app (l) p.1 p.2 _ rfl
            conv => whnf
            repeat ((refine And.intro ?_ ?_); (focus ((conv => whnf); done)); (conv => whnf))
            exact hr _ _ _ _ _ _ rfl rfl hk
          · conv => whnf
            repeat ((refine And.intro ?_ ?_); (focus ((conv => whnf); done)); (conv => whnf))
            refine ⟨⟨rfl, fun _ _ => rfl⟩, ?_⟩
            conv => whnf
            refine ⟨⟨rfl, rfl, rfl, rfl, ?_, ?_⟩, ?_⟩
            · show ((l).length + p.1.length) * 8 ≤ 140737488355328
              omega
            · show (l).length + p.1.length ≤ 9223372036854775807
              omega
            conv => whnf
            repeat ((refine And.intro ?_ ?_); (focus ((conv => whnf); done)); (conv => whnf))
            refine ⟨⟨rfl, rfl, rfl, allLt_ok ⟨trivial, rfl⟩⟩, ?_⟩
            conv => whnf
            refine ⟨⟨rfl, rfl, rfl, rfl, ?_, ?_⟩, ?_⟩
            · show ((l).length + p.1.length + 1) * 8 ≤ 140737488355328
              omega
            · show (l).length + p.1.length + 1 ≤ 9223372036854775807
              omega
            conv => whnf
            repeat ((refine And.intro ?_ ?_); (focus ((conv => whnf); done)); (conv => whnf))
            refine ⟨l ++ p.1 ++ [p.2], _, _, _, _, _, _, _, _, _, _, _, rfl, rfl, PutK.slr hf.sz rfl rfl ?_ ?_ ?_⟩
            · show (l ++ p.1 ++ [p.2]).length = (l).length + p.1.length + 1
              simp only [List.length_append, List.length_cons, List.length_nil]
            · exact kid_app (l) p.1 p.2 _ rfl
            conv => whnf
            repeat ((refine And.intro ?_ ?_); (focus ((conv => whnf); done)); (conv => whnf))
            exact hr _ _ _ _ _ _ rfl rfl hk
end Go.Proofs.YtkomdppjelnpdaaGreatDoor

namespace Go.Proofs.YtkomdppjelnpdaaGreatDoor
open Go.AE Go.Ru
set_option maxRecDepth 100000
def g15 : AG := gput 96 cProc g14
theorem g15_ok : GOk Tryz.prog g15 := gput_ok proc_ok g14_ok
def cVarsM : AC := fun args K k => ∃ d : Nat, ∃ e ts ns mo op kind, args = [pp, .p (.int .i64 kind)] ∧ K = encP e ts ns op mo ∧ Fine d ts ns ∧
  AK (varsS e kind ⟨ts, ns, mo⟩) (fun l s => k (.ret (.slr 2 0 0 l.length)) (encP e s.ts s.ns op s.mo ++ [kidA l])) (fun a er => ∀ K', k (.pan (wrongV a er)) K')
theorem varsM_ok : COk 95 cVarsM := by
  rintro args K k ⟨d, e, ts, ns, mo, op, kind, rfl, rfl, hf, hk⟩
  refine call_ok g12_ok 19 _ _ _ _ ?_
  have hf := hf.fin
  unfold varsS at hk
  conv => whnf
  refine loop_nil (ι := LC) 3 1 (fun i => pvs (kidF [] i)) (fun i => ⟨[(0, pp), (1, .p (.int .i64 kind)), (5, .slr 2 0 0 i.l.length)], encP e i.ts i.ns op i.mo ++ [kidA i.l]⟩)
      (fun i => i.ts.length ≤ i.n ∧ i.n ≤ 900001 ∧ i.l.length + i.ts.length ≤ 900000 ∧ Fin d 0 i.ts i.ns ∧ AK (varsL e kind i.n i.l ⟨i.ts, i.ns, i.mo⟩)
        (fun l s => k (.ret (.slr 2 0 0 l.length)) (encP e s.ts s.ns op s.mo ++ [kidA l])) (fun a er => ∀ K', k (.pan (wrongV a er)) K'))
      (fun i => i.n) ⟨ts, ns, mo, [], ts.length⟩ (encP e ts ns op mo)
      rfl ⟨.inl (AV.le_refl _), .inl (AV.le_refl _), .inr ⟨rfl, rfl⟩, trivial⟩ (nswK.refl _ _) rfl
      ⟨Nat.le_refl _, ?_, ?_, hf, hk⟩ ?_
  · have := hf.s; show ts.length ≤ 900001; omega
  · have := hf.s; show 0 + ts.length ≤ 900000; omega
  clear hk hf
  rintro Y hle ⟨ts, ns, mo, l, n⟩ ⟨hn, hn2, hln, hf, hk⟩ ih
  simp only at hn hn2 hln hf hk
  conv => whnf
  refine ⟨_, _, _, _, _, _, _, rfl, rfl, ?_⟩
  conv => whnf
  refine two_intro (fun h => ?_) (fun h => ?_)
  · have h : isS [118, 97, 114] ts = true := h
    cases n with
    | zero => have := isS_pos h; simp only at this; omega
    | succ n =>
    obtain ⟨t0, ts, rfl⟩ : ∃ t r, ts = t :: r := by
      cases ts with
      | nil => simp [isS] at h
      | cons t r => exact ⟨t, r, rfl⟩
    simp only [varsL, h, bindA, dropS] at hk
    conv => whnf
    refine ⟨_, _, _, _, _, _, _, rfl, rfl, ?_⟩
    conv => whnf
    have hf : Fin d 4 ts ns := ⟨hf.1, by have := hf.2; simp only [List.length_cons] at this; omega⟩
    refine ⟨_, _, _, _, _, _, rfl, rfl, hk.step (ident_le _ _) (fun t ts2 ns2 mo2 hl hk => ?_) (fun a er hb => by (conv => whnf); exact hb _)⟩
    have hf := hf.st hl
    have hl1 := hl.2
    conv => whnf
    refine ⟨d, _, _, _, _, _, _, _, _, _, rfl, rfl, hf.fine, hk.step (typed_le _ _ _ _ _) (fun x ts3 ns3 mo3 hl hk => ?_) (fun a er hb => by (conv => whnf); exact hb _)⟩
    have hf := hf.st hl
    have hl2 := hl.2
    conv => whnf
    refine ⟨⟨rfl, rfl, rfl, allLt_ok ⟨trivial, rfl⟩⟩, ?_⟩
    conv => whnf
    refine ⟨⟨rfl, rfl, rfl, rfl, ?_, ?_⟩, ?_⟩
    · show (l.length + 1) * 8 ≤ 140737488355328
      omega
    · show l.length + 1 ≤ 9223372036854775807
      omega
    conv => whnf
    refine ⟨_, _, _, _, _, _, _, rfl, rfl, hk.step (want_le _ _ _) (fun _ ts4 ns4 mo4 hl hk => ?_) (fun a er hb => by (conv => whnf); exact hb _)⟩
    have hf := hf.st hl
    have hl3 := hl.2
    conv => whnf
    simp only [List.length_cons, List.tail_cons] at hl1 hl2 hl3 hn hln
    refine hle _ _ (Le.cutEnv 3 rfl rfl ⟨rfl, fun _ _ => rfl, ?_, trivial⟩ ?_ ?_) (ih ⟨ts4, ns4, mo4, l ++ [x], n⟩ (by simp only; omega) ⟨?_, ?_, ?_, hf.lo (by omega), hk⟩)
    · exact kid_cl l x _ 3 rfl
    · exact ⟨AV.le_refl _, AV.le_refl _, AV.le_of_eq (show AV.slr 2 0 0 (l.length + 1) = AV.slr 2 0 0 (l ++ [x]).length by simp), trivial⟩
    · exact ⟨ABlk.le_refl _, ABlk.le_refl _, kidA_snoc l x _ rfl, trivial⟩
    · simp only; omega
    · simp only; omega
    · simp only [List.length_append, List.length_cons, List.length_nil]; omega
  · have h : isS [118, 97, 114] ts = false := h
    have hk : k (.ret (.slr 2 0 0 l.length)) (encP e ts ns op mo ++ [kidA l]) := by
      cases n with
      | zero => exact hk
      | succ n => simp only [varsL, h] at hk; exact hk
    conv => whnf
    exact hk
def g16 : AG := gput 95 cVarsM g15
theorem g16_ok : GOk Tryz.prog g16 := gput_ok varsM_ok g15_ok
theorem AK.vstep {α β : Type} {r : R α} {f : α → PS → R β} {ok : β → PS → Prop} {bad : Int → Int → Prop} (h : AK (r.bind f) ok bad) {ok' : α → PS → Prop} {bad' : Int → Int → Prop} {p : α → PS → Prop} (hp : ∀ a s, r = .ok a s → p a s)
    (h1 : ∀ a ts ns mo, p a ⟨ts, ns, mo⟩ → AK (f a ⟨ts, ns, mo⟩) ok bad → ok' a ⟨ts, ns, mo⟩) (h2 : ∀ a er, bad a er → bad' a er) : AK r ok' bad' := by
  cases r with
  | ok a s => exact h1 _ _ _ _ (hp _ _ rfl) h
  | bad a er => exact h2 _ _ h
def cProgram : AC := fun args K k => ∃ e ts ns mo X, args = [pp] ∧ K = encP e ts ns 0 mo ++ X ∧ Fine 40 ts ns ∧
  After e (programS e ⟨ts, ns, mo⟩) intV 0 X k
theorem varsS_len (e kind : Int) (s : PS) : ∀ l s', varsS e kind s = .ok l s' → Lw s 0 0 s' ∧ l.length + s'.ts.length ≤ s.ts.length := fun l s' h =>
  ⟨vars_le e kind s l s' h, by have := varsL_len e kind _ _ _ _ _ h; simpa using this⟩
theorem program_ok : COk 66 cProgram := by
  rintro args K k ⟨e, ts, ns, mo, X, rfl, rfl, hf, hk⟩
  refine frameP g16_ok 19 rfl fun Q hr hp => ?_
  have hk := hk.ak
  have hf := hf.fin
  unfold programS at hk
  conv => whnf
  refine ⟨40, _, _, _, _, _, _, rfl, rfl, hf.fine, hk.vstep (varsS_len _ _ _) (fun vs ts2 ns2 mo2 hl hk => ?_) (fun a er hb K' => by (conv => whnf); show fK K' _; rw [fK_eq]; exact hp _ _ rfl hb)⟩
  have hln := hl.2
  have hf0 := hf.s
  have hf := hf.st hl.1
  simp only at hln
  conv => whnf
  refine loop_by (ι := LC) (fun i => ⟨[(0, pp), (3, .slr 2 0 0 i.l.length)], encP e i.ts i.ns 0 i.mo ++ [kidA i.l]⟩)
      (fun i => i.ts.length ≤ i.n ∧ i.n ≤ 900001 ∧ i.l.length + i.ts.length ≤ 900000 ∧ Fin 40 0 i.ts i.ns ∧ AK ((procsL e 40 i.n i.l ⟨i.ts, i.ns, i.mo⟩).bind fun l s => putS ⟨1, 0, 0, [], l⟩ s)
        (fun a s => k (.ret (intV a)) (encP e s.ts s.ns 0 s.mo ++ X)) (fun a er => k (.pan (wrongV a er)) (deads 2 ++ X)))
      (fun i => i.n) ⟨ts2, ns2, mo2, vs, ts2.length⟩ ⟨AV.le_refl _, AV.le_refl _, trivial⟩ (lesK.refl _)
      ⟨Nat.le_refl _, ?_, ?_, hf, hk⟩ ?_
  · have := hf.s; show ts2.length ≤ 900001; omega
  · show vs.length + ts2.length ≤ 900000; omega
  clear hk hf hln hl hf0
  rintro Y hle ⟨ts, ns, mo, l, n⟩ ⟨hn, hn2, hln, hf, hk⟩ ih
  simp only at hn hn2 hln hf hk
  conv => whnf
  refine ⟨by simp <;> omega, ?_⟩
  conv => whnf
  rw [enc_hd]
  conv => whnf
  refine two_intro (fun h => ?_) (fun h => ?_)
  · have h : (hdK ts != 5) = true := h
    cases n with
    | zero =>
      cases ts with
      | nil => simp [hdK] at h
      | cons t r => simp at hn
    | succ n =>
    obtain ⟨t, r, rfl⟩ : ∃ t r, ts = t :: r := by
      cases ts with
      | nil => simp [hdK] at h
      | cons t r => exact ⟨t, r, rfl⟩
    simp only [procsL, bindA] at hk
    conv => whnf
    refine ⟨40, _, _, _, _, _, _, rfl, rfl, rfl, hf.fine, hk.step (proc_le _ _ _) (fun x ts3 ns3 mo3 hl hk => ?_) (fun a er hb => by ((conv => whnf); exact hp _ _ rfl hb))⟩
    have hf := hf.st hl
    have hl2 := hl.2
    simp only [List.length_cons] at hl2 hn hln
    conv => whnf
    refine ⟨⟨rfl, rfl, rfl, allLt_ok ⟨trivial, rfl⟩⟩, ?_⟩
    conv => whnf
    refine ⟨⟨rfl, rfl, rfl, rfl, ?_, ?_⟩, ?_⟩
    · show (l.length + 1) * 8 ≤ 140737488355328
      omega
    · show l.length + 1 ≤ 9223372036854775807
      omega
    conv => whnf
    refine hle _ _ (Le.cutEnv 3 rfl rfl ⟨rfl, fun _ _ => rfl, ?_, trivial⟩ ?_ ?_) (ih ⟨ts3, ns3, mo3, l ++ [x], n⟩ (by simp only; omega) ⟨?_, ?_, ?_, hf.lo (by omega), hk⟩)
    · exact kid_cl l x _ 3 rfl
    · exact ⟨AV.le_refl _, AV.le_of_eq (show AV.slr 2 0 0 (l.length + 1) = AV.slr 2 0 0 (l ++ [x]).length by simp), trivial⟩
    · exact ⟨ABlk.le_refl _, ABlk.le_refl _, kidA_snoc l x _ rfl, trivial⟩
    · simp only; omega
    · simp only; omega
    · simp only [List.length_append, List.length_cons, List.length_nil]; omega
  · have h : (hdK ts != 5) = false := h
    obtain rfl : ts = [] := by
      cases ts with
      | nil => rfl
      | cons t r =>
        obtain ⟨tk, _, _, _⟩ := t
        cases tk <;> simp [hdK, TK.code] at h
    replace hk : AK (putS ⟨1, 0, 0, [], l⟩ ⟨[], ns, mo⟩) (fun a s => k (.ret (intV a)) (encP e s.ts s.ns 0 s.mo ++ X)) (fun a er => k (.pan (wrongV a er)) (deads 2 ++ X)) := by
      cases n <;> exact hk
    conv => whnf
    refine ⟨l, _, _, _, _, _, _, _, _, _, _, _, rfl, rfl, PutK.slr hf.sz rfl rfl rfl (fun _ _ => rfl) ?_⟩
    conv => whnf
    exact hr _ _ _ _ _ _ rfl rfl hk
end Go.Proofs.YtkomdppjelnpdaaGreatDoor

namespace Go.AE
def plainOp : Op → Bool
  | .move _ | .assign _ | .alloc _ | .store _ _ _ | .load _ _ | .extract _ _ | .typeAssert _ _ _ _ | .fieldAddr _ _ _ => true
  | _ => false
def plainL : List Oper → Bool
  | [] => true
  | o :: r => plainOp o.op && o.guard.isNone && plainL r
def isRec : Op → Bool
  | .call c => match c.callee with
    | .builtin .recover => true
    | _ => false
  | _ => false
def deferOf (o : Oper) : Option Nat := match o.op with
  | .defer c => match c.callee with
    | .value (.tmp d) => match c.args.toList with
      | [] => match o.dst with
        | none => match o.guard with
          | none => some d
          | some _ => none
        | some _ => none
      | _ => none
    | _ => none
  | _ => none
noncomputable def recE (T : Tab) (fn : Func) (k : List ABlk → Prop) (e : Ex) (s : AS) : Prop := match e with
  | .norm => ares T fn s fun _ => fK s.K k
  | .ret => ares T fn s fun _ => fK s.K k
  | _ => False
noncomputable def recM (T : Tab) (call : ACall) (fn : Func) (kb : Nat) (y : Code) (k : List ABlk → Prop) (e : Ex) (s : AS) : Prop := match e with
  | .norm => awp T call kb fn.ntmps y s (recE T fn k)
  | _ => False
noncomputable def recW (T : Tab) (call : ACall) (fn : Func) (caps : List AV) (K : List ABlk) (rv : AV) (k : List ABlk → Prop) : Prop :=
  match fn.body with
  | some (.seq (.region _ ops false) y) => match ops.toList with
    | o0 :: os => match isRec o0.op, o0.dst, o0.guard with
      | true, some d, none => match plainL os && Nat.ble (len caps) fn.ntmps && Nat.blt d fn.ntmps && noRF y with
        | true => fV rv fun rv => aops T call fn.ntmps ops.toList os ((d, rv) :: frame0 0 caps) K (recM T call fn (len K) y k)
        | false => False
      | _, _, _ => False
    | [] => False
  | _ => False
noncomputable def bEnd (T : Tab) (fn : Func) (k : AO → List ABlk → Prop) (e : Ex) (s : AS) : Prop := match e with
  | .norm => ares T fn s fun v => fK s.K fun K => k (.ret v) K
  | .ret => ares T fn s fun v => fK s.K fun K => k (.ret v) K
  | .pan v => fV v fun v => fK s.K fun K => k (.pan v) K
  | .exit _ => False
noncomputable def dRes (T : Tab) (fn : Func) (k : AO → List ABlk → Prop) (t : List (Nat × AV)) (K : List ABlk) : Prop := ares T fn ⟨t, K⟩ fun v => fK K fun K => k (.ret v) K
noncomputable def dEnd (T : Tab) (call : ACall) (fn gf : Func) (caps : List AV) (k : AO → List ABlk → Prop) (e : Ex) (s : AS) : Prop := match e with
  | .norm => recW T call gf caps s.K (.p .nili) (dRes T fn k s.t)
  | .ret => recW T call gf caps s.K (.p .nili) (dRes T fn k s.t)
  | .pan v => recW T call gf caps s.K v (dRes T fn k s.t)
  | .exit _ => False
noncomputable def dMid (T : Tab) (call : ACall) (fn : Func) (o1 : Oper) (d : Nat) (y : Code) (k : AO → List ABlk → Prop) (s : AS) : Prop :=
  bound fn.ntmps o1.dst <| aop T call o1 s.t s.K (fun v K' => match look (put s.t o1.dst v) d with
    | .fn g first caps => match first with
      | [] => match T.f.get g with
        | some gf => match gf.body.isSome with
          | true => awp T call (len K') fn.ntmps y ⟨put s.t o1.dst v, K'⟩ (dEnd T call fn gf caps k)
          | false => False
        | none => False
      | _ => False
    | _ => False) (fun _ _ => False)
noncomputable def abodyD (T : Tab) (call : ACall) (fn : Func) (args : List AV) (K : List ABlk) (k : AO → List ABlk → Prop) : Prop :=
  match fn.body with
  | some (.seq c1 (.seq c2 (.seq c3 (.seq (.region _ ops false) y)))) => match ops.toList with
    | [o1, o2] => match deferOf o2, o1.guard with
      | some d, none => match Nat.ble (len args) fn.ntmps && noRF c1 && noRF c2 && noRF c3 && noRF y with
        | true => fK K fun K => awp T call (len K) fn.ntmps c1 ⟨frame0 0 args, K⟩ (wSeqK (fun s Q => awp T call (len K) fn.ntmps c2 s (wSeqK (fun s Q => awp T call (len K) fn.ntmps c3 s (wSeqK (fun s _ => dMid T call fn o1 d y k s) Q)) Q)) (bEnd T fn k))
        | false => False
      | _, _ => False
    | _ => False
  | _ => False
section
variable {P : Program} {T : Tab} {call : ACall} {we : World} {me : Mp} {N kb : Nat} {D0 : List Deferred} {bm : Bool} {ro : Option Nat} {nn : Nat}
def isPl : Result Next → Bool
  | .ok (.value _) _ => true
  | .ok .skip _ => true
  | .halt _ _ => true
  | _ => false
theorem isPl_val (s : Sem Value) (w : World) : isPl ((do pure (Next.value (← s)) : Sem Next).run P w) = true := by
  cases h : s.run P w <;> simp [h, isPl]
theorem isPl_skip (s : Sem Unit) (w : World) : isPl ((do s; pure Next.skip : Sem Next).run P w) = true := by
  cases h : s.run P w <;> simp [h, isPl]
theorem exec_plain {o : Oper} (hp : plainOp o.op = true) (ρ : Operand → Value) (w : World) : isPl ((execOp ρ o).run P w) = true := by
  unfold execOp
  cases hop : o.op <;> rw [hop] at hp <;> first | (simp [plainOp] at hp; done) | exact isPl_val _ _ | exact isPl_skip _ _ | rfl
theorem aopsS_ok (hT : TabOk P T) (hcall : CallOk P call) {ops : Array Oper} {Q : Ex → AS → Prop} {cs : List Frame} (l : List Oper) : ∀ (i : Nat) (t : List (Nat × AV)) (K : List ABlk), (∀ j, l[j]? = ops[i + j]?) → plainL l = true →
    aops T call N ops.toList l t K Q → ∀ (w : World) (m : Mp) (a : Act), Tr we me w m → St w m (hp K) → EnvOk w m t a.tmps → a.tmps.size = N → Mk bm we D0 w m a.defers →
    wpOpsSIn (FW none) nn P ops (fun e a cs' w' => cs' = cs ∧ Rel bm N we me D0 Q e a w') (List.range' i l.length) a cs w := by
  induction l with
  | nil => intro i t K _ _ h w m a hTr hS hE hN hd; exact ⟨rfl, hN, m, ⟨t, K⟩, hd, hTr, hS, hE, h⟩
  | cons o rest ih =>
    intro i t K hl hp h w m a hTr hS hE hN hd
    simp only [plainL, Bool.and_eq_true] at hp
    obtain ⟨⟨hp1, hg⟩, hp2⟩ := hp
    have hg : o.guard = none := by simpa using hg
    rw [aops_cons] at h
    simp only [want, hg] at h
    obtain ⟨hb, h⟩ := bound_ok h
    have h0 : ops[i]? = some o := by simpa using (hl 0).symm
    simp only [List.length_cons, List.range'_succ, wpOpsSIn, h0]
    refine ⟨fun _ _ => trivial, ?_⟩
    rw [if_pos (by simp [Region.wanted, hg])]
    have hu := aopX_ok (ro := none) (nn := nn) (next := fun a w => wpOpsSIn (FW none) nn P ops (fun e a cs' w' => cs' = cs ∧ Rel bm N we me D0 Q e a w') (List.range' (i + 1) rest.length) a cs w)
      (Q := fun e a w => cs = cs ∧ Rel bm N we me D0 Q e a w) hT hcall hS hE (fun w' m' v K' u h1 h2 h3 h4 => ih (i + 1) _ _ (fun j => by have := hl (j + 1); simpa [Nat.add_assoc, Nat.add_comm 1 j] using this) hp2 h4 w' m' _ (hTr.trans h1) h2
        ((hE.mono h1).put (fun x hx => by rw [hN]; exact hb x hx) h3) (by rw [put_size]; exact hN) (by rw [put_defers]; exact hd.mono h1))
      (fun w' m' v K' u h1 h2 h3 h4 => ⟨rfl, hN, m', ⟨t, K'⟩, v, u, hd.mono h1, rfl, hTr.trans h1, h2, hE.mono h1, h3, h4⟩) h
    have hpl := exec_plain (P := P) hp1 a.eval w
    generalize (execOp a.eval o).run P w = r at hpl hu ⊢
    cases r with
    | ok x w' => cases x <;> first | exact hu | simp [isPl] at hpl
    | halt x w' => cases x <;> first | exact ⟨trivial, hu.2⟩ | exact hu.elim
theorem wpOpsSIn_mono {ops : Array Oper} {Q Q' : Exit → Act → List Frame → World → Prop} {l : List Nat} {a : Act} {cs : List Frame} {w : World} (h : wpOpsSIn (FW none) nn P ops Q l a cs w) (hq : ∀ e a cs w, Q e a cs w → Q' e a cs w) : wpOpsSIn (FW none) nn P ops Q' l a cs w := by
  induction l generalizing a cs w with
  | nil => exact hq _ _ _ _ h
  | cons i rest ih =>
    simp only [wpOpsSIn] at h ⊢
    cases ho : ops[i]? with
    | none => rw [ho] at h; exact ih h
    | some o =>
      rw [ho] at h
      simp only at h ⊢
      refine ⟨h.1, ?_⟩
      have h := h.2
      split at h
      · rename_i hw
        rw [if_pos hw]
        generalize (execOp a.eval o).run P w = r at h ⊢
        cases r with
        | ok x w' =>
          cases x with
          | recover =>
            simp only at h ⊢
            cases hrd : recoverD cs with
            | none => rw [hrd] at h; exact ih h
            | some x => rw [hrd] at h; exact ih h
          | value v => exact ih h
          | skip => exact ih h
          | _ => exact h.elim
        | halt x w' => cases x <;> first | exact hq _ _ _ _ h | exact h.elim
      · rename_i hw
        rw [if_neg hw]
        exact ih h
theorem ares_nores (hT : TabOk P T) {w : World} {m : Mp} {s : AS} {a : Act} (hS : St w m (hp s.K)) (hE : EnvOk w m s.t a.tmps) {fn : Func} {q : Prop} (h : ares T fn s fun _ => q) : (∃ u, (results fn a.tmps).run P w = .ok u w) ∧ q := by
  obtain ⟨u, v, h1, _, h3⟩ := ares_ok hT hS hE h
  exact ⟨⟨u, h1⟩, h3⟩
theorem recW_ok (hT : TabOk P T) (hcall : CallOk P call) (hmix : P.follows .mixedOrders = true) {g : FuncId} {fn : Func} (hf : P.funcs[g]? = some fn) {caps : List AV} {K : List ABlk} {rv : AV} {k : List ABlk → Prop} (h : recW T call fn caps K rv k)
    {w : World} {m : Mp} {U : Array Value} {u : FrameMode} (hS : St w m (hp K)) (hU : VL w m caps U)
    (hrec : ∀ (c₀ : Frame) cs, c₀.mode = u → ∃ x u', V w m rv x ∧ settle u' = .returning ∧ (recoverD (c₀ :: cs) = some (x, { c₀ with mode := u' } :: cs) ∨ (recoverD (c₀ :: cs) = none ∧ x = .nilIface ∧ u' = u))) :
    CallsDIn (FW none) nn P g U u w (fun e u' w' => (∃ v, e = .returned v) ∧ settle u' = .returning ∧ ∃ m' K', Tr w m w' m' ∧ St w' m' (hp K') ∧ k K') := by
  unfold recW at h
  split at h
  case h_2 => exact h.elim
  rename_i id ops y hb
  split at h
  case h_2 => exact h.elim
  rename_i o0 os hops
  split at h
  case h_2 => exact h.elim
  rename_i d hr0 hd0 hg0
  split at h
  case h_2 => exact h.elim
  rename_i hchk
  simp only [Bool.and_eq_true] at hchk
  obtain ⟨⟨⟨hpl, hle⟩, hdlt⟩, hrf⟩ := hchk
  have hle : caps.length ≤ fn.ntmps := by have := Nat.le_of_ble_eq_true hle; rwa [len_eq] at this
  have hdlt : d < fn.ntmps := Nat.le_of_ble_eq_true hdlt
  rw [fV_eq] at h
  have hkb : ∀ r, len K ≤ r → m.L r = .absent := fun r hr => hS.absent (by
    simp only [hp, nth_eq]
    rw [len_eq] at hr
    rw [List.getElem?_eq_none hr])
  refine callsDIn_of_wpSIn hf hb trivial fun c₀ cs hu => ?_
  obtain ⟨x, u', hx, hset, hrd⟩ := hrec c₀ cs hu
  refine wpSIn_seq (wpSIn_region ?_)
  have hsz : ops.size = os.length + 1 := by rw [← Array.length_toList, hops]; rfl
  have hr : List.range ops.size = 0 :: List.range' 1 os.length := by
    rw [hsz, List.range_eq_range', List.range'_succ]
  rw [hr]
  have h0 : ops[0]? = some o0 := by rw [← Array.getElem?_toList, hops]; rfl
  simp only [wpOpsSIn, h0]
  refine ⟨fun _ _ => trivial, ?_⟩
  rw [if_pos (by simp [Region.wanted, hg0])]
  have hexec : (execOp (Act.eval { tmps := U ++ Array.replicate (fn.ntmps - U.size) undef, defers := [] }) o0).run P w = .ok .recover w := by
    unfold isRec at hr0
    split at hr0
    case h_2 => simp at hr0
    rename_i c hop
    split at hr0
    case h_2 => simp at hr0
    rename_i hc
    unfold execOp
    simp only [hop, resolve, hc]
    simp [go_sem, invoke, builtin]
  rw [hexec]
  have hN : (U ++ Array.replicate (fn.ntmps - U.size) undef).size = fn.ntmps := by simp; have := hU.1; omega
  have hE0 : EnvOk w m ((d, rv) :: frame0 0 caps) ((U ++ Array.replicate (fn.ntmps - U.size) undef).setIfInBounds d x) := (EnvOk.frame hU _).set (by rw [hN]; exact hdlt) hx
  -- what stands behind the first operation
  have key : wpOpsSIn (FW none) nn P ops (Exit.thenS (y.wpSIn (FW none) nn P (bodyPostS P fn c₀ cs fun e u' w' => (∃ v, e = .returned v) ∧ settle u' = .returning ∧ ∃ m' K', Tr w m w' m' ∧ St w' m' (hp K') ∧ k K'))
      (bodyPostS P fn c₀ cs fun e u' w' => (∃ v, e = .returned v) ∧ settle u' = .returning ∧ ∃ m' K', Tr w m w' m' ∧ St w' m' (hp K') ∧ k K')) (List.range' 1 os.length)
      { tmps := (U ++ Array.replicate (fn.ntmps - U.size) undef).setIfInBounds d x, defers := [] } ({ c₀ with mode := u' } :: cs) w := by
    refine wpOpsSIn_mono (aopsS_ok (bm := false) (D0 := []) (we := w) (me := m) (cs := { c₀ with mode := u' } :: cs) hT hcall os 1 _ K (fun j => ?_) hpl h w m _ (Tr.refl w m) hS hE0 (by simpa using hN) .base) ?_
    · rw [← Array.getElem?_toList, hops, Nat.add_comm]; rfl
    rintro e a1 cs1 w1 ⟨rfl, hR⟩
    cases e with
    | normal =>
      obtain ⟨hN1, m1, s1, hd1, hT1, hS1, hE1, hQ⟩ := hR
      refine wpSIn_of_wpIn rfl (wpIn_mono (awp_ok (ro := none) (bm := false) (D0 := []) (we := w) (me := m) hT hcall hmix hkb (fun d hd => by simp at hd) y _ _ hQ w1 m1 a1 hT1 hS1 hE1 hN1 hd1 (.inr hrf)) fun e a2 w2 hR2 => ?_)
      have fin : ∀ (m2 : Mp) (s2 : AS), Mk false w [] w2 m2 a2.defers → Tr w m w2 m2 → St w2 m2 (hp s2.K) → EnvOk w2 m2 s2.t a2.tmps → (ares T fn s2 fun _ => fK s2.K k) →
          a2.defers = [] ∧ ∃ u1, ({ c₀ with mode := u' } :: cs : List Frame) = { c₀ with mode := u1 } :: cs ∧ ∃ v, (results fn a2.tmps).run P w2 = .ok v w2 ∧ ((∃ v', Ending.returned v = .returned v') ∧ settle u1 = .returning ∧ ∃ m' K', Tr w m w2 m' ∧ St w2 m' (hp K') ∧ k K') := by
        intro m2 s2 hd2 hT2 hS2 hE2 hQ2
        obtain ⟨⟨v, hv⟩, hk⟩ := ares_nores (a := a2) hT hS2 hE2 hQ2
        rw [fK_eq] at hk
        refine ⟨?_, u', rfl, v, hv, ⟨v, rfl⟩, hset, m2, s2.K, hT2, hS2, hk⟩
        generalize a2.defers = ds at hd2
        cases hd2 with
        | base => rfl
        | mark hb => simp at hb
      cases e with
      | normal => obtain ⟨_, m2, s2, hd2, hT2, hS2, hE2, hQ2⟩ := hR2; exact fin m2 s2 hd2 hT2 hS2 hE2 hQ2
      | ret => obtain ⟨_, m2, s2, hd2, hT2, hS2, hE2, hQ2⟩ := hR2; exact fin m2 s2 hd2 hT2 hS2 hE2 hQ2
      | exit n => obtain ⟨_, _, _, _, _, _, _, hQ2⟩ := hR2; exact hQ2.elim
      | panic ch => obtain ⟨_, _, _, _, _, _, _, _, _, _, _, hQ2⟩ := hR2; exact hQ2.elim
      | goto l => exact hR2.elim
      | outgrown => exact hR2.elim
    | exit n => obtain ⟨_, _, _, _, _, _, _, hQ2⟩ := hR; exact hQ2.elim
    | ret => obtain ⟨_, _, _, _, _, _, _, hQ2⟩ := hR; exact hQ2.elim
    | panic ch => obtain ⟨_, _, _, _, _, _, _, _, _, _, _, hQ2⟩ := hR; exact hQ2.elim
    | goto l => exact hR.elim
    | outgrown => exact hR.elim
  rcases hrd with hrd | ⟨hrd, rfl, rfl⟩
  · simp only [hrd, hd0, Act.put]
    exact key
  · simp only [hrd, hd0, Act.put]
    subst hu
    exact key
theorem mk_false {w : World} {m : Mp} {ds : List Deferred} (h : Mk false we D0 w m ds) : ds = D0 := by
  cases h with
  | base => rfl
  | mark hb => simp at hb
theorem bEnd_ok (hT : TabOk P T) {fn : Func} {k : AO → List ABlk → Prop} {e : Exit} {a : Act} {w : World} (h : Rel false N we me [] (bEnd T fn k) e a w) : bodyPostM (FW none) nn P fn (Post we me k) e a w := by
  cases e with
  | normal =>
    obtain ⟨_, m', s', hd, h1, h2, h3, h4⟩ := h
    obtain ⟨u, v, h5, h6, h7⟩ := ares_ok (s := s') (a := a) hT h2 h3 h4
    rw [fK_eq] at h7
    show LeavesInM (FW none) nn P fn a.tmps _ a.defers .returning w
    rw [mk_false hd]
    exact ⟨u, h5, m', v, s'.K, h1, h2, h6, h7⟩
  | ret =>
    obtain ⟨_, m', s', hd, h1, h2, h3, h4⟩ := h
    obtain ⟨u, v, h5, h6, h7⟩ := ares_ok (s := s') (a := a) hT h2 h3 h4
    rw [fK_eq] at h7
    show LeavesInM (FW none) nn P fn a.tmps _ a.defers .returning w
    rw [mk_false hd]
    exact ⟨u, h5, m', v, s'.K, h1, h2, h6, h7⟩
  | panic ch =>
    obtain ⟨_, m', s', v, u, hd, rfl, h1, h2, h3, h4, h5⟩ := h
    simp only [bEnd, fV_eq, fK_eq] at h5
    show LeavesInM (FW none) nn P fn a.tmps _ a.defers (.panicking _) w
    rw [mk_false hd]
    exact ⟨m', v, u, s'.K, rfl, h1, h2, h4, h5⟩
  | exit n => obtain ⟨_, _, _, _, _, _, _, h⟩ := h; exact h.elim
  | goto l => exact h
  | outgrown => exact h.elim
theorem dRes_ok (hT : TabOk P T) {fn : Func} {k : AO → List ABlk → Prop} {t : List (Nat × AV)} {K : List ABlk} {tmps : Array Value} {w : World} {m : Mp} (h : dRes T fn k t K) (hTr : Tr we me w m) (hS : St w m (hp K)) (hE : EnvOk w m t tmps) :
    LeavesInM (FW none) nn P fn tmps (Post we me k) [] .returning w := by
  unfold dRes at h
  obtain ⟨u, v, h5, h6, h7⟩ := ares_ok (s := ⟨t, K⟩) (a := { tmps := tmps, defers := [] }) hT hS hE h
  rw [fK_eq] at h7
  exact ⟨u, h5, m, v, K, hTr, hS, h6, h7⟩
theorem dEnd_ok (hT : TabOk P T) (hcall : CallOk P call) (hmix : P.follows .mixedOrders = true) {fn gf : Func} {g : FuncId} (hent : Ent P g) (hg : P.funcs[g]? = some gf) {caps : List AV} {U : Array Value} {k : AO → List ABlk → Prop} {w1 : World} {m1 : Mp}
    (hT1 : Tr we me w1 m1) (hU : VL w1 m1 caps U) {e : Exit} {a : Act} {w : World} (h : Rel false N w1 m1 [{ target := .fn (.func g) U, args := #[] }] (dEnd T call fn gf caps k) e a w) :
    bodyPostM (FW none) nn P fn (Post we me k) e a w := by
  have core : ∀ (u : FrameMode) (m' : Mp) (s' : AS) (rv : AV), u ≠ .run → Mk false w1 [{ target := .fn (.func g) U, args := #[] }] w m' a.defers → Tr w1 m1 w m' → St w m' (hp s'.K) → EnvOk w m' s'.t a.tmps →
      recW T call gf caps s'.K rv (dRes T fn k s'.t) →
      (∀ (c₀ : Frame) cs, c₀.mode = u → ∃ x u', V w m' rv x ∧ settle u' = .returning ∧ (recoverD (c₀ :: cs) = some (x, { c₀ with mode := u' } :: cs) ∨ (recoverD (c₀ :: cs) = none ∧ x = .nilIface ∧ u' = u))) →
      LeavesInM (FW none) nn P fn a.tmps (Post we me k) a.defers u w := by
    intro u m' s' rv hu hd h1 h2 h3 h4 hrec
    rw [mk_false hd]
    refine ⟨hu, .inr ⟨FW.depth, .func g, U, g, U, rfl, ?_, fun _ _ => trivial, ?_⟩⟩
    · simp [invoke, callFunc_run hent]
    · refine CallsDIn.mono (recW_ok hT hcall hmix hg h4 h2 ⟨hU.1, fun j hj hj' => (hU.2 j hj hj').mono h1⟩ hrec) ?_
      rintro e u' w' ⟨⟨v, rfl⟩, hset, m2, K2, h5, h6, h7⟩
      show LeavesInM (FW none) nn P fn a.tmps (Post we me k) [] (settle u') w'
      rw [hset]
      exact dRes_ok hT h7 (hT1.trans (h1.trans h5)) h6 (h3.mono h5)
  have ret : ∀ (m' : Mp) (c₀ : Frame) (cs : List Frame), c₀.mode = .returning → ∃ x u', V w m' (.p .nili) x ∧ settle u' = .returning ∧ (recoverD (c₀ :: cs) = some (x, { c₀ with mode := u' } :: cs) ∨ (recoverD (c₀ :: cs) = none ∧ x = .nilIface ∧ u' = .returning)) :=
    fun m' c₀ cs hc => ⟨.nilIface, .returning, .p _ _ .nili, rfl, .inr ⟨by simp [recoverD, hc], rfl, rfl⟩⟩
  cases e with
  | normal =>
    obtain ⟨_, m', s', hd, h1, h2, h3, h4⟩ := h
    exact core .returning m' s' _ (by simp) hd h1 h2 h3 h4 (ret m')
  | ret =>
    obtain ⟨_, m', s', hd, h1, h2, h3, h4⟩ := h
    exact core .returning m' s' _ (by simp) hd h1 h2 h3 h4 (ret m')
  | panic ch =>
    obtain ⟨_, m', s', v, u, hd, rfl, h1, h2, h3, h4, h5⟩ := h
    exact core (.panicking [{ v := u, recovered := false }]) m' s' v (by simp) hd h1 h2 h3 h5 fun c₀ cs hc => ⟨u, .panicking [{ v := u, recovered := true }], h4, rfl, .inl (by simp [recoverD, hc])⟩
  | exit n => obtain ⟨_, _, _, _, _, _, _, h⟩ := h; exact h.elim
  | goto l => exact h
  | outgrown => exact h.elim
theorem defer_exec {o : Oper} {d : Nat} (h : deferOf o = some d) {ρ : Operand → Value} {g : FuncId} {B : Array Value} (hv : ρ (.tmp d) = .func (.func g) #[] B) (w : World) :
    o.dst = none ∧ o.guard = none ∧ (execOp ρ o).run P w = .ok (.defer { target := .fn (.func g) B, args := #[] }) w := by
  unfold deferOf at h
  split at h
  case h_2 => simp at h
  rename_i c hop
  split at h
  case h_2 => simp at h
  rename_i x hc
  split at h
  case h_2 => simp at h
  rename_i hargs
  split at h
  case h_2 => simp at h
  rename_i hdst
  split at h
  case h_2 => simp at h
  rename_i hg
  simp only [Option.some.injEq] at h
  subst h
  have hargs : c.args = #[] := by apply Array.ext'; simpa using hargs
  refine ⟨hdst, hg, ?_⟩
  unfold execOp
  simp only [hop]
  simp [resolve, hc, hv, hargs, Deferred.ofValue]
theorem abodyD_ok (hT : TabOk P T) (hcall : CallOk P call) (hmix : P.follows .mixedOrders = true) {f : FuncId} {fn : Func} (hf : P.funcs[f]? = some fn) (hn : (fn.name == "runtime.NumGoroutine") = false) {args : List AV} {K : List ABlk} {k : AO → List ABlk → Prop}
    (h : abodyD T call fn args K k) : ACalls P f args K k := by
  unfold abodyD at h
  split at h
  case h_2 => exact h.elim
  rename_i c1 c2 c3 id ops y hb
  split at h
  case h_2 => exact h.elim
  rename_i o1 o2 hops
  split at h
  case h_2 => exact h.elim
  rename_i d hdo hg1
  split at h
  case h_2 => exact h.elim
  rename_i hchk
  simp only [Bool.and_eq_true] at hchk
  obtain ⟨⟨⟨⟨hle, hn1⟩, hn2⟩, hn3⟩, hn4⟩ := hchk
  have hle : args.length ≤ fn.ntmps := by have := Nat.le_of_ble_eq_true hle; rwa [len_eq] at this
  refine ⟨⟨fn, hf, hn, by rw [hb]; rfl⟩, fun w m Args hS hA => (callsIn_wide (n := 0)).1 (callsIn_of_wp_marks hf hb trivial ?_)⟩
  show Code.wpIn (FW none) 0 P _ (bodyPostM (FW none) 0 P fn (Post w m k)) _ w
  rw [fK_eq] at h
  have hkb : ∀ r, len K ≤ r → m.L r = .absent := fun r hr => hS.absent (by
    simp only [hp, nth_eq]
    rw [len_eq] at hr
    rw [List.getElem?_eq_none hr])
  have hD0 : ∀ d ∈ ([] : List Deferred), ∀ D, d.target ≠ .collected D := fun d hd => by simp at hd
  refine wpIn_seq (wpIn_mono (awp_ok (ro := none) (bm := false) (D0 := []) (we := w) (me := m) hT hcall hmix hkb hD0 c1 _ _ h w m _ (Tr.refl w m) hS (EnvOk.frame hA _) (by simp; have := hA.1; omega) .base (.inr hn1)) fun e a1 w1 hR => ?_)
  cases e with
  | exit n => exact bEnd_ok (nn := 0) (e := .exit n) (N := fn.ntmps) hT (show Rel false fn.ntmps w m [] (bEnd T fn k) (.exit n) a1 w1 from hR)
  | ret => exact bEnd_ok (nn := 0) (e := .ret) (N := fn.ntmps) hT (show Rel false fn.ntmps w m [] (bEnd T fn k) .ret a1 w1 from hR)
  | panic ch => exact bEnd_ok (nn := 0) (e := .panic ch) (N := fn.ntmps) hT (show Rel false fn.ntmps w m [] (bEnd T fn k) (.panic ch) a1 w1 from hR)
  | goto l => exact hR.elim
  | outgrown => exact hR.elim
  | normal =>
  obtain ⟨hN1, m1, s1, hd1, hT1, hS1, hE1, h1⟩ := hR
  refine wpIn_seq (wpIn_mono (awp_ok (ro := none) (bm := false) (D0 := []) (we := w) (me := m) hT hcall hmix hkb hD0 c2 _ _ h1 w1 m1 a1 hT1 hS1 hE1 hN1 hd1 (.inr hn2)) fun e a2 w2 hR => ?_)
  cases e with
  | exit n => exact bEnd_ok (nn := 0) (e := .exit n) (N := fn.ntmps) hT (show Rel false fn.ntmps w m [] (bEnd T fn k) (.exit n) a2 w2 from hR)
  | ret => exact bEnd_ok (nn := 0) (e := .ret) (N := fn.ntmps) hT (show Rel false fn.ntmps w m [] (bEnd T fn k) .ret a2 w2 from hR)
  | panic ch => exact bEnd_ok (nn := 0) (e := .panic ch) (N := fn.ntmps) hT (show Rel false fn.ntmps w m [] (bEnd T fn k) (.panic ch) a2 w2 from hR)
  | goto l => exact hR.elim
  | outgrown => exact hR.elim
  | normal =>
  obtain ⟨hN2, m2, s2, hd2, hT2, hS2, hE2, h2⟩ := hR
  refine wpIn_seq (wpIn_mono (awp_ok (ro := none) (bm := false) (D0 := []) (we := w) (me := m) hT hcall hmix hkb hD0 c3 _ _ h2 w2 m2 a2 hT2 hS2 hE2 hN2 hd2 (.inr hn3)) fun e a3 w3 hR => ?_)
  cases e with
  | exit n => exact bEnd_ok (nn := 0) (e := .exit n) (N := fn.ntmps) hT (show Rel false fn.ntmps w m [] (bEnd T fn k) (.exit n) a3 w3 from hR)
  | ret => exact bEnd_ok (nn := 0) (e := .ret) (N := fn.ntmps) hT (show Rel false fn.ntmps w m [] (bEnd T fn k) .ret a3 w3 from hR)
  | panic ch => exact bEnd_ok (nn := 0) (e := .panic ch) (N := fn.ntmps) hT (show Rel false fn.ntmps w m [] (bEnd T fn k) (.panic ch) a3 w3 from hR)
  | goto l => exact hR.elim
  | outgrown => exact hR.elim
  | normal =>
  obtain ⟨hN3, m3, s3, hd3, hT3, hS3, hE3, h3⟩ := hR
  simp only [wSeqK, dMid] at h3
  obtain ⟨hb1, h3⟩ := bound_ok h3
  refine wpIn_seq (wpIn_region_list ?_)
  rw [hops]
  unfold wpListIn
  rw [if_pos (by simp [Region.wanted, hg1])]
  refine ⟨fun _ _ => trivial, ?_⟩
  rw [show (FW none).round = none from rfl, Oper.semAt_none]
  refine aop_ok (ro := none) hT hcall hS3 hE3 (fun w4 m4 v K4 u hT4 hS4 hV4 h4 => ?_) (fun w' m' v K' u _ _ _ h4 => h4.elim) h3
  have hE4 := (hE3.mono hT4).put (a := a3) (d := o1.dst) (fun x hx => by rw [hN3]; exact hb1 x hx) hV4
  have hvd := hE4 d
  split at h4
  case h_2 => exact h4.elim
  rename_i g first caps hlk
  split at h4
  case h_2 => exact h4.elim
  split at h4
  case h_2 => exact h4.elim
  rename_i gf hgf
  split at h4
  case h_2 => exact h4.elim
  rename_i hbody
  obtain ⟨hg2, hg3⟩ := hT.f g gf hgf
  rw [hlk] at hvd
  generalize hud : (a3.put o1.dst u).tmps.getD d undef = ud at hvd
  cases hvd with
  | fn _ _ _ A B hA' hB h1 h2' =>
  have hA0 : A = #[] := by
    have : A.size = 0 := by simpa using hA'.symm
    exact Array.eq_empty_of_size_eq_zero this
  subst hA0
  have hev : (a3.put o1.dst u).eval (.tmp d) = .func (.func g) #[] B := hud
  obtain ⟨hx1, hx2, hx3⟩ := defer_exec (P := P) hdo hev w4
  unfold wpListIn
  rw [if_pos (by simp [Region.wanted, hx2])]
  refine ⟨fun _ _ => trivial, ?_⟩
  rw [show (FW none).round = none from rfl, Oper.semAt_none, hx3, Oper.uponIn_defer, hx1]
  show Code.wpIn _ _ _ y _ { a3.put o1.dst u with defers := _ } w4
  have hda : (a3.put o1.dst u).defers = [] := by rw [put_defers]; exact mk_false hd3
  rw [hda]
  have hkb4 : ∀ r, len K4 ≤ r → m4.L r = .absent := fun r hr => hS4.absent (by
    simp only [hp, nth_eq]
    rw [len_eq] at hr
    rw [List.getElem?_eq_none hr])
  have hent : Ent P g := ⟨gf, hg2, hg3, hbody⟩
  refine wpIn_mono (awp_ok (ro := none) (bm := false) (D0 := [{ target := .fn (.func g) B, args := #[] }]) (we := w4) (me := m4) hT hcall hmix hkb4 (fun d hd D => by
    simp only [List.mem_singleton] at hd; subst hd; simp) y _ _ h4 w4 m4 _ (Tr.refl w4 m4) hS4 hE4 (by rw [put_size]; exact hN3) .base (.inr hn4)) fun e a' w' hR => dEnd_ok hT hcall hmix hent hg2 (hT3.trans hT4) ⟨hB, h2'⟩ hR
end
end Go.AE

namespace Go.Proofs.YtkomdppjelnpdaaGreatDoor
open Go.AE Go.Ru
set_option maxRecDepth 100000
def cStd (S : Int → PS → R Int) : AC := fun args K k => ∃ e ts ns mo X, args = [pp] ∧ K = encP e ts ns 0 mo ++ X ∧ Fine 40 ts ns ∧ After e (S e ⟨ts, ns, mo⟩) intV 0 X k
def pbW (e : Int) (ts : List Tok) (nv : AV) (mo : Int) : ABlk := .box 120 [.p (.sl 4 (ts.length + 1) (encs e ts)), nv, intV 0, intV mo]
def cWhat (S : Int → PS → R Int) : AC := fun args K k => ∃ (e : Int) (ts : List Tok) (y0 y1 y2 y3 : ABlk), args = [.ptr 4 0 1 0 0] ∧ K = [y0, y1, y2, y3, pbW e ts (.p .nils) 0] ∧ Fine 40 ts [] ∧
  (∀ a ts' ns' mo', S e ⟨ts, [], 0⟩ = .ok a ⟨ts', ns', mo'⟩ → k (.ret (intV a)) [y0, y1, y2, y3, pbW e ts' (.p (.sl 5 ns'.length (nodeF ns'))) mo', .dead]) ∧
  (∀ a er, S e ⟨ts, [], 0⟩ = .bad a er → k (.pan (wrongV a er)) [y0, y1, y2, y3, .dead, .dead])
theorem ups_pvs (n : Nat) (l : List PV) : AV.ups n (pvs l) = pvs l := by
  induction l with
  | nil => rfl
  | cons a l ih => simp [pvs, AV.ups, AV.up, ih]
theorem what_ok {f : FuncId} {S : Int → PS → R Int} (h0 : COk f (cStd S)) : COk f (cWhat S) := by
  rintro args K k ⟨e, ts, y0, y1, y2, y3, rfl, rfl, hf, hk1, hk2⟩
  refine ACalls.post (k := fun ao K1 => (∃ a ts' ns' mo', S e ⟨ts, [], 0⟩ = .ok a ⟨ts', ns', mo'⟩ ∧ ao = .ret (intV a) ∧ K1 = [y0, y1, y2, y3] ++ upsB 4 (encP e ts' ns' 0 mo')) ∨
    (∃ a er, S e ⟨ts, [], 0⟩ = .bad a er ∧ ao = .pan (wrongV a er) ∧ K1 = [y0, y1, y2, y3, .dead, .dead])) ?_ ?_
  · refine ACalls.nilPre (K' := [y0, y1, y2, y3, pbW e ts (.slr 5 0 0 0) 0]) 30 5 (fun i => pvs (nodeF [] i)) ⟨.inl (ABlk.le_refl _), .inl (ABlk.le_refl _), .inl (ABlk.le_refl _), .inl (ABlk.le_refl _), .inr ⟨_, _, _, rfl, rfl, .inl (AV.le_refl _), .inr ⟨rfl, rfl⟩, .inl (AV.le_refl _), .inl (AV.le_refl _), trivial⟩, trivial⟩ ?_
    refine ACalls.shift (n := 4) (Y := [y0, y1, y2, y3]) (K1 := [pbW e ts (.slr 5 0 0 0) 0, .arr 30 5 0 0 (fun i => pvs (nodeF [] i))]) rfl ⟨trivial, trivial, trivial⟩ ?_
    refine ACalls.pre (args' := [pp]) (K' := encP e ts [] 0 0 ++ []) ?_ (fun w m Args hS hV => ⟨m, Tr.refl w m, hS.les ?_, hV⟩)
    · refine h0 _ _ _ ⟨e, ts, [], 0, [], rfl, rfl, hf, ⟨fun a ts' ns' mo' hr => ?_, fun a er hr => ?_⟩⟩
      · exact ⟨⟨trivial, trivial, trivial⟩, .inl ⟨a, ts', ns', mo', hr, rfl, rfl⟩⟩
      · exact ⟨⟨trivial, trivial, trivial⟩, .inr ⟨a, er, hr, rfl, rfl⟩⟩
    · exact ⟨ABlk.le_refl _, ABlk.arr_eq rfl fun i hi => by simp at hi, trivial⟩
  · rintro ao K1 (⟨a, ts', ns', mo', hr, rfl, rfl⟩ | ⟨a, er, hr, rfl, rfl⟩)
    · refine ⟨intV a, _, Wk1.fz (r := 5) (ty := 30) (sz := 5) (n := ns'.length) (f := fun i => AV.ups 4 (pvs (nodeF ns' i))) (nodeF ns') rfl (fun i _ => ups_pvs _ _) ?_ (AV.le_refl _), hk1 a ts' ns' mo' hr⟩
      exact ⟨.inl (ABlk.le_refl _), .inl (ABlk.le_refl _), .inl (ABlk.le_refl _), .inl (ABlk.le_refl _), .inr ⟨_, _, _, rfl, rfl, .inl (AV.le_refl _), .inr ⟨rfl, rfl⟩, .inl (AV.le_refl _), .inl (AV.le_refl _), trivial⟩, .inl (ABlk.le_refl _), trivial⟩
    · exact ⟨_, _, Wk1.refl _ _ _, hk2 a er hr⟩
inductive RR where
  | bad (at_ err : Int)
  | ok (ns : List Nd) (root mo : Int)
def readS (S : Int → PS → R Int) (s : Bs) : RR :=
  if s.length > 20000 then .bad 0 7 else match cutT s with
  | .bad a => .bad a 2
  | .ok ts => match S s.length ⟨ts, [], 0⟩ with
    | .bad a er => .bad a er
    | .ok root s' => match s'.ts with
      | t :: _ => .bad t.at_ 2
      | [] => if 4000 < s'.ns.length then .bad 0 8 else if 40 < depthS s'.ns root then .bad 0 6 else .ok s'.ns root s'.mo
def readV : RR → AV
  | .bad a er => .tup [.agg [.p .nils, intV 0], intV 0, intV a, intV er]
  | .ok ns root mo => .tup [treeV ns root, intV mo, intV 0, intV 0]
theorem runS_le (l r : Bs) : runS l r ≤ r.length := by
  unfold runS
  exact (List.takeWhile_sublist _).length_le
theorem cutS_len : ∀ (n : Nat) (r : Bs) (i : Nat) (l : List Tok), cutS n r i = .ok l → l.length ≤ r.length := by
  intro n
  induction n with
  | zero => intro r i l h; simp only [cutS, CR.ok.injEq] at h; subst h; exact Nat.zero_le _
  | succ n ih =>
    intro r i l h
    cases r with
    | nil => simp only [cutS, CR.ok.injEq] at h; subst h; exact Nat.zero_le _
    | cons c r' =>
      simp only [cutS] at h
      split at h
      · have := ih _ _ _ h
        simp only [List.length_drop] at this; omega
      split at h
      · have := ih _ _ _ h
        have h2 := (List.dropWhile_sublist (fun c => !(c == (10 : UInt8))) (l := c :: r')).length_le
        omega
      split at h
      · rename_i hp
        split at h
        · cases h
        · rename_i k v hw
          cases hc : cutS n ((c :: r').drop (runS partsT (c :: r'))) (i + runS partsT (c :: r')) with
          | bad a => rw [hc] at h; simp [CR.cons] at h
          | ok l' =>
            rw [hc] at h
            simp only [CR.cons, CR.ok.injEq] at h
            subst h
            have := ih _ _ _ hc
            simp only [List.length_drop, List.length_cons] at this ⊢; omega
      · split at h
        · cases h
        · rename_i m hm
          cases hc : cutS n ((c :: r').drop (m + 1)) (i + (m + 1)) with
          | bad a => rw [hc] at h; simp [CR.cons] at h
          | ok l' =>
            rw [hc] at h
            simp only [CR.cons, CR.ok.injEq] at h
            subst h
            have := ih _ _ _ hc
            simp only [List.length_drop, List.length_cons] at this ⊢; omega
theorem call_okD {G : AG} (hG : GOk Tryz.prog G) (n : Nat) {f : FuncId} {fn : Func} (hf : T0.f.get f = some fn) {args : List AV} {K : List ABlk} {k : AO → List ABlk → Prop} (h : abodyD T0 (acall T0 G n) fn args K k) : ACalls Tryz.prog f args K k := by
  obtain ⟨h1, h2⟩ := tabOk.f f fn hf
  exact abodyD_ok tabOk (acall_ok tabOk (Checked.mixed Tryz.checked) hG n) (Checked.mixed Tryz.checked) h1 h2 h
theorem frame0D {G : AG} (hG : GOk Tryz.prog G) (n : Nat) {f : FuncId} {fn : Func} (hf : T0.f.get f = some fn) {args : List AV} {X : List ABlk} {k : AO → List ABlk → Prop} (hcl : AV.cls 0 args = true)
    (h : ∀ Q : AO → List ABlk → Prop, (∀ v K', v.cl 0 = true → k (.ret v) X → Q (.ret v) K') → abodyD T0 (acall T0 G n) fn args [] Q) : ACalls Tryz.prog f args X k := by
  refine (ACalls.frame (K0 := []) (X := X) (k := fun ao K1 => k ao (K1 ++ X)) hcl (fun r h => by simp at h) (call_okD hG n hf (h _ ?_))).mono fun ao K ⟨K1, h1, h2⟩ => by subst h1; exact h2
  intro v K' h1 h2
  refine ⟨h1, by simp, fun r hr => by simp at hr, ?_⟩
  show k (.ret v) (takeN K' 0 ++ X)
  rw [takeN_zero]; exact h2
def gRd (f : FuncId) (S : Int → PS → R Int) : AG := gput 92 cCutT (gput f (cWhat S) (gput 22 cDepth g0))
theorem gRd_ok {f : FuncId} {S : Int → PS → R Int} (h0 : COk f (cStd S)) : GOk Tryz.prog (gRd f S) := gput_ok cutT_ok (gput_ok (what_ok h0) (gput_ok depth_ok g0_ok))
def cRead (f : FuncId) (S : Int → PS → R Int) : AC := fun args K k => ∃ s, args = [.p (.str s), .p (.fn f)] ∧ s.length < 1000000 ∧ k (.ret (readV (readS S s))) K
theorem readP_ok (S : Int → PS → R Int) (hS : ∀ e ts a s', List.length ts ≤ 20000 → S e ⟨ts, [], 0⟩ = .ok a s' → s'.ns.length < 1000000) (h0 : COk 66 (cStd S)) :
    COk 65 (cRead 66 S) := by
    rintro args K k ⟨s, rfl, hs, hk⟩
    refine frame0D (gRd_ok h0) 19 rfl rfl fun Q hr => ?_
    conv => whnf
    refine ⟨s, rfl, hs, fun h => ?_, fun h => ?_⟩
    · have e : readS S s = .bad 0 7 := by unfold readS; rw [if_pos h]
      rw [e] at hk
      conv => whnf
      repeat ((refine And.intro ?_ ?_); (focus ((conv => whnf); done)); (conv => whnf))
      exact hr _ _ rfl hk
    unfold readS at hk
    rw [if_neg (by omega)] at hk
    cases hc : cutT s with
    | bad a =>
      rw [hc] at hk
      conv => whnf
      repeat ((refine And.intro ?_ ?_); (focus ((conv => whnf); done)); (conv => whnf))
      exact hr _ _ rfl hk
    | ok ts =>
      rw [hc] at hk
      have hln : ts.length ≤ s.length := cutS_len _ _ _ _ hc
      simp only at hk
      conv => whnf
      refine ⟨s.length, ts, _, _, _, _, rfl, rfl, ⟨Nat.le_refl _, by simp only [List.length_nil]; omega⟩, fun a ts2 ns2 mo2 hp => ?_, fun a er hp => ?_⟩
      · have hns := hS _ _ _ _ (by omega) hp
        rw [hp] at hk
        simp only at hk hns
        cases ts2 with
        | cons t r =>
          obtain ⟨tk, tn, ta, tx⟩ := t
          cases tk <;>
          · conv => whnf
            refine ⟨by simp <;> omega, ?_⟩
            conv => whnf
            refine ⟨by simp <;> omega, ?_⟩
            conv => whnf
            repeat ((refine And.intro ?_ ?_); (focus ((conv => whnf); done)); (conv => whnf))
            exact hr _ _ rfl hk
        | nil =>
          conv => whnf
          refine ⟨by simp, ?_⟩
          conv => whnf
          have hd1 : decide ((ns2.length : Int) > 4000) = decide (4000 < ns2.length) := by
            by_cases h : 4000 < ns2.length
            · rw [decide_eq_true h, decide_eq_true (by omega)]
            · rw [decide_eq_false h, decide_eq_false (by omega)]
          refine two_intro (fun h1 => ?_) (fun h1 => ?_)
          · have h1 := of_decide_eq_true (hd1 ▸ h1)
            rw [if_pos h1] at hk
            conv => whnf
            repeat ((refine And.intro ?_ ?_); (focus ((conv => whnf); done)); (conv => whnf))
            exact hr _ _ rfl hk
          have h1 := of_decide_eq_false (hd1 ▸ h1)
          rw [if_neg h1] at hk
          conv => whnf
          refine ⟨ns2, a, rfl, hns, ?_⟩
          conv => whnf
          have hd2 : decide (((depthS ns2 a : Nat) : Int) > 40) = decide (40 < depthS ns2 a) := by
            by_cases h : 40 < depthS ns2 a
            · rw [decide_eq_true h, decide_eq_true (by omega)]
            · rw [decide_eq_false h, decide_eq_false (by omega)]
          refine two_intro (fun h2 => ?_) (fun h2 => ?_)
          · have h2 := of_decide_eq_true (hd2 ▸ h2)
            rw [if_pos h2] at hk
            conv => whnf
            repeat ((refine And.intro ?_ ?_); (focus ((conv => whnf); done)); (conv => whnf))
            exact hr _ _ rfl hk
          have h2 := of_decide_eq_false (hd2 ▸ h2)
          rw [if_neg h2] at hk
          conv => whnf
          repeat ((refine And.intro ?_ ?_); (focus ((conv => whnf); done)); (conv => whnf))
          exact hr _ _ rfl hk
      · rw [hp] at hk
        simp only at hk
        conv => whnf
        repeat ((refine And.intro ?_ ?_); (focus ((conv => whnf); done)); (conv => whnf))
        exact hr _ _ rfl hk
theorem programS_len (e : Int) (ts : List Tok) (a : Int) (s' : PS) (hl : ts.length ≤ 20000) (h : programS e ⟨ts, [], 0⟩ = .ok a s') : s'.ns.length < 1000000 := by
  have : Okk (programS e ⟨ts, [], 0⟩) (fun s' => s'.ns.length < 1000000) := by
    unfold programS
    refine Okk.bind (vars_le e 2 ⟨ts, [], 0⟩) fun l s1 h1 => Okk.bind (procsL_le e 40 _ l s1) fun l2 s2 h2 => (put_len _ s2).imp fun s3 h3 => ?_
    simp only [Lw, List.length_nil] at h1 h2 h3
    omega
  exact this a s' h
abbrev proS (s : Bs) : RR := readS programS s
def gPr : AG := gput 65 (cRead 66 programS) g0
theorem gPr_ok : GOk Tryz.prog gPr := gput_ok (readP_ok programS programS_len program_ok) g0_ok
def topV : RR → AV
  | .bad a er => .tup [.agg [.p .nils, intV 0], intV a, intV er]
  | .ok ns root _ => .tup [treeV ns root, intV 0, intV 0]
def cTop (S : Bs → RR) : AC := fun args K k => ∃ s, args = [.p (.str s)] ∧ s.length < 1000000 ∧ k (.ret (topV (S s))) K
theorem Program_ok : COk 35 (cTop proS) := by
  rintro args K k ⟨s, rfl, hs, hk⟩
  refine frame0P gPr_ok 19 rfl fun Q hr => ?_
  conv => whnf
  refine ⟨s, rfl, hs, ?_⟩
  cases h : readS programS s with
  | bad a er =>
    rw [show proS s = _ from h] at hk
    conv => whnf
    exact hr _ _ rfl hk
  | ok ns root mo =>
    rw [show proS s = _ from h] at hk
    conv => whnf
    exact hr _ _ rfl hk
def RR.err : RR → Int
  | .bad _ er => er
  | .ok _ _ _ => 0
def RR.most : RR → Int
  | .bad _ _ => 0
  | .ok _ _ mo => mo
def RR.place : RR → Int
  | .bad a _ => a
  | .ok _ _ _ => 0
def RR.tree : RR → AV
  | .bad _ _ => .agg [.p .nils, intV 0]
  | .ok ns root _ => treeV ns root
theorem readV_eq (r : RR) : readV r = .tup [r.tree, intV r.most, intV r.place, intV r.err] := by cases r <;> rfl
end Go.Proofs.YtkomdppjelnpdaaGreatDoor

namespace Go.Ru
def smallS (m : Nat) (ns : List Nd) : Bool := decide (ns.length ≤ m) && ns.all fun n => decide (n.kids.length ≤ m) && decide (n.tx.length ≤ 200)
end Go.Ru
namespace Go.Proofs.YtkomdppjelnpdaaGreatDoor
open Go.AE Go.Ru
set_option maxRecDepth 100000
set_option maxHeartbeats 1000000
theorem small_tame {m : Nat} {ns : List Nd} (hm : m < 1000000) (h : smallS m ns = true) : Tame ns := by
  simp only [smallS, Bool.and_eq_true, decide_eq_true_eq, List.all_eq_true] at h
  refine ⟨by omega, fun i => ?_⟩
  by_cases hi : i < ns.length
  · have := (h.2 ns[i] (List.getElem_mem hi)).2
    rw [List.getD_eq_getElem?_getD, List.getElem?_eq_getElem hi]
    simp only [Option.getD_some]; omega
  · rw [List.getD_eq_getElem?_getD, List.getElem?_eq_none (by omega)]
    exact Nat.lt_of_le_of_lt (Nat.zero_le _) (by decide : 0 < 1000000)
def cSmall (m : Nat) : AC := fun args K k => ∃ ns root, args = [treeV ns root] ∧ k (.ret (.p (.bool (smallS m ns)))) K
theorem small7_ok : COk 11 (cSmall 400) := by
  rintro args K k ⟨ns, root, rfl, hk⟩
  refine frame0P g0_ok 19 rfl fun Q hr => ?_
  conv => whnf
  refine two_dec (fun h => ?_) (fun h => ?_)
  · have h : ¬ ns.length ≤ 400 := by have h : (ns.length : Int) > 400 := h; omega
    rw [show smallS 400 ns = false by simp [smallS, h]] at hk
    conv => whnf
    exact hr _ _ rfl hk
  have h : ns.length ≤ 400 := by have h : ¬ (ns.length : Int) > 400 := h; omega
  conv => whnf
  refine loop_up (ι := Nat) [1] (fun i => [(3, intV i)]) (fun _ => []) (fun i => i ≤ ns.length ∧ (ns.drop i).all (fun n => decide (n.kids.length ≤ 400) && decide (n.tx.length ≤ 200)) = smallS 400 ns) (fun i => ns.length - i) 0 ⟨AV.le_refl _, trivial⟩ trivial ⟨Nat.zero_le _, by simp [smallS, h]⟩ ?_
  rintro Y hle i ⟨hi, he⟩ ih
  conv => whnf
  refine two_dec (fun h2 => ?_) (fun h2 => ?_)
  · have h2 : i < ns.length := by have h2 : (i : Int) < (ns.length : Int) := h2; omega
    have hw1 := wzz (i := i) (by omega)
    rw [List.drop_eq_getElem_cons h2, List.all_cons] at he
    have e1 : ns[i] = nd ns i := by simp [nd, h2]
    rw [e1] at he
    conv => whnf
    refine ⟨⟨by omega, by omega, rfl⟩, ?_⟩
    conv => whnf
    refine two_dec (fun h3 => ?_) (fun h3 => ?_)
    · have h3 : ¬ (nd ns i).kids.length ≤ 400 := by have h3 : ((nd ns i).kids.length : Int) > 400 := h3; omega
      rw [decide_eq_false h3, Bool.false_and, Bool.false_and] at he
      rw [← he] at hk
      conv => whnf
      exact hr _ _ rfl hk
    have h3 : (nd ns i).kids.length ≤ 400 := by have h3 : ¬ ((nd ns i).kids.length : Int) > 400 := h3; omega
    rw [decide_eq_true h3, Bool.true_and] at he
    conv => whnf
    refine ⟨⟨by omega, by omega, rfl⟩, ?_⟩
    conv => whnf
    refine two_dec (fun h4 => ?_) (fun h4 => ?_)
    · have h4 : ¬ (nd ns i).tx.length ≤ 200 := by have h4 : ((nd ns i).tx.length : Int) > 200 := h4; omega
      rw [decide_eq_false h4, Bool.false_and] at he
      rw [← he] at hk
      conv => whnf
      exact hr _ _ rfl hk
    have h4 : (nd ns i).tx.length ≤ 200 := by have h4 : ¬ ((nd ns i).tx.length : Int) > 200 := h4; omega
    rw [decide_eq_true h4, Bool.true_and] at he
    conv => whnf
    refine hle _ _ (Le.env ?_ ?_) (ih (i + 1) (by omega) ⟨by omega, he⟩)
    · skip
      repeat' (first | exact trivial | ((conv => whnf); first | exact trivial | (refine And.intro (AV.le_refl _) ?_) | (refine And.intro (ABlk.le_refl _) ?_) | (refine And.intro (AV.le_of_eq ?_) ?_; (focus ((first | exact congrArg intV hw1 | fail); done))) | (refine And.intro (ABlk.le_of_eq ?_) ?_; (focus ((first | exact congrArg intV hw1 | fail); done))) | fail) | fail)
    · skip
      repeat' (first | exact trivial | ((conv => whnf); first | exact trivial | (refine And.intro (AV.le_refl _) ?_) | (refine And.intro (ABlk.le_refl _) ?_) | (refine And.intro (AV.le_of_eq ?_) ?_; (focus ((first | fail | fail); done))) | (refine And.intro (ABlk.le_of_eq ?_) ?_; (focus ((first | fail | fail); done))) | fail) | fail)
  · obtain rfl : i = ns.length := by have h2 : ¬ (i : Int) < (ns.length : Int) := h2; omega
    rw [List.drop_length, List.all_nil] at he
    rw [← he] at hk
    conv => whnf
    exact hr _ _ rfl hk
def pr1 : List Nd := [⟨5, 1, 14, [120], []⟩, ⟨21, 1, 29, [], []⟩, ⟨7, 0, 25, [120], [1]⟩, ⟨6, 0, 12, [], [2]⟩, ⟨3, 0, 0, [109, 97, 105, 110], [0, 3]⟩, ⟨1, 0, 0, [], [4]⟩]
def pr2 : List Nd := [⟨6, 0, 9, [], []⟩, ⟨3, 0, 0, [102], [0]⟩, ⟨1, 0, 0, [], [1]⟩]
def pr3 : List Nd := [⟨20, 1, 18, [], []⟩, ⟨7, 0, 14, [121], [0]⟩, ⟨6, 0, 12, [], [1]⟩, ⟨3, 0, 0, [109, 97, 105, 110], [2]⟩, ⟨1, 0, 0, [], [3]⟩]
theorem pr1_eq : proS [112, 114, 111, 99, 32, 109, 97, 105, 110, 40, 41, 32, 123, 32, 118, 97, 114, 32, 120, 32, 105, 110, 116, 59, 32, 120, 32, 61, 32, 116, 114, 117, 101, 59, 32, 125] = .ok pr1 5 1 := by kernel_rfl
theorem pr2_eq : proS [112, 114, 111, 99, 32, 102, 40, 41, 32, 123, 32, 125] = .ok pr2 2 1 := by kernel_rfl
theorem pr3_eq : proS [112, 114, 111, 99, 32, 109, 97, 105, 110, 40, 41, 32, 123, 32, 121, 32, 61, 32, 49, 59, 32, 125] = .ok pr3 4 1 := by kernel_rfl
theorem ck1_eq : checkTree pr1 5 = (2, 5) := by kernel_rfl
theorem ck2_eq : checkTree pr2 2 = (2, 11) := by kernel_rfl
theorem ck3_eq : checkTree pr3 4 = (1, 3) := by kernel_rfl
theorem pr1_tame : Tame pr1 := small_tame (m := 400) (by decide) (by kernel_rfl)
theorem pr2_tame : Tame pr2 := small_tame (m := 400) (by decide) (by kernel_rfl)
theorem pr3_tame : Tame pr3 := small_tame (m := 400) (by decide) (by kernel_rfl)
def gS7 : AG := gput 35 (cTop proS) (gput 36 cCheck g0)
theorem gS7_ok : GOk Tryz.prog gS7 := gput_ok Program_ok (gput_ok check_ok g0_ok)
def cShown7 : AC := fun args K k => args = [] ∧ k (.ret (.p (.bool true))) K
theorem shown7_ok : COk 10 cShown7 := by
  rintro args K k ⟨rfl, hk⟩
  refine frame0P gS7_ok 19 rfl fun Q hr => ?_
  conv => whnf
  refine ⟨_, rfl, by decide, ?_⟩
  rw [pr1_eq]
  conv => whnf
  refine ⟨_, rfl, by decide, ?_⟩
  rw [pr2_eq]
  conv => whnf
  refine ⟨_, rfl, by decide, ?_⟩
  rw [pr3_eq]
  conv => whnf
  refine ⟨pr1, 5, rfl, pr1_tame, ?_⟩
  rw [ck1_eq]
  conv => whnf
  refine ⟨pr2, 2, rfl, pr2_tame, ?_⟩
  rw [ck2_eq]
  conv => whnf
  refine ⟨pr3, 4, rfl, pr3_tame, ?_⟩
  rw [ck3_eq]
  conv => whnf
  repeat
    (refine ⟨⟨by decide, by decide, rfl⟩, ?_⟩
     conv => whnf)
  exact hr _ _ rfl hk
end Go.Proofs.YtkomdppjelnpdaaGreatDoor

namespace Go.Proofs.YtkomdppjelnpdaaGreatDoor
open Go.AE Go.Ru
set_option maxRecDepth 100000
def eOwner : AC := fun args K k => ∃ ns root i v, args = [treeV ns root, intV i] ∧ Tame ns ∧ ownerT ns root i = v ∧ k (.ret (intV v)) K
theorem eOwner_ok : COk 14 eOwner := by
  rintro args K k ⟨ns, root, i, v, h1, h2, rfl, h3⟩
  exact owner_ok args K k ⟨ns, root, i, h1, h2, h3⟩
def eLookup : AC := fun args K k => ∃ ns root i name v, args = [treeV ns root, intV i, .p (.str name)] ∧ Tame ns ∧ lookupT ns root i name = v ∧ k (.ret (intV v)) K
theorem eLookup_ok : COk 15 eLookup := by
  rintro args K k ⟨ns, root, i, name, v, h1, h2, rfl, h3⟩
  exact lookup_ok args K k ⟨ns, root, i, name, h1, h2, h3⟩
def eRight : AC := fun args K k => ∃ ns root v, args = [treeV ns root] ∧ Tame ns ∧ rightS ns root = v ∧ k (.ret (.p (.bool v))) K
theorem eRight_ok : COk 12 eRight := by
  rintro args K k ⟨ns, root, v, h1, h2, rfl, h3⟩
  exact right_ok args K k ⟨ns, root, h1, h2.len, h2.tx, h3⟩
def eParents : AC := fun args K k => ∃ ns root, args = [treeV ns root] ∧ List.length ns < 1000000 ∧ soundS ns root = true ∧ k (.ret (.p (.sl 1 ns.length (rowF (parF ns root))))) K
theorem eParents_ok : COk 13 eParents := by
  rintro args K k ⟨ns, root, h1, h2, hs, h3⟩
  exact parents_ok args K k ⟨ns, root, h1, h2, by simp only [parV, hs]; exact h3⟩
def eSmall (m : Nat) : AC := fun args K k => ∃ ns root v, args = [treeV ns root] ∧ smallS m ns = v ∧ k (.ret (.p (.bool v))) K
theorem eSmall7_ok : COk 11 (eSmall 400) := by
  rintro args K k ⟨ns, root, v, h1, rfl, h3⟩
  exact small7_ok args K k ⟨ns, root, h1, h3⟩
def eCheck : AC := fun args K k => ∃ ns root a e, args = [treeV ns root] ∧ Tame ns ∧ checkTree ns root = (a, e) ∧ k (.ret (.tup [intV a, intV e])) K
theorem eCheck_ok : COk 36 eCheck := by
  rintro args K k ⟨ns, root, a, e, h1, h2, h3, h4⟩
  exact check_ok args K k ⟨ns, root, h1, h2, by rw [h3]; exact h4⟩
theorem right_sound {ns : List Nd} {root : Int} (h : rightS ns root = true) : soundS ns root = true := by
  simp only [rightS, Bool.and_eq_true] at h; exact h.1.1.1
end Go.Proofs.YtkomdppjelnpdaaGreatDoor

namespace Go.Ru
theorem any_congr' {α : Type} {l : List α} {p q : α → Bool} (h : ∀ x ∈ l, p x = q x) : l.any p = l.any q := by
  induction l with
  | nil => rfl
  | cons a l ih => simp only [List.any_cons, h a (by simp), ih fun x hx => h x (by simp [hx])]
theorem raisesN_more {ns : List Nd} {root : Int} (st : Std ns root) : ∀ (m m' i : Nat), i < m → i < m' → i < ns.length → raisesN ns m i = raisesN ns m' i := by
  intro m
  induction m with
  | zero => intro m' i h; omega
  | succ m ih =>
    intro m' i h1 h2 h3
    cases m' with
    | zero => omega
    | succ m' =>
      simp only [raisesN]
      congr 1
      have : ∀ q ∈ (nd ns i).kids, (exB (nd ns q.toNat).k && raisesN ns m q.toNat) = (exB (nd ns q.toNat).k && raisesN ns m' q.toNat) := fun q hq => by
        obtain ⟨q0, q1, _⟩ := st.kid i h3 q hq
        rw [ih m' q.toNat (by omega) (by omega) (by omega)]
      exact any_congr' this
end Go.Ru
namespace Go.Proofs.YtkomdppjelnpdaaGreatDoor
open Go.AE Go.Ru
set_option maxRecDepth 100000
set_option maxHeartbeats 1000000
def tbox (ns : List Nd) (root : Int) : ABlk := .box 24 [.p (.sl 5 ns.length (nodeF ns)), .p (.int .i64 root)]
def cRaise (m : Nat) : AC := fun args K k => ∃ ns root i, args = [treeV ns root, intV ((i : Nat) : Int)] ∧ Std ns root ∧ i < ns.length ∧ i < m ∧ k (.ret (.p (.bool (raisesN ns m i)))) K
def cRaise1 (m : Nat) : AC := fun args K k => ∃ ns root q X, args = [intV q, .ptr 0 0 1 0 0] ∧ K = tbox ns root :: X ∧ Std ns root ∧ InR ns q ∧ q < m ∧ k (.ret (.p (.bool (exB (nd ns q.toNat).k && raisesN ns m q.toNat)))) (tbox ns root :: X)
theorem raise1_ok {m : Nat} (h : COk 51 (cRaise m)) : COk 84 (cRaise1 m) := by
  rintro args K k ⟨ns, root, q, X, rfl, rfl, st, ⟨h1, h2⟩, hm, hk⟩
  obtain ⟨i, rfl⟩ : ∃ i : Nat, q = (i : Int) := ⟨q.toNat, by omega⟩
  refine frameG (K0 := [tbox ns root]) (X := X) (gput_ok h g0_ok) 19 rfl ⟨rfl, trivial⟩ fun Q hr => ?_
  conv => whnf
  refine ⟨⟨by omega, by omega, rfl⟩, ?_⟩
  conv => whnf
  have hno : exB (nd ns i).k = false → k (.ret (.p (.bool false))) (tbox ns root :: X) := fun hx => by
    rw [Int.toNat_natCast, hx] at hk; exact hk
  have hyes : exB (nd ns i).k = true → k (.ret (.p (.bool (raisesN ns m i)))) (tbox ns root :: X) := fun hx => by
    rw [Int.toNat_natCast, hx] at hk; exact hk
  refine two_dec (fun h3 => ?_) (fun h3 => ?_)
  · have h3 : (nd ns i).k ≥ 20 := h3
    conv => whnf
    refine two_dec (fun h4 => ?_) (fun h4 => ?_)
    · have h4 : (nd ns i).k ≤ 27 := h4
      conv => whnf
      refine ⟨ns, root, i, rfl, st, by omega, by omega, ?_⟩
      conv => whnf
      exact hr _ _ _ _ rfl rfl ⟨rfl, trivial⟩ (AV.le_refl _) (lesK.refl _) (hyes (exB_iff.2 ⟨h3, h4⟩))
    · have h4 : ¬ (nd ns i).k ≤ 27 := h4
      conv => whnf
      exact hr _ _ _ _ rfl rfl ⟨rfl, trivial⟩ (AV.le_refl _) (lesK.refl _) (hno (by simp [exB, h4]))
  · have h3 : ¬ (nd ns i).k ≥ 20 := h3
    conv => whnf
    exact hr _ _ _ _ rfl rfl ⟨rfl, trivial⟩ (AV.le_refl _) (lesK.refl _) (hno (by simp [exB]; omega))
def rsP (ns : List Nd) (m : Nat) (q : Int) : Bool := exB (nd ns q.toNat).k && raisesN ns m q.toNat
def cIdxRs (m : Nat) : AC := fun args K k => ∃ ns root l X, args = [intsV l, .fn 84 [] [.ptr 0 0 1 0 0]] ∧ K = tbox ns root :: X ∧ Std ns root ∧ List.length l < 1000000 ∧ (∀ q ∈ l, InR ns q ∧ q < m) ∧
  k (.ret (intV (firstIx (rsP ns m) 0 l))) (tbox ns root :: X)
theorem idxRs_ok {m : Nat} (h : COk 51 (cRaise m)) : COk 114 (cIdxRs m) := by
  rintro args K k ⟨ns, root, l, X, rfl, rfl, st, hl, hq, hk⟩
  refine frameG (K0 := [tbox ns root]) (X := X) (gput_ok (raise1_ok h) g0_ok) 19 rfl ⟨rfl, trivial⟩ fun Q hr => ?_
  conv => whnf
  refine loop_up (ι := Nat) [0, 1, 7] (fun i => [(8, intV i)]) (fun _ => []) (fun i => i ≤ l.length ∧ firstIx (rsP ns m) i (l.drop i) = firstIx (rsP ns m) 0 l) (fun i => l.length - i) 0 ⟨AV.le_refl _, trivial⟩ trivial ⟨Nat.zero_le _, rfl⟩ ?_
  rintro Y hle i ⟨hi, he⟩ ih
  conv => whnf
  refine two_dec (fun h => ?_) (fun h => ?_)
  · have h : i < l.length := by have h : (i : Int) < (l.length : Int) := h; omega
    have hw1 := wzz (i := i) (by omega)
    rw [List.drop_eq_getElem_cons h] at he
    have e1 : l.getD i 0 = l[i] := by simp [h]
    have hm := hq _ (List.getElem_mem h)
    rw [← e1] at he hm
    conv => whnf
    refine ⟨⟨by omega, by omega, rfl⟩, ?_⟩
    conv => whnf
    refine ⟨ns, root, l.getD i 0, [], rfl, rfl, st, hm.1, hm.2, ?_⟩
    conv => whnf
    refine two_intro (fun h2 => ?_) (fun h2 => ?_)
    · have h2 : rsP ns m (l.getD i 0) = true := h2
      simp only [firstIx, h2] at he
      conv => whnf
      exact hr _ _ _ _ rfl rfl ⟨rfl, trivial⟩ (AV.le_refl _) (lesK.refl _) (he ▸ hk)
    · have h2 : rsP ns m (l.getD i 0) = false := h2
      simp only [firstIx, h2] at he
      conv => whnf
      refine hle _ _ (Le.env ?_ ?_) (ih (i + 1) (by omega) ⟨by omega, he⟩)
      · skip
        repeat' (first | exact trivial | ((conv => whnf); first | exact trivial | (refine And.intro (AV.le_refl _) ?_) | (refine And.intro (ABlk.le_refl _) ?_) | (refine And.intro (AV.le_of_eq ?_) ?_; (focus ((first | exact congrArg intV hw1 | fail); done))) | (refine And.intro (ABlk.le_of_eq ?_) ?_; (focus ((first | exact congrArg intV hw1 | fail); done))) | fail) | fail)
      · skip
        repeat' (first | exact trivial | ((conv => whnf); first | exact trivial | (refine And.intro (AV.le_refl _) ?_) | (refine And.intro (ABlk.le_refl _) ?_) | (refine And.intro (AV.le_of_eq ?_) ?_; (focus ((first | fail | fail); done))) | (refine And.intro (ABlk.le_of_eq ?_) ?_; (focus ((first | fail | fail); done))) | fail) | fail)
  · obtain rfl : i = l.length := by have h : ¬ (i : Int) < (l.length : Int) := h; omega
    rw [List.drop_length] at he
    rw [← he] at hk
    conv => whnf
    exact hr _ _ _ _ rfl rfl ⟨rfl, trivial⟩ (AV.le_refl _) (lesK.refl _) hk
theorem raise_ok : ∀ m, COk 51 (cRaise m) := by
  intro m
  induction m with
  | zero => rintro args K k ⟨ns, root, i, h1, h2, h3, h4, h5⟩; omega
  | succ m ihm =>
  rintro args K k ⟨ns, root, i, rfl, st, hi, him, hk⟩
  have hkid : ∀ q ∈ (nd ns i).kids, InR ns q ∧ q < m := fun q hq => by
    obtain ⟨a, b, _⟩ := st.kid i hi q hq
    exact ⟨⟨a, by omega⟩, by omega⟩
  have hmany := st.many i hi
  have hlen := st.len
  have hyes : riseB (nd ns i) = true → k (.ret (.p (.bool true))) K := fun hx => by
    simp only [raisesN, hx, Bool.true_or] at hk; exact hk
  have hno : riseB (nd ns i) = false → k (.ret (.p (.bool ((nd ns i).kids.any (rsP ns m))))) K := fun hx => by
    simp only [raisesN, hx, Bool.false_or] at hk; exact hk
  refine frame0P (gput_ok (idxRs_ok ihm) g0_ok) 19 rfl fun Q hr => ?_
  conv => whnf
  refine ⟨⟨by omega, by omega, rfl⟩, ?_⟩
  conv => whnf
  repeat' (first | (refine two_eq (fun h => ?_) (fun h => ?_) <;> (conv => whnf)) | (refine ⟨ns, root, (nd ns i).kids, _, rfl, rfl, st, by omega, hkid, ?_⟩; (conv => whnf)) | fail)
  all_goals try (exact hr _ _ rfl (hyes (by clear hr hk hno hyes; simp_all [riseB, nd])))
  all_goals first
    | (refine hr _ _ rfl (ret_eq (hno (by clear hr hk hno hyes; simp_all [riseB, nd])) (congrArg (fun b => AV.p (.bool b)) ?_)); exact (firstIx_any _ _ _).symm)
def eRaise : AC := fun args K k => ∃ ns root i v, args = [treeV ns root, intV ((i : Nat) : Int)] ∧ Std ns root ∧ i < ns.length ∧ raisesF ns i = v ∧ k (.ret (.p (.bool v))) K
theorem eRaise_ok : COk 51 eRaise := by
  rintro args K k ⟨ns, root, i, v, h1, h2, h3, rfl, h4⟩
  exact raise_ok (i + 1) args K k ⟨ns, root, i, h1, h2, h3, by omega, h4⟩
def gRaises : AG := gput 36 eCheck (gput 51 eRaise g0)
theorem gRaises_ok : GOk Tryz.prog gRaises := gput_ok eCheck_ok (gput_ok eRaise_ok g0_ok)
theorem check_right {ns : List Nd} {root a : Int} (h : checkTree ns root = (a, 0)) : rightS ns root = true := by
  cases hr : rightS ns root with
  | true => rfl
  | false => simp [checkTree, hr] at h
def eRaises : AC := fun args K k => ∃ ns root i v, args = [treeV ns root, intV i] ∧ Tame ns ∧ raisesT ns root i = v ∧ k (.ret (.p (.bool v))) K
theorem raises_ok : COk 20 eRaises := by
  rintro args K k ⟨ns, root, i, v, rfl, ta, rfl, hk⟩
  obtain ⟨a, e, hc⟩ : ∃ a e, checkTree ns root = (a, e) := ⟨_, _, rfl⟩
  simp only [raisesT, hc] at hk
  refine frame0P gRaises_ok 19 rfl fun Q hr => ?_
  conv => whnf
  refine ⟨ns, root, a, e, rfl, ta, hc, ?_⟩
  conv => whnf
  refine two_ne (fun he => ?_) (fun he => ?_)
  · have he : e ≠ 0 := he
    conv => whnf
    exact hr _ _ rfl (by rw [beq_eq_false_iff_ne.2 he] at hk; exact hk)
  have he : e = 0 := he
  subst he
  have rt := right_of (check_right hc)
  rw [beq_self_eq_true, Bool.true_and] at hk
  conv => whnf
  refine two_dec (fun h0 => ?_) (fun h0 => ?_)
  · have h0 : i < 0 := h0
    conv => whnf
    exact hr _ _ rfl (by rw [decide_eq_false (by omega : ¬ 0 ≤ i)] at hk; exact hk)
  have h0 : ¬ i < 0 := h0
  rw [decide_eq_true (by omega : 0 ≤ i), Bool.true_and] at hk
  conv => whnf
  refine two_dec (fun h1 => ?_) (fun h1 => ?_)
  · have h1 : i ≥ (ns.length : Int) := h1
    conv => whnf
    exact hr _ _ rfl (by rw [decide_eq_false (by omega : ¬ i < (ns.length : Int))] at hk; exact hk)
  have h1 : ¬ i ≥ (ns.length : Int) := h1
  rw [decide_eq_true (by omega : i < (ns.length : Int)), Bool.true_and] at hk
  obtain ⟨j, rfl⟩ : ∃ j : Nat, i = (j : Int) := ⟨i.toNat, by omega⟩
  rw [Int.toNat_natCast] at hk
  conv => whnf
  refine ⟨⟨by omega, by omega, rfl⟩, ?_⟩
  conv => whnf
  have hE : ∀ {b : Bool}, (stB (nd ns j).k || exB (nd ns j).k) = b → (b = true → k (.ret (.p (.bool (raisesF ns j)))) K) ∧ (b = false → k (.ret (.p (.bool false))) K) := fun {b} hb => by
    rw [hb] at hk
    exact ⟨fun e => by rw [e] at hk; exact hk, fun e => by rw [e] at hk; exact hk⟩
  repeat' (first | (refine two_dec (fun h => ?_) (fun h => ?_) <;> (conv => whnf)) | (refine ⟨ns, root, j, _, rfl, rt.toStd, by omega, rfl, ?_⟩; (conv => whnf)) | fail)
  all_goals first
    | (exact hr _ _ rfl ((hE rfl).1 (by clear hr hk hE; simp_all [stB, exB, nd])))
    | (exact hr _ _ rfl ((hE rfl).2 (by clear hr hk hE; simp_all [stB, exB, nd] <;> omega)))
end Go.Proofs.YtkomdppjelnpdaaGreatDoor

namespace Go.Ru
def Inn (ns : List Nd) (p j : Nat) : Prop := lowS ns p < (j : Int) ∧ j ≤ p ∧ stB (nd ns j).k = true
section
variable {ns : List Nd} {root : Int} (rt : RightT ns root)
include rt
theorem RightT.kidk {j : Nat} (hj : j < ns.length) {q : Int} (hq : q ∈ (nd ns j).kids) :
    let k := (nd ns j).k
    let x := (nd ns q.toNat).k
    (k = 1 ∧ (x = 2 ∨ x = 3)) ∨ (k = 3 ∧ (x = 4 ∨ x = 5 ∨ x = 6)) ∨ (k = 6 ∧ stB x = true) ∨ (7 ≤ k ∧ k ≤ 27 ∧ exB x = true) ∨ ((k = 9 ∨ k = 10) ∧ x = 18) ∨ ((k = 11 ∨ k = 12 ∨ k = 16) ∧ x = 6) ∨ (k = 13 ∧ x = 19) :=
  kid_kind (rt.shape j hj) (kinds_mem hq)
theorem RightT.noSt : ∀ (j : Nat), j < ns.length → (nd ns j).k = 2 ∨ (nd ns j).k = 4 ∨ (nd ns j).k = 5 ∨ 18 ≤ (nd ns j).k → ∀ x : Nat, lowS ns j < x → x ≤ j → stB (nd ns x).k = false := by
  intro j
  induction j using Nat.strongRecOn with
  | _ j ih =>
    intro hj hk x h1 h2
    by_cases e : x = j
    · subst e
      cases hs : stB (nd ns x).k with
      | false => rfl
      | true => have := stB_iff.1 hs; omega
    · obtain ⟨q, hq, g0, g1, g2⟩ := rt.tile j hj (x : Int) h1 (by omega)
      obtain ⟨q0, q1, _⟩ := rt.kid j hj q hq
      have := rt.kidk hj hq
      simp only at this
      refine ih q.toNat (by omega) (by omega) ?_ x g1 (by omega)
      have hx := @exB_iff (nd ns q.toNat).k
      rcases this with h | h | h | h | h | h | h
      · omega
      · omega
      · omega
      · have := hx.1 h.2.2; omega
      · omega
      · omega
      · omega
theorem RightT.inn {p j : Nat} (hp : p < ns.length) : Inn ns p j ↔ (j = p ∧ stB (nd ns p).k = true) ∨ ∃ q ∈ (nd ns p).kids, Inn ns q.toNat j := by
  constructor
  · rintro ⟨h1, h2, h3⟩
    by_cases e : j = p
    · subst e; exact .inl ⟨rfl, h3⟩
    · obtain ⟨q, hq, g0, g1, g2⟩ := rt.tile p hp (j : Int) h1 (by omega)
      exact .inr ⟨q, hq, g1, by omega, h3⟩
  · rintro (⟨rfl, h⟩ | ⟨q, hq, h1, h2, h3⟩)
    · exact ⟨(rt.self j hp).2, Nat.le_refl _, h⟩
    · obtain ⟨q0, q1, q2⟩ := rt.kid p hp q hq
      exact ⟨by omega, by omega, h3⟩
theorem RightT.noInn {p : Nat} (hp : p < ns.length) (hk : (nd ns p).k = 2 ∨ (nd ns p).k = 4 ∨ (nd ns p).k = 5 ∨ 18 ≤ (nd ns p).k) {j : Nat} : ¬ Inn ns p j := fun ⟨h1, h2, h3⟩ => by
  rw [rt.noSt p hp hk j h1 h2] at h3; cases h3
theorem RightT.innApart {p : Nat} (hp : p < ns.length) {q q' : Int} (hq : q ∈ (nd ns p).kids) (hq' : q' ∈ (nd ns p).kids) {j : Nat} (h : Inn ns q.toNat j) (h' : Inn ns q'.toNat j) : q = q' := by
  obtain ⟨a1, a2, _⟩ := h
  obtain ⟨b1, b2, _⟩ := h'
  obtain ⟨q0, _, _⟩ := rt.kid p hp q hq
  obtain ⟨q0', _, _⟩ := rt.kid p hp q' hq'
  rcases Int.lt_trichotomy q q' with h | h | h
  · have := rt.apart p hp q hq q' hq' h; omega
  · exact h
  · have := rt.apart p hp q' hq' q hq h; omega
theorem RightT.innKid {p : Nat} (hp : p < ns.length) {q : Int} (hq : q ∈ (nd ns p).kids) : ¬ Inn ns q.toNat p := fun ⟨_, h2, _⟩ => by
  obtain ⟨q0, q1, _⟩ := rt.kid p hp q hq
  omega
theorem RightT.kids11 {p : Nat} (hp : p < ns.length) (hk : (nd ns p).k = 11) : ∃ a b c, (nd ns p).kids = [a, b, c] ∧ exB (nd ns a.toNat).k = true ∧ (nd ns b.toNat).k = 6 ∧ (nd ns c.toNat).k = 6 := by
  have h := rt.shape p hp
  simp only [ShapeOf, hk] at h
  simp at h
  obtain ⟨a, h, ha⟩ := h
  unfold kindsS at h
  match hl : (nd ns p).kids, h with
  | [x, y, z], h => simp at h; exact ⟨x, y, z, rfl, by rw [show (nd ns x.toNat).k = a from h.1]; exact ha, h.2.1, h.2.2⟩
  | [], h => simp at h
  | [_], h => simp at h
  | [_, _], h => simp at h
  | _ :: _ :: _ :: _ :: _, h => simp at h
theorem RightT.kids12 {p : Nat} (hp : p < ns.length) (hk : (nd ns p).k = 12) : ∃ a b, (nd ns p).kids = [a, b] ∧ exB (nd ns a.toNat).k = true ∧ (nd ns b.toNat).k = 6 := by
  have h := rt.shape p hp
  simp only [ShapeOf, hk] at h
  simp at h
  obtain ⟨a, h, ha⟩ := h
  unfold kindsS at h
  match hl : (nd ns p).kids, h with
  | [x, y], h => simp at h; exact ⟨x, y, rfl, by rw [show (nd ns x.toNat).k = a from h.1]; exact ha, h.2⟩
  | [], h => simp at h
  | [_], h => simp at h
  | _ :: _ :: _ :: _, h => simp at h
theorem RightT.kids16 {p : Nat} (hp : p < ns.length) (hk : (nd ns p).k = 16) : ∃ a b, (nd ns p).kids = [a, b] ∧ (nd ns a.toNat).k = 6 ∧ (nd ns b.toNat).k = 6 := by
  have h := rt.shape p hp
  simp only [ShapeOf, hk] at h
  simp at h
  unfold kindsS at h
  match hl : (nd ns p).kids, h with
  | [x, y], h => simp at h; exact ⟨x, y, rfl, h.1, h.2⟩
  | [], h => simp at h
  | [_], h => simp at h
  | _ :: _ :: _ :: _, h => simp at h
theorem RightT.body {p : Nat} (hp : p < ns.length) (hk : (nd ns p).k = 3) : ∃ l b, (nd ns p).kids = l ++ [b] ∧ (nd ns b.toNat).k = 6 ∧ ∀ q ∈ l, (nd ns q.toNat).k = 4 ∨ (nd ns q.toNat).k = 5 := by
  have h := rt.shape p hp
  simp only [ShapeOf, hk] at h
  simp at h
  obtain ⟨a, b, h, ha, hb⟩ := h
  have hne : (nd ns p).kids ≠ [] := fun e => by simp [kindsS, e] at h
  obtain ⟨l, x, e⟩ : ∃ l x, (nd ns p).kids = l ++ [x] := ⟨_, _, (List.dropLast_concat_getLast hne).symm⟩
  have h : (l.map fun q => (nd ns q.toNat).k) ++ [(nd ns x.toNat).k] = (a ++ b) ++ [6] := by
    have : kindsS ns (nd ns p) = (l.map fun q => (nd ns q.toNat).k) ++ [(nd ns x.toNat).k] := by simp only [kindsS, e, List.map_append, List.map_cons, List.map_nil]; rfl
    rw [← this, h, List.append_assoc]
  obtain ⟨h1, h2⟩ := List.append_inj' h rfl
  refine ⟨l, x, e, by simpa using h2, fun q hq => ?_⟩
  have : (nd ns q.toNat).k ∈ a ++ b := by rw [← h1]; exact List.mem_map.2 ⟨q, hq, rfl⟩
  rcases List.mem_append.1 this with h | h
  · exact .inl (ha _ h)
  · exact .inr (hb _ h)
end
def succG (g : GN) (y : Int) : Prop := y ∈ g.nx ∨ (g.ra ≠ -1 ∧ y = g.ra)
structure LaidN (ns : List Nd) (T : Int → Prop) (i : Nat) (g g' : GN) : Prop where
  k : g'.k = g.k
  pl : g'.pl = g.pl
  pr : g'.pr = g.pr
  nx : ∀ x ∈ g'.nx, T x
  ra : g'.ra = -1 ∨ T g'.ra
  ra16 : (nd ns i).k = 16 → g'.ra = -1
  rise : (nd ns i).k ≠ 16 → raisesF ns i = true → T g'.ra
  calm : raisesF ns i = false → g'.ra = -1
  two : g'.nx.length = 2 ↔ (nd ns i).k = 11 ∨ (nd ns i).k = 12
  nil : g'.nx.length = 0 ↔ (nd ns i).k = 15
  lt3 : g'.nx.length < 3
structure Laid (ns : List Nd) (at' : Nat → Nat) (S : Nat → Prop) (fo h ex : Int) (G : Nat → GN) (r : Int × (Nat → GN)) : Prop where
  frame : ∀ x, (∀ j, S j → at' j ≠ x) → r.2 x = G x
  laid : ∀ T : Int → Prop, T fo → T h → T ex → (∀ j, S j → T (at' j : Nat)) → T r.1 ∧ ∀ j, S j → LaidN ns T j (G (at' j)) (r.2 (at' j))
  way : ∀ (H : Nat → GN) (D : Int → Prop), D fo → D h → D ex → (∀ j, S j → H (at' j) = r.2 (at' j)) → (∀ j, S j → (∃ y, succG (H (at' j)) y ∧ D y) → D (at' j : Nat)) → D r.1 ∧ ∀ j, S j → D (at' j : Nat)
theorem Laid.nil {ns : List Nd} {at' : Nat → Nat} {S : Nat → Prop} {fo h ex : Int} {G : Nat → GN} (hS : ∀ j, ¬ S j) : Laid ns at' S fo h ex G (fo, G) :=
  ⟨fun _ _ => rfl, fun T h1 _ _ _ => ⟨h1, fun j hj => (hS j hj).elim⟩, fun H D h1 _ _ _ _ => ⟨h1, fun j hj => (hS j hj).elim⟩⟩
theorem Laid.iff {ns : List Nd} {at' : Nat → Nat} {S S' : Nat → Prop} {fo h ex : Int} {G : Nat → GN} {r : Int × (Nat → GN)} (hl : Laid ns at' S fo h ex G r) (e : ∀ j, S j ↔ S' j) : Laid ns at' S' fo h ex G r := by
  have : S = S' := funext fun j => propext (e j)
  exact this ▸ hl
theorem Laid.seq {ns : List Nd} {at' : Nat → Nat} {S S' : Nat → Prop} {fo h ex : Int} {G : Nat → GN} {r r' : Int × (Nat → GN)} (hl : Laid ns at' S fo h ex G r) (hl' : Laid ns at' S' r.1 h ex r.2 r')
    (hd : ∀ j j', S j → S' j' → at' j ≠ at' j') : Laid ns at' (fun j => S j ∨ S' j) fo h ex G r' := by
  refine ⟨fun x hx => ?_, fun T h1 h2 h3 h4 => ?_, fun H D h1 h2 h3 h4 h5 => ?_⟩
  · rw [hl'.frame x fun j hj => hx j (.inr hj), hl.frame x fun j hj => hx j (.inl hj)]
  · obtain ⟨a1, a2⟩ := hl.laid T h1 h2 h3 fun j hj => h4 j (.inl hj)
    obtain ⟨b1, b2⟩ := hl'.laid T a1 h2 h3 fun j hj => h4 j (.inr hj)
    refine ⟨b1, fun j hj => ?_⟩
    rcases hj with hj | hj
    · rw [hl'.frame (at' j) fun j' hj' e => hd j j' hj hj' e.symm]
      exact a2 j hj
    · rw [← hl.frame (at' j) fun j' hj' e => hd j' j hj' hj e]
      exact b2 j hj
  · obtain ⟨a1, a2⟩ := hl.way H D h1 h2 h3 (fun j hj => by rw [h4 j (.inl hj), hl'.frame (at' j) fun j' hj' e => hd j j' hj hj' e.symm]) fun j hj => h5 j (.inl hj)
    obtain ⟨b1, b2⟩ := hl'.way H D a1 h2 h3 (fun j hj => h4 j (.inr hj)) fun j hj => h5 j (.inr hj)
    exact ⟨b1, fun j hj => hj.elim (a2 j) (b2 j)⟩
theorem Laid.node {ns : List Nd} {at' : Nat → Nat} {p : Nat} {S1 S2 : Nat → Prop} {fo h ex fo1 h1 fo2 h2 : Int} {G : Nat → GN} {r1 r2 : Int × (Nat → GN)} {nx : List Int} {ra b : Int}
    (L1 : Laid ns at' S1 fo1 h1 ex G r1) (L2 : Laid ns at' S2 fo2 h2 ex r1.2 r2)
    (d12 : ∀ j j', S1 j → S2 j' → at' j ≠ at' j') (d1 : ∀ j, S1 j → at' j ≠ at' p) (d2 : ∀ j, S2 j → at' j ≠ at' p)
    (hT : ∀ T : Int → Prop, T fo → T h → T ex → T (at' p : Nat) → (T fo1 ∧ T h1 ∧ T fo2 ∧ T h2) ∧ (T r1.1 → T r2.1 → T b ∧ ∀ x ∈ nx, T x))
    (hra : (ra = -1 ∨ ra = h) ∧ ((nd ns p).k = 16 → ra = -1) ∧ ((nd ns p).k ≠ 16 → raisesF ns p = true → ra = h) ∧ (raisesF ns p = false → ra = -1))
    (hn : (nx.length = 2 ↔ (nd ns p).k = 11 ∨ (nd ns p).k = 12) ∧ (nx.length = 0 ↔ (nd ns p).k = 15) ∧ nx.length < 3)
    (hD : ∀ D : Int → Prop, D fo → D h → D ex → (D fo1 → D h1 → D r1.1) → (D fo2 → D h2 → D r2.1) → ((∃ y, (y ∈ nx ∨ (ra ≠ -1 ∧ y = ra)) ∧ D y) → D (at' p : Nat)) → D (at' p : Nat) ∧ D b ∧ D fo1 ∧ D h1 ∧ D fo2 ∧ D h2) :
    Laid ns at' (fun j => j = p ∨ S1 j ∨ S2 j) fo h ex G (b, setG r2.2 (at' p) nx ra) := by
  have hset : ∀ x, x ≠ at' p → setG r2.2 (at' p) nx ra x = r2.2 x := fun x hx => by simp only [setG, if_neg hx]
  have hGp : r2.2 (at' p) = G (at' p) := by
    rw [L2.frame (at' p) fun j hj => d2 j hj, L1.frame (at' p) fun j hj => d1 j hj]
  refine ⟨fun x hx => ?_, fun T t1 t2 t3 t4 => ?_, fun H D t1 t2 t3 t4 t5 => ?_⟩
  · simp only
    rw [hset x fun e => hx p (.inl rfl) e.symm, L2.frame x fun j hj => hx j (.inr (.inr hj)), L1.frame x fun j hj => hx j (.inr (.inl hj))]
  · obtain ⟨⟨c1, c2, c3, c4⟩, c5⟩ := hT T t1 t2 t3 (t4 p (.inl rfl))
    obtain ⟨a1, a2⟩ := L1.laid T c1 c2 t3 fun j hj => t4 j (.inr (.inl hj))
    obtain ⟨b1, b2⟩ := L2.laid T c3 c4 t3 fun j hj => t4 j (.inr (.inr hj))
    obtain ⟨c6, c7⟩ := c5 a1 b1
    refine ⟨c6, fun j hj => ?_⟩
    rcases hj with rfl | hj | hj
    · have e : setG r2.2 (at' j) nx ra (at' j) = ⟨(G (at' j)).k, (G (at' j)).pl, (G (at' j)).pr, nx, ra⟩ := by simp only [setG, if_pos, hGp]
      simp only
      rw [e]
      refine ⟨rfl, rfl, rfl, c7, ?_, hra.2.1, fun g1 g2 => ?_, hra.2.2.2, hn.1, hn.2.1, hn.2.2⟩
      · rcases hra.1 with e | e
        · exact .inl e
        · exact .inr (by simp only; rw [e]; exact t2)
      · simp only
        rw [hra.2.2.1 g1 g2]; exact t2
    · simp only
      rw [hset _ (d1 j hj), L2.frame (at' j) fun j' hj' e => d12 j j' hj hj' e.symm]
      exact a2 j hj
    · simp only
      rw [hset _ (d2 j hj), ← L1.frame (at' j) fun j' hj' e => d12 j' j hj' hj e]
      exact b2 j hj
  · simp only at t4
    have e1 : ∀ j, S1 j → H (at' j) = r1.2 (at' j) := fun j hj => by
      rw [t4 j (.inr (.inl hj)), hset _ (d1 j hj), L2.frame (at' j) fun j' hj' e => d12 j j' hj hj' e.symm]
    have e2 : ∀ j, S2 j → H (at' j) = r2.2 (at' j) := fun j hj => by
      rw [t4 j (.inr (.inr hj)), hset _ (d2 j hj)]
    have w1 := L1.way H D
    have w2 := L2.way H D
    have hp : (∃ y, (y ∈ nx ∨ (ra ≠ -1 ∧ y = ra)) ∧ D y) → D (at' p : Nat) := fun ⟨y, hy, hd⟩ => t5 p (.inl rfl) ⟨y, by
      rw [t4 p (.inl rfl)]
      simpa only [succG, setG, if_pos] using hy, hd⟩
    obtain ⟨g1, g2, g3, g4, g5, g6⟩ := hD D t1 t2 t3 (fun a b => (w1 a b t3 e1 fun j hj => t5 j (.inr (.inl hj))).1) (fun a b => (w2 a b t3 e2 fun j hj => t5 j (.inr (.inr hj))).1) hp
    have v1 := w1 g3 g4 t3 e1 fun j hj => t5 j (.inr (.inl hj))
    have v2 := w2 g5 g6 t3 e2 fun j hj => t5 j (.inr (.inr hj))
    refine ⟨g2, fun j hj => ?_⟩
    rcases hj with rfl | hj | hj
    · exact g1
    · exact v1.2 j hj
    · exact v2.2 j hj
theorem kidsS_pair {out : List Nat} (ho : szOk out) : ∀ (l : List Int) (last : Int) (size : Nat) (c : Nat), last < out.length → kidsS out l last size = some c → l.Pairwise (fun a c => c < a) := by
  intro l
  induction l with
  | nil => intro _ _ _ _ _; exact List.Pairwise.nil
  | cons k r ih =>
    intro last size c h1 h
    simp only [kidsS] at h
    split at h
    case h_2 => simp at h
    rename_i hb
    simp only [Bool.and_eq_true, beq_iff_eq, decide_eq_true_eq] at hb
    obtain ⟨rfl, hk⟩ := hb
    have := ho k.toNat (by omega)
    refine List.pairwise_cons.2 ⟨fun x hx => ?_, ih _ _ c (by omega) h⟩
    have := kidsS_mem ho r _ _ c (by omega) h x hx
    omega
theorem rev_pair {ns : List Nd} {root : Int} (h : soundS ns root = true) {j : Nat} (hj : j < ns.length) : (nd ns j).kids.reverse.Pairwise (fun a c => c < a) := by
  simp only [soundS, Bool.and_eq_true] at h
  obtain ⟨_, h4⟩ := h
  split at h4
  case h_2 => simp at h4
  rename_i l hl
  obtain ⟨hlen, hok, _⟩ := sizesS_inv ns [] l (fun i hi => by simp at hi) hl
  obtain ⟨_, he⟩ := sizesS_each ns [] l hl
  simp only [List.length_nil, Nat.zero_add] at hlen he
  have hlt : (l.take j).length = j := by rw [List.length_take]; omega
  refine kidsS_pair (out := l.take j) (fun i hi => ?_) _ _ _ _ (by rw [hlt]; omega) (he j hj)
  rw [hlt] at hi
  have := hok i (by omega)
  rw [List.getD_eq_getElem?_getD, List.getElem?_take, if_pos hi, ← List.getD_eq_getElem?_getD]
  exact this
section
variable {ns : List Nd} {root : Int} (rt : RightT ns root) {of : Int → Option Nat} {ex : Int}
include rt
theorem row_laid {m : Nat} (hst : ∀ (p : Nat) (fo h : Int) (G : Nat → GN), 0 ≤ h → p < m → p < ns.length → stB (nd ns p).k = true → (∀ j j', Inn ns p j → Inn ns p j' → atO of j = atO of j' → j = j') → Laid ns (atO of) (Inn ns p) fo h ex G (flStmt ns of ex m p fo h G))
    {b : Nat} (hb : b < ns.length) (hbm : b ≤ m) (hk : (nd ns b).k = 6) (hof : ∀ j j', Inn ns b j → Inn ns b j' → atO of j = atO of j' → j = j') (h : Int) (h0 : 0 ≤ h) :
    ∀ (l : List Int), (∀ q ∈ l, q ∈ (nd ns b).kids) → l.Pairwise (fun a c => c < a) → ∀ (fo : Int) (G : Nat → GN), Laid ns (atO of) (fun j => ∃ q ∈ l, Inn ns q.toNat j) fo h ex G (flRow (flStmt ns of ex m) h l fo G) := by
  intro l
  induction l with
  | nil => intro _ _ fo G; exact Laid.nil fun j hj => by obtain ⟨q, hq, _⟩ := hj; simp at hq
  | cons q l ih =>
    intro hl hp fo G
    have hq := hl q (by simp)
    obtain ⟨q0, q1, _⟩ := rt.kid b hb q hq
    have hin : ∀ j, Inn ns q.toNat j → Inn ns b j := fun j hj => (rt.inn hb).2 (.inr ⟨q, hq, hj⟩)
    have hkq : stB (nd ns q.toNat).k = true := by
      have := rt.kidk hb hq
      simp only at this
      rcases this with h | h | h | h | h | h | h <;> first | exact h.2 | omega
    have h1 := hst q.toNat fo h G h0 (by omega) (by omega) hkq fun j j' hj hj' => hof j j' (hin j hj) (hin j' hj')
    obtain ⟨hp1, hp2⟩ := List.pairwise_cons.1 hp
    have h2 := ih (fun x hx => hl x (by simp [hx])) hp2 (flStmt ns of ex m q.toNat fo h G).1 (flStmt ns of ex m q.toNat fo h G).2
    refine Laid.iff (h1.seq h2 fun j j' hj ⟨q', hq', hj'⟩ e => ?_) fun j => ?_
    · have := hof j j' (hin j hj) ((rt.inn hb).2 (.inr ⟨q', hl q' (by simp [hq']), hj'⟩)) e
      subst this
      have := rt.innApart hb hq (hl q' (by simp [hq'])) hj hj'
      have := hp1 q' hq'
      omega
    · simp
theorem block_laid {m : Nat} (hst : ∀ (p : Nat) (fo h : Int) (G : Nat → GN), 0 ≤ h → p < m → p < ns.length → stB (nd ns p).k = true → (∀ j j', Inn ns p j → Inn ns p j' → atO of j = atO of j' → j = j') → Laid ns (atO of) (Inn ns p) fo h ex G (flStmt ns of ex m p fo h G))
    {b : Nat} (hb : b < ns.length) (hbm : b ≤ m) (hk : (nd ns b).k = 6) (hof : ∀ j j', Inn ns b j → Inn ns b j' → atO of j = atO of j' → j = j') (h : Int) (h0 : 0 ≤ h) (fo : Int) (G : Nat → GN) :
    Laid ns (atO of) (Inn ns b) fo h ex G (flBlock ns of ex m b fo h G) := by
  refine Laid.iff (row_laid rt hst hb hbm hk hof h h0 (nd ns b).kids.reverse (fun q hq => by simpa using hq) (rev_pair (by have := rt.ok; simp only [rightS, Bool.and_eq_true] at this; exact this.1.1.1) hb) fo G) fun j => ?_
  rw [rt.inn hb]
  constructor
  · rintro ⟨q, hq, hj⟩
    exact .inr ⟨q, by simpa using hq, hj⟩
  · rintro (⟨rfl, h⟩ | ⟨q, hq, hj⟩)
    · have := stB_iff.1 h; omega
    · exact ⟨q, by simpa using hq, hj⟩
theorem stmt_laid : ∀ (m p : Nat) (fo h : Int) (G : Nat → GN), 0 ≤ h → p < m → p < ns.length → stB (nd ns p).k = true → (∀ j j', Inn ns p j → Inn ns p j' → atO of j = atO of j' → j = j') → Laid ns (atO of) (Inn ns p) fo h ex G (flStmt ns of ex m p fo h G) := by
  intro m
  induction m with
  | zero => intro p fo h G _ hp; omega
  | succ m ih =>
  intro p fo h G h0 hpm hp hst hof
  have hself : Inn ns p p := (rt.inn hp).2 (.inl ⟨rfl, hst⟩)
  have hup : ∀ q ∈ (nd ns p).kids, ∀ j, Inn ns q.toNat j → Inn ns p j := fun q hq j hj => (rt.inn hp).2 (.inr ⟨q, hq, hj⟩)
  have hdp : ∀ q ∈ (nd ns p).kids, ∀ j, Inn ns q.toNat j → atO of j ≠ atO of p := fun q hq j hj e => by
    have := hof j p (hup q hq j hj) hself e
    subst this
    exact rt.innKid hp hq hj
  have hblk : ∀ q ∈ (nd ns p).kids, (nd ns q.toNat).k = 6 → ∀ (fo h : Int) (G : Nat → GN), 0 ≤ h → Laid ns (atO of) (Inn ns q.toNat) fo h ex G (flRow (flStmt ns of ex m) h (nd ns q.toNat).kids.reverse fo G) := fun q hq hk fo h G h0 => by
    obtain ⟨q0, q1, _⟩ := rt.kid p hp q hq
    exact block_laid rt ih (by omega) (by omega) hk (fun j j' hj hj' => hof j j' (hup q hq j hj) (hup q hq j' hj')) h h0 fo G
  have hra : ∀ {ra : Int}, ra = (if raisesF ns p then h else -1) → (nd ns p).k ≠ 16 → (ra = -1 ∨ ra = h) ∧ ((nd ns p).k = 16 → ra = -1) ∧ ((nd ns p).k ≠ 16 → raisesF ns p = true → ra = h) ∧ (raisesF ns p = false → ra = -1) := fun {ra} e hk => by
    subst e
    cases hr : raisesF ns p <;> simp [hk]
  have hone : ∀ {nx : List Int} {ra : Int}, ra = (if raisesF ns p then h else -1) → (nd ns p).k ≠ 11 → (nd ns p).k ≠ 12 → (nd ns p).k ≠ 16 → (∀ x ∈ nx, x = fo ∨ x = ex) → ((nx.length = 0 ↔ (nd ns p).k = 15) ∧ nx.length < 2) → ((nx = [] → ra = h)) →
      Laid ns (atO of) (Inn ns p) fo h ex G ((atO of p : Nat), setG G (atO of p) nx ra) := fun {nx ra} e k11 k12 k16 hnx hn hr => by
    have N := Laid.node (p := p) (h := h) (fo := fo) (b := (atO of p : Nat)) (nx := nx) (ra := ra) (Laid.nil (ns := ns) (at' := atO of) (S := fun _ => False) (fo := fo) (h := h) (ex := ex) (G := G) fun _ h => h)
      (Laid.nil (ns := ns) (at' := atO of) (S := fun _ => False) (fo := fo) (h := h) (ex := ex) (G := G) fun _ h => h) (fun _ _ h => h.elim) (fun _ h => h.elim) (fun _ h => h.elim)
      (fun T t1 t2 t3 t4 => ⟨⟨t1, t2, t1, t2⟩, fun _ _ => ⟨t4, fun x hx => by rcases hnx x hx with rfl | rfl <;> assumption⟩⟩) (hra e k16) ⟨by simp [k11, k12]; omega, hn.1, by omega⟩
      (fun D t1 t2 t3 _ _ t6 => by
        have : D (atO of p : Nat) := by
          cases nx with
          | nil => exact t6 ⟨h, .inr ⟨by rw [hr rfl]; omega, (hr rfl).symm⟩, t2⟩
          | cons x l => exact t6 ⟨x, .inl (by simp), by rcases hnx x (by simp) with rfl | rfl <;> assumption⟩
        exact ⟨this, this, t1, t2, t1, t2⟩)
    refine Laid.iff N fun j => ?_
    rw [rt.inn hp]
    constructor
    · rintro (rfl | h | h)
      · exact .inl ⟨rfl, hst⟩
      · exact h.elim
      · exact h.elim
    · rintro (⟨rfl, _⟩ | ⟨q, hq, hj⟩)
      · exact .inl rfl
      · have hs := stB_iff.1 hst
        obtain ⟨q0, q1, _⟩ := rt.kid p hp q hq
        have hkd := rt.kidk hp hq
        simp only at hkd
        refine (rt.noInn (p := q.toNat) (by omega) ?_ hj).elim
        have hx := @exB_iff (nd ns q.toNat).k
        rcases hkd with h | h | h | h | h | h | h
        · omega
        · omega
        · omega
        · have := hx.1 h.2.2; omega
        · omega
        · omega
        · omega
  simp only [flStmt]
  by_cases k11 : (nd ns p).k = 11
  · rw [if_pos k11]
    obtain ⟨a, b, c, hks, hka, hkb, hkc⟩ := rt.kids11 hp k11
    rw [hks]
    simp only [List.getD_cons_succ, List.getD_cons_zero]
    have L1 := hblk b (by rw [hks]; simp) hkb fo h G h0
    have L2 := hblk c (by rw [hks]; simp) hkc fo h (flRow (flStmt ns of ex m) h (nd ns b.toNat).kids.reverse fo G).2 h0
    have hbc : b ≠ c := fun e => by
      have := rev_pair (by have := rt.ok; simp only [rightS, Bool.and_eq_true] at this; exact this.1.1.1) hp
      rw [hks] at this
      simp at this
      omega
    have N := Laid.node (p := p) (fo := fo) (h := h) (b := (atO of p : Nat)) (nx := [(flRow (flStmt ns of ex m) h (nd ns b.toNat).kids.reverse fo G).1, (flRow (flStmt ns of ex m) h (nd ns c.toNat).kids.reverse fo (flRow (flStmt ns of ex m) h (nd ns b.toNat).kids.reverse fo G).2).1]) (ra := if raisesF ns p then h else -1) L1 L2
      (fun j j' hj hj' e => by
        have := hof j j' (hup b (by rw [hks]; simp) j hj) (hup c (by rw [hks]; simp) j' hj') e
        subst this
        exact hbc (rt.innApart hp (by rw [hks]; simp) (by rw [hks]; simp) hj hj'))
      (hdp b (by rw [hks]; simp)) (hdp c (by rw [hks]; simp))
      (fun T t1 t2 t3 t4 => ⟨⟨t1, t2, t1, t2⟩, fun a b => ⟨t4, fun x hx => by
        simp only [List.mem_cons, List.not_mem_nil, or_false] at hx
        rcases hx with rfl | rfl <;> assumption⟩⟩)
      (hra rfl (by omega)) ⟨by simp [k11], by simp [k11], by simp⟩
      (fun D t1 t2 t3 t4 t5 t6 => by
        have : D (atO of p : Nat) := t6 ⟨_, .inl (List.mem_cons_self ..), t4 t1 t2⟩
        exact ⟨this, this, t1, t2, t1, t2⟩)
    refine Laid.iff N fun j => ?_
    rw [rt.inn hp, hks]
    have hno : ¬ Inn ns a.toNat j := by
      obtain ⟨q0, q1, _⟩ := rt.kid p hp a (by rw [hks]; simp)
      exact rt.noInn (by omega) (by have := exB_iff.1 hka; omega)
    simp [hno, hst]
  rw [if_neg k11]
  by_cases k12 : (nd ns p).k = 12
  · rw [if_pos k12]
    obtain ⟨a, b, hks, hka, hkb⟩ := rt.kids12 hp k12
    rw [hks]
    simp only [List.getD_cons_succ, List.getD_cons_zero]
    have L1 := hblk b (by rw [hks]; simp) hkb (atO of p : Nat) h G h0
    have N := Laid.node (p := p) (fo := fo) (h := h) (b := (atO of p : Nat)) (nx := [(flRow (flStmt ns of ex m) h (nd ns b.toNat).kids.reverse (atO of p : Nat) G).1, fo]) (ra := if raisesF ns p then h else -1) L1
      (Laid.nil (ns := ns) (at' := atO of) (S := fun _ => False) (fo := fo) (h := h) (ex := ex) fun _ h => h)
      (fun j j' hj hj' => hj'.elim) (hdp b (by rw [hks]; simp)) (fun _ h => h.elim)
      (fun T t1 t2 t3 t4 => ⟨⟨t4, t2, t1, t2⟩, fun a b => ⟨t4, fun x hx => by
        simp only [List.mem_cons, List.not_mem_nil, or_false] at hx
        rcases hx with rfl | rfl <;> assumption⟩⟩)
      (hra rfl (by omega)) ⟨by simp [k12], by simp [k12], by simp⟩
      (fun D t1 t2 t3 t4 t5 t6 => by
        have : D (atO of p : Nat) := t6 ⟨fo, .inl (by simp), t1⟩
        exact ⟨this, this, this, t2, t1, t2⟩)
    refine Laid.iff N fun j => ?_
    rw [rt.inn hp, hks]
    have hno : ¬ Inn ns a.toNat j := by
      obtain ⟨q0, q1, _⟩ := rt.kid p hp a (by rw [hks]; simp)
      exact rt.noInn (by omega) (by have := exB_iff.1 hka; omega)
    simp [hno, hst]
  rw [if_neg k12]
  by_cases k16 : (nd ns p).k = 16
  · rw [if_pos k16]
    obtain ⟨b, c, hks, hkb, hkc⟩ := rt.kids16 hp k16
    rw [hks]
    simp only [List.getD_cons_succ, List.getD_cons_zero]
    have L1 := hblk b (by rw [hks]; simp) hkb fo (atO of p : Nat) G (by omega)
    have L2 := hblk c (by rw [hks]; simp) hkc fo h (flRow (flStmt ns of ex m) (atO of p : Nat) (nd ns b.toNat).kids.reverse fo G).2 h0
    have hbc : b ≠ c := fun e => by
      have := rev_pair (by have := rt.ok; simp only [rightS, Bool.and_eq_true] at this; exact this.1.1.1) hp
      rw [hks] at this
      simp at this
      omega
    have N := Laid.node (p := p) (fo := fo) (h := h) (b := (flRow (flStmt ns of ex m) (atO of p : Nat) (nd ns b.toNat).kids.reverse fo G).1) (nx := [(flRow (flStmt ns of ex m) h (nd ns c.toNat).kids.reverse fo (flRow (flStmt ns of ex m) (atO of p : Nat) (nd ns b.toNat).kids.reverse fo G).2).1]) (ra := -1) L1 L2
      (fun j j' hj hj' e => by
        have := hof j j' (hup b (by rw [hks]; simp) j hj) (hup c (by rw [hks]; simp) j' hj') e
        subst this
        exact hbc (rt.innApart hp (by rw [hks]; simp) (by rw [hks]; simp) hj hj'))
      (hdp b (by rw [hks]; simp)) (hdp c (by rw [hks]; simp))
      (fun T t1 t2 t3 t4 => ⟨⟨t1, t4, t1, t2⟩, fun a b => ⟨a, fun x hx => by
        simp only [List.mem_cons, List.not_mem_nil, or_false] at hx
        rcases hx with rfl; exact b⟩⟩)
      ⟨.inl rfl, fun _ => rfl, fun h => absurd k16 h, fun _ => rfl⟩ ⟨by simp [k16], by simp [k16], by simp⟩
      (fun D t1 t2 t3 t4 t5 t6 => by
        have : D (atO of p : Nat) := t6 ⟨_, .inl (List.mem_cons_self ..), t5 t1 t2⟩
        exact ⟨this, t4 t1 this, t1, this, t1, t2⟩)
    refine Laid.iff N fun j => ?_
    rw [rt.inn hp, hks]
    simp [hst]
  rw [if_neg k16]
  by_cases k14 : (nd ns p).k = 14
  · rw [if_pos k14]
    exact hone rfl k11 k12 k16 (fun x hx => by simp at hx; exact .inr hx) ⟨by simp [k14], by simp⟩ (fun h => by simp at h)
  rw [if_neg k14]
  by_cases k15 : (nd ns p).k = 15
  · rw [if_pos k15]
    refine hone rfl k11 k12 k16 (fun x hx => by simp at hx) ⟨by simp [k15], by simp⟩ fun _ => ?_
    simp [raisesF, raisesN, riseB, k15]
  rw [if_neg k15]
  exact hone rfl k11 k12 k16 (fun x hx => by simp at hx; exact .inl hx) ⟨by simp [k15], by simp⟩ (fun h => by simp at h)
end
end Go.Ru

namespace Go.AE
theorem fsxK.refl (r sz n : Nat) (g : Nat → List PV) (Y : List ABlk) : fsxK r sz n g Y Y := by
  induction Y with
  | nil => trivial
  | cons b Y ih => exact ⟨.inl (.inl (ABlk.le_refl _)), ih⟩
theorem Wk1.fz7 {N : Nat} {b0 b1 b2 b3 b4 b5 b5' b6 : ABlk} {Y : List ABlk} {r ty sz n : Nat} {f : Nat → List AV} {a : AV} (g : Nat → List PV) (hr : nth Y r = some (.arr ty sz 0 n f)) (hg : ∀ i, i < n → f i = pvs (g i))
    (h5 : fsxB (r + 7) sz n g b5 b5') : Wk1 N a (b0 :: b1 :: b2 :: b3 :: b4 :: b5 :: b6 :: Y) a (b0 :: b1 :: b2 :: b3 :: b4 :: b5' :: b6 :: setN Y r .dead) :=
  Wk1.fzx (r := r + 7) g hr hg ⟨.inl (.inl (ABlk.le_refl _)), .inl (.inl (ABlk.le_refl _)), .inl (.inl (ABlk.le_refl _)), .inl (.inl (ABlk.le_refl _)), .inl (.inl (ABlk.le_refl _)), h5, .inl (.inl (ABlk.le_refl _)), fsxK.refl _ _ _ _ _⟩ (AV.le_refl _)
end Go.AE
namespace Go.Proofs.YtkomdppjelnpdaaGreatDoor
open Go.AE Go.Ru
set_option maxRecDepth 100000
set_option maxHeartbeats 1000000
theorem frameZ {G : AG} (hG : GOk Tryz.prog G) (n : Nat) {f : FuncId} {args : List AV} {K0 X : List ABlk} {k : AO → List ABlk → Prop} (hcl : AV.cls K0.length args = true) (hK : clK K0.length K0)
    (h : ∀ Q : AO → List ABlk → Prop, (∀ v K' v' K1 K2, Wk1 K0.length v K' v' (K1 ++ K2) → v'.cl K0.length = true → K1.length = K0.length → clK K0.length K1 → k (.ret v') (K1 ++ X) → Q (.ret v) K') → acall1 T0 G n f args K0 Q) :
    ACalls Tryz.prog f args (K0 ++ X) k := by
  refine (ACalls.frame (K0 := K0) (k := fun ao K1 => k ao (K1 ++ X)) hcl (fun r _ => clK.hp hK r)
    (ACalls.post (k := fun ao K' => ∃ v v' K1 K2, ao = .ret v ∧ Wk1 K0.length v K' v' (K1 ++ K2) ∧ v'.cl K0.length = true ∧ K1.length = K0.length ∧ clK K0.length K1 ∧ k (.ret v') (K1 ++ X)) (call_ok hG n f args _ _ (h _ ?_)) ?_)).mono ?_
  · intro v K' v' K1 K2 h1 h2 h3 h4 h5
    exact ⟨v, v', K1, K2, rfl, h1, h2, h3, h4, h5⟩
  · rintro _ K' ⟨v, v', K1, K2, rfl, h1, h2, h3, h4, h5⟩
    have e : ∀ (K1 L : List ABlk), takeN (K1 ++ L) K1.length = K1 := fun K1 L => by
      induction K1 with
      | nil => exact takeN_zero _
      | cons a l ih => simp only [List.cons_append, List.length_cons, takeN]; rw [ih]
    have e := e K1 K2
    rw [h3] at e
    refine ⟨v', K1 ++ K2, h1, h2, ?_, fun r hr => ?_, ?_⟩
    · simp [h3]
    · rw [hp_append, if_pos (by omega)]; exact clK.hp h4 r
    · show k (.ret v') (takeN _ K0.length ++ X)
      rw [e]; exact h5
  · rintro ao K ⟨K1, rfl, h⟩; exact h
def nxP : List Int → PV
  | [] => .nils
  | a :: l => .sl 1 (l.length + 1) (kidF (a :: l))
def gnF (G : Nat → GN) (i : Nat) : List PV := [.int .i64 (G i).k, .int .i64 (G i).pl, .int .i64 (G i).pr, nxP (G i).nx, .int .i64 (G i).ra]
def gnW (G : Nat → GN) (i : Nat) : List PV := [.int .i64 (G i).k, .int .i64 (G i).pl, .int .i64 (G i).pr, .sl 1 (G i).nx.length (kidF (G i).nx), .int .i64 (G i).ra]
def gnA (n : Nat) (G : Nat → GN) : ABlk := .arr 41 5 0 n (fun i => pvs (gnF G i))
def ofG (of : Int → Option Nat) (κ : MK) : Option AV := match κ with
  | .i q o => if q = .i64 then (match of o with
    | some j => some (intV (j : Int))
    | none => none) else none
  | .s _ => none
def grB (n np : Nat) : ABlk := .box 35 [.slr 5 0 0 n, .slr 6 0 0 np]
def layB (ns : List Nd) (root ex : Int) : ABlk := .box 71 [.p (.sl 5 ns.length (nodeF ns)), .p (.int .i64 root), .ptr 2 0 1 0 0, .mref 3, intV ex]
def stK (ns : List Nd) (root : Int) (n : Nat) (G : Nat → GN) (of : Int → Option Nat) (ex : Int) (np : Nat) (pf : Nat → Int) : List ABlk :=
  [tbox ns root, .box 35 [.p .nils, .p .nils], grB n np, .mp (.int .i64) (ofG of) [], layB ns root ex, gnA n G, rowA np pf]
theorem ofG_cl {of : Int → Option Nat} {n : Nat} : ∀ κ a, ofG of κ = some a → AV.cl n a = true := fun κ a h => by
  unfold ofG at h
  split at h
  · split at h
    · split at h
      · injection h with h; subst h; rfl
      · cases h
    · cases h
  · cases h
theorem stK_cl {ns : List Nd} {root : Int} {n : Nat} {G : Nat → GN} {of : Int → Option Nat} {ex : Int} {np : Nat} {pf : Nat → Int} : clK 7 (stK ns root n G of ex np pf) :=
  ⟨rfl, rfl, rfl, ofG_cl, rfl, fun _ _ => rfl, fun _ _ => rfl, trivial⟩
def OfOk (ns : List Nd) (of : Int → Option Nat) (n p : Nat) : Prop := ∀ i : Nat, lowS ns p < (i : Int) → i ≤ p → stB (nd ns i).k = true → ∃ j, of (i : Int) = some j ∧ j < n
theorem OfOk.kid {ns : List Nd} {root : Int} {of : Int → Option Nat} {n p : Nat} (h : OfOk ns of n p) (rt : RightT ns root) (hp : p < ns.length) {q : Int} (hq : q ∈ (nd ns p).kids) : OfOk ns of n q.toNat := fun i h1 h2 h3 => by
  obtain ⟨q0, q1, q2⟩ := rt.kid p hp q hq
  exact h i (by omega) (by omega) h3
def lpV : AV := .ptr 4 0 1 0 0
def cFst (m : Nat) : AC := fun args K k => ∃ ns root n G of ex np pf p fo h X, args = [lpV, intV ((p : Nat) : Int), intV fo, intV h] ∧ K = stK ns root n G of ex np pf ++ X ∧ RightT ns root ∧ p < ns.length ∧ p < m ∧ stB (nd ns p).k = true ∧ OfOk ns of n p ∧
  k (.ret (intV (flStmt ns of ex m p fo h G).1)) (stK ns root n (flStmt ns of ex m p fo h G).2 of ex np pf ++ X)
def cFbl (m : Nat) : AC := fun args K k => ∃ ns root n G of ex np pf p fo h X, args = [lpV, intV ((p : Nat) : Int), intV fo, intV h] ∧ K = stK ns root n G of ex np pf ++ X ∧ RightT ns root ∧ p < ns.length ∧ p ≤ m ∧ (nd ns p).k = 6 ∧ OfOk ns of n p ∧
  k (.ret (intV (flBlock ns of ex m p fo h G).1)) (stK ns root n (flBlock ns of ex m p fo h G).2 of ex np pf ++ X)
structure FbC where
  j : Nat
  fo : Int
  G : Nat → GN
def eFst (m : Nat) : AC := fun args K k => ∃ (ns : List Nd) (root : Int) (n : Nat) (G : Nat → GN) (of : Int → Option Nat) (ex : Int) (np : Nat) (pf : Nat → Int) (p : Nat) (fo h : Int) (X : List ABlk) (p' : Int) (b : Int) (G' : Nat → GN),
  args = [lpV, intV p', intV fo, intV h] ∧ K = stK ns root n G of ex np pf ++ X ∧ p' = (p : Int) ∧ RightT ns root ∧ p < ns.length ∧ p < m ∧ stB (nd ns p).k = true ∧ OfOk ns of n p ∧ flStmt ns of ex m p fo h G = (b, G') ∧
  k (.ret (intV b)) (stK ns root n G' of ex np pf ++ X)
theorem eFst_ok {m : Nat} (h0 : COk 82 (cFst m)) : COk 82 (eFst m) := by
  rintro args K k ⟨ns, root, n, G, of, ex, np, pf, p, fo, h, X, _, b, G', h1, h2, rfl, rt, h3, h4, h5, h6, h7, h8⟩
  exact h0 args K k ⟨ns, root, n, G, of, ex, np, pf, p, fo, h, X, h1, h2, rt, h3, h4, h5, h6, by rw [h7]; exact h8⟩
theorem fbl_ok {m : Nat} (ihm : COk 82 (cFst m)) : COk 47 (cFbl m) := by
  rintro args K k ⟨ns, root, n, G, of, ex, np, pf, p, fo, h, X, rfl, rfl, rt, hp, hpm, hk6, hof, hk⟩
  refine frameZ (K0 := stK ns root n G of ex np pf) (gput_ok (eFst_ok ihm) g0_ok) 19 rfl stK_cl fun Q hr => ?_
  have hmany := rt.many p hp
  have hlen := rt.len
  obtain ⟨ks, hks⟩ : ∃ ks, (nd ns p).kids = ks := ⟨_, rfl⟩
  rw [hks] at hmany
  have hkid : ∀ q ∈ ks, 0 ≤ q ∧ q < p ∧ stB (nd ns q.toNat).k = true ∧ OfOk ns of n q.toNat := fun q hq => by
    rw [← hks] at hq
    obtain ⟨a, b, _⟩ := rt.kid p hp q hq
    refine ⟨a, b, ?_, hof.kid rt hp hq⟩
    have := rt.kidk hp hq
    simp only at this
    rcases this with h | h | h | h | h | h | h <;> first | exact h.2 | omega
  simp only [flBlock, hks] at hk
  have hksr : (ns.getD p default).kids = ks := hks
  have hwk : IntKind.i64.wrap (((ns.getD p default).kids.length : Int) - 1) = (ks.length : Int) - 1 := by rw [hksr]; exact w64 ⟨by omega, by omega⟩
  conv => whnf
  refine ⟨⟨by omega, by omega, rfl⟩, ?_⟩
  conv => whnf
  refine loop_up (ι := FbC) [0, 1] (fun c => [(3, intV ((c.j : Int) - 1))]) (fun c => [(5, gnA n c.G), (8, .box 3 [intV c.fo])])
    (fun c => c.j ≤ ks.length ∧ flRow (flStmt ns of ex m) h (ks.take c.j).reverse c.fo c.G = flRow (flStmt ns of ex m) h ks.reverse fo G) (fun c => c.j) ⟨ks.length, fo, G⟩
    ⟨AV.le_of_eq (congrArg intV hwk), trivial⟩ ⟨upLe1 rfl (ABlk.le_refl _), upLe1 rfl (ABlk.le_refl _), trivial⟩ ⟨Nat.le_refl _, by simp only [List.take_length]⟩ ?_
  rintro Z hlz ⟨j, fo', G'⟩ ⟨hj, he⟩ ihz
  simp only at hj he
  conv => whnf
  refine two_dec (fun hjj => ?_) (fun hjj => ?_)
  · have hjj : (j : Int) - 1 ≥ 0 := hjj
    obtain ⟨j, rfl⟩ : ∃ i, j = i + 1 := ⟨j - 1, by omega⟩
    obtain ⟨q, hq⟩ : ∃ q, ks.getD j 0 = q := ⟨_, rfl⟩
    have hlt : j < ks.length := by omega
    have htk : (ks.take (j + 1)).reverse = q :: (ks.take j).reverse := by
      rw [List.take_add_one, List.reverse_append, ← hq, List.getD_eq_getElem?_getD, List.getElem?_eq_getElem hlt]
      rfl
    rw [htk] at he
    obtain ⟨b, G2, hst⟩ : ∃ b G2, flStmt ns of ex m q.toNat fo' h G' = (b, G2) := ⟨_, _, rfl⟩
    simp only [flRow, hst] at he
    obtain ⟨q0, q1, q2, q3⟩ := hkid q (by rw [← hq, List.getD_eq_getElem?_getD, List.getElem?_eq_getElem hlt]; exact List.getElem_mem hlt)
    have hqe : (ns.getD p default).kids.getD (((j + 1 : Nat) : Int) - 1).toNat 0 = (q.toNat : Int) := by
      rw [hksr, show (((j + 1 : Nat) : Int) - 1).toNat = j by omega, hq]; omega
    have hjq : IntKind.i64.wrap ((((j + 1 : Nat) : Int) - 1) - 1) = (j : Int) - 1 := by rw [w64 ⟨by omega, by omega⟩]; omega
    have hkl : (((j + 1 : Nat) : Int) - 1) < ((ns.getD p default).kids.length : Int) := by rw [hksr]; omega
    conv => whnf
    refine ⟨⟨by omega, hkl, rfl⟩, ?_⟩
    conv => whnf
    refine ⟨ns, root, n, G', of, ex, np, pf, q.toNat, fo', h, _, _, b, G2, rfl, rfl, hqe, rt, by omega, by omega, q2, q3, hst, ?_⟩
    conv => whnf
    refine hlz _ _ (Le.cutEnv 12 rfl rfl ⟨rfl, rfl, rfl, ofG_cl, rfl, fun _ _ => rfl, fun _ _ => rfl, rfl, rfl, rfl, rfl, rfl, trivial⟩ ?_ ?_) (ihz ⟨j, b, G2⟩ (Nat.lt_succ_self _) ⟨by simp only; omega, he⟩)
    · skip
      repeat' (first | exact trivial | ((conv => whnf); first | exact trivial | (refine And.intro (AV.le_refl _) ?_) | (refine And.intro (ABlk.le_refl _) ?_) | (refine And.intro (AV.le_of_eq ?_) ?_; (focus ((first | exact congrArg intV hjq | fail); done))) | (refine And.intro (ABlk.le_of_eq ?_) ?_; (focus ((first | exact congrArg intV hjq | fail); done))) | fail) | fail)
    · skip
      repeat' (first | exact trivial | ((conv => whnf); first | exact trivial | (refine And.intro (AV.le_refl _) ?_) | (refine And.intro (ABlk.le_refl _) ?_) | (refine And.intro (AV.le_of_eq ?_) ?_; (focus ((first | fail | fail); done))) | (refine And.intro (ABlk.le_of_eq ?_) ?_; (focus ((first | fail | fail); done))) | fail) | fail)
  · have hjj : ¬ (j : Int) - 1 ≥ 0 := hjj
    obtain rfl : j = 0 := by omega
    simp only [List.take_zero, List.reverse_nil, flRow] at he
    rw [← he] at hk
    conv => whnf
    exact hr _ _ _ (stK ns root n G' of ex np pf) _ (Wk1.refl _ _ _) rfl rfl stK_cl hk
theorem updF_eq {f : Nat → List AV} {a i : Nat} {c : List AV} : updF f a c i = if i = a then c else f i := by
  unfold updF
  cases h : Nat.beq i a with
  | true => rw [if_pos (Nat.eq_of_beq_eq_true h)]
  | false => rw [if_neg (fun e => by rw [e] at h; simp at h)]
theorem gn_upd {G : Nat → GN} {j a1 a2 : Nat} {c1 c2 : List AV} {v : AV} {ra : Int} (h1 : a1 = j) (h2 : a2 = j) (hc1 : c1 = [v]) (hc2 : c2 = [intV ra]) (i : Nat) :
    updF (updF (fun i => pvs (gnF G i)) a1 (putCells ((fun i => pvs (gnF G i)) a1) (0 + 3) c1)) a2 (putCells (updF (fun i => pvs (gnF G i)) a1 (putCells ((fun i => pvs (gnF G i)) a1) (0 + 3) c1) a2) (0 + 4) c2) i =
      if i = j then [intV (G j).k, intV (G j).pl, intV (G j).pr, v, intV ra] else pvs (gnF G i) := by
  subst h1 h2 hc1 hc2
  simp only [updF_eq, if_true]
  split
  · rfl
  · rfl
theorem gn_upd' {G : Nat → GN} {j a1 a2 : Nat} {c1 c2 : List AV} {v : AV} {ra : Int} (h1 : a1 = j) (h2 : a2 = j) (hc1 : c1 = [v]) (hc2 : c2 = [intV ra]) (i : Nat) :
    updF (updF (fun i => pvs (gnF G i)) a1 (putCells ((fun i => pvs (gnF G i)) a1) (0 + 4) c2)) a2 (putCells (updF (fun i => pvs (gnF G i)) a1 (putCells ((fun i => pvs (gnF G i)) a1) (0 + 4) c2) a2) (0 + 3) c1) i =
      if i = j then [intV (G j).k, intV (G j).pl, intV (G j).pr, v, intV ra] else pvs (gnF G i) := by
  subst h1 h2 hc1 hc2
  simp only [updF_eq, if_true]
  split
  · rfl
  · rfl
theorem gn_set {n : Nat} {G : Nat → GN} {j : Nat} {nx : List Int} {v : AV} {ra : Int} {f : Nat → List AV} (hv : v = .p (nxP nx)) (hf : ∀ i, i < n → f i = if i = j then [intV (G j).k, intV (G j).pl, intV (G j).pr, v, intV ra] else pvs (gnF G i)) :
    (ABlk.arr 41 5 0 n f).le (gnA n (setG G j nx ra)) := by
  subst hv
  refine ABlk.arr_eq rfl fun i hi => ?_
  rw [hf i hi]
  by_cases e : i = j
  · subst e; simp [gnF, setG, pvs, intV]
  · simp [gnF, setG, e]
theorem gn_fz {n r len : Nat} {g : Nat → List PV} {G : Nat → GN} {j : Nat} {nx : List Int} {v : AV} {ra : Int} {f : Nat → List AV} (hv : v = .slr r 0 0 len) (hx : nxP nx = .sl 1 len g) (hf : ∀ i, f i = if i = j then [intV (G j).k, intV (G j).pl, intV (G j).pr, v, intV ra] else pvs (gnF G i)) :
    ∀ i, i < n → fswL r 1 len g (f i) (pvs (gnF (setG G j nx ra) i)) := fun i _ => by
  subst hv
  rw [hf i]
  by_cases e : i = j
  · subst e
    simp only [if_true, gnF, setG, hx, pvs]
    exact ⟨.inl (AV.le_refl _), .inl (AV.le_refl _), .inl (AV.le_refl _), .inr ⟨rfl, rfl⟩, .inl (AV.le_refl _), trivial⟩
  · simp only [e, if_false, gnF, setG]
    exact ⟨.inl (AV.le_refl _), .inl (AV.le_refl _), .inl (AV.le_refl _), .inl (AV.le_refl _), .inl (AV.le_refl _), trivial⟩
theorem row2 {f : Nat → List AV} {g : Nat → List PV} (h0 : f 0 = pvs (g 0)) (h1 : f 1 = pvs (g 1)) : ∀ i, i < 2 → f i = pvs (g i) := fun i hi => by
  rcases (by omega : i = 0 ∨ i = 1) with rfl | rfl
  · exact h0
  · exact h1
theorem row1 {f : Nat → List AV} {g : Nat → List PV} (h0 : f 0 = pvs (g 0)) : ∀ i, i < 1 → f i = pvs (g i) := fun i hi => by
  obtain rfl : i = 0 := by omega
  exact h0
def eFblM (m : Nat) : AC := fun args K k => ∃ (ns : List Nd) (root : Int) (n : Nat) (G : Nat → GN) (of : Int → Option Nat) (ex : Int) (np : Nat) (pf : Nat → Int) (p : Nat) (fo h : Int) (X : List ABlk) (p' : Int) (b : Int) (G' : Nat → GN),
  args = [lpV, intV p', intV fo, intV h] ∧ K = stK ns root n G of ex np pf ++ X ∧ p' = (p : Int) ∧ RightT ns root ∧ p < ns.length ∧ p ≤ m ∧ (nd ns p).k = 6 ∧ OfOk ns of n p ∧ flBlock ns of ex m p fo h G = (b, G') ∧
  k (.ret (intV b)) (stK ns root n G' of ex np pf ++ X)
theorem fblE_ok {m : Nat} (h0 : COk 82 (cFst m)) : COk 47 (eFblM m) := by
  rintro args K k ⟨ns, root, n, G, of, ex, np, pf, p, fo, h, X, _, b, G', h1, h2, rfl, rt, h3, h4, h5, h6, h7, h8⟩
  exact fbl_ok h0 args K k ⟨ns, root, n, G, of, ex, np, pf, p, fo, h, X, h1, h2, rt, h3, h4, h5, h6, by rw [h7]; exact h8⟩
theorem fst_ok : ∀ m, COk 82 (cFst m) := by
  intro m
  induction m with
  | zero => rintro args K k ⟨ns, root, n, G, of, ex, np, pf, p, fo, h, X, _, _, _, _, h, _⟩; omega
  | succ m ihm =>
  rintro args K k ⟨ns, root, n, G, of, ex, np, pf, p, fo, h, X, rfl, rfl, rt, hp, hpm, hst, hof, hk⟩
  obtain ⟨j, hj, hjn⟩ := hof p (rt.self p hp).2 (Nat.le_refl _) hst
  have hat : atO of p = j := by simp [atO, hj]
  simp only [flStmt, hat] at hk
  have hY : ∀ a, ofG of (.i .i64 (p : Int)) = some a → a = intV (j : Int) := fun a ha => by simp [ofG, hj] at ha; exact ha.symm
  have hN : ofG of (.i .i64 (p : Int)) = none → False := fun hn => by simp [ofG, hj] at hn
  have hlen := rt.len
  have hkd : ∀ q ∈ (nd ns p).kids, (nd ns q.toNat).k = 6 → (q.toNat < ns.length ∧ q.toNat ≤ m ∧ OfOk ns of n q.toNat ∧ q = (q.toNat : Int)) := fun q hq h6 => by
    obtain ⟨q0, q1, _⟩ := rt.kid p hp q hq
    exact ⟨by omega, by omega, hof.kid rt hp hq, by omega⟩
  cases hrf : raisesF ns p with
  | false =>
    rw [hrf] at hk
    by_cases k11 : (nd ns p).k = 11
    · simp only [k11, reduceIte] at hk
      obtain ⟨a, b, c, hks, _, hkb, hkc⟩ := rt.kids11 hp k11
      obtain ⟨b1, G1, hb1⟩ : ∃ b1 G1, flBlock ns of ex m b.toNat fo h G = (b1, G1) := ⟨_, _, rfl⟩
      obtain ⟨b2, G2, hb2⟩ : ∃ b2 G2, flBlock ns of ex m c.toNat fo h G1 = (b2, G2) := ⟨_, _, rfl⟩
      have hk : k (.ret (intV (j : Int))) (stK ns root n (setG G2 j [b1, b2] (-1)) of ex np pf ++ X) := by
        simp only [flBlock] at hb1 hb2
        rw [hks] at hk
        simp only [List.getD_cons_succ, List.getD_cons_zero, hb1, hb2] at hk
        exact hk
      obtain ⟨c1, c2, c3, c4⟩ := hkd b (by rw [hks]; simp) hkb
      obtain ⟨d1, d2, d3, d4⟩ := hkd c (by rw [hks]; simp) hkc
      have hq1 : (ns.getD p default).kids.getD 1 0 = (b.toNat : Int) := by rw [show (ns.getD p default).kids = _ from hks]; exact c4
      have hq2 : (ns.getD p default).kids.getD 2 0 = (c.toNat : Int) := by rw [show (ns.getD p default).kids = _ from hks]; exact d4
      have hl1 : (1 : Int) < ((ns.getD p default).kids.length : Int) := by rw [show (ns.getD p default).kids = _ from hks]; simp
      have hl2 : (2 : Int) < ((ns.getD p default).kids.length : Int) := by rw [show (ns.getD p default).kids = _ from hks]; simp
      refine frameZ (K0 := stK ns root n G of ex np pf) (gput_ok (fblE_ok ihm) (gput_ok eRaise_ok g0_ok)) 19 rfl stK_cl fun Q hr => ?_
      conv => whnf
      refine ⟨⟨by omega, by omega, rfl⟩, ?_⟩
      conv => whnf
      refine ⟨fun av ha => ?_, fun hn => (hN hn).elim⟩
      obtain rfl := hY av ha
      conv => whnf
      repeat ((refine And.intro ?_ ?_); (focus ((conv => whnf); first | done | exact ⟨⟨by omega, by omega, rfl⟩, by conv => whnf⟩ | exact ⟨fun a ha => by obtain rfl := hY a ha; (conv => whnf), fun hn => (hN hn).elim⟩)); (conv => whnf))
      refine ⟨ns, root, p, _, rfl, rt.toStd, hp, hrf, ?_⟩
      conv => whnf
      refine two_eq (fun _ => ?_) (fun h => absurd k11 h)
      conv => whnf
      refine Chk.mk ⟨by decide, hl1, rfl⟩ ?_
      conv => whnf
      refine Chk.mk ⟨by decide, hl2, rfl⟩ ?_
      conv => whnf
      refine ⟨ns, root, n, G, of, ex, np, pf, b.toNat, fo, h, _, _, b1, G1, rfl, rfl, hq1, rt, c1, c2, hkb, c3, hb1, ?_⟩
      conv => whnf
      repeat ((refine And.intro ?_ ?_); (focus ((conv => whnf); first | done | exact ⟨⟨by decide, hl2, rfl⟩, by conv => whnf⟩)); (conv => whnf))
      refine ⟨ns, root, n, G1, of, ex, np, pf, c.toNat, fo, h, _, _, b2, G2, rfl, rfl, hq2, rt, d1, d2, hkc, d3, hb2, ?_⟩
      conv => whnf
      repeat' (first | (refine Chk.mk ⟨rfl, rfl⟩ ?_; (conv => whnf)) | (refine Chk.mk ⟨rfl, Nat.zero_add _, by omega, by omega, rfl⟩ ?_; (conv => whnf)) | ((refine And.intro ?_ ?_); (focus ((conv => whnf); first | done | exact ⟨⟨rfl, Nat.zero_add _, by omega, by omega, rfl⟩, by conv => whnf⟩)); (conv => whnf)) | (refine And.intro ?_ ?_ <;> (conv => whnf)) | fail)
      exact hr _ _ _ (stK ns root n (setG G2 j [b1, b2] (-1)) of ex np pf) _ (Wk1.fz7 (r := 2) (kidF [b1, b2]) rfl (row2 rfl rfl) (.inr ⟨_, _, _, _, _, _, rfl, rfl, gn_fz rfl rfl fun i => gn_upd (Nat.zero_add _) (Nat.zero_add _) rfl rfl i⟩)) rfl rfl stK_cl hk
    · simp only [k11, if_false] at hk
      by_cases k12 : (nd ns p).k = 12
      · simp only [k12, reduceIte] at hk
        obtain ⟨a, b, hks, _, hkb⟩ := rt.kids12 hp k12
        obtain ⟨b1, G1, hb1⟩ : ∃ b1 G1, flBlock ns of ex m b.toNat (j : Int) h G = (b1, G1) := ⟨_, _, rfl⟩
        have hk : k (.ret (intV (j : Int))) (stK ns root n (setG G1 j [b1, fo] (-1)) of ex np pf ++ X) := by
          simp only [flBlock] at hb1
          rw [hks] at hk
          simp only [List.getD_cons_succ, List.getD_cons_zero, hb1] at hk
          exact hk
        obtain ⟨c1, c2, c3, c4⟩ := hkd b (by rw [hks]; simp) hkb
        have hq1 : (ns.getD p default).kids.getD 1 0 = (b.toNat : Int) := by rw [show (ns.getD p default).kids = _ from hks]; exact c4
        have hl1 : (1 : Int) < ((ns.getD p default).kids.length : Int) := by rw [show (ns.getD p default).kids = _ from hks]; simp
        refine frameZ (K0 := stK ns root n G of ex np pf) (gput_ok (fblE_ok ihm) (gput_ok eRaise_ok g0_ok)) 19 rfl stK_cl fun Q hr => ?_
        conv => whnf
        refine ⟨⟨by omega, by omega, rfl⟩, ?_⟩
        conv => whnf
        refine ⟨fun av ha => ?_, fun hn => (hN hn).elim⟩
        obtain rfl := hY av ha
        conv => whnf
        repeat ((refine And.intro ?_ ?_); (focus ((conv => whnf); first | done | exact ⟨⟨by omega, by omega, rfl⟩, by conv => whnf⟩ | exact ⟨fun a ha => by obtain rfl := hY a ha; (conv => whnf), fun hn => (hN hn).elim⟩)); (conv => whnf))
        refine ⟨ns, root, p, _, rfl, rt.toStd, hp, hrf, ?_⟩
        conv => whnf
        refine two_eq (fun h => absurd (show (nd ns p).k = 11 from h) (k11)) (fun _ => ?_)
        conv => whnf
        refine two_eq (fun _ => ?_) (fun h => absurd k12 h)
        conv => whnf
        refine Chk.mk ⟨by decide, hl1, rfl⟩ ?_
        conv => whnf
        refine ⟨ns, root, n, G, of, ex, np, pf, b.toNat, (j : Int), h, _, _, b1, G1, rfl, rfl, hq1, rt, c1, c2, hkb, c3, hb1, ?_⟩
        conv => whnf
        repeat' (first | (refine Chk.mk ⟨rfl, rfl⟩ ?_; (conv => whnf)) | (refine Chk.mk ⟨rfl, Nat.zero_add _, by omega, by omega, rfl⟩ ?_; (conv => whnf)) | ((refine And.intro ?_ ?_); (focus ((conv => whnf); first | done | exact ⟨⟨rfl, Nat.zero_add _, by omega, by omega, rfl⟩, by conv => whnf⟩)); (conv => whnf)) | (refine And.intro ?_ ?_ <;> (conv => whnf)) | fail)
        exact hr _ _ _ (stK ns root n (setG G1 j [b1, fo] (-1)) of ex np pf) _ (Wk1.fz7 (r := 2) (kidF [b1, fo]) rfl (row2 rfl rfl) (.inr ⟨_, _, _, _, _, _, rfl, rfl, gn_fz rfl rfl fun i => gn_upd (Nat.zero_add _) (Nat.zero_add _) rfl rfl i⟩)) rfl rfl stK_cl hk
      simp only [k12, if_false] at hk
      by_cases k16 : (nd ns p).k = 16
      · simp only [k16, reduceIte] at hk
        obtain ⟨b, c, hks, hkb, hkc⟩ := rt.kids16 hp k16
        obtain ⟨b1, G1, hb1⟩ : ∃ b1 G1, flBlock ns of ex m b.toNat fo (j : Int) G = (b1, G1) := ⟨_, _, rfl⟩
        obtain ⟨b2, G2, hb2⟩ : ∃ b2 G2, flBlock ns of ex m c.toNat fo h G1 = (b2, G2) := ⟨_, _, rfl⟩
        have hk : k (.ret (intV b1)) (stK ns root n (setG G2 j [b2] (-1)) of ex np pf ++ X) := by
          simp only [flBlock] at hb1 hb2
          rw [hks] at hk
          simp only [List.getD_cons_succ, List.getD_cons_zero, hb1, hb2] at hk
          exact hk
        obtain ⟨c1, c2, c3, c4⟩ := hkd b (by rw [hks]; simp) hkb
        obtain ⟨d1, d2, d3, d4⟩ := hkd c (by rw [hks]; simp) hkc
        have hq1 : (ns.getD p default).kids.getD 0 0 = (b.toNat : Int) := by rw [show (ns.getD p default).kids = _ from hks]; exact c4
        have hq2 : (ns.getD p default).kids.getD 1 0 = (c.toNat : Int) := by rw [show (ns.getD p default).kids = _ from hks]; exact d4
        have hl1 : (0 : Int) < ((ns.getD p default).kids.length : Int) := by rw [show (ns.getD p default).kids = _ from hks]; simp
        have hl2 : (1 : Int) < ((ns.getD p default).kids.length : Int) := by rw [show (ns.getD p default).kids = _ from hks]; simp
        refine frameZ (K0 := stK ns root n G of ex np pf) (gput_ok (fblE_ok ihm) (gput_ok eRaise_ok g0_ok)) 19 rfl stK_cl fun Q hr => ?_
        conv => whnf
        refine ⟨⟨by omega, by omega, rfl⟩, ?_⟩
        conv => whnf
        refine ⟨fun av ha => ?_, fun hn => (hN hn).elim⟩
        obtain rfl := hY av ha
        conv => whnf
        repeat ((refine And.intro ?_ ?_); (focus ((conv => whnf); first | done | exact ⟨⟨by omega, by omega, rfl⟩, by conv => whnf⟩ | exact ⟨fun a ha => by obtain rfl := hY a ha; (conv => whnf), fun hn => (hN hn).elim⟩)); (conv => whnf))
        refine ⟨ns, root, p, _, rfl, rt.toStd, hp, hrf, ?_⟩
        conv => whnf
        refine two_eq (fun h => absurd (show (nd ns p).k = 11 from h) (k11)) (fun _ => ?_)
        conv => whnf
        refine two_eq (fun h => absurd (show (nd ns p).k = 12 from h) (k12)) (fun _ => ?_)
        conv => whnf
        refine two_eq (fun _ => ?_) (fun h => absurd k16 h)
        conv => whnf
        refine Chk.mk ⟨by decide, hl1, rfl⟩ ?_
        conv => whnf
        refine ⟨ns, root, n, G, of, ex, np, pf, b.toNat, fo, (j : Int), _, _, b1, G1, rfl, rfl, hq1, rt, c1, c2, hkb, c3, hb1, ?_⟩
        conv => whnf
        refine Chk.mk ⟨by decide, hl2, rfl⟩ ?_
        conv => whnf
        refine ⟨ns, root, n, G1, of, ex, np, pf, c.toNat, fo, h, _, _, b2, G2, rfl, rfl, hq2, rt, d1, d2, hkc, d3, hb2, ?_⟩
        conv => whnf
        repeat' (first | (refine Chk.mk ⟨rfl, rfl⟩ ?_; (conv => whnf)) | (refine Chk.mk ⟨rfl, Nat.zero_add _, by omega, by omega, rfl⟩ ?_; (conv => whnf)) | ((refine And.intro ?_ ?_); (focus ((conv => whnf); first | done | exact ⟨⟨rfl, Nat.zero_add _, by omega, by omega, rfl⟩, by conv => whnf⟩)); (conv => whnf)) | (refine And.intro ?_ ?_ <;> (conv => whnf)) | fail)
        exact hr _ _ _ (stK ns root n (setG G2 j [b2] (-1)) of ex np pf) _ (Wk1.fz7 (r := 2) (kidF [b2]) rfl (row1 rfl) (.inr ⟨_, _, _, _, _, _, rfl, rfl, gn_fz rfl rfl fun i => gn_upd (Nat.zero_add _) (Nat.zero_add _) rfl rfl i⟩)) rfl rfl stK_cl hk
      simp only [k16, if_false] at hk
      by_cases k14 : (nd ns p).k = 14
      · simp only [k14, reduceIte] at hk
        refine frameZ (K0 := stK ns root n G of ex np pf) (gput_ok (fblE_ok ihm) (gput_ok eRaise_ok g0_ok)) 19 rfl stK_cl fun Q hr => ?_
        conv => whnf
        refine ⟨⟨by omega, by omega, rfl⟩, ?_⟩
        conv => whnf
        refine ⟨fun av ha => ?_, fun hn => (hN hn).elim⟩
        obtain rfl := hY av ha
        conv => whnf
        repeat ((refine And.intro ?_ ?_); (focus ((conv => whnf); first | done | exact ⟨⟨by omega, by omega, rfl⟩, by conv => whnf⟩ | exact ⟨fun a ha => by obtain rfl := hY a ha; (conv => whnf), fun hn => (hN hn).elim⟩)); (conv => whnf))
        refine ⟨ns, root, p, _, rfl, rt.toStd, hp, hrf, ?_⟩
        conv => whnf
        refine two_eq (fun h => absurd (show (nd ns p).k = 11 from h) (k11)) (fun _ => ?_)
        conv => whnf
        refine two_eq (fun h => absurd (show (nd ns p).k = 12 from h) (k12)) (fun _ => ?_)
        conv => whnf
        refine two_eq (fun h => absurd (show (nd ns p).k = 16 from h) (k16)) (fun _ => ?_)
        conv => whnf
        refine two_eq (fun _ => ?_) (fun h => absurd k14 h)
        conv => whnf
        repeat' (first | (refine Chk.mk ⟨rfl, rfl⟩ ?_; (conv => whnf)) | (refine Chk.mk ⟨rfl, Nat.zero_add _, by omega, by omega, rfl⟩ ?_; (conv => whnf)) | ((refine And.intro ?_ ?_); (focus ((conv => whnf); first | done | exact ⟨⟨rfl, Nat.zero_add _, by omega, by omega, rfl⟩, by conv => whnf⟩)); (conv => whnf)) | (refine And.intro ?_ ?_ <;> (conv => whnf)) | fail)
        exact hr _ _ _ (stK ns root n (setG G j [ex] (-1)) of ex np pf) _ (Wk1.fz7 (r := 2) (kidF [ex]) rfl (row1 rfl) (.inr ⟨_, _, _, _, _, _, rfl, rfl, gn_fz rfl rfl fun i => gn_upd (Nat.zero_add _) (Nat.zero_add _) rfl rfl i⟩)) rfl rfl stK_cl hk
      simp only [k14, if_false] at hk
      by_cases k15 : (nd ns p).k = 15
      · simp only [k15, reduceIte] at hk
        refine frameZ (K0 := stK ns root n G of ex np pf) (gput_ok (fblE_ok ihm) (gput_ok eRaise_ok g0_ok)) 19 rfl stK_cl fun Q hr => ?_
        conv => whnf
        refine ⟨⟨by omega, by omega, rfl⟩, ?_⟩
        conv => whnf
        refine ⟨fun av ha => ?_, fun hn => (hN hn).elim⟩
        obtain rfl := hY av ha
        conv => whnf
        repeat ((refine And.intro ?_ ?_); (focus ((conv => whnf); first | done | exact ⟨⟨by omega, by omega, rfl⟩, by conv => whnf⟩ | exact ⟨fun a ha => by obtain rfl := hY a ha; (conv => whnf), fun hn => (hN hn).elim⟩)); (conv => whnf))
        refine ⟨ns, root, p, _, rfl, rt.toStd, hp, hrf, ?_⟩
        conv => whnf
        refine two_eq (fun h => absurd (show (nd ns p).k = 11 from h) (k11)) (fun _ => ?_)
        conv => whnf
        refine two_eq (fun h => absurd (show (nd ns p).k = 12 from h) (k12)) (fun _ => ?_)
        conv => whnf
        refine two_eq (fun h => absurd (show (nd ns p).k = 16 from h) (k16)) (fun _ => ?_)
        conv => whnf
        refine two_eq (fun h => absurd (show (nd ns p).k = 14 from h) (k14)) (fun _ => ?_)
        conv => whnf
        refine two_eq (fun _ => ?_) (fun h => absurd k15 h)
        conv => whnf
        repeat' (first | (refine Chk.mk ⟨rfl, rfl⟩ ?_; (conv => whnf)) | (refine Chk.mk ⟨rfl, Nat.zero_add _, by omega, by omega, rfl⟩ ?_; (conv => whnf)) | ((refine And.intro ?_ ?_); (focus ((conv => whnf); first | done | exact ⟨⟨rfl, Nat.zero_add _, by omega, by omega, rfl⟩, by conv => whnf⟩)); (conv => whnf)) | (refine And.intro ?_ ?_ <;> (conv => whnf)) | fail)
        exact hr _ _ _ (stK ns root n (setG G j [] (-1)) of ex np pf) _ (Wk1.le (AV.le_refl _) ⟨ABlk.le_refl _, ABlk.le_refl _, ABlk.le_refl _, ABlk.le_refl _, ABlk.le_refl _, gn_set rfl (fun i _ => gn_upd (Nat.zero_add _) (Nat.zero_add _) rfl rfl i), ABlk.le_refl _, lesK.refl _⟩) rfl rfl stK_cl hk
      simp only [k15, if_false] at hk
      refine frameZ (K0 := stK ns root n G of ex np pf) (gput_ok (fblE_ok ihm) (gput_ok eRaise_ok g0_ok)) 19 rfl stK_cl fun Q hr => ?_
      conv => whnf
      refine ⟨⟨by omega, by omega, rfl⟩, ?_⟩
      conv => whnf
      refine ⟨fun av ha => ?_, fun hn => (hN hn).elim⟩
      obtain rfl := hY av ha
      conv => whnf
      repeat ((refine And.intro ?_ ?_); (focus ((conv => whnf); first | done | exact ⟨⟨by omega, by omega, rfl⟩, by conv => whnf⟩ | exact ⟨fun a ha => by obtain rfl := hY a ha; (conv => whnf), fun hn => (hN hn).elim⟩)); (conv => whnf))
      refine ⟨ns, root, p, _, rfl, rt.toStd, hp, hrf, ?_⟩
      conv => whnf
      refine two_eq (fun h => absurd (show (nd ns p).k = 11 from h) (k11)) (fun _ => ?_)
      conv => whnf
      refine two_eq (fun h => absurd (show (nd ns p).k = 12 from h) (k12)) (fun _ => ?_)
      conv => whnf
      refine two_eq (fun h => absurd (show (nd ns p).k = 16 from h) (k16)) (fun _ => ?_)
      conv => whnf
      refine two_eq (fun h => absurd (show (nd ns p).k = 14 from h) (k14)) (fun _ => ?_)
      conv => whnf
      refine two_eq (fun h => absurd (show (nd ns p).k = 15 from h) (k15)) (fun _ => ?_)
      conv => whnf
      repeat' (first | (refine Chk.mk ⟨rfl, rfl⟩ ?_; (conv => whnf)) | (refine Chk.mk ⟨rfl, Nat.zero_add _, by omega, by omega, rfl⟩ ?_; (conv => whnf)) | ((refine And.intro ?_ ?_); (focus ((conv => whnf); first | done | exact ⟨⟨rfl, Nat.zero_add _, by omega, by omega, rfl⟩, by conv => whnf⟩)); (conv => whnf)) | (refine And.intro ?_ ?_ <;> (conv => whnf)) | fail)
      exact hr _ _ _ (stK ns root n (setG G j [fo] (-1)) of ex np pf) _ (Wk1.fz7 (r := 1) (kidF [fo]) rfl (row1 rfl) (.inr ⟨_, _, _, _, _, _, rfl, rfl, gn_fz rfl rfl fun i => gn_upd (Nat.zero_add _) (Nat.zero_add _) rfl rfl i⟩)) rfl rfl stK_cl hk
  | true =>
    rw [hrf] at hk
    by_cases k11 : (nd ns p).k = 11
    · simp only [k11, reduceIte] at hk
      obtain ⟨a, b, c, hks, _, hkb, hkc⟩ := rt.kids11 hp k11
      obtain ⟨b1, G1, hb1⟩ : ∃ b1 G1, flBlock ns of ex m b.toNat fo h G = (b1, G1) := ⟨_, _, rfl⟩
      obtain ⟨b2, G2, hb2⟩ : ∃ b2 G2, flBlock ns of ex m c.toNat fo h G1 = (b2, G2) := ⟨_, _, rfl⟩
      have hk : k (.ret (intV (j : Int))) (stK ns root n (setG G2 j [b1, b2] (h)) of ex np pf ++ X) := by
        simp only [flBlock] at hb1 hb2
        rw [hks] at hk
        simp only [List.getD_cons_succ, List.getD_cons_zero, hb1, hb2] at hk
        exact hk
      obtain ⟨c1, c2, c3, c4⟩ := hkd b (by rw [hks]; simp) hkb
      obtain ⟨d1, d2, d3, d4⟩ := hkd c (by rw [hks]; simp) hkc
      have hq1 : (ns.getD p default).kids.getD 1 0 = (b.toNat : Int) := by rw [show (ns.getD p default).kids = _ from hks]; exact c4
      have hq2 : (ns.getD p default).kids.getD 2 0 = (c.toNat : Int) := by rw [show (ns.getD p default).kids = _ from hks]; exact d4
      have hl1 : (1 : Int) < ((ns.getD p default).kids.length : Int) := by rw [show (ns.getD p default).kids = _ from hks]; simp
      have hl2 : (2 : Int) < ((ns.getD p default).kids.length : Int) := by rw [show (ns.getD p default).kids = _ from hks]; simp
      refine frameZ (K0 := stK ns root n G of ex np pf) (gput_ok (fblE_ok ihm) (gput_ok eRaise_ok g0_ok)) 19 rfl stK_cl fun Q hr => ?_
      conv => whnf
      refine ⟨⟨by omega, by omega, rfl⟩, ?_⟩
      conv => whnf
      refine ⟨fun av ha => ?_, fun hn => (hN hn).elim⟩
      obtain rfl := hY av ha
      conv => whnf
      repeat ((refine And.intro ?_ ?_); (focus ((conv => whnf); first | done | exact ⟨⟨by omega, by omega, rfl⟩, by conv => whnf⟩ | exact ⟨fun a ha => by obtain rfl := hY a ha; (conv => whnf), fun hn => (hN hn).elim⟩)); (conv => whnf))
      refine ⟨ns, root, p, _, rfl, rt.toStd, hp, hrf, ?_⟩
      conv => whnf
      refine two_eq (fun _ => ?_) (fun h => absurd k11 h)
      conv => whnf
      refine Chk.mk ⟨by decide, hl1, rfl⟩ ?_
      conv => whnf
      refine Chk.mk ⟨by decide, hl2, rfl⟩ ?_
      conv => whnf
      refine ⟨ns, root, n, G, of, ex, np, pf, b.toNat, fo, h, _, _, b1, G1, rfl, rfl, hq1, rt, c1, c2, hkb, c3, hb1, ?_⟩
      conv => whnf
      repeat ((refine And.intro ?_ ?_); (focus ((conv => whnf); first | done | exact ⟨⟨by decide, hl2, rfl⟩, by conv => whnf⟩)); (conv => whnf))
      refine ⟨ns, root, n, G1, of, ex, np, pf, c.toNat, fo, h, _, _, b2, G2, rfl, rfl, hq2, rt, d1, d2, hkc, d3, hb2, ?_⟩
      conv => whnf
      repeat' (first | (refine Chk.mk ⟨rfl, rfl⟩ ?_; (conv => whnf)) | (refine Chk.mk ⟨rfl, Nat.zero_add _, by omega, by omega, rfl⟩ ?_; (conv => whnf)) | ((refine And.intro ?_ ?_); (focus ((conv => whnf); first | done | exact ⟨⟨rfl, Nat.zero_add _, by omega, by omega, rfl⟩, by conv => whnf⟩)); (conv => whnf)) | (refine And.intro ?_ ?_ <;> (conv => whnf)) | fail)
      exact hr _ _ _ (stK ns root n (setG G2 j [b1, b2] (h)) of ex np pf) _ (Wk1.fz7 (r := 2) (kidF [b1, b2]) rfl (row2 rfl rfl) (.inr ⟨_, _, _, _, _, _, rfl, rfl, gn_fz rfl rfl fun i => gn_upd (Nat.zero_add _) (Nat.zero_add _) rfl rfl i⟩)) rfl rfl stK_cl hk
    · simp only [k11, if_false] at hk
      by_cases k12 : (nd ns p).k = 12
      · simp only [k12, reduceIte] at hk
        obtain ⟨a, b, hks, _, hkb⟩ := rt.kids12 hp k12
        obtain ⟨b1, G1, hb1⟩ : ∃ b1 G1, flBlock ns of ex m b.toNat (j : Int) h G = (b1, G1) := ⟨_, _, rfl⟩
        have hk : k (.ret (intV (j : Int))) (stK ns root n (setG G1 j [b1, fo] (h)) of ex np pf ++ X) := by
          simp only [flBlock] at hb1
          rw [hks] at hk
          simp only [List.getD_cons_succ, List.getD_cons_zero, hb1] at hk
          exact hk
        obtain ⟨c1, c2, c3, c4⟩ := hkd b (by rw [hks]; simp) hkb
        have hq1 : (ns.getD p default).kids.getD 1 0 = (b.toNat : Int) := by rw [show (ns.getD p default).kids = _ from hks]; exact c4
        have hl1 : (1 : Int) < ((ns.getD p default).kids.length : Int) := by rw [show (ns.getD p default).kids = _ from hks]; simp
        refine frameZ (K0 := stK ns root n G of ex np pf) (gput_ok (fblE_ok ihm) (gput_ok eRaise_ok g0_ok)) 19 rfl stK_cl fun Q hr => ?_
        conv => whnf
        refine ⟨⟨by omega, by omega, rfl⟩, ?_⟩
        conv => whnf
        refine ⟨fun av ha => ?_, fun hn => (hN hn).elim⟩
        obtain rfl := hY av ha
        conv => whnf
        repeat ((refine And.intro ?_ ?_); (focus ((conv => whnf); first | done | exact ⟨⟨by omega, by omega, rfl⟩, by conv => whnf⟩ | exact ⟨fun a ha => by obtain rfl := hY a ha; (conv => whnf), fun hn => (hN hn).elim⟩)); (conv => whnf))
        refine ⟨ns, root, p, _, rfl, rt.toStd, hp, hrf, ?_⟩
        conv => whnf
        refine two_eq (fun h => absurd (show (nd ns p).k = 11 from h) (k11)) (fun _ => ?_)
        conv => whnf
        refine two_eq (fun _ => ?_) (fun h => absurd k12 h)
        conv => whnf
        refine Chk.mk ⟨by decide, hl1, rfl⟩ ?_
        conv => whnf
        refine ⟨ns, root, n, G, of, ex, np, pf, b.toNat, (j : Int), h, _, _, b1, G1, rfl, rfl, hq1, rt, c1, c2, hkb, c3, hb1, ?_⟩
        conv => whnf
        repeat' (first | (refine Chk.mk ⟨rfl, rfl⟩ ?_; (conv => whnf)) | (refine Chk.mk ⟨rfl, Nat.zero_add _, by omega, by omega, rfl⟩ ?_; (conv => whnf)) | ((refine And.intro ?_ ?_); (focus ((conv => whnf); first | done | exact ⟨⟨rfl, Nat.zero_add _, by omega, by omega, rfl⟩, by conv => whnf⟩)); (conv => whnf)) | (refine And.intro ?_ ?_ <;> (conv => whnf)) | fail)
        exact hr _ _ _ (stK ns root n (setG G1 j [b1, fo] (h)) of ex np pf) _ (Wk1.fz7 (r := 2) (kidF [b1, fo]) rfl (row2 rfl rfl) (.inr ⟨_, _, _, _, _, _, rfl, rfl, gn_fz rfl rfl fun i => gn_upd (Nat.zero_add _) (Nat.zero_add _) rfl rfl i⟩)) rfl rfl stK_cl hk
      simp only [k12, if_false] at hk
      by_cases k16 : (nd ns p).k = 16
      · simp only [k16, reduceIte] at hk
        obtain ⟨b, c, hks, hkb, hkc⟩ := rt.kids16 hp k16
        obtain ⟨b1, G1, hb1⟩ : ∃ b1 G1, flBlock ns of ex m b.toNat fo (j : Int) G = (b1, G1) := ⟨_, _, rfl⟩
        obtain ⟨b2, G2, hb2⟩ : ∃ b2 G2, flBlock ns of ex m c.toNat fo h G1 = (b2, G2) := ⟨_, _, rfl⟩
        have hk : k (.ret (intV b1)) (stK ns root n (setG G2 j [b2] (-1)) of ex np pf ++ X) := by
          simp only [flBlock] at hb1 hb2
          rw [hks] at hk
          simp only [List.getD_cons_succ, List.getD_cons_zero, hb1, hb2] at hk
          exact hk
        obtain ⟨c1, c2, c3, c4⟩ := hkd b (by rw [hks]; simp) hkb
        obtain ⟨d1, d2, d3, d4⟩ := hkd c (by rw [hks]; simp) hkc
        have hq1 : (ns.getD p default).kids.getD 0 0 = (b.toNat : Int) := by rw [show (ns.getD p default).kids = _ from hks]; exact c4
        have hq2 : (ns.getD p default).kids.getD 1 0 = (c.toNat : Int) := by rw [show (ns.getD p default).kids = _ from hks]; exact d4
        have hl1 : (0 : Int) < ((ns.getD p default).kids.length : Int) := by rw [show (ns.getD p default).kids = _ from hks]; simp
        have hl2 : (1 : Int) < ((ns.getD p default).kids.length : Int) := by rw [show (ns.getD p default).kids = _ from hks]; simp
        refine frameZ (K0 := stK ns root n G of ex np pf) (gput_ok (fblE_ok ihm) (gput_ok eRaise_ok g0_ok)) 19 rfl stK_cl fun Q hr => ?_
        conv => whnf
        refine ⟨⟨by omega, by omega, rfl⟩, ?_⟩
        conv => whnf
        refine ⟨fun av ha => ?_, fun hn => (hN hn).elim⟩
        obtain rfl := hY av ha
        conv => whnf
        repeat ((refine And.intro ?_ ?_); (focus ((conv => whnf); first | done | exact ⟨⟨by omega, by omega, rfl⟩, by conv => whnf⟩ | exact ⟨fun a ha => by obtain rfl := hY a ha; (conv => whnf), fun hn => (hN hn).elim⟩)); (conv => whnf))
        refine ⟨ns, root, p, _, rfl, rt.toStd, hp, hrf, ?_⟩
        conv => whnf
        refine two_eq (fun h => absurd (show (nd ns p).k = 11 from h) (k11)) (fun _ => ?_)
        conv => whnf
        refine two_eq (fun h => absurd (show (nd ns p).k = 12 from h) (k12)) (fun _ => ?_)
        conv => whnf
        refine two_eq (fun _ => ?_) (fun h => absurd k16 h)
        conv => whnf
        refine Chk.mk ⟨by decide, hl1, rfl⟩ ?_
        conv => whnf
        refine ⟨ns, root, n, G, of, ex, np, pf, b.toNat, fo, (j : Int), _, _, b1, G1, rfl, rfl, hq1, rt, c1, c2, hkb, c3, hb1, ?_⟩
        conv => whnf
        refine Chk.mk ⟨by decide, hl2, rfl⟩ ?_
        conv => whnf
        refine ⟨ns, root, n, G1, of, ex, np, pf, c.toNat, fo, h, _, _, b2, G2, rfl, rfl, hq2, rt, d1, d2, hkc, d3, hb2, ?_⟩
        conv => whnf
        repeat' (first | (refine Chk.mk ⟨rfl, rfl⟩ ?_; (conv => whnf)) | (refine Chk.mk ⟨rfl, Nat.zero_add _, by omega, by omega, rfl⟩ ?_; (conv => whnf)) | ((refine And.intro ?_ ?_); (focus ((conv => whnf); first | done | exact ⟨⟨rfl, Nat.zero_add _, by omega, by omega, rfl⟩, by conv => whnf⟩)); (conv => whnf)) | (refine And.intro ?_ ?_ <;> (conv => whnf)) | fail)
        exact hr _ _ _ (stK ns root n (setG G2 j [b2] (-1)) of ex np pf) _ (Wk1.fz7 (r := 2) (kidF [b2]) rfl (row1 rfl) (.inr ⟨_, _, _, _, _, _, rfl, rfl, gn_fz rfl rfl fun i => gn_upd (Nat.zero_add _) (Nat.zero_add _) rfl rfl i⟩)) rfl rfl stK_cl hk
      simp only [k16, if_false] at hk
      by_cases k14 : (nd ns p).k = 14
      · simp only [k14, reduceIte] at hk
        refine frameZ (K0 := stK ns root n G of ex np pf) (gput_ok (fblE_ok ihm) (gput_ok eRaise_ok g0_ok)) 19 rfl stK_cl fun Q hr => ?_
        conv => whnf
        refine ⟨⟨by omega, by omega, rfl⟩, ?_⟩
        conv => whnf
        refine ⟨fun av ha => ?_, fun hn => (hN hn).elim⟩
        obtain rfl := hY av ha
        conv => whnf
        repeat ((refine And.intro ?_ ?_); (focus ((conv => whnf); first | done | exact ⟨⟨by omega, by omega, rfl⟩, by conv => whnf⟩ | exact ⟨fun a ha => by obtain rfl := hY a ha; (conv => whnf), fun hn => (hN hn).elim⟩)); (conv => whnf))
        refine ⟨ns, root, p, _, rfl, rt.toStd, hp, hrf, ?_⟩
        conv => whnf
        refine two_eq (fun h => absurd (show (nd ns p).k = 11 from h) (k11)) (fun _ => ?_)
        conv => whnf
        refine two_eq (fun h => absurd (show (nd ns p).k = 12 from h) (k12)) (fun _ => ?_)
        conv => whnf
        refine two_eq (fun h => absurd (show (nd ns p).k = 16 from h) (k16)) (fun _ => ?_)
        conv => whnf
        refine two_eq (fun _ => ?_) (fun h => absurd k14 h)
        conv => whnf
        repeat' (first | (refine Chk.mk ⟨rfl, rfl⟩ ?_; (conv => whnf)) | (refine Chk.mk ⟨rfl, Nat.zero_add _, by omega, by omega, rfl⟩ ?_; (conv => whnf)) | ((refine And.intro ?_ ?_); (focus ((conv => whnf); first | done | exact ⟨⟨rfl, Nat.zero_add _, by omega, by omega, rfl⟩, by conv => whnf⟩)); (conv => whnf)) | (refine And.intro ?_ ?_ <;> (conv => whnf)) | fail)
        exact hr _ _ _ (stK ns root n (setG G j [ex] (h)) of ex np pf) _ (Wk1.fz7 (r := 2) (kidF [ex]) rfl (row1 rfl) (.inr ⟨_, _, _, _, _, _, rfl, rfl, gn_fz rfl rfl fun i => gn_upd (Nat.zero_add _) (Nat.zero_add _) rfl rfl i⟩)) rfl rfl stK_cl hk
      simp only [k14, if_false] at hk
      by_cases k15 : (nd ns p).k = 15
      · simp only [k15, reduceIte] at hk
        refine frameZ (K0 := stK ns root n G of ex np pf) (gput_ok (fblE_ok ihm) (gput_ok eRaise_ok g0_ok)) 19 rfl stK_cl fun Q hr => ?_
        conv => whnf
        refine ⟨⟨by omega, by omega, rfl⟩, ?_⟩
        conv => whnf
        refine ⟨fun av ha => ?_, fun hn => (hN hn).elim⟩
        obtain rfl := hY av ha
        conv => whnf
        repeat ((refine And.intro ?_ ?_); (focus ((conv => whnf); first | done | exact ⟨⟨by omega, by omega, rfl⟩, by conv => whnf⟩ | exact ⟨fun a ha => by obtain rfl := hY a ha; (conv => whnf), fun hn => (hN hn).elim⟩)); (conv => whnf))
        refine ⟨ns, root, p, _, rfl, rt.toStd, hp, hrf, ?_⟩
        conv => whnf
        refine two_eq (fun h => absurd (show (nd ns p).k = 11 from h) (k11)) (fun _ => ?_)
        conv => whnf
        refine two_eq (fun h => absurd (show (nd ns p).k = 12 from h) (k12)) (fun _ => ?_)
        conv => whnf
        refine two_eq (fun h => absurd (show (nd ns p).k = 16 from h) (k16)) (fun _ => ?_)
        conv => whnf
        refine two_eq (fun h => absurd (show (nd ns p).k = 14 from h) (k14)) (fun _ => ?_)
        conv => whnf
        refine two_eq (fun _ => ?_) (fun h => absurd k15 h)
        conv => whnf
        repeat' (first | (refine Chk.mk ⟨rfl, rfl⟩ ?_; (conv => whnf)) | (refine Chk.mk ⟨rfl, Nat.zero_add _, by omega, by omega, rfl⟩ ?_; (conv => whnf)) | ((refine And.intro ?_ ?_); (focus ((conv => whnf); first | done | exact ⟨⟨rfl, Nat.zero_add _, by omega, by omega, rfl⟩, by conv => whnf⟩)); (conv => whnf)) | (refine And.intro ?_ ?_ <;> (conv => whnf)) | fail)
        exact hr _ _ _ (stK ns root n (setG G j [] (h)) of ex np pf) _ (Wk1.le (AV.le_refl _) ⟨ABlk.le_refl _, ABlk.le_refl _, ABlk.le_refl _, ABlk.le_refl _, ABlk.le_refl _, gn_set rfl (fun i _ => gn_upd (Nat.zero_add _) (Nat.zero_add _) rfl rfl i), ABlk.le_refl _, lesK.refl _⟩) rfl rfl stK_cl hk
      simp only [k15, if_false] at hk
      refine frameZ (K0 := stK ns root n G of ex np pf) (gput_ok (fblE_ok ihm) (gput_ok eRaise_ok g0_ok)) 19 rfl stK_cl fun Q hr => ?_
      conv => whnf
      refine ⟨⟨by omega, by omega, rfl⟩, ?_⟩
      conv => whnf
      refine ⟨fun av ha => ?_, fun hn => (hN hn).elim⟩
      obtain rfl := hY av ha
      conv => whnf
      repeat ((refine And.intro ?_ ?_); (focus ((conv => whnf); first | done | exact ⟨⟨by omega, by omega, rfl⟩, by conv => whnf⟩ | exact ⟨fun a ha => by obtain rfl := hY a ha; (conv => whnf), fun hn => (hN hn).elim⟩)); (conv => whnf))
      refine ⟨ns, root, p, _, rfl, rt.toStd, hp, hrf, ?_⟩
      conv => whnf
      refine two_eq (fun h => absurd (show (nd ns p).k = 11 from h) (k11)) (fun _ => ?_)
      conv => whnf
      refine two_eq (fun h => absurd (show (nd ns p).k = 12 from h) (k12)) (fun _ => ?_)
      conv => whnf
      refine two_eq (fun h => absurd (show (nd ns p).k = 16 from h) (k16)) (fun _ => ?_)
      conv => whnf
      refine two_eq (fun h => absurd (show (nd ns p).k = 14 from h) (k14)) (fun _ => ?_)
      conv => whnf
      refine two_eq (fun h => absurd (show (nd ns p).k = 15 from h) (k15)) (fun _ => ?_)
      conv => whnf
      repeat' (first | (refine Chk.mk ⟨rfl, rfl⟩ ?_; (conv => whnf)) | (refine Chk.mk ⟨rfl, Nat.zero_add _, by omega, by omega, rfl⟩ ?_; (conv => whnf)) | ((refine And.intro ?_ ?_); (focus ((conv => whnf); first | done | exact ⟨⟨rfl, Nat.zero_add _, by omega, by omega, rfl⟩, by conv => whnf⟩)); (conv => whnf)) | (refine And.intro ?_ ?_ <;> (conv => whnf)) | fail)
      exact hr _ _ _ (stK ns root n (setG G j [fo] (h)) of ex np pf) _ (Wk1.fz7 (r := 1) (kidF [fo]) rfl (row1 rfl) (.inr ⟨_, _, _, _, _, _, rfl, rfl, gn_fz rfl rfl fun i => gn_upd (Nat.zero_add _) (Nat.zero_add _) rfl rfl i⟩)) rfl rfl stK_cl hk
end Go.Proofs.YtkomdppjelnpdaaGreatDoor

namespace Go.Ru
def sortI (l : List Int) : List Int := l.mergeSort fun x y => decide (x ≤ y)
def sortS (l : List Bs) : List Bs := l.mergeSort fun x y => decide (x ≤ y)
theorem sortI_mem {l : List Int} {x : Int} : x ∈ sortI l ↔ x ∈ l := (List.mergeSort_perm l _).mem_iff
theorem sortS_mem {l : List Bs} {x : Bs} : x ∈ sortS l ↔ x ∈ l := (List.mergeSort_perm l _).mem_iff
theorem sortI_len (l : List Int) : (sortI l).length = l.length := (List.mergeSort_perm l _).length_eq
theorem sortS_len (l : List Bs) : (sortS l).length = l.length := (List.mergeSort_perm l _).length_eq
theorem sortI_sorted (l : List Int) : (sortI l).Pairwise (· ≤ ·) := by
  have := List.pairwise_mergeSort (le := fun x y : Int => decide (x ≤ y)) (fun a b c h1 h2 => by simp at *; omega) (fun a b => by simp; omega) l
  exact this.imp fun h => by simpa using h
theorem compact_mem {α : Type} [Inhabited α] [DecidableEq α] {l : List α} {x : α} : x ∈ Lib.compact l ↔ x ∈ l := by
  have hget : ∀ j, j < l.length → l.toArray[j]! = l[j]! := fun j hj => by simp [hj]
  simp only [Lib.compact, Lib.compactUpTo, List.mem_map, List.mem_filter, List.mem_range]
  constructor
  · rintro ⟨j, ⟨hj, _⟩, rfl⟩
    rw [getElem!_pos l.toArray j (by simpa using hj)]
    simp
  · intro hx
    obtain ⟨j, hj, rfl⟩ := List.mem_iff_getElem.1 hx
    have key : ∀ j, j < l.length → ∃ i, (i < l.length ∧ Lib.keeps l.toArray i = true) ∧ l.toArray[i]! = l.toArray[j]! := by
      intro j
      induction j with
      | zero => intro h; exact ⟨0, ⟨h, by simp [Lib.keeps]⟩, rfl⟩
      | succ j ih =>
        intro h
        by_cases e : Lib.keeps l.toArray (j + 1) = true
        · exact ⟨j + 1, ⟨h, e⟩, rfl⟩
        · obtain ⟨i, h1, h2⟩ := ih (by omega)
          refine ⟨i, h1, h2.trans ?_⟩
          simp only [Lib.keeps, Nat.add_one_ne_zero, false_or, Nat.add_sub_cancel, decide_eq_true_eq, Decidable.not_not] at e
          exact e.symm
    obtain ⟨i, h1, h2⟩ := key j hj
    exact ⟨i, h1, by rw [h2, getElem!_pos l.toArray j (by simpa using hj)]; simp⟩
theorem compact_len {α : Type} [Inhabited α] [DecidableEq α] (l : List α) : (Lib.compact l).length ≤ l.length := by
  simp only [Lib.compact, Lib.compactUpTo, List.length_map]
  exact Nat.le_trans (List.length_filter_le _ _) (by simp)
theorem pairwise_filter_range {R : Nat → Nat → Prop} {p : Nat → Bool} {n : Nat} (h : ∀ i j, i < j → j < n → p j = true → R i j) : ((List.range n).filter p).Pairwise R := by
  rw [List.pairwise_filter]
  refine List.Pairwise.imp_of_mem (R := fun i j => i < j) (fun {i j} hi hj hlt => ?_) List.pairwise_lt_range
  intro _ hpj
  exact h i j hlt (List.mem_range.1 hj) hpj
theorem compact_rise {α : Type} [Inhabited α] [DecidableEq α] {R : α → α → Prop} {l : List α} (htr : ∀ a b c, R a b → R b c → R a c) (hs : l.Pairwise fun a b => R a b ∨ a = b) : (Lib.compact l).Pairwise R := by
  simp only [Lib.compact, Lib.compactUpTo]
  rw [List.pairwise_map]
  refine pairwise_filter_range fun i j hlt hj hk => ?_
  have hj0 : j < l.length := hj
  have hget : ∀ k, k < l.length → l.toArray[k]! = l[k]! := fun k hk => by simp [hk]
  simp only [Lib.keeps, decide_eq_true_eq] at hk
  have hk : l.toArray[j]! ≠ l.toArray[j - 1]! := hk.resolve_left (by omega)
  have le : ∀ a b, a < b → b < l.length → R l.toArray[a]! l.toArray[b]! ∨ l.toArray[a]! = l.toArray[b]! := fun a b h1 h2 => by
    have := List.pairwise_iff_getElem.1 hs a b (by omega) h2 h1
    rw [getElem!_pos l.toArray a (by simp; omega), getElem!_pos l.toArray b (by simpa using h2)]
    simpa using this
  have h1 : R l.toArray[j - 1]! l.toArray[j]! := (le (j - 1) j (by omega) hj0).resolve_right fun e => hk e.symm
  by_cases e : i = j - 1
  · rw [e]; exact h1
  · rcases le i (j - 1) (by omega) (by omega) with h | h
    · exact htr _ _ _ h h1
    · rw [h]; exact h1
def setI (l : List Int) : List Int := Lib.compact (sortI l)
theorem setI_mem {l : List Int} {x : Int} : x ∈ setI l ↔ x ∈ l := by rw [setI, compact_mem, sortI_mem]
theorem setI_rise (l : List Int) : (setI l).Pairwise (· < ·) :=
  compact_rise (fun _ _ _ => Int.lt_trans) ((sortI_sorted l).imp fun {a b} h => by omega)
theorem setI_len (l : List Int) : (setI l).length ≤ l.length := by rw [← sortI_len l]; exact compact_len _
end Go.Ru

namespace Go.Proofs
open Go.Shelf
def Tryz.lays189_ren : Go.Shelf.Ren := ⟨fun | 189 => 61 | 125 => 87 | 257 => 89 | 128 => 124 | 129 => 125 | 294 => 126 | 295 => 127 | 296 => 128 | 297 => 129 | 298 => 130 | 299 => 131 | 216 => 132 | 300 => 133 | 301 => 134 | 328 => 164 | 329 => 159 | 330 => 160 | 331 => 165 | 332 => 166 | 215 => 167 | 343 => 179 | n => n, fun | 28 => 27 | 3 => 3 | 46 => 110 | 0 => 0 | 51 => 140 | 53 => 142 | 4 => 4 | 183 => 134 | 182 => 133 | 131 => 102 | 5 => 5 | 9 => 9 | 218 => 162 | 222 => 166 | 228 => 177 | 229 => 178 | n => n, fun | n => n⟩
theorem Tryz.lays189 : Go.Proofs.Lays.n189 Tryz.prog Tryz.lays189_ren := {
  mixed := by kernel_rfl
  f125 := Tryz.func87.trans (congrArg some (by kernel_rfl))
  f128 := Tryz.func124.trans (congrArg some (by kernel_rfl))
  f129 := Tryz.func125.trans (congrArg some (by kernel_rfl))
  f189 := Tryz.func61.trans (congrArg some (by kernel_rfl))
  f215 := Tryz.func167.trans (congrArg some (by kernel_rfl))
  f216 := Tryz.func132.trans (congrArg some (by kernel_rfl))
  f257 := Tryz.func89.trans (congrArg some (by kernel_rfl))
  f294 := Tryz.func126.trans (congrArg some (by kernel_rfl))
  f295 := Tryz.func127.trans (congrArg some (by kernel_rfl))
  f296 := Tryz.func128.trans (congrArg some (by kernel_rfl))
  f297 := Tryz.func129.trans (congrArg some (by kernel_rfl))
  f298 := Tryz.func130.trans (congrArg some (by kernel_rfl))
  f299 := Tryz.func131.trans (congrArg some (by kernel_rfl))
  f300 := Tryz.func133.trans (congrArg some (by kernel_rfl))
  f301 := Tryz.func134.trans (congrArg some (by kernel_rfl))
  f328 := Tryz.func164.trans (congrArg some (by kernel_rfl))
  f329 := Tryz.func159.trans (congrArg some (by kernel_rfl))
  f330 := Tryz.func160.trans (congrArg some (by kernel_rfl))
  f331 := Tryz.func165.trans (congrArg some (by kernel_rfl))
  f332 := Tryz.func166.trans (congrArg some (by kernel_rfl))
  f343 := Tryz.func179.trans (congrArg some (by kernel_rfl))
  t0 := Tryz.underlying0
  a0 := Tryz.isAgg0
  z0 := Tryz.sizeOf0
  v0 := Tryz.zeroValue0
  t3 := Tryz.underlying3
  a3 := Tryz.isAgg3
  z3 := Tryz.sizeOf3
  v3 := Tryz.zeroValue3
  t4 := Tryz.underlying4
  a4 := Tryz.isAgg4
  z4 := Tryz.sizeOf4
  v4 := Tryz.zeroValue4
  t5 := Tryz.underlying5
  a5 := Tryz.isAgg5
  z5 := Tryz.sizeOf5
  v5 := Tryz.zeroValue5
  t9 := Tryz.underlying9
  a9 := Tryz.isAgg9
  z9 := Tryz.sizeOf9
  v9 := Tryz.zeroValue9
  t28 := Tryz.underlying27
  a28 := Tryz.isAgg27
  z28 := Tryz.sizeOf27
  v28 := Tryz.zeroValue27
  t46 := Tryz.underlying110
  a46 := Tryz.isAgg110
  z46 := Tryz.sizeOf110
  v46 := Tryz.zeroValue110
  t51 := Tryz.underlying140
  a51 := Tryz.isAgg140
  z51 := Tryz.sizeOf140
  v51 := Tryz.zeroValue140
  t53 := Tryz.underlying142
  a53 := Tryz.isAgg142
  z53 := Tryz.sizeOf142
  v53 := Tryz.zeroValue142
  t131 := Tryz.underlying102
  a131 := Tryz.isAgg102
  z131 := Tryz.sizeOf102
  v131 := Tryz.zeroValue102
  t182 := Tryz.underlying133
  a182 := Tryz.isAgg133
  z182 := Tryz.sizeOf133
  v182 := Tryz.zeroValue133
  t183 := Tryz.underlying134
  a183 := Tryz.isAgg134
  z183 := Tryz.sizeOf134
  v183 := Tryz.zeroValue134
  t218 := Tryz.underlying162
  a218 := Tryz.isAgg162
  z218 := Tryz.sizeOf162
  v218 := Tryz.zeroValue162
  t222 := Tryz.underlying166
  a222 := Tryz.isAgg166
  z222 := Tryz.sizeOf166
  v222 := Tryz.zeroValue166
  t228 := Tryz.underlying177
  a228 := Tryz.isAgg177
  z228 := Tryz.sizeOf177
  v228 := Tryz.zeroValue177
  t229 := Tryz.underlying178
  a229 := Tryz.isAgg178
  z229 := Tryz.sizeOf178
  v229 := Tryz.zeroValue178 }
open Go.Sort Go.RowKit in
theorem Tryz.slices_Sort_int (blk off cap : Nat) (zs : List Int) (w : World) (hH : Holds (Value.int .i64) w blk off zs.toArray) (hblk : blk < w.heap.size) (hsz : zs.length < 4611686018427387904) :
    Calls Tryz.prog 61 #[.slice (some ⟨blk, off, none⟩) zs.length cap] w fun e w' =>
      e = .returned (.tuple #[]) ∧ ∃ n os, w' = grow (putRow (Value.int .i64) (Sort.ahead w n) blk off (zs.mergeSort fun x y => decide (x ≤ y)).toArray) os := Any.slices_Sort_int Tryz.lays189 blk off cap zs w hH hblk hsz
def Tryz.lays190_ren : Go.Shelf.Ren := ⟨fun | 190 => 57 | 125 => 87 | 258 => 86 | 128 => 124 | 129 => 125 | 302 => 115 | 303 => 116 | 304 => 117 | 305 => 118 | 306 => 119 | 307 => 120 | 308 => 121 | 309 => 122 | 310 => 123 | 333 => 158 | 329 => 159 | 330 => 160 | 334 => 161 | 335 => 162 | 336 => 163 | 344 => 178 | n => n, fun | 31 => 49 | 9 => 9 | 3 => 3 | 46 => 110 | 0 => 0 | 51 => 140 | 53 => 142 | 4 => 4 | 183 => 134 | 182 => 133 | 131 => 102 | 5 => 5 | 218 => 162 | 222 => 166 | 228 => 177 | 229 => 178 | n => n, fun | n => n⟩
theorem Tryz.lays190 : Go.Proofs.Lays.n190 Tryz.prog Tryz.lays190_ren := {
  mixed := by kernel_rfl
  f125 := Tryz.func87.trans (congrArg some (by kernel_rfl))
  f128 := Tryz.func124.trans (congrArg some (by kernel_rfl))
  f129 := Tryz.func125.trans (congrArg some (by kernel_rfl))
  f190 := Tryz.func57.trans (congrArg some (by kernel_rfl))
  f258 := Tryz.func86.trans (congrArg some (by kernel_rfl))
  f302 := Tryz.func115.trans (congrArg some (by kernel_rfl))
  f303 := Tryz.func116.trans (congrArg some (by kernel_rfl))
  f304 := Tryz.func117.trans (congrArg some (by kernel_rfl))
  f305 := Tryz.func118.trans (congrArg some (by kernel_rfl))
  f306 := Tryz.func119.trans (congrArg some (by kernel_rfl))
  f307 := Tryz.func120.trans (congrArg some (by kernel_rfl))
  f308 := Tryz.func121.trans (congrArg some (by kernel_rfl))
  f309 := Tryz.func122.trans (congrArg some (by kernel_rfl))
  f310 := Tryz.func123.trans (congrArg some (by kernel_rfl))
  f329 := Tryz.func159.trans (congrArg some (by kernel_rfl))
  f330 := Tryz.func160.trans (congrArg some (by kernel_rfl))
  f333 := Tryz.func158.trans (congrArg some (by kernel_rfl))
  f334 := Tryz.func161.trans (congrArg some (by kernel_rfl))
  f335 := Tryz.func162.trans (congrArg some (by kernel_rfl))
  f336 := Tryz.func163.trans (congrArg some (by kernel_rfl))
  f344 := Tryz.func178.trans (congrArg some (by kernel_rfl))
  t0 := Tryz.underlying0
  a0 := Tryz.isAgg0
  z0 := Tryz.sizeOf0
  v0 := Tryz.zeroValue0
  t3 := Tryz.underlying3
  a3 := Tryz.isAgg3
  z3 := Tryz.sizeOf3
  v3 := Tryz.zeroValue3
  t4 := Tryz.underlying4
  a4 := Tryz.isAgg4
  z4 := Tryz.sizeOf4
  v4 := Tryz.zeroValue4
  t5 := Tryz.underlying5
  a5 := Tryz.isAgg5
  z5 := Tryz.sizeOf5
  v5 := Tryz.zeroValue5
  t9 := Tryz.underlying9
  a9 := Tryz.isAgg9
  z9 := Tryz.sizeOf9
  v9 := Tryz.zeroValue9
  t31 := Tryz.underlying49
  a31 := Tryz.isAgg49
  z31 := Tryz.sizeOf49
  v31 := Tryz.zeroValue49
  t46 := Tryz.underlying110
  a46 := Tryz.isAgg110
  z46 := Tryz.sizeOf110
  v46 := Tryz.zeroValue110
  t51 := Tryz.underlying140
  a51 := Tryz.isAgg140
  z51 := Tryz.sizeOf140
  v51 := Tryz.zeroValue140
  t53 := Tryz.underlying142
  a53 := Tryz.isAgg142
  z53 := Tryz.sizeOf142
  v53 := Tryz.zeroValue142
  t131 := Tryz.underlying102
  a131 := Tryz.isAgg102
  z131 := Tryz.sizeOf102
  v131 := Tryz.zeroValue102
  t182 := Tryz.underlying133
  a182 := Tryz.isAgg133
  z182 := Tryz.sizeOf133
  v182 := Tryz.zeroValue133
  t183 := Tryz.underlying134
  a183 := Tryz.isAgg134
  z183 := Tryz.sizeOf134
  v183 := Tryz.zeroValue134
  t218 := Tryz.underlying162
  a218 := Tryz.isAgg162
  z218 := Tryz.sizeOf162
  v218 := Tryz.zeroValue162
  t222 := Tryz.underlying166
  a222 := Tryz.isAgg166
  z222 := Tryz.sizeOf166
  v222 := Tryz.zeroValue166
  t228 := Tryz.underlying177
  a228 := Tryz.isAgg177
  z228 := Tryz.sizeOf177
  v228 := Tryz.zeroValue177
  t229 := Tryz.underlying178
  a229 := Tryz.isAgg178
  z229 := Tryz.sizeOf178
  v229 := Tryz.zeroValue178 }
open Go.Sort Go.RowKit in
theorem Tryz.slices_Sort_string (blk off cap : Nat) (ss : List (List UInt8)) (w : World) (hH : Holds encStr w blk off ss.toArray) (hblk : blk < w.heap.size) (hsz : ss.length < 4611686018427387904) :
    Calls Tryz.prog 57 #[.slice (some ⟨blk, off, none⟩) ss.length cap] w fun e w' =>
      e = .returned (.tuple #[]) ∧ ∃ n os, w' = grow (putRow encStr (Sort.ahead w n) blk off (ss.mergeSort fun x y => decide (x ≤ y)).toArray) os := Any.slices_Sort_string Tryz.lays190 blk off cap ss w hH hblk hsz
def Tryz.laysNm215_ren : Go.Shelf.Ren := ⟨fun | 15 => 60 | n => n, fun | 22 => 27 | 3 => 3 | 4 => 4 | n => n, fun | n => n⟩
theorem Tryz.laysNm215 : Go.Proofs.Lays2.n15 Tryz.prog Tryz.laysNm215_ren := {
  mixed := by kernel_rfl
  f15 := Tryz.func60.trans (congrArg some (by kernel_rfl))
  t3 := Tryz.underlying3
  a3 := Tryz.isAgg3
  z3 := Tryz.sizeOf3
  v3 := Tryz.zeroValue3
  t4 := Tryz.underlying4
  a4 := Tryz.isAgg4
  z4 := Tryz.sizeOf4
  v4 := Tryz.zeroValue4
  t22 := Tryz.underlying27
  a22 := Tryz.isAgg27
  z22 := Tryz.sizeOf27
  v22 := Tryz.zeroValue27
  i3 := by kernel_rfl }
open Go.RowKit Go.Lib in
theorem Tryz.slices_Clone_int (b off n c : Nat) (zs : List Int) (w : World) (hz : n ≤ zs.length) (hbig : n * 8 ≤ 140737488355328) (hc : ∀ j, j < zs.length → w.cell? ⟨b, off + j, none⟩ = some (.int .i64 (zs.getD j 0))) :
    Calls Tryz.prog 60 #[.slice (some ⟨b, off, none⟩) n c] w fun e w' => ∃ v', e = .returned v' ∧ w'.ownsRow w.heap.size 3 1 v' n ((zs.take n).map (Value.int .i64)) ∧ v' ≠ .slice none 0 0 ∧ Below w.heap.size w w' := Any.slices_Clone_int Tryz.laysNm215 b off n c zs w hz hbig hc
open Go.RowKit Go.Lib in
theorem Tryz.slices_Clone_int_nil (n c : Nat) (w : World) :
    Calls Tryz.prog 60 #[.slice none n c] w fun e w' => e = .returned (.slice none 0 0) ∧ w' = w := Any.slices_Clone_int_nil Tryz.laysNm215 n c w
open Go.RowKit Go.Lib in
theorem Tryz.slices_Clone_int_zero (a : Addr) (c : Nat) (w : World) :
    Calls Tryz.prog 60 #[.slice (some a) 0 c] w fun e w' => ∃ v', e = .returned v' ∧ w'.ownsRow w.heap.size 3 1 v' 0 [] ∧ v' ≠ .slice none 0 0 ∧ Below w.heap.size w w' := Any.slices_Clone_int_zero Tryz.laysNm215 a c w
def Tryz.laysNm220_ren : Go.Shelf.Ren := ⟨fun | 20 => 62 | n => n, fun | 22 => 27 | 3 => 3 | 4 => 4 | 0 => 0 | n => n, fun | n => n⟩
theorem Tryz.laysNm220 : Go.Proofs.Lays2.n20 Tryz.prog Tryz.laysNm220_ren := {
  mixed := by kernel_rfl
  f20 := Tryz.func62.trans (congrArg some (by kernel_rfl))
  t0 := Tryz.underlying0
  a0 := Tryz.isAgg0
  z0 := Tryz.sizeOf0
  v0 := Tryz.zeroValue0
  t3 := Tryz.underlying3
  a3 := Tryz.isAgg3
  z3 := Tryz.sizeOf3
  v3 := Tryz.zeroValue3
  t4 := Tryz.underlying4
  a4 := Tryz.isAgg4
  z4 := Tryz.sizeOf4
  v4 := Tryz.zeroValue4
  t22 := Tryz.underlying27
  a22 := Tryz.isAgg27
  z22 := Tryz.sizeOf27
  v22 := Tryz.zeroValue27
  i3 := by kernel_rfl }
open Go.RowKit Go.Lib Go.Sort in
theorem Tryz.slices_Compact_int_arr (blk off cap : Nat) (d : Array Int) (w : World) (hH : Holds encI w blk off d) (hsz : d.size ≤ 9223372036854775807) (hcap : d.size ≤ cap) :
    Calls Tryz.prog 62 #[.slice (some ⟨blk, off, none⟩) d.size cap] w fun e w' => e = .returned (.slice (some ⟨blk, off, none⟩) (compactUpTo d d.size).length cap) ∧ ∃ q, w' = putRow encI (Sort.ahead w q) blk off (compactUpTo d d.size ++ List.replicate (d.size - (compactUpTo d d.size).length) 0).toArray := Any.slices_Compact_int_arr Tryz.laysNm220 blk off cap d w hH hsz hcap
open Go.RowKit Go.Lib Go.Sort in
theorem Tryz.slices_Compact_int (blk off cap : Nat) (zs : List Int) (w : World) (hH : Holds (Value.int .i64) w blk off zs.toArray) (hsz : zs.length ≤ 9223372036854775807) (hcap : zs.length ≤ cap) :
    Calls Tryz.prog 62 #[.slice (some ⟨blk, off, none⟩) zs.length cap] w fun e w' => e = .returned (.slice (some ⟨blk, off, none⟩) (Lib.compact zs).length cap) ∧ ∃ q, w' = putRow (Value.int .i64) (Sort.ahead w q) blk off (Lib.compact zs ++ List.replicate (zs.length - (Lib.compact zs).length) 0).toArray := Any.slices_Compact_int Tryz.laysNm220 blk off cap zs w hH hsz hcap
open Go.RowKit Go.Lib Go.Sort in
theorem Tryz.slices_Compact_int_empty (a : Option Addr) (cap : Nat) (w : World) :
    Calls Tryz.prog 62 #[.slice a 0 cap] w fun e w' => e = .returned (.slice a 0 cap) ∧ w' = w := Any.slices_Compact_int_empty Tryz.laysNm220 a cap w
def Tryz.lays194_ren : Go.Shelf.Ren := ⟨fun | 194 => 58 | n => n, fun | 31 => 49 | 9 => 9 | 3 => 3 | 4 => 4 | 0 => 0 | n => n, fun | n => n⟩
theorem Tryz.lays194 : Go.Proofs.Lays.n194 Tryz.prog Tryz.lays194_ren := {
  mixed := by kernel_rfl
  f194 := Tryz.func58.trans (congrArg some (by kernel_rfl))
  t0 := Tryz.underlying0
  a0 := Tryz.isAgg0
  z0 := Tryz.sizeOf0
  v0 := Tryz.zeroValue0
  t3 := Tryz.underlying3
  a3 := Tryz.isAgg3
  z3 := Tryz.sizeOf3
  v3 := Tryz.zeroValue3
  t4 := Tryz.underlying4
  a4 := Tryz.isAgg4
  z4 := Tryz.sizeOf4
  v4 := Tryz.zeroValue4
  t9 := Tryz.underlying9
  a9 := Tryz.isAgg9
  z9 := Tryz.sizeOf9
  v9 := Tryz.zeroValue9
  t31 := Tryz.underlying49
  a31 := Tryz.isAgg49
  z31 := Tryz.sizeOf49
  v31 := Tryz.zeroValue49 }
open Go.RowKit Go.Lib Go.Sort in
theorem Tryz.slices_Compact_string_arr (blk off cap : Nat) (d : Array (List UInt8)) (w : World) (hH : Holds encStr w blk off d) (hsz : d.size ≤ 9223372036854775807) (hcap : d.size ≤ cap) :
    Calls Tryz.prog 58 #[.slice (some ⟨blk, off, none⟩) d.size cap] w fun e w' => e = .returned (.slice (some ⟨blk, off, none⟩) (compactUpTo d d.size).length cap) ∧ ∃ q, w' = putRow encStr (Sort.ahead w q) blk off (compactUpTo d d.size ++ List.replicate (d.size - (compactUpTo d d.size).length) []).toArray := Any.slices_Compact_string_arr Tryz.lays194 blk off cap d w hH hsz hcap
open Go.RowKit Go.Lib Go.Sort in
theorem Tryz.slices_Compact_string (blk off cap : Nat) (zs : List (List UInt8)) (w : World) (hH : Holds encStr w blk off zs.toArray) (hsz : zs.length ≤ 9223372036854775807) (hcap : zs.length ≤ cap) :
    Calls Tryz.prog 58 #[.slice (some ⟨blk, off, none⟩) zs.length cap] w fun e w' => e = .returned (.slice (some ⟨blk, off, none⟩) (Lib.compact zs).length cap) ∧ ∃ q, w' = putRow encStr (Sort.ahead w q) blk off (Lib.compact zs ++ List.replicate (zs.length - (Lib.compact zs).length) []).toArray := Any.slices_Compact_string Tryz.lays194 blk off cap zs w hH hsz hcap
open Go.RowKit Go.Lib Go.Sort in
theorem Tryz.slices_Compact_string_empty (a : Option Addr) (cap : Nat) (w : World) :
    Calls Tryz.prog 58 #[.slice a 0 cap] w fun e w' => e = .returned (.slice a 0 cap) ∧ w' = w := Any.slices_Compact_string_empty Tryz.lays194 a cap w
open Go.RowKit Go.Lib Go.Sort in
theorem Tryz.slices_Compact_int_cells (b off n c : Nat) (zs : List Int) (w : World) (hz : n ≤ zs.length) (hbig : n ≤ 9223372036854775807) (hcap : n ≤ c) (hc : ∀ j, j < zs.length → w.cell? ⟨b, off + j, none⟩ = some (.int .i64 (zs.getD j 0))) (hf : ∀ j, j < n → w.frozen? ⟨b, off + j, none⟩ = false) :
    Calls Tryz.prog 62 #[.slice (some ⟨b, off, none⟩) n c] w fun e w' => e = .returned (.slice (some ⟨b, off, none⟩) (Lib.compact (zs.take n)).length c) ∧ ∃ q, w' = (w.drewN q).setCells b off ((Lib.compact (zs.take n) ++ List.replicate (n - (Lib.compact (zs.take n)).length) 0).map (Value.int .i64)) := Any.slices_Compact_int_cells Tryz.laysNm220 b off n c zs w hz hbig hcap hc hf
open Go.RowKit Go.Lib Go.Sort in
theorem Tryz.slices_Compact_string_cells (b off n c : Nat) (Sx : Nat → ByteArray) (w : World) (hbig : n ≤ 9223372036854775807) (hcap : n ≤ c) (hc : ∀ i, i < n → w.cell? ⟨b, off + i, none⟩ = some (.string (Sx i))) (hf : ∀ j, j < n → w.frozen? ⟨b, off + j, none⟩ = false) :
    Calls Tryz.prog 58 #[.slice (some ⟨b, off, none⟩) n c] w fun e w' => e = .returned (.slice (some ⟨b, off, none⟩) (Lib.compact (Lib.strsOf Sx n)).length c) ∧ ∃ q, w' = (w.drewN q).setCells b off ((Lib.compact (Lib.strsOf Sx n) ++ List.replicate (n - (Lib.compact (Lib.strsOf Sx n)).length) []).map encStr) := Any.slices_Compact_string_cells Tryz.lays194 b off n c Sx w hbig hcap hc hf
open Go.RowKit Go.Sort in
theorem Tryz.slices_Sort_string_none (p : Option Addr) (cap : Nat) (w : World) :
    Calls Tryz.prog 57 #[.slice p 0 cap] w fun e w' => e = .returned (.tuple #[]) ∧ w' = w := Any.slices_Sort_string_none Tryz.lays190 p cap w
open Go.RowKit Go.Sort in
theorem Tryz.slices_Sort_int_none (p : Option Addr) (cap : Nat) (w : World) :
    Calls Tryz.prog 61 #[.slice p 0 cap] w fun e w' => e = .returned (.tuple #[]) ∧ w' = w := Any.slices_Sort_int_none Tryz.lays189 p cap w
end Go.Proofs
