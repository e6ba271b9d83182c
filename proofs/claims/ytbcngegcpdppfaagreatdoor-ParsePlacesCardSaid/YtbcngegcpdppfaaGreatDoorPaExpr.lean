/-
  Parser, part 4: the contracts of the functions that read expressions, by depth and by row. No statement of the seat is proved here.
-/
import Derived.Test.YtbcngegcpdppfaaGreatDoorPaLeaf
import Derived.Test.YtbcngegcpdppfaaGreatDoorPaDn
namespace Go.Proofs.YtbcngegcpdppfaaGreatDoor
open Go.AE Go.Ru
set_option maxRecDepth 100000

/-- a state that is small enough -/
def Fine (d : Nat) (ts : List Tok) (ns : List Nd) : Prop := d ≤ 40 ∧ ns.length + 4 * ts.length ≤ 900000

def cUna (D : Nat) : AC := fun args K k => ∃ d : Nat, ∃ e ts ns mo op X, args = [pp] ∧ K = encP e ts ns op mo ++ X ∧ op = 40 - (d : Int) ∧ d < D ∧ Fine d ts ns ∧ After e (unaS e d ⟨ts, ns, mo⟩) intV op X k
def cExJ (D J : Nat) : AC := fun args K k => ∃ d j : Nat, ∃ e ts ns mo op kk X, args = [pp, .p (.int .i64 kk)] ∧ K = encP e ts ns op mo ++ X ∧ op = 40 - (d : Int) ∧ kk = 5 - (j : Int) ∧ d < D ∧ j < J ∧ J ≤ 6 ∧ Fine d ts ns ∧
  After e (exprS (unaS e d) j ⟨ts, ns, mo⟩) intV op X k
def cPrim (D : Nat) : AC := fun args K k => ∃ d : Nat, ∃ e ts ns mo op X, args = [pp] ∧ K = encP e ts ns op mo ++ X ∧ op = 40 - (d : Int) ∧ d ≤ D ∧ Fine d ts ns ∧ After e (primS e d (inS e d) ⟨ts, ns, mo⟩) intV op X k

def gE (D J : Nat) : AG := gput 110 (cUna D) (gput 66 (cExJ D J) g7)
theorem gE_ok {D J : Nat} (hU : COk 110 (cUna D)) (hE : COk 66 (cExJ D J)) : GOk Tryz.prog (gE D J) := gput_ok hU (gput_ok hE g7_ok)

theorem nt {b : Bool} (h : (!b) = true) : b = false := by simpa using h
theorem nf {b : Bool} (h : (!b) = false) : b = true := by simpa using h
theorem isS_self {w : Bs} {t : Tok} {r : List Tok} (h : isS w (t :: r) = true) : isS t.tx (t :: r) = true := by
  obtain ⟨k, n, a, tx⟩ := t
  cases k <;> simp_all [isS]
theorem in_op {op : Int} {d : Nat} (ho : op = 40 - ((d + 1 : Nat) : Int)) (h : d < 1000) : IntKind.i64.wrap (op + 1) = 40 - (d : Int) := by
  rw [w64 (by omega)]; omega
theorem in_mo {op mo : Int} {d : Nat} (ho : op = 40 - ((d + 1 : Nat) : Int)) (h : d < 1000) : (if IntKind.i64.wrap (op + 1) > mo then IntKind.i64.wrap (op + 1) else mo) = moreS (d + 1) mo := by
  rw [in_op ho h, moreS]
  have e : (41 : Int) - ((d + 1 : Nat) : Int) = 40 - d := by omega
  rw [e]
theorem out_op {op : Int} {d : Nat} (ho : op = 40 - ((d + 1 : Nat) : Int)) (h : d < 1000) : IntKind.i64.wrap (IntKind.i64.wrap (op + 1) - 1) = op := by
  rw [in_op ho h, w64 (by omega)]; omega
theorem unaS_eq (e : Int) (d : Nat) (s : PS) : unaS e d s = unaB e d (match d with
  | 0 => fun _ => .bad 0 0
  | d + 1 => unaS e d) (inS e d) s := by cases d <;> rfl

set_option pp.maxSteps 600
theorem una_step {D : Nat} (hP : COk 132 (cPrim D)) (hU : COk 110 (cUna D)) : COk 110 (cUna (D + 1)) := by
  rintro args K k ⟨d, e, ts, ns, mo, op, X, rfl, rfl, ho, hd, hf, hk⟩
  refine frameP (G := gput 132 (cPrim D) (gput 110 (cUna D) g7)) (gput_ok hP (gput_ok hU g7_ok)) 9 rfl fun Q hr hp => ?_
  rw [unaS_eq] at hk
  cases ts with
  | nil =>
    conv => whnf
    refine ⟨by simp, ?_⟩
    conv => whnf
    refine ⟨_, _, _, _, _, _, _, rfl, rfl, ?_⟩
    conv => whnf
    refine ⟨_, _, _, _, _, _, _, rfl, rfl, ?_⟩
    conv => whnf
    refine ⟨_, _, _, _, _, _, _, rfl, rfl, ho, by omega, hf, ⟨fun a ts' ns' mo' h => ?_, fun a er h => ?_⟩⟩
    · conv => whnf
      exact hr _ _ _ _ _ _ rfl rfl (hk.ok _ _ _ _ h)
    · conv => whnf
      exact hp _ _ rfl (hk.bad _ _ h)
  | cons t r =>
    conv => whnf
    refine ⟨by simp; omega, ?_⟩
    conv => whnf
    refine ⟨_, _, _, _, _, _, _, rfl, rfl, ?_⟩
    conv => whnf
    refine two_intro (fun h1 => ?_) (fun h1 => ?_)
    · have h1 : isS [45] (t :: r) = false := nt h1
      conv => whnf
      refine ⟨_, _, _, _, _, _, _, rfl, rfl, ?_⟩
      conv => whnf
      refine two_intro (fun h2 => ?_) (fun h2 => ?_)
      · have h2 : isS [33] (t :: r) = false := nt h2
        simp only [unaB, h1, h2, Bool.or_false] at hk
        conv => whnf
        refine ⟨_, _, _, _, _, _, _, rfl, rfl, ho, by omega, hf, ⟨fun a ts' ns' mo' h => ?_, fun a er h => ?_⟩⟩
        · conv => whnf
          exact hr _ _ _ _ _ _ rfl rfl (hk.ok _ _ _ _ h)
        · conv => whnf
          exact hp _ _ rfl (hk.bad _ _ h)
      · have h2 : isS [33] (t :: r) = true := nf h2
        simp only [unaB, h1, h2, Bool.or_true] at hk
        have hs := isS_self h2
        conv => whnf
        refine ⟨_, _, _, _, _, _, _, rfl, rfl, ?_⟩
        conv => whnf
        refine two_true hs ?_
        conv => whnf
        cases d with
        | zero =>
          refine two_intro (fun h3 => ?_) (fun h3 => ?_)
          · conv => whnf
            refine ⟨_, _, _, _, _, _, _, rfl, rfl, ?_⟩
            conv => whnf
            exact hp _ _ rfl (hk.bad _ _ (by simp [withinS, hs, R.bind]))
          · simp [ho] at h3
        | succ d =>
          refine two_intro (fun h3 => ?_) (fun h3 => ?_)
          · simp [ho] at h3; omega
          · conv => whnf
            refine ⟨_, _, _, _, _, _, _, rfl, rfl, ⟨fun a ts' ns' mo' h => ?_, fun a er h => ?_⟩⟩
            · simp only [wantS, hs, dropS, R.ok.injEq, PS.mk.injEq] at h
              obtain ⟨-, rfl, rfl, rfl⟩ := h
              conv => whnf
              have hd2 : d < 1000 := by have := hf.1; omega
              refine ⟨d, _, _, _, _, _, _, rfl, rfl, in_op ho hd2, by omega, ?_, ⟨fun a ts' ns' mo' h => ?_, fun a er h => ?_⟩⟩
              · simp only [Fine, List.length_cons, List.tail_cons] at hf ⊢; omega
              · rw [in_mo ho hd2] at h
                simp only [List.tail_cons] at h
                have hl := una_le e d _ _ _ h
                conv => whnf
                refine ⟨[a], _, _, _, _, _, _, _, _, _, _, _, rfl, rfl, PutK.slr ?_ rfl rfl rfl (allLt_ok ⟨trivial, rfl⟩) ?_⟩
                · simp only [Fine, Lw, List.length_cons] at hf hl; omega
                conv => whnf
                rw [out_op ho hd2]
                exact hr _ _ _ _ _ _ rfl rfl (hk.ok _ _ _ _ (by simp [withinS, hs, R.bind, h, putS]))
              · rw [in_mo ho hd2] at h
                simp only [List.tail_cons] at h
                conv => whnf
                exact hp _ _ rfl (hk.bad _ _ (by simp [withinS, hs, R.bind, h]))
            · simp [wantS, hs] at h
    · have h1 : isS [45] (t :: r) = true := nf h1
      simp only [unaB, h1, Bool.true_or] at hk
      have hs := isS_self h1
      conv => whnf
      refine ⟨_, _, _, _, _, _, _, rfl, rfl, ?_⟩
      conv => whnf
      refine two_true hs ?_
      conv => whnf
      cases d with
      | zero =>
        refine two_intro (fun h3 => ?_) (fun h3 => ?_)
        · conv => whnf
          refine ⟨_, _, _, _, _, _, _, rfl, rfl, ?_⟩
          conv => whnf
          exact hp _ _ rfl (hk.bad _ _ (by simp [withinS, hs, R.bind]))
        · simp [ho] at h3
      | succ d =>
        refine two_intro (fun h3 => ?_) (fun h3 => ?_)
        · simp [ho] at h3; omega
        · conv => whnf
          refine ⟨_, _, _, _, _, _, _, rfl, rfl, ⟨fun a ts' ns' mo' h => ?_, fun a er h => ?_⟩⟩
          · simp only [wantS, hs, dropS, R.ok.injEq, PS.mk.injEq] at h
            obtain ⟨-, rfl, rfl, rfl⟩ := h
            conv => whnf
            have hd2 : d < 1000 := by have := hf.1; omega
            refine ⟨d, _, _, _, _, _, _, rfl, rfl, in_op ho hd2, by omega, ?_, ⟨fun a ts' ns' mo' h => ?_, fun a er h => ?_⟩⟩
            · simp only [Fine, List.length_cons, List.tail_cons] at hf ⊢; omega
            · rw [in_mo ho hd2] at h
              simp only [List.tail_cons] at h
              have hl := una_le e d _ _ _ h
              conv => whnf
              refine ⟨[a], _, _, _, _, _, _, _, _, _, _, _, rfl, rfl, PutK.slr ?_ rfl rfl rfl (allLt_ok ⟨trivial, rfl⟩) ?_⟩
              · simp only [Fine, Lw, List.length_cons] at hf hl; omega
              conv => whnf
              rw [out_op ho hd2]
              exact hr _ _ _ _ _ _ rfl rfl (hk.ok _ _ _ _ (by simp [withinS, hs, R.bind, h, putS]))
            · rw [in_mo ho hd2] at h
              simp only [List.tail_cons] at h
              conv => whnf
              exact hp _ _ rfl (hk.bad _ _ (by simp [withinS, hs, R.bind, h]))
          · simp [wantS, hs] at h

def cIndex (D : Nat) : AC := fun args K k => ∃ d : Nat, ∃ e ts ns mo op X, args = [pp] ∧ K = encP e ts ns op mo ++ X ∧ op = 40 - (d : Int) ∧ d ≤ D ∧ Fine d ts ns ∧ After e (indexS e d ⟨ts, ns, mo⟩) intV op X k
theorem index_ok {D : Nat} (hE : COk 66 (cExJ D 6)) : COk 156 (cIndex D) := by
  rintro args K k ⟨d, e, ts, ns, mo, op, X, rfl, rfl, ho, hd, hf, hk⟩
  refine frameP (G := gput 66 (cExJ D 6) g7) (gput_ok hE g7_ok) 9 rfl fun Q hr hp => ?_
  conv => whnf
  by_cases hw : isS [91] ts = true
  · refine ⟨_, _, _, _, _, _, _, rfl, rfl, ?_⟩
    conv => whnf
    refine two_true hw ?_
    conv => whnf
    cases d with
    | zero =>
      refine two_intro (fun h3 => ?_) (fun h3 => ?_)
      · conv => whnf
        refine ⟨_, _, _, _, _, _, _, rfl, rfl, ?_⟩
        conv => whnf
        exact hp _ _ rfl (hk.bad _ _ (by simp [indexS, withinS, hw, R.bind]))
      · simp [ho] at h3
    | succ d =>
      refine two_intro (fun h3 => ?_) (fun h3 => ?_)
      · simp [ho] at h3; omega
      · conv => whnf
        refine ⟨_, _, _, _, _, _, _, rfl, rfl, ⟨fun a ts' ns' mo' h => ?_, fun a er h => ?_⟩⟩
        · simp only [wantS, hw, dropS, R.ok.injEq, PS.mk.injEq] at h
          obtain ⟨-, rfl, rfl, rfl⟩ := h
          conv => whnf
          have hd2 : d < 1000 := by have := hf.1; omega
          have hl0 := isS_pos hw
          refine ⟨d, 5, _, _, _, _, _, _, _, rfl, rfl, in_op ho hd2, rfl, by omega, by omega, by omega, ?_, ⟨fun x ts' ns' mo' h => ?_, fun a er h => ?_⟩⟩
          · simp only [Fine, List.length_cons, List.length_tail] at hf hl0 ⊢; omega
          · rw [in_mo ho hd2] at h
            have hl := ex_le e d _ _ _ h
            conv => whnf
            refine ⟨_, _, _, _, _, _, _, rfl, rfl, ⟨fun u ts2 ns2 mo2 h2 => ?_, fun a er h2 => ?_⟩⟩
            · have hl2 := want_le _ _ _ _ _ h2
              conv => whnf
              rw [out_op ho hd2]
              exact hr _ _ _ _ _ _ rfl rfl (hk.ok _ _ _ _ (by
                have h : inS e (d + 1) _ = _ := h
                have h2 : wantS e [93] _ = _ := h2
                simp only [indexS, withinS, hw, h, h2, R.bind]))
            · conv => whnf
              exact hp _ _ rfl (hk.bad _ _ (by
                have h : inS e (d + 1) _ = _ := h
                have h2 : wantS e [93] _ = _ := h2
                simp only [indexS, withinS, hw, h, h2, R.bind]))
          · rw [in_mo ho hd2] at h
            conv => whnf
            exact hp _ _ rfl (hk.bad _ _ (by
              have h : inS e (d + 1) _ = _ := h
              simp only [indexS, withinS, hw, h, R.bind]))
        · simp [wantS, hw] at h
  · have hw : isS [91] ts = false := by simpa using hw
    refine ⟨_, _, _, _, _, _, _, rfl, rfl, ?_⟩
    conv => whnf
    refine two_false hw ?_
    conv => whnf
    refine ⟨_, _, _, _, _, _, _, rfl, rfl, ⟨fun a ts' ns' mo' h => ?_, fun a er h => ?_⟩⟩
    · simp [wantS, hw] at h
    · simp only [wantS, hw, R.bad.injEq] at h
      obtain ⟨rfl, rfl⟩ := h
      conv => whnf
      exact hp _ _ rfl (hk.bad _ _ (by simp only [indexS, withinS, hw]))

theorem prim_ok {D : Nat} (hE : COk 66 (cExJ D 6)) : COk 132 (cPrim D) := by
  rintro args K k ⟨d, e, ts, ns, mo, op, X, rfl, rfl, ho, hd, hf, hk⟩
  refine frameP (G := gput 156 (cIndex D) (gput 66 (cExJ D 6) g7)) (gput_ok (index_ok hE) (gput_ok hE g7_ok)) 9 rfl fun Q hr hp => ?_
  cases ts with
  | nil =>
    conv => whnf
    refine ⟨by simp, ?_⟩
    conv => whnf
    refine ⟨_, _, _, _, _, _, _, rfl, rfl, ⟨fun h => by simp [isS] at h, fun _ => ?_⟩⟩
    conv => whnf
    refine ⟨_, _, _, _, _, _, _, rfl, rfl, ⟨fun h => by simp [isS] at h, fun _ => ?_⟩⟩
    conv => whnf
    refine ⟨_, _, _, _, _, _, _, rfl, rfl, ⟨fun h => by simp [isS] at h, fun _ => ?_⟩⟩
    conv => whnf
    refine ⟨_, _, _, _, _, _, _, rfl, rfl, ⟨fun h => by simp [isS] at h, fun _ => ?_⟩⟩
    conv => whnf
    refine ⟨_, _, _, _, _, _, _, rfl, rfl, ?_⟩
    conv => whnf
    refine ⟨_, _, _, _, _, _, rfl, rfl, ⟨fun a ts' ns' mo' h => by simp [identS] at h, fun a er h => ?_⟩⟩
    simp only [identS, R.bad.injEq] at h
    obtain ⟨rfl, rfl⟩ := h
    conv => whnf
    exact hp _ _ rfl (hk.bad _ _ rfl)
  | cons t r =>
    obtain ⟨tk, tn, ta, tx⟩ := t
    have hn : ns.length < 1000000 := by simp only [Fine] at hf; omega
    cases tk with
    | number =>
      conv => whnf
      refine ⟨by simp; omega, ?_⟩
      conv => whnf
      refine ⟨_, _, _, _, _, _, _, rfl, rfl, ?_⟩
      conv => whnf
      refine ⟨[], _, _, _, _, _, _, _, _, _, _, _, rfl, rfl, PutK.nils hn ?_⟩
      conv => whnf
      exact hr _ _ _ _ _ _ rfl rfl (hk.ok _ _ _ _ rfl)
    | name =>
      conv => whnf
      refine ⟨by simp; omega, ?_⟩
      conv => whnf
      refine ⟨_, _, _, _, _, _, _, rfl, rfl, ⟨fun h => by simp [isS] at h, fun _ => ?_⟩⟩
      conv => whnf
      refine ⟨_, _, _, _, _, _, _, rfl, rfl, ⟨fun h => by simp [isS] at h, fun _ => ?_⟩⟩
      conv => whnf
      refine ⟨_, _, _, _, _, _, _, rfl, rfl, ⟨fun h => by simp [isS] at h, fun _ => ?_⟩⟩
      conv => whnf
      refine ⟨_, _, _, _, _, _, _, rfl, rfl, ⟨fun h => by simp [isS] at h, fun _ => ?_⟩⟩
      conv => whnf
      refine ⟨_, _, _, _, _, _, _, rfl, rfl, ?_⟩
      conv => whnf
      refine ⟨_, _, _, _, _, _, rfl, rfl, ⟨fun a ts' ns' mo' h => ?_, fun a er h => by simp [identS] at h⟩⟩
      simp only [identS, R.ok.injEq, PS.mk.injEq] at h
      obtain ⟨rfl, rfl, rfl, rfl⟩ := h
      conv => whnf
      refine ⟨_, _, _, _, _, _, _, rfl, rfl, ?_⟩
      conv => whnf
      refine two_intro (fun h1 => ?_) (fun h1 => ?_)
      · have h1 : isS [91] r = true := h1
        simp only [primS, h1] at hk
        conv => whnf
        refine ⟨d, _, _, _, _, _, _, rfl, rfl, ho, hd, ?_, ⟨fun x ts' ns' mo' h => ?_, fun a er h => ?_⟩⟩
        · simp only [Fine, List.length_cons] at hf ⊢; omega
        · have hl := index_le _ _ _ _ _ h
          conv => whnf
          refine ⟨[x], _, _, _, _, _, _, _, _, _, _, _, rfl, rfl, PutK.slr ?_ rfl rfl rfl (allLt_ok ⟨trivial, rfl⟩) ?_⟩
          · simp only [Fine, Lw, List.length_cons] at hf hl; omega
          conv => whnf
          exact hr _ _ _ _ _ _ rfl rfl (hk.ok _ _ _ _ (by
            have h : withinS e d [91] [93] (inS e d) _ = _ := h
            simp only [h, R.bind, putS]))
        · conv => whnf
          exact hp _ _ rfl (hk.bad _ _ (by
            have h : withinS e d [91] [93] (inS e d) _ = _ := h
            simp only [h, R.bind]))
      · have h1 : isS [91] r = false := h1
        simp only [primS, h1] at hk
        conv => whnf
        refine ⟨[], _, _, _, _, _, _, _, _, _, _, _, rfl, rfl, PutK.nils hn ?_⟩
        conv => whnf
        exact hr _ _ _ _ _ _ rfl rfl (hk.ok _ _ _ _ rfl)
    | _ =>
      conv => whnf
      refine ⟨by simp; omega, ?_⟩
      conv => whnf
      refine ⟨_, _, _, _, _, _, _, rfl, rfl, ⟨fun h => ?_, fun h => ?_⟩⟩
      · have g0 : (tx == [116, 114, 117, 101]) = true := h
        simp only [primS, g0] at hk
        conv => whnf
        refine ⟨[], _, _, _, _, _, _, _, _, _, _, _, rfl, rfl, PutK.nils hn ?_⟩
        conv => whnf
        exact hr _ _ _ _ _ _ rfl rfl (hk.ok _ _ _ _ rfl)
      have g0 : (tx == [116, 114, 117, 101]) = false := h
      conv => whnf
      refine ⟨_, _, _, _, _, _, _, rfl, rfl, ⟨fun h => ?_, fun h => ?_⟩⟩
      · have g1 : (tx == [102, 97, 108, 115, 101]) = true := h
        simp only [primS, g0, g1] at hk
        conv => whnf
        refine ⟨[], _, _, _, _, _, _, _, _, _, _, _, rfl, rfl, PutK.nils hn ?_⟩
        conv => whnf
        exact hr _ _ _ _ _ _ rfl rfl (hk.ok _ _ _ _ rfl)
      have g1 : (tx == [102, 97, 108, 115, 101]) = false := h
      conv => whnf
      refine ⟨_, _, _, _, _, _, _, rfl, rfl, ⟨fun h => ?_, fun h => ?_⟩⟩
      · have g2 : (tx == [108, 101, 110]) = true := h
        simp only [primS, g0, g1, g2] at hk
        conv => whnf
        refine ⟨_, _, _, _, _, _, rfl, rfl, ⟨fun t' ts' ns' mo' h => ?_, fun a er h => ?_⟩⟩
        · have hl := ident_le _ _ _ _ h
          have h : identS e ⟨r, ns, mo⟩ = _ := h
          conv => whnf
          refine ⟨by conv => whnf, ?_⟩
          conv => whnf
          refine ⟨by conv => whnf, ?_⟩
          conv => whnf
          refine ⟨[], _, _, _, _, _, _, _, _, _, _, _, rfl, rfl, PutK.nils (by simp only [Fine, Lw, List.length_cons, List.length_tail] at hf hl; omega) ?_⟩
          conv => whnf
          exact hr _ _ _ _ _ _ rfl rfl (hk.ok _ _ _ _ (by simp only [h, R.bind, putS]))
        · have h : identS e ⟨r, ns, mo⟩ = _ := h
          conv => whnf
          exact hp _ _ rfl (hk.bad _ _ (by simp only [h, R.bind]))
      have g2 : (tx == [108, 101, 110]) = false := h
      conv => whnf
      refine ⟨_, _, _, _, _, _, _, rfl, rfl, ⟨fun h => ?_, fun h => ?_⟩⟩
      · have g3 : (tx == [38]) = true := h
        simp only [primS, g0, g1, g2, g3] at hk
        conv => whnf
        refine ⟨_, _, _, _, _, _, rfl, rfl, ⟨fun t' ts' ns' mo' h => ?_, fun a er h => ?_⟩⟩
        · have hl := ident_le _ _ _ _ h
          have h : identS e ⟨r, ns, mo⟩ = _ := h
          conv => whnf
          refine ⟨by conv => whnf, ?_⟩
          conv => whnf
          refine ⟨by conv => whnf, ?_⟩
          conv => whnf
          refine ⟨[], _, _, _, _, _, _, _, _, _, _, _, rfl, rfl, PutK.nils (by simp only [Fine, Lw, List.length_cons, List.length_tail] at hf hl; omega) ?_⟩
          conv => whnf
          exact hr _ _ _ _ _ _ rfl rfl (hk.ok _ _ _ _ (by simp only [h, R.bind, putS]))
        · have h : identS e ⟨r, ns, mo⟩ = _ := h
          conv => whnf
          exact hp _ _ rfl (hk.bad _ _ (by simp only [h, R.bind]))
      have g3 : (tx == [38]) = false := h
      conv => whnf
      refine ⟨_, _, _, _, _, _, _, rfl, rfl, ?_⟩
      conv => whnf
      refine two_intro (fun h => ?_) (fun h => ?_)
      · have g4 : (tx == [40]) = true := h
        simp only [primS, g0, g1, g2, g3, g4] at hk
        have hw : isS [40] (⟨_, tn, ta, tx⟩ :: r) = true := h
        conv => whnf
        refine ⟨_, _, _, _, _, _, _, rfl, rfl, ?_⟩
        conv => whnf
        refine two_true hw ?_
        conv => whnf
        cases d with
        | zero =>
          refine two_intro (fun h3 => ?_) (fun h3 => ?_)
          · conv => whnf
            refine ⟨_, _, _, _, _, _, _, rfl, rfl, ?_⟩
            conv => whnf
            exact hp _ _ rfl (hk.bad _ _ (by simp [withinS, hw, R.bind]))
          · simp [ho] at h3
        | succ d =>
          refine two_intro (fun h3 => ?_) (fun h3 => ?_)
          · simp [ho] at h3; omega
          · conv => whnf
            refine ⟨_, _, _, _, _, _, _, rfl, rfl, ⟨fun a ts' ns' mo' h => ?_, fun a er h => ?_⟩⟩
            · simp only [wantS, hw, dropS, R.ok.injEq, PS.mk.injEq] at h
              obtain ⟨-, rfl, rfl, rfl⟩ := h
              conv => whnf
              have hd2 : d < 1000 := by have := hf.1; omega
              have hl0 := isS_pos hw
              refine ⟨d, 5, _, _, _, _, _, _, _, rfl, rfl, in_op ho hd2, rfl, by omega, by omega, by omega, ?_, ⟨fun x ts' ns' mo' h => ?_, fun a er h => ?_⟩⟩
              · simp only [Fine, List.length_cons, List.length_tail] at hf hl0 ⊢; omega
              · rw [in_mo ho hd2] at h
                have hl := ex_le e d _ _ _ h
                conv => whnf
                refine ⟨_, _, _, _, _, _, _, rfl, rfl, ⟨fun u ts2 ns2 mo2 h2 => ?_, fun a er h2 => ?_⟩⟩
                · have hl2 := want_le _ _ _ _ _ h2
                  conv => whnf
                  rw [out_op ho hd2]
                  exact hr _ _ _ _ _ _ rfl rfl (hk.ok _ _ _ _ (by
                    have h : inS e (d + 1) _ = _ := h
                    have h2 : wantS e [41] _ = _ := h2
                    simp only [withinS, hw, h, h2, R.bind]))
                · conv => whnf
                  exact hp _ _ rfl (hk.bad _ _ (by
                    have h : inS e (d + 1) _ = _ := h
                    have h2 : wantS e [41] _ = _ := h2
                    simp only [withinS, hw, h, h2, R.bind]))
              · rw [in_mo ho hd2] at h
                conv => whnf
                exact hp _ _ rfl (hk.bad _ _ (by
                  have h : inS e (d + 1) _ = _ := h
                  simp only [withinS, hw, h, R.bind]))
            · simp [wantS, hw] at h
      · have g4 : (tx == [40]) = false := h
        simp only [primS, g0, g1, g2, g3, g4] at hk
        conv => whnf
        refine ⟨_, _, _, _, _, _, rfl, rfl, ⟨fun a ts' ns' mo' h => by simp [identS] at h, fun a er h => ?_⟩⟩
        simp only [identS, R.bad.injEq] at h
        obtain ⟨rfl, rfl⟩ := h
        conv => whnf
        exact hp _ _ rfl (hk.bad _ _ rfl)
end Go.Proofs.YtbcngegcpdppfaaGreatDoor
