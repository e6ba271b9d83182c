/-
  Parser, part 2: the parser's state as the layer AE sees it, and the contracts of its small functions (is, take, skip, want, ident, fail, put, types, rows). No statement of the seat is proved here.
  Parser, part 3: tokens are only taken, and few nodes are put for each: in plain Lean. No statement of the seat is proved here.
  Parser, part 4: the contracts of the functions that read expressions, by depth and by row. No statement of the seat is proved here.
  Parser, part 5: the function that reads operands with signs between, row by row, and all expressions by depth. No statement of the seat is proved here.
  Parser, part 6: all expressions; answers handed on step by step. No statement of the seat is proved here.
  Parser, part 7: the contracts of the functions that read statements. No statement of the seat is proved here.
  Parser, part 8: the contracts of the functions that read statements that end with a sign. No statement of the seat is proved here.
  Parser, part 9: the contracts of the functions that read statements and blocks, by depth. No statement of the seat is proved here.
  Parser, part 10: all statements by depth; declarations. No statement of the seat is proved here.
  Parser, part 11: declarations, procedures. No statement of the seat is proved here.
  Parser, part 12: bodies of procedures. No statement of the seat is proved here.
  Parser, part 13: procedures, programs. No statement of the seat is proved here.
  Parser, part 14: programs. No statement of the seat is proved here.
  Trees, part 1: what tree.Sound and tree.Depth compute, in plain Lean. No program in sight; no statement of the seat is proved here.
  Tokens, part 1: what the cutter computes, in plain Lean. No program in sight; no statement of the seat is proved here.
  Tokens, part 2: the contracts of the cutter's small functions. No statement of the seat is proved here.
-/
import Derived.Lib.IndexMore
import Derived.Lib.AtoiAll
import Derived.Lib.ItoaNum
import Derived.Test.YtbcngegcpdppfaaGreatDoorPk1
import Derived.Test.YtbcngegcpdppfaaGreatDoorPk2
import Derived.Test.YtbcngegcpdppfaaGreatDoorPk3
namespace Go.Proofs.YtbcngegcpdppfaaGreatDoor
open Go.AE Go.Ru
set_option maxRecDepth 100000


/-! ### the state, told -/
def encTok (t : Tok) : List PV := [.int .i64 t.k.code, .int .i64 t.n, .int .i64 t.at_, .str t.tx]
def encs (e : Int) : List Tok → Nat → List PV
  | [], _ => [.int .i64 5, .int .i64 0, .int .i64 e, .str []]
  | t :: r, i => match i with
    | 0 => encTok t
    | i + 1 => encs e r i
def kidF (l : List Int) (i : Nat) : List PV := [.int .i64 (l.getD i 0)]
def encNode (n : Nd) : List PV := [.int .i64 n.k, .int .i64 n.n, .int .i64 n.at_, .str n.tx, .sl 1 n.kids.length (kidF n.kids)]
def nodeF (ns : List Nd) (i : Nat) : List PV := encNode (ns.getD i default)
def pb (e : Int) (ts : List Tok) (n : Nat) (op mo : Int) : ABlk := .box 74 [.p (.sl 4 (ts.length + 1) (encs e ts)), .slr 1 0 0 n, .p (.int .i64 op), .p (.int .i64 mo)]
def nb (ns : List Nd) : ABlk := .arr 41 5 0 ns.length (fun i => pvs (nodeF ns i))
def encP (e : Int) (ts : List Tok) (ns : List Nd) (op mo : Int) : List ABlk := [pb e ts ns.length op mo, nb ns]
def pp : AV := .ptr 0 0 1 0 0
def wrongV (a er : Int) : AV := .iface 71 (.agg [.p (.int .i64 a), .p (.int .i64 er)])

theorem encP_cl (e : Int) (ts : List Tok) (ns : List Nd) (op mo : Int) (r : Nat) : (hp (encP e ts ns op mo) r).cl 2 :=
  clK.hp (K := encP e ts ns op mo) ⟨(rfl : AV.cls 2 _ = true), fun i _ => rfl, trivial⟩ r

/-- a call on a parser's state, whatever lies behind it -/
theorem frameL {G : AG} (hG : GOk Tryz.prog G) (n : Nat) {f : FuncId} {args : List AV} {e : Int} {ts : List Tok} {ns : List Nd} {op mo : Int} {X : List ABlk} {k : AO → List ABlk → Prop} (hcl : AV.cls 2 args = true)
    (h : ∀ Q : AO → List ABlk → Prop,
      (∀ v K' ts' ns' op' mo', v.cl 2 = true → lesK (takeN K' 2) (encP e ts' ns' op' mo') → k (.ret v) (encP e ts' ns' op' mo' ++ X) → Q (.ret v) K') →
      (∀ v K', v.cl 0 = true → k (.pan v) (deads 2 ++ X) → Q (.pan v) K') → acall1 T0 G n f args (encP e ts ns op mo) Q) :
    ACalls Tryz.prog f args (encP e ts ns op mo ++ X) k := by
  refine (ACalls.frame (K0 := encP e ts ns op mo) (k := fun ao K1 => k ao (K1 ++ X)) hcl (fun r _ => encP_cl e ts ns op mo r)
    (ACalls.post (k := fun ao K1 => ∃ K2, lesK K1 K2 ∧ frameK 2 (fun ao K1 => k ao (K1 ++ X)) ao K2) (call_ok hG n f args _ _ (h _ ?_ ?_)) ?_)).mono ?_
  · intro v K' ts' ns' op' mo' h1 h3 h4
    refine ⟨encP e ts' ns' op' mo' ++ dropN K' 2, h3.head, h1, ?_, fun r hr => ?_, ?_⟩
    · simp [encP]
    · rw [hp_append, if_pos (show r < (encP e ts' ns' op' mo').length from hr)]; exact encP_cl e ts' ns' op' mo' r
    · have h5 : takeN (encP e ts' ns' op' mo' ++ dropN K' 2) 2 = encP e ts' ns' op' mo' := by simp [encP, takeN, takeN_zero]
      show k (.ret v) (takeN (encP e ts' ns' op' mo' ++ dropN K' 2) 2 ++ X)
      rw [h5]; exact h4
  · intro v K' h1 h2; exact ⟨K', lesK.refl _, h1, h2⟩
  · rintro (v | v) K1 ⟨K2, h1, h2⟩
    · exact ⟨v, K2, Wk1.le (AV.le_refl _) h1, h2⟩
    · exact ⟨v, K2, Wk1.le (AV.le_refl _) h1, h2⟩
  · rintro ao K ⟨K1, rfl, h⟩; exact h

theorem frameP {G : AG} (hG : GOk Tryz.prog G) (n : Nat) {f : FuncId} {args : List AV} {e : Int} {ts : List Tok} {ns : List Nd} {op mo : Int} {X : List ABlk} {k : AO → List ABlk → Prop} (hcl : AV.cls 2 args = true)
    (h : ∀ Q : AO → List ABlk → Prop,
      (∀ v K' ts' ns' op' mo', v.cl 2 = true → takeN K' 2 = encP e ts' ns' op' mo' → k (.ret v) (encP e ts' ns' op' mo' ++ X) → Q (.ret v) K') →
      (∀ v K', v.cl 0 = true → k (.pan v) (deads 2 ++ X) → Q (.pan v) K') → acall1 T0 G n f args (encP e ts ns op mo) Q) :
    ACalls Tryz.prog f args (encP e ts ns op mo ++ X) k :=
  frameL hG n hcl fun Q hr hp => h Q (fun v K' ts' ns' op' mo' h1 h2 h3 => hr v K' ts' ns' op' mo' h1 (h2 ▸ lesK.refl _) h3) hp

/-- what a call answers, or panics with -/
structure After {α : Type} (e : Int) (r : R α) (val : α → AV) (op : Int) (X : List ABlk) (k : AO → List ABlk → Prop) : Prop where
  ok : ∀ a ts' ns' mo', r = .ok a ⟨ts', ns', mo'⟩ → k (.ret (val a)) (encP e ts' ns' op mo' ++ X)
  bad : ∀ a er, r = .bad a er → k (.pan (wrongV a er)) (deads 2 ++ X)
def intV (x : Int) : AV := .p (.int .i64 x)
def tokV (t : Tok) : AV := .agg [.p (.int .i64 t.k.code), .p (.int .i64 t.n), .p (.int .i64 t.at_), .p (.str t.tx)]

/-! ### is -/
def cIs : AC := fun args K k => ∃ e ts ns op mo w X, args = [pp, .p (.str w)] ∧ K = encP e ts ns op mo ++ X ∧ k (.ret (.p (.bool (isS w ts)))) (encP e ts ns op mo ++ X)
theorem is_ok : COk 78 cIs := by
  rintro args K k ⟨e, ts, ns, op, mo, w, X, rfl, rfl, hk⟩
  refine frameP g0_ok 9 rfl fun Q hr hp => ?_
  cases ts with
  | nil =>
    conv => whnf
    refine ⟨by simp, ?_⟩
    conv => whnf
    exact hr _ _ _ _ _ _ rfl rfl hk
  | cons t r =>
    obtain ⟨tk, tn, ta, tx⟩ := t
    cases tk <;>
    · conv => whnf
      refine ⟨by simp; omega, ?_⟩
      conv => whnf
      exact hr _ _ _ _ _ _ rfl rfl hk

/-! ### take, fail, skip, want, ident -/
def cTake : AC := fun args K k => ∃ e t r ns op mo X, args = [pp] ∧ K = encP e (t :: r) ns op mo ++ X ∧ k (.ret (tokV t)) (encP e r ns op mo ++ X)
theorem take_ok : COk 79 cTake := by
  rintro args K k ⟨e, t, r, ns, op, mo, X, rfl, rfl, hk⟩
  refine frameP g0_ok 9 rfl fun Q hr hp => ?_
  conv => whnf
  refine ⟨by simp; omega, ?_⟩
  conv => whnf
  refine ⟨by simp; omega, ?_⟩
  conv => whnf
  exact hr _ _ r ns op mo rfl rfl hk

def cFail : AC := fun args K k => ∃ e ts ns op mo er X, args = [pp, .p (.int .i64 er)] ∧ K = encP e ts ns op mo ++ X ∧ k (.pan (wrongV (hd e ts) er)) (deads 2 ++ X)
theorem fail_ok : COk 45 cFail := by
  rintro args K k ⟨e, ts, ns, op, mo, er, X, rfl, rfl, hk⟩
  refine frameP g0_ok 9 rfl fun Q hr hp => ?_
  cases ts <;>
  · conv => whnf
    refine ⟨by simp <;> omega, ?_⟩
    conv => whnf
    exact hp _ _ rfl hk

def g1 : AG := gput 78 cIs (gput 79 cTake (gput 45 cFail g0))
theorem g1_ok : GOk Tryz.prog g1 := gput_ok is_ok (gput_ok take_ok (gput_ok fail_ok g0_ok))

theorem isS_cons {w : Bs} {ts : List Tok} (h : isS w ts = true) : ∃ t r, ts = t :: r := by
  cases ts with
  | nil => simp [isS] at h
  | cons t r => exact ⟨t, r, rfl⟩

structure SkipK (e : Int) (ts : List Tok) (ns : List Nd) (op mo : Int) (w : Bs) (X : List ABlk) (k : AO → List ABlk → Prop) : Prop where
  yes : isS w ts = true → k (.ret (.p (.bool true))) (encP e ts.tail ns op mo ++ X)
  no : isS w ts = false → k (.ret (.p (.bool false))) (encP e ts ns op mo ++ X)
def cSkip : AC := fun args K k => ∃ e ts ns op mo w X, args = [pp, .p (.str w)] ∧ K = encP e ts ns op mo ++ X ∧ SkipK e ts ns op mo w X k
theorem skip_ok : COk 116 cSkip := by
  rintro args K k ⟨e, ts, ns, op, mo, w, X, rfl, rfl, hk⟩
  refine frameP g1_ok 9 rfl fun Q hr hp => ?_
  conv => whnf
  refine ⟨_, _, _, _, _, _, _, rfl, rfl, ?_⟩
  conv => whnf
  cases h : isS w ts with
  | false =>
    conv => whnf
    exact hr _ _ _ _ _ _ rfl rfl (hk.no h)
  | true =>
    obtain ⟨t, r, rfl⟩ := isS_cons h
    conv => whnf
    refine ⟨_, _, _, _, _, _, _, rfl, rfl, ?_⟩
    conv => whnf
    exact hr _ _ _ _ _ _ rfl rfl (hk.yes h)

def cWant : AC := fun args K k => ∃ e ts ns op mo w X, args = [pp, .p (.str w)] ∧ K = encP e ts ns op mo ++ X ∧ After e (wantS e w ⟨ts, ns, mo⟩) (fun _ => .tup []) op X k
def g2 : AG := gput 116 cSkip g1
theorem g2_ok : GOk Tryz.prog g2 := gput_ok skip_ok g1_ok
theorem want_ok : COk 82 cWant := by
  rintro args K k ⟨e, ts, ns, op, mo, w, X, rfl, rfl, hk⟩
  refine frameP g2_ok 9 rfl fun Q hr hp => ?_
  conv => whnf
  refine ⟨_, _, _, _, _, _, _, rfl, rfl, ⟨fun h => ?_, fun h => ?_⟩⟩
  · conv => whnf
    exact hr _ _ _ _ _ _ rfl rfl (hk.ok () _ _ _ (by simp [wantS, h, dropS]))
  · conv => whnf
    refine ⟨_, _, _, _, _, _, _, rfl, rfl, ?_⟩
    conv => whnf
    exact hp _ _ rfl (hk.bad _ _ (by simp [wantS, h]))

def cIdent : AC := fun args K k => ∃ e ts ns op mo X, args = [pp] ∧ K = encP e ts ns op mo ++ X ∧ After e (identS e ⟨ts, ns, mo⟩) tokV op X k
theorem ident_ok : COk 80 cIdent := by
  rintro args K k ⟨e, ts, ns, op, mo, X, rfl, rfl, hk⟩
  refine frameP g2_ok 9 rfl fun Q hr hp => ?_
  cases ts with
  | nil =>
    conv => whnf
    refine ⟨by simp, ?_⟩
    conv => whnf
    refine ⟨_, _, _, _, _, _, _, rfl, rfl, ?_⟩
    conv => whnf
    exact hp _ _ rfl (hk.bad _ _ rfl)
  | cons t r =>
    obtain ⟨tk, tn, ta, tx⟩ := t
    cases tk with
    | name =>
      conv => whnf
      refine ⟨by simp; omega, ?_⟩
      conv => whnf
      refine ⟨_, _, _, _, _, _, _, rfl, rfl, ?_⟩
      conv => whnf
      exact hr _ _ _ _ _ _ rfl rfl (hk.ok _ _ _ _ rfl)
    | _ =>
      conv => whnf
      refine ⟨by simp; omega, ?_⟩
      conv => whnf
      refine ⟨_, _, _, _, _, _, _, rfl, rfl, ?_⟩
      conv => whnf
      exact hp _ _ rfl (hk.bad _ _ rfl)
def g3 : AG := gput 82 cWant (gput 80 cIdent g2)
theorem g3_ok : GOk Tryz.prog g3 := gput_ok want_ok (gput_ok ident_ok g2_ok)

/-! ### put -/
theorem put0 {e : Int} {ts : List Tok} {ns : List Nd} {op mo : Int} {n : Nd} {X : List ABlk} {k : AO → List ABlk → Prop} (hn : ns.length < 1000000)
    (hk : k (.ret (intV ns.length)) (encP e ts (ns ++ [n]) op mo ++ X)) :
    ACalls Tryz.prog 48 [pp, .agg [.p (.int .i64 n.k), .p (.int .i64 n.n), .p (.int .i64 n.at_), .p (.str n.tx), .p .nils], .p (.sl 1 n.kids.length (kidF n.kids))] (encP e ts ns op mo ++ X) k := by
  refine frameL g0_ok 9 rfl fun Q hr hp => ?_
  conv => whnf
  refine ⟨by conv => whnf, ?_⟩
  refine ⟨⟨rfl, rfl, rfl, fun i hi => ?_⟩, ?_⟩
  · obtain rfl : i = 0 := by omega
    rfl
  conv => whnf
  refine ⟨by simp; omega, ?_⟩
  conv => whnf
  have hv : IntKind.i64.wrap (((ns.length + 1 : Nat) : Int) - 1) = ns.length := by rw [w64] <;> omega
  rw [hv]
  refine hr _ _ ts (ns ++ [n]) op mo rfl ⟨ABlk.le_of_eq (by simp [pb]), ABlk.arr_eq (by simp) fun i hi => ?_, trivial⟩ hk
  by_cases h : i < ns.length
  · rw [catF_lt h]
    show pvs (nodeF ns i) = pvs (nodeF (ns ++ [n]) i)
    simp [nodeF, List.getElem?_append_left h]
  · obtain rfl : i = ns.length := by omega
    rw [catF_ge (Nat.le_refl _), Nat.sub_self]
    show _ = pvs (nodeF (ns ++ [n]) ns.length)
    simp [nodeF]
    rfl

/-- what kids are: none, or a row that nobody writes to behind this -/
structure PutK (e : Int) (ts : List Tok) (ns : List Nd) (op mo : Int) (n : Nd) (kv : AV) (X : List ABlk) (k : AO → List ABlk → Prop) : Prop where
  small : ns.length < 1000000
  none : kv = .p .nils → n.kids = [] ∧ k (.ret (intV ns.length)) (encP e ts (ns ++ [n]) op mo ++ X)
  row : ∀ r ver m, kv = .slr r ver 0 m → ∃ j f, r = j + 2 ∧ nth X j = some (.arr 3 1 ver m f) ∧ n.kids.length = m ∧ (∀ i, i < m → f i = [intV (n.kids.getD i 0)]) ∧ k (.ret (intV ns.length)) (encP e ts (ns ++ [n]) op mo ++ setN X j .dead)
  sort : kv = .p .nils ∨ ∃ r ver m, kv = .slr r ver 0 m
def cPut : AC := fun args K k => ∃ kids e ts ns op mo kd nn na tx kv X, args = [pp, .agg [.p (.int .i64 kd), .p (.int .i64 nn), .p (.int .i64 na), .p (.str tx), .p .nils], kv] ∧ K = encP e ts ns op mo ++ X ∧ PutK e ts ns op mo ⟨kd, nn, na, tx, kids⟩ kv X k
theorem PutK.nils {e : Int} {ts : List Tok} {ns : List Nd} {op mo kd nn na : Int} {tx : Bs} {X : List ABlk} {k : AO → List ABlk → Prop} (hs : ns.length < 1000000)
    (h : k (.ret (intV ns.length)) (encP e ts (ns ++ [⟨kd, nn, na, tx, []⟩]) op mo ++ X)) : PutK e ts ns op mo ⟨kd, nn, na, tx, []⟩ (.p .nils) X k :=
  ⟨hs, fun _ => ⟨rfl, h⟩, fun _ _ _ h => by simp at h, .inl rfl⟩
theorem PutK.slr {e : Int} {ts : List Tok} {ns : List Nd} {op mo kd nn na : Int} {tx : Bs} {kids : List Int} {j r ver m : Nat} {f : Nat → List AV} {X : List ABlk} {k : AO → List ABlk → Prop} (hs : ns.length < 1000000)
    (hr : r = j + 2) (hj : nth X j = some (.arr 3 1 ver m f)) (hm : kids.length = m) (hf : ∀ i, i < m → f i = [intV (kids.getD i 0)])
    (h : k (.ret (intV ns.length)) (encP e ts (ns ++ [⟨kd, nn, na, tx, kids⟩]) op mo ++ setN X j .dead)) : PutK e ts ns op mo ⟨kd, nn, na, tx, kids⟩ (.slr r ver 0 m) X k :=
  ⟨hs, fun h => by simp at h, fun r' ver' m' h' => by
    simp only [AV.slr.injEq] at h'
    obtain ⟨rfl, rfl, -, rfl⟩ := h'
    exact ⟨j, f, hr, hj, hm, hf, h⟩, .inr ⟨_, _, _, rfl⟩⟩
theorem put_ok : COk 48 cPut := by
  rintro args K k ⟨kids, e, ts, ns, op, mo, kd, nn, na, tx, kv, X, rfl, rfl, hk⟩
  rcases hk.sort with rfl | ⟨r, ver, m, rfl⟩
  · obtain ⟨h1, h2⟩ := hk.none rfl
    refine (put0 (n := ⟨kd, nn, na, tx, kids⟩) hk.small h2).pre (Wk.le ⟨AV.le_refl _, AV.le_refl _, ?_, trivial⟩ (lesK.refl _))
    rw [h1]; exact AV.nils_le 1 _
  · obtain ⟨j, f, rfl, hj, rfl, hf, h2⟩ := hk.row _ _ _ rfl
    refine (put0 (n := ⟨kd, nn, na, tx, kids⟩) hk.small h2).pre fun w m Args hS hV => ?_
    have hj' : nth (encP e ts ns op mo ++ X) (j + 2) = some (.arr 3 1 ver kids.length f) := hj
    obtain ⟨m', h3, h4, h5⟩ := freeze_sl hS hj' (kidF kids) hf
    refine ⟨m', h3, h4, hV.1, fun i hi hi' => ?_⟩
    have h6 := fun i hi hi' => (hV.2 i hi hi').mono h3
    rcases i with _ | _ | _ | i
    · exact h6 0 hi hi'
    · exact h6 1 hi hi'
    · exact h5 _ (hV.2 2 hi hi')
    · simp at hi; omega
def g4 : AG := gput 48 cPut g3
theorem g4_ok : GOk Tryz.prog g4 := gput_ok put_ok g3_ok

/-! ### one of some texts -/
def idxG (ts : List Tok) : Nat → List Bs → Int
  | _, [] => -1
  | i, w :: r => match isS w ts with
    | true => i
    | false => idxG ts (i + 1) r
def strF (l : List Bs) (i : Nat) : List PV := [.str (l.getD i [])]
def isF : AV := .fn 78 [pp] []
def cIdx : AC := fun args K k => ∃ e ts ns op mo l X, args = [.p (.sl 1 (List.length l) (strF l)), isF] ∧ K = encP e ts ns op mo ++ X ∧ l.length < 1000 ∧ k (.ret (intV (idxG ts 0 l))) (encP e ts ns op mo ++ X)
theorem idx_ok : COk 117 cIdx := by
  rintro args K k ⟨e, ts, ns, op, mo, l, X, rfl, rfl, hl, hk⟩
  refine frameP g1_ok 9 rfl fun Q hr hp => ?_
  conv => whnf
  refine loop_by (ι := Nat) (fun i => ⟨[(8, intV i), (7, intV l.length), (1, isF), (0, .p (.sl 1 l.length (strF l)))], encP e ts ns op mo⟩)
      (fun i => i ≤ l.length ∧ idxG ts i (l.drop i) = idxG ts 0 l) (fun i => l.length - i) 0 ⟨AV.le_refl _, AV.le_refl _, AV.le_refl _, AV.le_refl _, trivial⟩ (lesK.refl _) ⟨by omega, rfl⟩ ?_
  intro Y hle i ⟨hi, he⟩ ih
  conv => whnf
  refine two_intro (fun h => ?_) (fun h => ?_)
  · have h : i < l.length := by simpa using h
    rw [List.drop_eq_getElem_cons h] at he
    conv => whnf
    refine ⟨⟨by omega, by omega, rfl⟩, ?_⟩
    conv => whnf
    refine ⟨e, ts, ns, op, mo, _, [], rfl, rfl, ?_⟩
    conv => whnf
    have hi2 : ((i : Int)).toNat = i := by omega
    have e1 : l.getD (Int.toNat i) [] = l[i] := by simp [List.getD_eq_getElem?_getD, h]
    refine two_intro (fun h2 => ?_) (fun h2 => ?_)
    · conv => whnf
      have h2 : isS l[i] ts = true := e1 ▸ h2
      simp only [idxG, h2] at he
      exact hr _ _ ts ns op mo rfl rfl (he ▸ hk)
    · conv => whnf
      have h2 : isS l[i] ts = false := e1 ▸ h2
      simp only [idxG, h2] at he
      refine hle _ _ (Le.env ?_ (lesK.refl _)) (ih (i + 1) (by omega) ⟨by omega, he⟩)
      refine ⟨AV.le_of_eq ?_, AV.le_refl _, AV.le_refl _, AV.le_refl _, trivial⟩
      show AV.p (.int .i64 (IntKind.i64.wrap ((i : Int) + 1))) = intV ((i + 1 : Nat) : Int)
      rw [w64 (by omega)]; rfl
  · have h : ¬ i < l.length := by simpa using h
    obtain rfl : i = l.length := by omega
    rw [List.drop_length] at he
    conv => whnf
    rw [← he] at hk
    exact hr _ _ ts ns op mo rfl rfl hk
/-- the same of a row of memory, to which nobody writes behind this -/
def cIdx2 : AC := fun args K k => cIdx args K k ∨ ∃ l e ts ns op mo j r ver m f X, args = [.slr r ver 0 m, isF] ∧ K = encP e ts ns op mo ++ X ∧ r = j + 2 ∧ nth X j = some (.arr 9 1 ver m f) ∧ List.length l = m ∧ m < 1000 ∧ (∀ i, i < m → f i = pvs (strF l i)) ∧ k (.ret (intV (idxG ts 0 l))) (encP e ts ns op mo ++ setN X j .dead)
theorem idx2_ok : COk 117 cIdx2 := by
  rintro args K k (h | ⟨l, e, ts, ns, op, mo, j, r, ver, m, f, X, rfl, rfl, rfl, hj, rfl, hl, hf, hk⟩)
  · exact idx_ok args K k h
  · refine (idx_ok [.p (.sl 1 l.length (strF l)), isF] (encP e ts ns op mo ++ setN X j .dead) k ⟨e, ts, ns, op, mo, l, _, rfl, rfl, hl, hk⟩).pre fun w m Args hS hV => ?_
    have hj' : nth (encP e ts ns op mo ++ X) (j + 2) = some (.arr 9 1 ver l.length f) := hj
    obtain ⟨m', h3, h4, h5⟩ := freeze_sl hS hj' (strF l) hf
    refine ⟨m', h3, h4, hV.1, fun i hi hi' => ?_⟩
    have h6 := fun i hi hi' => (hV.2 i hi hi').mono h3
    rcases i with _ | _ | i
    · exact h5 _ (hV.2 0 hi hi')
    · exact h6 1 hi hi'
    · simp at hi; omega
def g5 : AG := gput 117 cIdx2 g4
theorem g5_ok : GOk Tryz.prog g5 := gput_ok idx2_ok g4_ok

theorem idxG_any (ts : List Tok) (l : List Bs) (i : Nat) : decide (idxG ts i l ≥ 0) = anyS l ts := by
  induction l generalizing i with
  | nil => rfl
  | cons w r ih =>
    simp only [idxG, anyS, List.any_cons]
    by_cases h : isS w ts = true
    · simp [h]
    · have h : isS w ts = false := by simpa using h
      simp only [h]
      rw [Bool.false_or]; exact ih (i + 1)

def cAny : AC := fun args K k => ∃ e ts ns op mo l X, args = [.p (.sl 1 (List.length l) (strF l)), isF] ∧ K = encP e ts ns op mo ++ X ∧ l.length < 1000 ∧ k (.ret (.p (.bool (anyS l ts)))) (encP e ts ns op mo ++ X)
theorem any_ok : COk 111 cAny := by
  rintro args K k ⟨e, ts, ns, op, mo, l, X, rfl, rfl, hl, hk⟩
  refine frameP g5_ok 9 rfl fun Q hr hp => ?_
  conv => whnf
  refine .inl ⟨e, ts, ns, op, mo, l, [], rfl, rfl, hl, ?_⟩
  conv => whnf
  rw [← idxG_any ts l 0] at hk
  exact hr _ _ ts ns op mo rfl rfl hk

/-- the signs of a row -/
def cRows : AC := fun args K k => ∃ j : Nat, ∃ kk, j ≤ 4 ∧ args = [.p (.int .i64 kk)] ∧ kk = 4 - (j : Int) ∧ k (.ret (.p (.sl 1 (rowS j).length (strF (rowS j))))) K
theorem rows_ok : COk 112 cRows := by
  rintro args K k ⟨j, kk, hj, rfl, rfl, hk⟩
  refine (ACalls.frame (K0 := []) (X := K) (k := fun ao K1 => k ao (K1 ++ K)) rfl (fun r h => by simp at h) ?_).mono (fun ao K1 h => ?_)
  · refine (ACalls.post (k := fun ao K1 => ∃ f, ao = .ret (.slr 0 0 0 (rowS j).length) ∧ K1 = [.arr 9 1 0 (rowS j).length f] ∧ ∀ i, i < (rowS j).length → f i = pvs (strF (rowS j) i)) (call_ok g0_ok 9 _ _ _ _ ?_) ?_)
    · have hc : j = 0 ∨ j = 1 ∨ j = 2 ∨ j = 3 ∨ j = 4 := by omega
      rcases hc with rfl | rfl | rfl | rfl | rfl
      · conv => whnf
        exact ⟨_, rfl, rfl, allLt_ok ⟨⟨⟨trivial, rfl⟩, rfl⟩, rfl⟩⟩
      · conv => whnf
        exact ⟨_, rfl, rfl, allLt_ok ⟨⟨trivial, rfl⟩, rfl⟩⟩
      · conv => whnf
        exact ⟨_, rfl, rfl, allLt_ok ⟨⟨⟨⟨⟨⟨trivial, rfl⟩, rfl⟩, rfl⟩, rfl⟩, rfl⟩, rfl⟩⟩
      · conv => whnf
        exact ⟨_, rfl, rfl, allLt_ok ⟨trivial, rfl⟩⟩
      · conv => whnf
        exact ⟨_, rfl, rfl, allLt_ok ⟨trivial, rfl⟩⟩
    · rintro ao K1 ⟨f, rfl, rfl, hf⟩
      refine ⟨_, _, Wk1.freeze (r := 0) rfl (strF (rowS j)) hf, rfl, ?_, fun r h => by simp at h, hk⟩
      simp
  · obtain ⟨K2, rfl, h⟩ := h; exact h
def g6 : AG := gput 111 cAny (gput 112 cRows g5)
theorem g6_ok : GOk Tryz.prog g6 := gput_ok any_ok (gput_ok rows_ok g5_ok)

def typeL : List Bs := [[105, 110, 116], [98, 111, 111, 108], [97, 114, 114], [102, 117, 110]]
theorem types_eq (ts : List Tok) : idxG ts 0 typeL + 1 = typesS ts := by
  simp only [typeL, idxG, typesS]
  split <;> rename_i h1 <;> simp only [h1]
  · rfl
  split <;> rename_i h2 <;> simp only [h2]
  · rfl
  split <;> rename_i h3 <;> simp only [h3]
  · rfl
  split <;> rename_i h4 <;> simp only [h4]
  · rfl
  · rfl
theorem types_in (ts : List Tok) : 0 ≤ typesS ts ∧ typesS ts ≤ 4 := by
  simp only [typesS]
  repeat' split
  all_goals omega

def cTypes : AC := fun args K k => ∃ e ts ns op mo X, args = [pp] ∧ K = encP e ts ns op mo ++ X ∧ k (.ret (intV (typesS ts))) (encP e ts ns op mo ++ X)
theorem typesC_ok : COk 87 cTypes := by
  rintro args K k ⟨e, ts, ns, op, mo, X, rfl, rfl, hk⟩
  refine frameP g5_ok 9 rfl fun Q hr hp => ?_
  conv => whnf
  refine .inr ⟨typeL, e, ts, ns, op, mo, 0, _, _, _, _, _, rfl, rfl, rfl, rfl, rfl, by decide, allLt_ok ⟨⟨⟨⟨trivial, rfl⟩, rfl⟩, rfl⟩, rfl⟩, ?_⟩
  conv => whnf
  have hv : IntKind.i64.wrap (idxG ts 0 typeL + 1) = typesS ts := by
    rw [types_eq]
    have := types_in ts
    rw [w64 (by omega)]
  rw [hv]
  exact hr _ _ ts ns op mo rfl rfl hk
def g7 : AG := gput 87 cTypes g6
theorem g7_ok : GOk Tryz.prog g7 := gput_ok typesC_ok g6_ok
end Go.Proofs.YtbcngegcpdppfaaGreatDoor

namespace Go.Ru

theorem bind_ok {α β : Type} {r : R α} {f : α → PS → R β} {b : β} {s' : PS} (h : r.bind f = .ok b s') : ∃ a s, r = .ok a s ∧ f a s = .ok b s' := by
  cases r with
  | ok a s => exact ⟨a, s, rfl, h⟩
  | bad a e => simp [R.bind] at h

/-- whatever is answered, of the state behind it something holds -/
def Okk {α : Type} (r : R α) (p : PS → Prop) : Prop := ∀ a s, r = .ok a s → p s
theorem Okk.bind {α β : Type} {r : R α} {f : α → PS → R β} {p q : PS → Prop} (h : Okk r p) (h' : ∀ a s, p s → Okk (f a s) q) : Okk (r.bind f) q := fun b s' hb => by
  obtain ⟨a, s, h1, h2⟩ := bind_ok hb
  exact h' a s (h a s h1) b s' h2
theorem Okk.imp {α : Type} {r : R α} {p q : PS → Prop} (h : Okk r p) (h' : ∀ s, p s → q s) : Okk r q := fun a s hr => h' s (h a s hr)
theorem Okk.pure {α : Type} {a : α} {s : PS} {p : PS → Prop} (h : p s) : Okk (.ok a s) p := fun b s' hb => by
  injection hb with _ h2
  exact h2 ▸ h
theorem Okk.bad {α : Type} {a e : Int} {p : PS → Prop} : Okk (.bad a e : R α) p := fun b s' hb => by simp at hb

/-- so much less than there was -/
def Lw (s0 : PS) (c k : Nat) (s : PS) : Prop := s.ns.length + 4 * s.ts.length + c ≤ s0.ns.length + 4 * s0.ts.length ∧ s.ts.length + k ≤ s0.ts.length

theorem isS_pos {w : Bs} {ts : List Tok} (h : isS w ts = true) : 0 < ts.length := by
  cases ts with
  | nil => simp [isS] at h
  | cons t r => simp

theorem drop_le (s : PS) (h : 0 < s.ts.length) : Lw s 4 1 (dropS s) := by
  simp only [Lw, dropS, List.length_tail]; omega
theorem want_le (e : Int) (w : Bs) (s : PS) : Okk (wantS e w s) (Lw s 4 1) := by
  unfold wantS
  split
  · rename_i h; exact .pure (drop_le s (isS_pos h))
  · exact .bad
theorem ident_le (e : Int) (s : PS) : Okk (identS e s) (Lw s 4 1) := by
  unfold identS
  split
  · exact .bad
  · rename_i t r h
    split
    · refine .pure ?_
      simp only [Lw, h, List.length_cons]; omega
    · exact .bad
theorem put_len (n : Nd) (s : PS) : Okk (putS n s) (fun s' => s'.ns.length = s.ns.length + 1 ∧ s'.ts.length = s.ts.length) := by
  unfold putS
  exact .pure (by simp)
/-- a node put behind all this -/
theorem put_le {n : Nd} {s0 s : PS} {c k : Nat} (h : Lw s0 (c + 1) k s) : Okk (putS n s) (Lw s0 c k) := (put_len n s).imp fun s' h' => by
  simp only [Lw] at h ⊢; omega
theorem Lw.trans {s0 s1 s2 : PS} {c k c' k' : Nat} (h : Lw s0 c k s1) (h' : Lw s1 c' k' s2) : Lw s0 (c + c') (k + k') s2 := by
  simp only [Lw] at h h' ⊢; omega
theorem Lw.weak {s0 s1 : PS} {c k c' k' : Nat} (h : Lw s0 c k s1) (hc : c' ≤ c) (hk : k' ≤ k) : Lw s0 c' k' s1 := by
  simp only [Lw] at h ⊢; omega
theorem Lw.refl (s : PS) : Lw s 0 0 s := by simp [Lw]

def Dm {α : Type} (c k : Nat) (m : M α) : Prop := ∀ s, Okk (m s) (Lw s c k)

theorem within_le {α : Type} (e : Int) (d : Nat) (op cl : Bs) {what : M α} {c k : Nat} (h : Dm c k what) (s : PS) : Okk (withinS e d op cl what s) (Lw s (c + 4) (k + 1)) := by
  unfold withinS
  split
  · exact .bad
  · rename_i hw
    have hp := isS_pos hw
    split
    · exact .bad
    · refine Okk.bind (h _) fun a s1 h1 => ?_
      have h2 : Lw s (c + 4) (k + 1) s1 := by
        simp only [Lw, List.length_tail] at h1 ⊢; omega
      split
      · exact .pure h2
      · refine Okk.bind (want_le _ _ _) fun _ s3 h3 => .pure ?_
        simp only [Lw] at h2 h3 ⊢; omega

theorem rowLoop_le (l : List Bs) {opnd : M Int} (h : Dm 0 0 opnd) : ∀ n x s, Okk (rowLoop l opnd n x s) (Lw s 0 0) := by
  intro n
  induction n with
  | zero => exact fun x s => .pure (Lw.refl s)
  | succ n ih =>
    intro x s
    unfold rowLoop
    split
    · exact .pure (Lw.refl s)
    · rename_i t r ht
      split
      · exact .pure (Lw.refl s)
      · refine Okk.bind (h _) fun y s1 h1 => ?_
        have h2 : Lw s 4 1 s1 := by simp only [Lw, ht, List.length_cons] at h1 ⊢; omega
        refine Okk.bind (put_le (c := 3) h2) fun x s3 h3 => (ih x s3).imp fun s4 h4 => ?_
        exact (h3.trans h4).weak (by omega) (by omega)

theorem expr_le {una : M Int} (h : Dm 3 1 una) : ∀ j, Dm 3 1 (exprS una j) := by
  intro j
  induction j with
  | zero => exact h
  | succ j ih =>
    intro s
    unfold exprS
    refine Okk.bind (ih s) fun x s1 h1 => (rowLoop_le _ (fun s => (ih s).imp fun s' h' => h'.weak (by omega) (by omega)) _ x s1).imp fun s2 h2 => ?_
    exact h1.trans h2

theorem prim_le (e : Int) (d : Nat) {inner : M Int} (h : Dm 0 0 inner) : Dm 3 1 (primS e d inner) := by
  intro s
  unfold primS
  split
  · exact .bad
  · rename_i t r ht
    have hs : Lw s 4 1 ⟨r, s.ns, s.mo⟩ := by simp only [Lw, ht, List.length_cons]; omega
    split
    · exact put_le hs
    · split
      · refine Okk.bind (within_le e d [91] [93] h _) fun x s1 h1 => put_le ((hs.trans h1).weak (by omega) (by omega))
      · exact put_le hs
    · split
      · exact put_le hs
      · split
        · exact put_le hs
        · split
          · exact Okk.bind (ident_le e _) fun t' s1 h1 => put_le ((hs.trans h1).weak (by omega) (by omega))
          · split
            · exact Okk.bind (ident_le e _) fun t' s1 h1 => put_le ((hs.trans h1).weak (by omega) (by omega))
            · split
              · exact (within_le e d [40] [41] h s).imp fun s1 h1 => h1.weak (by omega) (by omega)
              · exact .bad

theorem unaB_le (e : Int) (d : Nat) {una inner : M Int} (h1 : Dm 0 0 una) (h2 : Dm 0 0 inner) : Dm 3 1 (unaB e d una inner) := by
  intro s
  unfold unaB
  split
  · exact .bad
  · split
    · exact Okk.bind (within_le e d _ _ h1 s) fun x s1 h => put_le (h.weak (by omega) (by omega))
    · exact prim_le e d h2 s
theorem una_le (e : Int) : ∀ d, Dm 3 1 (unaS e d) := by
  intro d
  induction d with
  | zero => exact unaB_le e 0 (fun s => .bad) (fun s => .bad)
  | succ d ih =>
    exact unaB_le e (d + 1) (fun s => (ih s).imp fun s' h => h.weak (by omega) (by omega)) (fun s => (expr_le ih 5 s).imp fun s' h => h.weak (by omega) (by omega))
theorem ex_le (e : Int) (d : Nat) : Dm 3 1 (exS e d) := expr_le (una_le e d) 5
theorem Dm.weak {α : Type} {c k c' k' : Nat} {m : M α} (h : Dm c k m) (hc : c' ≤ c) (hk : k' ≤ k) : Dm c' k' m := fun s => (h s).imp fun _ h => h.weak hc hk
theorem in_le (e : Int) (d : Nat) : Dm 3 1 (inS e d) := by
  cases d with
  | zero => exact fun s => .bad
  | succ d => exact ex_le e d
theorem index_le (e : Int) (d : Nat) : Dm 7 2 (indexS e d) := within_le e d _ _ (in_le e d)

theorem comma_le {α : Type} {one : List α → M (List α)} (h : ∀ l, Dm 0 0 (one l)) : ∀ n l, Dm 0 0 (commaL one n l) := by
  intro n
  induction n with
  | zero => exact fun l s => .pure (Lw.refl s)
  | succ n ih =>
    intro l s
    unfold commaL
    split
    · rename_i hw
      refine Okk.bind (h l (dropS s)) fun l' s1 h1 => (ih l' s1).imp fun s2 h2 => ?_
      exact (((drop_le s (isS_pos hw)).trans h1).trans h2).weak (by omega) (by omega)
    · exact .pure (Lw.refl s)
theorem list_le {α : Type} {one : List α → M (List α)} (h : ∀ l, Dm 0 0 (one l)) (l : List α) : Dm 0 0 (listS one l) := by
  intro s
  unfold listS
  split
  · exact .pure (Lw.refl s)
  · exact Okk.bind (h l s) fun l' s1 h1 => (comma_le h _ l' s1).imp fun s2 h2 => (h1.trans h2).weak (by omega) (by omega)
theorem one_le {m : M Int} {c k : Nat} (h : Dm c k m) (l : List Int) : Dm c k (oneS m l) := fun s => Okk.bind (h s) fun _ _ h1 => .pure h1

theorem call_le (e : Int) (d : Nat) (a : Int) (tx : Bs) : Dm 6 2 (callS e d a tx) := by
  intro s
  unfold callS
  refine Okk.bind (ident_le e s) fun t s1 h1 => Okk.bind (put_le (c := 3) h1) fun x s2 h2 => ?_
  refine Okk.bind (within_le e d _ _ (list_le (fun l => one_le ((in_le e d).weak (by omega) (by omega)) l) [x]) s2) fun l s3 h3 => put_le ((h2.trans h3).weak (by omega) (by omega))
theorem chan_le (e : Int) : Dm 3 1 (chanS e) := fun s => Okk.bind (ident_le e s) fun _ _ h => put_le h

theorem named_le (e : Int) (d : Nat) : Dm 3 1 (namedS e d) := by
  intro s
  unfold namedS
  refine Okk.bind (ident_le e s) fun t s1 h1 => ?_
  split
  · exact Okk.bind (index_le e d s1) fun x s2 h2 => Okk.bind (want_le e _ s2) fun _ s3 h3 => Okk.bind (ex_le e d s3) fun y s4 h4 =>
      put_le ((((h1.trans h2).trans h3).trans h4).weak (by omega) (by omega))
  · refine Okk.bind (want_le e _ s1) fun _ s2 h2 => ?_
    have h12 := h1.trans h2
    split
    · rename_i hw
      exact Okk.bind (chan_le e _) fun x s3 h3 => put_le (((h12.trans (drop_le _ (isS_pos hw))).trans h3).weak (by omega) (by omega))
    · split
      · rename_i hw
        exact (call_le e d _ _ _).imp fun s3 h3 => ((h12.trans (drop_le _ (isS_pos hw))).trans h3).weak (by omega) (by omega)
      · split
        · rename_i hw
          exact Okk.bind (ex_le e d _) fun x s3 h3 => put_le (((h12.trans (drop_le _ (isS_pos hw))).trans h3).weak (by omega) (by omega))
        · exact Okk.bind (ex_le e d _) fun x s3 h3 => put_le ((h12.trans h3).weak (by omega) (by omega))

theorem plain_le (e : Int) (d : Nat) : Dm 3 1 (plainS e d) := by
  intro s
  unfold plainS
  simp only
  split
  · rename_i hw
    exact Okk.bind (chan_le e _) fun c s1 h1 => Okk.bind (ex_le e d s1) fun x s2 h2 => put_le ((((drop_le s (isS_pos hw)).trans h1).trans h2).weak (by omega) (by omega))
  · split
    · rename_i hw
      exact (call_le e d _ _ _).imp fun s1 h1 => ((drop_le s (isS_pos hw)).trans h1).weak (by omega) (by omega)
    · split
      · rename_i hw
        exact Okk.bind (ex_le e d _) fun x s1 h1 => put_le (((drop_le s (isS_pos hw)).trans h1).weak (by omega) (by omega))
      · split
        · rename_i hw
          split
          · exact put_le (drop_le s (isS_pos hw))
          · exact Okk.bind (ex_le e d _) fun x s1 h1 => put_le (((drop_le s (isS_pos hw)).trans h1).weak (by omega) (by omega))
        · exact named_le e d s

theorem stmtsL_le {stmt : M Int} (h : Dm 0 0 stmt) : ∀ n l, Dm 0 0 (stmtsL stmt n l) := by
  intro n
  induction n with
  | zero => exact fun l s => .bad
  | succ n ih =>
    intro l s
    unfold stmtsL
    split
    · exact .pure (Lw.refl s)
    · exact Okk.bind (h s) fun x s1 h1 => (ih _ s1).imp fun s2 h2 => (h1.trans h2).weak (by omega) (by omega)
theorem stmts_le {stmt : M Int} (h : Dm 0 0 stmt) (l : List Int) : Dm 0 0 (stmtsS stmt l) := fun s => stmtsL_le h _ l s
theorem block_le (e : Int) (d : Nat) {stmt : M Int} (h : Dm 0 0 stmt) : Dm 3 1 (blockB e d stmt) := by
  intro s
  unfold blockB
  simp only
  exact Okk.bind (within_le e d _ _ (stmts_le h []) s) fun l s1 h1 => put_le (h1.weak (by omega) (by omega))

theorem stmtB_le (e : Int) (d : Nat) {stmt : M Int} (h : Dm 0 0 stmt) : Dm 3 1 (stmtB e d stmt) := by
  intro s
  unfold stmtB
  simp only
  split
  · rename_i hw
    refine Okk.bind (ex_le e d _) fun x s1 h1 => Okk.bind (block_le e d h s1) fun a s2 h2 => ?_
    have h3 := ((drop_le s (isS_pos hw)).trans h1).trans h2
    split
    · rename_i hw2
      exact Okk.bind (block_le e d h _) fun b s3 h4 => put_le (((h3.trans (drop_le s2 (isS_pos hw2))).trans h4).weak (by omega) (by omega))
    · exact Okk.bind (put_le (c := 9) (k := 3) (h3.weak (by omega) (by omega))) fun b s3 h4 => put_le (h4.weak (by omega) (by omega))
  · split
    · rename_i hw
      exact Okk.bind (ex_le e d _) fun x s1 h1 => Okk.bind (block_le e d h s1) fun a s2 h2 => put_le ((((drop_le s (isS_pos hw)).trans h1).trans h2).weak (by omega) (by omega))
    · split
      · rename_i hw
        exact Okk.bind (block_le e d h _) fun a s1 h1 => Okk.bind (want_le e _ s1) fun _ s2 h2 => Okk.bind (ident_le e s2) fun t s3 h3 => Okk.bind (block_le e d h s3) fun b s4 h4 =>
          put_le ((((((drop_le s (isS_pos hw)).trans h1).trans h2).trans h3).trans h4).weak (by omega) (by omega))
      · exact Okk.bind (plain_le e d s) fun x s1 h1 => Okk.bind (want_le e _ s1) fun _ s2 h2 => .pure ((h1.trans h2).weak (by omega) (by omega))
theorem stmt_le (e : Int) : ∀ d, Dm 3 1 (stmtS e d) := by
  intro d
  induction d with
  | zero => exact stmtB_le e 0 (fun s => .bad)
  | succ d ih => exact stmtB_le e (d + 1) (ih.weak (by omega) (by omega))
theorem inStmt_le (e : Int) (d : Nat) : Dm 3 1 (inStmtS e d) := by
  cases d with
  | zero => exact fun s => .bad
  | succ d => exact stmt_le e d

theorem types_pos {ts : List Tok} (h : typesS ts ≠ 0) : 0 < ts.length := by
  cases ts with
  | nil => simp [typesS, isS] at h
  | cons t r => simp
theorem typed_le (e k a : Int) (tx : Bs) : Dm 3 1 (typedS e k a tx) := by
  intro s
  unfold typedS
  split
  · exact .bad
  · rename_i h
    exact put_le (drop_le s (types_pos (by simpa using h)))
theorem varsL_le (e kind : Int) : ∀ n l, Dm 0 0 (varsL e kind n l) := by
  intro n
  induction n with
  | zero => exact fun l s => .pure (Lw.refl s)
  | succ n ih =>
    intro l s
    unfold varsL
    split
    · exact .pure (Lw.refl s)
    · rename_i hw
      exact Okk.bind (ident_le e _) fun t s1 h1 => Okk.bind (typed_le e kind _ _ s1) fun x s2 h2 => Okk.bind (want_le e _ s2) fun _ s3 h3 => (ih _ s3).imp fun s4 h4 =>
        (((((drop_le s (isS_pos hw)).trans h1).trans h2).trans h3).trans h4).weak (by omega) (by omega)
theorem vars_le (e kind : Int) : Dm 0 0 (varsS e kind) := fun s => varsL_le e kind _ [] s
theorem body_le (e : Int) (d : Nat) : Dm 3 1 (bodyS e d) := by
  intro s
  unfold bodyS
  simp only
  refine Okk.bind (within_le (c := 0) (k := 0) e d _ _ (fun s => ?_) s) fun p s1 h1 => Okk.bind (put_le (c := 3) (k := 1) (h1.weak (by omega) (by omega))) fun b s2 h2 => .pure h2
  exact Okk.bind (vars_le e 5 s) fun vs s1 h1 => Okk.bind (stmts_le ((inStmt_le e d).weak (by omega) (by omega)) [] s1) fun l s2 h2 => .pure ((h1.trans h2).weak (by omega) (by omega))
theorem param_le (e : Int) : Dm 7 2 (paramS e) := fun s => Okk.bind (ident_le e s) fun t s1 h1 => (typed_le e 4 _ _ s1).imp fun s2 h2 => h1.trans h2
theorem proc_le (e : Int) (d : Nat) : Dm 3 1 (procS e d) := by
  intro s
  unfold procS
  simp only
  refine Okk.bind (want_le e _ s) fun _ s1 h1 => Okk.bind (ident_le e s1) fun t s2 h2 => Okk.bind (within_le (c := 0) (k := 0) e d _ _ (list_le (fun l => (one_le (param_le e) l).weak (by omega) (by omega)) []) s2) fun ps s3 h3 => ?_
  have h4 := (h1.trans h2).trans h3
  have h5 : Lw s3 0 0 (match decide (typesS s3.ts > 0) with
    | true => dropS s3
    | false => s3) := by
    split
    · rename_i h
      have h : typesS s3.ts > 0 := by simpa using h
      exact (drop_le s3 (types_pos (by omega))).weak (by omega) (by omega)
    · exact Lw.refl s3
  exact Okk.bind (body_le e d _) fun p s5 h6 => put_le (((h4.trans h5).trans h6).weak (by omega) (by omega))
theorem procsL_le (e : Int) (d : Nat) : ∀ n l, Dm 0 0 (procsL e d n l) := by
  intro n
  induction n with
  | zero => exact fun l s => .pure (Lw.refl s)
  | succ n ih =>
    intro l s
    unfold procsL
    split
    · exact .pure (Lw.refl s)
    · exact Okk.bind (proc_le e d s) fun x s1 h1 => (ih _ s1).imp fun s2 h2 => (h1.trans h2).weak (by omega) (by omega)

/-! ### how many places are answered -/
theorem varsL_len (e kind : Int) : ∀ n l s l' s', varsL e kind n l s = .ok l' s' → l'.length + s'.ts.length ≤ l.length + s.ts.length := by
  intro n
  induction n with
  | zero => intro l s l' s' h; simp only [varsL, R.ok.injEq] at h; obtain ⟨rfl, rfl⟩ := h; exact Nat.le_refl _
  | succ n ih =>
    intro l s l' s' h
    unfold varsL at h
    split at h
    · simp only [R.ok.injEq] at h; obtain ⟨rfl, rfl⟩ := h; exact Nat.le_refl _
    · rename_i hw
      obtain ⟨t, s1, h1, h⟩ := bind_ok h
      obtain ⟨x, s2, h2, h⟩ := bind_ok h
      obtain ⟨_, s3, h3, h⟩ := bind_ok h
      have := ih _ _ _ _ h
      have l1 := (ident_le e _ _ _ h1).2
      have l2 := (typed_le e kind _ _ _ _ _ h2).2
      have l3 := (want_le e _ _ _ _ h3).2
      have l0 := (drop_le s (isS_pos hw)).2
      simp only [List.length_append, List.length_cons, List.length_nil] at this
      omega
theorem body_len (e : Int) (d : Nat) (s : PS) (p : List Int × Int) (s' : PS) (h : bodyS e d s = .ok p s') : p.1.length ≤ s.ts.length := by
  unfold bodyS at h
  simp only at h
  obtain ⟨p1, s1, h1, h⟩ := bind_ok h
  obtain ⟨b, s2, h2, h⟩ := bind_ok h
  simp only [R.ok.injEq] at h
  obtain ⟨rfl, -⟩ := h
  unfold withinS at h1
  split at h1
  · simp at h1
  · split at h1
    · simp at h1
    · obtain ⟨q, s3, h3, h1⟩ := bind_ok h1
      obtain ⟨vs, s4, h4, h3⟩ := bind_ok h3
      obtain ⟨l, s5, h5, h3⟩ := bind_ok h3
      simp only [R.ok.injEq] at h3
      obtain ⟨rfl, rfl⟩ := h3
      have h6 := varsL_len e 5 _ _ _ _ _ h4
      simp only [List.length_nil, List.length_tail] at h6
      have h7 : p1.1 = vs := by
        simp only at h1
        obtain ⟨_, s6, _, h1⟩ := bind_ok h1
        simp only [R.ok.injEq] at h1
        rw [← h1.1]
      simp only
      rw [h7]; omega
end Go.Ru

namespace Go.Proofs.YtbcngegcpdppfaaGreatDoor
open Go.AE Go.Ru
set_option maxRecDepth 100000

/-- a state that is small enough -/
def Fine (d : Nat) (ts : List Tok) (ns : List Nd) : Prop := d ≤ 40 ∧ ns.length + 4 * ts.length ≤ 900000

def cUna (D : Nat) : AC := fun args K k => ∃ d : Nat, ∃ e ts ns mo op X, args = [pp] ∧ K = encP e ts ns op mo ++ X ∧ op = 40 - (d : Int) ∧ d < D ∧ Fine d ts ns ∧ After e (unaS e d ⟨ts, ns, mo⟩) intV op X k
def cExJ (D J : Nat) : AC := fun args K k => ∃ d j : Nat, ∃ e ts ns mo op kk X, args = [pp, .p (.int .i64 kk)] ∧ K = encP e ts ns op mo ++ X ∧ op = 40 - (d : Int) ∧ kk = 5 - (j : Int) ∧ d < D ∧ j < J ∧ J ≤ 6 ∧ Fine d ts ns ∧
  After e (exprS (unaS e d) j ⟨ts, ns, mo⟩) intV op X k
def cPrim (D : Nat) : AC := fun args K k => ∃ d : Nat, ∃ e ts ns mo op X, args = [pp] ∧ K = encP e ts ns op mo ++ X ∧ op = 40 - (d : Int) ∧ d ≤ D ∧ Fine d ts ns ∧ After e (primS e d (inS e d) ⟨ts, ns, mo⟩) intV op X k

def gE (D J : Nat) : AG := gput 110 (cUna D) (gput 66 (cExJ D J) g7)
theorem gE_ok {D J : Nat} (hU : COk 110 (cUna D)) (hE : COk 66 (cExJ D J)) : GOk Tryz.prog (gE D J) := gput_ok hU (gput_ok hE g7_ok)

theorem nt {b : Bool} (h : (!b) = true) : b = false := by simpa using h
theorem nf {b : Bool} (h : (!b) = false) : b = true := by simpa using h
theorem isS_self {w : Bs} {t : Tok} {r : List Tok} (h : isS w (t :: r) = true) : isS t.tx (t :: r) = true := by
  obtain ⟨k, n, a, tx⟩ := t
  cases k <;> simp_all [isS]
theorem in_op {op : Int} {d : Nat} (ho : op = 40 - ((d + 1 : Nat) : Int)) (h : d < 1000) : IntKind.i64.wrap (op + 1) = 40 - (d : Int) := by
  rw [w64 (by omega)]; omega
theorem in_mo {op mo : Int} {d : Nat} (ho : op = 40 - ((d + 1 : Nat) : Int)) (h : d < 1000) : (if IntKind.i64.wrap (op + 1) > mo then IntKind.i64.wrap (op + 1) else mo) = moreS (d + 1) mo := by
  rw [in_op ho h, moreS]
  have e : (41 : Int) - ((d + 1 : Nat) : Int) = 40 - d := by omega
  rw [e]
theorem out_op {op : Int} {d : Nat} (ho : op = 40 - ((d + 1 : Nat) : Int)) (h : d < 1000) : IntKind.i64.wrap (IntKind.i64.wrap (op + 1) - 1) = op := by
  rw [in_op ho h, w64 (by omega)]; omega
theorem unaS_eq (e : Int) (d : Nat) (s : PS) : unaS e d s = unaB e d (match d with
  | 0 => fun _ => .bad 0 0
  | d + 1 => unaS e d) (inS e d) s := by cases d <;> rfl

set_option pp.maxSteps 600
theorem una_step {D : Nat} (hP : COk 132 (cPrim D)) (hU : COk 110 (cUna D)) : COk 110 (cUna (D + 1)) := by
  rintro args K k ⟨d, e, ts, ns, mo, op, X, rfl, rfl, ho, hd, hf, hk⟩
  refine frameP (G := gput 132 (cPrim D) (gput 110 (cUna D) g7)) (gput_ok hP (gput_ok hU g7_ok)) 9 rfl fun Q hr hp => ?_
  rw [unaS_eq] at hk
  cases ts with
  | nil =>
    conv => whnf
    refine ⟨by simp, ?_⟩
    conv => whnf
    refine ⟨_, _, _, _, _, _, _, rfl, rfl, ?_⟩
    conv => whnf
    refine ⟨_, _, _, _, _, _, _, rfl, rfl, ?_⟩
    conv => whnf
    refine ⟨_, _, _, _, _, _, _, rfl, rfl, ho, by omega, hf, ⟨fun a ts' ns' mo' h => ?_, fun a er h => ?_⟩⟩
    · conv => whnf
      exact hr _ _ _ _ _ _ rfl rfl (hk.ok _ _ _ _ h)
    · conv => whnf
      exact hp _ _ rfl (hk.bad _ _ h)
  | cons t r =>
    conv => whnf
    refine ⟨by simp; omega, ?_⟩
    conv => whnf
    refine ⟨_, _, _, _, _, _, _, rfl, rfl, ?_⟩
    conv => whnf
    refine two_intro (fun h1 => ?_) (fun h1 => ?_)
    · have h1 : isS [45] (t :: r) = false := nt h1
      conv => whnf
      refine ⟨_, _, _, _, _, _, _, rfl, rfl, ?_⟩
      conv => whnf
      refine two_intro (fun h2 => ?_) (fun h2 => ?_)
      · have h2 : isS [33] (t :: r) = false := nt h2
        simp only [unaB, h1, h2, Bool.or_false] at hk
        conv => whnf
        refine ⟨_, _, _, _, _, _, _, rfl, rfl, ho, by omega, hf, ⟨fun a ts' ns' mo' h => ?_, fun a er h => ?_⟩⟩
        · conv => whnf
          exact hr _ _ _ _ _ _ rfl rfl (hk.ok _ _ _ _ h)
        · conv => whnf
          exact hp _ _ rfl (hk.bad _ _ h)
      · have h2 : isS [33] (t :: r) = true := nf h2
        simp only [unaB, h1, h2, Bool.or_true] at hk
        have hs := isS_self h2
        conv => whnf
        refine ⟨_, _, _, _, _, _, _, rfl, rfl, ?_⟩
        conv => whnf
        refine two_true hs ?_
        conv => whnf
        cases d with
        | zero =>
          refine two_intro (fun h3 => ?_) (fun h3 => ?_)
          · conv => whnf
            refine ⟨_, _, _, _, _, _, _, rfl, rfl, ?_⟩
            conv => whnf
            exact hp _ _ rfl (hk.bad _ _ (by simp [withinS, hs, R.bind]))
          · simp [ho] at h3
        | succ d =>
          refine two_intro (fun h3 => ?_) (fun h3 => ?_)
          · simp [ho] at h3; omega
          · conv => whnf
            refine ⟨_, _, _, _, _, _, _, rfl, rfl, ⟨fun a ts' ns' mo' h => ?_, fun a er h => ?_⟩⟩
            · simp only [wantS, hs, dropS, R.ok.injEq, PS.mk.injEq] at h
              obtain ⟨-, rfl, rfl, rfl⟩ := h
              conv => whnf
              have hd2 : d < 1000 := by have := hf.1; omega
              refine ⟨d, _, _, _, _, _, _, rfl, rfl, in_op ho hd2, by omega, ?_, ⟨fun a ts' ns' mo' h => ?_, fun a er h => ?_⟩⟩
              · simp only [Fine, List.length_cons, List.tail_cons] at hf ⊢; omega
              · rw [in_mo ho hd2] at h
                simp only [List.tail_cons] at h
                have hl := una_le e d _ _ _ h
                conv => whnf
                refine ⟨[a], _, _, _, _, _, _, _, _, _, _, _, rfl, rfl, PutK.slr ?_ rfl rfl rfl (allLt_ok ⟨trivial, rfl⟩) ?_⟩
                · simp only [Fine, Lw, List.length_cons] at hf hl; omega
                conv => whnf
                rw [out_op ho hd2]
                exact hr _ _ _ _ _ _ rfl rfl (hk.ok _ _ _ _ (by simp [withinS, hs, R.bind, h, putS]))
              · rw [in_mo ho hd2] at h
                simp only [List.tail_cons] at h
                conv => whnf
                exact hp _ _ rfl (hk.bad _ _ (by simp [withinS, hs, R.bind, h]))
            · simp [wantS, hs] at h
    · have h1 : isS [45] (t :: r) = true := nf h1
      simp only [unaB, h1, Bool.true_or] at hk
      have hs := isS_self h1
      conv => whnf
      refine ⟨_, _, _, _, _, _, _, rfl, rfl, ?_⟩
      conv => whnf
      refine two_true hs ?_
      conv => whnf
      cases d with
      | zero =>
        refine two_intro (fun h3 => ?_) (fun h3 => ?_)
        · conv => whnf
          refine ⟨_, _, _, _, _, _, _, rfl, rfl, ?_⟩
          conv => whnf
          exact hp _ _ rfl (hk.bad _ _ (by simp [withinS, hs, R.bind]))
        · simp [ho] at h3
      | succ d =>
        refine two_intro (fun h3 => ?_) (fun h3 => ?_)
        · simp [ho] at h3; omega
        · conv => whnf
          refine ⟨_, _, _, _, _, _, _, rfl, rfl, ⟨fun a ts' ns' mo' h => ?_, fun a er h => ?_⟩⟩
          · simp only [wantS, hs, dropS, R.ok.injEq, PS.mk.injEq] at h
            obtain ⟨-, rfl, rfl, rfl⟩ := h
            conv => whnf
            have hd2 : d < 1000 := by have := hf.1; omega
            refine ⟨d, _, _, _, _, _, _, rfl, rfl, in_op ho hd2, by omega, ?_, ⟨fun a ts' ns' mo' h => ?_, fun a er h => ?_⟩⟩
            · simp only [Fine, List.length_cons, List.tail_cons] at hf ⊢; omega
            · rw [in_mo ho hd2] at h
              simp only [List.tail_cons] at h
              have hl := una_le e d _ _ _ h
              conv => whnf
              refine ⟨[a], _, _, _, _, _, _, _, _, _, _, _, rfl, rfl, PutK.slr ?_ rfl rfl rfl (allLt_ok ⟨trivial, rfl⟩) ?_⟩
              · simp only [Fine, Lw, List.length_cons] at hf hl; omega
              conv => whnf
              rw [out_op ho hd2]
              exact hr _ _ _ _ _ _ rfl rfl (hk.ok _ _ _ _ (by simp [withinS, hs, R.bind, h, putS]))
            · rw [in_mo ho hd2] at h
              simp only [List.tail_cons] at h
              conv => whnf
              exact hp _ _ rfl (hk.bad _ _ (by simp [withinS, hs, R.bind, h]))
          · simp [wantS, hs] at h

def cIndex (D : Nat) : AC := fun args K k => ∃ d : Nat, ∃ e ts ns mo op X, args = [pp] ∧ K = encP e ts ns op mo ++ X ∧ op = 40 - (d : Int) ∧ d ≤ D ∧ Fine d ts ns ∧ After e (indexS e d ⟨ts, ns, mo⟩) intV op X k
theorem index_ok {D : Nat} (hE : COk 66 (cExJ D 6)) : COk 156 (cIndex D) := by
  rintro args K k ⟨d, e, ts, ns, mo, op, X, rfl, rfl, ho, hd, hf, hk⟩
  refine frameP (G := gput 66 (cExJ D 6) g7) (gput_ok hE g7_ok) 9 rfl fun Q hr hp => ?_
  conv => whnf
  by_cases hw : isS [91] ts = true
  · refine ⟨_, _, _, _, _, _, _, rfl, rfl, ?_⟩
    conv => whnf
    refine two_true hw ?_
    conv => whnf
    cases d with
    | zero =>
      refine two_intro (fun h3 => ?_) (fun h3 => ?_)
      · conv => whnf
        refine ⟨_, _, _, _, _, _, _, rfl, rfl, ?_⟩
        conv => whnf
        exact hp _ _ rfl (hk.bad _ _ (by simp [indexS, withinS, hw, R.bind]))
      · simp [ho] at h3
    | succ d =>
      refine two_intro (fun h3 => ?_) (fun h3 => ?_)
      · simp [ho] at h3; omega
      · conv => whnf
        refine ⟨_, _, _, _, _, _, _, rfl, rfl, ⟨fun a ts' ns' mo' h => ?_, fun a er h => ?_⟩⟩
        · simp only [wantS, hw, dropS, R.ok.injEq, PS.mk.injEq] at h
          obtain ⟨-, rfl, rfl, rfl⟩ := h
          conv => whnf
          have hd2 : d < 1000 := by have := hf.1; omega
          have hl0 := isS_pos hw
          refine ⟨d, 5, _, _, _, _, _, _, _, rfl, rfl, in_op ho hd2, rfl, by omega, by omega, by omega, ?_, ⟨fun x ts' ns' mo' h => ?_, fun a er h => ?_⟩⟩
          · simp only [Fine, List.length_cons, List.length_tail] at hf hl0 ⊢; omega
          · rw [in_mo ho hd2] at h
            have hl := ex_le e d _ _ _ h
            conv => whnf
            refine ⟨_, _, _, _, _, _, _, rfl, rfl, ⟨fun u ts2 ns2 mo2 h2 => ?_, fun a er h2 => ?_⟩⟩
            · have hl2 := want_le _ _ _ _ _ h2
              conv => whnf
              rw [out_op ho hd2]
              exact hr _ _ _ _ _ _ rfl rfl (hk.ok _ _ _ _ (by
                have h : inS e (d + 1) _ = _ := h
                have h2 : wantS e [93] _ = _ := h2
                simp only [indexS, withinS, hw, h, h2, R.bind]))
            · conv => whnf
              exact hp _ _ rfl (hk.bad _ _ (by
                have h : inS e (d + 1) _ = _ := h
                have h2 : wantS e [93] _ = _ := h2
                simp only [indexS, withinS, hw, h, h2, R.bind]))
          · rw [in_mo ho hd2] at h
            conv => whnf
            exact hp _ _ rfl (hk.bad _ _ (by
              have h : inS e (d + 1) _ = _ := h
              simp only [indexS, withinS, hw, h, R.bind]))
        · simp [wantS, hw] at h
  · have hw : isS [91] ts = false := by simpa using hw
    refine ⟨_, _, _, _, _, _, _, rfl, rfl, ?_⟩
    conv => whnf
    refine two_false hw ?_
    conv => whnf
    refine ⟨_, _, _, _, _, _, _, rfl, rfl, ⟨fun a ts' ns' mo' h => ?_, fun a er h => ?_⟩⟩
    · simp [wantS, hw] at h
    · simp only [wantS, hw, R.bad.injEq] at h
      obtain ⟨rfl, rfl⟩ := h
      conv => whnf
      exact hp _ _ rfl (hk.bad _ _ (by simp only [indexS, withinS, hw]))

theorem prim_ok {D : Nat} (hE : COk 66 (cExJ D 6)) : COk 132 (cPrim D) := by
  rintro args K k ⟨d, e, ts, ns, mo, op, X, rfl, rfl, ho, hd, hf, hk⟩
  refine frameP (G := gput 156 (cIndex D) (gput 66 (cExJ D 6) g7)) (gput_ok (index_ok hE) (gput_ok hE g7_ok)) 9 rfl fun Q hr hp => ?_
  cases ts with
  | nil =>
    conv => whnf
    refine ⟨by simp, ?_⟩
    conv => whnf
    refine ⟨_, _, _, _, _, _, _, rfl, rfl, ⟨fun h => by simp [isS] at h, fun _ => ?_⟩⟩
    conv => whnf
    refine ⟨_, _, _, _, _, _, _, rfl, rfl, ⟨fun h => by simp [isS] at h, fun _ => ?_⟩⟩
    conv => whnf
    refine ⟨_, _, _, _, _, _, _, rfl, rfl, ⟨fun h => by simp [isS] at h, fun _ => ?_⟩⟩
    conv => whnf
    refine ⟨_, _, _, _, _, _, _, rfl, rfl, ⟨fun h => by simp [isS] at h, fun _ => ?_⟩⟩
    conv => whnf
    refine ⟨_, _, _, _, _, _, _, rfl, rfl, ?_⟩
    conv => whnf
    refine ⟨_, _, _, _, _, _, rfl, rfl, ⟨fun a ts' ns' mo' h => by simp [identS] at h, fun a er h => ?_⟩⟩
    simp only [identS, R.bad.injEq] at h
    obtain ⟨rfl, rfl⟩ := h
    conv => whnf
    exact hp _ _ rfl (hk.bad _ _ rfl)
  | cons t r =>
    obtain ⟨tk, tn, ta, tx⟩ := t
    have hn : ns.length < 1000000 := by simp only [Fine] at hf; omega
    cases tk with
    | number =>
      conv => whnf
      refine ⟨by simp; omega, ?_⟩
      conv => whnf
      refine ⟨_, _, _, _, _, _, _, rfl, rfl, ?_⟩
      conv => whnf
      refine ⟨[], _, _, _, _, _, _, _, _, _, _, _, rfl, rfl, PutK.nils hn ?_⟩
      conv => whnf
      exact hr _ _ _ _ _ _ rfl rfl (hk.ok _ _ _ _ rfl)
    | name =>
      conv => whnf
      refine ⟨by simp; omega, ?_⟩
      conv => whnf
      refine ⟨_, _, _, _, _, _, _, rfl, rfl, ⟨fun h => by simp [isS] at h, fun _ => ?_⟩⟩
      conv => whnf
      refine ⟨_, _, _, _, _, _, _, rfl, rfl, ⟨fun h => by simp [isS] at h, fun _ => ?_⟩⟩
      conv => whnf
      refine ⟨_, _, _, _, _, _, _, rfl, rfl, ⟨fun h => by simp [isS] at h, fun _ => ?_⟩⟩
      conv => whnf
      refine ⟨_, _, _, _, _, _, _, rfl, rfl, ⟨fun h => by simp [isS] at h, fun _ => ?_⟩⟩
      conv => whnf
      refine ⟨_, _, _, _, _, _, _, rfl, rfl, ?_⟩
      conv => whnf
      refine ⟨_, _, _, _, _, _, rfl, rfl, ⟨fun a ts' ns' mo' h => ?_, fun a er h => by simp [identS] at h⟩⟩
      simp only [identS, R.ok.injEq, PS.mk.injEq] at h
      obtain ⟨rfl, rfl, rfl, rfl⟩ := h
      conv => whnf
      refine ⟨_, _, _, _, _, _, _, rfl, rfl, ?_⟩
      conv => whnf
      refine two_intro (fun h1 => ?_) (fun h1 => ?_)
      · have h1 : isS [91] r = true := h1
        simp only [primS, h1] at hk
        conv => whnf
        refine ⟨d, _, _, _, _, _, _, rfl, rfl, ho, hd, ?_, ⟨fun x ts' ns' mo' h => ?_, fun a er h => ?_⟩⟩
        · simp only [Fine, List.length_cons] at hf ⊢; omega
        · have hl := index_le _ _ _ _ _ h
          conv => whnf
          refine ⟨[x], _, _, _, _, _, _, _, _, _, _, _, rfl, rfl, PutK.slr ?_ rfl rfl rfl (allLt_ok ⟨trivial, rfl⟩) ?_⟩
          · simp only [Fine, Lw, List.length_cons] at hf hl; omega
          conv => whnf
          exact hr _ _ _ _ _ _ rfl rfl (hk.ok _ _ _ _ (by
            have h : withinS e d [91] [93] (inS e d) _ = _ := h
            simp only [h, R.bind, putS]))
        · conv => whnf
          exact hp _ _ rfl (hk.bad _ _ (by
            have h : withinS e d [91] [93] (inS e d) _ = _ := h
            simp only [h, R.bind]))
      · have h1 : isS [91] r = false := h1
        simp only [primS, h1] at hk
        conv => whnf
        refine ⟨[], _, _, _, _, _, _, _, _, _, _, _, rfl, rfl, PutK.nils hn ?_⟩
        conv => whnf
        exact hr _ _ _ _ _ _ rfl rfl (hk.ok _ _ _ _ rfl)
    | _ =>
      conv => whnf
      refine ⟨by simp; omega, ?_⟩
      conv => whnf
      refine ⟨_, _, _, _, _, _, _, rfl, rfl, ⟨fun h => ?_, fun h => ?_⟩⟩
      · have g0 : (tx == [116, 114, 117, 101]) = true := h
        simp only [primS, g0] at hk
        conv => whnf
        refine ⟨[], _, _, _, _, _, _, _, _, _, _, _, rfl, rfl, PutK.nils hn ?_⟩
        conv => whnf
        exact hr _ _ _ _ _ _ rfl rfl (hk.ok _ _ _ _ rfl)
      have g0 : (tx == [116, 114, 117, 101]) = false := h
      conv => whnf
      refine ⟨_, _, _, _, _, _, _, rfl, rfl, ⟨fun h => ?_, fun h => ?_⟩⟩
      · have g1 : (tx == [102, 97, 108, 115, 101]) = true := h
        simp only [primS, g0, g1] at hk
        conv => whnf
        refine ⟨[], _, _, _, _, _, _, _, _, _, _, _, rfl, rfl, PutK.nils hn ?_⟩
        conv => whnf
        exact hr _ _ _ _ _ _ rfl rfl (hk.ok _ _ _ _ rfl)
      have g1 : (tx == [102, 97, 108, 115, 101]) = false := h
      conv => whnf
      refine ⟨_, _, _, _, _, _, _, rfl, rfl, ⟨fun h => ?_, fun h => ?_⟩⟩
      · have g2 : (tx == [108, 101, 110]) = true := h
        simp only [primS, g0, g1, g2] at hk
        conv => whnf
        refine ⟨_, _, _, _, _, _, rfl, rfl, ⟨fun t' ts' ns' mo' h => ?_, fun a er h => ?_⟩⟩
        · have hl := ident_le _ _ _ _ h
          have h : identS e ⟨r, ns, mo⟩ = _ := h
          conv => whnf
          refine ⟨by conv => whnf, ?_⟩
          conv => whnf
          refine ⟨by conv => whnf, ?_⟩
          conv => whnf
          refine ⟨[], _, _, _, _, _, _, _, _, _, _, _, rfl, rfl, PutK.nils (by simp only [Fine, Lw, List.length_cons, List.length_tail] at hf hl; omega) ?_⟩
          conv => whnf
          exact hr _ _ _ _ _ _ rfl rfl (hk.ok _ _ _ _ (by simp only [h, R.bind, putS]))
        · have h : identS e ⟨r, ns, mo⟩ = _ := h
          conv => whnf
          exact hp _ _ rfl (hk.bad _ _ (by simp only [h, R.bind]))
      have g2 : (tx == [108, 101, 110]) = false := h
      conv => whnf
      refine ⟨_, _, _, _, _, _, _, rfl, rfl, ⟨fun h => ?_, fun h => ?_⟩⟩
      · have g3 : (tx == [38]) = true := h
        simp only [primS, g0, g1, g2, g3] at hk
        conv => whnf
        refine ⟨_, _, _, _, _, _, rfl, rfl, ⟨fun t' ts' ns' mo' h => ?_, fun a er h => ?_⟩⟩
        · have hl := ident_le _ _ _ _ h
          have h : identS e ⟨r, ns, mo⟩ = _ := h
          conv => whnf
          refine ⟨by conv => whnf, ?_⟩
          conv => whnf
          refine ⟨by conv => whnf, ?_⟩
          conv => whnf
          refine ⟨[], _, _, _, _, _, _, _, _, _, _, _, rfl, rfl, PutK.nils (by simp only [Fine, Lw, List.length_cons, List.length_tail] at hf hl; omega) ?_⟩
          conv => whnf
          exact hr _ _ _ _ _ _ rfl rfl (hk.ok _ _ _ _ (by simp only [h, R.bind, putS]))
        · have h : identS e ⟨r, ns, mo⟩ = _ := h
          conv => whnf
          exact hp _ _ rfl (hk.bad _ _ (by simp only [h, R.bind]))
      have g3 : (tx == [38]) = false := h
      conv => whnf
      refine ⟨_, _, _, _, _, _, _, rfl, rfl, ?_⟩
      conv => whnf
      refine two_intro (fun h => ?_) (fun h => ?_)
      · have g4 : (tx == [40]) = true := h
        simp only [primS, g0, g1, g2, g3, g4] at hk
        have hw : isS [40] (⟨_, tn, ta, tx⟩ :: r) = true := h
        conv => whnf
        refine ⟨_, _, _, _, _, _, _, rfl, rfl, ?_⟩
        conv => whnf
        refine two_true hw ?_
        conv => whnf
        cases d with
        | zero =>
          refine two_intro (fun h3 => ?_) (fun h3 => ?_)
          · conv => whnf
            refine ⟨_, _, _, _, _, _, _, rfl, rfl, ?_⟩
            conv => whnf
            exact hp _ _ rfl (hk.bad _ _ (by simp [withinS, hw, R.bind]))
          · simp [ho] at h3
        | succ d =>
          refine two_intro (fun h3 => ?_) (fun h3 => ?_)
          · simp [ho] at h3; omega
          · conv => whnf
            refine ⟨_, _, _, _, _, _, _, rfl, rfl, ⟨fun a ts' ns' mo' h => ?_, fun a er h => ?_⟩⟩
            · simp only [wantS, hw, dropS, R.ok.injEq, PS.mk.injEq] at h
              obtain ⟨-, rfl, rfl, rfl⟩ := h
              conv => whnf
              have hd2 : d < 1000 := by have := hf.1; omega
              have hl0 := isS_pos hw
              refine ⟨d, 5, _, _, _, _, _, _, _, rfl, rfl, in_op ho hd2, rfl, by omega, by omega, by omega, ?_, ⟨fun x ts' ns' mo' h => ?_, fun a er h => ?_⟩⟩
              · simp only [Fine, List.length_cons, List.length_tail] at hf hl0 ⊢; omega
              · rw [in_mo ho hd2] at h
                have hl := ex_le e d _ _ _ h
                conv => whnf
                refine ⟨_, _, _, _, _, _, _, rfl, rfl, ⟨fun u ts2 ns2 mo2 h2 => ?_, fun a er h2 => ?_⟩⟩
                · have hl2 := want_le _ _ _ _ _ h2
                  conv => whnf
                  rw [out_op ho hd2]
                  exact hr _ _ _ _ _ _ rfl rfl (hk.ok _ _ _ _ (by
                    have h : inS e (d + 1) _ = _ := h
                    have h2 : wantS e [41] _ = _ := h2
                    simp only [withinS, hw, h, h2, R.bind]))
                · conv => whnf
                  exact hp _ _ rfl (hk.bad _ _ (by
                    have h : inS e (d + 1) _ = _ := h
                    have h2 : wantS e [41] _ = _ := h2
                    simp only [withinS, hw, h, h2, R.bind]))
              · rw [in_mo ho hd2] at h
                conv => whnf
                exact hp _ _ rfl (hk.bad _ _ (by
                  have h : inS e (d + 1) _ = _ := h
                  simp only [withinS, hw, h, R.bind]))
            · simp [wantS, hw] at h
      · have g4 : (tx == [40]) = false := h
        simp only [primS, g0, g1, g2, g3, g4] at hk
        conv => whnf
        refine ⟨_, _, _, _, _, _, rfl, rfl, ⟨fun a ts' ns' mo' h => by simp [identS] at h, fun a er h => ?_⟩⟩
        simp only [identS, R.bad.injEq] at h
        obtain ⟨rfl, rfl⟩ := h
        conv => whnf
        exact hp _ _ rfl (hk.bad _ _ rfl)
end Go.Proofs.YtbcngegcpdppfaaGreatDoor

namespace Go.Proofs.YtbcngegcpdppfaaGreatDoor
open Go.AE Go.Ru
set_option maxRecDepth 100000
set_option pp.maxSteps 1000

structure LS where
  x : Int
  ts : List Tok
  ns : List Nd
  mo : Int
  n : Nat

theorem rowLoop_no {l : List Bs} {o : M Int} {n : Nat} {x : Int} {s : PS} (h : anyS l s.ts = false) : rowLoop l o n x s = .ok x s := by
  cases n with
  | zero => rfl
  | succ n =>
    unfold rowLoop
    split
    · rfl
    · rename_i t r ht
      rw [ht] at h
      rw [h]
theorem anyS_cons {l : List Bs} {ts : List Tok} (h : anyS l ts = true) : ∃ t r, ts = t :: r := by
  cases ts with
  | nil =>
    induction l with
    | nil => simp [anyS] at h
    | cons w l ih =>
      simp only [anyS, List.any_cons, isS, Bool.false_or] at h ih
      exact ih h
  | cons t r => exact ⟨t, r, rfl⟩
theorem rowS_len (j : Nat) : (rowS j).length < 1000 := by
  unfold rowS
  split <;> simp

theorem expr_step {D J : Nat} (hU : COk 110 (cUna D)) (hE : COk 66 (cExJ D J)) : COk 66 (cExJ D (J + 1)) := by
  rintro args K k ⟨d, j, e, ts, ns, mo, op, kk, X, rfl, rfl, ho, hkk, hd, hj, hJ, hf, hk⟩
  refine frameP (gE_ok hU hE) 9 rfl fun Q hr hp => ?_
  cases j with
  | zero =>
    conv => whnf
    refine two_true (by simp; omega) ?_
    conv => whnf
    refine ⟨d, _, _, _, _, _, _, rfl, rfl, ho, hd, hf, ⟨fun x ts' ns' mo' h => ?_, fun a er h => ?_⟩⟩
    · conv => whnf
      exact hr _ _ _ _ _ _ rfl rfl (hk.ok _ _ _ _ h)
    · conv => whnf
      exact hp _ _ rfl (hk.bad _ _ h)
  | succ j =>
    conv => whnf
    refine two_false (by simp; omega) ?_
    conv => whnf
    refine ⟨d, j, _, _, _, _, _, _, _, rfl, rfl, ho, by rw [w64 (by omega)]; omega, hd, by omega, by omega, hf, ⟨fun x ts' ns' mo' h => ?_, fun a er h => ?_⟩⟩
    · conv => whnf
      have hl := expr_le (una_le e d) j _ _ _ h
      have h0 : exprS (unaS e d) (j + 1) ⟨ts, ns, mo⟩ = rowLoop (rowS j) (exprS (unaS e d) j) ts'.length x ⟨ts', ns', mo'⟩ := by
        simp only [exprS, h, R.bind]
      rw [h0] at hk
      generalize hR0 : rowLoop (rowS j) (exprS (unaS e d) j) ts'.length x ⟨ts', ns', mo'⟩ = R0 at hk
      refine loop_by (ι := LS) (fun i => ⟨[(0, pp), (1, .p (.int .i64 kk)), (5, intV i.x)], encP e i.ts i.ns op i.mo⟩)
        (fun i => i.ts.length ≤ i.n ∧ i.ns.length + 4 * i.ts.length ≤ 900000 ∧ rowLoop (rowS j) (exprS (unaS e d) j) i.n i.x ⟨i.ts, i.ns, i.mo⟩ = R0)
        (fun i => i.ts.length) ⟨x, ts', ns', mo', ts'.length⟩ ⟨AV.le_refl _, AV.le_refl _, AV.le_refl _, trivial⟩ (lesK.refl _) ⟨Nat.le_refl _, ?_, ?_⟩ ?_
      · simp only [Fine, Lw] at hf hl ⊢; omega
      · exact hR0
      have hd4 := hf.1
      clear hR0 h h0 hl hf
      rintro Y hle ⟨x, ts, ns, mo, n⟩ ⟨hn, hb, hR⟩ ih
      simp only at hn hb hR
      conv => whnf
      refine ⟨j, kk, by omega, rfl, by omega, ?_⟩
      conv => whnf
      refine ⟨_, _, _, _, _, _, _, rfl, rfl, rowS_len j, ?_⟩
      conv => whnf
      refine two_intro (fun h1 => ?_) (fun h1 => ?_)
      · obtain ⟨t, r, rfl⟩ := anyS_cons h1
        conv => whnf
        refine ⟨_, _, _, _, _, _, _, rfl, rfl, ?_⟩
        conv => whnf
        cases n with
        | zero => simp at hn
        | succ n =>
        simp only [List.length_cons] at hn hb
        refine ⟨d, j, _, _, _, _, _, _, _, rfl, rfl, ho, by rw [w64 (by omega)]; omega, hd, by omega, by omega, ⟨hd4, by show ns.length + 4 * r.length ≤ 900000; omega⟩, ⟨fun y ts2 ns2 mo2 h => ?_, fun a er h => ?_⟩⟩
        · have hl := expr_le (una_le e d) j _ _ _ h
          simp only [Lw] at hl
          conv => whnf
          refine ⟨[x, y], _, _, _, _, _, _, _, _, _, _, _, rfl, rfl, PutK.slr ?_ rfl rfl rfl (allLt_ok ⟨⟨trivial, rfl⟩, rfl⟩) ?_⟩
          · omega
          conv => whnf
          refine hle _ _ (AE.Le.cutEnv 2 rfl rfl ⟨rfl, fun i _ => rfl, trivial⟩ ?_ (lesK.refl _)) (ih ⟨ns2.length, ts2, ns2 ++ [⟨27, 0, t.at_, t.tx, [x, y]⟩], mo2, n⟩ ?_ ⟨?_, ?_, ?_⟩)
          · exact ⟨AV.le_refl _, AV.le_refl _, AV.le_refl _, trivial⟩
          · simp only [List.length_cons]; omega
          · simp only; omega
          · simp only [List.length_append, List.length_cons, List.length_nil]; omega
          · rw [← hR]
            simp only at h
            have h1 : anyS (rowS j) (t :: r) = true := h1
            simp only [rowLoop, h1, h, R.bind, putS]
        · simp only at h
          have h1 : anyS (rowS j) (t :: r) = true := h1
          simp only [rowLoop, h1, h, R.bind] at hR
          subst hR
          conv => whnf
          exact hp _ _ rfl (hk.bad _ _ rfl)
      · rw [rowLoop_no h1] at hR
        subst hR
        conv => whnf
        exact hr _ _ _ _ _ _ rfl rfl (hk.ok _ _ _ _ rfl)
    · conv => whnf
      exact hp _ _ rfl (hk.bad _ _ (by simp only [exprS, h, R.bind]))
end Go.Proofs.YtbcngegcpdppfaaGreatDoor

namespace Go.Proofs.YtbcngegcpdppfaaGreatDoor
open Go.AE Go.Ru
set_option maxRecDepth 100000
set_option pp.maxSteps 1000

theorem exJ_zero (D : Nat) : COk 66 (cExJ D 0) := by
  rintro args K k ⟨d, j, e, ts, ns, mo, op, kk, X, -, -, -, -, -, hj, -⟩
  omega
theorem all_ok (D : Nat) : COk 110 (cUna D) ∧ COk 66 (cExJ D 6) ∧ COk 132 (cPrim D) := by
  have hx : ∀ D, COk 110 (cUna D) → COk 66 (cExJ D 6) := fun D hU =>
    expr_step hU (expr_step hU (expr_step hU (expr_step hU (expr_step hU (expr_step hU (exJ_zero D))))))
  induction D with
  | zero =>
    have h0 : COk 110 (cUna 0) := by
      rintro args K k ⟨d, e, ts, ns, mo, op, X, -, -, -, h, -⟩
      omega
    exact ⟨h0, hx 0 h0, prim_ok (hx 0 h0)⟩
  | succ D ih =>
    have h1 := una_step ih.2.2 ih.1
    exact ⟨h1, hx _ h1, prim_ok (hx _ h1)⟩

/-! ### answers handed on -/
theorem bindA {α β γ : Type} (r : R α) (f : α → PS → R β) (g : β → PS → R γ) : (r.bind f).bind g = r.bind fun a s => (f a s).bind g := by cases r <;> rfl
theorem bindO {α β : Type} (a : α) (s : PS) (f : α → PS → R β) : (R.ok a s).bind f = f a s := rfl
theorem bindB {α β : Type} (a e : Int) (f : α → PS → R β) : (R.bad a e : R α).bind f = .bad a e := rfl
def AK {α : Type} (r : R α) (ok : α → PS → Prop) (bad : Int → Int → Prop) : Prop := match r with
  | .ok a s => ok a s
  | .bad a e => bad a e
theorem After.ak {α : Type} {e : Int} {r : R α} {val : α → AV} {op : Int} {X : List ABlk} {k : AO → List ABlk → Prop} (h : After e r val op X k) :
    AK r (fun a s => k (.ret (val a)) (encP e s.ts s.ns op s.mo ++ X)) (fun a er => k (.pan (wrongV a er)) (deads 2 ++ X)) := by
  cases hr : r with
  | ok a s => exact h.ok _ _ _ _ hr
  | bad a e => exact h.bad _ _ hr
/-- one step: what is called, then the rest -/
theorem AK.step {α β : Type} {r : R α} {f : α → PS → R β} {ok : β → PS → Prop} {bad : Int → Int → Prop} (h : AK (r.bind f) ok bad) {e : Int} {val : α → AV} {op : Int} {X : List ABlk} {k : AO → List ABlk → Prop}
    {p : PS → Prop} (hp : Okk r p)
    (h1 : ∀ a ts' ns' mo', p ⟨ts', ns', mo'⟩ → AK (f a ⟨ts', ns', mo'⟩) ok bad → k (.ret (val a)) (encP e ts' ns' op mo' ++ X))
    (h2 : ∀ a er, bad a er → k (.pan (wrongV a er)) (deads 2 ++ X)) : After e r val op X k := by
  cases r with
  | ok a s => exact ⟨fun a' ts' ns' mo' hr => by injection hr with e1 e2; subst e1; subst e2; exact h1 _ _ _ _ (hp _ _ rfl) h, fun _ _ hr => by simp at hr⟩
  | bad a er => exact ⟨fun _ _ _ _ hr => by simp at hr, fun a' e' hr => by injection hr with e1 e2; subst e1; subst e2; exact h2 _ _ h⟩
theorem AK.stepv {α β : Type} {r : R α} {f : α → PS → R β} {ok : β → PS → Prop} {bad : Int → Int → Prop} (h : AK (r.bind f) ok bad) {e : Int} {val : α → AV} {op : Int} {X : List ABlk} {k : AO → List ABlk → Prop}
    {p : α → PS → Prop} (hp : ∀ a s, r = .ok a s → p a s)
    (h1 : ∀ a ts' ns' mo', p a ⟨ts', ns', mo'⟩ → AK (f a ⟨ts', ns', mo'⟩) ok bad → k (.ret (val a)) (encP e ts' ns' op mo' ++ X))
    (h2 : ∀ a er, bad a er → k (.pan (wrongV a er)) (deads 2 ++ X)) : After e r val op X k := by
  cases r with
  | ok a s => exact ⟨fun a' ts' ns' mo' hr => by injection hr with e1 e2; subst e1; subst e2; exact h1 _ _ _ _ (hp _ _ rfl) h, fun _ _ hr => by simp at hr⟩
  | bad a er => exact ⟨fun _ _ _ _ hr => by simp at hr, fun a' e' hr => by injection hr with e1 e2; subst e1; subst e2; exact h2 _ _ h⟩
theorem AK.last {β : Type} {r : R β} {ok : β → PS → Prop} {bad : Int → Int → Prop} (h : AK r ok bad) {e : Int} {val : β → AV} {op : Int} {X : List ABlk} {k : AO → List ABlk → Prop}
    (h1 : ∀ a ts' ns' mo', ok a ⟨ts', ns', mo'⟩ → k (.ret (val a)) (encP e ts' ns' op mo' ++ X))
    (h2 : ∀ a er, bad a er → k (.pan (wrongV a er)) (deads 2 ++ X)) : After e r val op X k := by
  cases r with
  | ok a s => exact ⟨fun a' ts' ns' mo' hr => by injection hr with e1 e2; subst e1; subst e2; exact h1 _ _ _ _ h, fun _ _ hr => by simp at hr⟩
  | bad a er => exact ⟨fun _ _ _ _ hr => by simp at hr, fun a' e' hr => by injection hr with e1 e2; subst e1; subst e2; exact h2 _ _ h⟩
/-- skip -/
theorem AK.within {α β : Type} {e : Int} {d : Nat} {op cl : Bs} {what : M α} {ts : List Tok} {ns : List Nd} {mo : Int} {f : α → PS → R β} {ok : β → PS → Prop} {bad : Int → Int → Prop}
    (h : AK ((withinS e (d + 1) op cl what ⟨ts, ns, mo⟩).bind f) ok bad) (hw : isS op ts = true) (hc : cl ≠ []) :
    AK ((what ⟨ts.tail, ns, moreS (d + 1) mo⟩).bind fun a s => (wantS e cl s).bind fun _ s => f a s) ok bad := by
  simp only [withinS, hw] at h
  generalize what ⟨ts.tail, ns, moreS (d + 1) mo⟩ = r at h ⊢
  cases r with
  | bad a e => exact h
  | ok a s =>
    simp only [R.bind] at h ⊢
    cases cl with
    | nil => exact absurd rfl hc
    | cons c l =>
      generalize wantS e (c :: l) s = r at h ⊢
      cases r <;> exact h
theorem AK.within_no {α β : Type} {e : Int} {d : Nat} {op cl : Bs} {what : M α} {ts : List Tok} {ns : List Nd} {mo : Int} {f : α → PS → R β} {ok : β → PS → Prop} {bad : Int → Int → Prop}
    (h : AK ((withinS e d op cl what ⟨ts, ns, mo⟩).bind f) ok bad) (hw : isS op ts = false) : bad (hd e ts) 2 := by
  simp only [withinS, hw] at h; exact h
theorem AK.within_deep {α β : Type} {e : Int} {op cl : Bs} {what : M α} {ts : List Tok} {ns : List Nd} {mo : Int} {f : α → PS → R β} {ok : β → PS → Prop} {bad : Int → Int → Prop}
    (h : AK ((withinS e 0 op cl what ⟨ts, ns, mo⟩).bind f) ok bad) (hw : isS op ts = true) : bad (hd e ts) 6 := by
  simp only [withinS, hw] at h; exact h
theorem AK.want {β : Type} {e : Int} {w : Bs} {s : PS} {f : Unit → PS → R β} {ok : β → PS → Prop} {bad : Int → Int → Prop} (h : AK ((wantS e w s).bind f) ok bad) (hw : isS w s.ts = true) : AK (f () (dropS s)) ok bad := by
  simp only [wantS, hw] at h; exact h
theorem AK.want_no {β : Type} {e : Int} {w : Bs} {s : PS} {f : Unit → PS → R β} {ok : β → PS → Prop} {bad : Int → Int → Prop} (h : AK ((wantS e w s).bind f) ok bad) (hw : isS w s.ts = false) : bad (hd e s.ts) 2 := by
  simp only [wantS, hw] at h; exact h

/-- an expression, so much may yet be opened -/
def cEx : AC := fun args K k => ∃ d : Nat, ∃ e ts ns mo op X, args = [pp, .p (.int .i64 0)] ∧ K = encP e ts ns op mo ++ X ∧ op = 40 - (d : Int) ∧ Fine d ts ns ∧ After e (exS e d ⟨ts, ns, mo⟩) intV op X k
theorem ex_ok : COk 66 cEx := by
  rintro args K k ⟨d, e, ts, ns, mo, op, X, rfl, rfl, ho, hf, hk⟩
  have := hf.1
  exact (all_ok 41).2.1 _ _ _ ⟨d, 5, e, ts, ns, mo, op, 0, X, rfl, rfl, ho, rfl, by omega, by omega, by omega, hf, hk⟩
/-- an expression in brackets -/
theorem idx_ok' : COk 156 (cIndex 41) := index_ok (all_ok 41).2.1

/-- a state that is small enough, with some room -/
structure Fin (d c : Nat) (ts : List Tok) (ns : List Nd) : Prop where
  d : d ≤ 40
  s : ns.length + 4 * ts.length + c ≤ 900000
theorem Fine.fin {d : Nat} {ts : List Tok} {ns : List Nd} (h : Fine d ts ns) : Fin d 0 ts ns := ⟨h.1, h.2⟩
theorem Fin.fine {d c : Nat} {ts : List Tok} {ns : List Nd} (h : Fin d c ts ns) : Fine d ts ns := ⟨h.1, by have := h.2; omega⟩
theorem Fin.sz {d c : Nat} {ts : List Tok} {ns : List Nd} (h : Fin d c ts ns) : ns.length < 1000000 := by have := h.2; omega
theorem Fin.st {d c c' k : Nat} {ts ts' : List Tok} {ns ns' : List Nd} {mo mo' : Int} (h : Fin d c ts ns) (hl : Lw ⟨ts, ns, mo⟩ c' k ⟨ts', ns', mo'⟩) : Fin d (c + c') ts' ns' :=
  ⟨h.1, by have := h.2; have := hl.1; simp only at this; omega⟩
theorem Fin.pt {d c : Nat} {ts : List Tok} {ns : List Nd} {n : Nd} (h : Fin d (c + 1) ts ns) : Fin d c ts (ns ++ [n]) := ⟨h.1, by have := h.2; simp only [List.length_append, List.length_cons, List.length_nil]; omega⟩
theorem Fin.opn {d c : Nat} {ts : List Tok} {ns : List Nd} {w : Bs} (h : Fin (d + 1) c ts ns) (hw : isS w ts = true) : Fin d (c + 4) ts.tail ns :=
  ⟨by have := h.1; omega, by have := h.2; have := isS_pos hw; simp only [List.length_tail]; omega⟩
theorem Fin.sk {d c : Nat} {ts : List Tok} {ns : List Nd} {w : Bs} (h : Fin d c ts ns) (hw : isS w ts = true) : Fin d (c + 4) ts.tail ns :=
  ⟨h.1, by have := h.2; have := isS_pos hw; simp only [List.length_tail]; omega⟩
theorem Fin.lo {d c c' : Nat} {ts : List Tok} {ns : List Nd} (h : Fin d c ts ns) (hc : c' ≤ c) : Fin d c' ts ns := ⟨h.1, by have := h.2; omega⟩
end Go.Proofs.YtbcngegcpdppfaaGreatDoor

namespace Go.Proofs.YtbcngegcpdppfaaGreatDoor
open Go.AE Go.Ru
set_option maxRecDepth 100000
set_option pp.maxSteps 2000

def cChan : AC := fun args K k => ∃ d : Nat, ∃ e ts ns mo op X, args = [pp] ∧ K = encP e ts ns op mo ++ X ∧ Fine d ts ns ∧ After e (chanS e ⟨ts, ns, mo⟩) intV op X k
theorem chan_ok : COk 157 cChan := by
  rintro args K k ⟨d, e, ts, ns, mo, op, X, rfl, rfl, hf, hk⟩
  refine frameP g7_ok 9 rfl fun Q hr hp => ?_
  have hk := hk.ak
  have hf := hf.fin
  unfold chanS at hk
  conv => whnf
  refine ⟨_, _, _, _, _, _, rfl, rfl, hk.step (ident_le _ _) (fun t ts ns mo hl hk => ?_) (fun a er hb => by ((conv => whnf); exact hp _ _ rfl hb))⟩
  have hf := hf.st hl
  conv => whnf
  refine ⟨[], _, _, _, _, _, _, _, _, _, _, _, rfl, rfl, PutK.nils hf.sz ?_⟩
  conv => whnf
  exact hr _ _ _ _ _ _ rfl rfl hk

def g8 : AG := gput 66 cEx (gput 156 (cIndex 41) (gput 157 cChan g7))
theorem g8_ok : GOk Tryz.prog g8 := gput_ok ex_ok (gput_ok idx_ok' (gput_ok chan_ok g7_ok))

/-- a list that is read, and what is left -/
structure LC where
  ts : List Tok
  ns : List Nd
  mo : Int
  l : List Int
  n : Nat

def kidA (l : List Int) : ABlk := .arr 3 1 0 l.length fun i => pvs (kidF l i)
theorem kidA_snoc (l : List Int) (x : Int) (f : Nat → List AV) (hf : f 0 = [intV x]) : (ABlk.arr 3 1 0 (l.length + 1) (catF l.length (fun i => pvs (kidF l i)) f)).le (kidA (l ++ [x])) := by
  refine ABlk.arr_eq (by simp) fun i hi => ?_
  by_cases h : i < l.length
  · rw [catF_lt h]
    simp [kidF, List.getD_eq_getElem?_getD, List.getElem?_append_left h]
  · obtain rfl : i = l.length := by omega
    rw [catF_ge (Nat.le_refl _), Nat.sub_self, hf]
    simp [kidF, List.getD_eq_getElem?_getD, pvs, intV]
theorem kid_cl (l : List Int) (x : Int) (f : Nat → List AV) (n : Nat) (hf : f 0 = [intV x]) : (ABlk.arr 3 1 0 (l.length + 1) (catF l.length (fun i => pvs (kidF l i)) f)).cl n := fun i hi => by
  by_cases h : i < l.length
  · rw [catF_lt h]; rfl
  · obtain rfl : i = l.length := by omega
    rw [catF_ge (Nat.le_refl _), Nat.sub_self, hf]; rfl

def cCall : AC := fun args K k => ∃ d : Nat, ∃ e ts ns mo op kd at_ tx X, args = [pp, .agg [.p (.int .i64 kd), .p (.int .i64 0), .p (.int .i64 at_), .p (.str tx), .p .nils]] ∧ K = encP e ts ns op mo ++ X ∧ op = 40 - (d : Int) ∧ Fine d ts ns ∧
  After e (callS e d at_ tx ⟨ts, ns, mo⟩) intV op X k
theorem call_ok2 : COk 158 cCall := by
  rintro args K k ⟨d, e, ts, ns, mo, op, kd, at_, tx, X, rfl, rfl, ho, hf, hk⟩
  refine frameP g8_ok 19 rfl fun Q hr hp => ?_
  have hk := hk.ak
  have hf := hf.fin
  unfold callS at hk
  conv => whnf
  refine ⟨_, _, _, _, _, _, rfl, rfl, hk.step (ident_le _ _) (fun t ts ns mo hl hk => ?_) (fun a er hb => by ((conv => whnf); exact hp _ _ rfl hb))⟩
  have hf := hf.st hl
  conv => whnf
  refine ⟨[], _, _, _, _, _, _, _, _, _, _, _, rfl, rfl, PutK.nils hf.sz ?_⟩
  conv => whnf
  replace hk : AK ((withinS e d [40] [41] (listS (oneS (inS e d)) [(ns.length : Int)]) ⟨ts, ns ++ [⟨19, 0, t.at_, t.tx, []⟩], mo⟩).bind fun l s => putS ⟨13, 0, at_, tx, l⟩ s) _ _ := hk
  have hf := hf.pt (n := ⟨19, 0, t.at_, t.tx, []⟩)
  generalize ns ++ [⟨19, 0, t.at_, t.tx, []⟩] = ns at hk hf
  cases hw : isS [40] ts with
  | false =>
    have hb := hk.within_no hw
    refine ⟨_, _, _, _, _, _, _, rfl, rfl, ?_⟩
    conv => whnf
    refine two_false hw ?_
    conv => whnf
    refine ⟨_, _, _, _, _, _, _, rfl, rfl, ⟨fun a ts' ns' mo' h => by simp [wantS, hw] at h, fun a er h => ?_⟩⟩
    simp only [wantS, hw, R.bad.injEq] at h
    obtain ⟨rfl, rfl⟩ := h
    ((conv => whnf); exact hp _ _ rfl hb)
  | true =>
    refine ⟨_, _, _, _, _, _, _, rfl, rfl, ?_⟩
    conv => whnf
    refine two_true hw ?_
    conv => whnf
    cases d with
    | zero =>
      have hb := hk.within_deep hw
      refine two_true (by simp [ho]) ?_
      conv => whnf
      refine ⟨_, _, _, _, _, _, _, rfl, rfl, ?_⟩
      ((conv => whnf); exact hp _ _ rfl hb)
    | succ d =>
    refine two_false (by simp [ho]; omega) ?_
    conv => whnf
    refine ⟨_, _, _, _, _, _, _, rfl, rfl, ⟨fun a ts' ns' mo' h => ?_, fun a er h => by simp [wantS, hw] at h⟩⟩
    simp only [wantS, hw, dropS, R.ok.injEq, PS.mk.injEq] at h
    obtain ⟨-, rfl, rfl, rfl⟩ := h
    have hd2 : d < 1000 := by have := hf.1; omega
    have hk := hk.within hw (by simp)
    rw [← in_mo ho hd2] at hk
    have hf := hf.opn hw
    conv => whnf
    refine ⟨_, _, _, _, _, _, _, rfl, rfl, ?_⟩
    conv => whnf
    refine two_intro (fun h2 => ?_) (fun h2 => ?_)
    · have h2 : isS [41] ts.tail = true := h2
      simp only [listS, h2, bindO] at hk
      conv => whnf
      refine ⟨_, _, _, _, _, _, _, rfl, rfl, hk.step (want_le _ _ _) (fun t ts ns mo hl hk => ?_) (fun a er hb => by ((conv => whnf); exact hp _ _ rfl hb))⟩
      have hf := hf.st hl
      conv => whnf
      refine ⟨[_], _, _, _, _, _, _, _, _, _, _, _, rfl, rfl, PutK.slr hf.sz rfl rfl rfl (allLt_ok ⟨trivial, rfl⟩) ?_⟩
      conv => whnf
      rw [out_op ho hd2]
      exact hr _ _ _ _ _ _ rfl rfl hk
    · have h2 : isS [41] ts.tail = false := h2
      simp only [listS, h2, oneS, bindA, bindO] at hk
      conv => whnf
      refine ⟨d, _, _, _, _, _, _, rfl, rfl, in_op ho hd2, hf.fine, hk.step (ex_le _ _ _) (fun x ts ns mo hl hk => ?_) (fun a er hb => by ((conv => whnf); exact hp _ _ rfl hb))⟩
      have hf := hf.st hl
      conv => whnf
      refine ⟨by conv => whnf, ?_⟩
      conv => whnf
      refine ⟨by conv => whnf, ?_⟩
      conv => whnf
      refine ⟨⟨rfl, rfl, rfl, allLt_ok ⟨trivial, rfl⟩⟩, ?_⟩
      conv => whnf
      refine ⟨⟨rfl, rfl, rfl, rfl, by decide, by decide⟩, ?_⟩
      conv => whnf
      refine loop_cut (ι := LC) 7 (fun i => ⟨[(0, pp), (1, .fn 176 [] [.ptr 6 0 1 0 0, .ptr 2 0 1 0 0])],
          encP e i.ts i.ns (IntKind.i64.wrap (op + 1)) i.mo ++ [.box 52 [pp], .box 41 [.p (.int .i64 kd), .p (.int .i64 0), .p (.int .i64 at_), .p (.str tx), .p .nils], .box 46 [.p (.int .i64 t.k.code), .p (.int .i64 t.n), .p (.int .i64 t.at_), .p (.str t.tx)], kidA i.l, .box 39 [.slr 5 0 0 i.l.length]]⟩)
        (fun i => i.ts.length ≤ i.n ∧ i.n ≤ 900000 ∧ i.l.length + i.ts.length ≤ 900000 ∧ Fin d 3 i.ts i.ns ∧ AK ((commaL (oneS (inS e (d + 1))) i.n i.l ⟨i.ts, i.ns, i.mo⟩).bind fun l s => (wantS e [41] s).bind fun _ s => putS ⟨13, 0, at_, tx, l⟩ s)
          (fun a s => k (.ret (intV a)) (encP e s.ts s.ns op s.mo ++ X)) (fun a er => k (.pan (wrongV a er)) (deads 2 ++ X)))
        (fun i => i.n) ⟨ts, ns, mo, [_, _], ts.length⟩ rfl rfl ⟨AV.le_refl _, AV.le_refl _, trivial⟩ ⟨rfl, fun _ _ => rfl, rfl, rfl, rfl, allLt_ok ⟨⟨trivial, rfl⟩, rfl⟩, rfl, trivial⟩ ⟨ABlk.le_refl _, ABlk.le_refl _, ABlk.le_refl _, ABlk.le_refl _, ABlk.le_refl _, ABlk.arr_eq rfl (allLt_ok ⟨⟨trivial, rfl⟩, rfl⟩), ABlk.le_refl _, trivial⟩
        ⟨Nat.le_refl _, ?_, ?_, hf.lo (by omega), hk⟩ ?_
      · have := hf.s; show ts.length ≤ 900000; omega
      · have := hf.s; show 2 + ts.length ≤ 900000; omega
      clear hk hf hl
      rintro Y hle ⟨ts, ns, mo, l, n⟩ ⟨hn, hn2, hln, hf, hk⟩ ih
      simp only at hn hn2 hln hf hk
      conv => whnf
      refine ⟨_, _, _, _, _, _, _, rfl, rfl, ⟨fun h => ?_, fun h => ?_⟩⟩
      · cases n with
        | zero => have := isS_pos h; simp only at this; omega
        | succ n =>
        have h : isS [44] ts = true := h
        simp only [commaL, h, oneS, bindA, bindO, dropS] at hk
        conv => whnf
        refine ⟨d, _, _, _, _, _, _, rfl, rfl, in_op ho hd2, (hf.sk h).fine, hk.step (ex_le _ _ _) (fun x ts2 ns2 mo2 hl hk => ?_) (fun a er hb => by ((conv => whnf); exact hp _ _ rfl hb))⟩
        have hf := (hf.sk h).st hl
        have hpos := isS_pos h
        conv => whnf
        refine ⟨by conv => whnf, ?_⟩
        conv => whnf
        refine ⟨by conv => whnf, ?_⟩
        conv => whnf
        refine ⟨⟨rfl, rfl, rfl, allLt_ok ⟨trivial, rfl⟩⟩, ?_⟩
        conv => whnf
        refine ⟨⟨rfl, rfl, rfl, rfl, ?_, ?_⟩, ?_⟩
        · show (l.length + 1) * 8 ≤ 140737488355328
          omega
        · show l.length + 1 ≤ 9223372036854775807
          omega
        conv => whnf
        have hl2 := hl.2
        simp only [List.length_tail] at hl2
        refine hle _ _ (Le.cutEnv 7 rfl rfl ⟨rfl, fun _ _ => rfl, rfl, rfl, rfl, ?_, rfl, trivial⟩ ?_ ?_) (ih ⟨ts2, ns2, mo2, l ++ [x], n⟩ (by simp only; omega) ⟨?_, ?_, ?_, hf.lo (by omega), hk⟩)
        · exact kid_cl l x _ 7 rfl
        · exact ⟨AV.le_refl _, AV.le_refl _, trivial⟩
        · exact ⟨ABlk.le_refl _, ABlk.le_refl _, ABlk.le_refl _, ABlk.le_refl _, ABlk.le_refl _, kidA_snoc l x _ rfl, ABlk.le_of_eq (by simp), trivial⟩
        · simp only; omega
        · simp only; omega
        · simp only [List.length_append, List.length_cons, List.length_nil]; omega
      · have h : isS [44] ts = false := h
        have hk : AK ((wantS e [41] ⟨ts, ns, mo⟩).bind fun _ s => putS ⟨13, 0, at_, tx, l⟩ s) (fun a s => k (.ret (intV a)) (encP e s.ts s.ns op s.mo ++ X)) (fun a er => k (.pan (wrongV a er)) (deads 2 ++ X)) := by
          cases n with
          | zero => exact hk
          | succ n => simp only [commaL, h, bindO] at hk; exact hk
        conv => whnf
        refine ⟨_, _, _, _, _, _, _, rfl, rfl, hk.step (want_le _ _ _) (fun _ ts ns mo hl hk => ?_) (fun a er hb => by ((conv => whnf); exact hp _ _ rfl hb))⟩
        have hf := hf.st hl
        conv => whnf
        refine ⟨l, _, _, _, _, _, _, _, _, _, _, _, rfl, rfl, PutK.slr hf.sz rfl rfl rfl (fun _ _ => rfl) ?_⟩
        conv => whnf
        rw [out_op ho hd2]
        exact hr _ _ _ _ _ _ rfl rfl hk
end Go.Proofs.YtbcngegcpdppfaaGreatDoor

namespace Go.Proofs.YtbcngegcpdppfaaGreatDoor
open Go.AE Go.Ru
set_option maxRecDepth 100000
set_option pp.maxSteps 2000

def g9 : AG := gput 158 cCall g8
theorem g9_ok : GOk Tryz.prog g9 := gput_ok call_ok2 g8_ok

def cNamed : AC := fun args K k => ∃ d : Nat, ∃ e ts ns mo op X, args = [pp] ∧ K = encP e ts ns op mo ++ X ∧ op = 40 - (d : Int) ∧ Fine d ts ns ∧
  After e (namedS e d ⟨ts, ns, mo⟩) intV op X k
theorem named_ok : COk 159 cNamed := by
  rintro args K k ⟨d, e, ts, ns, mo, op, X, rfl, rfl, ho, hf, hk⟩
  refine frameP g9_ok 19 rfl fun Q hr hp => ?_
  have hk := hk.ak
  have hf := hf.fin
  have hd := hf.d
  unfold namedS at hk
  conv => whnf
  refine ⟨_, _, _, _, _, _, rfl, rfl, hk.step (ident_le _ _) (fun t ts ns mo hl hk => ?_) (fun a er hb => by ((conv => whnf); exact hp _ _ rfl hb))⟩
  have hf := hf.st hl
  conv => whnf
  refine ⟨_, _, _, _, _, _, _, rfl, rfl, ?_⟩
  conv => whnf
  refine two_intro (fun h => ?_) (fun h => ?_)
  · have h : isS [91] ts = true := h
    simp only [h] at hk
    conv => whnf
    refine ⟨d, _, _, _, _, _, _, rfl, rfl, ho, by omega, hf.fine, hk.step (index_le _ _ _) (fun x ts ns mo hl hk => ?_) (fun a er hb => by ((conv => whnf); exact hp _ _ rfl hb))⟩
    have hf := hf.st hl
    conv => whnf
    refine ⟨_, _, _, _, _, _, _, rfl, rfl, hk.step (want_le _ _ _) (fun _ ts ns mo hl hk => ?_) (fun a er hb => by ((conv => whnf); exact hp _ _ rfl hb))⟩
    have hf := hf.st hl
    conv => whnf
    refine ⟨d, _, _, _, _, _, _, rfl, rfl, ho, hf.fine, hk.step (ex_le _ _ _) (fun y ts ns mo hl hk => ?_) (fun a er hb => by ((conv => whnf); exact hp _ _ rfl hb))⟩
    have hf := hf.st hl
    conv => whnf
    refine ⟨[x, y], _, _, _, _, _, _, _, _, _, _, _, rfl, rfl, PutK.slr hf.sz rfl rfl rfl (allLt_ok ⟨⟨trivial, rfl⟩, rfl⟩) ?_⟩
    conv => whnf
    exact hr _ _ _ _ _ _ rfl rfl hk
  · have h : isS [91] ts = false := h
    simp only [h] at hk
    conv => whnf
    refine ⟨_, _, _, _, _, _, _, rfl, rfl, hk.step (want_le _ _ _) (fun _ ts ns mo hl hk => ?_) (fun a er hb => by ((conv => whnf); exact hp _ _ rfl hb))⟩
    have hf := hf.st hl
    conv => whnf
    refine ⟨_, _, _, _, _, _, _, rfl, rfl, ⟨fun h => ?_, fun h => ?_⟩⟩
    · have h : isS [105, 110] ts = true := h
      simp only [h, dropS] at hk
      conv => whnf
      refine ⟨d, _, _, _, _, _, _, rfl, rfl, (hf.sk h).fine, hk.step (chan_le _ _) (fun x ts2 ns2 mo2 hl hk => ?_) (fun a er hb => by ((conv => whnf); exact hp _ _ rfl hb))⟩
      have hf := (hf.sk h).st hl
      conv => whnf
      refine ⟨[x], _, _, _, _, _, _, _, _, _, _, _, rfl, rfl, PutK.slr hf.sz rfl rfl rfl (allLt_ok ⟨trivial, rfl⟩) ?_⟩
      conv => whnf
      exact hr _ _ _ _ _ _ rfl rfl hk
    have h : isS [105, 110] ts = false := h
    simp only [h] at hk
    conv => whnf
    refine ⟨_, _, _, _, _, _, _, rfl, rfl, ⟨fun h => ?_, fun h => ?_⟩⟩
    · have h : isS [99, 97, 108, 108] ts = true := h
      simp only [h, dropS] at hk
      conv => whnf
      refine ⟨d, _, _, _, _, _, _, _, _, _, rfl, rfl, ho, (hf.sk h).fine, hk.last (fun x ts2 ns2 mo2 hk => ?_) (fun a er hb => by ((conv => whnf); exact hp _ _ rfl hb))⟩
      conv => whnf
      exact hr _ _ _ _ _ _ rfl rfl hk
    have h : isS [99, 97, 108, 108] ts = false := h
    simp only [h] at hk
    conv => whnf
    refine ⟨_, _, _, _, _, _, _, rfl, rfl, ⟨fun h => ?_, fun h => ?_⟩⟩
    · have h : isS [110, 101, 119] ts = true := h
      simp only [h, dropS] at hk
      conv => whnf
      refine ⟨d, _, _, _, _, _, _, rfl, rfl, ho, (hf.sk h).fine, hk.step (ex_le _ _ _) (fun x ts2 ns2 mo2 hl hk => ?_) (fun a er hb => by ((conv => whnf); exact hp _ _ rfl hb))⟩
      have hf := (hf.sk h).st hl
      conv => whnf
      refine ⟨[x], _, _, _, _, _, _, _, _, _, _, _, rfl, rfl, PutK.slr hf.sz rfl rfl rfl (allLt_ok ⟨trivial, rfl⟩) ?_⟩
      conv => whnf
      exact hr _ _ _ _ _ _ rfl rfl hk
    have h : isS [110, 101, 119] ts = false := h
    simp only [h] at hk
    conv => whnf
    refine ⟨d, _, _, _, _, _, _, rfl, rfl, ho, hf.fine, hk.step (ex_le _ _ _) (fun x ts2 ns2 mo2 hl hk => ?_) (fun a er hb => by ((conv => whnf); exact hp _ _ rfl hb))⟩
    have hf := hf.st hl
    conv => whnf
    refine ⟨[x], _, _, _, _, _, _, _, _, _, _, _, rfl, rfl, PutK.slr hf.sz rfl rfl rfl (allLt_ok ⟨trivial, rfl⟩) ?_⟩
    conv => whnf
    exact hr _ _ _ _ _ _ rfl rfl hk

def g10 : AG := gput 159 cNamed g9
theorem g10_ok : GOk Tryz.prog g10 := gput_ok named_ok g9_ok

def cPlain : AC := fun args K k => ∃ d : Nat, ∃ e ts ns mo op X, args = [pp] ∧ K = encP e ts ns op mo ++ X ∧ op = 40 - (d : Int) ∧ Fine d ts ns ∧
  After e (plainS e d ⟨ts, ns, mo⟩) intV op X k
def hdK : List Tok → Int
  | [] => 5
  | t :: _ => t.k.code
def hdN : List Tok → Int
  | [] => 0
  | t :: _ => t.n
def hdT : List Tok → Bs
  | [] => []
  | t :: _ => t.tx
theorem enc_hd (e : Int) (ts : List Tok) : encs e ts (Int.toNat 0) = [.int .i64 (hdK ts), .int .i64 (hdN ts), .int .i64 (hd e ts), .str (hdT ts)] := by cases ts <;> rfl
theorem plain_ok : COk 138 cPlain := by
  rintro args K k ⟨d, e, ts, ns, mo, op, X, rfl, rfl, ho, hf, hk⟩
  refine frameP g10_ok 19 rfl fun Q hr hp => ?_
  have hk := hk.ak
  have hf := hf.fin
  have hd := hf.d
  unfold plainS at hk
  simp only at hk
  conv => whnf
  refine ⟨by simp <;> omega, ?_⟩
  conv => whnf
  rw [enc_hd]
  conv => whnf
  refine ⟨_, _, _, _, _, _, _, rfl, rfl, ⟨fun h => ?_, fun h => ?_⟩⟩
  · have h : isS [111, 117, 116] ts = true := h
    simp only [h, dropS] at hk
    conv => whnf
    refine ⟨d, _, _, _, _, _, _, rfl, rfl, (hf.sk h).fine, hk.step (chan_le _ _) (fun c ts2 ns2 mo2 hl hk => ?_) (fun a er hb => by ((conv => whnf); exact hp _ _ rfl hb))⟩
    have hf := (hf.sk h).st hl
    conv => whnf
    refine ⟨d, _, _, _, _, _, _, rfl, rfl, ho, hf.fine, hk.step (ex_le _ _ _) (fun x ts3 ns3 mo3 hl hk => ?_) (fun a er hb => by ((conv => whnf); exact hp _ _ rfl hb))⟩
    have hf := hf.st hl
    conv => whnf
    refine ⟨[c, x], _, _, _, _, _, _, _, _, _, _, _, rfl, rfl, PutK.slr hf.sz rfl rfl rfl (allLt_ok ⟨⟨trivial, rfl⟩, rfl⟩) ?_⟩
    conv => whnf
    exact hr _ _ _ _ _ _ rfl rfl hk
  have h : isS [111, 117, 116] ts = false := h
  simp only [h] at hk
  conv => whnf
  refine ⟨_, _, _, _, _, _, _, rfl, rfl, ⟨fun h => ?_, fun h => ?_⟩⟩
  · have h : isS [99, 97, 108, 108] ts = true := h
    simp only [h, dropS] at hk
    conv => whnf
    refine ⟨d, _, _, _, _, _, _, _, _, _, rfl, rfl, ho, (hf.sk h).fine, hk.last (fun x ts2 ns2 mo2 hk => ?_) (fun a er hb => by ((conv => whnf); exact hp _ _ rfl hb))⟩
    conv => whnf
    exact hr _ _ _ _ _ _ rfl rfl hk
  have h : isS [99, 97, 108, 108] ts = false := h
  simp only [h] at hk
  conv => whnf
  refine ⟨_, _, _, _, _, _, _, rfl, rfl, ⟨fun h => ?_, fun h => ?_⟩⟩
  · have h : isS [116, 104, 114, 111, 119] ts = true := h
    simp only [h, dropS] at hk
    conv => whnf
    refine ⟨d, _, _, _, _, _, _, rfl, rfl, ho, (hf.sk h).fine, hk.step (ex_le _ _ _) (fun x ts2 ns2 mo2 hl hk => ?_) (fun a er hb => by ((conv => whnf); exact hp _ _ rfl hb))⟩
    have hf := (hf.sk h).st hl
    conv => whnf
    refine ⟨[x], _, _, _, _, _, _, _, _, _, _, _, rfl, rfl, PutK.slr hf.sz rfl rfl rfl (allLt_ok ⟨trivial, rfl⟩) ?_⟩
    conv => whnf
    exact hr _ _ _ _ _ _ rfl rfl hk
  have h : isS [116, 104, 114, 111, 119] ts = false := h
  simp only [h] at hk
  conv => whnf
  refine ⟨_, _, _, _, _, _, _, rfl, rfl, ⟨fun h => ?_, fun h => ?_⟩⟩
  · have h : isS [114, 101, 116, 117, 114, 110] ts = true := h
    simp only [h, dropS] at hk
    have hf := hf.sk h
    conv => whnf
    refine ⟨_, _, _, _, _, _, _, rfl, rfl, ?_⟩
    conv => whnf
    refine two_intro (fun h => ?_) (fun h => ?_)
    · have h : isS [59] ts.tail = true := h
      simp only [h] at hk
      conv => whnf
      refine ⟨[], _, _, _, _, _, _, _, _, _, _, _, rfl, rfl, PutK.nils hf.sz ?_⟩
      conv => whnf
      exact hr _ _ _ _ _ _ rfl rfl hk
    · have h : isS [59] ts.tail = false := h
      simp only [h] at hk
      conv => whnf
      refine ⟨d, _, _, _, _, _, _, rfl, rfl, ho, hf.fine, hk.step (ex_le _ _ _) (fun x ts2 ns2 mo2 hl hk => ?_) (fun a er hb => by ((conv => whnf); exact hp _ _ rfl hb))⟩
      have hf := hf.st hl
      conv => whnf
      refine ⟨[x], _, _, _, _, _, _, _, _, _, _, _, rfl, rfl, PutK.slr hf.sz rfl rfl rfl (allLt_ok ⟨trivial, rfl⟩) ?_⟩
      conv => whnf
      exact hr _ _ _ _ _ _ rfl rfl hk
  have h : isS [114, 101, 116, 117, 114, 110] ts = false := h
  simp only [h] at hk
  conv => whnf
  refine ⟨d, _, _, _, _, _, _, rfl, rfl, ho, hf.fine, hk.last (fun x ts2 ns2 mo2 hk => ?_) (fun a er hb => by ((conv => whnf); exact hp _ _ rfl hb))⟩
  conv => whnf
  exact hr _ _ _ _ _ _ rfl rfl hk
end Go.Proofs.YtbcngegcpdppfaaGreatDoor

namespace Go.Proofs.YtbcngegcpdppfaaGreatDoor
open Go.AE Go.Ru
set_option maxRecDepth 100000
set_option pp.maxSteps 2000

def g11 : AG := gput 138 cPlain g10
theorem g11_ok : GOk Tryz.prog g11 := gput_ok plain_ok g10_ok

def cStmt (D : Nat) : AC := fun args K k => ∃ d : Nat, ∃ e ts ns mo op X, args = [pp] ∧ K = encP e ts ns op mo ++ X ∧ op = 40 - (d : Int) ∧ d < D ∧ Fine d ts ns ∧ After e (stmtS e d ⟨ts, ns, mo⟩) intV op X k
def cBlock (D : Nat) : AC := fun args K k => ∃ d : Nat, ∃ e ts ns mo op X, args = [pp] ∧ K = encP e ts ns op mo ++ X ∧ op = 40 - (d : Int) ∧ d ≤ D ∧ Fine d ts ns ∧ After e (blockB e d (inStmtS e d) ⟨ts, ns, mo⟩) intV op X k

theorem block_ok {D : Nat} (hS : COk 119 (cStmt D)) : COk 137 (cBlock D) := by
  rintro args K k ⟨d, e, ts, ns, mo, op, X, rfl, rfl, ho, hd, hf, hk⟩
  refine frameP (G := gput 119 (cStmt D) g11) (gput_ok hS g11_ok) 19 rfl fun Q hr hp => ?_
  have hk := hk.ak
  have hf := hf.fin
  unfold blockB at hk
  simp only at hk
  conv => whnf
  refine ⟨by simp <;> omega, ?_⟩
  conv => whnf
  rw [enc_hd]
  conv => whnf
  cases hw : isS [123] ts with
  | false =>
    have hb := hk.within_no hw
    refine ⟨_, _, _, _, _, _, _, rfl, rfl, ?_⟩
    conv => whnf
    refine two_false hw ?_
    conv => whnf
    refine ⟨_, _, _, _, _, _, _, rfl, rfl, ⟨fun a ts' ns' mo' h => by simp [wantS, hw] at h, fun a er h => ?_⟩⟩
    simp only [wantS, hw, R.bad.injEq] at h
    obtain ⟨rfl, rfl⟩ := h
    ((conv => whnf); exact hp _ _ rfl hb)
  | true =>
    refine ⟨_, _, _, _, _, _, _, rfl, rfl, ?_⟩
    conv => whnf
    refine two_true hw ?_
    conv => whnf
    cases d with
    | zero =>
      have hb := hk.within_deep hw
      refine two_true (by simp [ho]) ?_
      conv => whnf
      refine ⟨_, _, _, _, _, _, _, rfl, rfl, ?_⟩
      ((conv => whnf); exact hp _ _ rfl hb)
    | succ d =>
    refine two_false (by simp [ho]; omega) ?_
    conv => whnf
    refine ⟨_, _, _, _, _, _, _, rfl, rfl, ⟨fun a ts' ns' mo' h => ?_, fun a er h => by simp [wantS, hw] at h⟩⟩
    simp only [wantS, hw, dropS, R.ok.injEq, PS.mk.injEq] at h
    obtain ⟨-, rfl, rfl, rfl⟩ := h
    have hd2 : d < 1000 := by have := hf.1; omega
    have hk := hk.within hw (by simp)
    rw [← in_mo ho hd2] at hk
    have hf := hf.opn hw
    conv => whnf
    refine loop_nil (ι := LC) 3 1 (fun i => pvs (kidF [] i)) (fun i => ⟨[(1, .ptr 2 0 1 0 0), (3, .ptr 6 0 1 0 0)],
        encP e i.ts i.ns (IntKind.i64.wrap (op + 1)) i.mo ++ [.box 52 [pp], .box 4 [.p (.bool false)], .box 41 [.p (.int .i64 6), .p (.int .i64 0), .p (.int .i64 (Ru.hd e ts)), .p (.str []), .p .nils], .box 39 [.p .nils], .box 39 [.slr 7 0 0 i.l.length], kidA i.l]⟩)
      (fun i => i.ts.length < i.n ∧ i.n ≤ 900001 ∧ i.l.length + i.ts.length ≤ 900000 ∧ Fin d 3 i.ts i.ns ∧ AK ((stmtsL (stmtS e d) i.n i.l ⟨i.ts, i.ns, i.mo⟩).bind fun l s => (wantS e [125] s).bind fun _ s => putS ⟨6, 0, Ru.hd e ts, [], l⟩ s)
        (fun a s => k (.ret (intV a)) (encP e s.ts s.ns op s.mo ++ X)) (fun a er => k (.pan (wrongV a er)) (deads 2 ++ X)))
      (fun i => i.n) ⟨ts.tail, ns, (if IntKind.i64.wrap (op + 1) > mo then IntKind.i64.wrap (op + 1) else mo), [], ts.tail.length + 1⟩
      (encP e ts.tail ns (IntKind.i64.wrap (op + 1)) (if IntKind.i64.wrap (op + 1) > mo then IntKind.i64.wrap (op + 1) else mo) ++ [.box 52 [pp], .box 4 [.p (.bool false)], .box 41 [.p (.int .i64 6), .p (.int .i64 0), .p (.int .i64 (Ru.hd e ts)), .p (.str []), .p .nils], .box 39 [.p .nils], .box 39 [.slr 7 0 0 0]])
      rfl ⟨.inl (AV.le_refl _), .inl (AV.le_refl _), trivial⟩
      ?_ rfl
      ⟨Nat.lt_succ_self _, ?_, ?_, hf.lo (by omega), hk⟩ ?_
    · exact ⟨.inl (ABlk.le_refl _), .inl (ABlk.le_refl _), .inl (ABlk.le_refl _), .inl (ABlk.le_refl _), .inl (ABlk.le_refl _), .inl (ABlk.le_refl _), .inr ⟨_, _, _, rfl, rfl, .inr ⟨rfl, rfl⟩, trivial⟩, trivial⟩
    · have := hf.s; show ts.tail.length + 1 ≤ 900001; omega
    · have := hf.s; show 0 + ts.tail.length ≤ 900000; omega
    clear hk hf
    rintro Y hle ⟨ts, ns, mo, l, n⟩ ⟨hn, hn2, hln, hf, hk⟩ ih
    simp only at hn hn2 hln hf hk
    cases n with
    | zero => omega
    | succ n =>
    conv => whnf
    refine ⟨_, _, _, _, _, _, _, rfl, rfl, ?_⟩
    conv => whnf
    refine two_intro (fun h => ?_) (fun h => ?_)
    · have h : isS [125] ts = false := nt h
      simp only [stmtsL, h, bindA] at hk
      conv => whnf
      refine ⟨d, _, _, _, _, _, _, rfl, rfl, in_op ho hd2, by omega, hf.fine, hk.step (stmt_le _ _ _) (fun x ts2 ns2 mo2 hl hk => ?_) (fun a er hb => by ((conv => whnf); exact hp _ _ rfl hb))⟩
      have hf := hf.st hl
      conv => whnf
      refine ⟨by conv => whnf, ?_⟩
      conv => whnf
      refine ⟨by conv => whnf, ?_⟩
      conv => whnf
      refine ⟨⟨rfl, rfl, rfl, allLt_ok ⟨trivial, rfl⟩⟩, ?_⟩
      conv => whnf
      refine ⟨⟨rfl, rfl, rfl, rfl, ?_, ?_⟩, ?_⟩
      · show (l.length + 1) * 8 ≤ 140737488355328
        omega
      · show l.length + 1 ≤ 9223372036854775807
        omega
      conv => whnf
      have hl2 := hl.2
      simp only at hl2
      refine hle _ _ (Le.cutEnv 8 rfl rfl ⟨rfl, fun _ _ => rfl, rfl, rfl, rfl, rfl, rfl, ?_, trivial⟩ ?_ ?_) (ih ⟨ts2, ns2, mo2, l ++ [x], n⟩ (by simp only; omega) ⟨?_, ?_, ?_, hf.lo (by omega), hk⟩)
      · exact kid_cl l x _ 8 rfl
      · exact ⟨AV.le_refl _, AV.le_refl _, trivial⟩
      · exact ⟨ABlk.le_refl _, ABlk.le_refl _, ABlk.le_refl _, ABlk.le_refl _, ABlk.le_refl _, ABlk.le_refl _, ABlk.le_of_eq (by simp), kidA_snoc l x _ rfl, trivial⟩
      · simp only; omega
      · simp only; omega
      · simp only [List.length_append, List.length_cons, List.length_nil]; omega
    · have h : isS [125] ts = true := nf h
      simp only [stmtsL, h, bindO] at hk
      conv => whnf
      refine ⟨_, _, _, _, _, _, _, rfl, rfl, hk.step (want_le _ _ _) (fun _ ts ns mo hl hk => ?_) (fun a er hb => by ((conv => whnf); exact hp _ _ rfl hb))⟩
      have hf := hf.st hl
      conv => whnf
      refine ⟨l, _, _, _, _, _, _, _, _, _, _, _, rfl, rfl, PutK.slr hf.sz rfl rfl rfl (fun _ _ => rfl) ?_⟩
      conv => whnf
      refine ⟨by conv => whnf, ?_⟩
      conv => whnf
      rw [out_op ho hd2]
      exact hr _ _ _ _ _ _ rfl rfl hk
end Go.Proofs.YtbcngegcpdppfaaGreatDoor

namespace Go.Proofs.YtbcngegcpdppfaaGreatDoor
open Go.AE Go.Ru
set_option maxRecDepth 100000
set_option pp.maxSteps 2000

theorem stmtS_eq (e : Int) (d : Nat) (s : PS) : stmtS e d s = stmtB e d (inStmtS e d) s := by cases d <;> rfl
theorem blk_le (e : Int) (d : Nat) : Dm 3 1 (blockB e d (inStmtS e d)) := block_le e d ((inStmt_le e d).weak (by omega) (by omega))

theorem stmt_step {D : Nat} (hB : COk 137 (cBlock D)) : COk 119 (cStmt (D + 1)) := by
  rintro args K k ⟨d, e, ts, ns, mo, op, X, rfl, rfl, ho, hd, hf, hk⟩
  refine frameP (G := gput 137 (cBlock D) g11) (gput_ok hB g11_ok) 19 rfl fun Q hr hp => ?_
  rw [stmtS_eq] at hk
  have hk := hk.ak
  have hf := hf.fin
  unfold stmtB at hk
  simp only at hk
  conv => whnf
  refine ⟨by simp <;> omega, ?_⟩
  conv => whnf
  rw [enc_hd]
  conv => whnf
  refine ⟨_, _, _, _, _, _, _, rfl, rfl, ⟨fun h => ?_, fun h => ?_⟩⟩
  · have h : isS [105, 102] ts = true := h
    simp only [h, dropS] at hk
    conv => whnf
    refine ⟨d, _, _, _, _, _, _, rfl, rfl, ho, (hf.sk h).fine, hk.step (ex_le _ _ _) (fun x ts2 ns2 mo2 hl hk => ?_) (fun a er hb => by ((conv => whnf); exact hp _ _ rfl hb))⟩
    have hf := (hf.sk h).st hl
    conv => whnf
    refine ⟨d, _, _, _, _, _, _, rfl, rfl, ho, by omega, hf.fine, hk.step (blk_le _ _ _) (fun a ts3 ns3 mo3 hl hk => ?_) (fun a er hb => by ((conv => whnf); exact hp _ _ rfl hb))⟩
    have hf := hf.st hl
    conv => whnf
    refine ⟨_, _, _, _, _, _, _, rfl, rfl, ⟨fun h => ?_, fun h => ?_⟩⟩
    · have h : isS [101, 108, 115, 101] ts3 = true := h
      simp only [h] at hk
      conv => whnf
      refine ⟨d, _, _, _, _, _, _, rfl, rfl, ho, by omega, (hf.sk h).fine, hk.step (blk_le _ _ _) (fun b ts4 ns4 mo4 hl hk => ?_) (fun a er hb => by ((conv => whnf); exact hp _ _ rfl hb))⟩
      have hf := (hf.sk h).st hl
      conv => whnf
      refine ⟨[x, a, b], _, _, _, _, _, _, _, _, _, _, _, rfl, rfl, PutK.slr hf.sz rfl rfl rfl (allLt_ok ⟨⟨⟨trivial, rfl⟩, rfl⟩, rfl⟩) ?_⟩
      conv => whnf
      exact hr _ _ _ _ _ _ rfl rfl hk
    · have h : isS [101, 108, 115, 101] ts3 = false := h
      simp only [h] at hk
      conv => whnf
      refine ⟨[], _, _, _, _, _, _, _, _, _, _, _, rfl, rfl, PutK.nils hf.sz ?_⟩
      have hf := hf.pt (n := ⟨6, 0, Ru.hd e ts, [], []⟩)
      conv => whnf
      refine ⟨[x, a, ns3.length], _, _, _, _, _, _, _, _, _, _, _, rfl, rfl, PutK.slr hf.sz rfl rfl rfl (allLt_ok ⟨⟨⟨trivial, rfl⟩, rfl⟩, rfl⟩) ?_⟩
      conv => whnf
      exact hr _ _ _ _ _ _ rfl rfl hk
  have h : isS [105, 102] ts = false := h
  simp only [h] at hk
  conv => whnf
  refine ⟨_, _, _, _, _, _, _, rfl, rfl, ⟨fun h => ?_, fun h => ?_⟩⟩
  · have h : isS [119, 104, 105, 108, 101] ts = true := h
    simp only [h, dropS] at hk
    conv => whnf
    refine ⟨d, _, _, _, _, _, _, rfl, rfl, ho, (hf.sk h).fine, hk.step (ex_le _ _ _) (fun x ts2 ns2 mo2 hl hk => ?_) (fun a er hb => by ((conv => whnf); exact hp _ _ rfl hb))⟩
    have hf := (hf.sk h).st hl
    conv => whnf
    refine ⟨d, _, _, _, _, _, _, rfl, rfl, ho, by omega, hf.fine, hk.step (blk_le _ _ _) (fun a ts3 ns3 mo3 hl hk => ?_) (fun a er hb => by ((conv => whnf); exact hp _ _ rfl hb))⟩
    have hf := hf.st hl
    conv => whnf
    refine ⟨[x, a], _, _, _, _, _, _, _, _, _, _, _, rfl, rfl, PutK.slr hf.sz rfl rfl rfl (allLt_ok ⟨⟨trivial, rfl⟩, rfl⟩) ?_⟩
    conv => whnf
    exact hr _ _ _ _ _ _ rfl rfl hk
  have h : isS [119, 104, 105, 108, 101] ts = false := h
  simp only [h] at hk
  conv => whnf
  refine ⟨_, _, _, _, _, _, _, rfl, rfl, ⟨fun h => ?_, fun h => ?_⟩⟩
  · have h : isS [116, 114, 121] ts = true := h
    simp only [h, dropS] at hk
    conv => whnf
    refine ⟨d, _, _, _, _, _, _, rfl, rfl, ho, by omega, (hf.sk h).fine, hk.step (blk_le _ _ _) (fun a ts2 ns2 mo2 hl hk => ?_) (fun a er hb => by ((conv => whnf); exact hp _ _ rfl hb))⟩
    have hf := (hf.sk h).st hl
    conv => whnf
    refine ⟨_, _, _, _, _, _, _, rfl, rfl, hk.step (want_le _ _ _) (fun _ ts3 ns3 mo3 hl hk => ?_) (fun a er hb => by ((conv => whnf); exact hp _ _ rfl hb))⟩
    have hf := hf.st hl
    conv => whnf
    refine ⟨_, _, _, _, _, _, rfl, rfl, hk.step (ident_le _ _) (fun t ts4 ns4 mo4 hl hk => ?_) (fun a er hb => by ((conv => whnf); exact hp _ _ rfl hb))⟩
    have hf := hf.st hl
    conv => whnf
    refine ⟨d, _, _, _, _, _, _, rfl, rfl, ho, by omega, hf.fine, hk.step (blk_le _ _ _) (fun b ts5 ns5 mo5 hl hk => ?_) (fun a er hb => by ((conv => whnf); exact hp _ _ rfl hb))⟩
    have hf := hf.st hl
    conv => whnf
    refine ⟨[a, b], _, _, _, _, _, _, _, _, _, _, _, rfl, rfl, PutK.slr hf.sz rfl rfl rfl (allLt_ok ⟨⟨trivial, rfl⟩, rfl⟩) ?_⟩
    conv => whnf
    exact hr _ _ _ _ _ _ rfl rfl hk
  have h : isS [116, 114, 121] ts = false := h
  simp only [h] at hk
  conv => whnf
  refine ⟨d, _, _, _, _, _, _, rfl, rfl, ho, hf.fine, hk.step (plain_le _ _ _) (fun x ts2 ns2 mo2 hl hk => ?_) (fun a er hb => by ((conv => whnf); exact hp _ _ rfl hb))⟩
  have hf := hf.st hl
  conv => whnf
  refine ⟨_, _, _, _, _, _, _, rfl, rfl, hk.step (want_le _ _ _) (fun _ ts3 ns3 mo3 hl hk => ?_) (fun a er hb => by ((conv => whnf); exact hp _ _ rfl hb))⟩
  conv => whnf
  exact hr _ _ _ _ _ _ rfl rfl hk

theorem stmt_ok (D : Nat) : COk 119 (cStmt D) := by
  induction D with
  | zero =>
    rintro args K k ⟨d, e, ts, ns, mo, op, X, -, -, -, h, -⟩
    omega
  | succ D ih => exact stmt_step (block_ok ih)

def cTyped : AC := fun args K k => ∃ d : Nat, ∃ e ts ns mo op kd at_ tx X, args = [pp, .agg [.p (.int .i64 kd), .p (.int .i64 0), .p (.int .i64 at_), .p (.str tx), .p .nils]] ∧ K = encP e ts ns op mo ++ X ∧ Fine d ts ns ∧
  After e (typedS e kd at_ tx ⟨ts, ns, mo⟩) intV op X k
theorem typed_ok : COk 81 cTyped := by
  rintro args K k ⟨d, e, ts, ns, mo, op, kd, at_, tx, X, rfl, rfl, hf, hk⟩
  refine frameP g7_ok 19 rfl fun Q hr hp => ?_
  have hk := hk.ak
  have hf := hf.fin
  unfold typedS at hk
  conv => whnf
  refine ⟨_, _, _, _, _, _, rfl, rfl, ?_⟩
  conv => whnf
  refine two_intro (fun h => ?_) (fun h => ?_)
  · have h : (typesS ts == 0) = true := h
    simp only [h] at hk
    have hb := hk
    conv => whnf
    refine ⟨_, _, _, _, _, _, _, rfl, rfl, ?_⟩
    ((conv => whnf); exact hp _ _ rfl hb)
  · have h : (typesS ts == 0) = false := h
    simp only [h] at hk
    obtain ⟨t, r, rfl⟩ : ∃ t r, ts = t :: r := by
      cases ts with
      | nil => simp [typesS, isS] at h
      | cons t r => exact ⟨t, r, rfl⟩
    conv => whnf
    refine ⟨_, _, _, _, _, _, _, rfl, rfl, ?_⟩
    conv => whnf
    refine ⟨[], _, _, _, _, _, _, _, _, _, _, _, rfl, rfl, PutK.nils hf.sz ?_⟩
    conv => whnf
    exact hr _ _ _ _ _ _ rfl rfl hk
end Go.Proofs.YtbcngegcpdppfaaGreatDoor

namespace Go.Proofs.YtbcngegcpdppfaaGreatDoor
open Go.AE Go.Ru
set_option maxRecDepth 100000
set_option pp.maxSteps 2000

/-- a call on a parser's state, whose answer is said in weaker words -/
theorem frameW {G : AG} (hG : GOk Tryz.prog G) (n : Nat) {f : FuncId} {args : List AV} {e : Int} {ts : List Tok} {ns : List Nd} {op mo : Int} {X : List ABlk} {k : AO → List ABlk → Prop} (hcl : AV.cls 2 args = true)
    (h : ∀ Q : AO → List ABlk → Prop,
      (∀ v K' v' K2 ts' ns' op' mo', Wk1 2 v K' v' K2 → v'.cl 2 = true → takeN K2 2 = encP e ts' ns' op' mo' → k (.ret v') (encP e ts' ns' op' mo' ++ X) → Q (.ret v) K') →
      (∀ v K', v.cl 0 = true → k (.pan v) (deads 2 ++ X) → Q (.pan v) K') → acall1 T0 G n f args (encP e ts ns op mo) Q) :
    ACalls Tryz.prog f args (encP e ts ns op mo ++ X) k := by
  refine (ACalls.frame (K0 := encP e ts ns op mo) (k := fun ao K1 => k ao (K1 ++ X)) hcl (fun r _ => encP_cl e ts ns op mo r)
    (ACalls.post (k := fun ao K1 => ∃ v' K2, Wk1 2 ao.val K1 v' K2 ∧ frameK 2 (fun ao K1 => k ao (K1 ++ X)) (ao.with v') K2) (call_ok hG n f args _ _ (h _ ?_ ?_)) ?_)).mono ?_
  · intro v K' v' K2 ts' ns' op' mo' hw h1 h3 h4
    have hl : 2 ≤ K2.length := by
      have := congrArg List.length h3
      match K2, h3 with
      | [], h3 => simp [takeN, encP] at h3
      | [_], h3 => simp [takeN, encP] at h3
      | _ :: _ :: _, _ => simp
    refine ⟨v', K2, hw, h1, hl, fun r hr => ?_, ?_⟩
    · have := encP_cl e ts' ns' op' mo' r
      rw [← h3, hp_takeN, if_pos hr] at this; exact this
    · show k (.ret v') (takeN K2 2 ++ X)
      rw [h3]; exact h4
  · intro v K' h1 h2; exact ⟨v, K', Wk1.refl _ _ _, h1, h2⟩
  · rintro (v | v) K1 ⟨v', K2, h1, h2⟩
    · exact ⟨v', K2, h1, h2⟩
    · exact ⟨v', K2, h1, h2⟩
  · rintro ao K ⟨K1, rfl, h⟩; exact h

def g12 : AG := gput 119 (cStmt 41) (gput 81 cTyped g11)
theorem g12_ok : GOk Tryz.prog g12 := gput_ok (stmt_ok 41) (gput_ok typed_ok g11_ok)

def kidV (l : List Int) : AV := .p (.sl 1 l.length (kidF l))
def cVars : AC := fun args K k => ∃ d : Nat, ∃ e ts ns mo op kind X, args = [pp, .p (.int .i64 kind)] ∧ K = encP e ts ns op mo ++ X ∧ Fine d ts ns ∧
  After e (varsS e kind ⟨ts, ns, mo⟩) kidV op X k
theorem vars_ok : COk 46 cVars := by
  rintro args K k ⟨d, e, ts, ns, mo, op, kind, X, rfl, rfl, hf, hk⟩
  refine frameW g12_ok 19 rfl fun Q hr hp => ?_
  have hk := hk.ak
  have hf := hf.fin
  unfold varsS at hk
  conv => whnf
  refine loop_nil (ι := LC) 3 1 (fun i => pvs (kidF [] i)) (fun i => ⟨[(0, pp), (1, .p (.int .i64 kind)), (5, .slr 2 0 0 i.l.length)], encP e i.ts i.ns op i.mo ++ [kidA i.l]⟩)
      (fun i => i.ts.length ≤ i.n ∧ i.n ≤ 900001 ∧ i.l.length + i.ts.length ≤ 900000 ∧ Fin d 0 i.ts i.ns ∧ AK (varsL e kind i.n i.l ⟨i.ts, i.ns, i.mo⟩)
        (fun a s => k (.ret (kidV a)) (encP e s.ts s.ns op s.mo ++ X)) (fun a er => k (.pan (wrongV a er)) (deads 2 ++ X)))
      (fun i => i.n) ⟨ts, ns, mo, [], ts.length⟩ (encP e ts ns op mo)
      rfl ⟨.inl (AV.le_refl _), .inl (AV.le_refl _), .inr ⟨rfl, rfl⟩, trivial⟩ (nswK.refl _ _) rfl
      ⟨Nat.le_refl _, ?_, ?_, hf, hk⟩ ?_
  · have := hf.s; show ts.length ≤ 900001; omega
  · have := hf.s; show 0 + ts.length ≤ 900000; omega
  clear hk hf
  rintro Y hle ⟨ts, ns, mo, l, n⟩ ⟨hn, hn2, hln, hf, hk⟩ ih
  simp only at hn hn2 hln hf hk
  conv => whnf
  refine ⟨_, _, _, _, _, _, _, rfl, rfl, ?_⟩
  conv => whnf
  refine two_intro (fun h => ?_) (fun h => ?_)
  · have h : isS [118, 97, 114] ts = true := h
    cases n with
    | zero => have := isS_pos h; simp only at this; omega
    | succ n =>
    obtain ⟨t0, ts, rfl⟩ : ∃ t r, ts = t :: r := by
      cases ts with
      | nil => simp [isS] at h
      | cons t r => exact ⟨t, r, rfl⟩
    simp only [varsL, h, bindA, dropS] at hk
    conv => whnf
    refine ⟨_, _, _, _, _, _, _, rfl, rfl, ?_⟩
    conv => whnf
    have hf : Fin d 4 ts ns := ⟨hf.1, by have := hf.2; simp only [List.length_cons] at this; omega⟩
    refine ⟨_, _, _, _, _, _, rfl, rfl, hk.step (ident_le _ _) (fun t ts2 ns2 mo2 hl hk => ?_) (fun a er hb => by ((conv => whnf); exact hp _ _ rfl hb))⟩
    have hf := hf.st hl
    have hl1 := hl.2
    conv => whnf
    refine ⟨d, _, _, _, _, _, _, _, _, _, rfl, rfl, hf.fine, hk.step (typed_le _ _ _ _ _) (fun x ts3 ns3 mo3 hl hk => ?_) (fun a er hb => by ((conv => whnf); exact hp _ _ rfl hb))⟩
    have hf := hf.st hl
    have hl2 := hl.2
    conv => whnf
    refine ⟨⟨rfl, rfl, rfl, allLt_ok ⟨trivial, rfl⟩⟩, ?_⟩
    conv => whnf
    refine ⟨⟨rfl, rfl, rfl, rfl, ?_, ?_⟩, ?_⟩
    · show (l.length + 1) * 8 ≤ 140737488355328
      omega
    · show l.length + 1 ≤ 9223372036854775807
      omega
    conv => whnf
    refine ⟨_, _, _, _, _, _, _, rfl, rfl, hk.step (want_le _ _ _) (fun _ ts4 ns4 mo4 hl hk => ?_) (fun a er hb => by ((conv => whnf); exact hp _ _ rfl hb))⟩
    have hf := hf.st hl
    have hl3 := hl.2
    conv => whnf
    simp only [List.length_cons, List.tail_cons] at hl1 hl2 hl3 hn hln
    refine hle _ _ (Le.cutEnv 3 rfl rfl ⟨rfl, fun _ _ => rfl, ?_, trivial⟩ ?_ ?_) (ih ⟨ts4, ns4, mo4, l ++ [x], n⟩ (by simp only; omega) ⟨?_, ?_, ?_, hf.lo (by omega), hk⟩)
    · exact kid_cl l x _ 3 rfl
    · exact ⟨AV.le_refl _, AV.le_refl _, AV.le_of_eq (show AV.slr 2 0 0 (l.length + 1) = AV.slr 2 0 0 (l ++ [x]).length by simp), trivial⟩
    · exact ⟨ABlk.le_refl _, ABlk.le_refl _, kidA_snoc l x _ rfl, trivial⟩
    · simp only; omega
    · simp only; omega
    · simp only [List.length_append, List.length_cons, List.length_nil]; omega
  · have h : isS [118, 97, 114] ts = false := h
    have hk : k (.ret (kidV l)) (encP e ts ns op mo ++ X) := by
      cases n with
      | zero => exact hk
      | succ n => simp only [varsL, h] at hk; exact hk
    conv => whnf
    exact hr _ _ _ _ _ _ _ _ (Wk1.freeze (r := 2) rfl (kidF l) (fun _ _ => rfl)) rfl rfl hk
end Go.Proofs.YtbcngegcpdppfaaGreatDoor

namespace Go.Proofs.YtbcngegcpdppfaaGreatDoor
open Go.AE Go.Ru
set_option maxRecDepth 100000
set_option pp.maxSteps 2000

def g13 : AG := gput 46 cVars g12
theorem g13_ok : GOk Tryz.prog g13 := gput_ok vars_ok g12_ok

/-- a block with declarations at its head -/
def cBody : AC := fun args K k => ∃ d : Nat, ∃ e ts ns mo op X, args = [pp, .p (.bool true)] ∧ K = encP e ts ns op mo ++ X ∧ op = 40 - (d : Int) ∧ Fine d ts ns ∧
  After e (bodyS e d ⟨ts, ns, mo⟩) (fun a => .tup [kidV a.1, intV a.2]) op X k
theorem body_ok : COk 88 cBody := by
  rintro args K k ⟨d, e, ts, ns, mo, op, X, rfl, rfl, ho, hf, hk⟩
  refine frameP g13_ok 19 rfl fun Q hr hp => ?_
  have hk := hk.ak
  have hf := hf.fin
  unfold bodyS at hk
  simp only at hk
  conv => whnf
  refine ⟨by simp <;> omega, ?_⟩
  conv => whnf
  rw [enc_hd]
  conv => whnf
  cases hw : isS [123] ts with
  | false =>
    have hb := hk.within_no hw
    refine ⟨_, _, _, _, _, _, _, rfl, rfl, ?_⟩
    conv => whnf
    refine two_false hw ?_
    conv => whnf
    refine ⟨_, _, _, _, _, _, _, rfl, rfl, ⟨fun a ts' ns' mo' h => by simp [wantS, hw] at h, fun a er h => ?_⟩⟩
    simp only [wantS, hw, R.bad.injEq] at h
    obtain ⟨rfl, rfl⟩ := h
    ((conv => whnf); exact hp _ _ rfl hb)
  | true =>
    refine ⟨_, _, _, _, _, _, _, rfl, rfl, ?_⟩
    conv => whnf
    refine two_true hw ?_
    conv => whnf
    cases d with
    | zero =>
      have hb := hk.within_deep hw
      refine two_true (by simp [ho]) ?_
      conv => whnf
      refine ⟨_, _, _, _, _, _, _, rfl, rfl, ?_⟩
      ((conv => whnf); exact hp _ _ rfl hb)
    | succ d =>
    refine two_false (by simp [ho]; omega) ?_
    conv => whnf
    refine ⟨_, _, _, _, _, _, _, rfl, rfl, ⟨fun a ts' ns' mo' h => ?_, fun a er h => by simp [wantS, hw] at h⟩⟩
    simp only [wantS, hw, dropS, R.ok.injEq, PS.mk.injEq] at h
    obtain ⟨-, rfl, rfl, rfl⟩ := h
    have hd2 : d < 1000 := by have := hf.1; omega
    have hk := hk.within hw (by simp)
    rw [← in_mo ho hd2] at hk
    have hf := hf.opn hw
    conv => whnf
    simp only [bindA] at hk
    refine ⟨d, _, _, _, _, _, _, _, rfl, rfl, hf.fine, hk.step (vars_le _ _ _) (fun vs ts2 ns2 mo2 hl hk => ?_) (fun a er hb => by ((conv => whnf); exact hp _ _ rfl hb))⟩
    have hf := hf.st hl
    have hl0 := hl.2
    have hd40 : d < 41 := by have := hf.d; omega
    simp only at hl0
    conv => whnf
    refine loop_nil (ι := LC) 3 1 (fun i => pvs (kidF [] i)) (fun i => ⟨[(1, .ptr 2 0 1 0 0), (3, .ptr 6 0 1 0 0)],
        encP e i.ts i.ns (IntKind.i64.wrap (op + 1)) i.mo ++ [.box 52 [pp], .box 4 [.p (.bool true)], .box 41 [.p (.int .i64 6), .p (.int .i64 0), .p (.int .i64 (Ru.hd e ts)), .p (.str []), .p .nils], .box 39 [kidV vs], .box 39 [.slr 7 0 0 i.l.length], kidA i.l]⟩)
      (fun i => i.ts.length < i.n ∧ i.n ≤ 900001 ∧ i.l.length + i.ts.length ≤ 900000 ∧ Fin d 3 i.ts i.ns ∧ AK ((stmtsL (stmtS e d) i.n i.l ⟨i.ts, i.ns, i.mo⟩).bind fun l s => (wantS e [125] s).bind fun _ s => (putS ⟨6, 0, Ru.hd e ts, [], l⟩ s).bind fun b s => .ok (vs, b) s)
        (fun a s => k (.ret (.tup [kidV a.1, intV a.2])) (encP e s.ts s.ns op s.mo ++ X)) (fun a er => k (.pan (wrongV a er)) (deads 2 ++ X)))
      (fun i => i.n) ⟨ts2, ns2, mo2, [], ts2.length + 1⟩
      (encP e ts2 ns2 (IntKind.i64.wrap (op + 1)) mo2 ++ [.box 52 [pp], .box 4 [.p (.bool true)], .box 41 [.p (.int .i64 6), .p (.int .i64 0), .p (.int .i64 (Ru.hd e ts)), .p (.str []), .p .nils], .box 39 [kidV vs], .box 39 [.slr 7 0 0 0]])
      rfl ⟨.inl (AV.le_refl _), .inl (AV.le_refl _), trivial⟩
      ?_ rfl
      ⟨Nat.lt_succ_self _, ?_, ?_, hf.lo (by omega), hk⟩ ?_
    · exact ⟨.inl (ABlk.le_refl _), .inl (ABlk.le_refl _), .inl (ABlk.le_refl _), .inl (ABlk.le_refl _), .inl (ABlk.le_refl _), .inl (ABlk.le_refl _), .inr ⟨_, _, _, rfl, rfl, .inr ⟨rfl, rfl⟩, trivial⟩, trivial⟩
    · have := hf.s; show ts2.length + 1 ≤ 900001; omega
    · have := hf.s; show 0 + ts2.length ≤ 900000; omega
    clear hk hf hl0 hl
    rintro Y hle ⟨ts, ns, mo, l, n⟩ ⟨hn, hn2, hln, hf, hk⟩ ih
    simp only at hn hn2 hln hf hk
    cases n with
    | zero => omega
    | succ n =>
    conv => whnf
    refine ⟨_, _, _, _, _, _, _, rfl, rfl, ?_⟩
    conv => whnf
    refine two_intro (fun h => ?_) (fun h => ?_)
    · have h : isS [125] ts = false := nt h
      simp only [stmtsL, h, bindA] at hk
      conv => whnf
      refine ⟨d, _, _, _, _, _, _, rfl, rfl, in_op ho hd2, by omega, hf.fine, hk.step (stmt_le _ _ _) (fun x ts2 ns2 mo2 hl hk => ?_) (fun a er hb => by ((conv => whnf); exact hp _ _ rfl hb))⟩
      have hf := hf.st hl
      conv => whnf
      refine ⟨by conv => whnf, ?_⟩
      conv => whnf
      refine ⟨by conv => whnf, ?_⟩
      conv => whnf
      refine ⟨⟨rfl, rfl, rfl, allLt_ok ⟨trivial, rfl⟩⟩, ?_⟩
      conv => whnf
      refine ⟨⟨rfl, rfl, rfl, rfl, ?_, ?_⟩, ?_⟩
      · show (l.length + 1) * 8 ≤ 140737488355328
        omega
      · show l.length + 1 ≤ 9223372036854775807
        omega
      conv => whnf
      have hl2 := hl.2
      simp only at hl2
      refine hle _ _ (Le.cutEnv 8 rfl rfl ⟨rfl, fun _ _ => rfl, rfl, rfl, rfl, rfl, rfl, ?_, trivial⟩ ?_ ?_) (ih ⟨ts2, ns2, mo2, l ++ [x], n⟩ (by simp only; omega) ⟨?_, ?_, ?_, hf.lo (by omega), hk⟩)
      · exact kid_cl l x _ 8 rfl
      · exact ⟨AV.le_refl _, AV.le_refl _, trivial⟩
      · exact ⟨ABlk.le_refl _, ABlk.le_refl _, ABlk.le_refl _, ABlk.le_refl _, ABlk.le_refl _, ABlk.le_refl _, ABlk.le_of_eq (by simp), kidA_snoc l x _ rfl, trivial⟩
      · simp only; omega
      · simp only; omega
      · simp only [List.length_append, List.length_cons, List.length_nil]; omega
    · have h : isS [125] ts = true := nf h
      simp only [stmtsL, h, bindO] at hk
      conv => whnf
      refine ⟨_, _, _, _, _, _, _, rfl, rfl, hk.step (want_le _ _ _) (fun _ ts ns mo hl hk => ?_) (fun a er hb => by ((conv => whnf); exact hp _ _ rfl hb))⟩
      have hf := hf.st hl
      conv => whnf
      refine ⟨l, _, _, _, _, _, _, _, _, _, _, _, rfl, rfl, PutK.slr hf.sz rfl rfl rfl (fun _ _ => rfl) ?_⟩
      conv => whnf
      refine ⟨by conv => whnf, ?_⟩
      conv => whnf
      rw [out_op ho hd2]
      exact hr _ _ _ _ _ _ rfl rfl hk
end Go.Proofs.YtbcngegcpdppfaaGreatDoor

namespace Go.Proofs.YtbcngegcpdppfaaGreatDoor
open Go.AE Go.Ru
set_option maxRecDepth 100000
set_option pp.maxSteps 2000

def g14 : AG := gput 88 cBody g13
theorem g14_ok : GOk Tryz.prog g14 := gput_ok body_ok g13_ok

def cProc : AC := fun args K k => ∃ d : Nat, ∃ e ts ns mo op X, args = [pp] ∧ K = encP e ts ns op mo ++ X ∧ op = 40 - (d : Int) ∧ Fine d ts ns ∧
  After e (procS e d ⟨ts, ns, mo⟩) intV op X k
theorem kid_app (l vs : List Int) (b : Int) (f : Nat → List AV) (hf : f 0 = [intV b]) : ∀ i, i < l.length + vs.length + 1 →
    catF (l.length + vs.length) (catF l.length (fun i => pvs (kidF l i)) (fun i => pvs (kidF vs i))) f i = [intV ((l ++ vs ++ [b]).getD i 0)] := fun i hi => by
  by_cases h : i < l.length + vs.length
  · rw [catF_lt h]
    by_cases h2 : i < l.length
    · rw [catF_lt h2]
      have : (l ++ vs ++ [b])[i]? = l[i]? := by rw [List.append_assoc, List.getElem?_append_left h2]
      simp only [kidF, List.getD_eq_getElem?_getD, this, pvs, intV]
    · rw [catF_ge (by omega)]
      have : (l ++ vs ++ [b])[i]? = vs[i - l.length]? := by
        rw [List.getElem?_append_left (by simp; omega), List.getElem?_append_right (by omega)]
      simp only [kidF, List.getD_eq_getElem?_getD, this, pvs, intV]
  · obtain rfl : i = l.length + vs.length := by omega
    rw [catF_ge (Nat.le_refl _), Nat.sub_self, hf]
    have : (l ++ vs ++ [b])[l.length + vs.length]? = some b := by
      rw [List.getElem?_append_right (by simp)]; simp
    simp only [List.getD_eq_getElem?_getD, this, Option.getD_some]
/-- is the next token that one? Behind it a nil slice is a row of nothing. -/
def cIsN : AC := fun args K k => cIs args K k ∨ cIs args K (fun ao K1 => ∃ ty sz g K2, nswK K1.length K1 K2 ∧ k ao (K2 ++ [.arr ty sz 0 0 g]))
theorem isN_ok : COk 78 cIsN := by
  rintro args K k (h | h)
  · exact is_ok _ _ _ h
  · exact (is_ok _ _ _ h).nil
theorem proc_ok : COk 47 cProc := by
  rintro args K k ⟨d, e, ts0, ns, mo, op, X, rfl, rfl, ho, hf, hk⟩
  refine frameP (G := gput 78 cIsN g14) (gput_ok isN_ok g14_ok) 19 rfl fun Q hr hp => ?_
  have hk := hk.ak
  have hf := hf.fin
  have hd0 := hf.d
  unfold procS at hk
  simp only at hk
  conv => whnf
  refine ⟨by simp <;> omega, ?_⟩
  conv => whnf
  rw [enc_hd]
  conv => whnf
  refine ⟨_, _, _, _, _, _, _, rfl, rfl, hk.step (want_le _ _ _) (fun _ ts2 ns2 mo2 hl hk => ?_) (fun a er hb => by ((conv => whnf); exact hp _ _ rfl hb))⟩
  have hf := hf.st hl
  conv => whnf
  refine ⟨_, _, _, _, _, _, rfl, rfl, hk.step (ident_le _ _) (fun t ts ns mo hl hk => ?_) (fun a er hb => by ((conv => whnf); exact hp _ _ rfl hb))⟩
  have hf := hf.st hl
  conv => whnf
  refine .inl ?_
  cases hw : isS [40] ts with
  | false =>
    have hb := hk.within_no hw
    refine ⟨_, _, _, _, _, _, _, rfl, rfl, ?_⟩
    conv => whnf
    refine two_false hw ?_
    conv => whnf
    refine ⟨_, _, _, _, _, _, _, rfl, rfl, ⟨fun a ts' ns' mo' h => by simp [wantS, hw] at h, fun a er h => ?_⟩⟩
    simp only [wantS, hw, R.bad.injEq] at h
    obtain ⟨rfl, rfl⟩ := h
    ((conv => whnf); exact hp _ _ rfl hb)
  | true =>
    refine ⟨_, _, _, _, _, _, _, rfl, rfl, ?_⟩
    conv => whnf
    refine two_true hw ?_
    conv => whnf
    cases d with
    | zero =>
      have hb := hk.within_deep hw
      refine two_true (by simp [ho]) ?_
      conv => whnf
      refine ⟨_, _, _, _, _, _, _, rfl, rfl, ?_⟩
      ((conv => whnf); exact hp _ _ rfl hb)
    | succ d =>
    refine two_false (by simp [ho]; omega) ?_
    conv => whnf
    refine ⟨_, _, _, _, _, _, _, rfl, rfl, ⟨fun a ts' ns' mo' h => ?_, fun a er h => by simp [wantS, hw] at h⟩⟩
    simp only [wantS, hw, dropS, R.ok.injEq, PS.mk.injEq] at h
    obtain ⟨-, rfl, rfl, rfl⟩ := h
    have hd2 : d < 1000 := by have := hf.1; omega
    have hk := hk.within hw (by simp)
    rw [← in_mo ho hd2] at hk
    have hf := hf.opn hw
    conv => whnf
    refine .inr ⟨_, _, _, _, _, _, _, rfl, rfl, 3, 1, fun i => pvs (kidF [] i), encP e ts.tail ns (IntKind.i64.wrap (op + 1)) (if IntKind.i64.wrap (op + 1) > mo then IntKind.i64.wrap (op + 1) else mo) ++ [.box 52 [pp], .box 41 [.p (.int .i64 3), .p (.int .i64 0), .p (.int .i64 (hd e ts0)), .p (.str t.tx), .p .nils], .box 39 [.slr 5 0 0 0]], ?_, ?_⟩
    · exact ⟨.inl (ABlk.le_refl _), .inl (ABlk.le_refl _), .inl (ABlk.le_refl _), .inl (ABlk.le_refl _), .inr ⟨_, _, _, rfl, rfl, .inr ⟨rfl, rfl⟩, trivial⟩, trivial⟩
    conv => whnf
    refine two_intro (fun h2 => ?_) (fun h2 => ?_)
    · have h2 : isS [41] ts.tail = true := h2
      simp only [listS, h2, bindO] at hk
      conv => whnf
      refine ⟨_, _, _, _, _, _, _, rfl, rfl, hk.step (want_le _ _ _) (fun _ ts ns mo hl hk => ?_) (fun a er hb => by ((conv => whnf); exact hp _ _ rfl hb))⟩
      have hf := hf.st hl
      conv => whnf
      have hln0 : ([] : List Int).length ≤ 900000 := by simp
      refine ⟨_, _, _, _, _, _, rfl, rfl, ?_⟩
      conv => whnf
      refine two_intro (fun h3 => ?_) (fun h3 => ?_)
      · obtain ⟨t2, ts, rfl⟩ : ∃ t r, ts = t :: r := by
          cases ts with
          | nil => simp [typesS, isS] at h3
          | cons t r => exact ⟨t, r, rfl⟩
        have h3 : decide (typesS (t2 :: ts) > 0) = true := h3
        simp only [h3, dropS] at hk
        conv => whnf
        refine ⟨_, _, _, _, _, _, _, rfl, rfl, ?_⟩
        conv => whnf
        rw [out_op ho hd2]
        have hf : Fin d 7 ts ns := ⟨hf.1, by have := hf.2; simp only [List.length_cons] at this; omega⟩
        refine ⟨d + 1, _, _, _, _, _, _, rfl, rfl, ho, ⟨hd0, by have := hf.2; omega⟩, hk.stepv (p := fun p s => Lw _ 3 1 s ∧ p.1.length ≤ _) (fun p s h => ⟨body_le _ _ _ _ _ h, body_len _ _ _ _ _ h⟩) (fun p ts ns mo hl hk => ?_) (fun a er hb => by ((conv => whnf); exact hp _ _ rfl hb))⟩
        have hpl := hl.2
        have hl := hl.1
        have hpb : p.1.length ≤ 900000 := by have := hf.2; simp only [List.tail_cons] at hpl; omega
        have hf := hf.st hl
        conv => whnf
        have hlen : (([] : List Int)).length ≤ 900000 := hln0
        refine ⟨?_, ?_⟩
        · conv => whnf
          refine ⟨⟨rfl, fun _ _ => rfl⟩, ?_⟩
          conv => whnf
          refine ⟨⟨rfl, rfl, rfl, rfl, ?_, ?_⟩, ?_⟩
          · show ((([] : List Int)).length + p.1.length) * 8 ≤ 140737488355328
            omega
          · show (([] : List Int)).length + p.1.length ≤ 9223372036854775807
            omega
          conv => whnf
          repeat ((refine And.intro ?_ ?_); (focus ((conv => whnf); done)); (conv => whnf))
          refine ⟨⟨rfl, rfl, rfl, allLt_ok ⟨trivial, rfl⟩⟩, ?_⟩
          conv => whnf
          refine ⟨⟨rfl, rfl, rfl, rfl, ?_, ?_⟩, ?_⟩
          · show ((([] : List Int)).length + p.1.length + 1) * 8 ≤ 140737488355328
            omega
          · show (([] : List Int)).length + p.1.length + 1 ≤ 9223372036854775807
            omega
          conv => whnf
          repeat ((refine And.intro ?_ ?_); (focus ((conv => whnf); done)); (conv => whnf))
          refine ⟨([] : List Int) ++ p.1 ++ [p.2], _, _, _, _, _, _, _, _, _, _, _, rfl, rfl, PutK.slr hf.sz rfl rfl ?_ ?_ ?_⟩
          · show (([] : List Int) ++ p.1 ++ [p.2]).length = (([] : List Int)).length + p.1.length + 1
            simp only [List.length_append, List.length_cons, List.length_nil]
          · exact kid_app (([] : List Int)) p.1 p.2 _ rfl
          conv => whnf
          repeat ((refine And.intro ?_ ?_); (focus ((conv => whnf); done)); (conv => whnf))
          exact hr _ _ _ _ _ _ rfl rfl hk
        · conv => whnf
          repeat ((refine And.intro ?_ ?_); (focus ((conv => whnf); done)); (conv => whnf))
          refine ⟨⟨rfl, fun _ _ => rfl⟩, ?_⟩
          conv => whnf
          refine ⟨⟨rfl, rfl, rfl, rfl, ?_, ?_⟩, ?_⟩
          · show ((([] : List Int)).length + p.1.length) * 8 ≤ 140737488355328
            omega
          · show (([] : List Int)).length + p.1.length ≤ 9223372036854775807
            omega
          conv => whnf
          repeat ((refine And.intro ?_ ?_); (focus ((conv => whnf); done)); (conv => whnf))
          refine ⟨⟨rfl, rfl, rfl, allLt_ok ⟨trivial, rfl⟩⟩, ?_⟩
          conv => whnf
          refine ⟨⟨rfl, rfl, rfl, rfl, ?_, ?_⟩, ?_⟩
          · show ((([] : List Int)).length + p.1.length + 1) * 8 ≤ 140737488355328
            omega
          · show (([] : List Int)).length + p.1.length + 1 ≤ 9223372036854775807
            omega
          conv => whnf
          repeat ((refine And.intro ?_ ?_); (focus ((conv => whnf); done)); (conv => whnf))
          refine ⟨([] : List Int) ++ p.1 ++ [p.2], _, _, _, _, _, _, _, _, _, _, _, rfl, rfl, PutK.slr hf.sz rfl rfl ?_ ?_ ?_⟩
          · show (([] : List Int) ++ p.1 ++ [p.2]).length = (([] : List Int)).length + p.1.length + 1
            simp only [List.length_append, List.length_cons, List.length_nil]
          · exact kid_app (([] : List Int)) p.1 p.2 _ rfl
          conv => whnf
          repeat ((refine And.intro ?_ ?_); (focus ((conv => whnf); done)); (conv => whnf))
          exact hr _ _ _ _ _ _ rfl rfl hk
      · have h3 : decide (typesS ts > 0) = false := h3
        simp only [h3] at hk
        conv => whnf
        rw [out_op ho hd2]
        have hf : Fin d 7 ts ns := hf.lo (by omega)
        refine ⟨d + 1, _, _, _, _, _, _, rfl, rfl, ho, ⟨hd0, by have := hf.2; omega⟩, hk.stepv (p := fun p s => Lw _ 3 1 s ∧ p.1.length ≤ _) (fun p s h => ⟨body_le _ _ _ _ _ h, body_len _ _ _ _ _ h⟩) (fun p ts ns mo hl hk => ?_) (fun a er hb => by ((conv => whnf); exact hp _ _ rfl hb))⟩
        have hpl := hl.2
        have hl := hl.1
        have hpb : p.1.length ≤ 900000 := by have := hf.2; simp only [List.tail_cons] at hpl; omega
        have hf := hf.st hl
        conv => whnf
        have hlen : (([] : List Int)).length ≤ 900000 := hln0
        refine ⟨?_, ?_⟩
        · conv => whnf
          refine ⟨⟨rfl, fun _ _ => rfl⟩, ?_⟩
          conv => whnf
          refine ⟨⟨rfl, rfl, rfl, rfl, ?_, ?_⟩, ?_⟩
          · show ((([] : List Int)).length + p.1.length) * 8 ≤ 140737488355328
            omega
          · show (([] : List Int)).length + p.1.length ≤ 9223372036854775807
            omega
          conv => whnf
          repeat ((refine And.intro ?_ ?_); (focus ((conv => whnf); done)); (conv => whnf))
          refine ⟨⟨rfl, rfl, rfl, allLt_ok ⟨trivial, rfl⟩⟩, ?_⟩
          conv => whnf
          refine ⟨⟨rfl, rfl, rfl, rfl, ?_, ?_⟩, ?_⟩
          · show ((([] : List Int)).length + p.1.length + 1) * 8 ≤ 140737488355328
            omega
          · show (([] : List Int)).length + p.1.length + 1 ≤ 9223372036854775807
            omega
          conv => whnf
          repeat ((refine And.intro ?_ ?_); (focus ((conv => whnf); done)); (conv => whnf))
          refine ⟨([] : List Int) ++ p.1 ++ [p.2], _, _, _, _, _, _, _, _, _, _, _, rfl, rfl, PutK.slr hf.sz rfl rfl ?_ ?_ ?_⟩
          · show (([] : List Int) ++ p.1 ++ [p.2]).length = (([] : List Int)).length + p.1.length + 1
            simp only [List.length_append, List.length_cons, List.length_nil]
          · exact kid_app (([] : List Int)) p.1 p.2 _ rfl
          conv => whnf
          repeat ((refine And.intro ?_ ?_); (focus ((conv => whnf); done)); (conv => whnf))
          exact hr _ _ _ _ _ _ rfl rfl hk
        · conv => whnf
          repeat ((refine And.intro ?_ ?_); (focus ((conv => whnf); done)); (conv => whnf))
          refine ⟨⟨rfl, fun _ _ => rfl⟩, ?_⟩
          conv => whnf
          refine ⟨⟨rfl, rfl, rfl, rfl, ?_, ?_⟩, ?_⟩
          · show ((([] : List Int)).length + p.1.length) * 8 ≤ 140737488355328
            omega
          · show (([] : List Int)).length + p.1.length ≤ 9223372036854775807
            omega
          conv => whnf
          repeat ((refine And.intro ?_ ?_); (focus ((conv => whnf); done)); (conv => whnf))
          refine ⟨⟨rfl, rfl, rfl, allLt_ok ⟨trivial, rfl⟩⟩, ?_⟩
          conv => whnf
          refine ⟨⟨rfl, rfl, rfl, rfl, ?_, ?_⟩, ?_⟩
          · show ((([] : List Int)).length + p.1.length + 1) * 8 ≤ 140737488355328
            omega
          · show (([] : List Int)).length + p.1.length + 1 ≤ 9223372036854775807
            omega
          conv => whnf
          repeat ((refine And.intro ?_ ?_); (focus ((conv => whnf); done)); (conv => whnf))
          refine ⟨([] : List Int) ++ p.1 ++ [p.2], _, _, _, _, _, _, _, _, _, _, _, rfl, rfl, PutK.slr hf.sz rfl rfl ?_ ?_ ?_⟩
          · show (([] : List Int) ++ p.1 ++ [p.2]).length = (([] : List Int)).length + p.1.length + 1
            simp only [List.length_append, List.length_cons, List.length_nil]
          · exact kid_app (([] : List Int)) p.1 p.2 _ rfl
          conv => whnf
          repeat ((refine And.intro ?_ ?_); (focus ((conv => whnf); done)); (conv => whnf))
          exact hr _ _ _ _ _ _ rfl rfl hk
    · have h2 : isS [41] ts.tail = false := h2
      simp only [listS, h2, oneS, paramS, bindA, bindO] at hk
      conv => whnf
      refine ⟨_, _, _, _, _, _, rfl, rfl, hk.step (ident_le _ _) (fun t1 ts2 ns2 mo2 hl hk => ?_) (fun a er hb => by ((conv => whnf); exact hp _ _ rfl hb))⟩
      have hf := hf.st hl
      conv => whnf
      refine ⟨d, _, _, _, _, _, _, _, _, _, rfl, rfl, hf.fine, hk.step (typed_le _ _ _ _ _) (fun x ts3 ns3 mo3 hl hk => ?_) (fun a er hb => by ((conv => whnf); exact hp _ _ rfl hb))⟩
      have hf := hf.st hl
      conv => whnf
      repeat ((refine And.intro ?_ ?_); (focus ((conv => whnf); done)); (conv => whnf))
      refine ⟨⟨rfl, rfl, rfl, allLt_ok ⟨trivial, rfl⟩⟩, ?_⟩
      conv => whnf
      refine ⟨⟨rfl, rfl, rfl, rfl, by decide, by decide⟩, ?_⟩
      conv => whnf
      refine loop_cut (ι := LC) 6 (fun i => ⟨[(0, pp), (1, .fn 86 [] [.ptr 2 0 1 0 0, .ptr 4 0 1 0 0])],
          encP e i.ts i.ns (IntKind.i64.wrap (op + 1)) i.mo ++ [.box 52 [pp], .box 41 [.p (.int .i64 3), .p (.int .i64 0), .p (.int .i64 (hd e ts0)), .p (.str t.tx), .p .nils], .box 39 [.slr 5 0 0 i.l.length], kidA i.l]⟩)
        (fun i => i.ts.length ≤ i.n ∧ i.n ≤ 900000 ∧ i.l.length + i.ts.length ≤ 900000 ∧ Fin d 7 i.ts i.ns ∧ AK ((commaL (oneS (paramS e)) i.n i.l ⟨i.ts, i.ns, i.mo⟩).bind fun l s => (wantS e [41] s).bind fun _ s => (bodyS e (d + 1)
              (match decide (typesS s.ts > 0) with
                | true => dropS s
                | false => s)).bind fun p s_1 => putS ⟨3, typesS s.ts, hd e ts0, t.tx, l ++ p.1 ++ [p.2]⟩ s_1)
          (fun a s => k (.ret (intV a)) (encP e s.ts s.ns op s.mo ++ X)) (fun a er => k (.pan (wrongV a er)) (deads 2 ++ X)))
        (fun i => i.n) ⟨ts3, ns3, mo3, [x], ts3.length⟩ rfl rfl ⟨AV.le_refl _, AV.le_refl _, trivial⟩ ⟨rfl, fun _ _ => rfl, rfl, rfl, rfl, ?_, trivial⟩ ⟨ABlk.le_refl _, ABlk.le_refl _, ABlk.le_refl _, ABlk.le_refl _, ABlk.le_refl _, ?_, trivial⟩
        ⟨Nat.le_refl _, ?_, ?_, hf.lo (by omega), hk⟩ ?_
      · exact kid_cl [] x _ 6 rfl
      · exact kidA_snoc [] x _ rfl
      · have := hf.s; show ts3.length ≤ 900000; omega
      · have := hf.s; show 1 + ts3.length ≤ 900000; omega
      clear hk hf hl
      rintro Y hle ⟨ts, ns, mo, l, n⟩ ⟨hn, hn2, hln, hf, hk⟩ ih
      simp only at hn hn2 hln hf hk
      conv => whnf
      refine ⟨_, _, _, _, _, _, _, rfl, rfl, ⟨fun h => ?_, fun h => ?_⟩⟩
      · cases n with
        | zero => have := isS_pos h; simp only at this; omega
        | succ n =>
        have h : isS [44] ts = true := h
        simp only [commaL, h, oneS, paramS, bindA, bindO, dropS] at hk
        have hf := hf.sk h
        have hpos := isS_pos h
        conv => whnf
        refine ⟨_, _, _, _, _, _, rfl, rfl, hk.step (ident_le _ _) (fun t2 ts2 ns2 mo2 hl hk => ?_) (fun a er hb => by ((conv => whnf); exact hp _ _ rfl hb))⟩
        have hf := hf.st hl
        have hl2 := hl.2
        conv => whnf
        refine ⟨d, _, _, _, _, _, _, _, _, _, rfl, rfl, hf.fine, hk.step (typed_le _ _ _ _ _) (fun x ts3 ns3 mo3 hl hk => ?_) (fun a er hb => by ((conv => whnf); exact hp _ _ rfl hb))⟩
        have hf := hf.st hl
        have hl3 := hl.2
        conv => whnf
        repeat ((refine And.intro ?_ ?_); (focus ((conv => whnf); done)); (conv => whnf))
        refine ⟨⟨rfl, rfl, rfl, allLt_ok ⟨trivial, rfl⟩⟩, ?_⟩
        conv => whnf
        refine ⟨⟨rfl, rfl, rfl, rfl, ?_, ?_⟩, ?_⟩
        · show (l.length + 1) * 8 ≤ 140737488355328
          omega
        · show l.length + 1 ≤ 9223372036854775807
          omega
        conv => whnf
        simp only [List.length_tail] at hl2 hl3
        refine hle _ _ (Le.cutEnv 6 rfl rfl ⟨rfl, fun _ _ => rfl, rfl, rfl, rfl, ?_, trivial⟩ ?_ ?_) (ih ⟨ts3, ns3, mo3, l ++ [x], n⟩ (by simp only; omega) ⟨?_, ?_, ?_, hf.lo (by omega), hk⟩)
        · exact kid_cl l x _ 6 rfl
        · exact ⟨AV.le_refl _, AV.le_refl _, trivial⟩
        · exact ⟨ABlk.le_refl _, ABlk.le_refl _, ABlk.le_refl _, ABlk.le_refl _, ABlk.le_of_eq (by simp), kidA_snoc l x _ rfl, trivial⟩
        · simp only; omega
        · simp only; omega
        · simp only [List.length_append, List.length_cons, List.length_nil]; omega
      · have h : isS [44] ts = false := h
        replace hk : AK ((wantS e [41] ⟨ts, ns, mo⟩).bind fun _ s => (bodyS e (d + 1)
              (match decide (typesS s.ts > 0) with
                | true => dropS s
                | false => s)).bind fun p s_1 => putS ⟨3, typesS s.ts, hd e ts0, t.tx, l ++ p.1 ++ [p.2]⟩ s_1)
          (fun a s => k (.ret (intV a)) (encP e s.ts s.ns op s.mo ++ X)) (fun a er => k (.pan (wrongV a er)) (deads 2 ++ X)) := by
          cases n with
          | zero => exact hk
          | succ n => simp only [commaL, h, bindO] at hk; exact hk
        have hln0 : l.length ≤ 900000 := by omega
        conv => whnf
        refine ⟨_, _, _, _, _, _, _, rfl, rfl, hk.step (want_le _ _ _) (fun _ ts ns mo hl hk => ?_) (fun a er hb => by ((conv => whnf); exact hp _ _ rfl hb))⟩
        have hf := hf.st hl
        conv => whnf
        refine ⟨_, _, _, _, _, _, rfl, rfl, ?_⟩
        conv => whnf
        refine two_intro (fun h3 => ?_) (fun h3 => ?_)
        · obtain ⟨t2, ts, rfl⟩ : ∃ t r, ts = t :: r := by
            cases ts with
            | nil => simp [typesS, isS] at h3
            | cons t r => exact ⟨t, r, rfl⟩
          have h3 : decide (typesS (t2 :: ts) > 0) = true := h3
          simp only [h3, dropS] at hk
          conv => whnf
          refine ⟨_, _, _, _, _, _, _, rfl, rfl, ?_⟩
          conv => whnf
          rw [out_op ho hd2]
          have hf : Fin d 7 ts ns := ⟨hf.1, by have := hf.2; simp only [List.length_cons] at this; omega⟩
          refine ⟨d + 1, _, _, _, _, _, _, rfl, rfl, ho, ⟨hd0, by have := hf.2; omega⟩, hk.stepv (p := fun p s => Lw _ 3 1 s ∧ p.1.length ≤ _) (fun p s h => ⟨body_le _ _ _ _ _ h, body_len _ _ _ _ _ h⟩) (fun p ts ns mo hl hk => ?_) (fun a er hb => by ((conv => whnf); exact hp _ _ rfl hb))⟩
          have hpl := hl.2
          have hl := hl.1
          have hpb : p.1.length ≤ 900000 := by have := hf.2; simp only [List.tail_cons] at hpl; omega
          have hf := hf.st hl
          conv => whnf
          have hlen : (l).length ≤ 900000 := hln0
          refine ⟨?_, ?_⟩
          · conv => whnf
            refine ⟨⟨rfl, fun _ _ => rfl⟩, ?_⟩
            conv => whnf
            refine ⟨⟨rfl, rfl, rfl, rfl, ?_, ?_⟩, ?_⟩
            · show ((l).length + p.1.length) * 8 ≤ 140737488355328
              omega
            · show (l).length + p.1.length ≤ 9223372036854775807
              omega
            conv => whnf
            repeat ((refine And.intro ?_ ?_); (focus ((conv => whnf); done)); (conv => whnf))
            refine ⟨⟨rfl, rfl, rfl, allLt_ok ⟨trivial, rfl⟩⟩, ?_⟩
            conv => whnf
            refine ⟨⟨rfl, rfl, rfl, rfl, ?_, ?_⟩, ?_⟩
            · show ((l).length + p.1.length + 1) * 8 ≤ 140737488355328
              omega
            · show (l).length + p.1.length + 1 ≤ 9223372036854775807
              omega
            conv => whnf
            repeat ((refine And.intro ?_ ?_); (focus ((conv => whnf); done)); (conv => whnf))
            refine ⟨l ++ p.1 ++ [p.2], _, _, _, _, _, _, _, _, _, _, _, rfl, rfl, PutK.slr hf.sz rfl rfl ?_ ?_ ?_⟩
            · show (l ++ p.1 ++ [p.2]).length = (l).length + p.1.length + 1
              simp only [List.length_append, List.length_cons, List.length_nil]
            · exact kid_app (l) p.1 p.2 _ rfl
            conv => whnf
            repeat ((refine And.intro ?_ ?_); (focus ((conv => whnf); done)); (conv => whnf))
            exact hr _ _ _ _ _ _ rfl rfl hk
          · conv => whnf
            repeat ((refine And.intro ?_ ?_); (focus ((conv => whnf); done)); (conv => whnf))
            refine ⟨⟨rfl, fun _ _ => rfl⟩, ?_⟩
            conv => whnf
            refine ⟨⟨rfl, rfl, rfl, rfl, ?_, ?_⟩, ?_⟩
            · show ((l).length + p.1.length) * 8 ≤ 140737488355328
              omega
            · show (l).length + p.1.length ≤ 9223372036854775807
              omega
            conv => whnf
            repeat ((refine And.intro ?_ ?_); (focus ((conv => whnf); done)); (conv => whnf))
            refine ⟨⟨rfl, rfl, rfl, allLt_ok ⟨trivial, rfl⟩⟩, ?_⟩
            conv => whnf
            refine ⟨⟨rfl, rfl, rfl, rfl, ?_, ?_⟩, ?_⟩
            · show ((l).length + p.1.length + 1) * 8 ≤ 140737488355328
              omega
            · show (l).length + p.1.length + 1 ≤ 9223372036854775807
              omega
            conv => whnf
            repeat ((refine And.intro ?_ ?_); (focus ((conv => whnf); done)); (conv => whnf))
            refine ⟨l ++ p.1 ++ [p.2], _, _, _, _, _, _, _, _, _, _, _, rfl, rfl, PutK.slr hf.sz rfl rfl ?_ ?_ ?_⟩
            · show (l ++ p.1 ++ [p.2]).length = (l).length + p.1.length + 1
              simp only [List.length_append, List.length_cons, List.length_nil]
            · exact kid_app (l) p.1 p.2 _ rfl
            conv => whnf
            repeat ((refine And.intro ?_ ?_); (focus ((conv => whnf); done)); (conv => whnf))
            exact hr _ _ _ _ _ _ rfl rfl hk
        · have h3 : decide (typesS ts > 0) = false := h3
          simp only [h3] at hk
          conv => whnf
          rw [out_op ho hd2]
          have hf : Fin d 7 ts ns := hf.lo (by omega)
          refine ⟨d + 1, _, _, _, _, _, _, rfl, rfl, ho, ⟨hd0, by have := hf.2; omega⟩, hk.stepv (p := fun p s => Lw _ 3 1 s ∧ p.1.length ≤ _) (fun p s h => ⟨body_le _ _ _ _ _ h, body_len _ _ _ _ _ h⟩) (fun p ts ns mo hl hk => ?_) (fun a er hb => by ((conv => whnf); exact hp _ _ rfl hb))⟩
          have hpl := hl.2
          have hl := hl.1
          have hpb : p.1.length ≤ 900000 := by have := hf.2; simp only [List.tail_cons] at hpl; omega
          have hf := hf.st hl
          conv => whnf
          have hlen : (l).length ≤ 900000 := hln0
          refine ⟨?_, ?_⟩
          · conv => whnf
            refine ⟨⟨rfl, fun _ _ => rfl⟩, ?_⟩
            conv => whnf
            refine ⟨⟨rfl, rfl, rfl, rfl, ?_, ?_⟩, ?_⟩
            · show ((l).length + p.1.length) * 8 ≤ 140737488355328
              omega
            · show (l).length + p.1.length ≤ 9223372036854775807
              omega
            conv => whnf
            repeat ((refine And.intro ?_ ?_); (focus ((conv => whnf); done)); (conv => whnf))
            refine ⟨⟨rfl, rfl, rfl, allLt_ok ⟨trivial, rfl⟩⟩, ?_⟩
            conv => whnf
            refine ⟨⟨rfl, rfl, rfl, rfl, ?_, ?_⟩, ?_⟩
            · show ((l).length + p.1.length + 1) * 8 ≤ 140737488355328
              omega
            · show (l).length + p.1.length + 1 ≤ 9223372036854775807
              omega
            conv => whnf
            repeat ((refine And.intro ?_ ?_); (focus ((conv => whnf); done)); (conv => whnf))
            refine ⟨l ++ p.1 ++ [p.2], _, _, _, _, _, _, _, _, _, _, _, rfl, rfl, PutK.slr hf.sz rfl rfl ?_ ?_ ?_⟩
            · show (l ++ p.1 ++ [p.2]).length = (l).length + p.1.length + 1
              simp only [List.length_append, List.length_cons, List.length_nil]
            · exact kid_app (l) p.1 p.2 _ rfl
            conv => whnf
            repeat ((refine And.intro ?_ ?_); (focus ((conv => whnf); done)); (conv => whnf))
            exact hr _ _ _ _ _ _ rfl rfl hk
          · conv => whnf
            repeat ((refine And.intro ?_ ?_); (focus ((conv => whnf); done)); (conv => whnf))
            refine ⟨⟨rfl, fun _ _ => rfl⟩, ?_⟩
            conv => whnf
            refine ⟨⟨rfl, rfl, rfl, rfl, ?_, ?_⟩, ?_⟩
            · show ((l).length + p.1.length) * 8 ≤ 140737488355328
              omega
            · show (l).length + p.1.length ≤ 9223372036854775807
              omega
            conv => whnf
            repeat ((refine And.intro ?_ ?_); (focus ((conv => whnf); done)); (conv => whnf))
            refine ⟨⟨rfl, rfl, rfl, allLt_ok ⟨trivial, rfl⟩⟩, ?_⟩
            conv => whnf
            refine ⟨⟨rfl, rfl, rfl, rfl, ?_, ?_⟩, ?_⟩
            · show ((l).length + p.1.length + 1) * 8 ≤ 140737488355328
              omega
            · show (l).length + p.1.length + 1 ≤ 9223372036854775807
              omega
            conv => whnf
            repeat ((refine And.intro ?_ ?_); (focus ((conv => whnf); done)); (conv => whnf))
            refine ⟨l ++ p.1 ++ [p.2], _, _, _, _, _, _, _, _, _, _, _, rfl, rfl, PutK.slr hf.sz rfl rfl ?_ ?_ ?_⟩
            · show (l ++ p.1 ++ [p.2]).length = (l).length + p.1.length + 1
              simp only [List.length_append, List.length_cons, List.length_nil]
            · exact kid_app (l) p.1 p.2 _ rfl
            conv => whnf
            repeat ((refine And.intro ?_ ?_); (focus ((conv => whnf); done)); (conv => whnf))
            exact hr _ _ _ _ _ _ rfl rfl hk
end Go.Proofs.YtbcngegcpdppfaaGreatDoor

namespace Go.Proofs.YtbcngegcpdppfaaGreatDoor
open Go.AE Go.Ru
set_option maxRecDepth 100000
set_option pp.maxSteps 2000

def g15 : AG := gput 47 cProc g14
theorem g15_ok : GOk Tryz.prog g15 := gput_ok proc_ok g14_ok

/-- declarations, their places in a row that may grow -/
def cVarsM : AC := fun args K k => ∃ d : Nat, ∃ e ts ns mo op kind, args = [pp, .p (.int .i64 kind)] ∧ K = encP e ts ns op mo ∧ Fine d ts ns ∧
  AK (varsS e kind ⟨ts, ns, mo⟩) (fun l s => k (.ret (.slr 2 0 0 l.length)) (encP e s.ts s.ns op s.mo ++ [kidA l])) (fun a er => ∀ K', k (.pan (wrongV a er)) K')
theorem varsM_ok : COk 46 cVarsM := by
  rintro args K k ⟨d, e, ts, ns, mo, op, kind, rfl, rfl, hf, hk⟩
  refine call_ok g12_ok 19 _ _ _ _ ?_
  have hf := hf.fin
  unfold varsS at hk
  conv => whnf
  refine loop_nil (ι := LC) 3 1 (fun i => pvs (kidF [] i)) (fun i => ⟨[(0, pp), (1, .p (.int .i64 kind)), (5, .slr 2 0 0 i.l.length)], encP e i.ts i.ns op i.mo ++ [kidA i.l]⟩)
      (fun i => i.ts.length ≤ i.n ∧ i.n ≤ 900001 ∧ i.l.length + i.ts.length ≤ 900000 ∧ Fin d 0 i.ts i.ns ∧ AK (varsL e kind i.n i.l ⟨i.ts, i.ns, i.mo⟩)
        (fun l s => k (.ret (.slr 2 0 0 l.length)) (encP e s.ts s.ns op s.mo ++ [kidA l])) (fun a er => ∀ K', k (.pan (wrongV a er)) K'))
      (fun i => i.n) ⟨ts, ns, mo, [], ts.length⟩ (encP e ts ns op mo)
      rfl ⟨.inl (AV.le_refl _), .inl (AV.le_refl _), .inr ⟨rfl, rfl⟩, trivial⟩ (nswK.refl _ _) rfl
      ⟨Nat.le_refl _, ?_, ?_, hf, hk⟩ ?_
  · have := hf.s; show ts.length ≤ 900001; omega
  · have := hf.s; show 0 + ts.length ≤ 900000; omega
  clear hk hf
  rintro Y hle ⟨ts, ns, mo, l, n⟩ ⟨hn, hn2, hln, hf, hk⟩ ih
  simp only at hn hn2 hln hf hk
  conv => whnf
  refine ⟨_, _, _, _, _, _, _, rfl, rfl, ?_⟩
  conv => whnf
  refine two_intro (fun h => ?_) (fun h => ?_)
  · have h : isS [118, 97, 114] ts = true := h
    cases n with
    | zero => have := isS_pos h; simp only at this; omega
    | succ n =>
    obtain ⟨t0, ts, rfl⟩ : ∃ t r, ts = t :: r := by
      cases ts with
      | nil => simp [isS] at h
      | cons t r => exact ⟨t, r, rfl⟩
    simp only [varsL, h, bindA, dropS] at hk
    conv => whnf
    refine ⟨_, _, _, _, _, _, _, rfl, rfl, ?_⟩
    conv => whnf
    have hf : Fin d 4 ts ns := ⟨hf.1, by have := hf.2; simp only [List.length_cons] at this; omega⟩
    refine ⟨_, _, _, _, _, _, rfl, rfl, hk.step (ident_le _ _) (fun t ts2 ns2 mo2 hl hk => ?_) (fun a er hb => by (conv => whnf); exact hb _)⟩
    have hf := hf.st hl
    have hl1 := hl.2
    conv => whnf
    refine ⟨d, _, _, _, _, _, _, _, _, _, rfl, rfl, hf.fine, hk.step (typed_le _ _ _ _ _) (fun x ts3 ns3 mo3 hl hk => ?_) (fun a er hb => by (conv => whnf); exact hb _)⟩
    have hf := hf.st hl
    have hl2 := hl.2
    conv => whnf
    refine ⟨⟨rfl, rfl, rfl, allLt_ok ⟨trivial, rfl⟩⟩, ?_⟩
    conv => whnf
    refine ⟨⟨rfl, rfl, rfl, rfl, ?_, ?_⟩, ?_⟩
    · show (l.length + 1) * 8 ≤ 140737488355328
      omega
    · show l.length + 1 ≤ 9223372036854775807
      omega
    conv => whnf
    refine ⟨_, _, _, _, _, _, _, rfl, rfl, hk.step (want_le _ _ _) (fun _ ts4 ns4 mo4 hl hk => ?_) (fun a er hb => by (conv => whnf); exact hb _)⟩
    have hf := hf.st hl
    have hl3 := hl.2
    conv => whnf
    simp only [List.length_cons, List.tail_cons] at hl1 hl2 hl3 hn hln
    refine hle _ _ (Le.cutEnv 3 rfl rfl ⟨rfl, fun _ _ => rfl, ?_, trivial⟩ ?_ ?_) (ih ⟨ts4, ns4, mo4, l ++ [x], n⟩ (by simp only; omega) ⟨?_, ?_, ?_, hf.lo (by omega), hk⟩)
    · exact kid_cl l x _ 3 rfl
    · exact ⟨AV.le_refl _, AV.le_refl _, AV.le_of_eq (show AV.slr 2 0 0 (l.length + 1) = AV.slr 2 0 0 (l ++ [x]).length by simp), trivial⟩
    · exact ⟨ABlk.le_refl _, ABlk.le_refl _, kidA_snoc l x _ rfl, trivial⟩
    · simp only; omega
    · simp only; omega
    · simp only [List.length_append, List.length_cons, List.length_nil]; omega
  · have h : isS [118, 97, 114] ts = false := h
    have hk : k (.ret (.slr 2 0 0 l.length)) (encP e ts ns op mo ++ [kidA l]) := by
      cases n with
      | zero => exact hk
      | succ n => simp only [varsL, h] at hk; exact hk
    conv => whnf
    exact hk

def g16 : AG := gput 46 cVarsM g15
theorem g16_ok : GOk Tryz.prog g16 := gput_ok varsM_ok g15_ok

theorem AK.vstep {α β : Type} {r : R α} {f : α → PS → R β} {ok : β → PS → Prop} {bad : Int → Int → Prop} (h : AK (r.bind f) ok bad) {ok' : α → PS → Prop} {bad' : Int → Int → Prop} {p : α → PS → Prop} (hp : ∀ a s, r = .ok a s → p a s)
    (h1 : ∀ a ts ns mo, p a ⟨ts, ns, mo⟩ → AK (f a ⟨ts, ns, mo⟩) ok bad → ok' a ⟨ts, ns, mo⟩) (h2 : ∀ a er, bad a er → bad' a er) : AK r ok' bad' := by
  cases r with
  | ok a s => exact h1 _ _ _ _ (hp _ _ rfl) h
  | bad a er => exact h2 _ _ h

def cProgram : AC := fun args K k => ∃ e ts ns mo X, args = [pp] ∧ K = encP e ts ns 0 mo ++ X ∧ Fine 40 ts ns ∧
  After e (programS e ⟨ts, ns, mo⟩) intV 0 X k
theorem varsS_len (e kind : Int) (s : PS) : ∀ l s', varsS e kind s = .ok l s' → Lw s 0 0 s' ∧ l.length + s'.ts.length ≤ s.ts.length := fun l s' h =>
  ⟨vars_le e kind s l s' h, by have := varsL_len e kind _ _ _ _ _ h; simpa using this⟩
theorem program_ok : COk 22 cProgram := by
  rintro args K k ⟨e, ts, ns, mo, X, rfl, rfl, hf, hk⟩
  refine frameP g16_ok 19 rfl fun Q hr hp => ?_
  have hk := hk.ak
  have hf := hf.fin
  unfold programS at hk
  conv => whnf
  refine ⟨40, _, _, _, _, _, _, rfl, rfl, hf.fine, hk.vstep (varsS_len _ _ _) (fun vs ts2 ns2 mo2 hl hk => ?_) (fun a er hb K' => by (conv => whnf); show fK K' _; rw [fK_eq]; exact hp _ _ rfl hb)⟩
  have hln := hl.2
  have hf0 := hf.s
  have hf := hf.st hl.1
  simp only at hln
  conv => whnf
  refine loop_by (ι := LC) (fun i => ⟨[(0, pp), (3, .slr 2 0 0 i.l.length)], encP e i.ts i.ns 0 i.mo ++ [kidA i.l]⟩)
      (fun i => i.ts.length ≤ i.n ∧ i.n ≤ 900001 ∧ i.l.length + i.ts.length ≤ 900000 ∧ Fin 40 0 i.ts i.ns ∧ AK ((procsL e 40 i.n i.l ⟨i.ts, i.ns, i.mo⟩).bind fun l s => putS ⟨1, 0, 0, [], l⟩ s)
        (fun a s => k (.ret (intV a)) (encP e s.ts s.ns 0 s.mo ++ X)) (fun a er => k (.pan (wrongV a er)) (deads 2 ++ X)))
      (fun i => i.n) ⟨ts2, ns2, mo2, vs, ts2.length⟩ ⟨AV.le_refl _, AV.le_refl _, trivial⟩ (lesK.refl _)
      ⟨Nat.le_refl _, ?_, ?_, hf, hk⟩ ?_
  · have := hf.s; show ts2.length ≤ 900001; omega
  · show vs.length + ts2.length ≤ 900000; omega
  clear hk hf hln hl hf0
  rintro Y hle ⟨ts, ns, mo, l, n⟩ ⟨hn, hn2, hln, hf, hk⟩ ih
  simp only at hn hn2 hln hf hk
  conv => whnf
  refine ⟨by simp <;> omega, ?_⟩
  conv => whnf
  rw [enc_hd]
  conv => whnf
  refine two_intro (fun h => ?_) (fun h => ?_)
  · have h : (hdK ts != 5) = true := h
    cases n with
    | zero =>
      cases ts with
      | nil => simp [hdK] at h
      | cons t r => simp at hn
    | succ n =>
    obtain ⟨t, r, rfl⟩ : ∃ t r, ts = t :: r := by
      cases ts with
      | nil => simp [hdK] at h
      | cons t r => exact ⟨t, r, rfl⟩
    simp only [procsL, bindA] at hk
    conv => whnf
    refine ⟨40, _, _, _, _, _, _, rfl, rfl, rfl, hf.fine, hk.step (proc_le _ _ _) (fun x ts3 ns3 mo3 hl hk => ?_) (fun a er hb => by ((conv => whnf); exact hp _ _ rfl hb))⟩
    have hf := hf.st hl
    have hl2 := hl.2
    simp only [List.length_cons] at hl2 hn hln
    conv => whnf
    refine ⟨⟨rfl, rfl, rfl, allLt_ok ⟨trivial, rfl⟩⟩, ?_⟩
    conv => whnf
    refine ⟨⟨rfl, rfl, rfl, rfl, ?_, ?_⟩, ?_⟩
    · show (l.length + 1) * 8 ≤ 140737488355328
      omega
    · show l.length + 1 ≤ 9223372036854775807
      omega
    conv => whnf
    refine hle _ _ (Le.cutEnv 3 rfl rfl ⟨rfl, fun _ _ => rfl, ?_, trivial⟩ ?_ ?_) (ih ⟨ts3, ns3, mo3, l ++ [x], n⟩ (by simp only; omega) ⟨?_, ?_, ?_, hf.lo (by omega), hk⟩)
    · exact kid_cl l x _ 3 rfl
    · exact ⟨AV.le_refl _, AV.le_of_eq (show AV.slr 2 0 0 (l.length + 1) = AV.slr 2 0 0 (l ++ [x]).length by simp), trivial⟩
    · exact ⟨ABlk.le_refl _, ABlk.le_refl _, kidA_snoc l x _ rfl, trivial⟩
    · simp only; omega
    · simp only; omega
    · simp only [List.length_append, List.length_cons, List.length_nil]; omega
  · have h : (hdK ts != 5) = false := h
    obtain rfl : ts = [] := by
      cases ts with
      | nil => rfl
      | cons t r =>
        obtain ⟨tk, _, _, _⟩ := t
        cases tk <;> simp [hdK, TK.code] at h
    replace hk : AK (putS ⟨1, 0, 0, [], l⟩ ⟨[], ns, mo⟩) (fun a s => k (.ret (intV a)) (encP e s.ts s.ns 0 s.mo ++ X)) (fun a er => k (.pan (wrongV a er)) (deads 2 ++ X)) := by
      cases n <;> exact hk
    conv => whnf
    refine ⟨l, _, _, _, _, _, _, _, _, _, _, _, rfl, rfl, PutK.slr hf.sz rfl rfl rfl (fun _ _ => rfl) ?_⟩
    conv => whnf
    exact hr _ _ _ _ _ _ rfl rfl hk
end Go.Proofs.YtbcngegcpdppfaaGreatDoor

namespace Go.Ru

/-- kids, the last first: where the next one must stand, how many nodes so far -/
def kidsS (out : List Nat) : List Int → Int → Nat → Option Nat
  | [], _, size => some size
  | k :: r, last, size => match k == last && decide (0 ≤ k) with
    | true => kidsS out r (k - (out.getD k.toNat 0 : Nat)) (size + out.getD k.toNat 0)
    | false => none

/-- how many nodes each node's tree has -/
def sizesS : List Nd → List Nat → Option (List Nat)
  | [], out => some out
  | n :: r, out => match kidsS out n.kids.reverse ((out.length : Int) - 1) 1 with
    | some c => sizesS r (out ++ [c])
    | none => none

def soundS (ns : List Nd) (root : Int) : Bool :=
  !(ns.length == 0 || decide (4000 < ns.length) || root != (ns.length : Int) - 1) &&
  match sizesS ns [] with
  | some l => l.getD root.toNat 0 == ns.length
  | none => false

/-- sizes that have come so far fit into the row -/
def szOk (out : List Nat) : Prop := ∀ i, i < out.length → 1 ≤ out.getD i 0 ∧ out.getD i 0 ≤ i + 1

theorem kidsS_inv {out : List Nat} (ho : szOk out) : ∀ (l : List Int) (last : Int) (size : Nat) (c : Nat), last < out.length → -1 ≤ last → (size : Int) = out.length - last → kidsS out l last size = some c → 1 ≤ c ∧ c ≤ out.length + 1 := by
  intro l
  induction l with
  | nil => intro last size c h1 h2 h3 h; simp only [kidsS, Option.some.injEq] at h; omega
  | cons k r ih =>
    intro last size c h1 h2 h3 h
    simp only [kidsS] at h
    split at h
    case h_2 => simp at h
    rename_i hb
    simp only [Bool.and_eq_true, beq_iff_eq, decide_eq_true_eq] at hb
    obtain ⟨rfl, hk⟩ := hb
    have := ho k.toNat (by omega)
    exact ih _ _ c (by omega) (by omega) (by omega) h

theorem szOk_snoc {out : List Nat} (ho : szOk out) {c : Nat} (h : 1 ≤ c ∧ c ≤ out.length + 1) : szOk (out ++ [c]) := by
  intro i hi
  by_cases e : i < out.length
  · have h1 := ho i e
    rw [List.getD_eq_getElem?_getD, List.getElem?_append_left e, ← List.getD_eq_getElem?_getD]
    exact h1
  · have : i = out.length := by simp at hi; omega
    subst this
    simpa using h

theorem kidsS_mem {out : List Nat} (ho : szOk out) : ∀ (l : List Int) (last : Int) (size : Nat) (c : Nat), last < out.length → kidsS out l last size = some c → ∀ k ∈ l, 0 ≤ k ∧ k ≤ last := by
  intro l
  induction l with
  | nil => intro last size c _ _ k hk; simp at hk
  | cons k r ih =>
    intro last size c h1 h k' hk'
    simp only [kidsS] at h
    split at h
    case h_2 => simp at h
    rename_i hb
    simp only [Bool.and_eq_true, beq_iff_eq, decide_eq_true_eq] at hb
    obtain ⟨rfl, hk⟩ := hb
    have := ho k.toNat (by omega)
    rcases List.mem_cons.1 hk' with rfl | hk'
    · exact ⟨hk, Int.le_refl _⟩
    · have := ih _ _ c (by omega) h k' hk'
      omega

theorem sizesS_inv : ∀ (r : List Nd) (out l : List Nat), szOk out → sizesS r out = some l → l.length = out.length + r.length ∧ szOk l ∧ ∀ j, j < r.length → ∀ k ∈ (r.getD j default).kids, 0 ≤ k ∧ k < (out.length + j : Nat) := by
  intro r
  induction r with
  | nil => intro out l ho h; simp only [sizesS, Option.some.injEq] at h; subst h; exact ⟨rfl, ho, fun j hj => by simp at hj⟩
  | cons n r ih =>
    intro out l ho h
    simp only [sizesS] at h
    split at h
    case h_2 => simp at h
    rename_i c hc
    have hinv := kidsS_inv ho _ _ _ c (by omega) (by omega) (by omega) hc
    have hm := kidsS_mem ho _ _ _ c (by omega) hc
    obtain ⟨h1, h2, h3⟩ := ih _ _ (szOk_snoc ho hinv) h
    refine ⟨by rw [h1]; simp; omega, h2, fun j hj k hk => ?_⟩
    cases j with
    | zero =>
      have := hm k (by simpa using hk)
      omega
    | succ j =>
      have := h3 j (by simpa using hj) k (by simpa using hk)
      simp at this
      omega

/-- how deep a node's tree is -/
def deepS (ns : List Nd) : Nat → Int → Nat
  | 0, _ => 0
  | n + 1, p => (ns.getD p.toNat default).kids.foldl (fun d k => max d (deepS ns n k)) 0 + 1
theorem deepS_le (ns : List Nd) (n : Nat) (p : Int) : deepS ns n p ≤ n := by
  induction n generalizing p with
  | zero => exact Nat.le_refl _
  | succ n ih =>
    have : ∀ (l : List Int) (d : Nat), d ≤ n → l.foldl (fun d k => max d (deepS ns n k)) d ≤ n := by
      intro l
      induction l with
      | nil => intro d h; exact h
      | cons k l ihl => intro d h; exact ihl _ (by have := ih k; exact Nat.max_le.2 ⟨h, this⟩)
    have := this (ns.getD p.toNat default).kids 0 (Nat.zero_le _)
    simp only [deepS]; omega
def depthS (ns : List Nd) (root : Int) : Nat := match soundS ns root with
  | true => deepS ns ns.length root
  | false => 0
theorem soundS_ok {ns : List Nd} {root : Int} (h : soundS ns root = true) : 0 < ns.length ∧ ns.length ≤ 4000 ∧ root = (ns.length : Int) - 1 ∧ ∀ j, j < ns.length → ∀ k ∈ (ns.getD j default).kids, 0 ≤ k ∧ k < (j : Int) := by
  simp only [soundS, Bool.and_eq_true, Bool.not_eq_true', Bool.or_eq_false_iff, beq_eq_false_iff_ne, decide_eq_false_iff_not, bne_eq_false_iff_eq] at h
  obtain ⟨⟨⟨h1, h2⟩, h3⟩, h4⟩ := h
  split at h4
  case h_2 => simp at h4
  rename_i l hl
  obtain ⟨_, _, h5⟩ := sizesS_inv ns [] l (fun i hi => by simp at hi) hl
  exact ⟨by omega, by omega, h3, fun j hj k hk => by have := h5 j hj k hk; simp at this; exact this⟩
end Go.Ru

namespace Go.Ru
open Go

def digitsT : Bs := [48, 49, 50, 51, 52, 53, 54, 55, 56, 57]
def partsT : Bs := [97, 98, 99, 100, 101, 102, 103, 104, 105, 106, 107, 108, 109, 110, 111, 112, 113, 114, 115, 116, 117, 118, 119, 120, 121, 122, 65, 66, 67, 68, 69, 70, 71, 72, 73, 74, 75, 76, 77, 78, 79, 80, 81, 82, 83, 84, 85, 86, 87, 88, 89, 90, 95, 48, 49, 50, 51, 52, 53, 54, 55, 56, 57]
def blanksT : Bs := [32, 9, 10]
def keptT : Bs := [32, 118, 97, 114, 32, 112, 114, 111, 99, 32, 105, 110, 116, 32, 98, 111, 111, 108, 32, 97, 114, 114, 32, 102, 117, 110, 32, 105, 110, 32, 111, 117, 116, 32, 105, 102, 32, 101, 108, 115, 101, 32, 119, 104, 105, 108, 101, 32, 99, 97, 108, 108, 32, 114, 101, 116, 117, 114, 110, 32, 116, 104, 114, 111, 119, 32, 116, 114, 121, 32, 99, 97, 116, 99, 104, 32, 110, 101, 119, 32, 108, 101, 110, 32, 116, 114, 117, 101, 32, 102, 97, 108, 115, 101, 32]
def pairsT : Bs := [32, 61, 61, 32, 33, 61, 32, 60, 61, 32, 62, 61, 32, 38, 38, 32, 124, 124, 32]
def singleT : Bs := [40, 41, 123, 125, 91, 93, 44, 59, 61, 60, 62, 43, 45, 42, 47, 37, 33, 38]

/-- is a byte one of some? -/
def inB (l : Bs) (c : UInt8) : Bool := decide (Lib.indexByte l c ≥ 0)
/-- how many bytes at the head are of some -/
def runS (l : Bs) (r : Bs) : Nat := (r.takeWhile (inB l)).length

def keptP (l : Bs) : Bool := !(l == []) && (decide (Lib.indexByte l 32 < 0) && Lib.contains keptT ([32] ++ l ++ [32]))
def identP (l : Bs) : Bool := !(l == []) && (decide (l.length ≤ 20) && (l.all (inB partsT) && (decide (Lib.indexByte digitsT (l.getD 0 0) < 0) && !keptP l)))
def numP (l : Bs) : Option Int := match Lib.atoiAll l with
  | .ok v => if Lib.itoa v = l then some v else none
  | _ => none
def wordP (l : Bs) : Option (TK × Int) := match keptP l with
  | true => some (.word, 0)
  | false => match identP l with
    | true => some (.name, 0)
    | false => match numP l with
      | some v => some (.number, v)
      | none => none
def pairP (l : Bs) : Bool := decide (l.length > 1) && (!(l.getD 0 0 == 32) && (!(l.getD 1 0 == 32) && Lib.contains pairsT ([32] ++ l.take 2 ++ [32])))
def signP (l : Bs) : Nat := if pairP l then 2 else if inB singleT (l.getD 0 0) then 1 else 0

/-- tokens, or the place of a byte that is none -/
inductive CR where
  | ok (l : List Tok)
  | bad (at_ : Nat)
def CR.cons (t : Tok) : CR → CR
  | .ok l => .ok (t :: l)
  | .bad a => .bad a

/-- the tokens of what is left of a text, from a place on -/
def cutS : Nat → Bs → Nat → CR
  | 0, _, _ => .ok []
  | n + 1, r, i => match r with
    | [] => .ok []
    | c :: r' => if 0 < runS blanksT r then cutS n (r.drop (runS blanksT r)) (i + runS blanksT r)
      else if c = 35 then cutS n (r.dropWhile (fun c => !(c == 10))) (i + (r.takeWhile (fun c => !(c == 10))).length)
      else if 0 < runS partsT r then match wordP (r.take (runS partsT r)) with
        | none => .bad i
        | some (k, v) => (cutS n (r.drop (runS partsT r)) (i + runS partsT r)).cons ⟨k, v, i, r.take (runS partsT r)⟩
      else match signP r with
        | 0 => .bad i
        | m + 1 => (cutS n (r.drop (m + 1)) (i + (m + 1))).cons ⟨.sign, 0, i, r.take (m + 1)⟩
def cutT (s : Bs) : CR := cutS s.length s 0
end Go.Ru

namespace Go.Proofs.YtbcngegcpdppfaaGreatDoor
open Go.AE Go.Ru
set_option maxRecDepth 100000
set_option pp.maxSteps 2000

def gL : AG := gput 28 cIndexByte (gput 65 cContains (gput 61 cAtoi (gput 64 cItoa g0)))
theorem gL_ok : GOk Tryz.prog gL := gput_ok indexByte_ok (gput_ok contains_ok (gput_ok atoi_ok (gput_ok itoa_ok g0_ok)))

/-- a call that asks nothing of memory, whatever lies there -/
theorem frame0P {G : AG} (hG : GOk Tryz.prog G) (n : Nat) {f : FuncId} {args : List AV} {X : List ABlk} {k : AO → List ABlk → Prop} (hcl : AV.cls 0 args = true)
    (h : ∀ Q : AO → List ABlk → Prop, (∀ v K', v.cl 0 = true → k (.ret v) X → Q (.ret v) K') → acall1 T0 G n f args [] Q) : ACalls Tryz.prog f args X k := by
  refine (ACalls.frame (K0 := []) (X := X) (k := fun ao K1 => k ao (K1 ++ X)) hcl (fun r h => by simp at h) (call_ok hG n f args [] _ (h _ ?_))).mono fun ao K ⟨K1, h1, h2⟩ => by subst h1; exact h2
  intro v K' h1 h2
  refine ⟨h1, by simp, fun r hr => by simp at hr, ?_⟩
  show k (.ret v) (takeN K' 0 ++ X)
  rw [takeN_zero]; exact h2

def cKept : AC := fun args K k => ∃ l, args = [.p (.str l)] ∧ l.length < 1000000 ∧ k (.ret (.p (.bool (keptP l)))) K
theorem kept_ok : COk 62 cKept := by
  rintro args K k ⟨l, rfl, hl, hk⟩
  refine frame0P gL_ok 19 rfl fun Q hr => ?_
  conv => whnf
  refine two_intro (fun h => ?_) (fun h => ?_)
  · have h : (!(l == [])) = true := h
    conv => whnf
    refine ⟨_, _, rfl, ?_⟩
    conv => whnf
    refine two_intro (fun h2 => ?_) (fun h2 => ?_)
    · have h2 : decide (Lib.indexByte l 32 < 0) = true := h2
      conv => whnf
      refine ⟨?_, ?_⟩
      · show 1 + l.length ≤ _
        omega
      conv => whnf
      refine ⟨?_, ?_⟩
      · show ([32] ++ l).length + 1 ≤ _
        simp only [List.length_append, List.length_cons, List.length_nil]; omega
      conv => whnf
      refine ⟨_, _, rfl, by decide, ?_⟩
      conv => whnf
      simp only [keptP, h, h2, Bool.true_and] at hk
      exact hr _ _ rfl hk
    · have h2 : decide (Lib.indexByte l 32 < 0) = false := h2
      conv => whnf
      simp only [keptP, h, h2, Bool.false_and, Bool.and_false] at hk
      exact hr _ _ rfl hk
  · have h : (!(l == [])) = false := h
    conv => whnf
    simp only [keptP, h, Bool.false_and] at hk
    exact hr _ _ rfl hk

theorem u8n (c : UInt8) : ((c.toNat : Int)).toNat.toUInt8 = c := by simp
theorem u8b (l : List UInt8) (i : Nat) : (byteAt l i).toNat.toUInt8 = l.getD i 0 := u8n _

/-- has a text nothing but some bytes? -/
def cOnly : AC := fun args K k => ∃ l m, args = [.p (.str l), .p (.str m)] ∧ l.length < 1000000 ∧ k (.ret (.p (.bool (l.all (inB m))))) K
theorem only_ok : COk 107 cOnly := by
  rintro args K k ⟨l, m, rfl, hl, hk⟩
  refine frame0P gL_ok 19 rfl fun Q hr => ?_
  conv => whnf
  refine ⟨by omega, ?_⟩
  conv => whnf
  refine loop_by (ι := Nat) (fun i => ⟨[(8, .p (.int .i64 i)), (7, .p (.int .i64 l.length)), (0, .p (.sl 1 l.length (byteF l))), (1, .fn 129 [] [.ptr 0 0 1 0 0])], [.box 9 [.p (.str m)]]⟩)
    (fun i => i ≤ l.length ∧ (l.take i).all (inB m) = true) (fun i => l.length - i) 0 ⟨AV.le_refl _, AV.le_refl _, AV.le_refl _, AV.le_refl _, trivial⟩ (lesK.refl _) ⟨by omega, rfl⟩ ?_
  intro Y hle i ⟨hi, ha⟩ ih
  conv => whnf
  refine two_intro (fun h => ?_) (fun h => ?_)
  · have h : i < l.length := by simpa using h
    conv => whnf
    refine ⟨⟨by omega, by omega, rfl⟩, ?_⟩
    conv => whnf
    refine ⟨_, _, rfl, ?_⟩
    have hi2 : ((i : Int)).toNat = i := by omega
    have hc : ((l.getD (Int.toNat i) 0).toNat : Int).toNat.toUInt8 = l[i] := by
      rw [u8n, hi2, List.getD_eq_getElem?_getD, List.getElem?_eq_getElem h]; rfl
    conv => whnf
    have hb : decide (Lib.indexByte m (((l.getD (Int.toNat i) 0).toNat : Int).toNat.toUInt8) < 0) = !inB m l[i] := by
      rw [hc]; simp only [inB]
      by_cases hx : Lib.indexByte m l[i] < 0
      · simp [hx] <;> omega
      · simp [hx] <;> omega
    refine two_intro (fun h2 => ?_) (fun h2 => ?_)
    · rw [hb] at h2
      have h2 : inB m l[i] = false := by simpa using h2
      have he : l.all (inB m) = false := by
        rw [List.all_eq_false]; exact ⟨l[i], by simp, by simp [h2]⟩
      conv => whnf
      rw [he] at hk
      have : (decide ((i : Int) ≥ 0)) = true := by simp
      rw [this]
      exact hr _ _ rfl hk
    · rw [hb] at h2
      have h2 : inB m l[i] = true := by simpa using h2
      conv => whnf
      refine hle _ _ (Le.env ?_ (lesK.refl _)) (ih (i + 1) (by omega) ⟨by omega, ?_⟩)
      · refine ⟨AV.le_of_eq ?_, AV.le_refl _, AV.le_refl _, AV.le_refl _, trivial⟩
        show AV.p (.int .i64 (IntKind.i64.wrap ((i : Int) + 1))) = .p (.int .i64 ((i + 1 : Nat) : Int))
        rw [w64 (by omega)]; rfl
      · rw [List.take_succ_eq_append_getElem h, List.all_append, ha]; simp [h2]
  · have h : ¬ i < l.length := by simpa using h
    obtain rfl : i = l.length := by omega
    rw [List.take_length] at ha
    conv => whnf
    rw [ha] at hk
    exact hr _ _ rfl hk

def cIdentT : AC := fun args K k => ∃ l, args = [.p (.str l)] ∧ l.length < 1000000 ∧ k (.ret (.p (.bool (identP l)))) K
def gK : AG := gput 62 cKept (gput 107 cOnly gL)
theorem gK_ok : GOk Tryz.prog gK := gput_ok kept_ok (gput_ok only_ok gL_ok)
theorem identT_ok : COk 63 cIdentT := by
  rintro args K k ⟨l, rfl, hl, hk⟩
  refine frame0P gK_ok 19 rfl fun Q hr => ?_
  conv => whnf
  refine two_intro (fun h => ?_) (fun h => ?_)
  · have h : (!(l == [])) = true := h
    conv => whnf
    refine two_intro (fun h2 => ?_) (fun h2 => ?_)
    · have h2 : decide (l.length ≤ 20) = true := decide_eq_true (by have := of_decide_eq_true h2; omega)
      conv => whnf
      refine ⟨_, _, rfl, hl, ?_⟩
      conv => whnf
      refine two_intro (fun h3 => ?_) (fun h3 => ?_)
      · have h3 : l.all (inB partsT) = true := h3
        have hl0 : 0 < l.length := by
          cases l with
          | nil => simp at h
          | cons a r => simp
        conv => whnf
        refine ⟨⟨by omega, by omega⟩, ?_⟩
        conv => whnf
        refine ⟨_, _, rfl, ?_⟩
        conv => whnf
        refine two_intro (fun h4 => ?_) (fun h4 => ?_)
        · rw [u8b] at h4
          have h4 : decide (Lib.indexByte digitsT (l.getD 0 0) < 0) = true := h4
          conv => whnf
          refine ⟨_, rfl, hl, ?_⟩
          conv => whnf
          simp only [identP, h, h2, h3, h4, Bool.true_and] at hk
          exact hr _ _ rfl hk
        · rw [u8b] at h4
          have h4 : decide (Lib.indexByte digitsT (l.getD 0 0) < 0) = false := h4
          conv => whnf
          simp only [identP, h, h2, h3, h4, Bool.true_and, Bool.false_and] at hk
          exact hr _ _ rfl hk
      · have h3 : l.all (inB partsT) = false := h3
        conv => whnf
        simp only [identP, h, h2, h3, Bool.true_and, Bool.false_and] at hk
        exact hr _ _ rfl hk
    · have h2 : decide (l.length ≤ 20) = false := decide_eq_false (by have := of_decide_eq_false h2; omega)
      conv => whnf
      simp only [identP, h, h2, Bool.true_and, Bool.false_and] at hk
      exact hr _ _ rfl hk
  · have h : (!(l == [])) = false := h
    conv => whnf
    simp only [identP, h, Bool.false_and] at hk
    exact hr _ _ rfl hk

def tkV (k n a : Int) (l : Bs) : AV := .agg [.p (.int .i64 k), .p (.int .i64 n), .p (.int .i64 a), .p (.str l)]
def wordV (l : Bs) (a : Int) : Option (TK × Int) → AV
  | some (k, v) => .tup [tkV k.code v a l, .p (.bool true)]
  | none => .tup [tkV 0 0 a l, .p (.bool false)]
def cWordT : AC := fun args K k => ∃ l a, args = [.p (.str l), .p (.int .i64 a)] ∧ l.length < 1000000 ∧ k (.ret (wordV l a (wordP l))) K
def gI : AG := gput 63 cIdentT gK
theorem gI_ok : GOk Tryz.prog gI := gput_ok identT_ok gK_ok
theorem wordT_ok : COk 29 cWordT := by
  rintro args K k ⟨l, a, rfl, hl, hk⟩
  refine frame0P gI_ok 19 rfl fun Q hr => ?_
  conv => whnf
  refine ⟨_, rfl, hl, ?_⟩
  have kw : keptP l = true → k (.ret (.tup [tkV 4 0 a l, .p (.bool true)])) K := fun h => by simp only [wordP, h] at hk; exact hk
  have ki : keptP l = false → identP l = true → k (.ret (.tup [tkV 1 0 a l, .p (.bool true)])) K := fun h h2 => by simp only [wordP, h, h2] at hk; exact hk
  cases ha : Lib.atoiAll l with
  | ok v =>
    obtain ⟨hv0, hv1⟩ := Lib.atoiAll_bounds ha
    conv => whnf
    refine ⟨_, rfl, hl, ?_⟩
    conv => whnf
    refine two_intro (fun h => ?_) (fun h => ?_)
    · have hk := kw h
      conv => whnf
      repeat ((refine And.intro ?_ ?_); (focus ((conv => whnf); done)); (conv => whnf))
      exact hr _ _ rfl hk
    · have h : keptP l = false := h
      conv => whnf
      refine ⟨_, rfl, hl, ?_⟩
      conv => whnf
      refine two_intro (fun h2 => ?_) (fun h2 => ?_)
      · have hk := ki h h2
        conv => whnf
        repeat ((refine And.intro ?_ ?_); (focus ((conv => whnf); done)); (conv => whnf))
        exact hr _ _ rfl hk
      · have h2 : identP l = false := h2
        conv => whnf
        refine ⟨_, rfl, by omega, by omega, ?_⟩
        conv => whnf
        refine two_intro (fun h3 => ?_) (fun h3 => ?_)
        · have h3 : Lib.itoa v = l := by simpa using h3
          simp only [wordP, h, h2, numP, ha, if_pos h3] at hk
          conv => whnf
          repeat ((refine And.intro ?_ ?_); (focus ((conv => whnf); done)); (conv => whnf))
          exact hr _ _ rfl hk
        · have h3 : ¬ Lib.itoa v = l := by simpa using h3
          simp only [wordP, h, h2, numP, ha, if_neg h3] at hk
          conv => whnf
          repeat ((refine And.intro ?_ ?_); (focus ((conv => whnf); done)); (conv => whnf))
          exact hr _ _ rfl hk
  | range =>
    conv => whnf
    refine ⟨_, rfl, hl, ?_⟩
    conv => whnf
    refine two_intro (fun h => ?_) (fun h => ?_)
    · have hk := kw h
      conv => whnf
      repeat ((refine And.intro ?_ ?_); (focus ((conv => whnf); done)); (conv => whnf))
      exact hr _ _ rfl hk
    · have h : keptP l = false := h
      conv => whnf
      refine ⟨_, rfl, hl, ?_⟩
      conv => whnf
      refine two_intro (fun h2 => ?_) (fun h2 => ?_)
      · have hk := ki h h2
        conv => whnf
        repeat ((refine And.intro ?_ ?_); (focus ((conv => whnf); done)); (conv => whnf))
        exact hr _ _ rfl hk
      · have h2 : identP l = false := h2
        simp only [wordP, h, h2, numP, ha] at hk
        conv => whnf
        repeat ((refine And.intro ?_ ?_); (focus ((conv => whnf); done)); (conv => whnf))
        exact hr _ _ rfl hk
  | _ =>
    conv => whnf
    refine ⟨_, rfl, hl, ?_⟩
    conv => whnf
    refine two_intro (fun h => ?_) (fun h => ?_)
    · have hk := kw h
      conv => whnf
      repeat ((refine And.intro ?_ ?_); (focus ((conv => whnf); done)); (conv => whnf))
      exact hr _ _ rfl hk
    · have h : keptP l = false := h
      conv => whnf
      refine ⟨_, rfl, hl, ?_⟩
      conv => whnf
      refine two_intro (fun h2 => ?_) (fun h2 => ?_)
      · have hk := ki h h2
        conv => whnf
        repeat ((refine And.intro ?_ ?_); (focus ((conv => whnf); done)); (conv => whnf))
        exact hr _ _ rfl hk
      · have h2 : identP l = false := h2
        simp only [wordP, h, h2, numP, ha] at hk
        conv => whnf
        repeat ((refine And.intro ?_ ?_); (focus ((conv => whnf); done)); (conv => whnf))
        exact hr _ _ rfl hk

theorem bne_byte (l : List UInt8) (i : Nat) : (byteAt l i != 32) = !(l.getD i 0 == 32) := by
  show (!(((l.getD i 0).toNat : Int) == 32)) = _
  congr 1
  rw [Bool.eq_iff_iff]
  simp only [beq_iff_eq]
  constructor
  · intro h
    exact UInt8.toNat_inj.1 (by show (l.getD i 0).toNat = 32; omega)
  · intro h; rw [h]; rfl
def cSignT : AC := fun args K k => ∃ l, args = [.p (.str l)] ∧ 0 < l.length ∧ l.length < 1000000 ∧ k (.ret (.p (.int .i64 (signP l : Nat)))) K
theorem signT_ok : COk 30 cSignT := by
  rintro args K k ⟨l, rfl, hl0, hl, hk⟩
  refine frame0P gL_ok 19 rfl fun Q hr => ?_
  conv => whnf
  have hd1 : decide ((l.length : Int) > 1) = decide (l.length > 1) := by
    by_cases h : l.length > 1
    · rw [decide_eq_true h, decide_eq_true (by omega)]
    · rw [decide_eq_false h, decide_eq_false (by omega)]
  refine two_intro (fun h => ?_) (fun h => ?_)
  · rw [hd1] at h
    have h1 := of_decide_eq_true h
    conv => whnf
    refine ⟨⟨by omega, by omega⟩, ?_⟩
    conv => whnf
    refine two_intro (fun h2 => ?_) (fun h2 => ?_)
    · have h2 : (!(l.getD 0 0 == 32)) = true := by rw [← bne_byte]; exact h2
      conv => whnf
      refine ⟨⟨by omega, by omega⟩, ?_⟩
      conv => whnf
      refine two_intro (fun h3 => ?_) (fun h3 => ?_)
      · have h3 : (!(l.getD 1 0 == 32)) = true := by rw [← bne_byte]; exact h3
        conv => whnf
        refine ⟨⟨by decide, by decide, by omega⟩, ?_⟩
        conv => whnf
        refine ⟨?_, ?_⟩
        · show 1 + (l.take 2).length ≤ _
          simp only [List.length_take]; omega
        conv => whnf
        refine ⟨?_, ?_⟩
        · show ([32] ++ l.take 2).length + 1 ≤ _
          simp only [List.length_append, List.length_cons, List.length_nil, List.length_take]; omega
        conv => whnf
        refine ⟨_, _, rfl, by decide, ?_⟩
        conv => whnf
        refine two_intro (fun h4 => ?_) (fun h4 => ?_)
        · have h4 : Lib.contains pairsT ([32] ++ l.take 2 ++ [32]) = true := h4
          have hp : pairP l = true := by simp only [pairP, h, h2, h3, h4, Bool.and_true]
          simp only [signP, if_pos hp] at hk
          conv => whnf
          exact hr _ _ rfl hk
        · have h4 : Lib.contains pairsT ([32] ++ l.take 2 ++ [32]) = false := h4
          have hp : ¬ pairP l = true := by simp only [pairP, h, h2, h3, h4, Bool.and_false]; simp
          simp only [signP, if_neg hp] at hk
          conv => whnf
          refine ⟨⟨by omega, by omega⟩, ?_⟩
          conv => whnf
          refine ⟨_, _, rfl, ?_⟩
          conv => whnf
          have hb : decide (Lib.indexByte singleT ((byteAt l (Int.toNat 0)).toNat.toUInt8) ≥ 0) = inB singleT (l.getD 0 0) := by rw [u8b]; rfl
          refine two_intro (fun h5 => ?_) (fun h5 => ?_)
          · have h5 : inB singleT (l.getD 0 0) = true := by rw [← hb]; exact h5
            conv => whnf
            rw [if_pos h5] at hk
            exact hr _ _ rfl hk
          · have h5 : inB singleT (l.getD 0 0) = false := by rw [← hb]; exact h5
            conv => whnf
            rw [if_neg (by rw [h5]; exact Bool.false_ne_true)] at hk
            exact hr _ _ rfl hk
      · have h3 : (!(l.getD 1 0 == 32)) = false := by rw [← bne_byte]; exact h3
        have hp : ¬ pairP l = true := by simp only [pairP, h, h2, h3, Bool.and_false, Bool.false_and]; simp
        simp only [signP, if_neg hp] at hk
        conv => whnf
        refine ⟨⟨by omega, by omega⟩, ?_⟩
        conv => whnf
        refine ⟨_, _, rfl, ?_⟩
        conv => whnf
        have hb : decide (Lib.indexByte singleT ((byteAt l (Int.toNat 0)).toNat.toUInt8) ≥ 0) = inB singleT (l.getD 0 0) := by rw [u8b]; rfl
        refine two_intro (fun h5 => ?_) (fun h5 => ?_)
        · have h5 : inB singleT (l.getD 0 0) = true := by rw [← hb]; exact h5
          conv => whnf
          rw [if_pos h5] at hk
          exact hr _ _ rfl hk
        · have h5 : inB singleT (l.getD 0 0) = false := by rw [← hb]; exact h5
          conv => whnf
          rw [if_neg (by rw [h5]; exact Bool.false_ne_true)] at hk
          exact hr _ _ rfl hk
    · have h2 : (!(l.getD 0 0 == 32)) = false := by rw [← bne_byte]; exact h2
      have hp : ¬ pairP l = true := by simp only [pairP, h, h2, Bool.and_false, Bool.false_and]; simp
      simp only [signP, if_neg hp] at hk
      conv => whnf
      refine ⟨⟨by omega, by omega⟩, ?_⟩
      conv => whnf
      refine ⟨_, _, rfl, ?_⟩
      conv => whnf
      have hb : decide (Lib.indexByte singleT ((byteAt l (Int.toNat 0)).toNat.toUInt8) ≥ 0) = inB singleT (l.getD 0 0) := by rw [u8b]; rfl
      refine two_intro (fun h5 => ?_) (fun h5 => ?_)
      · have h5 : inB singleT (l.getD 0 0) = true := by rw [← hb]; exact h5
        conv => whnf
        rw [if_pos h5] at hk
        exact hr _ _ rfl hk
      · have h5 : inB singleT (l.getD 0 0) = false := by rw [← hb]; exact h5
        conv => whnf
        rw [if_neg (by rw [h5]; exact Bool.false_ne_true)] at hk
        exact hr _ _ rfl hk
  · rw [hd1] at h
    have hp : ¬ pairP l = true := by simp only [pairP, h, Bool.false_and]; simp
    simp only [signP, if_neg hp] at hk
    conv => whnf
    refine ⟨⟨by omega, by omega⟩, ?_⟩
    conv => whnf
    refine ⟨_, _, rfl, ?_⟩
    conv => whnf
    have hb : decide (Lib.indexByte singleT ((byteAt l (Int.toNat 0)).toNat.toUInt8) ≥ 0) = inB singleT (l.getD 0 0) := by rw [u8b]; rfl
    refine two_intro (fun h5 => ?_) (fun h5 => ?_)
    · have h5 : inB singleT (l.getD 0 0) = true := by rw [← hb]; exact h5
      conv => whnf
      rw [if_pos h5] at hk
      exact hr _ _ rfl hk
    · have h5 : inB singleT (l.getD 0 0) = false := by rw [← hb]; exact h5
      conv => whnf
      rw [if_neg (by rw [h5]; exact Bool.false_ne_true)] at hk
      exact hr _ _ rfl hk
end Go.Proofs.YtbcngegcpdppfaaGreatDoor
