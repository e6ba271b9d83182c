/-
  Parser, part 2: the parser's state as the layer AE sees it, and the contracts of its small functions (is, take, skip, want, ident, fail, put, types, rows). No statement of the seat is proved here.
-/
import Derived.Test.YtbcngegcpdppfaaGreatDoorLib
import Derived.Test.YtbcngegcpdppfaaGreatDoorPaSpec
namespace Go.Proofs.YtbcngegcpdppfaaGreatDoor
open Go.AE Go.Ru
set_option maxRecDepth 100000


/-! ### the state, told -/
def encTok (t : Tok) : List PV := [.int .i64 t.k.code, .int .i64 t.n, .int .i64 t.at_, .str t.tx]
def encs (e : Int) : List Tok → Nat → List PV
  | [], _ => [.int .i64 5, .int .i64 0, .int .i64 e, .str []]
  | t :: r, i => match i with
    | 0 => encTok t
    | i + 1 => encs e r i
def kidF (l : List Int) (i : Nat) : List PV := [.int .i64 (l.getD i 0)]
def encNode (n : Nd) : List PV := [.int .i64 n.k, .int .i64 n.n, .int .i64 n.at_, .str n.tx, .sl 1 n.kids.length (kidF n.kids)]
def nodeF (ns : List Nd) (i : Nat) : List PV := encNode (ns.getD i default)
def pb (e : Int) (ts : List Tok) (n : Nat) (op mo : Int) : ABlk := .box 74 [.p (.sl 4 (ts.length + 1) (encs e ts)), .slr 1 0 0 n, .p (.int .i64 op), .p (.int .i64 mo)]
def nb (ns : List Nd) : ABlk := .arr 41 5 0 ns.length (fun i => pvs (nodeF ns i))
def encP (e : Int) (ts : List Tok) (ns : List Nd) (op mo : Int) : List ABlk := [pb e ts ns.length op mo, nb ns]
def pp : AV := .ptr 0 0 1 0 0
def wrongV (a er : Int) : AV := .iface 71 (.agg [.p (.int .i64 a), .p (.int .i64 er)])

theorem encP_cl (e : Int) (ts : List Tok) (ns : List Nd) (op mo : Int) (r : Nat) : (hp (encP e ts ns op mo) r).cl 2 :=
  clK.hp (K := encP e ts ns op mo) ⟨(rfl : AV.cls 2 _ = true), fun i _ => rfl, trivial⟩ r

/-- a call on a parser's state, whatever lies behind it -/
theorem frameL {G : AG} (hG : GOk Tryz.prog G) (n : Nat) {f : FuncId} {args : List AV} {e : Int} {ts : List Tok} {ns : List Nd} {op mo : Int} {X : List ABlk} {k : AO → List ABlk → Prop} (hcl : AV.cls 2 args = true)
    (h : ∀ Q : AO → List ABlk → Prop,
      (∀ v K' ts' ns' op' mo', v.cl 2 = true → lesK (takeN K' 2) (encP e ts' ns' op' mo') → k (.ret v) (encP e ts' ns' op' mo' ++ X) → Q (.ret v) K') →
      (∀ v K', v.cl 0 = true → k (.pan v) (deads 2 ++ X) → Q (.pan v) K') → acall1 T0 G n f args (encP e ts ns op mo) Q) :
    ACalls Tryz.prog f args (encP e ts ns op mo ++ X) k := by
  refine (ACalls.frame (K0 := encP e ts ns op mo) (k := fun ao K1 => k ao (K1 ++ X)) hcl (fun r _ => encP_cl e ts ns op mo r)
    (ACalls.post (k := fun ao K1 => ∃ K2, lesK K1 K2 ∧ frameK 2 (fun ao K1 => k ao (K1 ++ X)) ao K2) (call_ok hG n f args _ _ (h _ ?_ ?_)) ?_)).mono ?_
  · intro v K' ts' ns' op' mo' h1 h3 h4
    refine ⟨encP e ts' ns' op' mo' ++ dropN K' 2, h3.head, h1, ?_, fun r hr => ?_, ?_⟩
    · simp [encP]
    · rw [hp_append, if_pos (show r < (encP e ts' ns' op' mo').length from hr)]; exact encP_cl e ts' ns' op' mo' r
    · have h5 : takeN (encP e ts' ns' op' mo' ++ dropN K' 2) 2 = encP e ts' ns' op' mo' := by simp [encP, takeN, takeN_zero]
      show k (.ret v) (takeN (encP e ts' ns' op' mo' ++ dropN K' 2) 2 ++ X)
      rw [h5]; exact h4
  · intro v K' h1 h2; exact ⟨K', lesK.refl _, h1, h2⟩
  · rintro (v | v) K1 ⟨K2, h1, h2⟩
    · exact ⟨v, K2, Wk1.le (AV.le_refl _) h1, h2⟩
    · exact ⟨v, K2, Wk1.le (AV.le_refl _) h1, h2⟩
  · rintro ao K ⟨K1, rfl, h⟩; exact h

theorem frameP {G : AG} (hG : GOk Tryz.prog G) (n : Nat) {f : FuncId} {args : List AV} {e : Int} {ts : List Tok} {ns : List Nd} {op mo : Int} {X : List ABlk} {k : AO → List ABlk → Prop} (hcl : AV.cls 2 args = true)
    (h : ∀ Q : AO → List ABlk → Prop,
      (∀ v K' ts' ns' op' mo', v.cl 2 = true → takeN K' 2 = encP e ts' ns' op' mo' → k (.ret v) (encP e ts' ns' op' mo' ++ X) → Q (.ret v) K') →
      (∀ v K', v.cl 0 = true → k (.pan v) (deads 2 ++ X) → Q (.pan v) K') → acall1 T0 G n f args (encP e ts ns op mo) Q) :
    ACalls Tryz.prog f args (encP e ts ns op mo ++ X) k :=
  frameL hG n hcl fun Q hr hp => h Q (fun v K' ts' ns' op' mo' h1 h2 h3 => hr v K' ts' ns' op' mo' h1 (h2 ▸ lesK.refl _) h3) hp

/-- what a call answers, or panics with -/
structure After {α : Type} (e : Int) (r : R α) (val : α → AV) (op : Int) (X : List ABlk) (k : AO → List ABlk → Prop) : Prop where
  ok : ∀ a ts' ns' mo', r = .ok a ⟨ts', ns', mo'⟩ → k (.ret (val a)) (encP e ts' ns' op mo' ++ X)
  bad : ∀ a er, r = .bad a er → k (.pan (wrongV a er)) (deads 2 ++ X)
def intV (x : Int) : AV := .p (.int .i64 x)
def tokV (t : Tok) : AV := .agg [.p (.int .i64 t.k.code), .p (.int .i64 t.n), .p (.int .i64 t.at_), .p (.str t.tx)]

/-! ### is -/
def cIs : AC := fun args K k => ∃ e ts ns op mo w X, args = [pp, .p (.str w)] ∧ K = encP e ts ns op mo ++ X ∧ k (.ret (.p (.bool (isS w ts)))) (encP e ts ns op mo ++ X)
theorem is_ok : COk 78 cIs := by
  rintro args K k ⟨e, ts, ns, op, mo, w, X, rfl, rfl, hk⟩
  refine frameP g0_ok 9 rfl fun Q hr hp => ?_
  cases ts with
  | nil =>
    conv => whnf
    refine ⟨by simp, ?_⟩
    conv => whnf
    exact hr _ _ _ _ _ _ rfl rfl hk
  | cons t r =>
    obtain ⟨tk, tn, ta, tx⟩ := t
    cases tk <;>
    · conv => whnf
      refine ⟨by simp; omega, ?_⟩
      conv => whnf
      exact hr _ _ _ _ _ _ rfl rfl hk

/-! ### take, fail, skip, want, ident -/
def cTake : AC := fun args K k => ∃ e t r ns op mo X, args = [pp] ∧ K = encP e (t :: r) ns op mo ++ X ∧ k (.ret (tokV t)) (encP e r ns op mo ++ X)
theorem take_ok : COk 79 cTake := by
  rintro args K k ⟨e, t, r, ns, op, mo, X, rfl, rfl, hk⟩
  refine frameP g0_ok 9 rfl fun Q hr hp => ?_
  conv => whnf
  refine ⟨by simp; omega, ?_⟩
  conv => whnf
  refine ⟨by simp; omega, ?_⟩
  conv => whnf
  exact hr _ _ r ns op mo rfl rfl hk

def cFail : AC := fun args K k => ∃ e ts ns op mo er X, args = [pp, .p (.int .i64 er)] ∧ K = encP e ts ns op mo ++ X ∧ k (.pan (wrongV (hd e ts) er)) (deads 2 ++ X)
theorem fail_ok : COk 45 cFail := by
  rintro args K k ⟨e, ts, ns, op, mo, er, X, rfl, rfl, hk⟩
  refine frameP g0_ok 9 rfl fun Q hr hp => ?_
  cases ts <;>
  · conv => whnf
    refine ⟨by simp <;> omega, ?_⟩
    conv => whnf
    exact hp _ _ rfl hk

def g1 : AG := gput 78 cIs (gput 79 cTake (gput 45 cFail g0))
theorem g1_ok : GOk Tryz.prog g1 := gput_ok is_ok (gput_ok take_ok (gput_ok fail_ok g0_ok))

theorem isS_cons {w : Bs} {ts : List Tok} (h : isS w ts = true) : ∃ t r, ts = t :: r := by
  cases ts with
  | nil => simp [isS] at h
  | cons t r => exact ⟨t, r, rfl⟩

structure SkipK (e : Int) (ts : List Tok) (ns : List Nd) (op mo : Int) (w : Bs) (X : List ABlk) (k : AO → List ABlk → Prop) : Prop where
  yes : isS w ts = true → k (.ret (.p (.bool true))) (encP e ts.tail ns op mo ++ X)
  no : isS w ts = false → k (.ret (.p (.bool false))) (encP e ts ns op mo ++ X)
def cSkip : AC := fun args K k => ∃ e ts ns op mo w X, args = [pp, .p (.str w)] ∧ K = encP e ts ns op mo ++ X ∧ SkipK e ts ns op mo w X k
theorem skip_ok : COk 116 cSkip := by
  rintro args K k ⟨e, ts, ns, op, mo, w, X, rfl, rfl, hk⟩
  refine frameP g1_ok 9 rfl fun Q hr hp => ?_
  conv => whnf
  refine ⟨_, _, _, _, _, _, _, rfl, rfl, ?_⟩
  conv => whnf
  cases h : isS w ts with
  | false =>
    conv => whnf
    exact hr _ _ _ _ _ _ rfl rfl (hk.no h)
  | true =>
    obtain ⟨t, r, rfl⟩ := isS_cons h
    conv => whnf
    refine ⟨_, _, _, _, _, _, _, rfl, rfl, ?_⟩
    conv => whnf
    exact hr _ _ _ _ _ _ rfl rfl (hk.yes h)

def cWant : AC := fun args K k => ∃ e ts ns op mo w X, args = [pp, .p (.str w)] ∧ K = encP e ts ns op mo ++ X ∧ After e (wantS e w ⟨ts, ns, mo⟩) (fun _ => .tup []) op X k
def g2 : AG := gput 116 cSkip g1
theorem g2_ok : GOk Tryz.prog g2 := gput_ok skip_ok g1_ok
theorem want_ok : COk 82 cWant := by
  rintro args K k ⟨e, ts, ns, op, mo, w, X, rfl, rfl, hk⟩
  refine frameP g2_ok 9 rfl fun Q hr hp => ?_
  conv => whnf
  refine ⟨_, _, _, _, _, _, _, rfl, rfl, ⟨fun h => ?_, fun h => ?_⟩⟩
  · conv => whnf
    exact hr _ _ _ _ _ _ rfl rfl (hk.ok () _ _ _ (by simp [wantS, h, dropS]))
  · conv => whnf
    refine ⟨_, _, _, _, _, _, _, rfl, rfl, ?_⟩
    conv => whnf
    exact hp _ _ rfl (hk.bad _ _ (by simp [wantS, h]))

def cIdent : AC := fun args K k => ∃ e ts ns op mo X, args = [pp] ∧ K = encP e ts ns op mo ++ X ∧ After e (identS e ⟨ts, ns, mo⟩) tokV op X k
theorem ident_ok : COk 80 cIdent := by
  rintro args K k ⟨e, ts, ns, op, mo, X, rfl, rfl, hk⟩
  refine frameP g2_ok 9 rfl fun Q hr hp => ?_
  cases ts with
  | nil =>
    conv => whnf
    refine ⟨by simp, ?_⟩
    conv => whnf
    refine ⟨_, _, _, _, _, _, _, rfl, rfl, ?_⟩
    conv => whnf
    exact hp _ _ rfl (hk.bad _ _ rfl)
  | cons t r =>
    obtain ⟨tk, tn, ta, tx⟩ := t
    cases tk with
    | name =>
      conv => whnf
      refine ⟨by simp; omega, ?_⟩
      conv => whnf
      refine ⟨_, _, _, _, _, _, _, rfl, rfl, ?_⟩
      conv => whnf
      exact hr _ _ _ _ _ _ rfl rfl (hk.ok _ _ _ _ rfl)
    | _ =>
      conv => whnf
      refine ⟨by simp; omega, ?_⟩
      conv => whnf
      refine ⟨_, _, _, _, _, _, _, rfl, rfl, ?_⟩
      conv => whnf
      exact hp _ _ rfl (hk.bad _ _ rfl)
def g3 : AG := gput 82 cWant (gput 80 cIdent g2)
theorem g3_ok : GOk Tryz.prog g3 := gput_ok want_ok (gput_ok ident_ok g2_ok)

/-! ### put -/
theorem put0 {e : Int} {ts : List Tok} {ns : List Nd} {op mo : Int} {n : Nd} {X : List ABlk} {k : AO → List ABlk → Prop} (hn : ns.length < 1000000)
    (hk : k (.ret (intV ns.length)) (encP e ts (ns ++ [n]) op mo ++ X)) :
    ACalls Tryz.prog 48 [pp, .agg [.p (.int .i64 n.k), .p (.int .i64 n.n), .p (.int .i64 n.at_), .p (.str n.tx), .p .nils], .p (.sl 1 n.kids.length (kidF n.kids))] (encP e ts ns op mo ++ X) k := by
  refine frameL g0_ok 9 rfl fun Q hr hp => ?_
  conv => whnf
  refine ⟨by conv => whnf, ?_⟩
  refine ⟨⟨rfl, rfl, rfl, fun i hi => ?_⟩, ?_⟩
  · obtain rfl : i = 0 := by omega
    rfl
  conv => whnf
  refine ⟨by simp; omega, ?_⟩
  conv => whnf
  have hv : IntKind.i64.wrap (((ns.length + 1 : Nat) : Int) - 1) = ns.length := by rw [w64] <;> omega
  rw [hv]
  refine hr _ _ ts (ns ++ [n]) op mo rfl ⟨ABlk.le_of_eq (by simp [pb]), ABlk.arr_eq (by simp) fun i hi => ?_, trivial⟩ hk
  by_cases h : i < ns.length
  · rw [catF_lt h]
    show pvs (nodeF ns i) = pvs (nodeF (ns ++ [n]) i)
    simp [nodeF, List.getElem?_append_left h]
  · obtain rfl : i = ns.length := by omega
    rw [catF_ge (Nat.le_refl _), Nat.sub_self]
    show _ = pvs (nodeF (ns ++ [n]) ns.length)
    simp [nodeF]
    rfl

/-- what kids are: none, or a row that nobody writes to behind this -/
structure PutK (e : Int) (ts : List Tok) (ns : List Nd) (op mo : Int) (n : Nd) (kv : AV) (X : List ABlk) (k : AO → List ABlk → Prop) : Prop where
  small : ns.length < 1000000
  none : kv = .p .nils → n.kids = [] ∧ k (.ret (intV ns.length)) (encP e ts (ns ++ [n]) op mo ++ X)
  row : ∀ r ver m, kv = .slr r ver 0 m → ∃ j f, r = j + 2 ∧ nth X j = some (.arr 3 1 ver m f) ∧ n.kids.length = m ∧ (∀ i, i < m → f i = [intV (n.kids.getD i 0)]) ∧ k (.ret (intV ns.length)) (encP e ts (ns ++ [n]) op mo ++ setN X j .dead)
  sort : kv = .p .nils ∨ ∃ r ver m, kv = .slr r ver 0 m
def cPut : AC := fun args K k => ∃ kids e ts ns op mo kd nn na tx kv X, args = [pp, .agg [.p (.int .i64 kd), .p (.int .i64 nn), .p (.int .i64 na), .p (.str tx), .p .nils], kv] ∧ K = encP e ts ns op mo ++ X ∧ PutK e ts ns op mo ⟨kd, nn, na, tx, kids⟩ kv X k
theorem PutK.nils {e : Int} {ts : List Tok} {ns : List Nd} {op mo kd nn na : Int} {tx : Bs} {X : List ABlk} {k : AO → List ABlk → Prop} (hs : ns.length < 1000000)
    (h : k (.ret (intV ns.length)) (encP e ts (ns ++ [⟨kd, nn, na, tx, []⟩]) op mo ++ X)) : PutK e ts ns op mo ⟨kd, nn, na, tx, []⟩ (.p .nils) X k :=
  ⟨hs, fun _ => ⟨rfl, h⟩, fun _ _ _ h => by simp at h, .inl rfl⟩
theorem PutK.slr {e : Int} {ts : List Tok} {ns : List Nd} {op mo kd nn na : Int} {tx : Bs} {kids : List Int} {j r ver m : Nat} {f : Nat → List AV} {X : List ABlk} {k : AO → List ABlk → Prop} (hs : ns.length < 1000000)
    (hr : r = j + 2) (hj : nth X j = some (.arr 3 1 ver m f)) (hm : kids.length = m) (hf : ∀ i, i < m → f i = [intV (kids.getD i 0)])
    (h : k (.ret (intV ns.length)) (encP e ts (ns ++ [⟨kd, nn, na, tx, kids⟩]) op mo ++ setN X j .dead)) : PutK e ts ns op mo ⟨kd, nn, na, tx, kids⟩ (.slr r ver 0 m) X k :=
  ⟨hs, fun h => by simp at h, fun r' ver' m' h' => by
    simp only [AV.slr.injEq] at h'
    obtain ⟨rfl, rfl, -, rfl⟩ := h'
    exact ⟨j, f, hr, hj, hm, hf, h⟩, .inr ⟨_, _, _, rfl⟩⟩
theorem put_ok : COk 48 cPut := by
  rintro args K k ⟨kids, e, ts, ns, op, mo, kd, nn, na, tx, kv, X, rfl, rfl, hk⟩
  rcases hk.sort with rfl | ⟨r, ver, m, rfl⟩
  · obtain ⟨h1, h2⟩ := hk.none rfl
    refine (put0 (n := ⟨kd, nn, na, tx, kids⟩) hk.small h2).pre (Wk.le ⟨AV.le_refl _, AV.le_refl _, ?_, trivial⟩ (lesK.refl _))
    rw [h1]; exact AV.nils_le 1 _
  · obtain ⟨j, f, rfl, hj, rfl, hf, h2⟩ := hk.row _ _ _ rfl
    refine (put0 (n := ⟨kd, nn, na, tx, kids⟩) hk.small h2).pre fun w m Args hS hV => ?_
    have hj' : nth (encP e ts ns op mo ++ X) (j + 2) = some (.arr 3 1 ver kids.length f) := hj
    obtain ⟨m', h3, h4, h5⟩ := freeze_sl hS hj' (kidF kids) hf
    refine ⟨m', h3, h4, hV.1, fun i hi hi' => ?_⟩
    have h6 := fun i hi hi' => (hV.2 i hi hi').mono h3
    rcases i with _ | _ | _ | i
    · exact h6 0 hi hi'
    · exact h6 1 hi hi'
    · exact h5 _ (hV.2 2 hi hi')
    · simp at hi; omega
def g4 : AG := gput 48 cPut g3
theorem g4_ok : GOk Tryz.prog g4 := gput_ok put_ok g3_ok

/-! ### one of some texts -/
def idxG (ts : List Tok) : Nat → List Bs → Int
  | _, [] => -1
  | i, w :: r => match isS w ts with
    | true => i
    | false => idxG ts (i + 1) r
def strF (l : List Bs) (i : Nat) : List PV := [.str (l.getD i [])]
def isF : AV := .fn 78 [pp] []
def cIdx : AC := fun args K k => ∃ e ts ns op mo l X, args = [.p (.sl 1 (List.length l) (strF l)), isF] ∧ K = encP e ts ns op mo ++ X ∧ l.length < 1000 ∧ k (.ret (intV (idxG ts 0 l))) (encP e ts ns op mo ++ X)
theorem idx_ok : COk 117 cIdx := by
  rintro args K k ⟨e, ts, ns, op, mo, l, X, rfl, rfl, hl, hk⟩
  refine frameP g1_ok 9 rfl fun Q hr hp => ?_
  conv => whnf
  refine loop_by (ι := Nat) (fun i => ⟨[(8, intV i), (7, intV l.length), (1, isF), (0, .p (.sl 1 l.length (strF l)))], encP e ts ns op mo⟩)
      (fun i => i ≤ l.length ∧ idxG ts i (l.drop i) = idxG ts 0 l) (fun i => l.length - i) 0 ⟨AV.le_refl _, AV.le_refl _, AV.le_refl _, AV.le_refl _, trivial⟩ (lesK.refl _) ⟨by omega, rfl⟩ ?_
  intro Y hle i ⟨hi, he⟩ ih
  conv => whnf
  refine two_intro (fun h => ?_) (fun h => ?_)
  · have h : i < l.length := by simpa using h
    rw [List.drop_eq_getElem_cons h] at he
    conv => whnf
    refine ⟨⟨by omega, by omega, rfl⟩, ?_⟩
    conv => whnf
    refine ⟨e, ts, ns, op, mo, _, [], rfl, rfl, ?_⟩
    conv => whnf
    have hi2 : ((i : Int)).toNat = i := by omega
    have e1 : l.getD (Int.toNat i) [] = l[i] := by simp [List.getD_eq_getElem?_getD, h]
    refine two_intro (fun h2 => ?_) (fun h2 => ?_)
    · conv => whnf
      have h2 : isS l[i] ts = true := e1 ▸ h2
      simp only [idxG, h2] at he
      exact hr _ _ ts ns op mo rfl rfl (he ▸ hk)
    · conv => whnf
      have h2 : isS l[i] ts = false := e1 ▸ h2
      simp only [idxG, h2] at he
      refine hle _ _ (Le.env ?_ (lesK.refl _)) (ih (i + 1) (by omega) ⟨by omega, he⟩)
      refine ⟨AV.le_of_eq ?_, AV.le_refl _, AV.le_refl _, AV.le_refl _, trivial⟩
      show AV.p (.int .i64 (IntKind.i64.wrap ((i : Int) + 1))) = intV ((i + 1 : Nat) : Int)
      rw [w64 (by omega)]; rfl
  · have h : ¬ i < l.length := by simpa using h
    obtain rfl : i = l.length := by omega
    rw [List.drop_length] at he
    conv => whnf
    rw [← he] at hk
    exact hr _ _ ts ns op mo rfl rfl hk
/-- the same of a row of memory, to which nobody writes behind this -/
def cIdx2 : AC := fun args K k => cIdx args K k ∨ ∃ l e ts ns op mo j r ver m f X, args = [.slr r ver 0 m, isF] ∧ K = encP e ts ns op mo ++ X ∧ r = j + 2 ∧ nth X j = some (.arr 9 1 ver m f) ∧ List.length l = m ∧ m < 1000 ∧ (∀ i, i < m → f i = pvs (strF l i)) ∧ k (.ret (intV (idxG ts 0 l))) (encP e ts ns op mo ++ setN X j .dead)
theorem idx2_ok : COk 117 cIdx2 := by
  rintro args K k (h | ⟨l, e, ts, ns, op, mo, j, r, ver, m, f, X, rfl, rfl, rfl, hj, rfl, hl, hf, hk⟩)
  · exact idx_ok args K k h
  · refine (idx_ok [.p (.sl 1 l.length (strF l)), isF] (encP e ts ns op mo ++ setN X j .dead) k ⟨e, ts, ns, op, mo, l, _, rfl, rfl, hl, hk⟩).pre fun w m Args hS hV => ?_
    have hj' : nth (encP e ts ns op mo ++ X) (j + 2) = some (.arr 9 1 ver l.length f) := hj
    obtain ⟨m', h3, h4, h5⟩ := freeze_sl hS hj' (strF l) hf
    refine ⟨m', h3, h4, hV.1, fun i hi hi' => ?_⟩
    have h6 := fun i hi hi' => (hV.2 i hi hi').mono h3
    rcases i with _ | _ | i
    · exact h5 _ (hV.2 0 hi hi')
    · exact h6 1 hi hi'
    · simp at hi; omega
def g5 : AG := gput 117 cIdx2 g4
theorem g5_ok : GOk Tryz.prog g5 := gput_ok idx2_ok g4_ok

theorem idxG_any (ts : List Tok) (l : List Bs) (i : Nat) : decide (idxG ts i l ≥ 0) = anyS l ts := by
  induction l generalizing i with
  | nil => rfl
  | cons w r ih =>
    simp only [idxG, anyS, List.any_cons]
    by_cases h : isS w ts = true
    · simp [h]
    · have h : isS w ts = false := by simpa using h
      simp only [h]
      rw [Bool.false_or]; exact ih (i + 1)

def cAny : AC := fun args K k => ∃ e ts ns op mo l X, args = [.p (.sl 1 (List.length l) (strF l)), isF] ∧ K = encP e ts ns op mo ++ X ∧ l.length < 1000 ∧ k (.ret (.p (.bool (anyS l ts)))) (encP e ts ns op mo ++ X)
theorem any_ok : COk 111 cAny := by
  rintro args K k ⟨e, ts, ns, op, mo, l, X, rfl, rfl, hl, hk⟩
  refine frameP g5_ok 9 rfl fun Q hr hp => ?_
  conv => whnf
  refine .inl ⟨e, ts, ns, op, mo, l, [], rfl, rfl, hl, ?_⟩
  conv => whnf
  rw [← idxG_any ts l 0] at hk
  exact hr _ _ ts ns op mo rfl rfl hk

/-- the signs of a row -/
def cRows : AC := fun args K k => ∃ j : Nat, ∃ kk, j ≤ 4 ∧ args = [.p (.int .i64 kk)] ∧ kk = 4 - (j : Int) ∧ k (.ret (.p (.sl 1 (rowS j).length (strF (rowS j))))) K
theorem rows_ok : COk 112 cRows := by
  rintro args K k ⟨j, kk, hj, rfl, rfl, hk⟩
  refine (ACalls.frame (K0 := []) (X := K) (k := fun ao K1 => k ao (K1 ++ K)) rfl (fun r h => by simp at h) ?_).mono (fun ao K1 h => ?_)
  · refine (ACalls.post (k := fun ao K1 => ∃ f, ao = .ret (.slr 0 0 0 (rowS j).length) ∧ K1 = [.arr 9 1 0 (rowS j).length f] ∧ ∀ i, i < (rowS j).length → f i = pvs (strF (rowS j) i)) (call_ok g0_ok 9 _ _ _ _ ?_) ?_)
    · have hc : j = 0 ∨ j = 1 ∨ j = 2 ∨ j = 3 ∨ j = 4 := by omega
      rcases hc with rfl | rfl | rfl | rfl | rfl
      · conv => whnf
        exact ⟨_, rfl, rfl, allLt_ok ⟨⟨⟨trivial, rfl⟩, rfl⟩, rfl⟩⟩
      · conv => whnf
        exact ⟨_, rfl, rfl, allLt_ok ⟨⟨trivial, rfl⟩, rfl⟩⟩
      · conv => whnf
        exact ⟨_, rfl, rfl, allLt_ok ⟨⟨⟨⟨⟨⟨trivial, rfl⟩, rfl⟩, rfl⟩, rfl⟩, rfl⟩, rfl⟩⟩
      · conv => whnf
        exact ⟨_, rfl, rfl, allLt_ok ⟨trivial, rfl⟩⟩
      · conv => whnf
        exact ⟨_, rfl, rfl, allLt_ok ⟨trivial, rfl⟩⟩
    · rintro ao K1 ⟨f, rfl, rfl, hf⟩
      refine ⟨_, _, Wk1.freeze (r := 0) rfl (strF (rowS j)) hf, rfl, ?_, fun r h => by simp at h, hk⟩
      simp
  · obtain ⟨K2, rfl, h⟩ := h; exact h
def g6 : AG := gput 111 cAny (gput 112 cRows g5)
theorem g6_ok : GOk Tryz.prog g6 := gput_ok any_ok (gput_ok rows_ok g5_ok)

def typeL : List Bs := [[105, 110, 116], [98, 111, 111, 108], [97, 114, 114], [102, 117, 110]]
theorem types_eq (ts : List Tok) : idxG ts 0 typeL + 1 = typesS ts := by
  simp only [typeL, idxG, typesS]
  split <;> rename_i h1 <;> simp only [h1]
  · rfl
  split <;> rename_i h2 <;> simp only [h2]
  · rfl
  split <;> rename_i h3 <;> simp only [h3]
  · rfl
  split <;> rename_i h4 <;> simp only [h4]
  · rfl
  · rfl
theorem types_in (ts : List Tok) : 0 ≤ typesS ts ∧ typesS ts ≤ 4 := by
  simp only [typesS]
  repeat' split
  all_goals omega

def cTypes : AC := fun args K k => ∃ e ts ns op mo X, args = [pp] ∧ K = encP e ts ns op mo ++ X ∧ k (.ret (intV (typesS ts))) (encP e ts ns op mo ++ X)
theorem typesC_ok : COk 87 cTypes := by
  rintro args K k ⟨e, ts, ns, op, mo, X, rfl, rfl, hk⟩
  refine frameP g5_ok 9 rfl fun Q hr hp => ?_
  conv => whnf
  refine .inr ⟨typeL, e, ts, ns, op, mo, 0, _, _, _, _, _, rfl, rfl, rfl, rfl, rfl, by decide, allLt_ok ⟨⟨⟨⟨trivial, rfl⟩, rfl⟩, rfl⟩, rfl⟩, ?_⟩
  conv => whnf
  have hv : IntKind.i64.wrap (idxG ts 0 typeL + 1) = typesS ts := by
    rw [types_eq]
    have := types_in ts
    rw [w64 (by omega)]
  rw [hv]
  exact hr _ _ ts ns op mo rfl rfl hk
def g7 : AG := gput 87 cTypes g6
theorem g7_ok : GOk Tryz.prog g7 := gput_ok typesC_ok g6_ok
end Go.Proofs.YtbcngegcpdppfaaGreatDoor
