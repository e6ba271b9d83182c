/-
  Parser, part 1: what the parser computes, in plain Lean: tokens as a list, nodes as a list, depth as a number that sinks. No program in sight; no statement of the seat is proved here.
  Trees, part 1: what tree.Sound and tree.Depth compute, in plain Lean. No program in sight; no statement of the seat is proved here.
  Tokens, part 1: what the cutter computes, in plain Lean. No program in sight; no statement of the seat is proved here.
  Trees that are right, part 1: what tree.Right computes, in plain Lean. No program in sight; no statement of the seat is proved here.
  Trees, part 3: where the nodes of a sound tree stand: each but the root has one node above it. No program in sight; no statement of the seat is proved here.
  The reference of layer 4, part 1: what it says of how nodes stand, and that tree.Sound says the same. No program in sight; no statement of the seat is proved here.
  Trees, part 4: what kinds a node's kids have, in readable words. No program in sight; no statement of the seat is proved here.
  The reference of layer 4, part 2: what it says of nodes' shapes, and that tree.Right says the same. No program in sight; no statement of the seat is proved here.
  The reference of layer 3, part 1: words among words. No program in sight; no statement of the seat is proved here.
  The reference of layer 4, part 3: texts, numbers, and what is right. No program in sight; no statement of the seat is proved here.
  Types, part 1: what package types computes, in plain Lean. No program in sight; no statement of the seat is proved here.
  AE, part 0: what is known of the package variables that library functions read. No statement of the seat is proved here.
  AE, part 0: keys of maps, and what a map's entries are. Own metatheory over any program; no statement of the seat is proved here.
  AE, part 1: abstract values, their relation to the model's values, worlds and transitions. Own metatheory over any program; no statement of the seat is proved here.
-/
import Derived.Lib.IndexMore
import Derived.Lib.AtoiAll
import Derived.Lib.ItoaNum
import Derived.Test.YtojjkleplnijaaaGreatDoorProg
import Derived.Lib.LaidTab
import Derived.Maps.AppendAt
import Derived.Laws.CopyRow
import Derived.Laws.Rows
import Derived.Calls
import Derived.RangeFuncRecord
import Derived.TacticsIn
set_option linter.unusedVariables false
set_option linter.unusedSimpArgs false
namespace Go.Ru
abbrev Bs := List UInt8
inductive TK where
  | name
  | number
  | sign
  | word
deriving DecidableEq
def TK.code : TK → Int
  | .name => 1
  | .number => 2
  | .sign => 3
  | .word => 4
structure Tok where
  k : TK
  n : Int
  at_ : Int
  tx : Bs
structure Nd where
  k : Int
  n : Int
  at_ : Int
  tx : Bs
  kids : List Int
instance : Inhabited Nd := ⟨⟨0, 0, 0, [], []⟩⟩
structure PS where
  ts : List Tok
  ns : List Nd
  mo : Int
inductive R (α : Type) where
  | ok (a : α) (s : PS)
  | bad (at_ err : Int)
def R.bind {α β : Type} (r : R α) (f : α → PS → R β) : R β :=
  match r with
  | .ok a s => f a s
  | .bad a e => .bad a e
abbrev M (α : Type) := PS → R α
def hd (e : Int) : List Tok → Int
  | [] => e
  | t :: _ => t.at_
def isS (w : Bs) : List Tok → Bool
  | [] => false
  | t :: _ => match t.k with
    | .word => t.tx == w
    | .sign => t.tx == w
    | _ => false
def dropS (s : PS) : PS := ⟨s.ts.tail, s.ns, s.mo⟩
def wantS (e : Int) (w : Bs) (s : PS) : R Unit :=
  match isS w s.ts with
  | true => .ok () (dropS s)
  | false => .bad (hd e s.ts) 2
def identS (e : Int) (s : PS) : R Tok :=
  match s.ts with
  | [] => .bad e 2
  | t :: r => match t.k with
    | .name => .ok t ⟨r, s.ns, s.mo⟩
    | _ => .bad t.at_ 2
def putS (n : Nd) (s : PS) : R Int := .ok (s.ns.length : Int) ⟨s.ts, s.ns ++ [n], s.mo⟩
def moreS (d : Nat) (mo : Int) : Int := if (41 : Int) - d > mo then 41 - d else mo
def withinS {α : Type} (e : Int) (d : Nat) (op cl : Bs) (what : M α) (s : PS) : R α :=
  match isS op s.ts with
  | false => .bad (hd e s.ts) 2
  | true => match d with
    | 0 => .bad (hd e s.ts) 6
    | _ + 1 => (what ⟨s.ts.tail, s.ns, moreS d s.mo⟩).bind fun a s => match cl with
      | [] => .ok a s
      | _ => (wantS e cl s).bind fun _ s => .ok a s
def rowS : Nat → List Bs
  | 0 => [[42], [47], [37]]
  | 1 => [[43], [45]]
  | 2 => [[61, 61], [33, 61], [60], [60, 61], [62], [62, 61]]
  | 3 => [[38, 38]]
  | _ => [[124, 124]]
def anyS (l : List Bs) (ts : List Tok) : Bool := l.any fun w => isS w ts
def rowLoop (l : List Bs) (opnd : M Int) : Nat → Int → M Int
  | 0, x, s => .ok x s
  | n + 1, x, s => match s.ts with
    | [] => .ok x s
    | t :: r => match anyS l (t :: r) with
      | false => .ok x s
      | true => (opnd ⟨r, s.ns, s.mo⟩).bind fun y s => (putS ⟨27, 0, t.at_, t.tx, [x, y]⟩ s).bind fun x s => rowLoop l opnd n x s
def exprS (una : M Int) : Nat → M Int
  | 0, s => una s
  | j + 1, s => (exprS una j s).bind fun x s => rowLoop (rowS j) (exprS una j) s.ts.length x s
def primS (e : Int) (d : Nat) (inner : M Int) (s : PS) : R Int :=
  match s.ts with
  | [] => .bad e 2
  | t :: r => match t.k with
    | .number => putS ⟨20, t.n, t.at_, [], []⟩ ⟨r, s.ns, s.mo⟩
    | .name => match isS [91] r with
      | true => (withinS e d [91] [93] inner ⟨r, s.ns, s.mo⟩).bind fun x s => putS ⟨23, 0, t.at_, t.tx, [x]⟩ s
      | false => putS ⟨22, 0, t.at_, t.tx, []⟩ ⟨r, s.ns, s.mo⟩
    | _ => match t.tx == [116, 114, 117, 101] with
      | true => putS ⟨21, 1, t.at_, [], []⟩ ⟨r, s.ns, s.mo⟩
      | false => match t.tx == [102, 97, 108, 115, 101] with
        | true => putS ⟨21, 0, t.at_, [], []⟩ ⟨r, s.ns, s.mo⟩
        | false => match t.tx == [108, 101, 110] with
          | true => (identS e ⟨r, s.ns, s.mo⟩).bind fun t' s => putS ⟨24, 0, t.at_, t'.tx, []⟩ s
          | false => match t.tx == [38] with
            | true => (identS e ⟨r, s.ns, s.mo⟩).bind fun t' s => putS ⟨25, 0, t.at_, t'.tx, []⟩ s
            | false => match t.tx == [40] with
              | true => withinS e d [40] [41] inner s
              | false => .bad t.at_ 2
def unaB (e : Int) (d : Nat) (una inner : M Int) (s : PS) : R Int :=
  match s.ts with
  | [] => .bad e 2
  | t :: r => match isS [45] (t :: r) || isS [33] (t :: r) with
    | true => (withinS e d t.tx [] una s).bind fun x s => putS ⟨26, 0, t.at_, t.tx, [x]⟩ s
    | false => primS e d inner s
def unaS (e : Int) : Nat → M Int
  | 0 => unaB e 0 (fun _ => .bad 0 0) (fun _ => .bad 0 0)
  | d + 1 => unaB e (d + 1) (unaS e d) (exprS (unaS e d) 5)
def exS (e : Int) (d : Nat) : M Int := exprS (unaS e d) 5
def inS (e : Int) : Nat → M Int
  | 0 => fun _ => .bad 0 0
  | d + 1 => exS e d
def indexS (e : Int) (d : Nat) : M Int := withinS e d [91] [93] (inS e d)
def commaL {α : Type} (one : List α → M (List α)) : Nat → List α → M (List α)
  | 0, l, s => .ok l s
  | n + 1, l, s => match isS [44] s.ts with
    | true => (one l (dropS s)).bind fun l s => commaL one n l s
    | false => .ok l s
def listS {α : Type} (one : List α → M (List α)) (l : List α) (s : PS) : R (List α) :=
  match isS [41] s.ts with
  | true => .ok l s
  | false => (one l s).bind fun l s => commaL one s.ts.length l s
def oneS (m : M Int) (l : List Int) : M (List Int) := fun s => (m s).bind fun x s => .ok (l ++ [x]) s
def callS (e : Int) (d : Nat) (at_ : Int) (tx : Bs) (s : PS) : R Int :=
  (identS e s).bind fun t s => (putS ⟨19, 0, t.at_, t.tx, []⟩ s).bind fun x s =>
    (withinS e d [40] [41] (listS (oneS (inS e d)) [x]) s).bind fun l s => putS ⟨13, 0, at_, tx, l⟩ s
def chanS (e : Int) (s : PS) : R Int := (identS e s).bind fun t s => putS ⟨18, 0, t.at_, t.tx, []⟩ s
def namedS (e : Int) (d : Nat) (s : PS) : R Int :=
  (identS e s).bind fun t s => match isS [91] s.ts with
    | true => (indexS e d s).bind fun x s => (wantS e [61] s).bind fun _ s => (exS e d s).bind fun y s => putS ⟨8, 0, t.at_, t.tx, [x, y]⟩ s
    | false => (wantS e [61] s).bind fun _ s => match isS [105, 110] s.ts with
      | true => (chanS e (dropS s)).bind fun x s => putS ⟨9, 0, t.at_, t.tx, [x]⟩ s
      | false => match isS [99, 97, 108, 108] s.ts with
        | true => callS e d t.at_ t.tx (dropS s)
        | false => match isS [110, 101, 119] s.ts with
          | true => (exS e d (dropS s)).bind fun x s => putS ⟨17, 0, t.at_, t.tx, [x]⟩ s
          | false => (exS e d s).bind fun x s => putS ⟨7, 0, t.at_, t.tx, [x]⟩ s
def plainS (e : Int) (d : Nat) (s : PS) : R Int :=
  let at_ := hd e s.ts
  match isS [111, 117, 116] s.ts with
  | true => (chanS e (dropS s)).bind fun c s => (exS e d s).bind fun x s => putS ⟨10, 0, at_, [], [c, x]⟩ s
  | false => match isS [99, 97, 108, 108] s.ts with
    | true => callS e d at_ [] (dropS s)
    | false => match isS [116, 104, 114, 111, 119] s.ts with
      | true => (exS e d (dropS s)).bind fun x s => putS ⟨15, 0, at_, [], [x]⟩ s
      | false => match isS [114, 101, 116, 117, 114, 110] s.ts with
        | true => match isS [59] s.ts.tail with
          | true => putS ⟨14, 0, at_, [], []⟩ (dropS s)
          | false => (exS e d (dropS s)).bind fun x s => putS ⟨14, 0, at_, [], [x]⟩ s
        | false => namedS e d s
def stmtsL (stmt : M Int) : Nat → List Int → M (List Int)
  | 0, _, _ => .bad 0 0
  | n + 1, l, s => match isS [125] s.ts with
    | true => .ok l s
    | false => (stmt s).bind fun x s => stmtsL stmt n (l ++ [x]) s
def stmtsS (stmt : M Int) (l : List Int) (s : PS) : R (List Int) := stmtsL stmt (s.ts.length + 1) l s
def blockB (e : Int) (d : Nat) (stmt : M Int) (s : PS) : R Int :=
  let at_ := hd e s.ts
  (withinS e d [123] [125] (stmtsS stmt []) s).bind fun l s => putS ⟨6, 0, at_, [], l⟩ s
def stmtB (e : Int) (d : Nat) (stmt : M Int) (s : PS) : R Int :=
  let at_ := hd e s.ts
  match isS [105, 102] s.ts with
  | true => (exS e d (dropS s)).bind fun x s => (blockB e d stmt s).bind fun a s => match isS [101, 108, 115, 101] s.ts with
    | true => (blockB e d stmt (dropS s)).bind fun b s => putS ⟨11, 0, at_, [], [x, a, b]⟩ s
    | false => (putS ⟨6, 0, at_, [], []⟩ s).bind fun b s => putS ⟨11, 0, at_, [], [x, a, b]⟩ s
  | false => match isS [119, 104, 105, 108, 101] s.ts with
    | true => (exS e d (dropS s)).bind fun x s => (blockB e d stmt s).bind fun a s => putS ⟨12, 0, at_, [], [x, a]⟩ s
    | false => match isS [116, 114, 121] s.ts with
      | true => (blockB e d stmt (dropS s)).bind fun a s => (wantS e [99, 97, 116, 99, 104] s).bind fun _ s => (identS e s).bind fun t s =>
          (blockB e d stmt s).bind fun b s => putS ⟨16, 0, at_, t.tx, [a, b]⟩ s
      | false => (plainS e d s).bind fun x s => (wantS e [59] s).bind fun _ s => .ok x s
def stmtS (e : Int) : Nat → M Int
  | 0 => stmtB e 0 (fun _ => .bad 0 0)
  | d + 1 => stmtB e (d + 1) (stmtS e d)
def inStmtS (e : Int) : Nat → M Int
  | 0 => fun _ => .bad 0 0
  | d + 1 => stmtS e d
def typesS (ts : List Tok) : Int :=
  match isS [105, 110, 116] ts with
  | true => 1
  | false => match isS [98, 111, 111, 108] ts with
    | true => 2
    | false => match isS [97, 114, 114] ts with
      | true => 3
      | false => match isS [102, 117, 110] ts with
        | true => 4
        | false => 0
def typedS (e : Int) (k at_ : Int) (tx : Bs) (s : PS) : R Int :=
  match typesS s.ts == 0 with
  | true => .bad (hd e s.ts) 2
  | false => putS ⟨k, typesS s.ts, at_, tx, []⟩ (dropS s)
def varsL (e : Int) (kind : Int) : Nat → List Int → M (List Int)
  | 0, l, s => .ok l s
  | n + 1, l, s => match isS [118, 97, 114] s.ts with
    | false => .ok l s
    | true => (identS e (dropS s)).bind fun t s' => (typedS e kind (hd e s.ts) t.tx s').bind fun x s => (wantS e [59] s).bind fun _ s => varsL e kind n (l ++ [x]) s
def varsS (e : Int) (kind : Int) (s : PS) : R (List Int) := varsL e kind s.ts.length [] s
def bodyS (e : Int) (d : Nat) (s : PS) : R (List Int × Int) :=
  let at_ := hd e s.ts
  (withinS e d [123] [125] (fun s => (varsS e 5 s).bind fun vs s => (stmtsS (inStmtS e d) [] s).bind fun l s => .ok (vs, l) s) s).bind fun p s =>
    (putS ⟨6, 0, at_, [], p.2⟩ s).bind fun b s => .ok (p.1, b) s
def paramS (e : Int) : M Int := fun s => (identS e s).bind fun t s => typedS e 4 t.at_ t.tx s
def procS (e : Int) (d : Nat) (s : PS) : R Int :=
  let at_ := hd e s.ts
  (wantS e [112, 114, 111, 99] s).bind fun _ s => (identS e s).bind fun t s =>
    (withinS e d [40] [41] (listS (oneS (paramS e)) []) s).bind fun ps s =>
      let k := typesS s.ts
      (bodyS e d (match decide (k > 0) with
        | true => dropS s
        | false => s)).bind fun p s => putS ⟨3, k, at_, t.tx, ps ++ p.1 ++ [p.2]⟩ s
def procsL (e : Int) (d : Nat) : Nat → List Int → M (List Int)
  | 0, l, s => .ok l s
  | n + 1, l, s => match s.ts with
    | [] => .ok l s
    | _ :: _ => (procS e d s).bind fun x s => procsL e d n (l ++ [x]) s
def programS (e : Int) (s : PS) : R Int :=
  (varsS e 2 s).bind fun l s => (procsL e 40 s.ts.length l s).bind fun l s => putS ⟨1, 0, 0, [], l⟩ s
end Go.Ru

namespace Go.Ru
def kidsS (out : List Nat) : List Int → Int → Nat → Option Nat
  | [], _, size => some size
  | k :: r, last, size => match k == last && decide (0 ≤ k) with
    | true => kidsS out r (k - (out.getD k.toNat 0 : Nat)) (size + out.getD k.toNat 0)
    | false => none
def sizesS : List Nd → List Nat → Option (List Nat)
  | [], out => some out
  | n :: r, out => match kidsS out n.kids.reverse ((out.length : Int) - 1) 1 with
    | some c => sizesS r (out ++ [c])
    | none => none
def soundS (ns : List Nd) (root : Int) : Bool :=
  !(ns.length == 0 || decide (4000 < ns.length) || root != (ns.length : Int) - 1) &&
  match sizesS ns [] with
  | some l => l.getD root.toNat 0 == ns.length
  | none => false
def szOk (out : List Nat) : Prop := ∀ i, i < out.length → 1 ≤ out.getD i 0 ∧ out.getD i 0 ≤ i + 1
theorem kidsS_inv {out : List Nat} (ho : szOk out) : ∀ (l : List Int) (last : Int) (size : Nat) (c : Nat), last < out.length → -1 ≤ last → (size : Int) = out.length - last → kidsS out l last size = some c → 1 ≤ c ∧ c ≤ out.length + 1 := by
  intro l
  induction l with
  | nil => intro last size c h1 h2 h3 h; simp only [kidsS, Option.some.injEq] at h; omega
  | cons k r ih =>
    intro last size c h1 h2 h3 h
    simp only [kidsS] at h
    split at h
    case h_2 => simp at h
    rename_i hb
    simp only [Bool.and_eq_true, beq_iff_eq, decide_eq_true_eq] at hb
    obtain ⟨rfl, hk⟩ := hb
    have := ho k.toNat (by omega)
    exact ih _ _ c (by omega) (by omega) (by omega) h
theorem szOk_snoc {out : List Nat} (ho : szOk out) {c : Nat} (h : 1 ≤ c ∧ c ≤ out.length + 1) : szOk (out ++ [c]) := by
  intro i hi
  by_cases e : i < out.length
  · have h1 := ho i e
    rw [List.getD_eq_getElem?_getD, List.getElem?_append_left e, ← List.getD_eq_getElem?_getD]
    exact h1
  · have : i = out.length := by simp at hi; omega
    subst this
    simpa using h
theorem kidsS_mem {out : List Nat} (ho : szOk out) : ∀ (l : List Int) (last : Int) (size : Nat) (c : Nat), last < out.length → kidsS out l last size = some c → ∀ k ∈ l, 0 ≤ k ∧ k ≤ last := by
  intro l
  induction l with
  | nil => intro last size c _ _ k hk; simp at hk
  | cons k r ih =>
    intro last size c h1 h k' hk'
    simp only [kidsS] at h
    split at h
    case h_2 => simp at h
    rename_i hb
    simp only [Bool.and_eq_true, beq_iff_eq, decide_eq_true_eq] at hb
    obtain ⟨rfl, hk⟩ := hb
    have := ho k.toNat (by omega)
    rcases List.mem_cons.1 hk' with rfl | hk'
    · exact ⟨hk, Int.le_refl _⟩
    · have := ih _ _ c (by omega) h k' hk'
      omega
theorem sizesS_inv : ∀ (r : List Nd) (out l : List Nat), szOk out → sizesS r out = some l → l.length = out.length + r.length ∧ szOk l ∧ ∀ j, j < r.length → ∀ k ∈ (r.getD j default).kids, 0 ≤ k ∧ k < (out.length + j : Nat) := by
  intro r
  induction r with
  | nil => intro out l ho h; simp only [sizesS, Option.some.injEq] at h; subst h; exact ⟨rfl, ho, fun j hj => by simp at hj⟩
  | cons n r ih =>
    intro out l ho h
    simp only [sizesS] at h
    split at h
    case h_2 => simp at h
    rename_i c hc
    have hinv := kidsS_inv ho _ _ _ c (by omega) (by omega) (by omega) hc
    have hm := kidsS_mem ho _ _ _ c (by omega) hc
    obtain ⟨h1, h2, h3⟩ := ih _ _ (szOk_snoc ho hinv) h
    refine ⟨by rw [h1]; simp; omega, h2, fun j hj k hk => ?_⟩
    cases j with
    | zero =>
      have := hm k (by simpa using hk)
      omega
    | succ j =>
      have := h3 j (by simpa using hj) k (by simpa using hk)
      simp at this
      omega
def deepS (ns : List Nd) : Nat → Int → Nat
  | 0, _ => 0
  | n + 1, p => (ns.getD p.toNat default).kids.foldl (fun d k => max d (deepS ns n k)) 0 + 1
theorem deepS_le (ns : List Nd) (n : Nat) (p : Int) : deepS ns n p ≤ n := by
  induction n generalizing p with
  | zero => exact Nat.le_refl _
  | succ n ih =>
    have : ∀ (l : List Int) (d : Nat), d ≤ n → l.foldl (fun d k => max d (deepS ns n k)) d ≤ n := by
      intro l
      induction l with
      | nil => intro d h; exact h
      | cons k l ihl => intro d h; exact ihl _ (by have := ih k; exact Nat.max_le.2 ⟨h, this⟩)
    have := this (ns.getD p.toNat default).kids 0 (Nat.zero_le _)
    simp only [deepS]; omega
def depthS (ns : List Nd) (root : Int) : Nat := match soundS ns root with
  | true => deepS ns ns.length root
  | false => 0
theorem soundS_ok {ns : List Nd} {root : Int} (h : soundS ns root = true) : 0 < ns.length ∧ ns.length ≤ 4000 ∧ root = (ns.length : Int) - 1 ∧ ∀ j, j < ns.length → ∀ k ∈ (ns.getD j default).kids, 0 ≤ k ∧ k < (j : Int) := by
  simp only [soundS, Bool.and_eq_true, Bool.not_eq_true', Bool.or_eq_false_iff, beq_eq_false_iff_ne, decide_eq_false_iff_not, bne_eq_false_iff_eq] at h
  obtain ⟨⟨⟨h1, h2⟩, h3⟩, h4⟩ := h
  split at h4
  case h_2 => simp at h4
  rename_i l hl
  obtain ⟨_, _, h5⟩ := sizesS_inv ns [] l (fun i hi => by simp at hi) hl
  exact ⟨by omega, by omega, h3, fun j hj k hk => by have := h5 j hj k hk; simp at this; exact this⟩
end Go.Ru

namespace Go.Ru
open Go
def digitsT : Bs := [48, 49, 50, 51, 52, 53, 54, 55, 56, 57]
def partsT : Bs := [97, 98, 99, 100, 101, 102, 103, 104, 105, 106, 107, 108, 109, 110, 111, 112, 113, 114, 115, 116, 117, 118, 119, 120, 121, 122, 65, 66, 67, 68, 69, 70, 71, 72, 73, 74, 75, 76, 77, 78, 79, 80, 81, 82, 83, 84, 85, 86, 87, 88, 89, 90, 95, 48, 49, 50, 51, 52, 53, 54, 55, 56, 57]
def blanksT : Bs := [32, 9, 10]
def keptT : Bs := [32, 118, 97, 114, 32, 112, 114, 111, 99, 32, 105, 110, 116, 32, 98, 111, 111, 108, 32, 97, 114, 114, 32, 102, 117, 110, 32, 105, 110, 32, 111, 117, 116, 32, 105, 102, 32, 101, 108, 115, 101, 32, 119, 104, 105, 108, 101, 32, 99, 97, 108, 108, 32, 114, 101, 116, 117, 114, 110, 32, 116, 104, 114, 111, 119, 32, 116, 114, 121, 32, 99, 97, 116, 99, 104, 32, 110, 101, 119, 32, 108, 101, 110, 32, 116, 114, 117, 101, 32, 102, 97, 108, 115, 101, 32]
def pairsT : Bs := [32, 61, 61, 32, 33, 61, 32, 60, 61, 32, 62, 61, 32, 38, 38, 32, 124, 124, 32]
def singleT : Bs := [40, 41, 123, 125, 91, 93, 44, 59, 61, 60, 62, 43, 45, 42, 47, 37, 33, 38]
def inB (l : Bs) (c : UInt8) : Bool := decide (Lib.indexByte l c ≥ 0)
def runS (l : Bs) (r : Bs) : Nat := (r.takeWhile (inB l)).length
def keptP (l : Bs) : Bool := !(l == []) && (decide (Lib.indexByte l 32 < 0) && Lib.contains keptT ([32] ++ l ++ [32]))
def identP (l : Bs) : Bool := !(l == []) && (decide (l.length ≤ 20) && (l.all (inB partsT) && (decide (Lib.indexByte digitsT (l.getD 0 0) < 0) && !keptP l)))
def numP (l : Bs) : Option Int := match Lib.atoiAll l with
  | .ok v => if Lib.itoa v = l then some v else none
  | _ => none
def wordP (l : Bs) : Option (TK × Int) := match keptP l with
  | true => some (.word, 0)
  | false => match identP l with
    | true => some (.name, 0)
    | false => match numP l with
      | some v => some (.number, v)
      | none => none
def pairP (l : Bs) : Bool := decide (l.length > 1) && (!(l.getD 0 0 == 32) && (!(l.getD 1 0 == 32) && Lib.contains pairsT ([32] ++ l.take 2 ++ [32])))
def signP (l : Bs) : Nat := if pairP l then 2 else if inB singleT (l.getD 0 0) then 1 else 0
inductive CR where
  | ok (l : List Tok)
  | bad (at_ : Nat)
def CR.cons (t : Tok) : CR → CR
  | .ok l => .ok (t :: l)
  | .bad a => .bad a
def cutS : Nat → Bs → Nat → CR
  | 0, _, _ => .ok []
  | n + 1, r, i => match r with
    | [] => .ok []
    | c :: r' => if 0 < runS blanksT r then cutS n (r.drop (runS blanksT r)) (i + runS blanksT r)
      else if c = 35 then cutS n (r.dropWhile (fun c => !(c == 10))) (i + (r.takeWhile (fun c => !(c == 10))).length)
      else if 0 < runS partsT r then match wordP (r.take (runS partsT r)) with
        | none => .bad i
        | some (k, v) => (cutS n (r.drop (runS partsT r)) (i + runS partsT r)).cons ⟨k, v, i, r.take (runS partsT r)⟩
      else match signP r with
        | 0 => .bad i
        | m + 1 => (cutS n (r.drop (m + 1)) (i + (m + 1))).cons ⟨.sign, 0, i, r.take (m + 1)⟩
def cutT (s : Bs) : CR := cutS s.length s 0
end Go.Ru

namespace Go.Ru
open Go
def signsT : Bs := [32, 43, 32, 45, 32, 42, 32, 47, 32, 37, 32, 61, 61, 32, 33, 61, 32, 60, 32, 60, 61, 32, 62, 32, 62, 61, 32, 38, 38, 32, 124, 124, 32]
def signedP (l : Bs) : Bool := !(l == []) && (decide (Lib.indexByte l 32 < 0) && Lib.contains signsT ([32] ++ l ++ [32]))
def textS (k : Int) (l : Bs) : Bool :=
  if k = 1 ∨ k = 6 ∨ k = 10 ∨ k = 11 ∨ k = 12 ∨ k = 14 ∨ k = 15 ∨ k = 20 ∨ k = 21 then l == []
  else if k = 13 then l == [] || identP l
  else if k = 26 then l == [45] || l == [33]
  else if k = 27 then signedP l
  else identP l
def numberS (k n : Int) : Bool :=
  if k = 2 ∨ k = 4 ∨ k = 5 then decide (n ≥ 1) && decide (n ≤ 4)
  else if k = 3 then decide (n ≥ 0) && decide (n ≤ 4)
  else if k = 20 then decide (n ≥ 0)
  else if k = 21 then n == 0 || n == 1
  else n == 0
def stB (k : Int) : Bool := decide (k ≥ 7) && decide (k ≤ 17)
def exB (k : Int) : Bool := decide (k ≥ 20) && decide (k ≤ 27)
def kindsS (ns : List Nd) (n : Nd) : List Int := n.kids.map fun q => (ns.getD q.toNat default).k
def cntS (p : Int → Bool) : Nat → List Int → Nat
  | 0, _ => 0
  | _ + 1, [] => 0
  | m + 1, a :: l => match p a with
    | true => cntS p m l + 1
    | false => 0
theorem cnt_t {p : Int → Bool} {m : Nat} {a : Int} {l : List Int} (h : p a = true) : cntS p (m + 1) (a :: l) = cntS p m l + 1 := by simp [cntS, h]
theorem cnt_f {p : Int → Bool} {m : Nat} {a : Int} {l : List Int} (h : p a = false) : cntS p (m + 1) (a :: l) = 0 := by simp [cntS, h]
def kidsOkS (k : Int) (l : List Int) : Bool :=
  let is (c : Int) : Int → Bool := fun k => k == c
  let a (p : Int → Bool) (m : Nat) (i : Nat) : Nat := cntS p m (l.drop i)
  let e (i : Nat) : Bool := ((i : Int) == (l.length : Int))
  if k = 1 then let i := a (is 2) 4000 0; let i := i + a (is 3) 4000 i; e i
  else if k = 3 then let i := a (is 4) 4000 0; let i := i + a (is 5) 4000 i; let c := a (is 6) 1 i; c == 1 && e (i + c)
  else if k = 6 then e (a stB 4000 0)
  else if k = 7 ∨ k = 17 ∨ k = 15 ∨ k = 23 ∨ k = 26 then let c := a exB 1 0; c == 1 && e c
  else if k = 8 ∨ k = 27 then let c := a exB 2 0; c == 2 && e c
  else if k = 9 then let c := a (is 18) 1 0; c == 1 && e c
  else if k = 10 then let c := a (is 18) 1 0; c == 1 && (let d := a exB 1 c; d == 1 && e (c + d))
  else if k = 11 then let c := a exB 1 0; c == 1 && (let d := a (is 6) 2 c; d == 2 && e (c + d))
  else if k = 12 then let c := a exB 1 0; c == 1 && (let d := a (is 6) 1 c; d == 1 && e (c + d))
  else if k = 13 then let c := a (is 19) 1 0; let d := a exB 4000 c; c == 1 && e (c + d)
  else if k = 14 then e (a exB 1 0)
  else if k = 16 then let c := a (is 6) 2 0; c == 2 && e c
  else e 0
def nodeOkS (ns : List Nd) (n : Nd) : Bool := decide (1 ≤ n.k) && decide (n.k ≤ 27) && textS n.k n.tx && numberS n.k n.n && kidsOkS n.k (kindsS ns n)
def rightS (ns : List Nd) (root : Int) : Bool := soundS ns root && decide (depthS ns root ≤ 40) && ((ns.getD root.toNat default).k == 1) && ns.all (nodeOkS ns)
theorem kidsS_many {out : List Nat} (ho : szOk out) : ∀ (l : List Int) (last : Int) (size c : Nat), last < out.length → kidsS out l last size = some c → size + l.length ≤ c := by
  intro l
  induction l with
  | nil => intro last size c _ h; simp only [kidsS, Option.some.injEq] at h; simp; omega
  | cons k r ih =>
    intro last size c h1 h
    simp only [kidsS] at h
    split at h
    case h_2 => simp at h
    rename_i hb
    simp only [Bool.and_eq_true, beq_iff_eq, decide_eq_true_eq] at hb
    obtain ⟨rfl, hk⟩ := hb
    have := ho k.toNat (by omega)
    have := ih _ _ c (by omega) h
    simp only [List.length_cons]; omega
theorem sizesS_many : ∀ (r : List Nd) (out l : List Nat), szOk out → sizesS r out = some l → ∀ j, j < r.length → (r.getD j default).kids.length ≤ out.length + j := by
  intro r
  induction r with
  | nil => intro out l ho h j hj; simp at hj
  | cons n r ih =>
    intro out l ho h j hj
    simp only [sizesS] at h
    split at h
    case h_2 => simp at h
    rename_i c hc
    have hinv := kidsS_inv ho _ _ _ c (by omega) (by omega) (by omega) hc
    have hm := kidsS_many ho _ _ _ c (by omega) hc
    cases j with
    | zero => simp at hm ⊢; omega
    | succ j =>
      have := ih _ _ (szOk_snoc ho hinv) h j (by simpa using hj)
      simp at this ⊢; omega
theorem soundS_many {ns : List Nd} {root : Int} (h : soundS ns root = true) : ∀ j, j < ns.length → (ns.getD j default).kids.length ≤ j := by
  simp only [soundS, Bool.and_eq_true] at h
  obtain ⟨_, h4⟩ := h
  split at h4
  case h_2 => simp at h4
  rename_i l hl
  intro j hj
  have := sizesS_many ns [] l (fun i hi => by simp at hi) hl j hj
  simpa using this
end Go.Ru

namespace Go.Ru
def nd (ns : List Nd) (i : Nat) : Nd := ns.getD i default
theorem nd_zero (n : Nd) (r : List Nd) : nd (n :: r) 0 = n := rfl
theorem nd_succ (n : Nd) (r : List Nd) (j : Nat) : nd (n :: r) (j + 1) = nd r j := rfl
def setF (f : Nat → Int) (k : Nat) (v : Int) (j : Nat) : Int := if j = k then v else f j
def parKids (i : Nat) : List Int → (Nat → Int) → Nat → Int
  | [], f => f
  | k :: r, f => parKids i r (setF f k.toNat (i : Int))
def parNs : Nat → List Nd → (Nat → Int) → Nat → Int
  | _, [], f => f
  | i, n :: r, f => parNs (i + 1) r (parKids i n.kids f)
def parF (ns : List Nd) (root : Int) : Nat → Int := parNs 0 ns (setF (fun _ => 0) root.toNat (-1))
theorem parKids_no {i : Nat} {l : List Int} {f : Nat → Int} {x : Nat} (h : ∀ k ∈ l, k.toNat ≠ x) : parKids i l f x = f x := by
  induction l generalizing f with
  | nil => rfl
  | cons k r ih =>
    have h1 : k.toNat ≠ x := h k (by simp)
    simp only [parKids]
    rw [ih (fun k hk => h k (by simp [hk]))]
    simp only [setF]
    rw [if_neg (fun e => h1 e.symm)]
theorem parKids_yes {i : Nat} {l : List Int} {f : Nat → Int} {x : Nat} (h : ∃ k ∈ l, k.toNat = x) : parKids i l f x = (i : Int) := by
  induction l generalizing f with
  | nil => obtain ⟨k, hk, _⟩ := h; simp at hk
  | cons k r ih =>
    simp only [parKids]
    by_cases h2 : ∃ k ∈ r, k.toNat = x
    · exact ih h2
    · rw [parKids_no (fun k hk e => h2 ⟨k, hk, e⟩)]
      obtain ⟨k', hk', e⟩ := h
      rcases List.mem_cons.1 hk' with rfl | hk'
      · simp [setF, e]
      · exact absurd ⟨k', hk', e⟩ h2
theorem parNs_no {i : Nat} {l : List Nd} {f : Nat → Int} {x : Nat} (h : ∀ n ∈ l, ∀ k ∈ n.kids, k.toNat ≠ x) : parNs i l f x = f x := by
  induction l generalizing f i with
  | nil => rfl
  | cons n r ih =>
    simp only [parNs]
    rw [ih (fun n hn => h n (by simp [hn])), parKids_no (h n (by simp))]
theorem parNs_yes {i : Nat} {l : List Nd} {f : Nat → Int} {x j : Nat} (hj : j < l.length) (h : ∃ k ∈ (nd l j).kids, k.toNat = x)
    (hn : ∀ j', j < j' → j' < l.length → ∀ k ∈ (nd l j').kids, k.toNat ≠ x) : parNs i l f x = ((i + j : Nat) : Int) := by
  induction l generalizing f i j with
  | nil => simp at hj
  | cons n r ih =>
    simp only [parNs]
    cases j with
    | zero =>
      rw [parNs_no, parKids_yes (by simpa [nd_zero] using h)]
      · rfl
      · intro n' hn' k hk
        obtain ⟨q, hq, rfl⟩ := List.mem_iff_getElem.1 hn'
        refine hn (q + 1) (by omega) (by simpa using hq) k ?_
        simpa [nd, hq] using hk
    | succ j =>
      rw [ih (j := j) (by simpa using hj) (by simpa [nd_succ] using h) (fun j' h1 h2 => by
        have := hn (j' + 1) (by omega) (by simpa using h2)
        simpa [nd_succ] using this)]
      congr 1; omega
def szOf (ns : List Nd) : List Nat := match sizesS ns [] with
  | some l => l
  | none => []
theorem sizesS_each : ∀ (r : List Nd) (out l : List Nat), sizesS r out = some l → l.take out.length = out ∧ ∀ j, j < r.length → kidsS (l.take (out.length + j)) (nd r j).kids.reverse (((out.length + j : Nat) : Int) - 1) 1 = some (l.getD (out.length + j) 0) := by
  intro r
  induction r with
  | nil => intro out l h; simp only [sizesS, Option.some.injEq] at h; subst h; exact ⟨by simp, fun j hj => by simp at hj⟩
  | cons n r ih =>
    intro out l h
    simp only [sizesS] at h
    split at h
    case h_2 => simp at h
    rename_i c hc
    obtain ⟨h1, h2⟩ := ih _ _ h
    simp only [List.length_append, List.length_cons, List.length_nil, Nat.zero_add] at h1 h2
    have h3 : l.take out.length = out := by
      have : (l.take (out.length + 1)).take out.length = (out ++ [c]).take out.length := by rw [h1]
      rw [List.take_take, Nat.min_eq_left (by omega)] at this
      simpa using this
    refine ⟨h3, fun j hj => ?_⟩
    cases j with
    | zero =>
      have h4 : l.getD out.length 0 = c := by
        have h5 : (l.take (out.length + 1))[out.length]? = some c := by rw [h1]; simp
        rw [List.getElem?_take] at h5
        simp only [Nat.lt_succ_self, if_true] at h5
        rw [List.getD_eq_getElem?_getD, h5]; rfl
      simp only [Nat.add_zero, nd_zero, h3, h4]
      exact hc
    | succ j =>
      have := h2 j (by simpa using hj)
      simp only [nd_succ] at this ⊢
      rw [show out.length + (j + 1) = out.length + 1 + j by omega]
      exact this
theorem kidsS_tile {out : List Nat} : ∀ (ks : List Int) (last : Int) (size c : Nat), kidsS out ks last size = some c →
    size ≤ c ∧ (∀ x : Int, last - (c - size : Nat) < x → x ≤ last → ∃ k ∈ ks, 0 ≤ k ∧ k - (out.getD k.toNat 0 : Nat) < x ∧ x ≤ k) ∧
    (∀ k ∈ ks, 0 ≤ k ∧ k ≤ last ∧ last - (c - size : Nat) ≤ k - (out.getD k.toNat 0 : Nat)) ∧
    (∀ k ∈ ks, ∀ k' ∈ ks, k < k' → k ≤ k' - (out.getD k'.toNat 0 : Nat)) := by
  intro ks
  induction ks with
  | nil =>
    intro last size c h
    simp only [kidsS, Option.some.injEq] at h
    subst h
    refine ⟨Nat.le_refl _, fun x h1 h2 => by simp at h1; omega, fun k hk => by simp at hk, fun k hk => by simp at hk⟩
  | cons q r ih =>
    intro last size c h
    simp only [kidsS] at h
    split at h
    case h_2 => simp at h
    rename_i hb
    simp only [Bool.and_eq_true, beq_iff_eq, decide_eq_true_eq] at hb
    obtain ⟨rfl, hq⟩ := hb
    obtain ⟨h1, h2, h3, h4⟩ := ih _ _ c h
    generalize hs : out.getD q.toNat 0 = s at *
    refine ⟨by omega, fun x hx1 hx2 => ?_, fun k hk => ?_, fun k hk k' hk' hlt => ?_⟩
    · by_cases hx : q - (s : Int) < x
      · exact ⟨q, by simp, hq, by rw [hs]; exact hx, hx2⟩
      · obtain ⟨k, hk, h5⟩ := h2 x (by omega) (by omega)
        exact ⟨k, by simp [hk], h5⟩
    · rcases List.mem_cons.1 hk with rfl | hk
      · rw [hs]; omega
      · have := h3 k hk
        omega
    · rcases List.mem_cons.1 hk' with rfl | m'
      · rcases List.mem_cons.1 hk with rfl | m
        · omega
        · have := h3 k m
          rw [hs]; omega
      · rcases List.mem_cons.1 hk with rfl | m
        · have := h3 k' m'
          omega
        · exact h4 k m k' m' hlt
def lowS (ns : List Nd) (j : Nat) : Int := (j : Int) - ((szOf ns).getD j 0 : Nat)
structure Std (ns : List Nd) (root : Int) : Prop where
  pos : 0 < ns.length
  len : ns.length ≤ 4000
  rt : root = (ns.length : Int) - 1
  low : lowS ns (ns.length - 1) = -1
  self : ∀ j, j < ns.length → -1 ≤ lowS ns j ∧ lowS ns j < j
  kid : ∀ j, j < ns.length → ∀ k ∈ (nd ns j).kids, 0 ≤ k ∧ k < (j : Int) ∧ lowS ns j ≤ lowS ns k.toNat
  tile : ∀ j, j < ns.length → ∀ x : Int, lowS ns j < x → x < j → ∃ k ∈ (nd ns j).kids, 0 ≤ k ∧ lowS ns k.toNat < x ∧ x ≤ k
  apart : ∀ j, j < ns.length → ∀ k ∈ (nd ns j).kids, ∀ k' ∈ (nd ns j).kids, k < k' → k ≤ lowS ns k'.toNat
  many : ∀ j, j < ns.length → (nd ns j).kids.length ≤ j
  none : ∀ j, j < ns.length → (nd ns j).kids = [] → lowS ns j = (j : Int) - 1
theorem std_of {ns : List Nd} {root : Int} (h : soundS ns root = true) : Std ns root := by
  obtain ⟨g1, g2, g3, g4⟩ := soundS_ok h
  have hm := soundS_many h
  simp only [soundS, Bool.and_eq_true] at h
  obtain ⟨_, h4⟩ := h
  split at h4
  case h_2 => simp at h4
  rename_i l hl
  obtain ⟨hlen, hok, _⟩ := sizesS_inv ns [] l (fun i hi => by simp at hi) hl
  obtain ⟨_, he⟩ := sizesS_each ns [] l hl
  simp only [List.length_nil, Nat.zero_add] at hlen he
  have hsz : szOf ns = l := by simp [szOf, hl]
  have hge : ∀ (j : Nat) (k : Int), 0 ≤ k → k < (j : Int) → (l.take j).getD k.toNat 0 = l.getD k.toNat 0 := fun j k h1 h2 => by
    rw [List.getD_eq_getElem?_getD, List.getElem?_take, if_pos (by omega), List.getD_eq_getElem?_getD]
  have hlow : ∀ j : Nat, lowS ns j = (j : Int) - (l.getD j 0 : Nat) := fun j => by simp [lowS, hsz]
  have hkd : ∀ j, j < ns.length → ∀ k ∈ (nd ns j).kids, 0 ≤ k ∧ k < (j : Int) := fun j hj k hk => g4 j hj k hk
  have ht : ∀ j, j < ns.length → _ := fun j hj => kidsS_tile _ _ _ _ (he j hj)
  refine ⟨g1, g2, g3, ?_, fun j hj => ?_, fun j hj k hk => ?_, fun j hj x h1 h2 => ?_, fun j hj k hk k' hk' hlt => ?_, hm, fun j hj h0 => ?_⟩
  · rw [hlow]
    have h5 := beq_iff_eq.1 h4
    rw [g3, show ((ns.length : Int) - 1).toNat = ns.length - 1 by omega] at h5
    rw [h5]; omega
  · have := hok j (by omega)
    rw [hlow]; omega
  · obtain ⟨h1, h2⟩ := hkd j hj k hk
    obtain ⟨t1, _, t3, _⟩ := ht j hj
    have := t3 k (by simpa using hk)
    rw [hge j k h1 h2] at this
    rw [hlow, hlow]
    refine ⟨h1, h2, ?_⟩
    have h6 : ((k.toNat : Nat) : Int) = k := by omega
    have := hok j (by omega)
    rw [h6]; omega
  · obtain ⟨t1, t2, _, _⟩ := ht j hj
    have h7 := hok j (by omega)
    obtain ⟨k, hk, h3, h5, h6⟩ := t2 x (by rw [hlow] at h1; omega) (by omega)
    have hk : k ∈ (nd ns j).kids := by simpa using hk
    obtain ⟨h8, h9⟩ := hkd j hj k hk
    rw [hge j k h8 h9] at h5
    refine ⟨k, hk, h3, ?_, h6⟩
    rw [hlow]; omega
  · obtain ⟨_, _, _, t4⟩ := ht j hj
    obtain ⟨h8, h9⟩ := hkd j hj k' hk'
    have := t4 k (by simpa using hk) k' (by simpa using hk') hlt
    rw [hge j k' h8 h9] at this
    rw [hlow]; omega
  · have := he j hj
    rw [h0] at this
    simp only [List.reverse_nil, kidsS, Option.some.injEq] at this
    rw [hlow, ← this]; omega
theorem Std.up {ns : List Nd} {root : Int} (h : Std ns root) : ∀ j, j < ns.length → ∀ x : Nat, lowS ns j < x → x < j → ∃ p, x < p ∧ p ≤ j ∧ (x : Int) ∈ (nd ns p).kids := by
  intro j
  induction j using Nat.strongRecOn with
  | _ j ih =>
    intro hj x h1 h2
    obtain ⟨k, hk, h3, h4, h5⟩ := h.tile j hj x h1 (by omega)
    obtain ⟨h6, h7, _⟩ := h.kid j hj k hk
    by_cases e : (x : Int) = k
    · exact ⟨j, h2, Nat.le_refl _, e ▸ hk⟩
    · obtain ⟨p, p1, p2, p3⟩ := ih k.toNat (by omega) (by omega) x h4 (by omega)
      exact ⟨p, p1, by omega, p3⟩
theorem Std.above {ns : List Nd} {root : Int} (h : Std ns root) (x : Nat) (hx : (x : Int) < root) : ∃ p, x < p ∧ p < ns.length ∧ (x : Int) ∈ (nd ns p).kids := by
  have h1 := h.rt
  have h2 := h.pos
  obtain ⟨p, h3, h4, h5⟩ := h.up (ns.length - 1) (by omega) x (by rw [h.low]; omega) (by omega)
  exact ⟨p, h3, by omega, h5⟩
theorem Std.nest {ns : List Nd} {root : Int} (h : Std ns root) : ∀ j, j < ns.length → ∀ x : Nat, lowS ns j < x → x ≤ j → lowS ns j ≤ lowS ns x := by
  intro j
  induction j using Nat.strongRecOn with
  | _ j ih =>
    intro hj x h1 h2
    by_cases e : x = j
    · subst e; exact Int.le_refl _
    · obtain ⟨k, hk, h3, h4, h5⟩ := h.tile j hj x h1 (by omega)
      obtain ⟨h6, h7, h8⟩ := h.kid j hj k hk
      have := ih k.toNat (by omega) (by omega) x h4 (by omega)
      omega
theorem Std.uniq {ns : List Nd} {root : Int} (h : Std ns root) {i j : Nat} (hi : i < ns.length) (hj : j < ns.length) {x : Int} (h1 : x ∈ (nd ns i).kids) (h2 : x ∈ (nd ns j).kids) : i = j := by
  have key : ∀ i j : Nat, i < ns.length → j < ns.length → x ∈ (nd ns i).kids → x ∈ (nd ns j).kids → ¬ i < j := by
    intro i j hi hj h1 h2 hlt
    obtain ⟨a1, a2, a3⟩ := h.kid i hi x h1
    obtain ⟨b1, b2, b3⟩ := h.kid j hj x h2
    have a4 := (h.self x.toNat (by omega)).2
    obtain ⟨k, hk, c1, c2, c3⟩ := h.tile j hj i (by omega) (by omega)
    obtain ⟨d1, d2, d3⟩ := h.kid j hj k hk
    have e1 := h.nest k.toNat (by omega) i c2 (by omega)
    have e2 := h.apart j hj x h2 k hk (by omega)
    omega
  have n1 := key i j hi hj h1 h2
  have n2 := key j i hj hi h2 h1
  omega
theorem Std.par_kid {ns : List Nd} {root : Int} (h : Std ns root) {i : Nat} (hi : i < ns.length) {k : Int} (hk : k ∈ (nd ns i).kids) : parF ns root k.toNat = (i : Int) := by
  unfold parF
  rw [parNs_yes (j := i) hi ⟨k, hk, rfl⟩, Nat.zero_add]
  intro j' h1 h2 k' hk' e
  obtain ⟨a1, a2, _⟩ := h.kid i hi k hk
  obtain ⟨b1, b2, _⟩ := h.kid j' h2 k' hk'
  have : k' = k := by omega
  subst this
  have := h.uniq hi h2 hk hk'
  omega
theorem Std.par_root {ns : List Nd} {root : Int} (h : Std ns root) : parF ns root root.toNat = -1 := by
  unfold parF
  rw [parNs_no]
  · simp [setF]
  · intro n hn k hk e
    obtain ⟨q, hq, rfl⟩ := List.mem_iff_getElem.1 hn
    have hk : k ∈ (nd ns q).kids := by simpa [nd, hq] using hk
    obtain ⟨a1, a2, _⟩ := h.kid q hq k hk
    have := h.rt
    omega
theorem Std.par_up {ns : List Nd} {root : Int} (h : Std ns root) (x : Nat) (hx : (x : Int) < root) : ∃ p, x < p ∧ p < ns.length ∧ (x : Int) ∈ (nd ns p).kids ∧ parF ns root x = (p : Int) := by
  obtain ⟨p, h1, h2, h3⟩ := h.above x hx
  exact ⟨p, h1, h2, h3, by have := h.par_kid h2 h3; simpa using this⟩
def ownF (ns : List Nd) (root : Int) : Nat → Nat → Int
  | 0, _ => -1
  | m + 1, i => if (nd ns i).k = 3 then (i : Int) else if (i : Int) = root then -1 else ownF ns root m (parF ns root i).toNat
def own (ns : List Nd) (root : Int) (i : Nat) : Int := ownF ns root (ns.length - i) i
theorem ownF_more {ns : List Nd} {root : Int} (h : Std ns root) : ∀ (m m' i : Nat), i < ns.length → ns.length - i ≤ m → ns.length - i ≤ m' → ownF ns root m i = ownF ns root m' i := by
  intro m
  induction m with
  | zero => intro m' i hi h1; omega
  | succ m ih =>
    intro m' i hi h1 h2
    cases m' with
    | zero => omega
    | succ m' =>
      simp only [ownF]
      split
      · rfl
      split
      · rfl
      rename_i _ hr
      obtain ⟨p, p1, p2, _, p4⟩ := h.par_up i (by have := h.rt; omega)
      rw [p4]
      exact ih _ _ (by omega) (by omega) (by omega)
theorem own_eq {ns : List Nd} {root : Int} (h : Std ns root) {i : Nat} (hi : i < ns.length) :
    own ns root i = if (nd ns i).k = 3 then (i : Int) else if (i : Int) = root then -1 else own ns root (parF ns root i).toNat := by
  unfold own
  obtain ⟨m, hm⟩ : ∃ m, ns.length - i = m + 1 := ⟨ns.length - i - 1, by omega⟩
  rw [hm]
  simp only [ownF]
  split
  · rfl
  split
  · rfl
  rename_i _ hr
  obtain ⟨p, p1, p2, _, p4⟩ := h.par_up i (by have := h.rt; omega)
  rw [p4]
  exact ownF_more h _ _ _ (by omega) (by omega) (by omega)
theorem own_range {ns : List Nd} {root : Int} (h : Std ns root) : ∀ {i : Nat}, i < ns.length → own ns root i = -1 ∨ ((i : Int) ≤ own ns root i ∧ own ns root i < ns.length ∧ (nd ns (own ns root i).toNat).k = 3) := by
  have key : ∀ m i, i < ns.length → ns.length - i ≤ m → own ns root i = -1 ∨ ((i : Int) ≤ own ns root i ∧ own ns root i < ns.length ∧ (nd ns (own ns root i).toNat).k = 3) := by
    intro m
    induction m with
    | zero => intro i hi h1; omega
    | succ m ih =>
      intro i hi h1
      rw [own_eq h hi]
      split
      · rename_i h3; exact .inr ⟨Int.le_refl _, by omega, by simpa using h3⟩
      split
      · exact .inl rfl
      rename_i _ hr
      obtain ⟨p, p1, p2, _, p4⟩ := h.par_up i (by have := h.rt; omega)
      rw [p4]
      rcases ih p p2 (by omega) with e | ⟨e1, e2, e3⟩
      · exact .inl (by simpa using e)
      · exact .inr ⟨by simp only [Int.toNat_natCast]; omega, by simpa using e2, by simpa using e3⟩
  exact fun {i} hi => key _ i hi (Nat.le_refl _)
theorem own_kid {ns : List Nd} {root : Int} (h : Std ns root) {i : Nat} (hi : i < ns.length) {k : Int} (hk : k ∈ (nd ns i).kids) (h3 : (nd ns k.toNat).k ≠ 3) : own ns root k.toNat = own ns root i := by
  obtain ⟨a1, a2, _⟩ := h.kid i hi k hk
  have := h.rt
  rw [own_eq h (by omega : k.toNat < ns.length), if_neg h3, if_neg (by omega), h.par_kid hi hk]
  rfl
end Go.Ru

namespace Go.Ru
def kidB (beg : Int → Int) : List Int → Int → Int
  | [], k => k
  | q :: r, k => match q != k - 1 || decide (q < 0) with
    | true => -1
    | false => match decide (beg q < 0) with
      | true => -1
      | false => kidB beg r (beg q)
def begF (ns : List Nd) : Nat → Int → Int
  | 0, _ => -1
  | m + 1, p => kidB (begF ns m) (nd ns p.toNat).kids.reverse p
def aheadS (ns : List Nd) : Bool := (List.range ns.length).all fun i => (nd ns i).kids.all fun q => !(decide (q < 0) || decide (q ≥ (i : Int)))
def sound4 (ns : List Nd) (root : Int) : Bool :=
  !(decide ((ns.length : Int) < 1) || (decide ((ns.length : Int) > 4000) || root != (ns.length : Int) - 1)) && (aheadS ns && begF ns ns.length ((ns.length : Int) - 1) == 0)
theorem begF_more {ns : List Nd} (hk : ∀ j, j < ns.length → ∀ k ∈ (nd ns j).kids, 0 ≤ k ∧ k < (j : Int)) : ∀ (m m' : Nat) (p : Nat), p < ns.length → p < m → p < m' → begF ns m p = begF ns m' p := by
  intro m
  induction m with
  | zero => intro m' p _ h; omega
  | succ m ih =>
    intro m' p hp h1 h2
    cases m' with
    | zero => omega
    | succ m' =>
      simp only [begF, Int.toNat_natCast]
      have hk := hk p hp
      have key : ∀ (ks : List Int) (k : Int), (∀ q ∈ ks, 0 ≤ q ∧ q < (p : Int)) → kidB (begF ns m) ks k = kidB (begF ns m') ks k := by
        intro ks
        induction ks with
        | nil => intro k _; rfl
        | cons q r ihk =>
          intro k hks
          have hq := hks q (List.mem_cons_self ..)
          obtain ⟨j, rfl⟩ : ∃ j : Nat, q = (j : Int) := ⟨q.toNat, by omega⟩
          have e := ih m' j (by omega) (by omega) (by omega)
          simp only [kidB, e]
          split
          · rfl
          split
          · rfl
          exact ihk _ fun q hq => hks q (List.mem_cons_of_mem _ hq)
      exact key _ _ fun q hq => hk q (List.mem_reverse.1 hq)
theorem begF_low {ns : List Nd} {root : Int} (hs : soundS ns root = true) : ∀ (m p : Nat), p < ns.length → p < m → begF ns m p = lowS ns p + 1 := by
  have st := std_of hs
  simp only [soundS, Bool.and_eq_true] at hs
  obtain ⟨_, h4⟩ := hs
  split at h4
  case h_2 => simp at h4
  rename_i l hl
  obtain ⟨hlen, hok, _⟩ := sizesS_inv ns [] l (fun i hi => by simp at hi) hl
  obtain ⟨_, he⟩ := sizesS_each ns [] l hl
  simp only [List.length_nil, Nat.zero_add] at hlen he
  have hsz : szOf ns = l := by simp [szOf, hl]
  have hlow : ∀ j : Nat, lowS ns j = (j : Int) - (l.getD j 0 : Nat) := fun j => by simp [lowS, hsz]
  intro m
  induction m with
  | zero => intro p _ h; omega
  | succ m ih =>
    intro p hp hpm
    simp only [begF, Int.toNat_natCast]
    have key : ∀ (ks : List Int) (last : Int) (size c : Nat), (∀ q ∈ ks, 0 ≤ q ∧ q < (p : Int)) → kidsS (l.take p) ks last size = some c → kidB (begF ns m) ks (last + 1) = last + 1 - ((c : Int) - size) := by
      intro ks
      induction ks with
      | nil =>
        intro last size c _ h
        simp only [kidsS, Option.some.injEq] at h
        simp only [kidB]; omega
      | cons q r ihk =>
        intro last size c hks h
        have hq := hks q (List.mem_cons_self ..)
        simp only [kidsS] at h
        split at h
        case h_2 => simp at h
        rename_i hb
        simp only [Bool.and_eq_true, beq_iff_eq, decide_eq_true_eq] at hb
        obtain ⟨rfl, hq0⟩ := hb
        obtain ⟨j, rfl⟩ : ∃ j : Nat, q = (j : Int) := ⟨q.toNat, by omega⟩
        have hg : (l.take p).getD ((j : Int)).toNat 0 = l.getD j 0 := by
          rw [Int.toNat_natCast, List.getD_eq_getElem?_getD, List.getElem?_take, if_pos (by omega), List.getD_eq_getElem?_getD]
        rw [hg] at h
        have hj := hok j (by omega)
        have e := ih j (by omega) (by omega)
        rw [hlow] at e
        have h3 := ihk _ _ c (fun q hq => hks q (List.mem_cons_of_mem _ hq)) h
        simp only [kidB, e]
        rw [show ((j : Int) != (j : Int) + 1 - 1 || decide ((j : Int) < 0)) = false by simp]
        simp only
        rw [show decide ((j : Int) - (l.getD j 0 : Nat) + 1 < 0) = false from decide_eq_false (by omega)]
        simp only
        rw [h3]; omega
    have h5 := key _ _ _ _ (fun q hq => by have := st.kid p hp q (List.mem_reverse.1 hq); exact ⟨this.1, this.2.1⟩) (he p hp)
    rw [show ((p : Int) - 1 + 1) = (p : Int) by omega] at h5
    rw [h5, hlow]; omega
theorem sound4_of {ns : List Nd} {root : Int} (hs : soundS ns root = true) : sound4 ns root = true := by
  have st := std_of hs
  have h1 := st.pos
  have h2 := st.len
  have h3 := st.rt
  have hb := begF_low hs ns.length (ns.length - 1) (by omega) (by omega)
  rw [st.low, show (((ns.length - 1 : Nat) : Int)) = (ns.length : Int) - 1 by omega] at hb
  simp only [sound4, hb, h3, aheadS, Bool.and_eq_true, Bool.not_eq_true', Bool.or_eq_false_iff, decide_eq_false_iff_not, bne_self_eq_false, List.all_eq_true, List.mem_range, beq_iff_eq]
  refine ⟨⟨by omega, by omega, trivial⟩, fun i hi q hq => ?_, by omega⟩
  have := st.kid i hi q hq
  omega
theorem begF_in {ns : List Nd} (hk : ∀ j, j < ns.length → ∀ k ∈ (nd ns j).kids, 0 ≤ k ∧ k < (j : Int)) : ∀ (p : Nat), p < ns.length → 0 ≤ begF ns ns.length p → begF ns ns.length p ≤ p ∧ ∀ x : Nat, begF ns ns.length p ≤ x → x ≤ p → 0 ≤ begF ns ns.length x := by
  intro p
  induction p using Nat.strongRecOn with
  | _ p ih =>
    intro hp hb
    have hkp := hk p hp
    have hun : begF ns ns.length p = kidB (begF ns ns.length) (nd ns p).kids.reverse p := by
      rw [begF_more hk ns.length (ns.length + 1) p hp hp (by omega)]
      simp only [begF, Int.toNat_natCast]
    have key : ∀ (ks : List Int) (k : Int), k ≤ p → (∀ q ∈ ks, 0 ≤ q ∧ q < (p : Int)) → 0 ≤ kidB (begF ns ns.length) ks k → kidB (begF ns ns.length) ks k ≤ k ∧ ∀ x : Nat, kidB (begF ns ns.length) ks k ≤ x → (x : Int) < k → 0 ≤ begF ns ns.length x := by
      intro ks
      induction ks with
      | nil => intro k _ _ _; simp only [kidB]; exact ⟨Int.le_refl _, fun x h1 h2 => by omega⟩
      | cons q r ihk =>
        intro k hkp hks h
        have hq := hks q (List.mem_cons_self ..)
        obtain ⟨j, rfl⟩ : ∃ j : Nat, q = (j : Int) := ⟨q.toNat, by omega⟩
        simp only [kidB] at h ⊢
        cases hc : ((j : Int) != k - 1 || decide ((j : Int) < 0)) with
        | true => rw [hc] at h; simp at h
        | false =>
          rw [hc] at h
          simp only [Bool.or_eq_false_iff, bne_eq_false_iff_eq, decide_eq_false_iff_not] at hc
          simp only at h ⊢
          cases hd : decide (begF ns ns.length (j : Int) < 0) with
          | true => rw [hd] at h; simp at h
          | false =>
            rw [hd] at h
            have hd := of_decide_eq_false hd
            simp only at h ⊢
            obtain ⟨i1, i2⟩ := ih j (by omega) (by omega) (by omega)
            obtain ⟨k1, k2⟩ := ihk _ (by omega) (fun q hq => hks q (List.mem_cons_of_mem _ hq)) h
            refine ⟨by omega, fun x h1 h2 => ?_⟩
            by_cases e : (x : Int) < begF ns ns.length (j : Int)
            · exact k2 x h1 e
            · exact i2 x (by omega) (by omega)
    rw [hun] at hb
    obtain ⟨h1, h2⟩ := key _ _ (Int.le_refl _) (fun q hq => hkp q (List.mem_reverse.1 hq)) hb
    rw [← hun] at h1 h2
    refine ⟨h1, fun x hx1 hx2 => ?_⟩
    by_cases e : x = p
    · subst e; rw [hun]; exact hb
    · exact h2 x hx1 (by omega)
def szB (ns : List Nd) (i : Nat) : Nat := ((i : Int) + 1 - begF ns ns.length i).toNat
theorem soundS_of4 {ns : List Nd} {root : Int} (h : sound4 ns root = true) : soundS ns root = true := by
  simp only [sound4, aheadS, Bool.and_eq_true, Bool.not_eq_true', Bool.or_eq_false_iff, decide_eq_false_iff_not, bne_eq_false_iff_eq, List.all_eq_true, List.mem_range, beq_iff_eq] at h
  obtain ⟨⟨h1, h2, h3⟩, h4, h5⟩ := h
  have hk : ∀ j, j < ns.length → ∀ k ∈ (nd ns j).kids, 0 ≤ k ∧ k < (j : Int) := fun j hj k hkk => by have := h4 j hj k hkk; omega
  have hpos : 0 < ns.length := by omega
  have hroot : begF ns ns.length ((ns.length - 1 : Nat) : Int) = 0 := by rw [show (((ns.length - 1 : Nat) : Int)) = (ns.length : Int) - 1 by omega]; exact h5
  obtain ⟨_, hall⟩ := begF_in hk (ns.length - 1) (by omega) (by omega)
  have hall : ∀ x : Nat, x < ns.length → 0 ≤ begF ns ns.length x := fun x hx => hall x (by omega) (by omega)
  have hle : ∀ x : Nat, x < ns.length → begF ns ns.length x ≤ x := fun x hx => (begF_in hk x hx (hall x hx)).1
  have hrow : ∀ (r : List Nd) (i : Nat), ns.drop i = r → i ≤ ns.length → sizesS r ((List.range i).map (szB ns)) = some ((List.range ns.length).map (szB ns)) := by
    intro r
    induction r with
    | nil =>
      intro i hd hi
      have : i = ns.length := by
        have := congrArg List.length hd
        simp at this; omega
      subst this; rfl
    | cons n r ihr =>
      intro i hd hi
      have hi2 : i < ns.length := by
        have := congrArg List.length hd
        simp at this; omega
      have hn : n = nd ns i := by
        have := List.drop_eq_getElem_cons hi2
        rw [hd] at this
        injection this with this _
        rw [this]; simp [nd, hi2]
      subst hn
      have hd2 : ns.drop (i + 1) = r := by
        have := List.drop_eq_getElem_cons hi2
        rw [hd] at this
        injection this with _ this
        exact this.symm
      have hun : begF ns ns.length i = kidB (begF ns ns.length) (nd ns i).kids.reverse i := by
        rw [begF_more hk ns.length (ns.length + 1) i hi2 hi2 (by omega)]
        simp only [begF, Int.toNat_natCast]
      have key : ∀ (ks : List Int) (k : Int) (size : Nat), (∀ q ∈ ks, 0 ≤ q ∧ q < (i : Int)) → 0 ≤ kidB (begF ns ns.length) ks k →
          kidsS ((List.range i).map (szB ns)) ks (k - 1) size = some (size + (k - kidB (begF ns ns.length) ks k).toNat) ∧ kidB (begF ns ns.length) ks k ≤ k := by
        intro ks
        induction ks with
        | nil => intro k size _ _; simp [kidsS, kidB]
        | cons q r ihk =>
          intro k size hks h
          have hq := hks q (List.mem_cons_self ..)
          obtain ⟨j, rfl⟩ : ∃ j : Nat, q = (j : Int) := ⟨q.toNat, by omega⟩
          simp only [kidB, kidsS] at h ⊢
          cases hc : ((j : Int) != k - 1 || decide ((j : Int) < 0)) with
          | true => rw [hc] at h; simp at h
          | false =>
            rw [hc] at h
            simp only [Bool.or_eq_false_iff, bne_eq_false_iff_eq, decide_eq_false_iff_not] at hc
            simp only at h ⊢
            cases hd : decide (begF ns ns.length (j : Int) < 0) with
            | true => rw [hd] at h; simp at h
            | false =>
              rw [hd] at h
              have hd := of_decide_eq_false hd
              simp only at h ⊢
              have hg : ((List.range i).map (szB ns)).getD ((j : Int)).toNat 0 = szB ns j := by
                rw [Int.toNat_natCast, List.getD_eq_getElem?_getD, List.getElem?_map, List.getElem?_range (by omega)]; rfl
              have hjl := hle j (by omega)
              obtain ⟨k1, k2⟩ := ihk (begF ns ns.length (j : Int)) (size + szB ns j) (fun q hq => hks q (List.mem_cons_of_mem _ hq)) h
              rw [show ((j : Int) == k - 1 && decide ((0 : Int) ≤ (j : Int))) = true by simp [hc.1]; omega, hg]
              simp only
              have e : (j : Int) - (szB ns j : Nat) = begF ns ns.length (j : Int) - 1 := by unfold szB; omega
              rw [e, k1]
              refine ⟨?_, by omega⟩
              congr 1
              unfold szB
              omega
      obtain ⟨k1, k2⟩ := key _ (i : Int) 1 (fun q hq => hk i hi2 q (List.mem_reverse.1 hq)) (by rw [← hun]; exact hall i hi2)
      rw [← hun] at k1 k2
      simp only [sizesS, List.length_map, List.length_range]
      rw [k1]
      simp only
      have e : (List.range i).map (szB ns) ++ [1 + ((i : Int) - begF ns ns.length i).toNat] = (List.range (i + 1)).map (szB ns) := by
        rw [List.range_succ, List.map_append]
        congr 1
        simp only [List.map_cons, List.map_nil, szB]
        congr 1
        omega
      rw [e]
      exact ihr (i + 1) hd2 (by omega)
  have hfull := hrow ns 0 rfl (Nat.zero_le _)
  simp only [List.range_zero, List.map_nil] at hfull
  simp only [soundS, hfull]
  rw [h3]
  have e1 : (ns.length == 0) = false := beq_eq_false_iff_ne.2 (by omega)
  have e2 : decide (4000 < ns.length) = false := decide_eq_false (by omega)
  simp only [e1, e2, Bool.or_self, bne_self_eq_false, Bool.not_false, Bool.true_and]
  rw [show ((ns.length : Int) - 1).toNat = ns.length - 1 by omega, List.getD_eq_getElem?_getD, List.getElem?_map, List.getElem?_range (by omega)]
  simp only [Option.map_some, Option.getD_some, szB, hroot, beq_iff_eq]
  omega
theorem sound4_eq (ns : List Nd) (root : Int) : sound4 ns root = soundS ns root := by
  cases h : soundS ns root with
  | true => exact sound4_of h
  | false =>
    cases h4 : sound4 ns root with
    | false => rfl
    | true => rw [soundS_of4 h4] at h; cases h
end Go.Ru

namespace Go.Ru
theorem cnt_le3 (p : Int → Bool) : ∀ (m : Nat) (l : List Int), cntS p m l ≤ l.length ∧ cntS p m l ≤ m ∧ ∀ x ∈ l.take (cntS p m l), p x = true := by
  intro m
  induction m with
  | zero => intro l; simp [cntS]
  | succ m ih =>
    intro l
    cases l with
    | nil => simp [cntS]
    | cons a l =>
      cases h : p a with
      | false => rw [cnt_f h]; simp
      | true =>
        rw [cnt_t h]
        obtain ⟨h1, h2, h3⟩ := ih l
        refine ⟨by simp; omega, by omega, fun x hx => ?_⟩
        rw [List.take_succ_cons] at hx
        rcases List.mem_cons.1 hx with rfl | hx
        · exact h
        · exact h3 x hx
def ShapeOf (k : Int) (l : List Int) : Prop :=
  if k = 1 then ∃ a b, l = a ++ b ∧ (∀ x ∈ a, x = 2) ∧ (∀ x ∈ b, x = 3)
  else if k = 3 then ∃ a b, l = a ++ b ++ [6] ∧ (∀ x ∈ a, x = 4) ∧ (∀ x ∈ b, x = 5)
  else if k = 6 then ∀ x ∈ l, stB x = true
  else if k = 7 ∨ k = 17 ∨ k = 15 ∨ k = 23 ∨ k = 26 then ∃ a, l = [a] ∧ exB a = true
  else if k = 8 ∨ k = 27 then ∃ a b, l = [a, b] ∧ exB a = true ∧ exB b = true
  else if k = 9 then l = [18]
  else if k = 10 then ∃ a, l = [18, a] ∧ exB a = true
  else if k = 11 then ∃ a, l = [a, 6, 6] ∧ exB a = true
  else if k = 12 then ∃ a, l = [a, 6] ∧ exB a = true
  else if k = 13 then ∃ a, l = 19 :: a ∧ ∀ x ∈ a, exB x = true
  else if k = 14 then l = [] ∨ ∃ a, l = [a] ∧ exB a = true
  else if k = 16 then l = [6, 6]
  else l = []
theorem cnt_split {p q : Int → Bool} {m m' : Nat} {l : List Int} (h : cntS p m l + cntS q m' (l.drop (cntS p m l)) = l.length) :
    ∃ a b, l = a ++ b ∧ (∀ x ∈ a, p x = true) ∧ (∀ x ∈ b, q x = true) := by
  obtain ⟨h1, _, h3⟩ := cnt_le3 p m l
  obtain ⟨h4, _, h6⟩ := cnt_le3 q m' (l.drop (cntS p m l))
  refine ⟨_, _, (List.take_append_drop (cntS p m l) l).symm, h3, ?_⟩
  rw [List.take_of_length_le (by rw [List.length_drop]; omega)] at h6
  exact h6
theorem shape_of {k : Int} {l : List Int} (h : kidsOkS k l = true) : ShapeOf k l := by
  have is2 : ∀ {c : Int} {x : Int}, (x == c) = true → x = c := fun h => by simpa using h
  unfold kidsOkS at h
  extract_lets at h
  unfold ShapeOf
  by_cases h1 : k = 1
  · rw [if_pos h1]
    rw [if_pos h1] at h
    simp (config := {zetaDelta := true}) only [List.drop_zero, Nat.zero_add, beq_iff_eq] at h
    obtain ⟨x, y, h2, h3, h4⟩ := cnt_split (p := fun k => k == 2) (q := fun k => k == 3) (m := 4000) (m' := 4000) (l := l) (by omega)
    exact ⟨x, y, h2, fun x hx => is2 (h3 x hx), fun x hx => is2 (h4 x hx)⟩
  rw [if_neg h1] at h ⊢
  by_cases h2 : k = 3
  · rw [if_pos h2]
    rw [if_pos h2] at h
    simp (config := {zetaDelta := true}) only [List.drop_zero, Nat.zero_add, Bool.and_eq_true, beq_iff_eq] at h
    obtain ⟨g1, g2⟩ := h
    obtain ⟨a1, _, a3⟩ := cnt_le3 (fun k => k == 4) 4000 l
    generalize hi : cntS (fun k => k == 4) 4000 l = i at *
    obtain ⟨b1, _, b3⟩ := cnt_le3 (fun k => k == 5) 4000 (l.drop i)
    generalize hj : cntS (fun k => k == 5) 4000 (l.drop i) = j at *
    obtain ⟨c1, _, c3⟩ := cnt_le3 (fun k => k == 6) 1 (l.drop (i + j))
    rw [g1] at c1 c3 g2
    rw [List.length_drop] at b1 c1
    have e1 : l.drop (i + j) = [6] := by
      have : (l.drop (i + j)).length = 1 := by rw [List.length_drop]; omega
      match hl : l.drop (i + j), this with
      | [x], _ =>
        rw [hl] at c3
        have := is2 (c3 x (by simp))
        rw [this]
    refine ⟨l.take i, (l.drop i).take j, ?_, fun x hx => is2 (a3 x hx), fun x hx => is2 (b3 x hx)⟩
    rw [← e1, List.append_assoc, ← List.drop_drop, List.take_append_drop, List.take_append_drop]
  rw [if_neg h2] at h ⊢
  by_cases h3 : k = 6
  · rw [if_pos h3]
    rw [if_pos h3] at h
    simp (config := {zetaDelta := true}) only [List.drop_zero] at h
    obtain ⟨a1, _, a3⟩ := cnt_le3 stB 4000 l
    simp only [beq_iff_eq] at h
    rw [List.take_of_length_le (by omega)] at a3
    exact a3
  rw [if_neg h3] at h ⊢
  have one : ∀ {p : Int → Bool} {l : List Int}, cntS p 1 l = 1 → ∃ a r, l = a :: r ∧ p a = true := fun {p l} h => by
    cases l with
    | nil => simp [cntS] at h
    | cons a r =>
      cases hp : p a with
      | false => rw [cnt_f hp] at h; cases h
      | true => exact ⟨a, r, rfl, hp⟩
  have dos : ∀ {p : Int → Bool} {l : List Int}, cntS p 2 l = 2 → ∃ a b r, l = a :: b :: r ∧ p a = true ∧ p b = true := fun {p l} h => by
    cases l with
    | nil => simp [cntS] at h
    | cons a r =>
      cases hp : p a with
      | false => rw [cnt_f hp] at h; cases h
      | true =>
        rw [cnt_t hp] at h
        obtain ⟨b, r, rfl, hb⟩ := one (by omega : cntS p 1 r = 1)
        exact ⟨a, b, r, rfl, hp, hb⟩
  have nil : ∀ {r : List Int}, r.length = 0 → r = [] := fun {r} h => List.length_eq_zero_iff.1 h
  by_cases h4 : k = 7 ∨ k = 17 ∨ k = 15 ∨ k = 23 ∨ k = 26
  · rw [if_pos h4]
    rw [if_pos h4] at h
    simp (config := {zetaDelta := true}) only [List.drop_zero, Nat.zero_add, Bool.and_eq_true, beq_iff_eq] at h
    obtain ⟨g1, g2⟩ := h
    obtain ⟨a, r, rfl, ha⟩ := one g1
    rw [g1] at g2
    have := nil (r := r) (by simp only [List.length_cons] at g2; omega)
    subst this
    exact ⟨a, rfl, ha⟩
  rw [if_neg h4] at h ⊢
  by_cases h5 : k = 8 ∨ k = 27
  · rw [if_pos h5]
    rw [if_pos h5] at h
    simp (config := {zetaDelta := true}) only [List.drop_zero, Nat.zero_add, Bool.and_eq_true, beq_iff_eq] at h
    obtain ⟨g1, g2⟩ := h
    obtain ⟨a, b, r, rfl, ha, hb⟩ := dos g1
    rw [g1] at g2
    have := nil (r := r) (by simp only [List.length_cons] at g2; omega)
    subst this
    exact ⟨a, b, rfl, ha, hb⟩
  rw [if_neg h5] at h ⊢
  by_cases h6 : k = 9
  · rw [if_pos h6]
    rw [if_pos h6] at h
    simp (config := {zetaDelta := true}) only [List.drop_zero, Nat.zero_add, Bool.and_eq_true, beq_iff_eq] at h
    obtain ⟨g1, g2⟩ := h
    obtain ⟨a, r, rfl, ha⟩ := one g1
    rw [g1] at g2
    have := nil (r := r) (by simp only [List.length_cons] at g2; omega)
    subst this
    rw [is2 ha]
  rw [if_neg h6] at h ⊢
  by_cases h7 : k = 10
  · rw [if_pos h7]
    rw [if_pos h7] at h
    simp (config := {zetaDelta := true}) only [List.drop_zero, Nat.zero_add, Bool.and_eq_true, beq_iff_eq] at h
    obtain ⟨g1, g2, g3⟩ := h
    obtain ⟨a, r, rfl, ha⟩ := one g1
    rw [g1] at g2 g3
    simp only [List.drop_succ_cons, List.drop_zero] at g2 g3
    obtain ⟨b, r, rfl, hb⟩ := one g2
    rw [g2] at g3
    have := nil (r := r) (by simp only [List.length_cons] at g3; omega)
    subst this
    exact ⟨b, by rw [is2 ha], hb⟩
  rw [if_neg h7] at h ⊢
  by_cases h8 : k = 11
  · rw [if_pos h8]
    rw [if_pos h8] at h
    simp (config := {zetaDelta := true}) only [List.drop_zero, Nat.zero_add, Bool.and_eq_true, beq_iff_eq] at h
    obtain ⟨g1, g2, g3⟩ := h
    obtain ⟨a, r, rfl, ha⟩ := one g1
    rw [g1] at g2 g3
    simp only [List.drop_succ_cons, List.drop_zero] at g2 g3
    obtain ⟨b, c, r, rfl, hb, hc⟩ := dos g2
    rw [g2] at g3
    have := nil (r := r) (by simp only [List.length_cons] at g3; omega)
    subst this
    exact ⟨a, by rw [is2 hb, is2 hc], ha⟩
  rw [if_neg h8] at h ⊢
  by_cases h9 : k = 12
  · rw [if_pos h9]
    rw [if_pos h9] at h
    simp (config := {zetaDelta := true}) only [List.drop_zero, Nat.zero_add, Bool.and_eq_true, beq_iff_eq] at h
    obtain ⟨g1, g2, g3⟩ := h
    obtain ⟨a, r, rfl, ha⟩ := one g1
    rw [g1] at g2 g3
    simp only [List.drop_succ_cons, List.drop_zero] at g2 g3
    obtain ⟨b, r, rfl, hb⟩ := one g2
    rw [g2] at g3
    have := nil (r := r) (by simp only [List.length_cons] at g3; omega)
    subst this
    exact ⟨a, by rw [is2 hb], ha⟩
  rw [if_neg h9] at h ⊢
  by_cases h10 : k = 13
  · rw [if_pos h10]
    rw [if_pos h10] at h
    simp (config := {zetaDelta := true}) only [List.drop_zero, Nat.zero_add, Bool.and_eq_true, beq_iff_eq] at h
    obtain ⟨g1, g2⟩ := h
    obtain ⟨a, r, rfl, ha⟩ := one g1
    rw [g1] at g2
    simp only [List.drop_succ_cons, List.drop_zero] at g2
    obtain ⟨b1, _, b3⟩ := cnt_le3 exB 4000 r
    rw [List.take_of_length_le (by simp only [List.length_cons] at g2; omega)] at b3
    exact ⟨r, by rw [is2 ha], b3⟩
  rw [if_neg h10] at h ⊢
  by_cases h11 : k = 14
  · rw [if_pos h11]
    rw [if_pos h11] at h
    simp (config := {zetaDelta := true}) only [List.drop_zero, Nat.zero_add, beq_iff_eq] at h
    obtain ⟨b1, b2, b3⟩ := cnt_le3 exB 1 l
    cases l with
    | nil => exact .inl rfl
    | cons a r =>
      simp only [List.length_cons] at h
      have := nil (r := r) (by omega)
      subst this
      refine .inr ⟨a, rfl, b3 a ?_⟩
      have : cntS exB 1 [a] = 1 := by simp only [List.length_nil] at h; omega
      rw [this]; simp
  rw [if_neg h11] at h ⊢
  by_cases h12 : k = 16
  · rw [if_pos h12]
    rw [if_pos h12] at h
    simp (config := {zetaDelta := true}) only [List.drop_zero, Nat.zero_add, Bool.and_eq_true, beq_iff_eq] at h
    obtain ⟨g1, g2⟩ := h
    obtain ⟨a, b, r, rfl, ha, hb⟩ := dos g1
    rw [g1] at g2
    have := nil (r := r) (by simp only [List.length_cons] at g2; omega)
    subst this
    rw [is2 ha, is2 hb]
  rw [if_neg h12] at h ⊢
  simp (config := {zetaDelta := true}) only [beq_iff_eq] at h
  exact nil (by omega)
structure RightT (ns : List Nd) (root : Int) : Prop extends Std ns root where
  ok : rightS ns root = true
  top : (nd ns root.toNat).k = 1
  kr : ∀ i, i < ns.length → 1 ≤ (nd ns i).k ∧ (nd ns i).k ≤ 27
  tx : ∀ i, i < ns.length → textS (nd ns i).k (nd ns i).tx = true
  num : ∀ i, i < ns.length → numberS (nd ns i).k (nd ns i).n = true
  shape : ∀ i, i < ns.length → ShapeOf (nd ns i).k (kindsS ns (nd ns i))
theorem right_of {ns : List Nd} {root : Int} (h : rightS ns root = true) : RightT ns root := by
  have h0 := h
  simp only [rightS, Bool.and_eq_true, beq_iff_eq, decide_eq_true_eq] at h
  obtain ⟨⟨⟨h1, h2⟩, h3⟩, h4⟩ := h
  have h5 : ∀ i, i < ns.length → nodeOkS ns (nd ns i) = true := fun i hi => by
    rw [List.all_eq_true] at h4
    refine h4 _ ?_
    simp only [nd, List.getD_eq_getElem?_getD, List.getElem?_eq_getElem hi, Option.getD_some]
    exact List.getElem_mem hi
  have h6 : ∀ i, i < ns.length → _ := fun i hi => by
    have := h5 i hi
    simp only [nodeOkS, Bool.and_eq_true, decide_eq_true_eq] at this
    exact this
  exact ⟨std_of h1, h0, h3, fun i hi => ⟨(h6 i hi).1.1.1.1, (h6 i hi).1.1.1.2⟩, fun i hi => (h6 i hi).1.1.2, fun i hi => (h6 i hi).1.2, fun i hi => shape_of (h6 i hi).2⟩
theorem kid_kind {k x : Int} {l : List Int} (h : ShapeOf k l) (hx : x ∈ l) :
    (k = 1 ∧ (x = 2 ∨ x = 3)) ∨ (k = 3 ∧ (x = 4 ∨ x = 5 ∨ x = 6)) ∨ (k = 6 ∧ stB x = true) ∨ (7 ≤ k ∧ k ≤ 27 ∧ exB x = true) ∨ ((k = 9 ∨ k = 10) ∧ x = 18) ∨ ((k = 11 ∨ k = 12 ∨ k = 16) ∧ x = 6) ∨ (k = 13 ∧ x = 19) := by
  unfold ShapeOf at h
  have ex : exB x = true → 7 ≤ k → k ≤ 27 → (k = 1 ∧ (x = 2 ∨ x = 3)) ∨ (k = 3 ∧ (x = 4 ∨ x = 5 ∨ x = 6)) ∨ (k = 6 ∧ stB x = true) ∨ (7 ≤ k ∧ k ≤ 27 ∧ exB x = true) ∨ ((k = 9 ∨ k = 10) ∧ x = 18) ∨ ((k = 11 ∨ k = 12 ∨ k = 16) ∧ x = 6) ∨ (k = 13 ∧ x = 19) :=
    fun a b c => .inr (.inr (.inr (.inl ⟨b, c, a⟩)))
  by_cases h1 : k = 1
  · rw [if_pos h1] at h
    obtain ⟨a, b, rfl, p, q⟩ := h
    rcases List.mem_append.1 hx with m | m
    · have := p x m; omega
    · have := q x m; omega
  rw [if_neg h1] at h
  by_cases h2 : k = 3
  · rw [if_pos h2] at h
    obtain ⟨a, b, rfl, p, q⟩ := h
    rcases List.mem_append.1 hx with m | m
    · rcases List.mem_append.1 m with m | m
      · have := p x m; omega
      · have := q x m; omega
    · simp only [List.mem_cons, List.not_mem_nil, or_false] at m; omega
  rw [if_neg h2] at h
  by_cases h3 : k = 6
  · rw [if_pos h3] at h
    exact .inr (.inr (.inl ⟨h3, h x hx⟩))
  rw [if_neg h3] at h
  by_cases h4 : k = 7 ∨ k = 17 ∨ k = 15 ∨ k = 23 ∨ k = 26
  · rw [if_pos h4] at h
    obtain ⟨a, rfl, p⟩ := h
    simp only [List.mem_cons, List.not_mem_nil, or_false] at hx
    exact ex (hx ▸ p) (by omega) (by omega)
  rw [if_neg h4] at h
  by_cases h5 : k = 8 ∨ k = 27
  · rw [if_pos h5] at h
    obtain ⟨a, b, rfl, p, q⟩ := h
    simp only [List.mem_cons, List.not_mem_nil, or_false] at hx
    rcases hx with m | m
    · exact ex (m ▸ p) (by omega) (by omega)
    · exact ex (m ▸ q) (by omega) (by omega)
  rw [if_neg h5] at h
  by_cases h6 : k = 9
  · rw [if_pos h6] at h
    subst h
    simp only [List.mem_cons, List.not_mem_nil, or_false] at hx
    omega
  rw [if_neg h6] at h
  by_cases h7 : k = 10
  · rw [if_pos h7] at h
    obtain ⟨a, rfl, p⟩ := h
    simp only [List.mem_cons, List.not_mem_nil, or_false] at hx
    rcases hx with m | m
    · omega
    · exact ex (m ▸ p) (by omega) (by omega)
  rw [if_neg h7] at h
  by_cases h8 : k = 11
  · rw [if_pos h8] at h
    obtain ⟨a, rfl, p⟩ := h
    simp only [List.mem_cons, List.not_mem_nil, or_false] at hx
    rcases hx with m | m | m
    · exact ex (m ▸ p) (by omega) (by omega)
    · omega
    · omega
  rw [if_neg h8] at h
  by_cases h9 : k = 12
  · rw [if_pos h9] at h
    obtain ⟨a, rfl, p⟩ := h
    simp only [List.mem_cons, List.not_mem_nil, or_false] at hx
    rcases hx with m | m
    · exact ex (m ▸ p) (by omega) (by omega)
    · omega
  rw [if_neg h9] at h
  by_cases h10 : k = 13
  · rw [if_pos h10] at h
    obtain ⟨a, rfl, p⟩ := h
    rcases List.mem_cons.1 hx with m | m
    · omega
    · exact ex (p x m) (by omega) (by omega)
  rw [if_neg h10] at h
  by_cases h11 : k = 14
  · rw [if_pos h11] at h
    rcases h with rfl | ⟨a, rfl, p⟩
    · simp at hx
    · simp only [List.mem_cons, List.not_mem_nil, or_false] at hx
      exact ex (hx ▸ p) (by omega) (by omega)
  rw [if_neg h11] at h
  by_cases h12 : k = 16
  · rw [if_pos h12] at h
    subst h
    simp only [List.mem_cons, List.not_mem_nil, or_false] at hx
    omega
  rw [if_neg h12] at h
  subst h
  simp at hx
end Go.Ru

namespace Go.Ru
open Go
theorem cnt_big (p : Int → Bool) : ∀ (m : Nat) (l : List Int), l.length ≤ m → cntS p m l = (l.takeWhile p).length := by
  intro m
  induction m with
  | zero => intro l h; have := List.length_eq_zero_iff.1 (Nat.le_zero.1 h); subst this; rfl
  | succ m ih =>
    intro l h
    cases l with
    | nil => rfl
    | cons a l =>
      cases hp : p a with
      | false => rw [cnt_f hp, List.takeWhile_cons_of_neg (by simp [hp])]; rfl
      | true => rw [cnt_t hp, List.takeWhile_cons_of_pos hp, List.length_cons, ih l (by simpa using h)]
def headN (a : Int) (l : List Int) : Nat := (l.takeWhile (· == a)).length
def rises4 (l : List Int) (a b c : Int) : Bool :=
  let i := headN a l + headN b (l.drop (headN a l))
  match c != 0 with
  | true => (i : Int) == (l.length : Int) - 1 && l.getD i 0 == c
  | false => (i : Int) == (l.length : Int)
def kids4 (k : Int) (l : List Int) : Bool :=
  if k = 1 then rises4 l 2 3 0
  else if k = 3 then rises4 l 4 5 6
  else if k = 6 then l.all stB
  else if k = 7 ∨ k = 15 ∨ k = 17 ∨ k = 23 ∨ k = 26 then l.length == 1 && l.all exB
  else if k = 8 ∨ k = 27 then l.length == 2 && l.all exB
  else if k = 9 then l.length == 1 && l.getD 0 0 == 18
  else if k = 10 then l.length == 2 && l.getD 0 0 == 18 && exB (l.getD 1 0)
  else if k = 11 then l.length == 3 && exB (l.getD 0 0) && l.getD 1 0 == 6 && l.getD 2 0 == 6
  else if k = 12 then l.length == 2 && exB (l.getD 0 0) && l.getD 1 0 == 6
  else if k = 13 then decide (1 ≤ l.length) && l.getD 0 0 == 19 && l.tail.all exB
  else if k = 14 then decide (l.length ≤ 1) && l.all exB
  else if k = 16 then l.length == 2 && l.getD 0 0 == 6 && l.getD 1 0 == 6
  else l.length == 0
theorem take_all (p : Int → Bool) (l : List Int) : ((l.takeWhile p).length == l.length) = l.all p := by
  induction l with
  | nil => rfl
  | cons a l ih =>
    cases hp : p a with
    | false => rw [List.takeWhile_cons_of_neg (by simp [hp]), List.all_cons, hp]; simp
    | true =>
      rw [List.takeWhile_cons_of_pos hp, List.all_cons, hp, Bool.true_and, ← ih]
      simp
theorem cnt_one (p : Int → Bool) (l : List Int) : cntS p 1 l = match l with
    | [] => 0
    | a :: _ => if p a then 1 else 0 := by
  cases l with
  | nil => rfl
  | cons a r => cases h : p a <;> simp [cntS, h]
theorem cnt_two (p : Int → Bool) (l : List Int) : cntS p 2 l = match l with
    | [] => 0
    | [a] => if p a then 1 else 0
    | a :: b :: _ => if p a then (if p b then 2 else 1) else 0 := by
  match l with
  | [] => rfl
  | [a] => cases h : p a <;> simp [cntS, h]
  | a :: b :: r => cases h : p a <;> cases h2 : p b <;> simp [cntS, h, h2]
theorem cast_beq (a b : Nat) : ((a : Int) == (b : Int)) = (a == b) := by
  rw [Bool.eq_iff_iff]; simp; omega
theorem kids4_eq (k : Int) (l : List Int) (hl : l.length ≤ 4000) : kids4 k l = kidsOkS k l := by
  have hd : ∀ i, (l.drop i).length ≤ 4000 := fun i => by rw [List.length_drop]; omega
  unfold kids4 kidsOkS
  extract_lets is a e
  by_cases h1 : k = 1
  · rw [if_pos h1, if_pos h1]
    simp (config := {zetaDelta := true}) only [rises4, headN, List.drop_zero, Nat.zero_add, cnt_big _ _ _ hl, cnt_big _ _ _ (hd _)]
    rfl
  rw [if_neg h1, if_neg h1]
  by_cases h2 : k = 3
  · rw [if_pos h2, if_pos h2]
    simp (config := {zetaDelta := true}) only [rises4, headN, List.drop_zero, Nat.zero_add, cnt_big _ _ _ hl, cnt_big _ _ _ (hd _)]
    generalize hi : (List.takeWhile (fun x => x == 4) l).length + (List.takeWhile (fun x => x == 5) (l.drop (List.takeWhile (fun x => x == 4) l).length)).length = i
    show ((i : Int) == (l.length : Int) - 1 && l.getD i 0 == 6) = _
    rw [cnt_one]
    by_cases h : i < l.length
    · rw [List.drop_eq_getElem_cons h, List.getD_eq_getElem?_getD, List.getElem?_eq_getElem h]
      simp only [Option.getD_some]
      by_cases h6 : l[i] = 6
      · rw [Bool.eq_iff_iff]; simp [h6]; omega
      · have : (l[i] == 6) = false := beq_eq_false_iff_ne.2 h6
        rw [this]; simp
    · rw [List.drop_eq_nil_of_le (by omega)]
      rw [Bool.eq_iff_iff]; simp; omega
  rw [if_neg h2, if_neg h2]
  by_cases h3 : k = 6
  · rw [if_pos h3, if_pos h3]
    simp (config := {zetaDelta := true}) only [List.drop_zero, cnt_big _ _ _ hl]
    rw [cast_beq, take_all]
  rw [if_neg h3, if_neg h3]
  by_cases h4 : k = 7 ∨ k = 15 ∨ k = 17 ∨ k = 23 ∨ k = 26
  · rw [if_pos h4, if_pos (show k = 7 ∨ k = 17 ∨ k = 15 ∨ k = 23 ∨ k = 26 by omega)]
    simp (config := {zetaDelta := true}) only [List.drop_zero, Nat.zero_add, cnt_one]
    match l with
    | [] => simp
    | [a] => cases h : exB a <;> simp [h]
    | a :: b :: r => cases h : exB a <;> simp [h] <;> omega
  rw [if_neg h4, if_neg (show ¬ (k = 7 ∨ k = 17 ∨ k = 15 ∨ k = 23 ∨ k = 26) by omega)]
  by_cases h5 : k = 8 ∨ k = 27
  · rw [if_pos h5, if_pos h5]
    simp (config := {zetaDelta := true}) only [List.drop_zero, Nat.zero_add, cnt_two]
    match l with
    | [] => simp
    | [a] => cases h : exB a <;> simp [h]
    | [a, b] => cases h : exB a <;> cases h' : exB b <;> simp [h, h']
    | a :: b :: c :: r => cases h : exB a <;> cases h' : exB b <;> simp [h, h'] <;> omega
  rw [if_neg h5, if_neg h5]
  by_cases h6 : k = 9
  · rw [if_pos h6, if_pos h6]
    simp (config := {zetaDelta := true}) only [List.drop_zero, Nat.zero_add, cnt_one]
    match l with
    | [] => simp
    | [a] => cases h : (a == 18) <;> simp [h]
    | a :: b :: r => cases h : (a == 18) <;> simp [h] <;> omega
  rw [if_neg h6, if_neg h6]
  by_cases h7 : k = 10
  · rw [if_pos h7, if_pos h7]
    simp (config := {zetaDelta := true}) only [List.drop_zero, Nat.zero_add, cnt_one]
    match l with
    | [] => simp
    | [a] => cases h : (a == 18) <;> simp [h]
    | [a, b] => cases h : (a == 18) <;> cases h' : exB b <;> simp [h, h']
    | a :: b :: c :: r => cases h : (a == 18) <;> cases h' : exB b <;> simp [h, h'] <;> omega
  rw [if_neg h7, if_neg h7]
  by_cases h8 : k = 11
  · rw [if_pos h8, if_pos h8]
    simp (config := {zetaDelta := true}) only [List.drop_zero, Nat.zero_add, cnt_one, cnt_two]
    match l with
    | [] => simp
    | [a] => cases h : exB a <;> simp [h]
    | [a, b] => cases h : exB a <;> cases h' : (b == 6) <;> simp [h, h']
    | [a, b, c] => cases h : exB a <;> cases h' : (b == 6) <;> cases h2 : (c == 6) <;> simp [h, h', h2]
    | a :: b :: c :: d :: r => cases h : exB a <;> cases h' : (b == 6) <;> cases h2 : (c == 6) <;> simp [h, h', h2] <;> omega
  rw [if_neg h8, if_neg h8]
  by_cases h9 : k = 12
  · rw [if_pos h9, if_pos h9]
    simp (config := {zetaDelta := true}) only [List.drop_zero, Nat.zero_add, cnt_one]
    match l with
    | [] => simp
    | [a] => cases h : exB a <;> simp [h]
    | [a, b] => cases h : exB a <;> cases h' : (b == 6) <;> simp [h, h']
    | a :: b :: c :: r => cases h : exB a <;> cases h' : (b == 6) <;> simp [h, h'] <;> omega
  rw [if_neg h9, if_neg h9]
  by_cases h10 : k = 13
  · rw [if_pos h10, if_pos h10]
    simp (config := {zetaDelta := true}) only [List.drop_zero, Nat.zero_add, cnt_one, cnt_big _ _ _ (hd _)]
    match l with
    | [] => simp
    | a :: r =>
      cases h : (a == 19) with
      | false => simp [h]
      | true =>
        simp only [h, if_true, List.drop_succ_cons, List.drop_zero, List.tail_cons, List.length_cons, List.getD_cons_zero, Bool.and_true]
        rw [← take_all, Bool.eq_iff_iff]
        simp; omega
  rw [if_neg h10, if_neg h10]
  by_cases h11 : k = 14
  · rw [if_pos h11, if_pos h11]
    simp (config := {zetaDelta := true}) only [List.drop_zero, Nat.zero_add, cnt_one]
    match l with
    | [] => simp
    | [a] => cases h : exB a <;> simp [h]
    | a :: b :: r => cases h : exB a <;> simp [h] <;> omega
  rw [if_neg h11, if_neg h11]
  by_cases h12 : k = 16
  · rw [if_pos h12, if_pos h12]
    simp (config := {zetaDelta := true}) only [List.drop_zero, Nat.zero_add, cnt_two]
    match l with
    | [] => simp
    | [a] => cases h : (a == 6) <;> simp [h]
    | [a, b] => cases h : (a == 6) <;> cases h' : (b == 6) <;> simp [h, h']
    | a :: b :: c :: r => cases h : (a == 6) <;> cases h' : (b == 6) <;> simp [h, h'] <;> omega
  rw [if_neg h12, if_neg h12]
  show (l.length == 0) = (((0 : Nat) : Int) == (l.length : Int))
  rw [cast_beq]
  cases l <;> rfl
end Go.Ru

namespace Go.Ru
open Go
set_option maxRecDepth 20000
def joinW : List Bs → Bs
  | [] => [32]
  | w :: r => 32 :: (w ++ joinW r)
def keptW : List Bs := [[118, 97, 114], [112, 114, 111, 99], [105, 110, 116], [98, 111, 111, 108], [97, 114, 114], [102, 117, 110], [105, 110], [111, 117, 116], [105, 102], [101, 108, 115, 101], [119, 104, 105, 108, 101], [99, 97, 108, 108], [114, 101, 116, 117, 114, 110], [116, 104, 114, 111, 119], [116, 114, 121], [99, 97, 116, 99, 104], [110, 101, 119], [108, 101, 110], [116, 114, 117, 101], [102, 97, 108, 115, 101]]
theorem keptT_eq : keptT = joinW keptW := rfl
theorem contains_cons (b : UInt8) (l sub : Bs) : Lib.contains (b :: l) sub = (sub.isPrefixOf (b :: l) || Lib.contains l sub) := by
  have hge := Lib.index_ge l sub
  simp only [Lib.contains, Lib.index]
  by_cases hp : sub.isPrefixOf (b :: l) = true
  · simp [hp]
  · simp only [hp]
    by_cases h : Lib.index l sub = -1
    · simp [h]
    · have h0 : 0 ≤ Lib.index l sub := by omega
      have h2 : 0 ≤ Lib.index l sub + 1 := by omega
      simp [h, h0, h2]
theorem contains_skip (w t x : Bs) (h : ∀ c ∈ w, c ≠ 32) : Lib.contains (w ++ t) (32 :: x) = Lib.contains t (32 :: x) := by
  induction w with
  | nil => rfl
  | cons c w ih =>
    have hc : (32 == c) = false := by
      have := h c (by simp)
      simpa using fun e => this e.symm
    rw [List.cons_append, contains_cons, ih fun c hc => h c (by simp [hc])]
    simp [List.isPrefixOf, hc]
theorem prefix_word (s w t : Bs) (hs : ∀ c ∈ s, c ≠ 32) (hw : ∀ c ∈ w, c ≠ 32) : (s ++ [32]).isPrefixOf (w ++ 32 :: t) = (w == s) := by
  induction s generalizing w with
  | nil =>
    cases w with
    | nil => rfl
    | cons c w =>
      have : (32 == c) = false := by
        have := hw c (by simp)
        simpa using fun e => this e.symm
      simp [List.isPrefixOf, this]
  | cons a s ih =>
    cases w with
    | nil =>
      have : (a == 32) = false := by simpa using hs a (by simp)
      simp [List.isPrefixOf, this]
    | cons c w =>
      have := ih w (fun c hc => hs c (by simp [hc])) (fun c hc => hw c (by simp [hc]))
      simp only [List.cons_append, List.isPrefixOf, this]
      by_cases e : a = c
      · subst e; simp
      · have h1 : (a == c) = false := by simpa using e
        have h2 : ((c :: w) == (a :: s)) = false := by
          simp only [beq_eq_false_iff_ne, ne_eq, List.cons.injEq, not_and]
          exact fun h => absurd h.symm e
        rw [h1, h2]; rfl
theorem contains_words (ws : List Bs) (s : Bs) (hs : ∀ c ∈ s, c ≠ 32) (hws : ∀ w ∈ ws, ∀ c ∈ w, c ≠ 32) : Lib.contains (joinW ws) (32 :: (s ++ [32])) = ws.any (· == s) := by
  induction ws with
  | nil =>
    simp only [joinW, contains_cons, List.any_nil]
    cases s <;> simp [List.isPrefixOf, Lib.contains, Lib.index]
  | cons w ws ih =>
    have hj : ∃ t, joinW ws = 32 :: t := by cases ws <;> exact ⟨_, rfl⟩
    obtain ⟨t, ht⟩ := hj
    simp only [joinW, contains_cons, List.any_cons]
    rw [contains_skip _ _ _ (hws w (by simp)), ih fun w hw => hws w (by simp [hw])]
    congr 1
    rw [ht]
    simp only [List.isPrefixOf, beq_self_eq_true, Bool.true_and]
    exact prefix_word s w t hs (hws w (by simp))
theorem indexByte_neg {l : Bs} {c : UInt8} : Lib.indexByte l c < 0 ↔ ∀ b ∈ l, b ≠ c := by
  induction l with
  | nil => simp [Lib.indexByte]
  | cons a l ih =>
    have hge := Lib.indexByte_ge l c
    simp only [Lib.indexByte, List.mem_cons, forall_eq_or_imp]
    by_cases h : a = c
    · simp [h]
    · have h' : (a == c) = false := by simpa using h
      simp only [h', Bool.false_eq_true, if_false]
      rw [← ih]
      by_cases h2 : Lib.indexByte l c = -1
      · simp [h2, h]
      · have : (Lib.indexByte l c == -1) = false := by simpa using h2
        simp only [this, Bool.false_eq_true, if_false]
        constructor
        · intro hx; omega
        · intro hx; omega
theorem keptP_any (l : Bs) : keptP l = keptW.any (· == l) := by
  have hws : ∀ w ∈ keptW, ∀ c ∈ w, c ≠ 32 := by decide
  simp only [keptP]
  by_cases hn : l = []
  · subst hn; rfl
  · by_cases hi : Lib.indexByte l 32 < 0
    · have hc := contains_words keptW l (indexByte_neg.1 hi) hws
      have h1 : (l == []) = false := by simpa using hn
      rw [h1]
      simp only [Bool.not_false, Bool.true_and, decide_eq_true hi]
      rw [keptT_eq, ← hc]; simp
    · have h1 : keptW.any (· == l) = false := by
        rw [List.any_eq_false]
        intro w hw e
        have e : w = l := by simpa using e
        subst e
        exact hi (indexByte_neg.2 (hws w hw))
      rw [h1, decide_eq_false hi]; simp
end Go.Ru

namespace Go.Ru
open Go
set_option maxRecDepth 20000
def signW : List Bs := [[43], [45], [42], [47], [37], [61, 61], [33, 61], [60], [60, 61], [62], [62, 61], [38, 38], [124, 124]]
theorem signsT_eq : signsT = joinW signW := rfl
theorem signed_any (l : Bs) : signedP l = signW.any (· == l) := by
  unfold signedP
  by_cases h0 : l = []
  · subst h0; decide
  have e0 : (l == []) = false := by cases l <;> simp at h0 ⊢
  rw [e0]
  by_cases h1 : Lib.indexByte l 32 < 0
  · rw [decide_eq_true h1]
    have hs := indexByte_neg.1 h1
    rw [signsT_eq]
    show (true && (true && Lib.contains (joinW signW) (32 :: (l ++ [32])))) = _
    rw [contains_words signW l hs (by decide)]
    rfl
  · rw [decide_eq_false h1]
    show false = _
    symm
    rw [List.any_eq_false]
    intro w hw e
    have e := eq_of_beq e
    subst e
    refine h1 (indexByte_neg.2 ?_)
    revert w
    decide
def text4 (k : Int) (l : Bs) : Bool :=
  if k = 2 ∨ k = 3 ∨ k = 4 ∨ k = 5 ∨ k = 7 ∨ k = 8 ∨ k = 9 ∨ k = 16 ∨ k = 17 ∨ k = 18 ∨ k = 19 ∨ k = 22 ∨ k = 23 ∨ k = 24 ∨ k = 25 then identP l
  else if k = 13 then identP l || l == []
  else if k = 26 then l == [45] || l == [33]
  else if k = 27 then signW.any (· == l)
  else l == []
theorem text4_eq {k : Int} (l : Bs) (h0 : 1 ≤ k) (h1 : k ≤ 27) : text4 k l = textS k l := by
  unfold text4 textS
  by_cases h2 : k = 2 ∨ k = 3 ∨ k = 4 ∨ k = 5 ∨ k = 7 ∨ k = 8 ∨ k = 9 ∨ k = 16 ∨ k = 17 ∨ k = 18 ∨ k = 19 ∨ k = 22 ∨ k = 23 ∨ k = 24 ∨ k = 25
  · rw [if_pos h2, if_neg (show ¬ (k = 1 ∨ k = 6 ∨ k = 10 ∨ k = 11 ∨ k = 12 ∨ k = 14 ∨ k = 15 ∨ k = 20 ∨ k = 21) by omega), if_neg (show ¬ k = 13 by omega), if_neg (show ¬ k = 26 by omega), if_neg (show ¬ k = 27 by omega)]
  rw [if_neg h2]
  by_cases h3 : k = 13
  · rw [if_pos h3, if_neg (show ¬ (k = 1 ∨ k = 6 ∨ k = 10 ∨ k = 11 ∨ k = 12 ∨ k = 14 ∨ k = 15 ∨ k = 20 ∨ k = 21) by omega), if_pos h3, Bool.or_comm]
  rw [if_neg h3]
  by_cases h4 : k = 26
  · rw [if_pos h4, if_neg (show ¬ (k = 1 ∨ k = 6 ∨ k = 10 ∨ k = 11 ∨ k = 12 ∨ k = 14 ∨ k = 15 ∨ k = 20 ∨ k = 21) by omega), if_neg h3, if_pos h4]
  rw [if_neg h4]
  by_cases h5 : k = 27
  · rw [if_pos h5, if_neg (show ¬ (k = 1 ∨ k = 6 ∨ k = 10 ∨ k = 11 ∨ k = 12 ∨ k = 14 ∨ k = 15 ∨ k = 20 ∨ k = 21) by omega), if_neg h3, if_neg h4, if_pos h5, signed_any]
  rw [if_neg h5, if_pos (show k = 1 ∨ k = 6 ∨ k = 10 ∨ k = 11 ∨ k = 12 ∨ k = 14 ∨ k = 15 ∨ k = 20 ∨ k = 21 by omega)]
def node4 (ns : List Nd) (n : Nd) : Bool := !(decide (n.k < 1) || (decide (n.k > 27) || (!text4 n.k n.tx || (!numberS n.k n.n || !kids4 n.k (kindsS ns n)))))
theorem node4_eq {ns : List Nd} {n : Nd} (h : n.kids.length ≤ 4000) : node4 ns n = nodeOkS ns n := by
  unfold node4 nodeOkS
  rw [kids4_eq _ _ (by simp [kindsS]; exact h)]
  by_cases h0 : 1 ≤ n.k
  · by_cases h1 : n.k ≤ 27
    · rw [text4_eq _ h0 h1, decide_eq_false (show ¬ n.k < 1 by omega), decide_eq_false (show ¬ n.k > 27 by omega), decide_eq_true h0, decide_eq_true h1]
      cases textS n.k n.tx <;> cases numberS n.k n.n <;> cases kidsOkS n.k (kindsS ns n) <;> rfl
    · rw [decide_eq_true (show n.k > 27 by omega), decide_eq_false h1]; simp
  · rw [decide_eq_true (show n.k < 1 by omega), decide_eq_false h0]; simp
end Go.Ru

namespace Go.Ru
def firstB (p : Nat → Bool) : Nat → Option Nat
  | 0 => none
  | n + 1 => match firstB p n with
    | some j => some j
    | none => match p n with
      | true => some n
      | false => none
theorem firstB_some {p : Nat → Bool} {n j : Nat} (h : firstB p n = some j) : j < n ∧ p j = true ∧ ∀ i, i < j → p i = false := by
  induction n with
  | zero => simp [firstB] at h
  | succ n ih =>
    simp only [firstB] at h
    split at h
    · rename_i j' hj'
      injection h with h
      subst h
      obtain ⟨h1, h2, h3⟩ := ih hj'
      exact ⟨by omega, h2, h3⟩
    · rename_i hn
      split at h
      · rename_i hp
        injection h with h
        subst h
        refine ⟨by omega, hp, fun i hi => ?_⟩
        clear ih hp
        have key : ∀ m, firstB p m = none → ∀ i, i < m → p i = false := by
          intro m
          induction m with
          | zero => intro _ i hi; omega
          | succ m ihm =>
            intro hm i hi
            simp only [firstB] at hm
            split at hm
            · cases hm
            · rename_i hm'
              split at hm
              · cases hm
              · rename_i hq
                by_cases e : i = m
                · subst e; exact hq
                · exact ihm hm' i (by omega)
        exact key n hn i hi
      · cases h
theorem firstB_none {p : Nat → Bool} {n : Nat} (h : firstB p n = none) : ∀ i, i < n → p i = false := by
  induction n with
  | zero => intro i hi; omega
  | succ n ih =>
    intro i hi
    simp only [firstB] at h
    split at h
    · cases h
    · rename_i hn
      split at h
      · cases h
      · rename_i hp
        by_cases e : i = n
        · subst e; exact hp
        · exact ih hn i (by omega)
theorem firstB_ex {p : Nat → Bool} {n i : Nat} (hi : i < n) (hp : p i = true) : ∃ j, firstB p n = some j ∧ j ≤ i := by
  cases h : firstB p n with
  | none => rw [firstB_none h i hi] at hp; cases hp
  | some j =>
    refine ⟨j, rfl, ?_⟩
    obtain ⟨_, _, h3⟩ := firstB_some h
    by_cases e : i < j
    · rw [h3 i e] at hp; cases hp
    · omega
theorem firstB_eq {p : Nat → Bool} {n j : Nat} (h1 : j < n) (h2 : p j = true) (h3 : ∀ i, i < j → p i = false) : firstB p n = some j := by
  obtain ⟨j', h4, h5⟩ := firstB_ex h1 h2
  obtain ⟨_, h6, _⟩ := firstB_some h4
  by_cases e : j' < j
  · rw [h3 j' e] at h6; cases h6
  · rw [h4]; congr 1; omega
section
variable (ns : List Nd) (root : Int)
def globP (name : Bs) (i : Nat) : Bool := (nd ns i).k == 2 && (nd ns i).tx == name
def procP (name : Bs) (i : Nat) : Bool := (nd ns i).k == 3 && (nd ns i).tx == name
def locP (o : Int) (name : Bs) (i : Nat) : Bool := ((nd ns i).k == 4 || (nd ns i).k == 5) && (own ns root i == o && (nd ns i).tx == name)
def globS (name : Bs) : Option Nat := firstB (globP ns name) ns.length
def tprocS (name : Bs) : Option Nat := firstB (procP ns name) ns.length
def locS (o : Int) (name : Bs) : Option Nat := firstB (locP ns root o name) ns.length
def natO : Option Nat → Int
  | some d => (d : Int)
  | none => -1
def meansS (i : Nat) (name : Bs) : Int := match own ns root i == -1 with
  | true => -1
  | false => match locS ns root (own ns root i) name with
    | some d => (d : Int)
    | none => natO (globS ns name)
def procI (name : Bs) : Int := natO (tprocS ns name)
def kindS (i : Nat) (name : Bs) : Int := match meansS ns root i name != -1 with
  | true => (nd ns (meansS ns root i name).toNat).n
  | false => 0
def paramsS (p : Nat) : List Int := ((nd ns p).kids.filter fun q => (nd ns q.toNat).k == 4).map fun q => (nd ns q.toNat).n
def tplainS (p : Nat) : Bool := paramsS ns p == [1] && (nd ns p).n == 1
def arith (t : Bs) : Bool := t == [43] || t == [45] || t == [42] || t == [47] || t == [37]
def tyS (i : Nat) : Int :=
  let n := nd ns i
  if n.k = 20 ∨ n.k = 23 ∨ n.k = 24 then 1
  else if n.k = 21 then 2
  else if n.k = 25 then 4
  else if n.k = 22 then kindS ns root i n.tx
  else if n.k = 26 ∨ n.k = 27 then (if arith n.tx then 1 else 2)
  else 0
def allS (l : List Int) (kind : Int) : Bool := l.all fun q => tyS ns root q.toNat == kind
def operandsS (n : Nd) : Bool :=
  if n.tx = [33] ∨ n.tx = [38, 38] ∨ n.tx = [124, 124] then allS ns root n.kids 2
  else if n.tx = [61, 61] ∨ n.tx = [33, 61] then allS ns root n.kids 1 || allS ns root n.kids 2
  else allS ns root n.kids 1
def toldS (b : Bool) : Int := if b then 0 else 5
def tnamedS (i : Nat) (fits : Int → Bool) : Int :=
  if meansS ns root i (nd ns i).tx = -1 then 3 else toldS (fits (kindS ns root i (nd ns i).tx))
def fitS : List Int → List Int → Bool
  | [], [] => true
  | q :: l, w :: r => tyS ns root q.toNat == w && fitS l r
  | _, _ => false
def tcallS (i : Nat) (n : Nd) : Int :=
  let name := (nd ns ((n.kids.getD 0 0).toNat)).tx
  let d := meansS ns root i name
  let p := procI ns name
  if (d = -1 ∧ p = -1) ∨ (n.tx ≠ [] ∧ meansS ns root i n.tx = -1) then 3
  else if d = -1 then toldS (fitS ns root n.kids.tail (paramsS ns p.toNat) && (n.tx == [] || ((nd ns p.toNat).n != 0 && kindS ns root i n.tx == (nd ns p.toNat).n)))
  else if (nd ns d.toNat).n ≠ 4 then 5
  else toldS (fitS ns root n.kids.tail [1] && (n.tx == [] || kindS ns root i n.tx == 1))
def natZ : Option Nat → Int
  | some d => (d : Int)
  | none => 0
def twiceS (i : Nat) (n : Nd) : Bool :=
  if n.k = 4 ∨ n.k = 5 then natZ (locS ns root (own ns root i) n.tx) != (i : Int)
  else if n.k = 2 then natZ (globS ns n.tx) != (i : Int)
  else (globS ns n.tx).isSome || natZ (tprocS ns n.tx) != (i : Int)
def checkS (i : Nat) : Int :=
  let n := nd ns i
  if n.k = 2 ∨ n.k = 3 ∨ n.k = 4 ∨ n.k = 5 then (if twiceS ns root i n then 4 else 0)
  else if n.k = 22 then tnamedS ns root i fun _ => true
  else if n.k = 23 ∨ n.k = 8 ∨ n.k = 17 then tnamedS ns root i fun k => k == 3 && allS ns root n.kids 1
  else if n.k = 24 then tnamedS ns root i fun k => k == 3
  else if n.k = 9 ∨ n.k = 16 then tnamedS ns root i fun k => k == 1
  else if n.k = 7 then tnamedS ns root i fun k => k == tyS ns root (n.kids.getD 0 0).toNat
  else if n.k = 25 then (if procI ns n.tx = -1 then 3 else toldS (tplainS ns (procI ns n.tx).toNat))
  else if n.k = 26 ∨ n.k = 27 then toldS (operandsS ns root n)
  else if n.k = 10 then toldS (allS ns root n.kids.tail 1)
  else if n.k = 15 then toldS (allS ns root n.kids 1)
  else if n.k = 11 ∨ n.k = 12 then toldS (allS ns root (n.kids.take 1) 2)
  else if n.k = 13 then tcallS ns root i n
  else if n.k = 14 then toldS (((nd ns (own ns root i).toNat).n == 0) == (n.kids.length == 0) && allS ns root n.kids (nd ns (own ns root i).toNat).n)
  else 0
def wrongS : Nat → Nat → Option (Nat × Int)
  | _, 0 => none
  | i, m + 1 => match checkS ns root i == 0 with
    | true => wrongS (i + 1) m
    | false => some (i, checkS ns root i)
def mainT : Bs := [109, 97, 105, 110]
def checkTree : Int × Int := match rightS ns root with
  | false => (0, 1)
  | true => match wrongS ns root 0 ns.length with
    | some (i, e) => ((i : Int), e)
    | none => match procI ns mainT == -1 || ((nd ns (procI ns mainT).toNat).n != 0 || decide (0 < (paramsS ns (procI ns mainT).toNat).length)) with
      | true => (root, 11)
      | false => (0, 0)
def insT (i : Int) : Bool := decide (0 ≤ i) && decide (i < ns.length) && rightS ns root
def ownerT (i : Int) : Int := if insT ns root i then own ns root i.toNat else -1
def lookupT (i : Int) (name : Bs) : Int := if insT ns root i then meansS ns root i.toNat name else -1
def procedureT (name : Bs) : Int := if rightS ns root then procI ns name else -1
def plainT (i : Int) : Bool := insT ns root i && (nd ns i.toNat).k == 3 && tplainS ns i.toNat
def typeT (i : Int) : Int := if insT ns root i then tyS ns root i.toNat else 0
end
theorem natO_range {p : Nat → Bool} {n : Nat} : natO (firstB p n) = -1 ∨ (0 ≤ natO (firstB p n) ∧ natO (firstB p n) < n ∧ p (natO (firstB p n)).toNat = true) := by
  cases h : firstB p n with
  | none => exact .inl rfl
  | some j =>
    obtain ⟨h1, h2, _⟩ := firstB_some h
    exact .inr ⟨by simp [natO], by simp only [natO]; omega, by simpa [natO] using h2⟩
theorem means_range (ns : List Nd) (root : Int) (i : Nat) (name : Bs) : meansS ns root i name = -1 ∨ (0 ≤ meansS ns root i name ∧ meansS ns root i name < ns.length) := by
  unfold meansS
  split
  · exact .inl rfl
  · split
    · rename_i d hd
      obtain ⟨h1, _⟩ := firstB_some hd
      exact .inr ⟨by omega, by omega⟩
    · rcases natO_range (p := globP ns name) (n := ns.length) with h | ⟨h1, h2, _⟩
      · exact .inl h
      · exact .inr ⟨h1, h2⟩
theorem procI_range (ns : List Nd) (name : Bs) : procI ns name = -1 ∨ (0 ≤ procI ns name ∧ procI ns name < ns.length ∧ (nd ns (procI ns name).toNat).k = 3) := by
  rcases natO_range (p := procP ns name) (n := ns.length) with h | ⟨h1, h2, h3⟩
  · exact .inl h
  · exact .inr ⟨h1, h2, by simp only [procP, Bool.and_eq_true, beq_iff_eq] at h3; exact h3.1⟩
end Go.Ru

namespace Go.AE
open Go.Proofs
def isG (b : Nat) : Prop := False
  ∨ b = 0
  ∨ b = 1
  ∨ b = 2
  ∨ b = 3
structure GFacts (w : World) : Prop where
  tr : True
  maxLen : ∃ n, w.cell? ⟨0, 0, none⟩ = some (.int .i64 n)
  errSyntax : ∃ v, w.cell? ⟨1, 0, none⟩ = some v ∧ (v = .nilIface ∨ ∃ te pe, v = .iface te pe)
  errRange : ∃ v, w.cell? ⟨2, 0, none⟩ = some v ∧ (v = .nilIface ∨ ∃ te pe, v = .iface te pe)
  pow10 : Lib.TabIs Tryz.prog w "internal/strconv.uint64pow10" .u64 Lib.pow10Tab
theorem cell?_same {w w' : World} {b o : Nat} (h : w'.heap[b]? = w.heap[b]?) : w'.cell? ⟨b, o, none⟩ = w.cell? ⟨b, o, none⟩ := by
  simp [World.cell?, h]
theorem pow10_named : Tryz.prog.globalNamed "internal/strconv.uint64pow10" = some 3 := by kernel_rfl
theorem GFacts.same {w w' : World} (h : GFacts w) (hs : ∀ b, isG b → w'.heap[b]? = w.heap[b]?) : GFacts w' where
  tr := trivial
  maxLen := by rw [cell?_same (hs _ (by simp [isG]))]; exact h.maxLen
  errSyntax := by rw [cell?_same (hs _ (by simp [isG]))]; exact h.errSyntax
  errRange := by rw [cell?_same (hs _ (by simp [isG]))]; exact h.errRange
  pow10 := by
    have e := hs 3 (by simp [isG])
    have := h.pow10
    simp only [Lib.TabIs, World.var?, pow10_named, Option.bind_some, e] at this ⊢
    exact this
structure Gl (w : World) (I : Nat → Prop) : Prop where
  imm : ∀ b, isG b → I b
  facts : GFacts w
theorem Gl.mono {w w' : World} {I I' : Nat → Prop} (hI : ∀ b, I b → I' b) (hs : ∀ b, I b → w'.heap[b]? = w.heap[b]?) (h : Gl w I) : Gl w' I' :=
  ⟨fun b hb => hI b (h.imm b hb), h.facts.same fun b hb => hs b (h.imm b hb)⟩
end Go.AE

namespace Go.AE
inductive KT where
  | int (q : IntKind)
  | str
deriving DecidableEq
inductive MK where
  | i (q : IntKind) (n : Int)
  | s (l : List UInt8)
deriving DecidableEq
def MK.kt : MK → KT
  | .i q _ => .int q
  | .s _ => .str
def MK.val : MK → Value
  | .i q n => .int q n
  | .s l => .string ⟨l.toArray⟩
def KT.desc : KT → TypeDesc
  | .int q => .int q
  | .str => .string
theorem MK.val_str (s : ByteArray) : (MK.s s.data.toList).val = .string s := by
  simp [MK.val]
theorem bytes_eq (a b : ByteArray) : (a == b) = decide (a = b) := by
  have e : (a == b) = (a.data == b.data) := rfl
  rw [e]
  by_cases h : a = b
  · subst h; simp
  · have h' : a.data ≠ b.data := fun e => h (by cases a; cases b; simpa using e)
    simp [h, h']
theorem sameNow_key {kt : KT} {a b : MK} (ha : a.kt = kt) (hb : b.kt = kt) : Instr.sameNow kt.desc a.val b.val = some (decide (a = b)) := by
  cases a with
  | i q n =>
    subst ha
    cases b with
    | i q' n' =>
      simp only [MK.kt, KT.int.injEq] at hb
      subst hb
      by_cases e : n = n' <;> simp [Instr.sameNow, MK.val, KT.desc, MK.kt, e]
    | s l => simp [MK.kt] at hb
  | s l =>
    subst ha
    cases b with
    | i q' n' => simp [MK.kt] at hb
    | s l' =>
      by_cases e : l = l'
      · subst e; simp [Instr.sameNow, MK.val, KT.desc, MK.kt, bytes_eq]
      · have : (⟨l.toArray⟩ : ByteArray) ≠ ⟨l'.toArray⟩ := fun h => e (by injection h with h; simpa using h)
        simp only [Instr.sameNow, MK.val, KT.desc, MK.kt, bytes_eq, MK.s.injEq, e, this, decide_false]
theorem sameNow_true {kt : KT} {a : MK} (ha : a.kt = kt) {x : Value} (h : Instr.sameNow kt.desc a.val x = some true) : x = a.val := by
  cases a with
  | i q n =>
    subst ha
    cases x <;> simp [Instr.sameNow, MK.val, KT.desc, MK.kt] at h
    obtain ⟨h1, h2⟩ := h
    simp [MK.val, h1, h2]
  | s l =>
    subst ha
    cases x <;> simp [Instr.sameNow, MK.val, KT.desc, MK.kt, bytes_eq] at h
    simp [MK.val, h]
theorem findNow_at {d : TypeDesc} {k : Value} {es : List MapEntry} : ∀ {s j : Nat} {u : Value}, Instr.findNow d k es s = some (some (j, u)) →
    ∃ i e, j = s + i ∧ es[i]? = some e ∧ Instr.sameNow d k e.key = some true ∧ e.val = u := by
  induction es with
  | nil => intro s j u h; simp [Instr.findNow] at h
  | cons e es ih =>
    intro s j u h
    simp only [Instr.findNow] at h
    split at h
    · rename_i hs
      simp only [Option.some.injEq, Prod.mk.injEq] at h
      exact ⟨0, e, by omega, rfl, hs, h.2⟩
    · obtain ⟨i, e', h1, h2, h3, h4⟩ := ih h
      exact ⟨i + 1, e', by omega, by simpa using h2, h3, h4⟩
    · simp at h
theorem findNow_push {kt : KT} {k κ : MK} (hk : k.kt = kt) (hκ : κ.kt = kt) (e : MapEntry) (he : e.key = κ.val) {es : List MapEntry} : ∀ {s : Nat} {r : Option (Nat × Value)},
    Instr.findNow kt.desc k.val es s = some r → Instr.findNow kt.desc k.val (es ++ [e]) s = some (match r with | some x => some x | none => if k = κ then some (s + es.length, e.val) else none) := by
  induction es with
  | nil =>
    intro s r h
    simp only [Instr.findNow, Option.some.injEq] at h
    subst h
    simp only [List.nil_append, Instr.findNow, he, sameNow_key hk hκ]
    by_cases e : k = κ <;> simp [e]
  | cons a es ih =>
    intro s r h
    simp only [List.cons_append, Instr.findNow] at h ⊢
    cases hs : Instr.sameNow kt.desc k.val a.key with
    | none => rw [hs] at h; simp at h
    | some b =>
      rw [hs] at h
      cases b with
      | true => simp only [Option.some.injEq] at h ⊢; subst h; rfl
      | false =>
        simp only at h ⊢
        rw [ih h]
        cases r with
        | some x => rfl
        | none => simp only [List.length_cons]; split <;> simp; omega
theorem findNow_modify {kt : KT} {k κ : MK} (hk : k.kt = kt) (hκ : κ.kt = kt) (f : MapEntry → MapEntry) (hf : ∀ e, (f e).key = κ.val) {es : List MapEntry} : ∀ {i s : Nat} {r : Option (Nat × Value)} {u : Value},
    Instr.findNow kt.desc κ.val es s = some (some (s + i, u)) → Instr.findNow kt.desc k.val es s = some r →
    ∃ e, es[i]? = some e ∧ Instr.findNow kt.desc k.val (es.modify i f) s = some (if k = κ then some (s + i, (f e).val) else r) := by
  induction es with
  | nil => intro i s r u h; simp [Instr.findNow] at h
  | cons a es ih =>
    intro i s r u h h'
    simp only [Instr.findNow] at h h'
    cases hs : Instr.sameNow kt.desc κ.val a.key with
    | none => rw [hs] at h; simp at h
    | some b =>
      rw [hs] at h
      cases b with
      | true =>
        simp only [Option.some.injEq, Prod.mk.injEq] at h
        obtain ⟨h, rfl⟩ := h
        have hi : i = 0 := by omega
        subst hi
        refine ⟨a, rfl, ?_⟩
        have ha := sameNow_true hκ hs
        simp only [List.modify_zero_cons, Instr.findNow, hf, sameNow_key hk hκ]
        rw [ha, sameNow_key hk hκ] at h'
        by_cases e : k = κ
        · simp [e]
        · simp only [e, decide_false] at h' ⊢
          simpa using h'
      | false =>
        simp only at h
        obtain ⟨j, e, h1, h2, h3, h4⟩ := findNow_at h
        have hi : i = j + 1 := by omega
        subst hi
        have h0 : Instr.findNow kt.desc κ.val es (s + 1) = some (some (s + 1 + j, u)) := by rw [h]; simp; omega
        cases hs' : Instr.sameNow kt.desc k.val a.key with
        | none => rw [hs'] at h'; simp at h'
        | some b' =>
          rw [hs'] at h'
          cases b' with
          | true =>
            simp only [Option.some.injEq] at h'
            subst h'
            refine ⟨e, by simpa using h2, ?_⟩
            have hne : k ≠ κ := by
              intro e'
              subst e'
              rw [hs] at hs'
              simp at hs'
            simp only [List.modify_succ_cons, Instr.findNow, hs', hne, if_false]
          | false =>
            simp only at h'
            obtain ⟨e2, h5, h6⟩ := ih h0 h'
            refine ⟨e2, by simpa using h5, ?_⟩
            simp only [List.modify_succ_cons, Instr.findNow, hs', h6]
            split <;> simp
            omega
structure MapIs (kt : KT) (es : List MapEntry) (clock : Nat) (r : MK → Option (Nat × Value)) : Prop where
  find : ∀ κ, κ.kt = kt → Instr.findNow kt.desc κ.val es 0 = some (r κ)
  born : ∀ (i j : Nat) (e e' : MapEntry), es[i]? = some e → es[j]? = some e' → e.born = e'.born → i = j
  clock : ∀ (i : Nat) (e : MapEntry), es[i]? = some e → e.born < clock
theorem MapIs.at {kt : KT} {es : List MapEntry} {clock : Nat} {r : MK → Option (Nat × Value)} (h : MapIs kt es clock r) {κ : MK} (hκ : κ.kt = kt) {i : Nat} {u : Value} (hr : r κ = some (i, u)) :
    ∃ e, es[i]? = some e ∧ e.key = κ.val ∧ e.val = u := by
  have := h.find κ hκ
  rw [hr] at this
  obtain ⟨j, e, h1, h2, h3, h4⟩ := findNow_at this
  have : i = j := by omega
  subst this
  exact ⟨e, h2, sameNow_true hκ h3, h4⟩
theorem MapIs.empty (kt : KT) : MapIs kt [] 0 (fun _ => none) := ⟨fun _ _ => rfl, fun _ _ _ _ h => by simp at h, fun _ _ h => by simp at h⟩
theorem MapIs.push {kt : KT} {es : List MapEntry} {clock : Nat} {r : MK → Option (Nat × Value)} (h : MapIs kt es clock r) {κ : MK} (hκ : κ.kt = kt) (hr : r κ = none) (v : Value) :
    MapIs kt (es ++ [{ key := κ.val, val := v, born := clock }]) (clock + 1) (fun k => if k = κ then some (es.length, v) else r k) where
  find := fun k hk => by
    rw [findNow_push hk hκ _ rfl (h.find k hk)]
    by_cases e : k = κ
    · subst e; simp [hr]
    · simp only [e, if_false]; cases r k <;> rfl
  born := fun i j e e' hi hj hb => by
    rw [List.getElem?_append] at hi hj
    split at hi <;> split at hj
    · exact h.born i j e e' hi hj hb
    · rename_i hi' hj'
      have h1 := h.clock i e hi
      have h2 : e' = { key := κ.val, val := v, born := clock } := by
        cases hq : j - es.length with
        | zero => rw [hq] at hj; simpa using hj.symm
        | succ n => rw [hq] at hj; simp at hj
      rw [hb, h2] at h1
      simp at h1
    · rename_i hi' hj'
      have h1 := h.clock j e' hj
      have h2 : e = { key := κ.val, val := v, born := clock } := by
        cases hq : i - es.length with
        | zero => rw [hq] at hi; simpa using hi.symm
        | succ n => rw [hq] at hi; simp at hi
      rw [← hb, h2] at h1
      simp at h1
    · cases hq : i - es.length with
      | zero => cases hq' : j - es.length with
        | zero => omega
        | succ n => rw [hq'] at hj; simp at hj
      | succ n => rw [hq] at hi; simp at hi
  clock := fun i e hi => by
    rw [List.getElem?_append] at hi
    split at hi
    · exact Nat.lt_succ_of_lt (h.clock i e hi)
    · cases hq : i - es.length with
      | zero => rw [hq] at hi; simp at hi; rw [← hi]; exact Nat.lt_succ_self _
      | succ n => rw [hq] at hi; simp at hi
theorem MapIs.modify {kt : KT} {es : List MapEntry} {clock : Nat} {r : MK → Option (Nat × Value)} (h : MapIs kt es clock r) {κ : MK} (hκ : κ.kt = kt) {i : Nat} {u : Value} (hr : r κ = some (i, u)) (v : Value) :
    MapIs kt (es.modify i fun e => { e with key := κ.val, val := v }) clock (fun k => if k = κ then some (i, v) else r k) where
  find := fun k hk => by
    have h1 := h.find κ hκ
    rw [hr] at h1
    obtain ⟨e, _, h2⟩ := findNow_modify hk hκ (fun e => { e with key := κ.val, val := v }) (fun _ => rfl) (i := i) (s := 0) (u := u) (by rw [h1]; simp) (h.find k hk)
    rw [h2]
    simp
  born := fun a b e e' ha hb he => by
    rw [List.getElem?_modify] at ha hb
    have key : ∀ {a : Nat} {e : MapEntry}, Option.map (fun x => if i = a then { x with key := κ.val, val := v } else x) es[a]? = some e → ∃ e0, es[a]? = some e0 ∧ e0.born = e.born := by
      intro a e h
      cases hq : es[a]? with
      | none => rw [hq] at h; simp at h
      | some e0 =>
        rw [hq] at h
        refine ⟨e0, rfl, ?_⟩
        simp only [Option.map_some, Option.some.injEq] at h
        rw [← h]
        split <;> rfl
    have ha' : ∃ e0, es[a]? = some e0 ∧ e0.born = e.born := key (by rw [← ha]; cases es[a]? <;> simp [Functor.map] <;> split <;> rfl)
    have hb' : ∃ e0, es[b]? = some e0 ∧ e0.born = e'.born := key (by rw [← hb]; cases es[b]? <;> simp [Functor.map] <;> split <;> rfl)
    obtain ⟨x, h1, h2⟩ := ha'
    obtain ⟨y, h3, h4⟩ := hb'
    exact h.born a b x y h1 h3 (by rw [h2, h4, he])
  clock := fun a e ha => by
    rw [List.getElem?_modify] at ha
    cases hq : es[a]? with
    | none => rw [hq] at ha; simp at ha
    | some e0 =>
      rw [hq] at ha
      have := h.clock a e0 hq
      simp only [Option.map_eq_map, Option.map_some, Option.some.injEq] at ha
      rw [← ha]
      split <;> exact this
end Go.AE

namespace Go.AE
inductive PV where
  | int (k : IntKind) (n : Int)
  | bool (b : Bool)
  | str (l : List UInt8)
  | nilp
  | nils
  | nilf
  | nili
  | nilm
  | fn (f : FuncId)
  | sl (sz n : Nat) (f : Nat → List PV)
  | mp (kt : KT) (g : MK → Option PV)
inductive AV where
  | p (v : PV)
  | ptr (r ver n i off : Nat)
  | rop (cs : List PV) (off : Nat)
  | slr (r ver off n : Nat)
  | fn (f : FuncId) (first cap : List AV)
  | iface (t : TypeId) (v : AV)
  | agg (cs : List AV)
  | tup (vs : List AV)
  | yld (r : Nat)
  | mref (r : Nat)
  | junk
def look : List (Nat × AV) → Nat → AV
  | [], _ => .junk
  | (j, v) :: r, i => match Nat.beq j i with
    | true => v
    | false => look r i
inductive Inf where
  | absent
  | dead
  | nil (ver : Nat)
  | live (ver n sz cap : Nat)
def Inf.isLive : Inf → Prop
  | .live _ _ _ _ => True
  | _ => False
def Inf.old (l : Inf) (ver n : Nat) : Prop :=
  match l with
  | .absent => False
  | .dead => True
  | .nil v => ver < v
  | .live v m _ _ => ver < v ∨ (ver = v ∧ n < m)
structure Mp where
  ρ : Nat → Nat
  I : Nat → Prop
  L : Nat → Inf
inductive VP (w : World) (I : Nat → Prop) : PV → Value → Prop where
  | int (k : IntKind) (n : Int) : VP w I (.int k n) (.int k n)
  | bool (b : Bool) : VP w I (.bool b) (.bool b)
  | str (s : ByteArray) (l : List UInt8) (h : s.data.toList = l) : VP w I (.str l) (.string s)
  | nilp : VP w I .nilp (.pointer none)
  | nils : VP w I .nils (.slice none 0 0)
  | nilf : VP w I .nilf .nilFunc
  | nili : VP w I .nili .nilIface
  | nilm : VP w I .nilm (.map none)
  | fn (f : FuncId) : VP w I (.fn f) (.func (.func f) #[] #[])
  | sl0 (sz : Nat) (f : Nat → List PV) (a : Option Addr) (c : Nat) : VP w I (.sl sz 0 f) (.slice a 0 c)
  | sl (sz n : Nat) (f : Nat → List PV) (b o c : Nat) (u : Nat → Nat → Value) (hI : I b) (hcap : n ≤ c ∧ n ≤ maxLen)
      (hc : ∀ i, i < n → ∀ j, j < (f i).length → w.cell? ⟨b, o + (i * sz + j), none⟩ = some (u i j))
      (hv : ∀ i, i < n → ∀ j (hj : j < (f i).length), VP w I (f i)[j] (u i j)) : VP w I (.sl sz n f) (.slice (some ⟨b, o, none⟩) n c)
  | mp (kt : KT) (g : MK → Option PV) (b : Nat) (es : Array MapEntry) (clock : Nat) (r : MK → Option (Nat × Value)) (hI : I b) (ho : w.heap[b]? = some (.map es clock)) (hr : MapIs kt es.toList clock r)
      (hn : ∀ κ, κ.kt = kt → g κ = none → r κ = none) (hs : ∀ κ p, κ.kt = kt → g κ = some p → (r κ).isSome = true)
      (hv : ∀ κ p i u, κ.kt = kt → g κ = some p → r κ = some (i, u) → VP w I p u) : VP w I (.mp kt g) (.map (some b))
inductive V (w : World) (m : Mp) : AV → Value → Prop where
  | p (v : PV) (u : Value) (h : VP w m.I v u) : V w m (.p v) u
  | ptr (r ver n i off sz cap : Nat) (h : m.L r = .live ver n sz cap) (hi : i < n) : V w m (.ptr r ver n i off) (.pointer (some ⟨m.ρ r, i * sz + off, none⟩))
  | ptrOld (r ver n i off b o : Nat) (h : (m.L r).old ver n) : V w m (.ptr r ver n i off) (.pointer (some ⟨b, o, none⟩))
  | slr (r ver off n N sz cap : Nat) (h : m.L r = .live ver N sz cap) (hn : off + n = N) : V w m (.slr r ver off n) (.slice (some ⟨m.ρ r, off * sz, none⟩) n (cap - off))
  | slrNil (r ver : Nat) (h : m.L r = .nil ver) : V w m (.slr r ver 0 0) (.slice none 0 0)
  | slrOld (r ver off n : Nat) (ad : Option Addr) (c : Nat) (h : (m.L r).old ver (off + n)) : V w m (.slr r ver off n) (.slice ad n c)
  | rop (cs : List PV) (off b o : Nat) (u : Nat → Value) (hI : m.I b)
      (hc : ∀ j, j < cs.length → w.cell? ⟨b, o + j, none⟩ = some (u j))
      (hv : ∀ j (hj : j < cs.length), VP w m.I cs[j] (u j)) : V w m (.rop cs off) (.pointer (some ⟨b, o + off, none⟩))
  | fn (f : FuncId) (first cap : List AV) (A B : Array Value) (hA : first.length = A.size) (hB : cap.length = B.size)
      (h1 : ∀ j (hj : j < first.length) (hj' : j < A.size), V w m first[j] A[j]) (h2 : ∀ j (hj : j < cap.length) (hj' : j < B.size), V w m cap[j] B[j]) :
      V w m (.fn f first cap) (.func (.func f) A B)
  | iface (t : TypeId) (v : AV) (u : Value) (h : V w m v u) : V w m (.iface t v) (.iface t u)
  | agg (cs : List AV) (A : Array Value) (hA : cs.length = A.size) (h : ∀ j (hj : j < cs.length) (hj' : j < A.size), V w m cs[j] A[j]) : V w m (.agg cs) (.agg A)
  | tup (cs : List AV) (A : Array Value) (hA : cs.length = A.size) (h : ∀ j (hj : j < cs.length) (hj' : j < A.size), V w m cs[j] A[j]) : V w m (.tup cs) (.tuple A)
  | yld (r sz cap : Nat) (h : m.L r = .live 0 1 sz cap) : V w m (.yld r) (.func (.yield (m.ρ r)) #[] #[])
  | yldOld (r b : Nat) (h : (m.L r).old 0 1) : V w m (.yld r) (.func (.yield b) #[] #[])
  | mref (r sz cap : Nat) (h : m.L r = .live 0 1 sz cap) : V w m (.mref r) (.map (some (m.ρ r)))
  | mrefOld (r b : Nat) (h : (m.L r).old 0 1) : V w m (.mref r) (.map (some b))
  | junk (u : Value) : V w m .junk u
def AV.one : AV → Bool
  | .p _ | .ptr _ _ _ _ _ | .rop _ _ | .slr _ _ _ _ | .fn _ _ _ | .iface _ _ | .yld _ | .mref _ => true
  | _ => false
theorem VP.one {w : World} {I : Nat → Prop} {v : PV} {u : Value} (h : VP w I v u) : u.oneCell' = true := by cases h <;> rfl
theorem V.one {w : World} {m : Mp} {a : AV} {u : Value} (h : V w m a u) (h1 : a.one = true) : u.oneCell' = true := by
  cases h with
  | p v u h => exact h.one
  | agg => simp [AV.one] at h1
  | tup => simp [AV.one] at h1
  | junk => simp [AV.one] at h1
  | _ => rfl
def Inf.step (l l' : Inf) (same : Prop) : Prop :=
  match l with
  | .absent => True
  | .dead => l' = .dead
  | .nil v => l' = .dead ∨ l' = .nil v ∨ ∃ v' n' sz' cap', l' = .live v' n' sz' cap' ∧ (v < v' ∨ (v = v' ∧ 0 < n'))
  | .live v n sz cap => l' = .dead ∨ (l' = .live v n sz cap ∧ same) ∨ ∃ v' n' sz' cap', l' = .live v' n' sz' cap' ∧ (v < v' ∨ (v = v' ∧ n < n'))
structure Tr (w : World) (m : Mp) (w' : World) (m' : Mp) : Prop where
  os : w'.os = w.os
  tape : w'.tape = w.tape
  output : w'.output = w.output
  size : w.heap.size ≤ w'.heap.size
  out : ∀ b, b < w.heap.size → (∀ r, (m.L r).isLive → m.ρ r ≠ b) → w'.heap[b]? = w.heap[b]?
  imm : ∀ b, m.I b → m'.I b
  same : ∀ b, m.I b → w'.heap[b]? = w.heap[b]?
  newI : ∀ b, m'.I b → m.I b ∨ (∃ r, (m.L r).isLive ∧ m.ρ r = b) ∨ w.heap.size ≤ b
  step : ∀ r, (m.L r).step (m'.L r) (m'.ρ r = m.ρ r)
  newρ : ∀ r, (m'.L r).isLive → ((m.L r).isLive ∧ m'.ρ r = m.ρ r) ∨ w.heap.size ≤ m'.ρ r
theorem Inf.step_refl (l : Inf) (p : Prop) (h : p) : l.step l p := by
  cases l <;> simp [Inf.step, h]
theorem Inf.step_trans {l l' l'' : Inf} {p q r : Prop} (h : l.step l' p) (h' : l'.step l'' q) (hr : p → q → r) : l.step l'' r := by
  cases l with
  | absent => trivial
  | dead => simp only [Inf.step] at h; subst h; exact h'
  | nil v =>
    simp only [Inf.step] at h ⊢
    rcases h with h | h | ⟨v', n', sz', cap', h, hlt⟩
    · subst h; exact .inl h'
    · subst h; exact h'
    · subst h
      simp only [Inf.step] at h'
      rcases h' with h' | ⟨h', _⟩ | ⟨v2, n2, s2, c2, h', hlt2⟩
      · exact .inl h'
      · exact .inr (.inr ⟨_, _, _, _, h', hlt⟩)
      · exact .inr (.inr ⟨_, _, _, _, h', by omega⟩)
  | live v n sz cap =>
    simp only [Inf.step] at h ⊢
    rcases h with h | ⟨h, hp⟩ | ⟨v', n', sz', cap', h, hlt⟩
    · subst h; exact .inl h'
    · subst h
      simp only [Inf.step] at h'
      rcases h' with h' | ⟨h', hq⟩ | h'
      · exact .inl h'
      · exact .inr (.inl ⟨h', hr hp hq⟩)
      · exact .inr (.inr h')
    · subst h
      simp only [Inf.step] at h'
      rcases h' with h' | ⟨h', _⟩ | ⟨v2, n2, s2, c2, h', hlt2⟩
      · exact .inl h'
      · exact .inr (.inr ⟨_, _, _, _, h', hlt⟩)
      · exact .inr (.inr ⟨_, _, _, _, h', by omega⟩)
theorem Inf.step_imp {l l' : Inf} {p q : Prop} (h : p → q) (h' : l.step l' p) : l.step l' q := by
  cases l with
  | live v n sz cap =>
    simp only [Inf.step] at h' ⊢
    rcases h' with h' | ⟨h', hp⟩ | h'
    · exact .inl h'
    · exact .inr (.inl ⟨h', h hp⟩)
    · exact .inr (.inr h')
  | _ => exact h'
theorem Inf.old_step {l l' : Inf} {p : Prop} {ver n : Nat} (h : l.old ver n) (h' : l.step l' p) : l'.old ver n := by
  cases l with
  | absent => exact h.elim
  | dead => simp only [Inf.step] at h'; subst h'; exact h
  | nil v =>
    simp only [Inf.step] at h'
    simp only [Inf.old] at h
    rcases h' with h' | h' | ⟨v2, n2, s2, c2, h', hlt⟩ <;> subst h' <;> simp only [Inf.old]
    · exact h
    · omega
  | live v m sz cap =>
    simp only [Inf.step] at h'
    simp only [Inf.old] at h
    rcases h' with h' | ⟨h', _⟩ | ⟨v2, n2, s2, c2, h', hlt⟩ <;> subst h' <;> simp only [Inf.old]
    · exact h
    · omega
theorem Tr.refl (w : World) (m : Mp) : Tr w m w m :=
  ⟨rfl, rfl, rfl, Nat.le_refl _, fun _ _ _ => rfl, fun _ h => h, fun _ _ => rfl, fun _ h => .inl h, fun _ => Inf.step_refl _ _ rfl, fun _ h => .inl ⟨h, rfl⟩⟩
theorem Tr.trans {w w1 w2 : World} {m m1 m2 : Mp} (h : Tr w m w1 m1) (k : Tr w1 m1 w2 m2) : Tr w m w2 m2 where
  os := k.os.trans h.os
  tape := k.tape.trans h.tape
  output := k.output.trans h.output
  size := Nat.le_trans h.size k.size
  out := fun b hb hr => by
    rw [k.out b (Nat.lt_of_lt_of_le hb h.size) ?_, h.out b hb hr]
    intro r hl e
    rcases h.newρ r hl with ⟨h1, h2⟩ | h1
    · exact hr r h1 (h2 ▸ e)
    · omega
  imm := fun b hb => k.imm b (h.imm b hb)
  same := fun b hb => (k.same b (h.imm b hb)).trans (h.same b hb)
  newI := fun b hb => by
    rcases k.newI b hb with h1 | ⟨r, h1, h2⟩ | h1
    · exact h.newI b h1
    · rcases h.newρ r h1 with ⟨h3, h4⟩ | h3
      · exact .inr (.inl ⟨r, h3, h4 ▸ h2⟩)
      · exact .inr (.inr (by omega))
    · exact .inr (.inr (Nat.le_trans h.size h1))
  step := fun r => Inf.step_trans (h.step r) (k.step r) (fun a b => b.trans a)
  newρ := fun r hr => by
    rcases k.newρ r hr with ⟨h1, h2⟩ | h1
    · rcases h.newρ r h1 with ⟨h3, h4⟩ | h3
      · exact .inl ⟨h3, h2.trans h4⟩
      · exact .inr (by omega)
    · exact .inr (Nat.le_trans h.size h1)
theorem VP.mono {w w' : World} {I I' : Nat → Prop} (hI : ∀ b, I b → I' b) (hs : ∀ b, I b → w'.heap[b]? = w.heap[b]?) {v : PV} {u : Value} (h : VP w I v u) : VP w' I' v u := by
  induction h with
  | int => exact .int ..
  | bool => exact .bool ..
  | str s l h => exact .str s l h
  | nilp => exact .nilp
  | nils => exact .nils
  | nilf => exact .nilf
  | nili => exact .nili
  | nilm => exact .nilm
  | fn => exact .fn ..
  | sl0 => exact .sl0 ..
  | sl sz n f b o c u hb hcap hc hv ih =>
    refine .sl sz n f b o c u (hI b hb) hcap (fun i hi j hj => ?_) ih
    rw [← hc i hi j hj]
    simp [World.cell?, hs b hb]
  | mp kt g b es clock r hb ho hr hn hs' hv ih => exact .mp kt g b es clock r (hI b hb) (by rw [hs b hb]; exact ho) hr hn hs' ih
theorem V.mono {w w' : World} {m m' : Mp} (t : Tr w m w' m') {a : AV} {u : Value} (h : V w m a u) : V w' m' a u := by
  induction h with
  | p v u h => exact .p v u (h.mono t.imm t.same)
  | ptr r ver n i off sz cap h hi =>
    have hs := t.step r
    rw [h] at hs
    simp only [Inf.step] at hs
    rcases hs with hs | ⟨hs, he⟩ | ⟨v', n', sz', cap', hs, hlt⟩
    · exact .ptrOld _ _ _ _ _ _ _ (by rw [hs]; trivial)
    · rw [← he]; exact .ptr _ _ _ _ _ _ _ hs hi
    · exact .ptrOld _ _ _ _ _ _ _ (by rw [hs]; exact hlt)
  | ptrOld r ver n i off b o h => exact .ptrOld _ _ _ _ _ _ _ (Inf.old_step h (t.step r))
  | slr r ver off n N sz cap h hn =>
    have hs := t.step r
    rw [h] at hs
    simp only [Inf.step] at hs
    rcases hs with hs | ⟨hs, he⟩ | ⟨v', n', sz', cap', hs, hlt⟩
    · exact .slrOld _ _ _ _ _ _ (by rw [hs]; trivial)
    · rw [← he]; exact .slr _ _ _ _ _ _ _ hs hn
    · exact .slrOld _ _ _ _ _ _ (by rw [hs, hn]; exact hlt)
  | slrNil r ver h =>
    have hs := t.step r
    rw [h] at hs
    simp only [Inf.step] at hs
    rcases hs with hs | hs | ⟨v', n', sz', cap', hs, hlt⟩
    · exact .slrOld _ _ _ _ _ _ (by rw [hs]; trivial)
    · exact .slrNil _ _ hs
    · exact .slrOld _ _ _ _ _ _ (by rw [hs]; exact hlt)
  | slrOld r ver off n ad c h => exact .slrOld _ _ _ _ _ _ (Inf.old_step h (t.step r))
  | rop cs off b o u hb hc hv =>
    refine .rop cs off b o u (t.imm b hb) (fun j hj => ?_) (fun j hj => (hv j hj).mono t.imm t.same)
    rw [← hc j hj]
    simp [World.cell?, t.same b hb]
  | fn f first cap A B hA hB h1 h2 ih1 ih2 => exact .fn f first cap A B hA hB ih1 ih2
  | iface t v u h ih => exact .iface t v u ih
  | agg cs A hA h ih => exact .agg cs A hA ih
  | tup cs A hA h ih => exact .tup cs A hA ih
  | yld r sz cap h =>
    have hs := t.step r
    rw [h] at hs
    simp only [Inf.step] at hs
    rcases hs with hs | ⟨hs, he⟩ | ⟨v', n', sz', cap', hs, hlt⟩
    · exact .yldOld _ _ (by rw [hs]; trivial)
    · rw [← he]; exact .yld _ _ _ hs
    · exact .yldOld _ _ (by rw [hs]; exact hlt)
  | yldOld r b h => exact .yldOld _ _ (Inf.old_step h (t.step r))
  | mref r sz cap h =>
    have hs := t.step r
    rw [h] at hs
    simp only [Inf.step] at hs
    rcases hs with hs | ⟨hs, he⟩ | ⟨v', n', sz', cap', hs, hlt⟩
    · exact .mrefOld _ _ (by rw [hs]; trivial)
    · rw [← he]; exact .mref _ _ _ hs
    · exact .mrefOld _ _ (by rw [hs]; exact hlt)
  | mrefOld r b h => exact .mrefOld _ _ (Inf.old_step h (t.step r))
  | junk u => exact .junk u
inductive LSt where
  | ready
  | busy
  | ret
  | exit (n : Nat)
  | over
def LSt.state : LSt → LoopState
  | .ready => .ready
  | .busy => .busy
  | .ret => .done
  | .exit _ => .done
  | .over => .exhausted
def LSt.pends : LSt → Option Code → Prop
  | .ready, p => p = none
  | .busy, p => p = none
  | .ret, p => p = some .ret
  | .exit n, p => p = some (.exit n)
  | .over, _ => True
inductive ABlk where
  | absent
  | dead
  | box (ty : TypeId) (cs : List AV)
  | arr (ty : TypeId) (sz ver n : Nat) (f : Nat → List AV)
  | lp (s : LSt) (env : List (Nat × AV)) (N : Nat) (ps : Array Tmp) (assign body : Code)
  | mp (kt : KT) (g : MK → Option AV) (st : List (MK × Nat))
structure MpOk (V' : AV → Value → Prop) (kt : KT) (es : List MapEntry) (clock : Nat) (g : MK → Option AV) (st : List (MK × Nat)) (r : MK → Option (Nat × Value)) : Prop where
  is : MapIs kt es clock r
  no : ∀ κ, κ.kt = kt → g κ = none → r κ = none
  yes : ∀ κ a, κ.kt = kt → g κ = some a → ∃ i u, r κ = some (i, u) ∧ V' a u
  st : ∀ κ n, (κ, n) ∈ st → κ.kt = kt ∧ ∃ i u e, r κ = some (i, u) ∧ es[i]? = some e ∧ e.born = n
theorem MpOk.mono {V' V2 : AV → Value → Prop} {kt : KT} {es : List MapEntry} {clock : Nat} {g : MK → Option AV} {st : List (MK × Nat)} {r : MK → Option (Nat × Value)} (h : MpOk V' kt es clock g st r)
    (hV : ∀ κ a u, g κ = some a → V' a u → V2 a u) : MpOk V2 kt es clock g st r :=
  ⟨h.is, h.no, fun κ a hk hg => let ⟨i, u, h1, h2⟩ := h.yes κ a hk hg; ⟨i, u, h1, hV κ a u hg h2⟩, h.st⟩
def BlkOk (w : World) (m : Mp) (l : Inf) (g : Nat) : ABlk → Prop
  | .absent => l = .absent
  | .dead => l = .dead
  | .box ty cs => l = .live 0 1 cs.length 1 ∧ ∃ c : Array Value, w.heap[g]? = some (.cells c ty (0, 0)) ∧ c.size = cs.length ∧
      ∀ j (hj : j < cs.length), ∃ u, c[j]? = some u ∧ V w m cs[j] u
  | .arr ty sz ver n f => (l = .nil ver ∧ n = 0) ∨ ∃ (cap : Nat) (c : Array Value), l = .live ver n sz cap ∧ n ≤ cap ∧ cap ≤ maxLen ∧ w.heap[g]? = some (.cells c ty (0, 0)) ∧ c.size = cap * sz ∧
      ∀ i, i < n → (f i).length = sz ∧ ∀ j (hj : j < (f i).length), ∃ u, c[i * sz + j]? = some u ∧ V w m (f i)[j] u
  | .lp s env N ps assign body => l = .live 0 1 1 1 ∧ ∃ (p : Option Code) (fn : FuncId) (tmps : Array Value) (D : Nat),
      w.heap[g]? = some (.loop { state := s.state, pending := p, fn := fn, tmps := tmps, params := ps, assign := assign, body := body, defers := D }) ∧ s.pends p ∧ tmps.size = N ∧
      ∀ d, V w m (look env d) (tmps.getD d undef)
  | .mp kt q st => l = .live 0 1 1 1 ∧ ∃ (es : Array MapEntry) (clock : Nat) (r : MK → Option (Nat × Value)), w.heap[g]? = some (.map es clock) ∧ MpOk (V w m) kt es.toList clock q st r
structure St (w : World) (m : Mp) (H : Nat → ABlk) : Prop where
  inj : ∀ r r', (m.L r).isLive → (m.L r').isLive → m.ρ r = m.ρ r' → r = r'
  notI : ∀ r, (m.L r).isLive → ¬ m.I (m.ρ r)
  lt : ∀ r, (m.L r).isLive → m.ρ r < w.heap.size
  Ilt : ∀ b, m.I b → b < w.heap.size
  gl : Gl w m.I
  blk : ∀ r, BlkOk w m (m.L r) (m.ρ r) (H r)
theorem BlkOk.mono {w w' : World} {m m' : Mp} {l : Inf} {g : Nat} {b : ABlk} (hb : w'.heap[g]? = w.heap[g]?) (hV : ∀ a u, V w m a u → V w' m' a u) (h : BlkOk w m l g b) : BlkOk w' m' l g b := by
  cases b with
  | absent => exact h
  | dead => exact h
  | box ty cs =>
    obtain ⟨hl, c, h1, h2, h3⟩ := h
    exact ⟨hl, c, hb.trans h1, h2, fun j hj => let ⟨u, a, b⟩ := h3 j hj; ⟨u, a, hV _ _ b⟩⟩
  | arr ty sz ver n f =>
    rcases h with h | ⟨cap, c, hl, h0, h00, h1, h2, h3⟩
    · exact .inl h
    exact .inr ⟨cap, c, hl, h0, h00, hb.trans h1, h2, fun i hi => ⟨(h3 i hi).1, fun j hj => let ⟨u, a, b⟩ := (h3 i hi).2 j hj; ⟨u, a, hV _ _ b⟩⟩⟩
  | lp s env N ps asg bd =>
    obtain ⟨hl, p, fn, tmps, D, h1, h2, h3, h4⟩ := h
    exact ⟨hl, p, fn, tmps, D, hb.trans h1, h2, h3, fun d => hV _ _ (h4 d)⟩
  | mp kt q st =>
    obtain ⟨hl, es, clock, r, h1, h2⟩ := h
    exact ⟨hl, es, clock, r, hb.trans h1, h2.mono fun _ a u _ => hV a u⟩
theorem Tr.drew (w : World) (m : Mp) : Tr w m w.drew m :=
  ⟨rfl, rfl, rfl, Nat.le_refl _, fun _ _ _ => rfl, fun _ h => h, fun _ _ => rfl, fun _ h => .inl h, fun _ => Inf.step_refl _ _ rfl, fun _ h => .inl ⟨h, rfl⟩⟩
theorem St.drew {w : World} {m : Mp} {H : Nat → ABlk} (h : St w m H) : St w.drew m H :=
  ⟨h.inj, h.notI, h.lt, h.Ilt, Gl.mono (w := w) (w' := w.drew) (fun _ h => h) (fun _ _ => rfl) h.gl, fun r => BlkOk.mono (w := w) (m := m) rfl (fun _ _ hv => hv.mono (Tr.drew w m)) (h.blk r)⟩
def upd (H : Nat → ABlk) (r : Nat) (b : ABlk) : Nat → ABlk := fun k => if k = r then b else H k
def Mp.set (m : Mp) (r g : Nat) (l : Inf) : Mp := { m with ρ := fun k => if k = r then g else m.ρ k, L := fun k => if k = r then l else m.L k }
theorem heap_alloc (w : World) (o : Obj) (b : Nat) (h : b < w.heap.size) : (w.alloc o).heap[b]? = w.heap[b]? := by
  show (w.heap.push o)[b]? = _
  rw [Array.getElem?_push, if_neg (by omega)]
theorem Tr.alloc (w : World) (m : Mp) (o : Obj) (r : Nat) (l : Inf) (hr : m.L r = .absent) (hI : ∀ b, m.I b → b < w.heap.size) : Tr w m (w.alloc o) (m.set r w.heap.size l) where
  os := rfl
  tape := rfl
  output := rfl
  size := by simp
  out := fun b hb _ => heap_alloc w o b hb
  imm := fun _ h => h
  same := fun b hb => heap_alloc w o b (hI b hb)
  newI := fun _ h => .inl h
  step := fun k => by
    simp only [Mp.set]
    by_cases hk : k = r
    · subst hk; rw [hr]; trivial
    · simp only [hk, if_false]; exact Inf.step_refl _ _ trivial
  newρ := fun k hk => by
    simp only [Mp.set] at hk ⊢
    by_cases hk' : k = r
    · subst hk'; simp
    · simp only [hk', if_false] at hk ⊢; exact .inl ⟨hk, trivial⟩
theorem St.absent {w : World} {m : Mp} {H : Nat → ABlk} (h : St w m H) {r : Nat} (hr : H r = .absent) : m.L r = .absent := by
  have := h.blk r
  rw [hr] at this
  exact this
theorem BlkOk.nolive {w w' : World} {m m' : Mp} {l : Inf} {g g' : Nat} {b : ABlk} (h : BlkOk w m l g b) (hl : ¬ l.isLive) : BlkOk w' m' l g' b := by
  cases b with
  | absent => exact h
  | dead => exact h
  | box ty cs => rw [h.1] at hl; exact absurd trivial hl
  | arr ty sz ver n f =>
    rcases h with h | ⟨cap, c, hl', _⟩
    · exact .inl h
    · rw [hl'] at hl; exact absurd trivial hl
  | lp s env N ps asg bd => rw [h.1] at hl; exact absurd trivial hl
  | mp kt q st => rw [h.1] at hl; exact absurd trivial hl
theorem St.alloc {w : World} {m : Mp} {H : Nat → ABlk} (h : St w m H) (o : Obj) (r : Nat) (l : Inf) (hr : H r = .absent) (b : ABlk)
    (hb : BlkOk (w.alloc o) (m.set r w.heap.size l) l w.heap.size b) : St (w.alloc o) (m.set r w.heap.size l) (upd H r b) := by
  have hT := Tr.alloc w m o r l (h.absent hr) h.Ilt
  refine ⟨fun r1 r2 h1 h2 e => ?_, fun r1 h1 => ?_, fun r1 h1 => ?_, fun b hb => ?_, h.gl.mono hT.imm hT.same, fun r1 => ?_⟩
  · simp only [Mp.set] at h1 h2 e
    by_cases e1 : r1 = r <;> by_cases e2 : r2 = r
    · rw [e1, e2]
    · simp only [e1, e2, if_true, if_false] at h1 h2 e
      have := h.lt r2 h2; omega
    · simp only [e1, e2, if_true, if_false] at h1 h2 e
      have := h.lt r1 h1; omega
    · simp only [e1, e2, if_false] at h1 h2 e
      exact h.inj r1 r2 h1 h2 e
  · simp only [Mp.set] at h1 ⊢
    by_cases e1 : r1 = r
    · simp only [e1, if_true]; intro hI; have := h.Ilt _ hI; omega
    · simp only [e1, if_false] at h1 ⊢; exact h.notI r1 h1
  · simp only [Mp.set] at h1 ⊢
    by_cases e1 : r1 = r
    · simp [e1]
    · simp only [e1, if_false] at h1 ⊢; have := h.lt r1 h1; simp; omega
  · have := h.Ilt b hb; simp; omega
  · by_cases e1 : r1 = r
    · simp only [Mp.set, upd, e1, if_true]; exact hb
    · have hk := h.blk r1
      have e : BlkOk (w.alloc o) (m.set r w.heap.size l) (m.L r1) (m.ρ r1) (H r1) := by
        by_cases hl : (m.L r1).isLive
        · exact hk.mono (heap_alloc w o _ (h.lt r1 hl)) (fun _ _ hv => hv.mono hT)
        · exact hk.nolive hl
      simp only [Mp.set, upd, e1, if_false]
      exact e
theorem heap_setRow_ne (w : World) (g : Nat) (c : Array Value) (b : Nat) (h : b ≠ g) : (w.setRow g c).heap[b]? = w.heap[b]? := by
  simp only [World.setRow, Array.getElem?_modify]
  rw [if_neg (fun e => h e.symm)]
theorem size_setRow (w : World) (g : Nat) (c : Array Value) : (w.setRow g c).heap.size = w.heap.size := by simp [World.setRow]
theorem Tr.setRow {w : World} {m : Mp} {H : Nat → ABlk} (h : St w m H) (r : Nat) (hr : (m.L r).isLive) (c : Array Value) : Tr w m (w.setRow (m.ρ r) c) m where
  os := rfl
  tape := rfl
  output := rfl
  size := by rw [size_setRow]; exact Nat.le_refl _
  out := fun b _ hn => heap_setRow_ne w _ c b (fun e => hn r hr e.symm)
  imm := fun _ h => h
  same := fun b hb => heap_setRow_ne w _ c b (fun e => h.notI r hr (e ▸ hb))
  newI := fun _ h => .inl h
  step := fun k => Inf.step_refl _ _ rfl
  newρ := fun k hk => .inl ⟨hk, rfl⟩
theorem St.setRow {w : World} {m : Mp} {H : Nat → ABlk} (h : St w m H) (r : Nat) (hr : (m.L r).isLive) (c : Array Value) (b : ABlk)
    (hb : BlkOk (w.setRow (m.ρ r) c) m (m.L r) (m.ρ r) b) : St (w.setRow (m.ρ r) c) m (upd H r b) := by
  have hT := Tr.setRow h r hr c
  refine ⟨h.inj, h.notI, fun k hk => by rw [size_setRow]; exact h.lt k hk, fun b hb => by rw [size_setRow]; exact h.Ilt b hb, h.gl.mono hT.imm hT.same, fun k => ?_⟩
  by_cases e : k = r
  · subst e; simp only [upd, if_true]; exact hb
  · simp only [upd, e, if_false]
    have hk := h.blk k
    by_cases hl : (m.L k).isLive
    · exact hk.mono (heap_setRow_ne w _ c _ (fun e' => e (h.inj k r hl hr e'))) (fun _ _ hv => hv.mono hT)
    · exact hk.nolive hl
theorem Tr.putObj {w : World} {m : Mp} {H : Nat → ABlk} (h : St w m H) (r : Nat) (hr : (m.L r).isLive) (o : Obj) : Tr w m (w.putObj (m.ρ r) o) m where
  os := rfl
  tape := rfl
  output := rfl
  size := by simp
  out := fun b _ hn => World.putObj_heap_other (fun e => hn r hr e.symm)
  imm := fun _ h => h
  same := fun b hb => World.putObj_heap_other (fun e => h.notI r hr (e ▸ hb))
  newI := fun _ h => .inl h
  step := fun k => Inf.step_refl _ _ rfl
  newρ := fun k hk => .inl ⟨hk, rfl⟩
theorem St.putObj {w : World} {m : Mp} {H : Nat → ABlk} (h : St w m H) (r : Nat) (hr : (m.L r).isLive) (o : Obj) (b : ABlk)
    (hb : BlkOk (w.putObj (m.ρ r) o) m (m.L r) (m.ρ r) b) : St (w.putObj (m.ρ r) o) m (upd H r b) := by
  have hT := Tr.putObj h r hr o
  refine ⟨h.inj, h.notI, fun k hk => by simpa using h.lt k hk, fun b hb => by simpa using h.Ilt b hb, h.gl.mono hT.imm hT.same, fun k => ?_⟩
  by_cases e : k = r
  · subst e; simp only [upd, if_true]; exact hb
  · simp only [upd, e, if_false]
    have hk := h.blk k
    by_cases hl : (m.L k).isLive
    · exact hk.mono (World.putObj_heap_other (fun e' => e (h.inj k r hl hr e'))) (fun _ _ hv => hv.mono hT)
    · exact hk.nolive hl
theorem V.aside {w : World} {m : Mp} (D : Nat) (hD : ¬ m.I D) (o : Obj) {a : AV} {u : Value} (h : V w m a u) : V (w.putObj D o) m a u := by
  have hs : ∀ b, m.I b → (w.putObj D o).heap[b]? = w.heap[b]? := fun b hb => World.putObj_heap_other (fun e => hD (e ▸ hb))
  induction h with
  | p v u h => exact .p v u (h.mono (fun _ h => h) hs)
  | ptr r ver n i off sz cap h hi => exact .ptr r ver n i off sz cap h hi
  | ptrOld r ver n i off b o h => exact .ptrOld r ver n i off b o h
  | slr r ver off n N sz cap h hn => exact .slr r ver off n N sz cap h hn
  | slrNil r ver h => exact .slrNil r ver h
  | slrOld r ver off n ad c h => exact .slrOld r ver off n ad c h
  | rop cs off b o u hb hc hv =>
    refine .rop cs off b o u hb (fun j hj => ?_) (fun j hj => (hv j hj).mono (fun _ h => h) hs)
    rw [← hc j hj]
    simp [World.cell?, hs b hb]
  | fn f first cap A B hA hB h1 h2 ih1 ih2 => exact .fn f first cap A B hA hB ih1 ih2
  | iface t v u h ih => exact .iface t v u ih
  | agg cs A hA h ih => exact .agg cs A hA ih
  | tup cs A hA h ih => exact .tup cs A hA ih
  | yld r sz cap h => exact .yld r sz cap h
  | yldOld r b h => exact .yldOld r b h
  | mref r sz cap h => exact .mref r sz cap h
  | mrefOld r b h => exact .mrefOld r b h
  | junk u => exact .junk u
theorem St.aside {w : World} {m : Mp} {H : Nat → ABlk} (h : St w m H) (D : Nat) (hD : ¬ m.I D) (hO : ∀ r, (m.L r).isLive → m.ρ r ≠ D) (o : Obj) : St (w.putObj D o) m H := by
  have hs : ∀ b, m.I b → (w.putObj D o).heap[b]? = w.heap[b]? := fun b hb => World.putObj_heap_other (fun e => hD (e ▸ hb))
  refine ⟨h.inj, h.notI, fun k hk => by simpa using h.lt k hk, fun b hb => by simpa using h.Ilt b hb, h.gl.mono (fun _ h => h) hs, fun k => ?_⟩
  have hk := h.blk k
  by_cases hl : (m.L k).isLive
  · exact hk.mono (World.putObj_heap_other (hO k hl)) (fun _ _ hv => hv.aside D hD o)
  · exact hk.nolive hl
theorem Tr.aside {we w : World} {me m : Mp} (h : Tr we me w m) (D : Nat) (hW : we.heap.size ≤ D) (hm : ∀ b, me.I b → b < we.heap.size) (o : Obj) : Tr we me (w.putObj D o) m where
  os := h.os
  tape := h.tape
  output := h.output
  size := by simpa using h.size
  out := fun b hb hn => (World.putObj_heap_other (by omega)).trans (h.out b hb hn)
  imm := h.imm
  same := fun b hb => (World.putObj_heap_other (by have := hm b hb; omega)).trans (h.same b hb)
  newI := h.newI
  step := h.step
  newρ := h.newρ
theorem Tr.grow {w w' : World} {m : Mp} {H : Nat → ABlk} (h : St w m H) (r g' : Nat) (l' : Inf) (hr : (m.L r).isLive) (hg : w.grownBy w' (some (m.ρ r)))
    (hs : (m.L r).step l' (g' = m.ρ r)) (hg' : g' = m.ρ r ∨ w.heap.size ≤ g') : Tr w m w' (m.set r g' l') where
  os := hg.os
  tape := hg.tape
  output := hg.output
  size := hg.size
  out := fun b hb hn => hg.block b hb (fun e => hn r hr (by injection e with e; exact e.symm))
  imm := fun _ h => h
  same := fun b hb => hg.block b (h.Ilt b hb) (fun e => h.notI r hr (by injection e with e; exact e ▸ hb))
  newI := fun _ h => .inl h
  step := fun k => by
    simp only [Mp.set]
    by_cases hk : k = r
    · subst hk; simp only [if_true]; exact hs
    · simp only [hk, if_false]; exact Inf.step_refl _ _ trivial
  newρ := fun k hk => by
    simp only [Mp.set] at hk ⊢
    by_cases hk' : k = r
    · subst hk'; simp only [if_true] at hk ⊢
      rcases hg' with e | e
      · exact .inl ⟨hr, e⟩
      · exact .inr e
    · simp only [hk', if_false] at hk ⊢; exact .inl ⟨hk, trivial⟩
theorem St.grow {w w' : World} {m : Mp} {H : Nat → ABlk} (h : St w m H) (r g' : Nat) (l' : Inf) (hr : (m.L r).isLive) (hg : w.grownBy w' (some (m.ρ r)))
    (hs : (m.L r).step l' (g' = m.ρ r)) (hg' : g' = m.ρ r ∨ w.heap.size ≤ g') (hlt : g' < w'.heap.size) (b : ABlk) (hb : BlkOk w' (m.set r g' l') l' g' b) : St w' (m.set r g' l') (upd H r b) := by
  have hT := Tr.grow h r g' l' hr hg hs hg'
  refine ⟨fun r1 r2 h1 h2 e => ?_, fun r1 h1 => ?_, fun r1 h1 => ?_, fun b hb => ?_, h.gl.mono hT.imm hT.same, fun r1 => ?_⟩
  · simp only [Mp.set] at h1 h2 e
    by_cases e1 : r1 = r <;> by_cases e2 : r2 = r
    · rw [e1, e2]
    · simp only [e1, e2, if_true, if_false] at h1 h2 e
      rcases hg' with hg' | hg'
      · exact absurd (h.inj r r2 hr h2 (hg' ▸ e)).symm e2
      · have := h.lt r2 h2; omega
    · simp only [e1, e2, if_true, if_false] at h1 h2 e
      rcases hg' with hg' | hg'
      · exact absurd (h.inj r1 r h1 hr (hg' ▸ e)) e1
      · have := h.lt r1 h1; omega
    · simp only [e1, e2, if_false] at h1 h2 e
      exact h.inj r1 r2 h1 h2 e
  · simp only [Mp.set] at h1 ⊢
    by_cases e1 : r1 = r
    · simp only [e1, if_true]; intro hI
      rcases hg' with hg' | hg'
      · exact h.notI r hr (hg' ▸ hI)
      · have := h.Ilt _ hI; omega
    · simp only [e1, if_false] at h1 ⊢; exact h.notI r1 h1
  · simp only [Mp.set] at h1 ⊢
    by_cases e1 : r1 = r
    · simp only [e1, if_true]; exact hlt
    · simp only [e1, if_false] at h1 ⊢; exact Nat.lt_of_lt_of_le (h.lt r1 h1) hg.size
  · exact Nat.lt_of_lt_of_le (h.Ilt b hb) hg.size
  · by_cases e1 : r1 = r
    · simp only [Mp.set, upd, e1, if_true]; exact hb
    · have hk := h.blk r1
      simp only [Mp.set, upd, e1, if_false]
      show BlkOk w' (m.set r g' l') _ _ _
      by_cases hl : (m.L r1).isLive
      · exact hk.mono (hg.block _ (h.lt r1 hl) (fun e => e1 (h.inj r1 r hl hr (by injection e)))) (fun _ _ hv => hv.mono hT)
      · exact hk.nolive hl
theorem Tr.fresh {w w' : World} {m : Mp} {H : Nat → ABlk} (h : St w m H) (r g' : Nat) (l' : Inf) (hst : (m.L r).step l' False) (hg : w.grownBy w' none) (hg' : w.heap.size ≤ g') : Tr w m w' (m.set r g' l') where
  os := hg.os
  tape := hg.tape
  output := hg.output
  size := hg.size
  out := fun b hb _ => hg.block b hb (by simp)
  imm := fun _ h => h
  same := fun b hb => hg.block b (h.Ilt b hb) (by simp)
  newI := fun _ h => .inl h
  step := fun k => by
    simp only [Mp.set]
    by_cases hk : k = r
    · subst hk; simp only [if_true]; exact Inf.step_imp (fun x => x.elim) hst
    · simp only [hk, if_false]; exact Inf.step_refl _ _ trivial
  newρ := fun k hk => by
    simp only [Mp.set] at hk ⊢
    by_cases hk' : k = r
    · subst hk'; simp only [if_true]; exact .inr hg'
    · simp only [hk', if_false] at hk ⊢; exact .inl ⟨hk, trivial⟩
theorem St.fresh {w w' : World} {m : Mp} {H : Nat → ABlk} (h : St w m H) (r g' : Nat) (l' : Inf) (hst : (m.L r).step l' False) (hg : w.grownBy w' none) (hg' : w.heap.size ≤ g') (hlt : g' < w'.heap.size)
    (b : ABlk) (hb : BlkOk w' (m.set r g' l') l' g' b) : St w' (m.set r g' l') (upd H r b) := by
  have hT := Tr.fresh h r g' l' hst hg hg'
  refine ⟨fun r1 r2 h1 h2 e => ?_, fun r1 h1 => ?_, fun r1 h1 => ?_, fun b hb => ?_, h.gl.mono hT.imm hT.same, fun r1 => ?_⟩
  · simp only [Mp.set] at h1 h2 e
    by_cases e1 : r1 = r <;> by_cases e2 : r2 = r
    · rw [e1, e2]
    · simp only [e1, e2, if_true, if_false] at h1 h2 e
      have := h.lt r2 h2; omega
    · simp only [e1, e2, if_true, if_false] at h1 h2 e
      have := h.lt r1 h1; omega
    · simp only [e1, e2, if_false] at h1 h2 e
      exact h.inj r1 r2 h1 h2 e
  · simp only [Mp.set] at h1 ⊢
    by_cases e1 : r1 = r
    · simp only [e1, if_true]; intro hI; have := h.Ilt _ hI; omega
    · simp only [e1, if_false] at h1 ⊢; exact h.notI r1 h1
  · simp only [Mp.set] at h1 ⊢
    by_cases e1 : r1 = r
    · simp only [e1, if_true]; exact hlt
    · simp only [e1, if_false] at h1 ⊢; exact Nat.lt_of_lt_of_le (h.lt r1 h1) hg.size
  · exact Nat.lt_of_lt_of_le (h.Ilt b hb) hg.size
  · by_cases e1 : r1 = r
    · simp only [Mp.set, upd, e1, if_true]; exact hb
    · have hk := h.blk r1
      simp only [Mp.set, upd, e1, if_false]
      show BlkOk w' (m.set r g' l') _ _ _
      by_cases hl : (m.L r1).isLive
      · exact hk.mono (hg.block _ (h.lt r1 hl) (by simp)) (fun _ _ hv => hv.mono hT)
      · exact hk.nolive hl
def Mp.freeze (m : Mp) (r : Nat) : Mp := { m with I := fun b => m.I b ∨ b = m.ρ r, L := fun k => if k = r then .dead else m.L k }
theorem Tr.freeze {w : World} {m : Mp} (r : Nat) (hr : (m.L r).isLive) : Tr w m w (m.freeze r) where
  os := rfl
  tape := rfl
  output := rfl
  size := Nat.le_refl _
  out := fun _ _ _ => rfl
  imm := fun _ h => .inl h
  same := fun _ _ => rfl
  newI := fun b h => by
    rcases h with h | h
    · exact .inl h
    · exact .inr (.inl ⟨r, hr, h.symm⟩)
  step := fun k => by
    simp only [Mp.freeze]
    by_cases hk : k = r
    · subst hk; simp only [if_true]
      cases hL : m.L k with
      | absent => trivial
      | dead => rfl
      | nil => exact .inl rfl
      | live => exact .inl rfl
    · simp only [hk, if_false]; exact Inf.step_refl _ _ trivial
  newρ := fun k hk => by
    simp only [Mp.freeze] at hk ⊢
    by_cases hk' : k = r
    · subst hk'; simp [Inf.isLive] at hk
    · simp only [hk', if_false] at hk; exact .inl ⟨hk, trivial⟩
theorem St.freeze {w : World} {m : Mp} {H : Nat → ABlk} (h : St w m H) (r : Nat) (hr : (m.L r).isLive) : St w (m.freeze r) (upd H r .dead) := by
  have hT := Tr.freeze (w := w) r hr
  have hlive : ∀ k, ((m.freeze r).L k).isLive → k ≠ r ∧ (m.L k).isLive := fun k hk => by
    simp only [Mp.freeze] at hk
    by_cases e : k = r
    · subst e; simp [Inf.isLive] at hk
    · simp only [e, if_false] at hk; exact ⟨e, hk⟩
  refine ⟨fun r1 r2 h1 h2 e => h.inj r1 r2 (hlive _ h1).2 (hlive _ h2).2 e, fun r1 h1 hI => ?_, fun r1 h1 => h.lt r1 (hlive _ h1).2, fun b hb => ?_, h.gl.mono hT.imm hT.same, fun k => ?_⟩
  · rcases hI with hI | hI
    · exact h.notI r1 (hlive _ h1).2 hI
    · exact (hlive _ h1).1 (h.inj r1 r (hlive _ h1).2 hr hI)
  · rcases hb with hb | hb
    · exact h.Ilt b hb
    · rw [hb]; exact h.lt r hr
  · by_cases e : k = r
    · subst e; simp [upd, Mp.freeze, BlkOk]
    · simp only [upd, Mp.freeze, e, if_false]
      exact (h.blk k).mono rfl (fun _ _ hv => hv.mono hT)
def Mp.cut (m : Mp) (k : Nat) : Mp := { m with L := fun r => if r < k then m.L r else .absent }
mutual
def AV.cl (k : Nat) : AV → Bool
  | .p _ | .rop _ _ | .junk => true
  | .ptr r _ _ _ _ => Nat.blt r k
  | .slr r _ _ _ => Nat.blt r k
  | .yld r => Nat.blt r k
  | .mref r => Nat.blt r k
  | .fn _ a b => AV.cls k a && AV.cls k b
  | .iface _ v => AV.cl k v
  | .agg l => AV.cls k l
  | .tup l => AV.cls k l
def AV.cls (k : Nat) : List AV → Bool
  | [] => true
  | a :: l => AV.cl k a && AV.cls k l
end
theorem AV.cls_get {k : Nat} {l : List AV} (h : AV.cls k l = true) : ∀ j (hj : j < l.length), AV.cl k l[j] = true := by
  induction l with
  | nil => intro j hj; simp at hj
  | cons a l ih =>
    simp only [AV.cls, Bool.and_eq_true] at h
    intro j hj
    cases j with
    | zero => exact h.1
    | succ j => exact ih h.2 j (by simpa using hj)
theorem V.cut {w : World} {m : Mp} {a : AV} {u : Value} (h : V w m a u) (k : Nat) (hc : a.cl k = true) : V w (m.cut k) a u := by
  induction h with
  | p v u h => exact .p v u h
  | ptr r ver n i off sz cap h hi =>
    have hr : r < k := by simpa [AV.cl] using hc
    exact .ptr (m := m.cut k) r ver n i off sz cap (by simp [Mp.cut, hr, h]) hi
  | ptrOld r ver n i off b o h =>
    have hr : r < k := by simpa [AV.cl] using hc
    exact .ptrOld (m := m.cut k) r ver n i off b o (by simpa [Mp.cut, hr] using h)
  | slr r ver off n N sz cap h hn =>
    have hr : r < k := by simpa [AV.cl] using hc
    exact .slr (m := m.cut k) r ver off n N sz cap (by simp [Mp.cut, hr, h]) hn
  | slrNil r ver h =>
    have hr : r < k := by simpa [AV.cl] using hc
    exact .slrNil (m := m.cut k) r ver (by simp [Mp.cut, hr, h])
  | slrOld r ver off n ad c h =>
    have hr : r < k := by simpa [AV.cl] using hc
    exact .slrOld (m := m.cut k) r ver off n ad c (by simpa [Mp.cut, hr] using h)
  | rop cs off b o u hb h1 h2 => exact .rop (m := m.cut k) cs off b o u hb h1 h2
  | fn f first cap A B hA hB h1 h2 ih1 ih2 =>
    simp only [AV.cl, Bool.and_eq_true] at hc
    exact .fn f first cap A B hA hB (fun j hj hj' => ih1 j hj hj' (AV.cls_get hc.1 j hj)) (fun j hj hj' => ih2 j hj hj' (AV.cls_get hc.2 j hj))
  | iface t v u h ih => exact .iface t v u (ih hc)
  | agg cs A hA h ih => exact .agg cs A hA (fun j hj hj' => ih j hj hj' (AV.cls_get hc j hj))
  | tup cs A hA h ih => exact .tup cs A hA (fun j hj hj' => ih j hj hj' (AV.cls_get hc j hj))
  | yld r sz cap h =>
    have hr : r < k := by simpa [AV.cl] using hc
    exact .yld (m := m.cut k) r sz cap (by simp [Mp.cut, hr, h])
  | yldOld r b h =>
    have hr : r < k := by simpa [AV.cl] using hc
    exact .yldOld (m := m.cut k) r b (by simpa [Mp.cut, hr] using h)
  | mref r sz cap h =>
    have hr : r < k := by simpa [AV.cl] using hc
    exact .mref (m := m.cut k) r sz cap (by simp [Mp.cut, hr, h])
  | mrefOld r b h =>
    have hr : r < k := by simpa [AV.cl] using hc
    exact .mrefOld (m := m.cut k) r b (by simpa [Mp.cut, hr] using h)
  | junk u => exact .junk u
def clE (k : Nat) : List (Nat × AV) → Bool
  | [] => true
  | (_, v) :: l => AV.cl k v && clE k l
theorem clE_look {k : Nat} {l : List (Nat × AV)} (h : clE k l = true) (d : Nat) : (look l d).cl k = true := by
  induction l with
  | nil => rfl
  | cons x l ih =>
    obtain ⟨j, v⟩ := x
    simp only [clE, Bool.and_eq_true] at h
    simp only [look]
    split
    · exact h.1
    · exact ih h.2
def ABlk.cl (k : Nat) : ABlk → Prop
  | .box _ cs => AV.cls k cs = true
  | .arr _ _ _ n f => ∀ i, i < n → AV.cls k (f i) = true
  | .lp _ env _ _ _ _ => clE k env = true
  | .mp _ q _ => ∀ κ a, q κ = some a → AV.cl k a = true
  | _ => True
theorem St.cut {w : World} {m : Mp} {H : Nat → ABlk} (h : St w m H) (k : Nat) (hc : ∀ r, r < k → (H r).cl k) : St w (m.cut k) (fun r => if r < k then H r else .absent) := by
  have hlive : ∀ r, ((m.cut k).L r).isLive → (m.L r).isLive := fun r hr => by
    simp only [Mp.cut] at hr
    by_cases e : r < k
    · simpa [e] using hr
    · simp [e, Inf.isLive] at hr
  refine ⟨fun r1 r2 h1 h2 e => h.inj r1 r2 (hlive _ h1) (hlive _ h2) e, fun r1 h1 => h.notI r1 (hlive _ h1), fun r1 h1 => h.lt r1 (hlive _ h1), h.Ilt, h.gl, fun r => ?_⟩
  by_cases e : r < k
  · simp only [Mp.cut, e, if_true]
    show BlkOk w (m.cut k) (m.L r) (m.ρ r) (H r)
    have hb := h.blk r
    have hcl := hc r e
    cases hH : H r with
    | absent => rw [hH] at hb; exact hb
    | dead => rw [hH] at hb; exact hb
    | box ty cs =>
      rw [hH] at hb hcl
      obtain ⟨hl, c, h1, h2, h3⟩ := hb
      exact ⟨hl, c, h1, h2, fun j hj => let ⟨u, a, b⟩ := h3 j hj; ⟨u, a, b.cut k (AV.cls_get hcl j hj)⟩⟩
    | arr ty sz ver n f =>
      rw [hH] at hb hcl
      rcases hb with hb | ⟨cap, c, hl, h0, h00, h1, h2, h3⟩
      · exact .inl hb
      exact .inr ⟨cap, c, hl, h0, h00, h1, h2, fun i hi => ⟨(h3 i hi).1, fun j hj => let ⟨u, a, b⟩ := (h3 i hi).2 j hj; ⟨u, a, b.cut k (AV.cls_get (hcl i hi) j hj)⟩⟩⟩
    | lp s env N ps asg bd =>
      rw [hH] at hb hcl
      obtain ⟨hl, p, fn, tmps, D, h1, h2, h3, h4⟩ := hb
      exact ⟨hl, p, fn, tmps, D, h1, h2, h3, fun d => (h4 d).cut k (clE_look hcl d)⟩
    | mp kt q st =>
      rw [hH] at hb hcl
      obtain ⟨hl, es, clock, r2, h1, h2⟩ := hb
      exact ⟨hl, es, clock, r2, h1, h2.mono fun κ a u hg hv => hv.cut k (hcl κ a hg)⟩
  · simp only [Mp.cut, e, if_false]
    rfl
theorem Tr.cut {w w' : World} {m m' : Mp} (h : Tr w m w' m') (k : Nat) (hk : ∀ r, k ≤ r → m.L r = .absent) : Tr w m w' (m'.cut k) where
  os := h.os
  tape := h.tape
  output := h.output
  size := h.size
  out := h.out
  imm := h.imm
  same := h.same
  newI := h.newI
  step := fun r => by
    by_cases e : r < k
    · simp only [Mp.cut, e, if_true]; exact h.step r
    · rw [hk r (by omega)]; trivial
  newρ := fun r hr => by
    by_cases e : r < k
    · simp only [Mp.cut, e, if_true] at hr ⊢; exact h.newρ r hr
    · simp [Mp.cut, e, Inf.isLive] at hr
end Go.AE
