/-
  Parser, part 1: what the parser computes, in plain Lean: tokens as a list, nodes as a list, depth as a number that sinks. No program in sight; no statement of the seat is proved here.
  Trees, part 1: what tree.Sound and tree.Depth compute, in plain Lean. No program in sight; no statement of the seat is proved here.
  Tokens, part 1: what the cutter computes, in plain Lean. No program in sight; no statement of the seat is proved here.
  Trees that are right, part 1: what tree.Right computes, in plain Lean. No program in sight; no statement of the seat is proved here.
  Parser, part 3: tokens are only taken, and few nodes are put for each: in plain Lean. No statement of the seat is proved here.
  What is parsed is right: the nodes that were put stand as they must, and each has its shape. In plain Lean; no program in sight; no statement of the seat is proved here.
  What is parsed is right, part 2: each function of the parser. In plain Lean; no program in sight; no statement of the seat is proved here.
  What the tokens of a text are. In plain Lean; no program in sight; no statement of the seat is proved here.
  Two parsers whose tokens are alike but for places: they answer alike. In plain Lean; no program in sight; no statement of the seat is proved here.
  Tokens joined by blanks are cut into the same ones; so is what stands behind a comment. In plain Lean; no program in sight; no statement of the seat is proved here.
  AE, part 0: what is known of the package variables that library functions read. No statement of the seat is proved here.
  AE, part 1: abstract values, their relation to the model's values, worlds and transitions. Own metatheory over any program; no statement of the seat is proved here.
-/
import Derived.Lib.IndexMore
import Derived.Lib.AtoiAll
import Derived.Lib.ItoaNum
import Derived.Test.YtbcngegcpdppfaaGreatDoorProg
import Derived.Lib.LaidTab
import Derived.Maps.AppendAt
import Derived.Laws.CopyRow
import Derived.Laws.Rows
import Derived.Calls
import Derived.RangeFuncRecord
import Derived.TacticsIn
namespace Go.Ru

abbrev Bs := List UInt8

/-- kinds of tokens, but for the one at the end -/
inductive TK where
  | name
  | number
  | sign
  | word
deriving DecidableEq

def TK.code : TK → Int
  | .name => 1
  | .number => 2
  | .sign => 3
  | .word => 4

structure Tok where
  k : TK
  n : Int
  at_ : Int
  tx : Bs

structure Nd where
  k : Int
  n : Int
  at_ : Int
  tx : Bs
  kids : List Int

instance : Inhabited Nd := ⟨⟨0, 0, 0, [], []⟩⟩

/-- a parser: tokens that are left, nodes that were put, how much was open at most -/
structure PS where
  ts : List Tok
  ns : List Nd
  mo : Int

/-- an answer, or what is wrong, and where -/
inductive R (α : Type) where
  | ok (a : α) (s : PS)
  | bad (at_ err : Int)

def R.bind {α β : Type} (r : R α) (f : α → PS → R β) : R β :=
  match r with
  | .ok a s => f a s
  | .bad a e => .bad a e

abbrev M (α : Type) := PS → R α

/-- where the next token begins; e: where the text ends -/
def hd (e : Int) : List Tok → Int
  | [] => e
  | t :: _ => t.at_

/-- is the next token that word or sign? -/
def isS (w : Bs) : List Tok → Bool
  | [] => false
  | t :: _ => match t.k with
    | .word => t.tx == w
    | .sign => t.tx == w
    | _ => false

def dropS (s : PS) : PS := ⟨s.ts.tail, s.ns, s.mo⟩

def wantS (e : Int) (w : Bs) (s : PS) : R Unit :=
  match isS w s.ts with
  | true => .ok () (dropS s)
  | false => .bad (hd e s.ts) 2

def identS (e : Int) (s : PS) : R Tok :=
  match s.ts with
  | [] => .bad e 2
  | t :: r => match t.k with
    | .name => .ok t ⟨r, s.ns, s.mo⟩
    | _ => .bad t.at_ 2

def putS (n : Nd) (s : PS) : R Int := .ok (s.ns.length : Int) ⟨s.ts, s.ns ++ [n], s.mo⟩

def moreS (d : Nat) (mo : Int) : Int := if (41 : Int) - d > mo then 41 - d else mo

/-- something between a token that opens and one that closes; d: how much more may be opened -/
def withinS {α : Type} (e : Int) (d : Nat) (op cl : Bs) (what : M α) (s : PS) : R α :=
  match isS op s.ts with
  | false => .bad (hd e s.ts) 2
  | true => match d with
    | 0 => .bad (hd e s.ts) 6
    | _ + 1 => (what ⟨s.ts.tail, s.ns, moreS d s.mo⟩).bind fun a s => match cl with
      | [] => .ok a s
      | _ => (wantS e cl s).bind fun _ s => .ok a s

/-- signs of a row, by how many rows bind more -/
def rowS : Nat → List Bs
  | 0 => [[42], [47], [37]]
  | 1 => [[43], [45]]
  | 2 => [[61, 61], [33, 61], [60], [60, 61], [62], [62, 61]]
  | 3 => [[38, 38]]
  | _ => [[124, 124]]

def anyS (l : List Bs) (ts : List Tok) : Bool := l.any fun w => isS w ts

/-- operands with signs between -/
def rowLoop (l : List Bs) (opnd : M Int) : Nat → Int → M Int
  | 0, x, s => .ok x s
  | n + 1, x, s => match s.ts with
    | [] => .ok x s
    | t :: r => match anyS l (t :: r) with
      | false => .ok x s
      | true => (opnd ⟨r, s.ns, s.mo⟩).bind fun y s => (putS ⟨27, 0, t.at_, t.tx, [x, y]⟩ s).bind fun x s => rowLoop l opnd n x s

def exprS (una : M Int) : Nat → M Int
  | 0, s => una s
  | j + 1, s => (exprS una j s).bind fun x s => rowLoop (rowS j) (exprS una j) s.ts.length x s

def primS (e : Int) (d : Nat) (inner : M Int) (s : PS) : R Int :=
  match s.ts with
  | [] => .bad e 2
  | t :: r => match t.k with
    | .number => putS ⟨20, t.n, t.at_, [], []⟩ ⟨r, s.ns, s.mo⟩
    | .name => match isS [91] r with
      | true => (withinS e d [91] [93] inner ⟨r, s.ns, s.mo⟩).bind fun x s => putS ⟨23, 0, t.at_, t.tx, [x]⟩ s
      | false => putS ⟨22, 0, t.at_, t.tx, []⟩ ⟨r, s.ns, s.mo⟩
    | _ => match t.tx == [116, 114, 117, 101] with
      | true => putS ⟨21, 1, t.at_, [], []⟩ ⟨r, s.ns, s.mo⟩
      | false => match t.tx == [102, 97, 108, 115, 101] with
        | true => putS ⟨21, 0, t.at_, [], []⟩ ⟨r, s.ns, s.mo⟩
        | false => match t.tx == [108, 101, 110] with
          | true => (identS e ⟨r, s.ns, s.mo⟩).bind fun t' s => putS ⟨24, 0, t.at_, t'.tx, []⟩ s
          | false => match t.tx == [38] with
            | true => (identS e ⟨r, s.ns, s.mo⟩).bind fun t' s => putS ⟨25, 0, t.at_, t'.tx, []⟩ s
            | false => match t.tx == [40] with
              | true => withinS e d [40] [41] inner s
              | false => .bad t.at_ 2

def unaB (e : Int) (d : Nat) (una inner : M Int) (s : PS) : R Int :=
  match s.ts with
  | [] => .bad e 2
  | t :: r => match isS [45] (t :: r) || isS [33] (t :: r) with
    | true => (withinS e d t.tx [] una s).bind fun x s => putS ⟨26, 0, t.at_, t.tx, [x]⟩ s
    | false => primS e d inner s

/-- unary, with d that may yet be opened -/
def unaS (e : Int) : Nat → M Int
  | 0 => unaB e 0 (fun _ => .bad 0 0) (fun _ => .bad 0 0)
  | d + 1 => unaB e (d + 1) (unaS e d) (exprS (unaS e d) 5)

def exS (e : Int) (d : Nat) : M Int := exprS (unaS e d) 5
/-- an expression one deeper -/
def inS (e : Int) : Nat → M Int
  | 0 => fun _ => .bad 0 0
  | d + 1 => exS e d

def indexS (e : Int) (d : Nat) : M Int := withinS e d [91] [93] (inS e d)

/-- what stands behind commas -/
def commaL {α : Type} (one : List α → M (List α)) : Nat → List α → M (List α)
  | 0, l, s => .ok l s
  | n + 1, l, s => match isS [44] s.ts with
    | true => (one l (dropS s)).bind fun l s => commaL one n l s
    | false => .ok l s
def listS {α : Type} (one : List α → M (List α)) (l : List α) (s : PS) : R (List α) :=
  match isS [41] s.ts with
  | true => .ok l s
  | false => (one l s).bind fun l s => commaL one s.ts.length l s

/-- one more of a list -/
def oneS (m : M Int) (l : List Int) : M (List Int) := fun s => (m s).bind fun x s => .ok (l ++ [x]) s

def callS (e : Int) (d : Nat) (at_ : Int) (tx : Bs) (s : PS) : R Int :=
  (identS e s).bind fun t s => (putS ⟨19, 0, t.at_, t.tx, []⟩ s).bind fun x s =>
    (withinS e d [40] [41] (listS (oneS (inS e d)) [x]) s).bind fun l s => putS ⟨13, 0, at_, tx, l⟩ s

def chanS (e : Int) (s : PS) : R Int := (identS e s).bind fun t s => putS ⟨18, 0, t.at_, t.tx, []⟩ s

def namedS (e : Int) (d : Nat) (s : PS) : R Int :=
  (identS e s).bind fun t s => match isS [91] s.ts with
    | true => (indexS e d s).bind fun x s => (wantS e [61] s).bind fun _ s => (exS e d s).bind fun y s => putS ⟨8, 0, t.at_, t.tx, [x, y]⟩ s
    | false => (wantS e [61] s).bind fun _ s => match isS [105, 110] s.ts with
      | true => (chanS e (dropS s)).bind fun x s => putS ⟨9, 0, t.at_, t.tx, [x]⟩ s
      | false => match isS [99, 97, 108, 108] s.ts with
        | true => callS e d t.at_ t.tx (dropS s)
        | false => match isS [110, 101, 119] s.ts with
          | true => (exS e d (dropS s)).bind fun x s => putS ⟨17, 0, t.at_, t.tx, [x]⟩ s
          | false => (exS e d s).bind fun x s => putS ⟨7, 0, t.at_, t.tx, [x]⟩ s

def plainS (e : Int) (d : Nat) (s : PS) : R Int :=
  let at_ := hd e s.ts
  match isS [111, 117, 116] s.ts with
  | true => (chanS e (dropS s)).bind fun c s => (exS e d s).bind fun x s => putS ⟨10, 0, at_, [], [c, x]⟩ s
  | false => match isS [99, 97, 108, 108] s.ts with
    | true => callS e d at_ [] (dropS s)
    | false => match isS [116, 104, 114, 111, 119] s.ts with
      | true => (exS e d (dropS s)).bind fun x s => putS ⟨15, 0, at_, [], [x]⟩ s
      | false => match isS [114, 101, 116, 117, 114, 110] s.ts with
        | true => match isS [59] s.ts.tail with
          | true => putS ⟨14, 0, at_, [], []⟩ (dropS s)
          | false => (exS e d (dropS s)).bind fun x s => putS ⟨14, 0, at_, [], [x]⟩ s
        | false => namedS e d s

/-- statements up to a bracket -/
def stmtsL (stmt : M Int) : Nat → List Int → M (List Int)
  | 0, _, _ => .bad 0 0
  | n + 1, l, s => match isS [125] s.ts with
    | true => .ok l s
    | false => (stmt s).bind fun x s => stmtsL stmt n (l ++ [x]) s
def stmtsS (stmt : M Int) (l : List Int) (s : PS) : R (List Int) := stmtsL stmt (s.ts.length + 1) l s

def blockB (e : Int) (d : Nat) (stmt : M Int) (s : PS) : R Int :=
  let at_ := hd e s.ts
  (withinS e d [123] [125] (stmtsS stmt []) s).bind fun l s => putS ⟨6, 0, at_, [], l⟩ s

def stmtB (e : Int) (d : Nat) (stmt : M Int) (s : PS) : R Int :=
  let at_ := hd e s.ts
  match isS [105, 102] s.ts with
  | true => (exS e d (dropS s)).bind fun x s => (blockB e d stmt s).bind fun a s => match isS [101, 108, 115, 101] s.ts with
    | true => (blockB e d stmt (dropS s)).bind fun b s => putS ⟨11, 0, at_, [], [x, a, b]⟩ s
    | false => (putS ⟨6, 0, at_, [], []⟩ s).bind fun b s => putS ⟨11, 0, at_, [], [x, a, b]⟩ s
  | false => match isS [119, 104, 105, 108, 101] s.ts with
    | true => (exS e d (dropS s)).bind fun x s => (blockB e d stmt s).bind fun a s => putS ⟨12, 0, at_, [], [x, a]⟩ s
    | false => match isS [116, 114, 121] s.ts with
      | true => (blockB e d stmt (dropS s)).bind fun a s => (wantS e [99, 97, 116, 99, 104] s).bind fun _ s => (identS e s).bind fun t s =>
          (blockB e d stmt s).bind fun b s => putS ⟨16, 0, at_, t.tx, [a, b]⟩ s
      | false => (plainS e d s).bind fun x s => (wantS e [59] s).bind fun _ s => .ok x s

def stmtS (e : Int) : Nat → M Int
  | 0 => stmtB e 0 (fun _ => .bad 0 0)
  | d + 1 => stmtB e (d + 1) (stmtS e d)
/-- a statement one deeper -/
def inStmtS (e : Int) : Nat → M Int
  | 0 => fun _ => .bad 0 0
  | d + 1 => stmtS e d

def typesS (ts : List Tok) : Int :=
  match isS [105, 110, 116] ts with
  | true => 1
  | false => match isS [98, 111, 111, 108] ts with
    | true => 2
    | false => match isS [97, 114, 114] ts with
      | true => 3
      | false => match isS [102, 117, 110] ts with
        | true => 4
        | false => 0

def typedS (e : Int) (k at_ : Int) (tx : Bs) (s : PS) : R Int :=
  match typesS s.ts == 0 with
  | true => .bad (hd e s.ts) 2
  | false => putS ⟨k, typesS s.ts, at_, tx, []⟩ (dropS s)

def varsL (e : Int) (kind : Int) : Nat → List Int → M (List Int)
  | 0, l, s => .ok l s
  | n + 1, l, s => match isS [118, 97, 114] s.ts with
    | false => .ok l s
    | true => (identS e (dropS s)).bind fun t s' => (typedS e kind (hd e s.ts) t.tx s').bind fun x s => (wantS e [59] s).bind fun _ s => varsL e kind n (l ++ [x]) s
def varsS (e : Int) (kind : Int) (s : PS) : R (List Int) := varsL e kind s.ts.length [] s

/-- a body with declarations: their places, and the block's -/
def bodyS (e : Int) (d : Nat) (s : PS) : R (List Int × Int) :=
  let at_ := hd e s.ts
  (withinS e d [123] [125] (fun s => (varsS e 5 s).bind fun vs s => (stmtsS (inStmtS e d) [] s).bind fun l s => .ok (vs, l) s) s).bind fun p s =>
    (putS ⟨6, 0, at_, [], p.2⟩ s).bind fun b s => .ok (p.1, b) s

def paramS (e : Int) : M Int := fun s => (identS e s).bind fun t s => typedS e 4 t.at_ t.tx s

def procS (e : Int) (d : Nat) (s : PS) : R Int :=
  let at_ := hd e s.ts
  (wantS e [112, 114, 111, 99] s).bind fun _ s => (identS e s).bind fun t s =>
    (withinS e d [40] [41] (listS (oneS (paramS e)) []) s).bind fun ps s =>
      let k := typesS s.ts
      (bodyS e d (match decide (k > 0) with
        | true => dropS s
        | false => s)).bind fun p s => putS ⟨3, k, at_, t.tx, ps ++ p.1 ++ [p.2]⟩ s

def procsL (e : Int) (d : Nat) : Nat → List Int → M (List Int)
  | 0, l, s => .ok l s
  | n + 1, l, s => match s.ts with
    | [] => .ok l s
    | _ :: _ => (procS e d s).bind fun x s => procsL e d n (l ++ [x]) s

def programS (e : Int) (s : PS) : R Int :=
  (varsS e 2 s).bind fun l s => (procsL e 40 s.ts.length l s).bind fun l s => putS ⟨1, 0, 0, [], l⟩ s

/-! ### how much is left, and how much is put -/
def wt (s : PS) : Nat := s.ns.length + 4 * s.ts.length
/-- nothing is given back -/
def Dn {α : Type} (m : M α) : Prop := ∀ s a s', m s = .ok a s' → wt s' ≤ wt s ∧ s'.ts.length ≤ s.ts.length
/-- something is taken -/
def Dn1 {α : Type} (m : M α) : Prop := ∀ s a s', m s = .ok a s' → wt s' ≤ wt s ∧ s'.ts.length < s.ts.length

end Go.Ru

namespace Go.Ru

/-- kids, the last first: where the next one must stand, how many nodes so far -/
def kidsS (out : List Nat) : List Int → Int → Nat → Option Nat
  | [], _, size => some size
  | k :: r, last, size => match k == last && decide (0 ≤ k) with
    | true => kidsS out r (k - (out.getD k.toNat 0 : Nat)) (size + out.getD k.toNat 0)
    | false => none

/-- how many nodes each node's tree has -/
def sizesS : List Nd → List Nat → Option (List Nat)
  | [], out => some out
  | n :: r, out => match kidsS out n.kids.reverse ((out.length : Int) - 1) 1 with
    | some c => sizesS r (out ++ [c])
    | none => none

def soundS (ns : List Nd) (root : Int) : Bool :=
  !(ns.length == 0 || decide (4000 < ns.length) || root != (ns.length : Int) - 1) &&
  match sizesS ns [] with
  | some l => l.getD root.toNat 0 == ns.length
  | none => false

/-- sizes that have come so far fit into the row -/
def szOk (out : List Nat) : Prop := ∀ i, i < out.length → 1 ≤ out.getD i 0 ∧ out.getD i 0 ≤ i + 1

theorem kidsS_inv {out : List Nat} (ho : szOk out) : ∀ (l : List Int) (last : Int) (size : Nat) (c : Nat), last < out.length → -1 ≤ last → (size : Int) = out.length - last → kidsS out l last size = some c → 1 ≤ c ∧ c ≤ out.length + 1 := by
  intro l
  induction l with
  | nil => intro last size c h1 h2 h3 h; simp only [kidsS, Option.some.injEq] at h; omega
  | cons k r ih =>
    intro last size c h1 h2 h3 h
    simp only [kidsS] at h
    split at h
    case h_2 => simp at h
    rename_i hb
    simp only [Bool.and_eq_true, beq_iff_eq, decide_eq_true_eq] at hb
    obtain ⟨rfl, hk⟩ := hb
    have := ho k.toNat (by omega)
    exact ih _ _ c (by omega) (by omega) (by omega) h

theorem szOk_snoc {out : List Nat} (ho : szOk out) {c : Nat} (h : 1 ≤ c ∧ c ≤ out.length + 1) : szOk (out ++ [c]) := by
  intro i hi
  by_cases e : i < out.length
  · have h1 := ho i e
    rw [List.getD_eq_getElem?_getD, List.getElem?_append_left e, ← List.getD_eq_getElem?_getD]
    exact h1
  · have : i = out.length := by simp at hi; omega
    subst this
    simpa using h

theorem kidsS_mem {out : List Nat} (ho : szOk out) : ∀ (l : List Int) (last : Int) (size : Nat) (c : Nat), last < out.length → kidsS out l last size = some c → ∀ k ∈ l, 0 ≤ k ∧ k ≤ last := by
  intro l
  induction l with
  | nil => intro last size c _ _ k hk; simp at hk
  | cons k r ih =>
    intro last size c h1 h k' hk'
    simp only [kidsS] at h
    split at h
    case h_2 => simp at h
    rename_i hb
    simp only [Bool.and_eq_true, beq_iff_eq, decide_eq_true_eq] at hb
    obtain ⟨rfl, hk⟩ := hb
    have := ho k.toNat (by omega)
    rcases List.mem_cons.1 hk' with rfl | hk'
    · exact ⟨hk, Int.le_refl _⟩
    · have := ih _ _ c (by omega) h k' hk'
      omega

theorem sizesS_inv : ∀ (r : List Nd) (out l : List Nat), szOk out → sizesS r out = some l → l.length = out.length + r.length ∧ szOk l ∧ ∀ j, j < r.length → ∀ k ∈ (r.getD j default).kids, 0 ≤ k ∧ k < (out.length + j : Nat) := by
  intro r
  induction r with
  | nil => intro out l ho h; simp only [sizesS, Option.some.injEq] at h; subst h; exact ⟨rfl, ho, fun j hj => by simp at hj⟩
  | cons n r ih =>
    intro out l ho h
    simp only [sizesS] at h
    split at h
    case h_2 => simp at h
    rename_i c hc
    have hinv := kidsS_inv ho _ _ _ c (by omega) (by omega) (by omega) hc
    have hm := kidsS_mem ho _ _ _ c (by omega) hc
    obtain ⟨h1, h2, h3⟩ := ih _ _ (szOk_snoc ho hinv) h
    refine ⟨by rw [h1]; simp; omega, h2, fun j hj k hk => ?_⟩
    cases j with
    | zero =>
      have := hm k (by simpa using hk)
      omega
    | succ j =>
      have := h3 j (by simpa using hj) k (by simpa using hk)
      simp at this
      omega

/-- how deep a node's tree is -/
def deepS (ns : List Nd) : Nat → Int → Nat
  | 0, _ => 0
  | n + 1, p => (ns.getD p.toNat default).kids.foldl (fun d k => max d (deepS ns n k)) 0 + 1
theorem deepS_le (ns : List Nd) (n : Nat) (p : Int) : deepS ns n p ≤ n := by
  induction n generalizing p with
  | zero => exact Nat.le_refl _
  | succ n ih =>
    have : ∀ (l : List Int) (d : Nat), d ≤ n → l.foldl (fun d k => max d (deepS ns n k)) d ≤ n := by
      intro l
      induction l with
      | nil => intro d h; exact h
      | cons k l ihl => intro d h; exact ihl _ (by have := ih k; exact Nat.max_le.2 ⟨h, this⟩)
    have := this (ns.getD p.toNat default).kids 0 (Nat.zero_le _)
    simp only [deepS]; omega
def depthS (ns : List Nd) (root : Int) : Nat := match soundS ns root with
  | true => deepS ns ns.length root
  | false => 0
theorem soundS_ok {ns : List Nd} {root : Int} (h : soundS ns root = true) : 0 < ns.length ∧ ns.length ≤ 4000 ∧ root = (ns.length : Int) - 1 ∧ ∀ j, j < ns.length → ∀ k ∈ (ns.getD j default).kids, 0 ≤ k ∧ k < (j : Int) := by
  simp only [soundS, Bool.and_eq_true, Bool.not_eq_true', Bool.or_eq_false_iff, beq_eq_false_iff_ne, decide_eq_false_iff_not, bne_eq_false_iff_eq] at h
  obtain ⟨⟨⟨h1, h2⟩, h3⟩, h4⟩ := h
  split at h4
  case h_2 => simp at h4
  rename_i l hl
  obtain ⟨_, _, h5⟩ := sizesS_inv ns [] l (fun i hi => by simp at hi) hl
  exact ⟨by omega, by omega, h3, fun j hj k hk => by have := h5 j hj k hk; simp at this; exact this⟩
end Go.Ru

namespace Go.Ru
open Go

def digitsT : Bs := [48, 49, 50, 51, 52, 53, 54, 55, 56, 57]
def partsT : Bs := [97, 98, 99, 100, 101, 102, 103, 104, 105, 106, 107, 108, 109, 110, 111, 112, 113, 114, 115, 116, 117, 118, 119, 120, 121, 122, 65, 66, 67, 68, 69, 70, 71, 72, 73, 74, 75, 76, 77, 78, 79, 80, 81, 82, 83, 84, 85, 86, 87, 88, 89, 90, 95, 48, 49, 50, 51, 52, 53, 54, 55, 56, 57]
def blanksT : Bs := [32, 9, 10]
def keptT : Bs := [32, 118, 97, 114, 32, 112, 114, 111, 99, 32, 105, 110, 116, 32, 98, 111, 111, 108, 32, 97, 114, 114, 32, 102, 117, 110, 32, 105, 110, 32, 111, 117, 116, 32, 105, 102, 32, 101, 108, 115, 101, 32, 119, 104, 105, 108, 101, 32, 99, 97, 108, 108, 32, 114, 101, 116, 117, 114, 110, 32, 116, 104, 114, 111, 119, 32, 116, 114, 121, 32, 99, 97, 116, 99, 104, 32, 110, 101, 119, 32, 108, 101, 110, 32, 116, 114, 117, 101, 32, 102, 97, 108, 115, 101, 32]
def pairsT : Bs := [32, 61, 61, 32, 33, 61, 32, 60, 61, 32, 62, 61, 32, 38, 38, 32, 124, 124, 32]
def singleT : Bs := [40, 41, 123, 125, 91, 93, 44, 59, 61, 60, 62, 43, 45, 42, 47, 37, 33, 38]

/-- is a byte one of some? -/
def inB (l : Bs) (c : UInt8) : Bool := decide (Lib.indexByte l c ≥ 0)
/-- how many bytes at the head are of some -/
def runS (l : Bs) (r : Bs) : Nat := (r.takeWhile (inB l)).length

def keptP (l : Bs) : Bool := !(l == []) && (decide (Lib.indexByte l 32 < 0) && Lib.contains keptT ([32] ++ l ++ [32]))
def identP (l : Bs) : Bool := !(l == []) && (decide (l.length ≤ 20) && (l.all (inB partsT) && (decide (Lib.indexByte digitsT (l.getD 0 0) < 0) && !keptP l)))
def numP (l : Bs) : Option Int := match Lib.atoiAll l with
  | .ok v => if Lib.itoa v = l then some v else none
  | _ => none
def wordP (l : Bs) : Option (TK × Int) := match keptP l with
  | true => some (.word, 0)
  | false => match identP l with
    | true => some (.name, 0)
    | false => match numP l with
      | some v => some (.number, v)
      | none => none
def pairP (l : Bs) : Bool := decide (l.length > 1) && (!(l.getD 0 0 == 32) && (!(l.getD 1 0 == 32) && Lib.contains pairsT ([32] ++ l.take 2 ++ [32])))
def signP (l : Bs) : Nat := if pairP l then 2 else if inB singleT (l.getD 0 0) then 1 else 0

/-- tokens, or the place of a byte that is none -/
inductive CR where
  | ok (l : List Tok)
  | bad (at_ : Nat)
def CR.cons (t : Tok) : CR → CR
  | .ok l => .ok (t :: l)
  | .bad a => .bad a

/-- the tokens of what is left of a text, from a place on -/
def cutS : Nat → Bs → Nat → CR
  | 0, _, _ => .ok []
  | n + 1, r, i => match r with
    | [] => .ok []
    | c :: r' => if 0 < runS blanksT r then cutS n (r.drop (runS blanksT r)) (i + runS blanksT r)
      else if c = 35 then cutS n (r.dropWhile (fun c => !(c == 10))) (i + (r.takeWhile (fun c => !(c == 10))).length)
      else if 0 < runS partsT r then match wordP (r.take (runS partsT r)) with
        | none => .bad i
        | some (k, v) => (cutS n (r.drop (runS partsT r)) (i + runS partsT r)).cons ⟨k, v, i, r.take (runS partsT r)⟩
      else match signP r with
        | 0 => .bad i
        | m + 1 => (cutS n (r.drop (m + 1)) (i + (m + 1))).cons ⟨.sign, 0, i, r.take (m + 1)⟩
def cutT (s : Bs) : CR := cutS s.length s 0
end Go.Ru

namespace Go.Ru
open Go

def signsT : Bs := [32, 43, 32, 45, 32, 42, 32, 47, 32, 37, 32, 61, 61, 32, 33, 61, 32, 60, 32, 60, 61, 32, 62, 32, 62, 61, 32, 38, 38, 32, 124, 124, 32]
def signedP (l : Bs) : Bool := !(l == []) && (decide (Lib.indexByte l 32 < 0) && Lib.contains signsT ([32] ++ l ++ [32]))
def textS (k : Int) (l : Bs) : Bool :=
  if k = 1 ∨ k = 6 ∨ k = 10 ∨ k = 11 ∨ k = 12 ∨ k = 14 ∨ k = 15 ∨ k = 20 ∨ k = 21 then l == []
  else if k = 13 then l == [] || identP l
  else if k = 26 then l == [45] || l == [33]
  else if k = 27 then signedP l
  else identP l
def numberS (k n : Int) : Bool :=
  if k = 2 ∨ k = 4 ∨ k = 5 then decide (n ≥ 1) && decide (n ≤ 4)
  else if k = 3 then decide (n ≥ 0) && decide (n ≤ 4)
  else if k = 20 then decide (n ≥ 0)
  else if k = 21 then n == 0 || n == 1
  else n == 0
def stB (k : Int) : Bool := decide (k ≥ 7) && decide (k ≤ 17)
def exB (k : Int) : Bool := decide (k ≥ 20) && decide (k ≤ 27)
def kindsS (ns : List Nd) (n : Nd) : List Int := n.kids.map fun q => (ns.getD q.toNat default).k
/-- how many at the head are so, at most that many -/
def cntS (p : Int → Bool) : Nat → List Int → Nat
  | 0, _ => 0
  | _ + 1, [] => 0
  | m + 1, a :: l => match p a with
    | true => cntS p m l + 1
    | false => 0
theorem cnt_t {p : Int → Bool} {m : Nat} {a : Int} {l : List Int} (h : p a = true) : cntS p (m + 1) (a :: l) = cntS p m l + 1 := by simp [cntS, h]
theorem cnt_f {p : Int → Bool} {m : Nat} {a : Int} {l : List Int} (h : p a = false) : cntS p (m + 1) (a :: l) = 0 := by simp [cntS, h]
/-- has a node the kids that it must have? of their kinds -/
def kidsOkS (k : Int) (l : List Int) : Bool :=
  let is (c : Int) : Int → Bool := fun k => k == c
  let a (p : Int → Bool) (m : Nat) (i : Nat) : Nat := cntS p m (l.drop i)
  let e (i : Nat) : Bool := ((i : Int) == (l.length : Int))
  if k = 1 then let i := a (is 2) 4000 0; let i := i + a (is 3) 4000 i; e i
  else if k = 3 then let i := a (is 4) 4000 0; let i := i + a (is 5) 4000 i; let c := a (is 6) 1 i; c == 1 && e (i + c)
  else if k = 6 then e (a stB 4000 0)
  else if k = 7 ∨ k = 17 ∨ k = 15 ∨ k = 23 ∨ k = 26 then let c := a exB 1 0; c == 1 && e c
  else if k = 8 ∨ k = 27 then let c := a exB 2 0; c == 2 && e c
  else if k = 9 then let c := a (is 18) 1 0; c == 1 && e c
  else if k = 10 then let c := a (is 18) 1 0; c == 1 && (let d := a exB 1 c; d == 1 && e (c + d))
  else if k = 11 then let c := a exB 1 0; c == 1 && (let d := a (is 6) 2 c; d == 2 && e (c + d))
  else if k = 12 then let c := a exB 1 0; c == 1 && (let d := a (is 6) 1 c; d == 1 && e (c + d))
  else if k = 13 then let c := a (is 19) 1 0; let d := a exB 4000 c; c == 1 && e (c + d)
  else if k = 14 then e (a exB 1 0)
  else if k = 16 then let c := a (is 6) 2 0; c == 2 && e c
  else e 0
/-- has a node its shape? -/
def nodeOkS (ns : List Nd) (n : Nd) : Bool := decide (1 ≤ n.k) && decide (n.k ≤ 27) && textS n.k n.tx && numberS n.k n.n && kidsOkS n.k (kindsS ns n)
def rightS (ns : List Nd) (root : Int) : Bool := soundS ns root && decide (depthS ns root ≤ 40) && ((ns.getD root.toNat default).k == 1) && ns.all (nodeOkS ns)
theorem kidsS_many {out : List Nat} (ho : szOk out) : ∀ (l : List Int) (last : Int) (size c : Nat), last < out.length → kidsS out l last size = some c → size + l.length ≤ c := by
  intro l
  induction l with
  | nil => intro last size c _ h; simp only [kidsS, Option.some.injEq] at h; simp; omega
  | cons k r ih =>
    intro last size c h1 h
    simp only [kidsS] at h
    split at h
    case h_2 => simp at h
    rename_i hb
    simp only [Bool.and_eq_true, beq_iff_eq, decide_eq_true_eq] at hb
    obtain ⟨rfl, hk⟩ := hb
    have := ho k.toNat (by omega)
    have := ih _ _ c (by omega) h
    simp only [List.length_cons]; omega
theorem sizesS_many : ∀ (r : List Nd) (out l : List Nat), szOk out → sizesS r out = some l → ∀ j, j < r.length → (r.getD j default).kids.length ≤ out.length + j := by
  intro r
  induction r with
  | nil => intro out l ho h j hj; simp at hj
  | cons n r ih =>
    intro out l ho h j hj
    simp only [sizesS] at h
    split at h
    case h_2 => simp at h
    rename_i c hc
    have hinv := kidsS_inv ho _ _ _ c (by omega) (by omega) (by omega) hc
    have hm := kidsS_many ho _ _ _ c (by omega) hc
    cases j with
    | zero => simp at hm ⊢; omega
    | succ j =>
      have := ih _ _ (szOk_snoc ho hinv) h j (by simpa using hj)
      simp at this ⊢; omega
theorem soundS_many {ns : List Nd} {root : Int} (h : soundS ns root = true) : ∀ j, j < ns.length → (ns.getD j default).kids.length ≤ j := by
  simp only [soundS, Bool.and_eq_true] at h
  obtain ⟨_, h4⟩ := h
  split at h4
  case h_2 => simp at h4
  rename_i l hl
  intro j hj
  have := sizesS_many ns [] l (fun i hi => by simp at hi) hl j hj
  simpa using this
end Go.Ru

namespace Go.Ru

theorem bind_ok {α β : Type} {r : R α} {f : α → PS → R β} {b : β} {s' : PS} (h : r.bind f = .ok b s') : ∃ a s, r = .ok a s ∧ f a s = .ok b s' := by
  cases r with
  | ok a s => exact ⟨a, s, rfl, h⟩
  | bad a e => simp [R.bind] at h

/-- whatever is answered, of the state behind it something holds -/
def Okk {α : Type} (r : R α) (p : PS → Prop) : Prop := ∀ a s, r = .ok a s → p s
theorem Okk.bind {α β : Type} {r : R α} {f : α → PS → R β} {p q : PS → Prop} (h : Okk r p) (h' : ∀ a s, p s → Okk (f a s) q) : Okk (r.bind f) q := fun b s' hb => by
  obtain ⟨a, s, h1, h2⟩ := bind_ok hb
  exact h' a s (h a s h1) b s' h2
theorem Okk.imp {α : Type} {r : R α} {p q : PS → Prop} (h : Okk r p) (h' : ∀ s, p s → q s) : Okk r q := fun a s hr => h' s (h a s hr)
theorem Okk.pure {α : Type} {a : α} {s : PS} {p : PS → Prop} (h : p s) : Okk (.ok a s) p := fun b s' hb => by
  injection hb with _ h2
  exact h2 ▸ h
theorem Okk.bad {α : Type} {a e : Int} {p : PS → Prop} : Okk (.bad a e : R α) p := fun b s' hb => by simp at hb

/-- so much less than there was -/
def Lw (s0 : PS) (c k : Nat) (s : PS) : Prop := s.ns.length + 4 * s.ts.length + c ≤ s0.ns.length + 4 * s0.ts.length ∧ s.ts.length + k ≤ s0.ts.length

theorem isS_pos {w : Bs} {ts : List Tok} (h : isS w ts = true) : 0 < ts.length := by
  cases ts with
  | nil => simp [isS] at h
  | cons t r => simp

theorem drop_le (s : PS) (h : 0 < s.ts.length) : Lw s 4 1 (dropS s) := by
  simp only [Lw, dropS, List.length_tail]; omega
theorem want_le (e : Int) (w : Bs) (s : PS) : Okk (wantS e w s) (Lw s 4 1) := by
  unfold wantS
  split
  · rename_i h; exact .pure (drop_le s (isS_pos h))
  · exact .bad
theorem ident_le (e : Int) (s : PS) : Okk (identS e s) (Lw s 4 1) := by
  unfold identS
  split
  · exact .bad
  · rename_i t r h
    split
    · refine .pure ?_
      simp only [Lw, h, List.length_cons]; omega
    · exact .bad
theorem put_len (n : Nd) (s : PS) : Okk (putS n s) (fun s' => s'.ns.length = s.ns.length + 1 ∧ s'.ts.length = s.ts.length) := by
  unfold putS
  exact .pure (by simp)
/-- a node put behind all this -/
theorem put_le {n : Nd} {s0 s : PS} {c k : Nat} (h : Lw s0 (c + 1) k s) : Okk (putS n s) (Lw s0 c k) := (put_len n s).imp fun s' h' => by
  simp only [Lw] at h ⊢; omega
theorem Lw.trans {s0 s1 s2 : PS} {c k c' k' : Nat} (h : Lw s0 c k s1) (h' : Lw s1 c' k' s2) : Lw s0 (c + c') (k + k') s2 := by
  simp only [Lw] at h h' ⊢; omega
theorem Lw.weak {s0 s1 : PS} {c k c' k' : Nat} (h : Lw s0 c k s1) (hc : c' ≤ c) (hk : k' ≤ k) : Lw s0 c' k' s1 := by
  simp only [Lw] at h ⊢; omega
theorem Lw.refl (s : PS) : Lw s 0 0 s := by simp [Lw]

def Dm {α : Type} (c k : Nat) (m : M α) : Prop := ∀ s, Okk (m s) (Lw s c k)

theorem within_le {α : Type} (e : Int) (d : Nat) (op cl : Bs) {what : M α} {c k : Nat} (h : Dm c k what) (s : PS) : Okk (withinS e d op cl what s) (Lw s (c + 4) (k + 1)) := by
  unfold withinS
  split
  · exact .bad
  · rename_i hw
    have hp := isS_pos hw
    split
    · exact .bad
    · refine Okk.bind (h _) fun a s1 h1 => ?_
      have h2 : Lw s (c + 4) (k + 1) s1 := by
        simp only [Lw, List.length_tail] at h1 ⊢; omega
      split
      · exact .pure h2
      · refine Okk.bind (want_le _ _ _) fun _ s3 h3 => .pure ?_
        simp only [Lw] at h2 h3 ⊢; omega

theorem rowLoop_le (l : List Bs) {opnd : M Int} (h : Dm 0 0 opnd) : ∀ n x s, Okk (rowLoop l opnd n x s) (Lw s 0 0) := by
  intro n
  induction n with
  | zero => exact fun x s => .pure (Lw.refl s)
  | succ n ih =>
    intro x s
    unfold rowLoop
    split
    · exact .pure (Lw.refl s)
    · rename_i t r ht
      split
      · exact .pure (Lw.refl s)
      · refine Okk.bind (h _) fun y s1 h1 => ?_
        have h2 : Lw s 4 1 s1 := by simp only [Lw, ht, List.length_cons] at h1 ⊢; omega
        refine Okk.bind (put_le (c := 3) h2) fun x s3 h3 => (ih x s3).imp fun s4 h4 => ?_
        exact (h3.trans h4).weak (by omega) (by omega)

theorem expr_le {una : M Int} (h : Dm 3 1 una) : ∀ j, Dm 3 1 (exprS una j) := by
  intro j
  induction j with
  | zero => exact h
  | succ j ih =>
    intro s
    unfold exprS
    refine Okk.bind (ih s) fun x s1 h1 => (rowLoop_le _ (fun s => (ih s).imp fun s' h' => h'.weak (by omega) (by omega)) _ x s1).imp fun s2 h2 => ?_
    exact h1.trans h2

theorem prim_le (e : Int) (d : Nat) {inner : M Int} (h : Dm 0 0 inner) : Dm 3 1 (primS e d inner) := by
  intro s
  unfold primS
  split
  · exact .bad
  · rename_i t r ht
    have hs : Lw s 4 1 ⟨r, s.ns, s.mo⟩ := by simp only [Lw, ht, List.length_cons]; omega
    split
    · exact put_le hs
    · split
      · refine Okk.bind (within_le e d [91] [93] h _) fun x s1 h1 => put_le ((hs.trans h1).weak (by omega) (by omega))
      · exact put_le hs
    · split
      · exact put_le hs
      · split
        · exact put_le hs
        · split
          · exact Okk.bind (ident_le e _) fun t' s1 h1 => put_le ((hs.trans h1).weak (by omega) (by omega))
          · split
            · exact Okk.bind (ident_le e _) fun t' s1 h1 => put_le ((hs.trans h1).weak (by omega) (by omega))
            · split
              · exact (within_le e d [40] [41] h s).imp fun s1 h1 => h1.weak (by omega) (by omega)
              · exact .bad

theorem unaB_le (e : Int) (d : Nat) {una inner : M Int} (h1 : Dm 0 0 una) (h2 : Dm 0 0 inner) : Dm 3 1 (unaB e d una inner) := by
  intro s
  unfold unaB
  split
  · exact .bad
  · split
    · exact Okk.bind (within_le e d _ _ h1 s) fun x s1 h => put_le (h.weak (by omega) (by omega))
    · exact prim_le e d h2 s
theorem una_le (e : Int) : ∀ d, Dm 3 1 (unaS e d) := by
  intro d
  induction d with
  | zero => exact unaB_le e 0 (fun s => .bad) (fun s => .bad)
  | succ d ih =>
    exact unaB_le e (d + 1) (fun s => (ih s).imp fun s' h => h.weak (by omega) (by omega)) (fun s => (expr_le ih 5 s).imp fun s' h => h.weak (by omega) (by omega))
theorem ex_le (e : Int) (d : Nat) : Dm 3 1 (exS e d) := expr_le (una_le e d) 5
theorem Dm.weak {α : Type} {c k c' k' : Nat} {m : M α} (h : Dm c k m) (hc : c' ≤ c) (hk : k' ≤ k) : Dm c' k' m := fun s => (h s).imp fun _ h => h.weak hc hk
theorem in_le (e : Int) (d : Nat) : Dm 3 1 (inS e d) := by
  cases d with
  | zero => exact fun s => .bad
  | succ d => exact ex_le e d
theorem index_le (e : Int) (d : Nat) : Dm 7 2 (indexS e d) := within_le e d _ _ (in_le e d)

theorem comma_le {α : Type} {one : List α → M (List α)} (h : ∀ l, Dm 0 0 (one l)) : ∀ n l, Dm 0 0 (commaL one n l) := by
  intro n
  induction n with
  | zero => exact fun l s => .pure (Lw.refl s)
  | succ n ih =>
    intro l s
    unfold commaL
    split
    · rename_i hw
      refine Okk.bind (h l (dropS s)) fun l' s1 h1 => (ih l' s1).imp fun s2 h2 => ?_
      exact (((drop_le s (isS_pos hw)).trans h1).trans h2).weak (by omega) (by omega)
    · exact .pure (Lw.refl s)
theorem list_le {α : Type} {one : List α → M (List α)} (h : ∀ l, Dm 0 0 (one l)) (l : List α) : Dm 0 0 (listS one l) := by
  intro s
  unfold listS
  split
  · exact .pure (Lw.refl s)
  · exact Okk.bind (h l s) fun l' s1 h1 => (comma_le h _ l' s1).imp fun s2 h2 => (h1.trans h2).weak (by omega) (by omega)
theorem one_le {m : M Int} {c k : Nat} (h : Dm c k m) (l : List Int) : Dm c k (oneS m l) := fun s => Okk.bind (h s) fun _ _ h1 => .pure h1

theorem call_le (e : Int) (d : Nat) (a : Int) (tx : Bs) : Dm 6 2 (callS e d a tx) := by
  intro s
  unfold callS
  refine Okk.bind (ident_le e s) fun t s1 h1 => Okk.bind (put_le (c := 3) h1) fun x s2 h2 => ?_
  refine Okk.bind (within_le e d _ _ (list_le (fun l => one_le ((in_le e d).weak (by omega) (by omega)) l) [x]) s2) fun l s3 h3 => put_le ((h2.trans h3).weak (by omega) (by omega))
theorem chan_le (e : Int) : Dm 3 1 (chanS e) := fun s => Okk.bind (ident_le e s) fun _ _ h => put_le h

theorem named_le (e : Int) (d : Nat) : Dm 3 1 (namedS e d) := by
  intro s
  unfold namedS
  refine Okk.bind (ident_le e s) fun t s1 h1 => ?_
  split
  · exact Okk.bind (index_le e d s1) fun x s2 h2 => Okk.bind (want_le e _ s2) fun _ s3 h3 => Okk.bind (ex_le e d s3) fun y s4 h4 =>
      put_le ((((h1.trans h2).trans h3).trans h4).weak (by omega) (by omega))
  · refine Okk.bind (want_le e _ s1) fun _ s2 h2 => ?_
    have h12 := h1.trans h2
    split
    · rename_i hw
      exact Okk.bind (chan_le e _) fun x s3 h3 => put_le (((h12.trans (drop_le _ (isS_pos hw))).trans h3).weak (by omega) (by omega))
    · split
      · rename_i hw
        exact (call_le e d _ _ _).imp fun s3 h3 => ((h12.trans (drop_le _ (isS_pos hw))).trans h3).weak (by omega) (by omega)
      · split
        · rename_i hw
          exact Okk.bind (ex_le e d _) fun x s3 h3 => put_le (((h12.trans (drop_le _ (isS_pos hw))).trans h3).weak (by omega) (by omega))
        · exact Okk.bind (ex_le e d _) fun x s3 h3 => put_le ((h12.trans h3).weak (by omega) (by omega))

theorem plain_le (e : Int) (d : Nat) : Dm 3 1 (plainS e d) := by
  intro s
  unfold plainS
  simp only
  split
  · rename_i hw
    exact Okk.bind (chan_le e _) fun c s1 h1 => Okk.bind (ex_le e d s1) fun x s2 h2 => put_le ((((drop_le s (isS_pos hw)).trans h1).trans h2).weak (by omega) (by omega))
  · split
    · rename_i hw
      exact (call_le e d _ _ _).imp fun s1 h1 => ((drop_le s (isS_pos hw)).trans h1).weak (by omega) (by omega)
    · split
      · rename_i hw
        exact Okk.bind (ex_le e d _) fun x s1 h1 => put_le (((drop_le s (isS_pos hw)).trans h1).weak (by omega) (by omega))
      · split
        · rename_i hw
          split
          · exact put_le (drop_le s (isS_pos hw))
          · exact Okk.bind (ex_le e d _) fun x s1 h1 => put_le (((drop_le s (isS_pos hw)).trans h1).weak (by omega) (by omega))
        · exact named_le e d s

theorem stmtsL_le {stmt : M Int} (h : Dm 0 0 stmt) : ∀ n l, Dm 0 0 (stmtsL stmt n l) := by
  intro n
  induction n with
  | zero => exact fun l s => .bad
  | succ n ih =>
    intro l s
    unfold stmtsL
    split
    · exact .pure (Lw.refl s)
    · exact Okk.bind (h s) fun x s1 h1 => (ih _ s1).imp fun s2 h2 => (h1.trans h2).weak (by omega) (by omega)
theorem stmts_le {stmt : M Int} (h : Dm 0 0 stmt) (l : List Int) : Dm 0 0 (stmtsS stmt l) := fun s => stmtsL_le h _ l s
theorem block_le (e : Int) (d : Nat) {stmt : M Int} (h : Dm 0 0 stmt) : Dm 3 1 (blockB e d stmt) := by
  intro s
  unfold blockB
  simp only
  exact Okk.bind (within_le e d _ _ (stmts_le h []) s) fun l s1 h1 => put_le (h1.weak (by omega) (by omega))

theorem stmtB_le (e : Int) (d : Nat) {stmt : M Int} (h : Dm 0 0 stmt) : Dm 3 1 (stmtB e d stmt) := by
  intro s
  unfold stmtB
  simp only
  split
  · rename_i hw
    refine Okk.bind (ex_le e d _) fun x s1 h1 => Okk.bind (block_le e d h s1) fun a s2 h2 => ?_
    have h3 := ((drop_le s (isS_pos hw)).trans h1).trans h2
    split
    · rename_i hw2
      exact Okk.bind (block_le e d h _) fun b s3 h4 => put_le (((h3.trans (drop_le s2 (isS_pos hw2))).trans h4).weak (by omega) (by omega))
    · exact Okk.bind (put_le (c := 9) (k := 3) (h3.weak (by omega) (by omega))) fun b s3 h4 => put_le (h4.weak (by omega) (by omega))
  · split
    · rename_i hw
      exact Okk.bind (ex_le e d _) fun x s1 h1 => Okk.bind (block_le e d h s1) fun a s2 h2 => put_le ((((drop_le s (isS_pos hw)).trans h1).trans h2).weak (by omega) (by omega))
    · split
      · rename_i hw
        exact Okk.bind (block_le e d h _) fun a s1 h1 => Okk.bind (want_le e _ s1) fun _ s2 h2 => Okk.bind (ident_le e s2) fun t s3 h3 => Okk.bind (block_le e d h s3) fun b s4 h4 =>
          put_le ((((((drop_le s (isS_pos hw)).trans h1).trans h2).trans h3).trans h4).weak (by omega) (by omega))
      · exact Okk.bind (plain_le e d s) fun x s1 h1 => Okk.bind (want_le e _ s1) fun _ s2 h2 => .pure ((h1.trans h2).weak (by omega) (by omega))
theorem stmt_le (e : Int) : ∀ d, Dm 3 1 (stmtS e d) := by
  intro d
  induction d with
  | zero => exact stmtB_le e 0 (fun s => .bad)
  | succ d ih => exact stmtB_le e (d + 1) (ih.weak (by omega) (by omega))
theorem inStmt_le (e : Int) (d : Nat) : Dm 3 1 (inStmtS e d) := by
  cases d with
  | zero => exact fun s => .bad
  | succ d => exact stmt_le e d

theorem types_pos {ts : List Tok} (h : typesS ts ≠ 0) : 0 < ts.length := by
  cases ts with
  | nil => simp [typesS, isS] at h
  | cons t r => simp
theorem typed_le (e k a : Int) (tx : Bs) : Dm 3 1 (typedS e k a tx) := by
  intro s
  unfold typedS
  split
  · exact .bad
  · rename_i h
    exact put_le (drop_le s (types_pos (by simpa using h)))
theorem varsL_le (e kind : Int) : ∀ n l, Dm 0 0 (varsL e kind n l) := by
  intro n
  induction n with
  | zero => exact fun l s => .pure (Lw.refl s)
  | succ n ih =>
    intro l s
    unfold varsL
    split
    · exact .pure (Lw.refl s)
    · rename_i hw
      exact Okk.bind (ident_le e _) fun t s1 h1 => Okk.bind (typed_le e kind _ _ s1) fun x s2 h2 => Okk.bind (want_le e _ s2) fun _ s3 h3 => (ih _ s3).imp fun s4 h4 =>
        (((((drop_le s (isS_pos hw)).trans h1).trans h2).trans h3).trans h4).weak (by omega) (by omega)
theorem vars_le (e kind : Int) : Dm 0 0 (varsS e kind) := fun s => varsL_le e kind _ [] s
theorem body_le (e : Int) (d : Nat) : Dm 3 1 (bodyS e d) := by
  intro s
  unfold bodyS
  simp only
  refine Okk.bind (within_le (c := 0) (k := 0) e d _ _ (fun s => ?_) s) fun p s1 h1 => Okk.bind (put_le (c := 3) (k := 1) (h1.weak (by omega) (by omega))) fun b s2 h2 => .pure h2
  exact Okk.bind (vars_le e 5 s) fun vs s1 h1 => Okk.bind (stmts_le ((inStmt_le e d).weak (by omega) (by omega)) [] s1) fun l s2 h2 => .pure ((h1.trans h2).weak (by omega) (by omega))
theorem param_le (e : Int) : Dm 7 2 (paramS e) := fun s => Okk.bind (ident_le e s) fun t s1 h1 => (typed_le e 4 _ _ s1).imp fun s2 h2 => h1.trans h2
theorem proc_le (e : Int) (d : Nat) : Dm 3 1 (procS e d) := by
  intro s
  unfold procS
  simp only
  refine Okk.bind (want_le e _ s) fun _ s1 h1 => Okk.bind (ident_le e s1) fun t s2 h2 => Okk.bind (within_le (c := 0) (k := 0) e d _ _ (list_le (fun l => (one_le (param_le e) l).weak (by omega) (by omega)) []) s2) fun ps s3 h3 => ?_
  have h4 := (h1.trans h2).trans h3
  have h5 : Lw s3 0 0 (match decide (typesS s3.ts > 0) with
    | true => dropS s3
    | false => s3) := by
    split
    · rename_i h
      have h : typesS s3.ts > 0 := by simpa using h
      exact (drop_le s3 (types_pos (by omega))).weak (by omega) (by omega)
    · exact Lw.refl s3
  exact Okk.bind (body_le e d _) fun p s5 h6 => put_le (((h4.trans h5).trans h6).weak (by omega) (by omega))
theorem procsL_le (e : Int) (d : Nat) : ∀ n l, Dm 0 0 (procsL e d n l) := by
  intro n
  induction n with
  | zero => exact fun l s => .pure (Lw.refl s)
  | succ n ih =>
    intro l s
    unfold procsL
    split
    · exact .pure (Lw.refl s)
    · exact Okk.bind (proc_le e d s) fun x s1 h1 => (ih _ s1).imp fun s2 h2 => (h1.trans h2).weak (by omega) (by omega)

/-! ### how many places are answered -/
theorem varsL_len (e kind : Int) : ∀ n l s l' s', varsL e kind n l s = .ok l' s' → l'.length + s'.ts.length ≤ l.length + s.ts.length := by
  intro n
  induction n with
  | zero => intro l s l' s' h; simp only [varsL, R.ok.injEq] at h; obtain ⟨rfl, rfl⟩ := h; exact Nat.le_refl _
  | succ n ih =>
    intro l s l' s' h
    unfold varsL at h
    split at h
    · simp only [R.ok.injEq] at h; obtain ⟨rfl, rfl⟩ := h; exact Nat.le_refl _
    · rename_i hw
      obtain ⟨t, s1, h1, h⟩ := bind_ok h
      obtain ⟨x, s2, h2, h⟩ := bind_ok h
      obtain ⟨_, s3, h3, h⟩ := bind_ok h
      have := ih _ _ _ _ h
      have l1 := (ident_le e _ _ _ h1).2
      have l2 := (typed_le e kind _ _ _ _ _ h2).2
      have l3 := (want_le e _ _ _ _ h3).2
      have l0 := (drop_le s (isS_pos hw)).2
      simp only [List.length_append, List.length_cons, List.length_nil] at this
      omega
theorem body_len (e : Int) (d : Nat) (s : PS) (p : List Int × Int) (s' : PS) (h : bodyS e d s = .ok p s') : p.1.length ≤ s.ts.length := by
  unfold bodyS at h
  simp only at h
  obtain ⟨p1, s1, h1, h⟩ := bind_ok h
  obtain ⟨b, s2, h2, h⟩ := bind_ok h
  simp only [R.ok.injEq] at h
  obtain ⟨rfl, -⟩ := h
  unfold withinS at h1
  split at h1
  · simp at h1
  · split at h1
    · simp at h1
    · obtain ⟨q, s3, h3, h1⟩ := bind_ok h1
      obtain ⟨vs, s4, h4, h3⟩ := bind_ok h3
      obtain ⟨l, s5, h5, h3⟩ := bind_ok h3
      simp only [R.ok.injEq] at h3
      obtain ⟨rfl, rfl⟩ := h3
      have h6 := varsL_len e 5 _ _ _ _ _ h4
      simp only [List.length_nil, List.length_tail] at h6
      have h7 : p1.1 = vs := by
        simp only at h1
        obtain ⟨_, s6, _, h1⟩ := bind_ok h1
        simp only [R.ok.injEq] at h1
        rw [← h1.1]
      simp only
      rw [h7]; omega
end Go.Ru

namespace Go.Ru
open Go

def Hp {α : Type} (r : R α) (p : α → PS → Prop) : Prop := ∀ a s, r = .ok a s → p a s
theorem Hp.bind {α β : Type} {r : R α} {f : α → PS → R β} {p : α → PS → Prop} {q : β → PS → Prop} (h : Hp r p) (h' : ∀ a s, p a s → Hp (f a s) q) : Hp (r.bind f) q := fun b s' hb => by
  obtain ⟨a, s, h1, h2⟩ := bind_ok hb
  exact h' a s (h a s h1) b s' h2
theorem Hp.imp {α : Type} {r : R α} {p q : α → PS → Prop} (h : Hp r p) (h' : ∀ a s, p a s → q a s) : Hp r q := fun a s hr => h' a s (h a s hr)
theorem Hp.pure {α : Type} {a : α} {s : PS} {p : α → PS → Prop} (h : p a s) : Hp (.ok a s) p := fun b s' hb => by
  injection hb with h1 h2; subst h1 h2; exact h
theorem Hp.bad {α : Type} {a e : Int} {p : α → PS → Prop} : Hp (.bad a e : R α) p := fun b s' hb => by cases hb

/-! ### sizes, one node more -/
theorem sizesS_snoc (ns : List Nd) (n : Nd) : ∀ out, sizesS (ns ++ [n]) out = (sizesS ns out).bind fun l => (kidsS l n.kids.reverse ((l.length : Int) - 1) 1).map fun c => l ++ [c] := by
  induction ns with
  | nil =>
    intro out
    simp only [List.nil_append, sizesS, Option.bind_some]
    cases kidsS out n.kids.reverse ((out.length : Int) - 1) 1 <;> rfl
  | cons a r ih =>
    intro out
    simp only [List.cons_append, sizesS]
    cases kidsS out a.kids.reverse ((out.length : Int) - 1) 1 with
    | none => rfl
    | some c => exact ih _
/-- roots of trees, the last first, one behind the other -/
def Chain (l : List Nat) : Int → List Int → Prop
  | last, [] => last = -1
  | last, p :: r => p = last ∧ 0 ≤ p ∧ p < l.length ∧ Chain l (p - (l.getD p.toNat 0 : Nat)) r
theorem Chain.kids {l : List Nat} : ∀ (ps qs : List Int) (last : Int) (size : Nat), Chain l last (ps ++ qs) → ∃ c last', kidsS l ps last size = some c ∧ (c : Int) = size + (last - last') ∧ Chain l last' qs := by
  intro ps
  induction ps with
  | nil => exact fun qs last size h => ⟨size, last, rfl, by omega, h⟩
  | cons p r ih =>
    rintro qs last size ⟨rfl, h0, h1, h2⟩
    obtain ⟨c, last', h3, h4, h5⟩ := ih qs _ (size + l.getD p.toNat 0) h2
    refine ⟨c, last', ?_, by omega, h5⟩
    simp only [kidsS, beq_self_eq_true, decide_eq_true h0, Bool.and_self]
    exact h3
theorem Chain.snoc {l : List Nat} (c : Nat) : ∀ (qs : List Int) (last : Int), Chain l last qs → Chain (l ++ [c]) last qs := by
  intro qs
  induction qs with
  | nil => exact fun last h => h
  | cons p r ih =>
    rintro last ⟨rfl, h0, h1, h2⟩
    refine ⟨rfl, h0, by simp; omega, ?_⟩
    have : (l ++ [c]).getD p.toNat 0 = l.getD p.toNat 0 := by
      rw [List.getD_eq_getElem?_getD, List.getD_eq_getElem?_getD, List.getElem?_append_left (by omega)]
    rw [this]; exact ih _ h2

/-! ### what is known of a state -/
section
variable (A : Int → Prop)
def TokOk (t : Tok) : Prop := A t.at_ ∧ (t.k = .name → identP t.tx = true) ∧ (t.k = .number → 0 ≤ t.n) ∧ t.tx.length < 1000000
/-- a node's shape, by the kinds of its kids -/
def Shape (k n : Int) (tx : Bs) (kk : List Int) : Prop := kk.length ≤ 4000 → 1 ≤ k ∧ k ≤ 27 ∧ textS k tx = true ∧ numberS k n = true ∧ kidsOkS k kk = true
structure GoodS (ns : List Nd) (stk : List (Int × Int)) : Prop where
  sizes : ∃ l, sizesS ns [] = some l ∧ Chain l ((l.length : Int) - 1) (stk.map (·.1))
  kind : ∀ x ∈ stk, 0 ≤ x.1 ∧ x.1 < ns.length ∧ (ns.getD x.1.toNat default).k = x.2
  node : ∀ i, i < ns.length → Shape (ns.getD i default).k (ns.getD i default).n (ns.getD i default).tx (kindsS ns (ns.getD i default)) ∧ (ns.getD i default).tx.length < 1000000
structure Good (e : Int) (s : PS) (stk : List (Int × Int)) : Prop where
  st : GoodS s.ns stk
  at_ : ∀ i, i < s.ns.length → A (s.ns.getD i default).at_
  tok : ∀ t ∈ s.ts, TokOk A t
  e : A e
variable {A}
theorem sizes_len {ns : List Nd} {l : List Nat} (h : sizesS ns [] = some l) : l.length = ns.length := by
  have := (sizesS_inv ns [] l (fun i hi => by simp at hi) h).1
  simpa using this
theorem kid_lt {ns : List Nd} {l : List Nat} (h : sizesS ns [] = some l) {i : Nat} (hi : i < ns.length) : ∀ q ∈ (ns.getD i default).kids, 0 ≤ q ∧ q < (i : Int) := by
  intro q hq
  have := (sizesS_inv ns [] l (fun i hi => by simp at hi) h).2.2 i hi q hq
  simpa using this
theorem kinds_snoc {ns : List Nd} {n : Nd} {m : Nd} (h : ∀ q ∈ m.kids, 0 ≤ q ∧ q < ns.length) : kindsS (ns ++ [n]) m = kindsS ns m := by
  unfold kindsS
  refine List.map_congr_left fun q hq => ?_
  have := h q hq
  rw [List.getD_eq_getElem?_getD, List.getD_eq_getElem?_getD, List.getElem?_append_left (by omega)]
theorem getD_snoc_lt {ns : List Nd} {n : Nd} {i : Nat} (h : i < ns.length) : (ns ++ [n]).getD i default = ns.getD i default := by
  rw [List.getD_eq_getElem?_getD, List.getD_eq_getElem?_getD, List.getElem?_append_left h]
theorem getD_snoc_len (ns : List Nd) (n : Nd) : (ns ++ [n]).getD ns.length default = n := by
  simp [List.getD_eq_getElem?_getD]
theorem GoodS.put {ns : List Nd} {stk : List (Int × Int)} (ks : List (Int × Int)) (n : Nd) (h : GoodS ns (ks.reverse ++ stk)) (hk : n.kids = ks.map (·.1)) (hs : Shape n.k n.n n.tx (ks.map (·.2))) (hx : n.tx.length < 1000000) :
    GoodS (ns ++ [n]) (((ns.length : Int), n.k) :: stk) := by
  obtain ⟨⟨l, hl, hc⟩, hkind, hnode⟩ := h
  have hlen := sizes_len hl
  rw [List.map_append] at hc
  obtain ⟨c, last', h1, h2, h3⟩ := hc.kids _ _ _ 1
  have hrev : n.kids.reverse = ks.reverse.map (·.1) := by rw [hk, List.map_reverse]
  refine ⟨⟨l ++ [c], ?_, ?_⟩, fun x hx' => ?_, fun i hi => ?_⟩
  · rw [sizesS_snoc, hl, Option.bind_some, hrev, h1]; rfl
  · refine ⟨by simp; omega, by simp, by simp; omega, ?_⟩
    have e1 : (l ++ [c]).getD (Int.toNat (ns.length : Int)) 0 = c := by
      rw [Int.toNat_natCast, ← hlen]; simp [List.getD_eq_getElem?_getD]
    simp only [List.map_cons]
    rw [e1]
    have e2 : (ns.length : Int) - c = last' := by omega
    rw [e2]
    exact h3.snoc c
  · rcases List.mem_cons.1 hx' with rfl | hx'
    · refine ⟨by simp, by simp; omega, ?_⟩
      simp only [Int.toNat_natCast]
      rw [getD_snoc_len]
    · obtain ⟨a1, a2, a3⟩ := hkind x (List.mem_append_right _ hx')
      refine ⟨a1, by simp; omega, ?_⟩
      rw [getD_snoc_lt (by omega)]; exact a3
  · by_cases e : i < ns.length
    · rw [getD_snoc_lt e, kinds_snoc (fun q hq => by have := kid_lt hl e q hq; omega)]
      exact hnode i e
    · have : i = ns.length := by simp at hi; omega
      subst this
      rw [getD_snoc_len]
      refine ⟨?_, hx⟩
      have e3 : kindsS (ns ++ [n]) n = ks.map (·.2) := by
        unfold kindsS
        rw [hk, List.map_map]
        refine List.map_congr_left fun x hx' => ?_
        obtain ⟨a1, a2, a3⟩ := hkind x (List.mem_append_left _ (List.mem_reverse.2 hx'))
        simp only [Function.comp_apply]
        rw [getD_snoc_lt (by omega)]; exact a3
      rw [e3]; exact hs
end

variable {A : Int → Prop} {e : Int}
theorem put_g {s : PS} {stk : List (Int × Int)} (ks : List (Int × Int)) {n : Nd} (h : Good A e s (ks.reverse ++ stk)) (hk : n.kids = ks.map (·.1)) (hs : Shape n.k n.n n.tx (ks.map (·.2))) (ha : A n.at_) (hx : n.tx.length < 1000000) :
    Hp (putS n s) fun x s' => Good A e s' ((x, n.k) :: stk) := .pure <| by
  refine ⟨h.st.put ks n hk hs hx, fun i hi => ?_, h.tok, h.e⟩
  by_cases hi' : i < s.ns.length
  · simp only; rw [getD_snoc_lt hi']; exact h.at_ i hi'
  · have : i = s.ns.length := by simp at hi; omega
    subst this
    simp only; rw [getD_snoc_len]; exact ha
theorem Good.drop {s : PS} {stk : List (Int × Int)} (h : Good A e s stk) : Good A e (dropS s) stk := ⟨h.st, h.at_, fun t ht => h.tok t (List.mem_of_mem_tail ht), h.e⟩
theorem Good.hd {s : PS} {stk : List (Int × Int)} (h : Good A e s stk) : A (hd e s.ts) := by
  cases ht : s.ts with
  | nil => exact h.e
  | cons t r => exact (h.tok t (by rw [ht]; exact List.mem_cons_self ..)).1
theorem want_g {w : Bs} {s : PS} {stk : List (Int × Int)} (h : Good A e s stk) : Hp (wantS e w s) fun _ s' => Good A e s' stk := by
  unfold wantS
  split
  · exact .pure h.drop
  · exact .bad
theorem ident_g {s : PS} {stk : List (Int × Int)} (h : Good A e s stk) : Hp (identS e s) fun t s' => Good A e s' stk ∧ identP t.tx = true ∧ A t.at_ ∧ t.tx.length < 1000000 := by
  unfold identS
  split
  · exact .bad
  · rename_i t r ht
    have h0 := h.tok t (by rw [ht]; exact List.mem_cons_self ..)
    split
    · rename_i hk
      exact .pure ⟨⟨h.st, h.at_, fun t ht' => h.tok t (by rw [ht]; exact List.mem_cons_of_mem _ ht'), h.e⟩, h0.2.1 hk, h0.1, h0.2.2.2⟩
    · exact .bad
theorem within_g {α : Type} {d : Nat} {op cl : Bs} {what : M α} {s : PS} {stk : List (Int × Int)} {p : α → PS → Prop} (h : Good A e s stk) (hw : ∀ d', d = d' + 1 → ∀ s, Good A e s stk → Hp (what s) p)
    (hp : ∀ a s, p a s → ∃ stk, Good A e s stk ∧ ∀ s', s'.ns = s.ns → Good A e s' stk → p a s') : Hp (withinS e d op cl what s) p := by
  unfold withinS
  split
  · exact .bad
  · split
    · exact .bad
    · refine Hp.bind (hw _ rfl _ ⟨h.st, h.at_, fun t ht => h.tok t (List.mem_of_mem_tail ht), h.e⟩) fun a s1 h1 => ?_
      split
      · exact .pure h1
      · obtain ⟨stk', h2, h3⟩ := hp a s1 h1
        refine Hp.bind (p := fun _ s' => s'.ns = s1.ns ∧ Good A e s' stk') ?_ fun _ s2 h4 => .pure (h3 s2 h4.1 h4.2)
        intro u s2 hs
        refine ⟨?_, want_g h2 u s2 hs⟩
        unfold wantS at hs
        split at hs
        · injection hs with _ hs; rw [← hs]; rfl
        · cases hs

/-- an answer, and its kind -/
def One (A : Int → Prop) (e : Int) (p : Int → Bool) (stk : List (Int × Int)) (x : Int) (s : PS) : Prop := ∃ k, p k = true ∧ Good A e s ((x, k) :: stk)
def G1 (A : Int → Prop) (e : Int) (p : Int → Bool) (m : M Int) : Prop := ∀ s stk, Good A e s stk → Hp (m s) (One A e p stk)
theorem One.back {p : Int → Bool} {stk : List (Int × Int)} (x : Int) (s : PS) (h : One A e p stk x s) : ∃ stk', Good A e s stk' ∧ ∀ s', s'.ns = s.ns → Good A e s' stk' → One A e p stk x s' := by
  obtain ⟨k, h1, h2⟩ := h
  exact ⟨_, h2, fun s' _ h3 => ⟨k, h1, h3⟩⟩
theorem one_put {s : PS} {stk : List (Int × Int)} (ks : List (Int × Int)) {n : Nd} {p : Int → Bool} (h : Good A e s (ks.reverse ++ stk)) (hk : n.kids = ks.map (·.1)) (hp : p n.k = true) (hs : Shape n.k n.n n.tx (ks.map (·.2))) (ha : A n.at_) (hx : n.tx.length < 1000000) :
    Hp (putS n s) (One A e p stk) := (put_g ks h hk hs ha hx).imp fun x s' h => ⟨n.k, hp, h⟩

theorem isS_tx {w : Bs} {t : Tok} {r : List Tok} (h : isS w (t :: r) = true) : t.tx = w := by
  obtain ⟨tk, tn, ta, tx⟩ := t
  cases tk <;> simp [isS] at h <;> exact h
theorem cnt_one {p : Int → Bool} {a : Int} {m : Nat} (h : p a = true) : cntS p (m + 1) [a] = 1 := by cases m <;> simp [cntS, h]
theorem row_signs (j : Nat) : ∀ w ∈ rowS j, textS 27 w = true ∧ w.length < 1000000 := by
  intro w hw
  match j with
  | 0 => simp [rowS] at hw; rcases hw with rfl | rfl | rfl <;> exact ⟨by decide, by decide⟩
  | 1 => simp [rowS] at hw; rcases hw with rfl | rfl <;> exact ⟨by decide, by decide⟩
  | 2 => simp [rowS] at hw; rcases hw with rfl | rfl | rfl | rfl | rfl | rfl <;> exact ⟨by decide, by decide⟩
  | 3 => simp [rowS] at hw; subst hw; exact ⟨by decide, by decide⟩
  | j + 4 => simp [rowS] at hw; subst hw; exact ⟨by decide, by decide⟩
end Go.Ru

namespace Go.Ru
open Go
set_option maxRecDepth 10000

variable {A : Int → Prop} {e : Int}
theorem rowLoop_g (j : Nat) {opnd : M Int} (h : G1 A e exB opnd) : ∀ n x s stk k, exB k = true → Good A e s ((x, k) :: stk) → Hp (rowLoop (rowS j) opnd n x s) (One A e exB stk) := by
  intro n
  induction n with
  | zero => exact fun x s stk k hk hs => .pure ⟨k, hk, hs⟩
  | succ n ih =>
    intro x s stk k hk hs
    unfold rowLoop
    split
    · exact .pure ⟨k, hk, hs⟩
    · rename_i t r ht
      split
      · exact .pure ⟨k, hk, hs⟩
      · rename_i ha
        have ht0 := hs.tok t (by rw [ht]; exact List.mem_cons_self ..)
        obtain ⟨w, hw, hw2⟩ := List.any_eq_true.1 ha
        obtain ⟨h1, h2⟩ := row_signs j w hw
        rw [← isS_tx hw2] at h1 h2
        refine Hp.bind (h _ ((x, k) :: stk) ⟨hs.st, hs.at_, fun t ht' => hs.tok t (by rw [ht]; exact List.mem_cons_of_mem _ ht'), hs.e⟩) fun y s1 ⟨k2, hk2, hs1⟩ => ?_
        refine Hp.bind (put_g [(x, k), (y, k2)] hs1 rfl (fun _ => ⟨by simp, by simp, by first | assumption | simp [textS, *], by simp [numberS, *], by simp [kidsOkS, cntS, *]⟩) ht0.1 h2) fun x2 s2 hs2 => ih x2 s2 stk 27 (by decide) hs2
theorem expr_g {una : M Int} (h : G1 A e exB una) : ∀ j, G1 A e exB (exprS una j) := by
  intro j
  induction j with
  | zero => exact h
  | succ j ih =>
    intro s stk hs
    unfold exprS
    exact Hp.bind (ih s stk hs) fun x s1 ⟨k, hk, hs1⟩ => rowLoop_g j ih _ x s1 stk k hk hs1
theorem prim_g (d : Nat) {inner : M Int} (h : ∀ d', d = d' + 1 → G1 A e exB inner) : G1 A e exB (primS e d inner) := by
  intro s stk hs
  unfold primS
  split
  · exact .bad
  · rename_i t r ht
    have ht0 := hs.tok t (by rw [ht]; exact List.mem_cons_self ..)
    have hs1 : Good A e ⟨r, s.ns, s.mo⟩ stk := ⟨hs.st, hs.at_, fun t ht' => hs.tok t (by rw [ht]; exact List.mem_cons_of_mem _ ht'), hs.e⟩
    split
    · rename_i hk
      have hn := ht0.2.2.1 hk
      exact one_put [] hs1 rfl rfl (fun _ => ⟨by simp, by simp, by first | assumption | simp [textS, *], by simp [numberS, *], by simp [kidsOkS, cntS, *]⟩) ht0.1 (by simp)
    · rename_i hk
      have hi := ht0.2.1 hk
      split
      · refine Hp.bind (within_g hs1 (fun d' hd s hs => h d' hd s stk hs) One.back) fun x s2 ⟨k, hk, hs2⟩ => ?_
        exact one_put [(x, k)] hs2 rfl rfl (fun _ => ⟨by simp, by simp, by first | assumption | simp [textS, *], by simp [numberS, *], by simp [kidsOkS, cntS, *]⟩) ht0.1 ht0.2.2.2
      · exact one_put [] hs1 rfl rfl (fun _ => ⟨by simp, by simp, by first | assumption | simp [textS, *], by simp [numberS, *], by simp [kidsOkS, cntS, *]⟩) ht0.1 ht0.2.2.2
    · split
      · exact one_put [] hs1 rfl rfl (fun _ => ⟨by simp, by simp, by first | assumption | simp [textS, *], by simp [numberS, *], by simp [kidsOkS, cntS, *]⟩) ht0.1 (by simp)
      · split
        · exact one_put [] hs1 rfl rfl (fun _ => ⟨by simp, by simp, by first | assumption | simp [textS, *], by simp [numberS, *], by simp [kidsOkS, cntS, *]⟩) ht0.1 (by simp)
        · split
          · exact Hp.bind (ident_g hs1) fun t' s2 ⟨hs2, hi, _, hx⟩ => one_put [] hs2 rfl rfl (fun _ => ⟨by simp, by simp, by first | assumption | simp [textS, *], by simp [numberS, *], by simp [kidsOkS, cntS, *]⟩) ht0.1 hx
          · split
            · exact Hp.bind (ident_g hs1) fun t' s2 ⟨hs2, hi, _, hx⟩ => one_put [] hs2 rfl rfl (fun _ => ⟨by simp, by simp, by first | assumption | simp [textS, *], by simp [numberS, *], by simp [kidsOkS, cntS, *]⟩) ht0.1 hx
            · split
              · exact within_g hs (fun d' hd s hs => h d' hd s stk hs) One.back
              · exact .bad
theorem unaB_g (d : Nat) {una inner : M Int} (h1 : ∀ d', d = d' + 1 → G1 A e exB una) (h2 : ∀ d', d = d' + 1 → G1 A e exB inner) : G1 A e exB (unaB e d una inner) := by
  intro s stk hs
  unfold unaB
  split
  · exact .bad
  · rename_i t r ht
    have ht0 := hs.tok t (by rw [ht]; exact List.mem_cons_self ..)
    split
    · rename_i hb
      have htx : textS 26 t.tx = true := by
        rw [Bool.or_eq_true] at hb
        rcases hb with hb | hb <;> rw [isS_tx hb] <;> decide
      exact Hp.bind (within_g hs (fun d' hd s hs => h1 d' hd s stk hs) One.back) fun x s2 ⟨k, hk, hs2⟩ => one_put [(x, k)] hs2 rfl rfl (fun _ => ⟨by simp, by simp, by first | assumption | simp [textS, *], by simp [numberS, *], by simp [kidsOkS, cntS, *]⟩) ht0.1 ht0.2.2.2
    · exact prim_g d h2 s stk hs
theorem una_g : ∀ d, G1 A e exB (unaS e d) := by
  intro d
  induction d with
  | zero => exact unaB_g 0 (fun d' h => by omega) (fun d' h => by omega)
  | succ d ih => exact unaB_g (d + 1) (fun _ _ => ih) (fun _ _ => expr_g ih 5)
theorem ex_g (d : Nat) : G1 A e exB (exS e d) := expr_g (una_g d) 5
theorem in_g (d : Nat) : ∀ d', d = d' + 1 → G1 A e exB (inS e d) := fun d' h => by subst h; exact ex_g d'
theorem index_g (d : Nat) : G1 A e exB (indexS e d) := fun s stk hs => within_g hs (fun d' hd s hs => in_g d d' hd s stk hs) One.back

/-- a list's answers, and their kinds -/
def Many (A : Int → Prop) (e : Int) (p : Int → Bool) (stk : List (Int × Int)) (l0 l : List Int) (s : PS) : Prop := ∃ ks : List (Int × Int), l = l0 ++ ks.map (·.1) ∧ (∀ x ∈ ks, p x.2 = true) ∧ Good A e s (ks.reverse ++ stk)
theorem Many.nil {p : Int → Bool} {stk : List (Int × Int)} {l : List Int} {s : PS} (h : Good A e s stk) : Many A e p stk l l s := ⟨[], by simp, by simp, h⟩
theorem Many.cons {p : Int → Bool} {stk : List (Int × Int)} {l l' : List Int} {x k : Int} {s : PS} (hk : p k = true) (h : Many A e p ((x, k) :: stk) (l ++ [x]) l' s) : Many A e p stk l l' s := by
  obtain ⟨ks, h1, h2, h3⟩ := h
  refine ⟨(x, k) :: ks, by rw [h1]; simp, fun y hy => ?_, by simpa using h3⟩
  rcases List.mem_cons.1 hy with rfl | hy
  · exact hk
  · exact h2 y hy
theorem Many.back {p : Int → Bool} {stk : List (Int × Int)} {l0 : List Int} (l : List Int) (s : PS) (h : Many A e p stk l0 l s) : ∃ stk', Good A e s stk' ∧ ∀ s', s'.ns = s.ns → Good A e s' stk' → Many A e p stk l0 l s' := by
  obtain ⟨ks, h1, h2, h3⟩ := h
  exact ⟨_, h3, fun s' _ h4 => ⟨ks, h1, h2, h4⟩⟩
theorem comma_g {p : Int → Bool} {m : M Int} (h : G1 A e p m) : ∀ n l s stk, Good A e s stk → Hp (commaL (oneS m) n l s) (Many A e p stk l) := by
  intro n
  induction n with
  | zero => exact fun l s stk hs => .pure (.nil hs)
  | succ n ih =>
    intro l s stk hs
    unfold commaL
    split
    · unfold oneS
      refine Hp.bind (p := fun l' s' => ∃ x k, p k = true ∧ l' = l ++ [x] ∧ Good A e s' ((x, k) :: stk)) (Hp.bind (h _ stk hs.drop) fun x s1 ⟨k, hk, hs1⟩ => .pure ⟨x, k, hk, rfl, hs1⟩) fun l' s' ⟨x, k, hk, e', hs'⟩ => ?_
      subst e'
      exact (ih _ s' _ hs').imp fun l' s' h => .cons hk h
    · exact .pure (.nil hs)
theorem list_g {p : Int → Bool} {m : M Int} (h : G1 A e p m) (l : List Int) (s : PS) (stk : List (Int × Int)) (hs : Good A e s stk) : Hp (listS (oneS m) l s) (Many A e p stk l) := by
  unfold listS
  split
  · exact .pure (.nil hs)
  · unfold oneS
    refine Hp.bind (p := fun l' s' => ∃ x k, p k = true ∧ l' = l ++ [x] ∧ Good A e s' ((x, k) :: stk)) (Hp.bind (h _ stk hs) fun x s1 ⟨k, hk, hs1⟩ => .pure ⟨x, k, hk, rfl, hs1⟩) fun l' s' ⟨x, k, hk, e', hs'⟩ => ?_
    subst e'
    exact (comma_g h _ _ s' _ hs').imp fun l' s' h => .cons hk h
theorem cnt_all {p : Int → Bool} : ∀ (l : List Int) (m : Nat), (∀ x ∈ l, p x = true) → l.length ≤ m → cntS p m l = l.length := by
  intro l
  induction l with
  | nil => intro m _ _; cases m <;> rfl
  | cons a l ih =>
    intro m h hm
    cases m with
    | zero => simp at hm
    | succ m => rw [cnt_t (h a (List.mem_cons_self ..)), ih m (fun x hx => h x (List.mem_cons_of_mem _ hx)) (by simpa using hm)]; rfl
theorem cnt_app {p : Int → Bool} : ∀ (l r : List Int) (m : Nat), (∀ x ∈ l, p x = true) → l.length ≤ m → cntS p m (l ++ r) = l.length + cntS p (m - l.length) r := by
  intro l
  induction l with
  | nil => intro r m _ _; simp
  | cons a l ih =>
    intro r m h hm
    cases m with
    | zero => simp at hm
    | succ m =>
      rw [List.cons_append, cnt_t (h a (List.mem_cons_self ..)), ih r m (fun x hx => h x (List.mem_cons_of_mem _ hx)) (by simpa using hm)]
      simp only [List.length_cons, Nat.add_sub_add_right]; omega
theorem cnt_no {p : Int → Bool} {m : Nat} {a : Int} {l : List Int} (h : p a = false) : cntS p m (a :: l) = 0 := by cases m <;> simp [cntS, h]
theorem call_g (d : Nat) (a : Int) (tx : Bs) (ha : A a) (ht : textS 13 tx = true) (hx : tx.length < 1000000) {p : Int → Bool} (hp : p 13 = true) : G1 A e p (callS e d a tx) := by
  intro s stk hs
  unfold callS
  refine Hp.bind (ident_g hs) fun t s1 ⟨hs1, hi, hta, htx⟩ => Hp.bind (put_g [] hs1 rfl (fun _ => ⟨by simp, by simp, by first | assumption | simp [textS, *], by simp [numberS, *], by simp [kidsOkS, cntS, *]⟩) hta htx) fun x s2 hs2 => Hp.bind (within_g hs2 (fun d' hd s hs => list_g (in_g d d' hd) [x] s _ hs) Many.back) fun l s3 ⟨ks, h1, h2, h3⟩ => ?_
  refine one_put ((x, 19) :: ks) (by simpa using h3) (by rw [h1]; rfl) hp (fun hl => ⟨by simp, by simp, ht, by simp [numberS], ?_⟩) ha hx
  have hall : ∀ y ∈ ks.map (·.2), exB y = true := fun y hy => by
    obtain ⟨z, hz, rfl⟩ := List.mem_map.1 hy
    exact h2 z hz
  have hc := cnt_all (ks.map (·.2)) 4000 hall (by simp at hl ⊢; omega)
  have h0 : cntS (fun k => k == 19) 1 (19 :: ks.map (·.2)) = 1 := by simp [cntS]
  simp only [kidsOkS, List.map_cons, List.drop_zero]
  rw [h0]
  simp only [List.drop_succ_cons, List.drop_zero]
  rw [hc]
  simp
  omega
theorem chan_g : G1 A e (fun k => k == 18) (chanS e) := fun s stk hs => Hp.bind (ident_g hs) fun t s1 ⟨hs1, hi, hta, htx⟩ => one_put [] hs1 rfl rfl (fun _ => ⟨by simp, by simp, by first | assumption | simp [textS, *], by simp [numberS, *], by simp [kidsOkS, cntS, *]⟩) hta htx
theorem named_g (d : Nat) : G1 A e stB (namedS e d) := by
  intro s stk hs
  unfold namedS
  refine Hp.bind (ident_g hs) fun t s1 ⟨hs1, hi, hta, htx⟩ => ?_
  have ht13 : textS 13 t.tx = true := by simp [textS, hi]
  split
  · exact Hp.bind (index_g d s1 _ hs1) fun x s2 ⟨k, hk, hs2⟩ => Hp.bind (want_g hs2) fun _ s3 hs3 => Hp.bind (ex_g d s3 _ hs3) fun y s4 ⟨k2, hk2, hs4⟩ => one_put [(x, k), (y, k2)] hs4 rfl rfl (fun _ => ⟨by simp, by simp, by first | assumption | simp [textS, *], by simp [numberS, *], by simp [kidsOkS, cntS, *]⟩) hta htx
  · refine Hp.bind (want_g hs1) fun _ s2 hs2 => ?_
    split
    · exact Hp.bind (chan_g _ _ hs2.drop) fun x s3 ⟨k, hk, hs3⟩ => one_put [(x, k)] hs3 rfl rfl (fun _ => ⟨by simp, by simp, by simp [textS, *], by simp [numberS], by simp only [beq_iff_eq] at hk; subst hk; simp [kidsOkS, cntS]⟩) hta htx
    · split
      · exact call_g d _ _ hta ht13 htx rfl _ _ hs2.drop
      · split
        · exact Hp.bind (ex_g d _ _ hs2.drop) fun x s3 ⟨k, hk, hs3⟩ => one_put [(x, k)] hs3 rfl rfl (fun _ => ⟨by simp, by simp, by first | assumption | simp [textS, *], by simp [numberS, *], by simp [kidsOkS, cntS, *]⟩) hta htx
        · exact Hp.bind (ex_g d _ _ hs2) fun x s3 ⟨k, hk, hs3⟩ => one_put [(x, k)] hs3 rfl rfl (fun _ => ⟨by simp, by simp, by first | assumption | simp [textS, *], by simp [numberS, *], by simp [kidsOkS, cntS, *]⟩) hta htx
theorem plain_g (d : Nat) : G1 A e stB (plainS e d) := by
  intro s stk hs
  unfold plainS
  simp only
  have ha := hs.hd
  split
  · exact Hp.bind (chan_g _ _ hs.drop) fun c s1 ⟨k, hk, hs1⟩ => Hp.bind (ex_g d _ _ hs1) fun x s2 ⟨k2, hk2, hs2⟩ => one_put [(c, k), (x, k2)] hs2 rfl rfl (fun _ => ⟨by simp, by simp, by simp [textS], by simp [numberS], by simp only [beq_iff_eq] at hk; subst hk; simp [kidsOkS, cntS, hk2]⟩) ha (by simp)
  · split
    · exact call_g d _ _ ha rfl (by simp) rfl _ _ hs.drop
    · split
      · exact Hp.bind (ex_g d _ _ hs.drop) fun x s3 ⟨k, hk, hs3⟩ => one_put [(x, k)] hs3 rfl rfl (fun _ => ⟨by simp, by simp, by first | assumption | simp [textS, *], by simp [numberS, *], by simp [kidsOkS, cntS, *]⟩) ha (by simp)
      · split
        · split
          · exact one_put [] hs.drop rfl rfl (fun _ => ⟨by simp, by simp, by first | assumption | simp [textS, *], by simp [numberS, *], by simp [kidsOkS, cntS, *]⟩) ha (by simp)
          · exact Hp.bind (ex_g d _ _ hs.drop) fun x s3 ⟨k, hk, hs3⟩ => one_put [(x, k)] hs3 rfl rfl (fun _ => ⟨by simp, by simp, by first | assumption | simp [textS, *], by simp [numberS, *], by simp [kidsOkS, cntS, *]⟩) ha (by simp)
        · exact named_g d s stk hs
theorem stmtsL_g {p : Int → Bool} {stmt : M Int} (h : G1 A e p stmt) : ∀ n l s stk, Good A e s stk → Hp (stmtsL stmt n l s) (Many A e p stk l) := by
  intro n
  induction n with
  | zero => exact fun l s stk hs => .bad
  | succ n ih =>
    intro l s stk hs
    unfold stmtsL
    split
    · exact .pure (.nil hs)
    · exact Hp.bind (h s stk hs) fun x s1 ⟨k, hk, hs1⟩ => (ih _ s1 _ hs1).imp fun l' s' h => .cons hk h
theorem block_put {s : PS} {stk : List (Int × Int)} {l : List Int} {a : Int} (ha : A a) (h : Many A e stB stk [] l s) : Hp (putS ⟨6, 0, a, [], l⟩ s) (One A e (fun k => k == 6) stk) := by
  obtain ⟨ks, h1, h2, h3⟩ := h
  refine one_put ks h3 (by simpa using h1) rfl (fun hl => ⟨by simp, by simp, by simp [textS], by simp [numberS], ?_⟩) ha (by simp)
  have hall : ∀ y ∈ ks.map (·.2), stB y = true := fun y hy => by
    obtain ⟨z, hz, rfl⟩ := List.mem_map.1 hy
    exact h2 z hz
  have hc := cnt_all (ks.map (·.2)) 4000 hall hl
  simp only [kidsOkS, List.drop_zero]
  rw [hc]; simp
theorem block_g (d : Nat) {stmt : M Int} (h : ∀ d', d = d' + 1 → G1 A e stB stmt) : G1 A e (fun k => k == 6) (blockB e d stmt) := by
  intro s stk hs
  unfold blockB
  simp only
  exact Hp.bind (within_g hs (fun d' hd s hs => stmtsL_g (h d' hd) _ [] s stk hs) Many.back) fun l s1 h1 => block_put hs.hd h1
theorem stmtB_g (d : Nat) {stmt : M Int} (h : ∀ d', d = d' + 1 → G1 A e stB stmt) : G1 A e stB (stmtB e d stmt) := by
  intro s stk hs
  unfold stmtB
  simp only
  have ha := hs.hd
  split
  · refine Hp.bind (ex_g d _ _ hs.drop) fun x s1 ⟨k, hk, hs1⟩ => Hp.bind (block_g d h _ _ hs1) fun a s2 ⟨k2, hk2, hs2⟩ => ?_
    simp only [beq_iff_eq] at hk2; subst hk2
    split
    · refine Hp.bind (block_g d h _ _ hs2.drop) fun b s3 ⟨k3, hk3, hs3⟩ => ?_
      simp only [beq_iff_eq] at hk3; subst hk3
      exact one_put [(x, k), (a, 6), (b, 6)] hs3 rfl rfl (fun _ => ⟨by simp, by simp, by first | assumption | simp [textS, *], by simp [numberS, *], by simp [kidsOkS, cntS, *]⟩) ha (by simp)
    · exact Hp.bind (put_g [] hs2 rfl (n := ⟨6, 0, hd e s.ts, [], []⟩) (fun _ => ⟨by simp, by simp, by first | assumption | simp [textS, *], by simp [numberS, *], by simp [kidsOkS, cntS, *]⟩) ha (by simp)) fun b s3 hs3 => one_put [(x, k), (a, 6), (b, 6)] hs3 rfl rfl (fun _ => ⟨by simp, by simp, by first | assumption | simp [textS, *], by simp [numberS, *], by simp [kidsOkS, cntS, *]⟩) ha (by simp)
  · split
    · refine Hp.bind (ex_g d _ _ hs.drop) fun x s1 ⟨k, hk, hs1⟩ => Hp.bind (block_g d h _ _ hs1) fun a s2 ⟨k2, hk2, hs2⟩ => ?_
      simp only [beq_iff_eq] at hk2; subst hk2
      exact one_put [(x, k), (a, 6)] hs2 rfl rfl (fun _ => ⟨by simp, by simp, by first | assumption | simp [textS, *], by simp [numberS, *], by simp [kidsOkS, cntS, *]⟩) ha (by simp)
    · split
      · refine Hp.bind (block_g d h _ _ hs.drop) fun a s1 ⟨k, hk, hs1⟩ => Hp.bind (want_g hs1) fun _ s2 hs2 => Hp.bind (ident_g hs2) fun t s3 ⟨hs3, hi, hta, htx⟩ => Hp.bind (block_g d h _ _ hs3) fun b s4 ⟨k2, hk2, hs4⟩ => ?_
        simp only [beq_iff_eq] at hk hk2; subst hk hk2
        exact one_put [(a, 6), (b, 6)] hs4 rfl rfl (fun _ => ⟨by simp, by simp, by first | assumption | simp [textS, *], by simp [numberS, *], by simp [kidsOkS, cntS, *]⟩) ha htx
      · exact Hp.bind (plain_g d s stk hs) fun x s1 ⟨k, hk, hs1⟩ => Hp.bind (want_g hs1) fun _ s2 hs2 => .pure ⟨k, hk, hs2⟩
theorem stmt_g : ∀ d, G1 A e stB (stmtS e d) := by
  intro d
  induction d with
  | zero => exact stmtB_g 0 (fun d' h => by omega)
  | succ d ih => exact stmtB_g (d + 1) (fun _ _ => ih)
theorem inStmt_g (d : Nat) : ∀ d', d = d' + 1 → G1 A e stB (inStmtS e d) := fun d' h => by subst h; exact stmt_g d'
theorem types_in4 (ts : List Tok) : 0 ≤ typesS ts ∧ typesS ts ≤ 4 := by
  unfold typesS
  split
  · omega
  · split
    · omega
    · split
      · omega
      · split <;> omega
theorem typed_g (k a : Int) (tx : Bs) (hk : k = 2 ∨ k = 4 ∨ k = 5) (ha : A a) (ht : identP tx = true) (hx : tx.length < 1000000) : G1 A e (fun q => q == k) (typedS e k a tx) := by
  intro s stk hs
  unfold typedS
  split
  · exact .bad
  · rename_i h0
    have h1 := types_in4 s.ts
    have h2 : typesS s.ts ≠ 0 := beq_eq_false_iff_ne.1 h0
    refine one_put [] hs.drop rfl (by simp) (fun _ => ⟨by simp only; omega, by simp only; omega, ?_, ?_, ?_⟩) ha hx
    · rcases hk with rfl | rfl | rfl <;> simp [textS, ht]
    · rcases hk with rfl | rfl | rfl <;> simp [numberS] <;> omega
    · rcases hk with rfl | rfl | rfl <;> simp [kidsOkS, cntS]
theorem varsL_g (kind : Int) (hk : kind = 2 ∨ kind = 4 ∨ kind = 5) : ∀ n l s stk, Good A e s stk → Hp (varsL e kind n l s) (Many A e (fun q => q == kind) stk l) := by
  intro n
  induction n with
  | zero => exact fun l s stk hs => .pure (.nil hs)
  | succ n ih =>
    intro l s stk hs
    unfold varsL
    split
    · exact .pure (.nil hs)
    · exact Hp.bind (ident_g hs.drop) fun t s1 ⟨hs1, hi, hta, htx⟩ => Hp.bind (typed_g kind _ _ hk hs.hd hi htx s1 stk hs1) fun x s2 ⟨k, hk', hs2⟩ => Hp.bind (want_g hs2) fun _ s3 hs3 => (ih _ s3 _ hs3).imp fun l' s' h => .cons hk' h
/-- declarations, and a block -/
theorem body_g (d : Nat) (s : PS) (stk : List (Int × Int)) (hs : Good A e s stk) : Hp (bodyS e d s) (fun p s' => ∃ ks : List (Int × Int), p.1 = ks.map (·.1) ∧ (∀ x ∈ ks, x.2 = 5) ∧ Good A e s' ((p.2, 6) :: (ks.reverse ++ stk))) := by
  unfold bodyS
  simp only
  refine Hp.bind (p := fun (p : List Int × List Int) s' => ∃ ks : List (Int × Int), p.1 = ks.map (·.1) ∧ (∀ x ∈ ks, x.2 = 5) ∧ Many A e stB (ks.reverse ++ stk) [] p.2 s') ?_ ?_
  · refine within_g hs (fun d' hd s hs => ?_) ?_
    · refine Hp.bind (varsL_g 5 (by simp) _ [] s stk hs) fun vs s1 ⟨ks, h1, h2, h3⟩ => ?_
      refine Hp.bind (stmtsL_g (inStmt_g d d' hd) _ [] s1 _ h3) fun l s2 h4 => .pure ⟨ks, by simpa using h1, fun x hx => by simpa using h2 x hx, h4⟩
    · rintro p s ⟨ks, h1, h2, h3⟩
      obtain ⟨stk', h4, h5⟩ := Many.back _ _ h3
      exact ⟨stk', h4, fun s' e' h6 => ⟨ks, h1, h2, h5 s' e' h6⟩⟩
  · rintro p s1 ⟨ks, h1, h2, h3⟩
    refine Hp.bind (block_put hs.hd h3) fun b s2 ⟨k, hk, hs2⟩ => .pure ⟨ks, h1, h2, ?_⟩
    simp only [beq_iff_eq] at hk; subst hk
    exact hs2
theorem param_g : G1 A e (fun q => q == 4) (paramS e) := fun s stk hs => Hp.bind (ident_g hs) fun t s1 ⟨hs1, hi, hta, htx⟩ => typed_g 4 _ _ (by simp) hta hi htx s1 stk hs1
theorem proc_g (d : Nat) : G1 A e (fun q => q == 3) (procS e d) := by
  intro s stk hs
  unfold procS
  simp only
  refine Hp.bind (want_g hs) fun _ s1 hs1 => Hp.bind (ident_g hs1) fun t s2 ⟨hs2, hi, hta, htx⟩ => Hp.bind (within_g hs2 (fun d' hd s hs => list_g param_g [] s stk hs) Many.back) fun ps s3 ⟨ks, h1, h2, h3⟩ => ?_
  have h4 := types_in4 s3.ts
  have h5 : Good A e (match decide (typesS s3.ts > 0) with
        | true => dropS s3
        | false => s3) (ks.reverse ++ stk) := by
    split
    · exact h3.drop
    · exact h3
  refine Hp.bind (body_g d _ _ h5) fun p s4 ⟨ks2, h6, h7, h8⟩ => ?_
  refine one_put (ks ++ ks2 ++ [(p.2, 6)]) (by simpa using h8) (by simp [h1, h6]) rfl (fun hl => ⟨by simp, by simp, by simp [textS, hi], by simp [numberS]; omega, ?_⟩) hs.hd htx
  have ha1 : ∀ y ∈ ks.map (·.2), (fun k => k == (4 : Int)) y = true := fun y hy => by
    obtain ⟨z, hz, rfl⟩ := List.mem_map.1 hy
    exact h2 z hz
  have ha2 : ∀ y ∈ ks2.map (·.2), (fun k => k == (5 : Int)) y = true := fun y hy => by
    obtain ⟨z, hz, rfl⟩ := List.mem_map.1 hy
    simp [h7 z hz]
  simp only [List.map_append, List.map_cons, List.map_nil, List.length_append, List.length_cons, List.length_nil, List.length_map] at hl
  have hc1 : cntS (fun k => k == 4) 4000 (ks.map (·.2) ++ (ks2.map (·.2) ++ [6])) = ks.length := by
    rw [cnt_app _ _ _ ha1 (by simp; omega), List.length_map]
    have : cntS (fun k => k == 4) (4000 - ks.length) (ks2.map (·.2) ++ [6]) = 0 := by
      cases hk2 : ks2.map (·.2) with
      | nil => exact cnt_no (by decide)
      | cons y r =>
        have := ha2 y (by rw [hk2]; exact List.mem_cons_self ..)
        simp only [beq_iff_eq] at this; subst this
        exact cnt_no (by decide)
    rw [this]; rfl
  have hc2 : cntS (fun k => k == 5) 4000 (ks2.map (·.2) ++ [6]) = ks2.length := by
    rw [cnt_app _ _ _ ha2 (by simp; omega), List.length_map, cnt_no (by decide)]; rfl
  have hd1 : List.drop ks.length ((ks.map fun x : Int × Int => x.2) ++ ((ks2.map fun x : Int × Int => x.2) ++ [6])) = (ks2.map fun x : Int × Int => x.2) ++ [6] := by rw [List.drop_append_of_le_length (by simp)]; simp
  have hd2 : List.drop (ks.length + ks2.length) ((ks.map fun x : Int × Int => x.2) ++ ((ks2.map fun x : Int × Int => x.2) ++ [6])) = [6] := by
    rw [← List.drop_drop, hd1, List.drop_append_of_le_length (by simp)]; simp
  simp only [kidsOkS, List.map_append, List.map_cons, List.map_nil, List.append_assoc, List.drop_zero, Int.reduceEq, if_false, if_true, Nat.zero_add]
  rw [hc1, hd1, hc2, hd2]
  simp [cntS]
  omega
theorem procsL_g (d : Nat) : ∀ n l s stk, Good A e s stk → Hp (procsL e d n l s) (Many A e (fun q => q == 3) stk l) := by
  intro n
  induction n with
  | zero => exact fun l s stk hs => .pure (.nil hs)
  | succ n ih =>
    intro l s stk hs
    unfold procsL
    split
    · exact .pure (.nil hs)
    · exact Hp.bind (proc_g d s stk hs) fun x s1 ⟨k, hk, hs1⟩ => (ih _ s1 _ hs1).imp fun l' s' h => .cons hk h
/-- a program: its nodes, the last one's place aside -/
theorem program_g (s : PS) (hs : Good A e s []) : Hp (programS e s) (fun x s' => GoodS s'.ns [(x, 1)] ∧ ∀ i, i + 1 < s'.ns.length → A (s'.ns.getD i default).at_) := by
  unfold programS
  refine Hp.bind (varsL_g 2 (by simp) _ [] s [] hs) fun vs s1 ⟨ks, h1, h2, h3⟩ => Hp.bind (procsL_g 40 _ _ s1 _ h3) fun l s2 ⟨ks2, h4, h5, h6⟩ => .pure ⟨?_, fun i hi => ?_⟩
  · refine GoodS.put (ks ++ ks2) _ (by simpa using h6.st) (by simp [h4, h1]) (fun hl => ⟨by simp, by simp, by simp [textS], by simp [numberS], ?_⟩) (by simp)
    have ha1 : ∀ y ∈ ks.map (·.2), (fun k => k == (2 : Int)) y = true := fun y hy => by
      obtain ⟨z, hz, rfl⟩ := List.mem_map.1 hy
      exact h2 z hz
    have ha2 : ∀ y ∈ ks2.map (·.2), (fun k => k == (3 : Int)) y = true := fun y hy => by
      obtain ⟨z, hz, rfl⟩ := List.mem_map.1 hy
      exact h5 z hz
    simp only [List.map_append, List.length_append, List.length_map] at hl
    have hc1 : cntS (fun k => k == 2) 4000 (ks.map (·.2) ++ ks2.map (·.2)) = ks.length := by
      rw [cnt_app _ _ _ ha1 (by simp; omega), List.length_map]
      have : cntS (fun k => k == 2) (4000 - ks.length) (ks2.map (·.2)) = 0 := by
        cases hk2 : ks2.map (·.2) with
        | nil => cases 4000 - ks.length <;> rfl
        | cons y r =>
          have := ha2 y (by rw [hk2]; exact List.mem_cons_self ..)
          simp only [beq_iff_eq] at this; subst this
          exact cnt_no (by decide)
      rw [this]; rfl
    have hc2 : cntS (fun k => k == 3) 4000 (ks2.map (·.2)) = ks2.length := by
      rw [cnt_all _ _ ha2 (by simp; omega), List.length_map]
    have hd1 : List.drop ks.length ((ks.map fun x : Int × Int => x.2) ++ (ks2.map fun x : Int × Int => x.2)) = (ks2.map fun x : Int × Int => x.2) := by rw [List.drop_append_of_le_length (by simp)]; simp
    simp only [kidsOkS, List.map_append, List.drop_zero, if_true, Nat.zero_add]
    rw [hc1, hd1, hc2]
    simp
  · have hi' : i < s2.ns.length := by simp at hi; omega
    simp only; rw [getD_snoc_lt hi']; exact h6.at_ i hi'
end Go.Ru

namespace Go.Ru
open Go
set_option maxRecDepth 10000

theorem wordP_ok {l : Bs} (hl : ∀ c ∈ l, inB partsT c = true) {k : TK} {v : Int} (h : wordP l = some (k, v)) : (k = .name → identP l = true) ∧ (k = .number → 0 ≤ v) ∧ (k = .word → keptP l = true) ∧ k ≠ .sign := by
  unfold wordP at h
  split at h
  · rename_i hk
    simp only [Option.some.injEq, Prod.mk.injEq] at h
    obtain ⟨rfl, rfl⟩ := h
    exact ⟨fun h => by simp at h, fun h => by simp at h, fun _ => hk, by simp⟩
  · split at h
    · rename_i hi
      simp only [Option.some.injEq, Prod.mk.injEq] at h
      obtain ⟨rfl, rfl⟩ := h
      exact ⟨fun _ => hi, fun h => by simp at h, fun h => by simp at h, by simp⟩
    · split at h
      · rename_i v' hn
        simp only [Option.some.injEq, Prod.mk.injEq] at h
        obtain ⟨rfl, rfl⟩ := h
        refine ⟨fun h => by simp at h, fun _ => ?_, fun h => by simp at h, by simp⟩
        unfold numP at hn
        split at hn
        · rename_i v2 _
          split at hn
          · rename_i hi
            injection hn with hn; subst hn
            by_cases h0 : 0 ≤ v2
            · exact h0
            · exfalso
              unfold Lib.itoa at hi
              rw [if_pos (by omega)] at hi
              have := hl 45 (by rw [← hi]; exact List.mem_cons_self ..)
              exact absurd this (by decide)
          · cases hn
        · cases hn
      · cases h
theorem signP_le (r : Bs) : signP r ≤ 2 := by
  unfold signP; split
  · omega
  · split <;> omega
structure CutOk (i n : Nat) (t : Tok) : Prop where
  lo : (i : Int) ≤ t.at_
  hi : t.at_ ≤ (i + n : Nat)
  name : t.k = .name → identP t.tx = true
  num : t.k = .number → 0 ≤ t.n
  len : t.tx.length ≤ n
theorem CutOk.drop {i n m : Nat} {t : Tok} (h : CutOk (i + m) (n - m) t) (hm : m ≤ n) : CutOk i n t :=
  ⟨by have := h.lo; omega, by have := h.hi; omega, h.name, h.num, by have := h.len; omega⟩
theorem cons_ok {t : Tok} {c : CR} {l : List Tok} (h : c.cons t = .ok l) : ∃ l', c = .ok l' ∧ l = t :: l' := by
  cases c with
  | ok l' => simp only [CR.cons, CR.ok.injEq] at h; exact ⟨l', rfl, h.symm⟩
  | bad a => cases h
theorem cons_bad {t : Tok} {c : CR} {a : Nat} (h : c.cons t = .bad a) : c = .bad a := by
  cases c with
  | ok l' => cases h
  | bad a => simpa [CR.cons] using h
theorem runS_len (l r : Bs) : runS l r ≤ r.length := (List.takeWhile_sublist _).length_le
theorem tw_all {α : Type} (p : α → Bool) (l : List α) : ∀ c ∈ l.takeWhile p, p c = true := by
  induction l with
  | nil => intro c h; cases h
  | cons a l ih =>
    intro c h
    rw [List.takeWhile_cons] at h
    split at h
    · rcases List.mem_cons.1 h with rfl | h
      · assumption
      · exact ih c h
    · cases h
theorem dw_eq {α : Type} (p : α → Bool) (l : List α) : l.dropWhile p = l.drop (l.takeWhile p).length := by
  induction l with
  | nil => rfl
  | cons a l ih =>
    rw [List.dropWhile_cons, List.takeWhile_cons]
    split
    · rw [ih]; rfl
    · rfl
theorem run_all (l r : Bs) : ∀ c ∈ r.take (runS l r), inB l c = true := by
  intro c hc
  have : r.take (runS l r) = r.takeWhile (inB l) := by
    unfold runS
    exact (List.prefix_iff_eq_take.1 (List.takeWhile_prefix _)).symm
  rw [this] at hc
  exact tw_all (inB l) r c hc
theorem cut_at : ∀ (n : Nat) (r : Bs) (i : Nat), (∀ l, cutS n r i = .ok l → ∀ t ∈ l, CutOk i r.length t) ∧ (∀ a, cutS n r i = .bad a → i ≤ a ∧ a ≤ i + r.length) := by
  intro n
  induction n with
  | zero =>
    intro r i
    refine ⟨fun l h t ht => ?_, fun a h => ?_⟩
    · simp only [cutS, CR.ok.injEq] at h; subst h; cases ht
    · cases h
  | succ n ih =>
    intro r i
    cases r with
    | nil =>
      refine ⟨fun l h t ht => ?_, fun a h => ?_⟩
      · simp only [cutS, CR.ok.injEq] at h; subst h; cases ht
      · cases h
    | cons c r' =>
      have step : ∀ m, m ≤ (c :: r').length → (∀ l, cutS n ((c :: r').drop m) (i + m) = .ok l → ∀ t ∈ l, CutOk i (c :: r').length t) ∧ (∀ a, cutS n ((c :: r').drop m) (i + m) = .bad a → i ≤ a ∧ a ≤ i + (c :: r').length) := fun m hm => by
        obtain ⟨h1, h2⟩ := ih ((c :: r').drop m) (i + m)
        rw [List.length_drop] at h1 h2
        exact ⟨fun l h t ht => (h1 l h t ht).drop hm, fun a h => by have := h2 a h; omega⟩
      have here : ∀ (k : TK) (v : Int) (tx : Bs), tx.length ≤ (c :: r').length → (k = .name → identP tx = true) → (k = .number → 0 ≤ v) → CutOk i (c :: r').length ⟨k, v, i, tx⟩ := fun k v tx h1 h2 h3 => ⟨Int.le_refl _, by simp only; omega, h2, h3, h1⟩
      unfold cutS
      simp only
      split
      · exact step _ (runS_len _ _)
      · split
        · rw [dw_eq]
          exact step _ (List.takeWhile_sublist _).length_le
        · split
          · rename_i hp
            split
            · exact ⟨fun l h => (by cases h), fun a h => (by injection h with h; subst h; omega)⟩
            · rename_i k v hw
              obtain ⟨h1, h2, _, _⟩ := wordP_ok (run_all _ _) hw
              refine ⟨fun l h t ht => ?_, fun a h => (step _ (runS_len _ _)).2 a (cons_bad h)⟩
              obtain ⟨l', h3, rfl⟩ := cons_ok h
              rcases List.mem_cons.1 ht with rfl | ht
              · exact here k v _ (List.length_take_le' ..) h1 h2
              · exact (step _ (runS_len _ _)).1 l' h3 t ht
          · split
            · exact ⟨fun l h => (by cases h), fun a h => (by injection h with h; subst h; omega)⟩
            · rename_i m hm
              have hml : m + 1 ≤ (c :: r').length := by
                have h2 : signP (c :: r') = m + 1 := hm
                unfold signP at h2
                split at h2
                · rename_i hp
                  simp only [pairP, Bool.and_eq_true, decide_eq_true_eq] at hp
                  omega
                · split at h2
                  · simp; omega
                  · cases h2
              refine ⟨fun l h t ht => ?_, fun a h => (step _ hml).2 a (cons_bad h)⟩
              obtain ⟨l', h3, rfl⟩ := cons_ok h
              rcases List.mem_cons.1 ht with rfl | ht
              · exact here .sign 0 _ (List.length_take_le' ..) (fun h => by cases h) (fun h => by cases h)
              · exact (step _ hml).1 l' h3 t ht
end Go.Ru

namespace Go.Ru

def tkey (t : Tok) : TK × Int × Bs := (t.k, t.n, t.tx)
def nkey (n : Nd) : Int × Int × Bs × List Int := (n.k, n.n, n.tx, n.kids)
/-- tokens alike -/
def TsE (a b : List Tok) : Prop := a.map tkey = b.map tkey
structure StE (s s' : PS) : Prop where
  ts : TsE s.ts s'.ts
  ns : s.ns.map nkey = s'.ns.map nkey
  mo : s.mo = s'.mo
/-- answers alike -/
def RE {α : Type} (v : α → α → Prop) : R α → R α → Prop
  | .ok a s, .ok b s' => v a b ∧ StE s s'
  | .bad _ er, .bad _ er' => er = er'
  | _, _ => False
theorem RE.bind {α β : Type} {v : α → α → Prop} {u : β → β → Prop} {r r' : R α} {f f' : α → PS → R β} (h : RE v r r') (h' : ∀ a b s s', v a b → StE s s' → RE u (f a s) (f' b s')) : RE u (r.bind f) (r'.bind f') := by
  cases r with
  | ok a s =>
    cases r' with
    | ok b s' => exact h' a b s s' h.1 h.2
    | bad _ _ => exact h.elim
  | bad a er =>
    cases r' with
    | ok _ _ => exact h.elim
    | bad _ _ => exact h
abbrev ME (m m' : M Int) : Prop := ∀ s s', StE s s' → RE Eq (m s) (m' s')

theorem TsE.nil {b : List Tok} (h : TsE [] b) : b = [] := by cases b <;> simp [TsE] at h ⊢
theorem TsE.cons {t : Tok} {r b : List Tok} (h : TsE (t :: r) b) : ∃ t' r', b = t' :: r' ∧ t'.k = t.k ∧ t'.n = t.n ∧ t'.tx = t.tx ∧ TsE r r' := by
  cases b with
  | nil => simp [TsE] at h
  | cons t' r' =>
    simp only [TsE, List.map_cons, List.cons.injEq, tkey, Prod.mk.injEq] at h
    exact ⟨t', r', rfl, h.1.1.symm, h.1.2.1.symm, h.1.2.2.symm, h.2⟩
theorem TsE.isS {a b : List Tok} (h : TsE a b) (w : Bs) : isS w a = isS w b := by
  cases a with
  | nil => rw [h.nil]
  | cons t r =>
    obtain ⟨t', r', rfl, h1, h2, h3, h4⟩ := h.cons
    simp only [Go.Ru.isS, h1, h3]
theorem TsE.tail {a b : List Tok} (h : TsE a b) : TsE a.tail b.tail := by
  cases a with
  | nil => rw [h.nil]; rfl
  | cons t r => obtain ⟨t', r', rfl, h1, h2, h3, h4⟩ := h.cons; exact h4
theorem TsE.len {a b : List Tok} (h : TsE a b) : a.length = b.length := by have := congrArg List.length h; simpa using this
theorem StE.drop {s s' : PS} (h : StE s s') : StE (dropS s) (dropS s') := ⟨h.ts.tail, h.ns, h.mo⟩
theorem StE.put {s s' : PS} (h : StE s s') {n n' : Nd} (hn : nkey n = nkey n') : RE Eq (putS n s) (putS n' s') := by
  have hl : s.ns.length = s'.ns.length := by have := congrArg List.length h.ns; simpa using this
  exact ⟨by rw [hl], h.ts, by simp [h.ns, hn], h.mo⟩
theorem want_e {e e' : Int} {w : Bs} {s s' : PS} (h : StE s s') : RE (fun _ _ => True) (wantS e w s) (wantS e' w s') := by
  unfold wantS
  rw [h.ts.isS]
  split
  · exact ⟨trivial, h.drop⟩
  · rfl
theorem ident_e {e e' : Int} {s s' : PS} (h : StE s s') : RE (fun t t' => t.tx = t'.tx) (identS e s) (identS e' s') := by
  obtain ⟨ts, ns, mo⟩ := s
  obtain ⟨ts', ns', mo'⟩ := s'
  have ht := h.ts
  simp only at ht
  unfold identS
  cases ts with
  | nil => rw [ht.nil]; exact rfl
  | cons t r =>
    obtain ⟨t', r', rfl, h1, h2, h3, h4⟩ := ht.cons
    simp only [h1]
    split
    · exact ⟨h3.symm, h4, h.ns, h.mo⟩
    · exact rfl
theorem within_e {α : Type} {v : α → α → Prop} {e e' : Int} {d : Nat} {op cl : Bs} {what what' : M α} (hw : ∀ d', d = d' + 1 → ∀ s s', StE s s' → RE v (what s) (what' s')) {s s' : PS} (h : StE s s') : RE v (withinS e d op cl what s) (withinS e' d op cl what' s') := by
  unfold withinS
  rw [h.ts.isS]
  split
  · rfl
  · split
    · rfl
    · refine RE.bind (hw _ rfl _ _ ⟨h.ts.tail, h.ns, by rw [h.mo]⟩) fun a b s1 s1' hv h1 => ?_
      split
      · exact ⟨hv, h1⟩
      · exact RE.bind (want_e h1) fun _ _ s2 s2' _ h2 => ⟨hv, h2⟩
theorem any_e {a b : List Tok} (h : TsE a b) (l : List Bs) : anyS l a = anyS l b := by
  unfold anyS
  congr 1; funext w; exact h.isS w
theorem rowLoop_e {l : List Bs} {opnd opnd' : M Int} (ho : ME opnd opnd') : ∀ n x s s', StE s s' → RE Eq (rowLoop l opnd n x s) (rowLoop l opnd' n x s') := by
  intro n
  induction n with
  | zero => exact fun x s s' h => ⟨rfl, h⟩
  | succ n ih =>
    intro x s s' h
    obtain ⟨ts, ns, mo⟩ := s
    obtain ⟨ts', ns', mo'⟩ := s'
    have ht := h.ts
    simp only at ht
    unfold rowLoop
    cases ts with
    | nil => rw [ht.nil] at h ⊢; exact ⟨rfl, h⟩
    | cons t r =>
      have ha := any_e ht l
      obtain ⟨t', r', rfl, h1, h2, h3, h4⟩ := ht.cons
      simp only [ha]
      split
      · exact ⟨rfl, h⟩
      · refine RE.bind (ho _ _ ⟨h4, h.ns, h.mo⟩) fun y y' s1 s1' hy h1 => ?_
        subst hy
        refine RE.bind (h1.put (by simp [nkey, h3])) fun z z' s2 s2' hz h2 => ?_
        subst hz
        exact ih z s2 s2' h2
theorem expr_e {una una' : M Int} (h : ME una una') : ∀ j, ME (exprS una j) (exprS una' j) := by
  intro j
  induction j with
  | zero => exact h
  | succ j ih =>
    intro s s' hs
    unfold exprS
    refine RE.bind (ih s s' hs) fun x x' s1 s1' hx h1 => ?_
    subst hx
    rw [h1.ts.len]
    exact rowLoop_e ih _ x s1 s1' h1
theorem prim_e {e e' : Int} (d : Nat) {inner inner' : M Int} (h : ∀ d', d = d' + 1 → ME inner inner') : ME (primS e d inner) (primS e' d inner') := by
  intro s s' hs
  obtain ⟨ts, ns, mo⟩ := s
  obtain ⟨ts', ns', mo'⟩ := s'
  have ht := hs.ts
  simp only at ht
  unfold primS
  cases ts with
  | nil => rw [ht.nil]; rfl
  | cons t r =>
    obtain ⟨t', r', rfl, h1, h2, h3, h4⟩ := ht.cons
    have hr : StE ⟨r, ns, mo⟩ ⟨r', ns', mo'⟩ := ⟨h4, hs.ns, hs.mo⟩
    simp only [h1, h2, h3, h4.isS]
    split
    · exact hr.put (by simp [nkey])
    · split
      · refine RE.bind (within_e (fun d' hd => h d' hd) hr) fun x x' s1 s1' hx hs1 => ?_
        subst hx
        exact hs1.put (by simp [nkey])
      · exact hr.put (by simp [nkey])
    · split
      · exact hr.put (by simp [nkey])
      · split
        · exact hr.put (by simp [nkey])
        · split
          · exact RE.bind (ident_e hr) fun t1 t2 s1 s1' hx hs1 => hs1.put (by simp [nkey, hx])
          · split
            · exact RE.bind (ident_e hr) fun t1 t2 s1 s1' hx hs1 => hs1.put (by simp [nkey, hx])
            · split
              · exact within_e (fun d' hd => h d' hd) hs
              · rfl
theorem unaB_e {e e' : Int} (d : Nat) {una una' inner inner' : M Int} (h1 : ∀ d', d = d' + 1 → ME una una') (h2 : ∀ d', d = d' + 1 → ME inner inner') : ME (unaB e d una inner) (unaB e' d una' inner') := by
  intro s s' hs
  have hp := prim_e (e := e) (e' := e') d h2 s s' hs
  obtain ⟨ts, ns, mo⟩ := s
  obtain ⟨ts', ns', mo'⟩ := s'
  have ht := hs.ts
  simp only at ht
  unfold unaB
  cases ts with
  | nil => rw [ht.nil]; rfl
  | cons t r =>
    have hi := ht.isS
    obtain ⟨t', r', rfl, h3, h4, h5, h6⟩ := ht.cons
    simp only [hi, h5]
    split
    · refine RE.bind (within_e (fun d' hd => h1 d' hd) hs) fun x x' s1 s1' hx hs1 => ?_
      subst hx
      exact hs1.put (by simp [nkey])
    · exact hp
theorem una_e {e e' : Int} : ∀ d, ME (unaS e d) (unaS e' d) := by
  intro d
  induction d with
  | zero => exact unaB_e 0 (fun d' h => by omega) (fun d' h => by omega)
  | succ d ih => exact unaB_e (d + 1) (fun _ _ => ih) (fun _ _ => expr_e ih 5)
theorem ex_e {e e' : Int} (d : Nat) : ME (exS e d) (exS e' d) := expr_e (una_e d) 5
theorem in_e {e e' : Int} (d : Nat) : ∀ d', d = d' + 1 → ME (inS e d) (inS e' d) := fun d' h => by subst h; exact ex_e d'
theorem index_e {e e' : Int} (d : Nat) : ME (indexS e d) (indexS e' d) := fun _ _ hs => within_e (in_e d) hs
theorem one_e {m m' : M Int} (h : ME m m') (l : List Int) {s s' : PS} (hs : StE s s') : RE Eq (oneS m l s) (oneS m' l s') := by
  unfold oneS
  exact RE.bind (h s s' hs) fun x x' s1 s1' hx h1 => ⟨by rw [hx], h1⟩
theorem comma_e {m m' : M Int} (h : ME m m') : ∀ n l s s', StE s s' → RE Eq (commaL (oneS m) n l s) (commaL (oneS m') n l s') := by
  intro n
  induction n with
  | zero => exact fun l s s' hs => ⟨rfl, hs⟩
  | succ n ih =>
    intro l s s' hs
    unfold commaL
    rw [hs.ts.isS]
    split
    · refine RE.bind (one_e h l hs.drop) fun x x' s1 s1' hx h1 => ?_
      subst hx
      exact ih x s1 s1' h1
    · exact ⟨rfl, hs⟩
theorem list_e {m m' : M Int} (h : ME m m') (l : List Int) : ∀ s s', StE s s' → RE Eq (listS (oneS m) l s) (listS (oneS m') l s') := by
  intro s s' hs
  unfold listS
  rw [hs.ts.isS]
  split
  · exact ⟨rfl, hs⟩
  · refine RE.bind (one_e h l hs) fun x x' s1 s1' hx h1 => ?_
    subst hx
    rw [h1.ts.len]
    exact comma_e h _ x s1 s1' h1
theorem call_e {e e' : Int} (d : Nat) (a a' : Int) (tx : Bs) : ME (callS e d a tx) (callS e' d a' tx) := by
  intro s s' hs
  unfold callS
  refine RE.bind (ident_e hs) fun t t' s1 s1' ht h1 => RE.bind (h1.put (by simp [nkey, ht])) fun x x' s2 s2' hx h2 => ?_
  subst hx
  refine RE.bind (within_e (fun d' hd => list_e (in_e d d' hd) [x]) h2) fun l l' s3 s3' hl h3 => ?_
  subst hl
  exact h3.put (by simp [nkey])
theorem chan_e {e e' : Int} : ME (chanS e) (chanS e') := fun s s' hs => RE.bind (ident_e hs) fun t t' s1 s1' ht h1 => h1.put (by simp [nkey, ht])
theorem ex1_e {e e' : Int} (d : Nat) {f f' : Int → PS → R Int} {s s' : PS} (hs : StE s s') (h : ∀ x s s', StE s s' → RE Eq (f x s) (f' x s')) : RE Eq ((exS e d s).bind f) ((exS e' d s').bind f') :=
  RE.bind (ex_e d s s' hs) fun x x' s1 s1' hx h1 => by subst hx; exact h x s1 s1' h1
theorem me_bind {m m' : M Int} (hm : ME m m') {f f' : Int → PS → R Int} {s s' : PS} (hs : StE s s') (h : ∀ x s s', StE s s' → RE Eq (f x s) (f' x s')) : RE Eq ((m s).bind f) ((m' s').bind f') :=
  RE.bind (hm s s' hs) fun x x' s1 s1' hx h1 => by subst hx; exact h x s1 s1' h1
theorem want_bind {e e' : Int} {w : Bs} {f f' : Unit → PS → R Int} {s s' : PS} (hs : StE s s') (h : ∀ s s', StE s s' → RE Eq (f () s) (f' () s')) : RE Eq ((wantS e w s).bind f) ((wantS e' w s').bind f') :=
  RE.bind (want_e hs) fun _ _ s1 s1' _ h1 => h s1 s1' h1
theorem named_e {e e' : Int} (d : Nat) : ME (namedS e d) (namedS e' d) := by
  intro s s' hs
  unfold namedS
  refine RE.bind (ident_e hs) fun t t' s1 s1' ht h1 => ?_
  rw [h1.ts.isS, ht]
  split
  · exact me_bind (index_e d) h1 fun x s2 s2' h2 => want_bind h2 fun s3 s3' h3 => me_bind (ex_e d) h3 fun y s4 s4' h4 => h4.put (by simp [nkey])
  · refine want_bind h1 fun s2 s2' h2 => ?_
    rw [h2.ts.isS, h2.ts.isS, h2.ts.isS]
    split
    · exact me_bind chan_e h2.drop fun x s3 s3' h3 => h3.put (by simp [nkey])
    · split
      · exact call_e d _ _ _ _ _ h2.drop
      · split
        · exact me_bind (ex_e d) h2.drop fun x s3 s3' h3 => h3.put (by simp [nkey])
        · exact me_bind (ex_e d) h2 fun x s3 s3' h3 => h3.put (by simp [nkey])
theorem plain_e {e e' : Int} (d : Nat) : ME (plainS e d) (plainS e' d) := by
  intro s s' hs
  unfold plainS
  simp only
  rw [hs.ts.isS, hs.ts.isS, hs.ts.isS, hs.ts.isS, hs.ts.tail.isS]
  split
  · exact me_bind chan_e hs.drop fun c s1 s1' h1 => me_bind (ex_e d) h1 fun x s2 s2' h2 => h2.put (by simp [nkey])
  · split
    · exact call_e d _ _ _ _ _ hs.drop
    · split
      · exact me_bind (ex_e d) hs.drop fun x s3 s3' h3 => h3.put (by simp [nkey])
      · split
        · split
          · exact hs.drop.put (by simp [nkey])
          · exact me_bind (ex_e d) hs.drop fun x s3 s3' h3 => h3.put (by simp [nkey])
        · exact named_e d _ _ hs
theorem stmtsL_e {stmt stmt' : M Int} (h : ME stmt stmt') : ∀ n l s s', StE s s' → RE Eq (stmtsL stmt n l s) (stmtsL stmt' n l s') := by
  intro n
  induction n with
  | zero => exact fun l s s' hs => rfl
  | succ n ih =>
    intro l s s' hs
    unfold stmtsL
    rw [hs.ts.isS]
    split
    · exact ⟨rfl, hs⟩
    · refine RE.bind (h s s' hs) fun x x' s1 s1' hx h1 => ?_
      subst hx
      exact ih _ s1 s1' h1
theorem stmts_e {stmt stmt' : M Int} (h : ME stmt stmt') (l : List Int) : ∀ s s', StE s s' → RE Eq (stmtsS stmt l s) (stmtsS stmt' l s') := fun s s' hs => by
  unfold stmtsS
  rw [hs.ts.len]
  exact stmtsL_e h _ l s s' hs
theorem block_e {e e' : Int} (d : Nat) {stmt stmt' : M Int} (h : ∀ d', d = d' + 1 → ME stmt stmt') : ME (blockB e d stmt) (blockB e' d stmt') := by
  intro s s' hs
  unfold blockB
  simp only
  refine RE.bind (within_e (fun d' hd => stmts_e (h d' hd) []) hs) fun l l' s1 s1' hl h1 => ?_
  subst hl
  exact h1.put (by simp [nkey])
theorem stmtB_e {e e' : Int} (d : Nat) {stmt stmt' : M Int} (h : ∀ d', d = d' + 1 → ME stmt stmt') : ME (stmtB e d stmt) (stmtB e' d stmt') := by
  intro s s' hs
  unfold stmtB
  simp only
  rw [hs.ts.isS, hs.ts.isS, hs.ts.isS]
  split
  · refine me_bind (ex_e d) hs.drop fun x s1 s1' h1 => me_bind (block_e d h) h1 fun a s2 s2' h2 => ?_
    rw [h2.ts.isS]
    split
    · exact me_bind (block_e d h) h2.drop fun b s3 s3' h3 => h3.put (by simp [nkey])
    · refine RE.bind (h2.put (by simp [nkey])) fun b b' s3 s3' hb h3 => ?_
      subst hb
      exact h3.put (by simp [nkey])
  · split
    · exact me_bind (ex_e d) hs.drop fun x s1 s1' h1 => me_bind (block_e d h) h1 fun a s2 s2' h2 => h2.put (by simp [nkey])
    · split
      · refine me_bind (block_e d h) hs.drop fun a s1 s1' h1 => want_bind h1 fun s2 s2' h2 => RE.bind (ident_e h2) fun t t' s3 s3' ht h3 => me_bind (block_e d h) h3 fun b s4 s4' h4 => h4.put (by simp [nkey, ht])
      · exact me_bind (plain_e d) hs fun x s1 s1' h1 => RE.bind (want_e h1) fun _ _ s2 s2' _ h2 => ⟨rfl, h2⟩
theorem stmt_e {e e' : Int} : ∀ d, ME (stmtS e d) (stmtS e' d) := by
  intro d
  induction d with
  | zero => exact stmtB_e 0 (fun d' h => by omega)
  | succ d ih => exact stmtB_e (d + 1) (fun _ _ => ih)
theorem inStmt_e {e e' : Int} (d : Nat) : ∀ d', d = d' + 1 → ME (inStmtS e d) (inStmtS e' d) := fun d' h => by subst h; exact stmt_e d'
theorem types_e {a b : List Tok} (h : TsE a b) : typesS a = typesS b := by unfold typesS; simp only [h.isS]
theorem typed_e {e e' : Int} (k a a' : Int) (tx : Bs) : ME (typedS e k a tx) (typedS e' k a' tx) := by
  intro s s' hs
  unfold typedS
  rw [types_e hs.ts]
  split
  · rfl
  · exact hs.drop.put (by simp [nkey])
theorem varsL_e {e e' : Int} (kind : Int) : ∀ n l s s', StE s s' → RE Eq (varsL e kind n l s) (varsL e' kind n l s') := by
  intro n
  induction n with
  | zero => exact fun l s s' hs => ⟨rfl, hs⟩
  | succ n ih =>
    intro l s s' hs
    unfold varsL
    rw [hs.ts.isS]
    split
    · exact ⟨rfl, hs⟩
    · refine RE.bind (ident_e hs.drop) fun t t' s1 s1' ht h1 => ?_
      rw [ht]
      refine RE.bind (typed_e kind _ _ _ s1 s1' h1) fun x x' s2 s2' hx h2 => ?_
      subst hx
      exact RE.bind (want_e h2) fun _ _ s3 s3' _ h3 => ih _ s3 s3' h3
theorem vars_e {e e' : Int} (kind : Int) {s s' : PS} (hs : StE s s') : RE Eq (varsS e kind s) (varsS e' kind s') := by
  unfold varsS
  rw [hs.ts.len]
  exact varsL_e kind _ [] s s' hs
theorem body_e {e e' : Int} (d : Nat) {s s' : PS} (hs : StE s s') : RE Eq (bodyS e d s) (bodyS e' d s') := by
  unfold bodyS
  simp only
  refine RE.bind (v := Eq) (within_e (fun d' hd s s' hs => ?_) hs) fun p p' s1 s1' hp h1 => ?_
  · refine RE.bind (vars_e 5 hs) fun vs vs' s1 s1' hv h1 => ?_
    subst hv
    refine RE.bind (stmts_e (inStmt_e d d' hd) [] s1 s1' h1) fun l l' s2 s2' hl h2 => ?_
    subst hl
    exact ⟨rfl, h2⟩
  · subst hp
    refine RE.bind (h1.put (by simp [nkey])) fun b b' s2 s2' hb h2 => ?_
    subst hb
    exact ⟨rfl, h2⟩
theorem param_e {e e' : Int} : ME (paramS e) (paramS e') := fun s s' hs => by
  unfold paramS
  refine RE.bind (ident_e hs) fun t t' s1 s1' ht h1 => ?_
  rw [ht]; exact typed_e 4 _ _ _ s1 s1' h1
theorem proc_e {e e' : Int} (d : Nat) : ME (procS e d) (procS e' d) := by
  intro s s' hs
  unfold procS
  simp only
  refine want_bind hs fun s1 s1' h1 => RE.bind (ident_e h1) fun t t' s2 s2' ht h2 => RE.bind (within_e (fun d' hd => list_e param_e []) h2) fun ps ps' s3 s3' hp h3 => ?_
  subst hp
  rw [types_e h3.ts]
  have h4 : StE (match decide (typesS s3'.ts > 0) with
        | true => dropS s3
        | false => s3) (match decide (typesS s3'.ts > 0) with
        | true => dropS s3'
        | false => s3') := by
    split
    · exact h3.drop
    · exact h3
  refine RE.bind (body_e d h4) fun p p' s4 s4' hp h5 => ?_
  subst hp
  exact h5.put (by simp [nkey, ht])
theorem procsL_e {e e' : Int} (d : Nat) : ∀ n l s s', StE s s' → RE Eq (procsL e d n l s) (procsL e' d n l s') := by
  intro n
  induction n with
  | zero => exact fun l s s' hs => ⟨rfl, hs⟩
  | succ n ih =>
    intro l s s' hs
    obtain ⟨ts, ns, mo⟩ := s
    obtain ⟨ts', ns', mo'⟩ := s'
    have ht := hs.ts
    simp only at ht
    unfold procsL
    cases ts with
    | nil => rw [ht.nil] at hs ⊢; exact ⟨rfl, hs⟩
    | cons t r =>
      obtain ⟨t', r', rfl, _⟩ := ht.cons
      simp only
      refine RE.bind (proc_e d _ _ hs) fun x x' s1 s1' hx h1 => ?_
      subst hx
      exact ih _ s1 s1' h1
theorem program_e {e e' : Int} : ME (programS e) (programS e') := by
  intro s s' hs
  unfold programS
  refine RE.bind (vars_e 2 hs) fun l l' s1 s1' hl h1 => ?_
  subst hl
  rw [h1.ts.len]
  refine RE.bind (procsL_e 40 _ l s1 s1' h1) fun l2 l2' s2 s2' hl h2 => ?_
  subst hl
  exact h2.put (by simp [nkey])

/-! ### sizes and depths ask for kids alone -/
theorem nkey_get {a b : List Nd} (h : a.map nkey = b.map nkey) (i : Nat) : nkey (a.getD i default) = nkey (b.getD i default) := by
  have := congrArg (fun l => l.getD i (nkey default)) h
  simpa only [List.getD_eq_getElem?_getD, List.getElem?_map, Option.getD_map] using this
theorem sizes_e : ∀ (a b : List Nd) (out : List Nat), a.map nkey = b.map nkey → sizesS a out = sizesS b out := by
  intro a
  induction a with
  | nil => intro b out h; cases b <;> simp at h ⊢
  | cons x r ih =>
    intro b out h
    cases b with
    | nil => simp at h
    | cons y r' =>
      simp only [List.map_cons, List.cons.injEq] at h
      have hk : x.kids = y.kids := by have := h.1; simp only [nkey, Prod.mk.injEq] at this; exact this.2.2.2
      simp only [sizesS, hk]
      split
      · exact ih r' _ h.2
      · rfl
theorem deep_e {a b : List Nd} (h : a.map nkey = b.map nkey) : ∀ (n : Nat) (p : Int), deepS a n p = deepS b n p := by
  intro n
  induction n with
  | zero => exact fun p => rfl
  | succ n ih =>
    intro p
    have hk : (a.getD p.toNat default).kids = (b.getD p.toNat default).kids := by have := nkey_get h p.toNat; simp only [nkey, Prod.mk.injEq] at this; exact this.2.2.2
    simp only [deepS, hk, ih]
theorem depth_e {a b : List Nd} (h : a.map nkey = b.map nkey) (root : Int) : depthS a root = depthS b root := by
  have hl : a.length = b.length := by have := congrArg List.length h; simpa using this
  unfold depthS soundS
  rw [sizes_e a b [] h, hl]
  simp only [deep_e h]
/-- are trees alike, but for places? -/
def sameS (a : List Nd) (ra : Int) (b : List Nd) (rb : Int) : Bool := ra == rb && (a.map nkey == b.map nkey)
end Go.Ru

namespace Go.Ru
open Go
set_option maxRecDepth 20000

/-- tokens alike, or none both times -/
def CE : CR → CR → Prop
  | .ok l, .ok l' => TsE l l'
  | .bad _, .bad _ => True
  | _, _ => False
theorem CE.cons {t t' : Tok} (h : tkey t = tkey t') {a b : CR} (hc : CE a b) : CE (a.cons t) (b.cons t') := by
  cases a <;> cases b <;> simp only [CE, CR.cons, TsE, List.map_cons] at hc ⊢
  rw [h, hc]
theorem sign_pos {r : Bs} {m : Nat} (h : signP r = m + 1) : m + 1 ≤ r.length ∧ m < 2 := by
  unfold signP at h
  split at h
  · rename_i hp
    simp only [pairP, Bool.and_eq_true, decide_eq_true_eq] at hp
    omega
  · split at h
    · rename_i hp
      cases r with
      | nil => exact absurd hp (by decide)
      | cons a r => simp; omega
    · cases h
/-- how much fuel there is, and from which place on, does not count -/
theorem cut_sim : ∀ (n m : Nat) (r : Bs) (i j : Nat), r.length ≤ n → r.length ≤ m → CE (cutS n r i) (cutS m r j) := by
  intro n
  induction n with
  | zero =>
    intro m r i j hn hm
    have : r = [] := List.eq_nil_of_length_eq_zero (by omega)
    subst this
    cases m <;> simp [cutS, CE, TsE]
  | succ n ih =>
    intro m r i j hn hm
    cases r with
    | nil => cases m <;> simp [cutS, CE, TsE]
    | cons c r' =>
      obtain ⟨m, rfl⟩ : ∃ q, m = q + 1 := ⟨m - 1, by simp at hm; omega⟩
      have step : ∀ k, 0 < k → k ≤ (c :: r').length → ∀ a b, CE (cutS n ((c :: r').drop k) a) (cutS m ((c :: r').drop k) b) := fun k h0 h1 a b => ih m _ a b (by rw [List.length_drop]; omega) (by rw [List.length_drop]; omega)
      unfold cutS
      simp only
      split
      · rename_i h; exact step _ h (runS_len _ _) _ _
      · split
        · rename_i h; subst h
          rw [dw_eq]
          exact step _ (by simp [List.takeWhile_cons]) (List.takeWhile_sublist _).length_le _ _
        · split
          · rename_i h
            split
            · trivial
            · refine CE.cons ?_ (step _ h (runS_len _ _) _ _)
              rfl
          · split
            · trivial
            · rename_i k hk
              refine CE.cons ?_ (step _ (by omega) (sign_pos hk).1 _ _)
              rfl

/-- a token that stands by itself -/
def CleanT (t : Tok) : Prop := match t.k with
  | .sign => t.n = 0 ∧ ∃ c q, t.tx = c :: q ∧ inB blanksT c = false ∧ c ≠ 35 ∧ inB partsT c = false ∧ ((q = [] ∧ inB singleT c = true) ∨ ∃ d, q = [d] ∧ pairP [c, d] = true)
  | _ => t.tx ≠ [] ∧ (∀ c ∈ t.tx, inB partsT c = true) ∧ wordP t.tx = some (t.k, t.n)
theorem run0 {l : Bs} {c : UInt8} {r : Bs} (h : inB l c = false) : runS l (c :: r) = 0 := by simp [runS, List.takeWhile_cons, h]
theorem run_pos {l : Bs} {c : UInt8} {r : Bs} (h : inB l c = true) : 0 < runS l (c :: r) := by simp [runS, List.takeWhile_cons, h]
theorem run_no {l : Bs} {c : UInt8} {r : Bs} (h : ¬ 0 < runS l (c :: r)) : inB l c = false := by
  cases hb : inB l c with
  | false => rfl
  | true => exact absurd (run_pos hb) h
theorem pair_two {c d : UInt8} {r : Bs} : pairP (c :: d :: r) = pairP [c, d] := by simp [pairP]
theorem part_not (c : UInt8) : inB partsT c = true → inB blanksT c = false ∧ c ≠ 35 := by
  have : ∀ n : Nat, n < 256 → inB partsT (UInt8.ofNat n) = true → inB blanksT (UInt8.ofNat n) = false ∧ UInt8.ofNat n ≠ 35 := by decide +kernel
  have h := this c.toNat c.toNat_lt
  rwa [UInt8.ofNat_toNat] at h
theorem cut_clean : ∀ (n : Nat) (r : Bs) (i : Nat) (l : List Tok), cutS n r i = .ok l → (∀ t ∈ l, CleanT t) ∧ ((l.map fun t => t.tx.length).sum ≤ r.length) := by
  intro n
  induction n with
  | zero => intro r i l h; simp only [cutS, CR.ok.injEq] at h; subst h; simp
  | succ n ih =>
    intro r i l h
    cases r with
    | nil => simp only [cutS, CR.ok.injEq] at h; subst h; simp
    | cons c r' =>
      have step : ∀ k, ∀ a l, cutS n ((c :: r').drop k) a = .ok l → (∀ t ∈ l, CleanT t) ∧ ((l.map fun t => t.tx.length).sum ≤ (c :: r').length - k) := fun k a l hl => by
        have := ih _ a l hl
        rwa [List.length_drop] at this
      have cons : ∀ k (t : Tok) a l, k ≤ (c :: r').length → (cutS n ((c :: r').drop k) a).cons t = .ok l → CleanT t → t.tx.length ≤ k → (∀ t ∈ l, CleanT t) ∧ ((l.map fun t => t.tx.length).sum ≤ (c :: r').length) := fun k t a l hk hl ht hx => by
        obtain ⟨l', h1, rfl⟩ := cons_ok hl
        obtain ⟨h2, h3⟩ := step k a l' h1
        refine ⟨fun t' ht' => ?_, ?_⟩
        · rcases List.mem_cons.1 ht' with rfl | ht'
          · exact ht
          · exact h2 t' ht'
        · simp only [List.map_cons, List.sum_cons]; omega
      unfold cutS at h
      simp only at h
      split at h
      · have := step _ _ l h; exact ⟨this.1, by omega⟩
      · rename_i hb
        have hb := run_no hb
        split at h
        · rw [dw_eq] at h
          have := step _ _ l h; exact ⟨this.1, by omega⟩
        · rename_i h35
          split at h
          · rename_i hp
            split at h
            · cases h
            · rename_i k v hw
              have hall := run_all partsT (c :: r')
              have hk := (wordP_ok hall hw).2.2.2
              refine cons _ _ _ _ (runS_len _ _) h ?_ (List.length_take_le ..)
              have hc : List.take (runS partsT (c :: r')) (c :: r') ≠ [] ∧ (∀ x ∈ List.take (runS partsT (c :: r')) (c :: r'), inB partsT x = true) ∧ wordP (List.take (runS partsT (c :: r')) (c :: r')) = some (k, v) :=
                ⟨by
                  intro e
                  have := congrArg List.length e
                  rw [List.length_take, List.length_nil] at this
                  have h9 := runS_len partsT (c :: r')
                  omega, hall, hw⟩
              unfold CleanT
              cases k
              · exact hc
              · exact hc
              · exact absurd rfl hk
              · exact hc
          · rename_i hp
            have hp := run_no hp
            split at h
            · cases h
            · rename_i m hm
              obtain ⟨hm1, hm2⟩ := sign_pos hm
              refine cons _ _ _ _ hm1 h ?_ (List.length_take_le ..)
              refine ⟨rfl, c, r'.take m, by simp, hb, h35, hp, ?_⟩
              unfold signP at hm
              split at hm
              · rename_i hpair
                obtain rfl : m = 1 := by omega
                cases r' with
                | nil => simp [pairP] at hpair
                | cons d r'' => exact .inr ⟨d, by simp, pair_two ▸ hpair⟩
              · split at hm
                · rename_i hs
                  obtain rfl : m = 0 := by omega
                  exact .inl ⟨by simp, hs⟩
                · cases hm

/-- texts with a blank between -/
def joinB : List Bs → Bs
  | [] => []
  | [a] => a
  | a :: b :: r => a ++ 32 :: joinB (b :: r)
theorem run_app {l a b : Bs} (ha : ∀ c ∈ a, inB l c = true) (hb : b = [] ∨ ∃ q, b = 32 :: q ∧ inB l 32 = false) : runS l (a ++ b) = a.length := by
  induction a with
  | nil =>
    rcases hb with rfl | ⟨q, rfl, h⟩
    · rfl
    · exact run0 h
  | cons c a ih =>
    have := ih (fun c hc => ha c (List.mem_cons_of_mem _ hc))
    simp only [runS, List.cons_append, List.takeWhile_cons, ha c (List.mem_cons_self ..), if_true, List.length_cons] at this ⊢
    omega
/-- a token, and what stands behind it -/
theorem cut_one {t : Tok} (h : CleanT t) (n i : Nat) {b : Bs} (hb : b = [] ∨ ∃ q, b = 32 :: q) : ∃ t', tkey t' = tkey t ∧ cutS (n + 1) (t.tx ++ b) i = (cutS n b (i + t.tx.length)).cons t' := by
  obtain ⟨tk, tn, ta, tx⟩ := t
  have hb' : b = [] ∨ ∃ q, b = 32 :: q ∧ inB partsT 32 = false := by
    rcases hb with rfl | ⟨q, rfl⟩
    · exact .inl rfl
    · exact .inr ⟨q, rfl, by decide⟩
  by_cases hk : tk = .sign
  · subst hk
    obtain ⟨rfl, c, q, rfl, h1, h2, h3, h4⟩ := h
    rcases h4 with ⟨rfl, h4⟩ | ⟨d, rfl, h4⟩
    · refine ⟨⟨.sign, 0, i, [c]⟩, rfl, ?_⟩
      have hpair : pairP (c :: b) = false := by
        rcases hb with rfl | ⟨q, rfl⟩
        · simp [pairP]
        · simp [pairP]
      have hs : signP (c :: b) = 0 + 1 := by simp [signP, hpair, h4]
      simp only [List.singleton_append, cutS, run0 h1, Nat.lt_irrefl, if_false, h2, run0 h3, hs]
      simp
    · refine ⟨⟨.sign, 0, i, [c, d]⟩, rfl, ?_⟩
      have hs : signP (c :: d :: b) = 1 + 1 := by simp [signP, pair_two, h4]
      simp only [List.cons_append, List.nil_append, cutS, run0 h1, Nat.lt_irrefl, if_false, h2, run0 h3, hs]
      simp
  · have hw : tx ≠ [] ∧ (∀ c ∈ tx, inB partsT c = true) ∧ wordP tx = some (tk, tn) := by
      cases tk
      · exact h
      · exact h
      · exact absurd rfl hk
      · exact h
    obtain ⟨h1, h2, h3⟩ := hw
    refine ⟨⟨tk, tn, i, tx⟩, rfl, ?_⟩
    have hr := run_app h2 hb'
    cases tx with
    | nil => exact absurd rfl h1
    | cons c tx =>
      obtain ⟨h4, h5⟩ := part_not c (h2 c (List.mem_cons_self ..))
      simp only [List.cons_append] at hr ⊢
      conv => lhs; unfold cutS
      simp only [run0 h4, Nat.lt_irrefl, if_false, h5, hr]
      rw [if_pos (by simp)]
      have ht : (c :: (tx ++ b)).take (c :: tx).length = c :: tx := by rw [← List.cons_append]; exact List.take_left
      have hd : (c :: (tx ++ b)).drop (c :: tx).length = b := by rw [← List.cons_append]; exact List.drop_left
      rw [ht, hd, h3]
theorem clean_head {t : Tok} (h : CleanT t) : ∃ c q, t.tx = c :: q ∧ inB blanksT c = false := by
  obtain ⟨tk, tn, ta, tx⟩ := t
  by_cases hk : tk = .sign
  · subst hk
    obtain ⟨rfl, c, q, rfl, h1, _⟩ := h
    exact ⟨c, q, rfl, h1⟩
  · have hw : tx ≠ [] ∧ (∀ c ∈ tx, inB partsT c = true) ∧ wordP tx = some (tk, tn) := by
      cases tk
      · exact h
      · exact h
      · exact absurd rfl hk
      · exact h
    cases tx with
    | nil => exact absurd rfl hw.1
    | cons c tx => exact ⟨c, tx, rfl, (part_not c (hw.2.1 c (List.mem_cons_self ..))).1⟩
theorem cut_join : ∀ (ts : List Tok) (n i : Nat), (∀ t ∈ ts, CleanT t) → (joinB (ts.map (·.tx))).length ≤ n → ∃ l, cutS n (joinB (ts.map (·.tx))) i = .ok l ∧ TsE ts l := by
  intro ts
  induction ts with
  | nil =>
    intro n i _ _
    refine ⟨[], ?_, rfl⟩
    cases n <;> rfl
  | cons t ts ih =>
    intro n i h hn
    have ht := h t (List.mem_cons_self ..)
    obtain ⟨c, q, hc, _⟩ := clean_head ht
    cases ts with
    | nil =>
      simp only [List.map_cons, List.map_nil, joinB] at hn ⊢
      obtain ⟨n, rfl⟩ : ∃ m, n = m + 1 := ⟨n - 1, by rw [hc] at hn; simp at hn; omega⟩
      obtain ⟨t', h1, h2⟩ := cut_one ht n i (b := []) (.inl rfl)
      rw [List.append_nil] at h2
      rw [h2]
      refine ⟨[t'], ?_, by simp [TsE, h1]⟩
      cases n <;> rfl
    | cons u ts =>
      have hu := h u (by simp)
      obtain ⟨d, p, hd, hd2⟩ := clean_head hu
      simp only [List.map_cons, joinB] at hn ih ⊢
      simp only [List.length_append, List.length_cons] at hn
      obtain ⟨n, rfl⟩ : ∃ m, n = m + 2 := ⟨n - 2, by rw [hc] at hn; simp at hn; omega⟩
      obtain ⟨t', h1, h2⟩ := cut_one ht (n + 1) i (b := 32 :: joinB (u.tx :: ts.map (·.tx))) (.inr ⟨_, rfl⟩)
      rw [h2]
      have hrun : runS blanksT (32 :: joinB (u.tx :: ts.map (·.tx))) = 1 := by
        have h3 : ∃ z, joinB (u.tx :: ts.map (·.tx)) = d :: z := by
          rw [hd]
          cases ts.map (·.tx) with
          | nil => exact ⟨p, rfl⟩
          | cons a r => exact ⟨_, rfl⟩
        obtain ⟨z, hz⟩ := h3
        rw [hz]
        have h4 : inB blanksT 32 = true := by decide
        simp only [runS, List.takeWhile_cons, h4, hd2, if_true, Bool.false_eq_true, if_false, List.length_cons, List.length_nil]
      have hstep : cutS (n + 1) (32 :: joinB (u.tx :: ts.map (·.tx))) (i + t.tx.length) = cutS n (joinB (u.tx :: ts.map (·.tx))) (i + t.tx.length + 1) := by
        conv => lhs; unfold cutS
        simp only [hrun]
        simp
      rw [hstep]
      obtain ⟨l, h5, h6⟩ := ih n (i + t.tx.length + 1) (fun t ht => h t (List.mem_cons_of_mem _ ht)) (by rw [hc] at hn; simp at hn; omega)
      rw [h5]
      exact ⟨t' :: l, rfl, by simp only [TsE, List.map_cons] at h6 ⊢; rw [h1, h6]⟩
theorem joinB_len : ∀ (l : List Bs), (joinB l).length + 1 ≤ (l.map List.length).sum + l.length + 1 := by
  intro l
  induction l with
  | nil => simp [joinB]
  | cons a r ih =>
    cases r with
    | nil => simp [joinB]
    | cons b r => simp only [joinB, List.length_append, List.length_cons, List.map_cons, List.sum_cons] at ih ⊢; omega

/-- what stands behind a comment -/
theorem cut_comment (s : Bs) : CE (cutT s) (cutT (35 :: 32 :: 120 :: 10 :: s)) := by
  have h1 : cutT (35 :: 32 :: 120 :: 10 :: s) = cutS (s.length + 3) (10 :: s) 3 := by
    unfold cutT
    simp only [List.length_cons]
    have hb : runS blanksT (35 :: 32 :: 120 :: 10 :: s) = 0 := run0 (by decide)
    conv => lhs; unfold cutS
    simp [hb, List.dropWhile_cons, List.takeWhile_cons]
  have h2 : runS blanksT (10 :: s) = runS blanksT s + 1 := by
    have h4 : inB blanksT 10 = true := by decide
    simp only [runS, List.takeWhile_cons, h4, if_true, List.length_cons]
  have h3 : cutS (s.length + 3) (10 :: s) 3 = cutS (s.length + 2) (s.drop (runS blanksT s)) (3 + (runS blanksT s + 1)) := by
    conv => lhs; unfold cutS
    simp [h2]
  rw [h1, h3]
  by_cases h0 : 0 < runS blanksT s
  · cases s with
    | nil => simp [runS] at h0
    | cons c s =>
      have h5 : cutT (c :: s) = cutS s.length ((c :: s).drop (runS blanksT (c :: s))) (0 + runS blanksT (c :: s)) := by
        unfold cutT
        simp only [List.length_cons]
        conv => lhs; unfold cutS
        simp [h0]
      rw [h5]
      refine cut_sim _ _ _ _ _ ?_ ?_
      · rw [List.length_drop]; simp; omega
      · rw [List.length_drop]; simp; omega
  · have : runS blanksT s = 0 := by omega
    rw [this, List.drop_zero]
    exact cut_sim _ _ _ _ _ (Nat.le_refl _) (by omega)
end Go.Ru

namespace Go.AE
open Go.Proofs

/-- the blocks of these variables -/
def isG (b : Nat) : Prop := False
  ∨ b = 0
  ∨ b = 1
  ∨ b = 2
  ∨ b = 3

/-- what they hold -/
structure GFacts (w : World) : Prop where
  tr : True
  maxLen : ∃ n, w.cell? ⟨0, 0, none⟩ = some (.int .i64 n)
  errSyntax : ∃ v, w.cell? ⟨1, 0, none⟩ = some v ∧ (v = .nilIface ∨ ∃ te pe, v = .iface te pe)
  errRange : ∃ v, w.cell? ⟨2, 0, none⟩ = some v ∧ (v = .nilIface ∨ ∃ te pe, v = .iface te pe)
  pow10 : Lib.TabIs Tryz.prog w "internal/strconv.uint64pow10" .u64 Lib.pow10Tab

theorem cell?_same {w w' : World} {b o : Nat} (h : w'.heap[b]? = w.heap[b]?) : w'.cell? ⟨b, o, none⟩ = w.cell? ⟨b, o, none⟩ := by
  simp [World.cell?, h]
theorem pow10_named : Tryz.prog.globalNamed "internal/strconv.uint64pow10" = some 3 := by kernel_rfl
theorem GFacts.same {w w' : World} (h : GFacts w) (hs : ∀ b, isG b → w'.heap[b]? = w.heap[b]?) : GFacts w' where
  tr := trivial
  maxLen := by rw [cell?_same (hs _ (by simp [isG]))]; exact h.maxLen
  errSyntax := by rw [cell?_same (hs _ (by simp [isG]))]; exact h.errSyntax
  errRange := by rw [cell?_same (hs _ (by simp [isG]))]; exact h.errRange
  pow10 := by
    have e := hs 3 (by simp [isG])
    have := h.pow10
    simp only [Lib.TabIs, World.var?, pow10_named, Option.bind_some, e] at this ⊢
    exact this

/-- the variables' blocks are among those to which nobody writes, and hold what they must -/
structure Gl (w : World) (I : Nat → Prop) : Prop where
  imm : ∀ b, isG b → I b
  facts : GFacts w
theorem Gl.mono {w w' : World} {I I' : Nat → Prop} (hI : ∀ b, I b → I' b) (hs : ∀ b, I b → w'.heap[b]? = w.heap[b]?) (h : Gl w I) : Gl w' I' :=
  ⟨fun b hb => hI b (h.imm b hb), h.facts.same fun b hb => hs b (h.imm b hb)⟩
end Go.AE

namespace Go.AE

/-- pure data -/
inductive PV where
  | int (k : IntKind) (n : Int)
  | bool (b : Bool)
  | str (l : List UInt8)
  | nilp
  | nils
  | nilf
  | nili
  | nilm
  | fn (f : FuncId)
  | sl (sz n : Nat) (f : Nat → List PV)

/-- abstract values: pure data, references into the abstract heap, aggregates -/
inductive AV where
  | p (v : PV)
  | ptr (r ver n i off : Nat)
  | rop (cs : List PV) (off : Nat)
  | slr (r ver off n : Nat)
  | fn (f : FuncId) (first cap : List AV)
  | iface (t : TypeId) (v : AV)
  | agg (cs : List AV)
  | tup (vs : List AV)
  | yld (r : Nat)
  | junk

/-- what a frame's slots are worth -/
def look : List (Nat × AV) → Nat → AV
  | [], _ => .junk
  | (j, v) :: r, i => match Nat.beq j i with
    | true => v
    | false => look r i

inductive Inf where
  | absent
  | dead
  | nil (ver : Nat)
  | live (ver n sz cap : Nat)

def Inf.isLive : Inf → Prop
  | .live _ _ _ _ => True
  | _ => False

/-- is what has stamp (ver, n) out of date? -/
def Inf.old (l : Inf) (ver n : Nat) : Prop :=
  match l with
  | .absent => False
  | .dead => True
  | .nil v => ver < v
  | .live v m _ _ => ver < v ∨ (ver = v ∧ n < m)

/-- where the abstract references stand: blocks, the immutable blocks, what is known of each reference -/
structure Mp where
  ρ : Nat → Nat
  I : Nat → Prop
  L : Nat → Inf

inductive VP (w : World) (I : Nat → Prop) : PV → Value → Prop where
  | int (k : IntKind) (n : Int) : VP w I (.int k n) (.int k n)
  | bool (b : Bool) : VP w I (.bool b) (.bool b)
  | str (s : ByteArray) (l : List UInt8) (h : s.data.toList = l) : VP w I (.str l) (.string s)
  | nilp : VP w I .nilp (.pointer none)
  | nils : VP w I .nils (.slice none 0 0)
  | nilf : VP w I .nilf .nilFunc
  | nili : VP w I .nili .nilIface
  | nilm : VP w I .nilm (.map none)
  | fn (f : FuncId) : VP w I (.fn f) (.func (.func f) #[] #[])
  | sl0 (sz : Nat) (f : Nat → List PV) (a : Option Addr) (c : Nat) : VP w I (.sl sz 0 f) (.slice a 0 c)
  | sl (sz n : Nat) (f : Nat → List PV) (b o c : Nat) (u : Nat → Nat → Value) (hI : I b) (hcap : n ≤ c ∧ n ≤ maxLen)
      (hc : ∀ i, i < n → ∀ j, j < (f i).length → w.cell? ⟨b, o + (i * sz + j), none⟩ = some (u i j))
      (hv : ∀ i, i < n → ∀ j (hj : j < (f i).length), VP w I (f i)[j] (u i j)) : VP w I (.sl sz n f) (.slice (some ⟨b, o, none⟩) n c)

inductive V (w : World) (m : Mp) : AV → Value → Prop where
  | p (v : PV) (u : Value) (h : VP w m.I v u) : V w m (.p v) u
  | ptr (r ver n i off sz cap : Nat) (h : m.L r = .live ver n sz cap) (hi : i < n) : V w m (.ptr r ver n i off) (.pointer (some ⟨m.ρ r, i * sz + off, none⟩))
  | ptrOld (r ver n i off b o : Nat) (h : (m.L r).old ver n) : V w m (.ptr r ver n i off) (.pointer (some ⟨b, o, none⟩))
  | slr (r ver off n N sz cap : Nat) (h : m.L r = .live ver N sz cap) (hn : off + n = N) : V w m (.slr r ver off n) (.slice (some ⟨m.ρ r, off * sz, none⟩) n (cap - off))
  | slrNil (r ver : Nat) (h : m.L r = .nil ver) : V w m (.slr r ver 0 0) (.slice none 0 0)
  | slrOld (r ver off n : Nat) (ad : Option Addr) (c : Nat) (h : (m.L r).old ver (off + n)) : V w m (.slr r ver off n) (.slice ad n c)
  | rop (cs : List PV) (off b o : Nat) (u : Nat → Value) (hI : m.I b)
      (hc : ∀ j, j < cs.length → w.cell? ⟨b, o + j, none⟩ = some (u j))
      (hv : ∀ j (hj : j < cs.length), VP w m.I cs[j] (u j)) : V w m (.rop cs off) (.pointer (some ⟨b, o + off, none⟩))
  | fn (f : FuncId) (first cap : List AV) (A B : Array Value) (hA : first.length = A.size) (hB : cap.length = B.size)
      (h1 : ∀ j (hj : j < first.length) (hj' : j < A.size), V w m first[j] A[j]) (h2 : ∀ j (hj : j < cap.length) (hj' : j < B.size), V w m cap[j] B[j]) :
      V w m (.fn f first cap) (.func (.func f) A B)
  | iface (t : TypeId) (v : AV) (u : Value) (h : V w m v u) : V w m (.iface t v) (.iface t u)
  | agg (cs : List AV) (A : Array Value) (hA : cs.length = A.size) (h : ∀ j (hj : j < cs.length) (hj' : j < A.size), V w m cs[j] A[j]) : V w m (.agg cs) (.agg A)
  | tup (cs : List AV) (A : Array Value) (hA : cs.length = A.size) (h : ∀ j (hj : j < cs.length) (hj' : j < A.size), V w m cs[j] A[j]) : V w m (.tup cs) (.tuple A)
  | yld (r sz cap : Nat) (h : m.L r = .live 0 1 sz cap) : V w m (.yld r) (.func (.yield (m.ρ r)) #[] #[])
  | yldOld (r b : Nat) (h : (m.L r).old 0 1) : V w m (.yld r) (.func (.yield b) #[] #[])
  | junk (u : Value) : V w m .junk u

/-- is it worth one cell? -/
def AV.one : AV → Bool
  | .p _ | .ptr _ _ _ _ _ | .rop _ _ | .slr _ _ _ _ | .fn _ _ _ | .iface _ _ | .yld _ => true
  | _ => false

theorem VP.one {w : World} {I : Nat → Prop} {v : PV} {u : Value} (h : VP w I v u) : u.oneCell' = true := by cases h <;> rfl

theorem V.one {w : World} {m : Mp} {a : AV} {u : Value} (h : V w m a u) (h1 : a.one = true) : u.oneCell' = true := by
  cases h with
  | p v u h => exact h.one
  | agg => simp [AV.one] at h1
  | tup => simp [AV.one] at h1
  | junk => simp [AV.one] at h1
  | _ => rfl

/-! ### transitions -/

def Inf.step (l l' : Inf) (same : Prop) : Prop :=
  match l with
  | .absent => True
  | .dead => l' = .dead
  | .nil v => l' = .dead ∨ l' = .nil v ∨ ∃ v' n' sz' cap', l' = .live v' n' sz' cap' ∧ (v < v' ∨ (v = v' ∧ 0 < n'))
  | .live v n sz cap => l' = .dead ∨ (l' = .live v n sz cap ∧ same) ∨ ∃ v' n' sz' cap', l' = .live v' n' sz' cap' ∧ (v < v' ∨ (v = v' ∧ n < n'))

structure Tr (w : World) (m : Mp) (w' : World) (m' : Mp) : Prop where
  os : w'.os = w.os
  tape : w'.tape = w.tape
  output : w'.output = w.output
  size : w.heap.size ≤ w'.heap.size
  out : ∀ b, b < w.heap.size → (∀ r, (m.L r).isLive → m.ρ r ≠ b) → w'.heap[b]? = w.heap[b]?
  imm : ∀ b, m.I b → m'.I b
  same : ∀ b, m.I b → w'.heap[b]? = w.heap[b]?
  newI : ∀ b, m'.I b → m.I b ∨ (∃ r, (m.L r).isLive ∧ m.ρ r = b) ∨ w.heap.size ≤ b
  step : ∀ r, (m.L r).step (m'.L r) (m'.ρ r = m.ρ r)
  newρ : ∀ r, (m'.L r).isLive → ((m.L r).isLive ∧ m'.ρ r = m.ρ r) ∨ w.heap.size ≤ m'.ρ r

theorem Inf.step_refl (l : Inf) (p : Prop) (h : p) : l.step l p := by
  cases l <;> simp [Inf.step, h]

theorem Inf.step_trans {l l' l'' : Inf} {p q r : Prop} (h : l.step l' p) (h' : l'.step l'' q) (hr : p → q → r) : l.step l'' r := by
  cases l with
  | absent => trivial
  | dead => simp only [Inf.step] at h; subst h; exact h'
  | nil v =>
    simp only [Inf.step] at h ⊢
    rcases h with h | h | ⟨v', n', sz', cap', h, hlt⟩
    · subst h; exact .inl h'
    · subst h; exact h'
    · subst h
      simp only [Inf.step] at h'
      rcases h' with h' | ⟨h', _⟩ | ⟨v2, n2, s2, c2, h', hlt2⟩
      · exact .inl h'
      · exact .inr (.inr ⟨_, _, _, _, h', hlt⟩)
      · exact .inr (.inr ⟨_, _, _, _, h', by omega⟩)
  | live v n sz cap =>
    simp only [Inf.step] at h ⊢
    rcases h with h | ⟨h, hp⟩ | ⟨v', n', sz', cap', h, hlt⟩
    · subst h; exact .inl h'
    · subst h
      simp only [Inf.step] at h'
      rcases h' with h' | ⟨h', hq⟩ | h'
      · exact .inl h'
      · exact .inr (.inl ⟨h', hr hp hq⟩)
      · exact .inr (.inr h')
    · subst h
      simp only [Inf.step] at h'
      rcases h' with h' | ⟨h', _⟩ | ⟨v2, n2, s2, c2, h', hlt2⟩
      · exact .inl h'
      · exact .inr (.inr ⟨_, _, _, _, h', hlt⟩)
      · exact .inr (.inr ⟨_, _, _, _, h', by omega⟩)

theorem Inf.step_imp {l l' : Inf} {p q : Prop} (h : p → q) (h' : l.step l' p) : l.step l' q := by
  cases l with
  | live v n sz cap =>
    simp only [Inf.step] at h' ⊢
    rcases h' with h' | ⟨h', hp⟩ | h'
    · exact .inl h'
    · exact .inr (.inl ⟨h', h hp⟩)
    · exact .inr (.inr h')
  | _ => exact h'

theorem Inf.old_step {l l' : Inf} {p : Prop} {ver n : Nat} (h : l.old ver n) (h' : l.step l' p) : l'.old ver n := by
  cases l with
  | absent => exact h.elim
  | dead => simp only [Inf.step] at h'; subst h'; exact h
  | nil v =>
    simp only [Inf.step] at h'
    simp only [Inf.old] at h
    rcases h' with h' | h' | ⟨v2, n2, s2, c2, h', hlt⟩ <;> subst h' <;> simp only [Inf.old]
    · exact h
    · omega
  | live v m sz cap =>
    simp only [Inf.step] at h'
    simp only [Inf.old] at h
    rcases h' with h' | ⟨h', _⟩ | ⟨v2, n2, s2, c2, h', hlt⟩ <;> subst h' <;> simp only [Inf.old]
    · exact h
    · omega

theorem Tr.refl (w : World) (m : Mp) : Tr w m w m :=
  ⟨rfl, rfl, rfl, Nat.le_refl _, fun _ _ _ => rfl, fun _ h => h, fun _ _ => rfl, fun _ h => .inl h, fun _ => Inf.step_refl _ _ rfl, fun _ h => .inl ⟨h, rfl⟩⟩

theorem Tr.trans {w w1 w2 : World} {m m1 m2 : Mp} (h : Tr w m w1 m1) (k : Tr w1 m1 w2 m2) : Tr w m w2 m2 where
  os := k.os.trans h.os
  tape := k.tape.trans h.tape
  output := k.output.trans h.output
  size := Nat.le_trans h.size k.size
  out := fun b hb hr => by
    rw [k.out b (Nat.lt_of_lt_of_le hb h.size) ?_, h.out b hb hr]
    intro r hl e
    rcases h.newρ r hl with ⟨h1, h2⟩ | h1
    · exact hr r h1 (h2 ▸ e)
    · omega
  imm := fun b hb => k.imm b (h.imm b hb)
  same := fun b hb => (k.same b (h.imm b hb)).trans (h.same b hb)
  newI := fun b hb => by
    rcases k.newI b hb with h1 | ⟨r, h1, h2⟩ | h1
    · exact h.newI b h1
    · rcases h.newρ r h1 with ⟨h3, h4⟩ | h3
      · exact .inr (.inl ⟨r, h3, h4 ▸ h2⟩)
      · exact .inr (.inr (by omega))
    · exact .inr (.inr (Nat.le_trans h.size h1))
  step := fun r => Inf.step_trans (h.step r) (k.step r) (fun a b => b.trans a)
  newρ := fun r hr => by
    rcases k.newρ r hr with ⟨h1, h2⟩ | h1
    · rcases h.newρ r h1 with ⟨h3, h4⟩ | h3
      · exact .inl ⟨h3, h2.trans h4⟩
      · exact .inr (by omega)
    · exact .inr (Nat.le_trans h.size h1)

theorem VP.mono {w w' : World} {I I' : Nat → Prop} (hI : ∀ b, I b → I' b) (hs : ∀ b, I b → w'.heap[b]? = w.heap[b]?) {v : PV} {u : Value} (h : VP w I v u) : VP w' I' v u := by
  induction h with
  | int => exact .int ..
  | bool => exact .bool ..
  | str s l h => exact .str s l h
  | nilp => exact .nilp
  | nils => exact .nils
  | nilf => exact .nilf
  | nili => exact .nili
  | nilm => exact .nilm
  | fn => exact .fn ..
  | sl0 => exact .sl0 ..
  | sl sz n f b o c u hb hcap hc hv ih =>
    refine .sl sz n f b o c u (hI b hb) hcap (fun i hi j hj => ?_) ih
    rw [← hc i hi j hj]
    simp [World.cell?, hs b hb]

theorem V.mono {w w' : World} {m m' : Mp} (t : Tr w m w' m') {a : AV} {u : Value} (h : V w m a u) : V w' m' a u := by
  induction h with
  | p v u h => exact .p v u (h.mono t.imm t.same)
  | ptr r ver n i off sz cap h hi =>
    have hs := t.step r
    rw [h] at hs
    simp only [Inf.step] at hs
    rcases hs with hs | ⟨hs, he⟩ | ⟨v', n', sz', cap', hs, hlt⟩
    · exact .ptrOld _ _ _ _ _ _ _ (by rw [hs]; trivial)
    · rw [← he]; exact .ptr _ _ _ _ _ _ _ hs hi
    · exact .ptrOld _ _ _ _ _ _ _ (by rw [hs]; exact hlt)
  | ptrOld r ver n i off b o h => exact .ptrOld _ _ _ _ _ _ _ (Inf.old_step h (t.step r))
  | slr r ver off n N sz cap h hn =>
    have hs := t.step r
    rw [h] at hs
    simp only [Inf.step] at hs
    rcases hs with hs | ⟨hs, he⟩ | ⟨v', n', sz', cap', hs, hlt⟩
    · exact .slrOld _ _ _ _ _ _ (by rw [hs]; trivial)
    · rw [← he]; exact .slr _ _ _ _ _ _ _ hs hn
    · exact .slrOld _ _ _ _ _ _ (by rw [hs, hn]; exact hlt)
  | slrNil r ver h =>
    have hs := t.step r
    rw [h] at hs
    simp only [Inf.step] at hs
    rcases hs with hs | hs | ⟨v', n', sz', cap', hs, hlt⟩
    · exact .slrOld _ _ _ _ _ _ (by rw [hs]; trivial)
    · exact .slrNil _ _ hs
    · exact .slrOld _ _ _ _ _ _ (by rw [hs]; exact hlt)
  | slrOld r ver off n ad c h => exact .slrOld _ _ _ _ _ _ (Inf.old_step h (t.step r))
  | rop cs off b o u hb hc hv =>
    refine .rop cs off b o u (t.imm b hb) (fun j hj => ?_) (fun j hj => (hv j hj).mono t.imm t.same)
    rw [← hc j hj]
    simp [World.cell?, t.same b hb]
  | fn f first cap A B hA hB h1 h2 ih1 ih2 => exact .fn f first cap A B hA hB ih1 ih2
  | iface t v u h ih => exact .iface t v u ih
  | agg cs A hA h ih => exact .agg cs A hA ih
  | tup cs A hA h ih => exact .tup cs A hA ih
  | yld r sz cap h =>
    have hs := t.step r
    rw [h] at hs
    simp only [Inf.step] at hs
    rcases hs with hs | ⟨hs, he⟩ | ⟨v', n', sz', cap', hs, hlt⟩
    · exact .yldOld _ _ (by rw [hs]; trivial)
    · rw [← he]; exact .yld _ _ _ hs
    · exact .yldOld _ _ (by rw [hs]; exact hlt)
  | yldOld r b h => exact .yldOld _ _ (Inf.old_step h (t.step r))
  | junk u => exact .junk u

/-! ### heaps -/

/-- where a loop over a function stands -/
inductive LSt where
  | ready
  | busy
  | ret
  | exit (n : Nat)
  | over
def LSt.state : LSt → LoopState
  | .ready => .ready
  | .busy => .busy
  | .ret => .done
  | .exit _ => .done
  | .over => .exhausted
def LSt.pends : LSt → Option Code → Prop
  | .ready, p => p = none
  | .busy, p => p = none
  | .ret, p => p = some .ret
  | .exit n, p => p = some (.exit n)
  | .over, _ => True

inductive ABlk where
  | absent
  | dead
  | box (ty : TypeId) (cs : List AV)
  | arr (ty : TypeId) (sz ver n : Nat) (f : Nat → List AV)
  | lp (s : LSt) (env : List (Nat × AV)) (N : Nat) (ps : Array Tmp) (assign body : Code)

def BlkOk (w : World) (m : Mp) (l : Inf) (g : Nat) : ABlk → Prop
  | .absent => l = .absent
  | .dead => l = .dead
  | .box ty cs => l = .live 0 1 cs.length 1 ∧ ∃ c : Array Value, w.heap[g]? = some (.cells c ty (0, 0)) ∧ c.size = cs.length ∧
      ∀ j (hj : j < cs.length), ∃ u, c[j]? = some u ∧ V w m cs[j] u
  | .arr ty sz ver n f => (l = .nil ver ∧ n = 0) ∨ ∃ (cap : Nat) (c : Array Value), l = .live ver n sz cap ∧ n ≤ cap ∧ cap ≤ maxLen ∧ w.heap[g]? = some (.cells c ty (0, 0)) ∧ c.size = cap * sz ∧
      ∀ i, i < n → (f i).length = sz ∧ ∀ j (hj : j < (f i).length), ∃ u, c[i * sz + j]? = some u ∧ V w m (f i)[j] u
  | .lp s env N ps assign body => l = .live 0 1 1 1 ∧ ∃ (p : Option Code) (fn : FuncId) (tmps : Array Value) (D : Nat),
      w.heap[g]? = some (.loop { state := s.state, pending := p, fn := fn, tmps := tmps, params := ps, assign := assign, body := body, defers := D }) ∧ s.pends p ∧ tmps.size = N ∧
      ∀ d, V w m (look env d) (tmps.getD d undef)

structure St (w : World) (m : Mp) (H : Nat → ABlk) : Prop where
  inj : ∀ r r', (m.L r).isLive → (m.L r').isLive → m.ρ r = m.ρ r' → r = r'
  notI : ∀ r, (m.L r).isLive → ¬ m.I (m.ρ r)
  lt : ∀ r, (m.L r).isLive → m.ρ r < w.heap.size
  Ilt : ∀ b, m.I b → b < w.heap.size
  gl : Gl w m.I
  blk : ∀ r, BlkOk w m (m.L r) (m.ρ r) (H r)

/-- what stands at a reference's block is the same, and values are worth what they were: so is the block's knowledge. -/
theorem BlkOk.mono {w w' : World} {m m' : Mp} {l : Inf} {g : Nat} {b : ABlk} (hb : w'.heap[g]? = w.heap[g]?) (hV : ∀ a u, V w m a u → V w' m' a u) (h : BlkOk w m l g b) : BlkOk w' m' l g b := by
  cases b with
  | absent => exact h
  | dead => exact h
  | box ty cs =>
    obtain ⟨hl, c, h1, h2, h3⟩ := h
    exact ⟨hl, c, hb.trans h1, h2, fun j hj => let ⟨u, a, b⟩ := h3 j hj; ⟨u, a, hV _ _ b⟩⟩
  | arr ty sz ver n f =>
    rcases h with h | ⟨cap, c, hl, h0, h00, h1, h2, h3⟩
    · exact .inl h
    exact .inr ⟨cap, c, hl, h0, h00, hb.trans h1, h2, fun i hi => ⟨(h3 i hi).1, fun j hj => let ⟨u, a, b⟩ := (h3 i hi).2 j hj; ⟨u, a, hV _ _ b⟩⟩⟩
  | lp s env N ps asg bd =>
    obtain ⟨hl, p, fn, tmps, D, h1, h2, h3, h4⟩ := h
    exact ⟨hl, p, fn, tmps, D, hb.trans h1, h2, h3, fun d => hV _ _ (h4 d)⟩

/-- The world turns only where the count of draws stands. -/
theorem Tr.drew (w : World) (m : Mp) : Tr w m w.drew m :=
  ⟨rfl, rfl, rfl, Nat.le_refl _, fun _ _ _ => rfl, fun _ h => h, fun _ _ => rfl, fun _ h => .inl h, fun _ => Inf.step_refl _ _ rfl, fun _ h => .inl ⟨h, rfl⟩⟩

theorem St.drew {w : World} {m : Mp} {H : Nat → ABlk} (h : St w m H) : St w.drew m H :=
  ⟨h.inj, h.notI, h.lt, h.Ilt, Gl.mono (w := w) (w' := w.drew) (fun _ h => h) (fun _ _ => rfl) h.gl, fun r => BlkOk.mono (w := w) (m := m) rfl (fun _ _ hv => hv.mono (Tr.drew w m)) (h.blk r)⟩

def upd (H : Nat → ABlk) (r : Nat) (b : ABlk) : Nat → ABlk := fun k => if k = r then b else H k

def Mp.set (m : Mp) (r g : Nat) (l : Inf) : Mp := { m with ρ := fun k => if k = r then g else m.ρ k, L := fun k => if k = r then l else m.L k }

theorem heap_alloc (w : World) (o : Obj) (b : Nat) (h : b < w.heap.size) : (w.alloc o).heap[b]? = w.heap[b]? := by
  show (w.heap.push o)[b]? = _
  rw [Array.getElem?_push, if_neg (by omega)]

theorem Tr.alloc (w : World) (m : Mp) (o : Obj) (r : Nat) (l : Inf) (hr : m.L r = .absent) (hI : ∀ b, m.I b → b < w.heap.size) : Tr w m (w.alloc o) (m.set r w.heap.size l) where
  os := rfl
  tape := rfl
  output := rfl
  size := by simp
  out := fun b hb _ => heap_alloc w o b hb
  imm := fun _ h => h
  same := fun b hb => heap_alloc w o b (hI b hb)
  newI := fun _ h => .inl h
  step := fun k => by
    simp only [Mp.set]
    by_cases hk : k = r
    · subst hk; rw [hr]; trivial
    · simp only [hk, if_false]; exact Inf.step_refl _ _ trivial
  newρ := fun k hk => by
    simp only [Mp.set] at hk ⊢
    by_cases hk' : k = r
    · subst hk'; simp
    · simp only [hk', if_false] at hk ⊢; exact .inl ⟨hk, trivial⟩

theorem St.absent {w : World} {m : Mp} {H : Nat → ABlk} (h : St w m H) {r : Nat} (hr : H r = .absent) : m.L r = .absent := by
  have := h.blk r
  rw [hr] at this
  exact this

theorem BlkOk.nolive {w w' : World} {m m' : Mp} {l : Inf} {g g' : Nat} {b : ABlk} (h : BlkOk w m l g b) (hl : ¬ l.isLive) : BlkOk w' m' l g' b := by
  cases b with
  | absent => exact h
  | dead => exact h
  | box ty cs => rw [h.1] at hl; exact absurd trivial hl
  | arr ty sz ver n f =>
    rcases h with h | ⟨cap, c, hl', _⟩
    · exact .inl h
    · rw [hl'] at hl; exact absurd trivial hl
  | lp s env N ps asg bd => rw [h.1] at hl; exact absurd trivial hl

theorem St.alloc {w : World} {m : Mp} {H : Nat → ABlk} (h : St w m H) (o : Obj) (r : Nat) (l : Inf) (hr : H r = .absent) (b : ABlk)
    (hb : BlkOk (w.alloc o) (m.set r w.heap.size l) l w.heap.size b) : St (w.alloc o) (m.set r w.heap.size l) (upd H r b) := by
  have hT := Tr.alloc w m o r l (h.absent hr) h.Ilt
  refine ⟨fun r1 r2 h1 h2 e => ?_, fun r1 h1 => ?_, fun r1 h1 => ?_, fun b hb => ?_, h.gl.mono hT.imm hT.same, fun r1 => ?_⟩
  · simp only [Mp.set] at h1 h2 e
    by_cases e1 : r1 = r <;> by_cases e2 : r2 = r
    · rw [e1, e2]
    · simp only [e1, e2, if_true, if_false] at h1 h2 e
      have := h.lt r2 h2; omega
    · simp only [e1, e2, if_true, if_false] at h1 h2 e
      have := h.lt r1 h1; omega
    · simp only [e1, e2, if_false] at h1 h2 e
      exact h.inj r1 r2 h1 h2 e
  · simp only [Mp.set] at h1 ⊢
    by_cases e1 : r1 = r
    · simp only [e1, if_true]; intro hI; have := h.Ilt _ hI; omega
    · simp only [e1, if_false] at h1 ⊢; exact h.notI r1 h1
  · simp only [Mp.set] at h1 ⊢
    by_cases e1 : r1 = r
    · simp [e1]
    · simp only [e1, if_false] at h1 ⊢; have := h.lt r1 h1; simp; omega
  · have := h.Ilt b hb; simp; omega
  · by_cases e1 : r1 = r
    · simp only [Mp.set, upd, e1, if_true]; exact hb
    · have hk := h.blk r1
      have e : BlkOk (w.alloc o) (m.set r w.heap.size l) (m.L r1) (m.ρ r1) (H r1) := by
        by_cases hl : (m.L r1).isLive
        · exact hk.mono (heap_alloc w o _ (h.lt r1 hl)) (fun _ _ hv => hv.mono hT)
        · exact hk.nolive hl
      simp only [Mp.set, upd, e1, if_false]
      exact e

theorem heap_setRow_ne (w : World) (g : Nat) (c : Array Value) (b : Nat) (h : b ≠ g) : (w.setRow g c).heap[b]? = w.heap[b]? := by
  simp only [World.setRow, Array.getElem?_modify]
  rw [if_neg (fun e => h e.symm)]

theorem size_setRow (w : World) (g : Nat) (c : Array Value) : (w.setRow g c).heap.size = w.heap.size := by simp [World.setRow]

/-- what a write into a live reference's block does -/
theorem Tr.setRow {w : World} {m : Mp} {H : Nat → ABlk} (h : St w m H) (r : Nat) (hr : (m.L r).isLive) (c : Array Value) : Tr w m (w.setRow (m.ρ r) c) m where
  os := rfl
  tape := rfl
  output := rfl
  size := by rw [size_setRow]; exact Nat.le_refl _
  out := fun b _ hn => heap_setRow_ne w _ c b (fun e => hn r hr e.symm)
  imm := fun _ h => h
  same := fun b hb => heap_setRow_ne w _ c b (fun e => h.notI r hr (e ▸ hb))
  newI := fun _ h => .inl h
  step := fun k => Inf.step_refl _ _ rfl
  newρ := fun k hk => .inl ⟨hk, rfl⟩


theorem St.setRow {w : World} {m : Mp} {H : Nat → ABlk} (h : St w m H) (r : Nat) (hr : (m.L r).isLive) (c : Array Value) (b : ABlk)
    (hb : BlkOk (w.setRow (m.ρ r) c) m (m.L r) (m.ρ r) b) : St (w.setRow (m.ρ r) c) m (upd H r b) := by
  have hT := Tr.setRow h r hr c
  refine ⟨h.inj, h.notI, fun k hk => by rw [size_setRow]; exact h.lt k hk, fun b hb => by rw [size_setRow]; exact h.Ilt b hb, h.gl.mono hT.imm hT.same, fun k => ?_⟩
  by_cases e : k = r
  · subst e; simp only [upd, if_true]; exact hb
  · simp only [upd, e, if_false]
    have hk := h.blk k
    by_cases hl : (m.L k).isLive
    · exact hk.mono (heap_setRow_ne w _ c _ (fun e' => e (h.inj k r hl hr e'))) (fun _ _ hv => hv.mono hT)
    · exact hk.nolive hl

/-- what another object in a live reference's block does -/
theorem Tr.putObj {w : World} {m : Mp} {H : Nat → ABlk} (h : St w m H) (r : Nat) (hr : (m.L r).isLive) (o : Obj) : Tr w m (w.putObj (m.ρ r) o) m where
  os := rfl
  tape := rfl
  output := rfl
  size := by simp
  out := fun b _ hn => World.putObj_heap_other (fun e => hn r hr e.symm)
  imm := fun _ h => h
  same := fun b hb => World.putObj_heap_other (fun e => h.notI r hr (e ▸ hb))
  newI := fun _ h => .inl h
  step := fun k => Inf.step_refl _ _ rfl
  newρ := fun k hk => .inl ⟨hk, rfl⟩

theorem St.putObj {w : World} {m : Mp} {H : Nat → ABlk} (h : St w m H) (r : Nat) (hr : (m.L r).isLive) (o : Obj) (b : ABlk)
    (hb : BlkOk (w.putObj (m.ρ r) o) m (m.L r) (m.ρ r) b) : St (w.putObj (m.ρ r) o) m (upd H r b) := by
  have hT := Tr.putObj h r hr o
  refine ⟨h.inj, h.notI, fun k hk => by simpa using h.lt k hk, fun b hb => by simpa using h.Ilt b hb, h.gl.mono hT.imm hT.same, fun k => ?_⟩
  by_cases e : k = r
  · subst e; simp only [upd, if_true]; exact hb
  · simp only [upd, e, if_false]
    have hk := h.blk k
    by_cases hl : (m.L k).isLive
    · exact hk.mono (World.putObj_heap_other (fun e' => e (h.inj k r hl hr e'))) (fun _ _ hv => hv.mono hT)
    · exact hk.nolive hl

/-- a block that is neither owned nor read: what stands there counts for nothing -/
theorem V.aside {w : World} {m : Mp} (D : Nat) (hD : ¬ m.I D) (o : Obj) {a : AV} {u : Value} (h : V w m a u) : V (w.putObj D o) m a u := by
  have hs : ∀ b, m.I b → (w.putObj D o).heap[b]? = w.heap[b]? := fun b hb => World.putObj_heap_other (fun e => hD (e ▸ hb))
  induction h with
  | p v u h => exact .p v u (h.mono (fun _ h => h) hs)
  | ptr r ver n i off sz cap h hi => exact .ptr r ver n i off sz cap h hi
  | ptrOld r ver n i off b o h => exact .ptrOld r ver n i off b o h
  | slr r ver off n N sz cap h hn => exact .slr r ver off n N sz cap h hn
  | slrNil r ver h => exact .slrNil r ver h
  | slrOld r ver off n ad c h => exact .slrOld r ver off n ad c h
  | rop cs off b o u hb hc hv =>
    refine .rop cs off b o u hb (fun j hj => ?_) (fun j hj => (hv j hj).mono (fun _ h => h) hs)
    rw [← hc j hj]
    simp [World.cell?, hs b hb]
  | fn f first cap A B hA hB h1 h2 ih1 ih2 => exact .fn f first cap A B hA hB ih1 ih2
  | iface t v u h ih => exact .iface t v u ih
  | agg cs A hA h ih => exact .agg cs A hA ih
  | tup cs A hA h ih => exact .tup cs A hA ih
  | yld r sz cap h => exact .yld r sz cap h
  | yldOld r b h => exact .yldOld r b h
  | junk u => exact .junk u

theorem St.aside {w : World} {m : Mp} {H : Nat → ABlk} (h : St w m H) (D : Nat) (hD : ¬ m.I D) (hO : ∀ r, (m.L r).isLive → m.ρ r ≠ D) (o : Obj) : St (w.putObj D o) m H := by
  have hs : ∀ b, m.I b → (w.putObj D o).heap[b]? = w.heap[b]? := fun b hb => World.putObj_heap_other (fun e => hD (e ▸ hb))
  refine ⟨h.inj, h.notI, fun k hk => by simpa using h.lt k hk, fun b hb => by simpa using h.Ilt b hb, h.gl.mono (fun _ h => h) hs, fun k => ?_⟩
  have hk := h.blk k
  by_cases hl : (m.L k).isLive
  · exact hk.mono (World.putObj_heap_other (hO k hl)) (fun _ _ hv => hv.aside D hD o)
  · exact hk.nolive hl

theorem Tr.aside {we w : World} {me m : Mp} (h : Tr we me w m) (D : Nat) (hW : we.heap.size ≤ D) (hm : ∀ b, me.I b → b < we.heap.size) (o : Obj) : Tr we me (w.putObj D o) m where
  os := h.os
  tape := h.tape
  output := h.output
  size := by simpa using h.size
  out := fun b hb hn => (World.putObj_heap_other (by omega)).trans (h.out b hb hn)
  imm := h.imm
  same := fun b hb => (World.putObj_heap_other (by have := hm b hb; omega)).trans (h.same b hb)
  newI := h.newI
  step := h.step
  newρ := h.newρ

/-- a live block that grows, where it stands or anew -/
theorem Tr.grow {w w' : World} {m : Mp} {H : Nat → ABlk} (h : St w m H) (r g' : Nat) (l' : Inf) (hr : (m.L r).isLive) (hg : w.grownBy w' (some (m.ρ r)))
    (hs : (m.L r).step l' (g' = m.ρ r)) (hg' : g' = m.ρ r ∨ w.heap.size ≤ g') : Tr w m w' (m.set r g' l') where
  os := hg.os
  tape := hg.tape
  output := hg.output
  size := hg.size
  out := fun b hb hn => hg.block b hb (fun e => hn r hr (by injection e with e; exact e.symm))
  imm := fun _ h => h
  same := fun b hb => hg.block b (h.Ilt b hb) (fun e => h.notI r hr (by injection e with e; exact e ▸ hb))
  newI := fun _ h => .inl h
  step := fun k => by
    simp only [Mp.set]
    by_cases hk : k = r
    · subst hk; simp only [if_true]; exact hs
    · simp only [hk, if_false]; exact Inf.step_refl _ _ trivial
  newρ := fun k hk => by
    simp only [Mp.set] at hk ⊢
    by_cases hk' : k = r
    · subst hk'; simp only [if_true] at hk ⊢
      rcases hg' with e | e
      · exact .inl ⟨hr, e⟩
      · exact .inr e
    · simp only [hk', if_false] at hk ⊢; exact .inl ⟨hk, trivial⟩

theorem St.grow {w w' : World} {m : Mp} {H : Nat → ABlk} (h : St w m H) (r g' : Nat) (l' : Inf) (hr : (m.L r).isLive) (hg : w.grownBy w' (some (m.ρ r)))
    (hs : (m.L r).step l' (g' = m.ρ r)) (hg' : g' = m.ρ r ∨ w.heap.size ≤ g') (hlt : g' < w'.heap.size) (b : ABlk) (hb : BlkOk w' (m.set r g' l') l' g' b) : St w' (m.set r g' l') (upd H r b) := by
  have hT := Tr.grow h r g' l' hr hg hs hg'
  refine ⟨fun r1 r2 h1 h2 e => ?_, fun r1 h1 => ?_, fun r1 h1 => ?_, fun b hb => ?_, h.gl.mono hT.imm hT.same, fun r1 => ?_⟩
  · simp only [Mp.set] at h1 h2 e
    by_cases e1 : r1 = r <;> by_cases e2 : r2 = r
    · rw [e1, e2]
    · simp only [e1, e2, if_true, if_false] at h1 h2 e
      rcases hg' with hg' | hg'
      · exact absurd (h.inj r r2 hr h2 (hg' ▸ e)).symm e2
      · have := h.lt r2 h2; omega
    · simp only [e1, e2, if_true, if_false] at h1 h2 e
      rcases hg' with hg' | hg'
      · exact absurd (h.inj r1 r h1 hr (hg' ▸ e)) e1
      · have := h.lt r1 h1; omega
    · simp only [e1, e2, if_false] at h1 h2 e
      exact h.inj r1 r2 h1 h2 e
  · simp only [Mp.set] at h1 ⊢
    by_cases e1 : r1 = r
    · simp only [e1, if_true]; intro hI
      rcases hg' with hg' | hg'
      · exact h.notI r hr (hg' ▸ hI)
      · have := h.Ilt _ hI; omega
    · simp only [e1, if_false] at h1 ⊢; exact h.notI r1 h1
  · simp only [Mp.set] at h1 ⊢
    by_cases e1 : r1 = r
    · simp only [e1, if_true]; exact hlt
    · simp only [e1, if_false] at h1 ⊢; exact Nat.lt_of_lt_of_le (h.lt r1 h1) hg.size
  · exact Nat.lt_of_lt_of_le (h.Ilt b hb) hg.size
  · by_cases e1 : r1 = r
    · simp only [Mp.set, upd, e1, if_true]; exact hb
    · have hk := h.blk r1
      simp only [Mp.set, upd, e1, if_false]
      show BlkOk w' (m.set r g' l') _ _ _
      by_cases hl : (m.L r1).isLive
      · exact hk.mono (hg.block _ (h.lt r1 hl) (fun e => e1 (h.inj r1 r hl hr (by injection e)))) (fun _ _ hv => hv.mono hT)
      · exact hk.nolive hl

/-- a new reference, to a block that was not there -/
theorem Tr.fresh {w w' : World} {m : Mp} {H : Nat → ABlk} (h : St w m H) (r g' : Nat) (l' : Inf) (hst : (m.L r).step l' False) (hg : w.grownBy w' none) (hg' : w.heap.size ≤ g') : Tr w m w' (m.set r g' l') where
  os := hg.os
  tape := hg.tape
  output := hg.output
  size := hg.size
  out := fun b hb _ => hg.block b hb (by simp)
  imm := fun _ h => h
  same := fun b hb => hg.block b (h.Ilt b hb) (by simp)
  newI := fun _ h => .inl h
  step := fun k => by
    simp only [Mp.set]
    by_cases hk : k = r
    · subst hk; simp only [if_true]; exact Inf.step_imp (fun x => x.elim) hst
    · simp only [hk, if_false]; exact Inf.step_refl _ _ trivial
  newρ := fun k hk => by
    simp only [Mp.set] at hk ⊢
    by_cases hk' : k = r
    · subst hk'; simp only [if_true]; exact .inr hg'
    · simp only [hk', if_false] at hk ⊢; exact .inl ⟨hk, trivial⟩

theorem St.fresh {w w' : World} {m : Mp} {H : Nat → ABlk} (h : St w m H) (r g' : Nat) (l' : Inf) (hst : (m.L r).step l' False) (hg : w.grownBy w' none) (hg' : w.heap.size ≤ g') (hlt : g' < w'.heap.size)
    (b : ABlk) (hb : BlkOk w' (m.set r g' l') l' g' b) : St w' (m.set r g' l') (upd H r b) := by
  have hT := Tr.fresh h r g' l' hst hg hg'
  refine ⟨fun r1 r2 h1 h2 e => ?_, fun r1 h1 => ?_, fun r1 h1 => ?_, fun b hb => ?_, h.gl.mono hT.imm hT.same, fun r1 => ?_⟩
  · simp only [Mp.set] at h1 h2 e
    by_cases e1 : r1 = r <;> by_cases e2 : r2 = r
    · rw [e1, e2]
    · simp only [e1, e2, if_true, if_false] at h1 h2 e
      have := h.lt r2 h2; omega
    · simp only [e1, e2, if_true, if_false] at h1 h2 e
      have := h.lt r1 h1; omega
    · simp only [e1, e2, if_false] at h1 h2 e
      exact h.inj r1 r2 h1 h2 e
  · simp only [Mp.set] at h1 ⊢
    by_cases e1 : r1 = r
    · simp only [e1, if_true]; intro hI; have := h.Ilt _ hI; omega
    · simp only [e1, if_false] at h1 ⊢; exact h.notI r1 h1
  · simp only [Mp.set] at h1 ⊢
    by_cases e1 : r1 = r
    · simp only [e1, if_true]; exact hlt
    · simp only [e1, if_false] at h1 ⊢; exact Nat.lt_of_lt_of_le (h.lt r1 h1) hg.size
  · exact Nat.lt_of_lt_of_le (h.Ilt b hb) hg.size
  · by_cases e1 : r1 = r
    · simp only [Mp.set, upd, e1, if_true]; exact hb
    · have hk := h.blk r1
      simp only [Mp.set, upd, e1, if_false]
      show BlkOk w' (m.set r g' l') _ _ _
      by_cases hl : (m.L r1).isLive
      · exact hk.mono (hg.block _ (h.lt r1 hl) (by simp)) (fun _ _ hv => hv.mono hT)
      · exact hk.nolive hl

/-- a block that nobody writes to any more -/
def Mp.freeze (m : Mp) (r : Nat) : Mp := { m with I := fun b => m.I b ∨ b = m.ρ r, L := fun k => if k = r then .dead else m.L k }

theorem Tr.freeze {w : World} {m : Mp} (r : Nat) (hr : (m.L r).isLive) : Tr w m w (m.freeze r) where
  os := rfl
  tape := rfl
  output := rfl
  size := Nat.le_refl _
  out := fun _ _ _ => rfl
  imm := fun _ h => .inl h
  same := fun _ _ => rfl
  newI := fun b h => by
    rcases h with h | h
    · exact .inl h
    · exact .inr (.inl ⟨r, hr, h.symm⟩)
  step := fun k => by
    simp only [Mp.freeze]
    by_cases hk : k = r
    · subst hk; simp only [if_true]
      cases hL : m.L k with
      | absent => trivial
      | dead => rfl
      | nil => exact .inl rfl
      | live => exact .inl rfl
    · simp only [hk, if_false]; exact Inf.step_refl _ _ trivial
  newρ := fun k hk => by
    simp only [Mp.freeze] at hk ⊢
    by_cases hk' : k = r
    · subst hk'; simp [Inf.isLive] at hk
    · simp only [hk', if_false] at hk; exact .inl ⟨hk, trivial⟩

theorem St.freeze {w : World} {m : Mp} {H : Nat → ABlk} (h : St w m H) (r : Nat) (hr : (m.L r).isLive) : St w (m.freeze r) (upd H r .dead) := by
  have hT := Tr.freeze (w := w) r hr
  have hlive : ∀ k, ((m.freeze r).L k).isLive → k ≠ r ∧ (m.L k).isLive := fun k hk => by
    simp only [Mp.freeze] at hk
    by_cases e : k = r
    · subst e; simp [Inf.isLive] at hk
    · simp only [e, if_false] at hk; exact ⟨e, hk⟩
  refine ⟨fun r1 r2 h1 h2 e => h.inj r1 r2 (hlive _ h1).2 (hlive _ h2).2 e, fun r1 h1 hI => ?_, fun r1 h1 => h.lt r1 (hlive _ h1).2, fun b hb => ?_, h.gl.mono hT.imm hT.same, fun k => ?_⟩
  · rcases hI with hI | hI
    · exact h.notI r1 (hlive _ h1).2 hI
    · exact (hlive _ h1).1 (h.inj r1 r (hlive _ h1).2 hr hI)
  · rcases hb with hb | hb
    · exact h.Ilt b hb
    · rw [hb]; exact h.lt r hr
  · by_cases e : k = r
    · subst e; simp [upd, Mp.freeze, BlkOk]
    · simp only [upd, Mp.freeze, e, if_false]
      exact (h.blk k).mono rfl (fun _ _ hv => hv.mono hT)

/-- references from k on are forgotten -/
def Mp.cut (m : Mp) (k : Nat) : Mp := { m with L := fun r => if r < k then m.L r else .absent }

mutual
/-- does it name only references below k? -/
def AV.cl (k : Nat) : AV → Bool
  | .p _ | .rop _ _ | .junk => true
  | .ptr r _ _ _ _ => Nat.blt r k
  | .slr r _ _ _ => Nat.blt r k
  | .yld r => Nat.blt r k
  | .fn _ a b => AV.cls k a && AV.cls k b
  | .iface _ v => AV.cl k v
  | .agg l => AV.cls k l
  | .tup l => AV.cls k l
def AV.cls (k : Nat) : List AV → Bool
  | [] => true
  | a :: l => AV.cl k a && AV.cls k l
end

theorem AV.cls_get {k : Nat} {l : List AV} (h : AV.cls k l = true) : ∀ j (hj : j < l.length), AV.cl k l[j] = true := by
  induction l with
  | nil => intro j hj; simp at hj
  | cons a l ih =>
    simp only [AV.cls, Bool.and_eq_true] at h
    intro j hj
    cases j with
    | zero => exact h.1
    | succ j => exact ih h.2 j (by simpa using hj)

theorem V.cut {w : World} {m : Mp} {a : AV} {u : Value} (h : V w m a u) (k : Nat) (hc : a.cl k = true) : V w (m.cut k) a u := by
  induction h with
  | p v u h => exact .p v u h
  | ptr r ver n i off sz cap h hi =>
    have hr : r < k := by simpa [AV.cl] using hc
    exact .ptr (m := m.cut k) r ver n i off sz cap (by simp [Mp.cut, hr, h]) hi
  | ptrOld r ver n i off b o h =>
    have hr : r < k := by simpa [AV.cl] using hc
    exact .ptrOld (m := m.cut k) r ver n i off b o (by simpa [Mp.cut, hr] using h)
  | slr r ver off n N sz cap h hn =>
    have hr : r < k := by simpa [AV.cl] using hc
    exact .slr (m := m.cut k) r ver off n N sz cap (by simp [Mp.cut, hr, h]) hn
  | slrNil r ver h =>
    have hr : r < k := by simpa [AV.cl] using hc
    exact .slrNil (m := m.cut k) r ver (by simp [Mp.cut, hr, h])
  | slrOld r ver off n ad c h =>
    have hr : r < k := by simpa [AV.cl] using hc
    exact .slrOld (m := m.cut k) r ver off n ad c (by simpa [Mp.cut, hr] using h)
  | rop cs off b o u hb h1 h2 => exact .rop (m := m.cut k) cs off b o u hb h1 h2
  | fn f first cap A B hA hB h1 h2 ih1 ih2 =>
    simp only [AV.cl, Bool.and_eq_true] at hc
    exact .fn f first cap A B hA hB (fun j hj hj' => ih1 j hj hj' (AV.cls_get hc.1 j hj)) (fun j hj hj' => ih2 j hj hj' (AV.cls_get hc.2 j hj))
  | iface t v u h ih => exact .iface t v u (ih hc)
  | agg cs A hA h ih => exact .agg cs A hA (fun j hj hj' => ih j hj hj' (AV.cls_get hc j hj))
  | tup cs A hA h ih => exact .tup cs A hA (fun j hj hj' => ih j hj hj' (AV.cls_get hc j hj))
  | yld r sz cap h =>
    have hr : r < k := by simpa [AV.cl] using hc
    exact .yld (m := m.cut k) r sz cap (by simp [Mp.cut, hr, h])
  | yldOld r b h =>
    have hr : r < k := by simpa [AV.cl] using hc
    exact .yldOld (m := m.cut k) r b (by simpa [Mp.cut, hr] using h)
  | junk u => exact .junk u

/-- do a frame's slots name only references below k? -/
def clE (k : Nat) : List (Nat × AV) → Bool
  | [] => true
  | (_, v) :: l => AV.cl k v && clE k l
theorem clE_look {k : Nat} {l : List (Nat × AV)} (h : clE k l = true) (d : Nat) : (look l d).cl k = true := by
  induction l with
  | nil => rfl
  | cons x l ih =>
    obtain ⟨j, v⟩ := x
    simp only [clE, Bool.and_eq_true] at h
    simp only [look]
    split
    · exact h.1
    · exact ih h.2

def ABlk.cl (k : Nat) : ABlk → Prop
  | .box _ cs => AV.cls k cs = true
  | .arr _ _ _ n f => ∀ i, i < n → AV.cls k (f i) = true
  | .lp _ env _ _ _ _ => clE k env = true
  | _ => True

theorem St.cut {w : World} {m : Mp} {H : Nat → ABlk} (h : St w m H) (k : Nat) (hc : ∀ r, r < k → (H r).cl k) : St w (m.cut k) (fun r => if r < k then H r else .absent) := by
  have hlive : ∀ r, ((m.cut k).L r).isLive → (m.L r).isLive := fun r hr => by
    simp only [Mp.cut] at hr
    by_cases e : r < k
    · simpa [e] using hr
    · simp [e, Inf.isLive] at hr
  refine ⟨fun r1 r2 h1 h2 e => h.inj r1 r2 (hlive _ h1) (hlive _ h2) e, fun r1 h1 => h.notI r1 (hlive _ h1), fun r1 h1 => h.lt r1 (hlive _ h1), h.Ilt, h.gl, fun r => ?_⟩
  by_cases e : r < k
  · simp only [Mp.cut, e, if_true]
    show BlkOk w (m.cut k) (m.L r) (m.ρ r) (H r)
    have hb := h.blk r
    have hcl := hc r e
    cases hH : H r with
    | absent => rw [hH] at hb; exact hb
    | dead => rw [hH] at hb; exact hb
    | box ty cs =>
      rw [hH] at hb hcl
      obtain ⟨hl, c, h1, h2, h3⟩ := hb
      exact ⟨hl, c, h1, h2, fun j hj => let ⟨u, a, b⟩ := h3 j hj; ⟨u, a, b.cut k (AV.cls_get hcl j hj)⟩⟩
    | arr ty sz ver n f =>
      rw [hH] at hb hcl
      rcases hb with hb | ⟨cap, c, hl, h0, h00, h1, h2, h3⟩
      · exact .inl hb
      exact .inr ⟨cap, c, hl, h0, h00, h1, h2, fun i hi => ⟨(h3 i hi).1, fun j hj => let ⟨u, a, b⟩ := (h3 i hi).2 j hj; ⟨u, a, b.cut k (AV.cls_get (hcl i hi) j hj)⟩⟩⟩
    | lp s env N ps asg bd =>
      rw [hH] at hb hcl
      obtain ⟨hl, p, fn, tmps, D, h1, h2, h3, h4⟩ := hb
      exact ⟨hl, p, fn, tmps, D, h1, h2, h3, fun d => (h4 d).cut k (clE_look hcl d)⟩
  · simp only [Mp.cut, e, if_false]
    rfl

theorem Tr.cut {w w' : World} {m m' : Mp} (h : Tr w m w' m') (k : Nat) (hk : ∀ r, k ≤ r → m.L r = .absent) : Tr w m w' (m'.cut k) where
  os := h.os
  tape := h.tape
  output := h.output
  size := h.size
  out := h.out
  imm := h.imm
  same := h.same
  newI := h.newI
  step := fun r => by
    by_cases e : r < k
    · simp only [Mp.cut, e, if_true]; exact h.step r
    · rw [hk r (by omega)]; trivial
  newρ := fun r hr => by
    by_cases e : r < k
    · simp only [Mp.cut, e, if_true] at hr ⊢; exact h.newρ r hr
    · simp [Mp.cut, e, Inf.isLive] at hr

end Go.AE
