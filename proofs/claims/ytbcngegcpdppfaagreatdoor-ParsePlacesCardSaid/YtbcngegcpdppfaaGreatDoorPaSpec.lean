/-
  Parser, part 1: what the parser computes, in plain Lean: tokens as a list, nodes as a list, depth as a number that sinks. No program in sight; no statement of the seat is proved here.
-/
namespace Go.Ru

abbrev Bs := List UInt8

/-- kinds of tokens, but for the one at the end -/
inductive TK where
  | name
  | number
  | sign
  | word
deriving DecidableEq

def TK.code : TK → Int
  | .name => 1
  | .number => 2
  | .sign => 3
  | .word => 4

structure Tok where
  k : TK
  n : Int
  at_ : Int
  tx : Bs

structure Nd where
  k : Int
  n : Int
  at_ : Int
  tx : Bs
  kids : List Int

instance : Inhabited Nd := ⟨⟨0, 0, 0, [], []⟩⟩

/-- a parser: tokens that are left, nodes that were put, how much was open at most -/
structure PS where
  ts : List Tok
  ns : List Nd
  mo : Int

/-- an answer, or what is wrong, and where -/
inductive R (α : Type) where
  | ok (a : α) (s : PS)
  | bad (at_ err : Int)

def R.bind {α β : Type} (r : R α) (f : α → PS → R β) : R β :=
  match r with
  | .ok a s => f a s
  | .bad a e => .bad a e

abbrev M (α : Type) := PS → R α

/-- where the next token begins; e: where the text ends -/
def hd (e : Int) : List Tok → Int
  | [] => e
  | t :: _ => t.at_

/-- is the next token that word or sign? -/
def isS (w : Bs) : List Tok → Bool
  | [] => false
  | t :: _ => match t.k with
    | .word => t.tx == w
    | .sign => t.tx == w
    | _ => false

def dropS (s : PS) : PS := ⟨s.ts.tail, s.ns, s.mo⟩

def wantS (e : Int) (w : Bs) (s : PS) : R Unit :=
  match isS w s.ts with
  | true => .ok () (dropS s)
  | false => .bad (hd e s.ts) 2

def identS (e : Int) (s : PS) : R Tok :=
  match s.ts with
  | [] => .bad e 2
  | t :: r => match t.k with
    | .name => .ok t ⟨r, s.ns, s.mo⟩
    | _ => .bad t.at_ 2

def putS (n : Nd) (s : PS) : R Int := .ok (s.ns.length : Int) ⟨s.ts, s.ns ++ [n], s.mo⟩

def moreS (d : Nat) (mo : Int) : Int := if (41 : Int) - d > mo then 41 - d else mo

/-- something between a token that opens and one that closes; d: how much more may be opened -/
def withinS {α : Type} (e : Int) (d : Nat) (op cl : Bs) (what : M α) (s : PS) : R α :=
  match isS op s.ts with
  | false => .bad (hd e s.ts) 2
  | true => match d with
    | 0 => .bad (hd e s.ts) 6
    | _ + 1 => (what ⟨s.ts.tail, s.ns, moreS d s.mo⟩).bind fun a s => match cl with
      | [] => .ok a s
      | _ => (wantS e cl s).bind fun _ s => .ok a s

/-- signs of a row, by how many rows bind more -/
def rowS : Nat → List Bs
  | 0 => [[42], [47], [37]]
  | 1 => [[43], [45]]
  | 2 => [[61, 61], [33, 61], [60], [60, 61], [62], [62, 61]]
  | 3 => [[38, 38]]
  | _ => [[124, 124]]

def anyS (l : List Bs) (ts : List Tok) : Bool := l.any fun w => isS w ts

/-- operands with signs between -/
def rowLoop (l : List Bs) (opnd : M Int) : Nat → Int → M Int
  | 0, x, s => .ok x s
  | n + 1, x, s => match s.ts with
    | [] => .ok x s
    | t :: r => match anyS l (t :: r) with
      | false => .ok x s
      | true => (opnd ⟨r, s.ns, s.mo⟩).bind fun y s => (putS ⟨27, 0, t.at_, t.tx, [x, y]⟩ s).bind fun x s => rowLoop l opnd n x s

def exprS (una : M Int) : Nat → M Int
  | 0, s => una s
  | j + 1, s => (exprS una j s).bind fun x s => rowLoop (rowS j) (exprS una j) s.ts.length x s

def primS (e : Int) (d : Nat) (inner : M Int) (s : PS) : R Int :=
  match s.ts with
  | [] => .bad e 2
  | t :: r => match t.k with
    | .number => putS ⟨20, t.n, t.at_, [], []⟩ ⟨r, s.ns, s.mo⟩
    | .name => match isS [91] r with
      | true => (withinS e d [91] [93] inner ⟨r, s.ns, s.mo⟩).bind fun x s => putS ⟨23, 0, t.at_, t.tx, [x]⟩ s
      | false => putS ⟨22, 0, t.at_, t.tx, []⟩ ⟨r, s.ns, s.mo⟩
    | _ => match t.tx == [116, 114, 117, 101] with
      | true => putS ⟨21, 1, t.at_, [], []⟩ ⟨r, s.ns, s.mo⟩
      | false => match t.tx == [102, 97, 108, 115, 101] with
        | true => putS ⟨21, 0, t.at_, [], []⟩ ⟨r, s.ns, s.mo⟩
        | false => match t.tx == [108, 101, 110] with
          | true => (identS e ⟨r, s.ns, s.mo⟩).bind fun t' s => putS ⟨24, 0, t.at_, t'.tx, []⟩ s
          | false => match t.tx == [38] with
            | true => (identS e ⟨r, s.ns, s.mo⟩).bind fun t' s => putS ⟨25, 0, t.at_, t'.tx, []⟩ s
            | false => match t.tx == [40] with
              | true => withinS e d [40] [41] inner s
              | false => .bad t.at_ 2

def unaB (e : Int) (d : Nat) (una inner : M Int) (s : PS) : R Int :=
  match s.ts with
  | [] => .bad e 2
  | t :: r => match isS [45] (t :: r) || isS [33] (t :: r) with
    | true => (withinS e d t.tx [] una s).bind fun x s => putS ⟨26, 0, t.at_, t.tx, [x]⟩ s
    | false => primS e d inner s

/-- unary, with d that may yet be opened -/
def unaS (e : Int) : Nat → M Int
  | 0 => unaB e 0 (fun _ => .bad 0 0) (fun _ => .bad 0 0)
  | d + 1 => unaB e (d + 1) (unaS e d) (exprS (unaS e d) 5)

def exS (e : Int) (d : Nat) : M Int := exprS (unaS e d) 5
/-- an expression one deeper -/
def inS (e : Int) : Nat → M Int
  | 0 => fun _ => .bad 0 0
  | d + 1 => exS e d

def indexS (e : Int) (d : Nat) : M Int := withinS e d [91] [93] (inS e d)

/-- what stands behind commas -/
def commaL {α : Type} (one : List α → M (List α)) : Nat → List α → M (List α)
  | 0, l, s => .ok l s
  | n + 1, l, s => match isS [44] s.ts with
    | true => (one l (dropS s)).bind fun l s => commaL one n l s
    | false => .ok l s
def listS {α : Type} (one : List α → M (List α)) (l : List α) (s : PS) : R (List α) :=
  match isS [41] s.ts with
  | true => .ok l s
  | false => (one l s).bind fun l s => commaL one s.ts.length l s

/-- one more of a list -/
def oneS (m : M Int) (l : List Int) : M (List Int) := fun s => (m s).bind fun x s => .ok (l ++ [x]) s

def callS (e : Int) (d : Nat) (at_ : Int) (tx : Bs) (s : PS) : R Int :=
  (identS e s).bind fun t s => (putS ⟨19, 0, t.at_, t.tx, []⟩ s).bind fun x s =>
    (withinS e d [40] [41] (listS (oneS (inS e d)) [x]) s).bind fun l s => putS ⟨13, 0, at_, tx, l⟩ s

def chanS (e : Int) (s : PS) : R Int := (identS e s).bind fun t s => putS ⟨18, 0, t.at_, t.tx, []⟩ s

def namedS (e : Int) (d : Nat) (s : PS) : R Int :=
  (identS e s).bind fun t s => match isS [91] s.ts with
    | true => (indexS e d s).bind fun x s => (wantS e [61] s).bind fun _ s => (exS e d s).bind fun y s => putS ⟨8, 0, t.at_, t.tx, [x, y]⟩ s
    | false => (wantS e [61] s).bind fun _ s => match isS [105, 110] s.ts with
      | true => (chanS e (dropS s)).bind fun x s => putS ⟨9, 0, t.at_, t.tx, [x]⟩ s
      | false => match isS [99, 97, 108, 108] s.ts with
        | true => callS e d t.at_ t.tx (dropS s)
        | false => match isS [110, 101, 119] s.ts with
          | true => (exS e d (dropS s)).bind fun x s => putS ⟨17, 0, t.at_, t.tx, [x]⟩ s
          | false => (exS e d s).bind fun x s => putS ⟨7, 0, t.at_, t.tx, [x]⟩ s

def plainS (e : Int) (d : Nat) (s : PS) : R Int :=
  let at_ := hd e s.ts
  match isS [111, 117, 116] s.ts with
  | true => (chanS e (dropS s)).bind fun c s => (exS e d s).bind fun x s => putS ⟨10, 0, at_, [], [c, x]⟩ s
  | false => match isS [99, 97, 108, 108] s.ts with
    | true => callS e d at_ [] (dropS s)
    | false => match isS [116, 104, 114, 111, 119] s.ts with
      | true => (exS e d (dropS s)).bind fun x s => putS ⟨15, 0, at_, [], [x]⟩ s
      | false => match isS [114, 101, 116, 117, 114, 110] s.ts with
        | true => match isS [59] s.ts.tail with
          | true => putS ⟨14, 0, at_, [], []⟩ (dropS s)
          | false => (exS e d (dropS s)).bind fun x s => putS ⟨14, 0, at_, [], [x]⟩ s
        | false => namedS e d s

/-- statements up to a bracket -/
def stmtsL (stmt : M Int) : Nat → List Int → M (List Int)
  | 0, _, _ => .bad 0 0
  | n + 1, l, s => match isS [125] s.ts with
    | true => .ok l s
    | false => (stmt s).bind fun x s => stmtsL stmt n (l ++ [x]) s
def stmtsS (stmt : M Int) (l : List Int) (s : PS) : R (List Int) := stmtsL stmt (s.ts.length + 1) l s

def blockB (e : Int) (d : Nat) (stmt : M Int) (s : PS) : R Int :=
  let at_ := hd e s.ts
  (withinS e d [123] [125] (stmtsS stmt []) s).bind fun l s => putS ⟨6, 0, at_, [], l⟩ s

def stmtB (e : Int) (d : Nat) (stmt : M Int) (s : PS) : R Int :=
  let at_ := hd e s.ts
  match isS [105, 102] s.ts with
  | true => (exS e d (dropS s)).bind fun x s => (blockB e d stmt s).bind fun a s => match isS [101, 108, 115, 101] s.ts with
    | true => (blockB e d stmt (dropS s)).bind fun b s => putS ⟨11, 0, at_, [], [x, a, b]⟩ s
    | false => (putS ⟨6, 0, at_, [], []⟩ s).bind fun b s => putS ⟨11, 0, at_, [], [x, a, b]⟩ s
  | false => match isS [119, 104, 105, 108, 101] s.ts with
    | true => (exS e d (dropS s)).bind fun x s => (blockB e d stmt s).bind fun a s => putS ⟨12, 0, at_, [], [x, a]⟩ s
    | false => match isS [116, 114, 121] s.ts with
      | true => (blockB e d stmt (dropS s)).bind fun a s => (wantS e [99, 97, 116, 99, 104] s).bind fun _ s => (identS e s).bind fun t s =>
          (blockB e d stmt s).bind fun b s => putS ⟨16, 0, at_, t.tx, [a, b]⟩ s
      | false => (plainS e d s).bind fun x s => (wantS e [59] s).bind fun _ s => .ok x s

def stmtS (e : Int) : Nat → M Int
  | 0 => stmtB e 0 (fun _ => .bad 0 0)
  | d + 1 => stmtB e (d + 1) (stmtS e d)
/-- a statement one deeper -/
def inStmtS (e : Int) : Nat → M Int
  | 0 => fun _ => .bad 0 0
  | d + 1 => stmtS e d

def typesS (ts : List Tok) : Int :=
  match isS [105, 110, 116] ts with
  | true => 1
  | false => match isS [98, 111, 111, 108] ts with
    | true => 2
    | false => match isS [97, 114, 114] ts with
      | true => 3
      | false => match isS [102, 117, 110] ts with
        | true => 4
        | false => 0

def typedS (e : Int) (k at_ : Int) (tx : Bs) (s : PS) : R Int :=
  match typesS s.ts == 0 with
  | true => .bad (hd e s.ts) 2
  | false => putS ⟨k, typesS s.ts, at_, tx, []⟩ (dropS s)

def varsL (e : Int) (kind : Int) : Nat → List Int → M (List Int)
  | 0, l, s => .ok l s
  | n + 1, l, s => match isS [118, 97, 114] s.ts with
    | false => .ok l s
    | true => (identS e (dropS s)).bind fun t s' => (typedS e kind (hd e s.ts) t.tx s').bind fun x s => (wantS e [59] s).bind fun _ s => varsL e kind n (l ++ [x]) s
def varsS (e : Int) (kind : Int) (s : PS) : R (List Int) := varsL e kind s.ts.length [] s

/-- a body with declarations: their places, and the block's -/
def bodyS (e : Int) (d : Nat) (s : PS) : R (List Int × Int) :=
  let at_ := hd e s.ts
  (withinS e d [123] [125] (fun s => (varsS e 5 s).bind fun vs s => (stmtsS (inStmtS e d) [] s).bind fun l s => .ok (vs, l) s) s).bind fun p s =>
    (putS ⟨6, 0, at_, [], p.2⟩ s).bind fun b s => .ok (p.1, b) s

def paramS (e : Int) : M Int := fun s => (identS e s).bind fun t s => typedS e 4 t.at_ t.tx s

def procS (e : Int) (d : Nat) (s : PS) : R Int :=
  let at_ := hd e s.ts
  (wantS e [112, 114, 111, 99] s).bind fun _ s => (identS e s).bind fun t s =>
    (withinS e d [40] [41] (listS (oneS (paramS e)) []) s).bind fun ps s =>
      let k := typesS s.ts
      (bodyS e d (match decide (k > 0) with
        | true => dropS s
        | false => s)).bind fun p s => putS ⟨3, k, at_, t.tx, ps ++ p.1 ++ [p.2]⟩ s

def procsL (e : Int) (d : Nat) : Nat → List Int → M (List Int)
  | 0, l, s => .ok l s
  | n + 1, l, s => match s.ts with
    | [] => .ok l s
    | _ :: _ => (procS e d s).bind fun x s => procsL e d n (l ++ [x]) s

def programS (e : Int) (s : PS) : R Int :=
  (varsS e 2 s).bind fun l s => (procsL e 40 s.ts.length l s).bind fun l s => putS ⟨1, 0, 0, [], l⟩ s

/-! ### how much is left, and how much is put -/
def wt (s : PS) : Nat := s.ns.length + 4 * s.ts.length
/-- nothing is given back -/
def Dn {α : Type} (m : M α) : Prop := ∀ s a s', m s = .ok a s' → wt s' ≤ wt s ∧ s'.ts.length ≤ s.ts.length
/-- something is taken -/
def Dn1 {α : Type} (m : M α) : Prop := ∀ s a s', m s = .ok a s' → wt s' ≤ wt s ∧ s'.ts.length < s.ts.length

end Go.Ru
