/-
  AE, part 2: the abstract weakest precondition: definitions alone. Own metatheory over any program; no statement of the seat is proved here.
-/
import Derived.Test.YtbcngegcpdppfaaGreatDoorAeBase
namespace Go.AE

/-! ### small lists -/
def nth {α : Type} : List α → Nat → Option α
  | [], _ => none
  | a :: l, n => match n with
    | 0 => some a
    | k + 1 => nth l k
def setN {α : Type} : List α → Nat → α → List α
  | [], _, _ => []
  | a :: l, n, v => match n with
    | 0 => v :: l
    | k + 1 => a :: setN l k v
def len {α : Type} : List α → Nat
  | [] => 0
  | _ :: l => len l + 1
def snoc {α : Type} : List α → α → List α
  | [], b => [b]
  | a :: l, b => a :: snoc l b
def dropN {α : Type} : List α → Nat → List α
  | l, 0 => l
  | [], _ + 1 => []
  | _ :: l, k + 1 => dropN l k
def takeN {α : Type} : List α → Nat → List α
  | _, 0 => []
  | [], _ + 1 => []
  | a :: l, k + 1 => a :: takeN l k
def putCells {α : Type} (cs : List α) (off : Nat) : List α → List α
  | [] => cs
  | v :: r => putCells (setN cs off v) (off + 1) r
def catL {α : Type} : List α → List α → List α
  | [], l => l
  | a :: k, l => a :: catL k l

/-- a list, its spine written out, handed on -/
noncomputable def fLs {α : Type} (a : α) (_ : List α) (ih : (List α → Prop) → Prop) (k : List α → Prop) : Prop := ih fun r' => k (a :: r')
noncomputable def fL {α : Type} (l : List α) : (List α → Prop) → Prop := List.rec (motive := fun _ => (List α → Prop) → Prop) (fun k => k []) fLs l
theorem fL_nil {α : Type} (k : List α → Prop) : fL [] k = k [] := rfl
theorem fL_cons {α : Type} (a : α) (r : List α) (k : List α → Prop) : fL (a :: r) k = fL r fun r' => k (a :: r') := rfl
/-- a value, its head written out, handed on -/
def fV (a : AV) (k : AV → Prop) : Prop :=
  match a with
  | .p v => match v with
    | .int q n => k (.p (.int q n))
    | .bool b => k (.p (.bool b))
    | .str l => k (.p (.str l))
    | .nilp => k (.p .nilp)
    | .nils => k (.p .nils)
    | .nilf => k (.p .nilf)
    | .nili => k (.p .nili)
    | .nilm => k (.p .nilm)
    | .fn f => k (.p (.fn f))
    | .sl sz n f => k (.p (.sl sz n f))
  | .ptr r ver n i off => k (.ptr r ver n i off)
  | .rop cs off => k (.rop cs off)
  | .slr r ver off n => k (.slr r ver off n)
  | .fn f a b => k (.fn f a b)
  | .iface t v => k (.iface t v)
  | .agg cs => k (.agg cs)
  | .tup vs => k (.tup vs)
  | .yld r => k (.yld r)
  | .junk => k .junk
/-- each value of a list, and the list -/
noncomputable def fVLs (a : AV) (_ : List AV) (ih : (List AV → Prop) → Prop) (k : List AV → Prop) : Prop := fV a fun a' => ih fun r' => k (a' :: r')
noncomputable def fVL (l : List AV) : (List AV → Prop) → Prop := List.rec (motive := fun _ => (List AV → Prop) → Prop) (fun k => k []) fVLs l
theorem fVL_cons (a : AV) (r : List AV) (k : List AV → Prop) : fVL (a :: r) k = fV a fun a' => fVL r fun r' => k (a' :: r') := rfl
noncomputable def fB (b : ABlk) (k : ABlk → Prop) : Prop :=
  match b with
  | .absent => k .absent
  | .dead => k .dead
  | .box ty cs => fVL cs fun cs' => k (.box ty cs')
  | .arr ty sz ver n f => k (.arr ty sz ver n f)
  | .lp s env N ps a b => k (.lp s env N ps a b)

noncomputable def fKs (b : ABlk) (_ : List ABlk) (ih : (List ABlk → Prop) → Prop) (k : List ABlk → Prop) : Prop := fB b fun b' => ih fun r' => k (b' :: r')
noncomputable def fK (l : List ABlk) : (List ABlk → Prop) → Prop := List.rec (motive := fun _ => (List ABlk → Prop) → Prop) (fun k => k []) fKs l
theorem fK_cons (b : ABlk) (r : List ABlk) (k : List ABlk → Prop) : fK (b :: r) k = fB b fun b' => fK r fun r' => k (b' :: r') := rfl

theorem fL_eq {α : Type} (l : List α) (k : List α → Prop) : fL l k = k l := by
  induction l generalizing k with
  | nil => rfl
  | cons a l ih => rw [fL_cons, ih]
theorem fV_eq (a : AV) (k : AV → Prop) : fV a k = k a := by
  cases a <;> first | rfl | (rename_i v; cases v <;> rfl)
theorem fVL_eq (l : List AV) (k : List AV → Prop) : fVL l k = k l := by
  induction l generalizing k with
  | nil => rfl
  | cons a l ih => simp only [fVL_cons, fV_eq, ih]
theorem fB_eq (b : ABlk) (k : ABlk → Prop) : fB b k = k b := by
  cases b <;> simp only [fB, fVL_eq]

theorem fK_eq (l : List ABlk) (k : List ABlk → Prop) : fK l k = k l := by
  induction l generalizing k with
  | nil => rfl
  | cons a l ih => simp only [fK_cons, fB_eq, ih]

/-- a condition, then the rest -/
structure Chk (c : Prop) (k : Prop) : Prop where
  h : c
  k : k
/-- two ways -/
def two (b : Bool) (x y : Prop) : Prop := match b with
  | true => x
  | false => y
theorem two_intro {b : Bool} {x y : Prop} (h : b = true → x) (h' : b = false → y) : two b x y := by
  cases b
  · exact h' rfl
  · exact h rfl
theorem two_true {b : Bool} {x y : Prop} (h : b = true) (h' : x) : two b x y := by subst h; exact h'
theorem two_false {b : Bool} {x y : Prop} (h : b = false) (h' : y) : two b x y := by subst h; exact h'

/-! ### tables -/
inductive TT (α : Type) where
  | leaf
  | node (l : TT α) (k : Nat) (v : α) (r : TT α)
def TT.get {α : Type} : TT α → Nat → Option α
  | .leaf, _ => none
  | .node l k v r, n => match Nat.beq n k with
    | true => some v
    | false => match Nat.ble n k with
      | true => l.get n
      | false => r.get n
inductive UT where
  | int (k : IntKind)
  | bool
  | string
  | slice (e : Nat)
  | ptr (e : Nat)
  | struct (fs : List (Nat × Nat))
  | array (n e : Nat)
  | map (k e : Nat)
  | func
  | iface
  | other
structure TI where
  u : UT
  size : Nat
  bytes : Nat
  zero : List PV
  agg : Bool
structure Tab where
  t : TT TI
  f : TT Func

/-! ### frames -/
structure AS where
  t : List (Nat × AV)
  K : List ABlk
def ofConst : Value → AV
  | .int k n => .p (.int k n)
  | .bool b => .p (.bool b)
  | .string s => .p (.str s.data.toList)
  | .pointer none => .p .nilp
  | .slice none 0 0 => .p .nils
  | .nilFunc => .p .nilf
  | .nilIface => .p .nili
  | .map none => .p .nilm
  | _ => .junk
def ev (t : List (Nat × AV)) : Operand → AV
  | .tmp i => look t i
  | .const v => ofConst v
  | .func f => .p (.fn f)
  | .global _ => .junk
def evs (t : List (Nat × AV)) : List Operand → List AV
  | [] => []
  | x :: l => ev t x :: evs t l
def AV.cells : AV → List AV
  | .agg cs => cs
  | a => [a]
def ones : List AV → Bool
  | [] => true
  | a :: l => a.one && ones l
def hp (l : List ABlk) (r : Nat) : ABlk := match nth l r with
  | some b => b
  | none => .absent
def pvs : List PV → List AV
  | [] => []
  | v :: l => .p v :: pvs l

/-- elements, one of them another -/
def updF (f : Nat → List AV) (i : Nat) (c : List AV) (j : Nat) : List AV := match Nat.beq j i with
  | true => c
  | false => f j

/-! ### operations -/
section
variable (T : Tab) (K : List ABlk) (k : AV → List ABlk → Prop)

/-- a part of a row of cells as a value of a type -/
noncomputable def part (ti : TI) (cs : List AV) (off : Nat) (k : AV → Prop) : Prop :=
  match ti.agg with
  | true => match Nat.ble (off + ti.size) (len cs) with
    | true => fVL (takeN (dropN cs off) ti.size) fun l => k (.agg l)
    | false => False
  | false => match nth cs off with
    | some v => fV v k
    | none => False

noncomputable def opLoad (ty : Nat) (a : AV) : Prop :=
  match T.t.get ty with
  | none => False
  | some ti => match a with
    | .rop cs off => part ti (pvs cs) off fun v => k v K
    | .ptr r ver n i off => match nth K r with
      | some (.box _ cs) => match ver, n, i with
        | 0, 1, 0 => part ti cs off fun v => k v K
        | _, _, _ => False
      | some (.arr _ _ ver' n' f) => Chk (ver = ver' ∧ n = n') (part ti (f i) off fun v => k v K)
      | _ => False
    | _ => False

noncomputable def opStore (ty : Nat) (a v : AV) : Prop :=
  match T.t.get ty with
  | none => False
  | some ti => match Nat.beq (len v.cells) ti.size, ones v.cells with
    | true, true => match a with
      | .ptr r ver n i off => match nth K r with
        | some (.box bt cs) => match ver, n, i with
          | 0, 1, 0 => match Nat.ble (off + ti.size) (len cs) with
            | true => fB (.box bt (putCells cs off v.cells)) fun b => fL (setN K r b) fun K' => k .junk K'
            | false => False
          | _, _, _ => False
        | some (.arr et sz ver' n' f) => Chk (ver = ver' ∧ n = n') (match Nat.ble (off + ti.size) sz with
            | true => fL (setN K r (.arr et sz ver' n' (updF f i (putCells (f i) off v.cells)))) fun K' => k .junk K'
            | false => False)
        | _ => False
      | _ => False
    | _, _ => False

noncomputable def opAlloc (ty : Nat) : Prop :=
  match T.t.get ty with
  | none => False
  | some ti => fVL (pvs ti.zero) fun cs => fL (snoc K (.box ty cs)) fun K' => k (.ptr (len K) 0 1 0 0) K'

noncomputable def opBox (ty : Nat) (v : AV) : Prop :=
  match v with
  | .junk => False
  | .tup _ => False
  | v => fVL v.cells fun cs => fL (snoc K (.box ty cs)) fun K' => k (.ptr (len K) 0 1 0 0) K'

/-- parts laid into a row -/
def fillS (T : TT TI) (fs : List (Nat × Nat)) (cs : List AV) : List (Nat × AV) → Option (List AV)
  | [] => some cs
  | (i, v) :: r => match nth fs i with
    | none => none
    | some (off, ft) => match T.get ft with
      | none => none
      | some fi => match Nat.beq (len v.cells) fi.size, Nat.ble (off + fi.size) (len cs), v with
        | _, _, .junk => none
        | _, _, .tup _ => none
        | true, true, v => fillS T fs (putCells cs off v.cells) r
        | _, _, _ => none
def fillA (sz : Nat) (cs : List AV) : List (Nat × AV) → Option (List AV)
  | [] => some cs
  | (i, v) :: r => match Nat.beq (len v.cells) sz, Nat.ble (i * sz + sz) (len cs), v with
    | _, _, .junk => none
    | _, _, .tup _ => none
    | true, true, v => fillA sz (putCells cs (i * sz) v.cells) r
    | _, _, _ => none
def reps (z : List AV) : Nat → List AV
  | 0 => []
  | n + 1 => catL z (reps z n)

noncomputable def opBuild (ty : Nat) (parts : List (Nat × AV)) : Prop :=
  match T.t.get ty with
  | none => False
  | some ti => match ti.u with
    | .struct fs => match fillS T.t fs (pvs ti.zero) parts with
      | some cs => fVL cs fun l => k (.agg l) K
      | none => False
    | _ => False

noncomputable def opBuildSlice (ty n : Nat) (parts : List (Nat × AV)) : Prop :=
  match T.t.get ty with
  | none => False
  | some ti => match ti.u with
    | .slice e => match T.t.get e with
      | none => False
      | some ei => match Nat.ble (n * ei.size) 16777216, Nat.beq ei.size 0, Nat.beq (len ei.zero) ei.size, fillA ei.size (reps (pvs ei.zero) n) parts with
        | true, false, true, some cs => fVL cs fun l => fL (snoc K (.arr e ei.size 0 n fun i => takeN (dropN l (i * ei.size)) ei.size)) fun K' => k (.slr (len K) 0 0 n) K'
        | _, _, _, _ => False
    | _ => False

noncomputable def opNilCheck (a : AV) : Prop :=
  match a with
  | .ptr r ver n i off => k (.ptr r ver n i off) K
  | .rop cs off => k (.rop cs off) K
  | .fn f a b => k (.fn f a b) K
  | .p (.fn f) => k (.p (.fn f)) K
  | .iface t v => k (.iface t v) K
  | _ => False

def opInt (op : BinOp) (q : IntKind) (a b : Int) : Prop :=
  match op with
  | .add => k (.p (.int q (q.wrap (a + b)))) K
  | .sub => k (.p (.int q (q.wrap (a - b)))) K
  | .mul => k (.p (.int q (q.wrap (a * b)))) K
  | .quo => Chk (b ≠ 0) (k (.p (.int q (q.wrap (a.tdiv b)))) K)
  | .rem => Chk (b ≠ 0) (k (.p (.int q (a.tmod b))) K)
  | .eql => k (.p (.bool (a == b))) K
  | .neq => k (.p (.bool (a != b))) K
  | .lss => k (.p (.bool (decide (a < b)))) K
  | .leq => k (.p (.bool (decide (a ≤ b)))) K
  | .gtr => k (.p (.bool (decide (a > b)))) K
  | .geq => k (.p (.bool (decide (a ≥ b)))) K
  | _ => False

def opStr (op : BinOp) (a b : List UInt8) : Prop :=
  match op with
  | .add => Chk (a.length + b.length ≤ 9223372036854775807) (k (.p (.str (a ++ b))) K)
  | .eql => k (.p (.bool (a == b))) K
  | .neq => k (.p (.bool (!(a == b)))) K
  | .lss => k (.p (.bool (Op.bytesLess a b))) K
  | .leq => k (.p (.bool (Op.bytesLess a b || a == b))) K
  | .gtr => k (.p (.bool (!(Op.bytesLess a b || a == b)))) K
  | .geq => k (.p (.bool (!Op.bytesLess a b))) K
  | _ => False

/-- is a value of a type nil? none: who knows -/
def nilOf (u : UT) (c : PV) (x : AV) : Option Bool := match u with
  | .iface => match c with
    | .nili => match x with
      | .p .nili => some true
      | .iface _ _ => some false
      | _ => none
    | _ => none
  | .ptr _ => match c with
    | .nilp => match x with
      | .p .nilp => some true
      | .ptr _ _ _ _ _ => some false
      | .rop _ _ => some false
      | _ => none
    | _ => none
  | .func => match c with
    | .nilf => match x with
      | .p .nilf => some true
      | .p (.fn _) => some false
      | .fn _ _ _ => some false
      | _ => none
    | _ => none
  | _ => none
def nilC : Operand → Option PV
  | .const .nilIface => some .nili
  | .const (.pointer none) => some .nilp
  | .const .nilFunc => some .nilf
  | _ => none
def opNilCmp (op : BinOp) (ty : Nat) (x : AV) (c : PV) : Prop :=
  match T.t.get ty with
  | none => False
  | some ti => match nilOf ti.u c x with
    | none => False
    | some b => match op with
      | .eql => k (.p (.bool b)) K
      | .neq => k (.p (.bool (!b))) K
      | _ => False

def opBin (op : BinOp) (ty : Nat) (x y : AV) : Prop :=
  match x with
  | .p (.int q a) => match y with
    | .p (.int q' b) => match decide (q = q') with
      | true => opInt K k op q a b
      | false => False
    | _ => False
  | .p (.str a) => match y with
    | .p (.str b) => opStr K k op a b
    | _ => False
  | .p (.bool a) => match y with
    | .p (.bool b) => match T.t.get ty with
      | none => False
      | some ti => match ti.u with
        | .bool => match op with
          | .eql => k (.p (.bool (a == b))) K
          | .neq => k (.p (.bool (!(a == b)))) K
          | _ => False
        | _ => False
    | _ => False
  | _ => False

def opUn (op : UnOp) (x : AV) : Prop :=
  match op with
  | .not => match x with
    | .p (.bool b) => k (.p (.bool (!b))) K
    | _ => False
  | .neg => match x with
    | .p (.int q n) => k (.p (.int q (q.wrap (0 - n)))) K
    | _ => False
  | _ => False

def byteF (l : List UInt8) (i : Nat) : List PV := [.int .u8 ((l.getD i 0).toNat : Int)]
def opConv (src dst : Nat) (x : AV) : Prop :=
  match T.t.get src with
  | none => False
  | some _ => match T.t.get dst with
    | none => False
    | some d => match d.u with
      | .int q => match x with
        | .p (.int _ n) => k (.p (.int q (q.wrap n))) K
        | _ => False
      | .string => match x with
        | .p (.str l) => k (.p (.str l)) K
        | _ => False
      | .slice e => match T.t.get e with
        | none => False
        | some ei => match ei.u with
          | .int .u8 => match x with
            | .p (.str l) => Chk (l.length ≤ 9223372036854775807) (k (.p (.sl 1 l.length (byteF l))) K)
            | _ => False
          | _ => False
      | _ => False

def opIface (ty : Nat) (x : AV) : Prop :=
  match T.t.get ty with
  | none => False
  | some ti => match ti.u with
    | .iface => False
    | .other => False
    | _ => k (.iface ty x) K

noncomputable def opMakeSlice (ty : Nat) (l c : AV) : Prop :=
  match T.t.get ty with
  | none => False
  | some ti => match ti.u with
    | .slice e => match T.t.get e with
      | none => False
      | some ei => match l with
        | .p (.int _ n) => match c with
          | .p (.int _ c) => match Nat.beq ei.size 0, Nat.beq (len ei.zero) ei.size with
            | false, true => Chk (0 ≤ n ∧ n ≤ c ∧ c ≤ 9223372036854775807 ∧ (ei.bytes : Int) * c ≤ 140737488355328) (fVL (pvs ei.zero) fun z => fL (snoc K (.arr e ei.size 0 n.toNat fun _ => z)) fun K' => k (.slr (len K) 0 0 n.toNat) K')
            | _, _ => False
          | _ => False
        | _ => False
    | _ => False

/-- the number that a bound is -/
def bnd (d : Nat) : Option AV → Option Int
  | none => some (Int.ofNat d)
  | some (.p (.int _ n)) => some n
  | _ => none

noncomputable def opSlice (ty : Nat) (x : AV) (lo hi : Option AV) : Prop :=
  match T.t.get ty with
  | none => False
  | some ti => match ti.u with
    | .string => match x with
      | .p (.str s) => match bnd 0 lo with
        | none => False
        | some l => match bnd s.length hi with
          | none => False
          | some h => Chk (0 ≤ l ∧ l ≤ h ∧ h ≤ (s.length : Int)) (k (.p (.str ((s.take h.toNat).drop l.toNat))) K)
      | _ => False
    | .slice e => match T.t.get e with
      | none => False
      | some ei => match x with
        | .p (.sl sz n f) => match bnd 0 lo with
          | none => False
          | some l => match bnd n hi with
            | none => False
            | some h => Chk (0 ≤ l ∧ l ≤ h ∧ h ≤ (n : Int) ∧ ei.size = sz) (k (.p (.sl sz (h.toNat - l.toNat) fun i => f (i + l.toNat))) K)
        | .slr r ver off n => match hi with
          | some _ => False
          | none => match bnd 0 lo with
            | none => False
            | some l => match nth K r with
              | some (.arr _ sz ver' n' _) => Chk (ver = ver' ∧ off + n = n' ∧ 0 ≤ l ∧ l ≤ (n : Int) ∧ ei.size = sz) (two (decide (l < (n : Int))) (k (.slr r ver (off + l.toNat) (n - l.toNat)) K) (k (.p (.sl sz 0 fun _ => [])) K))
              | _ => False
        | _ => False
    | _ => False

def opFieldAddr (ty : Nat) (x : AV) (i : Nat) : Prop :=
  match T.t.get ty with
  | none => False
  | some ti => match ti.u with
    | .struct fs => match nth fs i with
      | none => False
      | some (fo, ft) => match T.t.get ft with
        | none => False
        | some fi => match Nat.beq fi.size 0 with
          | true => False
          | false => match x with
            | .ptr r ver n j off => k (.ptr r ver n j (off + fo)) K
            | .rop cs off => k (.rop cs (off + fo)) K
            | _ => False
    | _ => False

def opField (ty : Nat) (x : AV) (i : Nat) : Prop :=
  match T.t.get ty with
  | none => False
  | some ti => match ti.u with
    | .struct fs => match nth fs i with
      | none => False
      | some (fo, ft) => match T.t.get ft with
        | none => False
        | some fi => match x with
          | .agg cs => part fi cs fo fun v => k v K
          | _ => False
    | _ => False

noncomputable def opIndexAddr (ty : Nat) (x i : AV) : Prop :=
  match T.t.get ty with
  | none => False
  | some ti => match ti.u with
    | .slice e => match T.t.get e with
      | none => False
      | some ei => match i with
        | .p (.int _ i) => match x with
          | .p (.sl sz n f) => Chk (0 ≤ i ∧ i < (n : Int) ∧ ei.size = sz) (fL (f i.toNat) fun cs => k (.rop cs 0) K)
          | .slr r ver off n => match nth K r with
            | some (.arr _ sz ver' n' _) => Chk (ver = ver' ∧ off + n = n' ∧ 0 ≤ i ∧ i < (n : Int) ∧ ei.size = sz) (k (.ptr r ver n' (off + i.toNat) 0) K)
            | _ => False
          | _ => False
        | _ => False
    | _ => False

def byteAt (s : List UInt8) (i : Nat) : Int := ((s.getD i 0).toNat : Int)

def opIndex (ty : Nat) (x i : AV) : Prop :=
  match T.t.get ty with
  | none => False
  | some ti => match i with
    | .p (.int _ i) => match ti.u with
      | .string => match x with
        | .p (.str s) => Chk (0 ≤ i ∧ i < (s.length : Int)) (k (.p (.int .u8 (byteAt s i.toNat))) K)
        | _ => False
      | _ => False
    | _ => False

noncomputable def opExtract (x : AV) (i : Nat) : Prop :=
  match x with
  | .tup vs => match nth vs i with
    | some v => fV v fun v => k v K
    | none => False
  | _ => False

def opLen (ty : Nat) (x : AV) : Prop :=
  match T.t.get ty with
  | none => False
  | some ti => match ti.u with
    | .string => match x with
      | .p (.str s) => k (.p (.int .i64 (s.length : Int))) K
      | _ => False
    | .slice _ => match x with
      | .p (.sl _ n _) => k (.p (.int .i64 (n : Int))) K
      | .p .nils => k (.p (.int .i64 0)) K
      | .slr _ _ _ n => k (.p (.int .i64 (n : Int))) K
      | _ => False
    | _ => False

/-- elements of one slice behind those of another -/
def catF (n : Nat) (f g : Nat → List AV) (i : Nat) : List AV :=
  match Nat.blt i n with
  | true => f i
  | false => g (i - n)

/-- what is appended: how many, and which: of slices that are read -/
noncomputable def news (K : List ABlk) (sz : Nat) (x : AV) (k : Nat → (Nat → List AV) → Prop) : Prop :=
  match x with
  | .p .nils => k 0 fun _ => []
  | .p (.sl sz' n f) => Chk (sz' = sz ∧ ∀ i, i < n → (f i).length = sz) (k n fun i => pvs (f i))
  | .slr r ver off n => match nth K r with
    | some (.arr _ sz' ver' n' f) => Chk (ver = ver' ∧ off + n = n' ∧ sz' = sz ∧ ∀ i, i < n' → ones (f i) = true) (k n fun i => f (i + off))
    | _ => False
  | _ => False

noncomputable def opAppend (ty : Nat) (s x : AV) : Prop :=
  match T.t.get ty with
  | none => False
  | some ti => match ti.u with
    | .slice e => match T.t.get e with
      | none => False
      | some ei => match Nat.beq ei.size 0, Nat.beq (len ei.zero) ei.size with
        | false, true => news K ei.size x fun m g => match s with
          | .p .nils => match m with
            | 0 => k (.p .nils) K
            | m' + 1 => Chk ((m' + 1) * ei.bytes ≤ 140737488355328 ∧ m' + 1 ≤ 9223372036854775807) (fL (snoc K (.arr e ei.size 0 (m' + 1) g)) fun K' => k (.slr (len K) 0 0 (m' + 1)) K')
          | .slr r ver off n => match off with
            | 0 => match nth K r with
              | some (.arr et sz ver' n' f) => Chk (ver = ver' ∧ n = n' ∧ sz = ei.size ∧ et = e ∧ (n + m) * ei.bytes ≤ 140737488355328 ∧ n + m ≤ 9223372036854775807)
                  (fL (setN K r (.arr e ei.size ver (n + m) (catF n f g))) fun K' => k (.slr r ver 0 (n + m)) K')
              | _ => False
            | _ + 1 => False
          | _ => False
        | _, _ => False
    | _ => False

def opMaxMin (mx : Bool) (x y : AV) : Prop :=
  match x with
  | .p (.int q a) => match y with
    | .p (.int _ b) => match mx with
      | true => k (.p (.int q (if b > a then b else a))) K
      | false => k (.p (.int q (if b < a then b else a))) K
    | _ => False
  | _ => False
/-- a type's zero value -/
noncomputable def zeroV (ti : TI) (k : AV → Prop) : Prop := match ti.agg with
  | true => fVL (pvs ti.zero) fun l => k (.agg l)
  | false => match ti.zero with
    | [z] => fV (.p z) k
    | _ => False
def UT.plain : UT → Bool
  | .iface => false
  | .other => false
  | _ => true
/-- what an interface value is, with an answer whether it is that -/
noncomputable def opAssert (ty : Nat) (ok : Bool) (x : AV) : Prop := match ok with
  | false => False
  | true => match T.t.get ty with
    | none => False
    | some ti => match ti.u.plain with
      | false => False
      | true => match x with
        | .p .nili => zeroV ti fun z => k (.tup [z, .p (.bool false)]) K
        | .iface t v => match Nat.beq t ty with
          | true => fV v fun v => k (.tup [v, .p (.bool true)]) K
          | false => zeroV ti fun z => k (.tup [z, .p (.bool false)]) K
        | _ => False
end

/-! ### outcomes -/
inductive AO where
  | ret (v : AV)
  | pan (v : AV)
inductive Ex where
  | norm
  | exit (n : Nat)
  | ret
  | pan (v : AV)

abbrev ACall := FuncId → List AV → List ABlk → (AO → List ABlk → Prop) → Prop

def partsOf (t : List (Nat × AV)) : List (Nat × Operand) → List (Nat × AV)
  | [] => []
  | (i, x) :: l => (i, ev t x) :: partsOf t l

def optEv (t : List (Nat × AV)) : Option Operand → Option AV
  | none => none
  | some x => some (ev t x)

/-- a call of a function, which has a number below all others; of what a loop over a function hands on, by a number behind these -/
def callF (call : ACall) (f : FuncId) (args : List AV) (K : List ABlk) (k : AO → List ABlk → Prop) : Prop := match Nat.blt f 1000000000 with
  | true => call f args K k
  | false => False
/-- what a call of a function value is -/
noncomputable def aCallV (call : ACall) (f : AV) (args : List AV) (K : List ABlk) (k : AO → List ABlk → Prop) : Prop :=
  match f with
  | .p (.fn g) => callF call g args K k
  | .fn g a b => fVL (catL (catL a args) b) fun l => callF call g l K k
  | .yld r => call (Nat.add 1000000000 r) args K k
  | _ => False

/-- an operation that writes a value -/
noncomputable def aop (T : Tab) (call : ACall) (o : Oper) (t : List (Nat × AV)) (K : List ABlk) (k : AV → List ABlk → Prop) (kp : AV → List ABlk → Prop) : Prop :=
  match o.op with
  | .move x => fV (ev t x) fun v => k v K
  | .assign x => fV (ev t x) fun v => k v K
  | .pick c a b => match ev t c with
    | .p (.bool q) => two q (fV (ev t a) fun v => k v K) (fV (ev t b) fun v => k v K)
    | _ => False
  | .alloc e => opAlloc T K k e
  | .box e x => opBox K k e (ev t x)
  | .build ty ps => opBuild T K k ty (partsOf t ps.toList)
  | .buildSlice ty n ps => opBuildSlice T K k ty n (partsOf t ps.toList)
  | .load ty a => opLoad T K k ty (ev t a)
  | .store ty a v => opStore T K k ty (ev t a) (ev t v)
  | .nilCheck x => opNilCheck K k (ev t x)
  | .binOp op ty x y _ => match nilC y with
    | some c => opNilCmp T K k op ty (ev t x) c
    | none => opBin T K k op ty (ev t x) (ev t y)
  | .unOp op _ x => opUn K k op (ev t x)
  | .convert s d x => opConv T K k s d (ev t x)
  | .makeInterface ty x => opIface T K k ty (ev t x)
  | .makeFunc (.func f) a b => fVL (evs t a.toList) fun l => fVL (evs t b.toList) fun l' => k (.fn f l l') K
  | .makeSlice ty l c => opMakeSlice T K k ty (ev t l) (ev t c)
  | .slice ty x lo hi none => opSlice T K k ty (ev t x) (optEv t lo) (optEv t hi)
  | .fieldAddr ty x i => opFieldAddr T K k ty (ev t x) i
  | .field ty x i => opField T K k ty (ev t x) i
  | .indexAddr ty x i => opIndexAddr T K k ty (ev t x) (ev t i)
  | .index ty x i => opIndex T K k ty (ev t x) (ev t i)
  | .extract x i => opExtract K k (ev t x) i
  | .typeAssert x _ ty ok => opAssert T K k ty ok (ev t x)
  | .panic x => match ev t x with
    | .iface ty v => kp (.iface ty v) K
    | _ => False
  | .call c => match c.callee with
    | .builtin b => match b with
      | .len => match c.args.toList with
        | [x] => match c.argTypes.toList with
          | [ty] => opLen T K k ty (ev t x)
          | _ => False
        | _ => False
      | .append => match c.args.toList with
        | [s, x] => match c.argTypes.toList with
          | [ty, ty'] => match Nat.beq ty ty' with
            | true => opAppend T K k ty (ev t s) (ev t x)
            | false => False
          | _ => False
        | _ => False
      | .max => match c.args.toList with
        | [x, y] => opMaxMin K k true (ev t x) (ev t y)
        | _ => False
      | .min => match c.args.toList with
        | [x, y] => opMaxMin K k false (ev t x) (ev t y)
        | _ => False
      | _ => False
    | .value f => fVL (evs t c.args.toList) fun args => aCallV call (ev t f) args K fun out K' => match out with
      | .ret v => fV v fun v => k v K'
      | .pan v => kp v K'
    | _ => False
  | _ => False

/-- what is known of a boolean slot behind a test -/
def know (t : List (Nat × AV)) (d : Nat) (b : Bool) : List (Nat × AV) := (d, .p (.bool b)) :: t

/-- is an operation carried out? -/
def want (ops : List Oper) (t : List (Nat × AV)) (g : Option (Nat × Bool)) (y n : List (Nat × AV) → Prop) : Prop :=
  match g with
  | none => y t
  | some (j, w) => match nth ops j with
    | none => False
    | some o => match o.dst with
      | none => False
      | some d => match look t d with
        | .p (.bool b) => match w with
          | true => two b (y (know t d true)) (n (know t d false))
          | false => two b (n (know t d true)) (y (know t d false))
        | _ => False

def put (t : List (Nat × AV)) (d : Option Nat) (v : AV) : List (Nat × AV) := match d with
  | some d => (d, v) :: t
  | none => t

def bound (N : Nat) (d : Option Nat) (k : Prop) : Prop := match d with
  | some d => match Nat.blt d N with
    | true => k
    | false => False
  | none => k

abbrev AOps := List (Nat × AV) → List ABlk → (Ex → AS → Prop) → Prop
noncomputable def aopsS (T : Tab) (call : ACall) (N : Nat) (ops : List Oper) (o : Oper) (_ : List Oper) (ih : AOps) (t : List (Nat × AV)) (K : List ABlk) (Q : Ex → AS → Prop) : Prop :=
  bound N o.dst <| want ops t o.guard
      (fun t => aop T call o t K (fun v K' => ih (put t o.dst v) K' Q) (fun v K' => Q (.pan v) ⟨t, K'⟩))
      (fun t => ih (put t o.dst .junk) K Q)
noncomputable def aopsE (t : List (Nat × AV)) (K : List ABlk) (Q : Ex → AS → Prop) : Prop := Q .norm ⟨t, K⟩
noncomputable def aops (T : Tab) (call : ACall) (N : Nat) (ops : List Oper) (l : List Oper) : AOps := List.rec (motive := fun _ => AOps) aopsE (aopsS T call N ops) l
theorem aops_nil (T : Tab) (call : ACall) (N : Nat) (ops : List Oper) (t : List (Nat × AV)) (K : List ABlk) (Q : Ex → AS → Prop) : aops T call N ops [] t K Q = Q .norm ⟨t, K⟩ := rfl
theorem aops_cons (T : Tab) (call : ACall) (N : Nat) (ops : List Oper) (o : Oper) (rest : List Oper) (t : List (Nat × AV)) (K : List ABlk) (Q : Ex → AS → Prop) : aops T call N ops (o :: rest) t K Q =
    (bound N o.dst <| want ops t o.guard
      (fun t => aop T call o t K (fun v K' => aops T call N ops rest (put t o.dst v) K' Q) (fun v K' => Q (.pan v) ⟨t, K'⟩))
      (fun t => aops T call N ops rest (put t o.dst .junk) K Q)) := rfl

/-! ### a region whose order is open -/
/-- 0: it asks only its operands; 1: it asks memory; 2: it writes, makes memory, or calls -/
def kind : Op → Nat
  | .move _ | .assign _ | .pick _ _ _ | .nilCheck _ | .binOp _ _ _ _ _ | .unOp _ _ _ | .convert _ _ _ | .makeInterface _ _ | .makeFunc _ _ _
  | .fieldAddr _ _ _ | .field _ _ _ | .index _ _ _ | .extract _ _ | .build _ _ => 0
  | .load _ _ | .indexAddr _ _ _ | .slice _ _ _ _ _ => 1
  | .call c => match c.callee with
    | .builtin b => match b with
      | .len => 0
      | .max => 0
      | .min => 0
      | _ => 2
    | _ => 2
  | _ => 2

def mem (l : List Nat) (n : Nat) : Bool := match l with
  | [] => false
  | a :: r => match Nat.beq a n with
    | true => true
    | false => mem r n
def edges (o : Oper) : List Nat := (o.after.toList.filter (Region.binds .any)).map (·.on)
/-- what stands ahead of each operation, by way of others too -/
def addAll (acc : List (List Nat)) : List Nat → List Nat
  | [] => []
  | e :: r => e :: (match nth acc e with
    | some l => l
    | none => []) ++ addAll acc r
def ancs : List Oper → List (List Nat) → List (List Nat)
  | [], acc => acc
  | o :: r, acc => ancs r (snoc acc (addAll acc (edges o)))
def ancOf (ac : List (List Nat)) (i : Nat) : List Nat := match nth ac i with
  | some l => l
  | none => []
def slots : List Operand → List Nat
  | [] => []
  | .tmp d :: r => d :: slots r
  | _ :: r => slots r
def kindAt (ops : List Oper) (i : Nat) : Nat := match nth ops i with
  | some o => kind o.op
  | none => 0
def subset : List Nat → List Nat → Bool
  | [], _ => true
  | a :: r, l => mem l a && subset r l
/-- may it be carried out next? -/
def avail (ops : List Oper) (ac : List (List Nat)) (done : List Nat) (want : Bool) (i : Nat) : Bool := !mem done i && subset (ancOf ac i) done && ((Nat.beq (kindAt ops i) 2) == want)
/-- what is quiet goes first, as soon as it can -/
def pickQ (ops : List Oper) (ac : List (List Nat)) (done : List Nat) : List Nat → Option Nat
  | [] => none
  | i :: r => match avail ops ac done false i with
    | true => some i
    | false => pickQ ops ac done r
def loudN (ops : List Oper) (ac : List (List Nat)) (done : List Nat) : List Nat → List Nat
  | [] => []
  | i :: r => match avail ops ac done true i with
    | true => i :: loudN ops ac done r
    | false => loudN ops ac done r
def upto : Nat → List Nat
  | 0 => []
  | n + 1 => snoc (upto n) n
def dstAt (ops : List Oper) (i : Nat) : Option Nat := match nth ops i with
  | some o => o.dst
  | none => none
/-- who writes a slot that another one names stands ahead of it or behind it; nobody else writes it -/
def slotOk (ac : List (List Nat)) (all : List (Nat × Oper)) : Bool :=
  all.all fun (i, o) => match o.dst with
    | none => true
    | some d => all.all fun (j, o') => Nat.beq i j || (!(o'.dst == some d) && (!mem (slots o'.op.operands.toList) d || mem (ancOf ac j) i || mem (ancOf ac i) j))
def enum : Nat → List Oper → List (Nat × Oper)
  | _, [] => []
  | i, o :: r => (i, o) :: enum (i + 1) r
def drawB (ops : List Oper) : Bool :=
  (enum 0 ops).all (fun (i, o) => o.guard.isNone && (edges o).all fun e => Nat.blt e i) && slotOk (ancs ops []) (enum 0 ops)

/-- what was read ahead of a loud operation that need not stand behind the reading: it would read the same behind it -/
abbrev ARd := List (Nat × List (Nat × AV) × AV)
noncomputable def recheckS (T : Tab) (call : ACall) (ops : List Oper) (an : List Nat) (K : List ABlk) (k : Prop) (x : Nat × List (Nat × AV) × AV) (_ : ARd) (ih : Prop) : Prop :=
  match mem an x.1 with
    | true => ih
    | false => match nth ops x.1 with
      | none => False
      | some o => aop T call o x.2.1 K (fun v' _ => v' = x.2.2) (fun _ _ => False) ∧ ih
noncomputable def recheck (T : Tab) (call : ACall) (ops : List Oper) (an : List Nat) (K : List ABlk) (k : Prop) (l : ARd) : Prop := List.rec (motive := fun _ => Prop) k (recheckS T call ops an K k) l
theorem recheck_nil (T : Tab) (call : ACall) (ops : List Oper) (an : List Nat) (K : List ABlk) (k : Prop) : recheck T call ops an K k [] = k := rfl
theorem recheck_cons (T : Tab) (call : ACall) (ops : List Oper) (an : List Nat) (K : List ABlk) (k : Prop) (q : Nat) (t : List (Nat × AV)) (v : AV) (r : ARd) : recheck T call ops an K k ((q, t, v) :: r) =
    (match mem an q with
    | true => recheck T call ops an K k r
    | false => match nth ops q with
      | none => False
      | some o => aop T call o t K (fun v' _ => v' = v) (fun _ _ => False) ∧ recheck T call ops an K k r) := rfl

/-- a small number, written out -/
noncomputable def fNs (i : Nat) (c : Nat) (_ : List Nat) (ih : (Nat → Prop) → Prop) (k : Nat → Prop) : Prop := match Nat.beq i c with
  | true => k c
  | false => ih k
def cand : List Nat := 0 :: 1 :: 2 :: 3 :: 4 :: 5 :: 6 :: 7 :: 8 :: 9 :: 10 :: 11 :: 12 :: 13 :: 14 :: 15 :: 16 :: 17 :: 18 :: 19 :: 20 :: 21 :: 22 :: 23 :: 24 :: 25 :: 26 :: 27 :: 28 :: 29 :: 30 :: 31 :: 32 :: 33 :: 34 :: 35 :: 36 :: 37 :: 38 :: 39 :: 40 :: 41 :: 42 :: 43 :: 44 :: 45 :: 46 :: 47 :: 48 :: 49 :: 50 :: 51 :: 52 :: 53 :: 54 :: 55 :: 56 :: 57 :: 58 :: 59 :: []
noncomputable def fN (i : Nat) : (Nat → Prop) → Prop := List.rec (motive := fun _ => (Nat → Prop) → Prop) (fun k => k i) (fNs i) cand
noncomputable def fNLs (a : Nat) (_ : List Nat) (ih : (List Nat → Prop) → Prop) (k : List Nat → Prop) : Prop := fN a fun a' => ih fun r' => k (a' :: r')
noncomputable def fNL (l : List Nat) : (List Nat → Prop) → Prop := List.rec (motive := fun _ => (List Nat → Prop) → Prop) (fun k => k []) fNLs l
theorem fNs_eq (i : Nat) (l : List Nat) (k : Nat → Prop) : List.rec (motive := fun _ => (Nat → Prop) → Prop) (fun k => k i) (fNs i) l k = k i := by
  induction l with
  | nil => rfl
  | cons c l ih =>
    show fNs i c l _ k = k i
    unfold fNs
    cases h : Nat.beq i c with
    | true => rw [Nat.eq_of_beq_eq_true h]
    | false => exact ih
theorem fN_eq (i : Nat) (k : Nat → Prop) : fN i k = k i := by
  exact fNs_eq i cand k
theorem fNL_eq (l : List Nat) (k : List Nat → Prop) : fNL l k = k l := by
  induction l generalizing k with
  | nil => rfl
  | cons a l ih =>
    show fN a (fun a' => fNL l fun r' => k (a' :: r')) = _
    rw [fN_eq, ih]

/-- each of some -/
noncomputable def eachS (F : Nat → Prop) (a : Nat) (_ : List Nat) (ih : Nat → Prop) (i : Nat) : Prop := F i ∧ ih a
noncomputable def each (F : Nat → Prop) (i : Nat) (l : List Nat) : Prop := List.rec (motive := fun _ => Nat → Prop) (fun i => F i) (eachS F) l i
theorem each_ok {F : Nat → Prop} {i : Nat} {l : List Nat} (h : each F i l) : ∀ j ∈ i :: l, F j := by
  induction l generalizing i with
  | nil => intro j hj; simp at hj; subst hj; exact h
  | cons a l ih =>
    intro j hj
    obtain ⟨h1, h2⟩ : F i ∧ each F a l := h
    cases List.mem_cons.1 hj with
    | inl e => exact e ▸ h1
    | inr e => exact ih h2 j e

abbrev ADr := List Nat → ARd → List (Nat × AV) → List ABlk → (Ex → AS → Prop) → Prop
noncomputable def adraw0 (_ : List Nat) (_ : ARd) (_ : List (Nat × AV)) (_ : List ABlk) (_ : Ex → AS → Prop) : Prop := False
noncomputable def adrawQ (T : Tab) (call : ACall) (N : Nat) (ops : List Oper) (ih : ADr) (done : List Nat) (rd : ARd) (t : List (Nat × AV)) (K : List ABlk) (Q : Ex → AS → Prop) (i : Nat) : Prop :=
  match nth ops i with
    | none => False
    | some o => bound N o.dst <| match kind o.op with
      | 0 => aop T call o t K (fun v K' => ih (i :: done) rd (put t o.dst v) K' Q) (fun _ _ => False)
      | 1 => aop T call o t K (fun v K' => ih (i :: done) ((i, t, v) :: rd) (put t o.dst v) K' Q) (fun _ _ => False)
      | _ => False
noncomputable def adrawL (T : Tab) (call : ACall) (N : Nat) (ops : List Oper) (ac : List (List Nat)) (ih : ADr) (done : List Nat) (rd : ARd) (t : List (Nat × AV)) (K : List ABlk) (Q : Ex → AS → Prop) (i : Nat) : Prop :=
  match nth ops i with
    | none => False
    | some o => bound N o.dst <| aop T call o t K (fun v K' => recheck T call ops (ancOf ac i) K' (ih (i :: done) rd (put t o.dst v) K' Q) rd) (fun v K' => Q (.pan v) ⟨[], K'⟩)
noncomputable def adrawS (T : Tab) (call : ACall) (N : Nat) (ops : List Oper) (ac : List (List Nat)) (_ : Nat) (ih : ADr) (done : List Nat) (rd : ARd) (t : List (Nat × AV)) (K : List ABlk) (Q : Ex → AS → Prop) : Prop :=
  match pickQ ops ac done (upto (len ops)) with
  | some i => fN i (adrawQ T call N ops ih done rd t K Q)
  | none => match loudN ops ac done (upto (len ops)) with
    | [] => Q .norm ⟨t, K⟩
    | i :: r => each (fun i => fN i (adrawL T call N ops ac ih done rd t K Q)) i r
noncomputable def adraw (T : Tab) (call : ACall) (N : Nat) (ops : List Oper) (ac : List (List Nat)) (n : Nat) : ADr := Nat.rec (motive := fun _ => ADr) adraw0 (adrawS T call N ops ac) n
theorem adraw_succ (T : Tab) (call : ACall) (N : Nat) (ops : List Oper) (ac : List (List Nat)) (n : Nat) : adraw T call N ops ac (n + 1) = adrawS T call N ops ac n (adraw T call N ops ac n) := rfl

/-! ### code -/
/-- what is known of a frame, and of the heap, said in other words -/
def EnvOk (w : World) (m : Mp) (t : List (Nat × AV)) (tmps : Array Value) : Prop := ∀ d, V w m (look t d) (tmps.getD d undef)

/-- what is owned, and what nobody writes to, was one of these ahead of it -/
def Mp.Sub (m m' : Mp) : Prop := (∀ b, m'.I b → m.I b ∨ ∃ r, (m.L r).isLive ∧ m.ρ r = b) ∧ ∀ r, (m'.L r).isLive → (m.L r).isLive ∧ m'.ρ r = m.ρ r
theorem Mp.Sub.refl (m : Mp) : m.Sub m := ⟨fun _ h => .inl h, fun _ h => ⟨h, rfl⟩⟩
theorem Mp.Sub.trans {m m1 m2 : Mp} (h : m.Sub m1) (k : m1.Sub m2) : m.Sub m2 :=
  ⟨fun b hb => by
    rcases k.1 b hb with h1 | ⟨r, h1, h2⟩
    · exact h.1 b h1
    · exact .inr ⟨r, (h.2 r h1).1, (h.2 r h1).2 ▸ h2⟩, fun r hr => ⟨(h.2 r (k.2 r hr).1).1, (k.2 r hr).2.trans (h.2 r (k.2 r hr).1).2⟩⟩
theorem Mp.Sub.tr {w : World} {m m' : Mp} {H : Nat → ABlk} (h : Tr w m w m') (hS : St w m' H) : m.Sub m' :=
  ⟨fun b hb => by
    rcases h.newI b hb with h1 | h1 | h1
    · exact .inl h1
    · exact .inr h1
    · have := hS.Ilt b hb; omega, fun r hr => by
    rcases h.newρ r hr with h1 | h1
    · exact h1
    · have := hS.lt r hr; omega⟩
theorem Mp.Sub.cut (m : Mp) (n : Nat) : m.Sub (m.cut n) := ⟨fun _ h => .inl h, fun r h => by
  by_cases hr : r < n
  · simp only [Mp.cut, hr, if_true] at h; exact ⟨h, rfl⟩
  · simp [Mp.cut, hr, Inf.isLive] at h⟩

def Le (kb : Nat) (s s' : AS) : Prop :=
  ∀ (we : World) (me : Mp), (∀ r, kb ≤ r → me.L r = .absent) → ∀ (w : World) (m : Mp) (tmps : Array Value), Tr we me w m → St w m (hp s.K) → EnvOk w m s.t tmps →
    ∃ m', Tr we me w m' ∧ St w m' (hp s'.K) ∧ EnvOk w m' s'.t tmps ∧ m.Sub m'

/-- the least that holds behind a loop -/
structure LoopW (kb : Nat) (F : AS → (Ex → AS → Prop) → Prop) (s : AS) (Q : Ex → AS → Prop) : Prop where
  out : ∀ X : AS → Prop, (∀ s, F s (fun e s' => match e with | .norm => X s' | e => Q e s') → X s) → (∀ s s', Le kb s s' → X s' → X s) → X s

def contB (id : Nat) (Q : Ex → AS → Prop) : Ex → AS → Prop
  | .exit n, s => match Nat.beq n id with
    | true => Q .norm s
    | false => Q (.exit n) s
  | .norm, s => Q .norm s
  | .ret, s => Q .ret s
  | .pan v, s => Q (.pan v) s

/-- a frame, its slots written out, each once -/
noncomputable def fEs (x : Nat × AV) (_ : List (Nat × AV)) (ih : List Nat → (List (Nat × AV) → Prop) → Prop) (seen : List Nat) (k : List (Nat × AV) → Prop) : Prop :=
  match x with
  | (d, v) => match mem seen d with
    | true => ih seen k
    | false => fV v fun v' => ih (d :: seen) fun r' => k ((d, v') :: r')
noncomputable def fE (seen : List Nat) (t : List (Nat × AV)) : (List (Nat × AV) → Prop) → Prop := List.rec (motive := fun _ => List Nat → (List (Nat × AV) → Prop) → Prop) (fun _ k => k []) fEs t seen
theorem fE_nil (seen : List Nat) (k : List (Nat × AV) → Prop) : fE seen [] k = k [] := rfl
theorem fE_cons (seen : List Nat) (d : Nat) (v : AV) (r : List (Nat × AV)) (k : List (Nat × AV) → Prop) : fE seen ((d, v) :: r) k =
    (match mem seen d with
    | true => fE seen r k
    | false => fV v fun v' => fE (d :: seen) r fun r' => k ((d, v') :: r')) := rfl

abbrev AW := AS → (Ex → AS → Prop) → Prop
section
variable (T : Tab) (call : ACall) (kb N : Nat)
noncomputable def wSkip (s : AS) (Q : Ex → AS → Prop) : Prop := Q .norm s
noncomputable def wRegion (_ : Nat) (ops : Array Oper) (draw : Bool) (s : AS) (Q : Ex → AS → Prop) : Prop := match draw with
    | false => aops T call N ops.toList ops.toList s.t s.K Q
    | true => match drawB ops.toList with
      | true => adraw T call N ops.toList (ancs ops.toList []) (len ops.toList + 1) [] [] s.t s.K Q
      | false => False
noncomputable def wSeqK (b : AW) (Q : Ex → AS → Prop) (e : Ex) (s' : AS) : Prop := match e with
    | .norm => b s' Q
    | .exit n => Q (.exit n) s'
    | .ret => Q .ret s'
    | .pan v => Q (.pan v) s'
noncomputable def wSeq (_ _ : Code) (a b : AW) (s : AS) (Q : Ex → AS → Prop) : Prop := a s (wSeqK b Q)
noncomputable def wCond (c : Operand) (_ _ : Code) (a b : AW) (s : AS) (Q : Ex → AS → Prop) : Prop := match c with
    | .tmp i => match look s.t i with
      | .p (.bool q) => two q (a ⟨know s.t i true, s.K⟩ Q) (b ⟨know s.t i false, s.K⟩ Q)
      | _ => False
    | .const (.bool q) => two q (a s Q) (b s Q)
    | _ => False
noncomputable def wBlock (id : Nat) (_ : Code) (a : AW) (s : AS) (Q : Ex → AS → Prop) : Prop := a s (contB id Q)
noncomputable def wLoop (_ : Code) (c : AW) (s : AS) (Q : Ex → AS → Prop) : Prop := fE [] s.t fun t => fK s.K fun K => LoopW kb c ⟨t, K⟩ Q
/-- no loop over a function in a round of another one -/
def noRF : Code → Bool
  | .rangeFunc _ _ _ _ => false
  | .seq a b => noRF a && noRF b
  | .cond _ a b => noRF a && noRF b
  | .block _ a => noRF a
  | .loop a => noRF a
  | .scope a => noRF a
  | _ => true
def endK (s : AS) (Q : Ex → AS → Prop) (K : List ABlk) : LSt → Prop
  | .ready => Q .norm ⟨s.t, K⟩
  | .ret => Q .ret ⟨s.t, K⟩
  | .exit n => Q (.exit n) ⟨s.t, K⟩
  | _ => False
noncomputable def endRF (s : AS) (Q : Ex → AS → Prop) (r : Nat) (o : AO) (K : List ABlk) : Prop := match o with
  | .ret _ => match nth K r with
    | some (.lp st env N ps a b) => fL (setN K r (.lp .over env N ps a b)) fun K' => endK s Q K' st
    | _ => False
  | .pan v => Q (.pan v) ⟨s.t, K⟩
noncomputable def wRangeF (g : Operand) (ps : Array Tmp) (assign body : Code) (_ _ : AW) (s : AS) (Q : Ex → AS → Prop) : Prop :=
  match noRF assign && noRF body with
  | false => False
  | true => fE [] s.t fun env => fN (len s.K) fun r => fL (snoc s.K (.lp .ready env N ps assign body)) fun K' => match ev s.t g with
    | .fn f first cap => fVL (catL first (.yld r :: cap)) fun args => callF call f args K' (endRF s Q r)
    | .p (.fn f) => callF call f [.yld r] K' (endRF s Q r)
    | _ => False
noncomputable def wExit (n : Nat) (s : AS) (Q : Ex → AS → Prop) : Prop := Q (.exit n) s
noncomputable def wScope (_ : Code) (_ : AW) (_ : AS) (_ : Ex → AS → Prop) : Prop := False
noncomputable def wNo (_ : Nat) (_ : AS) (_ : Ex → AS → Prop) : Prop := False
noncomputable def wRet (s : AS) (Q : Ex → AS → Prop) : Prop := Q .ret s
noncomputable def wRefuse (_ : String) (_ : AS) (_ : Ex → AS → Prop) : Prop := False
noncomputable def awp (c : Code) : AW := Code.rec (motive := fun _ => AW) wSkip (wRegion T call N) wSeq wCond wBlock (wLoop kb) (wRangeF call N) wExit wScope wNo wNo wRet wRefuse c
end

/-- a function's results -/
noncomputable def ares1 (T : Tab) (t : List (Nat × AV)) (K : List ABlk) (r : ResultVar) (k : AV → Prop) : Prop :=
  match r with
  | .tmp i => fV (look t i) k
  | .cell i ty => opLoad T K (fun v _ => k v) ty (look t i)
noncomputable def aresLs (T : Tab) (t : List (Nat × AV)) (K : List ABlk) (r : ResultVar) (_ : List ResultVar) (ih : (List AV → Prop) → Prop) (k : List AV → Prop) : Prop := ares1 T t K r fun v => ih (fun vs => k (v :: vs))
noncomputable def aresL (T : Tab) (t : List (Nat × AV)) (K : List ABlk) (k : List AV → Prop) (l : List ResultVar) : Prop := List.rec (motive := fun _ => (List AV → Prop) → Prop) (fun k => k []) (aresLs T t K) l k
theorem aresL_nil (T : Tab) (t : List (Nat × AV)) (K : List ABlk) (k : List AV → Prop) : aresL T t K k [] = k [] := rfl
theorem aresL_cons (T : Tab) (t : List (Nat × AV)) (K : List ABlk) (k : List AV → Prop) (r : ResultVar) (l : List ResultVar) : aresL T t K k (r :: l) = ares1 T t K r fun v => aresL T t K (fun vs => k (v :: vs)) l := rfl
noncomputable def ares (T : Tab) (fn : Func) (s : AS) (k : AV → Prop) : Prop :=
  aresL T s.t s.K (fun vs => match vs with
    | [v] => k v
    | vs => k (.tup vs)) fn.results.toList

def frame0 : Nat → List AV → List (Nat × AV)
  | _, [] => []
  | i, a :: l => (i, a) :: frame0 (i + 1) l

/-- a body entered -/
noncomputable def abody (T : Tab) (call : ACall) (fn : Func) (args : List AV) (K : List ABlk) (k : AO → List ABlk → Prop) : Prop :=
  match fn.body with
  | none => False
  | some c => match Nat.ble (len args) fn.ntmps with
    | false => False
    | true => fK K fun K => awp T call (len K) fn.ntmps c ⟨frame0 0 args, K⟩ fun e s => match e with
      | .norm => ares T fn s fun v => fK s.K fun K => k (.ret v) K
      | .ret => ares T fn s fun v => fK s.K fun K => k (.ret v) K
      | .pan v => fV v fun v => fK s.K fun K => k (.pan v) K
      | .exit _ => False

def bindPs (N : Nat) : List Nat → List AV → List (Nat × AV) → Option (List (Nat × AV))
  | [], [], t => some t
  | p :: ps, v :: vs, t => match Nat.blt p N with
    | true => bindPs N ps vs ((p, v) :: t)
    | false => none
  | _, _, _ => none
def rd2 (K : List ABlk) (r : Nat) (k : LSt → List (Nat × AV) → Nat → Array Tmp → Code → Code → Prop) : Prop := match nth K r with
  | some (.lp st env N ps a b) => k st env N ps a b
  | _ => False
noncomputable def aroundE (k : AO → List ABlk → Prop) (r : Nat) (e : Ex) (s : AS) : Prop := rd2 s.K r fun _ env N ps a b => match e with
  | .norm => fL (setN s.K r (.lp .ready env N ps a b)) fun K => fK K fun K => k (.ret (.p (.bool true))) K
  | .ret => fL (setN s.K r (.lp .ret env N ps a b)) fun K => fK K fun K => k (.ret (.p (.bool false))) K
  | .exit n => fL (setN s.K r (.lp (.exit n) env N ps a b)) fun K => fK K fun K => k (.ret (.p (.bool false))) K
  | .pan _ => False
noncomputable def aroundB (T : Tab) (call : ACall) (k : AO → List ABlk → Prop) (kb N0 r : Nat) (body : Code) (e : Ex) (s : AS) : Prop := match e with
  | .norm => rd2 s.K r fun st env N ps a b => match st with
    | .ready => fL (setN s.K r (.lp .busy env N ps a b)) fun K => awp T call kb N0 body ⟨s.t, K⟩ fun e s => match e with
      | .pan _ => False
      | e => aroundE k r e s
    | _ => False
  | _ => False
/-- a round -/
noncomputable def around (T : Tab) (call : ACall) (r : Nat) (args : List AV) (K : List ABlk) (k : AO → List ABlk → Prop) : Prop :=
  rd2 K r fun st env N ps assign body => match st with
    | .ready => match bindPs N ps.toList args env with
      | some t => match noRF assign && noRF body with
        | true => fK K fun K => awp T call (len K) N assign ⟨t, K⟩ (aroundB T call k (len K) N r body)
        | false => False
      | none => False
    | _ => False

/-- calls: by contract where there is one, else the body, so deep -/
noncomputable def acallS (T : Tab) (G : FuncId → Option (List AV → List ABlk → (AO → List ABlk → Prop) → Prop)) (_ : Nat) (ih : ACall) (f : FuncId) (args : List AV) (K : List ABlk) (k : AO → List ABlk → Prop) : Prop :=
  match Nat.blt f 1000000000 with
  | true => match G f with
    | some g => g args K k
    | none => match T.f.get f with
      | some fn => abody T ih fn args K k
      | none => False
  | false => around T ih (Nat.sub f 1000000000) args K k
noncomputable def acall0 (_ : FuncId) (_ : List AV) (_ : List ABlk) (_ : AO → List ABlk → Prop) : Prop := False
noncomputable def acall (T : Tab) (G : FuncId → Option (List AV → List ABlk → (AO → List ABlk → Prop) → Prop)) (n : Nat) : ACall := Nat.rec (motive := fun _ => ACall) acall0 (acallS T G) n
theorem acall_succ (T : Tab) (G : FuncId → Option (List AV → List ABlk → (AO → List ABlk → Prop) → Prop)) (n : Nat) (f : FuncId) (args : List AV) (K : List ABlk) (k : AO → List ABlk → Prop) : acall T G (n + 1) f args K k =
    acallS T G n (acall T G n) f args K k := rfl

end Go.AE
