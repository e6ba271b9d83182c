/-
  AE, part 1: abstract values, their relation to the model's values, worlds and transitions. Own metatheory over any program; no statement of the seat is proved here.
-/
import Derived.Maps.AppendAt
import Derived.Laws.CopyRow
import Derived.Laws.Rows
import Derived.Calls
import Derived.RangeFuncRecord
import Derived.TacticsIn
import Derived.Test.YtbcngegcpdppfaaGreatDoorAeGl
namespace Go.AE

/-- pure data -/
inductive PV where
  | int (k : IntKind) (n : Int)
  | bool (b : Bool)
  | str (l : List UInt8)
  | nilp
  | nils
  | nilf
  | nili
  | nilm
  | fn (f : FuncId)
  | sl (sz n : Nat) (f : Nat → List PV)

/-- abstract values: pure data, references into the abstract heap, aggregates -/
inductive AV where
  | p (v : PV)
  | ptr (r ver n i off : Nat)
  | rop (cs : List PV) (off : Nat)
  | slr (r ver off n : Nat)
  | fn (f : FuncId) (first cap : List AV)
  | iface (t : TypeId) (v : AV)
  | agg (cs : List AV)
  | tup (vs : List AV)
  | yld (r : Nat)
  | junk

/-- what a frame's slots are worth -/
def look : List (Nat × AV) → Nat → AV
  | [], _ => .junk
  | (j, v) :: r, i => match Nat.beq j i with
    | true => v
    | false => look r i

inductive Inf where
  | absent
  | dead
  | nil (ver : Nat)
  | live (ver n sz cap : Nat)

def Inf.isLive : Inf → Prop
  | .live _ _ _ _ => True
  | _ => False

/-- is what has stamp (ver, n) out of date? -/
def Inf.old (l : Inf) (ver n : Nat) : Prop :=
  match l with
  | .absent => False
  | .dead => True
  | .nil v => ver < v
  | .live v m _ _ => ver < v ∨ (ver = v ∧ n < m)

/-- where the abstract references stand: blocks, the immutable blocks, what is known of each reference -/
structure Mp where
  ρ : Nat → Nat
  I : Nat → Prop
  L : Nat → Inf

inductive VP (w : World) (I : Nat → Prop) : PV → Value → Prop where
  | int (k : IntKind) (n : Int) : VP w I (.int k n) (.int k n)
  | bool (b : Bool) : VP w I (.bool b) (.bool b)
  | str (s : ByteArray) (l : List UInt8) (h : s.data.toList = l) : VP w I (.str l) (.string s)
  | nilp : VP w I .nilp (.pointer none)
  | nils : VP w I .nils (.slice none 0 0)
  | nilf : VP w I .nilf .nilFunc
  | nili : VP w I .nili .nilIface
  | nilm : VP w I .nilm (.map none)
  | fn (f : FuncId) : VP w I (.fn f) (.func (.func f) #[] #[])
  | sl0 (sz : Nat) (f : Nat → List PV) (a : Option Addr) (c : Nat) : VP w I (.sl sz 0 f) (.slice a 0 c)
  | sl (sz n : Nat) (f : Nat → List PV) (b o c : Nat) (u : Nat → Nat → Value) (hI : I b) (hcap : n ≤ c ∧ n ≤ maxLen)
      (hc : ∀ i, i < n → ∀ j, j < (f i).length → w.cell? ⟨b, o + (i * sz + j), none⟩ = some (u i j))
      (hv : ∀ i, i < n → ∀ j (hj : j < (f i).length), VP w I (f i)[j] (u i j)) : VP w I (.sl sz n f) (.slice (some ⟨b, o, none⟩) n c)

inductive V (w : World) (m : Mp) : AV → Value → Prop where
  | p (v : PV) (u : Value) (h : VP w m.I v u) : V w m (.p v) u
  | ptr (r ver n i off sz cap : Nat) (h : m.L r = .live ver n sz cap) (hi : i < n) : V w m (.ptr r ver n i off) (.pointer (some ⟨m.ρ r, i * sz + off, none⟩))
  | ptrOld (r ver n i off b o : Nat) (h : (m.L r).old ver n) : V w m (.ptr r ver n i off) (.pointer (some ⟨b, o, none⟩))
  | slr (r ver off n N sz cap : Nat) (h : m.L r = .live ver N sz cap) (hn : off + n = N) : V w m (.slr r ver off n) (.slice (some ⟨m.ρ r, off * sz, none⟩) n (cap - off))
  | slrNil (r ver : Nat) (h : m.L r = .nil ver) : V w m (.slr r ver 0 0) (.slice none 0 0)
  | slrOld (r ver off n : Nat) (ad : Option Addr) (c : Nat) (h : (m.L r).old ver (off + n)) : V w m (.slr r ver off n) (.slice ad n c)
  | rop (cs : List PV) (off b o : Nat) (u : Nat → Value) (hI : m.I b)
      (hc : ∀ j, j < cs.length → w.cell? ⟨b, o + j, none⟩ = some (u j))
      (hv : ∀ j (hj : j < cs.length), VP w m.I cs[j] (u j)) : V w m (.rop cs off) (.pointer (some ⟨b, o + off, none⟩))
  | fn (f : FuncId) (first cap : List AV) (A B : Array Value) (hA : first.length = A.size) (hB : cap.length = B.size)
      (h1 : ∀ j (hj : j < first.length) (hj' : j < A.size), V w m first[j] A[j]) (h2 : ∀ j (hj : j < cap.length) (hj' : j < B.size), V w m cap[j] B[j]) :
      V w m (.fn f first cap) (.func (.func f) A B)
  | iface (t : TypeId) (v : AV) (u : Value) (h : V w m v u) : V w m (.iface t v) (.iface t u)
  | agg (cs : List AV) (A : Array Value) (hA : cs.length = A.size) (h : ∀ j (hj : j < cs.length) (hj' : j < A.size), V w m cs[j] A[j]) : V w m (.agg cs) (.agg A)
  | tup (cs : List AV) (A : Array Value) (hA : cs.length = A.size) (h : ∀ j (hj : j < cs.length) (hj' : j < A.size), V w m cs[j] A[j]) : V w m (.tup cs) (.tuple A)
  | yld (r sz cap : Nat) (h : m.L r = .live 0 1 sz cap) : V w m (.yld r) (.func (.yield (m.ρ r)) #[] #[])
  | yldOld (r b : Nat) (h : (m.L r).old 0 1) : V w m (.yld r) (.func (.yield b) #[] #[])
  | junk (u : Value) : V w m .junk u

/-- is it worth one cell? -/
def AV.one : AV → Bool
  | .p _ | .ptr _ _ _ _ _ | .rop _ _ | .slr _ _ _ _ | .fn _ _ _ | .iface _ _ | .yld _ => true
  | _ => false

theorem VP.one {w : World} {I : Nat → Prop} {v : PV} {u : Value} (h : VP w I v u) : u.oneCell' = true := by cases h <;> rfl

theorem V.one {w : World} {m : Mp} {a : AV} {u : Value} (h : V w m a u) (h1 : a.one = true) : u.oneCell' = true := by
  cases h with
  | p v u h => exact h.one
  | agg => simp [AV.one] at h1
  | tup => simp [AV.one] at h1
  | junk => simp [AV.one] at h1
  | _ => rfl

/-! ### transitions -/

def Inf.step (l l' : Inf) (same : Prop) : Prop :=
  match l with
  | .absent => True
  | .dead => l' = .dead
  | .nil v => l' = .dead ∨ l' = .nil v ∨ ∃ v' n' sz' cap', l' = .live v' n' sz' cap' ∧ (v < v' ∨ (v = v' ∧ 0 < n'))
  | .live v n sz cap => l' = .dead ∨ (l' = .live v n sz cap ∧ same) ∨ ∃ v' n' sz' cap', l' = .live v' n' sz' cap' ∧ (v < v' ∨ (v = v' ∧ n < n'))

structure Tr (w : World) (m : Mp) (w' : World) (m' : Mp) : Prop where
  os : w'.os = w.os
  tape : w'.tape = w.tape
  output : w'.output = w.output
  size : w.heap.size ≤ w'.heap.size
  out : ∀ b, b < w.heap.size → (∀ r, (m.L r).isLive → m.ρ r ≠ b) → w'.heap[b]? = w.heap[b]?
  imm : ∀ b, m.I b → m'.I b
  same : ∀ b, m.I b → w'.heap[b]? = w.heap[b]?
  newI : ∀ b, m'.I b → m.I b ∨ (∃ r, (m.L r).isLive ∧ m.ρ r = b) ∨ w.heap.size ≤ b
  step : ∀ r, (m.L r).step (m'.L r) (m'.ρ r = m.ρ r)
  newρ : ∀ r, (m'.L r).isLive → ((m.L r).isLive ∧ m'.ρ r = m.ρ r) ∨ w.heap.size ≤ m'.ρ r

theorem Inf.step_refl (l : Inf) (p : Prop) (h : p) : l.step l p := by
  cases l <;> simp [Inf.step, h]

theorem Inf.step_trans {l l' l'' : Inf} {p q r : Prop} (h : l.step l' p) (h' : l'.step l'' q) (hr : p → q → r) : l.step l'' r := by
  cases l with
  | absent => trivial
  | dead => simp only [Inf.step] at h; subst h; exact h'
  | nil v =>
    simp only [Inf.step] at h ⊢
    rcases h with h | h | ⟨v', n', sz', cap', h, hlt⟩
    · subst h; exact .inl h'
    · subst h; exact h'
    · subst h
      simp only [Inf.step] at h'
      rcases h' with h' | ⟨h', _⟩ | ⟨v2, n2, s2, c2, h', hlt2⟩
      · exact .inl h'
      · exact .inr (.inr ⟨_, _, _, _, h', hlt⟩)
      · exact .inr (.inr ⟨_, _, _, _, h', by omega⟩)
  | live v n sz cap =>
    simp only [Inf.step] at h ⊢
    rcases h with h | ⟨h, hp⟩ | ⟨v', n', sz', cap', h, hlt⟩
    · subst h; exact .inl h'
    · subst h
      simp only [Inf.step] at h'
      rcases h' with h' | ⟨h', hq⟩ | h'
      · exact .inl h'
      · exact .inr (.inl ⟨h', hr hp hq⟩)
      · exact .inr (.inr h')
    · subst h
      simp only [Inf.step] at h'
      rcases h' with h' | ⟨h', _⟩ | ⟨v2, n2, s2, c2, h', hlt2⟩
      · exact .inl h'
      · exact .inr (.inr ⟨_, _, _, _, h', hlt⟩)
      · exact .inr (.inr ⟨_, _, _, _, h', by omega⟩)

theorem Inf.step_imp {l l' : Inf} {p q : Prop} (h : p → q) (h' : l.step l' p) : l.step l' q := by
  cases l with
  | live v n sz cap =>
    simp only [Inf.step] at h' ⊢
    rcases h' with h' | ⟨h', hp⟩ | h'
    · exact .inl h'
    · exact .inr (.inl ⟨h', h hp⟩)
    · exact .inr (.inr h')
  | _ => exact h'

theorem Inf.old_step {l l' : Inf} {p : Prop} {ver n : Nat} (h : l.old ver n) (h' : l.step l' p) : l'.old ver n := by
  cases l with
  | absent => exact h.elim
  | dead => simp only [Inf.step] at h'; subst h'; exact h
  | nil v =>
    simp only [Inf.step] at h'
    simp only [Inf.old] at h
    rcases h' with h' | h' | ⟨v2, n2, s2, c2, h', hlt⟩ <;> subst h' <;> simp only [Inf.old]
    · exact h
    · omega
  | live v m sz cap =>
    simp only [Inf.step] at h'
    simp only [Inf.old] at h
    rcases h' with h' | ⟨h', _⟩ | ⟨v2, n2, s2, c2, h', hlt⟩ <;> subst h' <;> simp only [Inf.old]
    · exact h
    · omega

theorem Tr.refl (w : World) (m : Mp) : Tr w m w m :=
  ⟨rfl, rfl, rfl, Nat.le_refl _, fun _ _ _ => rfl, fun _ h => h, fun _ _ => rfl, fun _ h => .inl h, fun _ => Inf.step_refl _ _ rfl, fun _ h => .inl ⟨h, rfl⟩⟩

theorem Tr.trans {w w1 w2 : World} {m m1 m2 : Mp} (h : Tr w m w1 m1) (k : Tr w1 m1 w2 m2) : Tr w m w2 m2 where
  os := k.os.trans h.os
  tape := k.tape.trans h.tape
  output := k.output.trans h.output
  size := Nat.le_trans h.size k.size
  out := fun b hb hr => by
    rw [k.out b (Nat.lt_of_lt_of_le hb h.size) ?_, h.out b hb hr]
    intro r hl e
    rcases h.newρ r hl with ⟨h1, h2⟩ | h1
    · exact hr r h1 (h2 ▸ e)
    · omega
  imm := fun b hb => k.imm b (h.imm b hb)
  same := fun b hb => (k.same b (h.imm b hb)).trans (h.same b hb)
  newI := fun b hb => by
    rcases k.newI b hb with h1 | ⟨r, h1, h2⟩ | h1
    · exact h.newI b h1
    · rcases h.newρ r h1 with ⟨h3, h4⟩ | h3
      · exact .inr (.inl ⟨r, h3, h4 ▸ h2⟩)
      · exact .inr (.inr (by omega))
    · exact .inr (.inr (Nat.le_trans h.size h1))
  step := fun r => Inf.step_trans (h.step r) (k.step r) (fun a b => b.trans a)
  newρ := fun r hr => by
    rcases k.newρ r hr with ⟨h1, h2⟩ | h1
    · rcases h.newρ r h1 with ⟨h3, h4⟩ | h3
      · exact .inl ⟨h3, h2.trans h4⟩
      · exact .inr (by omega)
    · exact .inr (Nat.le_trans h.size h1)

theorem VP.mono {w w' : World} {I I' : Nat → Prop} (hI : ∀ b, I b → I' b) (hs : ∀ b, I b → w'.heap[b]? = w.heap[b]?) {v : PV} {u : Value} (h : VP w I v u) : VP w' I' v u := by
  induction h with
  | int => exact .int ..
  | bool => exact .bool ..
  | str s l h => exact .str s l h
  | nilp => exact .nilp
  | nils => exact .nils
  | nilf => exact .nilf
  | nili => exact .nili
  | nilm => exact .nilm
  | fn => exact .fn ..
  | sl0 => exact .sl0 ..
  | sl sz n f b o c u hb hcap hc hv ih =>
    refine .sl sz n f b o c u (hI b hb) hcap (fun i hi j hj => ?_) ih
    rw [← hc i hi j hj]
    simp [World.cell?, hs b hb]

theorem V.mono {w w' : World} {m m' : Mp} (t : Tr w m w' m') {a : AV} {u : Value} (h : V w m a u) : V w' m' a u := by
  induction h with
  | p v u h => exact .p v u (h.mono t.imm t.same)
  | ptr r ver n i off sz cap h hi =>
    have hs := t.step r
    rw [h] at hs
    simp only [Inf.step] at hs
    rcases hs with hs | ⟨hs, he⟩ | ⟨v', n', sz', cap', hs, hlt⟩
    · exact .ptrOld _ _ _ _ _ _ _ (by rw [hs]; trivial)
    · rw [← he]; exact .ptr _ _ _ _ _ _ _ hs hi
    · exact .ptrOld _ _ _ _ _ _ _ (by rw [hs]; exact hlt)
  | ptrOld r ver n i off b o h => exact .ptrOld _ _ _ _ _ _ _ (Inf.old_step h (t.step r))
  | slr r ver off n N sz cap h hn =>
    have hs := t.step r
    rw [h] at hs
    simp only [Inf.step] at hs
    rcases hs with hs | ⟨hs, he⟩ | ⟨v', n', sz', cap', hs, hlt⟩
    · exact .slrOld _ _ _ _ _ _ (by rw [hs]; trivial)
    · rw [← he]; exact .slr _ _ _ _ _ _ _ hs hn
    · exact .slrOld _ _ _ _ _ _ (by rw [hs, hn]; exact hlt)
  | slrNil r ver h =>
    have hs := t.step r
    rw [h] at hs
    simp only [Inf.step] at hs
    rcases hs with hs | hs | ⟨v', n', sz', cap', hs, hlt⟩
    · exact .slrOld _ _ _ _ _ _ (by rw [hs]; trivial)
    · exact .slrNil _ _ hs
    · exact .slrOld _ _ _ _ _ _ (by rw [hs]; exact hlt)
  | slrOld r ver off n ad c h => exact .slrOld _ _ _ _ _ _ (Inf.old_step h (t.step r))
  | rop cs off b o u hb hc hv =>
    refine .rop cs off b o u (t.imm b hb) (fun j hj => ?_) (fun j hj => (hv j hj).mono t.imm t.same)
    rw [← hc j hj]
    simp [World.cell?, t.same b hb]
  | fn f first cap A B hA hB h1 h2 ih1 ih2 => exact .fn f first cap A B hA hB ih1 ih2
  | iface t v u h ih => exact .iface t v u ih
  | agg cs A hA h ih => exact .agg cs A hA ih
  | tup cs A hA h ih => exact .tup cs A hA ih
  | yld r sz cap h =>
    have hs := t.step r
    rw [h] at hs
    simp only [Inf.step] at hs
    rcases hs with hs | ⟨hs, he⟩ | ⟨v', n', sz', cap', hs, hlt⟩
    · exact .yldOld _ _ (by rw [hs]; trivial)
    · rw [← he]; exact .yld _ _ _ hs
    · exact .yldOld _ _ (by rw [hs]; exact hlt)
  | yldOld r b h => exact .yldOld _ _ (Inf.old_step h (t.step r))
  | junk u => exact .junk u

/-! ### heaps -/

/-- where a loop over a function stands -/
inductive LSt where
  | ready
  | busy
  | ret
  | exit (n : Nat)
  | over
def LSt.state : LSt → LoopState
  | .ready => .ready
  | .busy => .busy
  | .ret => .done
  | .exit _ => .done
  | .over => .exhausted
def LSt.pends : LSt → Option Code → Prop
  | .ready, p => p = none
  | .busy, p => p = none
  | .ret, p => p = some .ret
  | .exit n, p => p = some (.exit n)
  | .over, _ => True

inductive ABlk where
  | absent
  | dead
  | box (ty : TypeId) (cs : List AV)
  | arr (ty : TypeId) (sz ver n : Nat) (f : Nat → List AV)
  | lp (s : LSt) (env : List (Nat × AV)) (N : Nat) (ps : Array Tmp) (assign body : Code)

def BlkOk (w : World) (m : Mp) (l : Inf) (g : Nat) : ABlk → Prop
  | .absent => l = .absent
  | .dead => l = .dead
  | .box ty cs => l = .live 0 1 cs.length 1 ∧ ∃ c : Array Value, w.heap[g]? = some (.cells c ty (0, 0)) ∧ c.size = cs.length ∧
      ∀ j (hj : j < cs.length), ∃ u, c[j]? = some u ∧ V w m cs[j] u
  | .arr ty sz ver n f => (l = .nil ver ∧ n = 0) ∨ ∃ (cap : Nat) (c : Array Value), l = .live ver n sz cap ∧ n ≤ cap ∧ cap ≤ maxLen ∧ w.heap[g]? = some (.cells c ty (0, 0)) ∧ c.size = cap * sz ∧
      ∀ i, i < n → (f i).length = sz ∧ ∀ j (hj : j < (f i).length), ∃ u, c[i * sz + j]? = some u ∧ V w m (f i)[j] u
  | .lp s env N ps assign body => l = .live 0 1 1 1 ∧ ∃ (p : Option Code) (fn : FuncId) (tmps : Array Value) (D : Nat),
      w.heap[g]? = some (.loop { state := s.state, pending := p, fn := fn, tmps := tmps, params := ps, assign := assign, body := body, defers := D }) ∧ s.pends p ∧ tmps.size = N ∧
      ∀ d, V w m (look env d) (tmps.getD d undef)

structure St (w : World) (m : Mp) (H : Nat → ABlk) : Prop where
  inj : ∀ r r', (m.L r).isLive → (m.L r').isLive → m.ρ r = m.ρ r' → r = r'
  notI : ∀ r, (m.L r).isLive → ¬ m.I (m.ρ r)
  lt : ∀ r, (m.L r).isLive → m.ρ r < w.heap.size
  Ilt : ∀ b, m.I b → b < w.heap.size
  gl : Gl w m.I
  blk : ∀ r, BlkOk w m (m.L r) (m.ρ r) (H r)

/-- what stands at a reference's block is the same, and values are worth what they were: so is the block's knowledge. -/
theorem BlkOk.mono {w w' : World} {m m' : Mp} {l : Inf} {g : Nat} {b : ABlk} (hb : w'.heap[g]? = w.heap[g]?) (hV : ∀ a u, V w m a u → V w' m' a u) (h : BlkOk w m l g b) : BlkOk w' m' l g b := by
  cases b with
  | absent => exact h
  | dead => exact h
  | box ty cs =>
    obtain ⟨hl, c, h1, h2, h3⟩ := h
    exact ⟨hl, c, hb.trans h1, h2, fun j hj => let ⟨u, a, b⟩ := h3 j hj; ⟨u, a, hV _ _ b⟩⟩
  | arr ty sz ver n f =>
    rcases h with h | ⟨cap, c, hl, h0, h00, h1, h2, h3⟩
    · exact .inl h
    exact .inr ⟨cap, c, hl, h0, h00, hb.trans h1, h2, fun i hi => ⟨(h3 i hi).1, fun j hj => let ⟨u, a, b⟩ := (h3 i hi).2 j hj; ⟨u, a, hV _ _ b⟩⟩⟩
  | lp s env N ps asg bd =>
    obtain ⟨hl, p, fn, tmps, D, h1, h2, h3, h4⟩ := h
    exact ⟨hl, p, fn, tmps, D, hb.trans h1, h2, h3, fun d => hV _ _ (h4 d)⟩

/-- The world turns only where the count of draws stands. -/
theorem Tr.drew (w : World) (m : Mp) : Tr w m w.drew m :=
  ⟨rfl, rfl, rfl, Nat.le_refl _, fun _ _ _ => rfl, fun _ h => h, fun _ _ => rfl, fun _ h => .inl h, fun _ => Inf.step_refl _ _ rfl, fun _ h => .inl ⟨h, rfl⟩⟩

theorem St.drew {w : World} {m : Mp} {H : Nat → ABlk} (h : St w m H) : St w.drew m H :=
  ⟨h.inj, h.notI, h.lt, h.Ilt, Gl.mono (w := w) (w' := w.drew) (fun _ h => h) (fun _ _ => rfl) h.gl, fun r => BlkOk.mono (w := w) (m := m) rfl (fun _ _ hv => hv.mono (Tr.drew w m)) (h.blk r)⟩

def upd (H : Nat → ABlk) (r : Nat) (b : ABlk) : Nat → ABlk := fun k => if k = r then b else H k

def Mp.set (m : Mp) (r g : Nat) (l : Inf) : Mp := { m with ρ := fun k => if k = r then g else m.ρ k, L := fun k => if k = r then l else m.L k }

theorem heap_alloc (w : World) (o : Obj) (b : Nat) (h : b < w.heap.size) : (w.alloc o).heap[b]? = w.heap[b]? := by
  show (w.heap.push o)[b]? = _
  rw [Array.getElem?_push, if_neg (by omega)]

theorem Tr.alloc (w : World) (m : Mp) (o : Obj) (r : Nat) (l : Inf) (hr : m.L r = .absent) (hI : ∀ b, m.I b → b < w.heap.size) : Tr w m (w.alloc o) (m.set r w.heap.size l) where
  os := rfl
  tape := rfl
  output := rfl
  size := by simp
  out := fun b hb _ => heap_alloc w o b hb
  imm := fun _ h => h
  same := fun b hb => heap_alloc w o b (hI b hb)
  newI := fun _ h => .inl h
  step := fun k => by
    simp only [Mp.set]
    by_cases hk : k = r
    · subst hk; rw [hr]; trivial
    · simp only [hk, if_false]; exact Inf.step_refl _ _ trivial
  newρ := fun k hk => by
    simp only [Mp.set] at hk ⊢
    by_cases hk' : k = r
    · subst hk'; simp
    · simp only [hk', if_false] at hk ⊢; exact .inl ⟨hk, trivial⟩

theorem St.absent {w : World} {m : Mp} {H : Nat → ABlk} (h : St w m H) {r : Nat} (hr : H r = .absent) : m.L r = .absent := by
  have := h.blk r
  rw [hr] at this
  exact this

theorem BlkOk.nolive {w w' : World} {m m' : Mp} {l : Inf} {g g' : Nat} {b : ABlk} (h : BlkOk w m l g b) (hl : ¬ l.isLive) : BlkOk w' m' l g' b := by
  cases b with
  | absent => exact h
  | dead => exact h
  | box ty cs => rw [h.1] at hl; exact absurd trivial hl
  | arr ty sz ver n f =>
    rcases h with h | ⟨cap, c, hl', _⟩
    · exact .inl h
    · rw [hl'] at hl; exact absurd trivial hl
  | lp s env N ps asg bd => rw [h.1] at hl; exact absurd trivial hl

theorem St.alloc {w : World} {m : Mp} {H : Nat → ABlk} (h : St w m H) (o : Obj) (r : Nat) (l : Inf) (hr : H r = .absent) (b : ABlk)
    (hb : BlkOk (w.alloc o) (m.set r w.heap.size l) l w.heap.size b) : St (w.alloc o) (m.set r w.heap.size l) (upd H r b) := by
  have hT := Tr.alloc w m o r l (h.absent hr) h.Ilt
  refine ⟨fun r1 r2 h1 h2 e => ?_, fun r1 h1 => ?_, fun r1 h1 => ?_, fun b hb => ?_, h.gl.mono hT.imm hT.same, fun r1 => ?_⟩
  · simp only [Mp.set] at h1 h2 e
    by_cases e1 : r1 = r <;> by_cases e2 : r2 = r
    · rw [e1, e2]
    · simp only [e1, e2, if_true, if_false] at h1 h2 e
      have := h.lt r2 h2; omega
    · simp only [e1, e2, if_true, if_false] at h1 h2 e
      have := h.lt r1 h1; omega
    · simp only [e1, e2, if_false] at h1 h2 e
      exact h.inj r1 r2 h1 h2 e
  · simp only [Mp.set] at h1 ⊢
    by_cases e1 : r1 = r
    · simp only [e1, if_true]; intro hI; have := h.Ilt _ hI; omega
    · simp only [e1, if_false] at h1 ⊢; exact h.notI r1 h1
  · simp only [Mp.set] at h1 ⊢
    by_cases e1 : r1 = r
    · simp [e1]
    · simp only [e1, if_false] at h1 ⊢; have := h.lt r1 h1; simp; omega
  · have := h.Ilt b hb; simp; omega
  · by_cases e1 : r1 = r
    · simp only [Mp.set, upd, e1, if_true]; exact hb
    · have hk := h.blk r1
      have e : BlkOk (w.alloc o) (m.set r w.heap.size l) (m.L r1) (m.ρ r1) (H r1) := by
        by_cases hl : (m.L r1).isLive
        · exact hk.mono (heap_alloc w o _ (h.lt r1 hl)) (fun _ _ hv => hv.mono hT)
        · exact hk.nolive hl
      simp only [Mp.set, upd, e1, if_false]
      exact e

theorem heap_setRow_ne (w : World) (g : Nat) (c : Array Value) (b : Nat) (h : b ≠ g) : (w.setRow g c).heap[b]? = w.heap[b]? := by
  simp only [World.setRow, Array.getElem?_modify]
  rw [if_neg (fun e => h e.symm)]

theorem size_setRow (w : World) (g : Nat) (c : Array Value) : (w.setRow g c).heap.size = w.heap.size := by simp [World.setRow]

/-- what a write into a live reference's block does -/
theorem Tr.setRow {w : World} {m : Mp} {H : Nat → ABlk} (h : St w m H) (r : Nat) (hr : (m.L r).isLive) (c : Array Value) : Tr w m (w.setRow (m.ρ r) c) m where
  os := rfl
  tape := rfl
  output := rfl
  size := by rw [size_setRow]; exact Nat.le_refl _
  out := fun b _ hn => heap_setRow_ne w _ c b (fun e => hn r hr e.symm)
  imm := fun _ h => h
  same := fun b hb => heap_setRow_ne w _ c b (fun e => h.notI r hr (e ▸ hb))
  newI := fun _ h => .inl h
  step := fun k => Inf.step_refl _ _ rfl
  newρ := fun k hk => .inl ⟨hk, rfl⟩


theorem St.setRow {w : World} {m : Mp} {H : Nat → ABlk} (h : St w m H) (r : Nat) (hr : (m.L r).isLive) (c : Array Value) (b : ABlk)
    (hb : BlkOk (w.setRow (m.ρ r) c) m (m.L r) (m.ρ r) b) : St (w.setRow (m.ρ r) c) m (upd H r b) := by
  have hT := Tr.setRow h r hr c
  refine ⟨h.inj, h.notI, fun k hk => by rw [size_setRow]; exact h.lt k hk, fun b hb => by rw [size_setRow]; exact h.Ilt b hb, h.gl.mono hT.imm hT.same, fun k => ?_⟩
  by_cases e : k = r
  · subst e; simp only [upd, if_true]; exact hb
  · simp only [upd, e, if_false]
    have hk := h.blk k
    by_cases hl : (m.L k).isLive
    · exact hk.mono (heap_setRow_ne w _ c _ (fun e' => e (h.inj k r hl hr e'))) (fun _ _ hv => hv.mono hT)
    · exact hk.nolive hl

/-- what another object in a live reference's block does -/
theorem Tr.putObj {w : World} {m : Mp} {H : Nat → ABlk} (h : St w m H) (r : Nat) (hr : (m.L r).isLive) (o : Obj) : Tr w m (w.putObj (m.ρ r) o) m where
  os := rfl
  tape := rfl
  output := rfl
  size := by simp
  out := fun b _ hn => World.putObj_heap_other (fun e => hn r hr e.symm)
  imm := fun _ h => h
  same := fun b hb => World.putObj_heap_other (fun e => h.notI r hr (e ▸ hb))
  newI := fun _ h => .inl h
  step := fun k => Inf.step_refl _ _ rfl
  newρ := fun k hk => .inl ⟨hk, rfl⟩

theorem St.putObj {w : World} {m : Mp} {H : Nat → ABlk} (h : St w m H) (r : Nat) (hr : (m.L r).isLive) (o : Obj) (b : ABlk)
    (hb : BlkOk (w.putObj (m.ρ r) o) m (m.L r) (m.ρ r) b) : St (w.putObj (m.ρ r) o) m (upd H r b) := by
  have hT := Tr.putObj h r hr o
  refine ⟨h.inj, h.notI, fun k hk => by simpa using h.lt k hk, fun b hb => by simpa using h.Ilt b hb, h.gl.mono hT.imm hT.same, fun k => ?_⟩
  by_cases e : k = r
  · subst e; simp only [upd, if_true]; exact hb
  · simp only [upd, e, if_false]
    have hk := h.blk k
    by_cases hl : (m.L k).isLive
    · exact hk.mono (World.putObj_heap_other (fun e' => e (h.inj k r hl hr e'))) (fun _ _ hv => hv.mono hT)
    · exact hk.nolive hl

/-- a block that is neither owned nor read: what stands there counts for nothing -/
theorem V.aside {w : World} {m : Mp} (D : Nat) (hD : ¬ m.I D) (o : Obj) {a : AV} {u : Value} (h : V w m a u) : V (w.putObj D o) m a u := by
  have hs : ∀ b, m.I b → (w.putObj D o).heap[b]? = w.heap[b]? := fun b hb => World.putObj_heap_other (fun e => hD (e ▸ hb))
  induction h with
  | p v u h => exact .p v u (h.mono (fun _ h => h) hs)
  | ptr r ver n i off sz cap h hi => exact .ptr r ver n i off sz cap h hi
  | ptrOld r ver n i off b o h => exact .ptrOld r ver n i off b o h
  | slr r ver off n N sz cap h hn => exact .slr r ver off n N sz cap h hn
  | slrNil r ver h => exact .slrNil r ver h
  | slrOld r ver off n ad c h => exact .slrOld r ver off n ad c h
  | rop cs off b o u hb hc hv =>
    refine .rop cs off b o u hb (fun j hj => ?_) (fun j hj => (hv j hj).mono (fun _ h => h) hs)
    rw [← hc j hj]
    simp [World.cell?, hs b hb]
  | fn f first cap A B hA hB h1 h2 ih1 ih2 => exact .fn f first cap A B hA hB ih1 ih2
  | iface t v u h ih => exact .iface t v u ih
  | agg cs A hA h ih => exact .agg cs A hA ih
  | tup cs A hA h ih => exact .tup cs A hA ih
  | yld r sz cap h => exact .yld r sz cap h
  | yldOld r b h => exact .yldOld r b h
  | junk u => exact .junk u

theorem St.aside {w : World} {m : Mp} {H : Nat → ABlk} (h : St w m H) (D : Nat) (hD : ¬ m.I D) (hO : ∀ r, (m.L r).isLive → m.ρ r ≠ D) (o : Obj) : St (w.putObj D o) m H := by
  have hs : ∀ b, m.I b → (w.putObj D o).heap[b]? = w.heap[b]? := fun b hb => World.putObj_heap_other (fun e => hD (e ▸ hb))
  refine ⟨h.inj, h.notI, fun k hk => by simpa using h.lt k hk, fun b hb => by simpa using h.Ilt b hb, h.gl.mono (fun _ h => h) hs, fun k => ?_⟩
  have hk := h.blk k
  by_cases hl : (m.L k).isLive
  · exact hk.mono (World.putObj_heap_other (hO k hl)) (fun _ _ hv => hv.aside D hD o)
  · exact hk.nolive hl

theorem Tr.aside {we w : World} {me m : Mp} (h : Tr we me w m) (D : Nat) (hW : we.heap.size ≤ D) (hm : ∀ b, me.I b → b < we.heap.size) (o : Obj) : Tr we me (w.putObj D o) m where
  os := h.os
  tape := h.tape
  output := h.output
  size := by simpa using h.size
  out := fun b hb hn => (World.putObj_heap_other (by omega)).trans (h.out b hb hn)
  imm := h.imm
  same := fun b hb => (World.putObj_heap_other (by have := hm b hb; omega)).trans (h.same b hb)
  newI := h.newI
  step := h.step
  newρ := h.newρ

/-- a live block that grows, where it stands or anew -/
theorem Tr.grow {w w' : World} {m : Mp} {H : Nat → ABlk} (h : St w m H) (r g' : Nat) (l' : Inf) (hr : (m.L r).isLive) (hg : w.grownBy w' (some (m.ρ r)))
    (hs : (m.L r).step l' (g' = m.ρ r)) (hg' : g' = m.ρ r ∨ w.heap.size ≤ g') : Tr w m w' (m.set r g' l') where
  os := hg.os
  tape := hg.tape
  output := hg.output
  size := hg.size
  out := fun b hb hn => hg.block b hb (fun e => hn r hr (by injection e with e; exact e.symm))
  imm := fun _ h => h
  same := fun b hb => hg.block b (h.Ilt b hb) (fun e => h.notI r hr (by injection e with e; exact e ▸ hb))
  newI := fun _ h => .inl h
  step := fun k => by
    simp only [Mp.set]
    by_cases hk : k = r
    · subst hk; simp only [if_true]; exact hs
    · simp only [hk, if_false]; exact Inf.step_refl _ _ trivial
  newρ := fun k hk => by
    simp only [Mp.set] at hk ⊢
    by_cases hk' : k = r
    · subst hk'; simp only [if_true] at hk ⊢
      rcases hg' with e | e
      · exact .inl ⟨hr, e⟩
      · exact .inr e
    · simp only [hk', if_false] at hk ⊢; exact .inl ⟨hk, trivial⟩

theorem St.grow {w w' : World} {m : Mp} {H : Nat → ABlk} (h : St w m H) (r g' : Nat) (l' : Inf) (hr : (m.L r).isLive) (hg : w.grownBy w' (some (m.ρ r)))
    (hs : (m.L r).step l' (g' = m.ρ r)) (hg' : g' = m.ρ r ∨ w.heap.size ≤ g') (hlt : g' < w'.heap.size) (b : ABlk) (hb : BlkOk w' (m.set r g' l') l' g' b) : St w' (m.set r g' l') (upd H r b) := by
  have hT := Tr.grow h r g' l' hr hg hs hg'
  refine ⟨fun r1 r2 h1 h2 e => ?_, fun r1 h1 => ?_, fun r1 h1 => ?_, fun b hb => ?_, h.gl.mono hT.imm hT.same, fun r1 => ?_⟩
  · simp only [Mp.set] at h1 h2 e
    by_cases e1 : r1 = r <;> by_cases e2 : r2 = r
    · rw [e1, e2]
    · simp only [e1, e2, if_true, if_false] at h1 h2 e
      rcases hg' with hg' | hg'
      · exact absurd (h.inj r r2 hr h2 (hg' ▸ e)).symm e2
      · have := h.lt r2 h2; omega
    · simp only [e1, e2, if_true, if_false] at h1 h2 e
      rcases hg' with hg' | hg'
      · exact absurd (h.inj r1 r h1 hr (hg' ▸ e)) e1
      · have := h.lt r1 h1; omega
    · simp only [e1, e2, if_false] at h1 h2 e
      exact h.inj r1 r2 h1 h2 e
  · simp only [Mp.set] at h1 ⊢
    by_cases e1 : r1 = r
    · simp only [e1, if_true]; intro hI
      rcases hg' with hg' | hg'
      · exact h.notI r hr (hg' ▸ hI)
      · have := h.Ilt _ hI; omega
    · simp only [e1, if_false] at h1 ⊢; exact h.notI r1 h1
  · simp only [Mp.set] at h1 ⊢
    by_cases e1 : r1 = r
    · simp only [e1, if_true]; exact hlt
    · simp only [e1, if_false] at h1 ⊢; exact Nat.lt_of_lt_of_le (h.lt r1 h1) hg.size
  · exact Nat.lt_of_lt_of_le (h.Ilt b hb) hg.size
  · by_cases e1 : r1 = r
    · simp only [Mp.set, upd, e1, if_true]; exact hb
    · have hk := h.blk r1
      simp only [Mp.set, upd, e1, if_false]
      show BlkOk w' (m.set r g' l') _ _ _
      by_cases hl : (m.L r1).isLive
      · exact hk.mono (hg.block _ (h.lt r1 hl) (fun e => e1 (h.inj r1 r hl hr (by injection e)))) (fun _ _ hv => hv.mono hT)
      · exact hk.nolive hl

/-- a new reference, to a block that was not there -/
theorem Tr.fresh {w w' : World} {m : Mp} {H : Nat → ABlk} (h : St w m H) (r g' : Nat) (l' : Inf) (hst : (m.L r).step l' False) (hg : w.grownBy w' none) (hg' : w.heap.size ≤ g') : Tr w m w' (m.set r g' l') where
  os := hg.os
  tape := hg.tape
  output := hg.output
  size := hg.size
  out := fun b hb _ => hg.block b hb (by simp)
  imm := fun _ h => h
  same := fun b hb => hg.block b (h.Ilt b hb) (by simp)
  newI := fun _ h => .inl h
  step := fun k => by
    simp only [Mp.set]
    by_cases hk : k = r
    · subst hk; simp only [if_true]; exact Inf.step_imp (fun x => x.elim) hst
    · simp only [hk, if_false]; exact Inf.step_refl _ _ trivial
  newρ := fun k hk => by
    simp only [Mp.set] at hk ⊢
    by_cases hk' : k = r
    · subst hk'; simp only [if_true]; exact .inr hg'
    · simp only [hk', if_false] at hk ⊢; exact .inl ⟨hk, trivial⟩

theorem St.fresh {w w' : World} {m : Mp} {H : Nat → ABlk} (h : St w m H) (r g' : Nat) (l' : Inf) (hst : (m.L r).step l' False) (hg : w.grownBy w' none) (hg' : w.heap.size ≤ g') (hlt : g' < w'.heap.size)
    (b : ABlk) (hb : BlkOk w' (m.set r g' l') l' g' b) : St w' (m.set r g' l') (upd H r b) := by
  have hT := Tr.fresh h r g' l' hst hg hg'
  refine ⟨fun r1 r2 h1 h2 e => ?_, fun r1 h1 => ?_, fun r1 h1 => ?_, fun b hb => ?_, h.gl.mono hT.imm hT.same, fun r1 => ?_⟩
  · simp only [Mp.set] at h1 h2 e
    by_cases e1 : r1 = r <;> by_cases e2 : r2 = r
    · rw [e1, e2]
    · simp only [e1, e2, if_true, if_false] at h1 h2 e
      have := h.lt r2 h2; omega
    · simp only [e1, e2, if_true, if_false] at h1 h2 e
      have := h.lt r1 h1; omega
    · simp only [e1, e2, if_false] at h1 h2 e
      exact h.inj r1 r2 h1 h2 e
  · simp only [Mp.set] at h1 ⊢
    by_cases e1 : r1 = r
    · simp only [e1, if_true]; intro hI; have := h.Ilt _ hI; omega
    · simp only [e1, if_false] at h1 ⊢; exact h.notI r1 h1
  · simp only [Mp.set] at h1 ⊢
    by_cases e1 : r1 = r
    · simp only [e1, if_true]; exact hlt
    · simp only [e1, if_false] at h1 ⊢; exact Nat.lt_of_lt_of_le (h.lt r1 h1) hg.size
  · exact Nat.lt_of_lt_of_le (h.Ilt b hb) hg.size
  · by_cases e1 : r1 = r
    · simp only [Mp.set, upd, e1, if_true]; exact hb
    · have hk := h.blk r1
      simp only [Mp.set, upd, e1, if_false]
      show BlkOk w' (m.set r g' l') _ _ _
      by_cases hl : (m.L r1).isLive
      · exact hk.mono (hg.block _ (h.lt r1 hl) (by simp)) (fun _ _ hv => hv.mono hT)
      · exact hk.nolive hl

/-- a block that nobody writes to any more -/
def Mp.freeze (m : Mp) (r : Nat) : Mp := { m with I := fun b => m.I b ∨ b = m.ρ r, L := fun k => if k = r then .dead else m.L k }

theorem Tr.freeze {w : World} {m : Mp} (r : Nat) (hr : (m.L r).isLive) : Tr w m w (m.freeze r) where
  os := rfl
  tape := rfl
  output := rfl
  size := Nat.le_refl _
  out := fun _ _ _ => rfl
  imm := fun _ h => .inl h
  same := fun _ _ => rfl
  newI := fun b h => by
    rcases h with h | h
    · exact .inl h
    · exact .inr (.inl ⟨r, hr, h.symm⟩)
  step := fun k => by
    simp only [Mp.freeze]
    by_cases hk : k = r
    · subst hk; simp only [if_true]
      cases hL : m.L k with
      | absent => trivial
      | dead => rfl
      | nil => exact .inl rfl
      | live => exact .inl rfl
    · simp only [hk, if_false]; exact Inf.step_refl _ _ trivial
  newρ := fun k hk => by
    simp only [Mp.freeze] at hk ⊢
    by_cases hk' : k = r
    · subst hk'; simp [Inf.isLive] at hk
    · simp only [hk', if_false] at hk; exact .inl ⟨hk, trivial⟩

theorem St.freeze {w : World} {m : Mp} {H : Nat → ABlk} (h : St w m H) (r : Nat) (hr : (m.L r).isLive) : St w (m.freeze r) (upd H r .dead) := by
  have hT := Tr.freeze (w := w) r hr
  have hlive : ∀ k, ((m.freeze r).L k).isLive → k ≠ r ∧ (m.L k).isLive := fun k hk => by
    simp only [Mp.freeze] at hk
    by_cases e : k = r
    · subst e; simp [Inf.isLive] at hk
    · simp only [e, if_false] at hk; exact ⟨e, hk⟩
  refine ⟨fun r1 r2 h1 h2 e => h.inj r1 r2 (hlive _ h1).2 (hlive _ h2).2 e, fun r1 h1 hI => ?_, fun r1 h1 => h.lt r1 (hlive _ h1).2, fun b hb => ?_, h.gl.mono hT.imm hT.same, fun k => ?_⟩
  · rcases hI with hI | hI
    · exact h.notI r1 (hlive _ h1).2 hI
    · exact (hlive _ h1).1 (h.inj r1 r (hlive _ h1).2 hr hI)
  · rcases hb with hb | hb
    · exact h.Ilt b hb
    · rw [hb]; exact h.lt r hr
  · by_cases e : k = r
    · subst e; simp [upd, Mp.freeze, BlkOk]
    · simp only [upd, Mp.freeze, e, if_false]
      exact (h.blk k).mono rfl (fun _ _ hv => hv.mono hT)

/-- references from k on are forgotten -/
def Mp.cut (m : Mp) (k : Nat) : Mp := { m with L := fun r => if r < k then m.L r else .absent }

mutual
/-- does it name only references below k? -/
def AV.cl (k : Nat) : AV → Bool
  | .p _ | .rop _ _ | .junk => true
  | .ptr r _ _ _ _ => Nat.blt r k
  | .slr r _ _ _ => Nat.blt r k
  | .yld r => Nat.blt r k
  | .fn _ a b => AV.cls k a && AV.cls k b
  | .iface _ v => AV.cl k v
  | .agg l => AV.cls k l
  | .tup l => AV.cls k l
def AV.cls (k : Nat) : List AV → Bool
  | [] => true
  | a :: l => AV.cl k a && AV.cls k l
end

theorem AV.cls_get {k : Nat} {l : List AV} (h : AV.cls k l = true) : ∀ j (hj : j < l.length), AV.cl k l[j] = true := by
  induction l with
  | nil => intro j hj; simp at hj
  | cons a l ih =>
    simp only [AV.cls, Bool.and_eq_true] at h
    intro j hj
    cases j with
    | zero => exact h.1
    | succ j => exact ih h.2 j (by simpa using hj)

theorem V.cut {w : World} {m : Mp} {a : AV} {u : Value} (h : V w m a u) (k : Nat) (hc : a.cl k = true) : V w (m.cut k) a u := by
  induction h with
  | p v u h => exact .p v u h
  | ptr r ver n i off sz cap h hi =>
    have hr : r < k := by simpa [AV.cl] using hc
    exact .ptr (m := m.cut k) r ver n i off sz cap (by simp [Mp.cut, hr, h]) hi
  | ptrOld r ver n i off b o h =>
    have hr : r < k := by simpa [AV.cl] using hc
    exact .ptrOld (m := m.cut k) r ver n i off b o (by simpa [Mp.cut, hr] using h)
  | slr r ver off n N sz cap h hn =>
    have hr : r < k := by simpa [AV.cl] using hc
    exact .slr (m := m.cut k) r ver off n N sz cap (by simp [Mp.cut, hr, h]) hn
  | slrNil r ver h =>
    have hr : r < k := by simpa [AV.cl] using hc
    exact .slrNil (m := m.cut k) r ver (by simp [Mp.cut, hr, h])
  | slrOld r ver off n ad c h =>
    have hr : r < k := by simpa [AV.cl] using hc
    exact .slrOld (m := m.cut k) r ver off n ad c (by simpa [Mp.cut, hr] using h)
  | rop cs off b o u hb h1 h2 => exact .rop (m := m.cut k) cs off b o u hb h1 h2
  | fn f first cap A B hA hB h1 h2 ih1 ih2 =>
    simp only [AV.cl, Bool.and_eq_true] at hc
    exact .fn f first cap A B hA hB (fun j hj hj' => ih1 j hj hj' (AV.cls_get hc.1 j hj)) (fun j hj hj' => ih2 j hj hj' (AV.cls_get hc.2 j hj))
  | iface t v u h ih => exact .iface t v u (ih hc)
  | agg cs A hA h ih => exact .agg cs A hA (fun j hj hj' => ih j hj hj' (AV.cls_get hc j hj))
  | tup cs A hA h ih => exact .tup cs A hA (fun j hj hj' => ih j hj hj' (AV.cls_get hc j hj))
  | yld r sz cap h =>
    have hr : r < k := by simpa [AV.cl] using hc
    exact .yld (m := m.cut k) r sz cap (by simp [Mp.cut, hr, h])
  | yldOld r b h =>
    have hr : r < k := by simpa [AV.cl] using hc
    exact .yldOld (m := m.cut k) r b (by simpa [Mp.cut, hr] using h)
  | junk u => exact .junk u

/-- do a frame's slots name only references below k? -/
def clE (k : Nat) : List (Nat × AV) → Bool
  | [] => true
  | (_, v) :: l => AV.cl k v && clE k l
theorem clE_look {k : Nat} {l : List (Nat × AV)} (h : clE k l = true) (d : Nat) : (look l d).cl k = true := by
  induction l with
  | nil => rfl
  | cons x l ih =>
    obtain ⟨j, v⟩ := x
    simp only [clE, Bool.and_eq_true] at h
    simp only [look]
    split
    · exact h.1
    · exact ih h.2

def ABlk.cl (k : Nat) : ABlk → Prop
  | .box _ cs => AV.cls k cs = true
  | .arr _ _ _ n f => ∀ i, i < n → AV.cls k (f i) = true
  | .lp _ env _ _ _ _ => clE k env = true
  | _ => True

theorem St.cut {w : World} {m : Mp} {H : Nat → ABlk} (h : St w m H) (k : Nat) (hc : ∀ r, r < k → (H r).cl k) : St w (m.cut k) (fun r => if r < k then H r else .absent) := by
  have hlive : ∀ r, ((m.cut k).L r).isLive → (m.L r).isLive := fun r hr => by
    simp only [Mp.cut] at hr
    by_cases e : r < k
    · simpa [e] using hr
    · simp [e, Inf.isLive] at hr
  refine ⟨fun r1 r2 h1 h2 e => h.inj r1 r2 (hlive _ h1) (hlive _ h2) e, fun r1 h1 => h.notI r1 (hlive _ h1), fun r1 h1 => h.lt r1 (hlive _ h1), h.Ilt, h.gl, fun r => ?_⟩
  by_cases e : r < k
  · simp only [Mp.cut, e, if_true]
    show BlkOk w (m.cut k) (m.L r) (m.ρ r) (H r)
    have hb := h.blk r
    have hcl := hc r e
    cases hH : H r with
    | absent => rw [hH] at hb; exact hb
    | dead => rw [hH] at hb; exact hb
    | box ty cs =>
      rw [hH] at hb hcl
      obtain ⟨hl, c, h1, h2, h3⟩ := hb
      exact ⟨hl, c, h1, h2, fun j hj => let ⟨u, a, b⟩ := h3 j hj; ⟨u, a, b.cut k (AV.cls_get hcl j hj)⟩⟩
    | arr ty sz ver n f =>
      rw [hH] at hb hcl
      rcases hb with hb | ⟨cap, c, hl, h0, h00, h1, h2, h3⟩
      · exact .inl hb
      exact .inr ⟨cap, c, hl, h0, h00, h1, h2, fun i hi => ⟨(h3 i hi).1, fun j hj => let ⟨u, a, b⟩ := (h3 i hi).2 j hj; ⟨u, a, b.cut k (AV.cls_get (hcl i hi) j hj)⟩⟩⟩
    | lp s env N ps asg bd =>
      rw [hH] at hb hcl
      obtain ⟨hl, p, fn, tmps, D, h1, h2, h3, h4⟩ := hb
      exact ⟨hl, p, fn, tmps, D, h1, h2, h3, fun d => (h4 d).cut k (clE_look hcl d)⟩
  · simp only [Mp.cut, e, if_false]
    rfl

theorem Tr.cut {w w' : World} {m m' : Mp} (h : Tr w m w' m') (k : Nat) (hk : ∀ r, k ≤ r → m.L r = .absent) : Tr w m w' (m'.cut k) where
  os := h.os
  tape := h.tape
  output := h.output
  size := h.size
  out := h.out
  imm := h.imm
  same := h.same
  newI := h.newI
  step := fun r => by
    by_cases e : r < k
    · simp only [Mp.cut, e, if_true]; exact h.step r
    · rw [hk r (by omega)]; trivial
  newρ := fun r hr => by
    by_cases e : r < k
    · simp only [Mp.cut, e, if_true] at hr ⊢; exact h.newρ r hr
    · simp [Mp.cut, e, Inf.isLive] at hr

end Go.AE
