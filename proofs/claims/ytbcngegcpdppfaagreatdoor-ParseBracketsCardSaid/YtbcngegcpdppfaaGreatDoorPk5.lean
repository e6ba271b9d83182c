/-
  AE, part 12: a call of which the references stand further on; a nil slice as a row ahead of a call; rows frozen behind one. Own metatheory over any program; no statement of the seat is proved here.
  Trees, part 2: the contracts of tree.sizes, Sound, Depth. No statement of the seat is proved here.
  AE, part 13: tests as propositions. Own metatheory over any program; no statement of the seat is proved here.
  Trees that are right, part 2: the contracts of tree.text, number, kids, Right. No statement of the seat is proved here.
  Trees that are right, part 3: the contract of tree.Right. No statement of the seat is proved here.
  The contracts of slices.Equal, tree.Same, strings.Join, token.Join. No statement of the seat is proved here.
  AE, part 14: rows frozen behind a call, of which other rows and aggregates tell. Own metatheory over any program; no statement of the seat is proved here.
  Trees over others: the contracts of tree.shift, tree.Over. No statement of the seat is proved here.
  An expression that is parsed between others, and one deeper. In plain Lean; no program in sight; no statement of the seat is proved here.
  Parser, part 4: the contracts of the functions that read expressions, by depth and by row. No statement of the seat is proved here.
  Parser, part 5: the function that reads operands with signs between, row by row, and all expressions by depth. No statement of the seat is proved here.
  Parser, part 6: all expressions; answers handed on step by step. No statement of the seat is proved here.
-/
import Derived.Lib.Join
import Derived.Test.YtbcngegcpdppfaaGreatDoorPk1
import Derived.Test.YtbcngegcpdppfaaGreatDoorPk2
import Derived.Test.YtbcngegcpdppfaaGreatDoorPk3
import Derived.Test.YtbcngegcpdppfaaGreatDoorPk4
namespace Go.AE
section
variable {P : Program} {T : Tab}

mutual
/-- references n further on -/
def AV.up (n : Nat) : AV → AV
  | .ptr r ver k i off => .ptr (r + n) ver k i off
  | .slr r ver off k => .slr (r + n) ver off k
  | .fn f a b => .fn f (AV.ups n a) (AV.ups n b)
  | .iface t v => .iface t (AV.up n v)
  | .agg l => .agg (AV.ups n l)
  | .tup l => .tup (AV.ups n l)
  | .yld r => .yld (r + n)
  | .p v => .p v
  | .rop cs off => .rop cs off
  | .junk => .junk
def AV.ups (n : Nat) : List AV → List AV
  | [] => []
  | a :: l => AV.up n a :: AV.ups n l
end
mutual
/-- references n less; those below n are none -/
def AV.dn (n : Nat) : AV → AV
  | .ptr r ver k i off => match Nat.ble n r with
    | true => .ptr (Nat.sub r n) ver k i off
    | false => .junk
  | .slr r ver off k => match Nat.ble n r with
    | true => .slr (Nat.sub r n) ver off k
    | false => .junk
  | .fn f a b => .fn f (AV.dns n a) (AV.dns n b)
  | .iface t v => .iface t (AV.dn n v)
  | .agg l => .agg (AV.dns n l)
  | .tup l => .tup (AV.dns n l)
  | .yld r => match Nat.ble n r with
    | true => .yld (Nat.sub r n)
    | false => .junk
  | .p v => .p v
  | .rop cs off => .rop cs off
  | .junk => .junk
def AV.dns (n : Nat) : List AV → List AV
  | [] => []
  | a :: l => AV.dn n a :: AV.dns n l
end
theorem AV.ups_len (n : Nat) (l : List AV) : (AV.ups n l).length = l.length := by
  induction l with
  | nil => rfl
  | cons a l ih => simp [AV.ups, ih]
theorem AV.dns_len (n : Nat) (l : List AV) : (AV.dns n l).length = l.length := by
  induction l with
  | nil => rfl
  | cons a l ih => simp [AV.dns, ih]
theorem AV.ups_get (n : Nat) (l : List AV) (j : Nat) (hj : j < (AV.ups n l).length) : (AV.ups n l)[j] = AV.up n (l[j]'(by rw [AV.ups_len] at hj; exact hj)) := by
  induction l generalizing j with
  | nil => simp [AV.ups] at hj
  | cons a l ih =>
    cases j with
    | zero => rfl
    | succ j => simpa [AV.ups] using ih j (by simpa [AV.ups] using hj)
theorem AV.dns_get (n : Nat) (l : List AV) (j : Nat) (hj : j < (AV.dns n l).length) : (AV.dns n l)[j] = AV.dn n (l[j]'(by rw [AV.dns_len] at hj; exact hj)) := by
  induction l generalizing j with
  | nil => simp [AV.dns] at hj
  | cons a l ih =>
    cases j with
    | zero => rfl
    | succ j => simpa [AV.dns] using ih j (by simpa [AV.dns] using hj)

def Mp.dn (n : Nat) (m : Mp) : Mp := ⟨fun r => m.ρ (r + n), m.I, fun r => m.L (r + n)⟩
def Mp.ups (n : Nat) (m m' : Mp) : Mp := ⟨fun r => if r < n then m.ρ r else m'.ρ (r - n), m'.I, fun r => if r < n then m.L r else m'.L (r - n)⟩

theorem V.dn {w : World} {m : Mp} {a : AV} {u : Value} (n : Nat) (h : V w m a u) : V w (m.dn n) (a.dn n) u := by
  induction h with
  | p v u h => exact .p v u h
  | ptr r ver k i off sz cap h hi =>
    simp only [AV.dn]
    split
    · rename_i hb
      have hb := Nat.le_of_ble_eq_true hb
      have e : Nat.sub r n + n = r := by simp only [Nat.sub_eq]; omega
      have := V.ptr (w := w) (m := m.dn n) (Nat.sub r n) ver k i off sz cap (by simp only [Mp.dn, e, h]) hi
      simp only [Mp.dn, e] at this ⊢
      exact this
    · exact .junk _
  | ptrOld r ver k i off b o h =>
    simp only [AV.dn]
    split
    · rename_i hb
      have hb := Nat.le_of_ble_eq_true hb
      have e : Nat.sub r n + n = r := by simp only [Nat.sub_eq]; omega
      exact .ptrOld (m := m.dn n) _ ver k i off b o (by simp only [Mp.dn, e]; exact h)
    · exact .junk _
  | slr r ver off k N sz cap h hn =>
    simp only [AV.dn]
    split
    · rename_i hb
      have hb := Nat.le_of_ble_eq_true hb
      have e : Nat.sub r n + n = r := by simp only [Nat.sub_eq]; omega
      have := V.slr (w := w) (m := m.dn n) (Nat.sub r n) ver off k N sz cap (by simp only [Mp.dn, e, h]) hn
      simp only [Mp.dn, e] at this ⊢
      exact this
    · exact .junk _
  | slrNil r ver h =>
    simp only [AV.dn]
    split
    · rename_i hb
      have hb := Nat.le_of_ble_eq_true hb
      have e : Nat.sub r n + n = r := by simp only [Nat.sub_eq]; omega
      exact .slrNil (m := m.dn n) _ ver (by simp only [Mp.dn, e, h])
    · exact .junk _
  | slrOld r ver off k ad c h =>
    simp only [AV.dn]
    split
    · rename_i hb
      have hb := Nat.le_of_ble_eq_true hb
      have e : Nat.sub r n + n = r := by simp only [Nat.sub_eq]; omega
      exact .slrOld (m := m.dn n) _ ver off k ad c (by simp only [Mp.dn, e]; exact h)
    · exact .junk _
  | rop cs off b o u hb h1 h2 => exact .rop (m := m.dn n) cs off b o u hb h1 h2
  | fn f first cap A B hA hB h1 h2 ih1 ih2 =>
    exact .fn f _ _ A B (by rw [AV.dns_len]; exact hA) (by rw [AV.dns_len]; exact hB) (fun j hj hj' => by rw [AV.dns_get]; exact ih1 j _ hj') (fun j hj hj' => by rw [AV.dns_get]; exact ih2 j _ hj')
  | iface t v u h ih => exact .iface t _ u ih
  | agg cs A hA h ih => exact .agg _ A (by rw [AV.dns_len]; exact hA) (fun j hj hj' => by rw [AV.dns_get]; exact ih j _ hj')
  | tup cs A hA h ih => exact .tup _ A (by rw [AV.dns_len]; exact hA) (fun j hj hj' => by rw [AV.dns_get]; exact ih j _ hj')
  | yld r sz cap h =>
    simp only [AV.dn]
    split
    · rename_i hb
      have hb := Nat.le_of_ble_eq_true hb
      have e : Nat.sub r n + n = r := by simp only [Nat.sub_eq]; omega
      have := V.yld (w := w) (m := m.dn n) (Nat.sub r n) sz cap (by simp only [Mp.dn, e, h])
      simp only [Mp.dn, e] at this ⊢
      exact this
    · exact .junk _
  | yldOld r b h =>
    simp only [AV.dn]
    split
    · rename_i hb
      have hb := Nat.le_of_ble_eq_true hb
      have e : Nat.sub r n + n = r := by simp only [Nat.sub_eq]; omega
      exact .yldOld (m := m.dn n) _ b (by simp only [Mp.dn, e]; exact h)
    · exact .junk _
  | junk u => exact .junk u

theorem V.ups {w : World} {m0 m : Mp} {a : AV} {u : Value} (n : Nat) (h : V w m a u) : V w (m0.ups n m) (a.up n) u := by
  have hL : ∀ r, (m0.ups n m).L (r + n) = m.L r := fun r => by simp [Mp.ups, show ¬ (r + n < n) by omega]
  have hρ : ∀ r, (m0.ups n m).ρ (r + n) = m.ρ r := fun r => by simp [Mp.ups, show ¬ (r + n < n) by omega]
  induction h with
  | p v u h => exact .p v u h
  | ptr r ver k i off sz cap h hi =>
    have := V.ptr (w := w) (m := m0.ups n m) (r + n) ver k i off sz cap (by rw [hL, h]) hi
    rwa [hρ] at this
  | ptrOld r ver k i off b o h => exact .ptrOld (m := m0.ups n m) _ ver k i off b o (by rw [hL]; exact h)
  | slr r ver off k N sz cap h hn =>
    have := V.slr (w := w) (m := m0.ups n m) (r + n) ver off k N sz cap (by rw [hL, h]) hn
    rwa [hρ] at this
  | slrNil r ver h => exact .slrNil (m := m0.ups n m) _ ver (by rw [hL, h])
  | slrOld r ver off k ad c h => exact .slrOld (m := m0.ups n m) _ ver off k ad c (by rw [hL]; exact h)
  | rop cs off b o u hb h1 h2 => exact .rop (m := m0.ups n m) cs off b o u hb h1 h2
  | fn f first cap A B hA hB h1 h2 ih1 ih2 =>
    exact .fn f _ _ A B (by rw [AV.ups_len]; exact hA) (by rw [AV.ups_len]; exact hB) (fun j hj hj' => by rw [AV.ups_get]; exact ih1 j _ hj') (fun j hj hj' => by rw [AV.ups_get]; exact ih2 j _ hj')
  | iface t v u h ih => exact .iface t _ u ih
  | agg cs A hA h ih => exact .agg _ A (by rw [AV.ups_len]; exact hA) (fun j hj hj' => by rw [AV.ups_get]; exact ih j _ hj')
  | tup cs A hA h ih => exact .tup _ A (by rw [AV.ups_len]; exact hA) (fun j hj hj' => by rw [AV.ups_get]; exact ih j _ hj')
  | yld r sz cap h =>
    have := V.yld (w := w) (m := m0.ups n m) (r + n) sz cap (by rw [hL, h])
    rwa [hρ] at this
  | yldOld r b h => exact .yldOld (m := m0.ups n m) _ b (by rw [hL]; exact h)
  | junk u => exact .junk u

def ABlk.up (n : Nat) : ABlk → ABlk
  | .box ty cs => .box ty (AV.ups n cs)
  | .arr ty sz ver k f => .arr ty sz ver k fun i => AV.ups n (f i)
  | b => b
def ABlk.dn (n : Nat) : ABlk → ABlk
  | .box ty cs => .box ty (AV.dns n cs)
  | .arr ty sz ver k f => .arr ty sz ver k fun i => AV.dns n (f i)
  | b => b
def ABlk.nl : ABlk → Prop
  | .lp _ _ _ _ _ _ => False
  | _ => True
def upsB (n : Nat) : List ABlk → List ABlk
  | [] => []
  | b :: l => b.up n :: upsB n l
def dnsB (n : Nat) : List ABlk → List ABlk
  | [] => []
  | b :: l => b.dn n :: dnsB n l
def nlK : List ABlk → Prop
  | [] => True
  | b :: l => b.nl ∧ nlK l
def AO.up (n : Nat) : AO → AO
  | .ret a => .ret (a.up n)
  | .pan a => .pan (a.up n)
theorem hp_dns (n : Nat) (K : List ABlk) (r : Nat) : hp (dnsB n K) r = (hp K r).dn n := by
  induction K generalizing r with
  | nil => rfl
  | cons b K ih =>
    cases r with
    | zero => rfl
    | succ r => exact ih r
theorem hp_ups (n : Nat) (K : List ABlk) (r : Nat) : hp (upsB n K) r = (hp K r).up n := by
  induction K generalizing r with
  | nil => rfl
  | cons b K ih =>
    cases r with
    | zero => rfl
    | succ r => exact ih r
theorem nlK.hp {K : List ABlk} (h : nlK K) (r : Nat) : (hp K r).nl := by
  induction K generalizing r with
  | nil => trivial
  | cons b K ih =>
    cases r with
    | zero => exact h.1
    | succ r => exact ih h.2 r

theorem BlkOk.dn {w : World} {m : Mp} {l : Inf} {g : Nat} {b : ABlk} (n : Nat) (hn : b.nl) (h : BlkOk w m l g b) : BlkOk w (m.dn n) l g (b.dn n) := by
  cases b with
  | absent => exact h
  | dead => exact h
  | box ty cs =>
    obtain ⟨hl, c, h1, h2, h3⟩ := h
    refine ⟨by rw [AV.dns_len]; exact hl, c, h1, by rw [AV.dns_len]; exact h2, fun j hj => ?_⟩
    rw [AV.dns_get]
    obtain ⟨u, a, b⟩ := h3 j (by rw [AV.dns_len] at hj; exact hj)
    exact ⟨u, a, b.dn n⟩
  | arr ty sz ver k f =>
    rcases h with h | ⟨cap, c, hl, h0, h00, h1, h2, h3⟩
    · exact .inl h
    refine .inr ⟨cap, c, hl, h0, h00, h1, h2, fun i hi => ⟨by rw [AV.dns_len]; exact (h3 i hi).1, fun j hj => ?_⟩⟩
    rw [AV.dns_get]
    obtain ⟨u, a, b⟩ := (h3 i hi).2 j (by rw [AV.dns_len] at hj; exact hj)
    exact ⟨u, a, b.dn n⟩
  | lp => exact hn.elim
theorem BlkOk.ups {w : World} {m0 m : Mp} {l : Inf} {g : Nat} {b : ABlk} (n : Nat) (hn : b.nl) (h : BlkOk w m l g b) : BlkOk w (m0.ups n m) l g (b.up n) := by
  cases b with
  | absent => exact h
  | dead => exact h
  | box ty cs =>
    obtain ⟨hl, c, h1, h2, h3⟩ := h
    refine ⟨by rw [AV.ups_len]; exact hl, c, h1, by rw [AV.ups_len]; exact h2, fun j hj => ?_⟩
    rw [AV.ups_get]
    obtain ⟨u, a, b⟩ := h3 j (by rw [AV.ups_len] at hj; exact hj)
    exact ⟨u, a, b.ups n⟩
  | arr ty sz ver k f =>
    rcases h with h | ⟨cap, c, hl, h0, h00, h1, h2, h3⟩
    · exact .inl h
    refine .inr ⟨cap, c, hl, h0, h00, h1, h2, fun i hi => ⟨by rw [AV.ups_len]; exact (h3 i hi).1, fun j hj => ?_⟩⟩
    rw [AV.ups_get]
    obtain ⟨u, a, b⟩ := (h3 i hi).2 j (by rw [AV.ups_len] at hj; exact hj)
    exact ⟨u, a, b.ups n⟩
  | lp => exact hn.elim

theorem shift_ok {n : Nat} {w w' : World} {m m' : Mp} {Y K2 : List ABlk} {H : Nat → ABlk} (hY : Y.length = n) (hS : St w m H) (hH : ∀ r, r < n → H r = hp Y r) (hT : Tr w (m.dn n) w' m') (hS' : St w' m' (hp K2)) (hnl : nlK K2) :
    Tr w m w' (m.ups n m') ∧ St w' (m.ups n m') (hp (Y ++ upsB n K2)) := by
  have hlo : ∀ r, r < n → (m.ups n m').L r = m.L r ∧ (m.ups n m').ρ r = m.ρ r := fun r hr => by simp [Mp.ups, hr]
  have hhi : ∀ r, ¬ r < n → (m.ups n m').L r = m'.L (r - n) ∧ (m.ups n m').ρ r = m'.ρ (r - n) := fun r hr => by simp [Mp.ups, hr]
  have hdn : ∀ r, ¬ r < n → (m.dn n).L (r - n) = m.L r ∧ (m.dn n).ρ (r - n) = m.ρ r := fun r hr => by
    have : r - n + n = r := by omega
    simp only [Mp.dn, this]; exact ⟨trivial, trivial⟩
  have hTr : Tr w m w' (m.ups n m') := {
    os := hT.os
    tape := hT.tape
    output := hT.output
    size := hT.size
    out := fun b hb hr => hT.out b hb fun r hl => hr (r + n) hl
    imm := fun b hb => hT.imm b hb
    same := fun b hb => hT.same b hb
    newI := fun b hb => by
      rcases hT.newI b hb with h | ⟨r, h1, h2⟩ | h
      · exact .inl h
      · exact .inr (.inl ⟨r + n, h1, h2⟩)
      · exact .inr (.inr h)
    step := fun r => by
      by_cases hr : r < n
      · rw [(hlo r hr).1, (hlo r hr).2]; exact Inf.step_refl _ _ rfl
      · rw [(hhi r hr).1, (hhi r hr).2]
        have := hT.step (r - n)
        rw [(hdn r hr).1, (hdn r hr).2] at this
        exact this
    newρ := fun r hl => by
      by_cases hr : r < n
      · rw [(hlo r hr).1] at hl; exact .inl ⟨hl, (hlo r hr).2⟩
      · rw [(hhi r hr).1] at hl
        rw [(hhi r hr).2]
        rcases hT.newρ (r - n) hl with ⟨h1, h2⟩ | h1
        · rw [(hdn r hr).1] at h1
          rw [(hdn r hr).2] at h2
          exact .inl ⟨h1, h2⟩
        · exact .inr h1 }
  have sep : ∀ r1 r2, r1 < n → (m.L r1).isLive → ¬ r2 < n → (m'.L (r2 - n)).isLive → m.ρ r1 ≠ m'.ρ (r2 - n) := fun r1 r2 h1 hl1 h2 hl2 e => by
    rcases hT.newρ (r2 - n) hl2 with ⟨h3, h4⟩ | h3
    · rw [(hdn r2 h2).1] at h3
      rw [(hdn r2 h2).2] at h4
      have := hS.inj r1 r2 hl1 h3 (e.trans h4)
      omega
    · have := hS.lt r1 hl1; omega
  refine ⟨hTr, fun r1 r2 h1 h2 e => ?_, fun r h1 hI => ?_, fun r h1 => ?_, hS'.Ilt, hS'.gl, fun r => ?_⟩
  · by_cases hr1 : r1 < n <;> by_cases hr2 : r2 < n
    · rw [(hlo r1 hr1).1] at h1; rw [(hlo r2 hr2).1] at h2
      rw [(hlo r1 hr1).2, (hlo r2 hr2).2] at e
      exact hS.inj r1 r2 h1 h2 e
    · rw [(hlo r1 hr1).1] at h1; rw [(hhi r2 hr2).1] at h2
      rw [(hlo r1 hr1).2, (hhi r2 hr2).2] at e
      exact absurd e (sep r1 r2 hr1 h1 hr2 h2)
    · rw [(hhi r1 hr1).1] at h1; rw [(hlo r2 hr2).1] at h2
      rw [(hhi r1 hr1).2, (hlo r2 hr2).2] at e
      exact absurd e.symm (sep r2 r1 hr2 h2 hr1 h1)
    · rw [(hhi r1 hr1).1] at h1; rw [(hhi r2 hr2).1] at h2
      rw [(hhi r1 hr1).2, (hhi r2 hr2).2] at e
      have := hS'.inj _ _ h1 h2 e
      omega
  · by_cases hr : r < n
    · rw [(hlo r hr).1] at h1
      rw [(hlo r hr).2] at hI
      rcases hT.newI _ hI with h | ⟨r0, h2, h3⟩ | h
      · exact hS.notI r h1 h
      · have := hS.inj (r0 + n) r h2 h1 h3; omega
      · have := hS.lt r h1; omega
    · rw [(hhi r hr).1] at h1
      rw [(hhi r hr).2] at hI
      exact hS'.notI _ h1 hI
  · by_cases hr : r < n
    · rw [(hlo r hr).1] at h1
      rw [(hlo r hr).2]
      exact Nat.lt_of_lt_of_le (hS.lt r h1) hT.size
    · rw [(hhi r hr).1] at h1
      rw [(hhi r hr).2]
      exact hS'.lt _ h1
  · rw [hp_append, hY]
    by_cases hr : r < n
    · rw [if_pos hr, (hlo r hr).1, (hlo r hr).2]
      have hb := hS.blk r
      rw [hH r hr] at hb
      by_cases hl : (m.L r).isLive
      · refine hb.mono (hT.out _ (hS.lt r hl) fun r0 h0 e => ?_) (fun _ _ hv => hv.mono hTr)
        have := hS.inj (r0 + n) r h0 hl e
        omega
      · exact hb.nolive hl
    · rw [if_neg hr, (hhi r hr).1, (hhi r hr).2, hp_ups]
      exact (hS'.blk (r - n)).ups n (hnl.hp _)

theorem St.dn {w : World} {m : Mp} {Y K1 : List ABlk} {n : Nat} (hY : Y.length = n) (hnl : nlK K1) (hS : St w m (hp (Y ++ K1))) : St w (m.dn n) (hp (dnsB n K1)) := by
  refine ⟨fun r1 r2 h1 h2 e => by have := hS.inj (r1 + n) (r2 + n) h1 h2 e; omega, fun r h1 => hS.notI (r + n) h1, fun r h1 => hS.lt (r + n) h1, hS.Ilt, hS.gl, fun r => ?_⟩
  rw [hp_dns]
  have hb := hS.blk (r + n)
  rw [hp_append, hY, if_neg (by omega), show r + n - n = r by omega] at hb
  exact hb.dn n (hnl.hp _)

/-- a call of which the references stand behind some blocks that it does not know -/
theorem ACalls.shift {n : Nat} {f : FuncId} {args : List AV} {Y K1 : List ABlk} {k : AO → List ABlk → Prop} (hY : Y.length = n) (hnl : nlK K1)
    (h : ACalls P f (AV.dns n args) (dnsB n K1) (fun ao K2 => nlK K2 ∧ k (ao.up n) (Y ++ upsB n K2))) : ACalls P f args (Y ++ K1) k := by
  refine ⟨h.1, fun w m Args hS hV => ?_⟩
  have hV' : VL w (m.dn n) (AV.dns n args) Args := ⟨by rw [AV.dns_len]; exact hV.1, fun j hj hj' => by rw [AV.dns_get]; exact (hV.2 j _ hj').dn n⟩
  have hH : ∀ r, r < n → hp (Y ++ K1) r = hp Y r := fun r hr => by rw [hp_append, hY, if_pos hr]
  refine (h.2 w (m.dn n) Args (hS.dn hY hnl) hV').mono fun e w' he => ?_
  cases e with
  | returned u =>
    obtain ⟨m', a, K2, h1, h2, h3, h4, h5⟩ := he
    obtain ⟨k1, k2⟩ := shift_ok hY hS hH h1 h2 h4
    exact ⟨_, _, _, k1, k2, h3.ups n, h5⟩
  | panicked ch =>
    obtain ⟨m', a, u, K2, h0, h1, h2, h3, h4, h5⟩ := he
    obtain ⟨k1, k2⟩ := shift_ok hY hS hH h1 h2 h4
    exact ⟨_, _, u, _, h0, k1, k2, h3.ups n, h5⟩
  | outgrown => exact he.elim

/-- ahead of a call: a nil slice is a row of nothing -/
theorem ACalls.nilPre {f : FuncId} {args : List AV} {K K' : List ABlk} {k : AO → List ABlk → Prop} (ty sz : Nat) (g : Nat → List AV) (hK : nswK K.length K K')
    (h : ACalls P f args (K' ++ [.arr ty sz 0 0 g]) k) : ACalls P f args K k :=
  h.pre fun w m Args hS hV => by
    obtain ⟨m', h1, h2, _⟩ := nil_core ty sz g hS hK
    exact ⟨m', h1, h2, hV.1, fun j hj hj' => (hV.2 j hj hj').mono h1⟩

/-! ### rows frozen behind a call -/
/-- in weaker words, or a row as data -/
def fsw (r sz n : Nat) (g : Nat → List PV) (a b : AV) : Prop := a.le b ∨ (a = .slr r 0 0 n ∧ b = .p (.sl sz n g))
def fswL (r sz n : Nat) (g : Nat → List PV) : List AV → List AV → Prop
  | [], [] => True
  | a :: l, b :: l' => fsw r sz n g a b ∧ fswL r sz n g l l'
  | _, _ => False
def fswB (r sz n : Nat) (g : Nat → List PV) (b b' : ABlk) : Prop := b.le b' ∨ ∃ ty cs cs', b = .box ty cs ∧ b' = .box ty cs' ∧ fswL r sz n g cs cs'
def fswK (r sz n : Nat) (g : Nat → List PV) : List ABlk → List ABlk → Prop
  | [], [] => True
  | a :: l, b :: l' => fswB r sz n g a b ∧ fswK r sz n g l l'
  | _, _ => False
theorem fswL.get {r sz n : Nat} {g : Nat → List PV} {l l' : List AV} (h : fswL r sz n g l l') : l.length = l'.length ∧ ∀ j (hj : j < l.length) (hj' : j < l'.length), fsw r sz n g l[j] l'[j] := by
  induction l generalizing l' with
  | nil => cases l' with
    | nil => exact ⟨rfl, fun j hj => by simp at hj⟩
    | cons b l' => exact h.elim
  | cons a l ih => cases l' with
    | nil => exact h.elim
    | cons b l' =>
      obtain ⟨h1, h2⟩ := ih h.2
      refine ⟨by simp [h1], fun j hj hj' => ?_⟩
      cases j with
      | zero => exact h.1
      | succ j => exact h2 j (by simpa using hj) (by simpa using hj')
theorem fswK.hp {r sz n : Nat} {g : Nat → List PV} {K K' : List ABlk} (h : fswK r sz n g K K') (j : Nat) : fswB r sz n g (hp K j) (hp K' j) := by
  induction K generalizing K' j with
  | nil => cases K' with
    | nil => exact .inl (ABlk.le_refl _)
    | cons b l' => exact h.elim
  | cons a l ih => cases K' with
    | nil => exact h.elim
    | cons b l' =>
      cases j with
      | zero => exact h.1
      | succ j => exact ih h.2 j

theorem fz_core {w : World} {m : Mp} {K K' : List ABlk} {r ty sz n : Nat} {f : Nat → List AV} {g : Nat → List PV} (hS : St w m (hp K)) (hr : nth K r = some (.arr ty sz 0 n f)) (hg : ∀ i, i < n → f i = pvs (g i))
    (hK : fswK r sz n g (setN K r .dead) K') : ∃ m', Tr w m w m' ∧ St w m' (hp K') ∧ ∀ a a' u, fsw r sz n g a a' → V w m a u → V w m' a' u := by
  obtain ⟨m', hT, hS', hV⟩ := freeze_sl hS hr g hg
  have hv : ∀ a a' u, fsw r sz n g a a' → V w m a u → V w m' a' u := fun a a' u h hu => by
    rcases h with h | ⟨rfl, rfl⟩
    · exact h _ _ _ (hu.mono hT)
    · exact hV u hu
  refine ⟨m', hT, ⟨hS'.inj, hS'.notI, hS'.lt, hS'.Ilt, hS'.gl, fun j => ?_⟩, hv⟩
  have hb := hS'.blk j
  rcases hK.hp j with h | ⟨ty, cs, cs', h1, h2, h3⟩
  · exact h _ _ _ _ hb
  · rw [h1] at hb
    rw [h2]
    have hup : hp (setN K r .dead) j = upd (hp K) r .dead j := by rw [upd_setN _ (nth_lt hr)]
    have hj : hp K j = .box ty cs := by
      rw [h1] at hup
      simp only [upd] at hup
      split at hup
      · cases hup
      · exact hup.symm
    have hb0 := hS.blk j
    rw [hj] at hb0
    obtain ⟨hl0, c0, e1, e2, e3⟩ := hb0
    obtain ⟨hl, c, d1, d2, d3⟩ := hb
    have hρ : m'.ρ j = m.ρ j := by
      have hs := hT.step j
      rw [hl0, hl] at hs
      simp only [Inf.step] at hs
      rcases hs with hs | ⟨_, he⟩ | ⟨v', n', sz', cap', hs, hlt⟩
      · cases hs
      · exact he
      · simp only [Inf.live.injEq] at hs; omega
    obtain ⟨k1, k2⟩ := h3.get
    refine ⟨by rw [← k1]; exact hl, c0, by rw [hρ]; exact e1, by rw [e2, k1], fun i hi => ?_⟩
    obtain ⟨u, hu, hvu⟩ := e3 i (by omega)
    exact ⟨u, hu, hv _ _ _ (k2 i (by omega) hi) hvu⟩

theorem Wk1.fz {N : Nat} {K K' : List ABlk} {r ty sz n : Nat} {f : Nat → List AV} {a a' : AV} (g : Nat → List PV) (hr : nth K r = some (.arr ty sz 0 n f)) (hg : ∀ i, i < n → f i = pvs (g i))
    (hK : fswK r sz n g (setN K r .dead) K') (ha : a.le a') : Wk1 N a K a' K' := fun w m u we me hT _ hS hV => by
  obtain ⟨m', h1, h2, h3⟩ := fz_core hS hr hg hK
  exact ⟨m', hT.trans h1, h2, h3 _ _ _ (.inl ha) hV⟩

/-- what the values of a call tell -/
theorem ACalls.fact {f : FuncId} {args : List AV} {K : List ABlk} {k : AO → List ABlk → Prop} {c : Prop} (hent : Ent P f) (hf : ∀ w m Args, St w m (hp K) → VL w m args Args → c) (h : c → ACalls P f args K k) : ACalls P f args K k :=
  ⟨hent, fun w m Args hS hV => (h (hf w m Args hS hV)).2 w m Args hS hV⟩
theorem VP.len {w : World} {I : Nat → Prop} {sz n : Nat} {f : Nat → List PV} {u : Value} (h : VP w I (.sl sz n f) u) : n ≤ 9223372036854775807 := by
  cases h with
  | sl0 => omega
  | sl _ _ _ b o c uu hI hcap hc hv => have := hcap.2; simp only [maxLen] at this; omega
theorem VP.get {w : World} {I : Nat → Prop} {sz n : Nat} {f : Nat → List PV} {u : Value} (h : VP w I (.sl sz n f) u) {i j : Nat} (hi : i < n) (hj : j < (f i).length) : ∃ u, VP w I (f i)[j] u := by
  cases h with
  | sl0 => omega
  | sl _ _ _ b o c uu hI hcap hc hv => exact ⟨_, hv i hi j hj⟩
end
end Go.AE

namespace Go.Proofs.YtbcngegcpdppfaaGreatDoor
open Go.AE Go.Ru
set_option maxRecDepth 100000
set_option pp.maxSteps 4000

theorem ent_ok {f : FuncId} (h : ∃ fn, T0.f.get f = some fn ∧ fn.body.isSome = true) : Ent Tryz.prog f := by
  obtain ⟨fn, h1, h2⟩ := h
  obtain ⟨h3, h4⟩ := tabOk.f f fn h1
  exact ⟨fn, h3, h4, h2⟩
theorem kids_bound {w : World} {I : Nat → Prop} {ns : List Nd} {u : Value} (h : VP w I (.sl 5 ns.length (nodeF ns)) u) (i : Nat) : (ns.getD i default).kids.length ≤ 9223372036854775807 := by
  by_cases hi : i < ns.length
  · obtain ⟨u, hu⟩ := h.get (i := i) (j := 4) hi (by simp [nodeF, encNode])
    exact VP.len (show VP w I (.sl 1 (ns.getD i default).kids.length (kidF (ns.getD i default).kids)) u from hu)
  · rw [List.getD_eq_getElem?_getD, List.getElem?_eq_none (by omega)]
    exact Nat.zero_le _

def natF (l : List Nat) (i : Nat) : List PV := [.int .i64 (l.getD i 0 : Nat)]
def natA (l : List Nat) : ABlk := .arr 3 1 0 l.length (fun i => pvs (natF l i))
def sizesV : Option (List Nat) → AV
  | some l => .tup [.p (.sl 1 l.length (natF l)), .p (.bool true)]
  | none => .tup [.p .nils, .p (.bool false)]
def cSizes : AC := fun args K k => ∃ (ns : List Nd), args = [.p (.sl 5 ns.length (nodeF ns))] ∧ ns.length ≤ 4000 ∧ k (.ret (sizesV (sizesS ns []))) K

structure RC where
  j : Nat
  size : Nat
  last : Int
def sizK (l : List Nat) : List ABlk := [.box 39 [.p .nils], .box 4 [.p (.bool false)], .box 39 [.slr 3 0 0 l.length], natA l]
theorem natA_snoc (l : List Nat) (x : Nat) (f : Nat → List AV) (hf : f 0 = [intV x]) : (ABlk.arr 3 1 0 (l.length + 1) (catF l.length (fun i => pvs (natF l i)) f)).le (natA (l ++ [x])) := by
  refine ABlk.arr_eq (by simp) fun i hi => ?_
  by_cases h : i < l.length
  · rw [catF_lt h]
    simp [natF, List.getD_eq_getElem?_getD, List.getElem?_append_left h]
  · obtain rfl : i = l.length := by omega
    rw [catF_ge (Nat.le_refl _), Nat.sub_self, hf]
    simp [natF, List.getD_eq_getElem?_getD, pvs, intV]
theorem nat_cl (l : List Nat) (x : Nat) (f : Nat → List AV) (n : Nat) (hf : f 0 = [intV x]) : (ABlk.arr 3 1 0 (l.length + 1) (catF l.length (fun i => pvs (natF l i)) f)).cl n := fun i hi => by
  by_cases h : i < l.length
  · rw [catF_lt h]; rfl
  · obtain rfl : i = l.length := by omega
    rw [catF_ge (Nat.le_refl _), Nat.sub_self, hf]; rfl
theorem sizes_ok : COk 67 cSizes := by
  rintro args K k ⟨ns, rfl, hn, hk⟩
  refine ACalls.fact (ent_ok ⟨_, rfl, rfl⟩) (c := ∀ i, (ns.getD i default).kids.length ≤ 9223372036854775807) (fun w m Args hS hV => ?_) fun hkid => ?_
  · have h0 := hV.2 0 (by simp) (by have := hV.1; simp at this; omega)
    simp only [List.getElem_cons_zero] at h0
    generalize Args[0]'(by have := hV.1; simp at this; omega) = u at h0
    cases h0 with
    | p _ _ h => exact kids_bound h
  refine frame0W g0_ok 19 rfl fun Q hr => ?_
  conv => whnf
  refine loop_nil (ι := List Nat) 3 1 (fun j => pvs (natF [] j)) (fun l => ⟨[(2, .ptr 0 0 1 0 0), (3, .ptr 1 0 1 0 0), (4, .ptr 2 0 1 0 0), (11, .p (.sl 5 ns.length (nodeF ns))), (12, .p (.int .i64 ns.length)), (13, .p (.int .i64 l.length))], sizK l⟩)
    (fun l => l.length ≤ ns.length ∧ szOk l ∧ sizesS (ns.drop l.length) l = sizesS ns []) (fun l => ns.length - l.length) [] [.box 39 [.p .nils], .box 4 [.p (.bool false)], .box 39 [.slr 3 0 0 0]]
    rfl ⟨.inl (AV.le_refl _), .inl (AV.le_refl _), .inl (AV.le_refl _), .inl (AV.le_refl _), .inl (AV.le_refl _), .inl (AV.le_refl _), trivial⟩
    ⟨.inl (ABlk.le_refl _), .inl (ABlk.le_refl _), .inr ⟨_, _, _, rfl, rfl, .inr ⟨rfl, rfl⟩, trivial⟩, trivial⟩ rfl ⟨Nat.zero_le _, fun i hi => by simp at hi, rfl⟩ ?_
  rintro Y hle l ⟨hl, hso, he⟩ ih
  have hd : decide ((l.length : Int) < (ns.length : Int)) = decide (l.length < ns.length) := by
    by_cases h : l.length < ns.length
    · rw [decide_eq_true h, decide_eq_true (by omega)]
    · rw [decide_eq_false h, decide_eq_false (by omega)]
  conv => whnf
  refine two_intro (fun h => ?_) (fun h => ?_)
  · rw [hd] at h
    have h := of_decide_eq_true h
    have hs2 : ns.drop l.length = ns[l.length] :: ns.drop (l.length + 1) := List.drop_eq_getElem_cons h
    have hgd : ns.getD l.length default = ns[l.length] := by simp [h]
    rw [hs2] at he
    simp only [sizesS] at he
    rw [← hgd] at he
    have hkl := hkid l.length
    have hwr : IntKind.i64.wrap ((l.length : Int) - 1) = (l.length : Int) - 1 := w64 ⟨by omega, by omega⟩
    have hwk : IntKind.i64.wrap (((ns.getD l.length default).kids.length : Int) - 1) = ((ns.getD l.length default).kids.length : Int) - 1 := w64 ⟨by omega, by omega⟩
    conv => whnf
    refine ⟨by simp <;> omega, ?_⟩
    conv => whnf
    refine loop_up (ι := RC) [0, 1] (fun c => [(3, .p (.int .i64 ((c.j : Int) - 1)))]) (fun c => [(5, .box 3 [.p (.int .i64 (c.size : Int))]), (6, .box 3 [.p (.int .i64 c.last)])])
      (fun c => c.j ≤ (ns.getD l.length default).kids.length ∧ c.last < l.length ∧ -1 ≤ c.last ∧ (c.size : Int) = l.length - c.last ∧
        kidsS l ((ns.getD l.length default).kids.take c.j).reverse c.last c.size = kidsS l (ns.getD l.length default).kids.reverse ((l.length : Int) - 1) 1) (fun c => c.j) ⟨(ns.getD l.length default).kids.length, 1, (l.length : Int) - 1⟩
      ⟨AV.le_of_eq (congrArg (fun x => AV.p (.int .i64 x)) hwk), trivial⟩ ⟨upLe1 rfl (ABlk.le_refl _), upLe1 rfl (ABlk.le_of_eq (congrArg (fun x => ABlk.box 3 [.p (.int .i64 x)]) hwr)), trivial⟩
      ⟨Nat.le_refl _, by simp only; omega, by simp only; omega, by simp only; omega, by simp only [List.take_length]⟩ ?_
    rintro Z hlz ⟨j, size, last⟩ ⟨hj, hl1, hl2, hl3, hke⟩ ihz
    simp only at hj hl1 hl2 hl3 hke
    have hdj : decide (((j : Int) - 1) ≥ 0) = decide (0 < j) := by
      by_cases h : 0 < j
      · rw [decide_eq_true h, decide_eq_true (by omega)]
      · rw [decide_eq_false h, decide_eq_false (by omega)]
    conv => whnf
    refine two_intro (fun hjj => ?_) (fun hjj => ?_)
    · rw [hdj] at hjj
      have hjj := of_decide_eq_true hjj
      obtain ⟨j, rfl⟩ : ∃ i, j = i + 1 := ⟨j - 1, by omega⟩
      obtain ⟨q, hq⟩ : ∃ q, (ns.getD l.length default).kids.getD j 0 = q := ⟨_, rfl⟩
      have htk : ((ns.getD l.length default).kids.take (j + 1)).reverse = q :: ((ns.getD l.length default).kids.take j).reverse := by
        rw [List.take_add_one, List.reverse_append, ← hq]
        have hlt : j < (ns.getD l.length default).kids.length := by omega
        generalize (ns.getD l.length default).kids = ks at hlt
        rw [List.getD_eq_getElem?_getD, List.getElem?_eq_getElem hlt]
        rfl
      rw [htk] at hke
      simp only [kidsS] at hke
      have hjt : (((j + 1 : Nat) : Int) - 1).toNat = j := by omega
      have hbad : (q == last && decide (0 ≤ q)) = false → k (.ret (.tup [.p .nils, .p (.bool false)])) K := fun hb => by
        rw [hb] at hke
        simp only at hke
        rw [← hke] at he
        simp only at he
        rw [← he] at hk
        exact hk
      conv => whnf
      refine ⟨⟨by show (0 : Int) ≤ ((j + 1 : Nat) : Int) - 1; omega, by show ((j + 1 : Nat) : Int) - 1 < ((ns.getD l.length default).kids.length : Int); omega, rfl⟩, ?_⟩
      conv => whnf
      refine two_intro (fun hne => ?_) (fun hne => ?_)
      · have hne : ((ns.getD l.length default).kids.getD (((j + 1 : Nat) : Int) - 1).toNat 0 != last) = true := hne
        rw [hjt, hq] at hne
        conv => whnf
        exact hr _ _ _ _ (Wk1.refl _ _ _) rfl (hbad (by simp at hne; simp [hne]))
      · have hne : ((ns.getD l.length default).kids.getD (((j + 1 : Nat) : Int) - 1).toNat 0 != last) = false := hne
        rw [hjt, hq] at hne
        conv => whnf
        refine two_intro (fun hn0 => ?_) (fun hn0 => ?_)
        · have hn0 : decide ((ns.getD l.length default).kids.getD (((j + 1 : Nat) : Int) - 1).toNat 0 < 0) = true := hn0
          rw [hjt, hq] at hn0
          conv => whnf
          exact hr _ _ _ _ (Wk1.refl _ _ _) rfl (hbad (by have := of_decide_eq_true hn0; simp [show ¬ (0 ≤ q) by omega]))
        · have hn0 : decide ((ns.getD l.length default).kids.getD (((j + 1 : Nat) : Int) - 1).toNat 0 < 0) = false := hn0
          rw [hjt, hq] at hn0
          have hn0 := of_decide_eq_false hn0
          have hql : q = last := by simpa using hne
          subst hql
          rw [show (q == q && decide (0 ≤ q)) = true by simp; omega] at hke
          simp only at hke
          have hsq := hso q.toNat (by omega)
          have hC : ∀ x : Int, x = q → 0 ≤ x ∧ x < (l.length : Int) := fun x hx => by subst hx; omega
          have hqe : (ns.getD l.length default).kids.getD (((j + 1 : Nat) : Int) - 1).toNat 0 = q := by rw [hjt, hq]
          conv => whnf
          refine ⟨⟨rfl, Nat.zero_add _, (hC _ hqe).1, (hC _ hqe).2, rfl⟩, ?_⟩
          conv => whnf
          refine ⟨⟨rfl, rfl⟩, ?_⟩
          conv => whnf
          refine ⟨⟨rfl, Nat.zero_add _, (hC _ hqe).1, (hC _ hqe).2, rfl⟩, ?_⟩
          conv => whnf
          refine ⟨⟨rfl, rfl⟩, ?_⟩
          conv => whnf
          have hszq : IntKind.i64.wrap ((size : Int) + (l.getD q.toNat 0 : Nat)) = ((size + l.getD q.toNat 0 : Nat) : Int) := by rw [w64 ⟨by omega, by omega⟩]; omega
          have hlaq : IntKind.i64.wrap (q - (l.getD q.toNat 0 : Nat)) = q - (l.getD q.toNat 0 : Nat) := w64 ⟨by omega, by omega⟩
          have hjq : IntKind.i64.wrap ((((j + 1 : Nat) : Int) - 1) - 1) = (j : Int) - 1 := by rw [w64 ⟨by omega, by omega⟩]; omega
          refine hlz _ _ (Le.cutEnv 9 rfl rfl ⟨rfl, rfl, rfl, fun _ _ => rfl, rfl, rfl, rfl, rfl, rfl, trivial⟩
            ?e1 ?e2)
            (ihz ⟨j, size + l.getD q.toNat 0, q - (l.getD q.toNat 0 : Nat)⟩ (Nat.lt_succ_self _) ⟨?_, ?_, ?_, ?_, hke⟩)
          case e1 =>
            (conv => whnf)
            refine ⟨AV.le_of_eq (congrArg (fun x => AV.p (.int .i64 x)) hjq), ?_⟩
            (conv => whnf)
            refine ⟨AV.le_refl _, ?_⟩
            (conv => whnf)
            refine ⟨AV.le_refl _, ?_⟩
            (conv => whnf)
            exact trivial
          case e2 =>
            (conv => whnf)
            refine ⟨ABlk.le_refl _, ?_⟩
            (conv => whnf)
            refine ⟨ABlk.le_refl _, ?_⟩
            (conv => whnf)
            refine ⟨ABlk.le_refl _, ?_⟩
            (conv => whnf)
            refine ⟨ABlk.le_refl _, ?_⟩
            (conv => whnf)
            refine ⟨ABlk.le_refl _, ?_⟩
            (conv => whnf)
            refine ⟨ABlk.le_of_eq (congrArg (fun x => ABlk.box 3 [.p (.int .i64 x)]) (show IntKind.i64.wrap ((size : Int) + (l.getD (0 + ((ns.getD l.length default).kids.getD (((j + 1 : Nat) : Int) - 1).toNat 0).toNat) 0 : Nat)) = ((size + l.getD q.toNat 0 : Nat) : Int) by rw [hqe, Nat.zero_add]; exact hszq)), ?_⟩
            (conv => whnf)
            refine ⟨ABlk.le_of_eq (congrArg (fun x => ABlk.box 3 [.p (.int .i64 x)]) (show IntKind.i64.wrap ((ns.getD l.length default).kids.getD (((j + 1 : Nat) : Int) - 1).toNat 0 - (l.getD (0 + ((ns.getD l.length default).kids.getD (((j + 1 : Nat) : Int) - 1).toNat 0).toNat) 0 : Nat)) = q - (l.getD q.toNat 0 : Nat) by rw [hqe, Nat.zero_add]; exact hlaq)), ?_⟩
            (conv => whnf)
            refine ⟨ABlk.le_refl _, ?_⟩
            (conv => whnf)
            refine ⟨ABlk.le_refl _, ?_⟩
            (conv => whnf)
            exact trivial
          · show j ≤ _; omega
          · show q - (l.getD q.toNat 0 : Nat) < _; omega
          · show -1 ≤ q - (l.getD q.toNat 0 : Nat); omega
          · show ((size + l.getD q.toNat 0 : Nat) : Int) = _ - (q - (l.getD q.toNat 0 : Nat)); omega
    · rw [hdj] at hjj
      have hjj := of_decide_eq_false hjj
      obtain rfl : j = 0 := by omega
      simp only [List.take_zero, List.reverse_nil, kidsS] at hke
      rw [← hke] at he
      simp only at he
      have hinv := kidsS_inv hso _ _ _ size (by omega) (by omega) (by omega) hke.symm
      conv => whnf
      refine ⟨⟨rfl, rfl, rfl, allLt_ok ⟨trivial, rfl⟩⟩, ?_⟩
      conv => whnf
      refine ⟨⟨rfl, rfl, rfl, rfl, ?_, ?_⟩, ?_⟩
      · show (l.length + 1) * 8 ≤ 140737488355328
        omega
      · show l.length + 1 ≤ 9223372036854775807
        omega
      conv => whnf
      refine hle _ _ (Le.cutEnv 4 rfl rfl ⟨rfl, rfl, rfl, nat_cl l size _ 4 rfl, trivial⟩ ?e1 ?e2) (ih (l ++ [size]) ?_ ⟨?_, szOk_snoc hso hinv, ?_⟩)
      case e1 =>
        (conv => whnf)
        refine ⟨AV.le_refl _, ?_⟩
        (conv => whnf)
        refine ⟨AV.le_refl _, ?_⟩
        (conv => whnf)
        refine ⟨AV.le_refl _, ?_⟩
        (conv => whnf)
        refine ⟨AV.le_refl _, ?_⟩
        (conv => whnf)
        refine ⟨AV.le_refl _, ?_⟩
        (conv => whnf)
        refine ⟨AV.le_of_eq (congrArg (fun x => AV.p (.int .i64 x)) (show IntKind.i64.wrap ((l.length : Int) + 1) = ((l ++ [size]).length : Int) by rw [w64 ⟨by omega, by omega⟩]; simp)), ?_⟩
        (conv => whnf)
        exact trivial
      case e2 =>
        (conv => whnf)
        refine ⟨ABlk.le_refl _, ?_⟩
        (conv => whnf)
        refine ⟨ABlk.le_refl _, ?_⟩
        (conv => whnf)
        refine ⟨ABlk.le_of_eq (congrArg (fun x => ABlk.box 39 [.slr 3 0 0 x]) (show l.length + 1 = (l ++ [size]).length by simp)), ?_⟩
        (conv => whnf)
        refine ⟨natA_snoc l size _ rfl, ?_⟩
        (conv => whnf)
        exact trivial
      · show ns.length - (l ++ [size]).length < ns.length - l.length
        simp only [List.length_append, List.length_cons, List.length_nil]; omega
      · show (l ++ [size]).length ≤ ns.length
        simp only [List.length_append, List.length_cons, List.length_nil]; omega
      · show sizesS (ns.drop (l ++ [size]).length) (l ++ [size]) = _
        rw [← he]
        simp only [List.length_append, List.length_cons, List.length_nil]
  · rw [hd] at h
    have h := of_decide_eq_false h
    rw [List.drop_of_length_le (by omega)] at he
    simp only [sizesS] at he
    rw [← he] at hk
    conv => whnf
    exact hr _ _ _ _ (Wk1.tup_freeze1 (r := 3) rfl (natF l) (fun _ _ => rfl)) rfl hk

def gR1 : AG := gput 67 cSizes g0
theorem gR1_ok : GOk Tryz.prog gR1 := gput_ok sizes_ok g0_ok
def treeV (ns : List Nd) (root : Int) : AV := .agg [.p (.sl 5 ns.length (nodeF ns)), .p (.int .i64 root)]
def cSound : AC := fun args K k => ∃ (ns : List Nd) (root : Int), args = [treeV ns root] ∧ ns.length < 1000000 ∧ k (.ret (.p (.bool (soundS ns root)))) K
theorem sound_ok : COk 32 cSound := by
  rintro args K k ⟨ns, root, rfl, hn, hk⟩
  refine frame0P gR1_ok 19 rfl fun Q hr => ?_
  have hbad : soundS ns root = false → k (.ret (.p (.bool false))) K := fun h => by rwa [h] at hk
  have hw : (0 : Int) < ns.length → IntKind.i64.wrap ((ns.length : Int) - 1) = (ns.length : Int) - 1 := fun h => w64 ⟨by omega, by omega⟩
  conv => whnf
  refine two_intro (fun h1 => ?_) (fun h1 => ?_)
  · conv => whnf
    exact hr _ _ rfl (hbad (by
      have : ns.length = 0 := by have := beq_iff_eq.1 h1; omega
      simp [soundS, this]))
  have h1 : 0 < ns.length := by
    have : ¬ ((ns.length : Int) = 0) := by simpa using h1
    omega
  conv => whnf
  refine two_intro (fun h2 => ?_) (fun h2 => ?_)
  · conv => whnf
    exact hr _ _ rfl (hbad (by
      have : (ns.length : Int) > 4000 := of_decide_eq_true h2
      simp [soundS, show 4000 < ns.length by omega]))
  have h2 : ns.length ≤ 4000 := by
    have : ¬ ((ns.length : Int) > 4000) := of_decide_eq_false h2
    omega
  conv => whnf
  refine two_intro (fun h3 => ?_) (fun h3 => ?_)
  · have h3 : (root != IntKind.i64.wrap ((ns.length : Int) - 1)) = true := h3
    rw [hw (by omega)] at h3
    conv => whnf
    exact hr _ _ rfl (hbad (by simp only [soundS, h3]; simp))
  have h3 : (root != IntKind.i64.wrap ((ns.length : Int) - 1)) = false := h3
  rw [hw (by omega)] at h3
  have h4 : root = (ns.length : Int) - 1 := by simpa using h3
  conv => whnf
  refine ⟨ns, rfl, h2, ?_⟩
  cases hz : sizesS ns [] with
  | none =>
    conv => whnf
    exact hr _ _ rfl (hbad (by simp [soundS, hz]))
  | some l =>
    obtain ⟨hl, _, _⟩ := sizesS_inv ns [] l (fun i hi => by simp at hi) hz
    simp only [List.length_nil, Nat.zero_add] at hl
    conv => whnf
    refine ⟨⟨by omega, by omega, rfl⟩, ?_⟩
    conv => whnf
    refine hr _ _ rfl ?_
    have e : soundS ns root = (l.getD root.toNat 0 == ns.length) := by
      have e1 : (ns.length == 0) = false := beq_eq_false_iff_ne.2 (by omega)
      have e2 : decide (4000 < ns.length) = false := decide_eq_false (by omega)
      simp only [soundS, hz, h3, e1, e2, Bool.or_self, Bool.not_false, Bool.true_and]
    rw [e] at hk
    have e2 : (((l.getD root.toNat 0 : Nat) : Int) == ((l.length : Nat) : Int)) = (l.getD root.toNat 0 == ns.length) := by
      rw [hl]
      by_cases h : l.getD root.toNat 0 = ns.length
      · rw [h]; simp
      · have : ¬ ((l.getD root.toNat 0 : Nat) : Int) = ((ns.length : Nat) : Int) := by omega
        rw [beq_eq_false_iff_ne.2 this, beq_eq_false_iff_ne.2 h]
    rw [← e2] at hk
    exact hk

/-! ### depth -/
def deepK (ns : List Nd) (root : Int) : List ABlk := [.box 25 [.p (.sl 5 ns.length (nodeF ns)), .p (.int .i64 root)], .box 61 [.fn 33 [] [.ptr 0 0 1 0 0, .ptr 1 0 1 0 0]]]
/-- a node's depth: of those behind which there are fewer than n -/
def cDeep (n : Nat) : AC := fun args K k => ∃ (ns : List Nd) (root : Int) (p : Int) (X : List ABlk), args = [.p (.int .i64 p), .ptr 0 0 1 0 0, .ptr 1 0 1 0 0] ∧ K = deepK ns root ++ X ∧ 0 ≤ p ∧ p < n ∧ p < ns.length ∧ ns.length ≤ 4000 ∧ n ≤ 4000 ∧
  (∀ j, j < ns.length → ∀ k ∈ (ns.getD j default).kids, 0 ≤ k ∧ k < (j : Int)) ∧ (∀ i, (ns.getD i default).kids.length ≤ 9223372036854775807) ∧ k (.ret (intV (deepS ns n p))) (deepK ns root ++ X)
structure DC where
  j : Nat
  d : Nat
theorem deep_ok (n : Nat) : COk 33 (cDeep n) := by
  induction n with
  | zero => rintro args K k ⟨ns, root, p, X, rfl, rfl, h1, h2, _⟩; omega
  | succ n ihn =>
  rintro args K k ⟨ns, root, p, X, rfl, rfl, h1, h2, h3, h4, h5, hsd, hkid, hk⟩
  refine frameS (K0 := deepK ns root) (gput_ok ihn g0_ok) 19 rfl ⟨rfl, rfl, trivial⟩ fun Q hr => ?_
  have hkl := hkid p.toNat
  conv => whnf
  refine ⟨⟨by omega, by omega, rfl⟩, ?_⟩
  conv => whnf
  obtain ⟨ks, hks⟩ : ∃ ks, (ns.getD p.toNat default).kids = ks := ⟨_, rfl⟩
  have hmem := hsd p.toNat (by omega)
  simp only [deepS] at hk
  rw [hks] at hkl hmem hk
  refine loop_up (ι := DC) [1, 2, 13, 14] (fun c => [(5, .p (.int .i64 (c.d : Int))), (15, .p (.int .i64 (c.j : Int)))]) (fun _ => [])
    (fun c => c.j ≤ ks.length ∧ c.d ≤ n ∧ (ks.drop c.j).foldl (fun d k => max d (deepS ns n k)) c.d = ks.foldl (fun d k => max d (deepS ns n k)) 0) (fun c => ks.length - c.j) ⟨0, 0⟩
    ⟨AV.le_refl _, AV.le_refl _, trivial⟩ trivial ⟨Nat.zero_le _, Nat.zero_le _, rfl⟩ ?_
  rintro Y hle ⟨j, d⟩ ⟨hj, hd, he⟩ ih
  simp only at hj hd he
  have hdj : decide ((j : Int) < ((ns.getD p.toNat default).kids.length : Int)) = decide (j < ks.length) := by
    rw [hks]
    by_cases h : j < ks.length
    · rw [decide_eq_true h, decide_eq_true (by omega)]
    · rw [decide_eq_false h, decide_eq_false (by omega)]
  conv => whnf
  refine two_intro (fun h => ?_) (fun h => ?_)
  · have h := of_decide_eq_true (hdj ▸ h)
    have hq : (ns.getD p.toNat default).kids.getD (j : Int).toNat 0 = ks[j] := by rw [hks]; simp [h]
    have hqm := hmem ks[j] (List.getElem_mem h)
    rw [List.drop_eq_getElem_cons h, List.foldl_cons] at he
    conv => whnf
    refine ⟨⟨by omega, by rw [hks]; show (j : Int) < (ks.length : Int); omega, rfl⟩, ?_⟩
    conv => whnf
    refine ⟨ns, root, _, [], rfl, rfl, by rw [hq]; omega, by rw [hq]; omega, by rw [hq]; omega, h4, by omega, hsd, hkid, ?_⟩
    conv => whnf
    have hdl := deepS_le ns n ks[j]
    refine hle _ _ (Le.cutEnv 2 rfl rfl ⟨rfl, rfl, trivial⟩ ?e1 ?e2) (ih ⟨j + 1, max d (deepS ns n ks[j])⟩ ?_ ⟨?_, ?_, he⟩)
    case e1 =>
      have hmx : (if ((deepS ns n ((ns.getD p.toNat default).kids.getD (j : Int).toNat 0) : Nat) : Int) > (d : Int) then ((deepS ns n ((ns.getD p.toNat default).kids.getD (j : Int).toNat 0) : Nat) : Int) else (d : Int)) = ((max d (deepS ns n ks[j]) : Nat) : Int) := by
        rw [hq]
        split <;> omega
      (conv => whnf)
      refine ⟨AV.le_of_eq (congrArg (fun x => AV.p (.int .i64 x)) hmx), ?_⟩
      (conv => whnf)
      refine ⟨AV.le_of_eq (congrArg (fun x => AV.p (.int .i64 x)) (show IntKind.i64.wrap ((j : Int) + 1) = ((j + 1 : Nat) : Int) by rw [w64 ⟨by omega, by omega⟩]; omega)), ?_⟩
      (conv => whnf)
      refine ⟨AV.le_refl _, ?_⟩
      (conv => whnf)
      refine ⟨AV.le_refl _, ?_⟩
      (conv => whnf)
      refine ⟨AV.le_refl _, ?_⟩
      (conv => whnf)
      refine ⟨AV.le_refl _, ?_⟩
      (conv => whnf)
      exact trivial
    case e2 =>
      (conv => whnf)
      refine ⟨ABlk.le_refl _, ?_⟩
      (conv => whnf)
      refine ⟨ABlk.le_refl _, ?_⟩
      (conv => whnf)
      exact trivial
    · show ks.length - (j + 1) < ks.length - j
      omega
    · show j + 1 ≤ ks.length
      omega
    · exact Nat.max_le.2 ⟨hd, hdl⟩
  · have h := of_decide_eq_false (hdj ▸ h)
    rw [List.drop_of_length_le (by omega), List.foldl_nil] at he
    have hw : IntKind.i64.wrap ((d : Int) + 1) = ((ks.foldl (fun d k => max d (deepS ns n k)) 0 + 1 : Nat) : Int) := by rw [w64 ⟨by omega, by omega⟩]; omega
    rw [← hw] at hk
    conv => whnf
    exact hr _ _ rfl (Nat.le_refl _) rfl hk

def gR2 : AG := gput 32 cSound (gput 33 (cDeep 4000) g0)
theorem gR2_ok : GOk Tryz.prog gR2 := gput_ok sound_ok (gput_ok (deep_ok 4000) g0_ok)
def cDepth : AC := fun args K k => ∃ (ns : List Nd) (root : Int), args = [treeV ns root] ∧ ns.length < 1000000 ∧ k (.ret (intV (depthS ns root))) K
theorem deepS_more (ns : List Nd) (hsd : ∀ j, j < ns.length → ∀ k ∈ (ns.getD j default).kids, 0 ≤ k ∧ k < (j : Int)) : ∀ (n m : Nat) (p : Int), 0 ≤ p → p < n → p < ns.length → n ≤ m → deepS ns n p = deepS ns m p := by
  intro n
  induction n with
  | zero => intro m p h1 h2; omega
  | succ n ih =>
    intro m p h1 h2 h3 hm
    obtain ⟨m, rfl⟩ : ∃ i, m = i + 1 := ⟨m - 1, by omega⟩
    simp only [deepS]
    have hk := hsd p.toNat (by omega)
    generalize (ns.getD p.toNat default).kids = ks at hk
    have : ∀ d, ks.foldl (fun d k => max d (deepS ns n k)) d = ks.foldl (fun d k => max d (deepS ns m k)) d := by
      induction ks with
      | nil => intro d; rfl
      | cons q ks ihk =>
        intro d
        have hq := hk q (List.mem_cons_self ..)
        simp only [List.foldl_cons]
        rw [ih m q (by omega) (by omega) (by omega) (by omega)]
        exact ihk (fun k hk' => hk k (List.mem_cons_of_mem _ hk')) _
    rw [this]
theorem depth_ok : COk 16 cDepth := by
  rintro args K k ⟨ns, root, rfl, hn, hk⟩
  refine ACalls.fact (ent_ok ⟨_, rfl, rfl⟩) (c := ∀ i, (ns.getD i default).kids.length ≤ 9223372036854775807) (fun w m Args hS hV => ?_) fun hkid => ?_
  · have h0 := hV.2 0 (by simp) (by have := hV.1; simp at this; omega)
    simp only [List.getElem_cons_zero, treeV] at h0
    generalize Args[0]'(by have := hV.1; simp at this; omega) = u at h0
    cases h0 with
    | agg cs A hA h =>
      have h1 := h 0 (by simp) (by simp at hA; omega)
      simp only [List.getElem_cons_zero] at h1
      generalize A[0]'(by simp at hA; omega) = u1 at h1
      cases h1 with
      | p _ _ h => exact kids_bound h
  refine frame0P gR2_ok 19 rfl fun Q hr => ?_
  conv => whnf
  refine ⟨ns, root, rfl, hn, ?_⟩
  cases hs : soundS ns root with
  | false =>
    conv => whnf
    simp only [depthS, hs] at hk
    exact hr _ _ rfl hk
  | true =>
    obtain ⟨h1, h2, h3, h4⟩ := soundS_ok hs
    conv => whnf
    refine ⟨ns, root, root, [], rfl, rfl, by omega, by omega, by omega, h2, Nat.le_refl _, h4, hkid, ?_⟩
    simp only [depthS, hs] at hk
    rw [deepS_more ns h4 ns.length 4000 root (by omega) (by omega) (by omega) h2] at hk
    conv => whnf
    exact hr _ _ rfl hk
end Go.Proofs.YtbcngegcpdppfaaGreatDoor

namespace Go.AE

theorem two_dec {p : Prop} [Decidable p] {x y : Prop} (h : p → x) (h' : ¬p → y) : two (decide p) x y :=
  two_intro (fun e => h (of_decide_eq_true e)) (fun e => h' (of_decide_eq_false e))
theorem two_eq {α : Type} [BEq α] [LawfulBEq α] {a b : α} {x y : Prop} (h : a = b → x) (h' : a ≠ b → y) : two (a == b) x y :=
  two_intro (fun e => h (beq_iff_eq.1 e)) (fun e => h' (beq_eq_false_iff_ne.1 e))
theorem two_ne {α : Type} [BEq α] [LawfulBEq α] {a b : α} {x y : Prop} (h : a ≠ b → x) (h' : a = b → y) : two (a != b) x y :=
  two_intro (fun e => h (by simpa using e)) (fun e => h' (by simpa using e))
theorem two_not {b : Bool} {x y : Prop} (h : b = false → x) (h' : b = true → y) : two (!b) x y :=
  two_intro (fun e => h (by simpa using e)) (fun e => h' (by simpa using e))
theorem ret_eq {k : AO → List ABlk → Prop} {K : List ABlk} {a b : AV} (hk : k (.ret a) K) (h : a = b) : k (.ret b) K := h ▸ hk
end Go.AE

namespace Go.Proofs.YtbcngegcpdppfaaGreatDoor
open Go.AE Go.Ru
set_option maxRecDepth 100000
set_option pp.maxSteps 4000
set_option maxHeartbeats 1000000

def nodeV (n : Nd) : AV := .agg [.p (.int .i64 n.k), .p (.int .i64 n.n), .p (.int .i64 n.at_), .p (.str n.tx), .p (.sl 1 n.kids.length (kidF n.kids))]
def gN : AG := gput 63 cIdentT gL
theorem gN_ok : GOk Tryz.prog gN := gput_ok identT_ok gL_ok
def cNumber : AC := fun args K k => ∃ n, args = [nodeV n] ∧ k (.ret (.p (.bool (numberS n.k n.n)))) K
theorem number_ok : COk 41 cNumber := by
  rintro args K k ⟨n, rfl, hk⟩
  refine frame0P gN_ok 19 rfl fun Q hr => ?_
  conv => whnf
  repeat' (first | (refine two_eq (fun h => ?_) (fun h => ?_) <;> (conv => whnf)) | (refine two_ne (fun h => ?_) (fun h => ?_) <;> (conv => whnf)) | (refine two_not (fun h => ?_) (fun h => ?_) <;> (conv => whnf)) | (refine two_dec (fun h => ?_) (fun h => ?_) <;> (conv => whnf)) | (refine two_intro (fun h => ?_) (fun h => ?_) <;> (conv => whnf)) | (refine Chk.mk ?_ ?_; (focus (((repeat' (refine And.intro ?_ ?_)) <;> (first | omega | rfl | (simp only [List.length_append, List.length_cons, List.length_nil]; omega) | fail)); done)); (conv => whnf)) | (refine And.intro ?_ ?_; (focus (((repeat' (refine And.intro ?_ ?_)) <;> (first | omega | rfl | (simp only [List.length_append, List.length_cons, List.length_nil]; omega) | fail)); done)); (conv => whnf)) | (refine Exists.intro _ (And.intro rfl ?_)) | (refine Exists.intro _ (Exists.intro _ (And.intro rfl ?_))) | (refine Exists.intro _ (Exists.intro _ (Exists.intro _ (And.intro rfl ?_)))) | fail)
  all_goals exact hr _ _ rfl (ret_eq hk (by simp [numberS, *]))
def cText : AC := fun args K k => ∃ n, args = [nodeV n] ∧ n.tx.length < 1000000 ∧ k (.ret (.p (.bool (textS n.k n.tx)))) K
theorem text_ok : COk 40 cText := by
  rintro args K k ⟨n, rfl, hl, hk⟩
  refine frame0P gN_ok 19 rfl fun Q hr => ?_
  conv => whnf
  repeat' (first | (refine two_eq (fun h => ?_) (fun h => ?_) <;> (conv => whnf)) | (refine two_ne (fun h => ?_) (fun h => ?_) <;> (conv => whnf)) | (refine two_not (fun h => ?_) (fun h => ?_) <;> (conv => whnf)) | (refine two_dec (fun h => ?_) (fun h => ?_) <;> (conv => whnf)) | (refine two_intro (fun h => ?_) (fun h => ?_) <;> (conv => whnf)) | (refine Chk.mk ?_ ?_; (focus (((repeat' (refine And.intro ?_ ?_)) <;> (first | omega | rfl | (simp only [List.length_append, List.length_cons, List.length_nil]; omega) | fail)); done)); (conv => whnf)) | (refine And.intro ?_ ?_; (focus (((repeat' (refine And.intro ?_ ?_)) <;> (first | omega | rfl | (simp only [List.length_append, List.length_cons, List.length_nil]; omega) | fail)); done)); (conv => whnf)) | (refine Exists.intro _ (And.intro rfl ?_)) | (refine Exists.intro _ (Exists.intro _ (And.intro rfl ?_))) | (refine Exists.intro _ (Exists.intro _ (Exists.intro _ (And.intro rfl ?_)))) | fail)
  all_goals exact hr _ _ rfl (ret_eq hk (by clear hr hk; (first | (simp_all [textS, signedP, signsT, show (Int.toNat 32).toUInt8 = 32 from rfl]; done) | (simp_all [textS, signedP, signsT, show (Int.toNat 32).toUInt8 = 32 from rfl] <;> (try intros) <;> omega))))

/-- a call on some blocks, whatever lies behind them; what is answered, in weaker words -/
theorem frameG {G : AG} (hG : GOk Tryz.prog G) (n : Nat) {f : FuncId} {args : List AV} {K0 X : List ABlk} {k : AO → List ABlk → Prop} (hcl : AV.cls K0.length args = true) (hK : clK K0.length K0)
    (h : ∀ Q : AO → List ABlk → Prop, (∀ v K' v' K1, v'.cl K0.length = true → K1.length = K0.length → clK K0.length K1 → v.le v' → lesK (takeN K' K0.length) K1 → k (.ret v') (K1 ++ X) → Q (.ret v) K') → acall1 T0 G n f args K0 Q) :
    ACalls Tryz.prog f args (K0 ++ X) k := by
  refine (ACalls.frame (K0 := K0) (k := fun ao K1 => k ao (K1 ++ X)) hcl (fun r _ => clK.hp hK r)
    (ACalls.post (k := fun ao K1 => ∃ v K' v' K2, ao = .ret v ∧ K1 = K' ∧ v'.cl K0.length = true ∧ K2.length = K0.length ∧ clK K0.length K2 ∧ v.le v' ∧ lesK (takeN K' K0.length) K2 ∧ k (.ret v') (K2 ++ X)) (call_ok hG n f args _ _ (h _ ?_)) ?_)).mono ?_
  · intro v K' v' K1 h1 h2 h3 h4 h5 h6
    exact ⟨v, K', v', K1, rfl, rfl, h1, h2, h3, h4, h5, h6⟩
  · rintro _ K' ⟨v, _, v', K2, rfl, rfl, h1, h2, h3, h4, h5, h6⟩
    have e : ∀ (K2 L : List ABlk), takeN (K2 ++ L) K2.length = K2 := fun K2 L => by
      induction K2 with
      | nil => exact takeN_zero _
      | cons a l ih => simp only [List.cons_append, List.length_cons, takeN]; rw [ih]
    have e := e K2 (dropN K' K0.length)
    rw [h2] at e
    refine ⟨v', K2 ++ dropN K' K0.length, Wk1.le h4 h5.head, h1, ?_, fun r hr => ?_, ?_⟩
    · simp [h2]
    · rw [hp_append, if_pos (by omega)]; exact clK.hp h3 r
    · show k (.ret v') (takeN _ K0.length ++ X)
      rw [e]; exact h6
  · rintro ao K ⟨K1, rfl, h⟩; exact h

def kidsK (ns : List Nd) (root : Int) (n : Nd) (i : Int) : List ABlk := [.box 25 [.p (.sl 5 ns.length (nodeF ns)), .p (.int .i64 root)], .box 41 [.p (.int .i64 n.k), .p (.int .i64 n.n), .p (.int .i64 n.at_), .p (.str n.tx), .p (.sl 1 n.kids.length (kidF n.kids))], .box 3 [intV i]]
def ibox (c : Int) : ABlk := .box 3 [intV c]
/-- what is asked of kinds -/
def SoV (so : AV) (p : Int → Bool) (X : List ABlk) : Prop := (so = .p (.fn 73) ∧ p = stB ∧ (X = [] ∨ ∃ a, X = [ibox a])) ∨ (so = .p (.fn 74) ∧ p = exB ∧ (X = [] ∨ ∃ a, X = [ibox a])) ∨
  ∃ c, p = (fun k => k == c) ∧ ((so = .fn 71 [] [.ptr 3 0 1 0 0] ∧ X = [ibox c]) ∨ (∃ a, so = .fn 71 [] [.ptr 4 0 1 0 0] ∧ X = [ibox a, ibox c]) ∨ ∃ a b, so = .fn 71 [] [.ptr 5 0 1 0 0] ∧ X = [ibox a, ibox b, ibox c])
def cTakeK : AC := fun args K k => ∃ (ns : List Nd) (root : Int) (n : Nd) (i m : Nat) (ii mm : Int) (so : AV) (p : Int → Bool) (X : List ABlk), args = [.p (.int .i64 mm), so, .ptr 2 0 1 0 0, .ptr 1 0 1 0 0, .ptr 0 0 1 0 0] ∧ K = kidsK ns root n ii ++ X ∧ ii = i ∧ mm = m ∧ m ≤ 4000 ∧ n.kids.length ≤ 4000 ∧
  (∀ q ∈ n.kids, 0 ≤ q ∧ q < ns.length) ∧ SoV so p X ∧ k (.ret (intV (cntS p m ((kindsS ns n).drop i)))) (kidsK ns root n ((i + cntS p m ((kindsS ns n).drop i) : Nat) : Int) ++ X)
theorem take_ok' : COk 69 cTakeK := by
  rintro args K k ⟨ns, root, n, i, m, ii, mm, so, p, X, rfl, rfl, rfl, rfl, hm, hn, hq, hso, hk⟩
  rcases hso with ⟨rfl, rfl, rfl | ⟨a, rfl⟩⟩ | ⟨rfl, rfl, rfl | ⟨a, rfl⟩⟩ | ⟨c, rfl, ⟨rfl, rfl⟩ | ⟨a, rfl, rfl⟩ | ⟨a, b, rfl, rfl⟩⟩
  · skip
    refine frameG (K0 := kidsK ns root n i) (X := []) gN_ok 19 rfl (by repeat' (first | exact trivial | exact rfl | (refine And.intro ?_ ?_) | fail)) fun Q hr => ?_
    conv => whnf
    refine loop_up (ι := Nat) [0, 1, 2, 3, 4, 8] (fun _ => []) (fun j => [(2, .box 3 [.p (.int .i64 ((i + j : Nat) : Int))])])
      (fun j => j ≤ m ∧ (j = 0 ∨ i + j ≤ n.kids.length) ∧ cntS stB m ((kindsS ns n).drop i) = j + cntS stB (m - j) ((kindsS ns n).drop (i + j))) (fun j => n.kids.length - (i + j)) 0 trivial ⟨upLe1 rfl (ABlk.le_refl _), trivial⟩ ⟨Nat.zero_le _, .inl rfl, by simp⟩ ?_
    rintro Y hle j ⟨hj, hij, he⟩ ih
    have hw : IntKind.i64.wrap (((i + j : Nat) : Int) - (i : Int)) = j := by rw [w64 ⟨by omega, by omega⟩]; omega
    have hw1 : i + j < n.kids.length → IntKind.i64.wrap (((i + j : Nat) : Int) + 1) = ((i + (j + 1) : Nat) : Int) := fun h => by rw [w64 ⟨by omega, by omega⟩]; omega
    have hg : i + j < n.kids.length → 0 ≤ n.kids.getD ((i + j : Nat) : Int).toNat 0 ∧ n.kids.getD ((i + j : Nat) : Int).toNat 0 < ns.length := fun h => hq _ (by rw [Int.toNat_natCast, List.getD_eq_getElem?_getD, List.getElem?_eq_getElem h]; exact List.getElem_mem h)
    have hkd : i + j < n.kids.length → (kindsS ns n).drop (i + j) = (ns.getD (n.kids.getD ((i + j : Nat) : Int).toNat 0).toNat default).k :: (kindsS ns n).drop (i + (j + 1)) := fun h => by
      have h2 : i + j < (kindsS ns n).length := by simpa [kindsS] using h
      have e : (kindsS ns n)[i + j] = (ns.getD (n.kids.getD (i + j) 0).toNat default).k := by simp [kindsS, h]
      rw [List.drop_eq_getElem_cons h2, e, Int.toNat_natCast, Nat.add_assoc]
    have hend : n.kids.length ≤ i + j → (kindsS ns n).drop (i + j) = [] := fun h => List.drop_of_length_le (by simpa [kindsS] using h)
    conv => whnf
    repeat' (first | (refine two_eq (fun h => ?_) (fun h => ?_) <;> (conv => whnf)) | (refine two_ne (fun h => ?_) (fun h => ?_) <;> (conv => whnf)) | (refine two_not (fun h => ?_) (fun h => ?_) <;> (conv => whnf)) | (refine two_dec (fun h => ?_) (fun h => ?_) <;> (conv => whnf)) | (refine two_intro (fun h => ?_) (fun h => ?_) <;> (conv => whnf)) | (refine Chk.mk ?_ ?_; (focus (((repeat' (refine And.intro ?_ ?_)) <;> (first | omega | rfl | (simp only [List.length_append, List.length_cons, List.length_nil]; omega) | fail)); done)); (conv => whnf)) | (refine And.intro ?_ ?_; (focus (((repeat' (refine And.intro ?_ ?_)) <;> (first | omega | rfl | (simp only [List.length_append, List.length_cons, List.length_nil]; omega) | fail)); done)); (conv => whnf)) | (refine Exists.intro _ (And.intro rfl ?_)) | (refine Exists.intro _ (Exists.intro _ (And.intro rfl ?_))) | (refine Exists.intro _ (Exists.intro _ (Exists.intro _ (And.intro rfl ?_)))) | fail)
    all_goals first
    | (have h0 : cntS stB (m - j) ((kindsS ns n).drop (i + j)) = 0 := by
        first
        | (rw [hend (by omega)]; cases (m - j) <;> rfl)
        | (rw [show m - j = 0 by omega]; rfl)
        | (rw [hkd (by omega), show m - j = (m - j - 1) + 1 by omega, cnt_f]; (simp only [stB, exB, Bool.and_eq_true, Bool.and_eq_false_iff, decide_eq_true_eq, decide_eq_false_iff_not, beq_iff_eq, beq_eq_false_iff_ne]; omega))
        | fail
       have he : cntS stB m ((kindsS ns n).drop i) = j := by rw [he, h0]; rfl
       rw [he] at hk
       exact hr _ _ (intV (j : Int)) (kidsK ns root n ((i + j : Nat) : Int) ++ []) rfl rfl (by repeat' (first | exact trivial | exact rfl | (refine And.intro ?_ ?_) | fail)) (AV.le_of_eq (congrArg intV hw)) (lesK.refl _) (by rw [List.append_nil]; exact hk))
    | (have hw1 := hw1 (by omega)
       refine hle _ _ (Le.env ?_ ?_) (ih (j + 1) (by omega) ⟨by omega, by omega, ?_⟩)
       · skip
         repeat' (first | exact trivial | ((conv => whnf); first | exact trivial | (refine And.intro (AV.le_refl _) ?_) | (refine And.intro (ABlk.le_refl _) ?_) | (refine And.intro (AV.le_of_eq ?_) ?_; (focus ((first | fail | fail); done))) | (refine And.intro (ABlk.le_of_eq ?_) ?_; (focus ((first | fail | fail); done))) | fail) | fail)
       · skip
         repeat' (first | exact trivial | ((conv => whnf); first | exact trivial | (refine And.intro (AV.le_refl _) ?_) | (refine And.intro (ABlk.le_refl _) ?_) | (refine And.intro (AV.le_of_eq ?_) ?_; (focus ((first | exact congrArg (fun x => ABlk.box 3 [.p (.int .i64 x)]) hw1 | fail); done))) | (refine And.intro (ABlk.le_of_eq ?_) ?_; (focus ((first | exact congrArg (fun x => ABlk.box 3 [.p (.int .i64 x)]) hw1 | fail); done))) | fail) | fail)
       · rw [he, hkd (by omega), show m - j = (m - (j + 1)) + 1 by omega, cnt_t (by (simp only [stB, exB, Bool.and_eq_true, Bool.and_eq_false_iff, decide_eq_true_eq, decide_eq_false_iff_not, beq_iff_eq, beq_eq_false_iff_ne]; omega))]; omega)
    | fail
  · skip
    refine frameG (K0 := kidsK ns root n i ++ [ibox a]) (X := []) gN_ok 19 rfl (by repeat' (first | exact trivial | exact rfl | (refine And.intro ?_ ?_) | fail)) fun Q hr => ?_
    conv => whnf
    refine loop_up (ι := Nat) [0, 1, 2, 3, 4, 8] (fun _ => []) (fun j => [(2, .box 3 [.p (.int .i64 ((i + j : Nat) : Int))])])
      (fun j => j ≤ m ∧ (j = 0 ∨ i + j ≤ n.kids.length) ∧ cntS stB m ((kindsS ns n).drop i) = j + cntS stB (m - j) ((kindsS ns n).drop (i + j))) (fun j => n.kids.length - (i + j)) 0 trivial ⟨upLe1 rfl (ABlk.le_refl _), trivial⟩ ⟨Nat.zero_le _, .inl rfl, by simp⟩ ?_
    rintro Y hle j ⟨hj, hij, he⟩ ih
    have hw : IntKind.i64.wrap (((i + j : Nat) : Int) - (i : Int)) = j := by rw [w64 ⟨by omega, by omega⟩]; omega
    have hw1 : i + j < n.kids.length → IntKind.i64.wrap (((i + j : Nat) : Int) + 1) = ((i + (j + 1) : Nat) : Int) := fun h => by rw [w64 ⟨by omega, by omega⟩]; omega
    have hg : i + j < n.kids.length → 0 ≤ n.kids.getD ((i + j : Nat) : Int).toNat 0 ∧ n.kids.getD ((i + j : Nat) : Int).toNat 0 < ns.length := fun h => hq _ (by rw [Int.toNat_natCast, List.getD_eq_getElem?_getD, List.getElem?_eq_getElem h]; exact List.getElem_mem h)
    have hkd : i + j < n.kids.length → (kindsS ns n).drop (i + j) = (ns.getD (n.kids.getD ((i + j : Nat) : Int).toNat 0).toNat default).k :: (kindsS ns n).drop (i + (j + 1)) := fun h => by
      have h2 : i + j < (kindsS ns n).length := by simpa [kindsS] using h
      have e : (kindsS ns n)[i + j] = (ns.getD (n.kids.getD (i + j) 0).toNat default).k := by simp [kindsS, h]
      rw [List.drop_eq_getElem_cons h2, e, Int.toNat_natCast, Nat.add_assoc]
    have hend : n.kids.length ≤ i + j → (kindsS ns n).drop (i + j) = [] := fun h => List.drop_of_length_le (by simpa [kindsS] using h)
    conv => whnf
    repeat' (first | (refine two_eq (fun h => ?_) (fun h => ?_) <;> (conv => whnf)) | (refine two_ne (fun h => ?_) (fun h => ?_) <;> (conv => whnf)) | (refine two_not (fun h => ?_) (fun h => ?_) <;> (conv => whnf)) | (refine two_dec (fun h => ?_) (fun h => ?_) <;> (conv => whnf)) | (refine two_intro (fun h => ?_) (fun h => ?_) <;> (conv => whnf)) | (refine Chk.mk ?_ ?_; (focus (((repeat' (refine And.intro ?_ ?_)) <;> (first | omega | rfl | (simp only [List.length_append, List.length_cons, List.length_nil]; omega) | fail)); done)); (conv => whnf)) | (refine And.intro ?_ ?_; (focus (((repeat' (refine And.intro ?_ ?_)) <;> (first | omega | rfl | (simp only [List.length_append, List.length_cons, List.length_nil]; omega) | fail)); done)); (conv => whnf)) | (refine Exists.intro _ (And.intro rfl ?_)) | (refine Exists.intro _ (Exists.intro _ (And.intro rfl ?_))) | (refine Exists.intro _ (Exists.intro _ (Exists.intro _ (And.intro rfl ?_)))) | fail)
    all_goals first
    | (have h0 : cntS stB (m - j) ((kindsS ns n).drop (i + j)) = 0 := by
        first
        | (rw [hend (by omega)]; cases (m - j) <;> rfl)
        | (rw [show m - j = 0 by omega]; rfl)
        | (rw [hkd (by omega), show m - j = (m - j - 1) + 1 by omega, cnt_f]; (simp only [stB, exB, Bool.and_eq_true, Bool.and_eq_false_iff, decide_eq_true_eq, decide_eq_false_iff_not, beq_iff_eq, beq_eq_false_iff_ne]; omega))
        | fail
       have he : cntS stB m ((kindsS ns n).drop i) = j := by rw [he, h0]; rfl
       rw [he] at hk
       exact hr _ _ (intV (j : Int)) (kidsK ns root n ((i + j : Nat) : Int) ++ [ibox a]) rfl rfl (by repeat' (first | exact trivial | exact rfl | (refine And.intro ?_ ?_) | fail)) (AV.le_of_eq (congrArg intV hw)) (lesK.refl _) (by rw [List.append_nil]; exact hk))
    | (have hw1 := hw1 (by omega)
       refine hle _ _ (Le.env ?_ ?_) (ih (j + 1) (by omega) ⟨by omega, by omega, ?_⟩)
       · skip
         repeat' (first | exact trivial | ((conv => whnf); first | exact trivial | (refine And.intro (AV.le_refl _) ?_) | (refine And.intro (ABlk.le_refl _) ?_) | (refine And.intro (AV.le_of_eq ?_) ?_; (focus ((first | fail | fail); done))) | (refine And.intro (ABlk.le_of_eq ?_) ?_; (focus ((first | fail | fail); done))) | fail) | fail)
       · skip
         repeat' (first | exact trivial | ((conv => whnf); first | exact trivial | (refine And.intro (AV.le_refl _) ?_) | (refine And.intro (ABlk.le_refl _) ?_) | (refine And.intro (AV.le_of_eq ?_) ?_; (focus ((first | exact congrArg (fun x => ABlk.box 3 [.p (.int .i64 x)]) hw1 | fail); done))) | (refine And.intro (ABlk.le_of_eq ?_) ?_; (focus ((first | exact congrArg (fun x => ABlk.box 3 [.p (.int .i64 x)]) hw1 | fail); done))) | fail) | fail)
       · rw [he, hkd (by omega), show m - j = (m - (j + 1)) + 1 by omega, cnt_t (by (simp only [stB, exB, Bool.and_eq_true, Bool.and_eq_false_iff, decide_eq_true_eq, decide_eq_false_iff_not, beq_iff_eq, beq_eq_false_iff_ne]; omega))]; omega)
    | fail
  · skip
    refine frameG (K0 := kidsK ns root n i) (X := []) gN_ok 19 rfl (by repeat' (first | exact trivial | exact rfl | (refine And.intro ?_ ?_) | fail)) fun Q hr => ?_
    conv => whnf
    refine loop_up (ι := Nat) [0, 1, 2, 3, 4, 8] (fun _ => []) (fun j => [(2, .box 3 [.p (.int .i64 ((i + j : Nat) : Int))])])
      (fun j => j ≤ m ∧ (j = 0 ∨ i + j ≤ n.kids.length) ∧ cntS exB m ((kindsS ns n).drop i) = j + cntS exB (m - j) ((kindsS ns n).drop (i + j))) (fun j => n.kids.length - (i + j)) 0 trivial ⟨upLe1 rfl (ABlk.le_refl _), trivial⟩ ⟨Nat.zero_le _, .inl rfl, by simp⟩ ?_
    rintro Y hle j ⟨hj, hij, he⟩ ih
    have hw : IntKind.i64.wrap (((i + j : Nat) : Int) - (i : Int)) = j := by rw [w64 ⟨by omega, by omega⟩]; omega
    have hw1 : i + j < n.kids.length → IntKind.i64.wrap (((i + j : Nat) : Int) + 1) = ((i + (j + 1) : Nat) : Int) := fun h => by rw [w64 ⟨by omega, by omega⟩]; omega
    have hg : i + j < n.kids.length → 0 ≤ n.kids.getD ((i + j : Nat) : Int).toNat 0 ∧ n.kids.getD ((i + j : Nat) : Int).toNat 0 < ns.length := fun h => hq _ (by rw [Int.toNat_natCast, List.getD_eq_getElem?_getD, List.getElem?_eq_getElem h]; exact List.getElem_mem h)
    have hkd : i + j < n.kids.length → (kindsS ns n).drop (i + j) = (ns.getD (n.kids.getD ((i + j : Nat) : Int).toNat 0).toNat default).k :: (kindsS ns n).drop (i + (j + 1)) := fun h => by
      have h2 : i + j < (kindsS ns n).length := by simpa [kindsS] using h
      have e : (kindsS ns n)[i + j] = (ns.getD (n.kids.getD (i + j) 0).toNat default).k := by simp [kindsS, h]
      rw [List.drop_eq_getElem_cons h2, e, Int.toNat_natCast, Nat.add_assoc]
    have hend : n.kids.length ≤ i + j → (kindsS ns n).drop (i + j) = [] := fun h => List.drop_of_length_le (by simpa [kindsS] using h)
    conv => whnf
    repeat' (first | (refine two_eq (fun h => ?_) (fun h => ?_) <;> (conv => whnf)) | (refine two_ne (fun h => ?_) (fun h => ?_) <;> (conv => whnf)) | (refine two_not (fun h => ?_) (fun h => ?_) <;> (conv => whnf)) | (refine two_dec (fun h => ?_) (fun h => ?_) <;> (conv => whnf)) | (refine two_intro (fun h => ?_) (fun h => ?_) <;> (conv => whnf)) | (refine Chk.mk ?_ ?_; (focus (((repeat' (refine And.intro ?_ ?_)) <;> (first | omega | rfl | (simp only [List.length_append, List.length_cons, List.length_nil]; omega) | fail)); done)); (conv => whnf)) | (refine And.intro ?_ ?_; (focus (((repeat' (refine And.intro ?_ ?_)) <;> (first | omega | rfl | (simp only [List.length_append, List.length_cons, List.length_nil]; omega) | fail)); done)); (conv => whnf)) | (refine Exists.intro _ (And.intro rfl ?_)) | (refine Exists.intro _ (Exists.intro _ (And.intro rfl ?_))) | (refine Exists.intro _ (Exists.intro _ (Exists.intro _ (And.intro rfl ?_)))) | fail)
    all_goals first
    | (have h0 : cntS exB (m - j) ((kindsS ns n).drop (i + j)) = 0 := by
        first
        | (rw [hend (by omega)]; cases (m - j) <;> rfl)
        | (rw [show m - j = 0 by omega]; rfl)
        | (rw [hkd (by omega), show m - j = (m - j - 1) + 1 by omega, cnt_f]; (simp only [stB, exB, Bool.and_eq_true, Bool.and_eq_false_iff, decide_eq_true_eq, decide_eq_false_iff_not, beq_iff_eq, beq_eq_false_iff_ne]; omega))
        | fail
       have he : cntS exB m ((kindsS ns n).drop i) = j := by rw [he, h0]; rfl
       rw [he] at hk
       exact hr _ _ (intV (j : Int)) (kidsK ns root n ((i + j : Nat) : Int) ++ []) rfl rfl (by repeat' (first | exact trivial | exact rfl | (refine And.intro ?_ ?_) | fail)) (AV.le_of_eq (congrArg intV hw)) (lesK.refl _) (by rw [List.append_nil]; exact hk))
    | (have hw1 := hw1 (by omega)
       refine hle _ _ (Le.env ?_ ?_) (ih (j + 1) (by omega) ⟨by omega, by omega, ?_⟩)
       · skip
         repeat' (first | exact trivial | ((conv => whnf); first | exact trivial | (refine And.intro (AV.le_refl _) ?_) | (refine And.intro (ABlk.le_refl _) ?_) | (refine And.intro (AV.le_of_eq ?_) ?_; (focus ((first | fail | fail); done))) | (refine And.intro (ABlk.le_of_eq ?_) ?_; (focus ((first | fail | fail); done))) | fail) | fail)
       · skip
         repeat' (first | exact trivial | ((conv => whnf); first | exact trivial | (refine And.intro (AV.le_refl _) ?_) | (refine And.intro (ABlk.le_refl _) ?_) | (refine And.intro (AV.le_of_eq ?_) ?_; (focus ((first | exact congrArg (fun x => ABlk.box 3 [.p (.int .i64 x)]) hw1 | fail); done))) | (refine And.intro (ABlk.le_of_eq ?_) ?_; (focus ((first | exact congrArg (fun x => ABlk.box 3 [.p (.int .i64 x)]) hw1 | fail); done))) | fail) | fail)
       · rw [he, hkd (by omega), show m - j = (m - (j + 1)) + 1 by omega, cnt_t (by (simp only [stB, exB, Bool.and_eq_true, Bool.and_eq_false_iff, decide_eq_true_eq, decide_eq_false_iff_not, beq_iff_eq, beq_eq_false_iff_ne]; omega))]; omega)
    | fail
  · skip
    refine frameG (K0 := kidsK ns root n i ++ [ibox a]) (X := []) gN_ok 19 rfl (by repeat' (first | exact trivial | exact rfl | (refine And.intro ?_ ?_) | fail)) fun Q hr => ?_
    conv => whnf
    refine loop_up (ι := Nat) [0, 1, 2, 3, 4, 8] (fun _ => []) (fun j => [(2, .box 3 [.p (.int .i64 ((i + j : Nat) : Int))])])
      (fun j => j ≤ m ∧ (j = 0 ∨ i + j ≤ n.kids.length) ∧ cntS exB m ((kindsS ns n).drop i) = j + cntS exB (m - j) ((kindsS ns n).drop (i + j))) (fun j => n.kids.length - (i + j)) 0 trivial ⟨upLe1 rfl (ABlk.le_refl _), trivial⟩ ⟨Nat.zero_le _, .inl rfl, by simp⟩ ?_
    rintro Y hle j ⟨hj, hij, he⟩ ih
    have hw : IntKind.i64.wrap (((i + j : Nat) : Int) - (i : Int)) = j := by rw [w64 ⟨by omega, by omega⟩]; omega
    have hw1 : i + j < n.kids.length → IntKind.i64.wrap (((i + j : Nat) : Int) + 1) = ((i + (j + 1) : Nat) : Int) := fun h => by rw [w64 ⟨by omega, by omega⟩]; omega
    have hg : i + j < n.kids.length → 0 ≤ n.kids.getD ((i + j : Nat) : Int).toNat 0 ∧ n.kids.getD ((i + j : Nat) : Int).toNat 0 < ns.length := fun h => hq _ (by rw [Int.toNat_natCast, List.getD_eq_getElem?_getD, List.getElem?_eq_getElem h]; exact List.getElem_mem h)
    have hkd : i + j < n.kids.length → (kindsS ns n).drop (i + j) = (ns.getD (n.kids.getD ((i + j : Nat) : Int).toNat 0).toNat default).k :: (kindsS ns n).drop (i + (j + 1)) := fun h => by
      have h2 : i + j < (kindsS ns n).length := by simpa [kindsS] using h
      have e : (kindsS ns n)[i + j] = (ns.getD (n.kids.getD (i + j) 0).toNat default).k := by simp [kindsS, h]
      rw [List.drop_eq_getElem_cons h2, e, Int.toNat_natCast, Nat.add_assoc]
    have hend : n.kids.length ≤ i + j → (kindsS ns n).drop (i + j) = [] := fun h => List.drop_of_length_le (by simpa [kindsS] using h)
    conv => whnf
    repeat' (first | (refine two_eq (fun h => ?_) (fun h => ?_) <;> (conv => whnf)) | (refine two_ne (fun h => ?_) (fun h => ?_) <;> (conv => whnf)) | (refine two_not (fun h => ?_) (fun h => ?_) <;> (conv => whnf)) | (refine two_dec (fun h => ?_) (fun h => ?_) <;> (conv => whnf)) | (refine two_intro (fun h => ?_) (fun h => ?_) <;> (conv => whnf)) | (refine Chk.mk ?_ ?_; (focus (((repeat' (refine And.intro ?_ ?_)) <;> (first | omega | rfl | (simp only [List.length_append, List.length_cons, List.length_nil]; omega) | fail)); done)); (conv => whnf)) | (refine And.intro ?_ ?_; (focus (((repeat' (refine And.intro ?_ ?_)) <;> (first | omega | rfl | (simp only [List.length_append, List.length_cons, List.length_nil]; omega) | fail)); done)); (conv => whnf)) | (refine Exists.intro _ (And.intro rfl ?_)) | (refine Exists.intro _ (Exists.intro _ (And.intro rfl ?_))) | (refine Exists.intro _ (Exists.intro _ (Exists.intro _ (And.intro rfl ?_)))) | fail)
    all_goals first
    | (have h0 : cntS exB (m - j) ((kindsS ns n).drop (i + j)) = 0 := by
        first
        | (rw [hend (by omega)]; cases (m - j) <;> rfl)
        | (rw [show m - j = 0 by omega]; rfl)
        | (rw [hkd (by omega), show m - j = (m - j - 1) + 1 by omega, cnt_f]; (simp only [stB, exB, Bool.and_eq_true, Bool.and_eq_false_iff, decide_eq_true_eq, decide_eq_false_iff_not, beq_iff_eq, beq_eq_false_iff_ne]; omega))
        | fail
       have he : cntS exB m ((kindsS ns n).drop i) = j := by rw [he, h0]; rfl
       rw [he] at hk
       exact hr _ _ (intV (j : Int)) (kidsK ns root n ((i + j : Nat) : Int) ++ [ibox a]) rfl rfl (by repeat' (first | exact trivial | exact rfl | (refine And.intro ?_ ?_) | fail)) (AV.le_of_eq (congrArg intV hw)) (lesK.refl _) (by rw [List.append_nil]; exact hk))
    | (have hw1 := hw1 (by omega)
       refine hle _ _ (Le.env ?_ ?_) (ih (j + 1) (by omega) ⟨by omega, by omega, ?_⟩)
       · skip
         repeat' (first | exact trivial | ((conv => whnf); first | exact trivial | (refine And.intro (AV.le_refl _) ?_) | (refine And.intro (ABlk.le_refl _) ?_) | (refine And.intro (AV.le_of_eq ?_) ?_; (focus ((first | fail | fail); done))) | (refine And.intro (ABlk.le_of_eq ?_) ?_; (focus ((first | fail | fail); done))) | fail) | fail)
       · skip
         repeat' (first | exact trivial | ((conv => whnf); first | exact trivial | (refine And.intro (AV.le_refl _) ?_) | (refine And.intro (ABlk.le_refl _) ?_) | (refine And.intro (AV.le_of_eq ?_) ?_; (focus ((first | exact congrArg (fun x => ABlk.box 3 [.p (.int .i64 x)]) hw1 | fail); done))) | (refine And.intro (ABlk.le_of_eq ?_) ?_; (focus ((first | exact congrArg (fun x => ABlk.box 3 [.p (.int .i64 x)]) hw1 | fail); done))) | fail) | fail)
       · rw [he, hkd (by omega), show m - j = (m - (j + 1)) + 1 by omega, cnt_t (by (simp only [stB, exB, Bool.and_eq_true, Bool.and_eq_false_iff, decide_eq_true_eq, decide_eq_false_iff_not, beq_iff_eq, beq_eq_false_iff_ne]; omega))]; omega)
    | fail
  · skip
    refine frameG (K0 := kidsK ns root n i ++ [ibox c]) (X := []) gN_ok 19 rfl (by repeat' (first | exact trivial | exact rfl | (refine And.intro ?_ ?_) | fail)) fun Q hr => ?_
    conv => whnf
    refine loop_up (ι := Nat) [0, 1, 2, 3, 4, 8] (fun _ => []) (fun j => [(2, .box 3 [.p (.int .i64 ((i + j : Nat) : Int))])])
      (fun j => j ≤ m ∧ (j = 0 ∨ i + j ≤ n.kids.length) ∧ cntS (fun k => k == c) m ((kindsS ns n).drop i) = j + cntS (fun k => k == c) (m - j) ((kindsS ns n).drop (i + j))) (fun j => n.kids.length - (i + j)) 0 trivial ⟨upLe1 rfl (ABlk.le_refl _), trivial⟩ ⟨Nat.zero_le _, .inl rfl, by simp⟩ ?_
    rintro Y hle j ⟨hj, hij, he⟩ ih
    have hw : IntKind.i64.wrap (((i + j : Nat) : Int) - (i : Int)) = j := by rw [w64 ⟨by omega, by omega⟩]; omega
    have hw1 : i + j < n.kids.length → IntKind.i64.wrap (((i + j : Nat) : Int) + 1) = ((i + (j + 1) : Nat) : Int) := fun h => by rw [w64 ⟨by omega, by omega⟩]; omega
    have hg : i + j < n.kids.length → 0 ≤ n.kids.getD ((i + j : Nat) : Int).toNat 0 ∧ n.kids.getD ((i + j : Nat) : Int).toNat 0 < ns.length := fun h => hq _ (by rw [Int.toNat_natCast, List.getD_eq_getElem?_getD, List.getElem?_eq_getElem h]; exact List.getElem_mem h)
    have hkd : i + j < n.kids.length → (kindsS ns n).drop (i + j) = (ns.getD (n.kids.getD ((i + j : Nat) : Int).toNat 0).toNat default).k :: (kindsS ns n).drop (i + (j + 1)) := fun h => by
      have h2 : i + j < (kindsS ns n).length := by simpa [kindsS] using h
      have e : (kindsS ns n)[i + j] = (ns.getD (n.kids.getD (i + j) 0).toNat default).k := by simp [kindsS, h]
      rw [List.drop_eq_getElem_cons h2, e, Int.toNat_natCast, Nat.add_assoc]
    have hend : n.kids.length ≤ i + j → (kindsS ns n).drop (i + j) = [] := fun h => List.drop_of_length_le (by simpa [kindsS] using h)
    conv => whnf
    repeat' (first | (refine two_eq (fun h => ?_) (fun h => ?_) <;> (conv => whnf)) | (refine two_ne (fun h => ?_) (fun h => ?_) <;> (conv => whnf)) | (refine two_not (fun h => ?_) (fun h => ?_) <;> (conv => whnf)) | (refine two_dec (fun h => ?_) (fun h => ?_) <;> (conv => whnf)) | (refine two_intro (fun h => ?_) (fun h => ?_) <;> (conv => whnf)) | (refine Chk.mk ?_ ?_; (focus (((repeat' (refine And.intro ?_ ?_)) <;> (first | omega | rfl | (simp only [List.length_append, List.length_cons, List.length_nil]; omega) | fail)); done)); (conv => whnf)) | (refine And.intro ?_ ?_; (focus (((repeat' (refine And.intro ?_ ?_)) <;> (first | omega | rfl | (simp only [List.length_append, List.length_cons, List.length_nil]; omega) | fail)); done)); (conv => whnf)) | (refine Exists.intro _ (And.intro rfl ?_)) | (refine Exists.intro _ (Exists.intro _ (And.intro rfl ?_))) | (refine Exists.intro _ (Exists.intro _ (Exists.intro _ (And.intro rfl ?_)))) | fail)
    all_goals first
    | (have h0 : cntS (fun k => k == c) (m - j) ((kindsS ns n).drop (i + j)) = 0 := by
        first
        | (rw [hend (by omega)]; cases (m - j) <;> rfl)
        | (rw [show m - j = 0 by omega]; rfl)
        | (rw [hkd (by omega), show m - j = (m - j - 1) + 1 by omega, cnt_f]; (simp only [stB, exB, Bool.and_eq_true, Bool.and_eq_false_iff, decide_eq_true_eq, decide_eq_false_iff_not, beq_iff_eq, beq_eq_false_iff_ne]; omega))
        | fail
       have he : cntS (fun k => k == c) m ((kindsS ns n).drop i) = j := by rw [he, h0]; rfl
       rw [he] at hk
       exact hr _ _ (intV (j : Int)) (kidsK ns root n ((i + j : Nat) : Int) ++ [ibox c]) rfl rfl (by repeat' (first | exact trivial | exact rfl | (refine And.intro ?_ ?_) | fail)) (AV.le_of_eq (congrArg intV hw)) (lesK.refl _) (by rw [List.append_nil]; exact hk))
    | (have hw1 := hw1 (by omega)
       refine hle _ _ (Le.env ?_ ?_) (ih (j + 1) (by omega) ⟨by omega, by omega, ?_⟩)
       · skip
         repeat' (first | exact trivial | ((conv => whnf); first | exact trivial | (refine And.intro (AV.le_refl _) ?_) | (refine And.intro (ABlk.le_refl _) ?_) | (refine And.intro (AV.le_of_eq ?_) ?_; (focus ((first | fail | fail); done))) | (refine And.intro (ABlk.le_of_eq ?_) ?_; (focus ((first | fail | fail); done))) | fail) | fail)
       · skip
         repeat' (first | exact trivial | ((conv => whnf); first | exact trivial | (refine And.intro (AV.le_refl _) ?_) | (refine And.intro (ABlk.le_refl _) ?_) | (refine And.intro (AV.le_of_eq ?_) ?_; (focus ((first | exact congrArg (fun x => ABlk.box 3 [.p (.int .i64 x)]) hw1 | fail); done))) | (refine And.intro (ABlk.le_of_eq ?_) ?_; (focus ((first | exact congrArg (fun x => ABlk.box 3 [.p (.int .i64 x)]) hw1 | fail); done))) | fail) | fail)
       · rw [he, hkd (by omega), show m - j = (m - (j + 1)) + 1 by omega, cnt_t (by (simp only [stB, exB, Bool.and_eq_true, Bool.and_eq_false_iff, decide_eq_true_eq, decide_eq_false_iff_not, beq_iff_eq, beq_eq_false_iff_ne]; omega))]; omega)
    | fail
  · skip
    refine frameG (K0 := kidsK ns root n i ++ [ibox a, ibox c]) (X := []) gN_ok 19 rfl (by repeat' (first | exact trivial | exact rfl | (refine And.intro ?_ ?_) | fail)) fun Q hr => ?_
    conv => whnf
    refine loop_up (ι := Nat) [0, 1, 2, 3, 4, 8] (fun _ => []) (fun j => [(2, .box 3 [.p (.int .i64 ((i + j : Nat) : Int))])])
      (fun j => j ≤ m ∧ (j = 0 ∨ i + j ≤ n.kids.length) ∧ cntS (fun k => k == c) m ((kindsS ns n).drop i) = j + cntS (fun k => k == c) (m - j) ((kindsS ns n).drop (i + j))) (fun j => n.kids.length - (i + j)) 0 trivial ⟨upLe1 rfl (ABlk.le_refl _), trivial⟩ ⟨Nat.zero_le _, .inl rfl, by simp⟩ ?_
    rintro Y hle j ⟨hj, hij, he⟩ ih
    have hw : IntKind.i64.wrap (((i + j : Nat) : Int) - (i : Int)) = j := by rw [w64 ⟨by omega, by omega⟩]; omega
    have hw1 : i + j < n.kids.length → IntKind.i64.wrap (((i + j : Nat) : Int) + 1) = ((i + (j + 1) : Nat) : Int) := fun h => by rw [w64 ⟨by omega, by omega⟩]; omega
    have hg : i + j < n.kids.length → 0 ≤ n.kids.getD ((i + j : Nat) : Int).toNat 0 ∧ n.kids.getD ((i + j : Nat) : Int).toNat 0 < ns.length := fun h => hq _ (by rw [Int.toNat_natCast, List.getD_eq_getElem?_getD, List.getElem?_eq_getElem h]; exact List.getElem_mem h)
    have hkd : i + j < n.kids.length → (kindsS ns n).drop (i + j) = (ns.getD (n.kids.getD ((i + j : Nat) : Int).toNat 0).toNat default).k :: (kindsS ns n).drop (i + (j + 1)) := fun h => by
      have h2 : i + j < (kindsS ns n).length := by simpa [kindsS] using h
      have e : (kindsS ns n)[i + j] = (ns.getD (n.kids.getD (i + j) 0).toNat default).k := by simp [kindsS, h]
      rw [List.drop_eq_getElem_cons h2, e, Int.toNat_natCast, Nat.add_assoc]
    have hend : n.kids.length ≤ i + j → (kindsS ns n).drop (i + j) = [] := fun h => List.drop_of_length_le (by simpa [kindsS] using h)
    conv => whnf
    repeat' (first | (refine two_eq (fun h => ?_) (fun h => ?_) <;> (conv => whnf)) | (refine two_ne (fun h => ?_) (fun h => ?_) <;> (conv => whnf)) | (refine two_not (fun h => ?_) (fun h => ?_) <;> (conv => whnf)) | (refine two_dec (fun h => ?_) (fun h => ?_) <;> (conv => whnf)) | (refine two_intro (fun h => ?_) (fun h => ?_) <;> (conv => whnf)) | (refine Chk.mk ?_ ?_; (focus (((repeat' (refine And.intro ?_ ?_)) <;> (first | omega | rfl | (simp only [List.length_append, List.length_cons, List.length_nil]; omega) | fail)); done)); (conv => whnf)) | (refine And.intro ?_ ?_; (focus (((repeat' (refine And.intro ?_ ?_)) <;> (first | omega | rfl | (simp only [List.length_append, List.length_cons, List.length_nil]; omega) | fail)); done)); (conv => whnf)) | (refine Exists.intro _ (And.intro rfl ?_)) | (refine Exists.intro _ (Exists.intro _ (And.intro rfl ?_))) | (refine Exists.intro _ (Exists.intro _ (Exists.intro _ (And.intro rfl ?_)))) | fail)
    all_goals first
    | (have h0 : cntS (fun k => k == c) (m - j) ((kindsS ns n).drop (i + j)) = 0 := by
        first
        | (rw [hend (by omega)]; cases (m - j) <;> rfl)
        | (rw [show m - j = 0 by omega]; rfl)
        | (rw [hkd (by omega), show m - j = (m - j - 1) + 1 by omega, cnt_f]; (simp only [stB, exB, Bool.and_eq_true, Bool.and_eq_false_iff, decide_eq_true_eq, decide_eq_false_iff_not, beq_iff_eq, beq_eq_false_iff_ne]; omega))
        | fail
       have he : cntS (fun k => k == c) m ((kindsS ns n).drop i) = j := by rw [he, h0]; rfl
       rw [he] at hk
       exact hr _ _ (intV (j : Int)) (kidsK ns root n ((i + j : Nat) : Int) ++ [ibox a, ibox c]) rfl rfl (by repeat' (first | exact trivial | exact rfl | (refine And.intro ?_ ?_) | fail)) (AV.le_of_eq (congrArg intV hw)) (lesK.refl _) (by rw [List.append_nil]; exact hk))
    | (have hw1 := hw1 (by omega)
       refine hle _ _ (Le.env ?_ ?_) (ih (j + 1) (by omega) ⟨by omega, by omega, ?_⟩)
       · skip
         repeat' (first | exact trivial | ((conv => whnf); first | exact trivial | (refine And.intro (AV.le_refl _) ?_) | (refine And.intro (ABlk.le_refl _) ?_) | (refine And.intro (AV.le_of_eq ?_) ?_; (focus ((first | fail | fail); done))) | (refine And.intro (ABlk.le_of_eq ?_) ?_; (focus ((first | fail | fail); done))) | fail) | fail)
       · skip
         repeat' (first | exact trivial | ((conv => whnf); first | exact trivial | (refine And.intro (AV.le_refl _) ?_) | (refine And.intro (ABlk.le_refl _) ?_) | (refine And.intro (AV.le_of_eq ?_) ?_; (focus ((first | exact congrArg (fun x => ABlk.box 3 [.p (.int .i64 x)]) hw1 | fail); done))) | (refine And.intro (ABlk.le_of_eq ?_) ?_; (focus ((first | exact congrArg (fun x => ABlk.box 3 [.p (.int .i64 x)]) hw1 | fail); done))) | fail) | fail)
       · rw [he, hkd (by omega), show m - j = (m - (j + 1)) + 1 by omega, cnt_t (by (simp only [stB, exB, Bool.and_eq_true, Bool.and_eq_false_iff, decide_eq_true_eq, decide_eq_false_iff_not, beq_iff_eq, beq_eq_false_iff_ne]; omega))]; omega)
    | fail
  · skip
    refine frameG (K0 := kidsK ns root n i ++ [ibox a, ibox b, ibox c]) (X := []) gN_ok 19 rfl (by repeat' (first | exact trivial | exact rfl | (refine And.intro ?_ ?_) | fail)) fun Q hr => ?_
    conv => whnf
    refine loop_up (ι := Nat) [0, 1, 2, 3, 4, 8] (fun _ => []) (fun j => [(2, .box 3 [.p (.int .i64 ((i + j : Nat) : Int))])])
      (fun j => j ≤ m ∧ (j = 0 ∨ i + j ≤ n.kids.length) ∧ cntS (fun k => k == c) m ((kindsS ns n).drop i) = j + cntS (fun k => k == c) (m - j) ((kindsS ns n).drop (i + j))) (fun j => n.kids.length - (i + j)) 0 trivial ⟨upLe1 rfl (ABlk.le_refl _), trivial⟩ ⟨Nat.zero_le _, .inl rfl, by simp⟩ ?_
    rintro Y hle j ⟨hj, hij, he⟩ ih
    have hw : IntKind.i64.wrap (((i + j : Nat) : Int) - (i : Int)) = j := by rw [w64 ⟨by omega, by omega⟩]; omega
    have hw1 : i + j < n.kids.length → IntKind.i64.wrap (((i + j : Nat) : Int) + 1) = ((i + (j + 1) : Nat) : Int) := fun h => by rw [w64 ⟨by omega, by omega⟩]; omega
    have hg : i + j < n.kids.length → 0 ≤ n.kids.getD ((i + j : Nat) : Int).toNat 0 ∧ n.kids.getD ((i + j : Nat) : Int).toNat 0 < ns.length := fun h => hq _ (by rw [Int.toNat_natCast, List.getD_eq_getElem?_getD, List.getElem?_eq_getElem h]; exact List.getElem_mem h)
    have hkd : i + j < n.kids.length → (kindsS ns n).drop (i + j) = (ns.getD (n.kids.getD ((i + j : Nat) : Int).toNat 0).toNat default).k :: (kindsS ns n).drop (i + (j + 1)) := fun h => by
      have h2 : i + j < (kindsS ns n).length := by simpa [kindsS] using h
      have e : (kindsS ns n)[i + j] = (ns.getD (n.kids.getD (i + j) 0).toNat default).k := by simp [kindsS, h]
      rw [List.drop_eq_getElem_cons h2, e, Int.toNat_natCast, Nat.add_assoc]
    have hend : n.kids.length ≤ i + j → (kindsS ns n).drop (i + j) = [] := fun h => List.drop_of_length_le (by simpa [kindsS] using h)
    conv => whnf
    repeat' (first | (refine two_eq (fun h => ?_) (fun h => ?_) <;> (conv => whnf)) | (refine two_ne (fun h => ?_) (fun h => ?_) <;> (conv => whnf)) | (refine two_not (fun h => ?_) (fun h => ?_) <;> (conv => whnf)) | (refine two_dec (fun h => ?_) (fun h => ?_) <;> (conv => whnf)) | (refine two_intro (fun h => ?_) (fun h => ?_) <;> (conv => whnf)) | (refine Chk.mk ?_ ?_; (focus (((repeat' (refine And.intro ?_ ?_)) <;> (first | omega | rfl | (simp only [List.length_append, List.length_cons, List.length_nil]; omega) | fail)); done)); (conv => whnf)) | (refine And.intro ?_ ?_; (focus (((repeat' (refine And.intro ?_ ?_)) <;> (first | omega | rfl | (simp only [List.length_append, List.length_cons, List.length_nil]; omega) | fail)); done)); (conv => whnf)) | (refine Exists.intro _ (And.intro rfl ?_)) | (refine Exists.intro _ (Exists.intro _ (And.intro rfl ?_))) | (refine Exists.intro _ (Exists.intro _ (Exists.intro _ (And.intro rfl ?_)))) | fail)
    all_goals first
    | (have h0 : cntS (fun k => k == c) (m - j) ((kindsS ns n).drop (i + j)) = 0 := by
        first
        | (rw [hend (by omega)]; cases (m - j) <;> rfl)
        | (rw [show m - j = 0 by omega]; rfl)
        | (rw [hkd (by omega), show m - j = (m - j - 1) + 1 by omega, cnt_f]; (simp only [stB, exB, Bool.and_eq_true, Bool.and_eq_false_iff, decide_eq_true_eq, decide_eq_false_iff_not, beq_iff_eq, beq_eq_false_iff_ne]; omega))
        | fail
       have he : cntS (fun k => k == c) m ((kindsS ns n).drop i) = j := by rw [he, h0]; rfl
       rw [he] at hk
       exact hr _ _ (intV (j : Int)) (kidsK ns root n ((i + j : Nat) : Int) ++ [ibox a, ibox b, ibox c]) rfl rfl (by repeat' (first | exact trivial | exact rfl | (refine And.intro ?_ ?_) | fail)) (AV.le_of_eq (congrArg intV hw)) (lesK.refl _) (by rw [List.append_nil]; exact hk))
    | (have hw1 := hw1 (by omega)
       refine hle _ _ (Le.env ?_ ?_) (ih (j + 1) (by omega) ⟨by omega, by omega, ?_⟩)
       · skip
         repeat' (first | exact trivial | ((conv => whnf); first | exact trivial | (refine And.intro (AV.le_refl _) ?_) | (refine And.intro (ABlk.le_refl _) ?_) | (refine And.intro (AV.le_of_eq ?_) ?_; (focus ((first | fail | fail); done))) | (refine And.intro (ABlk.le_of_eq ?_) ?_; (focus ((first | fail | fail); done))) | fail) | fail)
       · skip
         repeat' (first | exact trivial | ((conv => whnf); first | exact trivial | (refine And.intro (AV.le_refl _) ?_) | (refine And.intro (ABlk.le_refl _) ?_) | (refine And.intro (AV.le_of_eq ?_) ?_; (focus ((first | exact congrArg (fun x => ABlk.box 3 [.p (.int .i64 x)]) hw1 | fail); done))) | (refine And.intro (ABlk.le_of_eq ?_) ?_; (focus ((first | exact congrArg (fun x => ABlk.box 3 [.p (.int .i64 x)]) hw1 | fail); done))) | fail) | fail)
       · rw [he, hkd (by omega), show m - j = (m - (j + 1)) + 1 by omega, cnt_t (by (simp only [stB, exB, Bool.and_eq_true, Bool.and_eq_false_iff, decide_eq_true_eq, decide_eq_false_iff_not, beq_iff_eq, beq_eq_false_iff_ne]; omega))]; omega)
    | fail

theorem cnt_le (p : Int → Bool) (m : Nat) (l : List Int) : cntS p m l ≤ l.length ∧ cntS p m l ≤ m := by
  induction l generalizing m with
  | nil => cases m <;> simp [cntS]
  | cons a l ih =>
    cases m with
    | zero => simp [cntS]
    | succ m =>
      have := ih m
      simp only [cntS, List.length_cons]
      split <;> omega
def gKi : AG := gput 69 cTakeK gN
theorem gKi_ok : GOk Tryz.prog gKi := gput_ok take_ok' gN_ok
def treeV' (ns : List Nd) (root : Int) : AV := treeV ns root
def cKids : AC := fun args K k => ∃ ns root n, args = [treeV ns root, nodeV n] ∧ n.kids.length ≤ 4000 ∧ (∀ q ∈ n.kids, 0 ≤ q ∧ q < (List.length ns : Int)) ∧ k (.ret (.p (.bool (kidsOkS n.k (kindsS ns n))))) K
theorem kids_ok : COk 42 cKids := by
  rintro args K k ⟨ns, root, n, rfl, hn, hq, hk⟩
  refine frame0P gKi_ok 19 rfl fun Q hr => ?_
  have hkl : (kindsS ns n).length = n.kids.length := by simp [kindsS]
  conv => whnf
  repeat' (first | (refine two_eq (fun h => ?_) (fun h => ?_) <;> (conv => whnf)) | (refine two_ne (fun h => ?_) (fun h => ?_) <;> (conv => whnf)) | (refine two_not (fun h => ?_) (fun h => ?_) <;> (conv => whnf)) | (refine two_dec (fun h => ?_) (fun h => ?_) <;> (conv => whnf)) | (refine two_intro (fun h => ?_) (fun h => ?_) <;> (conv => whnf)) | (refine Chk.mk ?_ ?_; (focus (((repeat' (refine And.intro ?_ ?_)) <;> (first | omega | rfl | (simp only [List.length_append, List.length_cons, List.length_nil]; omega) | fail)); done)); (conv => whnf)) | (refine And.intro ?_ ?_; (focus (((repeat' (refine And.intro ?_ ?_)) <;> (first | omega | rfl | (simp only [List.length_append, List.length_cons, List.length_nil]; omega) | fail)); done)); (conv => whnf)) | (refine ⟨ns, root, n, _, _, _, _, _, _, _, rfl, rfl, (Int.toNat_of_nonneg ?_).symm, (Int.toNat_of_nonneg ?_).symm, ?_, hn, hq, .inl ⟨rfl, rfl, .inl rfl⟩, ?_⟩; (focus omega); (focus omega); (focus omega); (conv => whnf)) | (refine ⟨ns, root, n, _, _, _, _, _, _, _, rfl, rfl, (Int.toNat_of_nonneg ?_).symm, (Int.toNat_of_nonneg ?_).symm, ?_, hn, hq, .inl ⟨rfl, rfl, .inr ⟨_, rfl⟩⟩, ?_⟩; (focus omega); (focus omega); (focus omega); (conv => whnf)) | (refine ⟨ns, root, n, _, _, _, _, _, _, _, rfl, rfl, (Int.toNat_of_nonneg ?_).symm, (Int.toNat_of_nonneg ?_).symm, ?_, hn, hq, .inr (.inl ⟨rfl, rfl, .inl rfl⟩), ?_⟩; (focus omega); (focus omega); (focus omega); (conv => whnf)) | (refine ⟨ns, root, n, _, _, _, _, _, _, _, rfl, rfl, (Int.toNat_of_nonneg ?_).symm, (Int.toNat_of_nonneg ?_).symm, ?_, hn, hq, .inr (.inl ⟨rfl, rfl, .inr ⟨_, rfl⟩⟩), ?_⟩; (focus omega); (focus omega); (focus omega); (conv => whnf)) | (refine ⟨ns, root, n, _, _, _, _, _, _, _, rfl, rfl, (Int.toNat_of_nonneg ?_).symm, (Int.toNat_of_nonneg ?_).symm, ?_, hn, hq, .inr (.inr ⟨_, rfl, .inl ⟨rfl, rfl⟩⟩), ?_⟩; (focus omega); (focus omega); (focus omega); (conv => whnf)) | (refine ⟨ns, root, n, _, _, _, _, _, _, _, rfl, rfl, (Int.toNat_of_nonneg ?_).symm, (Int.toNat_of_nonneg ?_).symm, ?_, hn, hq, .inr (.inr ⟨_, rfl, .inr (.inl ⟨_, rfl, rfl⟩)⟩), ?_⟩; (focus omega); (focus omega); (focus omega); (conv => whnf)) | (refine ⟨ns, root, n, _, _, _, _, _, _, _, rfl, rfl, (Int.toNat_of_nonneg ?_).symm, (Int.toNat_of_nonneg ?_).symm, ?_, hn, hq, .inr (.inr ⟨_, rfl, .inr (.inr ⟨_, _, rfl, rfl⟩)⟩), ?_⟩; (focus omega); (focus omega); (focus omega); (conv => whnf)) | fail)
  all_goals refine hr _ _ rfl (ret_eq hk ?_)
  all_goals clear hr hk hq
  all_goals try simp only [Int.toNat_natCast, show Int.toNat 0 = 0 from rfl, show Int.toNat 4000 = 4000 from rfl, show Int.toNat 1 = 1 from rfl, show Int.toNat 2 = 2 from rfl, Nat.zero_add, List.drop_zero] at *
  all_goals refine congrArg (fun b => AV.p (.bool b)) (Bool.eq_iff_iff.2 ?_)
  all_goals simp (disch := omega) only [kidsOkS, if_pos, if_neg, List.drop_zero, Nat.zero_add, hkl]
  all_goals simp only [Bool.and_eq_true, beq_iff_eq, reduceCtorEq]
  all_goals first | omega | (simp only [iff_false, not_and]; intros; omega) | fail
end Go.Proofs.YtbcngegcpdppfaaGreatDoor

namespace Go.Proofs.YtbcngegcpdppfaaGreatDoor
open Go.AE Go.Ru
set_option maxRecDepth 100000
set_option pp.maxSteps 4000
set_option maxHeartbeats 1000000

def gR3 : AG := gput 40 cText (gput 41 cNumber (gput 42 cKids g0))
theorem gR3_ok : GOk Tryz.prog gR3 := gput_ok text_ok (gput_ok number_ok (gput_ok kids_ok g0_ok))
def treeK (ns : List Nd) (root : Int) : List ABlk := [.box 25 [.p (.sl 5 ns.length (nodeF ns)), .p (.int .i64 root)]]
def cBad : AC := fun args K k => ∃ ns root n X, args = [nodeV n, .ptr 0 0 1 0 0] ∧ K = treeK ns root ++ X ∧ n.tx.length < 1000000 ∧ n.kids.length ≤ 4000 ∧ (∀ q ∈ n.kids, 0 ≤ q ∧ q < (List.length ns : Int)) ∧ k (.ret (.p (.bool (!nodeOkS ns n)))) (treeK ns root ++ X)
theorem bad_ok : COk 39 cBad := by
  rintro args K k ⟨ns, root, n, X, rfl, rfl, ht, hn, hq, hk⟩
  refine frameG (K0 := treeK ns root) gR3_ok 19 rfl ⟨rfl, trivial⟩ fun Q hr => ?_
  conv => whnf
  repeat' (first | (refine two_eq (fun h => ?_) (fun h => ?_) <;> (conv => whnf)) | (refine two_ne (fun h => ?_) (fun h => ?_) <;> (conv => whnf)) | (refine two_not (fun h => ?_) (fun h => ?_) <;> (conv => whnf)) | (refine two_dec (fun h => ?_) (fun h => ?_) <;> (conv => whnf)) | (refine two_intro (fun h => ?_) (fun h => ?_) <;> (conv => whnf)) | (refine ⟨n, rfl, ht, ?_⟩; (conv => whnf)) | (refine ⟨n, rfl, ?_⟩; (conv => whnf)) | (refine ⟨ns, root, n, rfl, hn, hq, ?_⟩; (conv => whnf)) | fail)
  all_goals refine hr _ _ _ _ rfl rfl ⟨rfl, trivial⟩ (AV.le_of_eq ?_) (lesK.refl _) hk
  all_goals refine congrArg (fun b => AV.p (.bool b)) (Bool.eq_iff_iff.2 ?_)
  all_goals clear hr hk hq
  all_goals (simp_all [nodeOkS] <;> (try intros) <;> omega)

theorem nodeV_get (ns : List Nd) (i : Nat) : pvs (nodeF ns i) = [.p (.int .i64 (ns.getD i default).k), .p (.int .i64 (ns.getD i default).n), .p (.int .i64 (ns.getD i default).at_), .p (.str (ns.getD i default).tx), .p (.sl 1 (ns.getD i default).kids.length (kidF (ns.getD i default).kids))] := rfl
def gR4 : AG := gput 39 cBad g0
theorem gR4_ok : GOk Tryz.prog gR4 := gput_ok bad_ok g0_ok
/-- the first node, from a place on, that has not its shape -/
def badAt (ns : List Nd) (i : Nat) : List Nd → Int
  | [] => -1
  | n :: r => match nodeOkS ns n with
    | false => (i : Int)
    | true => badAt ns (i + 1) r
structure Sized (ns : List Nd) : Prop where
  len : ns.length ≤ 4000
  txt : ∀ i, (ns.getD i default).tx.length < 1000000
  many : ∀ i, (ns.getD i default).kids.length ≤ 4000
  kid : ∀ i, ∀ q ∈ (ns.getD i default).kids, 0 ≤ q ∧ q < (ns.length : Int)
def cIdxR : AC := fun args K k => ∃ ns root X, args = [.p (.sl 5 (List.length ns) (nodeF ns)), .fn 39 [] [.ptr 0 0 1 0 0]] ∧ K = treeK ns root ++ X ∧ Sized ns ∧ k (.ret (intV (badAt ns 0 ns))) (treeK ns root ++ X)
theorem idxR_ok : COk 68 cIdxR := by
  rintro args K k ⟨ns, root, X, rfl, rfl, hz, hk⟩
  have hl := hz.len
  refine frameG (K0 := treeK ns root) gR4_ok 19 rfl ⟨rfl, trivial⟩ fun Q hr => ?_
  conv => whnf
  refine loop_up (ι := Nat) [0, 1, 7] (fun i => [(8, intV i)]) (fun _ => []) (fun i => i ≤ ns.length ∧ badAt ns i (ns.drop i) = badAt ns 0 ns) (fun i => ns.length - i) 0 ⟨AV.le_refl _, trivial⟩ trivial ⟨Nat.zero_le _, rfl⟩ ?_
  rintro Y hle i ⟨hi, he⟩ ih
  have hw1 : IntKind.i64.wrap ((i : Int) + 1) = ((i + 1 : Nat) : Int) := by rw [w64 ⟨by omega, by omega⟩]; omega
  conv => whnf
  refine two_dec (fun h => ?_) (fun h => ?_)
  · have h : i < ns.length := by omega
    rw [List.drop_eq_getElem_cons h] at he
    have e1 : ns.getD i default = ns[i] := by simp [h]
    conv => whnf
    repeat' (first | (refine two_eq (fun h => ?_) (fun h => ?_) <;> (conv => whnf)) | (refine two_ne (fun h => ?_) (fun h => ?_) <;> (conv => whnf)) | (refine two_not (fun h => ?_) (fun h => ?_) <;> (conv => whnf)) | (refine two_dec (fun h => ?_) (fun h => ?_) <;> (conv => whnf)) | (refine two_intro (fun h => ?_) (fun h => ?_) <;> (conv => whnf)) | (refine Chk.mk ?_ ?_; (focus (((repeat' (refine And.intro ?_ ?_)) <;> (first | omega | rfl | (simp only [List.length_append, List.length_cons, List.length_nil]; omega) | fail)); done)); (conv => whnf)) | (refine And.intro ?_ ?_; (focus (((repeat' (refine And.intro ?_ ?_)) <;> (first | omega | rfl | (simp only [List.length_append, List.length_cons, List.length_nil]; omega) | fail)); done)); (conv => whnf)) | (refine Exists.intro _ (And.intro rfl ?_)) | (refine Exists.intro _ (Exists.intro _ (And.intro rfl ?_))) | (refine Exists.intro _ (Exists.intro _ (Exists.intro _ (And.intro rfl ?_)))) | fail)
    refine ⟨ns, root, ns.getD i default, [], rfl, rfl, hz.txt _, hz.many _, hz.kid _, ?_⟩
    conv => whnf
    refine two_not (fun h2 => ?_) (fun h2 => ?_)
    · rw [e1] at h2
      simp only [badAt, h2] at he
      conv => whnf
      exact hr _ _ _ _ rfl rfl ⟨rfl, trivial⟩ (AV.le_refl _) (lesK.refl _) (he ▸ hk)
    · rw [e1] at h2
      simp only [badAt, h2] at he
      conv => whnf
      refine hle _ _ (Le.env ?_ ?_) (ih (i + 1) (by omega) ⟨by omega, he⟩)
      · skip
        repeat' (first | exact trivial | ((conv => whnf); first | exact trivial | (refine And.intro (AV.le_refl _) ?_) | (refine And.intro (ABlk.le_refl _) ?_) | (refine And.intro (AV.le_of_eq ?_) ?_; (focus ((first | exact congrArg intV hw1 | fail); done))) | (refine And.intro (ABlk.le_of_eq ?_) ?_; (focus ((first | exact congrArg intV hw1 | fail); done))) | fail) | fail)
      · skip
        repeat' (first | exact trivial | ((conv => whnf); first | exact trivial | (refine And.intro (AV.le_refl _) ?_) | (refine And.intro (ABlk.le_refl _) ?_) | (refine And.intro (AV.le_of_eq ?_) ?_; (focus ((first | fail | fail); done))) | (refine And.intro (ABlk.le_of_eq ?_) ?_; (focus ((first | fail | fail); done))) | fail) | fail)
  · obtain rfl : i = ns.length := by omega
    rw [List.drop_length] at he
    rw [← he] at hk
    conv => whnf
    exact hr _ _ _ _ rfl rfl ⟨rfl, trivial⟩ (AV.le_refl _) (lesK.refl _) hk

theorem badAt_all (ns : List Nd) (i : Nat) (l : List Nd) : decide (badAt ns i l ≥ 0) = !l.all (nodeOkS ns) := by
  induction l generalizing i with
  | nil => rfl
  | cons n r ih =>
    unfold badAt
    rw [List.all_cons]
    by_cases h : nodeOkS ns n = true
    · rw [h]; simp only [ih, Bool.true_and]
    · rw [Bool.eq_false_iff.2 h]; simp
def gR5 : AG := gput 68 cIdxR (gput 32 cSound (gput 16 cDepth g0))
theorem gR5_ok : GOk Tryz.prog gR5 := gput_ok idxR_ok (gput_ok sound_ok (gput_ok depth_ok g0_ok))
theorem getD_lt {ns : List Nd} {i : Nat} (h : ¬ i < ns.length) : ns.getD i default = default := by
  rw [List.getD_eq_getElem?_getD, List.getElem?_eq_none (by omega)]; rfl
theorem sized_of {ns : List Nd} {root : Int} (h : soundS ns root = true) (ht : ∀ i, (ns.getD i default).tx.length < 1000000) : Sized ns := by
  obtain ⟨h1, h2, h3, h4⟩ := soundS_ok h
  refine ⟨h2, ht, fun i => ?_, fun i q hq => ?_⟩
  · by_cases hi : i < ns.length
    · have := soundS_many h i hi; omega
    · rw [getD_lt hi]; exact Nat.zero_le _
  · by_cases hi : i < ns.length
    · have := h4 i hi q hq; omega
    · rw [getD_lt hi] at hq; cases hq
def cRight : AC := fun args K k => ∃ ns root, args = [treeV ns root] ∧ (List.length ns : Nat) < 1000000 ∧ (∀ i, (ns.getD i default).tx.length < 1000000) ∧ k (.ret (.p (.bool (rightS ns root)))) K
theorem right_ok : COk 19 cRight := by
  rintro args K k ⟨ns, root, rfl, hn, ht, hk⟩
  refine frame0P gR5_ok 19 rfl fun Q hr => ?_
  conv => whnf
  refine ⟨ns, root, rfl, hn, ?_⟩
  cases hs : soundS ns root with
  | false =>
    conv => whnf
    exact hr _ _ rfl (by simpa [rightS, hs] using hk)
  | true =>
    have hz := sized_of hs ht
    obtain ⟨h1, h2, h3, h4⟩ := soundS_ok hs
    conv => whnf
    refine ⟨ns, root, rfl, hn, ?_⟩
    conv => whnf
    refine two_dec (fun h => ?_) (fun h => ?_)
    · conv => whnf
      exact hr _ _ rfl (by simpa [rightS, hs, show ¬ depthS ns root ≤ 40 by omega] using hk)
    conv => whnf
    refine ⟨⟨by omega, by omega, rfl⟩, ?_⟩
    conv => whnf
    refine two_ne (fun h' => ?_) (fun h' => ?_)
    · conv => whnf
      exact hr _ _ rfl (ret_eq hk (congrArg (fun b => AV.p (.bool b)) (by simp only [rightS, beq_eq_false_iff_ne.2 h', Bool.and_false, Bool.false_and])))
    conv => whnf
    refine ⟨ns, root, [], rfl, rfl, hz, ?_⟩
    conv => whnf
    exact hr _ _ rfl (ret_eq hk (congrArg (fun b => AV.p (.bool b)) (by
      show _ = !decide (badAt ns 0 ns ≥ 0)
      rw [badAt_all, Bool.not_not]
      simp only [rightS, hs, h', show depthS ns root ≤ 40 by omega, decide_true, beq_self_eq_true, Bool.true_and])))
end Go.Proofs.YtbcngegcpdppfaaGreatDoor

namespace Go.Proofs.YtbcngegcpdppfaaGreatDoor
open Go.AE Go.Ru
set_option maxRecDepth 100000
set_option pp.maxSteps 4000
set_option maxHeartbeats 1000000

theorem wz {i : Nat} (h : i < 9223372036854775807) : IntKind.i64.wrap ((i : Int) + 1) = ((i + 1 : Nat) : Int) := by rw [w64 ⟨by omega, by omega⟩]; omega
theorem cons_ne {α : Type} [BEq α] [LawfulBEq α] {x y : α} {a b : List α} (h : x ≠ y) : (x :: a == y :: b) = false := beq_eq_false_iff_ne.2 fun e => h (by injection e)
theorem cons_eq {α : Type} [BEq α] [LawfulBEq α] {x y : α} {a b : List α} (h : x = y) : (x :: a == y :: b) = (a == b) := by
  subst h
  rw [Bool.eq_iff_iff, beq_iff_eq, beq_iff_eq]
  exact ⟨fun e => (List.cons.injEq _ _ _ _ ▸ e).2, fun e => by rw [e]⟩
/-- rows of numbers alike? -/
def cEqI : AC := fun args K k => ∃ a b : List Int, args = [.p (.sl 1 a.length (kidF a)), .p (.sl 1 b.length (kidF b))] ∧ a.length ≤ 9223372036854775807 ∧ k (.ret (.p (.bool (a == b)))) K
theorem eqI_ok : COk 36 cEqI := by
  rintro args K k ⟨a, b, rfl, hl, hk⟩
  refine frame0P g0_ok 19 rfl fun Q hr => ?_
  conv => whnf
  refine two_ne (fun h => ?_) (fun h => ?_)
  · conv => whnf
    refine hr _ _ rfl (ret_eq hk (congrArg (fun b => AV.p (.bool b)) (beq_eq_false_iff_ne.2 fun e => h (by rw [e]))))
  have h : a.length = b.length := by omega
  conv => whnf
  refine loop_up (ι := Nat) [0, 1, 12] (fun i => [(13, intV i)]) (fun _ => []) (fun i => i ≤ a.length ∧ (a.drop i == b.drop i) = (a == b)) (fun i => a.length - i) 0 ⟨AV.le_refl _, trivial⟩ trivial ⟨Nat.zero_le _, rfl⟩ ?_
  rintro Y hle i ⟨hi, he⟩ ih
  conv => whnf
  refine two_dec (fun h1 => ?_) (fun h1 => ?_)
  · have h1 : i < a.length := by omega
    have hw1 := wz (i := i) (by omega)
    have h2 : i < b.length := by omega
    rw [List.drop_eq_getElem_cons h1, List.drop_eq_getElem_cons h2] at he
    have e1 : a.getD i 0 = a[i] := by simp [h1]
    have e2 : b.getD i 0 = b[i] := by simp [h2]
    conv => whnf
    repeat' (first | (refine two_eq (fun h => ?_) (fun h => ?_) <;> (conv => whnf)) | (refine two_ne (fun h => ?_) (fun h => ?_) <;> (conv => whnf)) | (refine two_not (fun h => ?_) (fun h => ?_) <;> (conv => whnf)) | (refine two_dec (fun h => ?_) (fun h => ?_) <;> (conv => whnf)) | (refine two_intro (fun h => ?_) (fun h => ?_) <;> (conv => whnf)) | (refine Chk.mk ?_ ?_; (focus (((repeat' (refine And.intro ?_ ?_)) <;> (first | omega | rfl | (simp only [List.length_append, List.length_cons, List.length_nil]; omega) | fail)); done)); (conv => whnf)) | (refine And.intro ?_ ?_; (focus (((repeat' (refine And.intro ?_ ?_)) <;> (first | omega | rfl | (simp only [List.length_append, List.length_cons, List.length_nil]; omega) | fail)); done)); (conv => whnf)) | (refine Exists.intro _ (And.intro rfl ?_)) | (refine Exists.intro _ (Exists.intro _ (And.intro rfl ?_))) | (refine Exists.intro _ (Exists.intro _ (Exists.intro _ (And.intro rfl ?_)))) | fail)
    · have h3 : a.getD i 0 ≠ b.getD i 0 := ‹_›
      rw [e1, e2] at h3
      exact hr _ _ rfl (ret_eq hk (congrArg (fun b => AV.p (.bool b)) (by rw [← he]; exact cons_ne h3)))
    · have h3 : a.getD i 0 = b.getD i 0 := ‹_›
      rw [e1, e2] at h3
      refine hle _ _ (Le.env ?_ ?_) (ih (i + 1) (by omega) ⟨by omega, by rw [← he]; exact (cons_eq h3).symm⟩)
      · skip
        repeat' (first | exact trivial | ((conv => whnf); first | exact trivial | (refine And.intro (AV.le_refl _) ?_) | (refine And.intro (ABlk.le_refl _) ?_) | (refine And.intro (AV.le_of_eq ?_) ?_; (focus ((first | exact congrArg intV hw1 | fail); done))) | (refine And.intro (ABlk.le_of_eq ?_) ?_; (focus ((first | exact congrArg intV hw1 | fail); done))) | fail) | fail)
      · skip
        repeat' (first | exact trivial | ((conv => whnf); first | exact trivial | (refine And.intro (AV.le_refl _) ?_) | (refine And.intro (ABlk.le_refl _) ?_) | (refine And.intro (AV.le_of_eq ?_) ?_; (focus ((first | fail | fail); done))) | (refine And.intro (ABlk.le_of_eq ?_) ?_; (focus ((first | fail | fail); done))) | fail) | fail)
  · have h1 : i = a.length := by omega
    subst h1
    rw [List.drop_length, h, List.drop_length] at he
    conv => whnf
    exact hr _ _ rfl (ret_eq hk (congrArg (fun b => AV.p (.bool b)) he.symm))

def gEq : AG := gput 36 cEqI g0
theorem gEq_ok : GOk Tryz.prog gEq := gput_ok eqI_ok g0_ok
def cSame1 : AC := fun args K k => ∃ x y : Nd, args = [nodeV x, nodeV y] ∧ x.kids.length ≤ 9223372036854775807 ∧ k (.ret (.p (.bool (nkey x == nkey y)))) K
theorem same1_ok : COk 35 cSame1 := by
  rintro args K k ⟨x, y, rfl, hx, hk⟩
  refine frame0P gEq_ok 19 rfl fun Q hr => ?_
  conv => whnf
  repeat' (first | (refine two_eq (fun h => ?_) (fun h => ?_) <;> (conv => whnf)) | (refine two_ne (fun h => ?_) (fun h => ?_) <;> (conv => whnf)) | (refine two_not (fun h => ?_) (fun h => ?_) <;> (conv => whnf)) | (refine two_dec (fun h => ?_) (fun h => ?_) <;> (conv => whnf)) | (refine two_intro (fun h => ?_) (fun h => ?_) <;> (conv => whnf)) | (refine ⟨x.kids, y.kids, rfl, hx, ?_⟩; (conv => whnf)) | fail)
  all_goals refine hr _ _ rfl (ret_eq hk ?_)
  all_goals refine congrArg (fun b => AV.p (.bool b)) (Bool.eq_iff_iff.2 ?_)
  all_goals clear hr hk
  all_goals (simp_all [nkey] <;> (try intros) <;> omega)

def gSa : AG := gput 35 cSame1 g0
theorem gSa_ok : GOk Tryz.prog gSa := gput_ok same1_ok g0_ok
def cEqF : AC := fun args K k => ∃ a b : List Nd, args = [.p (.sl 5 a.length (nodeF a)), .p (.sl 5 b.length (nodeF b)), .p (.fn 35)] ∧ a.length < 1000000 ∧ (∀ i, (a.getD i default).kids.length ≤ 9223372036854775807) ∧ k (.ret (.p (.bool (a.map nkey == b.map nkey)))) K
theorem eqF_ok : COk 34 cEqF := by
  rintro args K k ⟨a, b, rfl, hl, hkid, hk⟩
  refine frame0P gSa_ok 19 rfl fun Q hr => ?_
  conv => whnf
  refine two_ne (fun h => ?_) (fun h => ?_)
  · conv => whnf
    refine hr _ _ rfl (ret_eq hk (congrArg (fun b => AV.p (.bool b)) (beq_eq_false_iff_ne.2 fun e => h (by have := congrArg List.length e; simp at this; rw [this]))))
  have h : a.length = b.length := by omega
  conv => whnf
  refine loop_up (ι := Nat) [1, 2, 15, 16] (fun i => [(17, intV i)]) (fun _ => []) (fun i => i ≤ a.length ∧ ((a.map nkey).drop i == (b.map nkey).drop i) = (a.map nkey == b.map nkey)) (fun i => a.length - i) 0 ⟨AV.le_refl _, trivial⟩ trivial ⟨Nat.zero_le _, rfl⟩ ?_
  rintro Y hle i ⟨hi, he⟩ ih
  conv => whnf
  refine two_dec (fun h1 => ?_) (fun h1 => ?_)
  · have h1 : i < a.length := by omega
    have hw1 := wz (i := i) (by omega)
    have h2 : i < b.length := by omega
    rw [List.drop_eq_getElem_cons (show i < (a.map nkey).length by simpa using h1), List.drop_eq_getElem_cons (show i < (b.map nkey).length by simpa using h2)] at he
    have e1 : (a.map nkey)[i]'(by simpa using h1) = nkey (a.getD i default) := by simp [h1]
    have e2 : (b.map nkey)[i]'(by simpa using h2) = nkey (b.getD i default) := by simp [h2]
    rw [e1, e2] at he
    conv => whnf
    refine ⟨⟨by omega, by omega, rfl⟩, ?_⟩
    conv => whnf
    refine ⟨⟨by omega, by omega, rfl⟩, ?_⟩
    conv => whnf
    refine ⟨a.getD i default, b.getD i default, rfl, hkid i, ?_⟩
    conv => whnf
    refine two_not (fun h3 => ?_) (fun h3 => ?_)
    · have h3 : (nkey (a.getD i default) == nkey (b.getD i default)) = false := h3
      conv => whnf
      exact hr _ _ rfl (ret_eq hk (congrArg (fun b => AV.p (.bool b)) (by
        rw [← he]; exact cons_ne (beq_eq_false_iff_ne.1 h3))))
    · have h3 : (nkey (a.getD i default) == nkey (b.getD i default)) = true := h3
      conv => whnf
      refine hle _ _ (Le.cutEnv 0 rfl rfl trivial ?_ ?_) (ih (i + 1) (by omega) ⟨by omega, by rw [← he]; exact (cons_eq (beq_iff_eq.1 h3)).symm⟩)
      · skip
        repeat' (first | exact trivial | ((conv => whnf); first | exact trivial | (refine And.intro (AV.le_refl _) ?_) | (refine And.intro (ABlk.le_refl _) ?_) | (refine And.intro (AV.le_of_eq ?_) ?_; (focus ((first | exact congrArg intV hw1 | fail); done))) | (refine And.intro (ABlk.le_of_eq ?_) ?_; (focus ((first | exact congrArg intV hw1 | fail); done))) | fail) | fail)
      · skip
        repeat' (first | exact trivial | ((conv => whnf); first | exact trivial | (refine And.intro (AV.le_refl _) ?_) | (refine And.intro (ABlk.le_refl _) ?_) | (refine And.intro (AV.le_of_eq ?_) ?_; (focus ((first | fail | fail); done))) | (refine And.intro (ABlk.le_of_eq ?_) ?_; (focus ((first | fail | fail); done))) | fail) | fail)
  · have h1 : i = a.length := by omega
    subst h1
    have ha : (a.map nkey).drop a.length = [] := List.drop_of_length_le (by simp)
    have hb : (b.map nkey).drop a.length = [] := List.drop_of_length_le (by simp [h])
    rw [ha, hb] at he
    conv => whnf
    exact hr _ _ rfl (ret_eq hk (congrArg (fun b => AV.p (.bool b)) he.symm))

/-- a tree, or one that is none -/
def TreeIs (v : AV) (ns : List Nd) (root : Int) : Prop := v = treeV ns root ∨ (ns = [] ∧ root = 0 ∧ v = .agg [.p .nils, .p (.int .i64 0)])
theorem nils_le (sz : Nat) (f : Nat → List PV) : (AV.p .nils).le (.p (.sl sz 0 f)) := fun w m u h => by
  cases h with
  | p _ _ h => cases h; exact .p _ _ (.sl0 sz f none 0)
theorem AV.agg_le {l l' : List AV} (h : lesL l l') : (AV.agg l).le (.agg l') := fun w m u hV => by
  obtain ⟨h1, h2⟩ := h.get
  cases hV with
  | agg _ A hA hv => exact .agg _ A (by rw [← h1]; exact hA) fun j hj hj' => h2 j (by omega) hj _ _ _ (hv j (by omega) hj')
theorem TreeIs.le {v : AV} {ns : List Nd} {root : Int} (h : TreeIs v ns root) : v.le (treeV ns root) := by
  rcases h with rfl | ⟨rfl, rfl, rfl⟩
  · exact AV.le_refl _
  · exact AV.agg_le ⟨nils_le _ _, AV.le_refl _, trivial⟩
def gSm : AG := gput 34 cEqF g0
theorem gSm_ok : GOk Tryz.prog gSm := gput_ok eqF_ok g0_ok
def cSame : AC := fun args K k => ∃ (x y : AV) (a b : List Nd) (ra rb : Int), args = [x, y] ∧ TreeIs x a ra ∧ TreeIs y b rb ∧ a.length < 1000000 ∧ k (.ret (.p (.bool (sameS a ra b rb)))) K
theorem same_ok : COk 17 cSame := by
  rintro args K k ⟨x, y, a, b, ra, rb, rfl, hx, hy, hl, hk⟩
  refine ACalls.pre (args' := [treeV a ra, treeV b rb]) (K' := K) ?_ (Wk.le ⟨hx.le, hy.le, trivial⟩ (lesK.refl _))
  refine ACalls.fact (ent_ok ⟨_, rfl, rfl⟩) (c := ∀ i, (a.getD i default).kids.length ≤ 9223372036854775807) (fun w m Args hS hV => ?_) fun hkid => ?_
  · have h0 := hV.2 0 (by simp) (by have := hV.1; simp at this; omega)
    simp only [List.getElem_cons_zero, treeV] at h0
    generalize Args[0]'(by have := hV.1; simp at this; omega) = u at h0
    cases h0 with
    | agg cs A hA h =>
      have h1 := h 0 (by simp) (by simp at hA; omega)
      simp only [List.getElem_cons_zero] at h1
      generalize A[0]'(by simp at hA; omega) = u1 at h1
      cases h1 with
      | p _ _ h => exact kids_bound h
  refine frame0P gSm_ok 19 rfl fun Q hr => ?_
  conv => whnf
  refine two_eq (fun h => ?_) (fun h => ?_)
  · conv => whnf
    refine ⟨a, b, rfl, hl, hkid, ?_⟩
    conv => whnf
    exact hr _ _ rfl (ret_eq hk (congrArg (fun b => AV.p (.bool b)) (by rw [sameS, h]; simp)))
  · conv => whnf
    exact hr _ _ rfl (ret_eq hk (congrArg (fun b => AV.p (.bool b)) (by rw [sameS, beq_eq_false_iff_ne.2 h]; rfl)))

/-! ### joining -/
theorem lt_of_cell' {w : World} {b o : Nat} {v : Value} (h : w.cell? ⟨b, o, none⟩ = some v) : b < w.heap.size := by
  unfold World.cell? at h
  cases hb : w.heap[b]? with
  | none => simp [hb] at h
  | some x => exact (Array.getElem?_eq_some_iff.1 hb).1
def cJoinL : AC := fun args K k => ∃ (l : List Bs) (sep : Bs), args = [.p (.sl 1 l.length (strF l)), .p (.str sep)] ∧ l.length < 1000000 ∧ (Lib.join l sep).length < 100000000 ∧ k (.ret (.p (.str (Lib.join l sep)))) K
theorem joinL_ok : COk 43 cJoinL := by
  rintro args K k ⟨l, sep, rfl, hl, hj, hk⟩
  refine ACalls.lib (ent rfl rfl) fun w m Args hS hV => ?_
  obtain ⟨u, v, rfl, h1, h2⟩ := vl2 hV
  obtain ⟨s, rfl, hs⟩ := v_str h2
  cases h1 with
  | p _ _ h1 =>
  generalize hn : l.length = n at h1
  cases h1 with
  | sl0 _ _ a c =>
    obtain rfl : l = [] := List.eq_nil_of_length_eq_zero hn
    exact (Tryz.strings_Join_none a c s w).mono fun e w' ⟨h3, h4⟩ => ⟨_, _, h3, by rw [h4]; exact below_same _, .p _ _ (.str _ _ rfl), hk⟩
  | sl _ _ _ b o c uu hI hcap hc hv =>
    subst hn
    have hcell : ∀ (j : Nat) x, (l.map fun (q : Bs) => (⟨q.toArray⟩ : ByteArray))[j]? = some x → w.cell? ⟨b, o + j, none⟩ = some (.string x) := fun j x hx => by
      rw [List.getElem?_map] at hx
      cases hq : l[j]? with
      | none => rw [hq] at hx; cases hx
      | some q =>
        rw [hq] at hx
        have hj' : j < l.length := (List.getElem?_eq_some_iff.1 hq).1
        have h3 := hc j hj' 0 (by simp [strF])
        have h4 := hv j hj' 0 (by simp [strF])
        have e : (strF l j)[0]'(by simp [strF]) = .str q := by simp [strF, List.getD_eq_getElem?_getD, hq]
        rw [e] at h4
        cases h5 : uu j 0 with
        | string s2 =>
          rw [h5] at h4 h3
          cases h4 with
          | str _ _ h6 =>
            simp only [Option.map_some, Option.some.injEq] at hx
            rw [← hx, ← h6]
            simpa using h3
        | _ => rw [h5] at h4; cases h4
    by_cases h0 : l.length = 0
    · obtain rfl : l = [] := List.eq_nil_of_length_eq_zero h0
      exact (Tryz.strings_Join_none (some ⟨b, o, none⟩) c s w).mono fun e w' ⟨h3, h4⟩ => ⟨_, _, h3, by rw [h4]; exact below_same _, .p _ _ (.str _ _ rfl), hk⟩
    · have hb : b < w.heap.size := lt_of_cell' (hc 0 (by omega) 0 (by simp [strF]))
      have e3 : ((l.map fun (q : Bs) => (⟨q.toArray⟩ : ByteArray)).map (·.data.toList)) = l := by rw [List.map_map]; simp [Function.comp_def]
      have := Tryz.strings_Join b o c (l.map fun (q : Bs) => (⟨q.toArray⟩ : ByteArray)) s w hcell hb (by simp; omega) (by simp; exact hcap.1) (by rw [e3, hs]; omega)
      rw [e3, hs, List.length_map] at this
      exact this.mono fun e w' ⟨h3, h4⟩ => ⟨_, _, h3, h4, .p _ _ (.str _ _ (by simp)), hk⟩
end Go.Proofs.YtbcngegcpdppfaaGreatDoor

namespace Go.AE

theorem Wk1.agg_fz {N : Nat} {K : List ABlk} {r ty sz n : Nat} {f : Nat → List AV} {l l' : List AV} (g : Nat → List PV) (hr : nth K r = some (.arr ty sz 0 n f)) (hg : ∀ i, i < n → f i = pvs (g i)) (hl : fswL r sz n g l l') :
    Wk1 N (.agg l) K (.agg l') (setN K r .dead) := fun w m u we me hT _ hS hV => by
  obtain ⟨m', h1, h2, h3⟩ := freeze_sl hS hr g hg
  refine ⟨m', hT.trans h1, h2, ?_⟩
  obtain ⟨k1, k2⟩ := hl.get
  cases hV with
  | agg _ A hA hv =>
    refine .agg _ A (by rw [← k1]; exact hA) fun j hj hj' => ?_
    rcases k2 j (by omega) hj with h | ⟨e1, e2⟩
    · exact h _ _ _ ((hv j (by omega) hj').mono h1)
    · rw [e2]
      have := hv j (by omega) hj'
      rw [e1] at this
      exact h3 _ this

/-- blocks in weaker words, or cells of theirs as data -/
def fsxB (r sz n : Nat) (g : Nat → List PV) (b b' : ABlk) : Prop := fswB r sz n g b b' ∨ ∃ ty s ver k f f', b = .arr ty s ver k f ∧ b' = .arr ty s ver k f' ∧ ∀ i, i < k → fswL r sz n g (f i) (f' i)
def fsxK (r sz n : Nat) (g : Nat → List PV) : List ABlk → List ABlk → Prop
  | [], [] => True
  | a :: l, b :: l' => fsxB r sz n g a b ∧ fsxK r sz n g l l'
  | _, _ => False
theorem fsxK.hp {r sz n : Nat} {g : Nat → List PV} {K K' : List ABlk} (h : fsxK r sz n g K K') (j : Nat) : fsxB r sz n g (hp K j) (hp K' j) := by
  induction K generalizing K' j with
  | nil => cases K' with
    | nil => exact .inl (.inl (ABlk.le_refl _))
    | cons b l' => exact h.elim
  | cons a l ih => cases K' with
    | nil => exact h.elim
    | cons b l' =>
      cases j with
      | zero => exact h.1
      | succ j => exact ih h.2 j
theorem fzx_core {w : World} {m : Mp} {K K' : List ABlk} {r ty sz n : Nat} {f : Nat → List AV} {g : Nat → List PV} (hS : St w m (hp K)) (hr : nth K r = some (.arr ty sz 0 n f)) (hg : ∀ i, i < n → f i = pvs (g i))
    (hK : fsxK r sz n g (setN K r .dead) K') : ∃ m', Tr w m w m' ∧ St w m' (hp K') ∧ ∀ a a' u, fsw r sz n g a a' → V w m a u → V w m' a' u := by
  obtain ⟨m', hT, hS', hV⟩ := freeze_sl hS hr g hg
  have hv : ∀ a a' u, fsw r sz n g a a' → V w m a u → V w m' a' u := fun a a' u h hu => by
    rcases h with h | ⟨rfl, rfl⟩
    · exact h _ _ _ (hu.mono hT)
    · exact hV u hu
  refine ⟨m', hT, ⟨hS'.inj, hS'.notI, hS'.lt, hS'.Ilt, hS'.gl, fun j => ?_⟩, hv⟩
  have hb := hS'.blk j
  have hup : hp (setN K r .dead) j = upd (hp K) r .dead j := by rw [upd_setN _ (nth_lt hr)]
  rcases hK.hp j with (h | ⟨ty, cs, cs', h1, h2, h3⟩) | ⟨ty, s, ver, k, f1, f1', h1, h2, h3⟩
  · exact h _ _ _ _ hb
  · rw [h1] at hb
    rw [h2]
    have hj : hp K j = .box ty cs := by
      rw [h1] at hup
      simp only [upd] at hup
      split at hup
      · cases hup
      · exact hup.symm
    have hb0 := hS.blk j
    rw [hj] at hb0
    obtain ⟨hl0, c0, e1, e2, e3⟩ := hb0
    obtain ⟨hl, c, d1, d2, d3⟩ := hb
    have hρ : m'.ρ j = m.ρ j := by
      have hs := hT.step j
      rw [hl0, hl] at hs
      simp only [Inf.step] at hs
      rcases hs with hs | ⟨_, he⟩ | ⟨v', n', sz', cap', hs, hlt⟩
      · cases hs
      · exact he
      · simp only [Inf.live.injEq] at hs; omega
    obtain ⟨k1, k2⟩ := h3.get
    refine ⟨by rw [← k1]; exact hl, c0, by rw [hρ]; exact e1, by rw [e2, k1], fun i hi => ?_⟩
    obtain ⟨u, hu, hvu⟩ := e3 i (by omega)
    exact ⟨u, hu, hv _ _ _ (k2 i (by omega) hi) hvu⟩
  · rw [h1] at hb
    rw [h2]
    have hj : hp K j = .arr ty s ver k f1 := by
      rw [h1] at hup
      simp only [upd] at hup
      split at hup
      · cases hup
      · exact hup.symm
    have hb0 := hS.blk j
    rw [hj] at hb0
    rcases hb with hb | ⟨cap, c, hl, q0, q00, d1, d2, d3⟩
    · exact .inl hb
    rcases hb0 with ⟨hn, _⟩ | ⟨cap0, c0, hl0, p0, p00, e1, e2, e3⟩
    · have hs := hT.step j
      rw [hn, hl] at hs
      simp only [Inf.step] at hs
      rcases hs with hs | hs
      · cases hs
      · rcases hs with ⟨v', n', sz', cap', hs, hlt⟩ | hs
        · simp only [Inf.live.injEq] at hs; omega
    have hρ : m'.ρ j = m.ρ j := by
      have hs := hT.step j
      rw [hl0, hl] at hs
      simp only [Inf.step] at hs
      rcases hs with hs | ⟨_, he⟩ | ⟨v', n', sz', cap', hs, hlt⟩
      · cases hs
      · exact he
      · simp only [Inf.live.injEq] at hs; omega
    have hcap : cap = cap0 := by
      have hs := hT.step j
      rw [hl0, hl] at hs
      simp only [Inf.step] at hs
      rcases hs with hs | ⟨he, _⟩ | ⟨v', n', sz', cap', hs, hlt⟩
      · cases hs
      · simp only [Inf.live.injEq] at he; omega
      · simp only [Inf.live.injEq] at hs; omega
    subst hcap
    refine .inr ⟨cap, c0, hl, q0, q00, by rw [hρ]; exact e1, e2, fun i hi => ?_⟩
    obtain ⟨k1, k2⟩ := (h3 i hi).get
    obtain ⟨x1, x2⟩ := e3 i hi
    refine ⟨by omega, fun jj hjj => ?_⟩
    obtain ⟨u, hu, hvu⟩ := x2 jj (by omega)
    exact ⟨u, hu, hv _ _ _ (k2 jj (by omega) hjj) hvu⟩
theorem Wk1.fzx {N : Nat} {K K' : List ABlk} {r ty sz n : Nat} {f : Nat → List AV} {a a' : AV} (g : Nat → List PV) (hr : nth K r = some (.arr ty sz 0 n f)) (hg : ∀ i, i < n → f i = pvs (g i))
    (hK : fsxK r sz n g (setN K r .dead) K') (ha : a.le a') : Wk1 N a K a' K' := fun w m u we me hT _ hS hV => by
  obtain ⟨m', h1, h2, h3⟩ := fzx_core hS hr hg hK
  exact ⟨m', hT.trans h1, h2, h3 _ _ _ (.inl ha) hV⟩
end Go.AE

namespace Go.Ru
/-- a node whose kids stand further on -/
def shiftN (n : Nd) (by_ : Int) : Nd := ⟨n.k, n.n, n.at_, n.tx, n.kids.map (· + by_)⟩
def overL : List (List Nd × Int) → List Nd → List Int → List Nd × List Int
  | [], ns, ks => (ns, ks)
  | t :: r, ns, ks => overL r (ns ++ t.1.map (shiftN · ns.length)) (ks ++ [t.2 + ns.length])
def overS (n : Nd) (l : List (List Nd × Int)) : List Nd × Int := ((overL l [] []).1 ++ [⟨n.k, n.n, n.at_, n.tx, (overL l [] []).2⟩], (overL l [] []).1.length)
end Go.Ru
namespace Go.Proofs.YtbcngegcpdppfaaGreatDoor
open Go.AE Go.Ru
set_option maxRecDepth 100000
set_option pp.maxSteps 4000
set_option maxHeartbeats 1000000

def kiA (l : List Int) : ABlk := .arr 3 1 0 l.length (fun i => pvs (kidF l i))
theorem kiA_snoc (l : List Int) (x : Int) (f : Nat → List AV) (hf : f 0 = [intV x]) : (ABlk.arr 3 1 0 (l.length + 1) (catF l.length (fun i => pvs (kidF l i)) f)).le (kiA (l ++ [x])) := by
  refine ABlk.arr_eq (by simp) fun i hi => ?_
  by_cases h : i < l.length
  · rw [catF_lt h]
    simp [kidF, List.getD_eq_getElem?_getD, List.getElem?_append_left h]
  · obtain rfl : i = l.length := by omega
    rw [catF_ge (Nat.le_refl _), Nat.sub_self, hf]
    simp [kidF, List.getD_eq_getElem?_getD, pvs, intV]
theorem ki_cl (l : List Int) (x : Int) (f : Nat → List AV) (n : Nat) (hf : f 0 = [intV x]) : (ABlk.arr 3 1 0 (l.length + 1) (catF l.length (fun i => pvs (kidF l i)) f)).cl n := fun i hi => by
  by_cases h : i < l.length
  · rw [catF_lt h]; rfl
  · obtain rfl : i = l.length := by omega
    rw [catF_ge (Nat.le_refl _), Nat.sub_self, hf]; rfl
def In63 (x : Int) : Prop := -9223372036854775808 ≤ x ∧ x ≤ 9223372036854775807
def cShift : AC := fun args K k => ∃ n b, args = [nodeV n, .p (.int .i64 b)] ∧ n.kids.length < 1000000 ∧ (∀ q ∈ n.kids, In63 (q + b)) ∧ k (.ret (nodeV (shiftN n b))) K
theorem shift_ok' : COk 37 cShift := by
  rintro args K k ⟨n, b, rfl, hn, hq, hk⟩
  refine frame0W g0_ok 19 rfl fun Q hr => ?_
  conv => whnf
  refine ⟨⟨by omega, by omega, by omega, ?_⟩, ?_⟩
  · show (8 : Int) * (n.kids.length : Int) ≤ 140737488355328
    omega
  conv => whnf
  refine loop_by (ι := Nat) (fun i => ⟨[(1, .p (.int .i64 b)), (2, .ptr 0 0 1 0 0), (4, .ptr 1 0 1 0 0), (5, .slr 2 0 0 ((n.kids.take i).map (· + b)).length), (13, .p (.sl 1 n.kids.length (kidF n.kids))), (14, intV n.kids.length), (15, intV i)],
      [.box 41 [.p (.int .i64 n.k), .p (.int .i64 n.n), .p (.int .i64 n.at_), .p (.str n.tx), .p (.sl 1 n.kids.length (kidF n.kids))], .box 41 [.p (.int .i64 0), .p (.int .i64 0), .p (.int .i64 0), .p (.str []), .p .nils], kiA ((n.kids.take i).map (· + b))]⟩)
    (fun i => i ≤ n.kids.length) (fun i => n.kids.length - i) 0 ⟨AV.le_refl _, AV.le_refl _, AV.le_refl _, AV.le_refl _, AV.le_refl _, AV.le_refl _, AV.le_refl _, trivial⟩
    ⟨ABlk.le_refl _, ABlk.le_refl _, ABlk.arr_eq rfl (fun i hi => absurd hi (Nat.not_lt_zero i)), trivial⟩ (Nat.zero_le _) ?_
  intro Y hle i hi ih
  conv => whnf
  refine two_dec (fun h => ?_) (fun h => ?_)
  · have h : i < n.kids.length := by omega
    have hw1 := wz (i := i) (by omega)
    have hsn : (n.kids.take (i + 1)).map (· + b) = (n.kids.take i).map (· + b) ++ [n.kids.getD i 0 + b] := by rw [List.take_succ_eq_append_getElem h, List.map_append]; simp [h]
    have hlen : ((n.kids.take i).map (· + b)).length = i := by simp; omega
    have hwb : IntKind.i64.wrap (n.kids.getD (i : Int).toNat 0 + b) = n.kids.getD i 0 + b := by
      rw [Int.toNat_natCast]
      have := hq (n.kids.getD i 0) (by simp [h])
      exact w64 ⟨by have := this.1; omega, by have := this.2; omega⟩
    generalize hL : (n.kids.take i).map (· + b) = L at hsn hlen ⊢
    conv => whnf
    refine ⟨⟨by omega, by omega, rfl⟩, ?_⟩
    conv => whnf
    refine ⟨⟨rfl, rfl, rfl, allLt_ok ⟨trivial, rfl⟩⟩, ?_⟩
    conv => whnf
    refine ⟨⟨rfl, rfl, rfl, rfl, ?_, ?_⟩, ?_⟩
    · show (L.length + 1) * 8 ≤ 140737488355328
      omega
    · show L.length + 1 ≤ 9223372036854775807
      omega
    conv => whnf
    refine hle _ _ (Le.cutEnv 3 rfl rfl ⟨rfl, rfl, ki_cl L _ _ 3 rfl, trivial⟩ ?_ ?_) (ih (i + 1) (by omega) (by omega))
    · skip
      repeat' (first | exact trivial | ((conv => whnf); first | exact trivial | (refine And.intro (AV.le_refl _) ?_) | (refine And.intro (ABlk.le_refl _) ?_) | (refine And.intro (AV.le_of_eq ?_) ?_; (focus ((first | exact congrArg intV hw1 | exact congrArg (fun n => AV.slr 2 0 0 n) (by rw [hsn]; simp) | fail); done))) | (refine And.intro (ABlk.le_of_eq ?_) ?_; (focus ((first | exact congrArg intV hw1 | exact congrArg (fun n => AV.slr 2 0 0 n) (by rw [hsn]; simp) | fail); done))) | fail) | fail)
    · (conv => whnf)
      refine ⟨ABlk.le_refl _, ?_⟩
      (conv => whnf)
      refine ⟨ABlk.le_refl _, ?_⟩
      (conv => whnf)
      refine ⟨?_, trivial⟩
      rw [hsn]
      exact kiA_snoc L _ _ (congrArg (fun x => [intV x]) hwb)
  · obtain rfl : i = n.kids.length := by omega
    rw [List.take_length]
    conv => whnf
    refine hr _ _ _ _ (Wk1.agg_fz (l' := [.p (.int .i64 n.k), .p (.int .i64 n.n), .p (.int .i64 n.at_), .p (.str n.tx), .p (.sl 1 (n.kids.map (· + b)).length (kidF (n.kids.map (· + b))))]) (r := 2) (kidF (n.kids.map (· + b))) rfl (fun _ _ => rfl) ⟨.inl (AV.le_refl _), .inl (AV.le_refl _), .inl (AV.le_refl _), .inl (AV.le_refl _), .inr ⟨rfl, rfl⟩, trivial⟩) rfl hk

theorem nb_snoc (l : List Nd) (x : Nd) (f : Nat → List AV) (hf : f 0 = pvs (encNode x)) : (ABlk.arr 41 5 0 (l.length + 1) (catF l.length (fun i => pvs (nodeF l i)) f)).le (nb (l ++ [x])) := by
  refine ABlk.arr_eq (by simp) fun i hi => ?_
  by_cases h : i < l.length
  · rw [catF_lt h]
    simp [nodeF, List.getD_eq_getElem?_getD, List.getElem?_append_left h]
  · obtain rfl : i = l.length := by omega
    rw [catF_ge (Nat.le_refl _), Nat.sub_self, hf]
    simp [nodeF, List.getD_eq_getElem?_getD]
theorem nb_cl (l : List Nd) (x : Nd) (f : Nat → List AV) (n : Nat) (hf : f 0 = pvs (encNode x)) : (ABlk.arr 41 5 0 (l.length + 1) (catF l.length (fun i => pvs (nodeF l i)) f)).cl n := fun i hi => by
  by_cases h : i < l.length
  · rw [catF_lt h]; rfl
  · obtain rfl : i = l.length := by omega
    rw [catF_ge (Nat.le_refl _), Nat.sub_self, hf]; rfl
def treeF (l : List (List Nd × Int)) (i : Nat) : List PV := [.sl 5 (l.getD i ([], 0)).1.length (nodeF (l.getD i ([], 0)).1), .int .i64 (l.getD i ([], 0)).2]
def gSh : AG := gput 37 cShift g0
theorem gSh_ok : GOk Tryz.prog gSh := gput_ok shift_ok' g0_ok
def Small (x : Int) : Prop := -1000000000 ≤ x ∧ x ≤ 1000000000
structure OverOk (l : List (List Nd × Int)) : Prop where
  len : l.length < 1000000
  all : (l.map (·.1.length)).sum < 1000000
  root : ∀ t ∈ l, Small t.2
  kids : ∀ t ∈ l, ∀ n ∈ t.1, n.kids.length < 1000000 ∧ ∀ q ∈ n.kids, Small q
structure OC where
  j : Nat
  ns : List Nd
  ks : List Int
def ovK (n : Nd) (ns : List Nd) (ks : List Int) : List ABlk := [.box 41 [.p (.int .i64 n.k), .p (.int .i64 n.n), .p (.int .i64 n.at_), .p (.str n.tx), .slr 4 0 0 ks.length], .box 25 [.p .nils, .p (.int .i64 0)], .box 25 [.slr 3 0 0 ns.length, .p (.int .i64 0)], nb ns, kiA ks]
def cOver : AC := fun args K k => ∃ n l, args = [nodeV n, .p (.sl 2 (List.length l) (treeF l))] ∧ OverOk l ∧ k (.ret (treeV (overS n l).1 (overS n l).2)) K
theorem over_ok : COk 18 cOver := by
  rintro args K k ⟨n, l, rfl, ho, hk⟩
  have hll := ho.len
  refine frame0W gSh_ok 19 rfl fun Q hr => ?_
  conv => whnf
  refine LoopW.le (Le.nilRow (t' := [(1, .p (.sl 2 (List.length l) (treeF l))), (2, .ptr 0 0 1 0 0), (4, .ptr 1 0 1 0 0), (5, .ptr 2 0 1 0 0), (12, .p (.sl 2 (List.length l) (treeF l))), (13, intV l.length), (14, intV 0)])
    (K' := [.box 41 [.p (.int .i64 n.k), .p (.int .i64 n.n), .p (.int .i64 n.at_), .p (.str n.tx), .p .nils], .box 25 [.p .nils, .p (.int .i64 0)], .box 25 [.slr 3 0 0 0, .p (.int .i64 0)]])
    41 5 (fun i => pvs (nodeF [] i)) rfl ⟨.inl (AV.le_refl _), .inl (AV.le_refl _), .inl (AV.le_refl _), .inl (AV.le_refl _), .inl (AV.le_refl _), .inl (AV.le_refl _), .inl (AV.le_refl _), trivial⟩
    ⟨.inl (ABlk.le_refl _), .inl (ABlk.le_refl _), .inr ⟨_, _, _, rfl, rfl, .inr ⟨rfl, rfl⟩, .inl (AV.le_refl _), trivial⟩, trivial⟩) ?_
  refine loop_nil (ι := OC) 3 1 (fun i => pvs (kidF [] i)) (fun c => ⟨[(2, .ptr 0 0 1 0 0), (4, .ptr 1 0 1 0 0), (5, .ptr 2 0 1 0 0), (12, .p (.sl 2 (List.length l) (treeF l))), (13, intV l.length), (14, intV c.j)], ovK n c.ns c.ks⟩)
    (fun c => c.j ≤ l.length ∧ overL (l.drop c.j) c.ns c.ks = overL l [] [] ∧ c.ns.length + ((l.drop c.j).map (·.1.length)).sum = (l.map (·.1.length)).sum ∧ c.ks.length = c.j) (fun c => l.length - c.j) ⟨0, [], []⟩
    [.box 41 [.p (.int .i64 n.k), .p (.int .i64 n.n), .p (.int .i64 n.at_), .p (.str n.tx), .slr 4 0 0 0], .box 25 [.p .nils, .p (.int .i64 0)], .box 25 [.slr 3 0 0 0, .p (.int .i64 0)], .arr 41 5 0 0 (fun i => pvs (nodeF [] i))]
    rfl ⟨.inl (AV.le_refl _), .inl (AV.le_refl _), .inl (AV.le_refl _), .inl (AV.le_refl _), .inl (AV.le_refl _), .inl (AV.le_refl _), trivial⟩
    ⟨.inr ⟨_, _, _, rfl, rfl, .inl (AV.le_refl _), .inl (AV.le_refl _), .inl (AV.le_refl _), .inl (AV.le_refl _), .inr ⟨rfl, rfl⟩, trivial⟩, .inl (ABlk.le_refl _), .inl (ABlk.le_refl _), .inl (ABlk.le_refl _), trivial⟩ rfl ⟨Nat.zero_le _, rfl, by simp, rfl⟩ ?_
  rintro Y hle ⟨j, ns, ks⟩ ⟨hj, he, hsum, hks⟩ ih
  simp only at hj he hsum hks
  have hj1 : ∀ x : Nat, x = j → True := fun _ _ => trivial
  conv => whnf
  refine two_dec (fun h => ?_) (fun h => ?_)
  · have h : j < l.length := by have h : (j : Int) < (l.length : Int) := h; omega
    have hw1 := wz (i := j) (by omega)
    have hmem : l.getD j ([], 0) ∈ l := by simp [h]
    have hcons : l.drop j = l.getD j ([], 0) :: l.drop (j + 1) := by rw [List.drop_eq_getElem_cons h]; simp [h]
    rw [hcons] at he hsum
    have hroot := ho.root _ hmem
    have hkids := ho.kids _ hmem
    have hall := ho.all
    conv => whnf
    refine ⟨⟨by omega, by have : (j : Int) < (l.length : Int) := by omega
                          exact this, rfl⟩, ?_⟩
    obtain ⟨⟨kt, kr⟩, hkt⟩ : ∃ t, l.getD j ([], 0) = t := ⟨_, rfl⟩
    rw [hkt] at he hsum hroot hkids
    simp only [overL, List.map_cons, List.sum_cons] at he hsum hroot hkids
    have hkt' : treeF l (j : Int).toNat = [.sl 5 kt.length (nodeF kt), .int .i64 kr] := by rw [Int.toNat_natCast]; simp only [treeF, hkt]
    rw [show treeF l (Int.toNat _) = _ from hkt']
    have hM0 : ns ++ (kt.take 0).map (shiftN · ns.length) = ns := by simp
    conv => whnf
    refine loop_up (ι := Nat) [2, 4, 5, 7, 8, 12, 13, 14, 22, 23] (fun i => [(24, intV i)]) (fun i => [(2, .box 25 [.slr 3 0 0 (ns ++ (kt.take i).map (shiftN · ns.length)).length, .p (.int .i64 0)]), (3, nb (ns ++ (kt.take i).map (shiftN · ns.length)))])
      (fun i => i ≤ kt.length) (fun i => kt.length - i) 0 ⟨AV.le_refl _, trivial⟩ ⟨upLe1 rfl (ABlk.le_of_eq (by rw [hM0])), upLe1 rfl (ABlk.le_of_eq (by rw [hM0]; rfl)), trivial⟩ (Nat.zero_le _) ?_
    rintro Z hlz i hi ihz
    conv => whnf
    refine two_dec (fun h2 => ?_) (fun h2 => ?_)
    · have h2 : i < kt.length := by omega
      have hw2 := wz (i := i) (by omega)
      have hsn : ns ++ (kt.take (i + 1)).map (shiftN · ns.length) = (ns ++ (kt.take i).map (shiftN · ns.length)) ++ [shiftN (kt.getD i default) ns.length] := by
        rw [List.take_succ_eq_append_getElem h2, List.map_append, ← List.append_assoc]; simp [h2]
      have hlen : (ns ++ (kt.take i).map (shiftN · ns.length)).length = ns.length + i := by simp; omega
      obtain ⟨hk1, hk2⟩ := hkids (kt.getD i default) (by simp [h2])
      generalize hL : ns ++ (kt.take i).map (shiftN · ns.length) = L at hsn hlen ⊢
      conv => whnf
      refine ⟨⟨by omega, by omega, rfl⟩, ?_⟩
      conv => whnf
      refine ⟨kt.getD i default, ns.length, rfl, hk1, fun q hq => ?_, ?_⟩
      · have := hk2 q hq
        unfold Small at this; unfold In63
        omega
      conv => whnf
      repeat ((refine And.intro ?_ ?_); (focus ((conv => whnf); done)); (conv => whnf))
      refine ⟨⟨rfl, rfl, rfl, allLt_ok ⟨trivial, rfl⟩⟩, ?_⟩
      conv => whnf
      refine ⟨⟨rfl, rfl, rfl, rfl, ?_, ?_⟩, ?_⟩
      · show (L.length + 1) * 64 ≤ 140737488355328
        omega
      · show L.length + 1 ≤ 9223372036854775807
        omega
      conv => whnf
      refine hlz _ _ (Le.cutEnv 6 rfl rfl ⟨rfl, rfl, rfl, nb_cl L (shiftN (kt.getD i default) ns.length) _ 6 rfl, fun _ _ => rfl, rfl, trivial⟩ ?_ ?_) (ihz (i + 1) (by omega) (by omega))
      · skip
        repeat' (first | exact trivial | ((conv => whnf); first | exact trivial | (refine And.intro (AV.le_refl _) ?_) | (refine And.intro (ABlk.le_refl _) ?_) | (refine And.intro (AV.le_of_eq ?_) ?_; (focus ((first | exact congrArg intV hw2 | fail); done))) | (refine And.intro (ABlk.le_of_eq ?_) ?_; (focus ((first | exact congrArg intV hw2 | fail); done))) | fail) | fail)
      · skip
        repeat' (first | exact trivial | ((conv => whnf); first | exact trivial | (refine And.intro (AV.le_refl _) ?_) | (refine And.intro (ABlk.le_refl _) ?_) | (refine And.intro (AV.le_of_eq ?_) ?_; (focus ((first | exact congrArg (fun q => ABlk.box 25 [.slr 3 0 0 q, .p (.int .i64 0)]) (by rw [hsn]; simp) | fail); done))) | (refine And.intro (ABlk.le_of_eq ?_) ?_; (focus ((first | exact congrArg (fun q => ABlk.box 25 [.slr 3 0 0 q, .p (.int .i64 0)]) (by rw [hsn]; simp) | fail); done))) | fail) | fail)
        (conv => whnf)
        refine ⟨?_, ?_⟩
        · rw [hsn]; exact nb_snoc L _ _ rfl
        repeat' (first | exact trivial | ((conv => whnf); first | exact trivial | (refine And.intro (AV.le_refl _) ?_) | (refine And.intro (ABlk.le_refl _) ?_) | (refine And.intro (AV.le_of_eq ?_) ?_; (focus ((first | fail | fail); done))) | (refine And.intro (ABlk.le_of_eq ?_) ?_; (focus ((first | fail | fail); done))) | fail) | fail)
    · have h2 : i = kt.length := by omega
      subst h2
      rw [List.take_length]
      have hwr : IntKind.i64.wrap (kr + (ns.length : Int)) = kr + ns.length := by
        unfold Small at hroot
        exact w64 ⟨by omega, by omega⟩
      generalize hL : ns ++ kt.map (shiftN · ns.length) = L at he ⊢
      have hlL : L.length = ns.length + kt.length := by rw [← hL]; simp
      conv => whnf
      refine ⟨⟨rfl, rfl, rfl, allLt_ok ⟨trivial, rfl⟩⟩, ?_⟩
      conv => whnf
      refine ⟨⟨rfl, rfl, rfl, rfl, ?_, ?_⟩, ?_⟩
      · show (ks.length + 1) * 8 ≤ 140737488355328
        omega
      · show ks.length + 1 ≤ 9223372036854775807
        omega
      conv => whnf
      refine hle _ _ (Le.cutEnv 5 rfl rfl ⟨rfl, rfl, rfl, fun _ _ => rfl, ki_cl ks _ _ 5 rfl, trivial⟩ ?_ ?_) (ih ⟨j + 1, L, ks ++ [kr + ns.length]⟩ (by show l.length - (j + 1) < l.length - j; omega) ⟨by show j + 1 ≤ l.length; omega, he, by show L.length + ((l.drop (j + 1)).map (·.1.length)).sum = _; omega, by show (ks ++ [_]).length = j + 1; simp; omega⟩)
      · skip
        repeat' (first | exact trivial | ((conv => whnf); first | exact trivial | (refine And.intro (AV.le_refl _) ?_) | (refine And.intro (ABlk.le_refl _) ?_) | (refine And.intro (AV.le_of_eq ?_) ?_; (focus ((first | exact congrArg intV hw1 | fail); done))) | (refine And.intro (ABlk.le_of_eq ?_) ?_; (focus ((first | exact congrArg intV hw1 | fail); done))) | fail) | fail)
      · skip
        repeat' (first | exact trivial | ((conv => whnf); first | exact trivial | (refine And.intro (AV.le_refl _) ?_) | (refine And.intro (ABlk.le_refl _) ?_) | (refine And.intro (AV.le_of_eq ?_) ?_; (focus ((first | exact congrArg (fun q => ABlk.box 41 [.p (.int .i64 n.k), .p (.int .i64 n.n), .p (.int .i64 n.at_), .p (.str n.tx), .slr 4 0 0 q]) (by simp) | fail); done))) | (refine And.intro (ABlk.le_of_eq ?_) ?_; (focus ((first | exact congrArg (fun q => ABlk.box 41 [.p (.int .i64 n.k), .p (.int .i64 n.n), .p (.int .i64 n.at_), .p (.str n.tx), .slr 4 0 0 q]) (by simp) | fail); done))) | fail) | fail)
        (conv => whnf)
        refine ⟨?_, trivial⟩
        exact kiA_snoc ks _ _ (congrArg (fun x => [intV x]) hwr)
  · have h : j = l.length := by have h : ¬ (j : Int) < (l.length : Int) := h; omega
    subst h
    rw [List.drop_length] at he hsum
    simp only [overL] at he
    have e1 : (overL l [] []).1 = ns := by rw [← he]
    have e2 : (overL l [] []).2 = ks := by rw [← he]
    have hall := ho.all
    simp only [List.map_nil, List.sum_nil] at hsum
    have hks2 : ks.length = l.length := hks
    conv => whnf
    refine ⟨⟨rfl, rfl, rfl, allLt_ok ⟨trivial, rfl⟩⟩, ?_⟩
    conv => whnf
    refine ⟨⟨rfl, rfl, rfl, rfl, ?_, ?_⟩, ?_⟩
    · show (ns.length + 1) * 64 ≤ 140737488355328
      omega
    · show ns.length + 1 ≤ 9223372036854775807
      omega
    have e3 : treeV (overS n l).1 (overS n l).2 = .agg [.p (.sl 5 (ns.length + 1) (nodeF (ns ++ [⟨n.k, n.n, n.at_, n.tx, ks⟩]))), .p (.int .i64 ns.length)] := by
      simp only [overS, e1, e2, treeV, List.length_append, List.length_cons, List.length_nil]
    rw [e3] at hk
    conv => whnf
    refine hr _ _ _ _ (Wk1.trans (Wk1.fzx (K' := [_, _, _, .arr 41 5 0 (ns.length + 1) (fun i => pvs (nodeF (ns ++ [⟨n.k, n.n, n.at_, n.tx, ks⟩]) i)), _, _]) (r := 4) (kidF ks) rfl (fun _ _ => rfl)
      ⟨.inl (.inl (ABlk.le_refl _)), .inl (.inl (ABlk.le_refl _)), .inl (.inl (ABlk.le_refl _)), .inr ⟨_, _, _, _, _, _, rfl, rfl, fun i hi => ?_⟩, .inl (.inl (ABlk.le_refl _)), .inl (.inl (ABlk.le_refl _)), trivial⟩ (AV.le_refl _))
      (Wk1.agg_fz (l' := [.p (.sl 5 (ns.length + 1) (nodeF (ns ++ [⟨n.k, n.n, n.at_, n.tx, ks⟩]))), .p (.int .i64 ns.length)]) (r := 3) (nodeF (ns ++ [⟨n.k, n.n, n.at_, n.tx, ks⟩])) rfl (fun _ _ => rfl) ⟨.inr ⟨rfl, rfl⟩, .inl (AV.le_refl _), trivial⟩)) rfl hk
    have hi : i < ns.length + 1 := hi
    by_cases hi2 : i < ns.length
    · rw [catF_lt hi2]
      have e4 : nodeF (ns ++ [⟨n.k, n.n, n.at_, n.tx, ks⟩]) i = nodeF ns i := by simp [nodeF, List.getD_eq_getElem?_getD, List.getElem?_append_left hi2]
      rw [e4]
      exact ⟨.inl (AV.le_refl _), .inl (AV.le_refl _), .inl (AV.le_refl _), .inl (AV.le_refl _), .inl (AV.le_refl _), trivial⟩
    · obtain rfl : i = ns.length := by omega
      rw [catF_ge (Nat.le_refl _)]
      have e4 : nodeF (ns ++ [⟨n.k, n.n, n.at_, n.tx, ks⟩]) ns.length = encNode ⟨n.k, n.n, n.at_, n.tx, ks⟩ := by simp [nodeF, List.getD_eq_getElem?_getD]
      rw [e4, Nat.sub_self]
      exact ⟨.inl (AV.le_refl _), .inl (AV.le_refl _), .inl (AV.le_refl _), .inl (AV.le_refl _), .inr ⟨rfl, rfl⟩, trivial⟩
end Go.Proofs.YtbcngegcpdppfaaGreatDoor

namespace Go.Ru
open Go
set_option maxRecDepth 20000

/-! ### how much was open grows; each node costs a token -/
def Ew (s s' : PS) : Prop := s.mo ≤ s'.mo ∧ s'.ns.length + s'.ts.length ≤ s.ns.length + s.ts.length ∧ s'.ts.length ≤ s.ts.length
theorem Ew.refl (s : PS) : Ew s s := ⟨Int.le_refl _, Nat.le_refl _, Nat.le_refl _⟩
theorem Ew.trans {a b c : PS} (h : Ew a b) (k : Ew b c) : Ew a c := ⟨Int.le_trans h.1 k.1, by have := h.2.1; have := k.2.1; omega, by have := h.2.2; have := k.2.2; omega⟩
def Es (m : M Int) : Prop := ∀ s, Okk (m s) (Ew s)
theorem isS_len {w : Bs} {ts : List Tok} (h : isS w ts = true) : 0 < ts.length := isS_pos h
theorem want_w {e : Int} {w : Bs} {s : PS} : Okk (wantS e w s) fun s' => s'.mo = s.mo ∧ s'.ns = s.ns ∧ s'.ts.length + 1 = s.ts.length := by
  unfold wantS
  split
  · rename_i h
    have := isS_len h
    refine .pure ⟨rfl, rfl, ?_⟩
    simp only [dropS, List.length_tail]; omega
  · exact .bad
/-- within: one token less ahead of what stands in it -/
theorem within_w {e : Int} {d : Nat} {op cl : Bs} {what : M Int} (hw : ∀ d', d = d' + 1 → Es what) (s : PS) : Okk (withinS e d op cl what s) fun s' => s.mo ≤ s'.mo ∧ s'.ns.length + s'.ts.length + 1 ≤ s.ns.length + s.ts.length ∧ s'.ts.length + 1 ≤ s.ts.length := by
  unfold withinS
  split
  · exact .bad
  · rename_i h
    have hp := isS_len h
    split
    · exact .bad
    · rename_i d'
      refine Okk.bind (hw _ rfl _) fun a s1 h1 => ?_
      obtain ⟨h2, h3, h4⟩ := h1
      have hm : s.mo ≤ moreS d'.succ s.mo := by unfold moreS; split <;> omega
      simp only [List.length_tail] at h2 h3 h4
      split
      · exact .pure ⟨by omega, by omega, by omega⟩
      · exact Okk.bind want_w fun _ s2 ⟨h5, h6, h7⟩ => .pure ⟨by omega, by rw [h6]; omega, by omega⟩
theorem put_w {n : Nd} {s0 s : PS} (h : s0.mo ≤ s.mo ∧ s.ns.length + s.ts.length + 1 ≤ s0.ns.length + s0.ts.length ∧ s.ts.length ≤ s0.ts.length) : Okk (putS n s) (Ew s0) := .pure ⟨h.1, by simp; omega, h.2.2⟩
theorem rowLoop_w {l : List Bs} {opnd : M Int} (ho : Es opnd) : ∀ n x s, Okk (rowLoop l opnd n x s) (Ew s) := by
  intro n
  induction n with
  | zero => exact fun x s => .pure (.refl s)
  | succ n ih =>
    intro x s
    unfold rowLoop
    split
    · exact .pure (.refl s)
    · rename_i t r ht
      split
      · exact .pure (.refl s)
      · refine Okk.bind (ho _) fun y s1 h1 => Okk.bind (p := Ew s) (put_w ?_) fun z s2 h2 => (ih z s2).imp fun s3 h3 => h2.trans h3
        obtain ⟨h2, h3, h4⟩ := h1
        simp only at h2 h3 h4
        rw [ht]; simp only [List.length_cons]
        exact ⟨h2, by omega, by omega⟩
theorem expr_w {una : M Int} (h : Es una) : ∀ j, Es (exprS una j) := by
  intro j
  induction j with
  | zero => exact h
  | succ j ih =>
    intro s
    unfold exprS
    exact Okk.bind (ih s) fun x s1 h1 => (rowLoop_w ih _ x s1).imp fun s2 h2 => h1.trans h2
theorem ident_w {e : Int} {s : PS} : Okk (identS e s) fun s' => s'.mo = s.mo ∧ s'.ns = s.ns ∧ s'.ts.length + 1 = s.ts.length := by
  unfold identS
  split
  · exact .bad
  · rename_i t r ht
    split
    · exact .pure ⟨rfl, rfl, by rw [ht]; rfl⟩
    · exact .bad
theorem prim_w {e : Int} (d : Nat) {inner : M Int} (h : ∀ d', d = d' + 1 → Es inner) : Es (primS e d inner) := by
  intro s
  unfold primS
  split
  · exact .bad
  · rename_i t r ht
    have hl : s.ts.length = r.length + 1 := by rw [ht]; rfl
    split
    · exact put_w ⟨Int.le_refl _, by simp only; omega, by simp only; omega⟩
    · split
      · exact Okk.bind (within_w h _) fun x s1 ⟨h1, h2, h3⟩ => put_w ⟨h1, by simp only at h2; omega, by simp only at h3; omega⟩
      · exact put_w ⟨Int.le_refl _, by simp only; omega, by simp only; omega⟩
    · split
      · exact put_w ⟨Int.le_refl _, by simp only; omega, by simp only; omega⟩
      · split
        · exact put_w ⟨Int.le_refl _, by simp only; omega, by simp only; omega⟩
        · split
          · exact Okk.bind ident_w fun t' s1 ⟨h1, h2, h3⟩ => put_w ⟨by rw [h1]; exact Int.le_refl _, by rw [h2]; simp only at h3 ⊢; omega, by simp only at h3; omega⟩
          · split
            · exact Okk.bind ident_w fun t' s1 ⟨h1, h2, h3⟩ => put_w ⟨by rw [h1]; exact Int.le_refl _, by rw [h2]; simp only at h3 ⊢; omega, by simp only at h3; omega⟩
            · split
              · exact (within_w h s).imp fun s1 ⟨h1, h2, h3⟩ => ⟨h1, by omega, by omega⟩
              · exact .bad
theorem unaB_w {e : Int} (d : Nat) {una inner : M Int} (h1 : ∀ d', d = d' + 1 → Es una) (h2 : ∀ d', d = d' + 1 → Es inner) : Es (unaB e d una inner) := by
  intro s
  unfold unaB
  split
  · exact .bad
  · split
    · exact Okk.bind (within_w h1 _) fun x s1 ⟨h3, h4, h5⟩ => put_w ⟨h3, h4, by omega⟩
    · exact prim_w d h2 s
theorem una_w {e : Int} : ∀ d, Es (unaS e d) := by
  intro d
  induction d with
  | zero => exact unaB_w 0 (fun d' h => by omega) (fun d' h => by omega)
  | succ d ih => exact unaB_w (d + 1) (fun _ _ => ih) (fun _ _ => expr_w ih 5)
theorem ex_w {e : Int} (d : Nat) : Es (exS e d) := expr_w (una_w d) 5

/-! ### between others -/
/-- what stands behind goes on with no sign, and with no index -/
def TailOk (tl : List Tok) : Prop := (∀ j, anyS (rowS j) tl = false) ∧ isS [91] tl = false
section
variable (p1 p2 : List Nd) (tl : List Tok)
structure SR (s s2 : PS) : Prop where
  ts : ∃ q, s2.ts = q ++ tl ∧ TsE s.ts q
  ns : ∃ n1 n2, s.ns = p1 ++ n1 ∧ s2.ns = p2 ++ n2 ∧ n2.map nkey = n1.map fun n => nkey (shiftN n ((p2.length : Int) - p1.length))
/-- what succeeds there, one deeper, succeeds here -/
def SM (M0 : Int) (m m2 : M Int) : Prop := ∀ s s2, SR p1 p2 tl s s2 → ∀ x s', m s = .ok x s' → s'.mo ≤ M0 → ∃ s2', m2 s2 = .ok (x + ((p2.length : Int) - p1.length)) s2' ∧ SR p1 p2 tl s' s2'
end
section
variable {p1 p2 : List Nd} {tl : List Tok} {M0 : Int}
theorem SR.put {s s2 : PS} (h : SR p1 p2 tl s s2) {n n2 : Nd} (hn : nkey n2 = nkey (shiftN n ((p2.length : Int) - p1.length))) : ∃ s2', putS n2 s2 = .ok ((s.ns.length : Int) + ((p2.length : Int) - p1.length)) s2' ∧ SR p1 p2 tl ⟨s.ts, s.ns ++ [n], s.mo⟩ s2' := by
  obtain ⟨a, b, h1, h2, h3⟩ := h.ns
  have hl : a.length = b.length := by have := congrArg List.length h3; simpa using this.symm
  refine ⟨⟨s2.ts, s2.ns ++ [n2], s2.mo⟩, ?_, h.ts, a ++ [n], b ++ [n2], by rw [h1]; simp, by rw [h2]; simp, by simp [h3, hn]⟩
  unfold putS
  congr 1
  rw [h1, h2]; simp only [List.length_append]; omega
theorem SR.isS {s s2 : PS} (h : SR p1 p2 tl s s2) {w : Bs} (hw : isS w s.ts = true) : isS w s2.ts = true := by
  obtain ⟨q, h1, h2⟩ := h.ts
  rw [h1]
  rw [h2.isS] at hw
  cases q with
  | nil => cases hw
  | cons t r => exact hw
theorem SR.isS_eq {s s2 : PS} (h : SR p1 p2 tl s s2) {w : Bs} (ht : Go.Ru.isS w tl = false) : Go.Ru.isS w s2.ts = Go.Ru.isS w s.ts := by
  obtain ⟨q, h1, h2⟩ := h.ts
  rw [h1, h2.isS]
  cases q with
  | nil => rw [List.nil_append, ht]; rfl
  | cons t r => rfl
theorem SR.cons {t : Tok} {r : List Tok} {ns : List Nd} {mo : Int} {s2 : PS} (h : SR p1 p2 tl ⟨t :: r, ns, mo⟩ s2) : ∃ t' r' ns2 mo2, s2 = ⟨t' :: r', ns2, mo2⟩ ∧ t'.k = t.k ∧ t'.n = t.n ∧ t'.tx = t.tx ∧ ∀ m m2, SR p1 p2 tl ⟨r, ns, m⟩ ⟨r', ns2, m2⟩ := by
  obtain ⟨q, h1, h2⟩ := h.ts
  obtain ⟨t', r', rfl, h3, h4, h5, h6⟩ := h2.cons
  obtain ⟨ts2, ns2, mo2⟩ := s2
  simp only at h1
  exact ⟨t', r' ++ tl, ns2, mo2, by rw [h1]; rfl, h3, h4, h5, fun m m2 => ⟨⟨r', rfl, h6⟩, h.ns⟩⟩
theorem SR.mo {ts : List Tok} {ns : List Nd} {mo mo' mo2' : Int} {ts2 : List Tok} {ns2 : List Nd} {mo2 : Int} (h : SR p1 p2 tl ⟨ts, ns, mo⟩ ⟨ts2, ns2, mo2⟩) : SR p1 p2 tl ⟨ts, ns, mo'⟩ ⟨ts2, ns2, mo2'⟩ := ⟨h.ts, h.ns⟩
theorem want_s {e e2 : Int} {w : Bs} {s s2 s' : PS} {u : Unit} (h : SR p1 p2 tl s s2) (hk : wantS e w s = .ok u s') : ∃ s2', wantS e2 w s2 = .ok () s2' ∧ SR p1 p2 tl s' s2' := by
  obtain ⟨ts, ns, mo⟩ := s
  unfold wantS at hk ⊢
  split at hk
  · rename_i hw
    have hw2 := h.isS hw
    cases ts with
    | nil => cases hw
    | cons t r =>
      obtain ⟨t', r', ns2, mo2, rfl, _, _, _, h6⟩ := h.cons
      rw [hw2]
      injection hk with _ hk
      subst hk
      exact ⟨_, rfl, h6 _ _⟩
  · cases hk
theorem ident_s {e e2 : Int} {s s2 s' : PS} {t : Tok} (h : SR p1 p2 tl s s2) (hk : identS e s = .ok t s') : ∃ t2 s2', identS e2 s2 = .ok t2 s2' ∧ t2.tx = t.tx ∧ SR p1 p2 tl s' s2' := by
  obtain ⟨ts, ns, mo⟩ := s
  unfold identS at hk
  cases ts with
  | nil => cases hk
  | cons t0 r =>
    obtain ⟨t', r', ns2, mo2, rfl, h3, _, h5, h6⟩ := h.cons
    unfold identS
    simp only at hk
    split at hk
    · rename_i hk0
      injection hk with hk1 hk2
      subst hk1 hk2
      simp only [h3, hk0]
      exact ⟨t', _, rfl, h5, h6 _ _⟩
    · cases hk
theorem within_s {e e2 : Int} {d : Nat} {op cl : Bs} {what what2 : M Int} (hM : M0 ≤ 38) (hwm : ∀ d', d = d' + 1 → Es what) (hw : ∀ d', d = d' + 2 → SM p1 p2 tl M0 what what2) {s s2 : PS} (h : SR p1 p2 tl s s2) {x : Int} {s' : PS} (hk : withinS e d op cl what s = .ok x s') (hm : s'.mo ≤ M0) :
    ∃ s2', withinS e2 (d - 1) op cl what2 s2 = .ok (x + ((p2.length : Int) - p1.length)) s2' ∧ SR p1 p2 tl s' s2' := by
  obtain ⟨ts, ns, mo⟩ := s
  unfold withinS at hk
  split at hk
  · cases hk
  · rename_i hi
    have hi2 := h.isS hi
    cases ts with
    | nil => cases hi
    | cons t r =>
    obtain ⟨t', r', ns2, mo2, rfl, _, _, _, h6⟩ := h.cons
    split at hk
    · cases hk
    · rename_i d'
      obtain ⟨a, s1, h1, h2⟩ := bind_ok hk
      have hmo := (hwm d' rfl _ a s1 h1).1
      simp only at hmo
      have hlast : s1.mo ≤ s'.mo := by
        split at h2
        · injection h2 with _ h2; subst h2; exact Int.le_refl _
        · obtain ⟨u, s3, h3, h4⟩ := bind_ok h2
          have := (want_w u s3 h3).1
          injection h4 with _ h4; subst h4; omega
      have hd : 2 ≤ d' := by
        unfold moreS at hmo
        split at hmo <;> omega
      obtain ⟨d2, rfl⟩ : ∃ q, d' = q + 1 := ⟨d' - 1, by omega⟩
      obtain ⟨s3, h3, h4⟩ := hw d2 rfl _ _ (h6 (moreS (d2 + 1 + 1) mo) (moreS (d2 + 1) mo2)) a s1 h1 (by omega)
      unfold withinS
      rw [hi2]
      simp only [Nat.succ_eq_add_one, Nat.add_sub_cancel, List.tail_cons] at h3 ⊢
      rw [h3]
      simp only [R.bind]
      split at h2
      · injection h2 with h2a h2b; subst h2a h2b
        exact ⟨s3, rfl, h4⟩
      · obtain ⟨u, s4, h5, h7⟩ := bind_ok h2
        injection h7 with h7a h7b; subst h7a h7b
        obtain ⟨s5, h8, h9⟩ := want_s (e2 := e2) h4 h5
        try simp only [R.bind] at h8 ⊢
        rw [h8]
        exact ⟨s5, rfl, h9⟩
theorem rowLoop_s (ht : TailOk tl) (j : Nat) {opnd opnd2 : M Int} (hom : Es opnd) (ho1 : ∀ s, Okk (opnd s) fun s' => s'.ts.length + 1 ≤ s.ts.length) (ho : SM p1 p2 tl M0 opnd opnd2) : ∀ n n2 x s s2, SR p1 p2 tl s s2 → s.ts.length ≤ n → s2.ts.length ≤ n2 → ∀ y s', rowLoop (rowS j) opnd n x s = .ok y s' → s'.mo ≤ M0 →
    ∃ s2', rowLoop (rowS j) opnd2 n2 (x + ((p2.length : Int) - p1.length)) s2 = .ok (y + ((p2.length : Int) - p1.length)) s2' ∧ SR p1 p2 tl s' s2' := by
  intro n
  induction n with
  | zero =>
    intro n2 x s s2 h hn hn2 y s' hk hm
    simp only [rowLoop, R.ok.injEq] at hk
    obtain ⟨rfl, rfl⟩ := hk
    obtain ⟨q, h1, h2⟩ := h.ts
    have : s.ts = [] := List.eq_nil_of_length_eq_zero (by omega)
    rw [this] at h2
    rw [h2.nil, List.nil_append] at h1
    refine ⟨s2, ?_, h⟩
    cases n2 with
    | zero => rfl
    | succ n2 =>
      unfold rowLoop
      cases htl : s2.ts with
      | nil => rfl
      | cons t r =>
        rw [htl] at h1
        have := ht.1 j
        rw [← h1] at this
        simp only [this]
  | succ n ih =>
    intro n2 x s s2 h hn hn2 y s' hk hm
    obtain ⟨ts, ns, mo⟩ := s
    cases ts with
    | nil =>
      simp only [rowLoop, R.ok.injEq] at hk
      obtain ⟨rfl, rfl⟩ := hk
      obtain ⟨q, h1, h2⟩ := h.ts
      rw [h2.nil, List.nil_append] at h1
      refine ⟨s2, ?_, h⟩
      cases n2 with
      | zero => rfl
      | succ n2 =>
        unfold rowLoop
        cases htl : s2.ts with
        | nil => rfl
        | cons t r =>
          rw [htl] at h1
          have := ht.1 j
          rw [← h1] at this
          simp only [this]
    | cons t r =>
      have hany : anyS (rowS j) s2.ts = anyS (rowS j) (t :: r) := by
        obtain ⟨q, h1, h2⟩ := h.ts
        obtain ⟨t', r', rfl, h3, _, h5, _⟩ := h2.cons
        rw [h1]
        unfold anyS
        congr 1; funext w
        simp only [List.cons_append, Go.Ru.isS, h3, h5]
      obtain ⟨t', r', ns2, mo2, rfl, h3, h4, h5, h6⟩ := h.cons
      obtain ⟨n2, rfl⟩ : ∃ q, n2 = q + 1 := ⟨n2 - 1, by simp at hn2; omega⟩
      unfold rowLoop at hk ⊢
      simp only at hk hany ⊢
      rw [hany]
      split at hk
      · injection hk with hk1 hk2; subst hk1 hk2
        exact ⟨_, rfl, h⟩
      · obtain ⟨a, s1, h7, h8⟩ := bind_ok hk
        obtain ⟨b, s3, h9, h10⟩ := bind_ok h8
        have hs3 : s3 = ⟨s1.ts, s1.ns ++ [⟨27, 0, t.at_, t.tx, [x, a]⟩], s1.mo⟩ ∧ b = s1.ns.length := by
          unfold putS at h9; injection h9 with e1 e2; exact ⟨e2.symm, e1.symm⟩
        obtain ⟨rfl, rfl⟩ := hs3
        have hmo := (rowLoop_w hom _ _ _ _ _ h10).1
        obtain ⟨s4, h11, h12⟩ := ho _ _ (h6 mo mo2) a s1 h7 (by simp only at hmo; omega)
        try simp only
        rw [h11]
        simp only [R.bind]
        obtain ⟨s5, h13, h14⟩ := h12.put (n := ⟨27, 0, t.at_, t.tx, [x, a]⟩) (n2 := ⟨27, 0, t'.at_, t'.tx, [x + ((p2.length : Int) - p1.length), a + ((p2.length : Int) - p1.length)]⟩) (by simp [nkey, shiftN, h5])
        rw [h13]
        have hl1 := ho1 _ a s1 h7
        simp only [List.length_cons] at hl1 hn hn2
        have hts : s5.ts = s4.ts := by unfold putS at h13; injection h13 with _ e2; rw [← e2]
        have hl4 : s4.ts.length ≤ r'.length := by
          obtain ⟨q, g1, g2⟩ := h12.ts
          obtain ⟨q', g3, g4⟩ := (h6 mo mo2).ts
          simp only at g3 g4
          rw [g1, g3, List.length_append, List.length_append]
          have := g2.len; have := g4.len; omega
        exact ih n2 s1.ns.length _ s5 h14 (by simp only; omega) (by rw [hts]; omega) y s' h10 hm
theorem expr_s (ht : TailOk tl) {una una2 : M Int} (hum : Es una) (hu1 : ∀ s, Okk (una s) fun s' => s'.ts.length + 1 ≤ s.ts.length) (h : SM p1 p2 tl M0 una una2) : ∀ j, (∀ s, Okk (exprS una j s) fun s' => s'.ts.length + 1 ≤ s.ts.length) ∧ SM p1 p2 tl M0 (exprS una j) (exprS una2 j) := by
  intro j
  induction j with
  | zero => exact ⟨hu1, h⟩
  | succ j ih =>
    refine ⟨fun s => ?_, fun s s2 hs x s' hk hm => ?_⟩
    · unfold exprS
      exact Okk.bind (ih.1 s) fun a s1 h1 => (rowLoop_w (expr_w hum j) _ _ _).imp fun s2 h2 => by have := h2.2.2; omega
    · unfold exprS at hk ⊢
      obtain ⟨a, s1, h1, h2⟩ := bind_ok hk
      have hmo := (rowLoop_w (expr_w hum j) _ _ _ _ _ h2).1
      obtain ⟨s3, h3, h4⟩ := ih.2 s s2 hs a s1 h1 (by omega)
      rw [h3]
      simp only [R.bind]
      exact rowLoop_s ht j (expr_w hum j) ih.1 ih.2 _ _ a s1 s3 h4 (Nat.le_refl _) (Nat.le_refl _) x s' h2 hm
theorem prim_s {e e2 : Int} (d : Nat) {inner inner2 : M Int} (hM : M0 ≤ 38) (ht : TailOk tl) (him : ∀ d', d = d' + 1 → Es inner) (h : ∀ d', d = d' + 2 → SM p1 p2 tl M0 inner inner2) : SM p1 p2 tl M0 (primS e d inner) (primS e2 (d - 1) inner2) := by
  intro s s2 hs x s' hk hm
  obtain ⟨ts, ns, mo⟩ := s
  cases ts with
  | nil => simp [primS] at hk
  | cons t r =>
    have hs0 := hs
    obtain ⟨t', r', ns2, mo2, rfl, h3, h4, h5, h6⟩ := hs.cons
    have hr := h6 mo mo2
    have hput : ∀ (n n2 : Nd), nkey n2 = nkey (shiftN n ((p2.length : Int) - p1.length)) → putS n ⟨r, ns, mo⟩ = .ok x s' → ∃ s2', putS n2 ⟨r', ns2, mo2⟩ = .ok (x + ((p2.length : Int) - p1.length)) s2' ∧ SR p1 p2 tl s' s2' := fun n n2 hn hk => by
      unfold putS at hk; injection hk with e1 e2; subst e1 e2
      exact hr.put hn
    unfold primS at hk ⊢
    simp only [h3, h4, h5] at hk ⊢
    split at hk
    · exact hput _ _ (by simp [nkey, shiftN]) hk
    · have hb := hr.isS_eq ht.2
      simp only at hb
      rw [hb]
      split at hk
      · rename_i hi
        try rw [hi]
        obtain ⟨a, s1, h7, h8⟩ := bind_ok hk
        have hs1 : s' = ⟨s1.ts, s1.ns ++ [⟨23, 0, t.at_, t.tx, [a]⟩], s1.mo⟩ ∧ x = s1.ns.length := by
          unfold putS at h8; injection h8 with e1 e2; exact ⟨e2.symm, e1.symm⟩
        obtain ⟨rfl, rfl⟩ := hs1
        obtain ⟨s3, h9, h10⟩ := within_s (e2 := e2) hM him h hr h7 hm
        try simp only
        rw [h9]
        simp only [R.bind]
        exact h10.put (n := ⟨23, 0, t.at_, t.tx, [a]⟩) (by simp [nkey, shiftN])
      · rename_i hi
        try rw [hi]
        exact hput _ _ (by simp [nkey, shiftN]) hk
    · split at hk
      · exact hput _ _ (by simp [nkey, shiftN]) hk
      · split at hk
        · exact hput _ _ (by simp [nkey, shiftN]) hk
        · split at hk
          · obtain ⟨a, s1, h7, h8⟩ := bind_ok hk
            have hs1 : s' = ⟨s1.ts, s1.ns ++ [⟨24, 0, t.at_, a.tx, []⟩], s1.mo⟩ ∧ x = s1.ns.length := by
              unfold putS at h8; injection h8 with e1 e2; exact ⟨e2.symm, e1.symm⟩
            obtain ⟨rfl, rfl⟩ := hs1
            obtain ⟨t2, s3, h9, h10, h11⟩ := ident_s (e2 := e2) hr h7
            try simp only
            rw [h9]
            simp only [R.bind]
            exact h11.put (n := ⟨24, 0, t.at_, a.tx, []⟩) (by simp [nkey, shiftN, h10])
          · split at hk
            · obtain ⟨a, s1, h7, h8⟩ := bind_ok hk
              have hs1 : s' = ⟨s1.ts, s1.ns ++ [⟨25, 0, t.at_, a.tx, []⟩], s1.mo⟩ ∧ x = s1.ns.length := by
                unfold putS at h8; injection h8 with e1 e2; exact ⟨e2.symm, e1.symm⟩
              obtain ⟨rfl, rfl⟩ := hs1
              obtain ⟨t2, s3, h9, h10, h11⟩ := ident_s (e2 := e2) hr h7
              try simp only
              rw [h9]
              simp only [R.bind]
              exact h11.put (n := ⟨25, 0, t.at_, a.tx, []⟩) (by simp [nkey, shiftN, h10])
            · split at hk
              · exact within_s hM him h hs0 hk hm
              · cases hk
theorem unaB_s {e e2 : Int} (d : Nat) {una una2 inner inner2 : M Int} (hM : M0 ≤ 38) (ht : TailOk tl) (hum : ∀ d', d = d' + 1 → Es una) (him : ∀ d', d = d' + 1 → Es inner) (h1 : ∀ d', d = d' + 2 → SM p1 p2 tl M0 una una2) (h2 : ∀ d', d = d' + 2 → SM p1 p2 tl M0 inner inner2) :
    SM p1 p2 tl M0 (unaB e d una inner) (unaB e2 (d - 1) una2 inner2) := by
  intro s s2 hs x s' hk hm
  have hp := prim_s (e := e) (e2 := e2) d hM ht him h2 s s2 hs x s'
  obtain ⟨ts, ns, mo⟩ := s
  cases ts with
  | nil => simp [unaB] at hk
  | cons t r =>
    have hs0 := hs
    obtain ⟨t', r', ns2, mo2, rfl, h3, h4, h5, h6⟩ := hs.cons
    have hi : ∀ w, isS w (t' :: r') = isS w (t :: r) := fun w => by simp only [isS, h3, h5]
    unfold unaB at hk ⊢
    simp only [hi, h5] at hk ⊢
    split at hk
    · rename_i hb
      try simp only [hb]
      obtain ⟨a, s1, h7, h8⟩ := bind_ok hk
      have hs1 : s' = ⟨s1.ts, s1.ns ++ [⟨26, 0, t.at_, t.tx, [a]⟩], s1.mo⟩ ∧ x = s1.ns.length := by
        unfold putS at h8; injection h8 with e1 e2; exact ⟨e2.symm, e1.symm⟩
      obtain ⟨rfl, rfl⟩ := hs1
      obtain ⟨s3, h9, h10⟩ := within_s (e2 := e2) hM hum h1 hs0 h7 hm
      rw [h9]
      simp only [R.bind]
      exact h10.put (n := ⟨26, 0, t.at_, t.tx, [a]⟩) (by simp [nkey, shiftN])
    · rename_i hb
      try simp only [hb]
      exact hp hk hm
theorem una_one {e : Int} (d : Nat) (s : PS) : Okk (unaS e d s) fun s' => s'.ts.length + 1 ≤ s.ts.length := (una_le e d s).imp fun s' h => by have := h.2; omega
theorem una_s {e e2 : Int} (hM : M0 ≤ 38) (ht : TailOk tl) : ∀ d, SM p1 p2 tl M0 (unaS e (d + 1)) (unaS e2 d) := by
  intro d
  induction d with
  | zero => exact unaB_s 1 hM ht (fun d' h => by obtain rfl : d' = 0 := by omega
                                                 exact una_w 0) (fun d' h => by obtain rfl : d' = 0 := by omega
                                                                                exact expr_w (una_w 0) 5) (fun d' h => by omega) (fun d' h => by omega)
  | succ d ih => exact unaB_s (d + 2) hM ht (fun d' h => by obtain rfl : d' = d + 1 := by omega
                                                            exact una_w _) (fun d' h => by obtain rfl : d' = d + 1 := by omega
                                                                                           exact expr_w (una_w _) 5) (fun _ _ => ih) (fun _ _ => (expr_s ht (una_w _) (una_one _) ih 5).2)
theorem ex_s {e e2 : Int} (hM : M0 ≤ 38) (ht : TailOk tl) (d : Nat) : SM p1 p2 tl M0 (exS e (d + 1)) (exS e2 d) := (expr_s ht (una_w _) (una_one _) (una_s hM ht d) 5).2
end
end Go.Ru

namespace Go.Proofs.YtbcngegcpdppfaaGreatDoor
open Go.AE Go.Ru
set_option maxRecDepth 100000

/-- a state that is small enough -/
def Fine (d : Nat) (ts : List Tok) (ns : List Nd) : Prop := d ≤ 40 ∧ ns.length + 4 * ts.length ≤ 900000

def cUna (D : Nat) : AC := fun args K k => ∃ d : Nat, ∃ e ts ns mo op X, args = [pp] ∧ K = encP e ts ns op mo ++ X ∧ op = 40 - (d : Int) ∧ d < D ∧ Fine d ts ns ∧ After e (unaS e d ⟨ts, ns, mo⟩) intV op X k
def cExJ (D J : Nat) : AC := fun args K k => ∃ d j : Nat, ∃ e ts ns mo op kk X, args = [pp, .p (.int .i64 kk)] ∧ K = encP e ts ns op mo ++ X ∧ op = 40 - (d : Int) ∧ kk = 5 - (j : Int) ∧ d < D ∧ j < J ∧ J ≤ 6 ∧ Fine d ts ns ∧
  After e (exprS (unaS e d) j ⟨ts, ns, mo⟩) intV op X k
def cPrim (D : Nat) : AC := fun args K k => ∃ d : Nat, ∃ e ts ns mo op X, args = [pp] ∧ K = encP e ts ns op mo ++ X ∧ op = 40 - (d : Int) ∧ d ≤ D ∧ Fine d ts ns ∧ After e (primS e d (inS e d) ⟨ts, ns, mo⟩) intV op X k

def gE (D J : Nat) : AG := gput 110 (cUna D) (gput 66 (cExJ D J) g7)
theorem gE_ok {D J : Nat} (hU : COk 110 (cUna D)) (hE : COk 66 (cExJ D J)) : GOk Tryz.prog (gE D J) := gput_ok hU (gput_ok hE g7_ok)

theorem nt {b : Bool} (h : (!b) = true) : b = false := by simpa using h
theorem nf {b : Bool} (h : (!b) = false) : b = true := by simpa using h
theorem isS_self {w : Bs} {t : Tok} {r : List Tok} (h : isS w (t :: r) = true) : isS t.tx (t :: r) = true := by
  obtain ⟨k, n, a, tx⟩ := t
  cases k <;> simp_all [isS]
theorem in_op {op : Int} {d : Nat} (ho : op = 40 - ((d + 1 : Nat) : Int)) (h : d < 1000) : IntKind.i64.wrap (op + 1) = 40 - (d : Int) := by
  rw [w64 (by omega)]; omega
theorem in_mo {op mo : Int} {d : Nat} (ho : op = 40 - ((d + 1 : Nat) : Int)) (h : d < 1000) : (if IntKind.i64.wrap (op + 1) > mo then IntKind.i64.wrap (op + 1) else mo) = moreS (d + 1) mo := by
  rw [in_op ho h, moreS]
  have e : (41 : Int) - ((d + 1 : Nat) : Int) = 40 - d := by omega
  rw [e]
theorem out_op {op : Int} {d : Nat} (ho : op = 40 - ((d + 1 : Nat) : Int)) (h : d < 1000) : IntKind.i64.wrap (IntKind.i64.wrap (op + 1) - 1) = op := by
  rw [in_op ho h, w64 (by omega)]; omega
theorem unaS_eq (e : Int) (d : Nat) (s : PS) : unaS e d s = unaB e d (match d with
  | 0 => fun _ => .bad 0 0
  | d + 1 => unaS e d) (inS e d) s := by cases d <;> rfl

set_option pp.maxSteps 600
theorem una_step {D : Nat} (hP : COk 132 (cPrim D)) (hU : COk 110 (cUna D)) : COk 110 (cUna (D + 1)) := by
  rintro args K k ⟨d, e, ts, ns, mo, op, X, rfl, rfl, ho, hd, hf, hk⟩
  refine frameP (G := gput 132 (cPrim D) (gput 110 (cUna D) g7)) (gput_ok hP (gput_ok hU g7_ok)) 9 rfl fun Q hr hp => ?_
  rw [unaS_eq] at hk
  cases ts with
  | nil =>
    conv => whnf
    refine ⟨by simp, ?_⟩
    conv => whnf
    refine ⟨_, _, _, _, _, _, _, rfl, rfl, ?_⟩
    conv => whnf
    refine ⟨_, _, _, _, _, _, _, rfl, rfl, ?_⟩
    conv => whnf
    refine ⟨_, _, _, _, _, _, _, rfl, rfl, ho, by omega, hf, ⟨fun a ts' ns' mo' h => ?_, fun a er h => ?_⟩⟩
    · conv => whnf
      exact hr _ _ _ _ _ _ rfl rfl (hk.ok _ _ _ _ h)
    · conv => whnf
      exact hp _ _ rfl (hk.bad _ _ h)
  | cons t r =>
    conv => whnf
    refine ⟨by simp; omega, ?_⟩
    conv => whnf
    refine ⟨_, _, _, _, _, _, _, rfl, rfl, ?_⟩
    conv => whnf
    refine two_intro (fun h1 => ?_) (fun h1 => ?_)
    · have h1 : isS [45] (t :: r) = false := nt h1
      conv => whnf
      refine ⟨_, _, _, _, _, _, _, rfl, rfl, ?_⟩
      conv => whnf
      refine two_intro (fun h2 => ?_) (fun h2 => ?_)
      · have h2 : isS [33] (t :: r) = false := nt h2
        simp only [unaB, h1, h2, Bool.or_false] at hk
        conv => whnf
        refine ⟨_, _, _, _, _, _, _, rfl, rfl, ho, by omega, hf, ⟨fun a ts' ns' mo' h => ?_, fun a er h => ?_⟩⟩
        · conv => whnf
          exact hr _ _ _ _ _ _ rfl rfl (hk.ok _ _ _ _ h)
        · conv => whnf
          exact hp _ _ rfl (hk.bad _ _ h)
      · have h2 : isS [33] (t :: r) = true := nf h2
        simp only [unaB, h1, h2, Bool.or_true] at hk
        have hs := isS_self h2
        conv => whnf
        refine ⟨_, _, _, _, _, _, _, rfl, rfl, ?_⟩
        conv => whnf
        refine two_true hs ?_
        conv => whnf
        cases d with
        | zero =>
          refine two_intro (fun h3 => ?_) (fun h3 => ?_)
          · conv => whnf
            refine ⟨_, _, _, _, _, _, _, rfl, rfl, ?_⟩
            conv => whnf
            exact hp _ _ rfl (hk.bad _ _ (by simp [withinS, hs, R.bind]))
          · simp [ho] at h3
        | succ d =>
          refine two_intro (fun h3 => ?_) (fun h3 => ?_)
          · simp [ho] at h3; omega
          · conv => whnf
            refine ⟨_, _, _, _, _, _, _, rfl, rfl, ⟨fun a ts' ns' mo' h => ?_, fun a er h => ?_⟩⟩
            · simp only [wantS, hs, dropS, R.ok.injEq, PS.mk.injEq] at h
              obtain ⟨-, rfl, rfl, rfl⟩ := h
              conv => whnf
              have hd2 : d < 1000 := by have := hf.1; omega
              refine ⟨d, _, _, _, _, _, _, rfl, rfl, in_op ho hd2, by omega, ?_, ⟨fun a ts' ns' mo' h => ?_, fun a er h => ?_⟩⟩
              · simp only [Fine, List.length_cons, List.tail_cons] at hf ⊢; omega
              · rw [in_mo ho hd2] at h
                simp only [List.tail_cons] at h
                have hl := una_le e d _ _ _ h
                conv => whnf
                refine ⟨[a], _, _, _, _, _, _, _, _, _, _, _, rfl, rfl, PutK.slr ?_ rfl rfl rfl (allLt_ok ⟨trivial, rfl⟩) ?_⟩
                · simp only [Fine, Lw, List.length_cons] at hf hl; omega
                conv => whnf
                rw [out_op ho hd2]
                exact hr _ _ _ _ _ _ rfl rfl (hk.ok _ _ _ _ (by simp [withinS, hs, R.bind, h, putS]))
              · rw [in_mo ho hd2] at h
                simp only [List.tail_cons] at h
                conv => whnf
                exact hp _ _ rfl (hk.bad _ _ (by simp [withinS, hs, R.bind, h]))
            · simp [wantS, hs] at h
    · have h1 : isS [45] (t :: r) = true := nf h1
      simp only [unaB, h1, Bool.true_or] at hk
      have hs := isS_self h1
      conv => whnf
      refine ⟨_, _, _, _, _, _, _, rfl, rfl, ?_⟩
      conv => whnf
      refine two_true hs ?_
      conv => whnf
      cases d with
      | zero =>
        refine two_intro (fun h3 => ?_) (fun h3 => ?_)
        · conv => whnf
          refine ⟨_, _, _, _, _, _, _, rfl, rfl, ?_⟩
          conv => whnf
          exact hp _ _ rfl (hk.bad _ _ (by simp [withinS, hs, R.bind]))
        · simp [ho] at h3
      | succ d =>
        refine two_intro (fun h3 => ?_) (fun h3 => ?_)
        · simp [ho] at h3; omega
        · conv => whnf
          refine ⟨_, _, _, _, _, _, _, rfl, rfl, ⟨fun a ts' ns' mo' h => ?_, fun a er h => ?_⟩⟩
          · simp only [wantS, hs, dropS, R.ok.injEq, PS.mk.injEq] at h
            obtain ⟨-, rfl, rfl, rfl⟩ := h
            conv => whnf
            have hd2 : d < 1000 := by have := hf.1; omega
            refine ⟨d, _, _, _, _, _, _, rfl, rfl, in_op ho hd2, by omega, ?_, ⟨fun a ts' ns' mo' h => ?_, fun a er h => ?_⟩⟩
            · simp only [Fine, List.length_cons, List.tail_cons] at hf ⊢; omega
            · rw [in_mo ho hd2] at h
              simp only [List.tail_cons] at h
              have hl := una_le e d _ _ _ h
              conv => whnf
              refine ⟨[a], _, _, _, _, _, _, _, _, _, _, _, rfl, rfl, PutK.slr ?_ rfl rfl rfl (allLt_ok ⟨trivial, rfl⟩) ?_⟩
              · simp only [Fine, Lw, List.length_cons] at hf hl; omega
              conv => whnf
              rw [out_op ho hd2]
              exact hr _ _ _ _ _ _ rfl rfl (hk.ok _ _ _ _ (by simp [withinS, hs, R.bind, h, putS]))
            · rw [in_mo ho hd2] at h
              simp only [List.tail_cons] at h
              conv => whnf
              exact hp _ _ rfl (hk.bad _ _ (by simp [withinS, hs, R.bind, h]))
          · simp [wantS, hs] at h

def cIndex (D : Nat) : AC := fun args K k => ∃ d : Nat, ∃ e ts ns mo op X, args = [pp] ∧ K = encP e ts ns op mo ++ X ∧ op = 40 - (d : Int) ∧ d ≤ D ∧ Fine d ts ns ∧ After e (indexS e d ⟨ts, ns, mo⟩) intV op X k
theorem index_ok {D : Nat} (hE : COk 66 (cExJ D 6)) : COk 156 (cIndex D) := by
  rintro args K k ⟨d, e, ts, ns, mo, op, X, rfl, rfl, ho, hd, hf, hk⟩
  refine frameP (G := gput 66 (cExJ D 6) g7) (gput_ok hE g7_ok) 9 rfl fun Q hr hp => ?_
  conv => whnf
  by_cases hw : isS [91] ts = true
  · refine ⟨_, _, _, _, _, _, _, rfl, rfl, ?_⟩
    conv => whnf
    refine two_true hw ?_
    conv => whnf
    cases d with
    | zero =>
      refine two_intro (fun h3 => ?_) (fun h3 => ?_)
      · conv => whnf
        refine ⟨_, _, _, _, _, _, _, rfl, rfl, ?_⟩
        conv => whnf
        exact hp _ _ rfl (hk.bad _ _ (by simp [indexS, withinS, hw, R.bind]))
      · simp [ho] at h3
    | succ d =>
      refine two_intro (fun h3 => ?_) (fun h3 => ?_)
      · simp [ho] at h3; omega
      · conv => whnf
        refine ⟨_, _, _, _, _, _, _, rfl, rfl, ⟨fun a ts' ns' mo' h => ?_, fun a er h => ?_⟩⟩
        · simp only [wantS, hw, dropS, R.ok.injEq, PS.mk.injEq] at h
          obtain ⟨-, rfl, rfl, rfl⟩ := h
          conv => whnf
          have hd2 : d < 1000 := by have := hf.1; omega
          have hl0 := isS_pos hw
          refine ⟨d, 5, _, _, _, _, _, _, _, rfl, rfl, in_op ho hd2, rfl, by omega, by omega, by omega, ?_, ⟨fun x ts' ns' mo' h => ?_, fun a er h => ?_⟩⟩
          · simp only [Fine, List.length_cons, List.length_tail] at hf hl0 ⊢; omega
          · rw [in_mo ho hd2] at h
            have hl := ex_le e d _ _ _ h
            conv => whnf
            refine ⟨_, _, _, _, _, _, _, rfl, rfl, ⟨fun u ts2 ns2 mo2 h2 => ?_, fun a er h2 => ?_⟩⟩
            · have hl2 := want_le _ _ _ _ _ h2
              conv => whnf
              rw [out_op ho hd2]
              exact hr _ _ _ _ _ _ rfl rfl (hk.ok _ _ _ _ (by
                have h : inS e (d + 1) _ = _ := h
                have h2 : wantS e [93] _ = _ := h2
                simp only [indexS, withinS, hw, h, h2, R.bind]))
            · conv => whnf
              exact hp _ _ rfl (hk.bad _ _ (by
                have h : inS e (d + 1) _ = _ := h
                have h2 : wantS e [93] _ = _ := h2
                simp only [indexS, withinS, hw, h, h2, R.bind]))
          · rw [in_mo ho hd2] at h
            conv => whnf
            exact hp _ _ rfl (hk.bad _ _ (by
              have h : inS e (d + 1) _ = _ := h
              simp only [indexS, withinS, hw, h, R.bind]))
        · simp [wantS, hw] at h
  · have hw : isS [91] ts = false := by simpa using hw
    refine ⟨_, _, _, _, _, _, _, rfl, rfl, ?_⟩
    conv => whnf
    refine two_false hw ?_
    conv => whnf
    refine ⟨_, _, _, _, _, _, _, rfl, rfl, ⟨fun a ts' ns' mo' h => ?_, fun a er h => ?_⟩⟩
    · simp [wantS, hw] at h
    · simp only [wantS, hw, R.bad.injEq] at h
      obtain ⟨rfl, rfl⟩ := h
      conv => whnf
      exact hp _ _ rfl (hk.bad _ _ (by simp only [indexS, withinS, hw]))

theorem prim_ok {D : Nat} (hE : COk 66 (cExJ D 6)) : COk 132 (cPrim D) := by
  rintro args K k ⟨d, e, ts, ns, mo, op, X, rfl, rfl, ho, hd, hf, hk⟩
  refine frameP (G := gput 156 (cIndex D) (gput 66 (cExJ D 6) g7)) (gput_ok (index_ok hE) (gput_ok hE g7_ok)) 9 rfl fun Q hr hp => ?_
  cases ts with
  | nil =>
    conv => whnf
    refine ⟨by simp, ?_⟩
    conv => whnf
    refine ⟨_, _, _, _, _, _, _, rfl, rfl, ⟨fun h => by simp [isS] at h, fun _ => ?_⟩⟩
    conv => whnf
    refine ⟨_, _, _, _, _, _, _, rfl, rfl, ⟨fun h => by simp [isS] at h, fun _ => ?_⟩⟩
    conv => whnf
    refine ⟨_, _, _, _, _, _, _, rfl, rfl, ⟨fun h => by simp [isS] at h, fun _ => ?_⟩⟩
    conv => whnf
    refine ⟨_, _, _, _, _, _, _, rfl, rfl, ⟨fun h => by simp [isS] at h, fun _ => ?_⟩⟩
    conv => whnf
    refine ⟨_, _, _, _, _, _, _, rfl, rfl, ?_⟩
    conv => whnf
    refine ⟨_, _, _, _, _, _, rfl, rfl, ⟨fun a ts' ns' mo' h => by simp [identS] at h, fun a er h => ?_⟩⟩
    simp only [identS, R.bad.injEq] at h
    obtain ⟨rfl, rfl⟩ := h
    conv => whnf
    exact hp _ _ rfl (hk.bad _ _ rfl)
  | cons t r =>
    obtain ⟨tk, tn, ta, tx⟩ := t
    have hn : ns.length < 1000000 := by simp only [Fine] at hf; omega
    cases tk with
    | number =>
      conv => whnf
      refine ⟨by simp; omega, ?_⟩
      conv => whnf
      refine ⟨_, _, _, _, _, _, _, rfl, rfl, ?_⟩
      conv => whnf
      refine ⟨[], _, _, _, _, _, _, _, _, _, _, _, rfl, rfl, PutK.nils hn ?_⟩
      conv => whnf
      exact hr _ _ _ _ _ _ rfl rfl (hk.ok _ _ _ _ rfl)
    | name =>
      conv => whnf
      refine ⟨by simp; omega, ?_⟩
      conv => whnf
      refine ⟨_, _, _, _, _, _, _, rfl, rfl, ⟨fun h => by simp [isS] at h, fun _ => ?_⟩⟩
      conv => whnf
      refine ⟨_, _, _, _, _, _, _, rfl, rfl, ⟨fun h => by simp [isS] at h, fun _ => ?_⟩⟩
      conv => whnf
      refine ⟨_, _, _, _, _, _, _, rfl, rfl, ⟨fun h => by simp [isS] at h, fun _ => ?_⟩⟩
      conv => whnf
      refine ⟨_, _, _, _, _, _, _, rfl, rfl, ⟨fun h => by simp [isS] at h, fun _ => ?_⟩⟩
      conv => whnf
      refine ⟨_, _, _, _, _, _, _, rfl, rfl, ?_⟩
      conv => whnf
      refine ⟨_, _, _, _, _, _, rfl, rfl, ⟨fun a ts' ns' mo' h => ?_, fun a er h => by simp [identS] at h⟩⟩
      simp only [identS, R.ok.injEq, PS.mk.injEq] at h
      obtain ⟨rfl, rfl, rfl, rfl⟩ := h
      conv => whnf
      refine ⟨_, _, _, _, _, _, _, rfl, rfl, ?_⟩
      conv => whnf
      refine two_intro (fun h1 => ?_) (fun h1 => ?_)
      · have h1 : isS [91] r = true := h1
        simp only [primS, h1] at hk
        conv => whnf
        refine ⟨d, _, _, _, _, _, _, rfl, rfl, ho, hd, ?_, ⟨fun x ts' ns' mo' h => ?_, fun a er h => ?_⟩⟩
        · simp only [Fine, List.length_cons] at hf ⊢; omega
        · have hl := index_le _ _ _ _ _ h
          conv => whnf
          refine ⟨[x], _, _, _, _, _, _, _, _, _, _, _, rfl, rfl, PutK.slr ?_ rfl rfl rfl (allLt_ok ⟨trivial, rfl⟩) ?_⟩
          · simp only [Fine, Lw, List.length_cons] at hf hl; omega
          conv => whnf
          exact hr _ _ _ _ _ _ rfl rfl (hk.ok _ _ _ _ (by
            have h : withinS e d [91] [93] (inS e d) _ = _ := h
            simp only [h, R.bind, putS]))
        · conv => whnf
          exact hp _ _ rfl (hk.bad _ _ (by
            have h : withinS e d [91] [93] (inS e d) _ = _ := h
            simp only [h, R.bind]))
      · have h1 : isS [91] r = false := h1
        simp only [primS, h1] at hk
        conv => whnf
        refine ⟨[], _, _, _, _, _, _, _, _, _, _, _, rfl, rfl, PutK.nils hn ?_⟩
        conv => whnf
        exact hr _ _ _ _ _ _ rfl rfl (hk.ok _ _ _ _ rfl)
    | _ =>
      conv => whnf
      refine ⟨by simp; omega, ?_⟩
      conv => whnf
      refine ⟨_, _, _, _, _, _, _, rfl, rfl, ⟨fun h => ?_, fun h => ?_⟩⟩
      · have g0 : (tx == [116, 114, 117, 101]) = true := h
        simp only [primS, g0] at hk
        conv => whnf
        refine ⟨[], _, _, _, _, _, _, _, _, _, _, _, rfl, rfl, PutK.nils hn ?_⟩
        conv => whnf
        exact hr _ _ _ _ _ _ rfl rfl (hk.ok _ _ _ _ rfl)
      have g0 : (tx == [116, 114, 117, 101]) = false := h
      conv => whnf
      refine ⟨_, _, _, _, _, _, _, rfl, rfl, ⟨fun h => ?_, fun h => ?_⟩⟩
      · have g1 : (tx == [102, 97, 108, 115, 101]) = true := h
        simp only [primS, g0, g1] at hk
        conv => whnf
        refine ⟨[], _, _, _, _, _, _, _, _, _, _, _, rfl, rfl, PutK.nils hn ?_⟩
        conv => whnf
        exact hr _ _ _ _ _ _ rfl rfl (hk.ok _ _ _ _ rfl)
      have g1 : (tx == [102, 97, 108, 115, 101]) = false := h
      conv => whnf
      refine ⟨_, _, _, _, _, _, _, rfl, rfl, ⟨fun h => ?_, fun h => ?_⟩⟩
      · have g2 : (tx == [108, 101, 110]) = true := h
        simp only [primS, g0, g1, g2] at hk
        conv => whnf
        refine ⟨_, _, _, _, _, _, rfl, rfl, ⟨fun t' ts' ns' mo' h => ?_, fun a er h => ?_⟩⟩
        · have hl := ident_le _ _ _ _ h
          have h : identS e ⟨r, ns, mo⟩ = _ := h
          conv => whnf
          refine ⟨by conv => whnf, ?_⟩
          conv => whnf
          refine ⟨by conv => whnf, ?_⟩
          conv => whnf
          refine ⟨[], _, _, _, _, _, _, _, _, _, _, _, rfl, rfl, PutK.nils (by simp only [Fine, Lw, List.length_cons, List.length_tail] at hf hl; omega) ?_⟩
          conv => whnf
          exact hr _ _ _ _ _ _ rfl rfl (hk.ok _ _ _ _ (by simp only [h, R.bind, putS]))
        · have h : identS e ⟨r, ns, mo⟩ = _ := h
          conv => whnf
          exact hp _ _ rfl (hk.bad _ _ (by simp only [h, R.bind]))
      have g2 : (tx == [108, 101, 110]) = false := h
      conv => whnf
      refine ⟨_, _, _, _, _, _, _, rfl, rfl, ⟨fun h => ?_, fun h => ?_⟩⟩
      · have g3 : (tx == [38]) = true := h
        simp only [primS, g0, g1, g2, g3] at hk
        conv => whnf
        refine ⟨_, _, _, _, _, _, rfl, rfl, ⟨fun t' ts' ns' mo' h => ?_, fun a er h => ?_⟩⟩
        · have hl := ident_le _ _ _ _ h
          have h : identS e ⟨r, ns, mo⟩ = _ := h
          conv => whnf
          refine ⟨by conv => whnf, ?_⟩
          conv => whnf
          refine ⟨by conv => whnf, ?_⟩
          conv => whnf
          refine ⟨[], _, _, _, _, _, _, _, _, _, _, _, rfl, rfl, PutK.nils (by simp only [Fine, Lw, List.length_cons, List.length_tail] at hf hl; omega) ?_⟩
          conv => whnf
          exact hr _ _ _ _ _ _ rfl rfl (hk.ok _ _ _ _ (by simp only [h, R.bind, putS]))
        · have h : identS e ⟨r, ns, mo⟩ = _ := h
          conv => whnf
          exact hp _ _ rfl (hk.bad _ _ (by simp only [h, R.bind]))
      have g3 : (tx == [38]) = false := h
      conv => whnf
      refine ⟨_, _, _, _, _, _, _, rfl, rfl, ?_⟩
      conv => whnf
      refine two_intro (fun h => ?_) (fun h => ?_)
      · have g4 : (tx == [40]) = true := h
        simp only [primS, g0, g1, g2, g3, g4] at hk
        have hw : isS [40] (⟨_, tn, ta, tx⟩ :: r) = true := h
        conv => whnf
        refine ⟨_, _, _, _, _, _, _, rfl, rfl, ?_⟩
        conv => whnf
        refine two_true hw ?_
        conv => whnf
        cases d with
        | zero =>
          refine two_intro (fun h3 => ?_) (fun h3 => ?_)
          · conv => whnf
            refine ⟨_, _, _, _, _, _, _, rfl, rfl, ?_⟩
            conv => whnf
            exact hp _ _ rfl (hk.bad _ _ (by simp [withinS, hw, R.bind]))
          · simp [ho] at h3
        | succ d =>
          refine two_intro (fun h3 => ?_) (fun h3 => ?_)
          · simp [ho] at h3; omega
          · conv => whnf
            refine ⟨_, _, _, _, _, _, _, rfl, rfl, ⟨fun a ts' ns' mo' h => ?_, fun a er h => ?_⟩⟩
            · simp only [wantS, hw, dropS, R.ok.injEq, PS.mk.injEq] at h
              obtain ⟨-, rfl, rfl, rfl⟩ := h
              conv => whnf
              have hd2 : d < 1000 := by have := hf.1; omega
              have hl0 := isS_pos hw
              refine ⟨d, 5, _, _, _, _, _, _, _, rfl, rfl, in_op ho hd2, rfl, by omega, by omega, by omega, ?_, ⟨fun x ts' ns' mo' h => ?_, fun a er h => ?_⟩⟩
              · simp only [Fine, List.length_cons, List.length_tail] at hf hl0 ⊢; omega
              · rw [in_mo ho hd2] at h
                have hl := ex_le e d _ _ _ h
                conv => whnf
                refine ⟨_, _, _, _, _, _, _, rfl, rfl, ⟨fun u ts2 ns2 mo2 h2 => ?_, fun a er h2 => ?_⟩⟩
                · have hl2 := want_le _ _ _ _ _ h2
                  conv => whnf
                  rw [out_op ho hd2]
                  exact hr _ _ _ _ _ _ rfl rfl (hk.ok _ _ _ _ (by
                    have h : inS e (d + 1) _ = _ := h
                    have h2 : wantS e [41] _ = _ := h2
                    simp only [withinS, hw, h, h2, R.bind]))
                · conv => whnf
                  exact hp _ _ rfl (hk.bad _ _ (by
                    have h : inS e (d + 1) _ = _ := h
                    have h2 : wantS e [41] _ = _ := h2
                    simp only [withinS, hw, h, h2, R.bind]))
              · rw [in_mo ho hd2] at h
                conv => whnf
                exact hp _ _ rfl (hk.bad _ _ (by
                  have h : inS e (d + 1) _ = _ := h
                  simp only [withinS, hw, h, R.bind]))
            · simp [wantS, hw] at h
      · have g4 : (tx == [40]) = false := h
        simp only [primS, g0, g1, g2, g3, g4] at hk
        conv => whnf
        refine ⟨_, _, _, _, _, _, rfl, rfl, ⟨fun a ts' ns' mo' h => by simp [identS] at h, fun a er h => ?_⟩⟩
        simp only [identS, R.bad.injEq] at h
        obtain ⟨rfl, rfl⟩ := h
        conv => whnf
        exact hp _ _ rfl (hk.bad _ _ rfl)
end Go.Proofs.YtbcngegcpdppfaaGreatDoor

namespace Go.Proofs.YtbcngegcpdppfaaGreatDoor
open Go.AE Go.Ru
set_option maxRecDepth 100000
set_option pp.maxSteps 1000

structure LS where
  x : Int
  ts : List Tok
  ns : List Nd
  mo : Int
  n : Nat

theorem rowLoop_no {l : List Bs} {o : M Int} {n : Nat} {x : Int} {s : PS} (h : anyS l s.ts = false) : rowLoop l o n x s = .ok x s := by
  cases n with
  | zero => rfl
  | succ n =>
    unfold rowLoop
    split
    · rfl
    · rename_i t r ht
      rw [ht] at h
      rw [h]
theorem anyS_cons {l : List Bs} {ts : List Tok} (h : anyS l ts = true) : ∃ t r, ts = t :: r := by
  cases ts with
  | nil =>
    induction l with
    | nil => simp [anyS] at h
    | cons w l ih =>
      simp only [anyS, List.any_cons, isS, Bool.false_or] at h ih
      exact ih h
  | cons t r => exact ⟨t, r, rfl⟩
theorem rowS_len (j : Nat) : (rowS j).length < 1000 := by
  unfold rowS
  split <;> simp

theorem expr_step {D J : Nat} (hU : COk 110 (cUna D)) (hE : COk 66 (cExJ D J)) : COk 66 (cExJ D (J + 1)) := by
  rintro args K k ⟨d, j, e, ts, ns, mo, op, kk, X, rfl, rfl, ho, hkk, hd, hj, hJ, hf, hk⟩
  refine frameP (gE_ok hU hE) 9 rfl fun Q hr hp => ?_
  cases j with
  | zero =>
    conv => whnf
    refine two_true (by simp; omega) ?_
    conv => whnf
    refine ⟨d, _, _, _, _, _, _, rfl, rfl, ho, hd, hf, ⟨fun x ts' ns' mo' h => ?_, fun a er h => ?_⟩⟩
    · conv => whnf
      exact hr _ _ _ _ _ _ rfl rfl (hk.ok _ _ _ _ h)
    · conv => whnf
      exact hp _ _ rfl (hk.bad _ _ h)
  | succ j =>
    conv => whnf
    refine two_false (by simp; omega) ?_
    conv => whnf
    refine ⟨d, j, _, _, _, _, _, _, _, rfl, rfl, ho, by rw [w64 (by omega)]; omega, hd, by omega, by omega, hf, ⟨fun x ts' ns' mo' h => ?_, fun a er h => ?_⟩⟩
    · conv => whnf
      have hl := expr_le (una_le e d) j _ _ _ h
      have h0 : exprS (unaS e d) (j + 1) ⟨ts, ns, mo⟩ = rowLoop (rowS j) (exprS (unaS e d) j) ts'.length x ⟨ts', ns', mo'⟩ := by
        simp only [exprS, h, R.bind]
      rw [h0] at hk
      generalize hR0 : rowLoop (rowS j) (exprS (unaS e d) j) ts'.length x ⟨ts', ns', mo'⟩ = R0 at hk
      refine loop_by (ι := LS) (fun i => ⟨[(0, pp), (1, .p (.int .i64 kk)), (5, intV i.x)], encP e i.ts i.ns op i.mo⟩)
        (fun i => i.ts.length ≤ i.n ∧ i.ns.length + 4 * i.ts.length ≤ 900000 ∧ rowLoop (rowS j) (exprS (unaS e d) j) i.n i.x ⟨i.ts, i.ns, i.mo⟩ = R0)
        (fun i => i.ts.length) ⟨x, ts', ns', mo', ts'.length⟩ ⟨AV.le_refl _, AV.le_refl _, AV.le_refl _, trivial⟩ (lesK.refl _) ⟨Nat.le_refl _, ?_, ?_⟩ ?_
      · simp only [Fine, Lw] at hf hl ⊢; omega
      · exact hR0
      have hd4 := hf.1
      clear hR0 h h0 hl hf
      rintro Y hle ⟨x, ts, ns, mo, n⟩ ⟨hn, hb, hR⟩ ih
      simp only at hn hb hR
      conv => whnf
      refine ⟨j, kk, by omega, rfl, by omega, ?_⟩
      conv => whnf
      refine ⟨_, _, _, _, _, _, _, rfl, rfl, rowS_len j, ?_⟩
      conv => whnf
      refine two_intro (fun h1 => ?_) (fun h1 => ?_)
      · obtain ⟨t, r, rfl⟩ := anyS_cons h1
        conv => whnf
        refine ⟨_, _, _, _, _, _, _, rfl, rfl, ?_⟩
        conv => whnf
        cases n with
        | zero => simp at hn
        | succ n =>
        simp only [List.length_cons] at hn hb
        refine ⟨d, j, _, _, _, _, _, _, _, rfl, rfl, ho, by rw [w64 (by omega)]; omega, hd, by omega, by omega, ⟨hd4, by show ns.length + 4 * r.length ≤ 900000; omega⟩, ⟨fun y ts2 ns2 mo2 h => ?_, fun a er h => ?_⟩⟩
        · have hl := expr_le (una_le e d) j _ _ _ h
          simp only [Lw] at hl
          conv => whnf
          refine ⟨[x, y], _, _, _, _, _, _, _, _, _, _, _, rfl, rfl, PutK.slr ?_ rfl rfl rfl (allLt_ok ⟨⟨trivial, rfl⟩, rfl⟩) ?_⟩
          · omega
          conv => whnf
          refine hle _ _ (AE.Le.cutEnv 2 rfl rfl ⟨rfl, fun i _ => rfl, trivial⟩ ?_ (lesK.refl _)) (ih ⟨ns2.length, ts2, ns2 ++ [⟨27, 0, t.at_, t.tx, [x, y]⟩], mo2, n⟩ ?_ ⟨?_, ?_, ?_⟩)
          · exact ⟨AV.le_refl _, AV.le_refl _, AV.le_refl _, trivial⟩
          · simp only [List.length_cons]; omega
          · simp only; omega
          · simp only [List.length_append, List.length_cons, List.length_nil]; omega
          · rw [← hR]
            simp only at h
            have h1 : anyS (rowS j) (t :: r) = true := h1
            simp only [rowLoop, h1, h, R.bind, putS]
        · simp only at h
          have h1 : anyS (rowS j) (t :: r) = true := h1
          simp only [rowLoop, h1, h, R.bind] at hR
          subst hR
          conv => whnf
          exact hp _ _ rfl (hk.bad _ _ rfl)
      · rw [rowLoop_no h1] at hR
        subst hR
        conv => whnf
        exact hr _ _ _ _ _ _ rfl rfl (hk.ok _ _ _ _ rfl)
    · conv => whnf
      exact hp _ _ rfl (hk.bad _ _ (by simp only [exprS, h, R.bind]))
end Go.Proofs.YtbcngegcpdppfaaGreatDoor

namespace Go.Proofs.YtbcngegcpdppfaaGreatDoor
open Go.AE Go.Ru
set_option maxRecDepth 100000
set_option pp.maxSteps 1000

theorem exJ_zero (D : Nat) : COk 66 (cExJ D 0) := by
  rintro args K k ⟨d, j, e, ts, ns, mo, op, kk, X, -, -, -, -, -, hj, -⟩
  omega
theorem all_ok (D : Nat) : COk 110 (cUna D) ∧ COk 66 (cExJ D 6) ∧ COk 132 (cPrim D) := by
  have hx : ∀ D, COk 110 (cUna D) → COk 66 (cExJ D 6) := fun D hU =>
    expr_step hU (expr_step hU (expr_step hU (expr_step hU (expr_step hU (expr_step hU (exJ_zero D))))))
  induction D with
  | zero =>
    have h0 : COk 110 (cUna 0) := by
      rintro args K k ⟨d, e, ts, ns, mo, op, X, -, -, -, h, -⟩
      omega
    exact ⟨h0, hx 0 h0, prim_ok (hx 0 h0)⟩
  | succ D ih =>
    have h1 := una_step ih.2.2 ih.1
    exact ⟨h1, hx _ h1, prim_ok (hx _ h1)⟩

/-! ### answers handed on -/
theorem bindA {α β γ : Type} (r : R α) (f : α → PS → R β) (g : β → PS → R γ) : (r.bind f).bind g = r.bind fun a s => (f a s).bind g := by cases r <;> rfl
theorem bindO {α β : Type} (a : α) (s : PS) (f : α → PS → R β) : (R.ok a s).bind f = f a s := rfl
theorem bindB {α β : Type} (a e : Int) (f : α → PS → R β) : (R.bad a e : R α).bind f = .bad a e := rfl
def AK {α : Type} (r : R α) (ok : α → PS → Prop) (bad : Int → Int → Prop) : Prop := match r with
  | .ok a s => ok a s
  | .bad a e => bad a e
theorem After.ak {α : Type} {e : Int} {r : R α} {val : α → AV} {op : Int} {X : List ABlk} {k : AO → List ABlk → Prop} (h : After e r val op X k) :
    AK r (fun a s => k (.ret (val a)) (encP e s.ts s.ns op s.mo ++ X)) (fun a er => k (.pan (wrongV a er)) (deads 2 ++ X)) := by
  cases hr : r with
  | ok a s => exact h.ok _ _ _ _ hr
  | bad a e => exact h.bad _ _ hr
/-- one step: what is called, then the rest -/
theorem AK.step {α β : Type} {r : R α} {f : α → PS → R β} {ok : β → PS → Prop} {bad : Int → Int → Prop} (h : AK (r.bind f) ok bad) {e : Int} {val : α → AV} {op : Int} {X : List ABlk} {k : AO → List ABlk → Prop}
    {p : PS → Prop} (hp : Okk r p)
    (h1 : ∀ a ts' ns' mo', p ⟨ts', ns', mo'⟩ → AK (f a ⟨ts', ns', mo'⟩) ok bad → k (.ret (val a)) (encP e ts' ns' op mo' ++ X))
    (h2 : ∀ a er, bad a er → k (.pan (wrongV a er)) (deads 2 ++ X)) : After e r val op X k := by
  cases r with
  | ok a s => exact ⟨fun a' ts' ns' mo' hr => by injection hr with e1 e2; subst e1; subst e2; exact h1 _ _ _ _ (hp _ _ rfl) h, fun _ _ hr => by simp at hr⟩
  | bad a er => exact ⟨fun _ _ _ _ hr => by simp at hr, fun a' e' hr => by injection hr with e1 e2; subst e1; subst e2; exact h2 _ _ h⟩
theorem AK.stepv {α β : Type} {r : R α} {f : α → PS → R β} {ok : β → PS → Prop} {bad : Int → Int → Prop} (h : AK (r.bind f) ok bad) {e : Int} {val : α → AV} {op : Int} {X : List ABlk} {k : AO → List ABlk → Prop}
    {p : α → PS → Prop} (hp : ∀ a s, r = .ok a s → p a s)
    (h1 : ∀ a ts' ns' mo', p a ⟨ts', ns', mo'⟩ → AK (f a ⟨ts', ns', mo'⟩) ok bad → k (.ret (val a)) (encP e ts' ns' op mo' ++ X))
    (h2 : ∀ a er, bad a er → k (.pan (wrongV a er)) (deads 2 ++ X)) : After e r val op X k := by
  cases r with
  | ok a s => exact ⟨fun a' ts' ns' mo' hr => by injection hr with e1 e2; subst e1; subst e2; exact h1 _ _ _ _ (hp _ _ rfl) h, fun _ _ hr => by simp at hr⟩
  | bad a er => exact ⟨fun _ _ _ _ hr => by simp at hr, fun a' e' hr => by injection hr with e1 e2; subst e1; subst e2; exact h2 _ _ h⟩
theorem AK.last {β : Type} {r : R β} {ok : β → PS → Prop} {bad : Int → Int → Prop} (h : AK r ok bad) {e : Int} {val : β → AV} {op : Int} {X : List ABlk} {k : AO → List ABlk → Prop}
    (h1 : ∀ a ts' ns' mo', ok a ⟨ts', ns', mo'⟩ → k (.ret (val a)) (encP e ts' ns' op mo' ++ X))
    (h2 : ∀ a er, bad a er → k (.pan (wrongV a er)) (deads 2 ++ X)) : After e r val op X k := by
  cases r with
  | ok a s => exact ⟨fun a' ts' ns' mo' hr => by injection hr with e1 e2; subst e1; subst e2; exact h1 _ _ _ _ h, fun _ _ hr => by simp at hr⟩
  | bad a er => exact ⟨fun _ _ _ _ hr => by simp at hr, fun a' e' hr => by injection hr with e1 e2; subst e1; subst e2; exact h2 _ _ h⟩
/-- skip -/
theorem AK.within {α β : Type} {e : Int} {d : Nat} {op cl : Bs} {what : M α} {ts : List Tok} {ns : List Nd} {mo : Int} {f : α → PS → R β} {ok : β → PS → Prop} {bad : Int → Int → Prop}
    (h : AK ((withinS e (d + 1) op cl what ⟨ts, ns, mo⟩).bind f) ok bad) (hw : isS op ts = true) (hc : cl ≠ []) :
    AK ((what ⟨ts.tail, ns, moreS (d + 1) mo⟩).bind fun a s => (wantS e cl s).bind fun _ s => f a s) ok bad := by
  simp only [withinS, hw] at h
  generalize what ⟨ts.tail, ns, moreS (d + 1) mo⟩ = r at h ⊢
  cases r with
  | bad a e => exact h
  | ok a s =>
    simp only [R.bind] at h ⊢
    cases cl with
    | nil => exact absurd rfl hc
    | cons c l =>
      generalize wantS e (c :: l) s = r at h ⊢
      cases r <;> exact h
theorem AK.within_no {α β : Type} {e : Int} {d : Nat} {op cl : Bs} {what : M α} {ts : List Tok} {ns : List Nd} {mo : Int} {f : α → PS → R β} {ok : β → PS → Prop} {bad : Int → Int → Prop}
    (h : AK ((withinS e d op cl what ⟨ts, ns, mo⟩).bind f) ok bad) (hw : isS op ts = false) : bad (hd e ts) 2 := by
  simp only [withinS, hw] at h; exact h
theorem AK.within_deep {α β : Type} {e : Int} {op cl : Bs} {what : M α} {ts : List Tok} {ns : List Nd} {mo : Int} {f : α → PS → R β} {ok : β → PS → Prop} {bad : Int → Int → Prop}
    (h : AK ((withinS e 0 op cl what ⟨ts, ns, mo⟩).bind f) ok bad) (hw : isS op ts = true) : bad (hd e ts) 6 := by
  simp only [withinS, hw] at h; exact h
theorem AK.want {β : Type} {e : Int} {w : Bs} {s : PS} {f : Unit → PS → R β} {ok : β → PS → Prop} {bad : Int → Int → Prop} (h : AK ((wantS e w s).bind f) ok bad) (hw : isS w s.ts = true) : AK (f () (dropS s)) ok bad := by
  simp only [wantS, hw] at h; exact h
theorem AK.want_no {β : Type} {e : Int} {w : Bs} {s : PS} {f : Unit → PS → R β} {ok : β → PS → Prop} {bad : Int → Int → Prop} (h : AK ((wantS e w s).bind f) ok bad) (hw : isS w s.ts = false) : bad (hd e s.ts) 2 := by
  simp only [wantS, hw] at h; exact h

/-- an expression, so much may yet be opened -/
def cEx : AC := fun args K k => ∃ d : Nat, ∃ e ts ns mo op X, args = [pp, .p (.int .i64 0)] ∧ K = encP e ts ns op mo ++ X ∧ op = 40 - (d : Int) ∧ Fine d ts ns ∧ After e (exS e d ⟨ts, ns, mo⟩) intV op X k
theorem ex_ok : COk 66 cEx := by
  rintro args K k ⟨d, e, ts, ns, mo, op, X, rfl, rfl, ho, hf, hk⟩
  have := hf.1
  exact (all_ok 41).2.1 _ _ _ ⟨d, 5, e, ts, ns, mo, op, 0, X, rfl, rfl, ho, rfl, by omega, by omega, by omega, hf, hk⟩
/-- an expression in brackets -/
theorem idx_ok' : COk 156 (cIndex 41) := index_ok (all_ok 41).2.1

/-- a state that is small enough, with some room -/
structure Fin (d c : Nat) (ts : List Tok) (ns : List Nd) : Prop where
  d : d ≤ 40
  s : ns.length + 4 * ts.length + c ≤ 900000
theorem Fine.fin {d : Nat} {ts : List Tok} {ns : List Nd} (h : Fine d ts ns) : Fin d 0 ts ns := ⟨h.1, h.2⟩
theorem Fin.fine {d c : Nat} {ts : List Tok} {ns : List Nd} (h : Fin d c ts ns) : Fine d ts ns := ⟨h.1, by have := h.2; omega⟩
theorem Fin.sz {d c : Nat} {ts : List Tok} {ns : List Nd} (h : Fin d c ts ns) : ns.length < 1000000 := by have := h.2; omega
theorem Fin.st {d c c' k : Nat} {ts ts' : List Tok} {ns ns' : List Nd} {mo mo' : Int} (h : Fin d c ts ns) (hl : Lw ⟨ts, ns, mo⟩ c' k ⟨ts', ns', mo'⟩) : Fin d (c + c') ts' ns' :=
  ⟨h.1, by have := h.2; have := hl.1; simp only at this; omega⟩
theorem Fin.pt {d c : Nat} {ts : List Tok} {ns : List Nd} {n : Nd} (h : Fin d (c + 1) ts ns) : Fin d c ts (ns ++ [n]) := ⟨h.1, by have := h.2; simp only [List.length_append, List.length_cons, List.length_nil]; omega⟩
theorem Fin.opn {d c : Nat} {ts : List Tok} {ns : List Nd} {w : Bs} (h : Fin (d + 1) c ts ns) (hw : isS w ts = true) : Fin d (c + 4) ts.tail ns :=
  ⟨by have := h.1; omega, by have := h.2; have := isS_pos hw; simp only [List.length_tail]; omega⟩
theorem Fin.sk {d c : Nat} {ts : List Tok} {ns : List Nd} {w : Bs} (h : Fin d c ts ns) (hw : isS w ts = true) : Fin d (c + 4) ts.tail ns :=
  ⟨h.1, by have := h.2; have := isS_pos hw; simp only [List.length_tail]; omega⟩
theorem Fin.lo {d c c' : Nat} {ts : List Tok} {ns : List Nd} (h : Fin d c ts ns) (hc : c' ≤ c) : Fin d c' ts ns := ⟨h.1, by have := h.2; omega⟩
end Go.Proofs.YtbcngegcpdppfaaGreatDoor
