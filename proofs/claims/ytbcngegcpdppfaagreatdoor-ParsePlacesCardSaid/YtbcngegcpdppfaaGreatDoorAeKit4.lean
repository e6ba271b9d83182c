/-
  AE, part 12: a call of which the references stand further on; a nil slice as a row ahead of a call; rows frozen behind one. Own metatheory over any program; no statement of the seat is proved here.
-/
import Derived.Test.YtbcngegcpdppfaaGreatDoorAeKit3
namespace Go.AE
section
variable {P : Program} {T : Tab}

mutual
/-- references n further on -/
def AV.up (n : Nat) : AV → AV
  | .ptr r ver k i off => .ptr (r + n) ver k i off
  | .slr r ver off k => .slr (r + n) ver off k
  | .fn f a b => .fn f (AV.ups n a) (AV.ups n b)
  | .iface t v => .iface t (AV.up n v)
  | .agg l => .agg (AV.ups n l)
  | .tup l => .tup (AV.ups n l)
  | .yld r => .yld (r + n)
  | .p v => .p v
  | .rop cs off => .rop cs off
  | .junk => .junk
def AV.ups (n : Nat) : List AV → List AV
  | [] => []
  | a :: l => AV.up n a :: AV.ups n l
end
mutual
/-- references n less; those below n are none -/
def AV.dn (n : Nat) : AV → AV
  | .ptr r ver k i off => match Nat.ble n r with
    | true => .ptr (Nat.sub r n) ver k i off
    | false => .junk
  | .slr r ver off k => match Nat.ble n r with
    | true => .slr (Nat.sub r n) ver off k
    | false => .junk
  | .fn f a b => .fn f (AV.dns n a) (AV.dns n b)
  | .iface t v => .iface t (AV.dn n v)
  | .agg l => .agg (AV.dns n l)
  | .tup l => .tup (AV.dns n l)
  | .yld r => match Nat.ble n r with
    | true => .yld (Nat.sub r n)
    | false => .junk
  | .p v => .p v
  | .rop cs off => .rop cs off
  | .junk => .junk
def AV.dns (n : Nat) : List AV → List AV
  | [] => []
  | a :: l => AV.dn n a :: AV.dns n l
end
theorem AV.ups_len (n : Nat) (l : List AV) : (AV.ups n l).length = l.length := by
  induction l with
  | nil => rfl
  | cons a l ih => simp [AV.ups, ih]
theorem AV.dns_len (n : Nat) (l : List AV) : (AV.dns n l).length = l.length := by
  induction l with
  | nil => rfl
  | cons a l ih => simp [AV.dns, ih]
theorem AV.ups_get (n : Nat) (l : List AV) (j : Nat) (hj : j < (AV.ups n l).length) : (AV.ups n l)[j] = AV.up n (l[j]'(by rw [AV.ups_len] at hj; exact hj)) := by
  induction l generalizing j with
  | nil => simp [AV.ups] at hj
  | cons a l ih =>
    cases j with
    | zero => rfl
    | succ j => simpa [AV.ups] using ih j (by simpa [AV.ups] using hj)
theorem AV.dns_get (n : Nat) (l : List AV) (j : Nat) (hj : j < (AV.dns n l).length) : (AV.dns n l)[j] = AV.dn n (l[j]'(by rw [AV.dns_len] at hj; exact hj)) := by
  induction l generalizing j with
  | nil => simp [AV.dns] at hj
  | cons a l ih =>
    cases j with
    | zero => rfl
    | succ j => simpa [AV.dns] using ih j (by simpa [AV.dns] using hj)

def Mp.dn (n : Nat) (m : Mp) : Mp := ⟨fun r => m.ρ (r + n), m.I, fun r => m.L (r + n)⟩
def Mp.ups (n : Nat) (m m' : Mp) : Mp := ⟨fun r => if r < n then m.ρ r else m'.ρ (r - n), m'.I, fun r => if r < n then m.L r else m'.L (r - n)⟩

theorem V.dn {w : World} {m : Mp} {a : AV} {u : Value} (n : Nat) (h : V w m a u) : V w (m.dn n) (a.dn n) u := by
  induction h with
  | p v u h => exact .p v u h
  | ptr r ver k i off sz cap h hi =>
    simp only [AV.dn]
    split
    · rename_i hb
      have hb := Nat.le_of_ble_eq_true hb
      have e : Nat.sub r n + n = r := by simp only [Nat.sub_eq]; omega
      have := V.ptr (w := w) (m := m.dn n) (Nat.sub r n) ver k i off sz cap (by simp only [Mp.dn, e, h]) hi
      simp only [Mp.dn, e] at this ⊢
      exact this
    · exact .junk _
  | ptrOld r ver k i off b o h =>
    simp only [AV.dn]
    split
    · rename_i hb
      have hb := Nat.le_of_ble_eq_true hb
      have e : Nat.sub r n + n = r := by simp only [Nat.sub_eq]; omega
      exact .ptrOld (m := m.dn n) _ ver k i off b o (by simp only [Mp.dn, e]; exact h)
    · exact .junk _
  | slr r ver off k N sz cap h hn =>
    simp only [AV.dn]
    split
    · rename_i hb
      have hb := Nat.le_of_ble_eq_true hb
      have e : Nat.sub r n + n = r := by simp only [Nat.sub_eq]; omega
      have := V.slr (w := w) (m := m.dn n) (Nat.sub r n) ver off k N sz cap (by simp only [Mp.dn, e, h]) hn
      simp only [Mp.dn, e] at this ⊢
      exact this
    · exact .junk _
  | slrNil r ver h =>
    simp only [AV.dn]
    split
    · rename_i hb
      have hb := Nat.le_of_ble_eq_true hb
      have e : Nat.sub r n + n = r := by simp only [Nat.sub_eq]; omega
      exact .slrNil (m := m.dn n) _ ver (by simp only [Mp.dn, e, h])
    · exact .junk _
  | slrOld r ver off k ad c h =>
    simp only [AV.dn]
    split
    · rename_i hb
      have hb := Nat.le_of_ble_eq_true hb
      have e : Nat.sub r n + n = r := by simp only [Nat.sub_eq]; omega
      exact .slrOld (m := m.dn n) _ ver off k ad c (by simp only [Mp.dn, e]; exact h)
    · exact .junk _
  | rop cs off b o u hb h1 h2 => exact .rop (m := m.dn n) cs off b o u hb h1 h2
  | fn f first cap A B hA hB h1 h2 ih1 ih2 =>
    exact .fn f _ _ A B (by rw [AV.dns_len]; exact hA) (by rw [AV.dns_len]; exact hB) (fun j hj hj' => by rw [AV.dns_get]; exact ih1 j _ hj') (fun j hj hj' => by rw [AV.dns_get]; exact ih2 j _ hj')
  | iface t v u h ih => exact .iface t _ u ih
  | agg cs A hA h ih => exact .agg _ A (by rw [AV.dns_len]; exact hA) (fun j hj hj' => by rw [AV.dns_get]; exact ih j _ hj')
  | tup cs A hA h ih => exact .tup _ A (by rw [AV.dns_len]; exact hA) (fun j hj hj' => by rw [AV.dns_get]; exact ih j _ hj')
  | yld r sz cap h =>
    simp only [AV.dn]
    split
    · rename_i hb
      have hb := Nat.le_of_ble_eq_true hb
      have e : Nat.sub r n + n = r := by simp only [Nat.sub_eq]; omega
      have := V.yld (w := w) (m := m.dn n) (Nat.sub r n) sz cap (by simp only [Mp.dn, e, h])
      simp only [Mp.dn, e] at this ⊢
      exact this
    · exact .junk _
  | yldOld r b h =>
    simp only [AV.dn]
    split
    · rename_i hb
      have hb := Nat.le_of_ble_eq_true hb
      have e : Nat.sub r n + n = r := by simp only [Nat.sub_eq]; omega
      exact .yldOld (m := m.dn n) _ b (by simp only [Mp.dn, e]; exact h)
    · exact .junk _
  | junk u => exact .junk u

theorem V.ups {w : World} {m0 m : Mp} {a : AV} {u : Value} (n : Nat) (h : V w m a u) : V w (m0.ups n m) (a.up n) u := by
  have hL : ∀ r, (m0.ups n m).L (r + n) = m.L r := fun r => by simp [Mp.ups, show ¬ (r + n < n) by omega]
  have hρ : ∀ r, (m0.ups n m).ρ (r + n) = m.ρ r := fun r => by simp [Mp.ups, show ¬ (r + n < n) by omega]
  induction h with
  | p v u h => exact .p v u h
  | ptr r ver k i off sz cap h hi =>
    have := V.ptr (w := w) (m := m0.ups n m) (r + n) ver k i off sz cap (by rw [hL, h]) hi
    rwa [hρ] at this
  | ptrOld r ver k i off b o h => exact .ptrOld (m := m0.ups n m) _ ver k i off b o (by rw [hL]; exact h)
  | slr r ver off k N sz cap h hn =>
    have := V.slr (w := w) (m := m0.ups n m) (r + n) ver off k N sz cap (by rw [hL, h]) hn
    rwa [hρ] at this
  | slrNil r ver h => exact .slrNil (m := m0.ups n m) _ ver (by rw [hL, h])
  | slrOld r ver off k ad c h => exact .slrOld (m := m0.ups n m) _ ver off k ad c (by rw [hL]; exact h)
  | rop cs off b o u hb h1 h2 => exact .rop (m := m0.ups n m) cs off b o u hb h1 h2
  | fn f first cap A B hA hB h1 h2 ih1 ih2 =>
    exact .fn f _ _ A B (by rw [AV.ups_len]; exact hA) (by rw [AV.ups_len]; exact hB) (fun j hj hj' => by rw [AV.ups_get]; exact ih1 j _ hj') (fun j hj hj' => by rw [AV.ups_get]; exact ih2 j _ hj')
  | iface t v u h ih => exact .iface t _ u ih
  | agg cs A hA h ih => exact .agg _ A (by rw [AV.ups_len]; exact hA) (fun j hj hj' => by rw [AV.ups_get]; exact ih j _ hj')
  | tup cs A hA h ih => exact .tup _ A (by rw [AV.ups_len]; exact hA) (fun j hj hj' => by rw [AV.ups_get]; exact ih j _ hj')
  | yld r sz cap h =>
    have := V.yld (w := w) (m := m0.ups n m) (r + n) sz cap (by rw [hL, h])
    rwa [hρ] at this
  | yldOld r b h => exact .yldOld (m := m0.ups n m) _ b (by rw [hL]; exact h)
  | junk u => exact .junk u

def ABlk.up (n : Nat) : ABlk → ABlk
  | .box ty cs => .box ty (AV.ups n cs)
  | .arr ty sz ver k f => .arr ty sz ver k fun i => AV.ups n (f i)
  | b => b
def ABlk.dn (n : Nat) : ABlk → ABlk
  | .box ty cs => .box ty (AV.dns n cs)
  | .arr ty sz ver k f => .arr ty sz ver k fun i => AV.dns n (f i)
  | b => b
def ABlk.nl : ABlk → Prop
  | .lp _ _ _ _ _ _ => False
  | _ => True
def upsB (n : Nat) : List ABlk → List ABlk
  | [] => []
  | b :: l => b.up n :: upsB n l
def dnsB (n : Nat) : List ABlk → List ABlk
  | [] => []
  | b :: l => b.dn n :: dnsB n l
def nlK : List ABlk → Prop
  | [] => True
  | b :: l => b.nl ∧ nlK l
def AO.up (n : Nat) : AO → AO
  | .ret a => .ret (a.up n)
  | .pan a => .pan (a.up n)
theorem hp_dns (n : Nat) (K : List ABlk) (r : Nat) : hp (dnsB n K) r = (hp K r).dn n := by
  induction K generalizing r with
  | nil => rfl
  | cons b K ih =>
    cases r with
    | zero => rfl
    | succ r => exact ih r
theorem hp_ups (n : Nat) (K : List ABlk) (r : Nat) : hp (upsB n K) r = (hp K r).up n := by
  induction K generalizing r with
  | nil => rfl
  | cons b K ih =>
    cases r with
    | zero => rfl
    | succ r => exact ih r
theorem nlK.hp {K : List ABlk} (h : nlK K) (r : Nat) : (hp K r).nl := by
  induction K generalizing r with
  | nil => trivial
  | cons b K ih =>
    cases r with
    | zero => exact h.1
    | succ r => exact ih h.2 r

theorem BlkOk.dn {w : World} {m : Mp} {l : Inf} {g : Nat} {b : ABlk} (n : Nat) (hn : b.nl) (h : BlkOk w m l g b) : BlkOk w (m.dn n) l g (b.dn n) := by
  cases b with
  | absent => exact h
  | dead => exact h
  | box ty cs =>
    obtain ⟨hl, c, h1, h2, h3⟩ := h
    refine ⟨by rw [AV.dns_len]; exact hl, c, h1, by rw [AV.dns_len]; exact h2, fun j hj => ?_⟩
    rw [AV.dns_get]
    obtain ⟨u, a, b⟩ := h3 j (by rw [AV.dns_len] at hj; exact hj)
    exact ⟨u, a, b.dn n⟩
  | arr ty sz ver k f =>
    rcases h with h | ⟨cap, c, hl, h0, h00, h1, h2, h3⟩
    · exact .inl h
    refine .inr ⟨cap, c, hl, h0, h00, h1, h2, fun i hi => ⟨by rw [AV.dns_len]; exact (h3 i hi).1, fun j hj => ?_⟩⟩
    rw [AV.dns_get]
    obtain ⟨u, a, b⟩ := (h3 i hi).2 j (by rw [AV.dns_len] at hj; exact hj)
    exact ⟨u, a, b.dn n⟩
  | lp => exact hn.elim
theorem BlkOk.ups {w : World} {m0 m : Mp} {l : Inf} {g : Nat} {b : ABlk} (n : Nat) (hn : b.nl) (h : BlkOk w m l g b) : BlkOk w (m0.ups n m) l g (b.up n) := by
  cases b with
  | absent => exact h
  | dead => exact h
  | box ty cs =>
    obtain ⟨hl, c, h1, h2, h3⟩ := h
    refine ⟨by rw [AV.ups_len]; exact hl, c, h1, by rw [AV.ups_len]; exact h2, fun j hj => ?_⟩
    rw [AV.ups_get]
    obtain ⟨u, a, b⟩ := h3 j (by rw [AV.ups_len] at hj; exact hj)
    exact ⟨u, a, b.ups n⟩
  | arr ty sz ver k f =>
    rcases h with h | ⟨cap, c, hl, h0, h00, h1, h2, h3⟩
    · exact .inl h
    refine .inr ⟨cap, c, hl, h0, h00, h1, h2, fun i hi => ⟨by rw [AV.ups_len]; exact (h3 i hi).1, fun j hj => ?_⟩⟩
    rw [AV.ups_get]
    obtain ⟨u, a, b⟩ := (h3 i hi).2 j (by rw [AV.ups_len] at hj; exact hj)
    exact ⟨u, a, b.ups n⟩
  | lp => exact hn.elim

theorem shift_ok {n : Nat} {w w' : World} {m m' : Mp} {Y K2 : List ABlk} {H : Nat → ABlk} (hY : Y.length = n) (hS : St w m H) (hH : ∀ r, r < n → H r = hp Y r) (hT : Tr w (m.dn n) w' m') (hS' : St w' m' (hp K2)) (hnl : nlK K2) :
    Tr w m w' (m.ups n m') ∧ St w' (m.ups n m') (hp (Y ++ upsB n K2)) := by
  have hlo : ∀ r, r < n → (m.ups n m').L r = m.L r ∧ (m.ups n m').ρ r = m.ρ r := fun r hr => by simp [Mp.ups, hr]
  have hhi : ∀ r, ¬ r < n → (m.ups n m').L r = m'.L (r - n) ∧ (m.ups n m').ρ r = m'.ρ (r - n) := fun r hr => by simp [Mp.ups, hr]
  have hdn : ∀ r, ¬ r < n → (m.dn n).L (r - n) = m.L r ∧ (m.dn n).ρ (r - n) = m.ρ r := fun r hr => by
    have : r - n + n = r := by omega
    simp only [Mp.dn, this]; exact ⟨trivial, trivial⟩
  have hTr : Tr w m w' (m.ups n m') := {
    os := hT.os
    tape := hT.tape
    output := hT.output
    size := hT.size
    out := fun b hb hr => hT.out b hb fun r hl => hr (r + n) hl
    imm := fun b hb => hT.imm b hb
    same := fun b hb => hT.same b hb
    newI := fun b hb => by
      rcases hT.newI b hb with h | ⟨r, h1, h2⟩ | h
      · exact .inl h
      · exact .inr (.inl ⟨r + n, h1, h2⟩)
      · exact .inr (.inr h)
    step := fun r => by
      by_cases hr : r < n
      · rw [(hlo r hr).1, (hlo r hr).2]; exact Inf.step_refl _ _ rfl
      · rw [(hhi r hr).1, (hhi r hr).2]
        have := hT.step (r - n)
        rw [(hdn r hr).1, (hdn r hr).2] at this
        exact this
    newρ := fun r hl => by
      by_cases hr : r < n
      · rw [(hlo r hr).1] at hl; exact .inl ⟨hl, (hlo r hr).2⟩
      · rw [(hhi r hr).1] at hl
        rw [(hhi r hr).2]
        rcases hT.newρ (r - n) hl with ⟨h1, h2⟩ | h1
        · rw [(hdn r hr).1] at h1
          rw [(hdn r hr).2] at h2
          exact .inl ⟨h1, h2⟩
        · exact .inr h1 }
  have sep : ∀ r1 r2, r1 < n → (m.L r1).isLive → ¬ r2 < n → (m'.L (r2 - n)).isLive → m.ρ r1 ≠ m'.ρ (r2 - n) := fun r1 r2 h1 hl1 h2 hl2 e => by
    rcases hT.newρ (r2 - n) hl2 with ⟨h3, h4⟩ | h3
    · rw [(hdn r2 h2).1] at h3
      rw [(hdn r2 h2).2] at h4
      have := hS.inj r1 r2 hl1 h3 (e.trans h4)
      omega
    · have := hS.lt r1 hl1; omega
  refine ⟨hTr, fun r1 r2 h1 h2 e => ?_, fun r h1 hI => ?_, fun r h1 => ?_, hS'.Ilt, hS'.gl, fun r => ?_⟩
  · by_cases hr1 : r1 < n <;> by_cases hr2 : r2 < n
    · rw [(hlo r1 hr1).1] at h1; rw [(hlo r2 hr2).1] at h2
      rw [(hlo r1 hr1).2, (hlo r2 hr2).2] at e
      exact hS.inj r1 r2 h1 h2 e
    · rw [(hlo r1 hr1).1] at h1; rw [(hhi r2 hr2).1] at h2
      rw [(hlo r1 hr1).2, (hhi r2 hr2).2] at e
      exact absurd e (sep r1 r2 hr1 h1 hr2 h2)
    · rw [(hhi r1 hr1).1] at h1; rw [(hlo r2 hr2).1] at h2
      rw [(hhi r1 hr1).2, (hlo r2 hr2).2] at e
      exact absurd e.symm (sep r2 r1 hr2 h2 hr1 h1)
    · rw [(hhi r1 hr1).1] at h1; rw [(hhi r2 hr2).1] at h2
      rw [(hhi r1 hr1).2, (hhi r2 hr2).2] at e
      have := hS'.inj _ _ h1 h2 e
      omega
  · by_cases hr : r < n
    · rw [(hlo r hr).1] at h1
      rw [(hlo r hr).2] at hI
      rcases hT.newI _ hI with h | ⟨r0, h2, h3⟩ | h
      · exact hS.notI r h1 h
      · have := hS.inj (r0 + n) r h2 h1 h3; omega
      · have := hS.lt r h1; omega
    · rw [(hhi r hr).1] at h1
      rw [(hhi r hr).2] at hI
      exact hS'.notI _ h1 hI
  · by_cases hr : r < n
    · rw [(hlo r hr).1] at h1
      rw [(hlo r hr).2]
      exact Nat.lt_of_lt_of_le (hS.lt r h1) hT.size
    · rw [(hhi r hr).1] at h1
      rw [(hhi r hr).2]
      exact hS'.lt _ h1
  · rw [hp_append, hY]
    by_cases hr : r < n
    · rw [if_pos hr, (hlo r hr).1, (hlo r hr).2]
      have hb := hS.blk r
      rw [hH r hr] at hb
      by_cases hl : (m.L r).isLive
      · refine hb.mono (hT.out _ (hS.lt r hl) fun r0 h0 e => ?_) (fun _ _ hv => hv.mono hTr)
        have := hS.inj (r0 + n) r h0 hl e
        omega
      · exact hb.nolive hl
    · rw [if_neg hr, (hhi r hr).1, (hhi r hr).2, hp_ups]
      exact (hS'.blk (r - n)).ups n (hnl.hp _)

theorem St.dn {w : World} {m : Mp} {Y K1 : List ABlk} {n : Nat} (hY : Y.length = n) (hnl : nlK K1) (hS : St w m (hp (Y ++ K1))) : St w (m.dn n) (hp (dnsB n K1)) := by
  refine ⟨fun r1 r2 h1 h2 e => by have := hS.inj (r1 + n) (r2 + n) h1 h2 e; omega, fun r h1 => hS.notI (r + n) h1, fun r h1 => hS.lt (r + n) h1, hS.Ilt, hS.gl, fun r => ?_⟩
  rw [hp_dns]
  have hb := hS.blk (r + n)
  rw [hp_append, hY, if_neg (by omega), show r + n - n = r by omega] at hb
  exact hb.dn n (hnl.hp _)

/-- a call of which the references stand behind some blocks that it does not know -/
theorem ACalls.shift {n : Nat} {f : FuncId} {args : List AV} {Y K1 : List ABlk} {k : AO → List ABlk → Prop} (hY : Y.length = n) (hnl : nlK K1)
    (h : ACalls P f (AV.dns n args) (dnsB n K1) (fun ao K2 => nlK K2 ∧ k (ao.up n) (Y ++ upsB n K2))) : ACalls P f args (Y ++ K1) k := by
  refine ⟨h.1, fun w m Args hS hV => ?_⟩
  have hV' : VL w (m.dn n) (AV.dns n args) Args := ⟨by rw [AV.dns_len]; exact hV.1, fun j hj hj' => by rw [AV.dns_get]; exact (hV.2 j _ hj').dn n⟩
  have hH : ∀ r, r < n → hp (Y ++ K1) r = hp Y r := fun r hr => by rw [hp_append, hY, if_pos hr]
  refine (h.2 w (m.dn n) Args (hS.dn hY hnl) hV').mono fun e w' he => ?_
  cases e with
  | returned u =>
    obtain ⟨m', a, K2, h1, h2, h3, h4, h5⟩ := he
    obtain ⟨k1, k2⟩ := shift_ok hY hS hH h1 h2 h4
    exact ⟨_, _, _, k1, k2, h3.ups n, h5⟩
  | panicked ch =>
    obtain ⟨m', a, u, K2, h0, h1, h2, h3, h4, h5⟩ := he
    obtain ⟨k1, k2⟩ := shift_ok hY hS hH h1 h2 h4
    exact ⟨_, _, u, _, h0, k1, k2, h3.ups n, h5⟩
  | outgrown => exact he.elim

/-- ahead of a call: a nil slice is a row of nothing -/
theorem ACalls.nilPre {f : FuncId} {args : List AV} {K K' : List ABlk} {k : AO → List ABlk → Prop} (ty sz : Nat) (g : Nat → List AV) (hK : nswK K.length K K')
    (h : ACalls P f args (K' ++ [.arr ty sz 0 0 g]) k) : ACalls P f args K k :=
  h.pre fun w m Args hS hV => by
    obtain ⟨m', h1, h2, _⟩ := nil_core ty sz g hS hK
    exact ⟨m', h1, h2, hV.1, fun j hj hj' => (hV.2 j hj hj').mono h1⟩

/-! ### rows frozen behind a call -/
/-- in weaker words, or a row as data -/
def fsw (r sz n : Nat) (g : Nat → List PV) (a b : AV) : Prop := a.le b ∨ (a = .slr r 0 0 n ∧ b = .p (.sl sz n g))
def fswL (r sz n : Nat) (g : Nat → List PV) : List AV → List AV → Prop
  | [], [] => True
  | a :: l, b :: l' => fsw r sz n g a b ∧ fswL r sz n g l l'
  | _, _ => False
def fswB (r sz n : Nat) (g : Nat → List PV) (b b' : ABlk) : Prop := b.le b' ∨ ∃ ty cs cs', b = .box ty cs ∧ b' = .box ty cs' ∧ fswL r sz n g cs cs'
def fswK (r sz n : Nat) (g : Nat → List PV) : List ABlk → List ABlk → Prop
  | [], [] => True
  | a :: l, b :: l' => fswB r sz n g a b ∧ fswK r sz n g l l'
  | _, _ => False
theorem fswL.get {r sz n : Nat} {g : Nat → List PV} {l l' : List AV} (h : fswL r sz n g l l') : l.length = l'.length ∧ ∀ j (hj : j < l.length) (hj' : j < l'.length), fsw r sz n g l[j] l'[j] := by
  induction l generalizing l' with
  | nil => cases l' with
    | nil => exact ⟨rfl, fun j hj => by simp at hj⟩
    | cons b l' => exact h.elim
  | cons a l ih => cases l' with
    | nil => exact h.elim
    | cons b l' =>
      obtain ⟨h1, h2⟩ := ih h.2
      refine ⟨by simp [h1], fun j hj hj' => ?_⟩
      cases j with
      | zero => exact h.1
      | succ j => exact h2 j (by simpa using hj) (by simpa using hj')
theorem fswK.hp {r sz n : Nat} {g : Nat → List PV} {K K' : List ABlk} (h : fswK r sz n g K K') (j : Nat) : fswB r sz n g (hp K j) (hp K' j) := by
  induction K generalizing K' j with
  | nil => cases K' with
    | nil => exact .inl (ABlk.le_refl _)
    | cons b l' => exact h.elim
  | cons a l ih => cases K' with
    | nil => exact h.elim
    | cons b l' =>
      cases j with
      | zero => exact h.1
      | succ j => exact ih h.2 j

theorem fz_core {w : World} {m : Mp} {K K' : List ABlk} {r ty sz n : Nat} {f : Nat → List AV} {g : Nat → List PV} (hS : St w m (hp K)) (hr : nth K r = some (.arr ty sz 0 n f)) (hg : ∀ i, i < n → f i = pvs (g i))
    (hK : fswK r sz n g (setN K r .dead) K') : ∃ m', Tr w m w m' ∧ St w m' (hp K') ∧ ∀ a a' u, fsw r sz n g a a' → V w m a u → V w m' a' u := by
  obtain ⟨m', hT, hS', hV⟩ := freeze_sl hS hr g hg
  have hv : ∀ a a' u, fsw r sz n g a a' → V w m a u → V w m' a' u := fun a a' u h hu => by
    rcases h with h | ⟨rfl, rfl⟩
    · exact h _ _ _ (hu.mono hT)
    · exact hV u hu
  refine ⟨m', hT, ⟨hS'.inj, hS'.notI, hS'.lt, hS'.Ilt, hS'.gl, fun j => ?_⟩, hv⟩
  have hb := hS'.blk j
  rcases hK.hp j with h | ⟨ty, cs, cs', h1, h2, h3⟩
  · exact h _ _ _ _ hb
  · rw [h1] at hb
    rw [h2]
    have hup : hp (setN K r .dead) j = upd (hp K) r .dead j := by rw [upd_setN _ (nth_lt hr)]
    have hj : hp K j = .box ty cs := by
      rw [h1] at hup
      simp only [upd] at hup
      split at hup
      · cases hup
      · exact hup.symm
    have hb0 := hS.blk j
    rw [hj] at hb0
    obtain ⟨hl0, c0, e1, e2, e3⟩ := hb0
    obtain ⟨hl, c, d1, d2, d3⟩ := hb
    have hρ : m'.ρ j = m.ρ j := by
      have hs := hT.step j
      rw [hl0, hl] at hs
      simp only [Inf.step] at hs
      rcases hs with hs | ⟨_, he⟩ | ⟨v', n', sz', cap', hs, hlt⟩
      · cases hs
      · exact he
      · simp only [Inf.live.injEq] at hs; omega
    obtain ⟨k1, k2⟩ := h3.get
    refine ⟨by rw [← k1]; exact hl, c0, by rw [hρ]; exact e1, by rw [e2, k1], fun i hi => ?_⟩
    obtain ⟨u, hu, hvu⟩ := e3 i (by omega)
    exact ⟨u, hu, hv _ _ _ (k2 i (by omega) hi) hvu⟩

theorem Wk1.fz {N : Nat} {K K' : List ABlk} {r ty sz n : Nat} {f : Nat → List AV} {a a' : AV} (g : Nat → List PV) (hr : nth K r = some (.arr ty sz 0 n f)) (hg : ∀ i, i < n → f i = pvs (g i))
    (hK : fswK r sz n g (setN K r .dead) K') (ha : a.le a') : Wk1 N a K a' K' := fun w m u we me hT _ hS hV => by
  obtain ⟨m', h1, h2, h3⟩ := fz_core hS hr hg hK
  exact ⟨m', hT.trans h1, h2, h3 _ _ _ (.inl ha) hV⟩

/-- what the values of a call tell -/
theorem ACalls.fact {f : FuncId} {args : List AV} {K : List ABlk} {k : AO → List ABlk → Prop} {c : Prop} (hent : Ent P f) (hf : ∀ w m Args, St w m (hp K) → VL w m args Args → c) (h : c → ACalls P f args K k) : ACalls P f args K k :=
  ⟨hent, fun w m Args hS hV => (h (hf w m Args hS hV)).2 w m Args hS hV⟩
theorem VP.len {w : World} {I : Nat → Prop} {sz n : Nat} {f : Nat → List PV} {u : Value} (h : VP w I (.sl sz n f) u) : n ≤ 9223372036854775807 := by
  cases h with
  | sl0 => omega
  | sl _ _ _ b o c uu hI hcap hc hv => have := hcap.2; simp only [maxLen] at this; omega
theorem VP.get {w : World} {I : Nat → Prop} {sz n : Nat} {f : Nat → List PV} {u : Value} (h : VP w I (.sl sz n f) u) {i j : Nat} (hi : i < n) (hj : j < (f i).length) : ∃ u, VP w I (f i)[j] u := by
  cases h with
  | sl0 => omega
  | sl _ _ _ b o c uu hI hcap hc hv => exact ⟨_, hv i hi j hj⟩
end
end Go.AE
