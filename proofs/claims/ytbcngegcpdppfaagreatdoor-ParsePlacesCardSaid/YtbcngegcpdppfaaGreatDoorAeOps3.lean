/-
  AE, part 5: the rest of the operations' abstract rules hold of the model's. Own metatheory over any program; no statement of the seat is proved here.
-/
import Derived.Test.YtbcngegcpdppfaaGreatDoorAeOps2
import Derived.Deep.Upon
import Derived.Lib.ConvBytes
import Derived.Laws.AppendOwn
import Derived.Below
namespace Go.AE
section
variable {P : Program} {T : Tab} {w : World} {m : Mp} {K : List ABlk} {k : AV → List ABlk → Prop}

theorem kInt (w : World) (m : Mp) (q : IntKind) (n : Int) : V w m (.p (.int q n)) (.int q n) := .p _ _ (.int q n)
theorem kBool (w : World) (m : Mp) (b : Bool) : V w m (.p (.bool b)) (.bool b) := .p _ _ (.bool b)
theorem kStr (w : World) (m : Mp) (s : ByteArray) : V w m (.p (.str s.data.toList)) (.string s) := .p _ _ (.str s _ rfl)

theorem opInt_ok (hS : St w m (hp K)) {op : BinOp} {q : IntKind} {a b : Int} {t : TypeId} (h : opInt K k op q a b) : RunOk P w m (binOp op t (.int q a) (.int q b)) k := by
  cases op with
  | add => exact RunOk.same hS (by simp [binOp, Op.intArith]) (kInt ..) h
  | sub => exact RunOk.same hS (by simp [binOp, Op.intArith]) (kInt ..) h
  | mul => exact RunOk.same hS (by simp [binOp, Op.intArith]) (kInt ..) h
  | quo =>
    obtain ⟨h0, h⟩ := h
    exact RunOk.same hS (by simp [binOp, Op.intDiv, h0]) (kInt ..) h
  | rem =>
    obtain ⟨h0, h⟩ := h
    exact RunOk.same hS (by simp [binOp, Op.intDiv, h0]) (kInt ..) h
  | eql => exact RunOk.same hS (by simp [binOp, Op.intCmp]) (kBool ..) h
  | neq => exact RunOk.same hS (by simp [binOp, Op.intCmp]) (kBool ..) h
  | lss => exact RunOk.same hS (by simp [binOp, Op.intCmp]) (kBool ..) h
  | leq => exact RunOk.same hS (by simp [binOp, Op.intCmp]) (kBool ..) h
  | gtr => exact RunOk.same hS (by simp [binOp, Op.intCmp]) (kBool ..) h
  | geq => exact RunOk.same hS (by simp [binOp, Op.intCmp]) (kBool ..) h
  | _ => exact h.elim

theorem toList_data (s : ByteArray) : s.toList = s.data.toList := by
  have : ∀ (i : Nat) (r : List UInt8), ByteArray.toList.loop s i r = r.reverse ++ s.data.toList.drop i := by
    intro i r
    induction hn : s.size - i generalizing i r with
    | zero =>
      unfold ByteArray.toList.loop
      rw [if_neg (by omega)]
      have : s.data.toList.drop i = [] := List.drop_eq_nil_of_le (by simp; have := s.size_data; omega)
      simp [this]
    | succ n ih =>
      unfold ByteArray.toList.loop
      have hi : i < s.size := by omega
      rw [if_pos hi, ih (i + 1) _ (by omega)]
      have hd : s.data.toList.drop i = s.get! i :: s.data.toList.drop (i + 1) := by
        rw [List.drop_eq_getElem_cons (by simp; exact hi)]
        congr 1
        simp only [ByteArray.get!, Array.getElem_toList]
        exact (getElem!_pos s.data i hi).symm
      rw [hd]
      simp
  have := this 0 []
  simpa [ByteArray.toList] using this

theorem opStr_ok (hS : St w m (hp K)) {op : BinOp} {a b : ByteArray} {t : TypeId} (h : opStr K k op a.data.toList b.data.toList) : RunOk P w m (binOp op t (.string a) (.string b)) k := by
  cases op with
  | add =>
    obtain ⟨h0, h⟩ := h
    simp only [Array.length_toList] at h0
    have h1 : ¬ ((a.size + b.size : Nat) : Int) > IntKind.i64.max := by
      have e : IntKind.i64.max = 9223372036854775807 := by decide
      have e1 : a.data.size = a.size := rfl
      have e2 : b.data.size = b.size := rfl
      rw [e]; omega
    refine RunOk.same hS (u := .string (a ++ b)) (by simp only [binOp, Op.stringOp, if_neg h1, Sem.run_pure]) ?_ h
    exact .p _ _ (.str _ _ (by simp))
  | eql => exact RunOk.same hS rfl (kBool ..) (by rw [toList_data, toList_data]; exact h)
  | neq => exact RunOk.same hS rfl (kBool ..) (by rw [toList_data, toList_data]; exact h)
  | lss => exact RunOk.same hS rfl (kBool ..) (by rw [toList_data, toList_data]; exact h)
  | leq => exact RunOk.same hS rfl (kBool ..) (by rw [toList_data, toList_data]; exact h)
  | gtr => exact RunOk.same hS rfl (kBool ..) (by rw [toList_data, toList_data]; exact h)
  | geq => exact RunOk.same hS rfl (kBool ..) (by rw [toList_data, toList_data]; exact h)
  | _ => exact h.elim

theorem equalIn_bool {t : TypeId} (hu : P.underlying t = some .bool) (d : Nat) (a b : Bool) (w : World) : (Op.equalIn (d + 1) t (.bool a) (.bool b)).run P w = .ok (a == b) w := by
  simp [Op.equalIn, run_underlying hu]

theorem opBin_ok (hT : TabOk P T) (hS : St w m (hp K)) {op : BinOp} {t : TypeId} {x y : AV} {u v : Value} (hx : V w m x u) (hy : V w m y v) (ox oy : Operand) (h : opBin T K k op t x y) :
    RunOk P w m (do eqGuard op t ox oy u v; binOp op t u v) k := by
  cases hx with
  | p x u hx =>
    cases hx with
    | int q a =>
      cases hy with
      | p y v hy =>
        cases hy with
        | int q' b =>
          simp only [opBin] at h
          split at h
          · rename_i e
            have e := of_decide_eq_true e
            subst e
            obtain ⟨u, w', m', a', K', h1, h2⟩ := opInt_ok (P := P) (t := t) hS h
            refine ⟨u, w', m', a', K', ?_, h2⟩
            rw [Sem.run_bind]
            have : (eqGuard op t ox oy (.int q a) (.int q b)).run P w = .ok () w := by unfold eqGuard; cases op <;> rfl
            rw [this]
            exact h1
          · exact h.elim
        | _ => exact h.elim
      | _ => exact h.elim
    | str s l hl =>
      cases hy with
      | p y v hy =>
        cases hy with
        | str s' l' hl' =>
          subst hl hl'
          obtain ⟨u, w', m', a', K', h1, h2⟩ := opStr_ok (P := P) (t := t) hS h
          refine ⟨u, w', m', a', K', ?_, h2⟩
          rw [Sem.run_bind]
          have : (eqGuard op t ox oy (.string s) (.string s')).run P w = .ok () w := by unfold eqGuard; cases op <;> rfl
          rw [this]
          exact h1
        | _ => exact h.elim
      | _ => exact h.elim
    | bool a =>
      cases hy with
      | p y v hy =>
        cases hy with
        | bool b =>
          simp only [opBin] at h
          cases hg : T.t.get t with
          | none => rw [hg] at h; exact h.elim
          | some ti =>
            rw [hg] at h
            obtain ⟨i, d, z, hi, hu, hsz, _, hut, _⟩ := hT.t t ti hg
            simp only at h
            cases hU : ti.u with
            | bool =>
              rw [hU] at h hut
              simp only [utOk] at hut
              subst hut
              have hgd : ∀ op, (eqGuard op t ox oy (.bool a) (.bool b)).run P w = .ok () w := by intro op; unfold eqGuard; cases op <;> rfl
              have heq : (Op.equal t (.bool a) (.bool b)).run P w = .ok (a == b) w := by
                exact equalIn_bool hu 9999 a b w
              cases op with
              | eql => exact RunOk.same hS (by rw [Sem.run_bind, hgd]; simp [binOp, heq]) (kBool ..) h
              | neq => exact RunOk.same hS (by rw [Sem.run_bind, hgd]; simp [binOp, heq]) (kBool ..) h
              | _ => exact h.elim
            | _ => rw [hU] at h; exact h.elim
        | _ => exact h.elim
      | _ => exact h.elim
    | _ => exact h.elim
  | _ => exact h.elim

theorem equalIn_ii {t : TypeId} {ms} (hu : P.underlying t = some (.interface ms)) (d : Nat) (w : World) : (Op.equalIn (d + 1) t .nilIface .nilIface).run P w = .ok true w := by
  simp [Op.equalIn, run_underlying hu]
theorem equalIn_iv {t : TypeId} {ms} (hu : P.underlying t = some (.interface ms)) (d : Nat) (t' : TypeId) (u : Value) (w : World) : (Op.equalIn (d + 1) t (.iface t' u) .nilIface).run P w = .ok false w := by
  simp [Op.equalIn, run_underlying hu]
theorem equalIn_pp {t e : TypeId} (hu : P.underlying t = some (.pointer e)) (d : Nat) (w : World) : (Op.equalIn (d + 1) t (.pointer none) (.pointer none)).run P w = .ok true w := by
  simp [Op.equalIn, run_underlying hu]
theorem equalIn_pv {t e : TypeId} (hu : P.underlying t = some (.pointer e)) (d : Nat) (a : Addr) (w : World) : (Op.equalIn (d + 1) t (.pointer (some a)) (.pointer none)).run P w = .ok false w := by
  simp [Op.equalIn, run_underlying hu]
theorem equalIn_ff {t : TypeId} {a b c} (hu : P.underlying t = some (.func a b c)) (d : Nat) (w : World) : (Op.equalIn (d + 1) t .nilFunc .nilFunc).run P w = .ok true w := by
  simp [Op.equalIn, run_underlying hu]
theorem equalIn_fv {t : TypeId} {a b c} (hu : P.underlying t = some (.func a b c)) (d : Nat) (f : Fn) (x y : Array Value) (w : World) : (Op.equalIn (d + 1) t (.func f x y) .nilFunc).run P w = .ok false w := by
  simp [Op.equalIn, run_underlying hu]
theorem nilC_val {y : Operand} {c : PV} (h : nilC y = some c) : (y = .const .nilIface ∧ c = .nili) ∨ (y = .const (.pointer none) ∧ c = .nilp) ∨ (y = .const .nilFunc ∧ c = .nilf) := by
  unfold nilC at h
  split at h <;> simp_all
theorem opNilCmp_ok (hT : TabOk P T) (hS : St w m (hp K)) {op : BinOp} {t : TypeId} {x : AV} {u v : Value} (hx : V w m x u) (ox oy : Operand) {c : PV} (hc : nilC oy = some c) (hv : oy = .const v) (h : opNilCmp T K k op t x c) :
    RunOk P w m (do eqGuard op t ox oy u v; binOp op t u v) k := by
  unfold opNilCmp at h
  cases hg : T.t.get t with
  | none => rw [hg] at h; exact h.elim
  | some ti =>
    rw [hg] at h
    obtain ⟨i, d, z, hi, hu, hsz, _, hut, _⟩ := hT.t t ti hg
    simp only at h
    cases hn : nilOf ti.u c x with
    | none => rw [hn] at h; exact h.elim
    | some b =>
      rw [hn] at h
      simp only at h
      have key : ∀ op, (op = .eql ∨ op = .neq) → (eqGuard op t ox oy u v).run P w = .ok () w ∧ (Op.equal t u v).run P w = .ok b w ∧ (binOp .eql t u v = (do pure (.bool (← Op.equal t u v)))) ∧ (binOp .neq t u v = (do pure (.bool (!(← Op.equal t u v))))) := by
        intro op hop
        subst hv
        unfold nilOf at hn
        cases hU : ti.u with
        | iface =>
          rw [hU] at hn hut
          obtain ⟨ms, rfl⟩ := hut
          rcases nilC_val hc with ⟨hv, rfl⟩ | ⟨_, rfl⟩ | ⟨_, rfl⟩
          · injection hv with hv
            subst hv
            simp only at hn
            cases hx with
            | p x u hx =>
              cases hx with
              | nili =>
                simp only [Option.some.injEq] at hn
                subst hn
                refine ⟨?_, equalIn_ii hu 9999 w, rfl, rfl⟩
                unfold eqGuard
                rcases hop with rfl | rfl <;> simp
              | _ => simp at hn
            | iface t' a u' hx =>
              simp only [Option.some.injEq] at hn
              subst hn
              refine ⟨?_, equalIn_iv hu 9999 _ _ w, rfl, rfl⟩
              unfold eqGuard
              rcases hop with rfl | rfl <;> rfl
            | _ => simp at hn
          · simp at hn
          · simp at hn
        | ptr e =>
          rw [hU] at hn hut
          simp only [utOk] at hut
          subst hut
          rcases nilC_val hc with ⟨_, rfl⟩ | ⟨hv, rfl⟩ | ⟨_, rfl⟩
          · simp at hn
          · injection hv with hv
            subst hv
            simp only at hn
            cases hx with
            | p x u hx =>
              cases hx with
              | nilp =>
                simp only [Option.some.injEq] at hn
                subst hn
                refine ⟨?_, equalIn_pp hu 9999 w, rfl, rfl⟩
                unfold eqGuard
                rcases hop with rfl | rfl <;> rfl
              | _ => simp at hn
            | ptr =>
              simp only [Option.some.injEq] at hn
              subst hn
              refine ⟨?_, equalIn_pv hu 9999 _ w, rfl, rfl⟩
              unfold eqGuard
              rcases hop with rfl | rfl <;> rfl
            | ptrOld =>
              simp only [Option.some.injEq] at hn
              subst hn
              refine ⟨?_, equalIn_pv hu 9999 _ w, rfl, rfl⟩
              unfold eqGuard
              rcases hop with rfl | rfl <;> rfl
            | rop =>
              simp only [Option.some.injEq] at hn
              subst hn
              refine ⟨?_, equalIn_pv hu 9999 _ w, rfl, rfl⟩
              unfold eqGuard
              rcases hop with rfl | rfl <;> rfl
            | _ => simp at hn
          · simp at hn
        | func =>
          rw [hU] at hn hut
          obtain ⟨a1, a2, a3, rfl⟩ := hut
          rcases nilC_val hc with ⟨_, rfl⟩ | ⟨_, rfl⟩ | ⟨hv, rfl⟩
          · simp at hn
          · simp at hn
          · injection hv with hv
            subst hv
            simp only at hn
            cases hx with
            | p x u hx =>
              cases hx with
              | nilf =>
                simp only [Option.some.injEq] at hn
                subst hn
                refine ⟨?_, equalIn_ff hu 9999 w, rfl, rfl⟩
                unfold eqGuard
                rcases hop with rfl | rfl <;> rfl
              | fn =>
                simp only [Option.some.injEq] at hn
                subst hn
                refine ⟨?_, equalIn_fv hu 9999 _ _ _ w, rfl, rfl⟩
                unfold eqGuard
                rcases hop with rfl | rfl <;> rfl
              | _ => simp at hn
            | fn =>
              simp only [Option.some.injEq] at hn
              subst hn
              refine ⟨?_, equalIn_fv hu 9999 _ _ _ w, rfl, rfl⟩
              unfold eqGuard
              rcases hop with rfl | rfl <;> rfl
            | _ => simp at hn
        | _ => rw [hU] at hn; simp at hn
      cases op with
      | eql =>
        obtain ⟨k1, k2, k3, _⟩ := key .eql (.inl rfl)
        exact RunOk.same hS (by rw [Sem.run_bind, k1]; simp [k3, k2]) (kBool ..) h
      | neq =>
        obtain ⟨k1, k2, _, k4⟩ := key .neq (.inr rfl)
        exact RunOk.same hS (by rw [Sem.run_bind, k1]; simp [k4, k2]) (kBool ..) h
      | _ => exact h.elim

theorem opUn_ok (hS : St w m (hp K)) {op : UnOp} {x : AV} {u : Value} (hx : V w m x u) (h : opUn K k op x) : RunOk P w m (Op.unary op u) k := by
  cases op with
  | not =>
    cases hx with
    | p x u hx =>
      cases hx with
      | bool b => exact RunOk.same hS rfl (kBool ..) h
      | _ => exact h.elim
    | _ => exact h.elim
  | neg =>
    cases hx with
    | p x u hx =>
      cases hx with
      | int q n => exact RunOk.same hS rfl (kInt ..) h
      | _ => exact h.elim
    | _ => exact h.elim
  | _ => exact h.elim

/-- a new block that nobody writes to -/
def Mp.addI (m : Mp) (g : Nat) : Mp := { m with I := fun b => m.I b ∨ b = g }
theorem Tr.addI {w w' : World} {m : Mp} {g : Nat} (hI : ∀ b, m.I b → b < w.heap.size) (h : RowKit.Below w.heap.size w w') (hg : w.heap.size ≤ g) : Tr w m w' (m.addI g) where
  os := h.os
  tape := h.tape
  output := h.output
  size := h.size
  out := fun b hb _ => h.block b hb
  imm := fun _ hb => .inl hb
  same := fun b hb => h.block b (hI b hb)
  newI := fun b hb => by
    rcases hb with hb | rfl
    · exact .inl hb
    · exact .inr (.inr hg)
  step := fun r => Inf.step_refl _ _ rfl
  newρ := fun r hr => .inl ⟨hr, rfl⟩
theorem St.addI {w w' : World} {m : Mp} {H : Nat → ABlk} {g : Nat} (hS : St w m H) (h : RowKit.Below w.heap.size w w') (hg : w.heap.size ≤ g) (hg' : g < w'.heap.size) : St w' (m.addI g) H := by
  have hT := Tr.addI hS.Ilt h hg
  refine ⟨hS.inj, fun r hr hI => ?_, fun r hr => Nat.lt_of_lt_of_le (hS.lt r hr) h.size, fun b hb => ?_, hS.gl.mono hT.imm hT.same, fun r => ?_⟩
  · rcases hI with hI | hI
    · exact hS.notI r hr hI
    · have := hS.lt r hr
      have hI : m.ρ r = g := hI
      omega
  · rcases hb with hb | rfl
    · exact Nat.lt_of_lt_of_le (hS.Ilt b hb) h.size
    · exact hg'
  · have hk := hS.blk r
    by_cases hl : (m.L r).isLive
    · exact hk.mono (h.block _ (hS.lt r hl)) (fun _ _ hv => hv.mono hT)
    · exact hk.nolive hl
/-- nothing that was there has turned -/
theorem Tr.below {w w' : World} {m : Mp} (hI : ∀ b, m.I b → b < w.heap.size) (h : RowKit.Below w.heap.size w w') : Tr w m w' m where
  os := h.os
  tape := h.tape
  output := h.output
  size := h.size
  out := fun b hb _ => h.block b hb
  imm := fun _ hb => hb
  same := fun b hb => h.block b (hI b hb)
  newI := fun b hb => .inl hb
  step := fun r => Inf.step_refl _ _ rfl
  newρ := fun r hr => .inl ⟨hr, rfl⟩
theorem St.below {w w' : World} {m : Mp} {H : Nat → ABlk} (hS : St w m H) (h : RowKit.Below w.heap.size w w') : St w' m H := by
  have hT := Tr.below hS.Ilt h
  refine ⟨hS.inj, hS.notI, fun r hr => Nat.lt_of_lt_of_le (hS.lt r hr) h.size, fun b hb => Nat.lt_of_lt_of_le (hS.Ilt b hb) h.size, hS.gl.mono hT.imm hT.same, fun r => ?_⟩
  have hk := hS.blk r
  by_cases hl : (m.L r).isLive
  · exact hk.mono (h.block _ (hS.lt r hl)) (fun _ _ hv => hv.mono hT)
  · exact hk.nolive hl

theorem bytesWorld_below (w : World) (e : TypeId) (s : ByteArray) : RowKit.Below w.heap.size w (Lib.bytesWorld w e s) :=
  ⟨rfl, rfl, rfl, by rw [Lib.bytesWorld_size]; omega, fun j hj => Lib.bytesWorld_at_old w e s j hj⟩

theorem opConv_ok (hT : TabOk P T) (hS : St w m (hp K)) {src dst : TypeId} {x : AV} {u : Value} (hx : V w m x u) (h : opConv T K k src dst x) : RunOk P w m (convert src dst u) k := by
  unfold opConv at h
  cases hg : T.t.get src with
  | none => rw [hg] at h; exact h.elim
  | some si =>
    rw [hg] at h
    simp only at h
    obtain ⟨i, d, z, hi, hu, hsz, _, hut, _⟩ := hT.t src si hg
    cases hg' : T.t.get dst with
    | none => rw [hg'] at h; exact h.elim
    | some di =>
      rw [hg'] at h
      simp only at h
      obtain ⟨i', d', z', hi', hu', hsz', _, hut', _⟩ := hT.t dst di hg'
      cases hU : di.u with
      | int q =>
        rw [hU] at h hut'
        simp only [utOk] at hut'
        subst hut'
        cases hx with
        | p x u hx =>
          cases hx with
          | int q' n =>
            refine RunOk.same hS ?_ (kInt ..) h
            simp only [convert, Sem.run_bind, run_underlying hu, run_underlying hu', Result.andThen_ok]
            cases d <;> rfl
          | _ => exact h.elim
        | _ => exact h.elim
      | string =>
        rw [hU] at h hut'
        simp only [utOk] at hut'
        subst hut'
        cases hx with
        | p x u hx =>
          cases hx with
          | str s l hl =>
            subst hl
            refine RunOk.same hS (u := .string s) ?_ (kStr ..) h
            simp only [convert, Sem.run_bind, run_underlying hu, run_underlying hu', Result.andThen_ok]
            cases d <;> rfl
          | _ => exact h.elim
        | _ => exact h.elim
      | slice e =>
        rw [hU] at h hut'
        simp only [utOk] at hut'
        subst hut'
        simp only at h
        cases hge : T.t.get e with
        | none => rw [hge] at h; exact h.elim
        | some ei =>
          rw [hge] at h
          simp only at h
          obtain ⟨ie, de, ze, hie, hue, _, _, hute, _⟩ := hT.t e ei hge
          split at h
          case h_2 => exact h.elim
          rename_i hU8
          rw [hU8] at hute
          simp only [utOk] at hute
          subst hute
          cases hx with
          | p x u hx =>
            cases hx with
            | str s l hl =>
              subst hl
              obtain ⟨hlen, h⟩ := h
              have hb := bytesWorld_below w e s
              have hlt : w.heap.size < (Lib.bytesWorld w e s).heap.size := by rw [Lib.bytesWorld_size]; omega
              refine ⟨_, _, m.addI w.heap.size, _, K, Lib.run_convert_string_bytes w src dst e s hu hu' hue, Tr.addI hS.Ilt hb (Nat.le_refl _), hS.addI hb (Nat.le_refl _) hlt, ?_, h⟩
              have hsz : s.data.toList.length = s.size := Array.length_toList
              have e0 : s.size = s.data.toList.length := hsz.symm
              rw [e0]
              refine .p _ _ (.sl 1 _ (byteF s.data.toList) w.heap.size 0 _ (fun i j => .int .u8 ((s.data.toList.getD i 0).toNat : Int)) (.inr rfl) ?_ (fun i hi j hj => ?_) (fun i hi j hj => ?_))
              · refine ⟨?_, by simpa [maxLen] using hlen⟩
                show _ ≤ grownCap w s.data.toList.length 0 e
                have := (grownCap_ge w s.data.toList.length 0 e)
                omega
              · have hj : j = 0 := by simp only [byteF, List.length_cons, List.length_nil] at hj; omega
                subst hj
                rw [Nat.zero_add, Nat.mul_one, Nat.add_zero]
                exact Lib.bytesWorld_cell w e s i (by omega)
              · have hj : j = 0 := by simp only [byteF, List.length_cons, List.length_nil] at hj; omega
                subst hj
                exact .int ..
            | _ => exact h.elim
          | _ => exact h.elim
      | _ => rw [hU] at h; exact h.elim

theorem opIface_ok (hT : TabOk P T) (hS : St w m (hp K)) {t : TypeId} {x : AV} {u : Value} (hx : V w m x u) (h : opIface T K k t x) : RunOk P w m (Instr.makeInterface t u) k := by
  unfold opIface at h
  cases hg : T.t.get t with
  | none => rw [hg] at h; exact h.elim
  | some ti =>
    rw [hg] at h
    simp only at h
    obtain ⟨i, d, z, hi, hu, hsz, _, hut, _⟩ := hT.t t ti hg
    have hk : k (.iface t x) K ∧ ∀ ms, d ≠ .interface ms := by
      cases hU : ti.u with
      | iface => rw [hU] at h; exact h.elim
      | other => rw [hU] at h; exact h.elim
      | struct fs =>
        rw [hU] at h hut
        obtain ⟨fields, rfl, _⟩ := hut
        exact ⟨h, fun ms e => by cases e⟩
      | func =>
        rw [hU] at h hut
        obtain ⟨a, b, c, rfl⟩ := hut
        exact ⟨h, fun ms e => by cases e⟩
      | _ =>
        rw [hU] at h hut
        simp only [utOk] at hut
        subst hut
        exact ⟨h, fun ms e => by cases e⟩
    refine RunOk.same hS (u := .iface t u) ?_ (.iface _ _ _ hx) hk.1
    simp only [Instr.makeInterface, Sem.run_bind, run_underlying hu, Result.andThen_ok]
    cases d <;> first | rfl | exact absurd rfl (hk.2 _)

/-- a bound of a slice expression -/
def bndOk (w : World) (m : Mp) : Option AV → Option Value → Prop
  | none, none => True
  | some a, some u => V w m a u
  | _, _ => False

theorem bnd_ok {o : Option AV} {o' : Option Value} (h : bndOk w m o o') {d : Nat} {l : Int} (hl : bnd d o = some l) : (o' = none ∧ l = (d : Int)) ∨ ∃ q, o' = some (.int q l) := by
  cases o with
  | none =>
    cases o' with
    | none => simp [bnd] at hl; exact .inl ⟨rfl, hl.symm⟩
    | some u => exact h.elim
  | some a =>
    cases o' with
    | none => exact h.elim
    | some u =>
      cases h with
      | p a u h =>
        cases h with
        | int q n => simp only [bnd, Option.some.injEq] at hl; subst hl; exact .inr ⟨q, rfl⟩
        | _ => simp [bnd] at hl
      | _ => simp [bnd] at hl

theorem sliceBounds_run (isSlice : Bool) (len cap : Nat) (hlc : len ≤ cap) {lo hi : Option AV} {lo' hi' : Option Value} (hlo : bndOk w m lo lo') (hhi : bndOk w m hi hi') {l h : Int}
    (hl : bnd 0 lo = some l) (hh : bnd len hi = some h) (h0 : 0 ≤ l) (h1 : l ≤ h) (h2 : h ≤ (len : Int)) : (Instr.sliceBounds isSlice len cap lo' hi' none).run P w = .ok (l.toNat, h.toNat, cap) w := by
  have hc : h ≤ (cap : Int) := by omega
  have e1 : ((h.toNat : Nat) : Int) = h := by omega
  rcases bnd_ok hlo hl with ⟨rfl, rfl⟩ | ⟨q, rfl⟩ <;> rcases bnd_ok hhi hh with ⟨rfl, rfl⟩ | ⟨q', rfl⟩
  · simp [Instr.sliceBounds]
  · simp [Instr.sliceBounds, Instr.sliceBound, asIntOf, hc, show 0 ≤ h by omega]
  · simp [Instr.sliceBounds, Instr.sliceBound, asIntOf, h0, h1]
  · simp [Instr.sliceBounds, Instr.sliceBound, asIntOf, hc, show 0 ≤ h by omega, h0, e1, h1]

theorem opSlice_ok (hT : TabOk P T) (hS : St w m (hp K)) {t : TypeId} {x : AV} {u : Value} (hx : V w m x u) {lo hi : Option AV} {lo' hi' : Option Value} (hlo : bndOk w m lo lo') (hhi : bndOk w m hi hi')
    (h : opSlice T K k t x lo hi) : RunOk P w m (Instr.sliceAt t u lo' hi' none) k := by
  unfold opSlice at h
  cases hg : T.t.get t with
  | none => rw [hg] at h; exact h.elim
  | some ti =>
    rw [hg] at h
    simp only at h
    obtain ⟨i, d, z, hi0, hu, hsz, _, hut, _⟩ := hT.t t ti hg
    cases hU : ti.u with
    | string =>
      rw [hU] at h hut
      simp only [utOk] at hut
      subst hut
      cases hx with
      | p x u hx =>
        cases hx with
        | str s l' hl' =>
          subst hl'
          simp only at h
          cases hl : bnd 0 lo with
          | none => rw [hl] at h; exact h.elim
          | some l =>
            rw [hl] at h
            simp only at h
            cases hh : bnd s.data.toList.length hi with
            | none => rw [hh] at h; exact h.elim
            | some hb =>
              rw [hh] at h
              simp only at h
              obtain ⟨⟨h0, h1, h2⟩, h⟩ := h
              have hsl : s.data.toList.length = s.size := by simp
              rw [hsl] at hh h2
              have hr := sliceBounds_run (P := P) false s.size s.size (Nat.le_refl _) hlo hhi hl hh h0 h1 h2
              refine RunOk.same hS (u := .string (s.extract l.toNat hb.toNat)) ?_ (.p _ _ (.str _ _ ?_)) h
              · simp [Instr.sliceAt, Instr.slice, run_underlying hu, hr]
              · simp [List.extract_eq_take_drop, List.drop_take]
        | _ => exact h.elim
      | _ => exact h.elim
    | slice e =>
      rw [hU] at h hut
      simp only [utOk] at hut
      subst hut
      simp only at h
      cases hge : T.t.get e with
      | none => rw [hge] at h; exact h.elim
      | some ei =>
        rw [hge] at h
        simp only at h
        obtain ⟨i', d', z', hie, hu', hsz', _⟩ := hT.t e ei hge
        cases hx with
        | p x u hx =>
          cases hx with
          | sl0 sz f a c =>
            simp only at h
            cases hl : bnd 0 lo with
            | none => rw [hl] at h; exact h.elim
            | some l =>
              rw [hl] at h
              simp only at h
              cases hh : bnd 0 hi with
              | none => rw [hh] at h; exact h.elim
              | some hb =>
                rw [hh] at h
                simp only at h
                obtain ⟨⟨h0, h1, h2, h3⟩, h⟩ := h
                have hr := sliceBounds_run (P := P) true 0 c (Nat.zero_le _) hlo hhi hl hh h0 h1 h2
                have e1 : hb.toNat - l.toNat = 0 := by omega
                rw [e1] at h
                refine RunOk.same hS (u := .slice (if c = l.toNat then a else a.map (·.add (l.toNat * i'.size))) (hb.toNat - l.toNat) (c - l.toNat)) ?_ ?_ h
                · simp [Instr.sliceAt, Instr.slice, run_underlying hu, hr, sizeOf, typeInfo, hie]
                · rw [e1]; exact .p _ _ (.sl0 ..)
          | sl sz n f b o c uu hI hcap hc hv =>
            simp only at h
            cases hl : bnd 0 lo with
            | none => rw [hl] at h; exact h.elim
            | some l =>
              rw [hl] at h
              simp only at h
              cases hh : bnd n hi with
              | none => rw [hh] at h; exact h.elim
              | some hb =>
                rw [hh] at h
                simp only at h
                obtain ⟨⟨h0, h1, h2, h3⟩, h⟩ := h
                have hr := sliceBounds_run (P := P) true n c hcap.1 hlo hhi hl hh h0 h1 h2
                refine RunOk.same hS (u := .slice (if c = l.toNat then some ⟨b, o, none⟩ else (some (⟨b, o, none⟩ : Addr)).map (·.add (l.toNat * i'.size))) (hb.toNat - l.toNat) (c - l.toNat)) ?_ ?_ h
                · simp [Instr.sliceAt, Instr.slice, run_underlying hu, hr, sizeOf, typeInfo, hie]
                · by_cases hz : hb.toNat - l.toNat = 0
                  · rw [hz]; exact .p _ _ (.sl0 ..)
                  · rw [if_neg (by omega)]
                    simp only [Option.map_some, addr_add, hsz', h3]
                    refine .p _ _ (.sl _ _ _ b (o + l.toNat * sz) _ (fun i j => uu (i + l.toNat) j) hI ⟨by have := hcap.1; omega, by have := hcap.2; omega⟩ (fun i hi j hj => ?_) (fun i hi j hj => hv (i + l.toNat) (by omega) j hj))
                    have := hc (i + l.toNat) (by omega) j hj
                    rw [Nat.add_mul] at this
                    rw [← this]
                    congr 2
                    omega
          | _ => exact h.elim
        | slr r ver off n N sz cap hL hn =>
          simp only at h
          cases hi with
          | some _ => exact h.elim
          | none =>
            simp only at h
            cases hl : bnd 0 lo with
            | none => rw [hl] at h; exact h.elim
            | some l =>
              rw [hl] at h
              simp only at h
              cases hn' : nth K r with
              | none => rw [hn'] at h; exact h.elim
              | some b =>
                rw [hn'] at h
                have hb := hS.blk r
                rw [hp_nth hn'] at hb
                cases b with
                | arr et sz' ver' n' f =>
                  simp only at h
                  obtain ⟨⟨rfl, hnn, h0, h1, h3⟩, h⟩ := h
                  rcases hb with ⟨hb, _⟩ | ⟨cap', c, hl', hcap, hmax, h2, h4, h5⟩
                  · rw [hL] at hb; simp at hb
                  rw [hL] at hl'
                  injection hl' with _ e2 e3 e4
                  subst e2 e3 e4
                  have hr := sliceBounds_run (P := P) (w := w) (m := m) true n (cap - off) (by omega) hlo hhi hl (h := (n : Int)) rfl h0 h1 (by omega)
                  have hrun : (Instr.sliceAt t (.slice (some ⟨m.ρ r, off * sz, none⟩) n (cap - off)) lo' hi' none).run P w =
                      .ok (.slice (if cap - off = l.toNat then some ⟨m.ρ r, off * sz, none⟩ else some ⟨m.ρ r, off * sz + l.toNat * sz, none⟩) (n - l.toNat) (cap - off - l.toNat)) w := by
                    simp [Instr.sliceAt, Instr.slice, run_underlying hu, hr, sizeOf, typeInfo, hie, hsz', h3, addr_add]
                  by_cases hlt : l < (n : Int)
                  · rw [show decide (l < (n : Int)) = true by simp [hlt]] at h
                    refine RunOk.same hS hrun ?_ h
                    rw [if_neg (by omega), show cap - off - l.toNat = cap - (off + l.toNat) by omega, ← Nat.add_mul]
                    exact .slr r ver _ _ N sz cap hL (by omega)
                  · rw [show decide (l < (n : Int)) = false by simp [hlt]] at h
                    refine RunOk.same hS hrun ?_ h
                    rw [show n - l.toNat = 0 by omega]
                    exact .p _ _ (.sl0 ..)
                | _ => exact h.elim
        | slrNil r ver hL =>
          simp only at h
          cases hi with
          | some _ => exact h.elim
          | none =>
            simp only at h
            cases hl : bnd 0 lo with
            | none => rw [hl] at h; exact h.elim
            | some l =>
              rw [hl] at h
              simp only at h
              cases hn' : nth K r with
              | none => rw [hn'] at h; exact h.elim
              | some b =>
                rw [hn'] at h
                cases b with
                | arr et sz' ver' n' f =>
                  simp only at h
                  obtain ⟨⟨rfl, hnn, h0, h1, h3⟩, h⟩ := h
                  obtain rfl : l = 0 := by omega
                  have hr := sliceBounds_run (P := P) (w := w) (m := m) true 0 0 (Nat.le_refl _) hlo hhi hl (h := 0) rfl (Int.le_refl _) (Int.le_refl _) (Int.le_refl _)
                  refine RunOk.same hS (u := .slice none 0 0) ?_ (.p _ _ (.sl0 ..)) h
                  simp [Instr.sliceAt, Instr.slice, run_underlying hu, hr, sizeOf, typeInfo, hie]
                | _ => exact h.elim
        | slrOld r ver off n ad' c' hold =>
          exfalso
          simp only at h
          cases hi with
          | some _ => exact h.elim
          | none =>
            simp only at h
            cases hl : bnd 0 lo with
            | none => rw [hl] at h; exact h.elim
            | some l =>
              rw [hl] at h
              simp only at h
              cases hn' : nth K r with
              | none => rw [hn'] at h; exact h.elim
              | some b =>
                rw [hn'] at h
                have hb := hS.blk r
                rw [hp_nth hn'] at hb
                cases b with
                | arr et sz' ver' n' f =>
                  simp only at h
                  obtain ⟨⟨rfl, rfl, _⟩, h⟩ := h
                  rcases hb with ⟨hl', _⟩ | ⟨cap', c, hl', _⟩
                  · rw [hl'] at hold; simp [Inf.old] at hold
                  rw [hl'] at hold
                  simp [Inf.old] at hold
                | _ => exact h.elim
        | _ => exact h.elim
    | _ => rw [hU] at h; exact h.elim

theorem opFieldAddr_ok (hT : TabOk P T) (hS : St w m (hp K)) {t : TypeId} {x : AV} {u : Value} (hx : V w m x u) {fi : Nat} (h : opFieldAddr T K k t x fi) : RunOk P w m (Instr.fieldAt t u fi) k := by
  unfold opFieldAddr at h
  cases hg : T.t.get t with
  | none => rw [hg] at h; exact h.elim
  | some ti =>
    rw [hg] at h
    simp only at h
    obtain ⟨i, d, z, hi0, hu, hsz, _, hut, _⟩ := hT.t t ti hg
    cases hU : ti.u with
    | struct fs =>
      rw [hU] at h hut
      simp only at h
      obtain ⟨fields, rfl, hfs, hinf⟩ := hut
      cases hn : nth fs fi with
      | none => rw [hn] at h; exact h.elim
      | some o =>
        obtain ⟨fo, ft⟩ := o
        rw [hn] at h
        simp only at h
        cases hg' : T.t.get ft with
        | none => rw [hg'] at h; exact h.elim
        | some fti =>
          rw [hg'] at h
          simp only at h
          obtain ⟨i', d', z', hi', hu', hsz', _⟩ := hT.t ft fti hg'
          split at h
          · exact h.elim
          rename_i hne
          have hne' : fti.size ≠ 0 := by intro e; rw [e] at hne; simp at hne
          rw [nth_eq, ← hfs] at hn
          simp only [List.getElem?_map, Array.getElem?_toList] at hn
          cases hff : fields[fi]? with
          | none => rw [hff] at hn; simp at hn
          | some f =>
            rw [hff] at hn
            simp only [Option.map_some, Option.some.injEq, Prod.mk.injEq] at hn
            obtain ⟨ho, hft⟩ := hn
            have hrun : ∀ a : Addr, (Instr.fieldAt t (.pointer (some a)) fi).run P w = .ok (.pointer (some (a.add fo))) w := by
              intro a
              simp [Instr.fieldAt, run_underlying hu, hff, Instr.sureAddr, fieldPlace, sizeOf, typeInfo, hft, hi', hsz', hne', ho]
            cases hx with
            | ptr r ver n i off sz cap hL hi =>
              refine RunOk.same hS (hrun _) ?_ h
              rw [addr_add, Nat.add_assoc]
              exact .ptr r ver n i (off + fo) sz cap hL hi
            | rop cs off b o uu hI hc hv =>
              refine RunOk.same hS (hrun _) ?_ h
              rw [addr_add, Nat.add_assoc]
              exact .rop cs (off + fo) b o uu hI hc hv
            | ptrOld r ver n i off b o hold =>
              refine RunOk.same hS (hrun _) ?_ h
              rw [addr_add]
              exact .ptrOld r ver n i (off + fo) b _ hold
            | _ => exact h.elim
    | _ => rw [hU] at h; exact h.elim
end
end Go.AE
