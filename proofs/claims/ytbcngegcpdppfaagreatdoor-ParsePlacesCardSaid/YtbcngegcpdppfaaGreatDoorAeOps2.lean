/-
  AE, part 4: more of the operations' abstract rules hold of the model's. Own metatheory over any program; no statement of the seat is proved here.
-/
import Derived.Test.YtbcngegcpdppfaaGreatDoorAeOps
import Derived.Laws.MakeOwn
namespace Go.AE
section
variable {P : Program} {T : Tab} {w : World} {m : Mp} {K : List ABlk} {k : AV → List ABlk → Prop}

/-! ### parts laid into a row -/
theorem foldl_put (l : List Value) (off i : Nat) (C : Array Value) :
    ((l.zipIdx i).foldl (fun cs (x : Value × Nat) => cs.setIfInBounds (off + x.2) x.1) C).toList = putCells C.toList (off + i) l := by
  induction l generalizing i C with
  | nil => rfl
  | cons a l ih =>
    simp only [List.zipIdx_cons, List.foldl_cons, putCells, setN_eq]
    rw [ih]
    simp [Nat.add_assoc]

theorem VL.put {cs vs : List AV} {C A : Array Value} (h : VL w m cs C) (h' : VL w m vs A) (off : Nat) (hle : off + vs.length ≤ cs.length) :
    VL w m (putCells cs off vs) (putCells C.toList off A.toList).toArray := by
  have h1 := h.1
  have h2 := h'.1
  refine ⟨by simp [putCells_len, h1], fun j hj hj' => ?_⟩
  have hj2 : j < (putCells C.toList off A.toList).length := by simpa using hj'
  have e : (putCells C.toList off A.toList).toArray[j] = (putCells C.toList off A.toList)[j] := by simp
  rw [e]
  by_cases hin : off ≤ j ∧ j < off + vs.length
  · rw [putCells_in vs cs off hle j hin hj, putCells_in A.toList C.toList off (by simp; omega) j (by simp; omega) hj2]
    simpa using h'.2 (j - off) (by omega) (by omega)
  · rw [putCells_out vs cs off hle j hin hj, putCells_out A.toList C.toList off (by simp; omega) j (by simp; omega) hj2]
    rw [putCells_len] at hj
    simpa using h.2 j hj (by omega)

def PL (w : World) (m : Mp) : List (Nat × AV) → List (Nat × Value) → Prop
  | [], [] => True
  | (i, a) :: l, (j, u) :: l' => i = j ∧ V w m a u ∧ PL w m l l'
  | _, _ => False

theorem fill_step {v : AV} {x : Value} (hx : V w m v x) (hne : v ≠ .junk ∧ ∀ l, v ≠ .tup l) {cs : List AV} {C : Array Value} (h : VL w m cs C) (off sz : Nat) (hl : v.cells.length = sz) (hle : off + sz ≤ cs.length) :
    ∃ C', (x.cells.zipIdx.foldl (fun cs (x : Value × Nat) => cs.setIfInBounds (off + x.2) x.1) C) = C' ∧ VL w m (putCells cs off v.cells) C' ∧ x.cells.size = sz ∧ off + x.cells.size ≤ C.size := by
  have hc := hx.cells hne.1 hne.2
  have h1 := h.1
  have h2 := hc.1
  refine ⟨_, rfl, ?_, by omega, by omega⟩
  have e : (x.cells.zipIdx.foldl (fun cs (x : Value × Nat) => cs.setIfInBounds (off + x.2) x.1) C) = (putCells C.toList off x.cells.toList).toArray := by
    apply Array.ext'
    rw [← Array.foldl_toList, Array.toList_zipIdx, foldl_put]
    simp
  rw [e]
  exact h.put hc off (by omega)

theorem fillS_ok (hT : TabOk P T) {fields : Array Field} {fs : List (Nat × Nat)} (hf : fields.toList.map (fun f => (f.offset, f.type)) = fs) (pl : Array (Nat × Nat))
    (hpl : pl = fields.map fun f => (f.offset, ((P.info? f.type).map (·.size)).getD 0)) :
    ∀ (parts : List (Nat × AV)) (parts' : List (Nat × Value)), PL w m parts parts' → ∀ (cs : List AV) (C : Array Value), VL w m cs C → ∀ r, fillS T.t fs cs parts = some r →
      ∃ C', Instr.fill (pl[·]?) C parts' = some C' ∧ VL w m r C'
  | [], [], _, cs, C, hC, r, h => by
    simp only [fillS] at h
    injection h with h
    subst h
    exact ⟨C, rfl, hC⟩
  | (i, v) :: parts, (i', x) :: parts', hP, cs, C, hC, r, h => by
    obtain ⟨rfl, hx, hP⟩ := hP
    simp only [fillS] at h
    cases hi : nth fs i with
    | none => rw [hi] at h; simp at h
    | some o =>
      obtain ⟨off, ft⟩ := o
      rw [hi] at h
      simp only at h
      cases hg : T.t.get ft with
      | none => rw [hg] at h; simp at h
      | some fi =>
        rw [hg] at h
        simp only at h
        split at h <;> first | (simp at h; done) | skip
        rename_i vv hle hne1 hne2 hl
        obtain ⟨info, d, z, hinfo, hu, hsz, _⟩ := hT.t ft fi hg
        have hle' := Nat.le_of_ble_eq_true hle
        rw [len_eq] at hle'
        have hl' := Nat.eq_of_beq_eq_true hl
        rw [len_eq] at hl'
        obtain ⟨C', hC', hV', hs1, hs2⟩ := fill_step hx ⟨hne1, fun l => hne2 l⟩ hC off fi.size hl' hle'
        have hpi : pl[i]? = some (off, fi.size) := by
          rw [nth_eq, ← hf] at hi
          simp only [List.getElem?_map, Array.getElem?_toList] at hi
          rw [hpl, Array.getElem?_map]
          cases hfi : fields[i]? with
          | none => rw [hfi] at hi; simp at hi
          | some f =>
            rw [hfi] at hi
            simp only [Option.map_some, Option.some.injEq, Prod.mk.injEq] at hi
            simp [hi.1, hi.2, hinfo, hsz]
        obtain ⟨C2, h2, h3⟩ := fillS_ok hT hf pl hpl parts parts' hP _ C' hV' r h
        refine ⟨C2, ?_, h3⟩
        simp only [Instr.fill, hpi, hs1]
        rw [if_neg (by simp; omega), hC']
        exact h2

theorem fillA_ok (sz : Nat) : ∀ (parts : List (Nat × AV)) (parts' : List (Nat × Value)), PL w m parts parts' → ∀ (cs : List AV) (C : Array Value), VL w m cs C → ∀ r, fillA sz cs parts = some r →
      ∃ C', Instr.fill (fun i => some (i * sz, sz)) C parts' = some C' ∧ VL w m r C'
  | [], [], _, cs, C, hC, r, h => by
    simp only [fillA] at h
    injection h with h
    subst h
    exact ⟨C, rfl, hC⟩
  | (i, v) :: parts, (i', x) :: parts', hP, cs, C, hC, r, h => by
    obtain ⟨rfl, hx, hP⟩ := hP
    simp only [fillA] at h
    split at h <;> first | (simp at h; done) | skip
    rename_i vv hle hne1 hne2 hl
    have hle' := Nat.le_of_ble_eq_true hle
    rw [len_eq] at hle'
    have hl' := Nat.eq_of_beq_eq_true hl
    rw [len_eq] at hl'
    obtain ⟨C', hC', hV', hs1, hs2⟩ := fill_step hx ⟨hne1, fun l => hne2 l⟩ hC (i * sz) sz hl' hle'
    obtain ⟨C2, h2, h3⟩ := fillA_ok sz parts parts' hP _ C' hV' r h
    refine ⟨C2, ?_, h3⟩
    simp only [Instr.fill, hs1]
    rw [if_neg (by simp; omega), hC']
    exact h2

theorem mapM_run {α β : Type} (f : α → Sem β) (g : α → β) (l : List α) (h : ∀ x ∈ l, ∀ w : World, (f x).run P w = .ok (g x) w) (w : World) : (l.mapM f).run P w = .ok (l.map g) w := by
  induction l with
  | nil => simp
  | cons a l ih =>
    simp only [List.mapM_cons, Sem.run_bind, h a (by simp), Result.andThen_ok, ih (fun x hx => h x (by simp [hx])), Sem.run_pure, List.map_cons]

theorem opBuild_ok (hT : TabOk P T) (hS : St w m (hp K)) {ty : Nat} {parts : List (Nat × AV)} {parts' : Array (Nat × Value)} (hP : PL w m parts parts'.toList) (h : opBuild T K k ty parts) :
    RunOk P w m (Instr.build ty parts') k := by
  unfold opBuild at h
  cases hg : T.t.get ty with
  | none => rw [hg] at h; exact h.elim
  | some ti =>
    rw [hg] at h
    obtain ⟨i, d, z, hi, hu, hsz, _, hut, hz, hzo, _⟩ := hT.t ty ti hg
    simp only at h
    cases hU : ti.u with
    | struct fs =>
      rw [hU] at h hut
      simp only at h
      cases hf : fillS T.t fs (pvs ti.zero) parts with
      | none => rw [hf] at h; exact h.elim
      | some cs =>
        rw [hf] at h
        simp only [fVL_eq] at h
        obtain ⟨fields, rfl, hfs, hinf⟩ := hut
        obtain ⟨C, hC, hV⟩ := fillS_ok (w := w) (m := m) hT hfs _ rfl parts parts'.toList hP _ _ (pvs_VL hzo w m) cs hf
        refine RunOk.same hS (u := .agg C) ?_ (.agg _ _ hV.1 hV.2) h
        have hm : (fields.mapM fun (f : Field) => (do pure (f.offset, ← sizeOf f.type) : Sem (Nat × Nat))).run P w = .ok (fields.map fun (f : Field) => (f.offset, ((P.info? f.type).map (·.size)).getD 0)) w := by
          rw [Array.mapM_eq_mapM_toList, Sem.run_map, mapM_run (P := P) _ (fun (f : Field) => (f.offset, ((P.info? f.type).map (·.size)).getD 0))]
          · exact congrArg (Result.ok · w) (by apply Array.ext'; simp)
          · intro f hf w
            have := hinf f hf
            cases hq : P.info? f.type with
            | none => rw [hq] at this; simp at this
            | some q => simp [sizeOf, typeInfo, hq]
        have hm' := hm
        simp only [Instr.build, zeroValue, typeInfo, hi, hz, Sem.run_bind, run_program, Sem.run_pure, Result.andThen_ok, run_underlying hu, hm', hC]
    | _ => rw [hU] at h; exact h.elim

theorem reps_len (z : List AV) (n : Nat) : (reps z n).length = n * z.length := by
  induction n with
  | zero => simp [reps]
  | succ n ih => simp [reps, catL_eq, ih, Nat.add_mul, Nat.add_comm]
theorem reps_get (z : List AV) (n j : Nat) (hj : j < (reps z n).length) (hz : 0 < z.length) : (reps z n)[j] = z[j % z.length]'(Nat.mod_lt _ hz) := by
  induction n generalizing j with
  | zero => simp [reps] at hj
  | succ n ih =>
    have hj' : j < (z ++ reps z n).length := by simpa [reps, catL_eq] using hj
    have e : (reps z (n + 1))[j] = (z ++ reps z n)[j] := by simp [reps, catL_eq]
    rw [e]
    by_cases h : j < z.length
    · rw [List.getElem_append_left h]
      congr 1
      exact (Nat.mod_eq_of_lt h).symm
    · rw [List.getElem_append_right (by omega), ih (j - z.length) (by simp at hj'; omega)]
      congr 1
      exact (Nat.mod_eq_sub_mod (by omega)).symm

theorem made_VL {zs : List PV} {A : Array Value} (h : zOk zs A) (w : World) (m : Mp) (n : Nat) (hz : 0 < zs.length) : VL w m (reps (pvs zs) n) ((Array.range (n * zs.length)).map (A[· % A.size]!)) := by
  refine ⟨by simp [reps_len, pvs_len], fun j hj hj' => ?_⟩
  have hz' : 0 < (pvs zs).length := by rw [pvs_len]; exact hz
  have hzA := h.1
  rw [reps_get _ _ _ hj hz']
  have hm : j % (pvs zs).length < (pvs zs).length := Nat.mod_lt _ hz'
  have hV := (pvs_VL h w m).2 (j % (pvs zs).length) hm (by rw [← h.1]; rw [pvs_len] at hm; rw [pvs_len]; exact hm)
  have e : ((Array.range (n * zs.length)).map (A[· % A.size]!))[j] = A[j % (pvs zs).length]'(by rw [← h.1]; rw [pvs_len] at hm; rw [pvs_len]; exact hm) := by
    simp only [Array.getElem_map, Array.getElem_range]
    have e2 : j % A.size = j % (pvs zs).length := by rw [pvs_len, hzA]
    rw [getElem!_pos A (j % A.size) (by rw [e2, ← hzA]; rw [pvs_len] at hm; rw [pvs_len]; exact hm)]
    simp only [e2]
  rw [e]
  exact hV

/-- a new array -/
theorem alloc_arr (hS : St w m (hp K)) (ty : TypeId) (sz n cap : Nat) (c : Array Value) (f : Nat → List AV) (hcap : n ≤ cap) (hmax : cap ≤ maxLen) (hc : c.size = cap * sz)
    (hf : ∀ i, i < n → (f i).length = sz ∧ ∀ j (hj : j < (f i).length), ∃ u, c[i * sz + j]? = some u ∧ V w m (f i)[j] u) :
    ∃ m', Tr w m (w.alloc (.cells c ty)) m' ∧ St (w.alloc (.cells c ty)) m' (hp (snoc K (.arr ty sz 0 n f))) ∧ V (w.alloc (.cells c ty)) m' (.slr (len K) 0 0 n) (.slice (some ⟨w.heap.size, 0, none⟩) n cap) := by
  have habs : m.L (len K) = .absent := hS.absent (hp_len K)
  have hT := Tr.alloc w m (.cells c ty) (len K) (.live 0 n sz cap) habs hS.Ilt
  refine ⟨_, hT, ?_, ?_⟩
  · rw [hp_snoc]
    refine hS.alloc _ _ _ (hp_len K) _ (.inr ⟨cap, c, rfl, hcap, hmax, heap_alloc_new w _, hc, fun i hi => ⟨(hf i hi).1, fun j hj => ?_⟩⟩)
    obtain ⟨u, h1, h2⟩ := (hf i hi).2 j hj
    exact ⟨u, h1, h2.mono hT⟩
  · have := V.slr (w := w.alloc (.cells c ty)) (m := m.set (len K) w.heap.size (.live 0 n sz cap)) (len K) 0 0 n n sz cap (by simp [Mp.set]) (by omega)
    simpa [Mp.set] using this

theorem opBuildSlice_ok (hT : TabOk P T) (hS : St w m (hp K)) {ty n : Nat} {parts : List (Nat × AV)} {parts' : Array (Nat × Value)} (hP : PL w m parts parts'.toList) (h : opBuildSlice T K k ty n parts) :
    RunOk P w m (Instr.buildSlice ty n parts') k := by
  unfold opBuildSlice at h
  cases hg : T.t.get ty with
  | none => rw [hg] at h; exact h.elim
  | some ti =>
    rw [hg] at h
    obtain ⟨i, d, z, hi, hu, hsz, _, hut, hz, hzo, _⟩ := hT.t ty ti hg
    simp only at h
    cases hU : ti.u with
    | slice e =>
      rw [hU] at h hut
      simp only at h
      cases hge : T.t.get e with
      | none => rw [hge] at h; exact h.elim
      | some ei =>
        rw [hge] at h
        simp only at h
        split at h
        case h_2 => exact h.elim
        rename_i cs hb1 hb2 hb3 hfill
        simp only [fVL_eq, fL_eq] at h
        obtain ⟨i', d', z', hi', hu', hsz', _, _, hz', hzo', _⟩ := hT.t e ei hge
        simp only [utOk] at hut
        subst hut
        have hle : n * ei.size ≤ 16777216 := Nat.le_of_ble_eq_true hb1
        have hne : ei.size ≠ 0 := by intro h0; rw [h0] at hb2; simp at hb2
        have hzl : ei.zero.length = ei.size := by have := Nat.eq_of_beq_eq_true hb3; rwa [len_eq] at this
        have hmv := made_VL hzo' w m n (by omega)
        rw [hzl] at hmv
        obtain ⟨C, hC, hV⟩ := fillA_ok (w := w) (m := m) ei.size parts parts'.toList hP _ _ hmv cs hfill
        have hfl : cs.length = n * ei.size := by
          have e1 : C.size = n * ei.size := by
            have : ∀ (parts' : List (Nat × Value)) (A C : Array Value), Instr.fill (fun i => some (i * ei.size, ei.size)) A parts' = some C → C.size = A.size := by
              intro parts'
              induction parts' with
              | nil => intro A C h; simp only [Instr.fill] at h; injection h with h; rw [h]
              | cons p ps ih =>
                intro A C h
                obtain ⟨pi, pv⟩ := p
                simp only [Instr.fill] at h
                split at h
                · simp at h
                · have e2 := ih _ _ h
                  rw [e2, ← Array.foldl_toList, Array.toList_zipIdx]
                  have e3 := congrArg List.length (foldl_put pv.cells.toList (pi * ei.size) 0 A)
                  rw [putCells_len] at e3
                  simpa using e3
            rw [this _ _ _ hC]
            simp
          rw [hV.1, e1]
        by_cases hn0 : n = 0
        · subst hn0
          obtain ⟨m', h1, h2, h3⟩ := alloc_arr hS e ei.size 0 0 C (fun i => takeN (dropN cs (i * ei.size)) ei.size) (by omega) (by simp [maxLen]) (by rw [← hV.1, hfl]) (fun i hi => by omega)
          refine ⟨_, _, m', _, _, ?_, h1, h2, h3, h⟩
          have e0 : (Array.range (0 * ei.size)).map (z'.cells[· % z'.cells.size]!) = #[] := by simp
          rw [e0] at hC
          rw [← hsz'] at hC
          simp only [Instr.buildSlice, run_underlying hu, sizeOf, typeInfo, hi', newRow, Sem.run_bind, run_program, Sem.run_pure, Result.andThen_ok, Nat.zero_mul, if_true, Sem.run_ite]
          simp
          have e3 : Array.map (fun _ : Nat => (default : Value)) (Array.range 0) = #[] := Array.eq_empty_of_size_eq_zero (by simp)
          rw [e3, hC]
          simp
        · obtain ⟨m', h1, h2, h3⟩ := alloc_arr hS e ei.size n n C (fun i => takeN (dropN cs (i * ei.size)) ei.size) (by omega) (by
              have : n ≤ n * ei.size := Nat.le_mul_of_pos_right _ (by omega)
              simp only [maxLen]; omega) (by rw [← hV.1, hfl]) (fun q hq => by
            have hroom : (q + 1) * ei.size ≤ n * ei.size := Nat.mul_le_mul_right _ (by omega)
            rw [Nat.add_mul, Nat.one_mul] at hroom
            simp only [takeN_eq, dropN_eq]
            refine ⟨by simp; omega, fun j hj => ?_⟩
            have hj' : j < ei.size := by simp at hj; omega
            obtain ⟨u, hu1, hu2⟩ := hV.get? (q * ei.size + j) (by omega)
            exact ⟨u, hu1, by simpa using hu2⟩)
          refine ⟨_, _, m', _, _, ?_, h1, h2, h3, h⟩
          have hnz : ¬ n * ei.size = 0 := Nat.mul_ne_zero hn0 hne
          have hnle : ¬ 16777216 < n * ei.size := by omega
          simp [Instr.buildSlice, run_underlying hu, sizeOf, typeInfo, hi', hsz', zeroValue, hz', newRow, hnle]
          rw [if_neg hnz]
          simp [hC]
    | _ => rw [hU] at h; exact h.elim

theorem opMakeSlice_ok (hT : TabOk P T) (hS : St w m (hp K)) {ty : Nat} {l c : AV} {ul uc : Value} (hl : V w m l ul) (hc : V w m c uc) (h : opMakeSlice T K k ty l c) : RunOk P w m (Instr.makeSlice ty ul uc) k := by
  unfold opMakeSlice at h
  cases hg : T.t.get ty with
  | none => rw [hg] at h; exact h.elim
  | some ti =>
    rw [hg] at h
    obtain ⟨i, d, z, hi, hu, hsz, _, hut, hz, hzo, _⟩ := hT.t ty ti hg
    simp only at h
    cases hU : ti.u with
    | slice e =>
      rw [hU] at h hut
      simp only at h
      cases hge : T.t.get e with
      | none => rw [hge] at h; exact h.elim
      | some ei =>
        rw [hge] at h
        simp only at h
        cases hl with
        | p v u hv =>
          cases hv with
          | int q n =>
            simp only at h
            cases hc with
            | p v u hv =>
              cases hv with
              | int q' c =>
                simp only at h
                split at h
                case h_2 => exact h.elim
                rename_i hb2 hb3
                obtain ⟨⟨h0, hnc, h63, hby⟩, h⟩ := h
                simp only [fVL_eq, fL_eq] at h
                obtain ⟨i', d', z', hi', hu', hsz', hby', _, hz', hzo', _⟩ := hT.t e ei hge
                simp only [utOk] at hut
                subst hut
                have hne : ei.size ≠ 0 := by intro h0; rw [h0] at hb2; simp at hb2
                have hzl : ei.zero.length = ei.size := by have := Nat.eq_of_beq_eq_true hb3; rwa [len_eq] at this
                have hr := run_make (P := P) w ty e i' z' hu hi' hz' q q' n c h0 hnc (by rw [hby']; omega) h63
                obtain ⟨nn, rfl⟩ := Int.eq_ofNat_of_zero_le h0
                obtain ⟨cc, rfl⟩ := Int.eq_ofNat_of_zero_le (Int.le_trans h0 hnc)
                simp only [Int.toNat_natCast] at hr h
                have hmv := made_VL hzo' w m cc (by omega)
                rw [hzl] at hmv
                have hms : (Array.range (cc * ei.size)).map (z'.cells[· % z'.cells.size]!) = madeCells z'.cells (cc * ei.size) := rfl
                rw [hms] at hmv
                obtain ⟨m', h1, h2, h3⟩ := alloc_arr hS e ei.size nn cc (madeCells z'.cells (cc * ei.size)) (fun _ => pvs ei.zero) (by omega) (by simp only [maxLen]; omega) (by rw [size_madeCells]) (fun p hp => by
                  have hroom : (p + 1) * ei.size ≤ cc * ei.size := Nat.mul_le_mul_right _ (by omega)
                  rw [Nat.add_mul, Nat.one_mul] at hroom
                  refine ⟨by rw [pvs_len, hzl], fun j hj => ?_⟩
                  rw [pvs_len, hzl] at hj
                  have hlen : (reps (pvs ei.zero) cc).length = cc * ei.size := by rw [reps_len, pvs_len, hzl]
                  obtain ⟨u, hu1, hu2⟩ := hmv.get? (p * ei.size + j) (by omega)
                  refine ⟨u, hu1, ?_⟩
                  rw [reps_get _ _ _ _ (by rw [pvs_len]; omega)] at hu2
                  have e2 : (p * ei.size + j) % (pvs ei.zero).length = j := by
                    rw [pvs_len, hzl, Nat.mul_comm, Nat.mul_add_mod]
                    exact Nat.mod_eq_of_lt hj
                  simpa [e2] using hu2)
                refine ⟨_, _, m', _, _, by rw [hr, hsz'], h1, h2, h3, h⟩
              | _ => exact h.elim
            | _ => exact h.elim
          | _ => exact h.elim
        | _ => exact h.elim
    | _ => rw [hU] at h; exact h.elim
end
end Go.AE
