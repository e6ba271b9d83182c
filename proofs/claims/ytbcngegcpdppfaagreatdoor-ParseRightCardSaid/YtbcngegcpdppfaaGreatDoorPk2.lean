/-
  AE, part 6: fields, indexes, append: the abstract rules hold of the model's. Own metatheory over any program; no statement of the seat is proved here.
  AE, part 7: the abstract weakest precondition holds of the model's code and calls. Own metatheory over any program; no statement of the seat is proved here.
  AE, part 7b: a region whose order is open: whatever order is drawn, it comes to what the quiet order comes to. Own metatheory over any program; no statement of the seat is proved here.
  AE, part 7c: the abstract weakest precondition holds of the model's code and calls. Own metatheory over any program; no statement of the seat is proved here.
  AE, part 8: tables are checked by the kernel. Own metatheory over any program; no statement of the seat is proved here.
  The tables of types and functions of the seat, for the layer AE, written by gentab.py (a program of this claim). No statement of the seat is proved here.
-/
import Derived.Tactics
import Derived.KernelRfl
import Derived.Test.YtbcngegcpdppfaaGreatDoorProg
import Derived.Test.YtbcngegcpdppfaaGreatDoorPk1
namespace Go.AE
section
variable {P : Program} {T : Tab} {w : World} {m : Mp} {K : List ABlk} {k : AV → List ABlk → Prop}

/-- a part of an aggregate -/
theorem part_val {t : Nat} {ti : TI} (hti : TIok P t ti) {cs : List AV} {A : Array Value} (hc : VL w m cs A) (off : Nat) (q : AV → Prop) (h : part ti cs off q) :
    ∃ u a, (Go.part t A off).run P w = .ok u w ∧ V w m a u ∧ q a := by
  obtain ⟨i, d, z, hi, hu, hsz, _, _, _, _, hagg, _⟩ := hti
  unfold part at h
  unfold Go.part
  simp only [Sem.run_bind, isAgg_run hu, Result.andThen_ok]
  rw [← hagg]
  have hl := hc.1
  cases hA : ti.agg with
  | true =>
    rw [hA] at h
    simp only at h
    cases hb : Nat.ble (off + ti.size) (len cs) with
    | false => rw [hb] at h; exact h.elim
    | true =>
      rw [hb] at h
      simp only [fVL_eq, takeN_eq, dropN_eq] at h
      have hle : off + ti.size ≤ cs.length := by rw [len_eq] at hb; exact Nat.le_of_ble_eq_true hb
      refine ⟨.agg (A.extract off (off + ti.size)), .agg ((cs.drop off).take ti.size), ?_, ?_, h⟩
      · simp [sizeOf, typeInfo, hi, hsz]
      · refine .agg _ _ (by simp; omega) fun j hj hj' => ?_
        have hj2 : j < ti.size := by simp at hj; omega
        have := hc.2 (off + j) (by omega) (by omega)
        simpa using this
  | false =>
    rw [hA] at h
    simp only at h
    rw [nth_eq] at h
    cases hn : cs[off]? with
    | none => rw [hn] at h; exact h.elim
    | some v =>
      rw [hn] at h
      simp only [fV_eq] at h
      obtain ⟨hlt, rfl⟩ := List.getElem?_eq_some_iff.1 hn
      obtain ⟨u, h1, h2⟩ := hc.get? off hlt
      refine ⟨u, _, ?_, h2, h⟩
      simp [h1]

theorem opField_ok (hT : TabOk P T) (hS : St w m (hp K)) {t : TypeId} {x : AV} {u : Value} (hx : V w m x u) {fi : Nat} (h : opField T K k t x fi) : RunOk P w m (Instr.field t u fi) k := by
  unfold opField at h
  cases hg : T.t.get t with
  | none => rw [hg] at h; exact h.elim
  | some ti =>
    rw [hg] at h
    simp only at h
    obtain ⟨i, d, z, hi0, hu, hsz, _, hut, _⟩ := hT.t t ti hg
    cases hU : ti.u with
    | struct fs =>
      rw [hU] at h hut
      simp only at h
      obtain ⟨fields, rfl, hfs, hinf⟩ := hut
      cases hn : nth fs fi with
      | none => rw [hn] at h; exact h.elim
      | some o =>
        obtain ⟨fo, ft⟩ := o
        rw [hn] at h
        simp only at h
        cases hg' : T.t.get ft with
        | none => rw [hg'] at h; exact h.elim
        | some fti =>
          rw [hg'] at h
          simp only at h
          rw [nth_eq, ← hfs] at hn
          simp only [List.getElem?_map, Array.getElem?_toList] at hn
          cases hff : fields[fi]? with
          | none => rw [hff] at hn; simp at hn
          | some f =>
            rw [hff] at hn
            simp only [Option.map_some, Option.some.injEq, Prod.mk.injEq] at hn
            obtain ⟨ho, hft⟩ := hn
            cases hx with
            | agg cs A hA hv =>
              obtain ⟨u, a, h1, h2, h3⟩ := part_val (P := P) (hT.t ft fti hg') ⟨hA, hv⟩ fo _ h
              refine RunOk.same hS (u := u) ?_ h2 h3
              simp [Instr.field, run_underlying hu, hff, asAgg, hft, ho, h1]
            | _ => exact h.elim
    | _ => rw [hU] at h; exact h.elim

theorem opIndexAddr_ok (hT : TabOk P T) (hS : St w m (hp K)) {t : TypeId} {x y : AV} {u v : Value} (hx : V w m x u) (hy : V w m y v) (h : opIndexAddr T K k t x y) : RunOk P w m (Instr.indexAt t u v) k := by
  unfold opIndexAddr at h
  cases hg : T.t.get t with
  | none => rw [hg] at h; exact h.elim
  | some ti =>
    rw [hg] at h
    simp only at h
    obtain ⟨i, d, z, hi0, hu, hsz, _, hut, _⟩ := hT.t t ti hg
    cases hU : ti.u with
    | slice e =>
      rw [hU] at h hut
      simp only [utOk] at hut
      subst hut
      simp only at h
      cases hge : T.t.get e with
      | none => rw [hge] at h; exact h.elim
      | some ei =>
        rw [hge] at h
        simp only at h
        obtain ⟨i', d', z', hie, hu', hsz', _⟩ := hT.t e ei hge
        cases hy with
        | p y v hy =>
          cases hy with
          | int q ix =>
            simp only at h
            cases hx with
            | p x u hx =>
              cases hx with
              | sl sz n f b o c uu hI hcap hc hv =>
                simp only at h
                obtain ⟨⟨h0, h1, h2⟩, h⟩ := h
                simp only [fL_eq] at h
                refine RunOk.same hS (u := .pointer (some ⟨b, o + ix.toNat * sz, none⟩)) ?_ ?_ h
                · simp [Instr.indexAt, asIntOf, run_underlying hu, h0, h1, sizeOf, typeInfo, hie, hsz', h2, addr_add]
                · refine .rop (f ix.toNat) 0 b (o + ix.toNat * sz) (uu ix.toNat) hI (fun j hj => ?_) (fun j hj => hv ix.toNat (by omega) j hj)
                  have := hc ix.toNat (by omega) j hj
                  rw [← this, Nat.add_assoc]
              | sl0 =>
                simp only at h
                obtain ⟨⟨h0, h1, h2⟩, h⟩ := h
                omega
              | _ => exact h.elim
            | slr r ver off n N sz cap hL hn =>
              simp only at h
              cases hn' : nth K r with
              | none => rw [hn'] at h; exact h.elim
              | some b =>
                rw [hn'] at h
                have hb := hS.blk r
                rw [hp_nth hn'] at hb
                cases b with
                | arr et sz' ver' n' f =>
                  simp only at h
                  obtain ⟨⟨rfl, hnn, h0, h1, h3⟩, h⟩ := h
                  rcases hb with ⟨hb, _⟩ | ⟨cap', c, hl', hcap, hmax, h2, h4, h5⟩
                  · rw [hL] at hb; simp at hb
                  rw [hL] at hl'
                  injection hl' with _ e2 e3 e4
                  subst e2 e3 e4
                  refine RunOk.same hS (u := .pointer (some ⟨m.ρ r, (off + ix.toNat) * sz + 0, none⟩)) ?_ (.ptr r ver N (off + ix.toNat) 0 sz cap hL (by omega)) h
                  simp [Instr.indexAt, asIntOf, run_underlying hu, h0, h1, sizeOf, typeInfo, hie, hsz', h3, addr_add, Nat.add_mul]
                | _ => exact h.elim
            | slrNil r ver hL =>
              exfalso
              simp only at h
              cases hn' : nth K r with
              | none => rw [hn'] at h; exact h.elim
              | some b =>
                rw [hn'] at h
                cases b with
                | arr et sz' ver' n' f =>
                  obtain ⟨⟨_, _, h0, h1, _⟩, h⟩ := h
                  omega
                | _ => exact h.elim
            | slrOld r ver off n ad' c' hold =>
              exfalso
              simp only at h
              cases hn' : nth K r with
              | none => rw [hn'] at h; exact h.elim
              | some b =>
                rw [hn'] at h
                have hb := hS.blk r
                rw [hp_nth hn'] at hb
                cases b with
                | arr et sz' ver' n' f =>
                  simp only at h
                  obtain ⟨⟨rfl, rfl, _⟩, h⟩ := h
                  rcases hb with ⟨hl', _⟩ | ⟨cap', c, hl', _⟩
                  · rw [hl'] at hold; simp [Inf.old] at hold
                  rw [hl'] at hold
                  simp [Inf.old] at hold
                | _ => exact h.elim
            | _ => exact h.elim
          | _ => exact h.elim
        | _ => exact h.elim
    | _ => rw [hU] at h; exact h.elim

theorem opIndex_ok (hT : TabOk P T) (hS : St w m (hp K)) {t : TypeId} {x y : AV} {u v : Value} (hx : V w m x u) (hy : V w m y v) (h : opIndex T K k t x y) : RunOk P w m (Instr.index t u v) k := by
  unfold opIndex at h
  cases hg : T.t.get t with
  | none => rw [hg] at h; exact h.elim
  | some ti =>
    rw [hg] at h
    simp only at h
    obtain ⟨i, d, z, hi0, hu, hsz, _, hut, _⟩ := hT.t t ti hg
    cases hy with
    | p y v hy =>
      cases hy with
      | int q ix =>
        simp only at h
        cases hU : ti.u with
        | string =>
          rw [hU] at h hut
          simp only [utOk] at hut
          subst hut
          simp only at h
          cases hx with
          | p x u hx =>
            cases hx with
            | str s l hl =>
              subst hl
              obtain ⟨⟨h0, h1⟩, h⟩ := h
              simp only [Array.length_toList] at h1
              have hlt : ix.toNat < s.size := by have : s.data.size = s.size := rfl; omega
              refine RunOk.same hS (u := .int .u8 (byteAt s.data.toList ix.toNat)) ?_ (kInt ..) h
              have e : s[ix.toNat]? = some (s[ix.toNat]'hlt) := getElem?_pos s ix.toNat hlt
              have e2 : s.data.toList.getD ix.toNat 0 = s[ix.toNat]'hlt := by
                rw [List.getD_eq_getElem?_getD, List.getElem?_eq_getElem (by simpa using hlt)]
                simp only [Option.getD_some, Array.getElem_toList]
                rfl
              simp only [Instr.index, asIntOf, Sem.run_bind, Sem.run_pure, Result.andThen_ok, run_underlying hu, h0, if_true, e, byteAt, e2]
            | _ => exact h.elim
          | _ => exact h.elim
        | _ => rw [hU] at h; exact h.elim
      | _ => exact h.elim
    | _ => exact h.elim

theorem opExtract_ok (hS : St w m (hp K)) {x : AV} {u : Value} (hx : V w m x u) {i : Nat} (h : opExtract K k x i) : RunOk P w m (Instr.extract u i) k := by
  cases hx with
  | tup cs A hA hv =>
    simp only [opExtract, nth_eq] at h
    cases hn : cs[i]? with
    | none => rw [hn] at h; exact h.elim
    | some v =>
      rw [hn] at h
      simp only [fV_eq] at h
      obtain ⟨hlt, rfl⟩ := List.getElem?_eq_some_iff.1 hn
      obtain ⟨u, h1, h2⟩ := VL.get? ⟨hA, hv⟩ i hlt
      exact RunOk.same hS (u := u) (by simp [Instr.extract, h1]) h2 h
  | _ => exact h.elim

/-- what is appended -/
def NewsOk (w : World) (m : Mp) (sz : Nat) (u : Value) (n : Nat) (g : Nat → List AV) : Prop :=
  ∃ (a : Option Addr) (c : Nat) (nl : List Value), u = .slice a n c ∧ nl.length = n * sz ∧ (∀ j y, nl[j]? = some y → ∃ ad, a = some ad ∧ w.cell? (ad.add j) = some y) ∧ (∀ y ∈ nl, y.oneCell' = true) ∧
    ∀ i, i < n → (g i).length = sz ∧ ∀ j (hj : j < (g i).length), ∃ y, nl[i * sz + j]? = some y ∧ V w m (g i)[j] y

theorem NewsOk.mk' {sz : Nat} (hsz : 0 < sz) (b o n c : Nat) (g : Nat → List AV)
    (h : ∀ i, i < n → (g i).length = sz ∧ ∀ j (hj : j < (g i).length), ∃ y, w.cell? ⟨b, o + (i * sz + j), none⟩ = some y ∧ V w m (g i)[j] y ∧ y.oneCell' = true) : NewsOk w m sz (.slice (some ⟨b, o, none⟩) n c) n g := by
  have key : ∀ q, q < n * sz → ∃ y, w.cell? ⟨b, o + q, none⟩ = some y ∧ y.oneCell' = true := by
    intro q hq
    have h1 : q / sz < n := (Nat.div_lt_iff_lt_mul hsz).2 hq
    have h2 : q % sz < sz := Nat.mod_lt _ hsz
    obtain ⟨y, hy1, _, hy3⟩ := (h (q / sz) h1).2 (q % sz) (by rw [(h _ h1).1]; exact h2)
    refine ⟨y, ?_, hy3⟩
    rw [← hy1]
    congr 2
    have := Nat.div_add_mod q sz
    rw [Nat.mul_comm] at this
    omega
  refine ⟨_, c, (List.range (n * sz)).map fun q => (w.cell? ⟨b, o + q, none⟩).getD undef, rfl, by simp, fun j y hy => ?_, fun y hy => ?_, fun i hi => ⟨(h i hi).1, fun j hj => ?_⟩⟩
  · have hj : j < n * sz := by have := (List.getElem?_eq_some_iff.1 hy).1; simpa using this
    obtain ⟨y', h1, _⟩ := key j hj
    simp [hj, h1] at hy
    subst hy
    exact ⟨_, rfl, by rw [addr_add]; exact h1⟩
  · simp only [List.mem_map, List.mem_range] at hy
    obtain ⟨q, hq, rfl⟩ := hy
    obtain ⟨y', h1, h2⟩ := key q hq
    simpa [h1] using h2
  · have hroom : (i + 1) * sz ≤ n * sz := Nat.mul_le_mul_right _ (by omega)
    rw [Nat.add_mul, Nat.one_mul] at hroom
    obtain ⟨y, hy1, hy2, _⟩ := (h i hi).2 j hj
    rw [(h i hi).1] at hj
    exact ⟨y, by simp [show i * sz + j < n * sz by omega, hy1], hy2⟩

theorem news_ok (hS : St w m (hp K)) {sz : Nat} (hsz : 0 < sz) {x : AV} {u : Value} (hx : V w m x u) {q : Nat → (Nat → List AV) → Prop} (h : news K sz x q) : ∃ n g, NewsOk w m sz u n g ∧ q n g := by
  unfold news at h
  cases hx with
  | p x u hx =>
    cases hx with
    | nils => exact ⟨0, _, ⟨none, 0, [], rfl, by simp, by simp, by simp, fun i hi => by omega⟩, h⟩
    | sl0 sz' f a c => exact ⟨0, _, ⟨a, c, [], rfl, by simp, by simp, by simp, fun i hi => by omega⟩, h.k⟩
    | sl sz' n f b o c uu hI hcap hc hv =>
      obtain ⟨⟨rfl, hl⟩, h⟩ := h
      refine ⟨n, _, NewsOk.mk' hsz b o n c _ (fun i hi => ⟨by rw [pvs_len]; exact hl i hi, fun j hj => ?_⟩), h⟩
      have hj' : j < (f i).length := by rw [pvs_len] at hj; exact hj
      exact ⟨uu i j, hc i hi j hj', by rw [pvs_get]; exact .p _ _ (hv i hi j hj'), (hv i hi j hj').one⟩
    | _ => exact h.elim
  | slr r ver off n N sz' cap hL hn =>
    simp only at h
    cases hn' : nth K r with
    | none => rw [hn'] at h; exact h.elim
    | some b =>
      rw [hn'] at h
      have hb := hS.blk r
      rw [hp_nth hn'] at hb
      cases b with
      | arr et sz2 ver' n' f =>
        simp only at h
        obtain ⟨⟨rfl, hnn, rfl, hones⟩, h⟩ := h
        rcases hb with ⟨hb, _⟩ | ⟨cap', c, hl', hcap, hmax, h2, h4, h5⟩
        · rw [hL] at hb; simp at hb
        rw [hL] at hl'
        injection hl' with _ e2 e3 e4
        subst e2 e3 e4
        refine ⟨n, _, NewsOk.mk' hsz (m.ρ r) (off * sz') n _ _ (fun i hi => ⟨(h5 (i + off) (by omega)).1, fun j hj => ?_⟩), h⟩
        obtain ⟨y, hy1, hy2⟩ := (h5 (i + off) (by omega)).2 j hj
        refine ⟨y, ?_, hy2, hy2.one (ones_get (hones _ (by omega)) j hj)⟩
        rw [cell_of_row w _ _ c et (0, 0) h2, ← hy1, Nat.add_mul]
        congr 1
        omega
      | _ => exact h.elim
  | slrNil r ver hL =>
    simp only at h
    cases hn' : nth K r with
    | none => rw [hn'] at h; exact h.elim
    | some b =>
      rw [hn'] at h
      cases b with
      | arr et sz' ver' n' f => exact ⟨0, _, ⟨none, 0, [], rfl, by simp, by simp, by simp, fun i hi => by omega⟩, h.k⟩
      | _ => exact h.elim
  | slrOld r ver off n ad' c' hold =>
    exfalso
    simp only at h
    cases hn' : nth K r with
    | none => rw [hn'] at h; exact h.elim
    | some b =>
      rw [hn'] at h
      have hb := hS.blk r
      rw [hp_nth hn'] at hb
      cases b with
      | arr et sz' ver' n' f =>
        simp only at h
        obtain ⟨⟨rfl, rfl, _⟩, h⟩ := h
        rcases hb with ⟨hl', _⟩ | ⟨cap', c, hl', _⟩
        · rw [hl'] at hold; simp [Inf.old] at hold
        rw [hl'] at hold
        simp [Inf.old] at hold
      | _ => exact h.elim
  | _ => exact h.elim

/-- nothing is appended -/
theorem append_none {t tx ty e : TypeId} {i : TypeInfo} (ht : P.underlying t = some (.slice e)) (hi : P.info? e = some i) (base : Option Addr) (sLen sCap : Nat) (hle : sLen ≤ sCap) {e' : TypeId} (htx : P.underlying tx = some (.slice e')) (a : Option Addr) (c : Nat) :
    (Builtin.append_ #[t, tx] ty #[.slice base sLen sCap, .slice a 0 c]).run P w = .ok (.slice base sLen sCap) w := by
  cases base <;> cases a <;> simp [Builtin.append_, run_underlying ht, run_underlying htx, sizeOf, typeInfo, hi, Builtin.lenOf, hle, Builtin.firstCells, loadCells, loadCellsFrom, storeCells]

theorem catF_lt {n : Nat} {f g : Nat → List AV} {i : Nat} (h : i < n) : catF n f g i = f i := by
  unfold catF
  have : Nat.blt i n = true := by simpa using h
  rw [this]
theorem catF_ge {n : Nat} {f g : Nat → List AV} {i : Nat} (h : n ≤ i) : catF n f g i = g (i - n) := by
  unfold catF
  have : Nat.blt i n = false := by cases e : Nat.blt i n with
    | true => have := Nat.le_of_ble_eq_true e; omega
    | false => rfl
  rw [this]

theorem opAppend_ok (hT : TabOk P T) (hS : St w m (hp K)) {t : TypeId} {s x : AV} {u v : Value} (hs : V w m s u) (hx : V w m x v) {ty : TypeId} (h : opAppend T K k t s x) : RunOk P w m (Builtin.append_ #[t, t] ty #[u, v]) k := by
  unfold opAppend at h
  cases hg : T.t.get t with
  | none => rw [hg] at h; exact h.elim
  | some ti =>
    rw [hg] at h
    simp only at h
    obtain ⟨i, d, z, hi0, hu, hsz, _, hut, _⟩ := hT.t t ti hg
    cases hU : ti.u with
    | slice e =>
      rw [hU] at h hut
      simp only [utOk] at hut
      subst hut
      simp only at h
      cases hge : T.t.get e with
      | none => rw [hge] at h; exact h.elim
      | some ei =>
        rw [hge] at h
        simp only at h
        obtain ⟨i', d', z', hie, hu', hsz', hby', _, hz', hzo', _⟩ := hT.t e ei hge
        split at h
        case h_2 => exact h.elim
        rename_i hb2 hb3
        have hne : ei.size ≠ 0 := by intro h0; rw [h0] at hb2; simp at hb2
        have hzl : ei.zero.length = ei.size := by have := Nat.eq_of_beq_eq_true hb3; rwa [len_eq] at this
        have hzs : z'.cells.size = ei.size := by rw [← hzo'.1]; exact hzl
        obtain ⟨nm, g, hnews, h⟩ := news_ok hS (by omega) hx h
        obtain ⟨a, c, nl, rfl, hnl, hcells, hone, hg⟩ := hnews
        cases hs with
        | p s u hs =>
          cases hs with
          | nils =>
            simp only at h
            cases nm with
            | zero =>
              simp only at h
              exact RunOk.same hS (append_none hu hie none 0 0 (Nat.le_refl _) hu a c) (.p _ _ .nils) h
            | succ nm =>
              simp only at h
              obtain ⟨⟨hby, h63⟩, h⟩ := h
              simp only [fL_eq] at h
              have hpos : 0 < nl.length := by rw [hnl]; exact Nat.mul_pos (by omega) (by omega)
              obtain ⟨ad, rfl, _⟩ := hcells 0 nl[0] (List.getElem?_eq_getElem hpos)
              obtain ⟨v', w', hr, hown, hgrow, hnil, hat⟩ := run_append_own_at (P := P) w 0 t ty e i' z' ei.size ei.bytes hu hie hz' hsz' hby' hzs (by omega) (.slice none 0 0) 0 [] (World.ownsRow_nil w 0 e ei.size)
                ad (nm + 1) c nl hnl (fun j y hy => by obtain ⟨_, e1, e2⟩ := hcells j y hy; injection e1 with e1; rw [e1]; exact e2) hone (by simp only [maxLen]; omega) (by rw [Nat.zero_add]; exact hby) (Nat.zero_le _)
              simp only [Nat.zero_add, List.nil_append] at hown
              rcases hown.2 with ⟨_, h0⟩ | ⟨gb, cap, cur, rfl, _, hgh, hncap, hcapm, hcs, htake⟩
              · omega
              · rcases hat with hat | hat
                · simp [Value.ownBlock] at hat
                · simp [Value.ownBlock] at hat
                  subst hat
                  have hlt : w.heap.size < w'.heap.size := (Array.getElem?_eq_some_iff.1 hgh).1
                  have hgr : w.grownBy w' none := by simpa [Value.ownBlock] using hgrow
                  have hst : (m.L (len K)).step (.live 0 (nm + 1) ei.size cap) False := by rw [hS.absent (hp_len K)]; trivial
                  have hTr := Tr.fresh hS (len K) w.heap.size (.live 0 (nm + 1) ei.size cap) hst hgr (Nat.le_refl _)
                  refine ⟨_, w', _, _, _, hr, hTr, ?_, ?_, h⟩
                  · rw [hp_snoc]
                    refine hS.fresh _ _ _ hst hgr (Nat.le_refl _) hlt _ (.inr ⟨cap, cur, rfl, hncap, hcapm, hgh, hcs, fun q hq => ⟨(hg q hq).1, fun j hj => ?_⟩⟩)
                    obtain ⟨y, hy1, hy2⟩ := (hg q hq).2 j hj
                    refine ⟨y, ?_, hy2.mono hTr⟩
                    rw [← htake, List.getElem?_take] at hy1
                    split at hy1
                    · simpa using hy1
                    · simp at hy1
                  · have := V.slr (w := w') (m := m.set (len K) w.heap.size (.live 0 (nm + 1) ei.size cap)) (len K) 0 0 (nm + 1) (nm + 1) ei.size cap (by simp [Mp.set]) (by omega)
                    simpa [Mp.set] using this
          | _ => exact h.elim
        | slr r ver off n N sz cap hL hn =>
          simp only at h
          cases off with
          | succ _ => exact h.elim
          | zero =>
            simp only at h
            cases hn' : nth K r with
            | none => rw [hn'] at h; exact h.elim
            | some b =>
              rw [hn'] at h
              have hb := hS.blk r
              rw [hp_nth hn'] at hb
              have hlive : (m.L r).isLive := by rw [hL]; trivial
              cases b with
              | arr et sz2 ver' n' f =>
                simp only at h
                obtain ⟨⟨rfl, rfl, rfl, rfl, hby, h63⟩, h⟩ := h
                simp only [fL_eq] at h
                rcases hb with ⟨hb, _⟩ | ⟨cap', cc, hl', hcap, hmax, h2, h4, h5⟩
                · rw [hL] at hb; simp at hb
                obtain rfl : n = N := by omega
                have hl2 := hl'
                rw [hL] at hl2
                injection hl2 with _ _ e3 e4
                subst e3 e4
                simp only [Nat.zero_mul, Nat.sub_zero]
                by_cases hm0 : nm = 0
                · subst hm0
                  refine ⟨_, w, m, _, _, append_none hu hie _ _ _ hcap hu a c, Tr.refl w m, ?_, ?_, h⟩
                  · rw [hp_set K r _ _ hn']
                    refine ⟨hS.inj, hS.notI, hS.lt, hS.Ilt, hS.gl, fun q => ?_⟩
                    by_cases e : q = r
                    · subst e
                      simp only [upd, if_true]
                      refine .inr ⟨cap, cc, hL, by omega, hmax, h2, h4, fun j hj => ?_⟩
                      rw [catF_lt (by omega)]
                      exact h5 j (by omega)
                    · simp only [upd, e, if_false]; exact hS.blk q
                  · have := V.slr (w := w) r ver 0 n n ei.size cap hL (by omega)
                    simpa using this
                · have hpos : 0 < nl.length := by rw [hnl]; exact Nat.mul_pos (by omega) (by omega)
                  obtain ⟨ad, rfl, _⟩ := hcells 0 nl[0] (List.getElem?_eq_getElem hpos)
                  have hnc : n * ei.size ≤ cap * ei.size := Nat.mul_le_mul_right _ hcap
                  have hown0 : w.ownsRow 0 et ei.size (.slice (some ⟨m.ρ r, 0, none⟩) n cap) n (cc.toList.take (n * ei.size)) :=
                    ⟨by simp; omega, .inr ⟨m.ρ r, cap, cc, rfl, Nat.zero_le _, h2, hcap, hmax, h4, rfl⟩⟩
                  obtain ⟨v', w', hr, hown, hgrow, hnil, hat⟩ := run_append_own_at (P := P) w 0 t ty et i' z' ei.size ei.bytes hu hie hz' hsz' hby' hzs (by omega) _ n _ hown0
                    ad nm c nl hnl (fun j y hy => by obtain ⟨_, e1, e2⟩ := hcells j y hy; injection e1 with e1; rw [e1]; exact e2) hone (by simp only [maxLen]; omega) (by omega) (Nat.zero_le _)
                  rcases hown.2 with ⟨_, h0⟩ | ⟨gb, cap2, cur, rfl, _, hgh, hncap, hcapm, hcs, htake⟩
                  · omega
                  · have hgr : w.grownBy w' (some (m.ρ r)) := by simpa [Value.ownBlock] using hgrow
                    have hgb : gb = m.ρ r ∨ w.heap.size ≤ gb := by
                      rcases hat with hat | hat
                      · simp [Value.ownBlock] at hat; exact .inl hat
                      · simp [Value.ownBlock] at hat; exact .inr (by omega)
                    have hstep : (m.L r).step (.live ver (n + nm) ei.size cap2) (gb = m.ρ r) := by
                      rw [hL]
                      exact .inr (.inr ⟨_, _, _, _, rfl, by omega⟩)
                    have hlt : gb < w'.heap.size := (Array.getElem?_eq_some_iff.1 hgh).1
                    have hTr := Tr.grow hS r gb (.live ver (n + nm) ei.size cap2) hlive hgr hstep hgb
                    refine ⟨_, w', _, _, _, hr, hTr, ?_, ?_, h⟩
                    · rw [hp_set K r _ _ hn']
                      refine hS.grow r gb _ hlive hgr hstep hgb hlt _ (.inr ⟨cap2, cur, rfl, hncap, hcapm, hgh, hcs, fun q hq => ?_⟩)
                      have hroom : (q + 1) * ei.size ≤ (n + nm) * ei.size := Nat.mul_le_mul_right _ (by omega)
                      rw [Nat.add_mul, Nat.one_mul] at hroom
                      have hcell : ∀ j y, j < ei.size → (cc.toList.take (n * ei.size) ++ nl)[q * ei.size + j]? = some y → cur[q * ei.size + j]? = some y := by
                        intro j y hj hy
                        rw [← htake, List.getElem?_take, if_pos (by omega)] at hy
                        simpa using hy
                      have hlen0 : (cc.toList.take (n * ei.size)).length = n * ei.size := by simp; omega
                      by_cases hqn : q < n
                      · have hroom2 : (q + 1) * ei.size ≤ n * ei.size := Nat.mul_le_mul_right _ (by omega)
                        rw [Nat.add_mul, Nat.one_mul] at hroom2
                        rw [catF_lt hqn]
                        refine ⟨(h5 q hqn).1, fun j hj => ?_⟩
                        have hj' : j < ei.size := by rw [(h5 q hqn).1] at hj; exact hj
                        obtain ⟨y, hy1, hy2⟩ := (h5 q hqn).2 j hj
                        refine ⟨y, hcell j y hj' ?_, hy2.mono hTr⟩
                        rw [List.getElem?_append_left (by omega), List.getElem?_take, if_pos (by omega)]
                        simpa using hy1
                      · rw [catF_ge (by omega)]
                        have hg' := hg (q - n) (by omega)
                        refine ⟨hg'.1, fun j hj => ?_⟩
                        have hj' : j < ei.size := by rw [hg'.1] at hj; exact hj
                        obtain ⟨y, hy1, hy2⟩ := hg'.2 j hj
                        refine ⟨y, hcell j y hj' ?_, hy2.mono hTr⟩
                        have hmul : q * ei.size = n * ei.size + (q - n) * ei.size := by rw [← Nat.add_mul]; congr 1; omega
                        rw [List.getElem?_append_right (by omega), hlen0, show q * ei.size + j - n * ei.size = (q - n) * ei.size + j by omega]
                        exact hy1
                    · have := V.slr (w := w') (m := m.set r gb (.live ver (n + nm) ei.size cap2)) r ver 0 (n + nm) (n + nm) ei.size cap2 (by simp [Mp.set]) (by omega)
                      simpa [Mp.set] using this
              | _ => exact h.elim
        | slrNil r ver hL =>
          simp only at h
          cases hn' : nth K r with
          | none => rw [hn'] at h; exact h.elim
          | some b =>
            rw [hn'] at h
            have hb := hS.blk r
            rw [hp_nth hn'] at hb
            cases b with
            | arr et sz2 ver' n' f =>
              simp only at h
              obtain ⟨⟨rfl, rfl, rfl, rfl, hby, h63⟩, h⟩ := h
              simp only [fL_eq, Nat.zero_add] at h hby h63
              by_cases hm0 : nm = 0
              · subst hm0
                refine ⟨_, w, m, _, _, append_none hu hie none 0 0 (Nat.le_refl _) hu a c, Tr.refl w m, ?_, .slrNil r ver hL, h⟩
                rw [hp_set K r _ _ hn']
                refine ⟨hS.inj, hS.notI, hS.lt, hS.Ilt, hS.gl, fun q => ?_⟩
                by_cases e : q = r
                · subst e
                  simp only [upd, if_true]
                  exact .inl ⟨hL, rfl⟩
                · simp only [upd, e, if_false]; exact hS.blk q
              · have hpos : 0 < nl.length := by rw [hnl]; exact Nat.mul_pos (by omega) (by omega)
                obtain ⟨ad, rfl, _⟩ := hcells 0 nl[0] (List.getElem?_eq_getElem hpos)
                obtain ⟨v', w', hr, hown, hgrow, hnil, hat⟩ := run_append_own_at (P := P) w 0 t ty et i' z' ei.size ei.bytes hu hie hz' hsz' hby' hzs (by omega) (.slice none 0 0) 0 [] (World.ownsRow_nil w 0 et ei.size)
                  ad nm c nl hnl (fun j y hy => by obtain ⟨_, e1, e2⟩ := hcells j y hy; injection e1 with e1; rw [e1]; exact e2) hone (by simp only [maxLen]; omega) (by rw [Nat.zero_add]; exact hby) (Nat.zero_le _)
                simp only [Nat.zero_add, List.nil_append] at hown
                rcases hown.2 with ⟨_, h0⟩ | ⟨gb, cap, cur, rfl, _, hgh, hncap, hcapm, hcs, htake⟩
                · omega
                · rcases hat with hat | hat
                  · simp [Value.ownBlock] at hat
                  · simp [Value.ownBlock] at hat
                    subst hat
                    have hlt : w.heap.size < w'.heap.size := (Array.getElem?_eq_some_iff.1 hgh).1
                    have hgr : w.grownBy w' none := by simpa [Value.ownBlock] using hgrow
                    have hst : (m.L r).step (.live ver nm ei.size cap) False := by
                      rw [hL]
                      exact .inr (.inr ⟨_, _, _, _, rfl, by omega⟩)
                    have hTr := Tr.fresh hS r w.heap.size (.live ver nm ei.size cap) hst hgr (Nat.le_refl _)
                    refine ⟨_, w', _, _, _, hr, hTr, ?_, ?_, h⟩
                    · rw [hp_set K r _ _ hn']
                      refine hS.fresh _ _ _ hst hgr (Nat.le_refl _) hlt _ (.inr ⟨cap, cur, rfl, hncap, hcapm, hgh, hcs, fun q hq => ?_⟩)
                      rw [catF_ge (by omega), Nat.sub_zero]
                      refine ⟨(hg q hq).1, fun j hj => ?_⟩
                      obtain ⟨y, hy1, hy2⟩ := (hg q hq).2 j hj
                      refine ⟨y, ?_, hy2.mono hTr⟩
                      rw [← htake, List.getElem?_take] at hy1
                      split at hy1
                      · simpa using hy1
                      · simp at hy1
                    · have := V.slr (w := w') (m := m.set r w.heap.size (.live ver nm ei.size cap)) r ver 0 nm nm ei.size cap (by simp [Mp.set]) (by omega)
                      simpa [Mp.set] using this
            | _ => exact h.elim
        | slrOld r ver off n ad' c' hold =>
          exfalso
          simp only at h
          cases off with
          | succ _ => exact h.elim
          | zero =>
            simp only at h
            cases hn' : nth K r with
            | none => rw [hn'] at h; exact h.elim
            | some b =>
              rw [hn'] at h
              have hb := hS.blk r
              rw [hp_nth hn'] at hb
              cases b with
              | arr et sz' ver' n' f =>
                simp only at h
                obtain ⟨⟨rfl, rfl, _⟩, h⟩ := h
                rcases hb with ⟨hl', _⟩ | ⟨cap', c, hl', _⟩
                · rw [hl'] at hold; simp [Inf.old] at hold
                rw [hl'] at hold
                simp [Inf.old] at hold
              | _ => exact h.elim
        | _ => exact h.elim
    | _ => rw [hU] at h; exact h.elim

theorem opMaxMin_max (hS : St w m (hp K)) {x y : AV} {u v : Value} (hx : V w m x u) (hy : V w m y v) {ts : Array TypeId} {ty : TypeId} (h : opMaxMin K k true x y) : RunOk P w m (Builtin.max_ ts ty #[u, v]) k := by
  cases hx with
  | p x u hx =>
    cases hx with
    | int q a =>
      cases hy with
      | p y v hy =>
        cases hy with
        | int q' b => exact RunOk.same hS (by simp [Builtin.max_, Builtin.max2]) (kInt ..) h
        | _ => exact h.elim
      | _ => exact h.elim
    | _ => exact h.elim
  | _ => exact h.elim

theorem opMaxMin_min (hS : St w m (hp K)) {x y : AV} {u v : Value} (hx : V w m x u) (hy : V w m y v) {ts : Array TypeId} {ty : TypeId} (h : opMaxMin K k false x y) : RunOk P w m (Builtin.min_ ts ty #[u, v]) k := by
  cases hx with
  | p x u hx =>
    cases hx with
    | int q a =>
      cases hy with
      | p y v hy =>
        cases hy with
        | int q' b => exact RunOk.same hS (by simp [Builtin.min_, Builtin.min2]) (kInt ..) h
        | _ => exact h.elim
      | _ => exact h.elim
    | _ => exact h.elim
  | _ => exact h.elim

theorem opLen_ok (hT : TabOk P T) (hS : St w m (hp K)) {t : TypeId} {x : AV} {u : Value} (hx : V w m x u) {ty : TypeId} (h : opLen T K k t x) : RunOk P w m (Builtin.len_ #[t] ty #[u]) k := by
  unfold opLen at h
  cases hg : T.t.get t with
  | none => rw [hg] at h; exact h.elim
  | some ti =>
    rw [hg] at h
    simp only at h
    obtain ⟨i, d, z, hi0, hu, hsz, _, hut, _⟩ := hT.t t ti hg
    cases hU : ti.u with
    | string =>
      rw [hU] at h hut
      simp only [utOk] at hut
      subst hut
      cases hx with
      | p x u hx =>
        cases hx with
        | str s l hl =>
          subst hl
          simp only [Array.length_toList] at h
          exact RunOk.same hS (u := .int .i64 (s.data.size : Int)) (by simp only [Builtin.len_, List.getElem?_toArray, List.getElem?_cons_zero, Sem.run_bind, run_underlying hu, Result.andThen_ok, Sem.run_pure]; rfl) (kInt ..) h
        | _ => exact h.elim
      | _ => exact h.elim
    | slice e =>
      rw [hU] at h hut
      simp only [utOk] at hut
      subst hut
      have hr : ∀ (a : Option Addr) (n c : Nat), (Builtin.len_ #[t] ty #[.slice a n c]).run P w = .ok (.int .i64 (n : Int)) w := by
        intro a n c
        simp only [Builtin.len_, List.getElem?_toArray, List.getElem?_cons_zero, Sem.run_bind, run_underlying hu, Result.andThen_ok, Sem.run_pure]
        rfl
      cases hx with
      | p x u hx =>
        cases hx with
        | nils => exact RunOk.same hS (hr none 0 0) (kInt ..) h
        | sl0 => exact RunOk.same hS (hr _ _ _) (kInt ..) h
        | sl => exact RunOk.same hS (hr _ _ _) (kInt ..) h
        | _ => exact h.elim
      | slr => exact RunOk.same hS (hr _ _ _) (kInt ..) h
      | slrNil => exact RunOk.same hS (hr _ _ _) (kInt ..) h
      | slrOld => exact RunOk.same hS (hr _ _ _) (kInt ..) h
      | _ => exact h.elim
    | _ => rw [hU] at h; exact h.elim

theorem zeroV_ok {ty : Nat} {ti : TI} (hti : TIok P ty ti) {q : AV → Prop} (h : zeroV ti q) : ∃ z v, (zeroValue ty).run P w = .ok z w ∧ V w m v z ∧ q v := by
  obtain ⟨i, d, z, hi, hu, _, _, _, hz, hzo, _, ha⟩ := hti
  have hr : (zeroValue ty).run P w = .ok z w := by simp [zeroValue, typeInfo, hi, hz]
  have hV := pvs_VL hzo w m
  unfold zeroV at h
  cases hg : ti.agg with
  | true =>
    rw [hg] at h ha
    simp only [fVL_eq] at h
    cases z with
    | agg A => exact ⟨_, _, hr, .agg _ _ hV.1 hV.2, h⟩
    | _ => simp [zAgg] at ha
  | false =>
    rw [hg] at h ha
    simp only at h
    split at h
    case h_2 => exact h.elim
    rename_i x hx
    rw [fV_eq] at h
    have hc : z.cells = #[z] := by cases z <;> first | rfl | simp [zAgg] at ha
    rw [hx, hc] at hV
    exact ⟨_, _, hr, hV.2 0 (by simp [pvs]) (by simp), h⟩

theorem opAssert_ok (hT : TabOk P T) (hS : St w m (hp K)) {xt ty : Nat} {ok : Bool} {x : AV} {u : Value} (hx : V w m x u) (h : opAssert T K k ty ok x) : RunOk P w m (Instr.typeAssert u xt ty ok) k := by
  unfold opAssert at h
  cases ok with
  | false => exact h.elim
  | true =>
    simp only at h
    cases hg : T.t.get ty with
    | none => rw [hg] at h; exact h.elim
    | some ti =>
      rw [hg] at h
      simp only at h
      have hti := hT.t ty ti hg
      cases hpl : ti.u.plain with
      | false => rw [hpl] at h; exact h.elim
      | true =>
        rw [hpl] at h
        simp only at h
        have hud : ∃ d, (underlying ty).run P w = .ok d w ∧ ∀ l, d ≠ .interface l := by
          obtain ⟨i, d, z, hi, hu, _, _, hut, _⟩ := hti
          refine ⟨d, run_underlying hu w, fun l e => ?_⟩
          subst e
          cases hU : ti.u <;> rw [hU] at hut hpl <;> simp [utOk, UT.plain] at hut hpl
        obtain ⟨d, hd, hdi⟩ := hud
        have fails : ∀ (xx : Value), (xx = .nilIface ∨ ∃ t v, xx = .iface t v ∧ t ≠ ty) → zeroV ti (fun z => k (.tup [z, .p (.bool false)]) K) → RunOk P w m (Instr.typeAssert xx xt ty true) k := by
          intro xx hxx hz
          obtain ⟨z, v, hr, hv, hk⟩ := zeroV_ok (w := w) (m := m) hti hz
          refine RunOk.same hS (u := .tuple #[z, .bool false]) ?_ (.tup _ _ rfl fun j hj hj' => ?_) hk
          · rcases hxx with rfl | ⟨t, v, rfl, hne⟩
            · unfold Instr.typeAssert
              simp only [Sem.run_bind, hd, Result.andThen_ok]
              cases d <;> first | (exact absurd rfl (hdi _)) | simp [hr]
            · unfold Instr.typeAssert
              simp only [Sem.run_bind, hd, Result.andThen_ok]
              cases d <;> first | (exact absurd rfl (hdi _)) | simp [hr, hne]
          · match j, hj with
            | 0, _ => exact hv
            | 1, _ => exact .p _ _ (.bool false)
        cases hx with
        | p v u hv =>
          cases hv with
          | nili => exact fails _ (.inl rfl) h
          | _ => exact h.elim
        | iface t v u hv =>
          simp only at h
          cases hb : Nat.beq t ty with
          | false =>
            rw [hb] at h
            exact fails _ (.inr ⟨t, u, rfl, fun e => by subst e; simp at hb⟩) h
          | true =>
            rw [hb] at h
            simp only [fV_eq] at h
            have := Nat.eq_of_beq_eq_true hb
            subst this
            refine RunOk.same hS (u := .tuple #[u, .bool true]) ?_ (.tup _ _ rfl fun j hj hj' => ?_) h
            · unfold Instr.typeAssert
              simp only [Sem.run_bind, hd, Result.andThen_ok]
              cases d <;> first | (exact absurd rfl (hdi _)) | simp
            · match j, hj with
              | 0, _ => exact hv
              | 1, _ => exact .p _ _ (.bool true)
        | _ => exact h.elim
end
end Go.AE

namespace Go.AE
section
variable {P : Program} {T : Tab}

/-! ### frames -/
theorem EnvOk.ev {w : World} {m : Mp} {t : List (Nat × AV)} {a : Act} (h : EnvOk w m t a.tmps) (o : Operand) : V w m (ev t o) (a.eval o) := by
  cases o with
  | tmp i => exact h i
  | func f => exact .p _ _ (.fn f)
  | global g => exact .junk _
  | const v =>
    simp only [AE.ev, Act.eval]
    unfold ofConst
    split
    · exact .p _ _ (.int ..)
    · exact .p _ _ (.bool ..)
    · exact .p _ _ (.str _ _ rfl)
    · exact .p _ _ .nilp
    · exact .p _ _ .nils
    · exact .p _ _ .nilf
    · exact .p _ _ .nili
    · exact .p _ _ .nilm
    · exact .junk _

theorem EnvOk.mono {w w' : World} {m m' : Mp} (t : Tr w m w' m') {e : List (Nat × AV)} {tmps : Array Value} (h : EnvOk w m e tmps) : EnvOk w' m' e tmps := fun d => (h d).mono t

theorem EnvOk.evs {w : World} {m : Mp} {t : List (Nat × AV)} {a : Act} (h : EnvOk w m t a.tmps) (l : List Operand) : VL w m (evs t l) (l.map a.eval).toArray := by
  induction l with
  | nil => exact VL.nil w m
  | cons x l ih =>
    refine ⟨by have := ih.1; simp [AE.evs] at this ⊢; exact this, fun j hj hj' => ?_⟩
    cases j with
    | zero => simpa [AE.evs] using h.ev x
    | succ j =>
      have hj2 : j < (AE.evs t l).length := by simpa [AE.evs] using hj
      have := ih.2 j hj2 (by simpa using hj')
      simpa [AE.evs] using this

theorem EnvOk.parts {w : World} {m : Mp} {t : List (Nat × AV)} {a : Act} (h : EnvOk w m t a.tmps) (l : List (Nat × Operand)) : PL w m (partsOf t l) (l.map fun (i, x) => (i, a.eval x)) := by
  induction l with
  | nil => trivial
  | cons x l ih => exact ⟨rfl, h.ev x.2, ih⟩

theorem EnvOk.opt {w : World} {m : Mp} {t : List (Nat × AV)} {a : Act} (h : EnvOk w m t a.tmps) (o : Option Operand) : bndOk w m (optEv t o) (o.map a.eval) := by
  cases o with
  | none => trivial
  | some x => exact h.ev x

theorem look_cons (t : List (Nat × AV)) (d : Nat) (v : AV) (i : Nat) : look ((d, v) :: t) i = if d = i then v else look t i := by
  simp only [look]
  by_cases h : d = i
  · subst h; simp
  · rw [if_neg h]
    have : Nat.beq d i = false := by cases e : Nat.beq d i with
      | true => exact absurd (Nat.eq_of_beq_eq_true e) h
      | false => rfl
    rw [this]

theorem EnvOk.set {w : World} {m : Mp} {t : List (Nat × AV)} {tmps : Array Value} (h : EnvOk w m t tmps) {d : Nat} (hd : d < tmps.size) {v : AV} {u : Value} (hv : V w m v u) : EnvOk w m ((d, v) :: t) (tmps.setIfInBounds d u) := by
  intro i
  rw [look_cons]
  by_cases e : d = i
  · subst e
    rw [if_pos rfl]
    simpa [Array.getD, hd] using hv
  · rw [if_neg e]
    have : (tmps.setIfInBounds d u).getD i undef = tmps.getD i undef := by
      simp only [Array.getD_eq_getD_getElem?, Array.getElem?_setIfInBounds]
      rw [if_neg e]
    rw [this]
    exact h i

theorem EnvOk.put {w : World} {m : Mp} {t : List (Nat × AV)} {a : Act} (h : EnvOk w m t a.tmps) {d : Option Nat} (hd : ∀ x, d = some x → x < a.tmps.size) {v : AV} {u : Value} (hv : V w m v u) : EnvOk w m (put t d v) (a.put d u).tmps := by
  cases d with
  | none => exact h
  | some d => exact h.set (hd d rfl) hv

theorem EnvOk.know {w : World} {m : Mp} {t : List (Nat × AV)} {tmps : Array Value} (h : EnvOk w m t tmps) {d : Nat} {b : Bool} (hd : look t d = .p (.bool b)) : EnvOk w m (know t d b) tmps := by
  intro i
  simp only [AE.know]
  rw [look_cons]
  by_cases e : d = i
  · subst e
    rw [if_pos rfl]
    have := h d
    rwa [hd] at this
  · rw [if_neg e]; exact h i

theorem EnvOk.bool {w : World} {m : Mp} {t : List (Nat × AV)} {tmps : Array Value} (h : EnvOk w m t tmps) {d : Nat} {b : Bool} (hd : look t d = .p (.bool b)) : tmps[d]? = some (.bool b) := by
  have hv := h d
  rw [hd] at hv
  have e : tmps.getD d undef = .bool b := by
    cases hv with
    | p v u hv =>
      generalize tmps.getD d undef = x at hv
      cases hv
      rfl
  rw [Array.getD_eq_getD_getElem?] at e
  cases hx : tmps[d]? with
  | none => rw [hx] at e; simp [undef] at e
  | some y => rw [hx] at e; simp at e; rw [e]

/-! ### calls -/
def Post (we : World) (me : Mp) (k : AO → List ABlk → Prop) : Ending → World → Prop
  | .returned u, w' => ∃ m' a K', Tr we me w' m' ∧ St w' m' (hp K') ∧ V w' m' a u ∧ k (.ret a) K'
  | .panicked ch, w' => ∃ m' a u K', ch = [{ v := u, recovered := false }] ∧ Tr we me w' m' ∧ St w' m' (hp K') ∧ V w' m' a u ∧ k (.pan a) K'
  | .outgrown, _ => False

/-- a function that can be entered -/
def Ent (P : Program) (f : FuncId) : Prop := ∃ fn, P.funcs[f]? = some fn ∧ (fn.name == "runtime.NumGoroutine") = false ∧ fn.body.isSome = true

/-- the abstract contract of a call -/
def ACalls (P : Program) (f : FuncId) (args : List AV) (K : List ABlk) (k : AO → List ABlk → Prop) : Prop :=
  Ent P f ∧ ∀ w m Args, St w m (hp K) → VL w m args Args → Calls P f Args w (Post w m k)

/-- a fence that lets everything in, about a frame of whatever make -/
def FW (ro : Option Nat) : Fence := { Fence.wide with round := ro }
theorem FW.calls {ro : Option Nat} {n : Nat} {f : FuncId} {args : Array Value} {w : World} {R : Ending → World → Prop} (h : Calls P f args w R) : CallsIn (FW ro) n P f args w R :=
  (callsIn_wide (n := n)).2 h
theorem FW.depth {ro : Option Nat} {n : Nat} : (FW ro).depth.isSome = true → 1 ≤ n := fun h => by simp [FW, Fence.wide] at h

/-- the abstract contract of a round -/
def ARound (P : Program) (r : Nat) (args : List AV) (K : List ABlk) (k : AO → List ABlk → Prop) : Prop :=
  ∀ w m Args u, St w m (hp K) → VL w m args Args → V w m (.yld r) u → ∃ l f tmps assign body, u = .func (.yield l) #[] #[] ∧
    (Instr.yield l Args).run P w = .ok (.round l f tmps assign body) w ∧ ∀ n, RoundIn (FW none) n P l f tmps assign body w (Post w m k)

def CallOk (P : Program) (call : ACall) : Prop := ∀ f args K k, call f args K k →
  (Nat.blt f 1000000000 = true → ACalls P f args K k) ∧ (Nat.blt f 1000000000 = false → ARound P (Nat.sub f 1000000000) args K k)

theorem callF_ok {call : ACall} (hcall : CallOk P call) {f : FuncId} {args : List AV} {K : List ABlk} {k : AO → List ABlk → Prop} (h : callF call f args K k) : ACalls P f args K k := by
  unfold callF at h
  split at h
  · rename_i hb; exact (hcall _ _ _ _ h).1 hb
  · exact h.elim

theorem callFunc_run {f : FuncId} (h : Ent P f) (args : Array Value) (w : World) : (callFunc f args).run P w = .ok (.enter f args) w := by
  obtain ⟨fn, h1, h2, h3⟩ := h
  have h4 : fn.body.isNone = false := by cases hb : fn.body <;> simp_all
  simp only [callFunc, Sem.run_bind, run_program, Result.andThen_ok, h1, h2, h4, Bool.false_eq_true, if_false, Sem.run_pure]

/-! ### one operation -/
theorem exec_val {s : Sem Value} {w w' : World} {u : Value} (h : s.run P w = .ok u w') : (do pure (Next.value (← s)) : Sem Next).run P w = .ok (.value u) w' := by
  simp [h]

variable {call : ACall} {w : World} {m : Mp} {K : List ABlk} {k kp : AV → List ABlk → Prop} {next : Act → World → Prop} {Q : Exit → Act → World → Prop} {a : Act} {t : List (Nat × AV)} {ro : Option Nat} {nn : Nat}

theorem upon_val {o : Oper} {s : Sem Value} (hk : ∀ w' m' v K' u, Tr w m w' m' → St w' m' (hp K') → V w' m' v u → k v K' → next (a.put o.dst u) w') (h : RunOk P w m s k) :
    o.uponIn (FW ro) nn P a next Q ((do pure (Next.value (← s)) : Sem Next).run P w) := by
  obtain ⟨u, w', m', v, K', hr, h1, h2, h3, h4⟩ := h
  rw [exec_val hr]
  exact hk w' m' v K' u h1 h2 h3 h4

theorem aop_ok (hT : TabOk P T) (hcall : CallOk P call) {o : Oper} (hS : St w m (hp K)) (hE : EnvOk w m t a.tmps)
    (hk : ∀ w' m' v K' u, Tr w m w' m' → St w' m' (hp K') → V w' m' v u → k v K' → next (a.put o.dst u) w')
    (hpn : ∀ w' m' v K' u, Tr w m w' m' → St w' m' (hp K') → V w' m' v u → kp v K' → Q (.panic [{ v := u, recovered := false }]) a w')
    (h : aop T call o t K k kp) : o.uponIn (FW ro) nn P a next Q ((execOp a.eval o).run P w) := by
  unfold aop at h
  unfold execOp
  cases hop : o.op with
  | move x =>
    rw [hop] at h
    simp only [fV_eq] at h
    exact hk w m _ K _ (Tr.refl w m) hS (hE.ev x) h
  | assign x =>
    rw [hop] at h
    simp only [fV_eq] at h
    exact hk w m _ K _ (Tr.refl w m) hS (hE.ev x) h
  | pick c x y =>
    rw [hop] at h
    simp only at h
    have hc := hE.ev c
    split at h
    case h_2 => exact h.elim
    rename_i q hq
    rw [hq] at hc
    cases hc with
    | p v u hv =>
      cases hvv : a.eval c with
      | bool b =>
        rw [hvv] at hv
        cases hv
        simp only [asBool, hvv]
        cases q with
        | true => simp only [two, fV_eq] at h; exact hk w m _ K _ (Tr.refl w m) hS (hE.ev x) h
        | false => simp only [two, fV_eq] at h; exact hk w m _ K _ (Tr.refl w m) hS (hE.ev y) h
      | _ => rw [hvv] at hv; cases hv
  | alloc e => rw [hop] at h; exact upon_val hk (opAlloc_ok hT hS h)
  | box e x => rw [hop] at h; exact upon_val hk (opBox_ok hS (hE.ev x) h)
  | build ty ps => rw [hop] at h; exact upon_val hk (opBuild_ok hT hS (by simpa using hE.parts ps.toList) h)
  | buildSlice ty n ps => rw [hop] at h; exact upon_val hk (opBuildSlice_ok hT hS (by simpa using hE.parts ps.toList) h)
  | load ty x => rw [hop] at h; exact upon_val hk (opLoad_ok hT hS (hE.ev x) h)
  | store ty x y =>
    rw [hop] at h
    obtain ⟨w', m', K', hr, h1, h2, h3⟩ := opStore_ok hT hS (hE.ev x) (hE.ev y) h
    have : (do Instr.storeAt ty (a.eval x) (a.eval y); pure Next.skip : Sem Next).run P w = .ok .skip w' := by simp [hr]
    simp only [this]
    exact hk w' m' .junk K' undef h1 h2 (.junk _) h3
  | nilCheck x =>
    rw [hop] at h
    simp only at h
    have hx := hE.ev x
    simp only
    generalize ev t x = ax at h hx
    generalize a.eval x = ux at hx
    cases hx with
    | p v u hv =>
      cases hv with
      | fn f => exact hk w m _ K _ (Tr.refl w m) hS (.p _ _ (.fn f)) h
      | _ => exact h.elim
    | ptr r ver n i off sz cap hL hi => exact hk w m _ K _ (Tr.refl w m) hS (.ptr r ver n i off sz cap hL hi) h
    | ptrOld r ver n i off b o' hold => exact hk w m _ K _ (Tr.refl w m) hS (.ptrOld r ver n i off b o' hold) h
    | rop cs off b o' u hI hc hv => exact hk w m _ K _ (Tr.refl w m) hS (.rop cs off b o' u hI hc hv) h
    | fn f first cap A B hA hB h1 h2 => exact hk w m _ K _ (Tr.refl w m) hS (.fn f first cap A B hA hB h1 h2) h
    | iface ty v u hv => exact hk w m _ K _ (Tr.refl w m) hS (.iface ty v u hv) h
    | _ => exact h.elim
  | binOp op ty x y yt =>
    rw [hop] at h
    simp only at h
    cases hc : nilC y with
    | none => rw [hc] at h; exact upon_val hk (opBin_ok hT hS (hE.ev x) (hE.ev y) x y h)
    | some c =>
      rw [hc] at h
      have hy : ∃ v, y = .const v := by
        rcases nilC_val hc with ⟨rfl, _⟩ | ⟨rfl, _⟩ | ⟨rfl, _⟩ <;> exact ⟨_, rfl⟩
      obtain ⟨v, rfl⟩ := hy
      exact upon_val hk (opNilCmp_ok hT hS (hE.ev x) x (.const v) hc rfl h)
  | unOp op ty x => rw [hop] at h; exact upon_val hk (opUn_ok hS (hE.ev x) h)
  | convert s d x => rw [hop] at h; exact upon_val hk (opConv_ok hT hS (hE.ev x) h)
  | makeInterface ty x => rw [hop] at h; exact upon_val hk (opIface_ok hT hS (hE.ev x) h)
  | makeFunc fn x y =>
    rw [hop] at h
    cases fn with
    | func f =>
      simp only [fVL_eq] at h
      have h1 := hE.evs x.toList
      have h2 := hE.evs y.toList
      have e1 : (x.toList.map a.eval).toArray = x.map a.eval := by apply Array.ext'; simp
      have e2 : (y.toList.map a.eval).toArray = y.map a.eval := by apply Array.ext'; simp
      rw [e1] at h1
      rw [e2] at h2
      exact hk w m _ K _ (Tr.refl w m) hS (.fn f _ _ _ _ h1.1 h2.1 h1.2 h2.2) h
    | _ => exact h.elim
  | makeSlice ty l c => rw [hop] at h; exact upon_val hk (opMakeSlice_ok hT hS (hE.ev l) (hE.ev c) h)
  | slice ty x lo hi mx =>
    rw [hop] at h
    cases mx with
    | none => exact upon_val hk (opSlice_ok hT hS (hE.ev x) (hE.opt lo) (hE.opt hi) h)
    | some _ => exact h.elim
  | fieldAddr ty x i => rw [hop] at h; exact upon_val hk (opFieldAddr_ok hT hS (hE.ev x) h)
  | field ty x i => rw [hop] at h; exact upon_val hk (opField_ok hT hS (hE.ev x) h)
  | indexAddr ty x i => rw [hop] at h; exact upon_val hk (opIndexAddr_ok hT hS (hE.ev x) (hE.ev i) h)
  | index ty x i => rw [hop] at h; exact upon_val hk (opIndex_ok hT hS (hE.ev x) (hE.ev i) h)
  | extract x i => rw [hop] at h; exact upon_val hk (opExtract_ok hS (hE.ev x) h)
  | typeAssert x xt ty ok => rw [hop] at h; exact upon_val hk (opAssert_ok hT hS (hE.ev x) h)
  | panic x =>
    rw [hop] at h
    simp only at h
    have hx := hE.ev x
    split at h
    case h_2 => exact h.elim
    rename_i ty v hq
    rw [hq] at hx
    generalize hux : a.eval x = ux at hx
    cases hx with
    | iface ty v u hv =>
      have : (do pure (Next.value (← Instr.panic (a.eval x))) : Sem Next).run P w = .halt (.panic (.iface ty u)) w := by simp [Instr.panic, hux]
      simp only [this]
      exact hpn w m _ K _ (Tr.refl w m) hS (.iface ty v u hv) h
  | call c =>
    rw [hop] at h
    simp only at h ⊢
    cases hc : c.callee with
    | invoke r n => rw [hc] at h; exact h.elim
    | builtin b =>
      rw [hc] at h
      simp only at h
      have hres : (resolve a.eval c o.type).run P w = .ok { target := .builtin b c.argTypes o.type (c.args.map fun | .const _ => true | _ => false), args := c.args.map a.eval } w := by
        simp only [resolve, hc]; rfl
      cases b with
      | len =>
        simp only at h
        split at h
        case h_2 => exact h.elim
        rename_i x hx
        split at h
        case h_2 => exact h.elim
        rename_i ty hty
        have hargs : c.args = #[x] := by apply Array.ext'; simpa using hx
        have htys : c.argTypes = #[ty] := by apply Array.ext'; simpa using hty
        have hr := opLen_ok (ty := o.type) hT hS (hE.ev x) h
        have e : (do let d ← resolve a.eval c o.type; invoke d.target d.args : Sem Next).run P w = (do pure (Next.value (← Builtin.len_ #[ty] o.type #[a.eval x])) : Sem Next).run P w := by
          rw [Sem.run_bind, hres]
          simp [invoke, builtin, hargs, htys]
        rw [e]
        exact upon_val hk hr
      | append =>
        simp only at h
        split at h
        case h_2 => exact h.elim
        rename_i s x hx
        split at h
        case h_2 => exact h.elim
        rename_i ty ty' hty
        split at h
        case h_2 => exact h.elim
        rename_i hb
        have := Nat.eq_of_beq_eq_true hb
        subst this
        have hargs : c.args = #[s, x] := by apply Array.ext'; simpa using hx
        have htys : c.argTypes = #[ty, ty] := by apply Array.ext'; simpa using hty
        have hr := opAppend_ok (ty := o.type) hT hS (hE.ev s) (hE.ev x) h
        have e : (do let d ← resolve a.eval c o.type; invoke d.target d.args : Sem Next).run P w = (do pure (Next.value (← Builtin.append_ #[ty, ty] o.type #[a.eval s, a.eval x])) : Sem Next).run P w := by
          rw [Sem.run_bind, hres]
          simp [invoke, builtin, hargs, htys]
        rw [e]
        exact upon_val hk hr
      | max =>
        simp only at h
        split at h
        case h_2 => exact h.elim
        rename_i s x hx
        have hargs : c.args = #[s, x] := by apply Array.ext'; simpa using hx
        have hr := opMaxMin_max (P := P) (ts := c.argTypes) (ty := o.type) hS (hE.ev s) (hE.ev x) h
        have e : (do let d ← resolve a.eval c o.type; invoke d.target d.args : Sem Next).run P w = (do pure (Next.value (← Builtin.max_ c.argTypes o.type #[a.eval s, a.eval x])) : Sem Next).run P w := by
          rw [Sem.run_bind, hres]
          simp [invoke, builtin, hargs]
        rw [e]
        exact upon_val hk hr
      | min =>
        simp only at h
        split at h
        case h_2 => exact h.elim
        rename_i s x hx
        have hargs : c.args = #[s, x] := by apply Array.ext'; simpa using hx
        have hr := opMaxMin_min (P := P) (ts := c.argTypes) (ty := o.type) hS (hE.ev s) (hE.ev x) h
        have e : (do let d ← resolve a.eval c o.type; invoke d.target d.args : Sem Next).run P w = (do pure (Next.value (← Builtin.min_ c.argTypes o.type #[a.eval s, a.eval x])) : Sem Next).run P w := by
          rw [Sem.run_bind, hres]
          simp [invoke, builtin, hargs]
        rw [e]
        exact upon_val hk hr
      | _ => exact h.elim
    | value f =>
      rw [hc] at h
      simp only [fVL_eq] at h
      have hf := hE.ev f
      have hargs := hE.evs c.args.toList
      have e1 : (c.args.toList.map a.eval).toArray = c.args.map a.eval := by apply Array.ext'; simp
      rw [e1] at hargs
      have key : ∀ g (args : List AV) (Args : Array Value), VL w m args Args → (callF call g args K fun out K' => match out with
          | .ret v => fV v fun v => k v K'
          | .pan v => kp v K') → o.uponIn (FW ro) nn P a next Q (.ok (.enter g Args) w) := by
        intro g args Args hA hcl
        obtain ⟨_, hcalls⟩ := callF_ok hcall hcl
        rw [Oper.uponIn_enter]
        refine ⟨FW.depth, FW.calls ((hcalls w m Args hS hA).mono fun e w' hR => ?_)⟩
        cases e with
        | returned v =>
          obtain ⟨m', av, K', h1, h2, h3, h4⟩ := hR
          simp only [fV_eq] at h4
          exact hk w' m' av K' v h1 h2 h3 h4
        | panicked ch =>
          obtain ⟨m', av, u, K', rfl, h1, h2, h3, h4⟩ := hR
          exact hpn w' m' av K' u h1 h2 h3 h4
        | outgrown => exact hR.elim
      have entr : ∀ g (args : List AV), (callF call g args K fun out K' => match out with
          | .ret v => fV v fun v => k v K'
          | .pan v => kp v K') → Ent P g := fun g args hcl => (callF_ok hcall hcl).1
      generalize haf : a.eval f = uf at hf
      generalize ev t f = af at h hf
      have yl : ∀ r, V w m (.yld r) uf → (call (Nat.add 1000000000 r) (evs t c.args.toList) K fun out K' => match out with
          | .ret v => fV v fun v => k v K'
          | .pan v => kp v K') → o.uponIn (FW ro) nn P a next Q ((do let d ← resolve a.eval c o.type; invoke d.target d.args : Sem Next).run P w) := by
        intro r hv hcl
        have hnb : Nat.blt (Nat.add 1000000000 r) 1000000000 = false := by
          cases hb : Nat.blt (Nat.add 1000000000 r) 1000000000 with
          | true => have := Nat.le_of_ble_eq_true hb; simp only [Nat.add_eq, Nat.succ_eq_add_one] at this; omega
          | false => rfl
        have har := (hcall _ _ _ _ hcl).2 hnb
        have hsub : Nat.sub (Nat.add 1000000000 r) 1000000000 = r := by simp
        rw [hsub] at har
        obtain ⟨l, f', tmps, assign, body, hu, hy, hro⟩ := har w m _ uf hS hargs hv
        subst hu
        have e : (do let d ← resolve a.eval c o.type; invoke d.target d.args : Sem Next).run P w = .ok (.round l f' tmps assign body) w := by
          simp [resolve, hc, haf, Deferred.ofValue, invoke, hy]
        rw [e, Oper.uponIn_round]
        refine ⟨FW.depth, RoundIn.mono (hro (nn - 1)) fun e w' hR => ?_⟩
        cases e with
        | returned v =>
          obtain ⟨m', av, K', h1, h2, h3, h4⟩ := hR
          simp only [fV_eq] at h4
          exact hk w' m' av K' v h1 h2 h3 h4
        | panicked ch =>
          obtain ⟨m', av, u, K', rfl, h1, h2, h3, h4⟩ := hR
          exact hpn w' m' av K' u h1 h2 h3 h4
        | outgrown => exact hR.elim
      cases hf with
      | p v u hv =>
        cases hv with
        | fn g =>
          simp only [aCallV] at h
          have e : (do let d ← resolve a.eval c o.type; invoke d.target d.args : Sem Next).run P w = .ok (.enter g (c.args.map a.eval)) w := by
            simp [resolve, hc, haf, Deferred.ofValue, invoke, callFunc_run (entr _ _ h)]
          rw [e]
          exact key g _ _ hargs h
        | _ => exact h.elim
      | fn g first cap A B hA hB h1 h2 =>
        simp only [aCallV, fVL_eq, catL_eq] at h
        have e : (do let d ← resolve a.eval c o.type; invoke d.target d.args : Sem Next).run P w = .ok (.enter g (A ++ c.args.map a.eval ++ B)) w := by
          simp [resolve, hc, haf, Deferred.ofValue, invoke, callFunc_run (entr _ _ h)]
        rw [e]
        exact key g _ _ ((VL.append ⟨hA, h1⟩ hargs).append ⟨hB, h2⟩) h
      | yld r sz cap hL => exact yl r (.yld r sz cap hL) h
      | yldOld r b hL => exact yl r (.yldOld r b hL) h
      | _ => exact h.elim
  | _ => rw [hop] at h; exact h.elim

/-! ### regions -/
variable {we : World} {me : Mp} {N kb : Nat} {D0 : List Deferred} {bm : Bool}

/-- the calls that a frame has put off: those that it began with, and marks of loops over functions, with nothing behind them -/
inductive Mk (bm : Bool) (we : World) (D0 : List Deferred) (w : World) (m : Mp) : List Deferred → Prop where
  | base : Mk bm we D0 w m D0
  | mark (hb : bm = true) (D : Nat) (ds : List Deferred) (h1 : we.heap.size ≤ D) (h2 : w.heap[D]? = some (.deferred (some []))) (h3 : ¬ m.I D) (h4 : ∀ r, (m.L r).isLive → m.ρ r ≠ D)
      (h5 : ∀ d ∈ ds, d.target ≠ .collected D) (h : Mk bm we D0 w m ds) : Mk bm we D0 w m ({ target := .collected D, args := #[] } :: ds)

theorem Mk.mono {w w' : World} {m m' : Mp} (t : Tr w m w' m') {ds : List Deferred} (h : Mk bm we D0 w m ds) : Mk bm we D0 w' m' ds := by
  induction h with
  | base => exact .base
  | mark hb D ds h1 h2 h3 h4 h5 _ ih =>
    have hlt : D < w.heap.size := (Array.getElem?_eq_some_iff.1 h2).1
    refine .mark hb D ds h1 ((t.out D hlt h4).trans h2) (fun hI => ?_) (fun r hr e => ?_) h5 ih
    · rcases t.newI D hI with h | ⟨r, hr, e⟩ | h
      · exact h3 h
      · exact h4 r hr e
      · omega
    · rcases t.newρ r hr with ⟨hr', e'⟩ | h
      · exact h4 r hr' (e' ▸ e)
      · omega

theorem Mk.sub {w : World} {m m' : Mp} (t : m.Sub m') {ds : List Deferred} (h : Mk bm we D0 w m ds) : Mk bm we D0 w m' ds := by
  induction h with
  | base => exact .base
  | mark hb D ds h1 h2 h3 h4 h5 _ ih =>
    refine .mark hb D ds h1 h2 (fun hI => ?_) (fun r hr e => ?_) h5 ih
    · rcases t.1 D hI with h | ⟨r, hr, e⟩
      · exact h3 h
      · exact h4 r hr e
    · exact h4 r (t.2 r hr).1 ((t.2 r hr).2 ▸ e)

/-- what stands behind a piece of code -/
def Rel (bm : Bool) (N : Nat) (we : World) (me : Mp) (D0 : List Deferred) (Q : Ex → AS → Prop) : Exit → Act → World → Prop
  | .normal, a, w => a.tmps.size = N ∧ ∃ m s, Mk bm we D0 w m a.defers ∧ Tr we me w m ∧ St w m (hp s.K) ∧ EnvOk w m s.t a.tmps ∧ Q .norm s
  | .exit n, a, w => a.tmps.size = N ∧ ∃ m s, Mk bm we D0 w m a.defers ∧ Tr we me w m ∧ St w m (hp s.K) ∧ EnvOk w m s.t a.tmps ∧ Q (.exit n) s
  | .ret, a, w => a.tmps.size = N ∧ ∃ m s, Mk bm we D0 w m a.defers ∧ Tr we me w m ∧ St w m (hp s.K) ∧ EnvOk w m s.t a.tmps ∧ Q .ret s
  | .panic ch, a, w => a.tmps.size = N ∧ ∃ m s v u, Mk bm we D0 w m a.defers ∧ ch = [{ v := u, recovered := false }] ∧ Tr we me w m ∧ St w m (hp s.K) ∧ EnvOk w m s.t a.tmps ∧ V w m v u ∧ Q (.pan v) s
  | .goto _, _, _ => False
  | .outgrown, _, _ => False

theorem Rel.mono {Q Q' : Ex → AS → Prop} (h : ∀ e s, Q e s → Q' e s) : ∀ e a w, Rel bm N we me D0 Q e a w → Rel bm N we me D0 Q' e a w
  | .normal, _, _, ⟨h1, m, s, h2, a, b, c, d⟩ => ⟨h1, m, s, h2, a, b, c, h _ _ d⟩
  | .exit _, _, _, ⟨h1, m, s, h2, a, b, c, d⟩ => ⟨h1, m, s, h2, a, b, c, h _ _ d⟩
  | .ret, _, _, ⟨h1, m, s, h2, a, b, c, d⟩ => ⟨h1, m, s, h2, a, b, c, h _ _ d⟩
  | .panic _, _, _, ⟨h1, m, s, v, u, h2, a, b, c, d, f, e⟩ => ⟨h1, m, s, v, u, h2, a, b, c, d, f, h _ _ e⟩
  | .goto _, _, _, h => h
  | .outgrown, _, _, h => h

theorem put_size (a : Act) (d : Option Nat) (u : Value) : (a.put d u).tmps.size = a.tmps.size := by
  cases d <;> simp [Act.put]
theorem put_defers (a : Act) (d : Option Nat) (u : Value) : (a.put d u).defers = a.defers := by
  cases d <;> rfl

theorem aop_semAt {o : Oper} {h' : List (Nat × AV)} (h : aop T call o h' K k kp) : Oper.semAt ro a.eval o = execOp a.eval o :=
  Oper.semAt_eq ro a.eval o fun c hc => by unfold aop at h; rw [hc] at h; exact h

theorem aops_ok (hT : TabOk P T) (hcall : CallOk P call) {ops : Array Oper} {Q : Ex → AS → Prop} (l : List Oper) : ∀ (t : List (Nat × AV)) (K : List ABlk), aops T call N ops.toList l t K Q →
    ∀ (w : World) (m : Mp) (a : Act), Tr we me w m → St w m (hp K) → EnvOk w m t a.tmps → a.tmps.size = N → Mk bm we D0 w m a.defers → wpListIn (FW ro) nn P ops (Rel bm N we me D0 Q) l a w := by
  induction l with
  | nil => intro t K h w m a hTr hS hE hN hd; exact ⟨hN, m, ⟨t, K⟩, hd, hTr, hS, hE, h⟩
  | cons o rest ih =>
    intro t K h w m a hTr hS hE hN hd
    rw [aops_cons] at h
    have hbd : (∀ x, o.dst = some x → x < a.tmps.size) ∧ want ops.toList t o.guard
        (fun t => aop T call o t K (fun v K' => aops T call N ops.toList rest (put t o.dst v) K' Q) (fun v K' => Q (.pan v) ⟨t, K'⟩))
        (fun t => aops T call N ops.toList rest (put t o.dst .junk) K Q) := by
      unfold bound at h
      cases hd' : o.dst with
      | none => rw [hd'] at h; exact ⟨fun x hx => by simp at hx, h⟩
      | some d =>
        rw [hd'] at h
        simp only at h
        cases hb : Nat.blt d N with
        | false => rw [hb] at h; exact h.elim
        | true =>
          rw [hb] at h
          refine ⟨fun x hx => ?_, h⟩
          injection hx with hx
          subst hx
          rw [hN]
          exact Nat.le_of_ble_eq_true hb
    obtain ⟨hb, h⟩ := hbd
    have yes : ∀ t, EnvOk w m t a.tmps → aop T call o t K (fun v K' => aops T call N ops.toList rest (put t o.dst v) K' Q) (fun v K' => Q (.pan v) ⟨t, K'⟩) → Region.wanted o (yielded ops a.tmps) = true →
        wpListIn (FW ro) nn P ops (Rel bm N we me D0 Q) (o :: rest) a w := by
      intro t hE h hw
      unfold wpListIn
      rw [if_pos hw]
      refine ⟨fun _ _ => trivial, ?_⟩
      rw [aop_semAt h]
      refine aop_ok hT hcall hS hE (fun w' m' v K' u h1 h2 h3 h4 => ?_) (fun w' m' v K' u h1 h2 h3 h4 => ?_) h
      · exact ih _ _ h4 w' m' _ (hTr.trans h1) h2 ((hE.mono h1).put hb h3) (by rw [put_size]; exact hN) (by rw [put_defers]; exact hd.mono h1)
      · exact ⟨hN, m', ⟨t, K'⟩, v, u, hd.mono h1, rfl, hTr.trans h1, h2, hE.mono h1, h3, h4⟩
    have no : ∀ t, EnvOk w m t a.tmps → aops T call N ops.toList rest (put t o.dst .junk) K Q → Region.wanted o (yielded ops a.tmps) = false → wpListIn (FW ro) nn P ops (Rel bm N we me D0 Q) (o :: rest) a w := by
      intro t hE h hw
      unfold wpListIn
      rw [if_neg (by simp [hw])]
      exact ⟨fun _ _ => trivial, ih _ _ h w m _ hTr hS (hE.put hb (.junk _)) (by rw [put_size]; exact hN) (by rw [put_defers]; exact hd)⟩
    unfold want at h
    cases hg : o.guard with
    | none =>
      rw [hg] at h
      exact yes t hE h (by simp [Region.wanted, hg])
    | some g =>
      obtain ⟨j, wn⟩ := g
      rw [hg] at h
      simp only at h
      cases hj : nth ops.toList j with
      | none => rw [hj] at h; exact h.elim
      | some oj =>
        rw [hj] at h
        simp only at h
        cases hdj : oj.dst with
        | none => rw [hdj] at h; exact h.elim
        | some d =>
          rw [hdj] at h
          simp only at h
          split at h
          case h_2 => exact h.elim
          rename_i b hb'
          have hy : yielded ops a.tmps j = some b := by
            have h1 : ops[j]? = some oj := by rw [nth_eq] at hj; simpa using hj
            simp only [yielded, h1, Option.bind_some, hdj, hE.bool hb']
          have hE' := hE.know hb'
          have hw : Region.wanted o (yielded ops a.tmps) = (b == wn) := by
            simp only [Region.wanted, hg, hy]
            cases b <;> cases wn <;> rfl
          cases wn with
          | true =>
            cases b with
            | true => exact yes _ hE' h (by rw [hw]; rfl)
            | false => exact no _ hE' h (by rw [hw]; rfl)
          | false =>
            cases b with
            | true => exact no _ hE' h (by rw [hw]; rfl)
            | false => exact yes _ hE' h (by rw [hw]; rfl)

end
end Go.AE

namespace Go.AE

/-! ### what the model may draw -/
inductive Sch (ops : Array Oper) : (Nat → Prop) → List Nat → Prop where
  | nil (E : Nat → Prop) (h : ∀ i, i < ops.size → E i) : Sch ops E []
  | cons (E : Nat → Prop) (i : Nat) (o : Oper) (rest : List Nat) (hi : ops[i]? = some o) (hn : ¬ E i) (he : ∀ e ∈ edges o, E e) (h : Sch ops (fun j => E j ∨ j = i) rest) : Sch ops E (i :: rest)

theorem countP_lt (p : Nat → Bool) (i : Nat) (l : List Nat) (hi : i ∈ l) (hp : p i = true) : l.countP (fun x => p x && !(x == i)) < l.countP p := by
  have hle : ∀ l : List Nat, l.countP (fun x => p x && !(x == i)) ≤ l.countP p := fun l =>
    List.countP_mono_left fun x _ hx => by simp only [Bool.and_eq_true] at hx; exact hx.1
  induction l with
  | nil => simp at hi
  | cons a l ih =>
    simp only [List.countP_cons]
    by_cases e : a = i
    · subst e
      have := hle l
      simp [hp]; omega
    · have hi' : i ∈ l := by
        cases List.mem_cons.1 hi with
        | inl h => exact absurd h.symm e
        | inr h => exact h
      have := ih hi'
      have e2 : (a == i) = false := by simpa using e
      simp only [e2, Bool.not_false, Bool.and_true]
      omega

theorem go_sch (ops : Array Oper) (hlt : ∀ (i : Nat) (o : Oper), ops[i]? = some o → ∀ e ∈ edges o, e < i) : ∀ (fuel t : Nat) (listed : Array Bool) (acc : List Nat), listed.size = ops.size →
    ((List.range ops.size).countP fun i => !listed.getD i true) ≤ fuel →
    ∃ s, Region.linearise.go .any ops fuel t listed acc = acc.reverse ++ s ∧ Sch ops (fun i => listed.getD i false = true) s := by
  intro fuel
  induction fuel with
  | zero =>
    intro t listed acc hs hc
    refine ⟨[], by simp [Region.linearise.go], .nil _ fun i hi => ?_⟩
    have h0 : (List.range ops.size).countP (fun i => !listed.getD i true) = 0 := by omega
    rw [List.countP_eq_zero] at h0
    have := h0 i (List.mem_range.2 hi)
    have hil : i < listed.size := by rw [hs]; exact hi
    simp [hil] at this ⊢
    exact this
  | succ fuel ih =>
    intro t listed acc hs hc
    simp only [Region.linearise.go]
    generalize hrs : (List.range ops.size).filter (fun i => !listed.getD i true && ((ops[i]?).map (fun o => o.after.all fun e => !Region.binds .any e || listed.getD e.on false)).getD false) = rs
    cases hr : rs[t % rs.length]? with
    | some i =>
      have hm : i ∈ rs := List.mem_of_getElem? hr
      rw [← hrs, List.mem_filter, List.mem_range] at hm
      obtain ⟨hi, hcnd⟩ := hm
      simp only [Bool.and_eq_true, Bool.not_eq_true'] at hcnd
      obtain ⟨hl, he⟩ := hcnd
      have hil : i < listed.size := by rw [hs]; exact hi
      obtain ⟨o, ho⟩ : ∃ o, ops[i]? = some o := ⟨ops[i], by simp [hi]⟩
      simp only [ho, Option.map_some, Option.getD_some] at he
      have hset : ∀ j, (listed.setIfInBounds i true).getD j true = (listed.getD j true || j == i) := by
        intro j
        simp only [Array.getD_eq_getD_getElem?, Array.getElem?_setIfInBounds]
        by_cases e : i = j
        · subst e; simp [hil]
        · have : (j == i) = false := by simpa using fun h : j = i => e h.symm
          simp [e, this]
      have hsetf : ∀ j, (listed.setIfInBounds i true).getD j false = true ↔ (listed.getD j false = true ∨ j = i) := by
        intro j
        simp only [Array.getD_eq_getD_getElem?, Array.getElem?_setIfInBounds]
        by_cases e : i = j
        · subst e; simp [hil]
        · have : ¬ j = i := fun h => e h.symm
          simp [e, this]
      obtain ⟨s, h1, h2⟩ := ih (t / rs.length) (listed.setIfInBounds i true) (i :: acc) (by simp [hs]) (by
        have := countP_lt (fun j => !listed.getD j true) i (List.range ops.size) (List.mem_range.2 hi) (by simp [hl])
        have e : (fun j => !(listed.setIfInBounds i true).getD j true) = (fun x => (!listed.getD x true) && !(x == i)) := by
          funext j; rw [hset]; simp
        rw [e]; omega)
      refine ⟨i :: s, by show Region.linearise.go .any ops fuel (t / rs.length) (listed.setIfInBounds i true) (i :: acc) = _; rw [h1]; simp, .cons _ i o s ho ?_ ?_ ?_⟩
      · simp [hil] at hl ⊢; exact hl
      · intro e hee
        simp only [edges, List.mem_map, List.mem_filter] at hee
        obtain ⟨ed, ⟨hed, hb⟩, rfl⟩ := hee
        rw [Array.all_eq_true'] at he
        have := he ed (by simpa using hed)
        simpa [hb] using this
      · have : (fun j => (listed.setIfInBounds i true).getD j false = true) = (fun j => listed.getD j false = true ∨ j = i) := by
          funext j; exact propext (hsetf j)
        rw [this] at h2
        exact h2
    | none =>
      refine ⟨[], by simp, .nil _ ?_⟩
      have hnil : rs = [] := by
        cases rs with
        | nil => rfl
        | cons a r => simp [Nat.mod_lt] at hr
      rw [← hrs, List.filter_eq_nil_iff] at hnil
      intro i
      induction i using Nat.strongRecOn with
      | _ i ih2 =>
        intro hi
        have h := hnil i (List.mem_range.2 hi)
        have hil : i < listed.size := by rw [hs]; exact hi
        obtain ⟨o, ho⟩ : ∃ o, ops[i]? = some o := ⟨ops[i], by simp [hi]⟩
        cases hli : listed[i] with
        | true => simp [hil, hli]
        | false =>
          exfalso
          apply h
          simp only [ho, Option.map_some, Option.getD_some, Bool.and_eq_true]
          refine ⟨by simp [hil, hli], ?_⟩
          rw [Array.all_eq_true']
          intro e he
          by_cases hb : Region.binds .any e
          · have hel : e.on < i := hlt i o ho e.on (by simp only [edges, List.mem_map, List.mem_filter]; exact ⟨e, ⟨by simpa using he, hb⟩, rfl⟩)
            have := ih2 e.on hel (by omega)
            simp [this]
          · simp [hb]

theorem schedule_sch (ops : Array Oper) (hlt : ∀ (i : Nat) (o : Oper), ops[i]? = some o → ∀ e ∈ edges o, e < i) (t : Nat) : Sch ops (fun _ => False) (Region.schedule true ops t) := by
  obtain ⟨s, h1, h2⟩ := go_sch ops hlt ops.size t (Array.replicate ops.size false) [] (by simp) (by
    refine Nat.le_trans (List.countP_le_length) (by simp))
  have e : Region.schedule true ops t = s := by
    unfold Region.schedule
    simp only [Bool.true_or, if_true, Region.linearise]
    rw [h1]; simp
  rw [e]
  have : (fun i => (Array.replicate ops.size false).getD i false = true) = (fun _ => False) := by
    funext i
    simp [Array.getD_eq_getD_getElem?, Array.getElem?_replicate]
    split <;> simp
  rw [this] at h2
  exact h2

/-! ### the checks -/
theorem mem_iff (l : List Nat) (n : Nat) : mem l n = true ↔ n ∈ l := by
  induction l with
  | nil => simp [mem]
  | cons a l ih =>
    simp only [mem]
    cases h : Nat.beq a n with
    | true => have := Nat.eq_of_beq_eq_true h; subst this; simp
    | false =>
      have hne : ¬ n = a := fun e => by subst e; simp at h
      simp [ih, hne]
theorem subset_iff (l k : List Nat) : subset l k = true ↔ ∀ i ∈ l, i ∈ k := by
  induction l with
  | nil => simp [subset]
  | cons a l ih => simp [subset, ih, mem_iff]

theorem addAll_mem (acc : List (List Nat)) (l : List Nat) (j : Nat) (h : j ∈ addAll acc l) : ∃ e ∈ l, j = e ∨ j ∈ ancOf acc e := by
  induction l with
  | nil => simp [addAll] at h
  | cons e l ih =>
    simp only [addAll, List.mem_cons, List.mem_append] at h
    rcases h with (h | h) | h
    · exact ⟨e, by simp, .inl h⟩
    · exact ⟨e, by simp, .inr h⟩
    · obtain ⟨e', h1, h2⟩ := ih h
      exact ⟨e', by simp [h1], h2⟩

theorem ancs_get (l : List Oper) : ∀ (acc : List (List Nat)), (∀ i, i < acc.length → (ancs l acc)[i]? = acc[i]?) ∧
    ∀ i o, l[i]? = some o → ∃ p, (ancs l acc)[acc.length + i]? = some (addAll p (edges o)) ∧ ∀ e, e < acc.length + i → p[e]? = (ancs l acc)[e]? := by
  induction l with
  | nil => intro acc; exact ⟨fun i hi => rfl, fun i o h => by simp at h⟩
  | cons a l ih =>
    intro acc
    simp only [ancs, snoc_eq]
    obtain ⟨h1, h2⟩ := ih (acc ++ [addAll acc (edges a)])
    refine ⟨fun i hi => ?_, fun i o h => ?_⟩
    · rw [h1 i (by simp; omega), List.getElem?_append_left hi]
    · cases i with
      | zero =>
        simp at h
        subst h
        refine ⟨acc, ?_, fun e he => ?_⟩
        · rw [h1 _ (by simp)]; simp
        · rw [h1 e (by simp; omega), List.getElem?_append_left (by omega)]
      | succ i =>
        obtain ⟨p, h3, h4⟩ := h2 i o (by simpa using h)
        refine ⟨p, ?_, fun e he => h4 e (by simp; omega)⟩
        rw [← h3]; congr 1; simp; omega

/-- what the check of a drawn region gives -/
structure DrawOk (L : List Oper) (ac : List (List Nat)) : Prop where
  edge : ∀ (i : Nat) (o : Oper), L[i]? = some o → ∀ e ∈ edges o, e < i
  slot : ∀ (i : Nat) (o : Oper) (j : Nat) (o' : Oper) (d : Nat), L[i]? = some o → L[j]? = some o' → o.dst = some d → i ≠ j → o'.dst ≠ some d ∧ (d ∈ slotsG L o' → i ∈ ancOf ac j ∨ j ∈ ancOf ac i)
  ancE : ∀ (i : Nat) (o : Oper) (j : Nat), L[i]? = some o → j ∈ ancOf ac i → ∃ e ∈ edges o, j = e ∨ j ∈ ancOf ac e

theorem avail_iff {L : List Oper} {ac : List (List Nat)} {done : List Nat} {b : Bool} {i : Nat} : avail L ac done b i = true ↔ i ∉ done ∧ (∀ j ∈ ancOf ac i, j ∈ done) ∧ (Nat.beq (kindAt L i) 2) = b := by
  unfold avail
  simp only [Bool.and_eq_true, Bool.not_eq_true', beq_iff_eq, subset_iff]
  constructor
  · rintro ⟨⟨h1, h2⟩, h3⟩
    exact ⟨fun hm => by rw [(mem_iff _ _).2 hm] at h1; simp at h1, h2, h3⟩
  · rintro ⟨h1, h2, h3⟩
    exact ⟨⟨by cases h : mem done i with
      | true => exact absurd ((mem_iff _ _).1 h) h1
      | false => rfl, h2⟩, h3⟩
theorem pickQ_some {L : List Oper} {ac : List (List Nat)} {done l : List Nat} {i : Nat} (h : pickQ L ac done l = some i) : i ∈ l ∧ avail L ac done false i = true := by
  induction l with
  | nil => simp [pickQ] at h
  | cons a l ih =>
    simp only [pickQ] at h
    cases ha : avail L ac done false a with
    | true => rw [ha] at h; simp only [Option.some.injEq] at h; subst h; exact ⟨by simp, ha⟩
    | false => rw [ha] at h; obtain ⟨h1, h2⟩ := ih h; exact ⟨by simp [h1], h2⟩
theorem pickQ_none {L : List Oper} {ac : List (List Nat)} {done l : List Nat} (h : pickQ L ac done l = none) : ∀ i ∈ l, avail L ac done false i = false := by
  induction l with
  | nil => simp
  | cons a l ih =>
    simp only [pickQ] at h
    cases ha : avail L ac done false a with
    | true => rw [ha] at h; simp at h
    | false =>
      rw [ha] at h
      intro i hi
      cases List.mem_cons.1 hi with
      | inl e => exact e ▸ ha
      | inr e => exact ih h i e
theorem loudN_mem {L : List Oper} {ac : List (List Nat)} {done l : List Nat} {i : Nat} : i ∈ loudN L ac done l ↔ i ∈ l ∧ avail L ac done true i = true := by
  induction l with
  | nil => simp [loudN]
  | cons a l ih =>
    simp only [loudN]
    cases ha : avail L ac done true a with
    | true =>
      simp only [List.mem_cons, ih]
      constructor
      · rintro (rfl | ⟨h1, h2⟩)
        · exact ⟨.inl rfl, ha⟩
        · exact ⟨.inr h1, h2⟩
      · rintro ⟨rfl | h1, h2⟩
        · exact .inl rfl
        · exact .inr ⟨h1, h2⟩
    | false =>
      simp only [List.mem_cons, ih]
      constructor
      · rintro ⟨h1, h2⟩; exact ⟨.inr h1, h2⟩
      · rintro ⟨rfl | h1, h2⟩
        · rw [ha] at h2; simp at h2
        · exact ⟨h1, h2⟩

theorem enum_mem (L : List Oper) : ∀ s i o, (i, o) ∈ enum s L ↔ ∃ k, L[k]? = some o ∧ i = s + k := by
  induction L with
  | nil => intro s i o; simp [enum]
  | cons a L ih =>
    intro s i o
    simp only [enum, List.mem_cons, Prod.mk.injEq, ih]
    constructor
    · rintro (⟨rfl, rfl⟩ | ⟨k, h1, rfl⟩)
      · exact ⟨0, by simp, by simp⟩
      · exact ⟨k + 1, by simpa using h1, by omega⟩
    · rintro ⟨k, h1, rfl⟩
      cases k with
      | zero => simp at h1; exact .inl ⟨rfl, h1.symm⟩
      | succ k => exact .inr ⟨k, by simpa using h1, by omega⟩

theorem upto_mem (n i : Nat) : i ∈ upto n ↔ i < n := by
  induction n with
  | zero => simp [upto]
  | succ n ih => simp only [upto, snoc_eq, List.mem_append, ih, List.mem_singleton]; omega

theorem drawB_ok {L : List Oper} (h : drawB L = true) : DrawOk L (ancs L []) := by
  unfold drawB at h
  simp only [Bool.and_eq_true] at h
  obtain ⟨h1, h6⟩ := h
  rw [List.all_eq_true] at h1
  have hge : ∀ (i : Nat) (o : Oper), L[i]? = some o → ∀ e ∈ edges o, e < i := fun i o ho => by
    have := h1 (i, o) ((enum_mem L 0 i o).2 ⟨i, ho, by simp⟩)
    simp only [List.all_eq_true] at this
    exact fun e he => Nat.le_of_ble_eq_true (this e he)
  refine ⟨fun i o ho => hge i o ho, fun i o j o' d hi hj hd hne => ?_, fun i o j hi hj => ?_⟩
  · simp only [slotOk, List.all_eq_true] at h6
    have := h6 (i, o) ((enum_mem L 0 i o).2 ⟨i, hi, by simp⟩)
    simp only [hd] at this
    rw [List.all_eq_true] at this
    have := this (j, o') ((enum_mem L 0 j o').2 ⟨j, hj, by simp⟩)
    have hb : Nat.beq i j = false := by cases e : Nat.beq i j with
      | true => exact absurd (Nat.eq_of_beq_eq_true e) hne
      | false => rfl
    simp only [hb, Bool.false_or, Bool.and_eq_true, Bool.or_eq_true, Bool.not_eq_true'] at this
    refine ⟨fun e => by rw [e] at this; simp at this, fun hm => ?_⟩
    rcases this.2 with (h | h) | h
    · rw [(mem_iff _ _).2 hm] at h; simp at h
    · exact .inl ((mem_iff _ _).1 h)
    · exact .inr ((mem_iff _ _).1 h)
  · obtain ⟨p, h3', h4'⟩ := (ancs_get L []).2 i o hi
    simp only [List.length_nil, Nat.zero_add] at h3' h4'
    simp only [ancOf, nth_eq, h3'] at hj
    obtain ⟨e, he, hj⟩ := addAll_mem _ _ _ hj
    refine ⟨e, he, ?_⟩
    rcases hj with hj | hj
    · exact .inl hj
    · refine .inr ?_
      have hei := hge i o hi e he
      simp only [ancOf, nth_eq] at hj ⊢
      rw [h4' e hei] at hj
      exact hj

/-! ### operands alone count -/
theorem ev_congr {t t' : List (Nat × AV)} {x : Operand} (h : ∀ d, x = .tmp d → look t d = look t' d) : ev t x = ev t' x := by
  cases x with
  | tmp d => exact h d rfl
  | _ => rfl

theorem evs_congr {t t' : List (Nat × AV)} {l : List Operand} (h : ∀ d, .tmp d ∈ l → look t d = look t' d) : evs t l = evs t' l := by
  induction l with
  | nil => rfl
  | cons x l ih =>
    simp only [evs]
    rw [ev_congr (fun d e => h d (by simp [e])), ih (fun d hd => h d (by simp [hd]))]

theorem parts_congr {t t' : List (Nat × AV)} {l : List (Nat × Operand)} (h : ∀ d, .tmp d ∈ l.map (·.2) → look t d = look t' d) : partsOf t l = partsOf t' l := by
  induction l with
  | nil => rfl
  | cons x l ih =>
    obtain ⟨i, x⟩ := x
    simp only [partsOf]
    rw [ev_congr (fun d e => h d (by simp [e])), ih (fun d hd => h d (by simp at hd ⊢; exact .inr hd))]

theorem opt_congr {t t' : List (Nat × AV)} {o : Option Operand} (h : ∀ d, o = some (.tmp d) → look t d = look t' d) : optEv t o = optEv t' o := by
  cases o with
  | none => rfl
  | some x => simp only [optEv]; rw [ev_congr (fun d e => h d (by rw [e]))]

theorem slots_mem (l : List Operand) (d : Nat) : d ∈ slots l ↔ .tmp d ∈ l := by
  induction l with
  | nil => simp [slots]
  | cons x l ih => cases x <;> simp [slots, ih]

theorem aop_congr {T : Tab} {call : ACall} {o : Oper} {t t' : List (Nat × AV)} {K : List ABlk} {k kp : AV → List ABlk → Prop} (h : ∀ d, d ∈ slots o.op.operands.toList → look t d = look t' d) :
    aop T call o t K k kp = aop T call o t' K k kp := by
  have hm : ∀ d, Operand.tmp d ∈ o.op.operands.toList → look t d = look t' d := fun d hd => h d ((slots_mem _ _).2 hd)
  clear h
  unfold aop
  cases hop : o.op <;> rw [hop] at hm <;> simp only [Op.operands] at hm <;> try simp only
  case call c =>
    simp only [Call.operands] at hm
    cases hc : c.callee with
    | value f =>
      rw [hc] at hm
      simp only at hm ⊢
      rw [ev_congr (x := f) (fun d e => hm d (by simp [e])), evs_congr (l := c.args.toList) (fun d hd => hm d (by simp; exact .inr (by simpa using hd)))]
    | builtin b =>
      rw [hc] at hm
      simp only at hm ⊢
      have ha : ∀ x, x ∈ c.args.toList → ev t x = ev t' x := fun x hx => ev_congr fun d e => hm d (by subst e; simpa using hx)
      cases b <;> try rfl
      all_goals
        (simp only
         split <;> first | rfl | (rename_i heq; rw [heq] at ha; simp at ha; simp only [ha]))
    | invoke r n => rfl
  case panic x => rw [ev_congr (x := x) (fun d e => hm d (by simp [e]))]
  case typeAssert x xt ty ok => rw [ev_congr (x := x) (fun d e => hm d (by simp [e]))]
  case build ty ps => rw [parts_congr (fun d hd => hm d (by simpa using hd))]
  case buildSlice ty n ps => rw [parts_congr (fun d hd => hm d (by simpa using hd))]
  case makeFunc fn x y =>
    cases fn <;> try rfl
    simp only
    rw [evs_congr (l := x.toList) (fun d hd => hm d (by simp; exact .inl (by simpa using hd))), evs_congr (l := y.toList) (fun d hd => hm d (by simp; exact .inr (by simpa using hd)))]
  case slice ty x lo hi mx =>
    cases mx with
    | some _ => rfl
    | none =>
      simp only
      rw [ev_congr (x := x) (fun d e => hm d (by simp [e])), opt_congr (o := lo) (fun d e => hm d (by simp [e])), opt_congr (o := hi) (fun d e => hm d (by simp [e]))]
  case pick c x y => rw [ev_congr (x := c) (fun d e => hm d (by simp [e])), ev_congr (x := x) (fun d e => hm d (by simp [e])), ev_congr (x := y) (fun d e => hm d (by simp [e]))]
  case store ty x y => rw [ev_congr (x := x) (fun d e => hm d (by simp [e])), ev_congr (x := y) (fun d e => hm d (by simp [e]))]
  case makeSlice ty x y => rw [ev_congr (x := x) (fun d e => hm d (by simp [e])), ev_congr (x := y) (fun d e => hm d (by simp [e]))]
  case fieldAddr ty x i => rw [ev_congr (x := x) (fun d e => hm d (by simp [e]))]
  case field ty x i => rw [ev_congr (x := x) (fun d e => hm d (by simp [e]))]
  case indexAddr ty x y => rw [ev_congr (x := x) (fun d e => hm d (by simp [e])), ev_congr (x := y) (fun d e => hm d (by simp [e]))]
  case index ty x y => rw [ev_congr (x := x) (fun d e => hm d (by simp [e])), ev_congr (x := y) (fun d e => hm d (by simp [e]))]
  case extract x i => rw [ev_congr (x := x) (fun d e => hm d (by simp [e]))]
  case binOp op ty x y yt => rw [ev_congr (x := x) (fun d e => hm d (by simp [e])), ev_congr (x := y) (fun d e => hm d (by simp [e]))]
  case load ty x => rw [ev_congr (x := x) (fun d e => hm d (by simp [e]))]
  case box e x => rw [ev_congr (x := x) (fun d e => hm d (by simp [e]))]
  case nilCheck x => rw [ev_congr (x := x) (fun d e => hm d (by simp [e]))]
  case unOp op ty x => rw [ev_congr (x := x) (fun d e => hm d (by simp [e]))]
  case convert s d x => rw [ev_congr (x := x) (fun d e => hm d (by simp [e]))]
  case makeInterface ty x => rw [ev_congr (x := x) (fun d e => hm d (by simp [e]))]
  case move x => rw [ev_congr (x := x) (fun d e => hm d (by simp [e]))]
  case assign x => rw [ev_congr (x := x) (fun d e => hm d (by simp [e]))]
  all_goals rfl

/-! ### quiet operations -/
/-- the same value, the same heap -/
def Same (v : AV) (K : List ABlk) (v' : AV) (K' : List ABlk) : Prop := v' = v ∧ K' = K
theorem Same.refl (v : AV) (K : List ABlk) : Same v K v K := ⟨rfl, rfl⟩

def Pure (F : List ABlk → (AV → List ABlk → Prop) → Prop) : Prop := ∀ K k, F K k → ∃ v, k v K ∧ ∀ K2, F K2 (Same v K2)
def Read (F : List ABlk → (AV → List ABlk → Prop) → Prop) : Prop := ∀ K k, F K k → ∃ v, k v K ∧ F K (Same v K)

theorem Pure.read {F : List ABlk → (AV → List ABlk → Prop) → Prop} (h : Pure F) : Read F := fun K k hF => let ⟨v, h1, h2⟩ := h K k hF; ⟨v, h1, h2 K⟩

section
variable {T : Tab}
theorem pure_v (v : AV) : Pure fun K k => fV v fun v => k v K := fun K k h => by
  simp only [fV_eq] at h ⊢; exact ⟨_, h, fun K2 => Same.refl _ _⟩
theorem pure_c (v : AV) : Pure fun K k => k v K := fun K k h => ⟨_, h, fun K2 => Same.refl _ _⟩
theorem pure_f : Pure fun _ _ => False := fun K k h => h.elim
theorem pure_chk {c : Prop} {F : List ABlk → (AV → List ABlk → Prop) → Prop} (h : Pure F) : Pure fun K k => Chk c (F K k) := fun K k hc =>
  let ⟨v, h1, h2⟩ := h K k hc.k; ⟨v, h1, fun K2 => ⟨hc.h, h2 K2⟩⟩
theorem pure_two (b : Bool) {F G : List ABlk → (AV → List ABlk → Prop) → Prop} (h : Pure F) (h' : Pure G) : Pure fun K k => two b (F K k) (G K k) := by
  cases b
  · exact h'
  · exact h
theorem pure_vl (l : List AV) (f : List AV → AV) : Pure fun K k => fVL l fun l => k (f l) K := fun K k h => by
  simp only [fVL_eq] at h ⊢; exact ⟨_, h, fun K2 => Same.refl _ _⟩
theorem pure_part (ti : TI) (cs : List AV) (off : Nat) : Pure fun K k => part ti cs off fun v => k v K := by
  unfold part
  cases ti.agg
  · simp only
    cases nth cs off with
    | none => exact pure_f
    | some v => exact pure_v v
  · simp only
    cases Nat.ble (off + ti.size) (len cs)
    · exact pure_f
    · exact pure_vl _ AV.agg

theorem read_load (ty : Nat) (a : AV) : Read fun K k => opLoad T K k ty a := by
  intro K k h
  unfold opLoad at h ⊢
  cases hg : T.t.get ty with
  | none => rw [hg] at h; exact h.elim
  | some ti =>
    rw [hg] at h
    simp only at h ⊢
    cases a with
    | rop cs off => exact (pure_part ti (pvs cs) off).read K k h
    | ptr r ver n i off =>
      simp only at h ⊢
      cases hn : nth K r with
      | none => rw [hn] at h; exact h.elim
      | some b =>
        rw [hn] at h
        cases b with
        | box bt cs =>
          simp only at h ⊢
          split at h
          · exact (pure_part ti cs off).read K k h
          · exact h.elim
        | arr et sz ver' n' f => exact (pure_chk (pure_part ti (f i) off)).read K k h
        | _ => exact h.elim
    | _ => exact h.elim

theorem pure_build (ty : Nat) (ps : List (Nat × AV)) : Pure fun K k => opBuild T K k ty ps := by
  unfold opBuild
  cases T.t.get ty with
  | none => exact pure_f
  | some ti =>
    simp only
    cases ti.u with
    | struct fs =>
      simp only
      cases fillS T.t fs (pvs ti.zero) ps with
      | none => exact pure_f
      | some cs => exact pure_vl _ AV.agg
    | _ => exact pure_f

theorem pure_nil (a : AV) : Pure fun K k => opNilCheck K k a := by
  unfold opNilCheck
  cases a with
  | p v => cases v <;> first | exact pure_f | exact pure_c _
  | _ => first | exact pure_f | exact pure_c _

theorem pure_int (op : BinOp) (q : IntKind) (a b : Int) : Pure fun K k => opInt K k op q a b := by
  unfold opInt
  cases op <;> first | exact pure_f | exact pure_c _ | exact pure_chk (pure_c _)
theorem pure_str (op : BinOp) (a b : List UInt8) : Pure fun K k => opStr K k op a b := by
  unfold opStr
  cases op <;> first | exact pure_f | exact pure_c _ | exact pure_chk (pure_c _)

theorem pure_bin (op : BinOp) (ty : Nat) (x y : AV) : Pure fun K k => opBin T K k op ty x y := by
  unfold opBin
  cases x with
  | p x =>
    cases x with
    | int q a =>
      cases y with
      | p y =>
        cases y with
        | int q' b =>
          simp only
          cases decide (q = q') with
          | true => exact pure_int op q a b
          | false => exact pure_f
        | _ => exact pure_f
      | _ => exact pure_f
    | str a =>
      cases y with
      | p y => cases y <;> first | exact pure_str op a _ | exact pure_f
      | _ => exact pure_f
    | bool a =>
      cases y with
      | p y =>
        cases y with
        | bool b =>
          simp only
          cases T.t.get ty with
          | none => exact pure_f
          | some ti =>
            simp only
            cases ti.u with
            | bool => cases op <;> first | exact pure_f | exact pure_c _
            | _ => exact pure_f
        | _ => exact pure_f
      | _ => exact pure_f
    | _ => exact pure_f
  | _ => exact pure_f

theorem pure_nilcmp (op : BinOp) (ty : Nat) (x : AV) (c : PV) : Pure fun K k => opNilCmp T K k op ty x c := by
  unfold opNilCmp
  split
  · exact pure_f
  · split
    · exact pure_f
    · split
      · exact pure_c _
      · exact pure_c _
      · exact pure_f
theorem pure_un (op : UnOp) (x : AV) : Pure fun K k => opUn K k op x := by
  unfold opUn
  cases op with
  | not =>
    cases x with
    | p x => cases x <;> first | exact pure_c _ | exact pure_f
    | _ => exact pure_f
  | neg =>
    cases x with
    | p x => cases x <;> first | exact pure_c _ | exact pure_f
    | _ => exact pure_f
  | _ => exact pure_f

theorem pure_conv (s d : Nat) (x : AV) : Pure fun K k => opConv T K k s d x := by
  unfold opConv
  cases T.t.get s with
  | none => exact pure_f
  | some si =>
    simp only
    cases T.t.get d with
    | none => exact pure_f
    | some di =>
      simp only
      cases di.u with
      | int q =>
        cases x with
        | p x => cases x <;> first | exact pure_c _ | exact pure_f
        | _ => exact pure_f
      | string =>
        cases x with
        | p x => cases x <;> first | exact pure_c _ | exact pure_f
        | _ => exact pure_f
      | slice e =>
        simp only
        cases T.t.get e with
        | none => exact pure_f
        | some ei =>
          simp only
          split
          · cases x with
            | p x => cases x <;> first | exact pure_chk (pure_c _) | exact pure_f
            | _ => exact pure_f
          · exact pure_f
      | _ => exact pure_f

theorem pure_iface (ty : Nat) (x : AV) : Pure fun K k => opIface T K k ty x := by
  unfold opIface
  cases T.t.get ty with
  | none => exact pure_f
  | some ti => simp only; cases ti.u <;> first | exact pure_f | exact pure_c _

theorem pure_fieldAddr (ty : Nat) (x : AV) (i : Nat) : Pure fun K k => opFieldAddr T K k ty x i := by
  unfold opFieldAddr
  cases T.t.get ty with
  | none => exact pure_f
  | some ti =>
    simp only
    cases ti.u with
    | struct fs =>
      simp only
      cases nth fs i with
      | none => exact pure_f
      | some o =>
        simp only
        cases T.t.get o.2 with
        | none => exact pure_f
        | some fi =>
          simp only
          cases Nat.beq fi.size 0
          · cases x <;> first | exact pure_f | exact pure_c _
          · exact pure_f
    | _ => exact pure_f

theorem pure_field (ty : Nat) (x : AV) (i : Nat) : Pure fun K k => opField T K k ty x i := by
  unfold opField
  cases T.t.get ty with
  | none => exact pure_f
  | some ti =>
    simp only
    cases ti.u with
    | struct fs =>
      simp only
      cases nth fs i with
      | none => exact pure_f
      | some o =>
        simp only
        cases T.t.get o.2 with
        | none => exact pure_f
        | some fi => cases x <;> first | exact pure_f | exact pure_part _ _ _
    | _ => exact pure_f

theorem pure_index (ty : Nat) (x i : AV) : Pure fun K k => opIndex T K k ty x i := by
  unfold opIndex
  cases T.t.get ty with
  | none => exact pure_f
  | some ti =>
    simp only
    cases i with
    | p i =>
      cases i with
      | int q i =>
        simp only
        cases ti.u with
        | string =>
          cases x with
          | p x => cases x <;> first | exact pure_f | exact pure_chk (pure_c _)
          | _ => exact pure_f
        | _ => exact pure_f
      | _ => exact pure_f
    | _ => exact pure_f

theorem pure_extract (x : AV) (i : Nat) : Pure fun K k => opExtract K k x i := by
  unfold opExtract
  cases x with
  | tup vs =>
    simp only
    cases nth vs i with
    | none => exact pure_f
    | some v => exact pure_v v
  | _ => exact pure_f

theorem pure_len (ty : Nat) (x : AV) : Pure fun K k => opLen T K k ty x := by
  unfold opLen
  cases T.t.get ty with
  | none => exact pure_f
  | some ti =>
    simp only
    cases ti.u with
    | string =>
      cases x with
      | p x => cases x <;> first | exact pure_f | exact pure_c _
      | _ => exact pure_f
    | slice e =>
      cases x with
      | p x => cases x <;> first | exact pure_f | exact pure_c _
      | slr r ver off n => exact pure_c _
      | _ => exact pure_f
    | _ => exact pure_f

theorem pure_maxmin (b : Bool) (x y : AV) : Pure fun K k => opMaxMin K k b x y := by
  unfold opMaxMin
  cases x with
  | p x =>
    cases x with
    | int q a =>
      cases y with
      | p y => cases y <;> first | exact pure_f | (cases b <;> exact pure_c _)
      | _ => exact pure_f
    | _ => exact pure_f
  | _ => exact pure_f

theorem read_slice (ty : Nat) (x : AV) (lo hi : Option AV) : Read fun K k => opSlice T K k ty x lo hi := by
  intro K k h
  unfold opSlice at h ⊢
  cases hg : T.t.get ty with
  | none => rw [hg] at h; exact h.elim
  | some ti =>
    rw [hg] at h
    simp only at h ⊢
    cases hU : ti.u with
    | string =>
      rw [hU] at h
      cases x with
      | p x =>
        cases x with
        | str s =>
          simp only at h ⊢
          cases hl : bnd 0 lo with
          | none => rw [hl] at h; exact h.elim
          | some l =>
            rw [hl] at h
            simp only at h ⊢
            cases hh : bnd s.length hi with
            | none => rw [hh] at h; exact h.elim
            | some hb =>
              rw [hh] at h
              exact (pure_chk (pure_c _)).read K k h
        | _ => exact h.elim
      | _ => exact h.elim
    | slice e =>
      rw [hU] at h
      simp only at h ⊢
      cases hge : T.t.get e with
      | none => rw [hge] at h; exact h.elim
      | some ei =>
        rw [hge] at h
        cases x with
        | p x =>
          cases x with
          | sl sz n f =>
            simp only at h ⊢
            cases hl : bnd 0 lo with
            | none => rw [hl] at h; exact h.elim
            | some l =>
              rw [hl] at h
              simp only at h ⊢
              cases hh : bnd n hi with
              | none => rw [hh] at h; exact h.elim
              | some hb =>
                rw [hh] at h
                exact (pure_chk (pure_c _)).read K k h
          | _ => exact h.elim
        | slr r ver off n =>
          simp only at h ⊢
          cases hi with
          | some _ => exact h.elim
          | none =>
            simp only at h ⊢
            cases hl : bnd 0 lo with
            | none => rw [hl] at h; exact h.elim
            | some l =>
              rw [hl] at h
              simp only at h ⊢
              cases hn : nth K r with
              | none => rw [hn] at h; exact h.elim
              | some b =>
                rw [hn] at h
                cases b with
                | arr et sz ver' n' f => exact (pure_chk (pure_two _ (pure_c _) (pure_c _))).read K k h
                | _ => exact h.elim
        | _ => exact h.elim
    | _ => rw [hU] at h; exact h.elim

theorem read_indexAddr (ty : Nat) (x i : AV) : Read fun K k => opIndexAddr T K k ty x i := by
  intro K k h
  unfold opIndexAddr at h ⊢
  cases hg : T.t.get ty with
  | none => rw [hg] at h; exact h.elim
  | some ti =>
    rw [hg] at h
    simp only at h ⊢
    cases hU : ti.u with
    | slice e =>
      rw [hU] at h
      simp only at h ⊢
      cases hge : T.t.get e with
      | none => rw [hge] at h; exact h.elim
      | some ei =>
        rw [hge] at h
        cases i with
        | p i =>
          cases i with
          | int q i =>
            simp only at h ⊢
            cases x with
            | p x =>
              cases x with
              | sl sz n f =>
                simp only [fL_eq] at h ⊢
                exact (pure_chk (pure_c _)).read K k h
              | _ => exact h.elim
            | slr r ver off n =>
              simp only at h ⊢
              cases hn : nth K r with
              | none => rw [hn] at h; exact h.elim
              | some b =>
                rw [hn] at h
                cases b with
                | arr et sz ver' n' f => exact (pure_chk (pure_c _)).read K k h
                | _ => exact h.elim
            | _ => exact h.elim
          | _ => exact h.elim
        | _ => exact h.elim
    | _ => rw [hU] at h; exact h.elim

theorem aop_pure {call : ACall} {o : Oper} (hk : kind o.op = 0) (t : List (Nat × AV)) (kp : AV → List ABlk → Prop) : Pure fun K k => aop T call o t K k kp := by
  unfold aop
  cases hop : o.op <;> rw [hop] at hk <;> simp only [kind] at hk <;> (try (simp at hk; done))
  case move x => exact pure_v _
  case assign x => exact pure_v _
  case pick c x y =>
    simp only
    cases ev t c with
    | p v => cases v <;> first | exact pure_f | exact pure_two _ (pure_v _) (pure_v _)
    | _ => exact pure_f
  case build ty ps => exact pure_build _ _
  case nilCheck x => exact pure_nil _
  case binOp op ty x y yt =>
    simp only
    split
    · exact pure_nilcmp _ _ _ _
    · exact pure_bin _ _ _ _
  case unOp op ty x => exact pure_un _ _
  case convert s d x => exact pure_conv _ _ _
  case makeInterface ty x => exact pure_iface _ _
  case makeFunc fn x y =>
    cases fn with
    | func f =>
      intro K k h
      simp only [fVL_eq] at h ⊢
      exact ⟨_, h, fun K2 => Same.refl _ _⟩
    | _ => exact pure_f
  case fieldAddr ty x i => exact pure_fieldAddr _ _ _
  case field ty x i => exact pure_field _ _ _
  case index ty x i => exact pure_index _ _ _
  case extract x i => exact pure_extract _ _
  case call c =>
    simp only
    cases hc : c.callee with
    | builtin b =>
      rw [hc] at hk
      cases b <;> simp only at hk <;> (try (simp at hk; done))
      case len =>
        simp only
        split
        · split
          · exact pure_len _ _
          · exact pure_f
        · exact pure_f
      case max =>
        simp only
        split
        · exact pure_maxmin _ _ _
        · exact pure_f
      case min =>
        simp only
        split
        · exact pure_maxmin _ _ _
        · exact pure_f
    | _ => rw [hc] at hk; simp at hk

theorem aop_read {call : ACall} {o : Oper} (hk : kind o.op = 1) (t : List (Nat × AV)) (kp : AV → List ABlk → Prop) : Read fun K k => aop T call o t K k kp := by
  unfold aop
  cases hop : o.op <;> rw [hop] at hk <;> simp only [kind] at hk <;> (try (simp at hk; done))
  case load ty x => exact read_load _ _
  case indexAddr ty x i => exact read_indexAddr _ _ _
  case slice ty x lo hi mx =>
    cases mx with
    | none => exact read_slice _ _ _ _
    | some _ => exact pure_f.read
  case call c =>
    cases hc : c.callee with
    | builtin b => rw [hc] at hk; cases b <;> simp at hk
    | _ => rw [hc] at hk; simp at hk
end

/-! ### operations under a guard -/
theorem aopG_pure {T : Tab} {call : ACall} {ops : List Oper} {o : Oper} (hk : kind o.op = 0) (t : List (Nat × AV)) (kp : AV → List ABlk → Prop) : Pure fun K k => aopG T call ops o t K k kp := by
  unfold aopG
  split
  · exact aop_pure hk t kp
  · split
    · exact pure_f
    · split
      · exact pure_f
      · split
        · split
          · exact aop_pure hk t kp
          · exact aop_pure hk t kp
          · exact pure_c .junk
        · exact pure_f
theorem aopG_read {T : Tab} {call : ACall} {ops : List Oper} {o : Oper} (hk : kind o.op = 1) (t : List (Nat × AV)) (kp : AV → List ABlk → Prop) : Read fun K k => aopG T call ops o t K k kp := by
  unfold aopG
  split
  · exact aop_read hk t kp
  · split
    · exact pure_f.read
    · split
      · exact pure_f.read
      · split
        · split
          · exact aop_read hk t kp
          · exact aop_read hk t kp
          · exact (pure_c .junk).read
        · exact pure_f.read
theorem aopG_congr {T : Tab} {call : ACall} {ops : List Oper} {o : Oper} {t t' : List (Nat × AV)} {K : List ABlk} {k kp : AV → List ABlk → Prop} (h : ∀ d, d ∈ slotsG ops o → look t d = look t' d) :
    aopG T call ops o t K k kp = aopG T call ops o t' K k kp := by
  have h1 : aop T call o t K k kp = aop T call o t' K k kp := aop_congr fun d hd => h d (List.mem_append_left _ hd)
  have h2 : ∀ d, d ∈ gslot ops o → look t d = look t' d := fun d hd => h d (List.mem_append_right _ hd)
  unfold aopG
  cases hg : o.guard with
  | none => exact h1
  | some g =>
    obtain ⟨j, w⟩ := g
    simp only
    cases hj : nth ops j with
    | none => rfl
    | some oj =>
      simp only
      cases hd : oj.dst with
      | none => rfl
      | some d =>
        simp only
        rw [h2 d (by simp [gslot, hg, hj, hd])]
        simp only [h1]
theorem aopG_cases {T : Tab} {call : ACall} {ops : Array Oper} {o : Oper} {t : List (Nat × AV)} {K : List ABlk} {k kp : AV → List ABlk → Prop} {w : World} {m : Mp} {tmps : Array Value} (hE : ∀ d, d ∈ slotsG ops.toList o → V w m (look t d) (tmps.getD d undef))
    (h : aopG T call ops.toList o t K k kp) : (Region.wanted o (yielded ops tmps) = true ∧ aop T call o t K k kp) ∨ (Region.wanted o (yielded ops tmps) = false ∧ k .junk K) := by
  unfold aopG at h
  cases hg : o.guard with
  | none => rw [hg] at h; exact .inl ⟨by simp [Region.wanted, hg], h⟩
  | some g =>
    obtain ⟨j, wn⟩ := g
    rw [hg] at h
    simp only at h
    cases hj : nth ops.toList j with
    | none => rw [hj] at h; exact h.elim
    | some oj =>
      rw [hj] at h
      simp only at h
      cases hdj : oj.dst with
      | none => rw [hdj] at h; exact h.elim
      | some d =>
        rw [hdj] at h
        simp only at h
        have hEd := hE d (by simp [slotsG, gslot, hg, hj, hdj])
        cases hb' : look t d with
        | p v =>
          cases v with
          | bool b =>
            rw [hb'] at h hEd
            have hu : tmps.getD d undef = .bool b := by
              generalize tmps.getD d undef = u at hEd
              cases hEd with
              | p _ _ h => cases h; rfl
            have hy : yielded ops tmps j = some b := by
              have h1 : ops[j]? = some oj := by rw [nth_eq] at hj; simpa using hj
              have h2 : tmps[d]? = some (.bool b) := by
                rw [Array.getD_eq_getD_getElem?] at hu
                cases h3 : tmps[d]? with
                | none => rw [h3] at hu; simp [undef] at hu
                | some u => rw [h3] at hu; simp at hu; rw [hu]
              simp only [yielded, h1, Option.bind_some, hdj, h2]
            have hw : Region.wanted o (yielded ops tmps) = (b == wn) := by
              simp only [Region.wanted, hg, hy]
              cases b <;> cases wn <;> rfl
            cases wn <;> cases b <;> first | exact .inl ⟨by rw [hw]; rfl, h⟩ | exact .inr ⟨by rw [hw]; rfl, h⟩
          | _ => rw [hb'] at h; exact h.elim
        | _ => rw [hb'] at h; exact h.elim

/-! ### whatever order is drawn -/
section
variable {P : Program} {T : Tab} {call : ACall} {we : World} {me : Mp} {N : Nat} {D0 : List Deferred} {bm : Bool} {ro : Option Nat} {nn : Nat} {L : List Oper} {ac : List (List Nat)}

theorem recheck_ok {an : List Nat} {K : List ABlk} {k : Prop} {rd : List (Nat × List (Nat × AV) × AV)} (h : recheck T call L an K k rd) :
    k ∧ ∀ q t v, (q, t, v) ∈ rd → q ∉ an → ∃ o, L[q]? = some o ∧ aopG T call L o t K (fun v' _ => v' = v) (fun _ _ => False) := by
  induction rd with
  | nil => exact ⟨h, by simp⟩
  | cons x rd ih =>
    obtain ⟨q, t, v⟩ := x
    rw [recheck_cons] at h
    cases hm : mem an q with
    | true =>
      rw [hm] at h
      obtain ⟨h1, h2⟩ := ih h
      refine ⟨h1, fun q' t' v' hx hn => ?_⟩
      cases List.mem_cons.1 hx with
      | inl e => injection e with e1 _; subst e1; exact absurd ((mem_iff _ _).1 hm) hn
      | inr e => exact h2 q' t' v' e hn
    | false =>
      rw [hm] at h
      simp only at h
      cases ho : nth L q with
      | none => rw [ho] at h; exact h.elim
      | some o =>
        rw [ho] at h
        obtain ⟨h1, h2⟩ := ih h.2
        refine ⟨h1, fun q' t' v' hx hn => ?_⟩
        cases List.mem_cons.1 hx with
        | inl e =>
          injection e with e1 e2
          injection e2 with e2 e3
          subst e1 e2 e3
          exact ⟨o, by rw [← nth_eq]; exact ho, h.1⟩
        | inr e => exact h2 q' t' v' e hn

/-- what is known of an operation that was gone through and is not done yet, or is done -/
def QFact (T : Tab) (call : ACall) (N : Nat) (L : List Oper) (ac : List (List Nat)) (rd : List (Nat × List (Nat × AV) × AV)) (t0 t : List (Nat × AV)) (K : List ABlk) (q : Nat) : Prop :=
  ∃ o tq v, L[q]? = some o ∧ (kind o.op ≠ 2 ∧ ∀ d, o.dst = some d → d < N) ∧ (∀ d, o.dst = some d → look t d = v) ∧
    (∀ d ∈ slotsG L o, ((∃ i ∈ ancOf ac q, dstAt L i = some d) → look tq d = look t d) ∧ ((∀ i ∈ ancOf ac q, dstAt L i ≠ some d) → look tq d = look t0 d)) ∧
    (kind o.op = 0 → ∀ K2, aopG T call L o tq K2 (Same v K2) (fun _ _ => False)) ∧ (kind o.op = 1 → (q, tq, v) ∈ rd ∧ aopG T call L o tq K (Same v K) (fun _ _ => False))

structure DInv (P : Program) (T : Tab) (call : ACall) (we : World) (me : Mp) (N : Nat) (L : List Oper) (ac : List (List Nat)) (Q : Ex → AS → Prop) (t0 : List (Nat × AV))
    (E : Nat → Prop) (n : Nat) (pre : List Nat) (rd : List (Nat × List (Nat × AV) × AV)) (t : List (Nat × AV)) (K : List ABlk) (w : World) (m : Mp) (tmps : Array Value) : Prop where
  anc : ∀ i ∈ pre, ∀ j ∈ ancOf ac i, j ∈ pre
  lt : ∀ i ∈ pre, i < L.length
  sub : ∀ i, E i → i ∈ pre
  loud : ∀ i ∈ pre, kindAt L i = 2 → E i
  tr : Tr we me w m
  st : St w m (hp K)
  size : tmps.size = N
  rest : adraw T call N L ac n pre rd t K Q
  done : ∀ d i, E i → dstAt L i = some d → V w m (look t d) (tmps.getD d undef)
  old : ∀ d, (∀ i, E i → dstAt L i ≠ some d) → V w m (look t0 d) (tmps.getD d undef)
  keep : ∀ d, (∀ i ∈ pre, dstAt L i ≠ some d) → look t d = look t0 d
  quiet : ∀ q ∈ pre, ¬ E q → QFact T call N L ac rd t0 t K q

theorem dstAt_some {i d : Nat} (h : dstAt L i = some d) : ∃ o, L[i]? = some o ∧ o.dst = some d := by
  unfold dstAt at h
  rw [nth_eq] at h
  cases ho : L[i]? with
  | none => rw [ho] at h; simp at h
  | some o => rw [ho] at h; exact ⟨o, rfl, h⟩
theorem dstAt_of {i : Nat} {o : Oper} (h : L[i]? = some o) : dstAt L i = o.dst := by unfold dstAt; rw [nth_eq, h]
theorem kindAt_of {i : Nat} {o : Oper} (h : L[i]? = some o) : kindAt L i = kind o.op := by unfold kindAt; rw [nth_eq, h]

theorem DrawOk.one (D : DrawOk L ac) {i j d : Nat} (hi : dstAt L i = some d) (hj : dstAt L j = some d) : i = j := by
  obtain ⟨o, h1, h2⟩ := dstAt_some hi
  obtain ⟨o', h3, h4⟩ := dstAt_some hj
  by_cases e : i = j
  · exact e
  · exact absurd h4 (D.slot i o j o' d h1 h3 h2 e).1

theorem kindAt_cases (o : Oper) : kind o.op = 0 ∨ kind o.op = 1 ∨ kind o.op = 2 := by
  unfold kind
  split <;> first | simp | (split <;> first | simp | (split <;> simp))

theorem look_put (t : List (Nat × AV)) (d : Option Nat) (v : AV) (x : Nat) : look (put t d v) x = if d = some x then v else look t x := by
  cases d with
  | none => simp [put]
  | some d => simp only [put, look_cons]; by_cases e : d = x <;> simp [e]

theorem bound_ok {d : Option Nat} {k : Prop} (h : bound N d k) : (∀ x, d = some x → x < N) ∧ k := by
  unfold bound at h
  cases d with
  | none => exact ⟨by simp, h⟩
  | some d =>
    simp only at h
    cases hb : Nat.blt d N with
    | false => rw [hb] at h; exact h.elim
    | true =>
      rw [hb] at h
      exact ⟨fun x hx => by injection hx with hx; subst hx; exact Nat.le_of_ble_eq_true hb, h⟩

/-- the quiet operations that may be carried out are gone through -/
theorem DInv.norm (D : DrawOk L ac) {Q : Ex → AS → Prop} {t0 : List (Nat × AV)} {E : Nat → Prop} {w : World} {m : Mp} {tmps : Array Value} (n : Nat) : ∀ {pre rd t K},
    DInv P T call we me N L ac Q t0 E n pre rd t K w m tmps →
    ∃ n' pre' rd' t' K', DInv P T call we me N L ac Q t0 E (n' + 1) pre' rd' t' K' w m tmps ∧ pickQ L ac pre' (upto (len L)) = none := by
  induction n with
  | zero => intro pre rd t K h; exact h.rest.elim
  | succ n ih =>
    intro pre rd t K h
    have hr := h.rest
    rw [adraw_succ] at hr
    unfold adrawS at hr
    cases hq : pickQ L ac pre (upto (len L)) with
    | none => exact ⟨n, pre, rd, t, K, h, hq⟩
    | some i =>
      rw [hq] at hr
      simp only [fN_eq] at hr
      unfold adrawQ at hr
      obtain ⟨hiL, hav⟩ := pickQ_some hq
      obtain ⟨hnot, hanc, hk2⟩ := avail_iff.1 hav
      have hil : i < L.length := by rw [upto_mem, len_eq] at hiL; exact hiL
      cases ho : nth L i with
      | none => rw [ho] at hr; exact hr.elim
      | some o =>
        rw [ho] at hr
        rw [nth_eq] at ho
        obtain ⟨hb, hr⟩ := bound_ok hr
        rw [kindAt_of ho] at hk2
        have hk2 : kind o.op ≠ 2 := fun e => by rw [e] at hk2; simp at hk2
        have hself : i ∉ ancOf ac i := fun hm => hnot (hanc i hm)
        have hget : ∃ v rd', (∀ x ∈ rd, x ∈ rd') ∧ adraw T call N L ac n (i :: pre) rd' (put t o.dst v) K Q ∧ (kind o.op = 0 → ∀ K2, aopG T call L o t K2 (Same v K2) (fun _ _ => False)) ∧
            (kind o.op = 1 → (i, t, v) ∈ rd' ∧ aopG T call L o t K (Same v K) (fun _ _ => False)) := by
          split at hr
          · rename_i hk
            obtain ⟨v, h1, h2⟩ := aopG_pure hk t _ K _ hr
            exact ⟨v, rd, fun x hx => hx, splitG_ok h1, fun _ => h2, fun e => by rw [hk] at e; simp at e⟩
          · rename_i hk
            obtain ⟨v, h1, h2⟩ := aopG_read hk t _ K _ hr
            exact ⟨v, _, fun x hx => List.mem_cons_of_mem _ hx, splitG_ok h1, fun e => by rw [hk] at e; simp at e, fun _ => ⟨by simp, h2⟩⟩
          · exact hr.elim
        obtain ⟨v, rd', hrd, h1, h2, h3⟩ := hget
        have hd : ∀ x j, j ∈ pre → dstAt L j = some x → o.dst ≠ some x := fun x j hj hjx e =>
          hnot (D.one (L := L) (ac := ac) (i := j) (j := i) hjx (by rw [dstAt_of ho]; exact e) ▸ hj)
        refine ih (pre := i :: pre) (rd := rd') (t := put t o.dst v) (K := K) ?_
        refine ⟨fun j hj k hk => ?_, fun j hj => ?_, fun j hj => by simp [h.sub j hj], fun j hj hk => ?_, h.tr, h.st, h.size, h1, fun d j hE hjd => ?_, h.old, fun d hd' => ?_, fun q hq hqE => ?_⟩
        · cases List.mem_cons.1 hj with
          | inl e => subst e; exact List.mem_cons_of_mem _ (hanc k hk)
          | inr e => exact List.mem_cons_of_mem _ (h.anc j e k hk)
        · cases List.mem_cons.1 hj with
          | inl e => subst e; exact hil
          | inr e => exact h.lt j e
        · cases List.mem_cons.1 hj with
          | inl e => subst e; rw [kindAt_of ho] at hk; exact absurd hk hk2
          | inr e => exact h.loud j e hk
        · rw [look_put, if_neg (hd d j (h.sub j hE) hjd)]
          exact h.done d j hE hjd
        · rw [look_put, if_neg (fun e => hd' i (by simp) (by rw [dstAt_of ho]; exact e))]
          exact h.keep d (fun j hj => hd' j (by simp [hj]))
        · cases List.mem_cons.1 hq with
          | inr hq =>
            obtain ⟨oq, tq, vq, q1, qk, q2, q3, q4, q5⟩ := h.quiet q hq hqE
            refine ⟨oq, tq, vq, q1, qk, fun d hd' => ?_, fun d hd' => ⟨fun he => ?_, (q3 d hd').2⟩, q4, fun e => ⟨hrd _ (q5 e).1, (q5 e).2⟩⟩
            · rw [look_put, if_neg (hd d q hq (by rw [dstAt_of q1]; exact hd'))]
              exact q2 d hd'
            · rw [(q3 d hd').1 he, look_put, if_neg ?_]
              intro e
              obtain ⟨j, hj, hjd⟩ := he
              have : i = j := D.one (i := i) (j := j) (by rw [dstAt_of ho]; exact e) hjd
              exact hnot (this ▸ h.anc q hq j hj)
          | inl e =>
            subst e
            refine ⟨o, t, v, ho, ⟨hk2, hb⟩, fun d hd' => by rw [look_put, if_pos hd'], fun d hd' => ⟨fun he => ?_, fun he => ?_⟩, h2, h3⟩
            · rw [look_put, if_neg ?_]
              intro e
              obtain ⟨j, hj, hjd⟩ := he
              have : q = j := D.one (i := q) (j := j) (by rw [dstAt_of ho]; exact e) hjd
              exact hself (this ▸ hj)
            · refine h.keep d (fun j hj hjd => ?_)
              obtain ⟨oj, j1, j2⟩ := dstAt_some hjd
              rcases (D.slot j oj q o d j1 ho j2 (fun e => hnot (e ▸ hj))).2 hd' with hx | hx
              · exact he j hx hjd
              · exact hnot (h.anc j hj q hx)

/-- the slots that an operation names -/
def restrict (t : List (Nat × AV)) : List Nat → List (Nat × AV)
  | [] => []
  | d :: r => (d, look t d) :: restrict t r
theorem look_restrict (t : List (Nat × AV)) (l : List Nat) (d : Nat) : look (restrict t l) d = if d ∈ l then look t d else .junk := by
  induction l with
  | nil => simp [restrict, look]
  | cons a l ih =>
    simp only [restrict, look_cons, ih, List.mem_cons]
    by_cases e : a = d
    · subst e; simp
    · have e' : ¬ d = a := fun x => e x.symm
      simp [e, e']

theorem EnvOk.restrict {w : World} {m : Mp} {t : List (Nat × AV)} {tmps : Array Value} {l : List Nat} (h : ∀ d ∈ l, V w m (look t d) (tmps.getD d undef)) : EnvOk w m (restrict t l) tmps := by
  intro d
  rw [look_restrict]
  by_cases e : d ∈ l
  · rw [if_pos e]; exact h d e
  · rw [if_neg e]; exact .junk _

theorem draw_run (hT : TabOk P T) (hcall : CallOk P call) {ops : Array Oper} (D : DrawOk ops.toList ac) {Q : Ex → AS → Prop} {t0 : List (Nat × AV)} {E : Nat → Prop} {s : List Nat} (hs : Sch ops E s) :
    (∀ i, E i → ∃ o, ops.toList[i]? = some o ∧ ∀ j ∈ ancOf ac i, E j) → ∀ {n pre rd t K w m} {a : Act}, Mk bm we D0 w m a.defers →
    DInv P T call we me N ops.toList ac Q t0 E n pre rd t K w m a.tmps → wpOpsIn (FW ro) nn P ops (Rel bm N we me D0 Q) s a w := by
  induction hs with
  | nil E hE =>
    intro hcl n pre rd t K w m a hd h
    simp only [wpOpsIn]
    obtain ⟨n, pre, rd, t, K, h, hq⟩ := h.norm D
    have hl : loudN ops.toList ac pre (upto (len ops.toList)) = [] := by
      cases hl : loudN ops.toList ac pre (upto (len ops.toList)) with
      | nil => rfl
      | cons i r =>
        exfalso
        have hm : i ∈ loudN ops.toList ac pre (upto (len ops.toList)) := by rw [hl]; simp
        obtain ⟨h1, h2⟩ := loudN_mem.1 hm
        rw [upto_mem, len_eq] at h1
        exact (avail_iff.1 h2).1 (h.sub i (hE i (by simpa using h1)))
    have hr := h.rest
    rw [adraw_succ] at hr
    unfold adrawS at hr
    rw [hq, hl] at hr
    refine ⟨h.size, m, ⟨t, K⟩, hd, h.tr, h.st, fun d => ?_, hr⟩
    by_cases hex : ∃ i, E i ∧ dstAt ops.toList i = some d
    · obtain ⟨i, h1, h2⟩ := hex
      exact h.done d i h1 h2
    · have hno : ∀ i, E i → dstAt ops.toList i ≠ some d := fun i h1 h2 => hex ⟨i, h1, h2⟩
      rw [h.keep d (fun i hi => ?_)]
      · exact h.old d hno
      · have hil := h.lt i hi
        exact hno i (hE i (by simpa using hil))
  | cons E i o rest hi hn he hs ih =>
    intro hcl n pre rd t K w m a hd h
    have hoL : ops.toList[i]? = some o := by simpa using hi
    have hiL : i < ops.toList.length := by rw [List.getElem?_eq_some_iff] at hoL; exact hoL.1
    obtain ⟨n, pre, rd, t, K, h, hq⟩ := h.norm D
    have hanc : ∀ j ∈ ancOf ac i, E j := fun j hj => by
      obtain ⟨e, h1, h2⟩ := D.ancE i o j hoL hj
      rcases h2 with rfl | h2
      · exact he j h1
      · obtain ⟨_, _, h3⟩ := hcl e (he e h1)
        exact h3 j h2
    have hcl' : ∀ j, (E j ∨ j = i) → ∃ o, ops.toList[j]? = some o ∧ ∀ k ∈ ancOf ac j, (E k ∨ k = i) := fun j hj => by
      rcases hj with hj | rfl
      · obtain ⟨o, h1, h2⟩ := hcl j hj
        exact ⟨o, h1, fun k hk => .inl (h2 k hk)⟩
      · exact ⟨o, hoL, fun k hk => .inl (hanc k hk)⟩
    have hclA : ∀ e, E e → ∀ j ∈ ancOf ac e, E j := fun e he => let ⟨_, _, h⟩ := hcl e he; h
    simp only [wpOpsIn, hi]
    -- a slot that it names, written by something that is done, was written by what stands ahead of it
    have hslot : ∀ d, d ∈ slotsG ops.toList o → ∀ j, E j → dstAt ops.toList j = some d → j ∈ ancOf ac i := fun d hd' j hj hjd => by
      obtain ⟨oj, j1, j2⟩ := dstAt_some hjd
      rcases (D.slot j oj i o d j1 hoL j2 (fun e => hn (e ▸ hj))).2 hd' with hx | hx
      · exact hx
      · exact absurd (hclA j hj i hx) hn
    by_cases hk2 : kind o.op = 2
    · -- a loud one: the next of the order
      have hinp : i ∉ pre := fun hm => hn (h.loud i hm (by rw [kindAt_of hoL]; exact hk2))
      have hr := h.rest
      rw [adraw_succ] at hr
      unfold adrawS at hr
      rw [hq] at hr
      have hm : i ∈ loudN ops.toList ac pre (upto (len ops.toList)) := loudN_mem.2 ⟨by rw [upto_mem, len_eq]; exact hiL, avail_iff.2 ⟨hinp, fun j hj => h.sub j (hanc j hj), by rw [kindAt_of hoL, hk2]; rfl⟩⟩
      cases hl : loudN ops.toList ac pre (upto (len ops.toList)) with
      | nil => rw [hl] at hm; simp at hm
      | cons a1 r =>
      rw [hl] at hr hm
      replace hr := each_ok hr i hm
      simp only [fN_eq] at hr
      unfold adrawL at hr
      rw [nth_eq, hoL] at hr
      obtain ⟨hb, hr⟩ := bound_ok hr
      have hwr : ∀ d ∈ slotsG ops.toList o, V w m (look t d) (a.tmps.getD d undef) := fun d hd' => by
        by_cases hex : ∃ j, E j ∧ dstAt ops.toList j = some d
        · obtain ⟨j, h1, h2⟩ := hex
          exact h.done d j h1 h2
        · rw [h.keep d (fun j hj hjd => ?_)]
          · exact h.old d (fun j h1 h2 => hex ⟨j, h1, h2⟩)
          · obtain ⟨oj, j1, j2⟩ := dstAt_some hjd
            rcases (D.slot j oj i o d j1 hoL j2 (fun e => hinp (e ▸ hj))).2 hd' with hx | hx
            · exact hex ⟨j, hanc j hx, hjd⟩
            · exact hinp (h.anc j hj i hx)
      have hnext : ∀ (w' : World) (m' : Mp) (v : AV) (K' : List ABlk) (u : Value), Tr w m w' m' → St w' m' (hp K') → V w' m' v u →
          splitG (isGd i ops.toList) v (fun v => recheck T call ops.toList (ancOf ac i) K' (adraw T call N ops.toList ac n (i :: pre) rd (put t o.dst v) K' Q) rd) → wpOpsIn (FW ro) nn P ops (Rel bm N we me D0 Q) rest (a.put o.dst u) w' := by
        intro w' m' v K' u h1 h2 h3 h4
        obtain ⟨h5, h6⟩ := recheck_ok (splitG_ok h4)
        have hnod : ∀ x j, j ∈ pre → dstAt ops.toList j = some x → o.dst ≠ some x := fun x j hj hjx e =>
          hinp (D.one (i := j) (j := i) hjx (by rw [dstAt_of hoL]; exact e) ▸ hj)
        have hput : ∀ d, o.dst ≠ some d → (a.put o.dst u).tmps.getD d undef = a.tmps.getD d undef := fun d hne => by
          cases hd' : o.dst with
          | none => rfl
          | some x =>
            have : x ≠ d := fun e => hne (by rw [hd', e])
            simp only [Act.put, Array.getD_eq_getD_getElem?, Array.getElem?_setIfInBounds, if_neg this]
        refine ih hcl' (n := n) (pre := i :: pre) (rd := rd) (t := put t o.dst v) (K := K') (m := m') (by rw [put_defers]; exact hd.mono h1) ?_
        refine ⟨fun j hj k hk => ?_, fun j hj => ?_, fun j hj => ?_, fun j hj hk => ?_, h.tr.trans h1, h2, by rw [put_size]; exact h.size, h5, fun d j hE hjd => ?_, fun d hd' => ?_, fun d hd' => ?_, fun q hq hqE => ?_⟩
        · cases List.mem_cons.1 hj with
          | inl e => subst e; exact List.mem_cons_of_mem _ (h.sub k (hanc k hk))
          | inr e => exact List.mem_cons_of_mem _ (h.anc j e k hk)
        · cases List.mem_cons.1 hj with
          | inl e => subst e; exact hiL
          | inr e => exact h.lt j e
        · rcases hj with hj | rfl
          · simp [h.sub j hj]
          · simp
        · cases List.mem_cons.1 hj with
          | inl e => exact .inr e
          | inr e => exact .inl (h.loud j e hk)
        · rcases hE with hE | rfl
          · have hne := hnod d j (h.sub j hE) hjd
            rw [look_put, if_neg hne, hput d hne]
            exact (h.done d j hE hjd).mono h1
          · rw [dstAt_of hoL] at hjd
            rw [look_put, if_pos hjd]
            have hlt : d < a.tmps.size := by rw [h.size]; exact hb d hjd
            rw [hjd]
            simpa [Act.put, Array.getD, hlt] using h3
        · have hne : o.dst ≠ some d := fun e => hd' i (.inr rfl) (by rw [dstAt_of hoL]; exact e)
          rw [hput d hne]
          exact (h.old d (fun j hj => hd' j (.inl hj))).mono h1
        · rw [look_put, if_neg (fun e => hd' i (by simp) (by rw [dstAt_of hoL]; exact e))]
          exact h.keep d (fun j hj => hd' j (by simp [hj]))
        · rcases List.mem_cons.1 hq with rfl | hq
          · exact absurd (.inr rfl) hqE
          · obtain ⟨oq, tq, vq, q1, qk, q2, q3, q4, q5⟩ := h.quiet q hq (fun e => hqE (.inl e))
            refine ⟨oq, tq, vq, q1, qk, fun d hd' => ?_, fun d hd' => ⟨fun he' => ?_, (q3 d hd').2⟩, q4, fun e => ?_⟩
            · rw [look_put, if_neg (hnod d q hq (by rw [dstAt_of q1]; exact hd'))]
              exact q2 d hd'
            · rw [(q3 d hd').1 he', look_put, if_neg ?_]
              intro e
              obtain ⟨j, hj, hjd⟩ := he'
              have : i = j := D.one (i := i) (j := j) (by rw [dstAt_of hoL]; exact e) hjd
              exact hinp (this ▸ h.anc q hq j hj)
            · obtain ⟨hin, _⟩ := q5 e
              refine ⟨hin, ?_⟩
              obtain ⟨o2, h7, h8⟩ := h6 q tq vq hin (fun hm => hqE (.inl (hanc q hm)))
              rw [q1] at h7
              injection h7 with h7
              subst h7
              obtain ⟨v', h9, h10⟩ := aopG_read e tq _ K' _ h8
              subst h9
              exact h10
      rcases aopG_cases hwr hr with ⟨hw, hr⟩ | ⟨hw, hr⟩
      · rw [if_pos hw]
        refine ⟨fun _ _ => trivial, ?_⟩
        rw [aop_semAt hr]
        rw [aop_congr (t' := restrict t (slotsG ops.toList o)) (fun d hd' => by rw [look_restrict, if_pos (show d ∈ slotsG ops.toList o from List.mem_append_left _ hd')])] at hr
        refine aop_ok hT hcall h.st (EnvOk.restrict hwr) (fun w' m' v K' u h1 h2 h3 h4 => ?_) (fun w' m' v K' u h1 h2 h3 h4 => ?_) hr
        · exact hnext w' m' v K' u h1 h2 h3 h4
        · exact ⟨h.size, m', ⟨[], K'⟩, v, u, hd.mono h1, rfl, h.tr.trans h1, h2, fun _ => .junk _, h3, h4⟩
      · rw [if_neg (by simp [hw])]
        exact ⟨fun _ _ => trivial, hnext w m .junk K undef (Tr.refl w m) h.st (.junk _) hr⟩
    · -- a quiet one: gone through already
      have hip : i ∈ pre := by
        by_cases hm : i ∈ pre
        · exact hm
        · exfalso
          have h1 := pickQ_none hq i (by rw [upto_mem, len_eq]; exact hiL)
          rw [avail_iff.2 ⟨hm, fun j hj => h.sub j (hanc j hj), by
            rw [kindAt_of hoL]
            cases hb : Nat.beq (kind o.op) 2 with
            | true => exact absurd (Nat.eq_of_beq_eq_true hb) hk2
            | false => rfl⟩] at h1
          simp at h1
      obtain ⟨oq, tq, vq, q1, qk, q2, q3, q4, q5⟩ := h.quiet i hip hn
      rw [hoL] at q1
      injection q1 with q1
      subst q1
      have hkk : kind o.op = 0 ∨ kind o.op = 1 ∨ kind o.op = 2 := by
        unfold kind
        split <;> first | simp | (split <;> first | simp | (split <;> simp))
      have ha : aopG T call ops.toList o tq K (Same vq K) (fun _ _ => False) := by
        rcases hkk with e | e | e
        · exact q4 e K
        · exact (q5 e).2
        · exact absurd e hk2
      have hwr : ∀ d ∈ slotsG ops.toList o, V w m (look tq d) (a.tmps.getD d undef) := fun d hd' => by
        by_cases hex : ∃ j ∈ ancOf ac i, dstAt ops.toList j = some d
        · rw [(q3 d hd').1 hex]
          obtain ⟨j, h1, h2⟩ := hex
          exact h.done d j (hanc j h1) h2
        · rw [(q3 d hd').2 (fun j h1 h2 => hex ⟨j, h1, h2⟩)]
          exact h.old d (fun j h1 h2 => hex ⟨j, hslot d hd' j h1 h2, h2⟩)
      have hb : ∀ x, o.dst = some x → x < a.tmps.size := fun x hx => by rw [h.size]; exact qk.2 x hx
      have hnext : ∀ (w' : World) (m' : Mp) (v : AV) (K' : List ABlk) (u : Value), Tr w m w' m' → St w' m' (hp K') → V w' m' v u → Same vq K v K' → wpOpsIn (FW ro) nn P ops (Rel bm N we me D0 Q) rest (a.put o.dst u) w' := by
       intro w' m' v K' u h1 h2 h3 h4
       obtain ⟨rfl, rfl⟩ := h4
       have hput : ∀ d, o.dst ≠ some d → (a.put o.dst u).tmps.getD d undef = a.tmps.getD d undef := fun d hne => by
         cases hd' : o.dst with
         | none => rfl
         | some x =>
           have : x ≠ d := fun e => hne (by rw [hd', e])
           simp only [Act.put, Array.getD_eq_getD_getElem?, Array.getElem?_setIfInBounds, if_neg this]
       refine ih hcl' (n := n + 1) (pre := pre) (rd := rd) (t := t) (K := K') (m := m') (by rw [put_defers]; exact hd.mono h1) ?_
       refine ⟨h.anc, h.lt, fun j hj => ?_, fun j hj hk => .inl (h.loud j hj hk), h.tr.trans h1, h2, by rw [put_size]; exact h.size, h.rest, fun d j hE hjd => ?_, fun d hd' => ?_, h.keep, fun q hq hqE => h.quiet q hq (fun e => hqE (.inl e))⟩
       · rcases hj with hj | rfl
         · exact h.sub j hj
         · exact hip
       · rcases hE with hE | rfl
         · by_cases hne : o.dst = some d
           · have : j = i := D.one hjd (by rw [dstAt_of hoL]; exact hne)
             exact absurd (this ▸ hE) hn
           · rw [hput d hne]
             exact (h.done d j hE hjd).mono h1
         · rw [dstAt_of hoL] at hjd
           rw [q2 d hjd]
           have hlt : d < a.tmps.size := hb d hjd
           rw [hjd]
           simpa [Act.put, Array.getD, hlt] using h3
       · have hne : o.dst ≠ some d := fun e => hd' i (.inr rfl) (by rw [dstAt_of hoL]; exact e)
         rw [hput d hne]
         exact (h.old d (fun j hj => hd' j (.inl hj))).mono h1
      rcases aopG_cases hwr ha with ⟨hw, ha⟩ | ⟨hw, ha⟩
      · rw [if_pos hw]
        refine ⟨fun _ _ => trivial, ?_⟩
        rw [aop_semAt ha]
        rw [aop_congr (t' := restrict tq (slotsG ops.toList o)) (fun d hd' => by rw [look_restrict, if_pos (show d ∈ slotsG ops.toList o from List.mem_append_left _ hd')])] at ha
        exact aop_ok hT hcall h.st (EnvOk.restrict hwr) (fun w' m' v K' u h1 h2 h3 h4 => hnext w' m' v K' u h1 h2 h3 h4) (fun w' m' v K' u h1 h2 h3 h4 => h4.elim) ha
      · rw [if_neg (by simp [hw])]
        exact ⟨fun _ _ => trivial, hnext w m .junk K undef (Tr.refl w m) h.st (.junk _) ha⟩

/-- a drawn region -/
theorem adraw_ok (hT : TabOk P T) (hcall : CallOk P call) (hmix : P.follows .mixedOrders = true) {id : Nat} {ops : Array Oper} {Q : Ex → AS → Prop} {t : List (Nat × AV)} {K : List ABlk} (hB : drawB ops.toList = true) {n : Nat}
    (h : adraw T call N ops.toList (ancs ops.toList []) n [] [] t K Q) (w : World) (m : Mp) (a : Act)
    (hTr : Tr we me w m) (hS : St w m (hp K)) (hE : EnvOk w m t a.tmps) (hN : a.tmps.size = N) (hd : Mk bm we D0 w m a.defers) : (Code.region id ops true).wpIn (FW ro) nn P (Rel bm N we me D0 Q) a w := by
  have D := drawB_ok hB
  refine wpIn_region_draw fun k => ?_
  rw [hmix]
  have hs := schedule_sch ops (fun i o ho => D.edge i o (by simpa using ho)) k
  refine draw_run hT hcall D (t0 := t) hs (fun i hi => hi.elim) (n := n) (pre := []) (rd := []) (t := t) (K := K) (m := m) (hd.mono (Tr.drew w m)) ?_
  refine ⟨fun i hi => by simp at hi, fun i hi => by simp at hi, fun i hi => hi.elim, fun i hi => by simp at hi, hTr.trans (Tr.drew w m), hS.drew, hN, h, fun d i hi => hi.elim, fun d _ => (hE d).mono (Tr.drew w m), fun d _ => rfl, fun q hq => by simp at hq⟩
end

end Go.AE

namespace Go.AE
section
variable {P : Program} {T : Tab} {call : ACall} {we : World} {me : Mp} {N kb : Nat} {D0 : List Deferred} {bm : Bool} {ro : Option Nat} {nn : Nat}

/-! ### code -/
theorem FW.room (n : Nat) : (FW ro).room n := fun _ h => by simp [FW, Fence.wide] at h
/-- a loop, at the head of its round -/
def AtHead (P : Program) (ro : Option Nat) (c : Code) (Q : Exit → Act → World → Prop) (a : Act) (w : World) : Prop :=
  ∀ (b : Frame) (k : List Item) (cs : List Frame), b.roundOf = ro → ∃ e a' w', Q e a' w' ∧ ArrivesIn (Machine.fenced P (FW ro)) P (lone (b.atR a (.code c :: .inLoop c :: k)) cs w) b k cs e a' w'

theorem AtHead.step {c : Code} {Q : Exit → Act → World → Prop} {a : Act} {w : World} (h : c.wpIn (FW ro) nn P (fun e a' w' => match e with | .normal => AtHead P ro c Q a' w' | e => Q e a' w') a w) : AtHead P ro c Q a w := by
  intro b k cs hro
  obtain ⟨e, a₁, w₁, hq, harr⟩ := h b (.inLoop c :: k) cs hro trivial (FW.room _)
  cases e with
  | normal =>
    obtain ⟨e₂, a₂, w₂, hq₂, harr₂⟩ := hq b k cs hro
    exact ⟨e₂, a₂, w₂, hq₂, .of_steps (StepsIn.trans harr (.one (fenced_calm (n := 0) trivial (FW.room _) rfl) stepR_inLoop)) harr₂⟩
  | exit id => exact ⟨_, a₁, w₁, hq, .pass (x := .inLoop c) rfl (fun _ _ => .inl (by simp)) harr⟩
  | goto l => exact ⟨_, a₁, w₁, hq, .pass (x := .inLoop c) rfl (fun _ _ => .inl (by simp)) harr⟩
  | ret => exact ⟨_, a₁, w₁, hq, .pass (x := .inLoop c) rfl (fun _ _ => .inl (by simp)) harr⟩
  | panic ch => exact ⟨_, a₁, w₁, hq, .pass (x := .inLoop c) rfl (fun _ _ => .inl (by simp)) harr⟩
  | outgrown => exact ⟨_, a₁, w₁, hq, .pass (x := .inLoop c) rfl (fun _ _ => .inl (by simp)) harr⟩

theorem AtHead.loop {c : Code} {Q : Exit → Act → World → Prop} {a : Act} {w : World} (h : AtHead P ro c Q a w) : (Code.loop c).wpIn (FW ro) nn P Q a w := by
  intro b k cs hro hb hr
  obtain ⟨e, a', w', hq, harr⟩ := h b k cs hro
  exact ⟨e, a', w', hq, .of_steps (.one (fenced_calm hb hr rfl) stepR_loop) harr⟩

theorem mem_cons (l : List Nat) (a n : Nat) : mem (a :: l) n = (Nat.beq a n || mem l n) := by
  simp only [mem]
  cases Nat.beq a n <;> rfl

theorem fE_ok {t : List (Nat × AV)} {seen : List Nat} {k : List (Nat × AV) → Prop} (h : fE seen t k) : ∃ t', k t' ∧ ∀ d, mem seen d = false → look t' d = look t d := by
  induction t generalizing seen k with
  | nil => exact ⟨[], h, fun _ _ => rfl⟩
  | cons x r ih =>
    obtain ⟨d, v⟩ := x
    rw [fE_cons] at h
    split at h
    · rename_i hm
      obtain ⟨t', h1, h2⟩ := ih h
      refine ⟨t', h1, fun j hj => ?_⟩
      rw [look_cons, h2 j hj]
      by_cases e : d = j
      · subst e; rw [hm] at hj; simp at hj
      · rw [if_neg e]
    · rw [fV_eq] at h
      obtain ⟨t', h1, h2⟩ := ih h
      refine ⟨_, h1, fun j hj => ?_⟩
      rw [look_cons, look_cons]
      by_cases e : d = j
      · rw [if_pos e, if_pos e]
      · rw [if_neg e, if_neg e]
        refine h2 j ?_
        rw [mem_cons, hj, Bool.or_false]
        exact Bool.eq_false_iff.2 fun hb => e (Nat.eq_of_beq_eq_true hb)

/-- a block that nobody owns -/
theorem Tr.allocN {w : World} {m : Mp} (hI : ∀ b, m.I b → b < w.heap.size) (o : Obj) : Tr w m (w.alloc o) m where
  os := rfl
  tape := rfl
  output := rfl
  size := by simp
  out := fun b hb _ => heap_alloc w o b hb
  imm := fun _ h => h
  same := fun b hb => heap_alloc w o b (hI b hb)
  newI := fun _ h => .inl h
  step := fun _ => Inf.step_refl _ _ rfl
  newρ := fun _ hr => .inl ⟨hr, rfl⟩
theorem St.allocN {w : World} {m : Mp} {H : Nat → ABlk} (h : St w m H) (o : Obj) : St (w.alloc o) m H := by
  have hT := Tr.allocN h.Ilt o
  refine ⟨h.inj, h.notI, fun r hr => by have := h.lt r hr; simp; omega, fun b hb => by have := h.Ilt b hb; simp; omega, h.gl.mono hT.imm hT.same, fun r => ?_⟩
  by_cases hl : (m.L r).isLive
  · exact (h.blk r).mono (heap_alloc w o _ (h.lt r hl)) (fun _ _ hv => hv.mono hT)
  · exact (h.blk r).nolive hl

theorem Mk.lt {w : World} {m : Mp} (hD0 : ∀ d ∈ D0, ∀ D, d.target ≠ .collected D) {ds : List Deferred} (h : Mk bm we D0 w m ds) : ∀ d ∈ ds, ∀ D, d.target = .collected D → D < w.heap.size := by
  induction h with
  | base => exact fun d hd D e => absurd e (hD0 d hd D)
  | mark hb D ds h1 h2 h3 h4 h5 _ ih =>
    intro d hd D' e
    rcases List.mem_cons.1 hd with rfl | hd
    · injection e with e
      subst e
      exact (Array.getElem?_eq_some_iff.1 h2).1
    · exact ih d hd D' e

/-- a loop's record stands where it stood -/
theorem lp_stands {w w' : World} {m m' : Mp} (t : Tr w m w' m') {r : Nat} (h : m.L r = .live 0 1 1 1) (h' : m'.L r = .live 0 1 1 1) : m'.ρ r = m.ρ r := by
  have hs := t.step r
  rw [h, h'] at hs
  simp only [Inf.step] at hs
  rcases hs with hs | ⟨_, he⟩ | ⟨v', n', sz', cap', hs, hlt⟩
  · cases hs
  · exact he
  · simp only [Inf.live.injEq] at hs; omega

/-- behind the function that was ranged over -/
theorem endRF_ok {s : AS} {Q : Ex → AS → Prop} {w w2 : World} {m m2 : Mp} {a : Act} {l D : Nat} {e : Ending} {w' : World} (hT12 : Tr w m w2 m2) (hL2 : m2.L (len s.K) = .live 0 1 1 1) (hρ2 : m2.ρ (len s.K) = l)
    (hTr : Tr we me w m) (hE : EnvOk w m s.t a.tmps) (hN : a.tmps.size = N) (hMk2 : Mk bm we D0 w2 m2 ({ target := .collected D, args := #[] } :: a.defers))
    (hR : Post w2 m2 (endRF s Q (len s.K)) e w') : rangePost (FW ro) nn P l (Rel bm N we me D0 Q) { a with defers := [{ target := .collected D, args := #[] }] ++ a.defers } e w' := by
  cases e with
  | returned v =>
    obtain ⟨m', av, K', h1, h2, h3, h4⟩ := hR
    simp only [endRF] at h4
    split at h4
    case h_2 => exact h4.elim
    rename_i st env' N' ps' as' bd' hnth
    rw [fL_eq] at h4
    have hb := h2.blk (len s.K)
    rw [hp_nth hnth] at hb
    obtain ⟨hl, p, fn', tmps', D, hh, hp', hsz', hV'⟩ := hb
    have hρ' : m'.ρ (len s.K) = l := (lp_stands h1 hL2 hl).trans hρ2
    have hlive : (m'.L (len s.K)).isLive := by rw [hl]; trivial
    obtain ⟨o, ho⟩ : ∃ o : Obj, o = .loop { state := .exhausted, pending := p, fn := fn', tmps := tmps', params := ps', assign := as', body := bd', defers := D } := ⟨_, rfl⟩
    have hT3 := Tr.putObj h2 (len s.K) hlive o
    have hS3 := h2.putObj (len s.K) hlive o (.lp .over env' N' ps' as' bd') ⟨hl, p, fn', tmps', D, by rw [World.putObj_heap_same (h2.lt _ hlive), ho]; rfl, trivial, hsz', fun d => (hV' d).mono hT3⟩
    rw [← hp_set K' (len s.K) _ _ hnth, hρ'] at hS3
    rw [hρ'] at hT3
    have hrun : st.state ≠ .busy → (Instr.endLoop l).run P w' = .ok p (w'.putObj l o) := fun hst => by
      rw [ho]; rw [hρ'] at hh; exact run_endLoop hh hst
    have hTT : Tr we me (w'.putObj l o) m' := (hTr.trans hT12).trans (h1.trans hT3)
    have hEE : EnvOk (w'.putObj l o) m' s.t a.tmps := (hE.mono hT12).mono (h1.trans hT3)
    have hMM := hMk2.mono (h1.trans hT3)
    cases st with
    | ready =>
      have hp'' : p = none := hp'
      subst hp''
      exact ⟨none, _, hrun (by simp [LSt.state]), hN, m', ⟨s.t, _⟩, hMM, hTT, hS3, hEE, h4⟩
    | ret =>
      have hp'' : p = some .ret := hp'
      subst hp''
      exact ⟨some .ret, _, hrun (by simp [LSt.state]), wpIn_ret ⟨hN, m', ⟨s.t, _⟩, hMM, hTT, hS3, hEE, h4⟩⟩
    | exit n =>
      have hp'' : p = some (.exit n) := hp'
      subst hp''
      exact ⟨some (.exit n), _, hrun (by simp [LSt.state]), wpIn_exit ⟨hN, m', ⟨s.t, _⟩, hMM, hTT, hS3, hEE, h4⟩⟩
    | busy => exact h4.elim
    | over => exact h4.elim
  | panicked ch =>
    obtain ⟨m', av, u, K', rfl, h1, h2, h3, h4⟩ := hR
    exact ⟨hN, m', ⟨s.t, K'⟩, av, u, hMk2.mono h1, rfl, (hTr.trans hT12).trans h1, h2, (hE.mono hT12).mono h1, h3, h4⟩
  | outgrown => exact hR.elim

theorem rangeF_ok (hT : TabOk P T) (hcall : CallOk P call) (hmix : P.follows .mixedOrders = true) (hD0 : ∀ d ∈ D0, ∀ D, d.target ≠ .collected D) (hro : ro = none) (hbm : bm = true)
    (g : Operand) (ps : Array Tmp) (assign body : Code) (s : AS) (Q : Ex → AS → Prop) {x y : AW} (h : wRangeF call N g ps assign body x y s Q)
    (w : World) (m : Mp) (a : Act) (hTr : Tr we me w m) (hS : St w m (hp s.K)) (hE : EnvOk w m s.t a.tmps) (hN : a.tmps.size = N) (hd : Mk bm we D0 w m a.defers) :
    (Code.rangeFunc g ps assign body).wpIn (FW ro) nn P (Rel bm N we me D0 Q) a w := by
  subst hro
  unfold wRangeF at h
  split at h
  case h_1 => exact h.elim
  obtain ⟨env, henv, hE'⟩ := fE_ok h
  rw [fN_eq, fL_eq] at henv
  refine wpIn_rangeFunc ?_
  intro fn _
  obtain ⟨rec, hrec⟩ : ∃ rec : Loop, rec = { state := .ready, pending := none, fn, tmps := a.tmps, params := ps, assign, body, defers := w.heap.size } := ⟨_, rfl⟩
  have hT1 := Tr.allocN hS.Ilt (.deferred (some []))
  have hS1 := hS.allocN (.deferred (some []))
  have hr0 : hp s.K (len s.K) = .absent := by
    simp only [hp, nth_eq]
    rw [List.getElem?_eq_none (by rw [len_eq]; exact Nat.le_refl _)]
  have hL0 : m.L (len s.K) = .absent := hS.absent hr0
  have hT2 := Tr.alloc (w.alloc (.deferred (some []))) m (.loop rec) (len s.K) (.live 0 1 1 1) hL0 hS1.Ilt
  have hT12 := hT1.trans hT2
  have hlp : BlkOk ((w.alloc (.deferred (some []))).alloc (.loop rec)) (m.set (len s.K) (w.alloc (.deferred (some []))).heap.size (.live 0 1 1 1)) (.live 0 1 1 1) (w.alloc (.deferred (some []))).heap.size
      (.lp .ready env N ps assign body) :=
    ⟨rfl, none, fn, a.tmps, w.heap.size, by rw [World.alloc_heap_new, hrec]; rfl, rfl, hN, fun d => by rw [hE' d rfl]; exact (hE d).mono hT12⟩
  have hS2 := hS1.alloc (.loop rec) (len s.K) (.live 0 1 1 1) hr0 _ hlp
  rw [← hp_snoc] at hS2
  have hsz : (w.alloc (.deferred (some []))).heap.size = w.heap.size + 1 := by simp
  rw [hsz] at hS2 hT2 hT12
  obtain ⟨w2, hw2⟩ : ∃ w2, (w.alloc (.deferred (some []))).alloc (.loop rec) = w2 := ⟨_, rfl⟩
  obtain ⟨m2, hm2⟩ : ∃ m2, m.set (len s.K) (w.heap.size + 1) (.live 0 1 1 1) = m2 := ⟨_, rfl⟩
  rw [hw2, hm2] at hS2 hT12
  have hL2 : m2.L (len s.K) = .live 0 1 1 1 := by rw [← hm2]; simp [Mp.set]
  have hρ2 : m2.ρ (len s.K) = w.heap.size + 1 := by rw [← hm2]; simp [Mp.set]
  have hD2 : w2.heap[w.heap.size]? = some (.deferred (some [])) := by
    rw [← hw2]
    exact (heap_alloc _ _ _ (by simp)).trans (World.alloc_heap_new w _)
  have hMk2 : Mk bm we D0 w2 m2 ({ target := .collected w.heap.size, args := #[] } :: a.defers) := by
    refine .mark hbm _ _ hTr.size hD2 (fun hI => ?_) (fun r hr e => ?_) (fun d hd' e => ?_) (hd.mono hT12)
    · rw [← hm2] at hI; have := hS.Ilt _ hI; omega
    · rw [← hm2] at hr e
      simp only [Mp.set] at hr e
      by_cases er : r = len s.K
      · simp [er] at e
      · simp only [er, if_false] at hr e; have := hS.lt r hr; omega
    · have := hd.lt hD0 d hd' _ e; omega
  have hyl : V w2 m2 (.yld (len s.K)) (.func (.yield (w.heap.size + 1)) #[] #[]) := by rw [← hρ2]; exact .yld _ _ _ hL2
  -- the call
  have key : ∀ (f : FuncId) (A B : Array Value) (args : List AV), a.eval g = .func (.func f) A B → VL w2 m2 args (A ++ #[.func (.yield (w.heap.size + 1)) #[] #[]] ++ B) →
      callF call f args (snoc s.K (.lp .ready env N ps assign body)) (endRF s Q (len s.K)) →
      ∃ (l : Nat) (mark : List Deferred) (w₁ : World) (d : Deferred) (w₁' : World) (f : FuncId) (args : Array Value) (w₂ : World),
      (Instr.enterLoop fn a.tmps ps assign body (FW none).round).run P w = .ok (l, mark) w₁ ∧
      (resolve a.eval (rangeCall g l) 0).run P w₁ = .ok d w₁' ∧
      (∀ f', Target.leads P w₁' d.target d.args = some f' → (FW none).fn f') ∧
      (invoke d.target d.args).run P w₁' = .ok (.enter f args) w₂ ∧
      ((FW none).depth.isSome = true → 1 ≤ nn) ∧
      CallsIn (FW none) (nn - 1) P f args w₂ (rangePost (FW none) nn P l (Rel bm N we me D0 Q) { a with defers := mark ++ a.defers }) := by
    intro f A B args hg hV hc
    have hent := (callF_ok hcall hc).1
    have hcalls := (callF_ok hcall hc).2 w2 m2 _ hS2 hV
    have hpost : ∀ e w', Post w2 m2 (endRF s Q (len s.K)) e w' → rangePost (FW none) nn P (w.heap.size + 1) (Rel bm N we me D0 Q) { a with defers := [{ target := .collected w.heap.size, args := #[] }] ++ a.defers } e w' := by
      intro e w' hR
      exact endRF_ok hT12 hL2 hρ2 hTr hE hN hMk2 hR
    have hcc : CallsIn (FW none) (nn - 1) P f (A ++ #[.func (.yield (w.heap.size + 1)) #[] #[]] ++ B) w2 (rangePost (FW none) nn P (w.heap.size + 1) (Rel bm N we me D0 Q) { a with defers := [{ target := .collected w.heap.size, args := #[] }] ++ a.defers }) :=
      FW.calls (hcalls.mono hpost)
    have h1 : (Instr.enterLoop fn a.tmps ps assign body (FW none).round).run P w = .ok (w.heap.size + 1, [{ target := .collected w.heap.size, args := #[] }]) w2 := by
      rw [← hw2, hrec]; exact run_enterLoop_outer _ _ _ _ _
    have h2 : (resolve a.eval (rangeCall g (w.heap.size + 1)) 0).run P w2 = .ok { target := .fn (.func f) B, args := A ++ #[.func (.yield (w.heap.size + 1)) #[] #[]] } w2 := by
      simp only [resolve, hg]
      simp [go_sem]
    have h3 : (invoke (.fn (.func f) B) (A ++ #[.func (.yield (w.heap.size + 1)) #[] #[]])).run P w2 = .ok (.enter f (A ++ #[.func (.yield (w.heap.size + 1)) #[] #[]] ++ B)) w2 := by
      simp [invoke, callFunc_run hent]
    exact ⟨_, _, w2, _, w2, f, _, w2, h1, h2, fun _ _ => trivial, h3, FW.depth, hcc⟩
  have hg := (hE.ev g).mono hT12
  generalize hgv : a.eval g = ug at hg
  generalize ev s.t g = ag at henv hg
  cases hg with
  | fn f first cap A B hA hB h1 h2 =>
    simp only [fVL_eq, catL_eq] at henv
    refine key f A B _ hgv ?_ henv
    have hc : VL w2 m2 [.yld (len s.K)] #[.func (.yield (w.heap.size + 1)) #[] #[]] := ⟨rfl, fun j hj hj' => by
      have : j = 0 := by simpa using hj
      subst this; exact hyl⟩
    have := (VL.append ⟨hA, h1⟩ hc).append ⟨hB, h2⟩
    simpa using this
  | p v u hv =>
    cases hv with
    | fn f =>
      refine key f #[] #[] _ hgv ?_ henv
      exact ⟨rfl, fun j hj hj' => by
        have : j = 0 := by simpa using hj
        subst this; exact hyl⟩
    | _ => exact henv.elim
  | _ => exact henv.elim

theorem awp_ok (hT : TabOk P T) (hcall : CallOk P call) (hmix : P.follows .mixedOrders = true) (hkb : ∀ r, kb ≤ r → me.L r = .absent) (hD0 : ∀ d ∈ D0, ∀ D, d.target ≠ .collected D) (c : Code) : ∀ (s : AS) (Q : Ex → AS → Prop), awp T call kb N c s Q →
    ∀ (w : World) (m : Mp) (a : Act), Tr we me w m → St w m (hp s.K) → EnvOk w m s.t a.tmps → a.tmps.size = N → Mk bm we D0 w m a.defers → ((ro = none ∧ bm = true) ∨ noRF c = true) → c.wpIn (FW ro) nn P (Rel bm N we me D0 Q) a w := by
  induction c with
  | skip => intro s Q h w m a hTr hS hE hN hd hrf; exact wpIn_skip ⟨hN, m, s, hd, hTr, hS, hE, h⟩
  | ret => intro s Q h w m a hTr hS hE hN hd hrf; exact wpIn_ret ⟨hN, m, s, hd, hTr, hS, hE, h⟩
  | exit n => intro s Q h w m a hTr hS hE hN hd hrf; exact wpIn_exit ⟨hN, m, s, hd, hTr, hS, hE, h⟩
  | region id ops draw =>
    intro s Q h w m a hTr hS hE hN hd hrf
    cases draw with
    | true =>
      replace h : wRegion T call N id ops true s Q := h
      simp only [wRegion] at h
      split at h
      case h_2 => exact h.elim
      rename_i hB
      exact adraw_ok hT hcall hmix hB h w m a hTr hS hE hN hd
    | false => exact wpIn_region_list (aops_ok hT hcall ops.toList _ _ h w m a hTr hS hE hN hd)
  | seq x y ihx ihy =>
    intro s Q h w m a hTr hS hE hN hd hrf
    replace h : awp T call kb N x s (wSeqK (awp T call kb N y) Q) := h
    refine wpIn_seq (wpIn_mono (ihx s _ h w m a hTr hS hE hN hd (hrf.imp id fun h => by simp only [noRF, Bool.and_eq_true] at h; exact h.1)) (fun e a' w' hR => ?_))
    cases e with
    | normal =>
      obtain ⟨h1, m', s', h2, h3, h4, h5, h6⟩ := hR
      exact ihy s' Q h6 w' m' a' h3 h4 h5 h1 h2 (hrf.imp id fun h => by simp only [noRF, Bool.and_eq_true] at h; exact h.2)
    | exit n => exact hR
    | ret => exact hR
    | panic ch => exact hR
    | goto l => exact hR
    | outgrown => exact hR
  | cond cc x y ihx ihy =>
    intro s Q h w m a hTr hS hE hN hd hrf
    cases cc with
    | tmp i =>
      replace h : wCond (.tmp i) x y (awp T call kb N x) (awp T call kb N y) s Q := h
      simp only [wCond] at h
      split at h
      case h_2 => exact h.elim
      rename_i q hq
      have hb := hE.bool hq
      have hev : a.eval (.tmp i) = .bool q := by simp [Act.eval, Array.getD_eq_getD_getElem?, hb]
      have hE' := hE.know hq
      refine wpIn_cond hev ?_
      cases q with
      | true => exact ihx _ Q h w m a hTr hS hE' hN hd (hrf.imp id fun h => by simp only [noRF, Bool.and_eq_true] at h; exact h.1)
      | false => exact ihy _ Q h w m a hTr hS hE' hN hd (hrf.imp id fun h => by simp only [noRF, Bool.and_eq_true] at h; exact h.2)
    | const v =>
      replace h : wCond (.const v) x y (awp T call kb N x) (awp T call kb N y) s Q := h
      simp only [wCond] at h
      split at h
      · rename_i x i hx; cases hx
      · rename_i q hq
        injection hq with hq
        subst hq
        refine wpIn_cond (t := q) rfl ?_
        cases q with
        | true => exact ihx _ Q h w m a hTr hS hE hN hd (hrf.imp id fun h => by simp only [noRF, Bool.and_eq_true] at h; exact h.1)
        | false => exact ihy _ Q h w m a hTr hS hE hN hd (hrf.imp id fun h => by simp only [noRF, Bool.and_eq_true] at h; exact h.2)
      · exact h.elim
    | global g => exact h.elim
    | func f => exact h.elim
  | block id x ih =>
    intro s Q h w m a hTr hS hE hN hd hrf
    refine wpIn_block (wpIn_mono (ih s _ h w m a hTr hS hE hN hd hrf) (fun e a' w' hR => ?_))
    cases e with
    | exit n =>
      obtain ⟨h1, m', s', h2, h3, h4, h5, h6⟩ := hR
      simp only [Exit.inBlock]
      simp only [contB] at h6
      by_cases e : n = id
      · subst e
        rw [if_pos rfl]
        rw [show Nat.beq n n = true by simp] at h6
        exact ⟨h1, m', s', h2, h3, h4, h5, h6⟩
      · rw [if_neg e]
        rw [show Nat.beq n id = false by cases e' : Nat.beq n id with
          | true => exact absurd (Nat.eq_of_beq_eq_true e') e
          | false => rfl] at h6
        exact ⟨h1, m', s', h2, h3, h4, h5, h6⟩
    | normal => exact hR
    | ret => exact hR
    | panic ch => exact hR
    | goto l => exact hR
    | outgrown => exact hR
  | loop x ih =>
    intro s Q h w m a hTr hS hE hN hd hrf
    replace h : wLoop kb x (awp T call kb N x) s Q := h
    unfold wLoop at h
    obtain ⟨t', ht, hE'⟩ := fE_ok h
    rw [fK_eq] at ht
    replace hE : EnvOk w m t' a.tmps := fun d => by rw [hE' d rfl]; exact hE d
    refine AtHead.loop ?_
    refine ht.out (fun s => ∀ (w : World) (m : Mp) (a : Act), Tr we me w m → St w m (hp s.K) → EnvOk w m s.t a.tmps → a.tmps.size = N → Mk bm we D0 w m a.defers → AtHead P ro x (Rel bm N we me D0 Q) a w) ?_ ?_ w m a hTr hS hE hN hd
    · intro s hs w m a hTr hS hE hN hd
      refine AtHead.step (nn := nn) (wpIn_mono (ih s _ hs w m a hTr hS hE hN hd hrf) (fun e a' w' hR => ?_))
      cases e with
      | normal =>
        obtain ⟨h1, m', s', h2, h3, h4, h5, h6⟩ := hR
        exact h6 w' m' a' h3 h4 h5 h1 h2
      | exit n => exact hR
      | ret => exact hR
      | panic ch => exact hR
      | goto l => exact hR
      | outgrown => exact hR
    · intro s s' hle hs w m a hTr hS hE hN hd
      obtain ⟨m', h1, h2, h3, h4⟩ := hle we me hkb w m a.tmps hTr hS hE
      exact hs w m' a h1 h2 h3 hN (hd.sub h4)
  | rangeFunc g ps assign body _ _ =>
    intro s Q h w m a hTr hS hE hN hd hrf
    obtain ⟨hro, hbm⟩ := hrf.resolve_right (by simp [noRF])
    exact rangeF_ok (x := awp T call kb N assign) (y := awp T call kb N body) hT hcall hmix hD0 hro hbm g ps assign body s Q h w m a hTr hS hE hN hd
  | scope => intro s Q h; exact h.elim
  | label => intro s Q h; exact h.elim
  | goto => intro s Q h; exact h.elim
  | refuse => intro s Q h; exact h.elim

/-! ### rounds -/
theorem bindPs_ok {w : World} {m : Mp} : ∀ (ps : List Nat) (args : List AV) (Args : List Value) (env : List (Nat × AV)) (tmps : Array Value) (t : List (Nat × AV)), bindPs N ps args env = some t → args.length = Args.length →
    (∀ j (hj : j < args.length) (hj' : j < Args.length), V w m args[j] Args[j]) → EnvOk w m env tmps → tmps.size = N →
    EnvOk w m t ((ps.zip Args).foldl (fun tmps (t, a) => tmps.setIfInBounds t a) tmps) ∧ ((ps.zip Args).foldl (fun tmps (t, a) => tmps.setIfInBounds t a) tmps).size = N ∧ Args.length = ps.length := by
  intro ps
  induction ps with
  | nil =>
    intro args Args env tmps t h hl hv hE hN
    cases args with
    | nil =>
      simp only [bindPs, Option.some.injEq] at h
      subst h
      exact ⟨by simpa using hE, by simpa using hN, by simpa using hl.symm⟩
    | cons a args => simp [bindPs] at h
  | cons p ps ih =>
    intro args Args env tmps t h hl hv hE hN
    cases args with
    | nil => simp [bindPs] at h
    | cons a args =>
      cases Args with
      | nil => simp at hl
      | cons u Args =>
        simp only [bindPs] at h
        split at h
        case h_2 => simp at h
        rename_i hb
        have hp := Nat.le_of_ble_eq_true hb
        have hv0 : V w m a u := hv 0 (by simp) (by simp)
        obtain ⟨h1, h2, h3⟩ := ih args Args _ (tmps.setIfInBounds p u) t h (by simpa using hl) (fun j hj hj' => hv (j + 1) (by simp; omega) (by simp; omega)) (hE.set (by omega) hv0) (by simpa using hN)
        exact ⟨by simpa using h1, by simpa using h2, by simp [h3]⟩

theorem around_ok (hT : TabOk P T) (hcall : CallOk P call) (hmix : P.follows .mixedOrders = true) {r : Nat} {args : List AV} {K : List ABlk} {k : AO → List ABlk → Prop} (h : around T call r args K k) : ARound P r args K k := by
  intro w m Args u hS hA hu
  unfold around rd2 at h
  split at h
  case h_2 => exact h.elim
  rename_i st env N' ps assign body hnth
  cases st with
  | ready =>
    simp only at h
    split at h
    case h_2 => exact h.elim
    rename_i t hbind
    split at h
    case h_2 => exact h.elim
    rename_i hrf
    simp only [Bool.and_eq_true] at hrf
    rw [fK_eq] at h
    have hb := hS.blk r
    rw [hp_nth hnth] at hb
    obtain ⟨hl, p, fn, tmps, D, hh, hp', hsz, hV⟩ := hb
    have hp'' : p = none := hp'
    subst hp''
    have hlive : (m.L r).isLive := by rw [hl]; trivial
    have hue : u = .func (.yield (m.ρ r)) #[] #[] := by
      cases hu with
      | yld => rfl
      | yldOld _ b ho => rw [hl] at ho; simp [Inf.old] at ho
    obtain ⟨hE1, hN1, hlen⟩ := bindPs_ok ps.toList args Args.toList env tmps t hbind (by simpa using hA.1) (fun j hj hj' => by simpa using hA.2 j hj (by simpa using hj')) (fun d => hV d) hsz
    have hfold : (ps.zip Args).foldl (fun tmps (t, a) => tmps.setIfInBounds t a) tmps = (ps.toList.zip Args.toList).foldl (fun tmps (t, a) => tmps.setIfInBounds t a) tmps := by
      rw [← Array.foldl_toList, Array.toList_zip]
    rw [← hfold] at hE1 hN1
    refine ⟨m.ρ r, fn, _, assign, body, hue, run_yield hh (by simpa using hlen), fun n => roundIn_of_wpIn trivial ?_⟩
    have hkb : ∀ r, len K ≤ r → m.L r = .absent := fun r hr => hS.absent (by
      simp only [hp, nth_eq]
      rw [len_eq] at hr
      rw [List.getElem?_eq_none hr])
    refine wpIn_mono (awp_ok (ro := some (m.ρ r)) (bm := true) (D0 := []) (we := w) (me := m) hT hcall hmix hkb (fun d hd => by simp at hd) assign _ _ h w m { tmps := (ps.zip Args).foldl (fun tmps (t, a) => tmps.setIfInBounds t a) tmps, defers := [] } (Tr.refl w m) hS hE1 hN1 .base (.inr hrf.1)) ?_
    intro e a1 w1 hR
    cases e with
    | normal =>
      obtain ⟨hN2, m1, s1, hM1, hT1, hS1, hE2, hQ⟩ := hR
      simp only [aroundB, rd2] at hQ
      split at hQ
      case h_2 => exact hQ.elim
      rename_i st1 env1 N1 ps1 as1 bd1 hnth1
      cases st1 with
      | ready =>
        simp only [fL_eq] at hQ
        have hb1 := hS1.blk r
        rw [hp_nth hnth1] at hb1
        obtain ⟨hl1, p1, fn1, tmps1, D1, hh1, hp1, hsz1, hV1⟩ := hb1
        have hlive1 : (m1.L r).isLive := by rw [hl1]; trivial
        have hρ1 : m1.ρ r = m.ρ r := lp_stands hT1 hl hl1
        have hp1' : p1 = none := hp1
        subst hp1'
        obtain ⟨o, ho⟩ : ∃ o : Obj, o = .loop { state := .busy, pending := none, fn := fn1, tmps := tmps1, params := ps1, assign := as1, body := bd1, defers := D1 } := ⟨_, rfl⟩
        have hT3 := Tr.putObj hS1 r hlive1 o
        have hS3 := hS1.putObj r hlive1 o (.lp .busy env1 N1 ps1 as1 bd1) ⟨hl1, none, fn1, tmps1, D1, by rw [World.putObj_heap_same (hS1.lt _ hlive1), ho]; rfl, rfl, hsz1, fun d => (hV1 d).mono hT3⟩
        rw [← hp_set s1.K r _ _ hnth1] at hS3
        refine ⟨_, run_beginRound (by rw [← hρ1]; exact hh1) rfl, ?_⟩
        show Code.wpIn (FW (some (m.ρ r))) n P body _ a1 (w1.putObj (m.ρ r) (.loop { state := .busy, pending := none, fn := fn1, tmps := tmps1, params := ps1, assign := as1, body := bd1, defers := D1 }))
        rw [← ho, ← hρ1]
        refine wpIn_mono (awp_ok (ro := some (m1.ρ r)) (bm := true) (D0 := []) (we := w) (me := m) hT hcall hmix hkb (fun d hd => by simp at hd) body _ _ hQ (w1.putObj (m1.ρ r) o) m1 a1 (hT1.trans hT3) hS3 (hE2.mono hT3) hN2 (hM1.mono hT3) (.inr hrf.2)) ?_
        -- the round's end
        have fin : ∀ (jump : Option Code) (st' : LSt) (w4 : World) (m4 : Mp) (s4 : AS) (env4 : List (Nat × AV)) (N4 : Nat) (ps4 : Array Tmp) (as4 bd4 : Code), Tr w m w4 m4 → St w4 m4 (hp s4.K) → nth s4.K r = some (.lp LSt.busy env4 N4 ps4 as4 bd4) ∨ (∃ st, nth s4.K r = some (.lp st env4 N4 ps4 as4 bd4)) →
            st'.state = (if jump.isNone then .ready else .done) → st'.pends jump →
            k (.ret (.p (.bool jump.isNone))) (setN s4.K r (.lp st' env4 N4 ps4 as4 bd4)) →
            ∃ v w5, (Instr.endRound (m1.ρ r) jump).run P w4 = .ok v w5 ∧ Post w m k (.returned v) w5 := by
          intro jump st' w4 m4 s4 env4 N4 ps4 as4 bd4 hT4 hS4 hn4 hst hpd hk
          obtain ⟨st4, hn4⟩ : ∃ st, nth s4.K r = some (.lp st env4 N4 ps4 as4 bd4) := by
            rcases hn4 with h | h
            · exact ⟨_, h⟩
            · exact h
          have hb4 := hS4.blk r
          rw [hp_nth hn4] at hb4
          obtain ⟨hl4, p4, fn4, tmps4, D4, hh4, hp4, hsz4, hV4⟩ := hb4
          have hlive4 : (m4.L r).isLive := by rw [hl4]; trivial
          have hρ4 : m4.ρ r = m1.ρ r := (lp_stands hT4 hl hl4).trans hρ1.symm
          obtain ⟨o4, ho4⟩ : ∃ o : Obj, o = .loop { state := (if jump.isNone then .ready else .done), pending := jump, fn := fn4, tmps := tmps4, params := ps4, assign := as4, body := bd4, defers := D4 } := ⟨_, rfl⟩
          have hT5 := Tr.putObj hS4 r hlive4 o4
          have hS5 := hS4.putObj r hlive4 o4 (.lp st' env4 N4 ps4 as4 bd4) ⟨hl4, jump, fn4, tmps4, D4, by rw [World.putObj_heap_same (hS4.lt _ hlive4), ho4, hst], hpd, hsz4, fun d => (hV4 d).mono hT5⟩
          rw [← hp_set s4.K r _ _ hn4] at hS5
          refine ⟨_, _, run_endRound jump (by rw [← hρ4]; exact hh4), ?_⟩
          rw [hρ4, ho4] at hT5 hS5
          exact ⟨m4, _, _, hT4.trans hT5, hS5, .p _ _ (.bool _), hk⟩
        intro e a2 w2 hR2
        cases e with
        | normal =>
          obtain ⟨_, m4, s4, _, hT4, hS4, _, hQ4⟩ := hR2
          simp only [aroundE, rd2, fL_eq, fK_eq] at hQ4
          split at hQ4
          case h_2 => exact hQ4.elim
          rename_i hn4
          exact fin none .ready w2 m4 s4 _ _ _ _ _ hT4 hS4 (.inr ⟨_, hn4⟩) rfl rfl hQ4
        | ret =>
          obtain ⟨_, m4, s4, _, hT4, hS4, _, hQ4⟩ := hR2
          simp only [aroundE, rd2, fL_eq, fK_eq] at hQ4
          split at hQ4
          case h_2 => exact hQ4.elim
          rename_i hn4
          exact fin (some .ret) .ret w2 m4 s4 _ _ _ _ _ hT4 hS4 (.inr ⟨_, hn4⟩) rfl rfl hQ4
        | exit id =>
          obtain ⟨_, m4, s4, _, hT4, hS4, _, hQ4⟩ := hR2
          simp only [aroundE, rd2, fL_eq, fK_eq] at hQ4
          split at hQ4
          case h_2 => exact hQ4.elim
          rename_i hn4
          exact fin (some (.exit id)) (.exit id) w2 m4 s4 _ _ _ _ _ hT4 hS4 (.inr ⟨_, hn4⟩) rfl rfl hQ4
        | panic ch => obtain ⟨_, _, _, _, _, _, _, _, _, _, _, hQ4⟩ := hR2; exact hQ4.elim
        | goto l => exact hR2.elim
        | outgrown => exact hR2.elim
      | _ => exact hQ.elim
    | exit n => obtain ⟨_, _, _, _, _, _, _, hQ⟩ := hR; exact hQ.elim
    | ret => obtain ⟨_, _, _, _, _, _, _, hQ⟩ := hR; exact hQ.elim
    | panic ch => obtain ⟨_, _, _, _, _, _, _, _, _, _, _, hQ⟩ := hR; exact hQ.elim
    | goto l => exact hR.elim
    | outgrown => exact hR.elim
  | _ => exact h.elim

/-! ### results, bodies, calls -/
/-- one result -/
def resOf (tmps : Array Value) : ResultVar → Sem Value
  | .tmp t => pure (tmps.getD t undef)
  | .cell a t => do loadVar t (← asAddr (tmps.getD a undef))

theorem ares1_ok (hT : TabOk P T) {w : World} {m : Mp} {t : List (Nat × AV)} {K : List ABlk} {a : Act} (hS : St w m (hp K)) (hE : EnvOk w m t a.tmps) {r : ResultVar} {q : AV → Prop} (h : ares1 T t K r q) :
    ∃ u v, (resOf a.tmps r).run P w = .ok u w ∧ V w m v u ∧ q v := by
  cases r with
  | tmp i =>
    simp only [ares1, fV_eq] at h
    exact ⟨_, _, rfl, hE i, h⟩
  | cell i ty =>
    simp only [ares1] at h
    obtain ⟨ad, x, b, e, h1, h2, h3⟩ := opLoad_same (k := fun v _ => q v) hT hS (hE i) h
    exact ⟨x, b, by simp [resOf, e, asAddr, h1], h2, h3⟩

theorem aresL_ok (hT : TabOk P T) {w : World} {m : Mp} {t : List (Nat × AV)} {K : List ABlk} {a : Act} (hS : St w m (hp K)) (hE : EnvOk w m t a.tmps) (l : List ResultVar) : ∀ (q : List AV → Prop), aresL T t K q l →
    ∃ (us : List Value) (vs : List AV), (l.mapM (resOf a.tmps)).run P w = .ok us w ∧ VL w m vs us.toArray ∧ q vs := by
  induction l with
  | nil => intro q h; exact ⟨[], [], rfl, VL.nil w m, h⟩
  | cons r l ih =>
    intro q h
    rw [aresL_cons] at h
    obtain ⟨u, v, h1, h2, h3⟩ := ares1_ok hT hS hE h
    obtain ⟨us, vs, h4, h5, h6⟩ := ih _ h3
    refine ⟨u :: us, v :: vs, ?_, ?_, h6⟩
    · rw [List.mapM_cons, Sem.run_bind, h1]
      simp only [Result.andThen_ok, Sem.run_bind, h4, Sem.run_pure]
    · refine ⟨by have := h5.1; simpa using this, fun j hj hj' => ?_⟩
      cases j with
      | zero => exact h2
      | succ j =>
        have := h5.2 j (by simpa using hj) (by simpa using hj')
        simpa using this

theorem ares_ok (hT : TabOk P T) {w : World} {m : Mp} {s : AS} {a : Act} (hS : St w m (hp s.K)) (hE : EnvOk w m s.t a.tmps) {fn : Func} {q : AV → Prop} (h : ares T fn s q) :
    ∃ u v, (results fn a.tmps).run P w = .ok u w ∧ V w m v u ∧ q v := by
  unfold ares at h
  obtain ⟨us, vs, h1, h2, h3⟩ := aresL_ok hT hS hE fn.results.toList _ h
  have hm : (fn.results.mapM (resOf a.tmps)).run P w = .ok us.toArray w := by
    rw [Array.mapM_eq_mapM_toList, Sem.run_map, h1]
    rfl
  have hl := h2.1
  have hr : (results fn a.tmps).run P w = .ok (if h : us.toArray.size = 1 then us.toArray[0] else .tuple us.toArray) w := by
    have e : results fn a.tmps = (do let vs ← fn.results.mapM (resOf a.tmps); pure (if h : vs.size = 1 then vs[0] else .tuple vs)) := by
      unfold results
      congr 1
    rw [e, Sem.run_bind, hm]
    rfl
  match vs, h2, hl, h3 with
  | [v], h2, hl, h3 =>
    have h1' : us.toArray.size = 1 := by simpa using hl.symm
    rw [dif_pos h1'] at hr
    exact ⟨_, v, hr, h2.2 0 (by simp) (by omega), h3⟩
  | [], h2, hl, h3 =>
    have h1' : ¬ us.toArray.size = 1 := by simp at hl; simp [← hl]
    rw [dif_neg h1'] at hr
    exact ⟨_, _, hr, .tup _ _ h2.1 h2.2, h3⟩
  | v :: v' :: vs, h2, hl, h3 =>
    have h1' : ¬ us.toArray.size = 1 := by simp at hl; simp [← hl]
    rw [dif_neg h1'] at hr
    exact ⟨_, _, hr, .tup _ _ h2.1 h2.2, h3⟩

theorem look_frame0 (l : List AV) (i d : Nat) : look (frame0 i l) d = if h : i ≤ d ∧ d < i + l.length then l[d - i]'(by omega) else .junk := by
  induction l generalizing i with
  | nil => simp only [frame0, look, List.length_nil, Nat.add_zero]; rw [dif_neg (by omega)]
  | cons a l ih =>
    simp only [frame0]
    rw [look_cons]
    by_cases e : i = d
    · subst e; rw [if_pos rfl, dif_pos (by simp)]; simp
    · rw [if_neg e, ih]
      by_cases h : i + 1 ≤ d ∧ d < i + 1 + l.length
      · rw [dif_pos h, dif_pos (by simp; omega)]
        simp only [show d - i = (d - (i + 1)) + 1 by omega, List.getElem_cons_succ]
      · rw [dif_neg h, dif_neg (by simp; omega)]

theorem EnvOk.frame {w : World} {m : Mp} {args : List AV} {Args : Array Value} (h : VL w m args Args) (n : Nat) : EnvOk w m (frame0 0 args) (Args ++ Array.replicate n undef) := by
  intro d
  rw [look_frame0]
  by_cases hd : d < args.length
  · rw [dif_pos (by omega)]
    have hd' : d < Args.size := by rw [← h.1]; exact hd
    have e : (Args ++ Array.replicate n undef).getD d undef = Args[d] := by
      rw [Array.getD_eq_getD_getElem?, Array.getElem?_append_left hd']
      simp [hd']
    rw [e]
    simpa using h.2 d hd hd'
  · rw [dif_neg (by omega)]
    exact .junk _

/-- a mark taken in -/
theorem take_mark {w : World} {m : Mp} {H : Nat → ABlk} {D : Nat} {ds : List Deferred} (hI : ∀ b, me.I b → b < we.heap.size) (h1 : Tr we me w m) (h2 : St w m H) 
    (h : Mk bm we D0 w m ds) (hW : we.heap.size ≤ D) (hI' : ¬ m.I D) (hO : ∀ r, (m.L r).isLive → m.ρ r ≠ D) (h5 : ∀ d ∈ ds, d.target ≠ .collected D) :
    Tr we me (w.putObj D (.deferred none)) m ∧ St (w.putObj D (.deferred none)) m H ∧ Mk bm we D0 (w.putObj D (.deferred none)) m ds := by
  refine ⟨h1.aside D hW hI _, h2.aside D hI' hO _, ?_⟩
  induction h with
  | base => exact .base
  | mark hb D' ds k1 k2 k3 k4 k5 _ ih =>
    refine .mark hb D' ds k1 ((World.putObj_heap_other (fun e => ?_)).trans k2) k3 k4 k5 (ih fun d hd => h5 d (List.mem_cons_of_mem _ hd))
    exact h5 _ (List.mem_cons_self ..) (by rw [e])

theorem leaves_marks {fn : Func} {tmps : Array Value} {R : Ending → World → Prop} {m : Mp} {H : Nat → ABlk} {u : FrameMode} (hu : u ≠ .run) (hI : ∀ b, me.I b → b < we.heap.size) : ∀ (ds : List Deferred) (w : World),
    Tr we me w m → St w m H → Mk bm we [] w m ds → (∀ w', Tr we me w' m → St w' m H → (∀ a u, V w m a u → V w' m a u) → LeavesIn (FW none) 0 P fn tmps R [] u w') → LeavesInM (FW none) 0 P fn tmps R ds u w := by
  intro ds
  induction ds with
  | nil => intro w h1 h2 _ h; exact h w h1 h2 (fun _ _ h => h)
  | cons d ds ih =>
    intro w h1 h2 hd h
    cases hd with
    | mark hb D ds k1 k2 k3 k4 k5 k6 =>
      obtain ⟨h3, h4, h5⟩ := take_mark hI h1 h2 k6 k1 k3 k4 k5
      refine ⟨hu, .inl ⟨D, _, rfl, run_takeDeferred k2, ih _ h3 h4 h5 fun w' e1 e2 e3 => h w' e1 e2 fun a u hv => e3 a u (hv.aside D k3 _)⟩⟩

theorem abody_ok (hT : TabOk P T) (hcall : CallOk P call) (hmix : P.follows .mixedOrders = true) {f : FuncId} {fn : Func} (hf : P.funcs[f]? = some fn) (hn : (fn.name == "runtime.NumGoroutine") = false) {args : List AV} {K : List ABlk} {k : AO → List ABlk → Prop}
    (h : abody T call fn args K k) : ACalls P f args K k := by
  unfold abody at h
  cases hb : fn.body with
  | none => rw [hb] at h; exact h.elim
  | some c =>
    rw [hb] at h
    simp only at h
    cases hl : Nat.ble (len args) fn.ntmps with
    | false => rw [hl] at h; exact h.elim
    | true =>
      rw [hl] at h
      have hle : args.length ≤ fn.ntmps := by have := Nat.le_of_ble_eq_true hl; rwa [len_eq] at this
      refine ⟨⟨fn, hf, hn, by rw [hb]; rfl⟩, fun w m Args hS hA => (callsIn_wide (n := 0)).1 (callsIn_of_wp_marks hf hb trivial ?_)⟩
      have hkb : ∀ r, len K ≤ r → m.L r = .absent := fun r hr => hS.absent (by
        simp only [hp, nth_eq]
        rw [len_eq] at hr
        rw [List.getElem?_eq_none hr])
      simp only [fK_eq, fV_eq] at h
      refine wpIn_mono (awp_ok (ro := none) (bm := true) (D0 := []) (we := w) (me := m) hT hcall hmix hkb (fun d hd => by simp at hd) c _ _ h w m _ (Tr.refl w m) hS (EnvOk.frame hA _) (by simp; have := hA.1; omega) .base (.inl ⟨rfl, rfl⟩)) (fun e a w' hR => ?_)
      cases e with
      | normal =>
        obtain ⟨_, m', s', hd, h1, h2, h3, h4⟩ := hR
        refine leaves_marks (by simp) hS.Ilt a.defers w' h1 h2 hd fun w2 e1 e2 e3 => ?_
        obtain ⟨u, v, h5, h6, h7⟩ := ares_ok (s := s') (a := a) hT e2 (fun d => e3 _ _ (h3 d)) h4
        exact ⟨u, h5, m', v, s'.K, e1, e2, h6, h7⟩
      | ret =>
        obtain ⟨_, m', s', hd, h1, h2, h3, h4⟩ := hR
        refine leaves_marks (by simp) hS.Ilt a.defers w' h1 h2 hd fun w2 e1 e2 e3 => ?_
        obtain ⟨u, v, h5, h6, h7⟩ := ares_ok (s := s') (a := a) hT e2 (fun d => e3 _ _ (h3 d)) h4
        exact ⟨u, h5, m', v, s'.K, e1, e2, h6, h7⟩
      | panic ch =>
        obtain ⟨_, m', s', v, u, hd, rfl, h1, h2, h3, h4, h5⟩ := hR
        exact leaves_marks (by simp) hS.Ilt a.defers w' h1 h2 hd fun w2 e1 e2 e3 => ⟨m', v, u, s'.K, rfl, e1, e2, e3 _ _ h4, h5⟩
      | exit n => obtain ⟨_, _, _, _, _, _, _, h⟩ := hR; exact h.elim
      | goto l => exact hR
      | outgrown => exact hR.elim

/-- the functions with a contract of their own -/
abbrev AG := FuncId → Option (List AV → List ABlk → (AO → List ABlk → Prop) → Prop)
def GOk (P : Program) (G : AG) : Prop := ∀ f g, G f = some g → ∀ args K k, g args K k → ACalls P f args K k

theorem acall_ok (hT : TabOk P T) (hmix : P.follows .mixedOrders = true) {G : AG} (hG : GOk P G) (n : Nat) : CallOk P (acall T G n) := by
  induction n with
  | zero => intro f args K k h; exact h.elim
  | succ n ih =>
    intro f args K k h
    rw [acall_succ] at h
    unfold acallS at h
    cases hb : Nat.blt f 1000000000 with
    | false =>
      rw [hb] at h
      exact ⟨fun e => by simp at e, fun _ => around_ok hT ih hmix h⟩
    | true =>
      rw [hb] at h
      refine ⟨fun _ => ?_, fun e => by simp at e⟩
      simp only at h
      cases hg : G f with
      | some g => rw [hg] at h; exact hG f g hg args K k h
      | none =>
        rw [hg] at h
        simp only at h
        cases hf : T.f.get f with
        | none => rw [hf] at h; exact h.elim
        | some fn =>
          rw [hf] at h
          obtain ⟨h1, h2⟩ := hT.f f fn hf
          exact abody_ok hT ih hmix h1 h2 h
/-- a call whose body is walked, whatever contract its function has -/
def acall1 (T : Tab) (G : AG) (n : Nat) : ACall := fun f args K k => match T.f.get f with
  | some fn => abody T (acall T G n) fn args K k
  | none => False
theorem acall1_ok (hT : TabOk P T) (hmix : P.follows .mixedOrders = true) {G : AG} (hG : GOk P G) (n : Nat) (f : FuncId) (args : List AV) (K : List ABlk) (k : AO → List ABlk → Prop) (h : acall1 T G n f args K k) : ACalls P f args K k := by
  unfold acall1 at h
  cases hf : T.f.get f with
  | none => rw [hf] at h; exact h.elim
  | some fn =>
    rw [hf] at h
    obtain ⟨h1, h2⟩ := hT.f f fn hf
    exact abody_ok hT (acall_ok hT hmix hG n) hmix h1 h2 h
end
end Go.AE

namespace Go.AE

def zB : PV → Value → Bool
  | .int k n, .int k' n' => decide (k = k') && decide (n = n')
  | .bool b, .bool b' => b == b'
  | .str l, .string s => l == s.data.toList
  | .nilp, .pointer none => true
  | .nils, .slice none 0 0 => true
  | .nilf, .nilFunc => true
  | .nili, .nilIface => true
  | .nilm, .map none => true
  | _, _ => false

theorem zB_ok {v : PV} {u : Value} (h : zB v u = true) (w : World) (I : Nat → Prop) : VP w I v u := by
  unfold zB at h
  split at h
  · simp only [Bool.and_eq_true, decide_eq_true_eq] at h; obtain ⟨rfl, rfl⟩ := h; exact .int ..
  · simp only [beq_iff_eq] at h; subst h; exact .bool ..
  · simp only [beq_iff_eq] at h; subst h; exact .str _ _ rfl
  · exact .nilp
  · exact .nils
  · exact .nilf
  · exact .nili
  · exact .nilm
  · simp at h

def zLB : List PV → List Value → Bool
  | [], [] => true
  | v :: l, u :: l' => zB v u && zLB l l'
  | _, _ => false

theorem zLB_ok {l : List PV} {l' : List Value} (h : zLB l l' = true) : l.length = l'.length ∧ ∀ w I j (hj : j < l.length) (hj' : j < l'.length), VP w I l[j] l'[j] := by
  induction l generalizing l' with
  | nil => cases l' with
    | nil => exact ⟨rfl, fun w I j hj => by simp at hj⟩
    | cons u l' => simp [zLB] at h
  | cons v l ih => cases l' with
    | nil => simp [zLB] at h
    | cons u l' =>
      simp only [zLB, Bool.and_eq_true] at h
      obtain ⟨h1, h2⟩ := ih h.2
      refine ⟨by simp [h1], fun w I j hj hj' => ?_⟩
      cases j with
      | zero => exact zB_ok h.1 w I
      | succ j => simpa using h2 w I j (by simpa using hj) (by simpa using hj')

def fsB (P : Program) : List Field → List (Nat × Nat) → Bool
  | [], [] => true
  | f :: l, (o, t) :: l' => Nat.beq f.offset o && Nat.beq f.type t && (P.info? f.type).isSome && fsB P l l'
  | _, _ => false

theorem fsB_ok {P : Program} {l : List Field} {l' : List (Nat × Nat)} (h : fsB P l l' = true) : l.map (fun f => (f.offset, f.type)) = l' ∧ ∀ f ∈ l, (P.info? f.type).isSome = true := by
  induction l generalizing l' with
  | nil => cases l' with
    | nil => exact ⟨rfl, by simp⟩
    | cons u l' => simp [fsB] at h
  | cons f l ih => cases l' with
    | nil => simp [fsB] at h
    | cons u l' =>
      obtain ⟨o, t⟩ := u
      simp only [fsB, Bool.and_eq_true] at h
      obtain ⟨⟨⟨h1, h2⟩, h3⟩, h4⟩ := h
      obtain ⟨h5, h6⟩ := ih h4
      refine ⟨?_, fun g hg => ?_⟩
      · rw [List.map_cons, h5, Nat.eq_of_beq_eq_true h1, Nat.eq_of_beq_eq_true h2]
      · cases List.mem_cons.1 hg with
        | inl e => rw [e]; exact h3
        | inr e => exact h6 g e

def utB (P : Program) : UT → TypeDesc → Bool
  | .int k, .int k' => decide (k = k')
  | .bool, .bool => true
  | .string, .string => true
  | .slice e, .slice e' => Nat.beq e e'
  | .ptr e, .pointer e' => Nat.beq e e'
  | .struct fs, .struct fields => fsB P fields.toList fs
  | .array n e, .array n' e' => Nat.beq n n' && Nat.beq e e'
  | .map k e, .map k' e' => Nat.beq k k' && Nat.beq e e'
  | .func, .func _ _ _ => true
  | .iface, .interface _ => true
  | .other, _ => true
  | _, _ => false

theorem utB_ok {P : Program} {u : UT} {d : TypeDesc} (h : utB P u d = true) : utOk P u d := by
  unfold utB at h
  split at h
  · simp only [decide_eq_true_eq] at h; subst h; rfl
  · rfl
  · rfl
  · have := Nat.eq_of_beq_eq_true h; subst this; rfl
  · have := Nat.eq_of_beq_eq_true h; subst this; rfl
  · exact ⟨_, rfl, fsB_ok h⟩
  · simp only [Bool.and_eq_true] at h
    have h1 := Nat.eq_of_beq_eq_true h.1
    have h2 := Nat.eq_of_beq_eq_true h.2
    subst h1 h2; rfl
  · simp only [Bool.and_eq_true] at h
    have h1 := Nat.eq_of_beq_eq_true h.1
    have h2 := Nat.eq_of_beq_eq_true h.2
    subst h1 h2; rfl
  · exact ⟨_, _, _, rfl⟩
  · exact ⟨_, rfl⟩
  · trivial
  · simp at h

def tiB (P : Program) (t : Nat) (ti : TI) : Bool :=
  match P.info? t with
  | none => false
  | some i => match P.underlying t with
    | none => false
    | some d => match i.zero with
      | none => false
      | some z => Nat.beq i.size ti.size && Nat.beq i.bytes ti.bytes && utB P ti.u d && zLB ti.zero z.cells.toList && (ti.agg == aggOf d) && (ti.agg == zAgg z)

theorem tiB_ok {P : Program} {t : Nat} {ti : TI} (h : tiB P t ti = true) : TIok P t ti := by
  unfold tiB at h
  cases hi : P.info? t with
  | none => rw [hi] at h; simp at h
  | some i =>
    rw [hi] at h
    simp only at h
    cases hu : P.underlying t with
    | none => rw [hu] at h; simp at h
    | some d =>
      rw [hu] at h
      simp only at h
      cases hz : i.zero with
      | none => rw [hz] at h; simp at h
      | some z =>
        rw [hz] at h
        simp only [Bool.and_eq_true, beq_iff_eq] at h
        obtain ⟨⟨⟨⟨⟨h1, h2⟩, h3⟩, h4⟩, h5⟩, h5'⟩ := h
        obtain ⟨h6, h7⟩ := zLB_ok h4
        exact ⟨i, d, z, hi, hu, Nat.eq_of_beq_eq_true h1, Nat.eq_of_beq_eq_true h2, utB_ok h3, hz, ⟨by simpa using h6, fun w I j hj hj' => by have := h7 w I j hj (by simpa using hj'); rwa [Array.getElem_toList] at this⟩, h5, h5'⟩

def TT.all {α : Type} (p : Nat → α → Bool) : TT α → Bool
  | .leaf => true
  | .node l k v r => l.all p && p k v && r.all p

theorem TT.all_get {α : Type} {p : Nat → α → Bool} {t : TT α} (h : t.all p = true) {k : Nat} {v : α} (hg : t.get k = some v) : p k v = true := by
  induction t with
  | leaf => simp [TT.get] at hg
  | node l k' v' r ihl ihr =>
    simp only [TT.all, Bool.and_eq_true] at h
    simp only [TT.get] at hg
    split at hg
    · rename_i e
      have := Nat.eq_of_beq_eq_true e
      subst this
      injection hg with hg
      subst hg
      exact h.1.2
    · split at hg
      · exact ihl h.1.1 hg
      · exact ihr h.2 hg

def FAll (P : Program) : TT Func → Prop
  | .leaf => True
  | .node l k v r => FAll P l ∧ P.funcs[k]? = some v ∧ FAll P r

theorem FAll.get {P : Program} {t : TT Func} (h : FAll P t) {k : Nat} {v : Func} (hg : t.get k = some v) : P.funcs[k]? = some v := by
  induction t with
  | leaf => simp [TT.get] at hg
  | node l k' v' r ihl ihr =>
    obtain ⟨h1, h2, h3⟩ := h
    simp only [TT.get] at hg
    split at hg
    · rename_i e
      have := Nat.eq_of_beq_eq_true e
      subst this
      injection hg with hg
      subst hg
      exact h2
    · split at hg
      · exact ihl h1 hg
      · exact ihr h3 hg

theorem TabOk.of {P : Program} {T : Tab} (h1 : T.t.all (tiB P) = true) (h2 : FAll P T.f) (h3 : T.f.all (fun _ fn => !(fn.name == "runtime.NumGoroutine")) = true) : TabOk P T :=
  ⟨fun _ _ hg => tiB_ok (TT.all_get h1 hg), fun _ _ hg => ⟨h2.get hg, by have := TT.all_get h3 hg; simpa using this⟩⟩

end Go.AE

namespace Go.Proofs.YtbcngegcpdppfaaGreatDoor
open Go.AE
set_option maxRecDepth 100000

noncomputable def Tt : TT TI := (.node (.node (.node (.node (.node (.node (.node (.node .leaf 1 ⟨.func, 1, 8, [.nilf], false⟩ .leaf) 2 ⟨.int .i64, 1, 8, [.int .i64 0], false⟩ .leaf) 3 ⟨.int .i64, 1, 8, [.int .i64 0], false⟩ (.node (.node .leaf 4 ⟨.bool, 1, 1, [.bool false], false⟩ .leaf) 5 ⟨.int .u8, 1, 1, [.int .u8 0], false⟩ .leaf)) 6 ⟨.int .u8, 1, 1, [.int .u8 0], false⟩ (.node (.node (.node .leaf 7 ⟨.struct [(0, 2), (1, 3), (2, 4), (3, 6)], 4, 24, [.int .i64 0, .int .i64 0, .bool false, .int .u8 0], true⟩ .leaf) 8 ⟨.struct [(0, 2), (1, 3), (2, 4), (3, 6)], 4, 24, [.int .i64 0, .int .i64 0, .bool false, .int .u8 0], true⟩ .leaf) 9 ⟨.string, 1, 16, [.str []], false⟩ (.node .leaf 10 ⟨.string, 1, 16, [.str []], false⟩ .leaf))) 11 ⟨.string, 1, 16, [.str []], false⟩ (.node (.node (.node (.node .leaf 12 ⟨.int .u64, 1, 8, [.int .u64 0], false⟩ .leaf) 13 ⟨.struct [(0, 9), (1, 12)], 2, 24, [.str [], .int .u64 0], true⟩ .leaf) 14 ⟨.struct [(0, 9), (1, 12)], 2, 24, [.str [], .int .u64 0], true⟩ (.node .leaf 15 ⟨.ptr 167, 1, 8, [.nilp], false⟩ .leaf)) 16 ⟨.ptr 170, 1, 8, [.nilp], false⟩ (.node (.node (.node .leaf 17 ⟨.ptr 177, 1, 8, [.nilp], false⟩ .leaf) 18 ⟨.struct [(0, 17)], 1, 8, [.nilp], true⟩ .leaf) 19 ⟨.struct [(0, 17)], 1, 8, [.nilp], true⟩ (.node .leaf 20 ⟨.iface, 1, 16, [.nili], false⟩ .leaf)))) 21 ⟨.int .i32, 1, 4, [.int .i32 0], false⟩ (.node (.node (.node (.node (.node .leaf 22 ⟨.func, 1, 8, [.nilf], false⟩ .leaf) 23 ⟨.slice 41, 1, 24, [.nils], false⟩ .leaf) 24 ⟨.struct [(0, 23), (1, 3)], 2, 32, [.nils, .int .i64 0], true⟩ (.node .leaf 25 ⟨.struct [(0, 23), (1, 3)], 2, 32, [.nils, .int .i64 0], true⟩ .leaf)) 26 ⟨.int .i64, 1, 8, [.int .i64 0], false⟩ (.node (.node (.node .leaf 28 ⟨.func, 1, 8, [.nilf], false⟩ .leaf) 29 ⟨.func, 1, 8, [.nilf], false⟩ .leaf) 30 ⟨.func, 1, 8, [.nilf], false⟩ (.node .leaf 31 ⟨.slice 46, 1, 24, [.nils], false⟩ .leaf))) 33 ⟨.func, 1, 8, [.nilf], false⟩ (.node (.node (.node (.node .leaf 34 ⟨.func, 1, 8, [.nilf], false⟩ .leaf) 35 ⟨.func, 1, 8, [.nilf], false⟩ .leaf) 36 ⟨.func, 1, 8, [.nilf], false⟩ (.node .leaf 37 ⟨.slice 9, 1, 24, [.nils], false⟩ .leaf)) 38 ⟨.func, 1, 8, [.nilf], false⟩ (.node (.node (.node .leaf 39 ⟨.slice 3, 1, 24, [.nils], false⟩ .leaf) 40 ⟨.struct [(0, 3), (1, 3), (2, 3), (3, 9), (4, 39)], 5, 64, [.int .i64 0, .int .i64 0, .int .i64 0, .str [], .nils], true⟩ .leaf) 41 ⟨.struct [(0, 3), (1, 3), (2, 3), (3, 9), (4, 39)], 5, 64, [.int .i64 0, .int .i64 0, .int .i64 0, .str [], .nils], true⟩ (.node .leaf 42 ⟨.slice 25, 1, 24, [.nils], false⟩ .leaf))))) 43 ⟨.func, 1, 8, [.nilf], false⟩ (.node (.node (.node (.node (.node (.node .leaf 44 ⟨.func, 1, 8, [.nilf], false⟩ .leaf) 45 ⟨.struct [(0, 3), (1, 3), (2, 3), (3, 9)], 4, 40, [.int .i64 0, .int .i64 0, .int .i64 0, .str []], true⟩ .leaf) 46 ⟨.struct [(0, 3), (1, 3), (2, 3), (3, 9)], 4, 40, [.int .i64 0, .int .i64 0, .int .i64 0, .str []], true⟩ (.node (.node .leaf 47 ⟨.func, 1, 8, [.nilf], false⟩ .leaf) 49 ⟨.func, 1, 8, [.nilf], false⟩ .leaf)) 50 ⟨.func, 1, 8, [.nilf], false⟩ (.node (.node (.node .leaf 51 ⟨.func, 1, 8, [.nilf], false⟩ .leaf) 52 ⟨.ptr 74, 1, 8, [.nilp], false⟩ .leaf) 53 ⟨.ptr 55, 1, 8, [.nilp], false⟩ (.node .leaf 54 ⟨.struct [(0, 31), (1, 3), (2, 26), (3, 3), (4, 3), (5, 3)], 6, 64, [.nils, .int .i64 0, .int .i64 0, .int .i64 0, .int .i64 0, .int .i64 0], true⟩ .leaf))) 55 ⟨.struct [(0, 31), (1, 3), (2, 26), (3, 3), (4, 3), (5, 3)], 6, 64, [.nils, .int .i64 0, .int .i64 0, .int .i64 0, .int .i64 0, .int .i64 0], true⟩ (.node (.node (.node (.node .leaf 56 ⟨.func, 1, 8, [.nilf], false⟩ .leaf) 57 ⟨.func, 1, 8, [.nilf], false⟩ .leaf) 58 ⟨.func, 1, 8, [.nilf], false⟩ (.node .leaf 60 ⟨.func, 1, 8, [.nilf], false⟩ .leaf)) 61 ⟨.func, 1, 8, [.nilf], false⟩ (.node (.node (.node .leaf 62 ⟨.func, 1, 8, [.nilf], false⟩ .leaf) 63 ⟨.func, 1, 8, [.nilf], false⟩ .leaf) 64 ⟨.func, 1, 8, [.nilf], false⟩ (.node .leaf 65 ⟨.func, 1, 8, [.nilf], false⟩ .leaf)))) 66 ⟨.func, 1, 8, [.nilf], false⟩ (.node (.node (.node (.node (.node .leaf 67 ⟨.func, 1, 8, [.nilf], false⟩ .leaf) 68 ⟨.func, 1, 8, [.nilf], false⟩ .leaf) 69 ⟨.func, 1, 8, [.nilf], false⟩ (.node .leaf 70 ⟨.struct [(0, 3), (1, 26)], 2, 16, [.int .i64 0, .int .i64 0], true⟩ .leaf)) 71 ⟨.struct [(0, 3), (1, 26)], 2, 16, [.int .i64 0, .int .i64 0], true⟩ (.node (.node (.node .leaf 73 ⟨.struct [(0, 31), (1, 23), (2, 3), (3, 3)], 4, 64, [.nils, .nils, .int .i64 0, .int .i64 0], true⟩ .leaf) 74 ⟨.struct [(0, 31), (1, 23), (2, 3), (3, 3)], 4, 64, [.nils, .nils, .int .i64 0, .int .i64 0], true⟩ .leaf) 75 ⟨.func, 1, 8, [.nilf], false⟩ (.node .leaf 76 ⟨.func, 1, 8, [.nilf], false⟩ .leaf))) 77 ⟨.func, 1, 8, [.nilf], false⟩ (.node (.node (.node (.node .leaf 78 ⟨.func, 1, 8, [.nilf], false⟩ .leaf) 79 ⟨.func, 1, 8, [.nilf], false⟩ .leaf) 80 ⟨.func, 1, 8, [.nilf], false⟩ (.node .leaf 81 ⟨.func, 1, 8, [.nilf], false⟩ .leaf)) 82 ⟨.func, 1, 8, [.nilf], false⟩ (.node (.node (.node .leaf 83 ⟨.func, 1, 8, [.nilf], false⟩ .leaf) 84 ⟨.iface, 1, 16, [.nili], false⟩ .leaf) 85 ⟨.iface, 1, 16, [.nili], false⟩ (.node .leaf 87 ⟨.func, 1, 8, [.nilf], false⟩ .leaf)))))) 88 ⟨.func, 1, 8, [.nilf], false⟩ (.node (.node (.node (.node (.node (.node (.node .leaf 89 ⟨.func, 1, 8, [.nilf], false⟩ .leaf) 91 ⟨.func, 1, 8, [.nilf], false⟩ .leaf) 92 ⟨.func, 1, 8, [.nilf], false⟩ (.node (.node .leaf 93 ⟨.func, 1, 8, [.nilf], false⟩ .leaf) 94 ⟨.func, 1, 8, [.nilf], false⟩ .leaf)) 95 ⟨.func, 1, 8, [.nilf], false⟩ (.node (.node (.node .leaf 96 ⟨.ptr 99, 1, 8, [.nilp], false⟩ .leaf) 97 ⟨.slice 5, 1, 24, [.nils], false⟩ .leaf) 98 ⟨.struct [(0, 96), (1, 97)], 2, 32, [.nilp, .nils], true⟩ (.node .leaf 99 ⟨.struct [(0, 96), (1, 97)], 2, 32, [.nilp, .nils], true⟩ .leaf))) 100 ⟨.func, 1, 8, [.nilf], false⟩ (.node (.node (.node (.node .leaf 101 ⟨.func, 1, 8, [.nilf], false⟩ .leaf) 102 ⟨.func, 1, 8, [.nilf], false⟩ .leaf) 103 ⟨.func, 1, 8, [.nilf], false⟩ (.node .leaf 104 ⟨.func, 1, 8, [.nilf], false⟩ .leaf)) 105 ⟨.func, 1, 8, [.nilf], false⟩ (.node (.node (.node .leaf 107 ⟨.func, 1, 8, [.nilf], false⟩ .leaf) 109 ⟨.func, 1, 8, [.nilf], false⟩ .leaf) 110 ⟨.func, 1, 8, [.nilf], false⟩ (.node .leaf 111 ⟨.func, 1, 8, [.nilf], false⟩ .leaf)))) 112 ⟨.func, 1, 8, [.nilf], false⟩ (.node (.node (.node (.node (.node .leaf 113 ⟨.func, 1, 8, [.nilf], false⟩ .leaf) 114 ⟨.func, 1, 8, [.nilf], false⟩ .leaf) 115 ⟨.func, 1, 8, [.nilf], false⟩ (.node .leaf 116 ⟨.func, 1, 8, [.nilf], false⟩ .leaf)) 117 ⟨.func, 1, 8, [.nilf], false⟩ (.node (.node (.node .leaf 118 ⟨.func, 1, 8, [.nilf], false⟩ .leaf) 119 ⟨.ptr 5, 1, 8, [.nilp], false⟩ .leaf) 120 ⟨.func, 1, 8, [.nilf], false⟩ (.node .leaf 121 ⟨.func, 1, 8, [.nilf], false⟩ .leaf))) 122 ⟨.int .i64, 1, 8, [.int .i64 0], false⟩ (.node (.node (.node (.node .leaf 124 ⟨.func, 1, 8, [.nilf], false⟩ .leaf) 125 ⟨.ptr 141, 1, 8, [.nilp], false⟩ .leaf) 126 ⟨.func, 1, 8, [.nilf], false⟩ (.node .leaf 127 ⟨.func, 1, 8, [.nilf], false⟩ .leaf)) 128 ⟨.func, 1, 8, [.nilf], false⟩ (.node (.node (.node .leaf 129 ⟨.func, 1, 8, [.nilf], false⟩ .leaf) 130 ⟨.func, 1, 8, [.nilf], false⟩ .leaf) 131 ⟨.other, 1, 8, [.nilp], false⟩ (.node .leaf 132 ⟨.func, 1, 8, [.nilf], false⟩ .leaf))))) 133 ⟨.func, 1, 8, [.nilf], false⟩ (.node (.node (.node (.node (.node (.node .leaf 134 ⟨.func, 1, 8, [.nilf], false⟩ .leaf) 135 ⟨.func, 1, 8, [.nilf], false⟩ .leaf) 136 ⟨.int .u64, 1, 8, [.int .u64 0], false⟩ (.node (.node .leaf 138 ⟨.func, 1, 8, [.nilf], false⟩ .leaf) 139 ⟨.int .u64, 1, 8, [.int .u64 0], false⟩ .leaf)) 140 ⟨.struct [(0, 9), (1, 9), (2, 85)], 3, 48, [.str [], .str [], .nili], true⟩ (.node (.node (.node .leaf 141 ⟨.struct [(0, 9), (1, 9), (2, 85)], 3, 48, [.str [], .str [], .nili], true⟩ .leaf) 142 ⟨.func, 1, 8, [.nilf], false⟩ .leaf) 143 ⟨.func, 1, 8, [.nilf], false⟩ (.node .leaf 144 ⟨.array 24 5, 24, 24, [.int .u8 0, .int .u8 0, .int .u8 0, .int .u8 0, .int .u8 0, .int .u8 0, .int .u8 0, .int .u8 0, .int .u8 0, .int .u8 0, .int .u8 0, .int .u8 0, .int .u8 0, .int .u8 0, .int .u8 0, .int .u8 0, .int .u8 0, .int .u8 0, .int .u8 0, .int .u8 0, .int .u8 0, .int .u8 0, .int .u8 0, .int .u8 0], true⟩ .leaf))) 145 ⟨.func, 1, 8, [.nilf], false⟩ (.node (.node (.node (.node .leaf 146 ⟨.func, 1, 8, [.nilf], false⟩ .leaf) 148 ⟨.func, 1, 8, [.nilf], false⟩ .leaf) 149 ⟨.func, 1, 8, [.nilf], false⟩ (.node .leaf 150 ⟨.func, 1, 8, [.nilf], false⟩ .leaf)) 151 ⟨.func, 1, 8, [.nilf], false⟩ (.node (.node (.node .leaf 152 ⟨.ptr 154, 1, 8, [.nilp], false⟩ .leaf) 153 ⟨.struct [(0, 9)], 1, 16, [.str []], true⟩ .leaf) 154 ⟨.struct [(0, 9)], 1, 16, [.str []], true⟩ (.node .leaf 155 ⟨.func, 1, 8, [.nilf], false⟩ .leaf)))) 156 ⟨.array 20 136, 20, 160, [.int .u64 0, .int .u64 0, .int .u64 0, .int .u64 0, .int .u64 0, .int .u64 0, .int .u64 0, .int .u64 0, .int .u64 0, .int .u64 0, .int .u64 0, .int .u64 0, .int .u64 0, .int .u64 0, .int .u64 0, .int .u64 0, .int .u64 0, .int .u64 0, .int .u64 0, .int .u64 0], true⟩ (.node (.node (.node (.node (.node .leaf 157 ⟨.int .u32, 1, 4, [.int .u32 0], false⟩ .leaf) 159 ⟨.func, 1, 8, [.nilf], false⟩ .leaf) 161 ⟨.func, 1, 8, [.nilf], false⟩ (.node .leaf 162 ⟨.slice 37, 1, 24, [.nils], false⟩ .leaf)) 163 ⟨.func, 1, 8, [.nilf], false⟩ (.node (.node (.node .leaf 164 ⟨.array 32 5, 32, 32, [.int .u8 0, .int .u8 0, .int .u8 0, .int .u8 0, .int .u8 0, .int .u8 0, .int .u8 0, .int .u8 0, .int .u8 0, .int .u8 0, .int .u8 0, .int .u8 0, .int .u8 0, .int .u8 0, .int .u8 0, .int .u8 0, .int .u8 0, .int .u8 0, .int .u8 0, .int .u8 0, .int .u8 0, .int .u8 0, .int .u8 0, .int .u8 0, .int .u8 0, .int .u8 0, .int .u8 0, .int .u8 0, .int .u8 0, .int .u8 0, .int .u8 0, .int .u8 0], true⟩ .leaf) 165 ⟨.array 64 5, 64, 64, [.int .u8 0, .int .u8 0, .int .u8 0, .int .u8 0, .int .u8 0, .int .u8 0, .int .u8 0, .int .u8 0, .int .u8 0, .int .u8 0, .int .u8 0, .int .u8 0, .int .u8 0, .int .u8 0, .int .u8 0, .int .u8 0, .int .u8 0, .int .u8 0, .int .u8 0, .int .u8 0, .int .u8 0, .int .u8 0, .int .u8 0, .int .u8 0, .int .u8 0, .int .u8 0, .int .u8 0, .int .u8 0, .int .u8 0, .int .u8 0, .int .u8 0, .int .u8 0, .int .u8 0, .int .u8 0, .int .u8 0, .int .u8 0, .int .u8 0, .int .u8 0, .int .u8 0, .int .u8 0, .int .u8 0, .int .u8 0, .int .u8 0, .int .u8 0, .int .u8 0, .int .u8 0, .int .u8 0, .int .u8 0, .int .u8 0, .int .u8 0, .int .u8 0, .int .u8 0, .int .u8 0, .int .u8 0, .int .u8 0, .int .u8 0, .int .u8 0, .int .u8 0, .int .u8 0, .int .u8 0, .int .u8 0, .int .u8 0, .int .u8 0, .int .u8 0], true⟩ .leaf) 166 ⟨.struct [(0, 17), (1, 17), (2, 17), (3, 9)], 4, 40, [.nilp, .nilp, .nilp, .str []], true⟩ (.node .leaf 167 ⟨.struct [(0, 17), (1, 17), (2, 17), (3, 9)], 4, 40, [.nilp, .nilp, .nilp, .str []], true⟩ .leaf))) 168 ⟨.array 0 16, 0, 0, [], true⟩ (.node (.node (.node (.node .leaf 169 ⟨.struct [(0, 168)], 0, 0, [], true⟩ .leaf) 170 ⟨.struct [(0, 168)], 0, 0, [], true⟩ .leaf) 171 ⟨.int .u8, 1, 1, [.int .u8 0], false⟩ (.node .leaf 172 ⟨.int .u8, 1, 1, [.int .u8 0], false⟩ .leaf)) 173 ⟨.func, 1, 8, [.nilf], false⟩ (.node (.node (.node .leaf 174 ⟨.int .i32, 1, 4, [.int .i32 0], false⟩ .leaf) 175 ⟨.int .i32, 1, 4, [.int .i32 0], false⟩ .leaf) 176 ⟨.struct [(0, 12), (1, 12), (2, 157), (3, 171), (4, 5), (5, 5), (6, 172), (7, 173), (8, 119), (9, 174), (10, 175)], 11, 48, [.int .u64 0, .int .u64 0, .int .u32 0, .int .u8 0, .int .u8 0, .int .u8 0, .int .u8 0, .nilf, .nilp, .int .i32 0, .int .i32 0], true⟩ (.node .leaf 177 ⟨.struct [(0, 12), (1, 12), (2, 157), (3, 171), (4, 5), (5, 5), (6, 172), (7, 173), (8, 119), (9, 174), (10, 175)], 11, 48, [.int .u64 0, .int .u64 0, .int .u32 0, .int .u8 0, .int .u8 0, .int .u8 0, .int .u8 0, .nilf, .nilp, .int .i32 0, .int .i32 0], true⟩ .leaf)))))))

noncomputable def Tf : TT Func := (.node (.node (.node (.node (.node (.node (.node (.node .leaf 0 Tryz.f0 .leaf) 1 Tryz.f1 (.node .leaf 2 Tryz.f2 .leaf)) 3 Tryz.f3 (.node (.node .leaf 4 Tryz.f4 .leaf) 5 Tryz.f5 .leaf)) 6 Tryz.f6 (.node (.node (.node .leaf 7 Tryz.f7 .leaf) 8 Tryz.f8 (.node .leaf 9 Tryz.f9 .leaf)) 10 Tryz.f10 (.node (.node .leaf 11 Tryz.f11 .leaf) 12 Tryz.f12 .leaf))) 13 Tryz.f13 (.node (.node (.node (.node .leaf 14 Tryz.f14 .leaf) 15 Tryz.f15 (.node .leaf 16 Tryz.f16 .leaf)) 17 Tryz.f17 (.node (.node .leaf 18 Tryz.f18 .leaf) 19 Tryz.f19 .leaf)) 20 Tryz.f20 (.node (.node (.node .leaf 21 Tryz.f21 .leaf) 22 Tryz.f22 .leaf) 23 Tryz.f23 (.node (.node .leaf 24 Tryz.f24 .leaf) 25 Tryz.f25 .leaf)))) 26 Tryz.f26 (.node (.node (.node (.node (.node .leaf 27 Tryz.f27 .leaf) 28 Tryz.f28 (.node .leaf 29 Tryz.f29 .leaf)) 30 Tryz.f30 (.node (.node .leaf 31 Tryz.f31 .leaf) 32 Tryz.f32 .leaf)) 33 Tryz.f33 (.node (.node (.node .leaf 34 Tryz.f34 .leaf) 35 Tryz.f35 .leaf) 36 Tryz.f36 (.node (.node .leaf 37 Tryz.f37 .leaf) 38 Tryz.f38 .leaf))) 39 Tryz.f39 (.node (.node (.node (.node .leaf 40 Tryz.f40 .leaf) 41 Tryz.f41 (.node .leaf 42 Tryz.f42 .leaf)) 43 Tryz.f43 (.node (.node .leaf 44 Tryz.f44 .leaf) 45 Tryz.f45 .leaf)) 46 Tryz.f46 (.node (.node (.node .leaf 47 Tryz.f47 .leaf) 48 Tryz.f48 .leaf) 49 Tryz.f49 (.node (.node .leaf 50 Tryz.f50 .leaf) 51 Tryz.f51 .leaf))))) 52 Tryz.f52 (.node (.node (.node (.node (.node (.node .leaf 53 Tryz.f53 .leaf) 54 Tryz.f54 (.node .leaf 55 Tryz.f55 .leaf)) 56 Tryz.f56 (.node (.node .leaf 57 Tryz.f57 .leaf) 58 Tryz.f58 .leaf)) 59 Tryz.f59 (.node (.node (.node .leaf 60 Tryz.f60 .leaf) 61 Tryz.f61 (.node .leaf 62 Tryz.f62 .leaf)) 63 Tryz.f63 (.node (.node .leaf 64 Tryz.f64 .leaf) 65 Tryz.f65 .leaf))) 66 Tryz.f66 (.node (.node (.node (.node .leaf 67 Tryz.f67 .leaf) 68 Tryz.f68 (.node .leaf 69 Tryz.f69 .leaf)) 70 Tryz.f70 (.node (.node .leaf 71 Tryz.f71 .leaf) 72 Tryz.f72 .leaf)) 73 Tryz.f73 (.node (.node (.node .leaf 74 Tryz.f74 .leaf) 75 Tryz.f75 .leaf) 76 Tryz.f76 (.node (.node .leaf 77 Tryz.f77 .leaf) 78 Tryz.f78 .leaf)))) 79 Tryz.f79 (.node (.node (.node (.node (.node .leaf 80 Tryz.f80 .leaf) 81 Tryz.f81 (.node .leaf 82 Tryz.f82 .leaf)) 83 Tryz.f83 (.node (.node .leaf 84 Tryz.f84 .leaf) 85 Tryz.f85 .leaf)) 86 Tryz.f86 (.node (.node (.node .leaf 87 Tryz.f87 .leaf) 88 Tryz.f88 .leaf) 89 Tryz.f89 (.node (.node .leaf 90 Tryz.f90 .leaf) 91 Tryz.f91 .leaf))) 92 Tryz.f92 (.node (.node (.node (.node .leaf 93 Tryz.f93 .leaf) 94 Tryz.f94 (.node .leaf 95 Tryz.f95 .leaf)) 96 Tryz.f96 (.node (.node .leaf 97 Tryz.f97 .leaf) 98 Tryz.f98 .leaf)) 99 Tryz.f99 (.node (.node (.node .leaf 100 Tryz.f100 .leaf) 101 Tryz.f101 .leaf) 102 Tryz.f102 (.node (.node .leaf 103 Tryz.f103 .leaf) 104 Tryz.f104 .leaf)))))) 105 Tryz.f105 (.node (.node (.node (.node (.node (.node (.node .leaf 106 Tryz.f106 .leaf) 107 Tryz.f107 (.node .leaf 108 Tryz.f108 .leaf)) 109 Tryz.f109 (.node (.node .leaf 110 Tryz.f110 .leaf) 111 Tryz.f111 .leaf)) 112 Tryz.f112 (.node (.node (.node .leaf 113 Tryz.f113 .leaf) 114 Tryz.f114 (.node .leaf 115 Tryz.f115 .leaf)) 116 Tryz.f116 (.node (.node .leaf 117 Tryz.f117 .leaf) 118 Tryz.f118 .leaf))) 119 Tryz.f119 (.node (.node (.node (.node .leaf 120 Tryz.f120 .leaf) 121 Tryz.f121 (.node .leaf 122 Tryz.f122 .leaf)) 123 Tryz.f123 (.node (.node .leaf 124 Tryz.f124 .leaf) 125 Tryz.f125 .leaf)) 126 Tryz.f126 (.node (.node (.node .leaf 127 Tryz.f127 .leaf) 128 Tryz.f128 .leaf) 129 Tryz.f129 (.node (.node .leaf 130 Tryz.f130 .leaf) 131 Tryz.f131 .leaf)))) 132 Tryz.f132 (.node (.node (.node (.node (.node .leaf 133 Tryz.f133 .leaf) 134 Tryz.f134 (.node .leaf 135 Tryz.f135 .leaf)) 136 Tryz.f136 (.node (.node .leaf 137 Tryz.f137 .leaf) 138 Tryz.f138 .leaf)) 139 Tryz.f139 (.node (.node (.node .leaf 140 Tryz.f140 .leaf) 141 Tryz.f141 .leaf) 142 Tryz.f142 (.node (.node .leaf 143 Tryz.f143 .leaf) 144 Tryz.f144 .leaf))) 145 Tryz.f145 (.node (.node (.node (.node .leaf 146 Tryz.f146 .leaf) 147 Tryz.f147 (.node .leaf 148 Tryz.f148 .leaf)) 149 Tryz.f149 (.node (.node .leaf 150 Tryz.f150 .leaf) 151 Tryz.f151 .leaf)) 152 Tryz.f152 (.node (.node (.node .leaf 153 Tryz.f153 .leaf) 154 Tryz.f154 .leaf) 155 Tryz.f155 (.node (.node .leaf 156 Tryz.f156 .leaf) 157 Tryz.f157 .leaf))))) 158 Tryz.f158 (.node (.node (.node (.node (.node (.node .leaf 159 Tryz.f159 .leaf) 160 Tryz.f160 (.node .leaf 161 Tryz.f161 .leaf)) 162 Tryz.f162 (.node (.node .leaf 163 Tryz.f163 .leaf) 164 Tryz.f164 .leaf)) 165 Tryz.f165 (.node (.node (.node .leaf 166 Tryz.f166 .leaf) 167 Tryz.f167 .leaf) 168 Tryz.f168 (.node (.node .leaf 169 Tryz.f169 .leaf) 170 Tryz.f170 .leaf))) 171 Tryz.f171 (.node (.node (.node (.node .leaf 172 Tryz.f172 .leaf) 173 Tryz.f173 (.node .leaf 174 Tryz.f174 .leaf)) 175 Tryz.f175 (.node (.node .leaf 176 Tryz.f176 .leaf) 177 Tryz.f177 .leaf)) 178 Tryz.f178 (.node (.node (.node .leaf 179 Tryz.f179 .leaf) 180 Tryz.f180 .leaf) 181 Tryz.f181 (.node (.node .leaf 182 Tryz.f182 .leaf) 183 Tryz.f183 .leaf)))) 184 Tryz.f184 (.node (.node (.node (.node (.node .leaf 185 Tryz.f185 .leaf) 186 Tryz.f186 (.node .leaf 187 Tryz.f187 .leaf)) 188 Tryz.f188 (.node (.node .leaf 189 Tryz.f189 .leaf) 190 Tryz.f190 .leaf)) 191 Tryz.f191 (.node (.node (.node .leaf 192 Tryz.f192 .leaf) 193 Tryz.f193 .leaf) 194 Tryz.f194 (.node (.node .leaf 195 Tryz.f195 .leaf) 196 Tryz.f196 .leaf))) 197 Tryz.f197 (.node (.node (.node (.node .leaf 198 Tryz.f198 .leaf) 199 Tryz.f199 (.node .leaf 200 Tryz.f200 .leaf)) 201 Tryz.f201 (.node (.node .leaf 202 Tryz.f202 .leaf) 203 Tryz.f203 .leaf)) 204 Tryz.f204 (.node (.node (.node .leaf 205 Tryz.f205 .leaf) 206 Tryz.f206 .leaf) 207 Tryz.f207 (.node (.node .leaf 208 Tryz.f208 .leaf) 209 Tryz.f209 .leaf)))))))

noncomputable def T0 : Tab := ⟨Tt, Tf⟩
theorem t_ok : Tt.all (tiB Tryz.prog) = true := by kernel_rfl
theorem n_ok : Tf.all (fun _ fn => !(fn.name == "runtime.NumGoroutine")) = true := by kernel_rfl
theorem f_ok : FAll Tryz.prog Tf := ⟨⟨⟨⟨⟨⟨⟨⟨trivial, Tryz.func0, trivial⟩, Tryz.func1, ⟨trivial, Tryz.func2, trivial⟩⟩, Tryz.func3, ⟨⟨trivial, Tryz.func4, trivial⟩, Tryz.func5, trivial⟩⟩, Tryz.func6, ⟨⟨⟨trivial, Tryz.func7, trivial⟩, Tryz.func8, ⟨trivial, Tryz.func9, trivial⟩⟩, Tryz.func10, ⟨⟨trivial, Tryz.func11, trivial⟩, Tryz.func12, trivial⟩⟩⟩, Tryz.func13, ⟨⟨⟨⟨trivial, Tryz.func14, trivial⟩, Tryz.func15, ⟨trivial, Tryz.func16, trivial⟩⟩, Tryz.func17, ⟨⟨trivial, Tryz.func18, trivial⟩, Tryz.func19, trivial⟩⟩, Tryz.func20, ⟨⟨⟨trivial, Tryz.func21, trivial⟩, Tryz.func22, trivial⟩, Tryz.func23, ⟨⟨trivial, Tryz.func24, trivial⟩, Tryz.func25, trivial⟩⟩⟩⟩, Tryz.func26, ⟨⟨⟨⟨⟨trivial, Tryz.func27, trivial⟩, Tryz.func28, ⟨trivial, Tryz.func29, trivial⟩⟩, Tryz.func30, ⟨⟨trivial, Tryz.func31, trivial⟩, Tryz.func32, trivial⟩⟩, Tryz.func33, ⟨⟨⟨trivial, Tryz.func34, trivial⟩, Tryz.func35, trivial⟩, Tryz.func36, ⟨⟨trivial, Tryz.func37, trivial⟩, Tryz.func38, trivial⟩⟩⟩, Tryz.func39, ⟨⟨⟨⟨trivial, Tryz.func40, trivial⟩, Tryz.func41, ⟨trivial, Tryz.func42, trivial⟩⟩, Tryz.func43, ⟨⟨trivial, Tryz.func44, trivial⟩, Tryz.func45, trivial⟩⟩, Tryz.func46, ⟨⟨⟨trivial, Tryz.func47, trivial⟩, Tryz.func48, trivial⟩, Tryz.func49, ⟨⟨trivial, Tryz.func50, trivial⟩, Tryz.func51, trivial⟩⟩⟩⟩⟩, Tryz.func52, ⟨⟨⟨⟨⟨⟨trivial, Tryz.func53, trivial⟩, Tryz.func54, ⟨trivial, Tryz.func55, trivial⟩⟩, Tryz.func56, ⟨⟨trivial, Tryz.func57, trivial⟩, Tryz.func58, trivial⟩⟩, Tryz.func59, ⟨⟨⟨trivial, Tryz.func60, trivial⟩, Tryz.func61, ⟨trivial, Tryz.func62, trivial⟩⟩, Tryz.func63, ⟨⟨trivial, Tryz.func64, trivial⟩, Tryz.func65, trivial⟩⟩⟩, Tryz.func66, ⟨⟨⟨⟨trivial, Tryz.func67, trivial⟩, Tryz.func68, ⟨trivial, Tryz.func69, trivial⟩⟩, Tryz.func70, ⟨⟨trivial, Tryz.func71, trivial⟩, Tryz.func72, trivial⟩⟩, Tryz.func73, ⟨⟨⟨trivial, Tryz.func74, trivial⟩, Tryz.func75, trivial⟩, Tryz.func76, ⟨⟨trivial, Tryz.func77, trivial⟩, Tryz.func78, trivial⟩⟩⟩⟩, Tryz.func79, ⟨⟨⟨⟨⟨trivial, Tryz.func80, trivial⟩, Tryz.func81, ⟨trivial, Tryz.func82, trivial⟩⟩, Tryz.func83, ⟨⟨trivial, Tryz.func84, trivial⟩, Tryz.func85, trivial⟩⟩, Tryz.func86, ⟨⟨⟨trivial, Tryz.func87, trivial⟩, Tryz.func88, trivial⟩, Tryz.func89, ⟨⟨trivial, Tryz.func90, trivial⟩, Tryz.func91, trivial⟩⟩⟩, Tryz.func92, ⟨⟨⟨⟨trivial, Tryz.func93, trivial⟩, Tryz.func94, ⟨trivial, Tryz.func95, trivial⟩⟩, Tryz.func96, ⟨⟨trivial, Tryz.func97, trivial⟩, Tryz.func98, trivial⟩⟩, Tryz.func99, ⟨⟨⟨trivial, Tryz.func100, trivial⟩, Tryz.func101, trivial⟩, Tryz.func102, ⟨⟨trivial, Tryz.func103, trivial⟩, Tryz.func104, trivial⟩⟩⟩⟩⟩⟩, Tryz.func105, ⟨⟨⟨⟨⟨⟨⟨trivial, Tryz.func106, trivial⟩, Tryz.func107, ⟨trivial, Tryz.func108, trivial⟩⟩, Tryz.func109, ⟨⟨trivial, Tryz.func110, trivial⟩, Tryz.func111, trivial⟩⟩, Tryz.func112, ⟨⟨⟨trivial, Tryz.func113, trivial⟩, Tryz.func114, ⟨trivial, Tryz.func115, trivial⟩⟩, Tryz.func116, ⟨⟨trivial, Tryz.func117, trivial⟩, Tryz.func118, trivial⟩⟩⟩, Tryz.func119, ⟨⟨⟨⟨trivial, Tryz.func120, trivial⟩, Tryz.func121, ⟨trivial, Tryz.func122, trivial⟩⟩, Tryz.func123, ⟨⟨trivial, Tryz.func124, trivial⟩, Tryz.func125, trivial⟩⟩, Tryz.func126, ⟨⟨⟨trivial, Tryz.func127, trivial⟩, Tryz.func128, trivial⟩, Tryz.func129, ⟨⟨trivial, Tryz.func130, trivial⟩, Tryz.func131, trivial⟩⟩⟩⟩, Tryz.func132, ⟨⟨⟨⟨⟨trivial, Tryz.func133, trivial⟩, Tryz.func134, ⟨trivial, Tryz.func135, trivial⟩⟩, Tryz.func136, ⟨⟨trivial, Tryz.func137, trivial⟩, Tryz.func138, trivial⟩⟩, Tryz.func139, ⟨⟨⟨trivial, Tryz.func140, trivial⟩, Tryz.func141, trivial⟩, Tryz.func142, ⟨⟨trivial, Tryz.func143, trivial⟩, Tryz.func144, trivial⟩⟩⟩, Tryz.func145, ⟨⟨⟨⟨trivial, Tryz.func146, trivial⟩, Tryz.func147, ⟨trivial, Tryz.func148, trivial⟩⟩, Tryz.func149, ⟨⟨trivial, Tryz.func150, trivial⟩, Tryz.func151, trivial⟩⟩, Tryz.func152, ⟨⟨⟨trivial, Tryz.func153, trivial⟩, Tryz.func154, trivial⟩, Tryz.func155, ⟨⟨trivial, Tryz.func156, trivial⟩, Tryz.func157, trivial⟩⟩⟩⟩⟩, Tryz.func158, ⟨⟨⟨⟨⟨⟨trivial, Tryz.func159, trivial⟩, Tryz.func160, ⟨trivial, Tryz.func161, trivial⟩⟩, Tryz.func162, ⟨⟨trivial, Tryz.func163, trivial⟩, Tryz.func164, trivial⟩⟩, Tryz.func165, ⟨⟨⟨trivial, Tryz.func166, trivial⟩, Tryz.func167, trivial⟩, Tryz.func168, ⟨⟨trivial, Tryz.func169, trivial⟩, Tryz.func170, trivial⟩⟩⟩, Tryz.func171, ⟨⟨⟨⟨trivial, Tryz.func172, trivial⟩, Tryz.func173, ⟨trivial, Tryz.func174, trivial⟩⟩, Tryz.func175, ⟨⟨trivial, Tryz.func176, trivial⟩, Tryz.func177, trivial⟩⟩, Tryz.func178, ⟨⟨⟨trivial, Tryz.func179, trivial⟩, Tryz.func180, trivial⟩, Tryz.func181, ⟨⟨trivial, Tryz.func182, trivial⟩, Tryz.func183, trivial⟩⟩⟩⟩, Tryz.func184, ⟨⟨⟨⟨⟨trivial, Tryz.func185, trivial⟩, Tryz.func186, ⟨trivial, Tryz.func187, trivial⟩⟩, Tryz.func188, ⟨⟨trivial, Tryz.func189, trivial⟩, Tryz.func190, trivial⟩⟩, Tryz.func191, ⟨⟨⟨trivial, Tryz.func192, trivial⟩, Tryz.func193, trivial⟩, Tryz.func194, ⟨⟨trivial, Tryz.func195, trivial⟩, Tryz.func196, trivial⟩⟩⟩, Tryz.func197, ⟨⟨⟨⟨trivial, Tryz.func198, trivial⟩, Tryz.func199, ⟨trivial, Tryz.func200, trivial⟩⟩, Tryz.func201, ⟨⟨trivial, Tryz.func202, trivial⟩, Tryz.func203, trivial⟩⟩, Tryz.func204, ⟨⟨⟨trivial, Tryz.func205, trivial⟩, Tryz.func206, trivial⟩, Tryz.func207, ⟨⟨trivial, Tryz.func208, trivial⟩, Tryz.func209, trivial⟩⟩⟩⟩⟩⟩⟩
theorem tabOk : TabOk Tryz.prog T0 := TabOk.of t_ok f_ok n_ok
end Go.Proofs.YtbcngegcpdppfaaGreatDoor
