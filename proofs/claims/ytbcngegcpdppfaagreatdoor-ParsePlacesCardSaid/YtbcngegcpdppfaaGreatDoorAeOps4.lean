/-
  AE, part 6: fields, indexes, append: the abstract rules hold of the model's. Own metatheory over any program; no statement of the seat is proved here.
-/
import Derived.Test.YtbcngegcpdppfaaGreatDoorAeOps3
namespace Go.AE
section
variable {P : Program} {T : Tab} {w : World} {m : Mp} {K : List ABlk} {k : AV → List ABlk → Prop}

/-- a part of an aggregate -/
theorem part_val {t : Nat} {ti : TI} (hti : TIok P t ti) {cs : List AV} {A : Array Value} (hc : VL w m cs A) (off : Nat) (q : AV → Prop) (h : part ti cs off q) :
    ∃ u a, (Go.part t A off).run P w = .ok u w ∧ V w m a u ∧ q a := by
  obtain ⟨i, d, z, hi, hu, hsz, _, _, _, _, hagg, _⟩ := hti
  unfold part at h
  unfold Go.part
  simp only [Sem.run_bind, isAgg_run hu, Result.andThen_ok]
  rw [← hagg]
  have hl := hc.1
  cases hA : ti.agg with
  | true =>
    rw [hA] at h
    simp only at h
    cases hb : Nat.ble (off + ti.size) (len cs) with
    | false => rw [hb] at h; exact h.elim
    | true =>
      rw [hb] at h
      simp only [fVL_eq, takeN_eq, dropN_eq] at h
      have hle : off + ti.size ≤ cs.length := by rw [len_eq] at hb; exact Nat.le_of_ble_eq_true hb
      refine ⟨.agg (A.extract off (off + ti.size)), .agg ((cs.drop off).take ti.size), ?_, ?_, h⟩
      · simp [sizeOf, typeInfo, hi, hsz]
      · refine .agg _ _ (by simp; omega) fun j hj hj' => ?_
        have hj2 : j < ti.size := by simp at hj; omega
        have := hc.2 (off + j) (by omega) (by omega)
        simpa using this
  | false =>
    rw [hA] at h
    simp only at h
    rw [nth_eq] at h
    cases hn : cs[off]? with
    | none => rw [hn] at h; exact h.elim
    | some v =>
      rw [hn] at h
      simp only [fV_eq] at h
      obtain ⟨hlt, rfl⟩ := List.getElem?_eq_some_iff.1 hn
      obtain ⟨u, h1, h2⟩ := hc.get? off hlt
      refine ⟨u, _, ?_, h2, h⟩
      simp [h1]

theorem opField_ok (hT : TabOk P T) (hS : St w m (hp K)) {t : TypeId} {x : AV} {u : Value} (hx : V w m x u) {fi : Nat} (h : opField T K k t x fi) : RunOk P w m (Instr.field t u fi) k := by
  unfold opField at h
  cases hg : T.t.get t with
  | none => rw [hg] at h; exact h.elim
  | some ti =>
    rw [hg] at h
    simp only at h
    obtain ⟨i, d, z, hi0, hu, hsz, _, hut, _⟩ := hT.t t ti hg
    cases hU : ti.u with
    | struct fs =>
      rw [hU] at h hut
      simp only at h
      obtain ⟨fields, rfl, hfs, hinf⟩ := hut
      cases hn : nth fs fi with
      | none => rw [hn] at h; exact h.elim
      | some o =>
        obtain ⟨fo, ft⟩ := o
        rw [hn] at h
        simp only at h
        cases hg' : T.t.get ft with
        | none => rw [hg'] at h; exact h.elim
        | some fti =>
          rw [hg'] at h
          simp only at h
          rw [nth_eq, ← hfs] at hn
          simp only [List.getElem?_map, Array.getElem?_toList] at hn
          cases hff : fields[fi]? with
          | none => rw [hff] at hn; simp at hn
          | some f =>
            rw [hff] at hn
            simp only [Option.map_some, Option.some.injEq, Prod.mk.injEq] at hn
            obtain ⟨ho, hft⟩ := hn
            cases hx with
            | agg cs A hA hv =>
              obtain ⟨u, a, h1, h2, h3⟩ := part_val (P := P) (hT.t ft fti hg') ⟨hA, hv⟩ fo _ h
              refine RunOk.same hS (u := u) ?_ h2 h3
              simp [Instr.field, run_underlying hu, hff, asAgg, hft, ho, h1]
            | _ => exact h.elim
    | _ => rw [hU] at h; exact h.elim

theorem opIndexAddr_ok (hT : TabOk P T) (hS : St w m (hp K)) {t : TypeId} {x y : AV} {u v : Value} (hx : V w m x u) (hy : V w m y v) (h : opIndexAddr T K k t x y) : RunOk P w m (Instr.indexAt t u v) k := by
  unfold opIndexAddr at h
  cases hg : T.t.get t with
  | none => rw [hg] at h; exact h.elim
  | some ti =>
    rw [hg] at h
    simp only at h
    obtain ⟨i, d, z, hi0, hu, hsz, _, hut, _⟩ := hT.t t ti hg
    cases hU : ti.u with
    | slice e =>
      rw [hU] at h hut
      simp only [utOk] at hut
      subst hut
      simp only at h
      cases hge : T.t.get e with
      | none => rw [hge] at h; exact h.elim
      | some ei =>
        rw [hge] at h
        simp only at h
        obtain ⟨i', d', z', hie, hu', hsz', _⟩ := hT.t e ei hge
        cases hy with
        | p y v hy =>
          cases hy with
          | int q ix =>
            simp only at h
            cases hx with
            | p x u hx =>
              cases hx with
              | sl sz n f b o c uu hI hcap hc hv =>
                simp only at h
                obtain ⟨⟨h0, h1, h2⟩, h⟩ := h
                simp only [fL_eq] at h
                refine RunOk.same hS (u := .pointer (some ⟨b, o + ix.toNat * sz, none⟩)) ?_ ?_ h
                · simp [Instr.indexAt, asIntOf, run_underlying hu, h0, h1, sizeOf, typeInfo, hie, hsz', h2, addr_add]
                · refine .rop (f ix.toNat) 0 b (o + ix.toNat * sz) (uu ix.toNat) hI (fun j hj => ?_) (fun j hj => hv ix.toNat (by omega) j hj)
                  have := hc ix.toNat (by omega) j hj
                  rw [← this, Nat.add_assoc]
              | sl0 =>
                simp only at h
                obtain ⟨⟨h0, h1, h2⟩, h⟩ := h
                omega
              | _ => exact h.elim
            | slr r ver off n N sz cap hL hn =>
              simp only at h
              cases hn' : nth K r with
              | none => rw [hn'] at h; exact h.elim
              | some b =>
                rw [hn'] at h
                have hb := hS.blk r
                rw [hp_nth hn'] at hb
                cases b with
                | arr et sz' ver' n' f =>
                  simp only at h
                  obtain ⟨⟨rfl, hnn, h0, h1, h3⟩, h⟩ := h
                  rcases hb with ⟨hb, _⟩ | ⟨cap', c, hl', hcap, hmax, h2, h4, h5⟩
                  · rw [hL] at hb; simp at hb
                  rw [hL] at hl'
                  injection hl' with _ e2 e3 e4
                  subst e2 e3 e4
                  refine RunOk.same hS (u := .pointer (some ⟨m.ρ r, (off + ix.toNat) * sz + 0, none⟩)) ?_ (.ptr r ver N (off + ix.toNat) 0 sz cap hL (by omega)) h
                  simp [Instr.indexAt, asIntOf, run_underlying hu, h0, h1, sizeOf, typeInfo, hie, hsz', h3, addr_add, Nat.add_mul]
                | _ => exact h.elim
            | slrNil r ver hL =>
              exfalso
              simp only at h
              cases hn' : nth K r with
              | none => rw [hn'] at h; exact h.elim
              | some b =>
                rw [hn'] at h
                cases b with
                | arr et sz' ver' n' f =>
                  obtain ⟨⟨_, _, h0, h1, _⟩, h⟩ := h
                  omega
                | _ => exact h.elim
            | slrOld r ver off n ad' c' hold =>
              exfalso
              simp only at h
              cases hn' : nth K r with
              | none => rw [hn'] at h; exact h.elim
              | some b =>
                rw [hn'] at h
                have hb := hS.blk r
                rw [hp_nth hn'] at hb
                cases b with
                | arr et sz' ver' n' f =>
                  simp only at h
                  obtain ⟨⟨rfl, rfl, _⟩, h⟩ := h
                  rcases hb with ⟨hl', _⟩ | ⟨cap', c, hl', _⟩
                  · rw [hl'] at hold; simp [Inf.old] at hold
                  rw [hl'] at hold
                  simp [Inf.old] at hold
                | _ => exact h.elim
            | _ => exact h.elim
          | _ => exact h.elim
        | _ => exact h.elim
    | _ => rw [hU] at h; exact h.elim

theorem opIndex_ok (hT : TabOk P T) (hS : St w m (hp K)) {t : TypeId} {x y : AV} {u v : Value} (hx : V w m x u) (hy : V w m y v) (h : opIndex T K k t x y) : RunOk P w m (Instr.index t u v) k := by
  unfold opIndex at h
  cases hg : T.t.get t with
  | none => rw [hg] at h; exact h.elim
  | some ti =>
    rw [hg] at h
    simp only at h
    obtain ⟨i, d, z, hi0, hu, hsz, _, hut, _⟩ := hT.t t ti hg
    cases hy with
    | p y v hy =>
      cases hy with
      | int q ix =>
        simp only at h
        cases hU : ti.u with
        | string =>
          rw [hU] at h hut
          simp only [utOk] at hut
          subst hut
          simp only at h
          cases hx with
          | p x u hx =>
            cases hx with
            | str s l hl =>
              subst hl
              obtain ⟨⟨h0, h1⟩, h⟩ := h
              simp only [Array.length_toList] at h1
              have hlt : ix.toNat < s.size := by have : s.data.size = s.size := rfl; omega
              refine RunOk.same hS (u := .int .u8 (byteAt s.data.toList ix.toNat)) ?_ (kInt ..) h
              have e : s[ix.toNat]? = some (s[ix.toNat]'hlt) := getElem?_pos s ix.toNat hlt
              have e2 : s.data.toList.getD ix.toNat 0 = s[ix.toNat]'hlt := by
                rw [List.getD_eq_getElem?_getD, List.getElem?_eq_getElem (by simpa using hlt)]
                simp only [Option.getD_some, Array.getElem_toList]
                rfl
              simp only [Instr.index, asIntOf, Sem.run_bind, Sem.run_pure, Result.andThen_ok, run_underlying hu, h0, if_true, e, byteAt, e2]
            | _ => exact h.elim
          | _ => exact h.elim
        | _ => rw [hU] at h; exact h.elim
      | _ => exact h.elim
    | _ => exact h.elim

theorem opExtract_ok (hS : St w m (hp K)) {x : AV} {u : Value} (hx : V w m x u) {i : Nat} (h : opExtract K k x i) : RunOk P w m (Instr.extract u i) k := by
  cases hx with
  | tup cs A hA hv =>
    simp only [opExtract, nth_eq] at h
    cases hn : cs[i]? with
    | none => rw [hn] at h; exact h.elim
    | some v =>
      rw [hn] at h
      simp only [fV_eq] at h
      obtain ⟨hlt, rfl⟩ := List.getElem?_eq_some_iff.1 hn
      obtain ⟨u, h1, h2⟩ := VL.get? ⟨hA, hv⟩ i hlt
      exact RunOk.same hS (u := u) (by simp [Instr.extract, h1]) h2 h
  | _ => exact h.elim

/-- what is appended -/
def NewsOk (w : World) (m : Mp) (sz : Nat) (u : Value) (n : Nat) (g : Nat → List AV) : Prop :=
  ∃ (a : Option Addr) (c : Nat) (nl : List Value), u = .slice a n c ∧ nl.length = n * sz ∧ (∀ j y, nl[j]? = some y → ∃ ad, a = some ad ∧ w.cell? (ad.add j) = some y) ∧ (∀ y ∈ nl, y.oneCell' = true) ∧
    ∀ i, i < n → (g i).length = sz ∧ ∀ j (hj : j < (g i).length), ∃ y, nl[i * sz + j]? = some y ∧ V w m (g i)[j] y

theorem NewsOk.mk' {sz : Nat} (hsz : 0 < sz) (b o n c : Nat) (g : Nat → List AV)
    (h : ∀ i, i < n → (g i).length = sz ∧ ∀ j (hj : j < (g i).length), ∃ y, w.cell? ⟨b, o + (i * sz + j), none⟩ = some y ∧ V w m (g i)[j] y ∧ y.oneCell' = true) : NewsOk w m sz (.slice (some ⟨b, o, none⟩) n c) n g := by
  have key : ∀ q, q < n * sz → ∃ y, w.cell? ⟨b, o + q, none⟩ = some y ∧ y.oneCell' = true := by
    intro q hq
    have h1 : q / sz < n := (Nat.div_lt_iff_lt_mul hsz).2 hq
    have h2 : q % sz < sz := Nat.mod_lt _ hsz
    obtain ⟨y, hy1, _, hy3⟩ := (h (q / sz) h1).2 (q % sz) (by rw [(h _ h1).1]; exact h2)
    refine ⟨y, ?_, hy3⟩
    rw [← hy1]
    congr 2
    have := Nat.div_add_mod q sz
    rw [Nat.mul_comm] at this
    omega
  refine ⟨_, c, (List.range (n * sz)).map fun q => (w.cell? ⟨b, o + q, none⟩).getD undef, rfl, by simp, fun j y hy => ?_, fun y hy => ?_, fun i hi => ⟨(h i hi).1, fun j hj => ?_⟩⟩
  · have hj : j < n * sz := by have := (List.getElem?_eq_some_iff.1 hy).1; simpa using this
    obtain ⟨y', h1, _⟩ := key j hj
    simp [hj, h1] at hy
    subst hy
    exact ⟨_, rfl, by rw [addr_add]; exact h1⟩
  · simp only [List.mem_map, List.mem_range] at hy
    obtain ⟨q, hq, rfl⟩ := hy
    obtain ⟨y', h1, h2⟩ := key q hq
    simpa [h1] using h2
  · have hroom : (i + 1) * sz ≤ n * sz := Nat.mul_le_mul_right _ (by omega)
    rw [Nat.add_mul, Nat.one_mul] at hroom
    obtain ⟨y, hy1, hy2, _⟩ := (h i hi).2 j hj
    rw [(h i hi).1] at hj
    exact ⟨y, by simp [show i * sz + j < n * sz by omega, hy1], hy2⟩

theorem news_ok (hS : St w m (hp K)) {sz : Nat} (hsz : 0 < sz) {x : AV} {u : Value} (hx : V w m x u) {q : Nat → (Nat → List AV) → Prop} (h : news K sz x q) : ∃ n g, NewsOk w m sz u n g ∧ q n g := by
  unfold news at h
  cases hx with
  | p x u hx =>
    cases hx with
    | nils => exact ⟨0, _, ⟨none, 0, [], rfl, by simp, by simp, by simp, fun i hi => by omega⟩, h⟩
    | sl0 sz' f a c => exact ⟨0, _, ⟨a, c, [], rfl, by simp, by simp, by simp, fun i hi => by omega⟩, h.k⟩
    | sl sz' n f b o c uu hI hcap hc hv =>
      obtain ⟨⟨rfl, hl⟩, h⟩ := h
      refine ⟨n, _, NewsOk.mk' hsz b o n c _ (fun i hi => ⟨by rw [pvs_len]; exact hl i hi, fun j hj => ?_⟩), h⟩
      have hj' : j < (f i).length := by rw [pvs_len] at hj; exact hj
      exact ⟨uu i j, hc i hi j hj', by rw [pvs_get]; exact .p _ _ (hv i hi j hj'), (hv i hi j hj').one⟩
    | _ => exact h.elim
  | slr r ver off n N sz' cap hL hn =>
    simp only at h
    cases hn' : nth K r with
    | none => rw [hn'] at h; exact h.elim
    | some b =>
      rw [hn'] at h
      have hb := hS.blk r
      rw [hp_nth hn'] at hb
      cases b with
      | arr et sz2 ver' n' f =>
        simp only at h
        obtain ⟨⟨rfl, hnn, rfl, hones⟩, h⟩ := h
        rcases hb with ⟨hb, _⟩ | ⟨cap', c, hl', hcap, hmax, h2, h4, h5⟩
        · rw [hL] at hb; simp at hb
        rw [hL] at hl'
        injection hl' with _ e2 e3 e4
        subst e2 e3 e4
        refine ⟨n, _, NewsOk.mk' hsz (m.ρ r) (off * sz') n _ _ (fun i hi => ⟨(h5 (i + off) (by omega)).1, fun j hj => ?_⟩), h⟩
        obtain ⟨y, hy1, hy2⟩ := (h5 (i + off) (by omega)).2 j hj
        refine ⟨y, ?_, hy2, hy2.one (ones_get (hones _ (by omega)) j hj)⟩
        rw [cell_of_row w _ _ c et (0, 0) h2, ← hy1, Nat.add_mul]
        congr 1
        omega
      | _ => exact h.elim
  | slrNil r ver hL =>
    simp only at h
    cases hn' : nth K r with
    | none => rw [hn'] at h; exact h.elim
    | some b =>
      rw [hn'] at h
      cases b with
      | arr et sz' ver' n' f => exact ⟨0, _, ⟨none, 0, [], rfl, by simp, by simp, by simp, fun i hi => by omega⟩, h.k⟩
      | _ => exact h.elim
  | slrOld r ver off n ad' c' hold =>
    exfalso
    simp only at h
    cases hn' : nth K r with
    | none => rw [hn'] at h; exact h.elim
    | some b =>
      rw [hn'] at h
      have hb := hS.blk r
      rw [hp_nth hn'] at hb
      cases b with
      | arr et sz' ver' n' f =>
        simp only at h
        obtain ⟨⟨rfl, rfl, _⟩, h⟩ := h
        rcases hb with ⟨hl', _⟩ | ⟨cap', c, hl', _⟩
        · rw [hl'] at hold; simp [Inf.old] at hold
        rw [hl'] at hold
        simp [Inf.old] at hold
      | _ => exact h.elim
  | _ => exact h.elim

/-- nothing is appended -/
theorem append_none {t tx ty e : TypeId} {i : TypeInfo} (ht : P.underlying t = some (.slice e)) (hi : P.info? e = some i) (base : Option Addr) (sLen sCap : Nat) (hle : sLen ≤ sCap) {e' : TypeId} (htx : P.underlying tx = some (.slice e')) (a : Option Addr) (c : Nat) :
    (Builtin.append_ #[t, tx] ty #[.slice base sLen sCap, .slice a 0 c]).run P w = .ok (.slice base sLen sCap) w := by
  cases base <;> cases a <;> simp [Builtin.append_, run_underlying ht, run_underlying htx, sizeOf, typeInfo, hi, Builtin.lenOf, hle, Builtin.firstCells, loadCells, loadCellsFrom, storeCells]

theorem catF_lt {n : Nat} {f g : Nat → List AV} {i : Nat} (h : i < n) : catF n f g i = f i := by
  unfold catF
  have : Nat.blt i n = true := by simpa using h
  rw [this]
theorem catF_ge {n : Nat} {f g : Nat → List AV} {i : Nat} (h : n ≤ i) : catF n f g i = g (i - n) := by
  unfold catF
  have : Nat.blt i n = false := by cases e : Nat.blt i n with
    | true => have := Nat.le_of_ble_eq_true e; omega
    | false => rfl
  rw [this]

theorem opAppend_ok (hT : TabOk P T) (hS : St w m (hp K)) {t : TypeId} {s x : AV} {u v : Value} (hs : V w m s u) (hx : V w m x v) {ty : TypeId} (h : opAppend T K k t s x) : RunOk P w m (Builtin.append_ #[t, t] ty #[u, v]) k := by
  unfold opAppend at h
  cases hg : T.t.get t with
  | none => rw [hg] at h; exact h.elim
  | some ti =>
    rw [hg] at h
    simp only at h
    obtain ⟨i, d, z, hi0, hu, hsz, _, hut, _⟩ := hT.t t ti hg
    cases hU : ti.u with
    | slice e =>
      rw [hU] at h hut
      simp only [utOk] at hut
      subst hut
      simp only at h
      cases hge : T.t.get e with
      | none => rw [hge] at h; exact h.elim
      | some ei =>
        rw [hge] at h
        simp only at h
        obtain ⟨i', d', z', hie, hu', hsz', hby', _, hz', hzo', _⟩ := hT.t e ei hge
        split at h
        case h_2 => exact h.elim
        rename_i hb2 hb3
        have hne : ei.size ≠ 0 := by intro h0; rw [h0] at hb2; simp at hb2
        have hzl : ei.zero.length = ei.size := by have := Nat.eq_of_beq_eq_true hb3; rwa [len_eq] at this
        have hzs : z'.cells.size = ei.size := by rw [← hzo'.1]; exact hzl
        obtain ⟨nm, g, hnews, h⟩ := news_ok hS (by omega) hx h
        obtain ⟨a, c, nl, rfl, hnl, hcells, hone, hg⟩ := hnews
        cases hs with
        | p s u hs =>
          cases hs with
          | nils =>
            simp only at h
            cases nm with
            | zero =>
              simp only at h
              exact RunOk.same hS (append_none hu hie none 0 0 (Nat.le_refl _) hu a c) (.p _ _ .nils) h
            | succ nm =>
              simp only at h
              obtain ⟨⟨hby, h63⟩, h⟩ := h
              simp only [fL_eq] at h
              have hpos : 0 < nl.length := by rw [hnl]; exact Nat.mul_pos (by omega) (by omega)
              obtain ⟨ad, rfl, _⟩ := hcells 0 nl[0] (List.getElem?_eq_getElem hpos)
              obtain ⟨v', w', hr, hown, hgrow, hnil, hat⟩ := run_append_own_at (P := P) w 0 t ty e i' z' ei.size ei.bytes hu hie hz' hsz' hby' hzs (by omega) (.slice none 0 0) 0 [] (World.ownsRow_nil w 0 e ei.size)
                ad (nm + 1) c nl hnl (fun j y hy => by obtain ⟨_, e1, e2⟩ := hcells j y hy; injection e1 with e1; rw [e1]; exact e2) hone (by simp only [maxLen]; omega) (by rw [Nat.zero_add]; exact hby) (Nat.zero_le _)
              simp only [Nat.zero_add, List.nil_append] at hown
              rcases hown.2 with ⟨_, h0⟩ | ⟨gb, cap, cur, rfl, _, hgh, hncap, hcapm, hcs, htake⟩
              · omega
              · rcases hat with hat | hat
                · simp [Value.ownBlock] at hat
                · simp [Value.ownBlock] at hat
                  subst hat
                  have hlt : w.heap.size < w'.heap.size := (Array.getElem?_eq_some_iff.1 hgh).1
                  have hgr : w.grownBy w' none := by simpa [Value.ownBlock] using hgrow
                  have hst : (m.L (len K)).step (.live 0 (nm + 1) ei.size cap) False := by rw [hS.absent (hp_len K)]; trivial
                  have hTr := Tr.fresh hS (len K) w.heap.size (.live 0 (nm + 1) ei.size cap) hst hgr (Nat.le_refl _)
                  refine ⟨_, w', _, _, _, hr, hTr, ?_, ?_, h⟩
                  · rw [hp_snoc]
                    refine hS.fresh _ _ _ hst hgr (Nat.le_refl _) hlt _ (.inr ⟨cap, cur, rfl, hncap, hcapm, hgh, hcs, fun q hq => ⟨(hg q hq).1, fun j hj => ?_⟩⟩)
                    obtain ⟨y, hy1, hy2⟩ := (hg q hq).2 j hj
                    refine ⟨y, ?_, hy2.mono hTr⟩
                    rw [← htake, List.getElem?_take] at hy1
                    split at hy1
                    · simpa using hy1
                    · simp at hy1
                  · have := V.slr (w := w') (m := m.set (len K) w.heap.size (.live 0 (nm + 1) ei.size cap)) (len K) 0 0 (nm + 1) (nm + 1) ei.size cap (by simp [Mp.set]) (by omega)
                    simpa [Mp.set] using this
          | _ => exact h.elim
        | slr r ver off n N sz cap hL hn =>
          simp only at h
          cases off with
          | succ _ => exact h.elim
          | zero =>
            simp only at h
            cases hn' : nth K r with
            | none => rw [hn'] at h; exact h.elim
            | some b =>
              rw [hn'] at h
              have hb := hS.blk r
              rw [hp_nth hn'] at hb
              have hlive : (m.L r).isLive := by rw [hL]; trivial
              cases b with
              | arr et sz2 ver' n' f =>
                simp only at h
                obtain ⟨⟨rfl, rfl, rfl, rfl, hby, h63⟩, h⟩ := h
                simp only [fL_eq] at h
                rcases hb with ⟨hb, _⟩ | ⟨cap', cc, hl', hcap, hmax, h2, h4, h5⟩
                · rw [hL] at hb; simp at hb
                obtain rfl : n = N := by omega
                have hl2 := hl'
                rw [hL] at hl2
                injection hl2 with _ _ e3 e4
                subst e3 e4
                simp only [Nat.zero_mul, Nat.sub_zero]
                by_cases hm0 : nm = 0
                · subst hm0
                  refine ⟨_, w, m, _, _, append_none hu hie _ _ _ hcap hu a c, Tr.refl w m, ?_, ?_, h⟩
                  · rw [hp_set K r _ _ hn']
                    refine ⟨hS.inj, hS.notI, hS.lt, hS.Ilt, hS.gl, fun q => ?_⟩
                    by_cases e : q = r
                    · subst e
                      simp only [upd, if_true]
                      refine .inr ⟨cap, cc, hL, by omega, hmax, h2, h4, fun j hj => ?_⟩
                      rw [catF_lt (by omega)]
                      exact h5 j (by omega)
                    · simp only [upd, e, if_false]; exact hS.blk q
                  · have := V.slr (w := w) r ver 0 n n ei.size cap hL (by omega)
                    simpa using this
                · have hpos : 0 < nl.length := by rw [hnl]; exact Nat.mul_pos (by omega) (by omega)
                  obtain ⟨ad, rfl, _⟩ := hcells 0 nl[0] (List.getElem?_eq_getElem hpos)
                  have hnc : n * ei.size ≤ cap * ei.size := Nat.mul_le_mul_right _ hcap
                  have hown0 : w.ownsRow 0 et ei.size (.slice (some ⟨m.ρ r, 0, none⟩) n cap) n (cc.toList.take (n * ei.size)) :=
                    ⟨by simp; omega, .inr ⟨m.ρ r, cap, cc, rfl, Nat.zero_le _, h2, hcap, hmax, h4, rfl⟩⟩
                  obtain ⟨v', w', hr, hown, hgrow, hnil, hat⟩ := run_append_own_at (P := P) w 0 t ty et i' z' ei.size ei.bytes hu hie hz' hsz' hby' hzs (by omega) _ n _ hown0
                    ad nm c nl hnl (fun j y hy => by obtain ⟨_, e1, e2⟩ := hcells j y hy; injection e1 with e1; rw [e1]; exact e2) hone (by simp only [maxLen]; omega) (by omega) (Nat.zero_le _)
                  rcases hown.2 with ⟨_, h0⟩ | ⟨gb, cap2, cur, rfl, _, hgh, hncap, hcapm, hcs, htake⟩
                  · omega
                  · have hgr : w.grownBy w' (some (m.ρ r)) := by simpa [Value.ownBlock] using hgrow
                    have hgb : gb = m.ρ r ∨ w.heap.size ≤ gb := by
                      rcases hat with hat | hat
                      · simp [Value.ownBlock] at hat; exact .inl hat
                      · simp [Value.ownBlock] at hat; exact .inr (by omega)
                    have hstep : (m.L r).step (.live ver (n + nm) ei.size cap2) (gb = m.ρ r) := by
                      rw [hL]
                      exact .inr (.inr ⟨_, _, _, _, rfl, by omega⟩)
                    have hlt : gb < w'.heap.size := (Array.getElem?_eq_some_iff.1 hgh).1
                    have hTr := Tr.grow hS r gb (.live ver (n + nm) ei.size cap2) hlive hgr hstep hgb
                    refine ⟨_, w', _, _, _, hr, hTr, ?_, ?_, h⟩
                    · rw [hp_set K r _ _ hn']
                      refine hS.grow r gb _ hlive hgr hstep hgb hlt _ (.inr ⟨cap2, cur, rfl, hncap, hcapm, hgh, hcs, fun q hq => ?_⟩)
                      have hroom : (q + 1) * ei.size ≤ (n + nm) * ei.size := Nat.mul_le_mul_right _ (by omega)
                      rw [Nat.add_mul, Nat.one_mul] at hroom
                      have hcell : ∀ j y, j < ei.size → (cc.toList.take (n * ei.size) ++ nl)[q * ei.size + j]? = some y → cur[q * ei.size + j]? = some y := by
                        intro j y hj hy
                        rw [← htake, List.getElem?_take, if_pos (by omega)] at hy
                        simpa using hy
                      have hlen0 : (cc.toList.take (n * ei.size)).length = n * ei.size := by simp; omega
                      by_cases hqn : q < n
                      · have hroom2 : (q + 1) * ei.size ≤ n * ei.size := Nat.mul_le_mul_right _ (by omega)
                        rw [Nat.add_mul, Nat.one_mul] at hroom2
                        rw [catF_lt hqn]
                        refine ⟨(h5 q hqn).1, fun j hj => ?_⟩
                        have hj' : j < ei.size := by rw [(h5 q hqn).1] at hj; exact hj
                        obtain ⟨y, hy1, hy2⟩ := (h5 q hqn).2 j hj
                        refine ⟨y, hcell j y hj' ?_, hy2.mono hTr⟩
                        rw [List.getElem?_append_left (by omega), List.getElem?_take, if_pos (by omega)]
                        simpa using hy1
                      · rw [catF_ge (by omega)]
                        have hg' := hg (q - n) (by omega)
                        refine ⟨hg'.1, fun j hj => ?_⟩
                        have hj' : j < ei.size := by rw [hg'.1] at hj; exact hj
                        obtain ⟨y, hy1, hy2⟩ := hg'.2 j hj
                        refine ⟨y, hcell j y hj' ?_, hy2.mono hTr⟩
                        have hmul : q * ei.size = n * ei.size + (q - n) * ei.size := by rw [← Nat.add_mul]; congr 1; omega
                        rw [List.getElem?_append_right (by omega), hlen0, show q * ei.size + j - n * ei.size = (q - n) * ei.size + j by omega]
                        exact hy1
                    · have := V.slr (w := w') (m := m.set r gb (.live ver (n + nm) ei.size cap2)) r ver 0 (n + nm) (n + nm) ei.size cap2 (by simp [Mp.set]) (by omega)
                      simpa [Mp.set] using this
              | _ => exact h.elim
        | slrNil r ver hL =>
          simp only at h
          cases hn' : nth K r with
          | none => rw [hn'] at h; exact h.elim
          | some b =>
            rw [hn'] at h
            have hb := hS.blk r
            rw [hp_nth hn'] at hb
            cases b with
            | arr et sz2 ver' n' f =>
              simp only at h
              obtain ⟨⟨rfl, rfl, rfl, rfl, hby, h63⟩, h⟩ := h
              simp only [fL_eq, Nat.zero_add] at h hby h63
              by_cases hm0 : nm = 0
              · subst hm0
                refine ⟨_, w, m, _, _, append_none hu hie none 0 0 (Nat.le_refl _) hu a c, Tr.refl w m, ?_, .slrNil r ver hL, h⟩
                rw [hp_set K r _ _ hn']
                refine ⟨hS.inj, hS.notI, hS.lt, hS.Ilt, hS.gl, fun q => ?_⟩
                by_cases e : q = r
                · subst e
                  simp only [upd, if_true]
                  exact .inl ⟨hL, rfl⟩
                · simp only [upd, e, if_false]; exact hS.blk q
              · have hpos : 0 < nl.length := by rw [hnl]; exact Nat.mul_pos (by omega) (by omega)
                obtain ⟨ad, rfl, _⟩ := hcells 0 nl[0] (List.getElem?_eq_getElem hpos)
                obtain ⟨v', w', hr, hown, hgrow, hnil, hat⟩ := run_append_own_at (P := P) w 0 t ty et i' z' ei.size ei.bytes hu hie hz' hsz' hby' hzs (by omega) (.slice none 0 0) 0 [] (World.ownsRow_nil w 0 et ei.size)
                  ad nm c nl hnl (fun j y hy => by obtain ⟨_, e1, e2⟩ := hcells j y hy; injection e1 with e1; rw [e1]; exact e2) hone (by simp only [maxLen]; omega) (by rw [Nat.zero_add]; exact hby) (Nat.zero_le _)
                simp only [Nat.zero_add, List.nil_append] at hown
                rcases hown.2 with ⟨_, h0⟩ | ⟨gb, cap, cur, rfl, _, hgh, hncap, hcapm, hcs, htake⟩
                · omega
                · rcases hat with hat | hat
                  · simp [Value.ownBlock] at hat
                  · simp [Value.ownBlock] at hat
                    subst hat
                    have hlt : w.heap.size < w'.heap.size := (Array.getElem?_eq_some_iff.1 hgh).1
                    have hgr : w.grownBy w' none := by simpa [Value.ownBlock] using hgrow
                    have hst : (m.L r).step (.live ver nm ei.size cap) False := by
                      rw [hL]
                      exact .inr (.inr ⟨_, _, _, _, rfl, by omega⟩)
                    have hTr := Tr.fresh hS r w.heap.size (.live ver nm ei.size cap) hst hgr (Nat.le_refl _)
                    refine ⟨_, w', _, _, _, hr, hTr, ?_, ?_, h⟩
                    · rw [hp_set K r _ _ hn']
                      refine hS.fresh _ _ _ hst hgr (Nat.le_refl _) hlt _ (.inr ⟨cap, cur, rfl, hncap, hcapm, hgh, hcs, fun q hq => ?_⟩)
                      rw [catF_ge (by omega), Nat.sub_zero]
                      refine ⟨(hg q hq).1, fun j hj => ?_⟩
                      obtain ⟨y, hy1, hy2⟩ := (hg q hq).2 j hj
                      refine ⟨y, ?_, hy2.mono hTr⟩
                      rw [← htake, List.getElem?_take] at hy1
                      split at hy1
                      · simpa using hy1
                      · simp at hy1
                    · have := V.slr (w := w') (m := m.set r w.heap.size (.live ver nm ei.size cap)) r ver 0 nm nm ei.size cap (by simp [Mp.set]) (by omega)
                      simpa [Mp.set] using this
            | _ => exact h.elim
        | slrOld r ver off n ad' c' hold =>
          exfalso
          simp only at h
          cases off with
          | succ _ => exact h.elim
          | zero =>
            simp only at h
            cases hn' : nth K r with
            | none => rw [hn'] at h; exact h.elim
            | some b =>
              rw [hn'] at h
              have hb := hS.blk r
              rw [hp_nth hn'] at hb
              cases b with
              | arr et sz' ver' n' f =>
                simp only at h
                obtain ⟨⟨rfl, rfl, _⟩, h⟩ := h
                rcases hb with ⟨hl', _⟩ | ⟨cap', c, hl', _⟩
                · rw [hl'] at hold; simp [Inf.old] at hold
                rw [hl'] at hold
                simp [Inf.old] at hold
              | _ => exact h.elim
        | _ => exact h.elim
    | _ => rw [hU] at h; exact h.elim

theorem opMaxMin_max (hS : St w m (hp K)) {x y : AV} {u v : Value} (hx : V w m x u) (hy : V w m y v) {ts : Array TypeId} {ty : TypeId} (h : opMaxMin K k true x y) : RunOk P w m (Builtin.max_ ts ty #[u, v]) k := by
  cases hx with
  | p x u hx =>
    cases hx with
    | int q a =>
      cases hy with
      | p y v hy =>
        cases hy with
        | int q' b => exact RunOk.same hS (by simp [Builtin.max_, Builtin.max2]) (kInt ..) h
        | _ => exact h.elim
      | _ => exact h.elim
    | _ => exact h.elim
  | _ => exact h.elim

theorem opMaxMin_min (hS : St w m (hp K)) {x y : AV} {u v : Value} (hx : V w m x u) (hy : V w m y v) {ts : Array TypeId} {ty : TypeId} (h : opMaxMin K k false x y) : RunOk P w m (Builtin.min_ ts ty #[u, v]) k := by
  cases hx with
  | p x u hx =>
    cases hx with
    | int q a =>
      cases hy with
      | p y v hy =>
        cases hy with
        | int q' b => exact RunOk.same hS (by simp [Builtin.min_, Builtin.min2]) (kInt ..) h
        | _ => exact h.elim
      | _ => exact h.elim
    | _ => exact h.elim
  | _ => exact h.elim

theorem opLen_ok (hT : TabOk P T) (hS : St w m (hp K)) {t : TypeId} {x : AV} {u : Value} (hx : V w m x u) {ty : TypeId} (h : opLen T K k t x) : RunOk P w m (Builtin.len_ #[t] ty #[u]) k := by
  unfold opLen at h
  cases hg : T.t.get t with
  | none => rw [hg] at h; exact h.elim
  | some ti =>
    rw [hg] at h
    simp only at h
    obtain ⟨i, d, z, hi0, hu, hsz, _, hut, _⟩ := hT.t t ti hg
    cases hU : ti.u with
    | string =>
      rw [hU] at h hut
      simp only [utOk] at hut
      subst hut
      cases hx with
      | p x u hx =>
        cases hx with
        | str s l hl =>
          subst hl
          simp only [Array.length_toList] at h
          exact RunOk.same hS (u := .int .i64 (s.data.size : Int)) (by simp only [Builtin.len_, List.getElem?_toArray, List.getElem?_cons_zero, Sem.run_bind, run_underlying hu, Result.andThen_ok, Sem.run_pure]; rfl) (kInt ..) h
        | _ => exact h.elim
      | _ => exact h.elim
    | slice e =>
      rw [hU] at h hut
      simp only [utOk] at hut
      subst hut
      have hr : ∀ (a : Option Addr) (n c : Nat), (Builtin.len_ #[t] ty #[.slice a n c]).run P w = .ok (.int .i64 (n : Int)) w := by
        intro a n c
        simp only [Builtin.len_, List.getElem?_toArray, List.getElem?_cons_zero, Sem.run_bind, run_underlying hu, Result.andThen_ok, Sem.run_pure]
        rfl
      cases hx with
      | p x u hx =>
        cases hx with
        | nils => exact RunOk.same hS (hr none 0 0) (kInt ..) h
        | sl0 => exact RunOk.same hS (hr _ _ _) (kInt ..) h
        | sl => exact RunOk.same hS (hr _ _ _) (kInt ..) h
        | _ => exact h.elim
      | slr => exact RunOk.same hS (hr _ _ _) (kInt ..) h
      | slrNil => exact RunOk.same hS (hr _ _ _) (kInt ..) h
      | slrOld => exact RunOk.same hS (hr _ _ _) (kInt ..) h
      | _ => exact h.elim
    | _ => rw [hU] at h; exact h.elim

theorem zeroV_ok {ty : Nat} {ti : TI} (hti : TIok P ty ti) {q : AV → Prop} (h : zeroV ti q) : ∃ z v, (zeroValue ty).run P w = .ok z w ∧ V w m v z ∧ q v := by
  obtain ⟨i, d, z, hi, hu, _, _, _, hz, hzo, _, ha⟩ := hti
  have hr : (zeroValue ty).run P w = .ok z w := by simp [zeroValue, typeInfo, hi, hz]
  have hV := pvs_VL hzo w m
  unfold zeroV at h
  cases hg : ti.agg with
  | true =>
    rw [hg] at h ha
    simp only [fVL_eq] at h
    cases z with
    | agg A => exact ⟨_, _, hr, .agg _ _ hV.1 hV.2, h⟩
    | _ => simp [zAgg] at ha
  | false =>
    rw [hg] at h ha
    simp only at h
    split at h
    case h_2 => exact h.elim
    rename_i x hx
    rw [fV_eq] at h
    have hc : z.cells = #[z] := by cases z <;> first | rfl | simp [zAgg] at ha
    rw [hx, hc] at hV
    exact ⟨_, _, hr, hV.2 0 (by simp [pvs]) (by simp), h⟩

theorem opAssert_ok (hT : TabOk P T) (hS : St w m (hp K)) {xt ty : Nat} {ok : Bool} {x : AV} {u : Value} (hx : V w m x u) (h : opAssert T K k ty ok x) : RunOk P w m (Instr.typeAssert u xt ty ok) k := by
  unfold opAssert at h
  cases ok with
  | false => exact h.elim
  | true =>
    simp only at h
    cases hg : T.t.get ty with
    | none => rw [hg] at h; exact h.elim
    | some ti =>
      rw [hg] at h
      simp only at h
      have hti := hT.t ty ti hg
      cases hpl : ti.u.plain with
      | false => rw [hpl] at h; exact h.elim
      | true =>
        rw [hpl] at h
        simp only at h
        have hud : ∃ d, (underlying ty).run P w = .ok d w ∧ ∀ l, d ≠ .interface l := by
          obtain ⟨i, d, z, hi, hu, _, _, hut, _⟩ := hti
          refine ⟨d, run_underlying hu w, fun l e => ?_⟩
          subst e
          cases hU : ti.u <;> rw [hU] at hut hpl <;> simp [utOk, UT.plain] at hut hpl
        obtain ⟨d, hd, hdi⟩ := hud
        have fails : ∀ (xx : Value), (xx = .nilIface ∨ ∃ t v, xx = .iface t v ∧ t ≠ ty) → zeroV ti (fun z => k (.tup [z, .p (.bool false)]) K) → RunOk P w m (Instr.typeAssert xx xt ty true) k := by
          intro xx hxx hz
          obtain ⟨z, v, hr, hv, hk⟩ := zeroV_ok (w := w) (m := m) hti hz
          refine RunOk.same hS (u := .tuple #[z, .bool false]) ?_ (.tup _ _ rfl fun j hj hj' => ?_) hk
          · rcases hxx with rfl | ⟨t, v, rfl, hne⟩
            · unfold Instr.typeAssert
              simp only [Sem.run_bind, hd, Result.andThen_ok]
              cases d <;> first | (exact absurd rfl (hdi _)) | simp [hr]
            · unfold Instr.typeAssert
              simp only [Sem.run_bind, hd, Result.andThen_ok]
              cases d <;> first | (exact absurd rfl (hdi _)) | simp [hr, hne]
          · match j, hj with
            | 0, _ => exact hv
            | 1, _ => exact .p _ _ (.bool false)
        cases hx with
        | p v u hv =>
          cases hv with
          | nili => exact fails _ (.inl rfl) h
          | _ => exact h.elim
        | iface t v u hv =>
          simp only at h
          cases hb : Nat.beq t ty with
          | false =>
            rw [hb] at h
            exact fails _ (.inr ⟨t, u, rfl, fun e => by subst e; simp at hb⟩) h
          | true =>
            rw [hb] at h
            simp only [fV_eq] at h
            have := Nat.eq_of_beq_eq_true hb
            subst this
            refine RunOk.same hS (u := .tuple #[u, .bool true]) ?_ (.tup _ _ rfl fun j hj hj' => ?_) h
            · unfold Instr.typeAssert
              simp only [Sem.run_bind, hd, Result.andThen_ok]
              cases d <;> first | (exact absurd rfl (hdi _)) | simp
            · match j, hj with
              | 0, _ => exact hv
              | 1, _ => exact .p _ _ (.bool true)
        | _ => exact h.elim
end
end Go.AE
