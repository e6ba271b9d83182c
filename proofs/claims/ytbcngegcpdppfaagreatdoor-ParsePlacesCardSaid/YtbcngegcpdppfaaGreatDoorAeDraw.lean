/-
  AE, part 7b: a region whose order is open: whatever order is drawn, it comes to what the quiet order comes to. Own metatheory over any program; no statement of the seat is proved here.
-/
import Derived.Test.YtbcngegcpdppfaaGreatDoorAeSound
namespace Go.AE

/-! ### what the model may draw -/
inductive Sch (ops : Array Oper) : (Nat → Prop) → List Nat → Prop where
  | nil (E : Nat → Prop) (h : ∀ i, i < ops.size → E i) : Sch ops E []
  | cons (E : Nat → Prop) (i : Nat) (o : Oper) (rest : List Nat) (hi : ops[i]? = some o) (hn : ¬ E i) (he : ∀ e ∈ edges o, E e) (h : Sch ops (fun j => E j ∨ j = i) rest) : Sch ops E (i :: rest)

theorem countP_lt (p : Nat → Bool) (i : Nat) (l : List Nat) (hi : i ∈ l) (hp : p i = true) : l.countP (fun x => p x && !(x == i)) < l.countP p := by
  have hle : ∀ l : List Nat, l.countP (fun x => p x && !(x == i)) ≤ l.countP p := fun l =>
    List.countP_mono_left fun x _ hx => by simp only [Bool.and_eq_true] at hx; exact hx.1
  induction l with
  | nil => simp at hi
  | cons a l ih =>
    simp only [List.countP_cons]
    by_cases e : a = i
    · subst e
      have := hle l
      simp [hp]; omega
    · have hi' : i ∈ l := by
        cases List.mem_cons.1 hi with
        | inl h => exact absurd h.symm e
        | inr h => exact h
      have := ih hi'
      have e2 : (a == i) = false := by simpa using e
      simp only [e2, Bool.not_false, Bool.and_true]
      omega

theorem go_sch (ops : Array Oper) (hlt : ∀ (i : Nat) (o : Oper), ops[i]? = some o → ∀ e ∈ edges o, e < i) : ∀ (fuel t : Nat) (listed : Array Bool) (acc : List Nat), listed.size = ops.size →
    ((List.range ops.size).countP fun i => !listed.getD i true) ≤ fuel →
    ∃ s, Region.linearise.go .any ops fuel t listed acc = acc.reverse ++ s ∧ Sch ops (fun i => listed.getD i false = true) s := by
  intro fuel
  induction fuel with
  | zero =>
    intro t listed acc hs hc
    refine ⟨[], by simp [Region.linearise.go], .nil _ fun i hi => ?_⟩
    have h0 : (List.range ops.size).countP (fun i => !listed.getD i true) = 0 := by omega
    rw [List.countP_eq_zero] at h0
    have := h0 i (List.mem_range.2 hi)
    have hil : i < listed.size := by rw [hs]; exact hi
    simp [hil] at this ⊢
    exact this
  | succ fuel ih =>
    intro t listed acc hs hc
    simp only [Region.linearise.go]
    generalize hrs : (List.range ops.size).filter (fun i => !listed.getD i true && ((ops[i]?).map (fun o => o.after.all fun e => !Region.binds .any e || listed.getD e.on false)).getD false) = rs
    cases hr : rs[t % rs.length]? with
    | some i =>
      have hm : i ∈ rs := List.mem_of_getElem? hr
      rw [← hrs, List.mem_filter, List.mem_range] at hm
      obtain ⟨hi, hcnd⟩ := hm
      simp only [Bool.and_eq_true, Bool.not_eq_true'] at hcnd
      obtain ⟨hl, he⟩ := hcnd
      have hil : i < listed.size := by rw [hs]; exact hi
      obtain ⟨o, ho⟩ : ∃ o, ops[i]? = some o := ⟨ops[i], by simp [hi]⟩
      simp only [ho, Option.map_some, Option.getD_some] at he
      have hset : ∀ j, (listed.setIfInBounds i true).getD j true = (listed.getD j true || j == i) := by
        intro j
        simp only [Array.getD_eq_getD_getElem?, Array.getElem?_setIfInBounds]
        by_cases e : i = j
        · subst e; simp [hil]
        · have : (j == i) = false := by simpa using fun h : j = i => e h.symm
          simp [e, this]
      have hsetf : ∀ j, (listed.setIfInBounds i true).getD j false = true ↔ (listed.getD j false = true ∨ j = i) := by
        intro j
        simp only [Array.getD_eq_getD_getElem?, Array.getElem?_setIfInBounds]
        by_cases e : i = j
        · subst e; simp [hil]
        · have : ¬ j = i := fun h => e h.symm
          simp [e, this]
      obtain ⟨s, h1, h2⟩ := ih (t / rs.length) (listed.setIfInBounds i true) (i :: acc) (by simp [hs]) (by
        have := countP_lt (fun j => !listed.getD j true) i (List.range ops.size) (List.mem_range.2 hi) (by simp [hl])
        have e : (fun j => !(listed.setIfInBounds i true).getD j true) = (fun x => (!listed.getD x true) && !(x == i)) := by
          funext j; rw [hset]; simp
        rw [e]; omega)
      refine ⟨i :: s, by show Region.linearise.go .any ops fuel (t / rs.length) (listed.setIfInBounds i true) (i :: acc) = _; rw [h1]; simp, .cons _ i o s ho ?_ ?_ ?_⟩
      · simp [hil] at hl ⊢; exact hl
      · intro e hee
        simp only [edges, List.mem_map, List.mem_filter] at hee
        obtain ⟨ed, ⟨hed, hb⟩, rfl⟩ := hee
        rw [Array.all_eq_true'] at he
        have := he ed (by simpa using hed)
        simpa [hb] using this
      · have : (fun j => (listed.setIfInBounds i true).getD j false = true) = (fun j => listed.getD j false = true ∨ j = i) := by
          funext j; exact propext (hsetf j)
        rw [this] at h2
        exact h2
    | none =>
      refine ⟨[], by simp, .nil _ ?_⟩
      have hnil : rs = [] := by
        cases rs with
        | nil => rfl
        | cons a r => simp [Nat.mod_lt] at hr
      rw [← hrs, List.filter_eq_nil_iff] at hnil
      intro i
      induction i using Nat.strongRecOn with
      | _ i ih2 =>
        intro hi
        have h := hnil i (List.mem_range.2 hi)
        have hil : i < listed.size := by rw [hs]; exact hi
        obtain ⟨o, ho⟩ : ∃ o, ops[i]? = some o := ⟨ops[i], by simp [hi]⟩
        cases hli : listed[i] with
        | true => simp [hil, hli]
        | false =>
          exfalso
          apply h
          simp only [ho, Option.map_some, Option.getD_some, Bool.and_eq_true]
          refine ⟨by simp [hil, hli], ?_⟩
          rw [Array.all_eq_true']
          intro e he
          by_cases hb : Region.binds .any e
          · have hel : e.on < i := hlt i o ho e.on (by simp only [edges, List.mem_map, List.mem_filter]; exact ⟨e, ⟨by simpa using he, hb⟩, rfl⟩)
            have := ih2 e.on hel (by omega)
            simp [this]
          · simp [hb]

theorem schedule_sch (ops : Array Oper) (hlt : ∀ (i : Nat) (o : Oper), ops[i]? = some o → ∀ e ∈ edges o, e < i) (t : Nat) : Sch ops (fun _ => False) (Region.schedule true ops t) := by
  obtain ⟨s, h1, h2⟩ := go_sch ops hlt ops.size t (Array.replicate ops.size false) [] (by simp) (by
    refine Nat.le_trans (List.countP_le_length) (by simp))
  have e : Region.schedule true ops t = s := by
    unfold Region.schedule
    simp only [Bool.true_or, if_true, Region.linearise]
    rw [h1]; simp
  rw [e]
  have : (fun i => (Array.replicate ops.size false).getD i false = true) = (fun _ => False) := by
    funext i
    simp [Array.getD_eq_getD_getElem?, Array.getElem?_replicate]
    split <;> simp
  rw [this] at h2
  exact h2

/-! ### the checks -/
theorem mem_iff (l : List Nat) (n : Nat) : mem l n = true ↔ n ∈ l := by
  induction l with
  | nil => simp [mem]
  | cons a l ih =>
    simp only [mem]
    cases h : Nat.beq a n with
    | true => have := Nat.eq_of_beq_eq_true h; subst this; simp
    | false =>
      have hne : ¬ n = a := fun e => by subst e; simp at h
      simp [ih, hne]
theorem subset_iff (l k : List Nat) : subset l k = true ↔ ∀ i ∈ l, i ∈ k := by
  induction l with
  | nil => simp [subset]
  | cons a l ih => simp [subset, ih, mem_iff]

theorem addAll_mem (acc : List (List Nat)) (l : List Nat) (j : Nat) (h : j ∈ addAll acc l) : ∃ e ∈ l, j = e ∨ j ∈ ancOf acc e := by
  induction l with
  | nil => simp [addAll] at h
  | cons e l ih =>
    simp only [addAll, List.mem_cons, List.mem_append] at h
    rcases h with (h | h) | h
    · exact ⟨e, by simp, .inl h⟩
    · exact ⟨e, by simp, .inr h⟩
    · obtain ⟨e', h1, h2⟩ := ih h
      exact ⟨e', by simp [h1], h2⟩

theorem ancs_get (l : List Oper) : ∀ (acc : List (List Nat)), (∀ i, i < acc.length → (ancs l acc)[i]? = acc[i]?) ∧
    ∀ i o, l[i]? = some o → ∃ p, (ancs l acc)[acc.length + i]? = some (addAll p (edges o)) ∧ ∀ e, e < acc.length + i → p[e]? = (ancs l acc)[e]? := by
  induction l with
  | nil => intro acc; exact ⟨fun i hi => rfl, fun i o h => by simp at h⟩
  | cons a l ih =>
    intro acc
    simp only [ancs, snoc_eq]
    obtain ⟨h1, h2⟩ := ih (acc ++ [addAll acc (edges a)])
    refine ⟨fun i hi => ?_, fun i o h => ?_⟩
    · rw [h1 i (by simp; omega), List.getElem?_append_left hi]
    · cases i with
      | zero =>
        simp at h
        subst h
        refine ⟨acc, ?_, fun e he => ?_⟩
        · rw [h1 _ (by simp)]; simp
        · rw [h1 e (by simp; omega), List.getElem?_append_left (by omega)]
      | succ i =>
        obtain ⟨p, h3, h4⟩ := h2 i o (by simpa using h)
        refine ⟨p, ?_, fun e he => h4 e (by simp; omega)⟩
        rw [← h3]; congr 1; simp; omega

/-- what the check of a drawn region gives -/
structure DrawOk (L : List Oper) (ac : List (List Nat)) : Prop where
  guard : ∀ (i : Nat) (o : Oper), L[i]? = some o → o.guard = none
  edge : ∀ (i : Nat) (o : Oper), L[i]? = some o → ∀ e ∈ edges o, e < i
  slot : ∀ (i : Nat) (o : Oper) (j : Nat) (o' : Oper) (d : Nat), L[i]? = some o → L[j]? = some o' → o.dst = some d → i ≠ j → o'.dst ≠ some d ∧ (d ∈ slots o'.op.operands.toList → i ∈ ancOf ac j ∨ j ∈ ancOf ac i)
  ancE : ∀ (i : Nat) (o : Oper) (j : Nat), L[i]? = some o → j ∈ ancOf ac i → ∃ e ∈ edges o, j = e ∨ j ∈ ancOf ac e

theorem avail_iff {L : List Oper} {ac : List (List Nat)} {done : List Nat} {b : Bool} {i : Nat} : avail L ac done b i = true ↔ i ∉ done ∧ (∀ j ∈ ancOf ac i, j ∈ done) ∧ (Nat.beq (kindAt L i) 2) = b := by
  unfold avail
  simp only [Bool.and_eq_true, Bool.not_eq_true', beq_iff_eq, subset_iff]
  constructor
  · rintro ⟨⟨h1, h2⟩, h3⟩
    exact ⟨fun hm => by rw [(mem_iff _ _).2 hm] at h1; simp at h1, h2, h3⟩
  · rintro ⟨h1, h2, h3⟩
    exact ⟨⟨by cases h : mem done i with
      | true => exact absurd ((mem_iff _ _).1 h) h1
      | false => rfl, h2⟩, h3⟩
theorem pickQ_some {L : List Oper} {ac : List (List Nat)} {done l : List Nat} {i : Nat} (h : pickQ L ac done l = some i) : i ∈ l ∧ avail L ac done false i = true := by
  induction l with
  | nil => simp [pickQ] at h
  | cons a l ih =>
    simp only [pickQ] at h
    cases ha : avail L ac done false a with
    | true => rw [ha] at h; simp only [Option.some.injEq] at h; subst h; exact ⟨by simp, ha⟩
    | false => rw [ha] at h; obtain ⟨h1, h2⟩ := ih h; exact ⟨by simp [h1], h2⟩
theorem pickQ_none {L : List Oper} {ac : List (List Nat)} {done l : List Nat} (h : pickQ L ac done l = none) : ∀ i ∈ l, avail L ac done false i = false := by
  induction l with
  | nil => simp
  | cons a l ih =>
    simp only [pickQ] at h
    cases ha : avail L ac done false a with
    | true => rw [ha] at h; simp at h
    | false =>
      rw [ha] at h
      intro i hi
      cases List.mem_cons.1 hi with
      | inl e => exact e ▸ ha
      | inr e => exact ih h i e
theorem loudN_mem {L : List Oper} {ac : List (List Nat)} {done l : List Nat} {i : Nat} : i ∈ loudN L ac done l ↔ i ∈ l ∧ avail L ac done true i = true := by
  induction l with
  | nil => simp [loudN]
  | cons a l ih =>
    simp only [loudN]
    cases ha : avail L ac done true a with
    | true =>
      simp only [List.mem_cons, ih]
      constructor
      · rintro (rfl | ⟨h1, h2⟩)
        · exact ⟨.inl rfl, ha⟩
        · exact ⟨.inr h1, h2⟩
      · rintro ⟨rfl | h1, h2⟩
        · exact .inl rfl
        · exact .inr ⟨h1, h2⟩
    | false =>
      simp only [List.mem_cons, ih]
      constructor
      · rintro ⟨h1, h2⟩; exact ⟨.inr h1, h2⟩
      · rintro ⟨rfl | h1, h2⟩
        · rw [ha] at h2; simp at h2
        · exact ⟨h1, h2⟩

theorem enum_mem (L : List Oper) : ∀ s i o, (i, o) ∈ enum s L ↔ ∃ k, L[k]? = some o ∧ i = s + k := by
  induction L with
  | nil => intro s i o; simp [enum]
  | cons a L ih =>
    intro s i o
    simp only [enum, List.mem_cons, Prod.mk.injEq, ih]
    constructor
    · rintro (⟨rfl, rfl⟩ | ⟨k, h1, rfl⟩)
      · exact ⟨0, by simp, by simp⟩
      · exact ⟨k + 1, by simpa using h1, by omega⟩
    · rintro ⟨k, h1, rfl⟩
      cases k with
      | zero => simp at h1; exact .inl ⟨rfl, h1.symm⟩
      | succ k => exact .inr ⟨k, by simpa using h1, by omega⟩

theorem upto_mem (n i : Nat) : i ∈ upto n ↔ i < n := by
  induction n with
  | zero => simp [upto]
  | succ n ih => simp only [upto, snoc_eq, List.mem_append, ih, List.mem_singleton]; omega

theorem drawB_ok {L : List Oper} (h : drawB L = true) : DrawOk L (ancs L []) := by
  unfold drawB at h
  simp only [Bool.and_eq_true] at h
  obtain ⟨h1, h6⟩ := h
  rw [List.all_eq_true] at h1
  have hge : ∀ (i : Nat) (o : Oper), L[i]? = some o → o.guard = none ∧ ∀ e ∈ edges o, e < i := fun i o ho => by
    have := h1 (i, o) ((enum_mem L 0 i o).2 ⟨i, ho, by simp⟩)
    simp only [Bool.and_eq_true, List.all_eq_true] at this
    exact ⟨by have := this.1; cases hg : o.guard <;> simp_all, fun e he => Nat.le_of_ble_eq_true (this.2 e he)⟩
  refine ⟨fun i o ho => (hge i o ho).1, fun i o ho => (hge i o ho).2, fun i o j o' d hi hj hd hne => ?_, fun i o j hi hj => ?_⟩
  · simp only [slotOk, List.all_eq_true] at h6
    have := h6 (i, o) ((enum_mem L 0 i o).2 ⟨i, hi, by simp⟩)
    simp only [hd] at this
    rw [List.all_eq_true] at this
    have := this (j, o') ((enum_mem L 0 j o').2 ⟨j, hj, by simp⟩)
    have hb : Nat.beq i j = false := by cases e : Nat.beq i j with
      | true => exact absurd (Nat.eq_of_beq_eq_true e) hne
      | false => rfl
    simp only [hb, Bool.false_or, Bool.and_eq_true, Bool.or_eq_true, Bool.not_eq_true'] at this
    refine ⟨fun e => by rw [e] at this; simp at this, fun hm => ?_⟩
    rcases this.2 with (h | h) | h
    · rw [(mem_iff _ _).2 hm] at h; simp at h
    · exact .inl ((mem_iff _ _).1 h)
    · exact .inr ((mem_iff _ _).1 h)
  · obtain ⟨p, h3', h4'⟩ := (ancs_get L []).2 i o hi
    simp only [List.length_nil, Nat.zero_add] at h3' h4'
    simp only [ancOf, nth_eq, h3'] at hj
    obtain ⟨e, he, hj⟩ := addAll_mem _ _ _ hj
    refine ⟨e, he, ?_⟩
    rcases hj with hj | hj
    · exact .inl hj
    · refine .inr ?_
      have hei := (hge i o hi).2 e he
      simp only [ancOf, nth_eq] at hj ⊢
      rw [h4' e hei] at hj
      exact hj

/-! ### operands alone count -/
theorem ev_congr {t t' : List (Nat × AV)} {x : Operand} (h : ∀ d, x = .tmp d → look t d = look t' d) : ev t x = ev t' x := by
  cases x with
  | tmp d => exact h d rfl
  | _ => rfl

theorem evs_congr {t t' : List (Nat × AV)} {l : List Operand} (h : ∀ d, .tmp d ∈ l → look t d = look t' d) : evs t l = evs t' l := by
  induction l with
  | nil => rfl
  | cons x l ih =>
    simp only [evs]
    rw [ev_congr (fun d e => h d (by simp [e])), ih (fun d hd => h d (by simp [hd]))]

theorem parts_congr {t t' : List (Nat × AV)} {l : List (Nat × Operand)} (h : ∀ d, .tmp d ∈ l.map (·.2) → look t d = look t' d) : partsOf t l = partsOf t' l := by
  induction l with
  | nil => rfl
  | cons x l ih =>
    obtain ⟨i, x⟩ := x
    simp only [partsOf]
    rw [ev_congr (fun d e => h d (by simp [e])), ih (fun d hd => h d (by simp at hd ⊢; exact .inr hd))]

theorem opt_congr {t t' : List (Nat × AV)} {o : Option Operand} (h : ∀ d, o = some (.tmp d) → look t d = look t' d) : optEv t o = optEv t' o := by
  cases o with
  | none => rfl
  | some x => simp only [optEv]; rw [ev_congr (fun d e => h d (by rw [e]))]

theorem slots_mem (l : List Operand) (d : Nat) : d ∈ slots l ↔ .tmp d ∈ l := by
  induction l with
  | nil => simp [slots]
  | cons x l ih => cases x <;> simp [slots, ih]

theorem aop_congr {T : Tab} {call : ACall} {o : Oper} {t t' : List (Nat × AV)} {K : List ABlk} {k kp : AV → List ABlk → Prop} (h : ∀ d, d ∈ slots o.op.operands.toList → look t d = look t' d) :
    aop T call o t K k kp = aop T call o t' K k kp := by
  have hm : ∀ d, Operand.tmp d ∈ o.op.operands.toList → look t d = look t' d := fun d hd => h d ((slots_mem _ _).2 hd)
  clear h
  unfold aop
  cases hop : o.op <;> rw [hop] at hm <;> simp only [Op.operands] at hm <;> try simp only
  case call c =>
    simp only [Call.operands] at hm
    cases hc : c.callee with
    | value f =>
      rw [hc] at hm
      simp only at hm ⊢
      rw [ev_congr (x := f) (fun d e => hm d (by simp [e])), evs_congr (l := c.args.toList) (fun d hd => hm d (by simp; exact .inr (by simpa using hd)))]
    | builtin b =>
      rw [hc] at hm
      simp only at hm ⊢
      have ha : ∀ x, x ∈ c.args.toList → ev t x = ev t' x := fun x hx => ev_congr fun d e => hm d (by subst e; simpa using hx)
      cases b <;> try rfl
      all_goals
        (simp only
         split <;> first | rfl | (rename_i heq; rw [heq] at ha; simp at ha; simp only [ha]))
    | invoke r n => rfl
  case panic x => rw [ev_congr (x := x) (fun d e => hm d (by simp [e]))]
  case typeAssert x xt ty ok => rw [ev_congr (x := x) (fun d e => hm d (by simp [e]))]
  case build ty ps => rw [parts_congr (fun d hd => hm d (by simpa using hd))]
  case buildSlice ty n ps => rw [parts_congr (fun d hd => hm d (by simpa using hd))]
  case makeFunc fn x y =>
    cases fn <;> try rfl
    simp only
    rw [evs_congr (l := x.toList) (fun d hd => hm d (by simp; exact .inl (by simpa using hd))), evs_congr (l := y.toList) (fun d hd => hm d (by simp; exact .inr (by simpa using hd)))]
  case slice ty x lo hi mx =>
    cases mx with
    | some _ => rfl
    | none =>
      simp only
      rw [ev_congr (x := x) (fun d e => hm d (by simp [e])), opt_congr (o := lo) (fun d e => hm d (by simp [e])), opt_congr (o := hi) (fun d e => hm d (by simp [e]))]
  case pick c x y => rw [ev_congr (x := c) (fun d e => hm d (by simp [e])), ev_congr (x := x) (fun d e => hm d (by simp [e])), ev_congr (x := y) (fun d e => hm d (by simp [e]))]
  case store ty x y => rw [ev_congr (x := x) (fun d e => hm d (by simp [e])), ev_congr (x := y) (fun d e => hm d (by simp [e]))]
  case makeSlice ty x y => rw [ev_congr (x := x) (fun d e => hm d (by simp [e])), ev_congr (x := y) (fun d e => hm d (by simp [e]))]
  case fieldAddr ty x i => rw [ev_congr (x := x) (fun d e => hm d (by simp [e]))]
  case field ty x i => rw [ev_congr (x := x) (fun d e => hm d (by simp [e]))]
  case indexAddr ty x y => rw [ev_congr (x := x) (fun d e => hm d (by simp [e])), ev_congr (x := y) (fun d e => hm d (by simp [e]))]
  case index ty x y => rw [ev_congr (x := x) (fun d e => hm d (by simp [e])), ev_congr (x := y) (fun d e => hm d (by simp [e]))]
  case extract x i => rw [ev_congr (x := x) (fun d e => hm d (by simp [e]))]
  case binOp op ty x y yt => rw [ev_congr (x := x) (fun d e => hm d (by simp [e])), ev_congr (x := y) (fun d e => hm d (by simp [e]))]
  case load ty x => rw [ev_congr (x := x) (fun d e => hm d (by simp [e]))]
  case box e x => rw [ev_congr (x := x) (fun d e => hm d (by simp [e]))]
  case nilCheck x => rw [ev_congr (x := x) (fun d e => hm d (by simp [e]))]
  case unOp op ty x => rw [ev_congr (x := x) (fun d e => hm d (by simp [e]))]
  case convert s d x => rw [ev_congr (x := x) (fun d e => hm d (by simp [e]))]
  case makeInterface ty x => rw [ev_congr (x := x) (fun d e => hm d (by simp [e]))]
  case move x => rw [ev_congr (x := x) (fun d e => hm d (by simp [e]))]
  case assign x => rw [ev_congr (x := x) (fun d e => hm d (by simp [e]))]
  all_goals rfl

/-! ### quiet operations -/
/-- the same value, the same heap -/
def Same (v : AV) (K : List ABlk) (v' : AV) (K' : List ABlk) : Prop := v' = v ∧ K' = K
theorem Same.refl (v : AV) (K : List ABlk) : Same v K v K := ⟨rfl, rfl⟩

def Pure (F : List ABlk → (AV → List ABlk → Prop) → Prop) : Prop := ∀ K k, F K k → ∃ v, k v K ∧ ∀ K2, F K2 (Same v K2)
def Read (F : List ABlk → (AV → List ABlk → Prop) → Prop) : Prop := ∀ K k, F K k → ∃ v, k v K ∧ F K (Same v K)

theorem Pure.read {F : List ABlk → (AV → List ABlk → Prop) → Prop} (h : Pure F) : Read F := fun K k hF => let ⟨v, h1, h2⟩ := h K k hF; ⟨v, h1, h2 K⟩

section
variable {T : Tab}
theorem pure_v (v : AV) : Pure fun K k => fV v fun v => k v K := fun K k h => by
  simp only [fV_eq] at h ⊢; exact ⟨_, h, fun K2 => Same.refl _ _⟩
theorem pure_c (v : AV) : Pure fun K k => k v K := fun K k h => ⟨_, h, fun K2 => Same.refl _ _⟩
theorem pure_f : Pure fun _ _ => False := fun K k h => h.elim
theorem pure_chk {c : Prop} {F : List ABlk → (AV → List ABlk → Prop) → Prop} (h : Pure F) : Pure fun K k => Chk c (F K k) := fun K k hc =>
  let ⟨v, h1, h2⟩ := h K k hc.k; ⟨v, h1, fun K2 => ⟨hc.h, h2 K2⟩⟩
theorem pure_two (b : Bool) {F G : List ABlk → (AV → List ABlk → Prop) → Prop} (h : Pure F) (h' : Pure G) : Pure fun K k => two b (F K k) (G K k) := by
  cases b
  · exact h'
  · exact h
theorem pure_vl (l : List AV) (f : List AV → AV) : Pure fun K k => fVL l fun l => k (f l) K := fun K k h => by
  simp only [fVL_eq] at h ⊢; exact ⟨_, h, fun K2 => Same.refl _ _⟩
theorem pure_part (ti : TI) (cs : List AV) (off : Nat) : Pure fun K k => part ti cs off fun v => k v K := by
  unfold part
  cases ti.agg
  · simp only
    cases nth cs off with
    | none => exact pure_f
    | some v => exact pure_v v
  · simp only
    cases Nat.ble (off + ti.size) (len cs)
    · exact pure_f
    · exact pure_vl _ AV.agg

theorem read_load (ty : Nat) (a : AV) : Read fun K k => opLoad T K k ty a := by
  intro K k h
  unfold opLoad at h ⊢
  cases hg : T.t.get ty with
  | none => rw [hg] at h; exact h.elim
  | some ti =>
    rw [hg] at h
    simp only at h ⊢
    cases a with
    | rop cs off => exact (pure_part ti (pvs cs) off).read K k h
    | ptr r ver n i off =>
      simp only at h ⊢
      cases hn : nth K r with
      | none => rw [hn] at h; exact h.elim
      | some b =>
        rw [hn] at h
        cases b with
        | box bt cs =>
          simp only at h ⊢
          split at h
          · exact (pure_part ti cs off).read K k h
          · exact h.elim
        | arr et sz ver' n' f => exact (pure_chk (pure_part ti (f i) off)).read K k h
        | _ => exact h.elim
    | _ => exact h.elim

theorem pure_build (ty : Nat) (ps : List (Nat × AV)) : Pure fun K k => opBuild T K k ty ps := by
  unfold opBuild
  cases T.t.get ty with
  | none => exact pure_f
  | some ti =>
    simp only
    cases ti.u with
    | struct fs =>
      simp only
      cases fillS T.t fs (pvs ti.zero) ps with
      | none => exact pure_f
      | some cs => exact pure_vl _ AV.agg
    | _ => exact pure_f

theorem pure_nil (a : AV) : Pure fun K k => opNilCheck K k a := by
  unfold opNilCheck
  cases a with
  | p v => cases v <;> first | exact pure_f | exact pure_c _
  | _ => first | exact pure_f | exact pure_c _

theorem pure_int (op : BinOp) (q : IntKind) (a b : Int) : Pure fun K k => opInt K k op q a b := by
  unfold opInt
  cases op <;> first | exact pure_f | exact pure_c _ | exact pure_chk (pure_c _)
theorem pure_str (op : BinOp) (a b : List UInt8) : Pure fun K k => opStr K k op a b := by
  unfold opStr
  cases op <;> first | exact pure_f | exact pure_c _ | exact pure_chk (pure_c _)

theorem pure_bin (op : BinOp) (ty : Nat) (x y : AV) : Pure fun K k => opBin T K k op ty x y := by
  unfold opBin
  cases x with
  | p x =>
    cases x with
    | int q a =>
      cases y with
      | p y =>
        cases y with
        | int q' b =>
          simp only
          cases decide (q = q') with
          | true => exact pure_int op q a b
          | false => exact pure_f
        | _ => exact pure_f
      | _ => exact pure_f
    | str a =>
      cases y with
      | p y => cases y <;> first | exact pure_str op a _ | exact pure_f
      | _ => exact pure_f
    | bool a =>
      cases y with
      | p y =>
        cases y with
        | bool b =>
          simp only
          cases T.t.get ty with
          | none => exact pure_f
          | some ti =>
            simp only
            cases ti.u with
            | bool => cases op <;> first | exact pure_f | exact pure_c _
            | _ => exact pure_f
        | _ => exact pure_f
      | _ => exact pure_f
    | _ => exact pure_f
  | _ => exact pure_f

theorem pure_nilcmp (op : BinOp) (ty : Nat) (x : AV) (c : PV) : Pure fun K k => opNilCmp T K k op ty x c := by
  unfold opNilCmp
  split
  · exact pure_f
  · split
    · exact pure_f
    · split
      · exact pure_c _
      · exact pure_c _
      · exact pure_f
theorem pure_un (op : UnOp) (x : AV) : Pure fun K k => opUn K k op x := by
  unfold opUn
  cases op with
  | not =>
    cases x with
    | p x => cases x <;> first | exact pure_c _ | exact pure_f
    | _ => exact pure_f
  | neg =>
    cases x with
    | p x => cases x <;> first | exact pure_c _ | exact pure_f
    | _ => exact pure_f
  | _ => exact pure_f

theorem pure_conv (s d : Nat) (x : AV) : Pure fun K k => opConv T K k s d x := by
  unfold opConv
  cases T.t.get s with
  | none => exact pure_f
  | some si =>
    simp only
    cases T.t.get d with
    | none => exact pure_f
    | some di =>
      simp only
      cases di.u with
      | int q =>
        cases x with
        | p x => cases x <;> first | exact pure_c _ | exact pure_f
        | _ => exact pure_f
      | string =>
        cases x with
        | p x => cases x <;> first | exact pure_c _ | exact pure_f
        | _ => exact pure_f
      | slice e =>
        simp only
        cases T.t.get e with
        | none => exact pure_f
        | some ei =>
          simp only
          split
          · cases x with
            | p x => cases x <;> first | exact pure_chk (pure_c _) | exact pure_f
            | _ => exact pure_f
          · exact pure_f
      | _ => exact pure_f

theorem pure_iface (ty : Nat) (x : AV) : Pure fun K k => opIface T K k ty x := by
  unfold opIface
  cases T.t.get ty with
  | none => exact pure_f
  | some ti => simp only; cases ti.u <;> first | exact pure_f | exact pure_c _

theorem pure_fieldAddr (ty : Nat) (x : AV) (i : Nat) : Pure fun K k => opFieldAddr T K k ty x i := by
  unfold opFieldAddr
  cases T.t.get ty with
  | none => exact pure_f
  | some ti =>
    simp only
    cases ti.u with
    | struct fs =>
      simp only
      cases nth fs i with
      | none => exact pure_f
      | some o =>
        simp only
        cases T.t.get o.2 with
        | none => exact pure_f
        | some fi =>
          simp only
          cases Nat.beq fi.size 0
          · cases x <;> first | exact pure_f | exact pure_c _
          · exact pure_f
    | _ => exact pure_f

theorem pure_field (ty : Nat) (x : AV) (i : Nat) : Pure fun K k => opField T K k ty x i := by
  unfold opField
  cases T.t.get ty with
  | none => exact pure_f
  | some ti =>
    simp only
    cases ti.u with
    | struct fs =>
      simp only
      cases nth fs i with
      | none => exact pure_f
      | some o =>
        simp only
        cases T.t.get o.2 with
        | none => exact pure_f
        | some fi => cases x <;> first | exact pure_f | exact pure_part _ _ _
    | _ => exact pure_f

theorem pure_index (ty : Nat) (x i : AV) : Pure fun K k => opIndex T K k ty x i := by
  unfold opIndex
  cases T.t.get ty with
  | none => exact pure_f
  | some ti =>
    simp only
    cases i with
    | p i =>
      cases i with
      | int q i =>
        simp only
        cases ti.u with
        | string =>
          cases x with
          | p x => cases x <;> first | exact pure_f | exact pure_chk (pure_c _)
          | _ => exact pure_f
        | _ => exact pure_f
      | _ => exact pure_f
    | _ => exact pure_f

theorem pure_extract (x : AV) (i : Nat) : Pure fun K k => opExtract K k x i := by
  unfold opExtract
  cases x with
  | tup vs =>
    simp only
    cases nth vs i with
    | none => exact pure_f
    | some v => exact pure_v v
  | _ => exact pure_f

theorem pure_len (ty : Nat) (x : AV) : Pure fun K k => opLen T K k ty x := by
  unfold opLen
  cases T.t.get ty with
  | none => exact pure_f
  | some ti =>
    simp only
    cases ti.u with
    | string =>
      cases x with
      | p x => cases x <;> first | exact pure_f | exact pure_c _
      | _ => exact pure_f
    | slice e =>
      cases x with
      | p x => cases x <;> first | exact pure_f | exact pure_c _
      | slr r ver off n => exact pure_c _
      | _ => exact pure_f
    | _ => exact pure_f

theorem pure_maxmin (b : Bool) (x y : AV) : Pure fun K k => opMaxMin K k b x y := by
  unfold opMaxMin
  cases x with
  | p x =>
    cases x with
    | int q a =>
      cases y with
      | p y => cases y <;> first | exact pure_f | (cases b <;> exact pure_c _)
      | _ => exact pure_f
    | _ => exact pure_f
  | _ => exact pure_f

theorem read_slice (ty : Nat) (x : AV) (lo hi : Option AV) : Read fun K k => opSlice T K k ty x lo hi := by
  intro K k h
  unfold opSlice at h ⊢
  cases hg : T.t.get ty with
  | none => rw [hg] at h; exact h.elim
  | some ti =>
    rw [hg] at h
    simp only at h ⊢
    cases hU : ti.u with
    | string =>
      rw [hU] at h
      cases x with
      | p x =>
        cases x with
        | str s =>
          simp only at h ⊢
          cases hl : bnd 0 lo with
          | none => rw [hl] at h; exact h.elim
          | some l =>
            rw [hl] at h
            simp only at h ⊢
            cases hh : bnd s.length hi with
            | none => rw [hh] at h; exact h.elim
            | some hb =>
              rw [hh] at h
              exact (pure_chk (pure_c _)).read K k h
        | _ => exact h.elim
      | _ => exact h.elim
    | slice e =>
      rw [hU] at h
      simp only at h ⊢
      cases hge : T.t.get e with
      | none => rw [hge] at h; exact h.elim
      | some ei =>
        rw [hge] at h
        cases x with
        | p x =>
          cases x with
          | sl sz n f =>
            simp only at h ⊢
            cases hl : bnd 0 lo with
            | none => rw [hl] at h; exact h.elim
            | some l =>
              rw [hl] at h
              simp only at h ⊢
              cases hh : bnd n hi with
              | none => rw [hh] at h; exact h.elim
              | some hb =>
                rw [hh] at h
                exact (pure_chk (pure_c _)).read K k h
          | _ => exact h.elim
        | slr r ver off n =>
          simp only at h ⊢
          cases hi with
          | some _ => exact h.elim
          | none =>
            simp only at h ⊢
            cases hl : bnd 0 lo with
            | none => rw [hl] at h; exact h.elim
            | some l =>
              rw [hl] at h
              simp only at h ⊢
              cases hn : nth K r with
              | none => rw [hn] at h; exact h.elim
              | some b =>
                rw [hn] at h
                cases b with
                | arr et sz ver' n' f => exact (pure_chk (pure_two _ (pure_c _) (pure_c _))).read K k h
                | _ => exact h.elim
        | _ => exact h.elim
    | _ => rw [hU] at h; exact h.elim

theorem read_indexAddr (ty : Nat) (x i : AV) : Read fun K k => opIndexAddr T K k ty x i := by
  intro K k h
  unfold opIndexAddr at h ⊢
  cases hg : T.t.get ty with
  | none => rw [hg] at h; exact h.elim
  | some ti =>
    rw [hg] at h
    simp only at h ⊢
    cases hU : ti.u with
    | slice e =>
      rw [hU] at h
      simp only at h ⊢
      cases hge : T.t.get e with
      | none => rw [hge] at h; exact h.elim
      | some ei =>
        rw [hge] at h
        cases i with
        | p i =>
          cases i with
          | int q i =>
            simp only at h ⊢
            cases x with
            | p x =>
              cases x with
              | sl sz n f =>
                simp only [fL_eq] at h ⊢
                exact (pure_chk (pure_c _)).read K k h
              | _ => exact h.elim
            | slr r ver off n =>
              simp only at h ⊢
              cases hn : nth K r with
              | none => rw [hn] at h; exact h.elim
              | some b =>
                rw [hn] at h
                cases b with
                | arr et sz ver' n' f => exact (pure_chk (pure_c _)).read K k h
                | _ => exact h.elim
            | _ => exact h.elim
          | _ => exact h.elim
        | _ => exact h.elim
    | _ => rw [hU] at h; exact h.elim

theorem aop_pure {call : ACall} {o : Oper} (hk : kind o.op = 0) (t : List (Nat × AV)) (kp : AV → List ABlk → Prop) : Pure fun K k => aop T call o t K k kp := by
  unfold aop
  cases hop : o.op <;> rw [hop] at hk <;> simp only [kind] at hk <;> (try (simp at hk; done))
  case move x => exact pure_v _
  case assign x => exact pure_v _
  case pick c x y =>
    simp only
    cases ev t c with
    | p v => cases v <;> first | exact pure_f | exact pure_two _ (pure_v _) (pure_v _)
    | _ => exact pure_f
  case build ty ps => exact pure_build _ _
  case nilCheck x => exact pure_nil _
  case binOp op ty x y yt =>
    simp only
    split
    · exact pure_nilcmp _ _ _ _
    · exact pure_bin _ _ _ _
  case unOp op ty x => exact pure_un _ _
  case convert s d x => exact pure_conv _ _ _
  case makeInterface ty x => exact pure_iface _ _
  case makeFunc fn x y =>
    cases fn with
    | func f =>
      intro K k h
      simp only [fVL_eq] at h ⊢
      exact ⟨_, h, fun K2 => Same.refl _ _⟩
    | _ => exact pure_f
  case fieldAddr ty x i => exact pure_fieldAddr _ _ _
  case field ty x i => exact pure_field _ _ _
  case index ty x i => exact pure_index _ _ _
  case extract x i => exact pure_extract _ _
  case call c =>
    simp only
    cases hc : c.callee with
    | builtin b =>
      rw [hc] at hk
      cases b <;> simp only at hk <;> (try (simp at hk; done))
      case len =>
        simp only
        split
        · split
          · exact pure_len _ _
          · exact pure_f
        · exact pure_f
      case max =>
        simp only
        split
        · exact pure_maxmin _ _ _
        · exact pure_f
      case min =>
        simp only
        split
        · exact pure_maxmin _ _ _
        · exact pure_f
    | _ => rw [hc] at hk; simp at hk

theorem aop_read {call : ACall} {o : Oper} (hk : kind o.op = 1) (t : List (Nat × AV)) (kp : AV → List ABlk → Prop) : Read fun K k => aop T call o t K k kp := by
  unfold aop
  cases hop : o.op <;> rw [hop] at hk <;> simp only [kind] at hk <;> (try (simp at hk; done))
  case load ty x => exact read_load _ _
  case indexAddr ty x i => exact read_indexAddr _ _ _
  case slice ty x lo hi mx =>
    cases mx with
    | none => exact read_slice _ _ _ _
    | some _ => exact pure_f.read
  case call c =>
    cases hc : c.callee with
    | builtin b => rw [hc] at hk; cases b <;> simp at hk
    | _ => rw [hc] at hk; simp at hk
end

/-! ### whatever order is drawn -/
section
variable {P : Program} {T : Tab} {call : ACall} {we : World} {me : Mp} {N : Nat} {D0 : List Deferred} {bm : Bool} {ro : Option Nat} {nn : Nat} {L : List Oper} {ac : List (List Nat)}

theorem recheck_ok {an : List Nat} {K : List ABlk} {k : Prop} {rd : List (Nat × List (Nat × AV) × AV)} (h : recheck T call L an K k rd) :
    k ∧ ∀ q t v, (q, t, v) ∈ rd → q ∉ an → ∃ o, L[q]? = some o ∧ aop T call o t K (fun v' _ => v' = v) (fun _ _ => False) := by
  induction rd with
  | nil => exact ⟨h, by simp⟩
  | cons x rd ih =>
    obtain ⟨q, t, v⟩ := x
    rw [recheck_cons] at h
    cases hm : mem an q with
    | true =>
      rw [hm] at h
      obtain ⟨h1, h2⟩ := ih h
      refine ⟨h1, fun q' t' v' hx hn => ?_⟩
      cases List.mem_cons.1 hx with
      | inl e => injection e with e1 _; subst e1; exact absurd ((mem_iff _ _).1 hm) hn
      | inr e => exact h2 q' t' v' e hn
    | false =>
      rw [hm] at h
      simp only at h
      cases ho : nth L q with
      | none => rw [ho] at h; exact h.elim
      | some o =>
        rw [ho] at h
        obtain ⟨h1, h2⟩ := ih h.2
        refine ⟨h1, fun q' t' v' hx hn => ?_⟩
        cases List.mem_cons.1 hx with
        | inl e =>
          injection e with e1 e2
          injection e2 with e2 e3
          subst e1 e2 e3
          exact ⟨o, by rw [← nth_eq]; exact ho, h.1⟩
        | inr e => exact h2 q' t' v' e hn

/-- what is known of an operation that was gone through and is not done yet, or is done -/
def QFact (T : Tab) (call : ACall) (N : Nat) (L : List Oper) (ac : List (List Nat)) (rd : List (Nat × List (Nat × AV) × AV)) (t0 t : List (Nat × AV)) (K : List ABlk) (q : Nat) : Prop :=
  ∃ o tq v, L[q]? = some o ∧ (kind o.op ≠ 2 ∧ ∀ d, o.dst = some d → d < N) ∧ (∀ d, o.dst = some d → look t d = v) ∧
    (∀ d ∈ slots o.op.operands.toList, ((∃ i ∈ ancOf ac q, dstAt L i = some d) → look tq d = look t d) ∧ ((∀ i ∈ ancOf ac q, dstAt L i ≠ some d) → look tq d = look t0 d)) ∧
    (kind o.op = 0 → ∀ K2, aop T call o tq K2 (Same v K2) (fun _ _ => False)) ∧ (kind o.op = 1 → (q, tq, v) ∈ rd ∧ aop T call o tq K (Same v K) (fun _ _ => False))

structure DInv (P : Program) (T : Tab) (call : ACall) (we : World) (me : Mp) (N : Nat) (L : List Oper) (ac : List (List Nat)) (Q : Ex → AS → Prop) (t0 : List (Nat × AV))
    (E : Nat → Prop) (n : Nat) (pre : List Nat) (rd : List (Nat × List (Nat × AV) × AV)) (t : List (Nat × AV)) (K : List ABlk) (w : World) (m : Mp) (tmps : Array Value) : Prop where
  anc : ∀ i ∈ pre, ∀ j ∈ ancOf ac i, j ∈ pre
  lt : ∀ i ∈ pre, i < L.length
  sub : ∀ i, E i → i ∈ pre
  loud : ∀ i ∈ pre, kindAt L i = 2 → E i
  tr : Tr we me w m
  st : St w m (hp K)
  size : tmps.size = N
  rest : adraw T call N L ac n pre rd t K Q
  done : ∀ d i, E i → dstAt L i = some d → V w m (look t d) (tmps.getD d undef)
  old : ∀ d, (∀ i, E i → dstAt L i ≠ some d) → V w m (look t0 d) (tmps.getD d undef)
  keep : ∀ d, (∀ i ∈ pre, dstAt L i ≠ some d) → look t d = look t0 d
  quiet : ∀ q ∈ pre, ¬ E q → QFact T call N L ac rd t0 t K q

theorem dstAt_some {i d : Nat} (h : dstAt L i = some d) : ∃ o, L[i]? = some o ∧ o.dst = some d := by
  unfold dstAt at h
  rw [nth_eq] at h
  cases ho : L[i]? with
  | none => rw [ho] at h; simp at h
  | some o => rw [ho] at h; exact ⟨o, rfl, h⟩
theorem dstAt_of {i : Nat} {o : Oper} (h : L[i]? = some o) : dstAt L i = o.dst := by unfold dstAt; rw [nth_eq, h]
theorem kindAt_of {i : Nat} {o : Oper} (h : L[i]? = some o) : kindAt L i = kind o.op := by unfold kindAt; rw [nth_eq, h]

theorem DrawOk.one (D : DrawOk L ac) {i j d : Nat} (hi : dstAt L i = some d) (hj : dstAt L j = some d) : i = j := by
  obtain ⟨o, h1, h2⟩ := dstAt_some hi
  obtain ⟨o', h3, h4⟩ := dstAt_some hj
  by_cases e : i = j
  · exact e
  · exact absurd h4 (D.slot i o j o' d h1 h3 h2 e).1

theorem kindAt_cases (o : Oper) : kind o.op = 0 ∨ kind o.op = 1 ∨ kind o.op = 2 := by
  unfold kind
  split <;> first | simp | (split <;> first | simp | (split <;> simp))

theorem look_put (t : List (Nat × AV)) (d : Option Nat) (v : AV) (x : Nat) : look (put t d v) x = if d = some x then v else look t x := by
  cases d with
  | none => simp [put]
  | some d => simp only [put, look_cons]; by_cases e : d = x <;> simp [e]

theorem bound_ok {d : Option Nat} {k : Prop} (h : bound N d k) : (∀ x, d = some x → x < N) ∧ k := by
  unfold bound at h
  cases d with
  | none => exact ⟨by simp, h⟩
  | some d =>
    simp only at h
    cases hb : Nat.blt d N with
    | false => rw [hb] at h; exact h.elim
    | true =>
      rw [hb] at h
      exact ⟨fun x hx => by injection hx with hx; subst hx; exact Nat.le_of_ble_eq_true hb, h⟩

/-- the quiet operations that may be carried out are gone through -/
theorem DInv.norm (D : DrawOk L ac) {Q : Ex → AS → Prop} {t0 : List (Nat × AV)} {E : Nat → Prop} {w : World} {m : Mp} {tmps : Array Value} (n : Nat) : ∀ {pre rd t K},
    DInv P T call we me N L ac Q t0 E n pre rd t K w m tmps →
    ∃ n' pre' rd' t' K', DInv P T call we me N L ac Q t0 E (n' + 1) pre' rd' t' K' w m tmps ∧ pickQ L ac pre' (upto (len L)) = none := by
  induction n with
  | zero => intro pre rd t K h; exact h.rest.elim
  | succ n ih =>
    intro pre rd t K h
    have hr := h.rest
    rw [adraw_succ] at hr
    unfold adrawS at hr
    cases hq : pickQ L ac pre (upto (len L)) with
    | none => exact ⟨n, pre, rd, t, K, h, hq⟩
    | some i =>
      rw [hq] at hr
      simp only [fN_eq] at hr
      unfold adrawQ at hr
      obtain ⟨hiL, hav⟩ := pickQ_some hq
      obtain ⟨hnot, hanc, hk2⟩ := avail_iff.1 hav
      have hil : i < L.length := by rw [upto_mem, len_eq] at hiL; exact hiL
      cases ho : nth L i with
      | none => rw [ho] at hr; exact hr.elim
      | some o =>
        rw [ho] at hr
        rw [nth_eq] at ho
        obtain ⟨hb, hr⟩ := bound_ok hr
        rw [kindAt_of ho] at hk2
        have hk2 : kind o.op ≠ 2 := fun e => by rw [e] at hk2; simp at hk2
        have hself : i ∉ ancOf ac i := fun hm => hnot (hanc i hm)
        have hget : ∃ v rd', (∀ x ∈ rd, x ∈ rd') ∧ adraw T call N L ac n (i :: pre) rd' (put t o.dst v) K Q ∧ (kind o.op = 0 → ∀ K2, aop T call o t K2 (Same v K2) (fun _ _ => False)) ∧
            (kind o.op = 1 → (i, t, v) ∈ rd' ∧ aop T call o t K (Same v K) (fun _ _ => False)) := by
          split at hr
          · rename_i hk
            obtain ⟨v, h1, h2⟩ := aop_pure hk t _ K _ hr
            exact ⟨v, rd, fun x hx => hx, h1, fun _ => h2, fun e => by rw [hk] at e; simp at e⟩
          · rename_i hk
            obtain ⟨v, h1, h2⟩ := aop_read hk t _ K _ hr
            exact ⟨v, _, fun x hx => List.mem_cons_of_mem _ hx, h1, fun e => by rw [hk] at e; simp at e, fun _ => ⟨by simp, h2⟩⟩
          · exact hr.elim
        obtain ⟨v, rd', hrd, h1, h2, h3⟩ := hget
        have hd : ∀ x j, j ∈ pre → dstAt L j = some x → o.dst ≠ some x := fun x j hj hjx e =>
          hnot (D.one (L := L) (ac := ac) (i := j) (j := i) hjx (by rw [dstAt_of ho]; exact e) ▸ hj)
        refine ih (pre := i :: pre) (rd := rd') (t := put t o.dst v) (K := K) ?_
        refine ⟨fun j hj k hk => ?_, fun j hj => ?_, fun j hj => by simp [h.sub j hj], fun j hj hk => ?_, h.tr, h.st, h.size, h1, fun d j hE hjd => ?_, h.old, fun d hd' => ?_, fun q hq hqE => ?_⟩
        · cases List.mem_cons.1 hj with
          | inl e => subst e; exact List.mem_cons_of_mem _ (hanc k hk)
          | inr e => exact List.mem_cons_of_mem _ (h.anc j e k hk)
        · cases List.mem_cons.1 hj with
          | inl e => subst e; exact hil
          | inr e => exact h.lt j e
        · cases List.mem_cons.1 hj with
          | inl e => subst e; rw [kindAt_of ho] at hk; exact absurd hk hk2
          | inr e => exact h.loud j e hk
        · rw [look_put, if_neg (hd d j (h.sub j hE) hjd)]
          exact h.done d j hE hjd
        · rw [look_put, if_neg (fun e => hd' i (by simp) (by rw [dstAt_of ho]; exact e))]
          exact h.keep d (fun j hj => hd' j (by simp [hj]))
        · cases List.mem_cons.1 hq with
          | inr hq =>
            obtain ⟨oq, tq, vq, q1, qk, q2, q3, q4, q5⟩ := h.quiet q hq hqE
            refine ⟨oq, tq, vq, q1, qk, fun d hd' => ?_, fun d hd' => ⟨fun he => ?_, (q3 d hd').2⟩, q4, fun e => ⟨hrd _ (q5 e).1, (q5 e).2⟩⟩
            · rw [look_put, if_neg (hd d q hq (by rw [dstAt_of q1]; exact hd'))]
              exact q2 d hd'
            · rw [(q3 d hd').1 he, look_put, if_neg ?_]
              intro e
              obtain ⟨j, hj, hjd⟩ := he
              have : i = j := D.one (i := i) (j := j) (by rw [dstAt_of ho]; exact e) hjd
              exact hnot (this ▸ h.anc q hq j hj)
          | inl e =>
            subst e
            refine ⟨o, t, v, ho, ⟨hk2, hb⟩, fun d hd' => by rw [look_put, if_pos hd'], fun d hd' => ⟨fun he => ?_, fun he => ?_⟩, h2, h3⟩
            · rw [look_put, if_neg ?_]
              intro e
              obtain ⟨j, hj, hjd⟩ := he
              have : q = j := D.one (i := q) (j := j) (by rw [dstAt_of ho]; exact e) hjd
              exact hself (this ▸ hj)
            · refine h.keep d (fun j hj hjd => ?_)
              obtain ⟨oj, j1, j2⟩ := dstAt_some hjd
              rcases (D.slot j oj q o d j1 ho j2 (fun e => hnot (e ▸ hj))).2 hd' with hx | hx
              · exact he j hx hjd
              · exact hnot (h.anc j hj q hx)

/-- the slots that an operation names -/
def restrict (t : List (Nat × AV)) : List Nat → List (Nat × AV)
  | [] => []
  | d :: r => (d, look t d) :: restrict t r
theorem look_restrict (t : List (Nat × AV)) (l : List Nat) (d : Nat) : look (restrict t l) d = if d ∈ l then look t d else .junk := by
  induction l with
  | nil => simp [restrict, look]
  | cons a l ih =>
    simp only [restrict, look_cons, ih, List.mem_cons]
    by_cases e : a = d
    · subst e; simp
    · have e' : ¬ d = a := fun x => e x.symm
      simp [e, e']

theorem EnvOk.restrict {w : World} {m : Mp} {t : List (Nat × AV)} {tmps : Array Value} {l : List Nat} (h : ∀ d ∈ l, V w m (look t d) (tmps.getD d undef)) : EnvOk w m (restrict t l) tmps := by
  intro d
  rw [look_restrict]
  by_cases e : d ∈ l
  · rw [if_pos e]; exact h d e
  · rw [if_neg e]; exact .junk _

theorem draw_run (hT : TabOk P T) (hcall : CallOk P call) {ops : Array Oper} (D : DrawOk ops.toList ac) {Q : Ex → AS → Prop} {t0 : List (Nat × AV)} {E : Nat → Prop} {s : List Nat} (hs : Sch ops E s) :
    (∀ i, E i → ∃ o, ops.toList[i]? = some o ∧ ∀ j ∈ ancOf ac i, E j) → ∀ {n pre rd t K w m} {a : Act}, Mk bm we D0 w m a.defers →
    DInv P T call we me N ops.toList ac Q t0 E n pre rd t K w m a.tmps → wpOpsIn (FW ro) nn P ops (Rel bm N we me D0 Q) s a w := by
  induction hs with
  | nil E hE =>
    intro hcl n pre rd t K w m a hd h
    simp only [wpOpsIn]
    obtain ⟨n, pre, rd, t, K, h, hq⟩ := h.norm D
    have hl : loudN ops.toList ac pre (upto (len ops.toList)) = [] := by
      cases hl : loudN ops.toList ac pre (upto (len ops.toList)) with
      | nil => rfl
      | cons i r =>
        exfalso
        have hm : i ∈ loudN ops.toList ac pre (upto (len ops.toList)) := by rw [hl]; simp
        obtain ⟨h1, h2⟩ := loudN_mem.1 hm
        rw [upto_mem, len_eq] at h1
        exact (avail_iff.1 h2).1 (h.sub i (hE i (by simpa using h1)))
    have hr := h.rest
    rw [adraw_succ] at hr
    unfold adrawS at hr
    rw [hq, hl] at hr
    refine ⟨h.size, m, ⟨t, K⟩, hd, h.tr, h.st, fun d => ?_, hr⟩
    by_cases hex : ∃ i, E i ∧ dstAt ops.toList i = some d
    · obtain ⟨i, h1, h2⟩ := hex
      exact h.done d i h1 h2
    · have hno : ∀ i, E i → dstAt ops.toList i ≠ some d := fun i h1 h2 => hex ⟨i, h1, h2⟩
      rw [h.keep d (fun i hi => ?_)]
      · exact h.old d hno
      · have hil := h.lt i hi
        exact hno i (hE i (by simpa using hil))
  | cons E i o rest hi hn he hs ih =>
    intro hcl n pre rd t K w m a hd h
    have hoL : ops.toList[i]? = some o := by simpa using hi
    have hiL : i < ops.toList.length := by rw [List.getElem?_eq_some_iff] at hoL; exact hoL.1
    obtain ⟨n, pre, rd, t, K, h, hq⟩ := h.norm D
    have hanc : ∀ j ∈ ancOf ac i, E j := fun j hj => by
      obtain ⟨e, h1, h2⟩ := D.ancE i o j hoL hj
      rcases h2 with rfl | h2
      · exact he j h1
      · obtain ⟨_, _, h3⟩ := hcl e (he e h1)
        exact h3 j h2
    have hcl' : ∀ j, (E j ∨ j = i) → ∃ o, ops.toList[j]? = some o ∧ ∀ k ∈ ancOf ac j, (E k ∨ k = i) := fun j hj => by
      rcases hj with hj | rfl
      · obtain ⟨o, h1, h2⟩ := hcl j hj
        exact ⟨o, h1, fun k hk => .inl (h2 k hk)⟩
      · exact ⟨o, hoL, fun k hk => .inl (hanc k hk)⟩
    have hw : Region.wanted o (yielded ops a.tmps) = true := by simp [Region.wanted, D.guard i o hoL]
    have hclA : ∀ e, E e → ∀ j ∈ ancOf ac e, E j := fun e he => let ⟨_, _, h⟩ := hcl e he; h
    simp only [wpOpsIn, hi, hw, if_true]
    refine ⟨fun _ _ => trivial, ?_⟩
    -- a slot that it names, written by something that is done, was written by what stands ahead of it
    have hslot : ∀ d, d ∈ slots o.op.operands.toList → ∀ j, E j → dstAt ops.toList j = some d → j ∈ ancOf ac i := fun d hd' j hj hjd => by
      obtain ⟨oj, j1, j2⟩ := dstAt_some hjd
      rcases (D.slot j oj i o d j1 hoL j2 (fun e => hn (e ▸ hj))).2 hd' with hx | hx
      · exact hx
      · exact absurd (hclA j hj i hx) hn
    by_cases hk2 : kind o.op = 2
    · -- a loud one: the next of the order
      have hinp : i ∉ pre := fun hm => hn (h.loud i hm (by rw [kindAt_of hoL]; exact hk2))
      have hr := h.rest
      rw [adraw_succ] at hr
      unfold adrawS at hr
      rw [hq] at hr
      have hm : i ∈ loudN ops.toList ac pre (upto (len ops.toList)) := loudN_mem.2 ⟨by rw [upto_mem, len_eq]; exact hiL, avail_iff.2 ⟨hinp, fun j hj => h.sub j (hanc j hj), by rw [kindAt_of hoL, hk2]; rfl⟩⟩
      cases hl : loudN ops.toList ac pre (upto (len ops.toList)) with
      | nil => rw [hl] at hm; simp at hm
      | cons a1 r =>
      rw [hl] at hr hm
      replace hr := each_ok hr i hm
      simp only [fN_eq] at hr
      unfold adrawL at hr
      rw [nth_eq, hoL] at hr
      obtain ⟨hb, hr⟩ := bound_ok hr
      have hwr : ∀ d ∈ slots o.op.operands.toList, V w m (look t d) (a.tmps.getD d undef) := fun d hd' => by
        by_cases hex : ∃ j, E j ∧ dstAt ops.toList j = some d
        · obtain ⟨j, h1, h2⟩ := hex
          exact h.done d j h1 h2
        · rw [h.keep d (fun j hj hjd => ?_)]
          · exact h.old d (fun j h1 h2 => hex ⟨j, h1, h2⟩)
          · obtain ⟨oj, j1, j2⟩ := dstAt_some hjd
            rcases (D.slot j oj i o d j1 hoL j2 (fun e => hinp (e ▸ hj))).2 hd' with hx | hx
            · exact hex ⟨j, hanc j hx, hjd⟩
            · exact hinp (h.anc j hj i hx)
      rw [aop_semAt hr]
      rw [aop_congr (t' := restrict t (slots o.op.operands.toList)) (fun d hd' => by rw [look_restrict, if_pos hd'])] at hr
      refine aop_ok hT hcall h.st (EnvOk.restrict hwr) (fun w' m' v K' u h1 h2 h3 h4 => ?_) (fun w' m' v K' u h1 h2 h3 h4 => ?_) hr
      · obtain ⟨h5, h6⟩ := recheck_ok h4
        have hnod : ∀ x j, j ∈ pre → dstAt ops.toList j = some x → o.dst ≠ some x := fun x j hj hjx e =>
          hinp (D.one (i := j) (j := i) hjx (by rw [dstAt_of hoL]; exact e) ▸ hj)
        have hput : ∀ d, o.dst ≠ some d → (a.put o.dst u).tmps.getD d undef = a.tmps.getD d undef := fun d hne => by
          cases hd' : o.dst with
          | none => rfl
          | some x =>
            have : x ≠ d := fun e => hne (by rw [hd', e])
            simp only [Act.put, Array.getD_eq_getD_getElem?, Array.getElem?_setIfInBounds, if_neg this]
        refine ih hcl' (n := n) (pre := i :: pre) (rd := rd) (t := put t o.dst v) (K := K') (m := m') (by rw [put_defers]; exact hd.mono h1) ?_
        refine ⟨fun j hj k hk => ?_, fun j hj => ?_, fun j hj => ?_, fun j hj hk => ?_, h.tr.trans h1, h2, by rw [put_size]; exact h.size, h5, fun d j hE hjd => ?_, fun d hd' => ?_, fun d hd' => ?_, fun q hq hqE => ?_⟩
        · cases List.mem_cons.1 hj with
          | inl e => subst e; exact List.mem_cons_of_mem _ (h.sub k (hanc k hk))
          | inr e => exact List.mem_cons_of_mem _ (h.anc j e k hk)
        · cases List.mem_cons.1 hj with
          | inl e => subst e; exact hiL
          | inr e => exact h.lt j e
        · rcases hj with hj | rfl
          · simp [h.sub j hj]
          · simp
        · cases List.mem_cons.1 hj with
          | inl e => exact .inr e
          | inr e => exact .inl (h.loud j e hk)
        · rcases hE with hE | rfl
          · have hne := hnod d j (h.sub j hE) hjd
            rw [look_put, if_neg hne, hput d hne]
            exact (h.done d j hE hjd).mono h1
          · rw [dstAt_of hoL] at hjd
            rw [look_put, if_pos hjd]
            have hlt : d < a.tmps.size := by rw [h.size]; exact hb d hjd
            rw [hjd]
            simpa [Act.put, Array.getD, hlt] using h3
        · have hne : o.dst ≠ some d := fun e => hd' i (.inr rfl) (by rw [dstAt_of hoL]; exact e)
          rw [hput d hne]
          exact (h.old d (fun j hj => hd' j (.inl hj))).mono h1
        · rw [look_put, if_neg (fun e => hd' i (by simp) (by rw [dstAt_of hoL]; exact e))]
          exact h.keep d (fun j hj => hd' j (by simp [hj]))
        · rcases List.mem_cons.1 hq with rfl | hq
          · exact absurd (.inr rfl) hqE
          · obtain ⟨oq, tq, vq, q1, qk, q2, q3, q4, q5⟩ := h.quiet q hq (fun e => hqE (.inl e))
            refine ⟨oq, tq, vq, q1, qk, fun d hd' => ?_, fun d hd' => ⟨fun he' => ?_, (q3 d hd').2⟩, q4, fun e => ?_⟩
            · rw [look_put, if_neg (hnod d q hq (by rw [dstAt_of q1]; exact hd'))]
              exact q2 d hd'
            · rw [(q3 d hd').1 he', look_put, if_neg ?_]
              intro e
              obtain ⟨j, hj, hjd⟩ := he'
              have : i = j := D.one (i := i) (j := j) (by rw [dstAt_of hoL]; exact e) hjd
              exact hinp (this ▸ h.anc q hq j hj)
            · obtain ⟨hin, _⟩ := q5 e
              refine ⟨hin, ?_⟩
              obtain ⟨o2, h7, h8⟩ := h6 q tq vq hin (fun hm => hqE (.inl (hanc q hm)))
              rw [q1] at h7
              injection h7 with h7
              subst h7
              obtain ⟨v', h9, h10⟩ := aop_read e tq _ K' _ h8
              subst h9
              exact h10
      · exact ⟨h.size, m', ⟨[], K'⟩, v, u, hd.mono h1, rfl, h.tr.trans h1, h2, fun _ => .junk _, h3, h4⟩
    · -- a quiet one: gone through already
      have hip : i ∈ pre := by
        by_cases hm : i ∈ pre
        · exact hm
        · exfalso
          have h1 := pickQ_none hq i (by rw [upto_mem, len_eq]; exact hiL)
          rw [avail_iff.2 ⟨hm, fun j hj => h.sub j (hanc j hj), by
            rw [kindAt_of hoL]
            cases hb : Nat.beq (kind o.op) 2 with
            | true => exact absurd (Nat.eq_of_beq_eq_true hb) hk2
            | false => rfl⟩] at h1
          simp at h1
      obtain ⟨oq, tq, vq, q1, qk, q2, q3, q4, q5⟩ := h.quiet i hip hn
      rw [hoL] at q1
      injection q1 with q1
      subst q1
      have hkk : kind o.op = 0 ∨ kind o.op = 1 ∨ kind o.op = 2 := by
        unfold kind
        split <;> first | simp | (split <;> first | simp | (split <;> simp))
      have ha : aop T call o tq K (Same vq K) (fun _ _ => False) := by
        rcases hkk with e | e | e
        · exact q4 e K
        · exact (q5 e).2
        · exact absurd e hk2
      have hwr : ∀ d ∈ slots o.op.operands.toList, V w m (look tq d) (a.tmps.getD d undef) := fun d hd' => by
        by_cases hex : ∃ j ∈ ancOf ac i, dstAt ops.toList j = some d
        · rw [(q3 d hd').1 hex]
          obtain ⟨j, h1, h2⟩ := hex
          exact h.done d j (hanc j h1) h2
        · rw [(q3 d hd').2 (fun j h1 h2 => hex ⟨j, h1, h2⟩)]
          exact h.old d (fun j h1 h2 => hex ⟨j, hslot d hd' j h1 h2, h2⟩)
      have hb : ∀ x, o.dst = some x → x < a.tmps.size := fun x hx => by rw [h.size]; exact qk.2 x hx
      rw [aop_semAt ha]
      rw [aop_congr (t' := restrict tq (slots o.op.operands.toList)) (fun d hd' => by rw [look_restrict, if_pos hd'])] at ha
      refine aop_ok hT hcall h.st (EnvOk.restrict hwr) (fun w' m' v K' u h1 h2 h3 h4 => ?_) (fun w' m' v K' u h1 h2 h3 h4 => h4.elim) ha
      obtain ⟨rfl, rfl⟩ := h4
      have hput : ∀ d, o.dst ≠ some d → (a.put o.dst u).tmps.getD d undef = a.tmps.getD d undef := fun d hne => by
        cases hd' : o.dst with
        | none => rfl
        | some x =>
          have : x ≠ d := fun e => hne (by rw [hd', e])
          simp only [Act.put, Array.getD_eq_getD_getElem?, Array.getElem?_setIfInBounds, if_neg this]
      refine ih hcl' (n := n + 1) (pre := pre) (rd := rd) (t := t) (K := K') (m := m') (by rw [put_defers]; exact hd.mono h1) ?_
      refine ⟨h.anc, h.lt, fun j hj => ?_, fun j hj hk => .inl (h.loud j hj hk), h.tr.trans h1, h2, by rw [put_size]; exact h.size, h.rest, fun d j hE hjd => ?_, fun d hd' => ?_, h.keep, fun q hq hqE => h.quiet q hq (fun e => hqE (.inl e))⟩
      · rcases hj with hj | rfl
        · exact h.sub j hj
        · exact hip
      · rcases hE with hE | rfl
        · by_cases hne : o.dst = some d
          · have : j = i := D.one hjd (by rw [dstAt_of hoL]; exact hne)
            exact absurd (this ▸ hE) hn
          · rw [hput d hne]
            exact (h.done d j hE hjd).mono h1
        · rw [dstAt_of hoL] at hjd
          rw [q2 d hjd]
          have hlt : d < a.tmps.size := hb d hjd
          rw [hjd]
          simpa [Act.put, Array.getD, hlt] using h3
      · have hne : o.dst ≠ some d := fun e => hd' i (.inr rfl) (by rw [dstAt_of hoL]; exact e)
        rw [hput d hne]
        exact (h.old d (fun j hj => hd' j (.inl hj))).mono h1

/-- a drawn region -/
theorem adraw_ok (hT : TabOk P T) (hcall : CallOk P call) (hmix : P.follows .mixedOrders = true) {id : Nat} {ops : Array Oper} {Q : Ex → AS → Prop} {t : List (Nat × AV)} {K : List ABlk} (hB : drawB ops.toList = true) {n : Nat}
    (h : adraw T call N ops.toList (ancs ops.toList []) n [] [] t K Q) (w : World) (m : Mp) (a : Act)
    (hTr : Tr we me w m) (hS : St w m (hp K)) (hE : EnvOk w m t a.tmps) (hN : a.tmps.size = N) (hd : Mk bm we D0 w m a.defers) : (Code.region id ops true).wpIn (FW ro) nn P (Rel bm N we me D0 Q) a w := by
  have D := drawB_ok hB
  refine wpIn_region_draw fun k => ?_
  rw [hmix]
  have hs := schedule_sch ops (fun i o ho => D.edge i o (by simpa using ho)) k
  refine draw_run hT hcall D (t0 := t) hs (fun i hi => hi.elim) (n := n) (pre := []) (rd := []) (t := t) (K := K) (m := m) (hd.mono (Tr.drew w m)) ?_
  refine ⟨fun i hi => by simp at hi, fun i hi => by simp at hi, fun i hi => hi.elim, fun i hi => by simp at hi, hTr.trans (Tr.drew w m), hS.drew, hN, h, fun d i hi => hi.elim, fun d _ => (hE d).mono (Tr.drew w m), fun d _ => rfl, fun q hq => by simp at hq⟩
end

end Go.AE
