/-
  Expressions in brackets: the plain law. No program in sight; no statement of the seat is proved here.
  The statement ParseBrackets: the plain law, what the program computes, and the two joined.
  The statement ParseBrackets: what the program computes, joined with the plain law.
-/
import Derived.Test.YtbcngegcpdppfaaGreatDoorPk1
import Derived.Test.YtbcngegcpdppfaaGreatDoorPk2
import Derived.Test.YtbcngegcpdppfaaGreatDoorPk3
import Derived.Test.YtbcngegcpdppfaaGreatDoorPk4
import Derived.Test.YtbcngegcpdppfaaGreatDoorPk5
import Derived.Test.YtbcngegcpdppfaaGreatDoorPk6
namespace Go.Ru
open Go
set_option maxRecDepth 20000

def opsL : List Bs := [[43], [45], [42], [47], [37], [61, 61], [33, 61], [60], [60, 61], [62], [62, 61], [38, 38], [124, 124]]
theorem ops_row : ∀ x ∈ opsL, ∃ j, j ≤ 4 ∧ x ∈ rowS j ∧ (∀ j' < j, x ∉ rowS j') ∧ x ≠ [91] := by decide
theorem isS_sign {t : Tok} {r : List Tok} {w : Bs} (h : t.k = .sign) : isS w (t :: r) = (t.tx == w) := by simp [isS, h]
theorem any_sign {t : Tok} {r : List Tok} {l : List Bs} (h : t.k = .sign) : anyS l (t :: r) = l.any (fun w => t.tx == w) := by
  unfold anyS; congr 1; funext w; exact isS_sign h
theorem tail_close {t : Tok} {r : List Tok} (h : t.k = .sign) (hx : t.tx = [41]) : TailOk (t :: r) := by
  refine ⟨fun j => ?_, by rw [isS_sign h, hx]; decide⟩
  rw [any_sign h, hx]
  match j with
  | 0 => decide
  | 1 => decide
  | 2 => decide
  | 3 => decide
  | j + 4 => rfl
theorem expr_stop {una : M Int} {s s1 : PS} {y : Int} (h : una s = .ok y s1) : ∀ j, (∀ j' < j, anyS (rowS j') s1.ts = false) → exprS una j s = .ok y s1 := by
  intro j
  induction j with
  | zero => exact fun _ => h
  | succ j ih =>
    intro hj
    unfold exprS
    rw [ih fun j' h' => hj j' (by omega)]
    simp only [R.bind]
    have := hj j (Nat.lt_succ_self _)
    cases ht : s1.ts with
    | nil => rfl
    | cons t r =>
      rw [ht] at this
      unfold rowLoop
      simp only [List.length_cons, ht, this]
/-- what was read of some tokens -/
structure Read1 (e : Int) (ts : List Tok) (a : List Nd) (ra : Int) : Prop where
  mo : ∃ m, exS e 40 ⟨ts, [], 0⟩ = .ok ra ⟨[], a, m⟩ ∧ m ≤ 38
theorem paren_s {e e2 : Int} {ts : List Tok} {a : List Nd} {ra : Int} (h : Read1 e ts a ra) {q : List Tok} (hq : TsE ts q) {t0 t1 : Tok} (h0 : t0.k = .sign) (h0x : t0.tx = [40]) (h1 : t1.k = .sign) (h1x : t1.tx = [41]) (tl2 : List Tok) (p2 : List Nd) (mo : Int) :
    ∃ n2 mo', unaS e2 40 ⟨t0 :: (q ++ t1 :: tl2), p2, mo⟩ = .ok (ra + p2.length) ⟨tl2, p2 ++ n2, mo'⟩ ∧ n2.map nkey = a.map fun n => nkey (shiftN n p2.length) := by
  obtain ⟨m, hm, hm2⟩ := h.mo
  have hsr : SR [] p2 (t1 :: tl2) ⟨ts, [], 0⟩ ⟨q ++ t1 :: tl2, p2, moreS 40 mo⟩ := ⟨⟨q, rfl, hq⟩, ⟨[], [], rfl, by simp, rfl⟩⟩
  obtain ⟨s2, h3, h4⟩ := ex_s (e := e) (e2 := e2) (M0 := 38) (Int.le_refl _) (tail_close h1 h1x) 39 _ _ hsr ra ⟨[], a, m⟩ hm hm2
  obtain ⟨q', h5, h6⟩ := h4.ts
  simp only at h6
  rw [h6.nil, List.nil_append] at h5
  obtain ⟨a', n2, h7, h8, h9⟩ := h4.ns
  simp only [List.nil_append] at h7
  subst h7
  obtain ⟨ts2, ns2, mo2⟩ := s2
  simp only at h5 h8
  subst h5 h8
  refine ⟨n2, mo2, ?_, by simpa using h9⟩
  have e45 : isS [45] (t0 :: (q ++ t1 :: tl2)) = false := by rw [isS_sign h0, h0x]; decide
  have e33 : isS [33] (t0 :: (q ++ t1 :: tl2)) = false := by rw [isS_sign h0, h0x]; decide
  have e40 : isS [40] (t0 :: (q ++ t1 :: tl2)) = true := by rw [isS_sign h0, h0x]; decide
  have e41 : isS [41] (t1 :: tl2) = true := by rw [isS_sign h1, h1x]; decide
  have h3' : exprS (unaS e2 39) 5 ⟨q ++ t1 :: tl2, p2, moreS (39 + 1) mo⟩ = .ok (ra + p2.length) ⟨t1 :: tl2, p2 ++ n2, mo2⟩ := by
    have := h3
    simp only [List.length_nil, Int.natCast_zero, Int.sub_zero] at this
    exact this
  show unaB e2 (39 + 1) (unaS e2 39) (exprS (unaS e2 39) 5) _ = _
  unfold unaB
  simp only [e45, e33, Bool.or_self]
  unfold primS
  have d1 : (([40] : Bs) == [116, 114, 117, 101]) = false := by decide
  have d2 : (([40] : Bs) == [102, 97, 108, 115, 101]) = false := by decide
  have d3 : (([40] : Bs) == [108, 101, 110]) = false := by decide
  have d4 : (([40] : Bs) == [38]) = false := by decide
  have d5 : (([40] : Bs) == [40]) = true := by decide
  simp only [h0, h0x, d1, d2, d3, d4, d5]
  unfold withinS
  simp only [e40, List.tail_cons]
  rw [h3']
  simp only [R.bind, wantS, e41, dropS, List.tail_cons]
theorem shift0 (n : Nd) : nkey (shiftN n 0) = nkey n := by simp [nkey, shiftN]
theorem brackets_c {e e2 : Int} {ts : List Tok} {a : List Nd} {ra : Int} (h : Read1 e ts a ra) {q : List Tok} (hq : TsE ts q) {t0 t1 : Tok} (h0 : t0.k = .sign) (h0x : t0.tx = [40]) (h1 : t1.k = .sign) (h1x : t1.tx = [41]) :
    ∃ c m, exS e2 40 ⟨t0 :: (q ++ [t1]), [], 0⟩ = .ok ra ⟨[], c, m⟩ ∧ c.map nkey = a.map nkey := by
  obtain ⟨n2, mo', h2, h3⟩ := paren_s (e2 := e2) h hq h0 h0x h1 h1x [] [] 0
  refine ⟨n2, mo', ?_, by simpa [shift0] using h3⟩
  have := expr_stop h2 5 (fun j' _ => by simp [anyS, isS])
  show exprS (unaS e2 40) 5 _ = _
  simpa using this
theorem brackets_d {e1 e3 e2 : Int} {ts ts' : List Tok} {a b : List Nd} {ra rb : Int} (h : Read1 e1 ts a ra) (h' : Read1 e3 ts' b rb) {q q' : List Tok} (hq : TsE ts q) (hq' : TsE ts' q') {t0 t1 t2 t3 tx : Tok} (h0 : t0.k = .sign) (h0x : t0.tx = [40]) (h1 : t1.k = .sign) (h1x : t1.tx = [41])
    (h2 : t2.k = .sign) (h2x : t2.tx = [40]) (h3 : t3.k = .sign) (h3x : t3.tx = [41]) (hx : tx.k = .sign) (hxx : tx.tx ∈ opsL) :
    ∃ c m, exS e2 40 ⟨t0 :: (q ++ t1 :: tx :: t2 :: (q' ++ [t3])), [], 0⟩ = .ok ((a.length + b.length : Nat) : Int) ⟨[], c, m⟩ ∧ c.map nkey = (overS ⟨27, 0, 0, tx.tx, []⟩ [(a, ra), (b, rb)]).1.map nkey := by
  obtain ⟨n1, m1, h4, h5⟩ := paren_s (e2 := e2) h hq h0 h0x h1 h1x (tx :: t2 :: (q' ++ [t3])) [] 0
  obtain ⟨n2, m2, h6, h7⟩ := paren_s (e2 := e2) h' hq' h2 h2x h3 h3x [] n1 m1
  simp only [List.nil_append, List.length_nil, Int.natCast_zero, Int.add_zero, shift0] at h4 h5
  have hl1 : n1.length = a.length := by have := congrArg List.length h5; simpa using this
  have hl2 : n2.length = b.length := by have := congrArg List.length h7; simpa using this
  obtain ⟨j, hj, hin, hno, _⟩ := ops_row _ hxx
  have hany : ∀ l, anyS l (tx :: t2 :: (q' ++ [t3])) = l.any (fun w => tx.tx == w) := fun l => any_sign hx
  have hat : anyS (rowS j) (tx :: t2 :: (q' ++ [t3])) = true := by
    rw [hany, List.any_eq_true]; exact ⟨_, hin, beq_self_eq_true _⟩
  have haf : ∀ j' < j, anyS (rowS j') (tx :: t2 :: (q' ++ [t3])) = false := fun j' hj' => by
    rw [hany, List.any_eq_false]
    intro w hw e
    have := beq_iff_eq.1 e
    exact hno j' hj' (this ▸ hw)
  have hnil : ∀ l, anyS l [] = false := fun l => by simp [anyS, isS]
  -- as far as the sign's row
  have hfirst := expr_stop h4 j haf
  have hsecond := expr_stop h6 j (fun j' _ => hnil _)
  have hz : exprS (unaS e2 40) (j + 1) ⟨t0 :: (q ++ t1 :: tx :: t2 :: (q' ++ [t3])), [], 0⟩ = .ok (((n1 ++ n2).length : Nat) : Int) ⟨[], n1 ++ n2 ++ [⟨27, 0, tx.at_, tx.tx, [ra, rb + n1.length]⟩], m2⟩ := by
    unfold exprS
    rw [hfirst]
    simp only [R.bind, List.length_cons]
    unfold rowLoop
    simp only [hat]
    rw [hsecond]
    simp only [R.bind, putS]
    unfold rowLoop
    cases (List.length (t2 :: (q' ++ [t3]))) <;> rfl
  have hrest : ∀ i, exprS (unaS e2 40) (j + 1 + i) ⟨t0 :: (q ++ t1 :: tx :: t2 :: (q' ++ [t3])), [], 0⟩ = .ok (((n1 ++ n2).length : Nat) : Int) ⟨[], n1 ++ n2 ++ [⟨27, 0, tx.at_, tx.tx, [ra, rb + n1.length]⟩], m2⟩ := by
    intro i
    induction i with
    | zero => exact hz
    | succ i ih =>
      show exprS (unaS e2 40) (j + 1 + i + 1) _ = _
      unfold exprS
      rw [ih]
      rfl
  have h9 := hrest (4 - j)
  rw [show j + 1 + (4 - j) = 5 by omega] at h9
  refine ⟨n1 ++ n2 ++ [⟨27, 0, tx.at_, tx.tx, [ra, rb + n1.length]⟩], m2, ?_, ?_⟩
  · rw [show ((a.length + b.length : Nat) : Int) = (((n1 ++ n2).length : Nat) : Int) by rw [List.length_append]; omega]
    exact h9
  · simp only [overS, overL, List.nil_append, List.length_nil, Int.natCast_zero, Int.add_zero, List.map_append, List.map_map, List.map_cons, List.map_nil, List.length_map, h5, h7, hl1]
    congr 2
    · congr 1
      funext n; exact (shift0 n).symm

/-! ### depths -/
theorem deep_part {D A : List Nd} {o : Nat} (hk : ∀ i, i < A.length → (D.getD (i + o) default).kids = (A.getD i default).kids.map (· + (o : Int))) (hlt : ∀ i, i < A.length → ∀ q ∈ (A.getD i default).kids, 0 ≤ q ∧ q < (i : Int)) : ∀ (n : Nat) (p : Int), 0 ≤ p → p < A.length → deepS D n (p + o) = deepS A n p := by
  intro n
  induction n with
  | zero => exact fun p _ _ => rfl
  | succ n ih =>
    intro p h0 h1
    have e1 : (p + (o : Int)).toNat = p.toNat + o := by omega
    simp only [deepS, e1]
    rw [hk p.toNat (by omega)]
    have hq := hlt p.toNat (by omega)
    generalize (A.getD p.toNat default).kids = ks at hq
    have : ∀ d, (ks.map (· + (o : Int))).foldl (fun d k => max d (deepS D n k)) d = ks.foldl (fun d k => max d (deepS A n k)) d := by
      induction ks with
      | nil => exact fun d => rfl
      | cons k r ihk =>
        intro d
        have hk0 := hq k (List.mem_cons_self ..)
        simp only [List.map_cons, List.foldl_cons]
        rw [ih k hk0.1 (by omega)]
        exact ihk (fun q h => hq q (List.mem_cons_of_mem _ h)) _
    rw [this]
theorem goodS_sound {ns : List Nd} {root k : Int} (h : GoodS ns [(root, k)]) (hm : ns.length ≤ 4000) : soundS ns root = true := by
  obtain ⟨⟨l, hl, hch⟩, hkind, _⟩ := h
  have hlen := sizes_len hl
  obtain ⟨hr1, hr2, _⟩ := hkind (root, k) (by simp)
  simp only at hr1 hr2
  obtain ⟨hc1, hc2, hc3, hc4⟩ := hch
  have hc1 : root = (l.length : Int) - 1 := hc1
  have hc4 : root - (l.getD root.toNat 0 : Nat) = -1 := hc4
  have e1 : (ns.length == 0) = false := beq_eq_false_iff_ne.2 (by omega)
  have e2 : decide (4000 < ns.length) = false := decide_eq_false (by omega)
  have e3 : (root != (ns.length : Int) - 1) = false := by rw [bne_eq_false_iff_eq]; omega
  have e4 : (l.getD root.toNat 0 == ns.length) = true := beq_iff_eq.2 (by omega)
  simp only [soundS, hl, e1, e2, e3, e4, Bool.or_self, Bool.not_false, Bool.true_and]
theorem depth_over {a b : List Nd} {ra rb : Int} {x : Bs} (ha : soundS a ra = true) (hb : soundS b rb = true) (h : soundS (overS ⟨27, 0, 0, x, []⟩ [(a, ra), (b, rb)]).1 ((a.length + b.length : Nat) : Int) = true) (da : depthS a ra ≤ 38) (db : depthS b rb ≤ 38) :
    depthS (overS ⟨27, 0, 0, x, []⟩ [(a, ra), (b, rb)]).1 ((a.length + b.length : Nat) : Int) ≤ 39 := by
  obtain ⟨a1, a2, a3, a4⟩ := soundS_ok ha
  obtain ⟨b1, b2, b3, b4⟩ := soundS_ok hb
  generalize hD : (overS ⟨27, 0, 0, x, []⟩ [(a, ra), (b, rb)]).1 = D at h
  have hDe : D = a.map (shiftN · 0) ++ (b.map (shiftN · a.length) ++ [⟨27, 0, 0, x, [ra, rb + a.length]⟩]) := by
    rw [← hD]; simp [overS, overL]
  have hlen : D.length = a.length + b.length + 1 := by rw [hDe]; simp; omega
  have hka : ∀ i, i < a.length → (D.getD (i + 0) default).kids = (a.getD i default).kids.map (· + ((0 : Nat) : Int)) := fun i hi => by
    rw [hDe, List.getD_eq_getElem?_getD, List.getElem?_append_left (by simpa using hi)]
    simp [hi, shiftN]
  have hkb : ∀ i, i < b.length → (D.getD (i + a.length) default).kids = (b.getD i default).kids.map (· + (a.length : Int)) := fun i hi => by
    rw [hDe, List.getD_eq_getElem?_getD, List.getElem?_append_right (by simp), List.getElem?_append_left (by simp; omega)]
    simp [hi, shiftN]
  have hroot : (D.getD (a.length + b.length) default).kids = [ra, rb + a.length] := by
    rw [hDe, List.getD_eq_getElem?_getD, List.getElem?_append_right (by simp), List.getElem?_append_right (by simp)]
    simp
  simp only [depthS, h, ha, hb] at da db ⊢
  rw [hlen]
  simp only [deepS, Int.toNat_natCast]
  rw [hroot]
  simp only [List.foldl_cons, List.foldl_nil]
  have e1 := deep_part hka a4 (a.length + b.length) ra (by omega) (by omega)
  have e2 := deep_part hkb b4 (a.length + b.length) rb (by omega) (by omega)
  have e3 := Go.Proofs.YtbcngegcpdppfaaGreatDoor.deepS_more a a4 a.length (a.length + b.length) ra (by omega) (by omega) (by omega) (by omega)
  have e4 := Go.Proofs.YtbcngegcpdppfaaGreatDoor.deepS_more b b4 b.length (a.length + b.length) rb (by omega) (by omega) (by omega) (by omega)
  simp only [Int.natCast_zero, Int.add_zero] at e1
  rw [e1, e2, ← e3, ← e4]
  omega

/-! ### the tokens of what stands in brackets -/
theorem cut_close (c : UInt8) (hc : c = 40 ∨ c = 41) (n i : Nat) (r : Bs) : cutS (n + 1) (c :: r) i = (cutS n r (i + 1)).cons ⟨.sign, 0, i, [c]⟩ := by
  have hall : ∀ n : Nat, n < 256 → pairP [40, UInt8.ofNat n] = false ∧ pairP [41, UInt8.ofNat n] = false := by decide +kernel
  have hp : pairP (c :: r) = false := by
    cases r with
    | nil => simp [pairP]
    | cons d r =>
      rw [pair_two]
      have := hall d.toNat d.toNat_lt
      rw [UInt8.ofNat_toNat] at this
      rcases hc with rfl | rfl
      · exact this.1
      · exact this.2
  have h1 : inB blanksT c = false ∧ inB partsT c = false ∧ inB singleT c = true ∧ c ≠ 35 := by rcases hc with rfl | rfl <;> decide
  have hs : signP (c :: r) = 0 + 1 := by simp [signP, hp, h1.2.2.1]
  conv => lhs; unfold cutS
  simp only [run0 h1.1, Nat.lt_irrefl, if_false, h1.2.2.2, run0 h1.2.1, hs]
  simp
theorem ops_sign : ∀ x ∈ opsL, signP (x ++ [40]) = x.length ∧ x.length ≤ 2 ∧ 0 < x.length ∧ inB blanksT (x.getD 0 0) = false ∧ inB partsT (x.getD 0 0) = false ∧ x.getD 0 0 ≠ 35 ∧ pairP (x ++ [40]) = decide (x.length = 2) ∧ (inB singleT (x.getD 0 0) || decide (x.length = 2)) = true := by decide +kernel
theorem cut_op {x : Bs} (hx : x ∈ opsL) (n i : Nat) (r : Bs) : cutS (n + 1) (x ++ 40 :: r) i = (cutS n (40 :: r) (i + x.length)).cons ⟨.sign, 0, i, x⟩ := by
  obtain ⟨_, h2, h3, h4, h5, h6, h7, h8⟩ := ops_sign x hx
  cases x with
  | nil => simp at h3
  | cons c q =>
    simp only [List.getD_cons_zero] at h4 h5 h6 h8
    cases q with
    | nil =>
      have hp : pairP (c :: 40 :: r) = false := by rw [pair_two]; simpa using h7
      have hs : signP (c :: 40 :: r) = 0 + 1 := by
        have : inB singleT c = true := by simpa using h8
        simp [signP, hp, this]
      simp only [List.cons_append, List.nil_append]
      conv => lhs; unfold cutS
      simp only [run0 h4, Nat.lt_irrefl, if_false, h6, run0 h5, hs]
      simp
    | cons d q =>
      obtain rfl : q = [] := List.eq_nil_of_length_eq_zero (by have h2' : q.length + 1 + 1 ≤ 2 := h2; omega)
      have hp : pairP (c :: d :: 40 :: r) = true := by
        rw [pair_two]
        have : pairP ([c, d] ++ [40]) = true := by rw [h7]; simp
        simpa [pair_two] using this
      have hs : signP (c :: d :: 40 :: r) = 1 + 1 := by simp [signP, hp]
      simp only [List.cons_append, List.nil_append]
      conv => lhs; unfold cutS
      simp only [run0 h4, Nat.lt_irrefl, if_false, h6, run0 h5, hs]
      simp
/-- blanks ahead -/
theorem cut_blanks {p : Bs} (hp : ∀ c ∈ p, inB blanksT c = true) (b : Bs) (n m i j : Nat) (hn : b.length ≤ n) (hm : (p ++ b).length ≤ m) : CE (cutS n b i) (cutS m (p ++ b) j) := by
  cases p with
  | nil => exact cut_sim n m b i j hn hm
  | cons c p =>
    have hr : ∀ p : Bs, (∀ c ∈ p, inB blanksT c = true) → runS blanksT (p ++ b) = p.length + runS blanksT b := by
      intro p
      induction p with
      | nil => intro _; simp
      | cons c p ih =>
        intro h
        have := ih fun c hc => h c (List.mem_cons_of_mem _ hc)
        simp only [runS, List.cons_append, List.takeWhile_cons, h c (List.mem_cons_self ..), if_true, List.length_cons] at this ⊢
        omega
    have hrun := hr (c :: p) hp
    simp only [List.length_append, List.length_cons] at hm
    obtain ⟨m, rfl⟩ : ∃ q, m = q + 1 := ⟨m - 1, by omega⟩
    have h1 : cutS (m + 1) (c :: p ++ b) j = cutS m (b.drop (runS blanksT b)) (j + runS blanksT (c :: p ++ b)) := by
      simp only [List.cons_append] at hrun ⊢
      conv => lhs; unfold cutS
      rw [hrun]
      simp only [List.length_cons]
      rw [if_pos (by omega)]
      congr 1
      rw [← List.cons_append, List.drop_append, List.drop_of_length_le (by simp)]
      simp
    rw [h1]
    by_cases h0 : 0 < runS blanksT b
    · cases b with
      | nil => simp [runS] at h0
      | cons d b =>
        obtain ⟨n, rfl⟩ : ∃ q, n = q + 1 := ⟨n - 1, by simp at hn; omega⟩
        have h5 : cutS (n + 1) (d :: b) i = cutS n ((d :: b).drop (runS blanksT (d :: b))) (i + runS blanksT (d :: b)) := by
          conv => lhs; unfold cutS
          simp [h0]
        rw [h5]
        refine cut_sim _ _ _ _ _ ?_ ?_
        · rw [List.length_drop]; simp at hn ⊢; omega
        · rw [List.length_drop]; simp at hm ⊢; omega
    · have : runS blanksT b = 0 := by omega
      rw [this, List.drop_zero]
      exact cut_sim _ _ _ _ _ hn (by omega)
theorem pair_nl (c : UInt8) : pairP [c, 10] = false := by
  have : ∀ n : Nat, n < 256 → pairP [UInt8.ofNat n, 10] = false := by decide +kernel
  have h := this c.toNat c.toNat_lt
  rwa [UInt8.ofNat_toNat] at h
/-- what stands ahead of a line's end is cut as it is by itself -/
theorem cut_app : ∀ (n : Nat) (a : Bs) (i : Nat) (l : List Tok), a.length ≤ n → cutS n a i = .ok l → ∀ (m j k i' : Nat) (b : Bs) (lb : List Tok), (a ++ 10 :: b).length ≤ m → b.length ≤ k → cutS k b i' = .ok lb → ∃ l1 l2, cutS m (a ++ 10 :: b) j = .ok (l1 ++ l2) ∧ TsE l l1 ∧ TsE lb l2 := by
  intro n
  induction n with
  | zero =>
    intro a i l ha h m j k i' b lb hm hk hb
    obtain rfl : a = [] := List.eq_nil_of_length_eq_zero (by omega)
    simp only [cutS, CR.ok.injEq] at h
    subst h
    have := cut_blanks (p := [10]) (by intro c hc; simp at hc; subst hc; decide) b k m i' j hk (by simpa using hm)
    rw [hb] at this
    cases h2 : cutS m ([10] ++ b) j with
    | bad => rw [h2] at this; exact this.elim
    | ok l2 => rw [h2] at this; exact ⟨[], l2, h2, rfl, this⟩
  | succ n ih =>
    intro a i l ha h m j k i' b lb hm hk hb
    cases a with
    | nil =>
      simp only [cutS, CR.ok.injEq] at h
      subst h
      have := cut_blanks (p := [10]) (by intro c hc; simp at hc; subst hc; decide) b k m i' j hk (by simpa using hm)
      rw [hb] at this
      cases h2 : cutS m ([10] ++ b) j with
      | bad => rw [h2] at this; exact this.elim
      | ok l2 => rw [h2] at this; exact ⟨[], l2, h2, rfl, this⟩
    | cons c a' =>
      simp only [List.length_append, List.length_cons] at hm
      obtain ⟨m, rfl⟩ : ∃ q, m = q + 1 := ⟨m - 1, by omega⟩
      have drop_app : ∀ q, q ≤ (c :: a').length → ((c :: a') ++ 10 :: b).drop q = (c :: a').drop q ++ 10 :: b := fun q hq => List.drop_append_of_le_length hq
      have step : ∀ q a l, 0 < q → q ≤ (c :: a').length → cutS n ((c :: a').drop q) a = .ok l → ∀ j, ∃ l1 l2, cutS m (((c :: a') ++ 10 :: b).drop q) j = .ok (l1 ++ l2) ∧ TsE l l1 ∧ TsE lb l2 := fun q a l h0 hq hl j => by
        rw [drop_app q hq]
        exact ih _ a l (by rw [List.length_drop]; omega) hl m j k i' b lb (by simp only [List.length_append, List.length_drop, List.length_cons] at ha hq ⊢; omega) hk hb
      have cons : ∀ q a l (t t' : Tok), tkey t = tkey t' → 0 < q → q ≤ (c :: a').length → (cutS n ((c :: a').drop q) a).cons t = .ok l → ∀ j, ∃ l1 l2, (cutS m (((c :: a') ++ 10 :: b).drop q) j).cons t' = .ok (l1 ++ l2) ∧ TsE l l1 ∧ TsE lb l2 := fun q a l t t' ht h0 hq hl j => by
        obtain ⟨l', h1, rfl⟩ := cons_ok hl
        obtain ⟨l1, l2, h2, h3, h4⟩ := step q a l' h0 hq h1 j
        rw [h2]
        exact ⟨t' :: l1, l2, rfl, by simp only [TsE, List.map_cons] at h3 ⊢; rw [ht, h3], h4⟩
      have hrun : ∀ s, inB s 10 = false → runS s ((c :: a') ++ 10 :: b) = runS s (c :: a') := fun s hs => by
        generalize c :: a' = z
        induction z with
        | nil => simp only [List.nil_append]; rw [run0 hs]; rfl
        | cons d z ihz =>
          simp only [runS, List.cons_append, List.takeWhile_cons] at ihz ⊢
          split
          · simp only [List.length_cons]; omega
          · rfl
      by_cases hbl : 0 < runS blanksT (c :: a')
      · -- blanks
        have hA : cutS (n + 1) (c :: a') i = cutS n ((c :: a').drop (runS blanksT (c :: a'))) (i + runS blanksT (c :: a')) := by
          conv => lhs; unfold cutS
          simp [hbl]
        rw [hA] at h
        -- the run, gone through as blanks ahead
        have hsplit : c :: a' = (c :: a').take (runS blanksT (c :: a')) ++ (c :: a').drop (runS blanksT (c :: a')) := (List.take_append_drop _ _).symm
        obtain ⟨l1, l2, h2, h3, h4⟩ := step _ _ l hbl (runS_len _ _) h 0
        rw [drop_app _ (runS_len _ _)] at h2
        have := cut_blanks (p := (c :: a').take (runS blanksT (c :: a'))) (run_all _ _) ((c :: a').drop (runS blanksT (c :: a')) ++ 10 :: b) m (m + 1) 0 j (by simp only [List.length_append, List.length_drop, List.length_cons]; omega) (by rw [← List.append_assoc, ← hsplit]; simp only [List.length_append, List.length_cons]; omega)
        rw [← List.append_assoc, ← hsplit, h2] at this
        cases h5 : cutS (m + 1) (c :: a' ++ 10 :: b) j with
        | bad => rw [h5] at this; exact this.elim
        | ok l5 =>
          rw [h5] at this
          have : TsE (l1 ++ l2) l5 := this
          simp only [TsE, List.map_append] at this h3 h4
          refine ⟨l5.take l1.length, l5.drop l1.length, by rw [List.take_append_drop], ?_, ?_⟩
          · simp only [TsE, List.map_take]
            rw [← this, h3]
            simp
          · simp only [TsE, List.map_drop]
            rw [← this, h4]
            simp
      · have hbl0 : runS blanksT (c :: a') = 0 := by omega
        have hc0 := run_no hbl
        have hblB : runS blanksT (c :: (a' ++ 10 :: b)) = 0 := run0 hc0
        by_cases h35 : c = 35
        · have hA : cutS (n + 1) (c :: a') i = cutS n ((c :: a').dropWhile (fun c => !(c == 10))) (i + ((c :: a').takeWhile (fun c => !(c == 10))).length) := by
            conv => lhs; unfold cutS
            simp only [hbl0, Nat.lt_irrefl, if_false]
            rw [if_pos h35]
          have hB : cutS (m + 1) (c :: a' ++ 10 :: b) j = cutS m ((c :: a' ++ 10 :: b).dropWhile (fun c => !(c == 10))) (j + ((c :: a' ++ 10 :: b).takeWhile (fun c => !(c == 10))).length) := by
            simp only [List.cons_append] at hblB ⊢
            conv => lhs; unfold cutS
            simp only [hblB, Nat.lt_irrefl, if_false]
            rw [if_pos h35]
          have htw : ∀ z : Bs, (z ++ 10 :: b).takeWhile (fun c => !(c == 10)) = z.takeWhile (fun c => !(c == 10)) := by
            intro z
            induction z with
            | nil => simp
            | cons d z ihz => simp only [List.cons_append, List.takeWhile_cons, ihz]
          rw [hA, dw_eq] at h
          rw [hB, dw_eq, htw]
          exact step _ _ l (by rw [h35]; simp [List.takeWhile_cons]) (List.takeWhile_sublist _).length_le h _
        · by_cases hpt : 0 < runS partsT (c :: a')
          · have hrp := hrun partsT (by decide)
            have hA : cutS (n + 1) (c :: a') i = match wordP ((c :: a').take (runS partsT (c :: a'))) with
                | none => .bad i
                | some (k, v) => (cutS n ((c :: a').drop (runS partsT (c :: a'))) (i + runS partsT (c :: a'))).cons ⟨k, v, i, (c :: a').take (runS partsT (c :: a'))⟩ := by
              conv => lhs; unfold cutS
              simp only [hbl0, Nat.lt_irrefl, if_false, h35, hpt, if_true]
              cases wordP ((c :: a').take (runS partsT (c :: a'))) <;> rfl
            have hB : cutS (m + 1) (c :: a' ++ 10 :: b) j = match wordP ((c :: a').take (runS partsT (c :: a'))) with
                | none => .bad j
                | some (k, v) => (cutS m ((c :: a' ++ 10 :: b).drop (runS partsT (c :: a'))) (j + runS partsT (c :: a'))).cons ⟨k, v, j, (c :: a').take (runS partsT (c :: a'))⟩ := by
              have htk : (c :: a' ++ 10 :: b).take (runS partsT (c :: a')) = (c :: a').take (runS partsT (c :: a')) := List.take_append_of_le_length (runS_len _ _)
              simp only [List.cons_append] at hblB hrp htk ⊢
              conv => lhs; unfold cutS
              simp only [hblB, Nat.lt_irrefl, if_false, h35, hrp, hpt, if_true, htk]
              cases wordP ((c :: a').take (runS partsT (c :: a'))) <;> rfl
            rw [hA] at h
            rw [hB]
            split at h
            · cases h
            · refine cons _ _ l _ _ ?_ hpt (runS_len _ _) h _
              rfl
          · have hpt0 : runS partsT (c :: a') = 0 := by omega
            have hcp := run_no hpt
            have hsg : signP (c :: a' ++ 10 :: b) = signP (c :: a') := by
              have : pairP (c :: a' ++ 10 :: b) = pairP (c :: a') := by
                cases a' with
                | nil => simp only [List.cons_append, List.nil_append]; rw [pair_two, pair_nl]; simp [pairP]
                | cons d a' => simp only [List.cons_append]; rw [pair_two, pair_two (c := c) (d := d) (r := a')]
              unfold signP
              rw [this]; simp
            have hA : cutS (n + 1) (c :: a') i = match signP (c :: a') with
                | 0 => .bad i
                | q + 1 => (cutS n ((c :: a').drop (q + 1)) (i + (q + 1))).cons ⟨.sign, 0, i, (c :: a').take (q + 1)⟩ := by
              conv => lhs; unfold cutS
              simp only [hbl0, Nat.lt_irrefl, if_false, h35, hpt0]
              cases signP (c :: a') <;> rfl
            have hB : cutS (m + 1) (c :: a' ++ 10 :: b) j = match signP (c :: a') with
                | 0 => .bad j
                | q + 1 => (cutS m ((c :: a' ++ 10 :: b).drop (q + 1)) (j + (q + 1))).cons ⟨.sign, 0, j, (c :: a' ++ 10 :: b).take (q + 1)⟩ := by
              have hptB : runS partsT (c :: (a' ++ 10 :: b)) = 0 := run0 hcp
              simp only [List.cons_append] at hblB hsg ⊢
              conv => lhs; unfold cutS
              simp only [hblB, Nat.lt_irrefl, if_false, h35, hptB, hsg]
              cases signP (c :: a') <;> rfl
            rw [hA] at h
            rw [hB]
            split at h
            · cases h
            · rename_i q hq
              have hq2 := (sign_pos hq).1
              refine cons _ _ l _ _ ?_ (by omega) hq2 h _
              rw [List.take_append_of_le_length hq2]; rfl
end Go.Ru

namespace Go.Proofs.YtbcngegcpdppfaaGreatDoor
open Go.AE Go.Ru
set_option maxRecDepth 100000
set_option pp.maxSteps 4000
set_option maxHeartbeats 1000000

theorem read_ok {S : Int → PS → R Int} {s : Bs} {ns : List Nd} {root mo : Int} (h : readS S s = .ok ns root mo) : ∃ ts, cutT s = .ok ts ∧ S s.length ⟨ts, [], 0⟩ = .ok root ⟨[], ns, mo⟩ ∧ ns.length ≤ 4000 ∧ depthS ns root ≤ 40 ∧ s.length ≤ 20000 := by
  unfold readS at h
  split at h
  · cases h
  · split at h
    · cases h
    · rename_i hl ts hc
      split at h
      · cases h
      · rename_i root' s' hok
        split at h
        · cases h
        · rename_i ht
          split at h
          · cases h
          · split at h
            · cases h
            · injection h with h1 h2 h3
              obtain ⟨ts', ns', mo'⟩ := s'
              simp only at h1 h3 ht
              subst h1 h2 h3 ht
              exact ⟨ts, hc, hok, by simp only at *; omega, by simp only at *; omega, by omega⟩
theorem ok_read {S : Int → PS → R Int} {s : Bs} {ns : List Nd} {root mo : Int} {ts : List Tok} (hl : s.length ≤ 20000) (hc : cutT s = .ok ts) (h : S s.length ⟨ts, [], 0⟩ = .ok root ⟨[], ns, mo⟩) (hn : ns.length ≤ 4000) (hd : depthS ns root ≤ 40) : readS S s = .ok ns root mo := by
  unfold readS
  rw [if_neg (by omega), hc]
  simp only [h]
  rw [if_neg (by omega), if_neg (by omega)]
theorem expr_good {s : Bs} {ts : List Tok} (hc : cutT s = .ok ts) (hs : s.length ≤ 20000) {root : Int} {ns : List Nd} {mo : Int} (h : exS s.length 40 ⟨ts, [], 0⟩ = .ok root ⟨[], ns, mo⟩) : (∃ k, GoodS ns [(root, k)]) ∧ ns.length ≤ s.length := by
  have hcut := cut_at s.length s 0
  have hgood : Go.Ru.Good (fun _ => True) s.length ⟨ts, [], 0⟩ [] := by
    refine ⟨⟨⟨[], rfl, rfl⟩, fun x hx => (by cases hx), fun i hi => (by simp at hi)⟩, fun i hi => (by simp at hi), fun t ht => ?_, trivial⟩
    have h := hcut.1 ts hc t ht
    exact ⟨trivial, h.name, h.num, by have := h.len; omega⟩
  obtain ⟨k, _, hk⟩ := ex_g (e := s.length) 40 _ _ hgood root _ h
  have hw := (ex_w (e := s.length) 40 _ _ _ h).2.1
  have := cutS_len _ _ _ _ hc
  simp only [List.length_nil] at hw
  exact ⟨⟨k, hk.st⟩, by omega⟩
structure BrHyp (s : Bs) (a : List Nd) (ra : Int) : Prop where
  ok : ∃ mo, exprRS s = .ok a ra mo
  nest : nestS s ≤ 38
  deep : depthS a ra ≤ 38
  len : s.length ≤ 600
theorem bad_err {S : Int → PS → R Int} (hS : ∀ e, Wm e (S e)) {s : Bs} {a er : Int} (h : readS S s = .bad a er) : er ≠ 0 := by
  unfold readS at h
  split at h
  · injection h with _ h; omega
  · split at h
    · injection h with _ h; omega
    · split at h
      · rename_i hb
        injection h with _ h
        have := ((hS _ _).bad _ _ hb).1
        omega
      · split at h
        · injection h with _ h; omega
        · split at h
          · injection h with _ h; omega
          · split at h
            · injection h with _ h; omega
            · cases h
theorem BrHyp.read {s : Bs} {a : List Nd} {ra : Int} (h : BrHyp s a ra) : ∃ ts, cutT s = .ok ts ∧ Read1 s.length ts a ra ∧ soundS a ra = true ∧ a.length ≤ 600 := by
  obtain ⟨mo, hx⟩ := h.ok
  obtain ⟨ts, hc, h1, h2, h3, h4⟩ := read_ok hx
  obtain ⟨⟨k, h5⟩, h6⟩ := expr_good hc h4 h1
  have hnest : nestS s = mo := by
    have hp := (placesLaw s ts h4 hc).1
    have he : ((exprRS s).err == 0) = true := by rw [hx]; rfl
    rw [he, Bool.and_true] at hp
    unfold nestS
    rw [hp, he, hx]
    rfl
  have := h.nest; have := h.len
  exact ⟨ts, hc, ⟨mo, h1, by omega⟩, goodS_sound h5 h2, by omega⟩
def txC (s : Bs) : Bs := 40 :: (s ++ 10 :: [41])
def txD (s x t : Bs) : Bs := 40 :: (s ++ 10 :: (41 :: (x ++ 40 :: (t ++ 10 :: [41]))))
theorem cut41 (n i : Nat) : cutS (n + 1) [41] i = .ok [⟨.sign, 0, i, [41]⟩] := by
  rw [cut_close 41 (.inr rfl)]
  cases n <;> rfl
theorem tsE_one {t : Tok} {l : List Tok} (h : TsE [t] l) : ∃ t', l = [t'] ∧ t'.k = t.k ∧ t'.tx = t.tx := by
  obtain ⟨t', r', rfl, h1, _, h3, h4⟩ := h.cons
  rw [h4.nil]
  exact ⟨t', rfl, h1, h3⟩
theorem brackets_law_c {s : Bs} {a : List Nd} {ra : Int} (h : BrHyp s a ra) : ∃ c m, exprRS (txC s) = .ok c ra m ∧ c.map nkey = a.map nkey := by
  obtain ⟨ts, hc, hr, hs, hl⟩ := h.read
  have hlen := h.len
  obtain ⟨l1, l2, h1, h2, h3⟩ := cut_app _ s 0 ts (Nat.le_refl _) hc (s.length + 2) 1 1 0 [41] _ (by simp) (by simp) (cut41 0 0)
  obtain ⟨t1, rfl, h4, h5⟩ := tsE_one h3
  have hcut : cutT (txC s) = .ok (⟨.sign, 0, (0 : Nat), [40]⟩ :: (l1 ++ [t1])) := by
    have hln : (txC s).length = s.length + 2 + 1 := by simp [txC]
    unfold cutT
    rw [hln]
    show cutS (s.length + 2 + 1) (40 :: (s ++ 10 :: [41])) 0 = _
    rw [cut_close 40 (.inl rfl), h1]; rfl
  obtain ⟨c, m, h6, h7⟩ := brackets_c (e2 := (txC s).length) hr h2 (t0 := ⟨.sign, 0, (0 : Nat), [40]⟩) (t1 := t1) rfl rfl h4 h5
  have hcl : c.length = a.length := by have := congrArg List.length h7; simpa using this
  refine ⟨c, m, ok_read (S := fun e => exS e 40) (by simp [txC]; omega) hcut h6 (by omega) ?_, h7⟩
  rw [depth_e h7]
  have := h.deep; omega
theorem brackets_law_d {s t : Bs} {a b : List Nd} {ra rb : Int} (h : BrHyp s a ra) (h' : BrHyp t b rb) {x : Bs} (hx : x ∈ opsL) : ∃ d m, exprRS (txD s x t) = .ok d ((a.length + b.length : Nat) : Int) m ∧ d.map nkey = (overS ⟨27, 0, 0, x, []⟩ [(a, ra), (b, rb)]).1.map nkey := by
  obtain ⟨ts, hc, hr, hs, hl⟩ := h.read
  obtain ⟨ts', hc', hr', hs', hl'⟩ := h'.read
  have hlen := h.len
  have hlen' := h'.len
  have hx2 := (ops_sign x hx).2.1
  obtain ⟨k1, k2, g1, g2, g3⟩ := cut_app _ t 0 ts' (Nat.le_refl _) hc' (t.length + 3) 0 1 0 [41] _ (by simp) (by simp) (cut41 0 0)
  obtain ⟨t3, rfl, g4, g5⟩ := tsE_one g3
  have hb : cutS (t.length + 6) (41 :: (x ++ 40 :: (t ++ 10 :: [41]))) 0 = (((cutS (t.length + 3) (t ++ 10 :: [41]) (0 + 1 + x.length + 1)).cons ⟨.sign, 0, (0 + 1 + x.length : Nat), [40]⟩).cons ⟨.sign, 0, (0 + 1 : Nat), x⟩).cons ⟨.sign, 0, (0 : Nat), [41]⟩ := by
    rw [cut_close 41 (.inr rfl), cut_op hx, cut_close 40 (.inl rfl)]
  have hsim := cut_sim (t.length + 3) (t.length + 3) (t ++ 10 :: [41]) 0 (0 + 1 + x.length + 1) (by simp) (by simp)
  rw [g1] at hsim
  cases hz : cutS (t.length + 3) (t ++ 10 :: [41]) (0 + 1 + x.length + 1) with
  | bad => rw [hz] at hsim; exact hsim.elim
  | ok lz =>
    rw [hz] at hsim hb
    simp only [CR.cons] at hb
    have hsim : TsE (k1 ++ [t3]) lz := hsim
    obtain ⟨l1, l2, h1, h2, h3⟩ := cut_app _ s 0 ts (Nat.le_refl _) hc (s.length + t.length + x.length + 5) 1 (t.length + 6) 0 (41 :: (x ++ 40 :: (t ++ 10 :: [41]))) _ (by simp only [List.length_append, List.length_cons, List.length_nil]; omega) (by simp only [List.length_append, List.length_cons, List.length_nil]; omega) hb
    obtain ⟨q1, r1, rfl, e1, _, e2, h3⟩ := h3.cons
    obtain ⟨q2, r2, rfl, e3, _, e4, h3⟩ := h3.cons
    obtain ⟨q3, r3, rfl, e5, _, e6, h3⟩ := h3.cons
    have e4 : q2.tx = x := e4
    have hq : TsE (k1 ++ [t3]) r3 := hsim.trans h3
    obtain ⟨k1', q4, rfl, f1, f2, f3⟩ : ∃ k1' q4, r3 = k1' ++ [q4] ∧ TsE k1 k1' ∧ q4.k = .sign ∧ q4.tx = [41] := by
      have hl3 := hq.len
      simp only [List.length_append, List.length_cons, List.length_nil] at hl3
      refine ⟨r3.take k1.length, r3.getD k1.length t3, ?_, ?_, ?_, ?_⟩
      · have : r3.drop k1.length = [r3.getD k1.length t3] := by
          rw [List.drop_eq_getElem_cons (by omega), List.drop_of_length_le (by omega)]
          simp [show k1.length < r3.length by omega]
        rw [← this, List.take_append_drop]
      · have := congrArg (List.take k1.length) hq
        simpa [TsE, List.map_take] using this
      · have := congrArg (fun l => l.getD k1.length (tkey t3)) hq
        simp only [List.map_append, List.getD_eq_getElem?_getD, List.getElem?_map, Option.getD_map] at this
        rw [List.getElem?_append_right (by simp)] at this
        simp only [List.length_map, Nat.sub_self, List.map_cons, List.map_nil, List.getElem?_cons_zero, Option.getD_some] at this
        have h9 := congrArg Prod.fst this
        rw [List.getD_eq_getElem?_getD]
        exact h9.symm.trans g4
      · have := congrArg (fun l => l.getD k1.length (tkey t3)) hq
        simp only [List.map_append, List.getD_eq_getElem?_getD, List.getElem?_map, Option.getD_map] at this
        rw [List.getElem?_append_right (by simp)] at this
        simp only [List.length_map, Nat.sub_self, List.map_cons, List.map_nil, List.getElem?_cons_zero, Option.getD_some] at this
        have h9 := congrArg (fun p => p.2.2) this
        rw [List.getD_eq_getElem?_getD]
        exact h9.symm.trans g5
    have hcut : cutT (txD s x t) = .ok (⟨.sign, 0, (0 : Nat), [40]⟩ :: (l1 ++ q1 :: q2 :: q3 :: (k1' ++ [q4]))) := by
      have hln : (txD s x t).length = (s.length + t.length + x.length + 5) + 1 := by simp [txD]; omega
      unfold cutT
      rw [hln]
      show cutS (s.length + t.length + x.length + 5 + 1) (40 :: _) 0 = _
      rw [cut_close 40 (.inl rfl)]
      rw [h1]; rfl
    obtain ⟨d, m, h6, h7⟩ := brackets_d (e2 := (txD s x t).length) hr hr' h2 (g2.trans f1) (t0 := ⟨.sign, 0, (0 : Nat), [40]⟩) rfl rfl e1 e2 e5 e6 f2 f3 e3 (e4 ▸ hx)
    rw [e4] at h7
    have hdl : d.length = a.length + b.length + 1 := by have := congrArg List.length h7; simp [overS, overL] at this; omega
    refine ⟨d, m, ok_read (S := fun e => exS e 40) (by simp [txD]; omega) hcut h6 (by omega) ?_, h7⟩
    obtain ⟨⟨k, hg⟩, _⟩ := expr_good hcut (by simp [txD]; omega) h6
    have hsd := goodS_sound hg (by omega)
    have hso : soundS (overS ⟨27, 0, 0, x, []⟩ [(a, ra), (b, rb)]).1 ((a.length + b.length : Nat) : Int) = true := by
      unfold soundS at hsd ⊢
      rw [← sizes_e _ _ [] h7]
      have hl9 := congrArg List.length h7
      simp only [List.length_map] at hl9
      rw [← hl9]; exact hsd
    rw [depth_e h7]
    have := depth_over hs hs' hso h.deep h'.deep
    omega
end Go.Proofs.YtbcngegcpdppfaaGreatDoor

namespace Go.Proofs.YtbcngegcpdppfaaGreatDoor
open Go.AE Go.Ru
set_option maxRecDepth 100000
set_option pp.maxSteps 4000
set_option maxHeartbeats 8000000

def NodeIs (v : AV) (n : Nd) : Prop := v = nodeV n ∨ (n.kids = [] ∧ v = .agg [.p (.int .i64 n.k), .p (.int .i64 n.n), .p (.int .i64 n.at_), .p (.str n.tx), .p .nils])
theorem NodeIs.le {v : AV} {n : Nd} (h : NodeIs v n) : v.le (nodeV n) := by
  rcases h with rfl | ⟨h, rfl⟩
  · exact AV.le_refl _
  · refine AV.agg_le ⟨AV.le_refl _, AV.le_refl _, AV.le_refl _, AV.le_refl _, ?_, trivial⟩
    rw [h]; exact nils_le _ _
def cOverR : AC := fun args K k => ∃ (v : AV) (n : Nd) (l : List (List Nd × Int)) (r m : Nat) (f : Nat → List AV), args = [v, .slr r 0 0 m] ∧ NodeIs v n ∧ nth K r = some (.arr 25 2 0 m f) ∧ l.length = m ∧ (∀ i, i < m → f i = pvs (treeF l i)) ∧ OverOk l ∧ k (.ret (treeV (overS n l).1 (overS n l).2)) (setN K r .dead)
theorem overR_ok : COk 18 cOverR := by
  rintro args K k ⟨v, n, l, r, m, f, rfl, hv, hn, rfl, hf, ho, hk⟩
  refine (over_ok [nodeV n, .p (.sl 2 l.length (treeF l))] (setN K r .dead) k ⟨n, l, rfl, ho, hk⟩).pre fun w m Args hS hV => ?_
  obtain ⟨m', h3, h4, h5⟩ := freeze_sl hS hn (treeF l) hf
  refine ⟨m', h3, h4, hV.1, fun i hi hi' => ?_⟩
  rcases i with _ | _ | i
  · exact hv.le _ _ _ ((hV.2 0 hi hi').mono h3)
  · exact h5 _ (hV.2 1 hi hi')
  · simp at hi; omega
def gBr : AG := gput 8 cShown (gput 13 (cTop exprRS) (gput 14 cNest (gput 17 cSame (gput 16 cDepth (gput 18 cOverR g0)))))
theorem gBr_ok : GOk Tryz.prog gBr := gput_ok shown_ok (gput_ok Expr_ok (gput_ok Nest_ok (gput_ok same_ok (gput_ok depth_ok (gput_ok overR_ok g0_ok)))))
def cBrackets : AC := fun args K k => ∃ (s t : Bs) (sign : Int), args = [.p (.str s), .p (.str t), .p (.int .i64 sign)] ∧ In63 sign ∧ k (.ret (.p (.bool true))) K
theorem expr_ns {s : Bs} {ns : List Nd} {root mo : Int} (h : exprRS s = .ok ns root mo) : ns.length ≤ 4000 := (read_ok h).choose_spec.2.2.1
theorem overOk_two {s t : Bs} {a b : List Nd} {ra rb : Int} (ha : BrHyp s a ra) (hb : BrHyp t b rb) : OverOk [(a, ra), (b, rb)] := by
  obtain ⟨_, _, _, sa, la⟩ := ha.read
  obtain ⟨_, _, _, sb, lb⟩ := hb.read
  have one : ∀ {a : List Nd} {ra : Int}, soundS a ra = true → Small ra ∧ ∀ n ∈ a, n.kids.length < 1000000 ∧ ∀ q ∈ n.kids, Small q := fun {a ra} h => by
    obtain ⟨h1, h2, h3, h4⟩ := soundS_ok h
    have h5 := soundS_many h
    refine ⟨⟨by omega, by omega⟩, fun n hn => ?_⟩
    obtain ⟨i, hi, rfl⟩ := List.getElem_of_mem hn
    have e : a.getD i default = a[i] := by simp [hi]
    have h6 := h5 i hi
    have h7 := h4 i hi
    rw [e] at h6 h7
    exact ⟨by omega, fun q hq => by have := h7 q hq; exact ⟨by omega, by omega⟩⟩
  refine ⟨by simp, by simp; omega, fun t ht => ?_, fun t ht => ?_⟩
  · simp only [List.mem_cons, List.not_mem_nil, or_false] at ht
    rcases ht with rfl | rfl
    · exact (one sa).1
    · exact (one sb).1
  · simp only [List.mem_cons, List.not_mem_nil, or_false] at ht
    rcases ht with rfl | rfl
    · exact (one sa).2
    · exact (one sb).2
theorem brackets_ok : COk 5 cBrackets := by
  rintro args K k ⟨s, t, sign, rfl, hsg, hk⟩
  refine frame0P gBr_ok 19 rfl fun Q hr => ?_
  conv => whnf
  refine ⟨rfl, ?_⟩
  conv => whnf
  refine two_dec (fun h => ?_) (fun h => ?_)
  · conv => whnf
    exact hr _ _ rfl hk
  have h1 : s.length ≤ 600 := by omega
  conv => whnf
  refine two_dec (fun h => ?_) (fun h => ?_)
  · conv => whnf
    exact hr _ _ rfl hk
  have h2 : t.length ≤ 600 := by omega
  conv => whnf
  refine ⟨s, rfl, by omega, ?_⟩
  cases hs : exprRS s with
  | bad a er =>
    have he := bad_err (fun e => ex_wr e 40) hs
    conv => whnf
    refine ⟨t, rfl, by omega, ?_⟩
    cases ht : exprRS t with
    | bad b er2 =>
      conv => whnf
      refine two_ne (fun h => ?_) (fun h => absurd h he)
      conv => whnf
      exact hr _ _ rfl hk
    | ok b rb mb =>
      conv => whnf
      refine two_ne (fun h => ?_) (fun h => absurd h he)
      conv => whnf
      exact hr _ _ rfl hk
  | ok a ra ma =>
    have hna := expr_ns hs
    conv => whnf
    refine ⟨t, rfl, by omega, ?_⟩
    cases ht : exprRS t with
    | bad b er2 =>
      have he := bad_err (fun e => ex_wr e 40) ht
      conv => whnf
      refine two_ne (fun h => ?_) (fun h => absurd h he)
      conv => whnf
      exact hr _ _ rfl hk
    | ok b rb mb =>
      have hnb := expr_ns ht
      conv => whnf
      refine ⟨s, rfl, by omega, ?_⟩
      conv => whnf
      refine two_dec (fun h => ?_) (fun h3 => ?_)
      · conv => whnf
        exact hr _ _ rfl hk
      conv => whnf
      refine ⟨t, rfl, by omega, ?_⟩
      conv => whnf
      refine two_dec (fun h => ?_) (fun h4 => ?_)
      · conv => whnf
        exact hr _ _ rfl hk
      conv => whnf
      refine ⟨a, ra, rfl, by omega, ?_⟩
      conv => whnf
      refine two_dec (fun h => ?_) (fun h5 => ?_)
      · conv => whnf
        exact hr _ _ rfl hk
      conv => whnf
      refine ⟨b, rb, rfl, by omega, ?_⟩
      conv => whnf
      refine two_dec (fun h => ?_) (fun h6 => ?_)
      · conv => whnf
        exact hr _ _ rfl hk
      have ha : BrHyp s a ra := ⟨⟨ma, hs⟩, by omega, by omega, h1⟩
      have hb : BrHyp t b rb := ⟨⟨mb, ht⟩, by omega, by omega, h2⟩
      conv => whnf
      refine two_dec (fun hn => ?_) (fun hn => ?_)
      · have hw : IntKind.i64.wrap (0 - IntKind.i64.wrap (sign + 1)) = -(sign + 1) := by
          unfold In63 at hsg
          rw [w64 (n := sign + 1) ⟨by omega, by omega⟩, w64 ⟨by omega, by omega⟩]; omega
        have hm : 0 ≤ (-(sign + 1)).tmod 13 ∧ (-(sign + 1)).tmod 13 < 13 := by
          rw [Int.tmod_eq_emod_of_nonneg (by omega)]; omega
        conv => whnf
        refine ⟨by decide, ?_⟩
        rw [hw]
        have hm : 0 ≤ (-(sign + 1)).tmod ((13 : Nat) : Int) ∧ (-(sign + 1)).tmod ((13 : Nat) : Int) < 13 := hm
        generalize hn2 : (-(sign + 1)).tmod ((13 : Nat) : Int) = n at hm ⊢
        have hcs : n = 0 ∨ n = 1 ∨ n = 2 ∨ n = 3 ∨ n = 4 ∨ n = 5 ∨ n = 6 ∨ n = 7 ∨ n = 8 ∨ n = 9 ∨ n = 10 ∨ n = 11 ∨ n = 12 := by omega
        conv => whnf
        refine ⟨⟨rfl, rfl, hm.1, hm.2, rfl⟩, ?_⟩
        conv => whnf
        refine ⟨⟨rfl, rfl⟩, ?_⟩
        refine (?_ : ∀ C : AV → Prop, (∀ x ∈ opsL, C (.p (.str x))) → AE.part _ _ 0 C) _ ?_
        · intro C hC
          rcases hcs with rfl | rfl | rfl | rfl | rfl | rfl | rfl | rfl | rfl | rfl | rfl | rfl | rfl <;> ((conv => whnf); exact hC _ (by decide))
        intro x hx
        have hx2 := (ops_sign x hx).2.1
        conv => whnf
        repeat' (first | (refine Chk.mk ?_ ?_; (focus ((simp only [List.length_append, List.length_cons, List.length_nil]; omega) ; done)); (conv => whnf)) | fail)
        obtain ⟨c, mc, hc1, hc2⟩ := brackets_law_c ha
        obtain ⟨d, md, hd1, hd2⟩ := brackets_law_d ha hb hx
        have hnc := expr_ns hc1
        have hnd := expr_ns hd1
        refine ⟨txC s, congrArg (fun q => [AV.p (PV.str q)]) (by simp [txC]), by simp only [txC, List.length_append, List.length_cons, List.length_nil]; omega, ?_⟩
        rw [hc1]
        conv => whnf
        repeat' (first | (refine Chk.mk ?_ ?_; (focus ((simp only [List.length_append, List.length_cons, List.length_nil]; omega) ; done)); (conv => whnf)) | fail)
        refine ⟨txD s x t, congrArg (fun q => [AV.p (PV.str q)]) (by simp [txD]), by simp only [txD, List.length_append, List.length_cons, List.length_nil]; omega, ?_⟩
        rw [hd1]
        conv => whnf
        refine ⟨_, _, a, c, ra, ra, rfl, .inl rfl, .inl rfl, by omega, ?_⟩
        rw [sameS_t hc2.symm]
        conv => whnf
        repeat ((refine And.intro ?_ ?_); (focus ((conv => whnf); done)); (conv => whnf))
        refine ⟨_, ⟨27, 0, 0, x, []⟩, [(a, ra), (b, rb)], _, _, _, rfl, .inr ⟨rfl, rfl⟩, rfl, rfl, ?_, overOk_two ha hb, ?_⟩
        · intro i hi
          rcases i with _ | _ | i
          · rfl
          · rfl
          · exact absurd hi (by omega)
        conv => whnf
        repeat ((refine And.intro ?_ ?_); (focus ((conv => whnf); done)); (conv => whnf))
        refine ⟨_, _, d, _, ((a.length + b.length : Nat) : Int), _, rfl, .inl rfl, .inl rfl, by omega, ?_⟩
        rw [show sameS d ((a.length + b.length : Nat) : Int) (overS ⟨27, 0, 0, x, []⟩ [(a, ra), (b, rb)]).1 (overS ⟨27, 0, 0, x, []⟩ [(a, ra), (b, rb)]).2 = true by
          have e : (overS ⟨27, 0, 0, x, []⟩ [(a, ra), (b, rb)]).2 = ((a.length + b.length : Nat) : Int) := by simp [overS, overL]
          rw [e]; exact sameS_t hd2]
        conv => whnf
        repeat ((refine And.intro ?_ ?_); (focus ((conv => whnf); done)); (conv => whnf))
        exact hr _ _ rfl hk
      · have hm : 0 ≤ sign.tmod ((13 : Nat) : Int) ∧ sign.tmod ((13 : Nat) : Int) < 13 := by
          show 0 ≤ sign.tmod 13 ∧ sign.tmod 13 < 13
          rw [Int.tmod_eq_emod_of_nonneg (by omega)]; omega
        conv => whnf
        refine ⟨by decide, ?_⟩
        generalize hn2 : sign.tmod ((13 : Nat) : Int) = n at hm ⊢
        have hcs : n = 0 ∨ n = 1 ∨ n = 2 ∨ n = 3 ∨ n = 4 ∨ n = 5 ∨ n = 6 ∨ n = 7 ∨ n = 8 ∨ n = 9 ∨ n = 10 ∨ n = 11 ∨ n = 12 := by omega
        conv => whnf
        refine ⟨⟨rfl, rfl, hm.1, hm.2, rfl⟩, ?_⟩
        conv => whnf
        refine ⟨⟨rfl, rfl⟩, ?_⟩
        refine (?_ : ∀ C : AV → Prop, (∀ x ∈ opsL, C (.p (.str x))) → AE.part _ _ 0 C) _ ?_
        · intro C hC
          rcases hcs with rfl | rfl | rfl | rfl | rfl | rfl | rfl | rfl | rfl | rfl | rfl | rfl | rfl <;> ((conv => whnf); exact hC _ (by decide))
        intro x hx
        have hx2 := (ops_sign x hx).2.1
        conv => whnf
        repeat' (first | (refine Chk.mk ?_ ?_; (focus ((simp only [List.length_append, List.length_cons, List.length_nil]; omega) ; done)); (conv => whnf)) | fail)
        obtain ⟨c, mc, hc1, hc2⟩ := brackets_law_c ha
        obtain ⟨d, md, hd1, hd2⟩ := brackets_law_d ha hb hx
        have hnc := expr_ns hc1
        have hnd := expr_ns hd1
        refine ⟨txC s, congrArg (fun q => [AV.p (PV.str q)]) (by simp [txC]), by simp only [txC, List.length_append, List.length_cons, List.length_nil]; omega, ?_⟩
        rw [hc1]
        conv => whnf
        repeat' (first | (refine Chk.mk ?_ ?_; (focus ((simp only [List.length_append, List.length_cons, List.length_nil]; omega) ; done)); (conv => whnf)) | fail)
        refine ⟨txD s x t, congrArg (fun q => [AV.p (PV.str q)]) (by simp [txD]), by simp only [txD, List.length_append, List.length_cons, List.length_nil]; omega, ?_⟩
        rw [hd1]
        conv => whnf
        refine ⟨_, _, a, c, ra, ra, rfl, .inl rfl, .inl rfl, by omega, ?_⟩
        rw [sameS_t hc2.symm]
        conv => whnf
        repeat ((refine And.intro ?_ ?_); (focus ((conv => whnf); done)); (conv => whnf))
        refine ⟨_, ⟨27, 0, 0, x, []⟩, [(a, ra), (b, rb)], _, _, _, rfl, .inr ⟨rfl, rfl⟩, rfl, rfl, ?_, overOk_two ha hb, ?_⟩
        · intro i hi
          rcases i with _ | _ | i
          · rfl
          · rfl
          · exact absurd hi (by omega)
        conv => whnf
        repeat ((refine And.intro ?_ ?_); (focus ((conv => whnf); done)); (conv => whnf))
        refine ⟨_, _, d, _, ((a.length + b.length : Nat) : Int), _, rfl, .inl rfl, .inl rfl, by omega, ?_⟩
        rw [show sameS d ((a.length + b.length : Nat) : Int) (overS ⟨27, 0, 0, x, []⟩ [(a, ra), (b, rb)]).1 (overS ⟨27, 0, 0, x, []⟩ [(a, ra), (b, rb)]).2 = true by
          have e : (overS ⟨27, 0, 0, x, []⟩ [(a, ra), (b, rb)]).2 = ((a.length + b.length : Nat) : Int) := by simp [overS, overL]
          rw [e]; exact sameS_t hd2]
        conv => whnf
        repeat ((refine And.intro ?_ ?_); (focus ((conv => whnf); done)); (conv => whnf))
        exact hr _ _ rfl hk
theorem brackets_calls (s t : Bs) (sign : Int) (hs : In63 sign) (K : List ABlk) (k : AO → List ABlk → Prop) (hk : k (.ret (.p (.bool true))) K) : ACalls Tryz.prog 5 [.p (.str s), .p (.str t), .p (.int .i64 sign)] K k :=
  brackets_ok _ _ _ ⟨s, t, sign, rfl, hs, hk⟩
end Go.Proofs.YtbcngegcpdppfaaGreatDoor
