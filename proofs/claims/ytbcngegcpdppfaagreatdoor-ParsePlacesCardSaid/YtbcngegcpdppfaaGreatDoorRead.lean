/-
  Parser, part 15: read. No statement of the seat is proved here.
-/
import Derived.Test.YtbcngegcpdppfaaGreatDoorPaProg
import Derived.Test.YtbcngegcpdppfaaGreatDoorTr
import Derived.Test.YtbcngegcpdppfaaGreatDoorAeKit4
import Derived.Test.YtbcngegcpdppfaaGreatDoorAeDefer
namespace Go.Proofs.YtbcngegcpdppfaaGreatDoor
open Go.AE Go.Ru
set_option maxRecDepth 100000
set_option pp.maxSteps 3000

/-- what reads something: of a parser's state that stands first -/
def cStd (S : Int → PS → R Int) : AC := fun args K k => ∃ e ts ns mo X, args = [pp] ∧ K = encP e ts ns 0 mo ++ X ∧ Fine 40 ts ns ∧ After e (S e ⟨ts, ns, mo⟩) intV 0 X k
def pbW (e : Int) (ts : List Tok) (nv : AV) (mo : Int) : ABlk := .box 74 [.p (.sl 4 (ts.length + 1) (encs e ts)), nv, intV 0, intV mo]
/-- of one that stands fifth, and has no nodes yet -/
def cWhat (S : Int → PS → R Int) : AC := fun args K k => ∃ (e : Int) (ts : List Tok) (y0 y1 y2 y3 : ABlk), args = [.ptr 4 0 1 0 0] ∧ K = [y0, y1, y2, y3, pbW e ts (.p .nils) 0] ∧ Fine 40 ts [] ∧
  (∀ a ts' ns' mo', S e ⟨ts, [], 0⟩ = .ok a ⟨ts', ns', mo'⟩ → k (.ret (intV a)) [y0, y1, y2, y3, pbW e ts' (.p (.sl 5 ns'.length (nodeF ns'))) mo', .dead]) ∧
  (∀ a er, S e ⟨ts, [], 0⟩ = .bad a er → k (.pan (wrongV a er)) [y0, y1, y2, y3, .dead, .dead])

theorem ups_pvs (n : Nat) (l : List PV) : AV.ups n (pvs l) = pvs l := by
  induction l with
  | nil => rfl
  | cons a l ih => simp [pvs, AV.ups, AV.up, ih]

theorem what_ok {f : FuncId} {S : Int → PS → R Int} (h0 : COk f (cStd S)) : COk f (cWhat S) := by
  rintro args K k ⟨e, ts, y0, y1, y2, y3, rfl, rfl, hf, hk1, hk2⟩
  refine ACalls.post (k := fun ao K1 => (∃ a ts' ns' mo', S e ⟨ts, [], 0⟩ = .ok a ⟨ts', ns', mo'⟩ ∧ ao = .ret (intV a) ∧ K1 = [y0, y1, y2, y3] ++ upsB 4 (encP e ts' ns' 0 mo')) ∨
    (∃ a er, S e ⟨ts, [], 0⟩ = .bad a er ∧ ao = .pan (wrongV a er) ∧ K1 = [y0, y1, y2, y3, .dead, .dead])) ?_ ?_
  · refine ACalls.nilPre (K' := [y0, y1, y2, y3, pbW e ts (.slr 5 0 0 0) 0]) 41 5 (fun i => pvs (nodeF [] i)) ⟨.inl (ABlk.le_refl _), .inl (ABlk.le_refl _), .inl (ABlk.le_refl _), .inl (ABlk.le_refl _), .inr ⟨_, _, _, rfl, rfl, .inl (AV.le_refl _), .inr ⟨rfl, rfl⟩, .inl (AV.le_refl _), .inl (AV.le_refl _), trivial⟩, trivial⟩ ?_
    refine ACalls.shift (n := 4) (Y := [y0, y1, y2, y3]) (K1 := [pbW e ts (.slr 5 0 0 0) 0, .arr 41 5 0 0 (fun i => pvs (nodeF [] i))]) rfl ⟨trivial, trivial, trivial⟩ ?_
    refine ACalls.pre (args' := [pp]) (K' := encP e ts [] 0 0 ++ []) ?_ (fun w m Args hS hV => ⟨m, Tr.refl w m, hS.les ?_, hV⟩)
    · refine h0 _ _ _ ⟨e, ts, [], 0, [], rfl, rfl, hf, ⟨fun a ts' ns' mo' hr => ?_, fun a er hr => ?_⟩⟩
      · exact ⟨⟨trivial, trivial, trivial⟩, .inl ⟨a, ts', ns', mo', hr, rfl, rfl⟩⟩
      · exact ⟨⟨trivial, trivial, trivial⟩, .inr ⟨a, er, hr, rfl, rfl⟩⟩
    · exact ⟨ABlk.le_refl _, ABlk.arr_eq rfl fun i hi => by simp at hi, trivial⟩
  · rintro ao K1 (⟨a, ts', ns', mo', hr, rfl, rfl⟩ | ⟨a, er, hr, rfl, rfl⟩)
    · refine ⟨intV a, _, Wk1.fz (r := 5) (ty := 41) (sz := 5) (n := ns'.length) (f := fun i => AV.ups 4 (pvs (nodeF ns' i))) (nodeF ns') rfl (fun i _ => ups_pvs _ _) ?_ (AV.le_refl _), hk1 a ts' ns' mo' hr⟩
      exact ⟨.inl (ABlk.le_refl _), .inl (ABlk.le_refl _), .inl (ABlk.le_refl _), .inl (ABlk.le_refl _), .inr ⟨_, _, _, rfl, rfl, .inl (AV.le_refl _), .inr ⟨rfl, rfl⟩, .inl (AV.le_refl _), .inl (AV.le_refl _), trivial⟩, .inl (ABlk.le_refl _), trivial⟩
    · exact ⟨_, _, Wk1.refl _ _ _, hk2 a er hr⟩

/-! ### what reading answers -/
inductive RR where
  | bad (at_ err : Int)
  | ok (ns : List Nd) (root mo : Int)
def readS (S : Int → PS → R Int) (s : Bs) : RR :=
  if s.length > 20000 then .bad 0 7 else match cutT s with
  | .bad a => .bad a 2
  | .ok ts => match S s.length ⟨ts, [], 0⟩ with
    | .bad a er => .bad a er
    | .ok root s' => match s'.ts with
      | t :: _ => .bad t.at_ 2
      | [] => if 4000 < s'.ns.length then .bad 0 8 else if 40 < depthS s'.ns root then .bad 0 6 else .ok s'.ns root s'.mo
def readV : RR → AV
  | .bad a er => .tup [.agg [.p .nils, intV 0], intV 0, intV a, intV er]
  | .ok ns root mo => .tup [treeV ns root, intV mo, intV 0, intV 0]

theorem runS_le (l r : Bs) : runS l r ≤ r.length := by
  unfold runS
  exact (List.takeWhile_sublist _).length_le
theorem cutS_len : ∀ (n : Nat) (r : Bs) (i : Nat) (l : List Tok), cutS n r i = .ok l → l.length ≤ r.length := by
  intro n
  induction n with
  | zero => intro r i l h; simp only [cutS, CR.ok.injEq] at h; subst h; exact Nat.zero_le _
  | succ n ih =>
    intro r i l h
    cases r with
    | nil => simp only [cutS, CR.ok.injEq] at h; subst h; exact Nat.zero_le _
    | cons c r' =>
      simp only [cutS] at h
      split at h
      · have := ih _ _ _ h
        simp only [List.length_drop] at this; omega
      split at h
      · have := ih _ _ _ h
        have h2 := (List.dropWhile_sublist (fun c => !(c == (10 : UInt8))) (l := c :: r')).length_le
        omega
      split at h
      · rename_i hp
        split at h
        · cases h
        · rename_i k v hw
          cases hc : cutS n ((c :: r').drop (runS partsT (c :: r'))) (i + runS partsT (c :: r')) with
          | bad a => rw [hc] at h; simp [CR.cons] at h
          | ok l' =>
            rw [hc] at h
            simp only [CR.cons, CR.ok.injEq] at h
            subst h
            have := ih _ _ _ hc
            simp only [List.length_drop, List.length_cons] at this ⊢; omega
      · split at h
        · cases h
        · rename_i m hm
          cases hc : cutS n ((c :: r').drop (m + 1)) (i + (m + 1)) with
          | bad a => rw [hc] at h; simp [CR.cons] at h
          | ok l' =>
            rw [hc] at h
            simp only [CR.cons, CR.ok.injEq] at h
            subst h
            have := ih _ _ _ hc
            simp only [List.length_drop, List.length_cons] at this ⊢; omega

/-! ### read -/
theorem call_okD {G : AG} (hG : GOk Tryz.prog G) (n : Nat) {f : FuncId} {fn : Func} (hf : T0.f.get f = some fn) {args : List AV} {K : List ABlk} {k : AO → List ABlk → Prop} (h : abodyD T0 (acall T0 G n) fn args K k) : ACalls Tryz.prog f args K k := by
  obtain ⟨h1, h2⟩ := tabOk.f f fn hf
  exact abodyD_ok tabOk (acall_ok tabOk (Checked.mixed Tryz.checked) hG n) (Checked.mixed Tryz.checked) h1 h2 h
theorem frame0D {G : AG} (hG : GOk Tryz.prog G) (n : Nat) {f : FuncId} {fn : Func} (hf : T0.f.get f = some fn) {args : List AV} {X : List ABlk} {k : AO → List ABlk → Prop} (hcl : AV.cls 0 args = true)
    (h : ∀ Q : AO → List ABlk → Prop, (∀ v K', v.cl 0 = true → k (.ret v) X → Q (.ret v) K') → abodyD T0 (acall T0 G n) fn args [] Q) : ACalls Tryz.prog f args X k := by
  refine (ACalls.frame (K0 := []) (X := X) (k := fun ao K1 => k ao (K1 ++ X)) hcl (fun r h => by simp at h) (call_okD hG n hf (h _ ?_))).mono fun ao K ⟨K1, h1, h2⟩ => by subst h1; exact h2
  intro v K' h1 h2
  refine ⟨h1, by simp, fun r hr => by simp at hr, ?_⟩
  show k (.ret v) (takeN K' 0 ++ X)
  rw [takeN_zero]; exact h2

def gRd (f : FuncId) (S : Int → PS → R Int) : AG := gput 12 cCutT (gput f (cWhat S) (gput 16 cDepth g0))
theorem gRd_ok {f : FuncId} {S : Int → PS → R Int} (h0 : COk f (cStd S)) : GOk Tryz.prog (gRd f S) := gput_ok cutT_ok (gput_ok (what_ok h0) (gput_ok depth_ok g0_ok))
def cRead (f : FuncId) (S : Int → PS → R Int) : AC := fun args K k => ∃ s, args = [.p (.str s), .p (.fn f)] ∧ s.length < 1000000 ∧ k (.ret (readV (readS S s))) K
theorem readP_ok (S : Int → PS → R Int) (hS : ∀ e ts a s', List.length ts ≤ 20000 → S e ⟨ts, [], 0⟩ = .ok a s' → s'.ns.length < 1000000) (h0 : COk 22 (cStd S)) :
    COk 21 (cRead 22 S) := by
    rintro args K k ⟨s, rfl, hs, hk⟩
    refine frame0D (gRd_ok h0) 19 rfl rfl fun Q hr => ?_
    conv => whnf
    refine ⟨s, rfl, hs, fun h => ?_, fun h => ?_⟩
    · have e : readS S s = .bad 0 7 := by unfold readS; rw [if_pos h]
      rw [e] at hk
      conv => whnf
      repeat ((refine And.intro ?_ ?_); (focus ((conv => whnf); done)); (conv => whnf))
      exact hr _ _ rfl hk
    unfold readS at hk
    rw [if_neg (by omega)] at hk
    cases hc : cutT s with
    | bad a =>
      rw [hc] at hk
      conv => whnf
      repeat ((refine And.intro ?_ ?_); (focus ((conv => whnf); done)); (conv => whnf))
      exact hr _ _ rfl hk
    | ok ts =>
      rw [hc] at hk
      have hln : ts.length ≤ s.length := cutS_len _ _ _ _ hc
      simp only at hk
      conv => whnf
      refine ⟨s.length, ts, _, _, _, _, rfl, rfl, ⟨Nat.le_refl _, by simp only [List.length_nil]; omega⟩, fun a ts2 ns2 mo2 hp => ?_, fun a er hp => ?_⟩
      · have hns := hS _ _ _ _ (by omega) hp
        rw [hp] at hk
        simp only at hk hns
        cases ts2 with
        | cons t r =>
          obtain ⟨tk, tn, ta, tx⟩ := t
          cases tk <;>
          · conv => whnf
            refine ⟨by simp <;> omega, ?_⟩
            conv => whnf
            refine ⟨by simp <;> omega, ?_⟩
            conv => whnf
            repeat ((refine And.intro ?_ ?_); (focus ((conv => whnf); done)); (conv => whnf))
            exact hr _ _ rfl hk
        | nil =>
          conv => whnf
          refine ⟨by simp, ?_⟩
          conv => whnf
          have hd1 : decide ((ns2.length : Int) > 4000) = decide (4000 < ns2.length) := by
            by_cases h : 4000 < ns2.length
            · rw [decide_eq_true h, decide_eq_true (by omega)]
            · rw [decide_eq_false h, decide_eq_false (by omega)]
          refine two_intro (fun h1 => ?_) (fun h1 => ?_)
          · have h1 := of_decide_eq_true (hd1 ▸ h1)
            rw [if_pos h1] at hk
            conv => whnf
            repeat ((refine And.intro ?_ ?_); (focus ((conv => whnf); done)); (conv => whnf))
            exact hr _ _ rfl hk
          have h1 := of_decide_eq_false (hd1 ▸ h1)
          rw [if_neg h1] at hk
          conv => whnf
          refine ⟨ns2, a, rfl, hns, ?_⟩
          conv => whnf
          have hd2 : decide (((depthS ns2 a : Nat) : Int) > 40) = decide (40 < depthS ns2 a) := by
            by_cases h : 40 < depthS ns2 a
            · rw [decide_eq_true h, decide_eq_true (by omega)]
            · rw [decide_eq_false h, decide_eq_false (by omega)]
          refine two_intro (fun h2 => ?_) (fun h2 => ?_)
          · have h2 := of_decide_eq_true (hd2 ▸ h2)
            rw [if_pos h2] at hk
            conv => whnf
            repeat ((refine And.intro ?_ ?_); (focus ((conv => whnf); done)); (conv => whnf))
            exact hr _ _ rfl hk
          have h2 := of_decide_eq_false (hd2 ▸ h2)
          rw [if_neg h2] at hk
          conv => whnf
          repeat ((refine And.intro ?_ ?_); (focus ((conv => whnf); done)); (conv => whnf))
          exact hr _ _ rfl hk
      · rw [hp] at hk
        simp only at hk
        conv => whnf
        repeat ((refine And.intro ?_ ?_); (focus ((conv => whnf); done)); (conv => whnf))
        exact hr _ _ rfl hk
theorem readE_ok (S : Int → PS → R Int) (hS : ∀ e ts a s', List.length ts ≤ 20000 → S e ⟨ts, [], 0⟩ = .ok a s' → s'.ns.length < 1000000) (h0 : COk 31 (cStd S)) :
    COk 21 (cRead 31 S) := by
    rintro args K k ⟨s, rfl, hs, hk⟩
    refine frame0D (gRd_ok h0) 19 rfl rfl fun Q hr => ?_
    conv => whnf
    refine ⟨s, rfl, hs, fun h => ?_, fun h => ?_⟩
    · have e : readS S s = .bad 0 7 := by unfold readS; rw [if_pos h]
      rw [e] at hk
      conv => whnf
      repeat ((refine And.intro ?_ ?_); (focus ((conv => whnf); done)); (conv => whnf))
      exact hr _ _ rfl hk
    unfold readS at hk
    rw [if_neg (by omega)] at hk
    cases hc : cutT s with
    | bad a =>
      rw [hc] at hk
      conv => whnf
      repeat ((refine And.intro ?_ ?_); (focus ((conv => whnf); done)); (conv => whnf))
      exact hr _ _ rfl hk
    | ok ts =>
      rw [hc] at hk
      have hln : ts.length ≤ s.length := cutS_len _ _ _ _ hc
      simp only at hk
      conv => whnf
      refine ⟨s.length, ts, _, _, _, _, rfl, rfl, ⟨Nat.le_refl _, by simp only [List.length_nil]; omega⟩, fun a ts2 ns2 mo2 hp => ?_, fun a er hp => ?_⟩
      · have hns := hS _ _ _ _ (by omega) hp
        rw [hp] at hk
        simp only at hk hns
        cases ts2 with
        | cons t r =>
          obtain ⟨tk, tn, ta, tx⟩ := t
          cases tk <;>
          · conv => whnf
            refine ⟨by simp <;> omega, ?_⟩
            conv => whnf
            refine ⟨by simp <;> omega, ?_⟩
            conv => whnf
            repeat ((refine And.intro ?_ ?_); (focus ((conv => whnf); done)); (conv => whnf))
            exact hr _ _ rfl hk
        | nil =>
          conv => whnf
          refine ⟨by simp, ?_⟩
          conv => whnf
          have hd1 : decide ((ns2.length : Int) > 4000) = decide (4000 < ns2.length) := by
            by_cases h : 4000 < ns2.length
            · rw [decide_eq_true h, decide_eq_true (by omega)]
            · rw [decide_eq_false h, decide_eq_false (by omega)]
          refine two_intro (fun h1 => ?_) (fun h1 => ?_)
          · have h1 := of_decide_eq_true (hd1 ▸ h1)
            rw [if_pos h1] at hk
            conv => whnf
            repeat ((refine And.intro ?_ ?_); (focus ((conv => whnf); done)); (conv => whnf))
            exact hr _ _ rfl hk
          have h1 := of_decide_eq_false (hd1 ▸ h1)
          rw [if_neg h1] at hk
          conv => whnf
          refine ⟨ns2, a, rfl, hns, ?_⟩
          conv => whnf
          have hd2 : decide (((depthS ns2 a : Nat) : Int) > 40) = decide (40 < depthS ns2 a) := by
            by_cases h : 40 < depthS ns2 a
            · rw [decide_eq_true h, decide_eq_true (by omega)]
            · rw [decide_eq_false h, decide_eq_false (by omega)]
          refine two_intro (fun h2 => ?_) (fun h2 => ?_)
          · have h2 := of_decide_eq_true (hd2 ▸ h2)
            rw [if_pos h2] at hk
            conv => whnf
            repeat ((refine And.intro ?_ ?_); (focus ((conv => whnf); done)); (conv => whnf))
            exact hr _ _ rfl hk
          have h2 := of_decide_eq_false (hd2 ▸ h2)
          rw [if_neg h2] at hk
          conv => whnf
          repeat ((refine And.intro ?_ ?_); (focus ((conv => whnf); done)); (conv => whnf))
          exact hr _ _ rfl hk
      · rw [hp] at hk
        simp only at hk
        conv => whnf
        repeat ((refine And.intro ?_ ?_); (focus ((conv => whnf); done)); (conv => whnf))
        exact hr _ _ rfl hk

/-! ### an expression alone -/
def gEx : AG := gput 66 cEx g0
theorem gEx_ok : GOk Tryz.prog gEx := gput_ok ex_ok g0_ok
theorem expression_ok : COk 31 (cStd fun e => exS e 40) := by
  rintro args K k ⟨e, ts, ns, mo, X, rfl, rfl, hf, hk⟩
  refine frameP gEx_ok 19 rfl fun Q hr hp => ?_
  conv => whnf
  refine ⟨40, e, ts, ns, mo, _, _, rfl, rfl, rfl, hf, ⟨fun a ts' ns' mo' hr' => ?_, fun a er hr' => ?_⟩⟩
  · conv => whnf
    exact hr _ _ ts' ns' 0 mo' rfl rfl (hk.ok a ts' ns' mo' hr')
  · conv => whnf
    exact hp _ _ rfl (hk.bad a er hr')

theorem programS_len (e : Int) (ts : List Tok) (a : Int) (s' : PS) (hl : ts.length ≤ 20000) (h : programS e ⟨ts, [], 0⟩ = .ok a s') : s'.ns.length < 1000000 := by
  have : Okk (programS e ⟨ts, [], 0⟩) (fun s' => s'.ns.length < 1000000) := by
    unfold programS
    refine Okk.bind (vars_le e 2 ⟨ts, [], 0⟩) fun l s1 h1 => Okk.bind (procsL_le e 40 _ l s1) fun l2 s2 h2 => (put_len _ s2).imp fun s3 h3 => ?_
    simp only [Lw, List.length_nil] at h1 h2 h3
    omega
  exact this a s' h
theorem exS_len (e : Int) (ts : List Tok) (a : Int) (s' : PS) (hl : ts.length ≤ 20000) (h : exS e 40 ⟨ts, [], 0⟩ = .ok a s') : s'.ns.length < 1000000 := by
  have := ex_le e 40 ⟨ts, [], 0⟩ a s' h
  simp only [Lw, List.length_nil] at this
  omega

/-! ### Program, Expr, Nest -/
abbrev proS (s : Bs) : RR := readS programS s
abbrev exprRS (s : Bs) : RR := readS (fun e => exS e 40) s
def cReadB : AC := fun args K k => cRead 22 programS args K k ∨ cRead 31 (fun e => exS e 40) args K k
theorem readB_ok : COk 21 cReadB := by
  rintro args K k (h | h)
  · exact readP_ok programS programS_len program_ok args K k h
  · exact readE_ok (fun e => exS e 40) exS_len expression_ok args K k h
def gB : AG := gput 21 cReadB g0
theorem gB_ok : GOk Tryz.prog gB := gput_ok readB_ok g0_ok
def topV : RR → AV
  | .bad a er => .tup [.agg [.p .nils, intV 0], intV a, intV er]
  | .ok ns root _ => .tup [treeV ns root, intV 0, intV 0]
def cTop (S : Bs → RR) : AC := fun args K k => ∃ s, args = [.p (.str s)] ∧ s.length < 1000000 ∧ k (.ret (topV (S s))) K
theorem Program_ok : COk 9 (cTop proS) := by
  rintro args K k ⟨s, rfl, hs, hk⟩
  refine frame0P gB_ok 19 rfl fun Q hr => ?_
  conv => whnf
  refine .inl ⟨s, rfl, hs, ?_⟩
  cases h : readS programS s with
  | bad a er =>
    rw [show proS s = _ from h] at hk
    conv => whnf
    exact hr _ _ rfl hk
  | ok ns root mo =>
    rw [show proS s = _ from h] at hk
    conv => whnf
    exact hr _ _ rfl hk
theorem Expr_ok : COk 13 (cTop exprRS) := by
  rintro args K k ⟨s, rfl, hs, hk⟩
  refine frame0P gB_ok 19 rfl fun Q hr => ?_
  conv => whnf
  refine .inr ⟨s, rfl, hs, ?_⟩
  cases h : readS (fun e => exS e 40) s with
  | bad a er =>
    rw [show exprRS s = _ from h] at hk
    conv => whnf
    exact hr _ _ rfl hk
  | ok ns root mo =>
    rw [show exprRS s = _ from h] at hk
    conv => whnf
    exact hr _ _ rfl hk
def RR.err : RR → Int
  | .bad _ er => er
  | .ok _ _ _ => 0
def RR.most : RR → Int
  | .bad _ _ => 0
  | .ok _ _ mo => mo
def RR.place : RR → Int
  | .bad a _ => a
  | .ok _ _ _ => 0
def RR.tree : RR → AV
  | .bad _ _ => .agg [.p .nils, intV 0]
  | .ok ns root _ => treeV ns root
theorem readV_eq (r : RR) : readV r = .tup [r.tree, intV r.most, intV r.place, intV r.err] := by cases r <;> rfl
def nestS (s : Bs) : Int := if (proS s).err == 0 then (proS s).most else if (exprRS s).err == 0 then (exprRS s).most else -1
def cNest : AC := fun args K k => ∃ s, args = [.p (.str s)] ∧ s.length < 1000000 ∧ k (.ret (intV (nestS s))) K
theorem Nest_ok : COk 14 cNest := by
  rintro args K k ⟨s, rfl, hs, hk⟩
  refine frame0P gB_ok 19 rfl fun Q hr => ?_
  unfold nestS at hk
  conv => whnf
  refine .inl ⟨s, rfl, hs, ?_⟩
  have hp : readS programS s = proS s := rfl
  have he : readS (fun e => exS e 40) s = exprRS s := rfl
  rw [hp]
  generalize proS s = p at hk
  generalize exprRS s = x at hk he
  cases p with
  | ok ns root mo =>
    conv => whnf
    exact hr _ _ rfl hk
  | bad a er =>
    conv => whnf
    refine two_intro (fun h => ?_) (fun h => ?_)
    · rw [show (RR.bad a er).err = er from rfl, show (er == 0) = true from h] at hk
      conv => whnf
      exact hr _ _ rfl hk
    · rw [show (RR.bad a er).err = er from rfl, show (er == 0) = false from h] at hk
      conv => whnf
      refine .inr ⟨s, rfl, hs, ?_⟩
      rw [he]
      cases x with
      | ok ns root mo =>
        conv => whnf
        exact hr _ _ rfl hk
      | bad a2 er2 =>
        conv => whnf
        refine two_intro (fun h2 => ?_) (fun h2 => ?_)
        · rw [show (RR.bad a2 er2).err = er2 from rfl, show (er2 == 0) = true from h2] at hk
          conv => whnf
          exact hr _ _ rfl hk
        · rw [show (RR.bad a2 er2).err = er2 from rfl, show (er2 == 0) = false from h2] at hk
          conv => whnf
          exact hr _ _ rfl hk
end Go.Proofs.YtbcngegcpdppfaaGreatDoor
