/-
  The statement ParsePlaces: the plain law, and the two joined.
-/
import Derived.Test.YtbcngegcpdppfaaGreatDoorLaw5
import Derived.Test.YtbcngegcpdppfaaGreatDoorPaWr
namespace Go.Proofs.YtbcngegcpdppfaaGreatDoor
open Go.AE Go.Ru

theorem isS_cases {w : Bs} {t : Tok} {r : List Tok} (h : isS w (t :: r) = true) : (t.k = .word ∨ t.k = .sign) ∧ t.tx = w := by
  obtain ⟨tk, tn, ta, tx⟩ := t
  cases tk <;> simp [isS] at h ⊢ <;> exact h
theorem una_first {e : Int} {d : Nat} {una inner : M Int} {s : PS} {a : Int} {s' : PS} (h : unaB e d una inner s = .ok a s') : s.ts ≠ [] ∧ isS [118, 97, 114] s.ts = false ∧ isS [112, 114, 111, 99] s.ts = false := by
  obtain ⟨ts, ns, mo⟩ := s
  cases ts with
  | nil => simp [unaB] at h
  | cons t r =>
    refine ⟨by simp, ?_, ?_⟩
    · cases hb : isS [118, 97, 114] (t :: r) with
      | false => rfl
      | true =>
        obtain ⟨hk, hx⟩ := isS_cases hb
        obtain ⟨tk, tn, ta, tx⟩ := t
        simp only at hk hx
        subst hx
        rcases hk with rfl | rfl <;> simp [unaB, primS, isS] at h
    · cases hb : isS [112, 114, 111, 99] (t :: r) with
      | false => rfl
      | true =>
        obtain ⟨hk, hx⟩ := isS_cases hb
        obtain ⟨tk, tn, ta, tx⟩ := t
        simp only at hk hx
        subst hx
        rcases hk with rfl | rfl <;> simp [unaB, primS, isS] at h
theorem expr_una {una : M Int} : ∀ (j : Nat) (s : PS) (a : Int) (s' : PS), exprS una j s = .ok a s' → ∃ a1 s1, una s = .ok a1 s1 := by
  intro j
  induction j with
  | zero => exact fun s a s' h => ⟨a, s', h⟩
  | succ j ih =>
    intro s a s' h
    unfold exprS at h
    obtain ⟨x, s1, h1, _⟩ := bind_ok h
    exact ih s x s1 h1
theorem ex_first {e : Int} {d : Nat} {s : PS} {a : Int} {s' : PS} (h : exS e d s = .ok a s') : s.ts ≠ [] ∧ isS [118, 97, 114] s.ts = false ∧ isS [112, 114, 111, 99] s.ts = false := by
  obtain ⟨a1, s1, h1⟩ := expr_una 5 s a s' h
  cases d with
  | zero => exact una_first (show unaB e 0 _ _ s = .ok a1 s1 from h1)
  | succ d => exact una_first (show unaB e (d + 1) _ _ s = .ok a1 s1 from h1)
theorem program_first {e : Int} {s : PS} {a : Int} {s' : PS} (h : programS e s = .ok a s') : s.ts = [] ∨ isS [118, 97, 114] s.ts = true ∨ isS [112, 114, 111, 99] s.ts = true := by
  obtain ⟨ts, ns, mo⟩ := s
  cases ts with
  | nil => exact .inl rfl
  | cons t r =>
    refine .inr ?_
    cases hv : isS [118, 97, 114] (t :: r) with
    | true => exact .inl rfl
    | false =>
      refine .inr ?_
      unfold programS at h
      obtain ⟨l, s1, h1, h⟩ := bind_ok h
      obtain ⟨l2, s2, h2, h⟩ := bind_ok h
      unfold varsS at h1
      simp only [List.length_cons, varsL, hv] at h1
      simp only [R.ok.injEq] at h1
      obtain ⟨rfl, rfl⟩ := h1
      simp only [List.length_cons, procsL] at h2
      obtain ⟨x, s3, h3, h2⟩ := bind_ok h2
      unfold procS at h3
      simp only at h3
      obtain ⟨_, s4, h4, h3⟩ := bind_ok h3
      unfold wantS at h4
      split at h4
      · assumption
      · simp at h4

theorem hd_mem {e : Int} {t ts : List Tok} (h : t <:+ ts) : (atsS e ts).any (· == hd e t) = true := by
  rw [List.any_eq_true]
  cases t with
  | nil => exact ⟨e, by simp [atsS], by simp [hd]⟩
  | cons x r => exact ⟨x.at_, by
      simp only [atsS, List.mem_append, List.mem_map]
      exact .inl ⟨x, h.subset (List.mem_cons_self ..), rfl⟩, by simp [hd]⟩
theorem read_told {S : Int → PS → R Int} {s : Bs} (hS : Wm s.length (S s.length)) (hl : s.length ≤ 20000) {ts : List Tok} (hc : cutT s = .ok ts) :
    toldS s.length ts (readS S s).place (readS S s).err = true ∧ ((readS S s).err = 0 → ∃ root s', S s.length ⟨ts, [], 0⟩ = .ok root s') := by
  unfold readS
  rw [if_neg (by omega), hc]
  simp only
  have hw := hS ⟨ts, [], 0⟩
  cases hp : S s.length ⟨ts, [], 0⟩ with
  | bad a er =>
    obtain ⟨h1, t, h2, h3⟩ := hw.bad a er hp
    have hm := hd_mem (e := s.length) h2
    rw [← h3] at hm
    simp only [RR.place, RR.err, toldS]
    rcases h1 with rfl | rfl
    · exact ⟨by simp [hm], fun h => by omega⟩
    · exact ⟨by simp [hm], fun h => by omega⟩
  | ok root s' =>
    have hs := hw.ok root s' hp
    simp only
    split
    · rename_i t r ht
      rw [ht] at hs
      have hm := hd_mem (e := s.length) hs
      simp only [hd] at hm
      exact ⟨by simp [RR.place, RR.err, toldS, hm], fun _ => ⟨root, s', rfl⟩⟩
    · split
      · exact ⟨by simp [RR.place, RR.err, toldS], fun _ => ⟨root, s', rfl⟩⟩
      · split
        · exact ⟨by simp [RR.place, RR.err, toldS], fun _ => ⟨root, s', rfl⟩⟩
        · exact ⟨by simp [RR.place, RR.err, toldS], fun _ => ⟨root, s', rfl⟩⟩

theorem placesLaw (s : Bs) : PlacesLaw s := by
  intro ts hl hc
  obtain ⟨h1, h2⟩ := read_told (S := programS) (program_wr _) hl hc
  obtain ⟨h3, h4⟩ := read_told (S := fun e => exS e 40) (ex_wr _ 40) hl hc
  refine ⟨?_, h1, h3⟩
  cases hb : ((proS s).err == 0 && (exprRS s).err == 0) with
  | false => rfl
  | true =>
    simp only [Bool.and_eq_true, beq_iff_eq] at hb
    obtain ⟨r1, s1, e1⟩ := h2 hb.1
    obtain ⟨r2, s2, e2⟩ := h4 hb.2
    obtain ⟨n1, n2, n3⟩ := ex_first e2
    rcases program_first e1 with h | h | h
    · exact absurd h n1
    · rw [n2] at h; cases h
    · rw [n3] at h; cases h

theorem places_calls (s : Bs) (K : List ABlk) (k : AO → List ABlk → Prop) (hk : k (.ret (.p (.bool true))) K) : ACalls Tryz.prog 4 [.p (.str s)] K k :=
  places_ok _ _ _ ⟨s, rfl, placesLaw s, hk⟩
end Go.Proofs.YtbcngegcpdppfaaGreatDoor
