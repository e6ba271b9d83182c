/-
  Trees, part 1: what tree.Sound and tree.Depth compute, in plain Lean. No program in sight; no statement of the seat is proved here.
-/
import Derived.Test.YtbcngegcpdppfaaGreatDoorPaSpec
namespace Go.Ru

/-- kids, the last first: where the next one must stand, how many nodes so far -/
def kidsS (out : List Nat) : List Int → Int → Nat → Option Nat
  | [], _, size => some size
  | k :: r, last, size => match k == last && decide (0 ≤ k) with
    | true => kidsS out r (k - (out.getD k.toNat 0 : Nat)) (size + out.getD k.toNat 0)
    | false => none

/-- how many nodes each node's tree has -/
def sizesS : List Nd → List Nat → Option (List Nat)
  | [], out => some out
  | n :: r, out => match kidsS out n.kids.reverse ((out.length : Int) - 1) 1 with
    | some c => sizesS r (out ++ [c])
    | none => none

def soundS (ns : List Nd) (root : Int) : Bool :=
  !(ns.length == 0 || decide (4000 < ns.length) || root != (ns.length : Int) - 1) &&
  match sizesS ns [] with
  | some l => l.getD root.toNat 0 == ns.length
  | none => false

/-- sizes that have come so far fit into the row -/
def szOk (out : List Nat) : Prop := ∀ i, i < out.length → 1 ≤ out.getD i 0 ∧ out.getD i 0 ≤ i + 1

theorem kidsS_inv {out : List Nat} (ho : szOk out) : ∀ (l : List Int) (last : Int) (size : Nat) (c : Nat), last < out.length → -1 ≤ last → (size : Int) = out.length - last → kidsS out l last size = some c → 1 ≤ c ∧ c ≤ out.length + 1 := by
  intro l
  induction l with
  | nil => intro last size c h1 h2 h3 h; simp only [kidsS, Option.some.injEq] at h; omega
  | cons k r ih =>
    intro last size c h1 h2 h3 h
    simp only [kidsS] at h
    split at h
    case h_2 => simp at h
    rename_i hb
    simp only [Bool.and_eq_true, beq_iff_eq, decide_eq_true_eq] at hb
    obtain ⟨rfl, hk⟩ := hb
    have := ho k.toNat (by omega)
    exact ih _ _ c (by omega) (by omega) (by omega) h

theorem szOk_snoc {out : List Nat} (ho : szOk out) {c : Nat} (h : 1 ≤ c ∧ c ≤ out.length + 1) : szOk (out ++ [c]) := by
  intro i hi
  by_cases e : i < out.length
  · have h1 := ho i e
    rw [List.getD_eq_getElem?_getD, List.getElem?_append_left e, ← List.getD_eq_getElem?_getD]
    exact h1
  · have : i = out.length := by simp at hi; omega
    subst this
    simpa using h

theorem kidsS_mem {out : List Nat} (ho : szOk out) : ∀ (l : List Int) (last : Int) (size : Nat) (c : Nat), last < out.length → kidsS out l last size = some c → ∀ k ∈ l, 0 ≤ k ∧ k ≤ last := by
  intro l
  induction l with
  | nil => intro last size c _ _ k hk; simp at hk
  | cons k r ih =>
    intro last size c h1 h k' hk'
    simp only [kidsS] at h
    split at h
    case h_2 => simp at h
    rename_i hb
    simp only [Bool.and_eq_true, beq_iff_eq, decide_eq_true_eq] at hb
    obtain ⟨rfl, hk⟩ := hb
    have := ho k.toNat (by omega)
    rcases List.mem_cons.1 hk' with rfl | hk'
    · exact ⟨hk, Int.le_refl _⟩
    · have := ih _ _ c (by omega) h k' hk'
      omega

theorem sizesS_inv : ∀ (r : List Nd) (out l : List Nat), szOk out → sizesS r out = some l → l.length = out.length + r.length ∧ szOk l ∧ ∀ j, j < r.length → ∀ k ∈ (r.getD j default).kids, 0 ≤ k ∧ k < (out.length + j : Nat) := by
  intro r
  induction r with
  | nil => intro out l ho h; simp only [sizesS, Option.some.injEq] at h; subst h; exact ⟨rfl, ho, fun j hj => by simp at hj⟩
  | cons n r ih =>
    intro out l ho h
    simp only [sizesS] at h
    split at h
    case h_2 => simp at h
    rename_i c hc
    have hinv := kidsS_inv ho _ _ _ c (by omega) (by omega) (by omega) hc
    have hm := kidsS_mem ho _ _ _ c (by omega) hc
    obtain ⟨h1, h2, h3⟩ := ih _ _ (szOk_snoc ho hinv) h
    refine ⟨by rw [h1]; simp; omega, h2, fun j hj k hk => ?_⟩
    cases j with
    | zero =>
      have := hm k (by simpa using hk)
      omega
    | succ j =>
      have := h3 j (by simpa using hj) k (by simpa using hk)
      simp at this
      omega

/-- how deep a node's tree is -/
def deepS (ns : List Nd) : Nat → Int → Nat
  | 0, _ => 0
  | n + 1, p => (ns.getD p.toNat default).kids.foldl (fun d k => max d (deepS ns n k)) 0 + 1
theorem deepS_le (ns : List Nd) (n : Nat) (p : Int) : deepS ns n p ≤ n := by
  induction n generalizing p with
  | zero => exact Nat.le_refl _
  | succ n ih =>
    have : ∀ (l : List Int) (d : Nat), d ≤ n → l.foldl (fun d k => max d (deepS ns n k)) d ≤ n := by
      intro l
      induction l with
      | nil => intro d h; exact h
      | cons k l ihl => intro d h; exact ihl _ (by have := ih k; exact Nat.max_le.2 ⟨h, this⟩)
    have := this (ns.getD p.toNat default).kids 0 (Nat.zero_le _)
    simp only [deepS]; omega
def depthS (ns : List Nd) (root : Int) : Nat := match soundS ns root with
  | true => deepS ns ns.length root
  | false => 0
theorem soundS_ok {ns : List Nd} {root : Int} (h : soundS ns root = true) : 0 < ns.length ∧ ns.length ≤ 4000 ∧ root = (ns.length : Int) - 1 ∧ ∀ j, j < ns.length → ∀ k ∈ (ns.getD j default).kids, 0 ≤ k ∧ k < (j : Int) := by
  simp only [soundS, Bool.and_eq_true, Bool.not_eq_true', Bool.or_eq_false_iff, beq_eq_false_iff_ne, decide_eq_false_iff_not, bne_eq_false_iff_eq] at h
  obtain ⟨⟨⟨h1, h2⟩, h3⟩, h4⟩ := h
  split at h4
  case h_2 => simp at h4
  rename_i l hl
  obtain ⟨_, _, h5⟩ := sizesS_inv ns [] l (fun i hi => by simp at hi) hl
  exact ⟨by omega, by omega, h3, fun j hj k hk => by have := h5 j hj k hk; simp at this; exact this⟩
end Go.Ru
