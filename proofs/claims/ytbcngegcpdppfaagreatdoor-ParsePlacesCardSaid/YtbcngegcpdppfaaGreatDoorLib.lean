/-
  Library functions as the layer AE meets them: by the shelf's contracts. No statement of the seat is proved here.
-/
import Derived.Test.YtbcngegcpdppfaaGreatDoorAeTab
import Derived.Test.YtbcngegcpdppfaaGreatDoorAeKit2
import Derived.Test.YtbcngegcpdppfaaGreatDoorShelf
import Derived.Test.YtbcngegcpdppfaaGreatDoorChecked
namespace Go.Proofs.YtbcngegcpdppfaaGreatDoor
open Go.AE Go.RowKit
set_option maxRecDepth 100000

theorem w64 {n : Int} (h : -9223372036854775808 ≤ n ∧ n ≤ 9223372036854775807) : IntKind.i64.wrap n = n := by rw [IntKind.wrap_i64]; omega

/-! ### contracts laid over functions -/
abbrev AC := List AV → List ABlk → (AO → List ABlk → Prop) → Prop
def gput (f : FuncId) (c : AC) (G : AG) : AG := fun g => match Nat.beq g f with
  | true => some c
  | false => G g
def g0 : AG := fun _ => none
def COk (f : FuncId) (c : AC) : Prop := ∀ args K k, c args K k → ACalls Tryz.prog f args K k
theorem g0_ok : GOk Tryz.prog g0 := fun f g h => by simp [g0] at h
theorem gput_ok {f : FuncId} {c : AC} {G : AG} (hc : COk f c) (hG : GOk Tryz.prog G) : GOk Tryz.prog (gput f c G) := fun h g hg => by
  unfold gput at hg
  split at hg
  · rename_i e
    have := Nat.eq_of_beq_eq_true e
    subst this
    injection hg with hg
    subst hg
    exact hc
  · exact hG h g hg

theorem call_ok {G : AG} (hG : GOk Tryz.prog G) (n : Nat) (f : FuncId) (args : List AV) (K : List ABlk) (k : AO → List ABlk → Prop) (h : acall1 T0 G n f args K k) : ACalls Tryz.prog f args K k :=
  acall1_ok tabOk (Checked.mixed Tryz.checked) hG n f args K k h

/-- a contract in the kit's words, which turns nothing that was there -/
theorem ACalls.lib {f : FuncId} {args : List AV} {K : List ABlk} {k : AO → List ABlk → Prop} (he : Ent Tryz.prog f)
    (h : ∀ w m Args, St w m (hp K) → VL w m args Args → Calls Tryz.prog f Args w fun e w' => ∃ v u, e = .returned u ∧ Below w.heap.size w w' ∧ V w' m v u ∧ k (.ret v) K) : ACalls Tryz.prog f args K k :=
  ⟨he, fun w m Args hS hV => (h w m Args hS hV).mono fun e w' ⟨v, u, h1, h2, h3, h4⟩ => by
    subst h1
    exact ⟨m, v, K, Tr.below hS.Ilt h2, hS.below h2, h3, h4⟩⟩
theorem ent {f : FuncId} {fn : Func} (h : Tf.get f = some fn) (hb : fn.body.isSome = true) : Ent Tryz.prog f := by
  obtain ⟨h1, h2⟩ := tabOk.f f fn h
  exact ⟨fn, h1, h2, hb⟩

theorem vl1 {w : World} {m : Mp} {a : AV} {A : Array Value} (h : VL w m [a] A) : ∃ u, A = #[u] ∧ V w m a u := by
  obtain ⟨h1, h2⟩ := h
  have hs : A.size = 1 := h1.symm
  refine ⟨A[0], ?_, h2 0 (by simp) (by omega)⟩
  apply Array.ext
  · simp [hs]
  · intro i hi hi'
    have : i = 0 := by simp at hi'; omega
    subst this; rfl
theorem vl2 {w : World} {m : Mp} {a b : AV} {A : Array Value} (h : VL w m [a, b] A) : ∃ u v, A = #[u, v] ∧ V w m a u ∧ V w m b v := by
  obtain ⟨h1, h2⟩ := h
  have hs : A.size = 2 := h1.symm
  refine ⟨A[0], A[1], ?_, h2 0 (by simp) (by omega), h2 1 (by simp) (by omega)⟩
  apply Array.ext
  · simp [hs]
  · intro i hi hi'
    have : i = 0 ∨ i = 1 := by simp at hi'; omega
    rcases this with rfl | rfl <;> rfl
theorem v_str {w : World} {m : Mp} {l : List UInt8} {u : Value} (h : V w m (.p (.str l)) u) : ∃ s : ByteArray, u = .string s ∧ s.data.toList = l := by
  cases h with
  | p _ _ h => cases h with
    | str s l hl => exact ⟨s, rfl, hl⟩
theorem v_int {w : World} {m : Mp} {q : IntKind} {n : Int} {u : Value} (h : V w m (.p (.int q n)) u) : u = .int q n := by
  cases h with
  | p _ _ h => cases h; rfl
theorem size_of {s : ByteArray} {l : List UInt8} (h : s.data.toList = l) : s.size = l.length := by
  subst h; exact Array.length_toList.symm
theorem below_same (w : World) : Below w.heap.size w w := Below.refl _ _

def cIndexByte : AC := fun args K k => ∃ l c, args = [.p (.str l), .p (.int .u8 c)] ∧ k (.ret (.p (.int .i64 (Lib.indexByte l c.toNat.toUInt8)))) K
theorem indexByte_ok : COk 28 cIndexByte := by
  rintro args K k ⟨l, c, rfl, hk⟩
  refine ACalls.lib (ent rfl rfl) fun w m Args hS hV => ?_
  obtain ⟨u, v, rfl, h1, h2⟩ := vl2 hV
  obtain ⟨s, rfl, rfl⟩ := v_str h1
  obtain rfl := v_int h2
  exact (Tryz.strings_IndexByte s c w).mono fun e w' ⟨h3, h4⟩ => ⟨_, _, h3, by rw [h4]; exact below_same w, .p _ _ (.int ..), hk⟩

def cContains : AC := fun args K k => ∃ a b, args = [.p (.str a), .p (.str b)] ∧ a.length < 4294967281 ∧ k (.ret (.p (.bool (Lib.contains a b)))) K
theorem contains_ok : COk 65 cContains := by
  rintro args K k ⟨a, b, rfl, hl, hk⟩
  refine ACalls.lib (ent rfl rfl) fun w m Args hS hV => ?_
  obtain ⟨u, v, rfl, h1, h2⟩ := vl2 hV
  obtain ⟨s, rfl, rfl⟩ := v_str h1
  obtain ⟨t, rfl, rfl⟩ := v_str h2
  obtain ⟨n, hn⟩ := hS.gl.facts.maxLen
  exact (Tryz.strings_Contains s t n w (by rw [size_of rfl]; exact hl) hn).mono fun e w' ⟨h3, h4⟩ => ⟨_, _, h3, by rw [h4]; exact below_same w, .p _ _ (.bool ..), hk⟩

/-- the number, and whether there was none -/
def atoiV : Lib.NumEnd Int → List UInt8 → AV
  | .ok v, _ => .tup [.p (.int .i64 v), .p .nili]
  | .range, l => .tup [.p (.int .i64 (Lib.atoiSat l)), .iface 125 .junk]
  | _, _ => .tup [.p (.int .i64 0), .iface 125 .junk]
def cAtoi : AC := fun args K k => ∃ l, args = [.p (.str l)] ∧ l.length < 1000000 ∧ k (.ret (atoiV (Lib.atoiAll l) l)) K
theorem tup2 {w : World} {m : Mp} {a b : AV} {u v : Value} (h1 : V w m a u) (h2 : V w m b v) : V w m (.tup [a, b]) (.tuple #[u, v]) :=
  .tup _ _ rfl fun j hj hj' => by
    rcases j with _ | _ | j
    · exact h1
    · exact h2
    · simp at hj; omega
theorem atoi_ok : COk 61 cAtoi := by
  rintro args K k ⟨l, rfl, hl, hk⟩
  refine ACalls.lib (ent rfl rfl) fun w m Args hS hV => ?_
  obtain ⟨u, rfl, h1⟩ := vl1 hV
  obtain ⟨s, rfl, rfl⟩ := v_str h1
  have hs := size_of (s := s) rfl
  cases ha : Lib.atoiAll s.data.toList with
  | ok v =>
    rw [ha] at hk
    refine (Tryz.strconv_Atoi_ok s (by omega) v ha w).mono fun e w' ⟨h3, h4⟩ => ⟨_, _, h3, ?_, tup2 (.p _ _ (.int ..)) (.p _ _ .nili), hk⟩
    rcases h4 with rfl | ⟨t, rfl⟩
    · exact below_same _
    · exact bytesWorld_below _ _ _
  | range =>
    rw [ha] at hk
    obtain ⟨ev, h5, h6⟩ := hS.gl.facts.errRange
    exact (Tryz.strconv_Atoi_range s (by omega) ha ev w h5 h6).mono fun e w' ⟨N, h3, _, _, h4⟩ => ⟨_, _, h3, h4, tup2 (.p _ _ (.int ..)) (.iface _ _ _ (.junk _)), hk⟩
  | _ =>
    rw [ha] at hk
    obtain ⟨ev, h5, h6⟩ := hS.gl.facts.errSyntax
    exact (Tryz.strconv_Atoi_syntax s (by omega) ⟨fun v e => (by rw [ha] at e; cases e), fun e => (by rw [ha] at e; cases e)⟩ ev w h5 h6).mono fun e w' ⟨N, h3, _, _, h4⟩ => ⟨_, _, h3, h4, tup2 (.p _ _ (.int ..)) (.iface _ _ _ (.junk _)), hk⟩

theorem grow_below (w : World) (n : Nat) (os : Array Obj) : Below w.heap.size w (Sort.grow (w.drewN n) os) :=
  ⟨rfl, rfl, rfl, by simp [Sort.grow], fun j hj => by simp [Sort.grow, Array.getElem?_append, hj]⟩
def cItoa : AC := fun args K k => ∃ n, args = [.p (.int .i64 n)] ∧ -9223372036854775808 ≤ n ∧ n ≤ 9223372036854775807 ∧ k (.ret (.p (.str (Lib.itoa n)))) K
theorem itoa_ok : COk 64 cItoa := by
  rintro args K k ⟨n, rfl, h0, h1, hk⟩
  refine ACalls.lib (ent rfl rfl) fun w m Args hS hV => ?_
  obtain ⟨u, rfl, h2⟩ := vl1 hV
  obtain rfl := v_int h2
  exact (Tryz.strconv_Itoa n h0 h1 w hS.gl.facts.pow10).mono fun e w' ⟨h3, j, os, h4⟩ => ⟨_, _, h3, by rw [h4]; exact grow_below w j os, .p _ _ (.str _ _ rfl), hk⟩
end Go.Proofs.YtbcngegcpdppfaaGreatDoor
