/-
  AE, part 0: what is known of the package variables that library functions read. No statement of the seat is proved here.
-/
import Derived.Test.YtbcngegcpdppfaaGreatDoorProg
import Derived.Lib.LaidTab
import Derived.Lib.ItoaNum
namespace Go.AE
open Go.Proofs

/-- the blocks of these variables -/
def isG (b : Nat) : Prop := False
  ∨ b = 0
  ∨ b = 1
  ∨ b = 2
  ∨ b = 3

/-- what they hold -/
structure GFacts (w : World) : Prop where
  tr : True
  maxLen : ∃ n, w.cell? ⟨0, 0, none⟩ = some (.int .i64 n)
  errSyntax : ∃ v, w.cell? ⟨1, 0, none⟩ = some v ∧ (v = .nilIface ∨ ∃ te pe, v = .iface te pe)
  errRange : ∃ v, w.cell? ⟨2, 0, none⟩ = some v ∧ (v = .nilIface ∨ ∃ te pe, v = .iface te pe)
  pow10 : Lib.TabIs Tryz.prog w "internal/strconv.uint64pow10" .u64 Lib.pow10Tab

theorem cell?_same {w w' : World} {b o : Nat} (h : w'.heap[b]? = w.heap[b]?) : w'.cell? ⟨b, o, none⟩ = w.cell? ⟨b, o, none⟩ := by
  simp [World.cell?, h]
theorem pow10_named : Tryz.prog.globalNamed "internal/strconv.uint64pow10" = some 3 := by kernel_rfl
theorem GFacts.same {w w' : World} (h : GFacts w) (hs : ∀ b, isG b → w'.heap[b]? = w.heap[b]?) : GFacts w' where
  tr := trivial
  maxLen := by rw [cell?_same (hs _ (by simp [isG]))]; exact h.maxLen
  errSyntax := by rw [cell?_same (hs _ (by simp [isG]))]; exact h.errSyntax
  errRange := by rw [cell?_same (hs _ (by simp [isG]))]; exact h.errRange
  pow10 := by
    have e := hs 3 (by simp [isG])
    have := h.pow10
    simp only [Lib.TabIs, World.var?, pow10_named, Option.bind_some, e] at this ⊢
    exact this

/-- the variables' blocks are among those to which nobody writes, and hold what they must -/
structure Gl (w : World) (I : Nat → Prop) : Prop where
  imm : ∀ b, isG b → I b
  facts : GFacts w
theorem Gl.mono {w w' : World} {I I' : Nat → Prop} (hI : ∀ b, I b → I' b) (hs : ∀ b, I b → w'.heap[b]? = w.heap[b]?) (h : Gl w I) : Gl w' I' :=
  ⟨fun b hb => hI b (h.imm b hb), h.facts.same fun b hb => hs b (h.imm b hb)⟩
end Go.AE
