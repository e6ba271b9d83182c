/-
  The statements' head: shown of runnellaw5. No statement of the seat is proved here.
-/
import Derived.Test.YtbcngegcpdppfaaGreatDoorRead
import Derived.KernelRfl
namespace Go.Proofs.YtbcngegcpdppfaaGreatDoor
open Go.AE Go.Ru
set_option maxRecDepth 100000
set_option pp.maxSteps 3000

theorem sh1 : exprRS [49, 43, 50, 42, 120] = .ok [⟨20, 1, 0, [], []⟩, ⟨20, 2, 2, [], []⟩, ⟨22, 0, 4, [120], []⟩, ⟨27, 0, 3, [42], [1, 2]⟩, ⟨27, 0, 1, [43], [0, 3]⟩] 4 0 := by
  kernel_rfl
theorem sh2 : exprRS [40, 49] = .bad 2 2 := by kernel_rfl
theorem sh3 : exprRS [49, 32, 50] = .bad 2 2 := by kernel_rfl
theorem sh4 : proS [112, 114, 111, 99, 32, 102, 40, 41, 32, 123, 32, 120, 32, 61, 32, 59, 32, 125] = .bad 15 2 := by kernel_rfl

def gS : AG := gput 9 (cTop proS) (gput 13 (cTop exprRS) g0)
theorem gS_ok : GOk Tryz.prog gS := gput_ok Program_ok (gput_ok Expr_ok g0_ok)
def cShown : AC := fun args K k => args = [] ∧ k (.ret (.p (.bool true))) K
theorem shown_ok : COk 8 cShown := by
  rintro args K k ⟨rfl, hk⟩
  refine frame0P gS_ok 19 rfl fun Q hr => ?_
  conv => whnf
  refine ⟨[49, 43, 50, 42, 120], rfl, by decide, ?_⟩
  rw [sh1]
  conv => whnf
  refine ⟨[40, 49], rfl, by decide, ?_⟩
  rw [sh2]
  conv => whnf
  refine ⟨[49, 32, 50], rfl, by decide, ?_⟩
  rw [sh3]
  conv => whnf
  refine ⟨_, rfl, by decide, ?_⟩
  rw [sh4]
  conv => whnf
  repeat
    (refine ⟨⟨by decide, by decide, rfl⟩, ?_⟩
     conv => whnf)
  exact hr _ _ rfl hk
end Go.Proofs.YtbcngegcpdppfaaGreatDoor
