/- Chapter 11's example: what it comes to, as plain numbers. No program. -/
import Derived.Test.YtfbcadknimfhjaaGreatPkE
namespace Go.Proofs.YtfbcadknimfhjaaGreat
open Go.RowKit

/-- The example's configuration. -/
def cA : Cfg := ⟨1, 0, 0, 0, 0, 1, 1, 2, 1, 1, 1, 1⟩

theorem cA_good : Good cA := by decide

/-- The machine that puts 7 and 8. -/
def putA : PM := ⟨.spare, [7, 8], 0, 0, ⟨.popHead, 5, 0, 0, 0⟩⟩
/-- The machine that takes. -/
def takeA : PM := ⟨.last, [], 0, 0, ⟨.popHead, 4, 0, 0, 0⟩⟩

def x0A : List Int × PM := (firstL cA, putA)
def y0A : List Int × PM := ((pmRun cA 9 x0A).1, takeA)

theorem aw1 : ∀ k, k < 8 → (pmRun cA (k + 1) x0A).2.pc.fin = false := of_decide_eq_true (by kernel_rfl)
theorem aw2 : (pmRun cA 9 x0A).2.pc = .done ∧ (pmRun cA 9 x0A).2.p = 1 := of_decide_eq_true (by kernel_rfl)
theorem aw3 : heldL cA (pmRun cA 9 x0A).1 = [7, 8] := of_decide_eq_true (by kernel_rfl)
theorem aw4 : ∀ k, k < 2 → (pmRun cA (k + 1) y0A).2.pc.fin = false := of_decide_eq_true (by kernel_rfl)
theorem aw5 : (pmRun cA 3 y0A).2.pc = .done ∧ (pmRun cA 3 y0A).2.p = 1 := of_decide_eq_true (by kernel_rfl)

end Go.Proofs.YtfbcadknimfhjaaGreat
