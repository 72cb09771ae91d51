/- A law's test of a configuration (chapter 11's): walked. -/
import Derived.Test.YtfbcadknimfhjaaPkSmall
namespace Go.Proofs.Ytfbcadknimfhjaa
open Go.RowKit

/-- A truth is told; if it is true, P. -/
def RetB (P : Prop) (e : Ending) : Prop := ∃ v, e = .returned (.bool v) ∧ (v = true → P)

/-- The sum so far. -/
def sumTo (cs : List Int) : Nat → Int
  | 0 => 0
  | k + 1 => sumTo cs k + cs[k]?.getD 0

/-- Numbers from 0 to 6, so far. -/
def SixTo (cs : List Int) (k : Nat) : Prop := ∀ j, j < k → 0 ≤ cs[j]?.getD 0 ∧ cs[j]?.getD 0 ≤ 6

theorem SixTo.sum {cs : List Int} {k : Nat} (h : SixTo cs k) : 0 ≤ sumTo cs k ∧ sumTo cs k ≤ 6 * k := by
  induction k with
  | zero => simp [sumTo]
  | succ k ih =>
    have := ih (fun j hj => h j (by omega))
    have := h k (by omega)
    simp only [sumTo]; omega

/-- A configuration with few cells. -/
def Small (c : Cfg) : Prop := c.c0 ≤ 6 ∧ c.c1 ≤ 6 ∧ c.c2 ≤ 6 ∧ c.c3 ≤ 6 ∧ c.c4 ≤ 6 ∧ c.c0 + c.c1 + c.c2 + c.c3 + c.c4 ≤ 12

end Go.Proofs.Ytfbcadknimfhjaa
