/- Chapter 15's example: what it comes to, as plain numbers. No program. -/
import Derived.Test.YtapdpclgbpgklaaGreatPkSeek5
import Derived.Test.YtapdpclgbpgklaaGreatPkI
namespace Go.Proofs.YtapdpclgbpgklaaGreat
open Go.RowKit

/-- So many steps. -/
def skRun (c : Cfg) : Nat → List Int × KS → List Int × KS
  | 0, x => x
  | k + 1, x => skStep c (skRun c k x).1 (skRun c k x).2

def g0K : List Int × KS := (firstL cB, newKS cB 0 0 0 0 0)

theorem gw0 : (∀ k, k < 4 → (skRun cB (k + 1) g0K).2.pc.fin = false) ∧ (skRun cB 5 g0K).2.pc.fin = true ∧ (skRun cB 5 g0K).2.found = false := of_decide_eq_true (by kernel_rfl)

theorem vict_ex : victim 3 1 4 = 2 ∧ victim 1 0 5 = -1 := by decide

end Go.Proofs.YtapdpclgbpgklaaGreat
