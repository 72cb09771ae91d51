/- Chapter 18's example: what it comes to, as plain numbers. No program. -/
import Derived.Test.YtapdpclgbpgklaaAwake11
import Derived.Test.YtapdpclgbpgklaaBuf4
namespace Go.Proofs.Ytapdpclgbpgklaa
open Go.RowKit

/-- So many steps. -/
def bsRun (c : Cfg) : Nat → List Int × List Int × BS → List Int × List Int × BS
  | 0, x => x
  | k + 1, x => bsStep c (bsRun c k x).1 (bsRun c k x).2.1 (bsRun c k x).2.2

def cD : Cfg := ⟨2, 0, 0, 0, 0, 1, 1, 2, 1, 2, 1, 1⟩

theorem cD_good : Good cD := by decide

def d0D : List Int × List Int × BS := (firstL cD, [], logBS cD 1 1)
def d1D : List Int × List Int × BS := ((bsRun cD 3 d0D).1, (bsRun cD 3 d0D).2.1, logBS cD 2 1)

theorem dw0 : (∀ k, k < 2 → (bsRun cD (k + 1) d0D).2.2.pc.fin = false) ∧ (bsRun cD 3 d0D).2.2.pc.fin = true ∧ (∀ k, k ≤ 3 → (bsRun cD k d0D).2.1.length ≤ 1) := of_decide_eq_true (by kernel_rfl)
theorem dw1 : (bsRun cD 3 d0D).2.1 = [pairI 1 0] := of_decide_eq_true (by kernel_rfl)
theorem dw2 : (∀ k, k < 11 → (bsRun cD (k + 1) d1D).2.2.pc.fin = false) ∧ (bsRun cD 12 d1D).2.2.pc.fin = true ∧ (∀ k, k ≤ 12 → (bsRun cD k d1D).2.1.length ≤ 2) := of_decide_eq_true (by kernel_rfl)
theorem dw3 : (bsRun cD 12 d1D).2.1 = [] := of_decide_eq_true (by kernel_rfl)
theorem dw4 : (heldL cD (bsRun cD 12 d1D).1).length = 2 := of_decide_eq_true (by kernel_rfl)

end Go.Proofs.Ytapdpclgbpgklaa
