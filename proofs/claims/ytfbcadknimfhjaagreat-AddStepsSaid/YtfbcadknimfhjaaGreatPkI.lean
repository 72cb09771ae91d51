/- Chapter 13's example: what it comes to, as plain numbers. No program. -/
import Derived.Test.YtfbcadknimfhjaaGreatPkF
import Derived.Test.YtfbcadknimfhjaaGreatPkH
namespace Go.Proofs.YtfbcadknimfhjaaGreat
open Go.RowKit

/-- The example's configuration. -/
def cB : Cfg := ⟨2, 0, 0, 0, 0, 1, 1, 2, 1, 1, 1, 1⟩

theorem cB_good : Good cB := by decide

def b0B : List Int × AM := (firstL cB, newAM cB 0 5)
def b1B : List Int × AM := ((amRun cB 0 19 b0B).1, newAM cB 0 6)
def b2B : List Int × AM := ((amRun cB 0 19 b1B).1, newAM cB 0 7)

theorem bw0 : (∀ k, k < 3 → (amRun cB 0 (k + 1) b0B).2.pc.fin = false) ∧ (amRun cB 0 4 b0B).2.pc.fin = true := of_decide_eq_true (by kernel_rfl)
theorem bw1 : (∀ k, k < 3 → (amRun cB 0 (k + 1) b1B).2.pc.fin = false) ∧ (amRun cB 0 4 b1B).2.pc.fin = true := of_decide_eq_true (by kernel_rfl)
theorem bw2 : (∀ k, k < 9 → (amRun cB 0 (k + 1) b2B).2.pc.fin = false) ∧ (amRun cB 0 10 b2B).2.pc.fin = true := of_decide_eq_true (by kernel_rfl)
theorem bw3 : heldL cB (amRun cB 0 19 b2B).1 = [7] ∧ (amRun cB 0 19 b2B).2.spilled = true := of_decide_eq_true (by kernel_rfl)

/-- How many steps. -/
theorem am_count {c : Cfg} {i : Int} {x : List Int × AM} {N K : Nat} (h : (∀ k, k < N → (amRun c i (k + 1) x).2.pc.fin = false) ∧ (amRun c i (N + 1) x).2.pc.fin = true) (hN : N < 19) (h1 : 1 ≤ K) (h3 : ∀ k, 1 ≤ k → k < K → (amRun c i k x).2.pc.fin = false) (h4 : K < 20 → (amRun c i K x).2.pc.fin = true) : K = N + 1 := by
  rcases Nat.lt_trichotomy K (N + 1) with hk | hk | hk
  · have a := h.1 (K - 1) (by omega)
    rw [show K - 1 + 1 = K from by omega] at a
    have b := h4 (by omega)
    rw [a] at b; cases b
  · exact hk
  · have a := h3 (N + 1) (by omega) hk
    rw [a] at h
    exact absurd h.2 (by simp)

end Go.Proofs.YtfbcadknimfhjaaGreat
