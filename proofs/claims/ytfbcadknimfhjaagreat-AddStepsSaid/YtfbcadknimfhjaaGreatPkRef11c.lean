/- The document's packets: facts for the steps that are a stack's. No walk. -/
import Derived.Test.YtfbcadknimfhjaaGreatPkRef11b
namespace Go.Proofs.YtfbcadknimfhjaaGreat
open Go.RowKit

theorem pcN_ne {q : SPc} (h : q.fin = false) : (pcN q == 0) = false ∧ ¬ pcN q = 0 := by cases q <;> simp [pcN, SPc.fin] at h ⊢
theorem fin_done9 {q : SPc} (h : q.fin = true) : q = .done := by cases q <;> simp [SPc.fin] at h ⊢

theorem smStep_len9 (lf : Int → Int) (mem : List Int) (s : SM) : (smStep lf mem s).1.length = mem.length := by
  unfold smStep
  split
  · rfl
  · rfl
  · exact mput_len _ _ _
  · split
    · exact mput_len _ _ _
    · rfl
  · rfl
  · rfl
  · split
    · exact mput_len _ _ _
    · rfl

end Go.Proofs.YtfbcadknimfhjaaGreat
