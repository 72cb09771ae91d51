/- What a law's row wants: a configuration by value; arguments that read as they did. Nothing of one law. -/
import Derived.Test.YtfbcadknimfhjaaGreatRows
import Derived.Test.YtfbcadknimfhjaaGreatPkA
import Derived.ProofKit
namespace Go.Proofs.YtfbcadknimfhjaaGreat
open Go.ChangeShapes Go.WideShapes Go.ChangeAt Go.RowKit

theorem Tryz.own : ownKnob Tryz.prog.godebug = none := by kernel_rfl
theorem Tryz.laidOut : laidOutB Tryz.prog = true := by kernel_rfl

theorem list12 {α : Type} (l : List α) (h : l.length = 12) : ∃ a b c d e f g i j k m n, l = [a, b, c, d, e, f, g, i, j, k, m, n] := by
  match l, h with
  | [a, b, c, d, e, f, g, i, j, k, m, n], _ => exact ⟨a, b, c, d, e, f, g, i, j, k, m, n, rfl⟩

theorem cell_int {P : Program} {w : World} {r : Reach} {base t : Nat} {k : IntKind} {v : Value} (ht : P.underlying t = some (.int k)) (h : Cell.okWide P w r base t v) : ∃ n, v = .int k n :=
  okWide_int (P := P) (w := w) (r := r) (base := base) ht (by unfold Value.okWide; rw [ht]; exact h)

set_option maxRecDepth 100000 in
/-- A configuration by value is twelve numbers. -/
theorem open_cfg {W : World} {base : Nat} {v : Value} (h : Value.okWide Tryz.prog W .any base 24 v) :
    ∃ a b c d e f g i j k m n : Int, v = .agg #[.int .i64 a, .int .i64 b, .int .i64 c, .int .i64 d, .int .i64 e, .int .i64 f, .int .i64 g, .int .i64 i, .int .i64 j, .int .i64 k, .int .i64 m, .int .i64 n] := by
  unfold Value.okWide at h
  rw [Tryz.underlying24] at h
  obtain ⟨cs, rfl, hs, ts, hts, _, hc⟩ := h
  have h12 : Tryz.prog.cellsOf 24 = 12 := by kernel_rfl
  have htt : Tryz.prog.cellTypes Tryz.prog.depth 24 = some [3, 3, 3, 3, 3, 3, 3, 3, 3, 3, 3, 3] := by kernel_rfl
  rw [htt] at hts
  cases hts
  rw [h12] at hs
  have all : ∀ i v, i < 12 → cs[i]? = some v → ∃ n, v = .int .i64 n := by
    intro i v hi hv
    obtain ⟨u, hu, hok⟩ := hc i v hv
    have hu' : u = 3 := by
      have : i % 12 = i := Nat.mod_eq_of_lt hi
      simp only [List.length_cons, List.length_nil, Nat.zero_add, Nat.reduceAdd, this] at hu
      have : i = 0 ∨ i = 1 ∨ i = 2 ∨ i = 3 ∨ i = 4 ∨ i = 5 ∨ i = 6 ∨ i = 7 ∨ i = 8 ∨ i = 9 ∨ i = 10 ∨ i = 11 := by omega
      rcases this with rfl | rfl | rfl | rfl | rfl | rfl | rfl | rfl | rfl | rfl | rfl | rfl <;> (simp at hu; exact hu.symm)
    subst hu'
    exact cell_int Tryz.underlying3 hok
  obtain ⟨l⟩ := cs
  obtain ⟨x0, x1, x2, x3, x4, x5, x6, x7, x8, x9, x10, x11, rfl⟩ := list12 l (by simpa using hs)
  obtain ⟨n0, rfl⟩ := all 0 x0 (by omega) rfl
  obtain ⟨n1, rfl⟩ := all 1 x1 (by omega) rfl
  obtain ⟨n2, rfl⟩ := all 2 x2 (by omega) rfl
  obtain ⟨n3, rfl⟩ := all 3 x3 (by omega) rfl
  obtain ⟨n4, rfl⟩ := all 4 x4 (by omega) rfl
  obtain ⟨n5, rfl⟩ := all 5 x5 (by omega) rfl
  obtain ⟨n6, rfl⟩ := all 6 x6 (by omega) rfl
  obtain ⟨n7, rfl⟩ := all 7 x7 (by omega) rfl
  obtain ⟨n8, rfl⟩ := all 8 x8 (by omega) rfl
  obtain ⟨n9, rfl⟩ := all 9 x9 (by omega) rfl
  obtain ⟨n10, rfl⟩ := all 10 x10 (by omega) rfl
  obtain ⟨n11, rfl⟩ := all 11 x11 (by omega) rfl
  exact ⟨_, _, _, _, _, _, _, _, _, _, _, _, rfl⟩

end Go.Proofs.YtfbcadknimfhjaaGreat
