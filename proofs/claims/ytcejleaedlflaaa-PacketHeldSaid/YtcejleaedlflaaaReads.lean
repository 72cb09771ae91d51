/- A slice of one-cell values that a law was handed. Nothing of one law. -/
import Derived.Test.YtcejleaedlflaaaWords
namespace Go.Proofs.Ytcejleaedlflaaa
open Go.ChangeShapes Go.WideShapes Go.ChangeAt Go.RowKit

/-- Values that can be read. -/
def Reads (w : World) (v : Value) (xs : List Value) : Prop :=
  (v = .slice none 0 0 ∧ xs = []) ∨ ∃ ad cap, v = .slice (some ad) xs.length cap ∧ xs.length ≤ cap ∧ cap ≤ maxLen ∧ ∀ i u, xs[i]? = some u → w.cell? (ad.add i) = some u

theorem Reads.kept {w w' : World} {v : Value} {xs : List Value} (h : Reads w v xs) (k : Kept w w') : Reads w' v xs := by
  obtain h1 | ⟨ad, cap, h1, h2, h3, h4⟩ := h
  · exact .inl h1
  · refine .inr ⟨ad, cap, h1, h2, h3, fun i u hu => ?_⟩
    have := h4 i u hu
    rw [Below.cell k (lt_of_cell this)]; exact this

theorem Reads.get {w : World} {v : Value} {xs : List Value} (h : Reads w v xs) {i : Nat} (hi : i < xs.length) : ∃ ad cap, v = .slice (some ad) xs.length cap ∧ xs.length ≤ cap ∧ w.cell? (ad.add i) = xs[i]? := by
  obtain ⟨_, rfl⟩ | ⟨ad, cap, h1, h2, h3, h4⟩ := h
  · simp at hi
  · exact ⟨ad, cap, h1, h2, by rw [h4 i xs[i] (List.getElem?_eq_getElem hi), List.getElem?_eq_getElem hi]⟩

theorem Reads.len_le {w : World} {v : Value} {xs : List Value} (h : Reads w v xs) : xs.length ≤ maxLen := by
  obtain ⟨_, rfl⟩ | ⟨ad, cap, h1, h2, h3, h4⟩ := h
  · simp
  · omega

theorem Reads.form {w : World} {v : Value} {xs : List Value} (h : Reads w v xs) : ∃ ao cap, v = .slice ao xs.length cap := by
  obtain ⟨rfl, rfl⟩ | ⟨ad, cap, h1, h2, h3, h4⟩ := h
  · exact ⟨none, 0, rfl⟩
  · exact ⟨_, _, h1⟩

theorem Words.reads {w : World} {v : Value} {ts : List Int} (h : Words w v ts) : Reads w v (ts.map (Value.int .u64)) := by
  obtain ⟨_, ⟨h1, rfl⟩ | ⟨ad, cap, h1, h2, h3, h4⟩⟩ := h
  · exact .inl ⟨h1, rfl⟩
  · exact .inr ⟨ad, cap, by rw [List.length_map]; exact h1, by rw [List.length_map]; exact h2, h3, h4⟩

theorem words_u8 {n : Int} (h : (Lit.int .u8 n).wf = true) : 0 ≤ n ∧ n ≤ 255 := by
  simp [Lit.wf, IntKind.min, IntKind.max, IntKind.signed, IntKind.bits] at h
  omega

end Go.Proofs.Ytcejleaedlflaaa
