/- A slice of pokes that a law was handed. Nothing of one law. -/
import Derived.Test.YtcejleaedlflaaaPkM
import Derived.Deep.SlicePairs
namespace Go.Proofs.Ytcejleaedlflaaa
open Go.ChangeShapes Go.WideShapes Go.ChangeAt Go.RowKit

/-- Pokes that can be read. -/
def Pokes (w : World) (v : Value) (ps : List (Int × Int)) : Prop :=
  (∀ q ∈ ps, (-9223372036854775808 ≤ q.1 ∧ q.1 ≤ 9223372036854775807) ∧ U q.2) ∧ ((v = .slice none 0 0 ∧ ps = []) ∨ ∃ ad cap, v = .slice (some ad) ps.length cap ∧ ps.length ≤ cap ∧ cap ≤ maxLen ∧ ∀ i q, ps[i]? = some q → w.cell? (ad.add (i * 2)) = some (.int .i64 q.1) ∧ w.cell? (ad.add (i * 2 + 1)) = some (.int .u64 q.2))

theorem Pokes.kept {w w' : World} {v : Value} {ps : List (Int × Int)} (h : Pokes w v ps) (k : Kept w w') : Pokes w' v ps := by
  obtain ⟨h0, h1 | ⟨ad, cap, h1, h2, h3, h4⟩⟩ := h
  · exact ⟨h0, .inl h1⟩
  · refine ⟨h0, .inr ⟨ad, cap, h1, h2, h3, fun i q hq => ?_⟩⟩
    obtain ⟨a, b⟩ := h4 i q hq
    exact ⟨by rw [Below.cell k (lt_of_cell a)]; exact a, by rw [Below.cell k (lt_of_cell b)]; exact b⟩

theorem Pokes.form {w : World} {v : Value} {ps : List (Int × Int)} (h : Pokes w v ps) : ∃ ao cap, v = .slice ao ps.length cap := by
  obtain ⟨_, ⟨rfl, rfl⟩ | ⟨ad, cap, h1, _⟩⟩ := h
  · exact ⟨none, 0, rfl⟩
  · exact ⟨_, _, h1⟩

theorem Pokes.get {w : World} {v : Value} {ps : List (Int × Int)} (h : Pokes w v ps) {i : Nat} (hi : i < ps.length) : ∃ ad cap, v = .slice (some ad) ps.length cap ∧ w.cell? (ad.add (i * 2)) = some (.int .i64 ps[i].1) ∧ w.cell? (ad.add (i * 2 + 1)) = some (.int .u64 ps[i].2) := by
  obtain ⟨_, ⟨_, rfl⟩ | ⟨ad, cap, h1, h2, h3, h4⟩⟩ := h
  · simp at hi
  · obtain ⟨a, b⟩ := h4 i ps[i] (List.getElem?_eq_getElem hi)
    exact ⟨ad, cap, h1, a, b⟩

theorem Pokes.at {w : World} {v : Value} {ps : List (Int × Int)} (h : Pokes w v ps) {i : Nat} (hi : i < ps.length) : ∃ sb so cap, v = .slice (some ⟨sb, so, none⟩) ps.length cap ∧ sb < w.heap.size ∧ w.cell? ⟨sb, so + i * 2, none⟩ = some (.int .i64 ps[i].1) ∧ w.cell? ⟨sb, so + i * 2 + 1, none⟩ = some (.int .u64 ps[i].2) := by
  obtain ⟨_, ⟨_, rfl⟩ | ⟨⟨sb, so, spot⟩, cap, h1, _, _, h4⟩⟩ := h
  · simp at hi
  obtain ⟨h2, h3⟩ := h4 i ps[i] (List.getElem?_eq_getElem hi)
  have h0 := (h4 0 ps[0] (List.getElem?_eq_getElem (by omega))).1
  have hspot : spot = none := World.cell?_spot h0
  subst hspot
  rw [Go.WideShapes.add_plain] at h2 h3
  exact ⟨sb, so, cap, h1, lt_of_cell h2, h2, by rw [Nat.add_assoc]; exact h3⟩

set_option maxRecDepth 100000 in
theorem open_pokes {H : Type} {enc : TypeId × Value → H} {W : World} {v : Value} {d : DataW H} {p : List MemPlace} {held : Bool} (hv : Value.okWide Try.prog W .any 0 26 v) (h : DataW.Trod enc Try.prog W 0 (fun _ => true) held 26 v d p) : ∃ ps, Pokes W v ps := by
  obtain ⟨a0, len, cap, rfl⟩ := okWide_slice Try.underlying26 hv
  obtain ⟨fuel, hf⟩ := h
  rcases Go.Deep.open_slice_pairs Try.underlying26 Try.underlying42 (by kernel_rfl) rfl rfl (by kernel_rfl) (by kernel_rfl) hf with ⟨hcs, hx⟩ | ⟨a, len', cap', m, n, V0, V1, D0, D1, P0, P1, hcs, _, hl, hm, hmm, hx, hall⟩
  · refine ⟨[], (fun x hx => by cases hx), .inl ⟨?_, rfl⟩⟩
    simpa [Value.cells] using hcs
  · simp [Value.cells] at hcs
    obtain ⟨rfl, rfl, rfl⟩ := hcs
    simp only [if_true] at hmm
    subst hmm
    have h0 : ∀ i, i < len → V0 i = .int .i64 (intOf (V0 i)) ∧ (Lit.int .i64 (intOf (V0 i))).wf = true := fun i hi => by
      obtain ⟨n, h1, _, h3⟩ := DataW.trod_int Try.underlying3 (hall i (by omega)).2.2.1
      simp only [List.cons.injEq, and_true] at h1
      rw [h1]
      exact ⟨rfl, h3⟩
    have h1 : ∀ i, i < len → V1 i = .int .u64 (intOf (V1 i)) ∧ (Lit.int .u64 (intOf (V1 i))).wf = true := fun i hi => by
      obtain ⟨n, h1, _, h3⟩ := DataW.trod_int Try.underlying39 (hall i (by omega)).2.2.2
      simp only [List.cons.injEq, and_true] at h1
      rw [h1]
      exact ⟨rfl, h3⟩
    refine ⟨(List.range len).map fun i => (intOf (V0 i), intOf (V1 i)), fun q hq => ?_, .inr ⟨a, m, by simp, by simpa using hl, hm, fun i q hq => ?_⟩⟩
    · simp only [List.mem_map, List.mem_range] at hq
      obtain ⟨i, hi, rfl⟩ := hq
      exact ⟨bounds_i64 (h0 i hi).2, words_u64 (h1 i hi).2⟩
    · have hi : i < len := by
        rcases Nat.lt_or_ge i len with h' | h'
        · exact h'
        · rw [List.getElem?_eq_none (by simpa using h')] at hq; cases hq
      rw [List.getElem?_map, List.getElem?_range hi] at hq
      simp at hq
      subst hq
      have hc := hall i (by omega)
      exact ⟨by rw [hc.1, (h0 i hi).1]; rfl, by rw [hc.2.1, (h1 i hi).1]; rfl⟩

end Go.Proofs.Ytcejleaedlflaaa
