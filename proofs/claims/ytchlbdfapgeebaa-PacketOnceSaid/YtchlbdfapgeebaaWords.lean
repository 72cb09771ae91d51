/- A slice of words that a law was handed. Nothing of one law. -/
import Derived.Test.YtchlbdfapgeebaaRow
import Derived.Test.YtchlbdfapgeebaaCell
import Derived.OpenShut
namespace Go.Proofs.Ytchlbdfapgeebaa
open Go.ChangeShapes Go.WideShapes Go.ChangeAt Go.RowKit

theorem lt_of_cell {w : World} {a : Addr} {v : Value} (h : w.cell? a = some v) : a.block < w.heap.size := by
  unfold World.cell? at h
  split at h
  · next he => exact lt_of_block he
  · cases h

/-- Words that can be read. -/
def Words (w : World) (v : Value) (ts : List Int) : Prop :=
  (∀ x ∈ ts, U x) ∧ ((v = .slice none 0 0 ∧ ts = []) ∨ ∃ ad cap, v = .slice (some ad) ts.length cap ∧ ts.length ≤ cap ∧ cap ≤ maxLen ∧ ∀ i u, (ts.map (Value.int .u64))[i]? = some u → w.cell? (ad.add i) = some u)

theorem Words.kept {w w' : World} {v : Value} {ts : List Int} (h : Words w v ts) (k : Kept w w') : Words w' v ts := by
  obtain ⟨h0, h1 | ⟨ad, cap, h1, h2, h3, h4⟩⟩ := h
  · exact ⟨h0, .inl h1⟩
  · refine ⟨h0, .inr ⟨ad, cap, h1, h2, h3, fun i u hu => ?_⟩⟩
    have := h4 i u hu
    rw [Below.cell k (lt_of_cell this)]; exact this

theorem words_u64 {n : Int} (h : (Lit.int .u64 n).wf = true) : U n := by
  have := bounds_u64 h
  unfold U; omega

set_option maxRecDepth 100000 in
theorem open_words {H : Type} {enc : TypeId × Value → H} {W : World} {v : Value} {d : DataW H} {p : List MemPlace} {held : Bool} (hv : Value.okWide Try.prog W .any 0 34 v) (h : DataW.Trod enc Try.prog W 0 (fun _ => true) held 34 v d p) : ∃ ts, Words W v ts := by
  obtain ⟨a0, len, cap, rfl⟩ := okWide_slice Try.underlying34 hv
  obtain ⟨fuel, hf⟩ := h
  rcases open_ints Try.underlying34 Try.underlying42 (by kernel_rfl) hf with ⟨hcs, hx⟩ | ⟨a, len', cap', zs, hcs, _, hl, hm, hz, hx, hcell, hwz⟩
  · refine ⟨[], (fun x hx => by cases hx), .inl ⟨?_, rfl⟩⟩
    simpa [Value.cells] using hcs
  · simp [Value.cells] at hcs
    obtain ⟨rfl, rfl, rfl⟩ := hcs
    simp only [if_true] at hz
    have hln : (zs.take len).length = len := by simp; omega
    refine ⟨zs.take len, fun x hx => words_u64 (hwz x (List.mem_of_mem_take hx)), .inr ⟨a, cap, by rw [hln], by rw [hln]; exact hl, hm, fun i u hu => ?_⟩⟩
    rw [List.getElem?_map] at hu
    rcases Nat.lt_or_ge i len with hi | hi
    · have hi' : i < zs.length := by omega
      rw [List.getElem?_take, if_pos hi, List.getElem?_eq_getElem hi'] at hu
      simp at hu; subst hu
      rw [hcell i hi']
      simp [List.getD, List.getElem?_eq_getElem hi']
    · rw [List.getElem?_eq_none (by omega)] at hu; cases hu

end Go.Proofs.Ytchlbdfapgeebaa
